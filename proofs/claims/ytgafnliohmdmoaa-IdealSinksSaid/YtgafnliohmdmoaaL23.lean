/- OUR OWN LOGIC OVER THE KIT'S. 23: from a contract of the kit's that hands back a new slice, to ours; a map as the kit has it. Nothing of the program stands here. -/
import Derived.Test.YtgafnliohmdmoaaL22
import Derived.Maps.Own
import Derived.Sort.KeysCollected
namespace Go.Proofs.Ytgafnliohmdmoaa
open Go.RowKit Go.Maps
set_option linter.unusedSimpArgs false

theorem Rel.row {lo nx : Nat} {H : AH} {W w' : World} (hr : Rel lo H nx W) (hb : Below W.heap.size W w') {e : TypeId} {k : Nat} {v : Value} {n : Nat} {xs : List Value} (hrow : w'.ownsRow W.heap.size e k v n xs) :
    ∃ H' own, Rel lo H' w'.heap.size w' ∧ SlA w'.heap.size H' k v n xs own ∧ (own = 0 ∨ nx < own) ∧ Kp (fun _ => False) nx H H' := by
  have hs := hb.size
  have hns := hr.nx_size
  have hln := hr.lo_nx
  have same : ∀ b, b < nx → w'.heap[b]? = W.heap[b]? := fun b h => hb.block b (by omega)
  have base : Rel lo { H with d := none } w'.heap.size w' := ⟨by omega, Nat.le_refl _, fun b o u h => by
      obtain ⟨h1, h2, h3⟩ := hr.c b o u h
      exact ⟨by omega, by rw [World.cell?_of_block (a := ⟨b, o, none⟩) (same b h1)]; exact h2, fun hl => by rw [World.frozen?_of_block (a := ⟨b, o, none⟩) (same b h1)]; exact h3 hl⟩, fun b ob h => by
      obtain ⟨h1, h2, h3⟩ := hr.o b ob h
      exact ⟨by omega, by rw [same b h1]; exact h2, h3⟩, fun b e n h => by
      obtain ⟨h1, h2, cs, h3, h4⟩ := hr.t b e n h
      exact ⟨by omega, h2, cs, by rw [same b h1]; exact h3, h4⟩, fun k h => by cases h⟩
  obtain ⟨hl, hv⟩ := hrow
  rcases hv with ⟨rfl, rfl⟩ | ⟨g, cap, cur, rfl, hg, hgb, hn, hcap, hsz, hx⟩
  · have : xs = [] := List.eq_nil_of_length_eq_zero (by simpa using hl)
    subst this
    exact ⟨_, 0, base, SlA.nil _ _ _, .inl rfl, fun _ _ _ => ⟨fun _ => rfl, rfl, rfl⟩⟩
  · have hgl : g < w'.heap.size := (Array.getElem?_eq_some_iff.1 hgb).1
    refine ⟨AH.new { H with d := none } g cur e, g + 1, ⟨by omega, Nat.le_refl _, fun b o u h => ?_, fun b ob h => ?_, fun b e' n' h => ?_, fun k h => by cases h⟩, ?_, .inr (by omega), fun b hb' _ => ?_⟩
    · simp only [AH.new] at h
      split at h
      · rename_i hbg
        subst hbg
        exact ⟨hgl, by simp only [World.cell?, hgb]; simpa using h, fun _ => by simp [World.frozen?, hgb]⟩
      · exact base.c b o u h
    · simp only [AH.new] at h
      split at h
      · cases h
      · exact base.o b ob h
    · simp only [AH.new] at h
      split at h
      · rename_i hbg
        subst hbg
        simp only [Option.some.injEq, Prod.mk.injEq] at h
        obtain ⟨rfl, rfl⟩ := h
        exact ⟨hgl, by omega, cur, hgb, rfl⟩
      · exact base.t b e' n' h
    · refine (SlA.ofNew (H := { H with d := none }) (k := g) (cs := cur) (e := e) (cap := cap) hl hn hcap (Nat.le_of_eq hsz.symm) (fun j hj => ?_)).bound (by omega)
      rw [← hx, List.getElem?_take_of_lt hj, Array.getElem?_toList]
    · exact ⟨fun o => by simp only [AH.new]; rw [if_neg (by omega)], by simp only [AH.new]; rw [if_neg (by omega)], by simp only [AH.new]; rw [if_neg (by omega)]⟩

/-- A map of ours is one of the kit's: whatever its values are. -/
def anyR (_ : Value) : Option (DataW Unit × List MemPlace) := some (.nil, [])
theorem ownsMap_of {α β : Type} [DecidableEq α] {P : Program} {kt m : Nat} {ek : α → Value} {ev : β → Value} {ob : Obj} {l : List (α × β)} {W : World} (hob : W.heap[m]? = some ob) (hM : MapA ek ev ob l) (hinj : ∀ x y, ek x = ek y → x = y) (kl : α → Lit) (hk : ∀ p ∈ l, keyOf P kt (ek p.1) = some (kl p.1)) (hl : l.length ≤ maxLen) :
    ∃ D : DataW Unit, W.ownsMap P kt anyR m l.length D ∧ Maps.size D = l.length ∧ ∃ es, D = .map es ∧ (es.map (·.1)).Perm (l.map fun p => kl p.1) := by
  obtain ⟨hu, clk, z, ⟨⟨es, rfl, he⟩, hlt, hinc⟩, rfl⟩ := hM
  have hlen : es.size = (z.map (·.2)).length := by
    have := congrArg List.length he
    simpa using this
  have hkey : es.toList.map (·.key) = z.map (fun t => ek t.2.1) := by
    have := congrArg (List.map (fun t : Nat × Value × Value => t.2.1)) he
    simpa [Function.comp_def] using this
  have hborn : es.toList.map (·.born) = z.map (·.1) := by
    have := congrArg (List.map (fun t : Nat × Value × Value => t.1)) he
    simpa [Function.comp_def] using this
  have hes : ∀ e ∈ es.toList, ∃ t ∈ z, e.key = ek t.2.1 ∧ e.born = t.1 := fun e h => by
    have := List.mem_map_of_mem (f := fun e : MapEntry => (e.born, e.key, e.val)) h
    rw [he] at this
    obtain ⟨t, ht, h2⟩ := List.mem_map.1 this
    simp only [Prod.mk.injEq] at h2
    exact ⟨t, ht, h2.2.1.symm, h2.1.symm⟩
  have hrd : ∀ e ∈ es.toList, ∃ t ∈ z, e.key = ek t.2.1 ∧ WideElems.rd P kt anyR e = some (kl t.2.1, .nil) := fun e h => by
    obtain ⟨t, ht, h1, _⟩ := hes e h
    refine ⟨t, ht, h1, ?_⟩
    unfold WideElems.rd anyR
    rw [h1, hk t.2 (List.mem_map_of_mem ht)]
    rfl
  refine ⟨.map ((es.toList.map (WideElems.rg P kt anyR)).foldr DataW.insert []), ⟨es, clk, hob, ⟨by omega, ⟨fun e h => ?_, ?_, ?_⟩, fun e h => ?_⟩, by omega, rfl⟩, ?_, _, rfl, ?_⟩
  · obtain ⟨t, ht, _, h2⟩ := hes e h
    rw [h2]; exact hlt t ht
  · rw [hborn]
    unfold List.Nodup
    rw [List.pairwise_map]
    exact hinc.imp fun h => by omega
  · rw [hkey]
    unfold List.Nodup
    rw [List.pairwise_map]
    unfold UqA at hu
    rw [List.pairwise_map] at hu
    exact hu.imp fun h e => h (hinj _ _ e)
  · obtain ⟨t, _, _, h2⟩ := hrd e h
    exact ⟨_, h2⟩
  · rw [Maps.size_eq]
    rw [(WideShapes.sorted_perm _).length_eq]
    simp [hlen]
  · refine ((WideShapes.sorted_perm _).map (·.1)).trans ?_
    rw [List.map_map]
    have key : ∀ (es : List MapEntry) (z : List (Nat × α × β)), es.map (·.key) = z.map (fun t => ek t.2.1) → (∀ t ∈ z, keyOf P kt (ek t.2.1) = some (kl t.2.1)) → es.map ((·.1) ∘ WideElems.rg P kt anyR) = (z.map (·.2)).map (fun p => kl p.1) := by
      intro es
      induction es with
      | nil => intro z h _; cases z with
        | nil => rfl
        | cons t z => simp at h
      | cons e es ih =>
        intro z h hk
        cases z with
        | nil => simp at h
        | cons t z =>
          simp only [List.map_cons, List.cons.injEq] at h
          simp only [List.map_cons, List.cons.injEq, Function.comp_apply]
          refine ⟨?_, ih z h.2 fun t ht => hk t (by simp [ht])⟩
          unfold WideElems.rg WideElems.rd anyR
          rw [h.1, hk t (by simp)]
          rfl
    rw [key es.toList z hkey fun t ht => hk t.2 (List.mem_map_of_mem ht)]
end Go.Proofs.Ytgafnliohmdmoaa
