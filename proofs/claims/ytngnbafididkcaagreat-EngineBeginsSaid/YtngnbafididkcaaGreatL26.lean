/- OUR OWN LOGIC OVER THE KIT'S. 23: from a contract of the kit's that hands back a new slice, to ours; a map as the kit has it. Nothing of the program stands here. OUR OWN LOGIC OVER THE KIT'S. 24: min and max of two integers; maps compared with nil. Nothing of the program stands here. OUR OWN LOGIC OVER THE KIT'S. 25: bytes as a string in a region that draws; strings joined. Nothing of the program stands here. A slice that came in with an argument: nothing is known of where one of no room lies. Nothing of the program stands here. -/
import Derived.Test.YtngnbafididkcaaGreatL22
import Derived.Maps.Own
import Derived.Sort.KeysCollected
import Derived.Test.YtngnbafididkcaaGreatL19
section
namespace Go.Proofs.YtngnbafididkcaaGreat
open Go.RowKit Go.Maps
set_option linter.unusedSimpArgs false

theorem Rel.row {lo nx : Nat} {H : AH} {W w' : World} (hr : Rel lo H nx W) (hb : Below W.heap.size W w') {e : TypeId} {k : Nat} {v : Value} {n : Nat} {xs : List Value} (hrow : w'.ownsRow W.heap.size e k v n xs) :
    ∃ H' own, Rel lo H' w'.heap.size w' ∧ SlA w'.heap.size H' k v n xs own ∧ (own = 0 ∨ nx < own) ∧ Kp (fun _ => False) nx H H' := by
  have hs := hb.size
  have hns := hr.nx_size
  have hln := hr.lo_nx
  have same : ∀ b, b < nx → w'.heap[b]? = W.heap[b]? := fun b h => hb.block b (by omega)
  have base : Rel lo { H with d := none } w'.heap.size w' := ⟨by omega, Nat.le_refl _, fun b o u h => by
      obtain ⟨h1, h2, h3⟩ := hr.c b o u h
      exact ⟨by omega, by rw [World.cell?_of_block (a := ⟨b, o, none⟩) (same b h1)]; exact h2, fun hl => by rw [World.frozen?_of_block (a := ⟨b, o, none⟩) (same b h1)]; exact h3 hl⟩, fun b ob h => by
      obtain ⟨h1, h2, h3⟩ := hr.o b ob h
      exact ⟨by omega, by rw [same b h1]; exact h2, h3⟩, fun b e n h => by
      obtain ⟨h1, h2, cs, h3, h4⟩ := hr.t b e n h
      exact ⟨by omega, h2, cs, by rw [same b h1]; exact h3, h4⟩, fun k h => by cases h⟩
  obtain ⟨hl, hv⟩ := hrow
  rcases hv with ⟨rfl, rfl⟩ | ⟨g, cap, cur, rfl, hg, hgb, hn, hcap, hsz, hx⟩
  · have : xs = [] := List.eq_nil_of_length_eq_zero (by simpa using hl)
    subst this
    exact ⟨_, 0, base, SlA.nil _ _ _, .inl rfl, fun _ _ _ => ⟨fun _ => rfl, rfl, rfl⟩⟩
  · have hgl : g < w'.heap.size := (Array.getElem?_eq_some_iff.1 hgb).1
    refine ⟨AH.new { H with d := none } g cur e, g + 1, ⟨by omega, Nat.le_refl _, fun b o u h => ?_, fun b ob h => ?_, fun b e' n' h => ?_, fun k h => by cases h⟩, ?_, .inr (by omega), fun b hb' _ => ?_⟩
    · simp only [AH.new] at h
      split at h
      · rename_i hbg
        subst hbg
        exact ⟨hgl, by simp only [World.cell?, hgb]; simpa using h, fun _ => by simp [World.frozen?, hgb]⟩
      · exact base.c b o u h
    · simp only [AH.new] at h
      split at h
      · cases h
      · exact base.o b ob h
    · simp only [AH.new] at h
      split at h
      · rename_i hbg
        subst hbg
        simp only [Option.some.injEq, Prod.mk.injEq] at h
        obtain ⟨rfl, rfl⟩ := h
        exact ⟨hgl, by omega, cur, hgb, rfl⟩
      · exact base.t b e' n' h
    · refine (SlA.ofNew (H := { H with d := none }) (k := g) (cs := cur) (e := e) (cap := cap) hl hn hcap (Nat.le_of_eq hsz.symm) (fun j hj => ?_)).bound (by omega)
      rw [← hx, List.getElem?_take_of_lt hj, Array.getElem?_toList]
    · exact ⟨fun o => by simp only [AH.new]; rw [if_neg (by omega)], by simp only [AH.new]; rw [if_neg (by omega)], by simp only [AH.new]; rw [if_neg (by omega)]⟩

/-- A map of ours is one of the kit's: whatever its values are. -/
def anyR (_ : Value) : Option (DataW Unit × List MemPlace) := some (.nil, [])
theorem ownsMap_of {α β : Type} [DecidableEq α] {P : Program} {kt m : Nat} {ek : α → Value} {ev : β → Value} {ob : Obj} {l : List (α × β)} {W : World} (hob : W.heap[m]? = some ob) (hM : MapA ek ev ob l) (hinj : ∀ x y, ek x = ek y → x = y) (kl : α → Lit) (hk : ∀ p ∈ l, keyOf P kt (ek p.1) = some (kl p.1)) (hl : l.length ≤ maxLen) :
    ∃ D : DataW Unit, W.ownsMap P kt anyR m l.length D ∧ Maps.size D = l.length ∧ ∃ es, D = .map es ∧ (es.map (·.1)).Perm (l.map fun p => kl p.1) := by
  obtain ⟨hu, clk, z, ⟨⟨es, rfl, he⟩, hlt, hinc⟩, rfl⟩ := hM
  have hlen : es.size = (z.map (·.2)).length := by
    have := congrArg List.length he
    simpa using this
  have hkey : es.toList.map (·.key) = z.map (fun t => ek t.2.1) := by
    have := congrArg (List.map (fun t : Nat × Value × Value => t.2.1)) he
    simpa [Function.comp_def] using this
  have hborn : es.toList.map (·.born) = z.map (·.1) := by
    have := congrArg (List.map (fun t : Nat × Value × Value => t.1)) he
    simpa [Function.comp_def] using this
  have hes : ∀ e ∈ es.toList, ∃ t ∈ z, e.key = ek t.2.1 ∧ e.born = t.1 := fun e h => by
    have := List.mem_map_of_mem (f := fun e : MapEntry => (e.born, e.key, e.val)) h
    rw [he] at this
    obtain ⟨t, ht, h2⟩ := List.mem_map.1 this
    simp only [Prod.mk.injEq] at h2
    exact ⟨t, ht, h2.2.1.symm, h2.1.symm⟩
  have hrd : ∀ e ∈ es.toList, ∃ t ∈ z, e.key = ek t.2.1 ∧ WideElems.rd P kt anyR e = some (kl t.2.1, .nil) := fun e h => by
    obtain ⟨t, ht, h1, _⟩ := hes e h
    refine ⟨t, ht, h1, ?_⟩
    unfold WideElems.rd anyR
    rw [h1, hk t.2 (List.mem_map_of_mem ht)]
    rfl
  refine ⟨.map ((es.toList.map (WideElems.rg P kt anyR)).foldr DataW.insert []), ⟨es, clk, hob, ⟨by omega, ⟨fun e h => ?_, ?_, ?_⟩, fun e h => ?_⟩, by omega, rfl⟩, ?_, _, rfl, ?_⟩
  · obtain ⟨t, ht, _, h2⟩ := hes e h
    rw [h2]; exact hlt t ht
  · rw [hborn]
    unfold List.Nodup
    rw [List.pairwise_map]
    exact hinc.imp fun h => by omega
  · rw [hkey]
    unfold List.Nodup
    rw [List.pairwise_map]
    unfold UqA at hu
    rw [List.pairwise_map] at hu
    exact hu.imp fun h e => h (hinj _ _ e)
  · obtain ⟨t, _, _, h2⟩ := hrd e h
    exact ⟨_, h2⟩
  · rw [Maps.size_eq]
    rw [(WideShapes.sorted_perm _).length_eq]
    simp [hlen]
  · refine ((WideShapes.sorted_perm _).map (·.1)).trans ?_
    rw [List.map_map]
    have key : ∀ (es : List MapEntry) (z : List (Nat × α × β)), es.map (·.key) = z.map (fun t => ek t.2.1) → (∀ t ∈ z, keyOf P kt (ek t.2.1) = some (kl t.2.1)) → es.map ((·.1) ∘ WideElems.rg P kt anyR) = (z.map (·.2)).map (fun p => kl p.1) := by
      intro es
      induction es with
      | nil => intro z h _; cases z with
        | nil => rfl
        | cons t z => simp at h
      | cons e es ih =>
        intro z h hk
        cases z with
        | nil => simp at h
        | cons t z =>
          simp only [List.map_cons, List.cons.injEq] at h
          simp only [List.map_cons, List.cons.injEq, Function.comp_apply]
          refine ⟨?_, ih z h.2 fun t ht => hk t (by simp [ht])⟩
          unfold WideElems.rg WideElems.rd anyR
          rw [h.1, hk t (by simp)]
          rfl
    rw [key es.toList z hkey fun t ht => hk t.2 (List.mem_map_of_mem ht)]
end Go.Proofs.YtngnbafididkcaaGreat
end
section
section
namespace Go.Proofs.YtngnbafididkcaaGreat
open Go.RowKit
theorem maxV_int (P : Program) (H : AH) (ts : Array TypeId) (t : TypeId) (k k' : IntKind) (a b : Int) : maxV P H ts t #[.int k a, .int k' b] = some (.int k (max a b)) := by
  show some (Value.int k (if b > a then b else a)) = _
  congr 2
  split <;> omega
theorem minV_int (P : Program) (H : AH) (ts : Array TypeId) (t : TypeId) (k k' : IntKind) (a b : Int) : minV P H ts t #[.int k a, .int k' b] = some (.int k (min a b)) := by
  show some (Value.int k (if b < a then b else a)) = _
  congr 2
  split <;> omega
section
variable {P : Program} {lo : Nat} {ops : Array Oper} {H0 : AH} {nx0 i : Nat} {rest : List Nat} {dst : Option Tmp} {type : TypeId} {pos : String} {after : Array Edge} {g : Option (Nat × Bool)} {env : Env} {H : AH} {nx : Nat} {K : Env → AH → Nat → Prop}
theorem dGo_min (args : Array Operand) (ts : Array TypeId) : dGo P lo ops H0 nx0 i rest { dst, op := .call { callee := .builtin .min, args, argTypes := ts }, type, pos, after, guard := g } env H nx K = onA (((evs env args.toList).bind fun l => minV P AH.empty ts type l.toArray)) (drawK P lo ops H0 nx0 rest env dst H nx K) := yq AH.empty _
theorem dGo_max (args : Array Operand) (ts : Array TypeId) : dGo P lo ops H0 nx0 i rest { dst, op := .call { callee := .builtin .max, args, argTypes := ts }, type, pos, after, guard := g } env H nx K = onA (((evs env args.toList).bind fun l => maxV P AH.empty ts type l.toArray)) (drawK P lo ops H0 nx0 rest env dst H nx K) := yq AH.empty _
end
attribute [go_sem] maxV_int minV_int dGo_min dGo_max
end Go.Proofs.YtngnbafididkcaaGreat
end
section
namespace Go.Proofs.YtngnbafididkcaaGreat
open Go.RowKit

theorem convV_by {P : Program} {H : AH} {nx : Nat} {s d e : TypeId} {v : Value} {bs : List Int} {own : Nat} (ht : slT P s = some (e, 1)) (hu : P.underlying e = some (.int .u8)) (hd : P.underlying d = some .string)
    (hs : SlA nx H 1 v bs.length (bs.map (Value.int .u8)) own) : convV P H s d v = some (.string (byteS bs)) := by
  unfold slT at ht
  cases hus : P.underlying s with
  | none => rw [hus] at ht; cases ht
  | some dd =>
  rw [hus] at ht
  cases dd <;> simp only [reduceCtorEq] at ht
  rename_i e'
  simp only [Option.map_eq_some_iff, Prod.mk.injEq] at ht
  obtain ⟨k', hk', rfl, rfl⟩ := ht
  obtain ⟨a, c, rfl⟩ := hs.form
  show peek P H (convert s d (.slice a bs.length c)) = some (.string (byteS bs))
  unfold convert
  rw [peek_then, peek_underlying, hus]
  simp only [Option.bind_some]
  rw [peek_then, peek_underlying, hd]
  simp only [Option.bind_some]
  rw [peek_then, peek_underlying, hu]
  simp only [Option.bind_some]
  unfold Conv.bytesToString
  cases a with
  | none =>
    rcases hs.2.2 with ⟨h1, h2, _⟩ | ⟨g, off, cap, h1, _⟩
    · have : bs = [] := List.eq_nil_of_length_eq_zero h2
      subst this
      rfl
    · simp at h1
  | some a =>
    have hf := hs.first (P := P)
    simp only [Builtin.firstCells, Nat.mul_one] at hf
    simp only
    rw [peek_then, hf]
    simp only [Option.bind_some]
    rw [peek_then]
    rw [← Array.forIn_toList, List.toList_toArray, peek_bytes_loop (fun _ _ => rfl) bs ByteArray.empty]
    simp only [Option.bind_some, peek_pure, byteS]
    congr 3
    rw [show ByteArray.empty.data = #[] from rfl, Array.empty_append]

theorem add_str {P : Program} {H : AH} {t : TypeId} {x y : Operand} {a b : ByteArray} (h : a.size + b.size ≤ 4611686018427387904) : binV P H .add t x y (.string a) (.string b) = some (.string (a ++ b)) := by
  rw [bin_eq (by simp) (by simp)]
  show peek P H (if ((a.size + b.size : Nat) : Int) > IntKind.i64.max then unsupported (.resourceLimit "string concatenation: a sum of the lengths that is no int") else (pure (Value.string (a ++ b)) : Sem Value)) = _
  rw [if_neg, peek_pure]
  have : IntKind.i64.max = 9223372036854775807 := by decide
  omega
theorem byteS_append (a b : List Int) : (byteS a ++ byteS b).data.toList = (byteS (a ++ b)).data.toList := by
  simp [byteS]
theorem byteS_size (a : List Int) : (byteS a).size = a.length := by simp [byteS, ByteArray.size]
end Go.Proofs.YtngnbafididkcaaGreat
end
section
namespace Go.Proofs.YtngnbafididkcaaGreat
open Go.RowKit

def SlZ (nx : Nat) (H : AH) (size : Nat) (v : Value) (n : Nat) (xs : List Value) (own : Nat) : Prop := SlA nx H size v n xs own ∨ ((∃ a, v = .slice (some a) 0 0) ∧ n = 0 ∧ xs = [] ∧ own = 0)
section
variable {P : Program} {nx : Nat} {H : AH} {size : Nat} {v : Value} {n : Nat} {xs : List Value} {own : Nat}
theorem SlZ.form (h : SlZ nx H size v n xs own) : ∃ a c, v = .slice a n c := by
  rcases h with h | ⟨⟨a, rfl⟩, rfl, _⟩
  · exact h.form
  · exact ⟨_, _, rfl⟩
theorem SlZ.one (h : SlZ nx H size v n xs own) : v.oneCell' = true := by
  obtain ⟨a, c, rfl⟩ := h.form
  rfl
theorem SlZ.le (h : SlZ nx H size v n xs own) : own ≤ nx := by
  rcases h with h | ⟨_, _, _, rfl⟩
  · exact h.le
  · omega
theorem SlZ.kp {S : Nat → Prop} {nx' : Nat} {H' : AH} (h : SlZ nx H size v n xs own) (hk : Kp S nx H H') (hn : nx ≤ nx') (hs : ∀ b, b + 1 = own → ¬ S b) : SlZ nx' H' size v n xs own := by
  rcases h with h | h
  · exact .inl (h.kp hk hn hs)
  · exact .inr h
theorem SlZ.src {tx e : TypeId} {k : Nat} (h : SlZ nx H size v n xs own) (ht : slT P tx = some (e, k)) (h1 : ∀ u ∈ xs, u.oneCell' = true) : SrcA P H size tx v n xs := by
  rcases h with h | ⟨⟨a, rfl⟩, rfl, rfl, _⟩
  · exact h.src ht h1
  · refine ⟨?_, rfl, by simp only [Builtin.firstCells, loadCells, Nat.zero_mul]; rfl, by simp, by simp⟩
    unfold slT at ht
    cases hu : P.underlying tx with
    | none => rw [hu] at ht; cases ht
    | some d =>
      rw [hu] at ht
      cases d <;> simp only [reduceCtorEq] at ht
      exact ⟨_, rfl, by simp⟩
end
end Go.Proofs.YtngnbafididkcaaGreat
end
end
