/- From a row to our own logic: slices of numbers, truth values, and structs of such, as they came in. Nothing of the program stands here. -/
import Derived.Test.YtcdimjocdpogjaaL15
import Derived.Test.YtcdimjocdpogjaaP1
import Derived.Deep.Slices
namespace Go.Proofs.Ytcdimjocdpogjaa
open Go.ChangeShapes Go.WideShapes Go.ChangeAt Go.RowKit Go.Deep

def fitW : List (Option IntKind) → List Value → Prop
  | [], vs => vs = []
  | some k :: r, vs => ∃ n w, vs = .int k n :: w ∧ (Lit.int k n).wf = true ∧ fitW r w
  | none :: r, vs => ∃ b w, vs = .bool b :: w ∧ fitW r w
theorem fitW_app : ∀ (a b : List (Option IntKind)) (x y : List Value), fitW a x → fitW b y → fitW (a ++ b) (x ++ y)
  | [], b, x, y, h, g => by simp only [fitW] at h; subst h; exact g
  | some k :: r, b, x, y, ⟨n, w, h, hw, hr⟩, g => by subst h; exact ⟨n, w ++ y, rfl, hw, fitW_app r b w y hr g⟩
  | none :: r, b, x, y, ⟨n, w, h, hr⟩, g => by subst h; exact ⟨n, w ++ y, rfl, fitW_app r b w y hr g⟩
theorem fitW_length : ∀ (ks : List (Option IntKind)) (vs : List Value), fitW ks vs → vs.length = ks.length
  | [], _, h => by rw [h]; rfl
  | some k :: r, _, ⟨n, w, h, _, hw⟩ => by rw [h]; simp [fitW_length r w hw]
  | none :: r, _, ⟨n, w, h, hw⟩ => by rw [h]; simp [fitW_length r w hw]

section
variable {H : Type} {enc : TypeId × Value → H} {P : Program} {w : World} {base : Nat} {spare : Nat → Bool} {held : Bool}

theorem cells_of {t : TypeId} {n : Nat} (h : szT P t = some n) : P.cellsOf t = n := by
  unfold szT at h
  unfold Program.cellsOf
  rw [h]; rfl

theorem flatFs_trod {g : TypeId → Option (List (Option IntKind))} {fuel : Nat} {cs : List Value}
    (hg : ∀ t ks c x, g t = some ks → szT P t = some ks.length → DataW.trod enc P w base spare held fuel t c = some x → fitW ks c) :
    ∀ (fs : List Field) (o : Nat) (ks : List (Option IntKind)), flatFs P g fs o = some ks → cs.length = o + ks.length →
      (∀ f ∈ fs, ∃ x, DataW.trod enc P w base spare held fuel f.type ((cs.drop f.offset).take (P.cellsOf f.type)) = some x) → fitW ks (cs.drop o)
  | [], o, ks, h, hl, _ => by
    simp only [flatFs, Option.some.injEq] at h
    subst h
    simp only [fitW]
    exact List.drop_eq_nil_of_le (by simpa using Nat.le_of_eq hl)
  | f :: r, o, ks, h, hl, hx => by
    simp only [flatFs] at h
    split at h
    · rename_i sk a n h1 h2 h3
      split at h
      · rename_i hc
        simp only [Bool.and_eq_true, bne_iff_ne, beq_iff_eq, Bool.or_eq_true] at hc
        obtain ⟨⟨⟨c1, rfl⟩, rfl⟩, c4⟩ := hc
        simp only [Option.map_eq_some_iff] at h
        obtain ⟨rs, hr, rfl⟩ := h
        obtain ⟨x, hx0⟩ := hx f (by simp)
        have h5 := hg f.type sk _ x h1 h3 hx0
        rw [cells_of h3] at h5
        rw [List.length_append] at hl
        have h6 := flatFs_trod hg r (f.offset + sk.length) rs hr (by omega) (fun f' hf' => hx f' (by simp [hf']))
        have e : cs.drop f.offset = (cs.drop f.offset).take sk.length ++ cs.drop (f.offset + sk.length) := by
          rw [← List.drop_drop, List.take_append_drop]
        rw [e]
        exact fitW_app _ _ _ _ h5 h6
      · cases h
    · cases h

theorem trod_flat : ∀ (d : Nat) (t : TypeId) (ks : List (Option IntKind)) (fuel : Nat) (cs : List Value) (x : DataW H × List MemPlace), flatT P d t = some ks → szT P t = some ks.length → DataW.trod enc P w base spare held fuel t cs = some x → fitW ks cs
  | 0, _, _, _, _, _, h, _, _ => by simp [flatT] at h
  | d + 1, t, ks, fuel, cs, x, h, hz, hx => by
    unfold flatT at h
    cases hu : P.underlying t with
    | none => rw [hu] at h; cases h
    | some u =>
      rw [hu] at h
      cases u <;> simp only [reduceCtorEq, Option.some.injEq] at h
      · subst h
        obtain ⟨b, rfl, _⟩ := DataW.trod_bool hu hx
        exact ⟨b, [], rfl, rfl⟩
      · subst h
        obtain ⟨n, rfl, _, hw⟩ := DataW.trod_int hu hx
        exact ⟨n, [], rfl, hw, rfl⟩
      · rename_i fs
        split at h
        · cases h
        obtain ⟨xs, n, rfl, _, hlen, hxl, hf⟩ := DataW.trod_struct hu hx
        rw [cells_of hz] at hlen
        have := flatFs_trod (enc := enc) (P := P) (w := w) (base := base) (spare := spare) (held := held) (fuel := n) (cs := cs) (fun t' ks' c' x' g1 g2 g3 => trod_flat d t' ks' n c' x' g1 g2 g3) fs.toList 0 ks h (by omega) (fun f hf' => by
          obtain ⟨i, hi, rfl⟩ := List.getElem_of_mem hf'
          have hi' : i < fs.size := by simpa using hi
          have := hf i fs[i] (by simp [hi'])
          rw [List.getElem?_eq_getElem (by omega)] at this
          exact ⟨_, by simpa using this⟩)
        simpa using this
end

theorem trodAll_four' {H : Type} {enc : TypeId × Value → H} {P : Program} {w : World} {base : Nat} {spare : Nat → Bool} {held : Bool} {t0 t1 t2 t3 : TypeId} {args : Array Value} {ds : List (DataW H)} {ps : List MemPlace} (h : DataW.TrodAll enc P w base spare held [t0, t1, t2, t3] args.toList ds ps) :
    ∃ v0 v1 v2 v3 d0 d1 d2 d3 p0 p1 p2 p3, args = #[v0, v1, v2, v3] ∧ ds = [d0, d1, d2, d3] ∧ ps = p0 ++ (p1 ++ (p2 ++ p3)) ∧ DataW.Trod enc P w base spare held t0 v0 d0 p0 ∧ DataW.Trod enc P w base spare held t1 v1 d1 p1 ∧ DataW.Trod enc P w base spare held t2 v2 d2 p2 ∧ DataW.Trod enc P w base spare held t3 v3 d3 p3 := by
  obtain ⟨l⟩ := args
  obtain ⟨v0, l1, d0, ds1, p0, q0, rfl, rfl, rfl, h0, h⟩ := trodAll_cons h
  obtain ⟨v1, l2, d1, ds2, p1, q1, rfl, rfl, rfl, h1, h⟩ := trodAll_cons h
  obtain ⟨v2, l3, d2, ds3, p2, q2, rfl, rfl, rfl, h2, h⟩ := trodAll_cons h
  obtain ⟨v3, l4, d3, ds4, p3, q3, rfl, rfl, rfl, h3, h⟩ := trodAll_cons h
  obtain ⟨rfl, rfl, rfl⟩ := trodAll_nil h
  exact ⟨v0, v1, v2, v3, d0, d1, d2, d3, p0, p1, p2, p3, rfl, rfl, by simp, h0, h1, h2, h3⟩

theorem trodAll_one' {H : Type} {enc : TypeId × Value → H} {P : Program} {w : World} {base : Nat} {spare : Nat → Bool} {held : Bool} {t0 : TypeId} {args : Array Value} {ds : List (DataW H)} {ps : List MemPlace} (h : DataW.TrodAll enc P w base spare held [t0] args.toList ds ps) :
    ∃ v0 d0 p0, args = #[v0] ∧ ds = [d0] ∧ ps = p0 ∧ DataW.Trod enc P w base spare held t0 v0 d0 p0 := by
  obtain ⟨l⟩ := args
  obtain ⟨v0, l1, d0, ds1, p0, q0, rfl, rfl, rfl, h0, h⟩ := trodAll_cons h
  obtain ⟨rfl, rfl, rfl⟩ := trodAll_nil h
  exact ⟨v0, d0, p0, rfl, rfl, by simp, h0⟩

/-- A slice that came in. -/
theorem open_flat {H : Type} {enc : TypeId × Value → H} {P : Program} {W : World} {r : Reach} {base : Nat} {t e : TypeId} {ks : List (Option IntKind)} {v : Value} {d : DataW H} {ps : List MemPlace}
    (ht : P.underlying t = some (.slice e)) (hf : (flatT P 8 e == some ks && szT P e == some ks.length && decide (0 < ks.length)) = true) (hval : Value.okWide P W r base t v) (h : DataW.Trod enc P W 0 (fun _ => true) true t v d ps) :
    ∃ (ls : List (List Value)) (own : Nat), (∀ l ∈ ls, fitW ks l) ∧ SlA W.heap.size (AH.ofWorld W) ks.length v ls.length ls.flatten own := by
  simp only [Bool.and_eq_true, beq_iff_eq, decide_eq_true_eq] at hf
  obtain ⟨⟨h1, h2⟩, h3⟩ := hf
  obtain ⟨fuel, h⟩ := h
  have hok : Cell.ok P W r base t v := by
    unfold Value.okWide at hval
    rw [ht] at hval
    simp only at hval
    unfold Cell.okWide at hval
    rw [ht] at hval
    exact hval
  rcases open_slice ht h with ⟨hv, _⟩ | ⟨a, len, cap, m, n, D, Pl, hv, _, hl, hm, hmm, _, hx⟩
  · have : v = .slice none 0 0 := by
      cases v <;> first | (simp [Value.cells] at hv; done) | (simpa [Value.cells] using hv) | skip
      rename_i cs
      unfold Cell.ok at hok
      rw [ht] at hok
      exact hok.elim
    subst this
    exact ⟨[], 0, by simp, SlA.nil _ _ _⟩
  · have : v = .slice (some a) len cap := by
      cases v <;> first | (simp [Value.cells] at hv; done) | (simpa [Value.cells] using hv) | skip
      rename_i cs
      unfold Cell.ok at hok
      rw [ht] at hok
      exact hok.elim
    subst this
    unfold Cell.ok at hok
    rw [ht] at hok
    obtain ⟨_, _, _, hsp, row, cells, hsh, _⟩ := hok
    obtain ⟨g, off, sp⟩ := a
    simp only at hsp
    subst hsp
    have hlt : g < W.heap.size := by
      unfold World.shape? at hsh
      simp only at hsh
      split at hsh
      · rename_i hg
        exact (Array.getElem?_eq_some_iff.1 hg).1
      · cases hsh
    rw [cells_of h2] at hx
    simp only [if_true] at hmm
    obtain rfl : cap = m := hmm.symm
    obtain ⟨L, hL⟩ := choose_lt (α := List Value) (n := cap) (p := fun i l => fitW ks l ∧ ∀ j, j < ks.length → W.cell? ⟨g, off + ks.length * i + j, none⟩ = l[j]?) (fun i hi => by
      obtain ⟨cs', g1, g2⟩ := hx i hi
      obtain ⟨_, g3, g4⟩ := World.cells?_some g1
      refine ⟨cs', trod_flat 8 e ks n cs' _ h1 h2 g2, fun j hj => ?_⟩
      have := g4 j hj
      rw [Go.Deep.add_add, add_none] at this
      rw [← this, Nat.mul_comm, Nat.add_assoc])
    have hLlen : ∀ i, i < cap → (L i).length = ks.length := fun i hi => fitW_length _ _ (hL i hi).1
    have hfl : ∀ n, n ≤ cap → (((List.range n).map L).flatten).length = n * ks.length := by
      intro n hn
      induction n with
      | zero => simp
      | succ n ih =>
        rw [List.range_succ, List.map_append, List.flatten_append, List.length_append, ih (by omega)]
        simp [hLlen n (by omega), Nat.add_mul]
    have hget : ∀ n, n ≤ cap → ∀ j, j < n * ks.length → (((List.range n).map L).flatten)[j]? = W.cell? ⟨g, off + j, none⟩ := by
      intro n hn
      induction n with
      | zero => intro j hj; simp at hj
      | succ n ih =>
        intro j hj
        rw [List.range_succ, List.map_append, List.flatten_append]
        by_cases hjn : j < n * ks.length
        · rw [List.getElem?_append_left (by rw [hfl n (by omega)]; exact hjn)]
          exact ih (by omega) j hjn
        · rw [List.getElem?_append_right (by rw [hfl n (by omega)]; omega), hfl n (by omega)]
          rw [Nat.add_mul] at hj
          have := (hL n (by omega)).2 (j - n * ks.length) (by omega)
          simp only [List.map_cons, List.map_nil, List.flatten_cons, List.flatten_nil, List.append_nil]
          rw [← this, show off + ks.length * n + (j - n * ks.length) = off + j by rw [Nat.mul_comm]; omega]
    have hll : ((List.range len).map L).length = len := by simp
    refine ⟨(List.range len).map L, g + 1, fun l hl' => ?_, ?_⟩
    · simp only [List.mem_map, List.mem_range] at hl'
      obtain ⟨i, hi, rfl⟩ := hl'
      exact (hL i (by omega)).1
    · rw [hll]
      refine ⟨hfl len hl, hlt, .inr ⟨g, off, cap, rfl, rfl, hl, hm, fun j hj => (hget len hl j hj).symm, fun j hj => ?_⟩⟩
      show (W.cell? ⟨g, off + j, none⟩).isSome = true
      rw [← hget cap (Nat.le_refl _) j hj, List.getElem?_eq_getElem (by rw [hfl cap (Nat.le_refl _)]; exact hj)]
      rfl
end Go.Proofs.Ytcdimjocdpogjaa
