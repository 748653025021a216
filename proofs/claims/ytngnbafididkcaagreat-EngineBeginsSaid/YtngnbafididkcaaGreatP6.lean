/- From a row to our own logic: slices of numbers, truth values, and structs of such, as they came in. Nothing of the program stands here. Arguments that are bytes. Nothing of the program stands here. Arguments: acts that hold bytes. Nothing of the program stands here. -/
import Derived.Test.YtngnbafididkcaaGreatL15
import Derived.Test.YtngnbafididkcaaGreatP1
import Derived.Deep.Slices
import Derived.Test.YtngnbafididkcaaGreatL26
section
namespace Go.Proofs.YtngnbafididkcaaGreat
open Go.ChangeShapes Go.WideShapes Go.ChangeAt Go.RowKit Go.Deep

def fitW : List (Option IntKind) → List Value → Prop
  | [], vs => vs = []
  | some k :: r, vs => ∃ n w, vs = .int k n :: w ∧ (Lit.int k n).wf = true ∧ fitW r w
  | none :: r, vs => ∃ b w, vs = .bool b :: w ∧ fitW r w
theorem fitW_app : ∀ (a b : List (Option IntKind)) (x y : List Value), fitW a x → fitW b y → fitW (a ++ b) (x ++ y)
  | [], b, x, y, h, g => by simp only [fitW] at h; subst h; exact g
  | some k :: r, b, x, y, ⟨n, w, h, hw, hr⟩, g => by subst h; exact ⟨n, w ++ y, rfl, hw, fitW_app r b w y hr g⟩
  | none :: r, b, x, y, ⟨n, w, h, hr⟩, g => by subst h; exact ⟨n, w ++ y, rfl, fitW_app r b w y hr g⟩
theorem fitW_length : ∀ (ks : List (Option IntKind)) (vs : List Value), fitW ks vs → vs.length = ks.length
  | [], _, h => by rw [h]; rfl
  | some k :: r, _, ⟨n, w, h, _, hw⟩ => by rw [h]; simp [fitW_length r w hw]
  | none :: r, _, ⟨n, w, h, hw⟩ => by rw [h]; simp [fitW_length r w hw]

section
variable {H : Type} {enc : TypeId × Value → H} {P : Program} {w : World} {base : Nat} {spare : Nat → Bool} {held : Bool}

theorem cells_of {t : TypeId} {n : Nat} (h : szT P t = some n) : P.cellsOf t = n := by
  unfold szT at h
  unfold Program.cellsOf
  rw [h]; rfl

theorem flatFs_trod {g : TypeId → Option (List (Option IntKind))} {fuel : Nat} {cs : List Value}
    (hg : ∀ t ks c x, g t = some ks → szT P t = some ks.length → DataW.trod enc P w base spare held fuel t c = some x → fitW ks c) :
    ∀ (fs : List Field) (o : Nat) (ks : List (Option IntKind)), flatFs P g fs o = some ks → cs.length = o + ks.length →
      (∀ f ∈ fs, ∃ x, DataW.trod enc P w base spare held fuel f.type ((cs.drop f.offset).take (P.cellsOf f.type)) = some x) → fitW ks (cs.drop o)
  | [], o, ks, h, hl, _ => by
    simp only [flatFs, Option.some.injEq] at h
    subst h
    simp only [fitW]
    exact List.drop_eq_nil_of_le (by simpa using Nat.le_of_eq hl)
  | f :: r, o, ks, h, hl, hx => by
    simp only [flatFs] at h
    split at h
    · rename_i sk a n h1 h2 h3
      split at h
      · rename_i hc
        simp only [Bool.and_eq_true, bne_iff_ne, beq_iff_eq, Bool.or_eq_true] at hc
        obtain ⟨⟨⟨c1, rfl⟩, rfl⟩, c4⟩ := hc
        simp only [Option.map_eq_some_iff] at h
        obtain ⟨rs, hr, rfl⟩ := h
        obtain ⟨x, hx0⟩ := hx f (by simp)
        have h5 := hg f.type sk _ x h1 h3 hx0
        rw [cells_of h3] at h5
        rw [List.length_append] at hl
        have h6 := flatFs_trod hg r (f.offset + sk.length) rs hr (by omega) (fun f' hf' => hx f' (by simp [hf']))
        have e : cs.drop f.offset = (cs.drop f.offset).take sk.length ++ cs.drop (f.offset + sk.length) := by
          rw [← List.drop_drop, List.take_append_drop]
        rw [e]
        exact fitW_app _ _ _ _ h5 h6
      · cases h
    · cases h

theorem trod_flat : ∀ (d : Nat) (t : TypeId) (ks : List (Option IntKind)) (fuel : Nat) (cs : List Value) (x : DataW H × List MemPlace), flatT P d t = some ks → szT P t = some ks.length → DataW.trod enc P w base spare held fuel t cs = some x → fitW ks cs
  | 0, _, _, _, _, _, h, _, _ => by simp [flatT] at h
  | d + 1, t, ks, fuel, cs, x, h, hz, hx => by
    unfold flatT at h
    cases hu : P.underlying t with
    | none => rw [hu] at h; cases h
    | some u =>
      rw [hu] at h
      cases u <;> simp only [reduceCtorEq, Option.some.injEq] at h
      · subst h
        obtain ⟨b, rfl, _⟩ := DataW.trod_bool hu hx
        exact ⟨b, [], rfl, rfl⟩
      · subst h
        obtain ⟨n, rfl, _, hw⟩ := DataW.trod_int hu hx
        exact ⟨n, [], rfl, hw, rfl⟩
      · rename_i fs
        split at h
        · cases h
        obtain ⟨xs, n, rfl, _, hlen, hxl, hf⟩ := DataW.trod_struct hu hx
        rw [cells_of hz] at hlen
        have := flatFs_trod (enc := enc) (P := P) (w := w) (base := base) (spare := spare) (held := held) (fuel := n) (cs := cs) (fun t' ks' c' x' g1 g2 g3 => trod_flat d t' ks' n c' x' g1 g2 g3) fs.toList 0 ks h (by omega) (fun f hf' => by
          obtain ⟨i, hi, rfl⟩ := List.getElem_of_mem hf'
          have hi' : i < fs.size := by simpa using hi
          have := hf i fs[i] (by simp [hi'])
          rw [List.getElem?_eq_getElem (by omega)] at this
          exact ⟨_, by simpa using this⟩)
        simpa using this
end

theorem trodAll_four' {H : Type} {enc : TypeId × Value → H} {P : Program} {w : World} {base : Nat} {spare : Nat → Bool} {held : Bool} {t0 t1 t2 t3 : TypeId} {args : Array Value} {ds : List (DataW H)} {ps : List MemPlace} (h : DataW.TrodAll enc P w base spare held [t0, t1, t2, t3] args.toList ds ps) :
    ∃ v0 v1 v2 v3 d0 d1 d2 d3 p0 p1 p2 p3, args = #[v0, v1, v2, v3] ∧ ds = [d0, d1, d2, d3] ∧ ps = p0 ++ (p1 ++ (p2 ++ p3)) ∧ DataW.Trod enc P w base spare held t0 v0 d0 p0 ∧ DataW.Trod enc P w base spare held t1 v1 d1 p1 ∧ DataW.Trod enc P w base spare held t2 v2 d2 p2 ∧ DataW.Trod enc P w base spare held t3 v3 d3 p3 := by
  obtain ⟨l⟩ := args
  obtain ⟨v0, l1, d0, ds1, p0, q0, rfl, rfl, rfl, h0, h⟩ := trodAll_cons h
  obtain ⟨v1, l2, d1, ds2, p1, q1, rfl, rfl, rfl, h1, h⟩ := trodAll_cons h
  obtain ⟨v2, l3, d2, ds3, p2, q2, rfl, rfl, rfl, h2, h⟩ := trodAll_cons h
  obtain ⟨v3, l4, d3, ds4, p3, q3, rfl, rfl, rfl, h3, h⟩ := trodAll_cons h
  obtain ⟨rfl, rfl, rfl⟩ := trodAll_nil h
  exact ⟨v0, v1, v2, v3, d0, d1, d2, d3, p0, p1, p2, p3, rfl, rfl, by simp, h0, h1, h2, h3⟩

theorem trodAll_one' {H : Type} {enc : TypeId × Value → H} {P : Program} {w : World} {base : Nat} {spare : Nat → Bool} {held : Bool} {t0 : TypeId} {args : Array Value} {ds : List (DataW H)} {ps : List MemPlace} (h : DataW.TrodAll enc P w base spare held [t0] args.toList ds ps) :
    ∃ v0 d0 p0, args = #[v0] ∧ ds = [d0] ∧ ps = p0 ∧ DataW.Trod enc P w base spare held t0 v0 d0 p0 := by
  obtain ⟨l⟩ := args
  obtain ⟨v0, l1, d0, ds1, p0, q0, rfl, rfl, rfl, h0, h⟩ := trodAll_cons h
  obtain ⟨rfl, rfl, rfl⟩ := trodAll_nil h
  exact ⟨v0, d0, p0, rfl, rfl, by simp, h0⟩

/-- A slice that came in. -/
theorem open_flat {H : Type} {enc : TypeId × Value → H} {P : Program} {W : World} {r : Reach} {base : Nat} {t e : TypeId} {ks : List (Option IntKind)} {v : Value} {d : DataW H} {ps : List MemPlace}
    (ht : P.underlying t = some (.slice e)) (hf : (flatT P 8 e == some ks && szT P e == some ks.length && decide (0 < ks.length)) = true) (hval : Value.okWide P W r base t v) (h : DataW.Trod enc P W 0 (fun _ => true) true t v d ps) :
    ∃ (ls : List (List Value)) (own : Nat), (∀ l ∈ ls, fitW ks l) ∧ SlA W.heap.size (AH.ofWorld W) ks.length v ls.length ls.flatten own := by
  simp only [Bool.and_eq_true, beq_iff_eq, decide_eq_true_eq] at hf
  obtain ⟨⟨h1, h2⟩, h3⟩ := hf
  obtain ⟨fuel, h⟩ := h
  have hok : Cell.ok P W r base t v := by
    unfold Value.okWide at hval
    rw [ht] at hval
    simp only at hval
    unfold Cell.okWide at hval
    rw [ht] at hval
    exact hval
  rcases open_slice ht h with ⟨hv, _⟩ | ⟨a, len, cap, m, n, D, Pl, hv, _, hl, hm, hmm, _, hx⟩
  · have : v = .slice none 0 0 := by
      cases v <;> first | (simp [Value.cells] at hv; done) | (simpa [Value.cells] using hv) | skip
      rename_i cs
      unfold Cell.ok at hok
      rw [ht] at hok
      exact hok.elim
    subst this
    exact ⟨[], 0, by simp, SlA.nil _ _ _⟩
  · have : v = .slice (some a) len cap := by
      cases v <;> first | (simp [Value.cells] at hv; done) | (simpa [Value.cells] using hv) | skip
      rename_i cs
      unfold Cell.ok at hok
      rw [ht] at hok
      exact hok.elim
    subst this
    unfold Cell.ok at hok
    rw [ht] at hok
    obtain ⟨_, _, _, hsp, row, cells, hsh, _⟩ := hok
    obtain ⟨g, off, sp⟩ := a
    simp only at hsp
    subst hsp
    have hlt : g < W.heap.size := by
      unfold World.shape? at hsh
      simp only at hsh
      split at hsh
      · rename_i hg
        exact (Array.getElem?_eq_some_iff.1 hg).1
      · cases hsh
    rw [cells_of h2] at hx
    simp only [if_true] at hmm
    obtain rfl : cap = m := hmm.symm
    obtain ⟨L, hL⟩ := choose_lt (α := List Value) (n := cap) (p := fun i l => fitW ks l ∧ ∀ j, j < ks.length → W.cell? ⟨g, off + ks.length * i + j, none⟩ = l[j]?) (fun i hi => by
      obtain ⟨cs', g1, g2⟩ := hx i hi
      obtain ⟨_, g3, g4⟩ := World.cells?_some g1
      refine ⟨cs', trod_flat 8 e ks n cs' _ h1 h2 g2, fun j hj => ?_⟩
      have := g4 j hj
      rw [Go.Deep.add_add, add_none] at this
      rw [← this, Nat.mul_comm, Nat.add_assoc])
    have hLlen : ∀ i, i < cap → (L i).length = ks.length := fun i hi => fitW_length _ _ (hL i hi).1
    have hfl : ∀ n, n ≤ cap → (((List.range n).map L).flatten).length = n * ks.length := by
      intro n hn
      induction n with
      | zero => simp
      | succ n ih =>
        rw [List.range_succ, List.map_append, List.flatten_append, List.length_append, ih (by omega)]
        simp [hLlen n (by omega), Nat.add_mul]
    have hget : ∀ n, n ≤ cap → ∀ j, j < n * ks.length → (((List.range n).map L).flatten)[j]? = W.cell? ⟨g, off + j, none⟩ := by
      intro n hn
      induction n with
      | zero => intro j hj; simp at hj
      | succ n ih =>
        intro j hj
        rw [List.range_succ, List.map_append, List.flatten_append]
        by_cases hjn : j < n * ks.length
        · rw [List.getElem?_append_left (by rw [hfl n (by omega)]; exact hjn)]
          exact ih (by omega) j hjn
        · rw [List.getElem?_append_right (by rw [hfl n (by omega)]; omega), hfl n (by omega)]
          rw [Nat.add_mul] at hj
          have := (hL n (by omega)).2 (j - n * ks.length) (by omega)
          simp only [List.map_cons, List.map_nil, List.flatten_cons, List.flatten_nil, List.append_nil]
          rw [← this, show off + ks.length * n + (j - n * ks.length) = off + j by rw [Nat.mul_comm]; omega]
    have hll : ((List.range len).map L).length = len := by simp
    refine ⟨(List.range len).map L, g + 1, fun l hl' => ?_, ?_⟩
    · simp only [List.mem_map, List.mem_range] at hl'
      obtain ⟨i, hi, rfl⟩ := hl'
      exact (hL i (by omega)).1
    · rw [hll]
      refine ⟨hfl len hl, hlt, .inr ⟨g, off, cap, rfl, rfl, hl, hm, fun j hj => (hget len hl j hj).symm, fun j hj => ?_⟩⟩
      show (W.cell? ⟨g, off + j, none⟩).isSome = true
      rw [← hget cap (Nat.le_refl _) j hj, List.getElem?_eq_getElem (by rw [hfl cap (Nat.le_refl _)]; exact hj)]
      rfl
end Go.Proofs.YtngnbafididkcaaGreat
end
section
namespace Go.Proofs.YtngnbafididkcaaGreat
open Go.ChangeShapes Go.WideShapes Go.ChangeAt Go.RowKit
theorem bytes_of5 : ∀ (ls : List (List Value)), (∀ l ∈ ls, fitW [some .u8] l) → ∃ bs : List Int, bs.length = ls.length ∧ ls.flatten = bs.map (fun b => Value.int .u8 b) ∧ ∀ x ∈ bs, 0 ≤ x ∧ x < 256
  | [], _ => ⟨[], rfl, rfl, by simp⟩
  | l :: r, h => by
    obtain ⟨zs, h1, h2, h3⟩ := bytes_of5 r (fun l hl => h l (by simp [hl]))
    obtain ⟨a, w, rfl, ha, rfl⟩ := h l (by simp)
    refine ⟨a :: zs, by simp [h1], by rw [List.flatten_cons, h2]; rfl, fun x hx => ?_⟩
    rcases List.mem_cons.1 hx with rfl | hx
    · simp only [Lit.wf, Bool.and_eq_true, decide_eq_true_eq] at ha
      have h1 : 0 ≤ x := ha.1
      have h2 : x ≤ 255 := ha.2
      omega
    · exact h3 x hx
end Go.Proofs.YtngnbafididkcaaGreat
end
section
namespace Go.Proofs.YtngnbafididkcaaGreat
open Go.ChangeShapes Go.WideShapes Go.ChangeAt Go.RowKit Go.Deep

/-- A slice that came in, whatever its elements. -/
theorem open_gen {H : Type} {enc : TypeId × Value → H} {P : Program} {W : World} {r : Reach} {base : Nat} {t e : TypeId} {k : Nat} {fit : List Value → Prop} {v : Value} {d : DataW H} {ps : List MemPlace}
    (ht : P.underlying t = some (.slice e)) (hsz : P.cellsOf e = k) (hlenf : ∀ l, fit l → l.length = k) (hfit : ∀ (fuel : Nat) (cs : List Value) (x : DataW H × List MemPlace), DataW.trod enc P W 0 (fun _ => true) true fuel e cs = some x → fit cs) (hval : Value.okWide P W r base t v) (h : DataW.Trod enc P W 0 (fun _ => true) true t v d ps) :
    ∃ (ls : List (List Value)) (own : Nat), (∀ l ∈ ls, fit l) ∧ SlA W.heap.size (AH.ofWorld W) k v ls.length ls.flatten own := by
  obtain ⟨fuel, h⟩ := h
  have hok : Cell.ok P W r base t v := by
    unfold Value.okWide at hval
    rw [ht] at hval
    simp only at hval
    unfold Cell.okWide at hval
    rw [ht] at hval
    exact hval
  rcases open_slice ht h with ⟨hv, _⟩ | ⟨a, len, cap, m, n, D, Pl, hv, _, hl, hm, hmm, _, hx⟩
  · have : v = .slice none 0 0 := by
      cases v <;> first | (simp [Value.cells] at hv; done) | (simpa [Value.cells] using hv) | skip
      rename_i cs
      unfold Cell.ok at hok
      rw [ht] at hok
      exact hok.elim
    subst this
    exact ⟨[], 0, by simp, SlA.nil _ _ _⟩
  · have : v = .slice (some a) len cap := by
      cases v <;> first | (simp [Value.cells] at hv; done) | (simpa [Value.cells] using hv) | skip
      rename_i cs
      unfold Cell.ok at hok
      rw [ht] at hok
      exact hok.elim
    subst this
    unfold Cell.ok at hok
    rw [ht] at hok
    obtain ⟨_, _, _, hsp, row, cells, hsh, _⟩ := hok
    obtain ⟨g, off, sp⟩ := a
    simp only at hsp
    subst hsp
    have hlt : g < W.heap.size := by
      unfold World.shape? at hsh
      simp only at hsh
      split at hsh
      · rename_i hg
        exact (Array.getElem?_eq_some_iff.1 hg).1
      · cases hsh
    rw [hsz] at hx
    simp only [if_true] at hmm
    obtain rfl : cap = m := hmm.symm
    obtain ⟨L, hL⟩ := choose_lt (α := List Value) (n := cap) (p := fun i l => fit l ∧ ∀ j, j < k → W.cell? ⟨g, off + k * i + j, none⟩ = l[j]?) (fun i hi => by
      obtain ⟨cs', g1, g2⟩ := hx i hi
      obtain ⟨_, g3, g4⟩ := World.cells?_some g1
      refine ⟨cs', hfit n cs' _ g2, fun j hj => ?_⟩
      have := g4 j hj
      rw [Go.Deep.add_add, add_none] at this
      rw [← this, Nat.mul_comm, Nat.add_assoc])
    have hLlen : ∀ i, i < cap → (L i).length = k := fun i hi => hlenf _ (hL i hi).1
    have hfl : ∀ n, n ≤ cap → (((List.range n).map L).flatten).length = n * k := by
      intro n hn
      induction n with
      | zero => simp
      | succ n ih =>
        rw [List.range_succ, List.map_append, List.flatten_append, List.length_append, ih (by omega)]
        simp [hLlen n (by omega), Nat.add_mul]
    have hget : ∀ n, n ≤ cap → ∀ j, j < n * k → (((List.range n).map L).flatten)[j]? = W.cell? ⟨g, off + j, none⟩ := by
      intro n hn
      induction n with
      | zero => intro j hj; simp at hj
      | succ n ih =>
        intro j hj
        rw [List.range_succ, List.map_append, List.flatten_append]
        by_cases hjn : j < n * k
        · rw [List.getElem?_append_left (by rw [hfl n (by omega)]; exact hjn)]
          exact ih (by omega) j hjn
        · rw [List.getElem?_append_right (by rw [hfl n (by omega)]; omega), hfl n (by omega)]
          rw [Nat.add_mul] at hj
          have := (hL n (by omega)).2 (j - n * k) (by omega)
          simp only [List.map_cons, List.map_nil, List.flatten_cons, List.flatten_nil, List.append_nil]
          rw [← this, show off + k * n + (j - n * k) = off + j by rw [Nat.mul_comm]; omega]
    have hll : ((List.range len).map L).length = len := by simp
    refine ⟨(List.range len).map L, g + 1, fun l hl' => ?_, ?_⟩
    · simp only [List.mem_map, List.mem_range] at hl'
      obtain ⟨i, hi, rfl⟩ := hl'
      exact (hL i (by omega)).1
    · rw [hll]
      refine ⟨hfl len hl, hlt, .inr ⟨g, off, cap, rfl, rfl, hl, hm, fun j hj => (hget len hl j hj).symm, fun j hj => ?_⟩⟩
      show (W.cell? ⟨g, off + j, none⟩).isSome = true
      rw [← hget cap (Nat.le_refl _) j hj, List.getElem?_eq_getElem (by rw [hfl cap (Nat.le_refl _)]; exact hj)]
      rfl

/-- Bytes inside of what came in. -/
theorem inner_bytes {H : Type} {enc : TypeId × Value → H} {P : Program} {W : World} {t e : TypeId} {fuel : Nat} {cs : List Value} {x : DataW H × List MemPlace}
    (ht : P.underlying t = some (.slice e)) (he : P.underlying e = some (.int .u8)) (hc : P.cellsOf e = 1) (h : DataW.trod enc P W 0 (fun _ => true) true fuel t cs = some x) :
    ∃ (v : Value) (bs : List Int) (own : Nat), cs = [v] ∧ SlZ W.heap.size (AH.ofWorld W) 1 v bs.length (bs.map fun b => Value.int .u8 b) own ∧ ∀ b ∈ bs, 0 ≤ b ∧ b < 256 := by
  rcases open_ints ht he hc h with ⟨rfl, _⟩ | ⟨a, len, cap, zs, rfl, _, hl, hm, hz, _, hcell, hwf⟩
  · exact ⟨_, [], 0, rfl, .inl (SlA.nil _ _ _), by simp⟩
  · simp only [if_true] at hz
    have hlen : (zs.take len).length = len := by simp; omega
    refine ⟨_, zs.take len, if cap = 0 then 0 else a.block + 1, rfl, ?_, fun b hb => ?_⟩
    · rw [hlen]
      by_cases h0 : cap = 0
      · rw [if_pos h0]
        have : len = 0 := by omega
        subst this; subst h0
        exact .inr ⟨⟨a, rfl⟩, rfl, by simp, rfl⟩
      · rw [if_neg h0]
        exact .inl (SlA.ofWorld (zs := zs) hz hl hm (by omega) (fun i hi => hcell i (by omega)) rfl)
    · have := hwf b (List.mem_of_mem_take hb)
      simp only [Lit.wf, Bool.and_eq_true, decide_eq_true_eq] at this
      have h1 : 0 ≤ b := this.1
      have h2 : b ≤ 255 := this.2
      omega

structure Ac5 where
  K : Int
  A : Int
  B : Int
  N : Int
  v : Value
  bs : List Int
  own : Nat
def Ac5.cells (a : Ac5) : List Value := [.int .u8 a.K, .int .u8 a.A, .int .u8 a.B, .int .i64 a.N, a.v]
theorem ac5_len (a : Ac5) : a.cells.length = 5 := rfl
structure Ac5Ok (nx : Nat) (H : AH) (a : Ac5) : Prop where
  K : 0 ≤ a.K ∧ a.K < 256
  A : 0 ≤ a.A ∧ a.A < 256
  B : 0 ≤ a.B ∧ a.B < 256
  N : -9223372036854775808 ≤ a.N ∧ a.N ≤ 9223372036854775807
  s : SlZ nx H 1 a.v a.bs.length (a.bs.map fun b => Value.int .u8 b) a.own
def fitAc (nx : Nat) (H : AH) (l : List Value) : Prop := ∃ a : Ac5, l = a.cells ∧ Ac5Ok nx H a
theorem ac5_of {nx : Nat} {H : AH} : ∀ (ls : List (List Value)), (∀ l ∈ ls, fitAc nx H l) → ∃ acts : List Ac5, acts.length = ls.length ∧ ls.flatten = acts.flatMap Ac5.cells ∧ ∀ a ∈ acts, Ac5Ok nx H a
  | [], _ => ⟨[], rfl, rfl, by simp⟩
  | l :: r, h => by
    obtain ⟨acts, h1, h2, h3⟩ := ac5_of r (fun l hl => h l (by simp [hl]))
    obtain ⟨a, rfl, ha⟩ := h l (by simp)
    refine ⟨a :: acts, by simp [h1], by rw [List.flatten_cons, h2]; rfl, fun x hx => ?_⟩
    rcases List.mem_cons.1 hx with rfl | hx
    · exact ha
    · exact h3 x hx
theorem fit_ac {H : Type} {enc : TypeId × Value → H} {P : Program} {W : World} {t t8 t64 tb : TypeId} {f0 f1 f2 f3 f4 : Field} {fuel : Nat} {cs : List Value} {x : DataW H × List MemPlace}
    (ht : P.underlying t = some (.struct #[f0, f1, f2, f3, f4])) (hz : P.cellsOf t = 5) (e8 : P.underlying t8 = some (.int .u8)) (e64 : P.underlying t64 = some (.int .i64)) (eb : P.underlying tb = some (.slice t8)) (c8 : P.cellsOf t8 = 1) (c64 : P.cellsOf t64 = 1) (cb : P.cellsOf tb = 1)
    (h0 : f0.type = t8 ∧ f0.offset = 0) (h1 : f1.type = t8 ∧ f1.offset = 1) (h2 : f2.type = t8 ∧ f2.offset = 2) (h3 : f3.type = t64 ∧ f3.offset = 3) (h4 : f4.type = tb ∧ f4.offset = 4)
    (h : DataW.trod enc P W 0 (fun _ => true) true fuel t cs = some x) : fitAc W.heap.size (AH.ofWorld W) cs := by
  obtain ⟨xs, n, rfl, _, hlen, hxl, hf⟩ := DataW.trod_struct ht h
  rw [hz] at hlen
  have hxl : xs.length = 5 := hxl
  obtain ⟨w0, w1, w2, w3, w4, rfl⟩ : ∃ a b c d e, cs = [a, b, c, d, e] := by
    match cs, hlen with
    | [a, b, c, d, e], _ => exact ⟨a, b, c, d, e, rfl⟩
  have g0 := hf 0 f0 rfl
  have g1 := hf 1 f1 rfl
  have g2 := hf 2 f2 rfl
  have g3 := hf 3 f3 rfl
  have g4 := hf 4 f4 rfl
  rw [h0.1, h0.2, c8, List.getElem?_eq_getElem (by omega)] at g0
  rw [h1.1, h1.2, c8, List.getElem?_eq_getElem (by omega)] at g1
  rw [h2.1, h2.2, c8, List.getElem?_eq_getElem (by omega)] at g2
  rw [h3.1, h3.2, c64, List.getElem?_eq_getElem (by omega)] at g3
  rw [h4.1, h4.2, cb, List.getElem?_eq_getElem (by omega)] at g4
  simp only [List.drop_zero, List.drop_succ_cons, List.take_succ_cons, List.take_zero] at g0 g1 g2 g3 g4
  obtain ⟨n0, q0, _, wf0⟩ := DataW.trod_int e8 g0
  obtain ⟨n1, q1, _, wf1⟩ := DataW.trod_int e8 g1
  obtain ⟨n2, q2, _, wf2⟩ := DataW.trod_int e8 g2
  obtain ⟨n3, q3, _, wf3⟩ := DataW.trod_int e64 g3
  obtain ⟨v, bs, own, q4, hs, hb⟩ := inner_bytes eb e8 c8 g4
  simp only [List.cons.injEq, and_true] at q0 q1 q2 q3 q4
  subst q0; subst q1; subst q2; subst q3; subst q4
  simp only [Lit.wf, Bool.and_eq_true, decide_eq_true_eq] at wf0 wf1 wf2 wf3
  refine ⟨⟨n0, n1, n2, n3, w4, bs, own⟩, rfl, ⟨?_, ?_, ?_, wf3, hs⟩⟩
  · have a1 : 0 ≤ n0 := wf0.1
    have a2 : n0 ≤ 255 := wf0.2
    show 0 ≤ n0 ∧ n0 < 256
    omega
  · have a1 : 0 ≤ n1 := wf1.1
    have a2 : n1 ≤ 255 := wf1.2
    show 0 ≤ n1 ∧ n1 < 256
    omega
  · have a1 : 0 ≤ n2 := wf2.1
    have a2 : n2 ≤ 255 := wf2.2
    show 0 ≤ n2 ∧ n2 < 256
    omega
end Go.Proofs.YtngnbafididkcaaGreat
end
