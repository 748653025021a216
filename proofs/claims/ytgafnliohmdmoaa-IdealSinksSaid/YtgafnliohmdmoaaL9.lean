/- OUR OWN LOGIC OVER THE KIT'S. 9: what writes, makes memory, cuts, converts. Nothing of the program stands here. -/
import Derived.Test.YtgafnliohmdmoaaL8
namespace Go.Proofs.Ytgafnliohmdmoaa
open Go.RowKit

/-- Cells written one behind the other. -/
def AH.puts (H : AH) (b : Nat) : Nat → List Value → AH
  | _, [] => H
  | o, v :: r => (H.put b o v).puts b (o + 1) r

theorem puts_nil (H : AH) (b o : Nat) : H.puts b o [] = H := (rfl)
theorem puts_cons (H : AH) (b o : Nat) (v : Value) (r : List Value) : H.puts b o (v :: r) = (H.put b o v).puts b (o + 1) r := (rfl)

theorem aw_unpeek {α : Type} {P : Program} {lo : Nat} {s : Sem α} : ∀ {a : α} {K : α → AH → Nat → Prop} {H : AH} {nx : Nat}, peek P H s = some a → aw P lo s K H nx → K a H nx := by
  induction s with
  | pure b => intro a K H nx h hk; simp only [peek, Option.some.injEq] at h; subst h; exact hk
  | load m ad k ih =>
    intro a K H nx h hk
    simp only [peek] at h
    obtain ⟨bl, off, sp⟩ := ad
    obtain ⟨rfl, v, hv, hk⟩ := hk
    simp only at hv
    simp only [Option.isSome_none, Bool.false_eq_true, if_false, hv] at h
    exact ih v h hk
  | shape r k ih =>
    intro a K H nx h hk
    rcases hk with ⟨x, hx, hk⟩ | ⟨hx, _⟩
    · simp only [peek, hx] at h
      exact ih _ h hk
    · simp only [peek, hx] at h
      cases h
  | frozen ad k ih =>
    intro a K H nx h hk
    simp only [peek] at h
    split at h
    · rcases hk with ⟨_, hk⟩ | hk
      · exact ih _ h hk
      · exact ih _ h (hk false)
    · cases h
  | getObj r k ih =>
    intro a K H nx h hk
    obtain ⟨x, hx, hk⟩ := hk
    simp only [peek, hx] at h
    exact ih _ h hk
  | program k ih => intro a K H nx h hk; exact ih P h hk
  | mark m k ih => intro a K H nx h hk; exact ih h hk
  | choose q k ih =>
    intro a K H nx h hk
    simp only [peek] at h
    split at h
    · rename_i hf
      exact ih 0 h (hk.1 hf)
    · cases h
  | _ => intro a K H nx h hk; simp [peek] at h

section
variable {P : Program} {lo : Nat} {H : AH} {nx : Nat}

theorem aw_load (b o : Nat) (K : Value → AH → Nat → Prop) : aw P lo (load ⟨b, o, none⟩) K H nx = ∃ v, H.c b o = some v ∧ K v H nx := by
  simp only [load, aw, true_and]

theorem aw_of_peek {α : Type} {s : Sem α} {a : α} (h : peek P H s = some a) (K : α → AH → Nat → Prop) (hk : K a H nx) : aw P lo s K H nx := aw_peek h hk

theorem aw_store {b o : Nat} {v : Value} {K : Unit → AH → Nat → Prop} (hlo : lo ≤ b) (hv : v.oneCell' = true) (hc : (H.c b o).isSome = true) (hk : K () (H.put b o v) nx) : aw P lo (store ⟨b, o, none⟩ v) K H nx := by
  simp only [store, aw]
  exact ⟨trivial, hlo, hv, hc, hk⟩

theorem aw_storeCells {b : Nat} {K : Unit → AH → Nat → Prop} (hlo : lo ≤ b) : ∀ (vs : List Value) (o i : Nat) (H : AH), (∀ v ∈ vs, v.oneCell' = true) → (∀ j, j < vs.length → (H.c b (o + i + j)).isSome = true) → K () (H.puts b (o + i) vs) nx → aw P lo (storeCells ⟨b, o, none⟩ vs i) K H nx
  | [], o, i, H, _, _, hk => hk
  | v :: r, o, i, H, h1, hc, hk => by
    unfold storeCells
    rw [aw_then, add_none]
    refine aw_store hlo (h1 v (by simp)) (by simpa using hc 0 (by simp)) ?_
    refine aw_storeCells hlo r o (i + 1) _ (fun v hv => h1 v (by simp [hv])) (fun j hj => ?_) ?_
    · rw [put_other _ _ _ _ _ (by omega)]
      have := hc (j + 1) (by simp; omega)
      rwa [show o + i + (j + 1) = o + (i + 1) + j by omega] at this
    · rw [show o + (i + 1) = o + i + 1 by omega]
      exact hk

theorem storeQ_one {t b o : Nat} {v : Value} {K : AH → Nat → Prop} (ht : szT P t = some 1) (hv : v.oneCell' = true) (hlo : lo ≤ b) (hc : (H.c b o).isSome = true) (hk : K (H.put b o v) nx) : storeQ P lo t (.pointer (some ⟨b, o, none⟩)) v K H nx := by
  have hcells : v.cells = #[v] := by cases v <;> first | rfl | simp [Value.oneCell'] at hv
  unfold storeQ Instr.storeAt
  rw [aw_then]
  simp only [Instr.sureAddr, aw_pure]
  unfold storeVar
  rw [aw_then]
  refine aw_of_peek (by rw [peek_sizeOf, ht]) _ ?_
  simp only [hcells, List.size_toArray, List.length_cons, List.length_nil, ne_eq, not_true_eq_false, if_false]
  refine aw_storeCells hlo _ o 0 _ (by simpa using hv) (fun j hj => ?_) (by simpa [AH.puts] using hk)
  simp at hj
  subst hj
  simpa using hc

theorem storeQ_agg {t b o n : Nat} {cs : List Value} {K : AH → Nat → Prop} (ht : szT P t = some n) (hn : cs.length = n) (hv : ∀ v ∈ cs, v.oneCell' = true) (hlo : lo ≤ b) (hc : ∀ j, j < cs.length → (H.c b (o + j)).isSome = true) (hk : K (H.puts b o cs) nx) : storeQ P lo t (.pointer (some ⟨b, o, none⟩)) (.agg cs.toArray) K H nx := by
  unfold storeQ Instr.storeAt
  rw [aw_then]
  simp only [Instr.sureAddr, aw_pure]
  unfold storeVar
  rw [aw_then]
  refine aw_of_peek (by rw [peek_sizeOf, ht]) _ ?_
  simp only [Value.cells, List.size_toArray, hn, ne_eq, not_true_eq_false, if_false]
  exact aw_storeCells hlo _ o 0 _ hv (by simpa using hc) (by simpa using hk)

theorem aw_newRow {e : TypeId} {cs : Array Value} {K : Addr → AH → Nat → Prop} (hk : ∀ n, nx ≤ n → K ⟨n, 0, none⟩ (H.new n cs e) (n + 1)) : aw P lo (newRow e cs) K H nx := by
  unfold newRow
  rw [aw_then]
  simp only [newObj, aw]
  exact hk

theorem allocQ_of {t : TypeId} {z : Value} {K : Value → AH → Nat → Prop} (hz : zeroT P t = some z) (hk : ∀ n, nx ≤ n → K (.pointer (some ⟨n, 0, none⟩)) (H.new n z.cells t) (n + 1)) : allocQ P lo t K H nx := by
  unfold allocQ Instr.alloc
  rw [aw_then]
  refine aw_of_peek (a := z) ?_ _ ?_
  · unfold zeroValue
    rw [peek_then, peek_typeInfo]
    unfold zeroT at hz
    cases h : P.info? t with
    | none => rw [h] at hz; cases hz
    | some i =>
      rw [h] at hz
      simp only [Option.bind_some] at hz ⊢
      rw [hz]; rfl
  · simp only [newVar]
    rw [aw_then]
    exact aw_newRow hk

theorem boxQ_of {t : TypeId} {v : Value} {K : Value → AH → Nat → Prop} (hk : ∀ n, nx ≤ n → K (.pointer (some ⟨n, 0, none⟩)) (H.new n v.cells t) (n + 1)) : boxQ P lo t v K H nx := by
  unfold boxQ Instr.box newVar
  rw [aw_then]
  exact aw_newRow hk

theorem peek_stuck {α : Type} (s : String) : peek P H (stuck s : Sem α) = none := (rfl)

theorem buildSQ_of {t e : TypeId} {n k : Nat} {z : Value} {ps : Array (Nat × Value)} {cs : Array Value} {K : Value → AH → Nat → Prop} (ht : slT P t = some (e, k)) (hz : zeroT P e = some z) (hpos : n * k ≠ 0) (hmax : n * k ≤ 2 ^ 24)
    (hfill : Instr.fill (fun i => some (i * k, k)) ((Array.range (n * k)).map fun i => z.cells[i % z.cells.size]!) ps.toList = some cs)
    (hk : ∀ m, nx ≤ m → K (.slice (some ⟨m, 0, none⟩) n n) (H.new m cs e) (m + 1)) : buildSQ P lo t n ps K H nx := by
  unfold slT at ht
  cases hu : P.underlying t with
  | none => rw [hu] at ht; cases ht
  | some d =>
    rw [hu] at ht
    cases d <;> simp only [reduceCtorEq] at ht
    rename_i e'
    simp only [Option.map_eq_some_iff, Prod.mk.injEq] at ht
    obtain ⟨k', hk', rfl, rfl⟩ := ht
    unfold buildSQ Instr.buildSlice
    rw [aw_then]
    refine aw_of_peek (by rw [peek_underlying, hu]) _ ?_
    simp only
    rw [aw_then]
    refine aw_of_peek (by rw [peek_sizeOf, hk']) _ ?_
    rw [if_neg (by omega)]
    simp only [hpos, if_false]
    rw [aw_then]
    refine aw_of_peek (a := z) ?_ _ ?_
    · unfold zeroValue
      rw [peek_then, peek_typeInfo]
      unfold zeroT at hz
      cases h : P.info? e' with
      | none => rw [h] at hz; cases hz
      | some i =>
        rw [h] at hz
        simp only [Option.bind_some] at hz ⊢
        rw [hz]; rfl
    · rw [aw_then, aw_pure]
      simp only [hfill]
      rw [aw_then]
      exact aw_newRow hk

/-- An empty literal. -/
theorem buildSQ_nil {t e : TypeId} {k : Nat} {K : Value → AH → Nat → Prop} (ht : slT P t = some (e, k)) (hk : ∀ m, nx ≤ m → K (.slice (some ⟨m, 0, none⟩) 0 0) (H.new m #[] e) (m + 1)) : buildSQ P lo t 0 #[] K H nx := by
  unfold slT at ht
  cases hu : P.underlying t with
  | none => rw [hu] at ht; cases ht
  | some d =>
    rw [hu] at ht
    cases d <;> simp only [reduceCtorEq] at ht
    rename_i e'
    simp only [Option.map_eq_some_iff, Prod.mk.injEq] at ht
    obtain ⟨k', hk', rfl, rfl⟩ := ht
    unfold buildSQ Instr.buildSlice
    rw [aw_then]
    refine aw_of_peek (by rw [peek_underlying, hu]) _ ?_
    simp only
    rw [aw_then]
    refine aw_of_peek (by rw [peek_sizeOf, hk']) _ ?_
    simp only [Nat.zero_mul]
    rw [if_neg (by omega)]
    simp only [if_true]
    rw [aw_then, aw_pure]
    simp only [Instr.fill]
    rw [aw_then]
    have e0 : ∀ f : Nat → Value, (Array.range 0).map f = #[] := fun f => by simp
    rw [e0]
    exact aw_newRow (K := fun a H nx => K (.slice (some a) 0 0) H nx) (cs := #[]) fun n hn => hk n hn

theorem convQ_int {s d : TypeId} {k k' : IntKind} {n : Int} {K : Value → AH → Nat → Prop} (hs : (P.underlying s).isSome = true) (hd : intT P d = some k) : convQ P lo s d (.int k' n) K H nx = K (.int k (k.wrap n)) H nx := by
  have h : peek P H (convert s d (.int k' n)) = some (.int k (k.wrap n)) := by
    unfold convert
    obtain ⟨us, hus⟩ := Option.isSome_iff_exists.1 hs
    unfold intT at hd
    cases hu : P.underlying d with
    | none => rw [hu] at hd; cases hd
    | some ud =>
      rw [hu] at hd
      cases ud <;> simp only [reduceCtorEq, Option.some.injEq] at hd
      subst hd
      rw [peek_then, peek_underlying, hus]
      simp only [Option.bind_some]
      rw [peek_then, peek_underlying, hu]
      simp only [Option.bind_some, Conv.intToInt, peek_pure]
  unfold convQ
  exact propext ⟨fun hh => aw_unpeek h hh, aw_of_peek h K⟩

end

end Go.Proofs.Ytgafnliohmdmoaa
