/- The document's Prefixes: those of some changes, each once, rising. The document's Rows: what some changes come to. -/
import Derived.Test.YtngnbafididkcaaGreatG3
import Derived.Test.YtngnbafididkcaaGreatN14
import Derived.Test.YtngnbafididkcaaGreatK1
section
namespace Go.Proofs.YtngnbafididkcaaGreat
open Go.RowKit
set_option linter.unusedSimpArgs false

def ltQ (x y : Int × Int) : Prop := x.1 < y.1 ∨ (x.1 = y.1 ∧ x.2 < y.2)
def ahdQ (x y : Int × Int) : Bool := decide (x.1 < y.1 ∨ (x.1 = y.1 ∧ x.2 < y.2))
theorem aheadQ_c {lo : Nat} (x y : Int × Int) (H : AH) (nx : Nat) : ACalls Tryz.prog lo 107 #[.agg #[.int .u32 x.1, .int .u8 x.2], .agg #[.int .u32 y.1, .int .u8 y.2]] H nx (fun v H' nx' => v = .bool (ahdQ x y) ∧ nx ≤ nx' ∧ Kp (fun _ => False) nx H H') := by
  refine ACalls.withLo fun hlo => ?_
  refine acalls_of_awp L107 Tryz.func107 rfl (by kernel_rfl) ?_
  simp (disch := omega) only [go_sem, ↓reduceIte ]
  intro p hp
  simp (disch := omega) only [go_sem, ↓reduceIte ]
  intro q hq
  unfold ahdQ
  by_cases h1 : x.1 < y.1
  · simp (disch := omega) only [go_sem, ↓reduceIte , h1]
    exact ⟨by omega, (by repeat first | exact Kp.refl _ _ _ | refine Kp.dropT ?_ (.inl (by omega)) | refine Kp.put ?_ (.inl (by omega)) | refine Kp.new ?_ (by omega) | refine Kp.put ?_ (.inr (by omega)) | refine Kp.newO ?_ (by omega) | refine Kp.setO ?_ (.inl (by omega)) | refine Kp.setO ?_ (.inr (by omega)) | refine Kp.trans0 ?_ (by assumption) (by omega) | refine Kp.transS ?_ (by assumption) (by omega) (fun b hb hT => by first | omega | (dsimp only at hT ⊢; omega) | (simp only at hT ⊢; omega))) ⟩
  · by_cases h2 : x.1 = y.1
    · simp (disch := omega) only [go_sem, ↓reduceIte , h2]
      refine ⟨?_, by omega, (by repeat first | exact Kp.refl _ _ _ | refine Kp.dropT ?_ (.inl (by omega)) | refine Kp.put ?_ (.inl (by omega)) | refine Kp.new ?_ (by omega) | refine Kp.put ?_ (.inr (by omega)) | refine Kp.newO ?_ (by omega) | refine Kp.setO ?_ (.inl (by omega)) | refine Kp.setO ?_ (.inr (by omega)) | refine Kp.trans0 ?_ (by assumption) (by omega) | refine Kp.transS ?_ (by assumption) (by omega) (fun b hb hT => by first | omega | (dsimp only at hT ⊢; omega) | (simp only at hT ⊢; omega))) ⟩
      simp
    · simp (disch := omega) only [go_sem, ↓reduceIte , h1, h2]
      refine ⟨?_, by omega, (by repeat first | exact Kp.refl _ _ _ | refine Kp.dropT ?_ (.inl (by omega)) | refine Kp.put ?_ (.inl (by omega)) | refine Kp.new ?_ (by omega) | refine Kp.put ?_ (.inr (by omega)) | refine Kp.newO ?_ (by omega) | refine Kp.setO ?_ (.inl (by omega)) | refine Kp.setO ?_ (.inr (by omega)) | refine Kp.trans0 ?_ (by assumption) (by omega) | refine Kp.transS ?_ (by assumption) (by omega) (fun b hb hT => by first | omega | (dsimp only at hT ⊢; omega) | (simp only at hT ⊢; omega))) ⟩
      simp [h1, h2]
theorem loadN_kp {H H' : AH} {b : Nat} (h : ∀ o, H'.c b o = H.c b o) (k o : Nat) : loadN H' b o k = loadN H b o k := by
  induction k generalizing o with
  | zero => rfl
  | succ k ih => rw [loadN_succ, loadN_succ, h, ih]
structure P7K (nx1 : Nat) (H1 : AH) (ps : List (Int × Int)) (x : Int × Int) (s v : Value) (i b5 : Nat) (m : Nat) (env : Env) (H : AH) (nx k : Nat) : Prop where
  hm : m = ps.length - k
  hk : k ≤ ps.length
  henv : env = [(0, s), (3, v), (4, .int .i64 i), (5, .pointer (some ⟨b5, 0, none⟩)), (6, .int .i64 k)]
  hx : nx1 ≤ nx
  hkp : Kp (fun _ => False) nx1 H1 H
  lt : ∀ j y, j < k → ps[j]? = some y → ltQ y x
noncomputable def p7K : Code := codeAt [.T, .T, .H, .T, .I, .I, .T, .H, .I, .T, .T, .H, .I] ((Tryz.f69.body).getD .skip)
set_option maxHeartbeats 4000000 in
set_option maxRecDepth 20000 in
theorem p7_place {lo nx1 : Nat} {H1 : AH} {ps : List (Int × Int)} {x : Int × Int} {s v : Value} {own i b5 : Nat} {K0 : Env → AH → Nat → Prop} {Q : Exit → Env → AH → Nat → Prop} (hs : SlA nx1 H1 2 v ps.length (pxC ps) own) (l5 : loadN H1 b5 0 2 = some [.int .u32 x.1, .int .u8 x.2]) (b5l : b5 < nx1) (hl : ps.length ≤ 1000000)
    (hK : ∀ H nx (k : Nat) rest, nx1 ≤ nx → Kp (fun _ => False) nx1 H1 H → k ≤ ps.length → (∀ j y, j < k → ps[j]? = some y → ltQ y x) → (∀ y, ps[k]? = some y → ¬ ltQ y x) → K0 ((0, s) :: (3, v) :: (4, .int .i64 i) :: (5, .pointer (some ⟨b5, 0, none⟩)) :: (6, .int .i64 k) :: rest) H nx) :
    awp Tryz.prog lo L69 p7K (blockQ 2 (thenQ K0 Q)) [(0, s), (3, v), (4, .int .i64 i), (5, .pointer (some ⟨b5, 0, none⟩)), (6, .int .i64 (0 : Nat))] H1 nx1 := by
  have hcode : p7K = codeAt [.T, .T, .H, .T, .I, .I, .T, .H, .I, .T, .T, .H, .I] ((Tryz.f69.body).getD .skip) := rfl
  simp only [Tryz.f69, Option.getD_some, codeAt_H, codeAt_T, codeAt_I, codeAt_L, codeAt_C, codeAt_P, codeAt_nil] at hcode
  rw [hcode]
  clear hcode
  refine awp_loop (fun m env H nx => ∃ k, P7K nx1 H1 ps x s v i b5 m env H nx k) ps.length ⟨0, ⟨by omega, by omega, rfl, Nat.le_refl _, Kp.refl _ _ _, fun j y hj => by omega⟩⟩ (fun m env H nx ⟨k, hI⟩ hn => ?_)
  obtain ⟨hm, hk, henv, hx, hkp, hlt⟩ := hI
  subst henv
  have hs1 := hs.kp hkp hx (by simp)
  have l51 : loadN H b5 0 2 = some [.int .u32 x.1, .int .u8 x.2] := by
    rw [loadN_kp (fun o => hkp.cell0 b5 o b5l)]
    exact l5
  obtain ⟨aa, ac, rfl⟩ := hs.form
  by_cases hkl : k < ps.length
  · obtain ⟨g, off, cap, hv, hgo⟩ := hs.open (by omega)
    simp only [Value.slice.injEq, true_and] at hv
    obtain ⟨rfl, rfl⟩ := hv
    have hx0 : ps[k]? = some ps[k] := List.getElem?_eq_getElem hkl
    generalize ps[k] = y at hx0
    have hld := px_load hs1 hx0
    unfold pxL at hld
    have hcast : ((k : Int) + 1) = ((k + 1 : Nat) : Int) := by omega
    refine awp_draw ord69x7 (by kernel_rfl) ?_
    simp (disch := omega) only [go_sem, ↓reduceIte , ord69x7, hld, l51]
    refine (aheadQ_c y x _ _).mono fun v H2 nx2 _ ⟨hv, hx2, hk2⟩ => ?_
    subst hv
    have hk12 := hkp.trans (U := fun _ => False) hk2 hx (fun _ _ h => h) (fun _ _ h => h)
    cases hb : ahdQ y x with
    | true =>
      have hyx : ltQ y x := by
        unfold ahdQ at hb
        unfold ltQ
        exact of_decide_eq_true hb
      simp (disch := omega) only [go_sem, ↓reduceIte , ord69x7, hld, l51, hcast]
      refine ⟨dkeep_kp hk2, ps.length - (k + 1), by omega, k + 1, ⟨rfl, by omega, rfl, by omega, hk12, fun j z hj hz => ?_⟩⟩
      by_cases hjk : j = k
      · subst hjk
        rw [hx0] at hz
        cases hz
        exact hyx
      · exact hlt j z (by omega) hz
    | false =>
      have hyx : ¬ ltQ y x := by
        unfold ahdQ at hb
        unfold ltQ
        exact of_decide_eq_false hb
      simp (disch := omega) only [go_sem, ↓reduceIte , ord69x7, hld, l51]
      refine ⟨dkeep_kp hk2, ?_⟩
      exact hK _ _ k _ (by omega) hk12 (by omega) hlt (fun z hz => by rw [hx0] at hz; cases hz; exact hyx)
  · have ek : k = ps.length := by omega
    have hone := hs.one
    refine awp_draw ord69x7 (by kernel_rfl) ?_
    simp (disch := omega) only [go_sem, ↓reduceIte , ord69x7, hone]
    exact hK _ _ k _ (by omega) hkp (by omega) hlt (fun z hz => by rw [List.getElem?_eq_none (by omega)] at hz; cases hz)
theorem pxC_lenQ (l : List (Int × Int)) : (pxC l).length = 2 * l.length := by
  induction l with
  | nil => rfl
  | cons a l ih => rw [pxC_flat, List.flatMap_cons, List.length_append, ← pxC_flat, ih, List.length_cons]; show 2 + _ = _; omega
noncomputable def p7P : Code := codeAt [.T, .T, .H, .T, .I, .I, .T, .H, .I, .T, .T, .T, .T] ((Tryz.f69.body).getD .skip)
set_option maxHeartbeats 4000000 in
set_option maxRecDepth 20000 in
/-- It is put in. -/
theorem p7_put {lo nx : Nat} {H : AH} {ps : List (Int × Int)} {x : Int × Int} {s v : Value} {own i b5 k : Nat} {rest : Env} {Q : Exit → Env → AH → Nat → Prop} (hlo : lo ≤ nx) (hs : SlA nx H 2 v ps.length (pxC ps) own) (l5 : loadN H b5 0 2 = some [.int .u32 x.1, .int .u8 x.2]) (b5l : b5 < nx) (hl : ps.length ≤ 1000) (hk : k ≤ ps.length)
    (hK : ∀ H' nx' v' own' rest', nx ≤ nx' → Kp (fun _ => False) nx H H' → SlA nx' H' 2 v' (ps.take k ++ [x] ++ ps.drop k).length (pxC (ps.take k ++ [x] ++ ps.drop k)) own' → (own' = 0 ∨ nx < own') → Q .normal ((0, s) :: (3, v') :: (4, .int .i64 i) :: rest') H' nx') :
    awp Tryz.prog lo L69 p7P Q ((0, s) :: (3, v) :: (4, .int .i64 i) :: (5, .pointer (some ⟨b5, 0, none⟩)) :: (6, .int .i64 k) :: rest) H nx := by
  have hcode : p7P = codeAt [.T, .T, .H, .T, .I, .I, .T, .H, .I, .T, .T, .T, .T] ((Tryz.f69.body).getD .skip) := rfl
  simp only [Tryz.f69, Option.getD_some, codeAt_H, codeAt_T, codeAt_I, codeAt_L, codeAt_C, codeAt_P, codeAt_nil] at hcode
  rw [hcode]
  clear hcode
  obtain ⟨aa, ac, rfl⟩ := hs.form
  have hcap : ps.length ≤ ac := by
    rcases hs.2.2 with ⟨_, h0, _⟩ | ⟨g, off, cap, hv, _, hc, _⟩
    · omega
    · simp only [Value.slice.injEq, true_and] at hv
      omega
  simp (disch := omega) only [go_sem, ↓reduceIte ]
  rw [slice_h sl46 (by omega) (by omega)]
  have hcut1 := hs.cut (l := 0) (h := k) (m := ac) (by omega) (by omega) (by omega) (by omega)
  have e1 : (((pxC ps).drop (0 * 2)).take ((k - 0) * 2)) = pxC (ps.take k) := by
    rw [Nat.zero_mul, List.drop_zero, Nat.sub_zero, pxC_flat, pxC_flat, flat_take (f := pxL) (fun _ => rfl)]
  rw [e1, Nat.sub_zero] at hcut1
  rw [Int.toNat_natCast]
  generalize hcv1 : cutS aa 2 ac 0 k = cv1 at hcut1 ⊢
  obtain ⟨ca1, cb1, rfl⟩ := hcut1.form
  simp (disch := omega) only [go_sem, ↓reduceIte ]
  refine appendQ_two (aw_append sl46 zero30 rfl by30 (SlA.nil _ _ _) (hcut1.src sl46 pxC_one) (by simp only [maxLen]; omega) (by omega) (.inl rfl) fun v6 H6 nx6 own6 hn6 hs6 ho6 hk6 _ => ?_)
  rw [Nat.zero_add, List.nil_append] at hs6
  have hk6' : Kp (fun _ => False) nx H H6 := hk6.mono (Nat.le_refl _) (fun b _ h => by omega)
  have hone6 := hs6.one
  have l56 : loadN H6 b5 0 2 = some [.int .u32 x.1, .int .u8 x.2] := by rw [loadN_kp (fun o => hk6'.cell0 b5 o b5l)]; exact l5
  simp (disch := omega) only [go_sem, ↓reduceIte , hone6, l56]
  refine buildSQ_all (n := 1) [.agg #[.int .u32 x.1, .int .u8 x.2]] sl46 zero30 (by omega) (by omega) rfl (by simp [cells_agg]) fun f hf => ?_
  have hlit := px_lit H6 f 30 x.1 x.2
  have hs6n := hs6.new (vs := ([Value.agg #[.int .u32 x.1, .int .u8 x.2]].flatMap fun v => v.cells.toList).toArray) (e := 30) hf
  have kf : Kp (fun _ => False) nx6 H6 (H6.new f ([Value.agg #[.int .u32 x.1, .int .u8 x.2]].flatMap fun v => v.cells.toList).toArray 30) := (by repeat first | exact Kp.refl _ _ _ | refine Kp.dropT ?_ (.inl (by omega)) | refine Kp.put ?_ (.inl (by omega)) | refine Kp.new ?_ (by omega) | refine Kp.put ?_ (.inr (by omega)) | refine Kp.newO ?_ (by omega) | refine Kp.setO ?_ (.inl (by omega)) | refine Kp.setO ?_ (.inr (by omega)) | refine Kp.trans0 ?_ (by assumption) (by omega) | refine Kp.transS ?_ (by assumption) (by omega) (fun b hb hT => by first | omega | (dsimp only at hT ⊢; omega) | (simp only at hT ⊢; omega))) 
  have hle6 := hs6.le
  simp (disch := omega) only [go_sem, ↓reduceIte , hone6]
  refine appendQ_two (aw_append sl46 zero30 rfl by30 hs6n (hlit.src sl46 pxC_one) (by simp only [maxLen]; omega) (by omega) (by omega) fun v7 H7 nx7 own7 hn7 hs7 ho7 hk7 _ => ?_)
  have hone7 := hs7.one
  have hk67 : Kp (fun _ => False) nx H H7 := ((hk6'.trans (U := fun _ => False) kf hn6 (fun _ _ h => h) (fun _ _ h => h)).trans (U := fun b => nx ≤ b) hk7 (by omega) (fun _ _ h => h.elim) (fun b _ h => by omega)).mono (Nat.le_refl _) (fun b hb h => by omega)
  simp (disch := omega) only [go_sem, ↓reduceIte , hone7]
  rw [slice_l sl46 (by omega) (by omega)]
  have hcut2 := hs.cut (l := k) (h := ps.length) (m := ac) (by omega) (by omega) (by omega) (by omega)
  have e2 : (((pxC ps).drop (k * 2)).take ((ps.length - k) * 2)) = pxC (ps.drop k) := by
    rw [pxC_flat, pxC_flat, flat_drop (f := pxL) (fun _ => rfl), List.take_of_length_le (by rw [← pxC_flat, pxC_lenQ, List.length_drop]; omega)]
  rw [e2] at hcut2
  rw [Int.toNat_natCast]
  generalize hcv2 : cutS aa 2 ac k ps.length = cv2 at hcut2 ⊢
  obtain ⟨ca2, cb2, rfl⟩ := hcut2.form
  have hle7 := hs7.le
  simp (disch := omega) only [go_sem, ↓reduceIte , hone7]
  refine appendQ_two (aw_append sl46 zero30 rfl by30 hs7 ((hcut2.kp hk67 (by omega) (by simp)).src sl46 pxC_one) (by simp only [maxLen]; omega) (by omega) (by omega) fun v8 H8 nx8 own8 hn8 hs8 ho8 hk8 _ => ?_)
  have hone8 := hs8.one
  have hk68 : Kp (fun _ => False) nx H H8 := (hk67.trans (U := fun b => nx ≤ b) hk8 (by omega) (fun _ _ h => h.elim) (fun b _ h => by omega)).mono (Nat.le_refl _) (fun b hb h => by omega)
  simp (disch := omega) only [go_sem, ↓reduceIte , hone8]
  refine hK _ _ _ own8 _ (by omega) hk68 ?_ (by omega)
  have en : (ps.take k ++ [x] ++ ps.drop k).length = k + 1 + (ps.length - k) := by
    rw [List.length_append, List.length_append, List.length_take, List.length_drop, List.length_singleton]
    omega
  rw [en, pxC_append, pxC_append]
  exact hs8
noncomputable def p7T0 : Code := ((Tryz.f69.body).getD .skip)
structure P7I (nx0 : Nat) (H0 : AH) (l : List Chg) (s : Value) (m : Nat) (env : Env) (H : AH) (nx i : Nat) (ps : List (Int × Int)) (v : Value) (own : Nat) : Prop where
  hm : m = l.length - i
  hi : i ≤ l.length
  henv : ∃ rest, env = (0, s) :: (3, v) :: (4, .int .i64 i) :: rest
  hx : nx0 ≤ nx
  hk : Kp (fun _ => False) nx0 H0 H
  sl : SlA nx H 2 v ps.length (pxC ps) own
  ow : own = 0 ∨ nx0 < own
  srt : ps.Pairwise ltQ
  mem : ∀ p ∈ ps, ∃ c ∈ l, c.addr = p.1 ∧ c.len = p.2
  len : ps.length ≤ i
theorem put_sorted {ps : List (Int × Int)} (h : ps.Pairwise ltQ) {x : Int × Int} {k : Nat} (hk : k ≤ ps.length) (h1 : ∀ j y, j < k → ps[j]? = some y → ltQ y x) (h2 : ∀ y, ps[k]? = some y → ¬ ltQ y x ∧ y ≠ x) : (ps.take k ++ [x] ++ ps.drop k).Pairwise ltQ := by
  have hlt : ∀ z ∈ ps.drop k, ltQ x z := fun z hz => by
    obtain ⟨j, hj, rfl⟩ := List.getElem_of_mem hz
    rw [List.getElem_drop]
    rw [List.length_drop] at hj
    have hy : ps[k]? = some ps[k] := List.getElem?_eq_getElem (by omega)
    obtain ⟨g1, g2⟩ := h2 _ hy
    have hxk : ltQ x ps[k] := by
      unfold ltQ at g1 ⊢
      by_cases e1 : x.1 = (ps[k]).1
      · by_cases e2 : x.2 = (ps[k]).2
        · exact absurd (Prod.ext e1.symm e2.symm) g2
        · omega
      · omega
    by_cases hj0 : j = 0
    · subst hj0
      exact hxk
    · rw [List.pairwise_iff_getElem] at h
      have h3 := h k (k + j) (by omega) (by omega) (by omega)
      unfold ltQ at hxk h3 ⊢
      omega
  rw [List.pairwise_append, List.pairwise_append]
  refine ⟨⟨h.sublist (List.take_sublist _ _), List.pairwise_singleton _ _, fun a ha b hb => ?_⟩, h.sublist (List.drop_sublist _ _), fun a ha b hb => ?_⟩
  · rw [List.mem_singleton] at hb
    subst hb
    obtain ⟨j, hj, rfl⟩ := List.getElem_of_mem ha
    rw [List.getElem_take]
    rw [List.length_take] at hj
    exact h1 j _ (by omega) (List.getElem?_eq_getElem (by omega))
  · rcases List.mem_append.1 ha with ha | ha
    · obtain ⟨j, hj, rfl⟩ := List.getElem_of_mem ha
      obtain ⟨j2, hj2, rfl⟩ := List.getElem_of_mem hb
      rw [List.getElem_take, List.getElem_drop]
      rw [List.length_take] at hj
      rw [List.length_drop] at hj2
      rw [List.pairwise_iff_getElem] at h
      exact h j (k + j2) (by omega) (by omega) (by omega)
    · rw [List.mem_singleton] at ha
      subst ha
      exact hlt b hb
set_option maxHeartbeats 4000000 in
set_option maxRecDepth 20000 in
theorem prefixes07_c {lo nx : Nat} {H : AH} {s : Value} {l : List Chg} {owns : Nat} (hs : SlA nx H 8 s l.length (chCells l) owns) (hl : l.length ≤ 1000) :
    ACalls Tryz.prog lo 69 #[s] H nx (fun v H' nx' => ∃ ps own, SlA nx' H' 2 v ps.length (pxC ps) own ∧ (own = 0 ∨ nx < own) ∧ ps.Pairwise ltQ ∧ (∀ p ∈ ps, ∃ c ∈ l, c.addr = p.1 ∧ c.len = p.2) ∧ ps.length ≤ l.length ∧ nx ≤ nx' ∧ Kp (fun _ => False) nx H H') := by
  refine ACalls.withLo fun hlo => ?_
  refine acalls_of_awp (c := p7T0) L69 Tryz.func69 rfl (by kernel_rfl) ?_
  have hcode : p7T0 = .seq (codeAt [.H] ((Tryz.f69.body).getD .skip)) (.seq (codeAt [.T, .H] ((Tryz.f69.body).getD .skip)) (.seq (.seq (codeAt [.T, .T, .H, .H] ((Tryz.f69.body).getD .skip)) (.block 0 (.loop (.seq (codeAt [.T, .T, .H, .T, .I, .I, .H] ((Tryz.f69.body).getD .skip)) (.seq (.block 1 (.seq (codeAt [.T, .T, .H, .T, .I, .I, .T, .H, .I, .H] ((Tryz.f69.body).getD .skip)) (.seq (codeAt [.T, .T, .H, .T, .I, .I, .T, .H, .I, .T, .H] ((Tryz.f69.body).getD .skip)) (.seq (.block 2 p7K) (.seq (codeAt [.T, .T, .H, .T, .I, .I, .T, .H, .I, .T, .T, .T, .H] ((Tryz.f69.body).getD .skip)) p7P))))) (codeAt [.T, .T, .H, .T, .I, .I, .T, .T] ((Tryz.f69.body).getD .skip))))))) (codeAt [.T, .T, .T] ((Tryz.f69.body).getD .skip)))) := rfl
  simp only [Tryz.f69, Option.getD_some, codeAt_H, codeAt_T, codeAt_I, codeAt_L, codeAt_C, codeAt_P, codeAt_nil] at hcode
  rw [hcode]
  clear hcode
  obtain ⟨sa, sc, rfl⟩ := hs.form
  simp (disch := omega) only [go_sem, ↓reduceIte ]
  refine awp_loop (fun m env H' nx' => ∃ i ps v own, P7I nx H l (.slice sa l.length sc) m env H' nx' i ps v own) l.length ⟨0, [], .slice none 0 0, 0, ⟨by omega, by omega, ⟨_, rfl⟩, Nat.le_refl _, Kp.refl _ _ _, SlA.nil _ _ _, .inl rfl, List.Pairwise.nil, by simp, by simp⟩⟩ (fun m env H1 nx1 ⟨i, ps, v, own, hI⟩ hn => ?_)
  obtain ⟨hm, hi, ⟨rest, henv⟩, hx, hk, hsl, how, hsrt, hmem, hpl⟩ := hI
  subst henv
  have hov := hsl.one
  by_cases hil : i < l.length
  · obtain ⟨g, off, cap, hv, hgo⟩ := hs.open (by omega)
    simp only [Value.slice.injEq, true_and] at hv
    obtain ⟨rfl, rfl⟩ := hv
    have hs1 := hs.kp hk hx (by simp)
    have hx0 : l[i]? = some l[i] := List.getElem?_eq_getElem hil
    have hcm : l[i] ∈ l := List.getElem_mem hil
    generalize l[i] = c at hx0 hcm
    have hld := ch_load hs1 hx0
    have hcast : ((i : Int) + 1) = ((i + 1 : Nat) : Int) := by omega
    have key : ∀ (j : Nat) (w : Value), j < 8 → c.cells[j]? = some w → H1.c g (off + i * 8 + j) = some w := fun j w hj hw => by
      have h := hs1.cells.1 (8 * i + j) w (by rw [chCells_get l i c hx0 j hj, hw])
      rw [← h]
      congr 1
      omega
    have q3 : H1.c g (off + i * 8 + 3) = some (.int .u32 c.addr) := key 3 _ (by omega) rfl
    have q4 : H1.c g (off + i * 8 + 4) = some (.int .u8 c.len) := key 4 _ (by omega) rfl
    have l2 : loadN H1 g (off + i * 8 + 3) 2 = some [.int .u32 c.addr, .int .u8 c.len] := by simp (disch := omega) only [go_sem, ↓reduceIte , q3, q4]
    simp (disch := omega) only [go_sem, ↓reduceIte , l2, q3, q4]
    intro b5 hb5
    simp (disch := omega) only [go_sem, ↓reduceIte ]
    have k5 : Kp (fun _ => False) nx1 H1 (((H1.new b5 #[.int .u32 0, .int .u8 0] 30).put b5 0 (.int .u32 c.addr)).put b5 1 (.int .u8 c.len)) := (by repeat first | exact Kp.refl _ _ _ | refine Kp.dropT ?_ (.inl (by omega)) | refine Kp.put ?_ (.inl (by omega)) | refine Kp.new ?_ (by omega) | refine Kp.put ?_ (.inr (by omega)) | refine Kp.newO ?_ (by omega) | refine Kp.setO ?_ (.inl (by omega)) | refine Kp.setO ?_ (.inr (by omega)) | refine Kp.trans0 ?_ (by assumption) (by omega) | refine Kp.transS ?_ (by assumption) (by omega) (fun b hb hT => by first | omega | (dsimp only at hT ⊢; omega) | (simp only at hT ⊢; omega))) 
    have l5 : loadN (((H1.new b5 #[.int .u32 0, .int .u8 0] 30).put b5 0 (.int .u32 c.addr)).put b5 1 (.int .u8 c.len)) b5 0 2 = some [.int .u32 c.addr, .int .u8 c.len] := by simp (disch := omega) only [go_sem, ↓reduceIte ]
    generalize (((H1.new b5 #[.int .u32 0, .int .u8 0] 30).put b5 0 (.int .u32 c.addr)).put b5 1 (.int .u8 c.len)) = M at k5 l5 ⊢
    have hslM := hsl.kp k5 (show nx1 ≤ b5 + 1 by omega) (by simp)
    refine p7_place (x := (c.addr, c.len)) hslM l5 (by omega) (by omega) (fun H2 nx2 k rest hx2 hk2 hkl hlt hge => ?_)
    have hsl2 := hslM.kp hk2 hx2 (by simp)
    have l52 : loadN H2 b5 0 2 = some [.int .u32 c.addr, .int .u8 c.len] := by rw [loadN_kp (fun o => hk2.cell0 b5 o (by omega))]; exact l5
    have hk02 : Kp (fun _ => False) nx H H2 := (hk.trans (U := fun _ => False) k5 hx (fun _ _ h => h) (fun _ _ h => h)).trans (U := fun _ => False) hk2 (by omega) (fun _ _ h => h) (fun _ _ h => h)
    have fin : (∀ y, ps[k]? = some y → y ≠ (c.addr, c.len)) → ∀ (H' : AH) (nx' : Nat) (v' : Value) (own' : Nat) (rest' : Env), nx2 ≤ nx' → Kp (fun _ => False) nx2 H2 H' → SlA nx' H' 2 v' (ps.take k ++ [(c.addr, c.len)] ++ ps.drop k).length (pxC (ps.take k ++ [(c.addr, c.len)] ++ ps.drop k)) own' → (own' = 0 ∨ nx2 < own') → ∃ m', m' < m ∧ ∃ i' ps' v'' own'', P7I nx H l (.slice (some ⟨g, off, none⟩) l.length sc) m' ((0, .slice (some ⟨g, off, none⟩) l.length sc) :: (3, v') :: (4, .int .i64 ((i + 1 : Nat) : Int)) :: rest') H' nx' i' ps' v'' own'' := fun hne H' nx' v' own' rest' hn' hk' hs' ho' =>
      ⟨l.length - (i + 1), by omega, i + 1, _, v', own', ⟨rfl, by omega, ⟨_, rfl⟩, by omega, hk02.trans (U := fun _ => False) hk' (by omega) (fun _ _ h => h) (fun _ _ h => h), hs', by omega, put_sorted hsrt hkl hlt (fun y hy => ⟨hge y hy, hne y hy⟩), fun p hp => by
        rcases List.mem_append.1 hp with hp | hp
        · rcases List.mem_append.1 hp with hp | hp
          · exact hmem p (List.mem_of_mem_take hp)
          · rw [List.mem_singleton] at hp
            subst hp
            exact ⟨c, hcm, rfl, rfl⟩
        · exact hmem p (List.mem_of_mem_drop hp), by
        rw [List.length_append, List.length_append, List.length_take, List.length_drop, List.length_singleton]
        omega⟩⟩
    by_cases hkp : k < ps.length
    · obtain ⟨g3, off3, cap3, hv3, hgo3⟩ := hsl2.open (by omega)
      subst hv3
      have hy0 : ps[k]? = some ps[k] := List.getElem?_eq_getElem hkp
      have hyl := px_load hsl2 hy0
      have hgk := hge _ hy0
      generalize ps[k] = y at hy0 hyl hgk
      unfold pxL at hyl
      refine awp_draw ord69x9 (by kernel_rfl) ?_
      by_cases he : y.1 = c.addr ∧ y.2 = c.len
      · have he1 := he.1
        have he2 := he.2
        simp (disch := omega) only [go_sem, ↓reduceIte , ord69x9, hyl, l52, he1, he2, hcast]
        exact ⟨l.length - (i + 1), by omega, i + 1, ps, _, own, ⟨rfl, by omega, ⟨_, rfl⟩, by omega, hk02, hsl2, how, hsrt, hmem, by omega⟩⟩
      · have heb : (decide (y.1 = c.addr) && decide (y.2 = c.len)) = false := by
          rw [Bool.eq_false_iff]
          simp only [Ne, Bool.and_eq_true, decide_eq_true_eq]
          exact he
        simp (disch := omega) only [go_sem, ↓reduceIte , ord69x9, hyl, l52, heb]
        refine p7_put (x := (c.addr, c.len)) (by omega) hsl2 l52 (by omega) (by omega) (by omega) (fun H' nx' v' own' rest' hn' hk' hs' ho' => ?_)
        simp (disch := omega) only [go_sem, ↓reduceIte , hcast]
        exact fin (fun z hz hzc => by rw [hy0] at hz; cases hz; exact he ⟨congrArg Prod.fst hzc, congrArg Prod.snd hzc⟩) H' nx' v' own' _ hn' hk' hs' ho'
    · obtain ⟨aa3, ac3, rfl⟩ := hsl2.form
      have hone2 := hsl2.one
      refine awp_draw ord69x9 (by kernel_rfl) ?_
      simp (disch := omega) only [go_sem, ↓reduceIte , ord69x9, hone2]
      refine p7_put (x := (c.addr, c.len)) (by omega) hsl2 l52 (by omega) (by omega) (by omega) (fun H' nx' v' own' rest' hn' hk' hs' ho' => ?_)
      simp (disch := omega) only [go_sem, ↓reduceIte , hcast]
      exact fin (fun z hz => by rw [List.getElem?_eq_none (by omega)] at hz; cases hz) H' nx' v' own' _ hn' hk' hs' ho'
  · simp (disch := omega) only [go_sem, ↓reduceIte , hov]
    exact ⟨ps, own, hsl, how, hsrt, hmem, by omega, hx, hk⟩
end Go.Proofs.YtngnbafididkcaaGreat
end
section
namespace Go.Proofs.YtngnbafididkcaaGreat
open Go.RowKit
set_option linter.unusedSimpArgs false

def RowRec.cells (r : RowRec) : List Value := [.int .u32 r.a, .int .u8 r.n, .bool r.has, .int .u32 r.a2, .int .u8 r.n2, .int .i64 r.via, .int .u16 r.m2, .int .u16 r.s2, .int .u16 r.s3, .int .u16 r.m3]
def rrCells (l : List RowRec) : List Value := l.flatMap RowRec.cells
theorem rrCells_one {l : List RowRec} : ∀ v ∈ rrCells l, v.oneCell' = true := by
  intro v hv
  simp only [rrCells, List.mem_flatMap] at hv
  obtain ⟨c, _, hv⟩ := hv
  simp only [RowRec.cells, List.mem_cons, List.not_mem_nil, or_false] at hv
  rcases hv with rfl | rfl | rfl | rfl | rfl | rfl | rfl | rfl | rfl | rfl <;> rfl
theorem rrCells_append (a b : List RowRec) : rrCells (a ++ b) = rrCells a ++ rrCells b := by simp [rrCells]
theorem rr_load {nx : Nat} {H : AH} {g off c n own : Nat} {l : List RowRec} (hs : SlA nx H 10 (.slice (some ⟨g, off, none⟩) n c) n (rrCells l) own) {i : Nat} {x : RowRec} (hi : l[i]? = some x) : loadN H g (off + i * 10) 10 = some x.cells := flat_load (f := RowRec.cells) (fun _ => rfl) hs hi
theorem rr_lit (H : AH) (f : Nat) (e : TypeId) (r : RowRec) : SlA (f + 1) (H.new f ([Value.agg #[.int .u32 r.a, .int .u8 r.n, .bool r.has, .int .u32 r.a2, .int .u8 r.n2, .int .i64 r.via, .int .u16 r.m2, .int .u16 r.s2, .int .u16 r.s3, .int .u16 r.m3]].flatMap fun v => v.cells.toList).toArray e) 10 (.slice (some ⟨f, 0, none⟩) 1 1) 1 (rrCells [r]) (f + 1) :=
  SlA.ofNew rfl (by omega) (by simp [maxLen]) (by simp [cells_agg]) (fun j _ => by simp [cells_agg, rrCells, RowRec.cells])
structure RowOk (l : List Chg) (r : RowRec) : Prop where
  px : pxRightC r.a r.n = true
  n0 : 0 ≤ r.n
  s : 0 ≤ r.s3 ∧ r.s3 ≤ 65535
  m : 0 ≤ r.m3 ∧ r.m3 < 65535
def ltW (x y : RowRec) : Prop := ltQ (x.a, x.n) (y.a, y.n)
structure R7I (nx0 : Nat) (H0 : AH) (l : List Chg) (ps : List (Int × Int)) (s v4 : Value) (m : Nat) (env : Env) (H : AH) (nx i : Nat) (rs : List RowRec) (v : Value) (own : Nat) : Prop where
  hm : m = ps.length - i
  hi : i ≤ ps.length
  henv : ∃ rest, env = (0, s) :: (3, v) :: (4, v4) :: (5, .int .i64 i) :: rest
  hx : nx0 ≤ nx
  hk : Kp (fun _ => False) nx0 H0 H
  sl : SlA nx H 10 v rs.length (rrCells rs) own
  ow : own = 0 ∨ nx0 < own
  srt : rs.Pairwise ltW
  low : ∀ r ∈ rs, ∀ j p, i ≤ j → ps[j]? = some p → ltQ (r.a, r.n) p
  ok : ∀ r ∈ rs, RowOk l r
  len : rs.length ≤ i
set_option maxHeartbeats 4000000 in
set_option maxRecDepth 20000 in
theorem rows07r_c {lo nx : Nat} {H : AH} {s : Value} {l : List Chg} {owns : Nat} (hs : SlA nx H 8 s l.length (chCells l) owns) (hok : ∀ c ∈ l, ChOk c) (hl : l.length ≤ 1000) :
    ACalls Tryz.prog lo 33 #[s] H nx (fun v H' nx' => ∃ rs own, SlA nx' H' 10 v rs.length (rrCells rs) own ∧ (own = 0 ∨ nx < own) ∧ rs.Pairwise ltW ∧ (∀ r ∈ rs, RowOk l r) ∧ rs.length ≤ l.length ∧ nx ≤ nx' ∧ Kp (fun _ => False) nx H H') := by
  refine ACalls.withLo fun hlo => ?_
  refine acalls_of_awp L33 Tryz.func33 rfl (by kernel_rfl) ?_
  simp (disch := omega) only [go_sem, ↓reduceIte ]
  refine (prefixes07_c hs hl).mono fun v4 H1 nx1 _ ⟨ps, own4, hs4, how4, hsrt4, hmem4, hpl4, hx1, hk1⟩ => ?_
  have hone4 := hs4.one
  have hsl1 := hs.kp hk1 hx1 (by simp)
  obtain ⟨sa, sc, rfl⟩ := hs.form
  simp (disch := omega) only [go_sem, ↓reduceIte , hone4]
  refine awp_loop (fun m env H' nx' => ∃ i rs v own, R7I nx1 H1 l ps (.slice sa l.length sc) v4 m env H' nx' i rs v own) ps.length ⟨0, [], .slice none 0 0, 0, ⟨by omega, by omega, ⟨_, rfl⟩, Nat.le_refl _, Kp.refl _ _ _, SlA.nil _ _ _, .inl rfl, List.Pairwise.nil, by simp, by simp, by simp⟩⟩ (fun m env H2 nx2 ⟨i, rs, v, own, hI⟩ hn => ?_)
  obtain ⟨hm, hi, ⟨rest, henv⟩, hx, hk, hsl, how, hsrt, hlow, hro, hrl⟩ := hI
  subst henv
  have hov := hsl.one
  have hs42 := hs4.kp hk hx (by simp)
  obtain ⟨a4, c4, rfl⟩ := hs4.form
  by_cases hil : i < ps.length
  · obtain ⟨g, off, cap, hv, hgo⟩ := hs4.open (by omega)
    simp only [Value.slice.injEq, true_and] at hv
    obtain ⟨rfl, rfl⟩ := hv
    have hx0 : ps[i]? = some ps[i] := List.getElem?_eq_getElem hil
    have hpm := hmem4 ps[i] (List.getElem_mem hil)
    have hld := px_load hs42 hx0
    have hnext : ∀ j p, i + 1 ≤ j → ps[j]? = some p → ltQ ps[i] p := fun j p hj hp => by
      obtain ⟨hj2, rfl⟩ := List.getElem?_eq_some_iff.1 hp
      rw [List.pairwise_iff_getElem] at hsrt4
      exact hsrt4 i j hil hj2 (by omega)
    generalize ps[i] = p at hx0 hpm hld hnext
    unfold pxL at hld
    have hcast : ((i : Int) + 1) = ((i + 1 : Nat) : Int) := by omega
    simp (disch := omega) only [go_sem, ↓reduceIte , hld]
    refine (row07x_c (hsl1.kp hk hx (by simp)) hok p.1 p.2).mono fun v5 H3 nx3 _ ⟨r, ok, hv5, hx3, hk3, ra, rn, rs3, rm3⟩ => ?_
    subst hv5
    simp (disch := omega) only [go_sem, ↓reduceIte ]
    intro b6 hb6
    simp (disch := omega) only [go_sem, ↓reduceIte ]
    have k6 : Kp (fun _ => False) nx3 H3 (((((((((((H3.new b6 #[.int .u32 0, .int .u8 0, .bool false, .int .u32 0, .int .u8 0, .int .i64 0, .int .u16 0, .int .u16 0, .int .u16 0, .int .u16 0] 71).put b6 0 (.int .u32 r.a)).put b6 1 (.int .u8 r.n)).put b6 (1 + 1) (.bool r.has)).put b6 (1 + 1 + 1) (.int .u32 r.a2)).put b6 (1 + 1 + 1 + 1) (.int .u8 r.n2)).put b6 (1 + 1 + 1 + 1 + 1) (.int .i64 r.via)).put b6 (1 + 1 + 1 + 1 + 1 + 1) (.int .u16 r.m2)).put b6 (1 + 1 + 1 + 1 + 1 + 1 + 1) (.int .u16 r.s2)).put b6 (1 + 1 + 1 + 1 + 1 + 1 + 1 + 1) (.int .u16 r.s3)).put b6 (1 + 1 + 1 + 1 + 1 + 1 + 1 + 1 + 1) (.int .u16 r.m3)) := (by repeat first | exact Kp.refl _ _ _ | refine Kp.dropT ?_ (.inl (by omega)) | refine Kp.put ?_ (.inl (by omega)) | refine Kp.new ?_ (by omega) | refine Kp.put ?_ (.inr (by omega)) | refine Kp.newO ?_ (by omega) | refine Kp.setO ?_ (.inl (by omega)) | refine Kp.setO ?_ (.inr (by omega)) | refine Kp.trans0 ?_ (by assumption) (by omega) | refine Kp.transS ?_ (by assumption) (by omega) (fun b hb hT => by first | omega | (dsimp only at hT ⊢; omega) | (simp only at hT ⊢; omega))) 
    have l6 : loadN (((((((((((H3.new b6 #[.int .u32 0, .int .u8 0, .bool false, .int .u32 0, .int .u8 0, .int .i64 0, .int .u16 0, .int .u16 0, .int .u16 0, .int .u16 0] 71).put b6 0 (.int .u32 r.a)).put b6 1 (.int .u8 r.n)).put b6 (1 + 1) (.bool r.has)).put b6 (1 + 1 + 1) (.int .u32 r.a2)).put b6 (1 + 1 + 1 + 1) (.int .u8 r.n2)).put b6 (1 + 1 + 1 + 1 + 1) (.int .i64 r.via)).put b6 (1 + 1 + 1 + 1 + 1 + 1) (.int .u16 r.m2)).put b6 (1 + 1 + 1 + 1 + 1 + 1 + 1) (.int .u16 r.s2)).put b6 (1 + 1 + 1 + 1 + 1 + 1 + 1 + 1) (.int .u16 r.s3)).put b6 (1 + 1 + 1 + 1 + 1 + 1 + 1 + 1 + 1) (.int .u16 r.m3)) b6 0 10 = some r.cells := by
      unfold RowRec.cells
      simp (disch := omega) only [go_sem, ↓reduceIte ]
    generalize (((((((((((H3.new b6 #[.int .u32 0, .int .u8 0, .bool false, .int .u32 0, .int .u8 0, .int .i64 0, .int .u16 0, .int .u16 0, .int .u16 0, .int .u16 0] 71).put b6 0 (.int .u32 r.a)).put b6 1 (.int .u8 r.n)).put b6 (1 + 1) (.bool r.has)).put b6 (1 + 1 + 1) (.int .u32 r.a2)).put b6 (1 + 1 + 1 + 1) (.int .u8 r.n2)).put b6 (1 + 1 + 1 + 1 + 1) (.int .i64 r.via)).put b6 (1 + 1 + 1 + 1 + 1 + 1) (.int .u16 r.m2)).put b6 (1 + 1 + 1 + 1 + 1 + 1 + 1) (.int .u16 r.s2)).put b6 (1 + 1 + 1 + 1 + 1 + 1 + 1 + 1) (.int .u16 r.s3)).put b6 (1 + 1 + 1 + 1 + 1 + 1 + 1 + 1 + 1) (.int .u16 r.m3)) = N at k6 l6 ⊢
    have hkN : Kp (fun _ => False) nx2 H2 N := hk3.trans (U := fun _ => False) k6 hx3 (fun _ _ h => h) (fun _ _ h => h)
    have hk1N : Kp (fun _ => False) nx1 H1 N := hk.trans (U := fun _ => False) hkN hx (fun _ _ h => h) (fun _ _ h => h)
    have hslN := hsl.kp hkN (show nx2 ≤ b6 + 1 by omega) (by simp)
    cases ok with
    | false =>
      simp (disch := omega) only [go_sem, ↓reduceIte , hcast]
      exact ⟨ps.length - (i + 1), by omega, i + 1, rs, v, own, ⟨rfl, by omega, ⟨_, rfl⟩, by omega, hk1N, hslN, how, hsrt, fun r hr j q hj hq => hlow r hr j q (by omega) hq, hro, by omega⟩⟩
    | true =>
      unfold RowRec.cells at l6
      simp (disch := omega) only [go_sem, ↓reduceIte , l6, hov]
      refine buildSQ_all (n := 1) [.agg #[.int .u32 r.a, .int .u8 r.n, .bool r.has, .int .u32 r.a2, .int .u8 r.n2, .int .i64 r.via, .int .u16 r.m2, .int .u16 r.s2, .int .u16 r.s3, .int .u16 r.m3]] sl72 zero71 (by omega) (by omega) rfl (by simp [cells_agg]) fun f hf => ?_
      have hlit := rr_lit N f 71 r
      have hsn := hslN.new (vs := ([Value.agg #[.int .u32 r.a, .int .u8 r.n, .bool r.has, .int .u32 r.a2, .int .u8 r.n2, .int .i64 r.via, .int .u16 r.m2, .int .u16 r.s2, .int .u16 r.s3, .int .u16 r.m3]].flatMap fun v => v.cells.toList).toArray) (e := 71) hf
      have kf : Kp (fun _ => False) (b6 + 1) N (N.new f ([Value.agg #[.int .u32 r.a, .int .u8 r.n, .bool r.has, .int .u32 r.a2, .int .u8 r.n2, .int .i64 r.via, .int .u16 r.m2, .int .u16 r.s2, .int .u16 r.s3, .int .u16 r.m3]].flatMap fun v => v.cells.toList).toArray 71) := (by repeat first | exact Kp.refl _ _ _ | refine Kp.dropT ?_ (.inl (by omega)) | refine Kp.put ?_ (.inl (by omega)) | refine Kp.new ?_ (by omega) | refine Kp.put ?_ (.inr (by omega)) | refine Kp.newO ?_ (by omega) | refine Kp.setO ?_ (.inl (by omega)) | refine Kp.setO ?_ (.inr (by omega)) | refine Kp.trans0 ?_ (by assumption) (by omega) | refine Kp.transS ?_ (by assumption) (by omega) (fun b hb hT => by first | omega | (dsimp only at hT ⊢; omega) | (simp only at hT ⊢; omega))) 
      have hle := hslN.le
      simp (disch := omega) only [go_sem, ↓reduceIte , hov]
      refine appendQ_two (aw_append sl72 zero71 rfl by71 hsn (hlit.src sl72 rrCells_one) (by simp only [maxLen]; omega) (by omega) (by omega) fun v7 H7 nx7 own7 hn7 hs7 ho7 hk7 _ => ?_)
      have hone7 := hs7.one
      have hk17 : Kp (fun _ => False) nx1 H1 H7 := ((hk1N.trans (U := fun _ => False) kf (by omega) (fun _ _ h => h) (fun _ _ h => h)).trans (U := fun b => nx1 ≤ b) hk7 (by omega) (fun _ _ h => h.elim) (fun b _ h => by omega)).mono (Nat.le_refl _) (fun b hb h => by omega)
      simp (disch := omega) only [go_sem, ↓reduceIte , hone7, hcast]
      obtain ⟨c, hc, hca, hcl⟩ := hpm
      have hco := hok c hc
      refine ⟨ps.length - (i + 1), by omega, i + 1, rs ++ [r], v7, own7, ⟨rfl, by omega, ⟨_, rfl⟩, by omega, hk17, ?_, by omega, ?_, fun z hz j q hj hq => ?_, fun z hz => ?_, by rw [List.length_append, List.length_singleton]; omega⟩⟩
      · rw [List.length_append, rrCells_append]
        exact hs7
      · rw [List.pairwise_append]
        refine ⟨hsrt, List.pairwise_singleton _ _, fun a ha b hb => ?_⟩
        rw [List.mem_singleton] at hb
        subst hb
        have := hlow a ha i p (Nat.le_refl i) hx0
        unfold ltW
        rw [ra, rn]
        exact this
      · rcases List.mem_append.1 hz with hz | hz
        · exact hlow z hz j q (by omega) hq
        · rw [List.mem_singleton] at hz
          subst hz
          rw [ra, rn]
          exact hnext j q hj hq
      · rcases List.mem_append.1 hz with hz | hz
        · exact hro z hz
        · rw [List.mem_singleton] at hz
          subst hz
          exact ⟨by rw [ra, rn, ← hca, ← hcl]; exact hco.px, by rw [rn, ← hcl]; exact hco.l0, rs3, rm3 rfl⟩
  · simp (disch := omega) only [go_sem, ↓reduceIte , hov]
    exact ⟨rs, own, hsl, by omega, hsrt, hro, by omega, by omega, hk1.trans (U := fun _ => False) hk hx1 (fun _ _ h => h) (fun _ _ h => h)⟩
end Go.Proofs.YtngnbafididkcaaGreat
end
