/- RoutesBlocked: what Blocked returns. -/
import Derived.Test.YtngnbafididkcaaGreatR5
import Derived.Test.YtngnbafididkcaaGreatL20
import Derived.Test.YtngnbafididkcaaGreatV0
namespace Go.Proofs.YtngnbafididkcaaGreat
open Go.RowKit
set_option linter.unusedSimpArgs false

theorem findM_shift {xs : List Value} : ∀ (M : List (List Value × Value)) (i : Nat), (findM xs M i).map (·.2) = (findM xs M 0).map (·.2)
  | [], _ => rfl
  | p :: r, i => by
    simp only [findM]
    split
    · rfl
    · rw [findM_shift r (i + 1), findM_shift r (0 + 1)]
theorem lookM_nil (xs : List Value) : lookM xs [] = none := rfl
theorem lookM_cons (xs : List Value) (p : List Value × Value) (r : List (List Value × Value)) : lookM xs (p :: r) = if eqLs xs p.1 = true then some p.2 else lookM xs r := by
  unfold lookM
  simp only [findM]
  split
  · rfl
  · exact findM_shift r (0 + 1)
theorem lookM_set {ks : List (Option IntKind)} {xs ys : List Value} {v : Value} (hx : fitL ks xs) (hy : fitL ks ys) : ∀ (M : List (List Value × Value)), (∀ p ∈ M, fitL ks p.1) → lookM xs (setM ys v M) = if eqLs xs ys = true then some v else lookM xs M
  | [], _ => by rw [setM, lookM_cons, lookM_nil]
  | p :: r, h => by
    have hp := h p (by simp)
    rw [setM]
    by_cases e : eqLs ys p.1 = true
    · rw [if_pos e, lookM_cons]
      have := eqLs_eq ks ys p.1 hy hp e
      split
      · rfl
      · rename_i hne
        rw [lookM_cons, if_neg (by rw [← this]; exact hne)]
    · rw [if_neg e, lookM_cons, lookM_cons, lookM_set hx hy r fun q hq => h q (by simp [hq])]
      by_cases e2 : eqLs xs p.1 = true
      · have := eqLs_eq ks xs p.1 hx hp e2
        subst this
        rw [if_pos e2, if_pos e2, if_neg]
        intro h3
        have := eqLs_eq ks _ _ hx hy h3
        subst this
        exact e e2
      · rw [if_neg e2, if_neg e2]

def pxKey (a n : Int) : List Value := [.int .u32 a, .int .u8 n]
theorem pxKey_fit (a n : Int) : fitL [some .u32, some .u8] (pxKey a n) := ⟨a, _, rfl, n, _, rfl, rfl⟩
theorem pxKey_eq (a n b m : Int) : eqLs (pxKey a n) (pxKey b m) = (decide (a = b) && decide (n = m)) := by
  simp only [pxKey, eqLs, eqLeaf, Bool.and_true]
  rw [Bool.eq_iff_iff]
  simp

def goodAt (feas : Tld → Bool) (a n : Int) (t : Tld) : Bool := decide (t.addr = a) && decide (t.len = n) && feas t
def goodP (feas : Tld → Bool) (ts : List Tld) (a n : Int) : Bool := ts.any (goodAt feas a n)
/-- The map: what is good. -/
structure GoodM (feas : Tld → Bool) (ts : List Tld) (ob : Obj) : Prop where
  q : ∃ M, mapIs true [some .u32, some .u8] ob M ∧ ∀ a n, (lookM (pxKey a n) M).getD (.bool false) = .bool (goodP feas ts a n)
theorem goodP_perm {feas : Tld → Bool} {ts ts' : List Tld} (h : ts.Perm ts') (a n : Int) : goodP feas ts a n = goodP feas ts' a n := by
  unfold goodP
  rw [Bool.eq_iff_iff, List.any_eq_true, List.any_eq_true]
  exact ⟨fun ⟨x, hx, h2⟩ => ⟨x, h.mem_iff.1 hx, h2⟩, fun ⟨x, hx, h2⟩ => ⟨x, h.mem_iff.2 hx, h2⟩⟩
theorem goodP_snoc {feas : Tld → Bool} {ts : List Tld} {k : Nat} {t : Tld} (h : ts[k]? = some t) (a n : Int) : goodP feas (ts.take (k + 1)) a n = (goodP feas (ts.take k) a n || goodAt feas a n t) := by
  unfold goodP
  rw [List.take_add_one, h, Option.toList_some, List.any_append]
  simp

def prCells (l : List Rt) : List Value := l.flatMap fun t => [Value.int .u32 t.addr, .int .u8 t.len]
theorem prCells_one {l : List Rt} : ∀ v ∈ prCells l, v.oneCell' = true := by
  intro v hv
  simp only [prCells, List.mem_flatMap] at hv
  obtain ⟨c, _, hv⟩ := hv
  simp only [List.mem_cons, List.not_mem_nil, or_false] at hv
  rcases hv with rfl | rfl <;> rfl
theorem prCells_append (a b : List Rt) : prCells (a ++ b) = prCells a ++ prCells b := by simp [prCells]
theorem pr_load {nx : Nat} {H : AH} {g off c n own : Nat} {l : List Rt} (hs : SlA nx H 2 (.slice (some ⟨g, off, none⟩) n c) n (prCells l) own) {i : Nat} {x : Rt} (hi : l[i]? = some x) : loadN H g (off + i * 2) 2 = some [Value.int .u32 x.addr, .int .u8 x.len] := flat_load (f := fun t : Rt => [Value.int .u32 t.addr, .int .u8 t.len]) (fun _ => rfl) hs hi

def blOf (good : Int → Int → Bool) (t : Tld) : Option Rt := if good t.addr t.len = true then none else some ⟨t.addr, t.len, t.who, 0, 0⟩
def blR (good : Int → Int → Bool) (ts : List Tld) : List Rt := (ts.filterMap (blOf good)).foldl selPut []
theorem blR_snoc {good : Int → Int → Bool} {ts : List Tld} {k : Nat} {t : Tld} (h : ts[k]? = some t) : blR good (ts.take (k + 1)) = match blOf good t with | none => blR good (ts.take k) | some x => selPut (blR good (ts.take k)) x := by
  unfold blR
  rw [List.take_add_one, h, Option.toList_some, List.filterMap_append, List.foldl_append]
  cases hb : blOf good t with
  | none => simp [List.filterMap_cons, hb]
  | some x => simp [List.filterMap_cons, hb]
theorem blR_len (good : Int → Int → Bool) (ts : List Tld) : ∀ k, (blR good (ts.take k)).length ≤ k
  | 0 => by simp [blR]
  | k + 1 => by
    have ih := blR_len good ts k
    cases h : ts[k]? with
    | none =>
      have e : ts.take (k + 1) = ts.take k := by rw [List.take_add_one, h]; simp
      rw [e]; omega
    | some t =>
      rw [blR_snoc h]
      cases blOf good t with
      | none => simp only; omega
      | some x =>
        have := selPut_len (blR good (ts.take k)) x
        simp only; omega
theorem bl_S {good : Int → Int → Bool} {l : List Tld} (h : l.Pairwise aheadT) : SelS (l.filterMap (blOf good)) (blR good l) := by
  have := fold_S (l.filterMap (blOf good)) [] [] ⟨List.Pairwise.nil, by simp, by simp⟩ ?_
  · simpa [blR] using this
  · rw [List.nil_append, List.pairwise_filterMap]
    refine h.imp fun {t u} h x hx y hy => ?_
    unfold blOf at hx hy
    split at hx
    · cases hx
    split at hy
    · cases hy
    cases hx; cases hy
    unfold aheadT at h
    unfold ordR lessR ltP sameP
    simp only
    omega

theorem blR_m0 {good : Int → Int → Bool} : ∀ (ts : List Tld), ∀ y ∈ blR good ts, y.metric = 0 := by
  intro ts
  have h : ∀ (b : List Rt) (l : List Rt), (∀ y ∈ b, y.metric = 0) → (∀ y ∈ l, y.metric = 0) → ∀ y ∈ b.foldl selPut l, y.metric = 0 := by
    intro b
    induction b with
    | nil => intro l _ hl; exact hl
    | cons x r ih =>
      intro l hb hl
      refine ih _ (fun y hy => hb y (by simp [hy])) fun y hy => ?_
      have hx := hb x (by simp)
      unfold selPut at hy
      split at hy
      · rcases List.mem_append.1 hy with hy | hy
        · exact hl y hy
        · simp only [List.mem_singleton] at hy; subst hy; exact hx
      · split at hy
        · split at hy
          · rcases List.mem_or_eq_of_mem_set hy with hy | rfl
            · exact hl y hy
            · exact hx
          · exact hl y hy
        · rcases List.mem_append.1 hy with hy | hy
          · exact hl y hy
          · simp only [List.mem_singleton] at hy; subst hy; exact hx
  refine h _ [] (fun y hy => ?_) (by simp)
  rw [List.mem_filterMap] at hy
  obtain ⟨t, _, hy⟩ := hy
  unfold blOf at hy
  split at hy
  · cases hy
  · cases hy; rfl

structure GdI (nx1 : Nat) (H1 : AH) (feas : Tld → Bool) (ts : List Tld) (pv sv av : Value) (mp : Nat) (m : Nat) (env : Env) (H : AH) (nx k : Nat) : Prop where
  hm : m = ts.length - k
  hk : k ≤ ts.length
  henv : env = [(0, pv), (1, sv), (5, .slice none 0 0), (6, .map (some mp)), (13, av), (14, .int .i64 ts.length), (15, .int .i64 k)]
  hx : nx1 ≤ nx
  hkp : Kp (fun b => b = mp) nx1 H1 H
  ob : ∃ ob, H.o mp = some ob ∧ GoodM feas (ts.take k) ob

theorem mapPx : mapT Tryz.prog 168 = some (30, 4) := by kernel_rfl
theorem flatPx : flatT Tryz.prog 8 30 = some [some .u32, some .u8] := by kernel_rfl
theorem aggPx : isAggT Tryz.prog 30 = some true := by kernel_rfl
theorem zeroBo : zeroT Tryz.prog 4 = some (.bool false) := by kernel_rfl
theorem look_px {H : AH} {feas : Tld → Bool} {ts : List Tld} {ob : Obj} {mp : Nat} (h : GoodM feas ts ob) (ho : H.o mp = some ob) (a n : Int) : lookupV Tryz.prog H 168 (.map (some mp)) (.agg #[.int .u32 a, .int .u8 n]) false = some (.bool (goodP feas ts a n)) := by
  obtain ⟨M, hM, hl⟩ := h.q
  have := lookupV_map (P := Tryz.prog) (xs := pxKey a n) mapPx flatPx aggPx zeroBo ho hM (pxKey_fit a n)
  rw [hl] at this
  exact this
set_option maxRecDepth 20000 in
theorem set_px {lo nx : Nat} {H : AH} {feas : Tld → Bool} {ts : List Tld} {k : Nat} {t : Tld} {ob : Obj} {mp : Nat} {b : Bool} {K : AH → Nat → Prop} (ht : ts[k]? = some t) (h : GoodM feas (ts.take k) ob) (ho : H.o mp = some ob) (hlo : lo ≤ mp) (hb : b = goodP feas (ts.take (k + 1)) t.addr t.len) (hK : ∀ ob', GoodM feas (ts.take (k + 1)) ob' → K (H.setO mp ob') nx) :
    mapSetQ Tryz.prog lo 168 (.map (some mp)) (.agg #[.int .u32 t.addr, .int .u8 t.len]) (.bool b) K H nx := by
  obtain ⟨M, hM, hl⟩ := h.q
  show mapSetQ Tryz.prog lo _ _ (vOf true (pxKey t.addr t.len)) _ _ _ _
  have h0 := mapSetQ_flat (P := Tryz.prog) (lo := lo) (nx := nx) (v := .bool b) (K := K) mapPx flatPx aggPx hlo ho hM (pxKey_fit t.addr t.len)
  refine h0 fun ob' hM' => hK ob' ⟨_, hM', fun a n => ?_⟩
  obtain ⟨es, clk, _, _, hf⟩ := hM
  rw [lookM_set (pxKey_fit a n) (pxKey_fit _ _) M hf, pxKey_eq]
  by_cases e : a = t.addr ∧ n = t.len
  · obtain ⟨rfl, rfl⟩ := e
    simp [hb]
  · rw [if_neg (by simpa using e), hl, goodP_snoc ht]
    have : goodAt feas a n t = false := by
      unfold goodAt
      simp only [Bool.and_eq_false_iff, decide_eq_false_iff_not]
      omega
    rw [this, Bool.or_false]

structure BlI (nx1 : Nat) (H1 : AH) (good : Int → Int → Bool) (ts : List Tld) (av : Value) (mp : Nat) (m : Nat) (env : Env) (H : AH) (nx k : Nat) (lv : Value) (l : List Rt) (own : Nat) : Prop where
  hm : m = ts.length - k
  hk : k ≤ ts.length
  henv : env = [(5, lv), (6, .map (some mp)), (36, av), (37, .int .i64 ts.length), (38, .int .i64 k)]
  hx : nx1 ≤ nx
  hkp : Kp (fun _ => False) nx1 H1 H
  hs : SlA nx H 2 lv l.length (prCells l) own
  how : own = 0 ∨ nx1 < own
  hl : l = blR good (ts.take k)

set_option maxHeartbeats 4000000 in
set_option maxRecDepth 20000 in
theorem rblocked_c {lo : Nat} {p : Nat} {ts : List Tld} {own : Nat} {H : AH} {nx : Nat} (hR : RouA lo nx H p ts own) (hok : ∀ t ∈ ts, TdOk t) (hl : ts.length ≤ 1000000) {sv : Value} {feas : Tld → Bool}
    (hfeas : ∀ (H1 : AH) (nx1 : Nat), nx ≤ nx1 → Kp (fun _ => False) nx H H1 → ∀ t ∈ ts, ACalls Tryz.prog lo 90 #[sv, .agg #[.int .u32 t.addr, .int .u8 t.len], .agg #[.int .u16 t.seq, .int .u16 t.metric]] H1 nx1 (fun v H' nx' => v = .bool (feas t) ∧ nx1 ≤ nx' ∧ Kp (fun _ => False) nx1 H1 H')) :
    ACalls Tryz.prog lo 55 #[.pointer (some ⟨p, 0, none⟩), sv] H nx (fun v H' nx' => nx ≤ nx' ∧ Kp (fun _ => False) nx H H' ∧ ∃ (own' : Nat) (ts' : List Tld), ts'.Perm ts ∧ ts'.Pairwise (fun x y => ¬ aheadT y x) ∧ SlA nx' H' 2 v (blR (goodP feas ts) ts').length (prCells (blR (goodP feas ts) ts')) own' ∧ (own' = 0 ∨ nx < own')) := by
  refine ACalls.withLo fun hlo => ?_
  refine acalls_of_awp L55 Tryz.func55 rfl (by kernel_rfl) ?_
  simp (disch := omega) only [go_sem, ↓reduceIte ]
  intro mp hmp
  simp (disch := omega) only [go_sem, ↓reduceIte ]
  refine (rall_c (hR.kp (S := fun _ => False) (by repeat first | exact Kp.refl _ _ _ | refine Kp.dropT ?_ (.inl (by omega)) | refine Kp.put ?_ (.inl (by omega)) | refine Kp.new ?_ (by omega) | refine Kp.put ?_ (.inr (by omega)) | refine Kp.newO ?_ (by omega) | refine Kp.setO ?_ (.inl (by omega)) | refine Kp.setO ?_ (.inr (by omega)) | refine Kp.trans0 ?_ (by assumption) (by omega) | refine Kp.transS ?_ (by assumption) (by omega) (fun b hb hT => by first | omega | (dsimp only at hT ⊢; omega) | (simp only at hT ⊢; omega)))  (by omega) (by simp) (by simp)) hok hl).mono fun v H1 nx1 _ ⟨hx1, hk1, owna, ts1, hs1, hown1, hp1, hsd1⟩ => ?_
  obtain ⟨aa, ac, rfl⟩ := hs1.form
  have hlp1 : ts1.length = ts.length := hp1.length_eq
  have hmem1 : ∀ t ∈ ts1, t ∈ ts := fun t ht => hp1.mem_iff.1 ht
  simp (disch := omega) only [go_sem, ↓reduceIte ]
  refine awp_loop (fun m env H2 nx2 => ∃ k, GdI nx1 H1 feas ts1 (.pointer (some ⟨p, 0, none⟩)) sv (.slice aa ts1.length ac) mp m env H2 nx2 k) ts1.length ⟨0, ⟨rfl, by omega, rfl, Nat.le_refl _, Kp.refl _ _ _, _, ?_, ⟨[], mapIs_nil, fun a n => rfl⟩⟩⟩ (fun m env H2 nx2 ⟨k, hI⟩ hn => ?_)
  · rw [(hk1 mp (by omega) (by simp)).2.1]
    simp (disch := omega) only [go_sem, ↓reduceIte ]
  obtain ⟨hm, hk, henv, hx2, hkp, ob, hob, hG⟩ := hI
  subst henv
  by_cases hkl : k < ts1.length
  · obtain ⟨t, hx0⟩ : ∃ t, ts1[k]? = some t := ⟨_, List.getElem?_eq_getElem hkl⟩
    have htm := hmem1 t (List.mem_of_getElem? hx0)
    have hsa2 := hs1.kp hkp hx2 (by intro b hb; omega)
    obtain ⟨ga, offa, ca2, hva, hga⟩ := hs1.open (by omega)
    cases hva
    have hld := td_load hsa2 hx0
    unfold Tld.cells at hld
    simp (disch := omega) only [go_sem, ↓reduceIte , hld]
    intro d hd
    simp (disch := omega) only [go_sem, ↓reduceIte ]
    refine awp_draw ord55x6 (by kernel_rfl) ?_
    simp (disch := omega) only [go_sem, ↓reduceIte , ord55x6]
    rw [look_px hG (by simp (disch := omega) only [go_sem, ↓reduceIte , hob])]
    have hg := goodP_snoc (feas := feas) hx0
    have hgt : goodAt feas t.addr t.len t = feas t := by simp [goodAt]
    cases hgd : goodP feas (ts1.take k) t.addr t.len with
    | true =>
      simp (disch := omega) only [go_sem, ↓reduceIte ]
      refine set_px hx0 hG (by simp (disch := omega) only [go_sem, ↓reduceIte , hob]) (by omega) (by rw [hg, hgd, Bool.true_or]) fun ob' hG' => ?_
      simp (disch := omega) only [go_sem, ↓reduceIte ]
      refine ⟨dkeep_last (by kernel_rfl), ts1.length - (k + 1), by omega, k + 1, ⟨rfl, by omega, rfl, by omega, (by repeat first | exact Kp.refl _ _ _ | refine Kp.dropT ?_ (.inl (by omega)) | refine Kp.put ?_ (.inl (by omega)) | refine Kp.new ?_ (by omega) | refine Kp.put ?_ (.inr (by omega)) | refine Kp.newO ?_ (by omega) | refine Kp.setO ?_ (.inl (by omega)) | refine Kp.setO ?_ (.inr (by omega)) | refine Kp.trans0 ?_ (by assumption) (by omega) | refine Kp.transS ?_ (by assumption) (by omega) (fun b hb hT => by first | omega | (dsimp only at hT ⊢; omega) | (simp only at hT ⊢; omega))) , ob', by simp (disch := omega) only [go_sem, ↓reduceIte ], hG'⟩⟩
    | false =>
      simp (disch := omega) only [go_sem, ↓reduceIte ]
      refine (hfeas _ (d + 1) (by omega) ?_ t htm).mono fun v H4 nx4 _ ⟨hv, hx4, hk4⟩ => ?_
      · exact (by repeat first | exact Kp.refl _ _ _ | refine Kp.dropT ?_ (.inl (by omega)) | refine Kp.put ?_ (.inl (by omega)) | refine Kp.new ?_ (by omega) | refine Kp.put ?_ (.inr (by omega)) | refine Kp.newO ?_ (by omega) | refine Kp.setO ?_ (.inl (by omega)) | refine Kp.setO ?_ (.inr (by omega)) | refine Kp.trans0 ?_ (by assumption) (by omega) | refine Kp.transS ?_ (by assumption) (by omega) (fun b hb hT => by first | omega | (dsimp only at hT ⊢; omega) | (simp only at hT ⊢; omega))) 
      subst hv
      have hob4 : H4.o mp = some ob := by
        rw [(hk4 mp (by omega) (by simp)).2.1]
        simp (disch := omega) only [go_sem, ↓reduceIte , hob]
      simp (disch := omega) only [go_sem, ↓reduceIte ]
      refine ⟨dkeep_kp hk4, ?_⟩
      refine set_px hx0 hG hob4 (by omega) (by rw [hg, hgd, hgt, Bool.false_or]) fun ob' hG' => ?_
      simp (disch := omega) only [go_sem, ↓reduceIte ]
      refine ⟨dkeep_last (by kernel_rfl), ts1.length - (k + 1), by omega, k + 1, ⟨rfl, by omega, rfl, by omega, (by repeat first | exact Kp.refl _ _ _ | refine Kp.dropT ?_ (.inl (by omega)) | refine Kp.put ?_ (.inl (by omega)) | refine Kp.new ?_ (by omega) | refine Kp.put ?_ (.inr (by omega)) | refine Kp.newO ?_ (by omega) | refine Kp.setO ?_ (.inl (by omega)) | refine Kp.setO ?_ (.inr (by omega)) | refine Kp.trans0 ?_ (by assumption) (by omega) | refine Kp.transS ?_ (by assumption) (by omega) (fun b hb hT => by first | omega | (dsimp only at hT ⊢; omega) | (simp only at hT ⊢; omega))) , ob', by simp (disch := omega) only [go_sem, ↓reduceIte ], hG'⟩⟩
  · obtain rfl : k = ts1.length := by omega
    rw [List.take_length] at hG
    simp (disch := omega) only [go_sem, ↓reduceIte ]
    have hkA : Kp (fun _ => False) nx H H2 := (by repeat first | exact Kp.refl _ _ _ | refine Kp.dropT ?_ (.inl (by omega)) | refine Kp.put ?_ (.inl (by omega)) | refine Kp.new ?_ (by omega) | refine Kp.put ?_ (.inr (by omega)) | refine Kp.newO ?_ (by omega) | refine Kp.setO ?_ (.inl (by omega)) | refine Kp.setO ?_ (.inr (by omega)) | refine Kp.trans0 ?_ (by assumption) (by omega) | refine Kp.transS ?_ (by assumption) (by omega) (fun b hb hT => by first | omega | (dsimp only at hT ⊢; omega) | (simp only at hT ⊢; omega))) 
    refine (rall_c (hR.kp hkA (by omega) (by simp) (by simp)) hok hl).mono fun v H3 nx3 _ ⟨hx3, hk3, ownb, ts2, hs2, hown2, hp2, hsd2⟩ => ?_
    obtain ⟨ba, bc, rfl⟩ := hs2.form
    have hlp2 : ts2.length = ts.length := hp2.length_eq
    have hG2 : GoodM feas ts ob := by
      obtain ⟨M, hM, hl⟩ := hG.q
      exact ⟨M, hM, fun a n => by rw [hl, goodP_perm hp1]⟩
    have hob3 : H3.o mp = some ob := by rw [(hk3 mp (by omega) (by simp)).2.1]; exact hob
    simp (disch := omega) only [go_sem, ↓reduceIte ]
    refine awp_loop (fun m env H4 nx4 => ∃ k lv l own, BlI nx3 H3 (goodP feas ts) ts2 (.slice ba ts2.length bc) mp m env H4 nx4 k lv l own) ts2.length ⟨0, .slice none 0 0, [], 0, ⟨rfl, by omega, rfl, Nat.le_refl _, Kp.refl _ _ _, SlA.nil _ _ _, .inl rfl, rfl⟩⟩ (fun m env H4 nx4 ⟨k, lv, l, ownl, hI⟩ hn => ?_)
    obtain ⟨hm, hk, henv, hx4, hkp4, hs, how, hll⟩ := hI
    subst henv
    have hob4 : H4.o mp = some ob := by rw [(hkp4 mp (by omega) (by simp)).2.1]; exact hob3
    have hone := hs.one
    by_cases hkl : k < ts2.length
    · obtain ⟨t, hx0⟩ : ∃ t, ts2[k]? = some t := ⟨_, List.getElem?_eq_getElem hkl⟩
      have hsb4 := hs2.kp hkp4 hx4 (by simp)
      obtain ⟨gb, offb, cb2, hvb, hgb⟩ := hs2.open (by omega)
      cases hvb
      have hld := td_load hsb4 hx0
      unfold Tld.cells at hld
      have hstep := blR_snoc (good := goodP feas ts) hx0
      simp (disch := omega) only [go_sem, ↓reduceIte , hld]
      intro d hd
      simp (disch := omega) only [go_sem, ↓reduceIte ]
      refine awp_draw ord55x11 (by kernel_rfl) ?_
      simp (disch := omega) only [go_sem, ↓reduceIte , ord55x11]
      rw [look_px hG2 (by simp (disch := omega) only [go_sem, ↓reduceIte , hob4])]
      cases hgd : goodP feas ts t.addr t.len with
      | true =>
        simp (disch := omega) only [go_sem, ↓reduceIte ]
        refine ⟨ts2.length - (k + 1), by omega, k + 1, lv, l, ownl, ⟨rfl, by omega, rfl, by omega, (by repeat first | exact Kp.refl _ _ _ | refine Kp.dropT ?_ (.inl (by omega)) | refine Kp.put ?_ (.inl (by omega)) | refine Kp.new ?_ (by omega) | refine Kp.put ?_ (.inr (by omega)) | refine Kp.newO ?_ (by omega) | refine Kp.setO ?_ (.inl (by omega)) | refine Kp.setO ?_ (.inr (by omega)) | refine Kp.trans0 ?_ (by assumption) (by omega) | refine Kp.transS ?_ (by assumption) (by omega) (fun b hb hT => by first | omega | (dsimp only at hT ⊢; omega) | (simp only at hT ⊢; omega))) , hs.kp (S := fun _ => False) (by repeat first | exact Kp.refl _ _ _ | refine Kp.dropT ?_ (.inl (by omega)) | refine Kp.put ?_ (.inl (by omega)) | refine Kp.new ?_ (by omega) | refine Kp.put ?_ (.inr (by omega)) | refine Kp.newO ?_ (by omega) | refine Kp.setO ?_ (.inl (by omega)) | refine Kp.setO ?_ (.inr (by omega)) | refine Kp.trans0 ?_ (by assumption) (by omega) | refine Kp.transS ?_ (by assumption) (by omega) (fun b hb hT => by first | omega | (dsimp only at hT ⊢; omega) | (simp only at hT ⊢; omega)))  (by omega) (by simp), how, ?_⟩⟩
        rw [hstep, ← hll]
        unfold blOf
        rw [if_pos hgd]
      | false =>
        let x : Rt := ⟨t.addr, t.len, t.who, 0, 0⟩
        have hll2 := blR_len (goodP feas ts) ts2 k
        rw [← hll] at hll2
        have hle4 := hs.le
        have hs5 : SlA (d + 1) _ 2 lv l.length (prCells l) ownl := hs.kp (S := fun _ => False) (nx' := d + 1) (H' := ((((((((H4.new d #[.int .u32 0, .int .u8 0, .int .i64 0, .int .i64 0, .int .u16 0, .int .u16 0, .int .u64 0] 142).put d 0 (.int .u32 t.addr)).put d 1 (.int .u8 t.len)).put d (1 + 1) (.int .i64 t.who)).put d (1 + 1 + 1) (.int .i64 t.node)).put d (1 + 1 + 1 + 1) (.int .u16 t.seq)).put d (1 + 1 + 1 + 1 + 1) (.int .u16 t.metric)).put d (1 + 1 + 1 + 1 + 1 + 1) (.int .u64 t.til))) (by repeat first | exact Kp.refl _ _ _ | refine Kp.dropT ?_ (.inl (by omega)) | refine Kp.put ?_ (.inl (by omega)) | refine Kp.new ?_ (by omega) | refine Kp.put ?_ (.inr (by omega)) | refine Kp.newO ?_ (by omega) | refine Kp.setO ?_ (.inl (by omega)) | refine Kp.setO ?_ (.inr (by omega)) | refine Kp.trans0 ?_ (by assumption) (by omega) | refine Kp.transS ?_ (by assumption) (by omega) (fun b hb hT => by first | omega | (dsimp only at hT ⊢; omega) | (simp only at hT ⊢; omega)))  (by omega) (by simp)
        obtain ⟨al, cl, rfl⟩ := hs.form
        rcases List.eq_nil_or_concat l with rfl | ⟨l0, y, hly⟩
        · simp (disch := omega) only [go_sem, ↓reduceIte , List.length_nil]
          refine buildSQ_all (n := 1) [.agg #[.int .u32 t.addr, .int .u8 t.len]] sl46 zero30 (by omega) (by omega) rfl (by simp [cells_agg]) fun f hf => ?_
          have hlit : SlA (f + 1) _ 2 (.slice (some ⟨f, 0, none⟩) 1 1) 1 (prCells [x]) (f + 1) := SlA.ofNew (H := ((((((((H4.new d #[.int .u32 0, .int .u8 0, .int .i64 0, .int .i64 0, .int .u16 0, .int .u16 0, .int .u64 0] 142).put d 0 (.int .u32 t.addr)).put d 1 (.int .u8 t.len)).put d (1 + 1) (.int .i64 t.who)).put d (1 + 1 + 1) (.int .i64 t.node)).put d (1 + 1 + 1 + 1) (.int .u16 t.seq)).put d (1 + 1 + 1 + 1 + 1) (.int .u16 t.metric)).put d (1 + 1 + 1 + 1 + 1 + 1) (.int .u64 t.til))) (e := 30) (cs := ([Value.agg #[.int .u32 t.addr, .int .u8 t.len]].flatMap fun v => v.cells.toList).toArray) rfl (by omega) (by simp [maxLen]) (by simp [cells_agg]) (fun j _ => by simp [cells_agg, prCells, x])
          have hs6 := hs5.new (vs := ([Value.agg #[.int .u32 t.addr, .int .u8 t.len]].flatMap fun v => v.cells.toList).toArray) (e := 30) hf
          simp (disch := omega) only [go_sem, ↓reduceIte ]
          refine appendQ_two (aw_append sl46 zero30 rfl by30 hs6 (hlit.src sl46 prCells_one) (by simp only [maxLen]; omega) (by omega) (by omega) fun v7 H7 nx7 own7 hn7 hs7 ho7 hk7 _ => ?_)
          have hone7 := hs7.one
          simp (disch := omega) only [go_sem, ↓reduceIte , hone7]
          refine ⟨ts2.length - (k + 1), by omega, k + 1, v7, [] ++ [x], own7, ⟨rfl, by omega, rfl, by omega, (by repeat first | exact Kp.refl _ _ _ | refine Kp.dropT ?_ (.inl (by omega)) | refine Kp.put ?_ (.inl (by omega)) | refine Kp.new ?_ (by omega) | refine Kp.put ?_ (.inr (by omega)) | refine Kp.newO ?_ (by omega) | refine Kp.setO ?_ (.inl (by omega)) | refine Kp.setO ?_ (.inr (by omega)) | refine Kp.trans0 ?_ (by assumption) (by omega) | refine Kp.transS ?_ (by assumption) (by omega) (fun b hb hT => by first | omega | (dsimp only at hT ⊢; omega) | (simp only at hT ⊢; omega))) , ?_, by omega, ?_⟩⟩
          · rw [List.length_append, prCells_append]
            exact hs7
          · rw [hstep, ← hll]
            unfold blOf
            rw [if_neg (by simp [hgd])]
            simp only
            unfold selPut
            rfl
        · rw [List.concat_eq_append] at hly
          have hll0 : l.length = l0.length + 1 := by rw [hly]; simp
          have hyi : l[l.length - 1]? = some y := by rw [hll0, hly]; simp
          have hlast : l.getLast? = some y := by rw [hly]; simp
          obtain ⟨gl, ofl, cl2, hvl, hgl⟩ := hs.open (by omega)
          cases hvl
          have hyc : ∀ j, j < 2 → H4.c gl (ofl + ((l.length : Int) - 1).toNat * 2 + j) = [Value.int .u32 y.addr, .int .u8 y.len][j]? := fun j hj => by
            have h5 := flat_get (f := fun t : Rt => [Value.int .u32 t.addr, .int .u8 t.len]) (fun _ => rfl) l (l.length - 1) y hyi j hj
            rw [show ofl + ((l.length : Int) - 1).toNat * 2 + j = ofl + (2 * (l.length - 1) + j) by omega]
            obtain ⟨u, hu⟩ : ∃ u, [Value.int .u32 y.addr, .int .u8 y.len][j]? = some u := ⟨_, List.getElem?_eq_getElem (by simp; omega)⟩
            rw [hu] at h5 ⊢
            exact hs.cells.1 _ _ h5
          have y0 := hyc 0 (by omega)
          have y1 := hyc 1 (by omega)
          rw [Nat.add_zero] at y0
          simp only [List.getElem?_cons_zero, List.getElem?_cons_succ] at y0 y1
          by_cases hP : y.addr = t.addr ∧ y.len = t.len
          · obtain ⟨hP1, hP2⟩ := hP
            simp (disch := omega) only [go_sem, ↓reduceIte , y0, y1, hP1, hP2]
            refine ⟨ts2.length - (k + 1), by omega, k + 1, .slice (some ⟨gl, ofl, none⟩) l.length cl, l, ownl, ⟨rfl, by omega, rfl, by omega, (by repeat first | exact Kp.refl _ _ _ | refine Kp.dropT ?_ (.inl (by omega)) | refine Kp.put ?_ (.inl (by omega)) | refine Kp.new ?_ (by omega) | refine Kp.put ?_ (.inr (by omega)) | refine Kp.newO ?_ (by omega) | refine Kp.setO ?_ (.inl (by omega)) | refine Kp.setO ?_ (.inr (by omega)) | refine Kp.trans0 ?_ (by assumption) (by omega) | refine Kp.transS ?_ (by assumption) (by omega) (fun b hb hT => by first | omega | (dsimp only at hT ⊢; omega) | (simp only at hT ⊢; omega))) , hs5, how, ?_⟩⟩
            rw [hstep, ← hll]
            unfold blOf
            rw [if_neg (by simp [hgd])]
            simp only
            unfold selPut
            rw [hlast]
            simp only
            rw [if_pos ⟨hP1, hP2⟩]
            split
            · have := (blR_m0 (good := goodP feas ts) (ts2.take k) y (by rw [← hll]; exact List.mem_of_getElem? hyi))
              omega
            · rfl
          · have hne : ¬ (y.addr = t.addr) ∨ (y.addr = t.addr ∧ ¬ (y.len = t.len)) := by omega
            rcases hne with hP1 | ⟨hP1, hP2⟩
            · simp (disch := omega) only [go_sem, ↓reduceIte , y0, y1, hP1]
              refine buildSQ_all (n := 1) [.agg #[.int .u32 t.addr, .int .u8 t.len]] sl46 zero30 (by omega) (by omega) rfl (by simp [cells_agg]) fun f hf => ?_
              have hlit : SlA (f + 1) _ 2 (.slice (some ⟨f, 0, none⟩) 1 1) 1 (prCells [x]) (f + 1) := SlA.ofNew (H := ((((((((H4.new d #[.int .u32 0, .int .u8 0, .int .i64 0, .int .i64 0, .int .u16 0, .int .u16 0, .int .u64 0] 142).put d 0 (.int .u32 t.addr)).put d 1 (.int .u8 t.len)).put d (1 + 1) (.int .i64 t.who)).put d (1 + 1 + 1) (.int .i64 t.node)).put d (1 + 1 + 1 + 1) (.int .u16 t.seq)).put d (1 + 1 + 1 + 1 + 1) (.int .u16 t.metric)).put d (1 + 1 + 1 + 1 + 1 + 1) (.int .u64 t.til))) (e := 30) (cs := ([Value.agg #[.int .u32 t.addr, .int .u8 t.len]].flatMap fun v => v.cells.toList).toArray) rfl (by omega) (by simp [maxLen]) (by simp [cells_agg]) (fun j _ => by simp [cells_agg, prCells, x])
              have hs6 := hs5.new (vs := ([Value.agg #[.int .u32 t.addr, .int .u8 t.len]].flatMap fun v => v.cells.toList).toArray) (e := 30) hf
              simp (disch := omega) only [go_sem, ↓reduceIte ]
              refine appendQ_two (aw_append sl46 zero30 rfl by30 hs6 (hlit.src sl46 prCells_one) (by simp only [maxLen]; omega) (by omega) (by omega) fun v7 H7 nx7 own7 hn7 hs7 ho7 hk7 _ => ?_)
              have hone7 := hs7.one
              simp (disch := omega) only [go_sem, ↓reduceIte , hone7]
              refine ⟨ts2.length - (k + 1), by omega, k + 1, v7, l ++ [x], own7, ⟨rfl, by omega, rfl, by omega, (by repeat first | exact Kp.refl _ _ _ | refine Kp.dropT ?_ (.inl (by omega)) | refine Kp.put ?_ (.inl (by omega)) | refine Kp.new ?_ (by omega) | refine Kp.put ?_ (.inr (by omega)) | refine Kp.newO ?_ (by omega) | refine Kp.setO ?_ (.inl (by omega)) | refine Kp.setO ?_ (.inr (by omega)) | refine Kp.trans0 ?_ (by assumption) (by omega) | refine Kp.transS ?_ (by assumption) (by omega) (fun b hb hT => by first | omega | (dsimp only at hT ⊢; omega) | (simp only at hT ⊢; omega))) , ?_, by omega, ?_⟩⟩
              · rw [List.length_append, prCells_append]
                exact hs7
              · rw [hstep, ← hll]
                unfold blOf
                rw [if_neg (by simp [hgd])]
                simp only
                unfold selPut
                rw [hlast]
                exact (if_neg hP).symm
            · simp (disch := omega) only [go_sem, ↓reduceIte , y0, y1, hP1, hP2]
              refine buildSQ_all (n := 1) [.agg #[.int .u32 t.addr, .int .u8 t.len]] sl46 zero30 (by omega) (by omega) rfl (by simp [cells_agg]) fun f hf => ?_
              have hlit : SlA (f + 1) _ 2 (.slice (some ⟨f, 0, none⟩) 1 1) 1 (prCells [x]) (f + 1) := SlA.ofNew (H := ((((((((H4.new d #[.int .u32 0, .int .u8 0, .int .i64 0, .int .i64 0, .int .u16 0, .int .u16 0, .int .u64 0] 142).put d 0 (.int .u32 t.addr)).put d 1 (.int .u8 t.len)).put d (1 + 1) (.int .i64 t.who)).put d (1 + 1 + 1) (.int .i64 t.node)).put d (1 + 1 + 1 + 1) (.int .u16 t.seq)).put d (1 + 1 + 1 + 1 + 1) (.int .u16 t.metric)).put d (1 + 1 + 1 + 1 + 1 + 1) (.int .u64 t.til))) (e := 30) (cs := ([Value.agg #[.int .u32 t.addr, .int .u8 t.len]].flatMap fun v => v.cells.toList).toArray) rfl (by omega) (by simp [maxLen]) (by simp [cells_agg]) (fun j _ => by simp [cells_agg, prCells, x])
              have hs6 := hs5.new (vs := ([Value.agg #[.int .u32 t.addr, .int .u8 t.len]].flatMap fun v => v.cells.toList).toArray) (e := 30) hf
              simp (disch := omega) only [go_sem, ↓reduceIte ]
              refine appendQ_two (aw_append sl46 zero30 rfl by30 hs6 (hlit.src sl46 prCells_one) (by simp only [maxLen]; omega) (by omega) (by omega) fun v7 H7 nx7 own7 hn7 hs7 ho7 hk7 _ => ?_)
              have hone7 := hs7.one
              simp (disch := omega) only [go_sem, ↓reduceIte , hone7]
              refine ⟨ts2.length - (k + 1), by omega, k + 1, v7, l ++ [x], own7, ⟨rfl, by omega, rfl, by omega, (by repeat first | exact Kp.refl _ _ _ | refine Kp.dropT ?_ (.inl (by omega)) | refine Kp.put ?_ (.inl (by omega)) | refine Kp.new ?_ (by omega) | refine Kp.put ?_ (.inr (by omega)) | refine Kp.newO ?_ (by omega) | refine Kp.setO ?_ (.inl (by omega)) | refine Kp.setO ?_ (.inr (by omega)) | refine Kp.trans0 ?_ (by assumption) (by omega) | refine Kp.transS ?_ (by assumption) (by omega) (fun b hb hT => by first | omega | (dsimp only at hT ⊢; omega) | (simp only at hT ⊢; omega))) , ?_, by omega, ?_⟩⟩
              · rw [List.length_append, prCells_append]
                exact hs7
              · rw [hstep, ← hll]
                unfold blOf
                rw [if_neg (by simp [hgd])]
                simp only
                unfold selPut
                rw [hlast]
                exact (if_neg hP).symm
    · obtain rfl : k = ts2.length := by omega
      rw [List.take_length] at hll
      simp (disch := omega) only [go_sem, ↓reduceIte , hone]
      exact ⟨by omega, (by repeat first | exact Kp.refl _ _ _ | refine Kp.dropT ?_ (.inl (by omega)) | refine Kp.put ?_ (.inl (by omega)) | refine Kp.new ?_ (by omega) | refine Kp.put ?_ (.inr (by omega)) | refine Kp.newO ?_ (by omega) | refine Kp.setO ?_ (.inl (by omega)) | refine Kp.setO ?_ (.inr (by omega)) | refine Kp.trans0 ?_ (by assumption) (by omega) | refine Kp.transS ?_ (by assumption) (by omega) (fun b hb hT => by first | omega | (dsimp only at hT ⊢; omega) | (simp only at hT ⊢; omega))) , ownl, ts2, hp2, hsd2, hll ▸ hs, by omega⟩
end Go.Proofs.YtngnbafididkcaaGreat
