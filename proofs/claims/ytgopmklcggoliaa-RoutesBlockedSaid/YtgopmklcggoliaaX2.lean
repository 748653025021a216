/- RoutesBlocked: a prefix, neighbor by neighbor; whether it is among the blocked. -/
import Derived.Test.YtgopmklcggoliaaX1
import Derived.Test.YtgopmklcggoliaaW2
import Derived.Test.YtgopmklcggoliaaK1
namespace Go.Proofs.Ytgopmklcggoliaa
open Go.RowKit
set_option linter.unusedSimpArgs false

def someB (us : List Tld) (a n b : Int) : Bool := us.any fun t => decide (t.addr = a) && decide (t.len = n) && decide (t.who < b)
def goodB (feas : Tld → Bool) (us : List Tld) (a n b : Int) : Bool := us.any fun t => goodAt feas a n t && decide (t.who < b)
theorem someB_zero {us : List Tld} (a n : Int) (hw : ∀ t ∈ us, 0 ≤ t.who) : someB us a n 0 = false := by
  unfold someB
  rw [List.any_eq_false]
  intro t ht
  have := hw t ht
  simp; omega
theorem goodB_zero {feas : Tld → Bool} {us : List Tld} (a n : Int) (hw : ∀ t ∈ us, 0 ≤ t.who) : goodB feas us a n 0 = false := by
  unfold goodB
  rw [List.any_eq_false]
  intro t ht
  have := hw t ht
  simp; omega
theorem someB_hit {us : List Tld} {a n b : Int} {u : Tld} (hu : u ∈ us) (h1 : u.addr = a) (h2 : u.len = n) (h3 : u.who = b) : someB us a n (b + 1) = true := by
  unfold someB
  rw [List.any_eq_true]
  exact ⟨u, hu, by simp [h1, h2]; omega⟩
theorem someB_miss {us : List Tld} {a n b : Int} (h : ∀ t ∈ us, t.addr = a → t.len = n → t.who ≠ b) : someB us a n (b + 1) = someB us a n b := by
  unfold someB
  rw [Bool.eq_iff_iff, List.any_eq_true, List.any_eq_true]
  constructor
  · rintro ⟨t, ht, h1⟩
    simp only [Bool.and_eq_true, decide_eq_true_eq] at h1
    have := h t ht h1.1.1 h1.1.2
    exact ⟨t, ht, by simp only [Bool.and_eq_true, decide_eq_true_eq]; omega⟩
  · rintro ⟨t, ht, h1⟩
    simp only [Bool.and_eq_true, decide_eq_true_eq] at h1
    exact ⟨t, ht, by simp only [Bool.and_eq_true, decide_eq_true_eq]; omega⟩
theorem goodB_step {feas : Tld → Bool} {us : List Tld} {a n b : Int} {g : Bool} (h : ∀ t ∈ us, t.addr = a → t.len = n → t.who = b → feas t = g) (hg : g = true → ∃ t ∈ us, t.addr = a ∧ t.len = n ∧ t.who = b) : goodB feas us a n (b + 1) = (goodB feas us a n b || g) := by
  unfold goodB
  rw [Bool.eq_iff_iff, Bool.or_eq_true, List.any_eq_true, List.any_eq_true]
  constructor
  · rintro ⟨t, ht, h1⟩
    simp only [goodAt, Bool.and_eq_true, decide_eq_true_eq] at h1
    by_cases e : t.who = b
    · right; rw [← h t ht h1.1.1.1 h1.1.1.2 e]; exact h1.1.2
    · left; exact ⟨t, ht, by simp only [goodAt, Bool.and_eq_true, decide_eq_true_eq]; exact ⟨h1.1, by omega⟩⟩
  · rintro (⟨t, ht, h1⟩ | hgt)
    · simp only [goodAt, Bool.and_eq_true, decide_eq_true_eq] at h1
      exact ⟨t, ht, by simp only [goodAt, Bool.and_eq_true, decide_eq_true_eq]; exact ⟨h1.1, by omega⟩⟩
    · obtain ⟨t, ht, h1, h2, h3⟩ := hg hgt
      exact ⟨t, ht, by simp only [goodAt, Bool.and_eq_true, decide_eq_true_eq]; exact ⟨⟨⟨h1, h2⟩, by rw [h t ht h1 h2 h3, hgt]⟩, by omega⟩⟩
theorem goodB_all {feas : Tld → Bool} {us : List Tld} (a n : Int) {b : Int} (hw : ∀ t ∈ us, t.who < b) : goodB feas us a n b = goodP feas us a n := by
  unfold goodB goodP
  rw [Bool.eq_iff_iff, List.any_eq_true, List.any_eq_true]
  exact ⟨fun ⟨t, ht, h1⟩ => ⟨t, ht, by simp only [Bool.and_eq_true] at h1; exact h1.1⟩, fun ⟨t, ht, h1⟩ => ⟨t, ht, by rw [h1, decide_eq_true (hw t ht)]; rfl⟩⟩

/-- Whether a prefix is among the blocked. -/
def inL (L : List Rt) (a n : Int) : Bool := L.any fun y => decide (y.addr = a) && decide (y.len = n)
theorem inL_is {feas : Tld → Bool} {us l : List Tld} {L : List Rt} (hlu : ∀ t, t ∈ l ↔ t ∈ us) (hw : ∀ t ∈ us, t.who < 8) (hS : SelS (l.filterMap (blOf (goodP feas us))) L) (a n : Int) : inL L a n = (someB us a n 8 && !goodP feas us a n) := by
  rw [Bool.eq_iff_iff, Bool.and_eq_true]
  unfold inL
  rw [List.any_eq_true]
  constructor
  · rintro ⟨y, hy, h1⟩
    simp only [Bool.and_eq_true, decide_eq_true_eq] at h1
    have := hS.sub y hy
    rw [List.mem_filterMap] at this
    obtain ⟨t, ht, hty⟩ := this
    unfold blOf at hty
    split at hty
    · cases hty
    · rename_i hg
      cases hty
      obtain ⟨rfl, rfl⟩ := h1
      refine ⟨?_, by simp only [Bool.not_eq_true'] ; simpa using hg⟩
      unfold someB
      rw [List.any_eq_true]
      exact ⟨t, (hlu t).1 ht, by simp [hw t ((hlu t).1 ht)]⟩
  · rintro ⟨h1, h2⟩
    unfold someB at h1
    rw [List.any_eq_true] at h1
    obtain ⟨t, ht, h1⟩ := h1
    simp only [Bool.and_eq_true, decide_eq_true_eq] at h1
    obtain ⟨⟨rfl, rfl⟩, _⟩ := h1
    obtain ⟨y, hy, hs, _⟩ := hS.least ⟨t.addr, t.len, t.who, 0, 0⟩ (List.mem_filterMap.2 ⟨t, (hlu t).2 ht, by unfold blOf; rw [if_neg (by simpa using h2)]⟩)
    exact ⟨y, hy, by simp only [Bool.and_eq_true, decide_eq_true_eq]; exact hs⟩
theorem inL_snoc {L : List Rt} {i : Nat} {x : Rt} (h : L[i]? = some x) (a n : Int) : inL (L.take (i + 1)) a n = (inL (L.take i) a n || (decide (x.addr = a) && decide (x.len = n))) := by
  unfold inL
  rw [List.take_add_one, h, Option.toList_some, List.any_append]
  simp

noncomputable def blLoop : Code := codeAt [.T, .T, .T, .T, .T, .T, .T, .T, .H, .T, .I, .I, .T, .H, .I, .T, .T, .T, .T, .H, .T, .I] ((Try.f6.body).getD .skip)
noncomputable def blIn : Code := codeAt [.T, .T, .T, .T, .T, .T, .T, .T, .H, .T, .I, .I, .T, .H, .I, .T, .T, .T, .T, .T, .T, .H, .T, .I] ((Try.f6.body).getD .skip)
noncomputable def blOut : Code := codeAt [.T, .T, .T, .T, .T, .T, .T, .T, .H, .T, .I] ((Try.f6.body).getD .skip)
/-- What is known where a prefix is begun. -/
structure BlH (lo nx0 : Nat) (H0 : AH) (q4 q8 q12 : Nat) (s : Value) (us : List Tld) (ownu : Nat) (now : Int) (es0 : List Ent) (own0 : Nat) (k : Nat) : Prop where
  d40 : H0.c q4 0 = some s
  d41 : H0.c q4 1 = some (.int .u64 now)
  hs : SlA nx0 H0 7 s us.length (tdCells us) ownu
  hul : us.length ≤ 1000
  hQ : SouA lo nx0 H0 q8 es0 own0
  hel : es0.length ≤ 1000
  p0 : H0.c q12 0 = some (.int .u32 (pfxA k))
  p1 : H0.c q12 1 = some (.int .u8 (pfxN k))
  l4 : q4 < nx0
  l12 : q12 < nx0
def bbEnv (q4 q8 : Nat) (lv : Value) (n k q12 : Nat) (sm gd : Bool) (b : Nat) : Env := [(6, .pointer (some ⟨q4, 0, none⟩)), (8, .pointer (some ⟨q8, 0, none⟩)), (9, lv), (10, .int .i64 n), (11, .int .i64 k), (12, .pointer (some ⟨q12, 0, none⟩)), (13, .bool sm), (14, .bool gd), (15, .int .i64 b)]
structure BbI (nx0 : Nat) (H0 : AH) (q4 q8 : Nat) (lv : Value) (n k q12 : Nat) (es0 : List Ent) (us : List Tld) (env : Env) (H : AH) (nx : Nat) (b : Nat) : Prop where
  hb : b ≤ 8
  henv : env = bbEnv q4 q8 lv n k q12 (someB us (pfxA k) (pfxN k) b) (goodB (feasE es0) us (pfxA k) (pfxN k) b) b
  hx : nx0 ≤ nx
  hk : Kp (fun _ => False) nx0 H0 H

set_option maxRecDepth 20000 in
set_option maxHeartbeats 100000000 in
theorem bl_by {lo nx0 : Nat} {H0 : AH} {q4 q8 q12 : Nat} {s : Value} {us : List Tld} {ownu : Nat} {now : Int} {es0 : List Ent} {own0 : Nat} {n k : Nat} {lv : Value} {K0 : Env → AH → Nat → Prop} {Q : Exit → Env → AH → Nat → Prop}
    (h : BlH lo nx0 H0 q4 q8 q12 s us ownu now es0 own0 k) (hu : UqT us) (hok : ∀ t ∈ us, TdOk t ∧ 0 ≤ t.metric ∧ t.metric ≤ 65535) (hw : ∀ t ∈ us, 0 ≤ t.who)
    (hK : ∀ env H nx, BbI nx0 H0 q4 q8 lv n k q12 es0 us env H nx 8 → K0 (env ++ [(67, .bool false)]) H nx) :
    awp Try.prog lo L6 blLoop (blockQ 4 (thenQ K0 Q)) (bbEnv q4 q8 lv n k q12 false false 0) H0 nx0 := by
  obtain ⟨d40, d41, hs, hul, hQ, hel, p0, p1, l4, l12⟩ := h
  obtain ⟨sa, sc, rfl⟩ := hs.form
  unfold blLoop Try.f6
  simp only [Option.getD_some, codeAt_H, codeAt_T, codeAt_I, codeAt_L, codeAt_C, codeAt_P, codeAt_nil]
  refine awp_loop (fun m env H nx => ∃ b, m = 8 - b ∧ BbI nx0 H0 q4 q8 lv n k q12 es0 us env H nx b) 8 ⟨0, rfl, ⟨by omega, by rw [show ((0 : Nat) : Int) = 0 from rfl, someB_zero _ _ hw, goodB_zero _ _ hw], Nat.le_refl _, Kp.refl _ _ _⟩⟩ (fun m env H nx ⟨b, hm, hI⟩ hn => ?_)
  have hI0 := hI
  obtain ⟨hb, henv, hx, hk⟩ := hI
  subst henv
  have hc := hk.cell0
  unfold bbEnv
  by_cases hb8 : b < 8
  · have hs1 : SlA nx H 7 (.slice sa us.length sc) us.length (tdCells us) ownu := hs.kp hk hx (by simp)
    have hQ1 : SouA lo nx H q8 es0 own0 := hQ.kp hk hx (by simp) (by simp)
    have hQl := hQ1.lt
    simp (disch := omega) only [go_sem, ↓reduceIte , hc, d40, d41, p0, p1]
    refine (tfind_c hs1 (by omega) now (pfxA k) (pfxN k) b).mono fun v H1 nx1 _ ⟨hv, hx1, hk1⟩ => ?_
    rcases hv with ⟨j, u, hj, hju, rfl, _⟩ | ⟨hnone, rfl⟩
    · have hul0 : u ∈ us := List.mem_of_getElem? hj
      obtain ⟨hu0, hu1, hu2⟩ := hok u hul0
      have hju' := hju
      simp only [hitC, Bool.and_eq_true, decide_eq_true_eq] at hju'
      obtain ⟨⟨a1, a2⟩, a3⟩ := hju'
      have huniq : ∀ t ∈ us, t.addr = pfxA k → t.len = pfxN k → t.who = b → t = u := fun t ht hp hp2 hb' => told_same2 hu hul0 ht ((hitT_iff _ _).2 (by omega))
      have hsm := someB_hit hul0 a1 a2 a3
      have hgd := goodB_step (feas := feasE es0) (us := us) (a := pfxA k) (n := pfxN k) (b := b) (g := feasE es0 u) (fun t ht h1 h2 h3 => by rw [huniq t ht h1 h2 h3]) (fun _ => ⟨u, hul0, a1, a2, a3⟩)
      have hc1 := hk1.cell0
      have hQ2 : SouA lo nx1 H1 q8 es0 own0 := hQ1.kp hk1 hx1 (by simp) (by simp)
      obtain ⟨gu, ou, cu, hvu, hgu⟩ := hs.open (by have := (List.getElem?_eq_some_iff.1 hj).1; omega)
      cases hvu
      have hle := hs.le
      have hjl := (List.getElem?_eq_some_iff.1 hj).1
      have y4 := td_cells hs hj 4 (by omega)
      have y5 := td_cells hs hj 5 (by omega)
      simp only [Tld.cells, List.getElem?_cons_zero, List.getElem?_cons_succ] at y4 y5
      have y5' : H0.c gu (ou + j * 7 + 4 + 1) = some (.int .u16 u.metric) := y5
      simp (disch := omega) only [go_sem, ↓reduceIte ]
      refine awp_draw ord6x25 (by kernel_rfl) ?_
      cases hg0 : goodB (feasE es0) us (pfxA k) (pfxN k) b with
      | true =>
        rw [hg0, Bool.true_or] at hgd
        simp (maxSteps := 10000000) (disch := omega) only [go_sem, ↓reduceIte, ord6x25]
        exact ⟨8 - (b + 1), by omega, b + 1, rfl, ⟨by omega, by unfold bbEnv; rw [Int.natCast_add, show ((1 : Nat) : Int) = 1 from rfl, hsm, hgd], by omega, (by repeat first | exact Kp.refl _ _ _ | refine Kp.dropT ?_ (.inl (by omega)) | refine Kp.put ?_ (.inl (by omega)) | refine Kp.new ?_ (by omega) | refine Kp.put ?_ (.inr (by omega)) | refine Kp.newO ?_ (by omega) | refine Kp.setO ?_ (.inl (by omega)) | refine Kp.setO ?_ (.inr (by omega)) | refine Kp.trans0 ?_ (by assumption) (by omega) | refine Kp.transS ?_ (by assumption) (by omega) (fun b hb hT => by first | omega | (dsimp only at hT ⊢; omega) | (simp only at hT ⊢; omega))) ⟩⟩
      | false =>
        rw [hg0, Bool.false_or] at hgd
        simp (maxSteps := 10000000) (disch := omega) only [go_sem, ↓reduceIte, ord6x25, hc1, hc, d40, d41, y4, y5', p0, p1]
        refine (sfeas_c hQ2 (by omega) (pfxA k) (pfxN k) u.seq u.metric).mono fun v H3 nx3 _ ⟨hv, hx3, hk3⟩ => ?_
        have hfe : feasR es0 (pfxA k) (pfxN k) u.seq u.metric = feasE es0 u := by unfold feasE; rw [a1, a2]
        rw [hfe] at hv
        subst hv
        simp (maxSteps := 10000000) (disch := omega) only [go_sem, ↓reduceIte]
        exact ⟨dkeep_kp hk3, 8 - (b + 1), by omega, b + 1, rfl, ⟨by omega, by unfold bbEnv; rw [Int.natCast_add, show ((1 : Nat) : Int) = 1 from rfl, hsm, hgd], by omega, (by repeat first | exact Kp.refl _ _ _ | refine Kp.dropT ?_ (.inl (by omega)) | refine Kp.put ?_ (.inl (by omega)) | refine Kp.new ?_ (by omega) | refine Kp.put ?_ (.inr (by omega)) | refine Kp.newO ?_ (by omega) | refine Kp.setO ?_ (.inl (by omega)) | refine Kp.setO ?_ (.inr (by omega)) | refine Kp.trans0 ?_ (by assumption) (by omega) | refine Kp.transS ?_ (by assumption) (by omega) (fun b hb hT => by first | omega | (dsimp only at hT ⊢; omega) | (simp only at hT ⊢; omega))) ⟩⟩
    · have hmiss : ∀ t ∈ us, t.addr = pfxA k → t.len = pfxN k → t.who ≠ b := fun t ht h1 h2 h3 => by
        have := hnone t ht
        have h2 : hitC (pfxA k) (pfxN k) b t = true := by simp [hitC, h1, h2, h3]
        rw [h2] at this; cases this
      have hsm := someB_miss hmiss
      have hgd := goodB_step (feas := feasE es0) (us := us) (a := pfxA k) (n := pfxN k) (b := b) (g := false) (fun t ht h1 h2 h3 => absurd h3 (hmiss t ht h1 h2)) (fun h => by cases h)
      rw [Bool.or_false] at hgd
      simp (disch := omega) only [go_sem, ↓reduceIte ]
      exact ⟨8 - (b + 1), by omega, b + 1, rfl, ⟨by omega, by unfold bbEnv; rw [Int.natCast_add, show ((1 : Nat) : Int) = 1 from rfl, hsm, hgd], by omega, (by repeat first | exact Kp.refl _ _ _ | refine Kp.dropT ?_ (.inl (by omega)) | refine Kp.put ?_ (.inl (by omega)) | refine Kp.new ?_ (by omega) | refine Kp.put ?_ (.inr (by omega)) | refine Kp.newO ?_ (by omega) | refine Kp.setO ?_ (.inl (by omega)) | refine Kp.setO ?_ (.inr (by omega)) | refine Kp.trans0 ?_ (by assumption) (by omega) | refine Kp.transS ?_ (by assumption) (by omega) (fun b hb hT => by first | omega | (dsimp only at hT ⊢; omega) | (simp only at hT ⊢; omega))) ⟩⟩
  · obtain rfl : b = 8 := by omega
    simp (disch := omega) only [go_sem, ↓reduceIte ]
    exact hK _ _ _ hI0

def inEnv (q4 q8 : Nat) (lv : Value) (n k q12 : Nat) (sm gd i0 : Bool) (i : Nat) : Env := [(6, .pointer (some ⟨q4, 0, none⟩)), (8, .pointer (some ⟨q8, 0, none⟩)), (9, lv), (10, .int .i64 n), (11, .int .i64 k), (12, .pointer (some ⟨q12, 0, none⟩)), (13, .bool sm), (14, .bool gd), (17, .bool i0), (18, .int .i64 i)]

set_option maxRecDepth 20000 in
theorem bl_in {lo nx : Nat} {H : AH} {q4 q8 q12 n k : Nat} {sm gd : Bool} {lv : Value} {L : List Rt} {own : Nat} {K0 : Env → AH → Nat → Prop} {Q : Exit → Env → AH → Nat → Prop}
    (hsL : SlA nx H 2 lv L.length (prCells L) own) (hl : L.length ≤ 1000) (p0 : H.c q12 0 = some (.int .u32 (pfxA k))) (p1 : H.c q12 1 = some (.int .u8 (pfxN k)))
    (hK : K0 (inEnv q4 q8 lv n k q12 sm gd (inL L (pfxA k) (pfxN k)) L.length ++ [(91, .bool false)]) H nx) :
    awp Try.prog lo L6 blIn (blockQ 6 (thenQ K0 Q)) (inEnv q4 q8 lv n k q12 sm gd false 0) H nx := by
  obtain ⟨sa, sc, rfl⟩ := hsL.form
  unfold blIn Try.f6
  simp only [Option.getD_some, codeAt_H, codeAt_T, codeAt_I, codeAt_L, codeAt_C, codeAt_P, codeAt_nil]
  refine awp_loop (fun m env H1 nx1 => ∃ i, m = L.length - i ∧ i ≤ L.length ∧ env = inEnv q4 q8 (.slice sa L.length sc) n k q12 sm gd (inL (L.take i) (pfxA k) (pfxN k)) i ∧ H1 = H ∧ nx1 = nx) L.length ⟨0, rfl, by omega, rfl, rfl, rfl⟩ (fun m env H1 nx1 ⟨i, hm, hi, henv, hH, hx⟩ hn => ?_)
  subst henv; subst hH; subst hx
  unfold inEnv
  by_cases hil : i < L.length
  · obtain ⟨x, hx0⟩ : ∃ x, L[i]? = some x := ⟨_, List.getElem?_eq_getElem hil⟩
    have hnext := inL_snoc hx0 (pfxA k) (pfxN k)
    obtain ⟨gL, oL, cL, hvL, hgL⟩ := hsL.open (by omega)
    cases hvL
    have hld := pr_load hsL hx0
    cases hin : inL (L.take i) (pfxA k) (pfxN k) with
    | true =>
      rw [hin, Bool.true_or] at hnext
      simp (disch := omega) only [go_sem, ↓reduceIte ]
      refine awp_draw ord6x30 (by kernel_rfl) ?_
      simp (disch := omega) only [go_sem, ↓reduceIte , ord6x30]
      exact ⟨L.length - (i + 1), by omega, i + 1, rfl, by omega, by rw [hnext]; rfl⟩
    | false =>
      rw [hin, Bool.false_or] at hnext
      simp (disch := omega) only [go_sem, ↓reduceIte ]
      refine awp_draw ord6x30 (by kernel_rfl) ?_
      by_cases h1 : x.addr = pfxA k
      · by_cases h2 : x.len = pfxN k
        · rw [h1, h2] at hld hnext
          simp only [decide_true, Bool.and_self] at hnext
          simp (disch := omega) only [go_sem, ↓reduceIte , ord6x30, hld, p0, p1]
          exact ⟨L.length - (i + 1), by omega, i + 1, rfl, by omega, by rw [hnext]; rfl⟩
        · rw [h1] at hld hnext
          simp only [decide_true, Bool.true_and, decide_eq_false h2] at hnext
          simp (disch := omega) only [go_sem, ↓reduceIte , ord6x30, hld, p0, p1, h2]
          exact ⟨L.length - (i + 1), by omega, i + 1, rfl, by omega, by rw [hnext]; rfl⟩
      · simp only [Bool.false_and, decide_eq_false h1] at hnext
        simp (disch := omega) only [go_sem, ↓reduceIte , ord6x30, hld, p0, p1, h1]
        exact ⟨L.length - (i + 1), by omega, i + 1, rfl, by omega, by rw [hnext]; rfl⟩
  · obtain rfl : i = L.length := by omega
    rw [List.take_length]
    simp (disch := omega) only [go_sem, ↓reduceIte ]
    exact hK

def boEnv (q4 q8 : Nat) (lv : Value) (n k : Nat) : Env := [(6, .pointer (some ⟨q4, 0, none⟩)), (8, .pointer (some ⟨q8, 0, none⟩)), (9, lv), (10, .int .i64 n), (11, .int .i64 k)]
structure BoI (nx0 : Nat) (H0 : AH) (q4 q8 : Nat) (lv : Value) (L : List Rt) (m : Nat) (env : Env) (H : AH) (nx : Nat) (k : Nat) : Prop where
  hm : m = 18 - k
  hk18 : k ≤ 18
  henv : env = boEnv q4 q8 lv (cntK L k) k
  hx : nx0 ≤ nx
  hk : Kp (fun _ => False) nx0 H0 H
theorem inL_true {L : List Rt} {a n : Int} (h : inL L a n = true) : ∃ y ∈ L, atR y a n := by
  unfold inL at h
  rw [List.any_eq_true] at h
  obtain ⟨y, hy, h⟩ := h
  simp only [Bool.and_eq_true, decide_eq_true_eq] at h
  exact ⟨y, hy, h⟩
theorem inL_false {L : List Rt} {a n : Int} (h : inL L a n = false) : ∀ y ∈ L, ¬ atR y a n := by
  unfold inL at h
  rw [List.any_eq_false] at h
  intro y hy ⟨h1, h2⟩
  exact h y hy (by simp [h1, h2])
theorem cntKb_le (L : List Rt) (k : Nat) : cntK L k ≤ L.length := List.countP_le_length

set_option maxRecDepth 20000 in
set_option maxHeartbeats 100000000 in
theorem bl_out {lo nx0 : Nat} {H0 : AH} {q4 q8 : Nat} {s : Value} {us : List Tld} {ownu : Nat} {now : Int} {es0 : List Ent} {own0 : Nat} {lv : Value} {L : List Rt} {ownL : Nat} {l : List Tld} {K0 : Env → AH → Nat → Prop} {Q : Exit → Env → AH → Nat → Prop}
    (d40 : H0.c q4 0 = some s) (d41 : H0.c q4 1 = some (.int .u64 now)) (hs : SlA nx0 H0 7 s us.length (tdCells us) ownu) (hul : us.length ≤ 1000) (hQ : SouA lo nx0 H0 q8 es0 own0) (hel : es0.length ≤ 1000) (l4 : q4 < nx0) (hlo : lo ≤ nx0)
    (hlu : ∀ t, t ∈ l ↔ t ∈ us) (hu : UqT us) (hok : ∀ t ∈ us, TdOk t ∧ 0 ≤ t.metric ∧ t.metric ≤ 65535) (hw : ∀ t ∈ us, 0 ≤ t.who ∧ t.who < 8)
    (hS : SelS (l.filterMap (blOf (goodP (feasE es0) us))) L) (hsL : SlA nx0 H0 2 lv L.length (prCells L) ownL) (hl : L.length ≤ 1000)
    (hK : ∀ H nx, nx0 ≤ nx → Kp (fun _ => False) nx0 H0 H → K0 (boEnv q4 q8 lv (cntK L 18) 18 ++ [(56, .bool false)]) H nx) :
    awp Try.prog lo L6 blOut (blockQ 2 (thenQ K0 Q)) (boEnv q4 q8 lv 0 0) H0 nx0 := by
  obtain ⟨sa, sc, rfl⟩ := hs.form
  obtain ⟨la, lc, rfl⟩ := hsL.form
  unfold blOut Try.f6
  simp only [Option.getD_some, codeAt_H, codeAt_T, codeAt_I, codeAt_L, codeAt_C, codeAt_P, codeAt_nil]
  refine awp_loop (fun m env H nx => ∃ k, BoI nx0 H0 q4 q8 (.slice la L.length lc) L m env H nx k) 18 ⟨0, ⟨rfl, by omega, by rw [cntK_zero], Nat.le_refl _, Kp.refl _ _ _⟩⟩ (fun m env H1 nx1 ⟨k, hI⟩ hn => ?_)
  obtain ⟨hm, hk18, henv, hx1, hk1⟩ := hI
  subst henv
  unfold boEnv
  have hcl := cntKb_le L k
  have hQl := hQ.lt
  by_cases hk8 : k < 18
  · obtain ⟨a0, a1, n0, n1, hpx⟩ := pfx_range (k : Int)
    simp (disch := omega) only [go_sem, ↓reduceIte ]
    refine (pfx_c (k : Int) (by omega) (by omega) _ _).mono fun v H2 nx2 _ ⟨hv, hx2, hk2⟩ => ?_
    subst hv
    simp (disch := omega) only [go_sem, ↓reduceIte ]
    intro q12 h12
    simp (disch := omega) only [go_sem, ↓reduceIte ]
    refine (first16_c k hk8).mono fun v H3 nx3 _ ⟨hx3, hk3, j, hv, hjk, j1, j2, jf⟩ => ?_
    subst hv
    by_cases hj : j = k
    · subst hj
      simp (disch := omega) only [go_sem, ↓reduceIte ]
      have hc2 := hk2.cell0
      have hc3 := hk3.cell0
      have hls := hs.le
      have hll := hsL.le
      have hlq := hQ.q.choose_spec.2.le
      have hkS : Kp (fun _ => False) nx0 H0 H3 := (by repeat first | exact Kp.refl _ _ _ | refine Kp.dropT ?_ (.inl (by omega)) | refine Kp.put ?_ (.inl (by omega)) | refine Kp.new ?_ (by omega) | refine Kp.put ?_ (.inr (by omega)) | refine Kp.newO ?_ (by omega) | refine Kp.setO ?_ (.inl (by omega)) | refine Kp.setO ?_ (.inr (by omega)) | refine Kp.trans0 ?_ (by assumption) (by omega) | refine Kp.transS ?_ (by assumption) (by omega) (fun b hb hT => by first | omega | (dsimp only at hT ⊢; omega) | (simp only at hT ⊢; omega))) 
      have hcS := hkS.cell0
      have p0 : H3.c q12 0 = some (.int .u32 (pfxA j)) := by simp (disch := omega) only [go_sem, ↓reduceIte , hc3]
      have p1 : H3.c q12 1 = some (.int .u8 (pfxN j)) := by simp (disch := omega) only [go_sem, ↓reduceIte , hc3]
      refine bl_by (us := us) ⟨by rw [hcS _ _ l4]; exact d40, by rw [hcS _ _ l4]; exact d41, hs.kp hkS (by omega) (by simp), hul, hQ.kp hkS (by omega) (by simp) (by simp), hel, p0, p1, by omega, by omega⟩ hu hok (fun t ht => (hw t ht).1) (fun env H4 nx4 hB => ?_)
      obtain ⟨_, henv, hx4, hk4⟩ := hB
      subst henv
      unfold bbEnv
      have hsL4 : SlA nx4 H4 2 (.slice la L.length lc) L.length (prCells L) ownL := (hsL.kp hkS (by omega) (by simp)).kp hk4 hx4 (by simp)
      have hc4 := hk4.cell0
      have hinn := inL_is hlu (fun t ht => (hw t ht).2) hS (pfxA j) (pfxN j)
      rw [show ((8 : Nat) : Int) = 8 from rfl, goodB_all (feas := feasE es0) (us := us) (pfxA j) (pfxN j) (b := 8) (fun t ht => (hw t ht).2)]
      simp (disch := omega) only [go_sem, ↓reduceIte ]
      refine bl_in (sm := someB us (pfxA j) (pfxN j) 8) (gd := goodP (feasE es0) us (pfxA j) (pfxN j)) hsL4 hl (by rw [hc4 _ _ (by omega)]; exact p0) (by rw [hc4 _ _ (by omega)]; exact p1) ?_
      unfold inEnv
      rw [hinn]
      have hcnt : cntK L (j + 1) = if inL L (pfxA j) (pfxN j) = true then cntK L j + 1 else cntK L j := by
        split
        · rename_i hi
          obtain ⟨y, hy, hat⟩ := inL_true hi
          exact cntK_new hS.srt hy hat jf
        · rename_i hi
          exact cntK_none (inL_false (by simpa using hi))
      rw [hinn] at hcnt
      cases hsm : someB us (pfxA j) (pfxN j) 8 <;> cases hgd : goodP (feasE es0) us (pfxA j) (pfxN j) <;> rw [hsm, hgd] at hcnt <;> simp only [Bool.and_false, Bool.false_and, Bool.not_true, Bool.not_false, Bool.and_true, Bool.true_and, Bool.false_eq_true, if_false, if_true] at hcnt ⊢
      all_goals
        simp (maxSteps := 10000000) (disch := omega) only [go_sem, ↓reduceIte]
        exact ⟨18 - (j + 1), by omega, j + 1, ⟨rfl, by omega, by rw [hcnt]; rfl, by omega, (by repeat first | exact Kp.refl _ _ _ | refine Kp.dropT ?_ (.inl (by omega)) | refine Kp.put ?_ (.inl (by omega)) | refine Kp.new ?_ (by omega) | refine Kp.put ?_ (.inr (by omega)) | refine Kp.newO ?_ (by omega) | refine Kp.setO ?_ (.inl (by omega)) | refine Kp.setO ?_ (.inr (by omega)) | refine Kp.trans0 ?_ (by assumption) (by omega) | refine Kp.transS ?_ (by assumption) (by omega) (fun b hb hT => by first | omega | (dsimp only at hT ⊢; omega) | (simp only at hT ⊢; omega))) ⟩⟩
    · have hold := cntK_old (L := L) (by omega : j < k) j1 j2
      simp (disch := omega) only [go_sem, ↓reduceIte , hj]
      exact ⟨18 - (k + 1), by omega, k + 1, ⟨rfl, by omega, by rw [hold]; rfl, by omega, (by repeat first | exact Kp.refl _ _ _ | refine Kp.dropT ?_ (.inl (by omega)) | refine Kp.put ?_ (.inl (by omega)) | refine Kp.new ?_ (by omega) | refine Kp.put ?_ (.inr (by omega)) | refine Kp.newO ?_ (by omega) | refine Kp.setO ?_ (.inl (by omega)) | refine Kp.setO ?_ (.inr (by omega)) | refine Kp.trans0 ?_ (by assumption) (by omega) | refine Kp.transS ?_ (by assumption) (by omega) (fun b hb hT => by first | omega | (dsimp only at hT ⊢; omega) | (simp only at hT ⊢; omega))) ⟩⟩
  · obtain rfl : k = 18 := by omega
    simp (disch := omega) only [go_sem, ↓reduceIte ]
    exact hK _ _ hx1 hk1
end Go.Proofs.Ytgopmklcggoliaa
