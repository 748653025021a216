/- Ideal's law IdealFalls, in our own logic. -/
import Derived.Test.YtcdnjkogkibegaaG6
namespace Go.Proofs.Ytcdnjkogkibegaa
open Go.RowKit
set_option linter.unusedSimpArgs false

theorem falls_much {lo : Nat} {H : AH} {nx : Nat} {s : Value} {acts : List Act5} {owna : Nat} (safe left cut : Int) (hs : SlA nx H 5 s acts.length (actCells acts) owna) (h : 40 < acts.length) :
    ACalls Try.prog lo 6 #[s, .int .u8 safe, .int .i64 left, .int .i64 cut] H nx (fun v H' nx' => v = .bool true ∧ nx ≤ nx' ∧ Kp (fun _ => False) nx H H') := by
  refine ACalls.withLo fun hlo => ?_
  refine acalls_of_awp L6 Try.func6 rfl (by kernel_rfl) ?_
  obtain ⟨sa, sc, rfl⟩ := hs.form
  simp (disch := omega) only [go_sem, ↓reduceIte ]
  refine awake20_c.mono fun v H1 nx1 _ ⟨hv, hx1, hk1⟩ => ?_
  subst hv
  simp (disch := omega) only [go_sem, ↓reduceIte ]
  refine awake20_c.mono fun v H2 nx2 _ ⟨hv, hx2, hk2⟩ => ?_
  subst hv
  simp (disch := omega) only [go_sem, ↓reduceIte ]
  exact ⟨by omega, (by repeat first | exact Kp.refl _ _ _ | refine Kp.dropT ?_ (.inl (by omega)) | refine Kp.put ?_ (.inl (by omega)) | refine Kp.new ?_ (by omega) | refine Kp.put ?_ (.inr (by omega)) | refine Kp.trans0 ?_ (by assumption) (by omega) | refine Kp.transS ?_ (by assumption) (by omega) (fun b hb hT => by first | omega | (dsimp only at hT ⊢; omega) | (simp only at hT ⊢; omega))) ⟩

structure FallI (lo nx0 : Nat) (H0 : AH) (left cut : Int) (a : Value) (cs : List Chg) (k p : Nat) (m : Nat) (env : Env) (H : AH) (nx : Nat) (j own : Nat) : Prop where
  hm : m = cs.length - j
  hj : j ≤ cs.length
  henv : env = [(2, .int .i64 left), (3, .int .i64 cut), (9, a), (10, .int .i64 k), (11, .pointer (some ⟨p, 0, none⟩)), (12, .int .i64 j)]
  hx : nx0 ≤ nx
  hk : Kp (fun _ => False) nx0 H0 H
  hI : IdealA lo nx H p (cs.take j) own k 0
  ho : own = 0 ∨ nx0 < own

structure FallE (lo nx0 : Nat) (H0 : AH) (left cut : Int) (a : Value) (cs : List Chg) (k p : Nat) (env : Env) (H : AH) (nx own j : Nat) : Prop where
  henv : env = [(2, .int .i64 left), (3, .int .i64 cut), (9, a), (10, .int .i64 k), (11, .pointer (some ⟨p, 0, none⟩)), (12, .int .i64 j), (45, .bool false)]
  hx : nx0 ≤ nx
  hk : Kp (fun _ => False) nx0 H0 H
  hI : IdealA lo nx H p cs own k 0
  ho : own = 0 ∨ nx0 < own

theorem drop_take_ch (cs : List Chg) (m n : Nat) : (cs.take n).drop m = (cs.drop m).take (n - m) := by
  rw [List.drop_take]

set_option maxHeartbeats 8000000 in
theorem falls_c {lo : Nat} {H : AH} {nx : Nat} {s : Value} {acts : List Act5} {owna : Nat} (safe left cut : Int) (hs : SlA nx H 5 s acts.length (actCells acts) owna) (hok : ∀ x ∈ acts, Act5Ok x) (hsf : 0 ≤ safe ∧ safe ≤ 255) (h1 : acts.length ≤ 40) :
    ACalls Try.prog lo 6 #[s, .int .u8 safe, .int .i64 left, .int .i64 cut] H nx (fun v H' nx' => v = .bool true ∧ nx ≤ nx' ∧ Kp (fun _ => False) nx H H') := by
  refine ACalls.withLo fun hlo => ?_
  refine acalls_of_awp L6 Try.func6 rfl (by kernel_rfl) ?_
  obtain ⟨sa, sc, rfl⟩ := hs.form
  have hle := hs.le
  simp (disch := omega) only [go_sem, ↓reduceIte ]
  refine awake20_c.mono fun v H1 nx1 _ ⟨hv, hx1, hk1⟩ => ?_
  subst hv
  simp (disch := omega) only [go_sem, ↓reduceIte ]
  refine (history_c (hs.kp hk1 hx1 (by simp)) hok).mono fun v H2 nx2 _ ⟨cs, own, t, hs2, hh, h60, ho2, hx2, hk2⟩ => ?_
  obtain ⟨a2, c2, rfl⟩ := hs2.form
  have hle2 := hs2.le
  have hcc : cs.length ≤ c2 := by
    rcases hs2.2.2 with ⟨_, h2, _⟩ | ⟨g, off, cap, h2, _, h5, _⟩
    · omega
    · simp only [Value.slice.injEq] at h2; omega
  simp (disch := omega) only [go_sem, ↓reduceIte ]
  obtain ⟨k, hk0, hkl⟩ : ∃ k : Nat, safe % ((cs.length : Int) + 1) = k ∧ k ≤ cs.length := by
    have e1 := Int.emod_nonneg safe (show (cs.length : Int) + 1 ≠ 0 by omega)
    have e2 := Int.emod_lt_of_pos safe (show 0 < (cs.length : Int) + 1 by omega)
    exact ⟨(safe % ((cs.length : Int) + 1)).toNat, by omega, by omega⟩
  rw [hk0]
  rw [slice_h sl45 (by omega) (by omega)]
  have hcut := hs2.cut (l := 0) (h := k) (m := c2) (by omega) (by omega) (by omega) (by omega)
  rw [Nat.zero_mul, List.drop_zero, Nat.sub_zero, chCells_take] at hcut
  rw [Int.toNat_natCast]
  generalize hcv : cutS a2 8 c2 0 k = cv at hcut ⊢
  have hklen : (cs.take k).length = k := by simp; omega
  have hcut' : SlA nx2 H2 8 cv (cs.take k).length (chCells (cs.take k)) own := by rw [hklen]; exact hcut
  simp (disch := omega) only [go_sem, ↓reduceIte ]
  refine (of20_c hcut' (hh.take k) (by omega)).mono fun v H3 nx3 _ ⟨p, own3, hv, hp, hI3, ho3, hx3, hk3⟩ => ?_
  subst hv
  simp (disch := omega) only [go_sem, ↓reduceIte ]
  refine (isync_c hI3).mono fun v H4 nx4 _ ⟨hv, hI4, hx4, hk4⟩ => ?_
  subst hv
  rw [hklen] at hI4
  simp (disch := omega) only [go_sem, ↓reduceIte ]
  refine awp_loopX (fun m env H5 nx5 => ∃ j own, FallI lo nx2 H2 left cut (.slice a2 cs.length c2) cs k p m env H5 nx5 j own) (cs.length - k) ⟨k, own3, ⟨rfl, by omega, rfl, by omega, (by repeat first | exact Kp.refl _ _ _ | refine Kp.dropT ?_ (.inl (by omega)) | refine Kp.put ?_ (.inl (by omega)) | refine Kp.new ?_ (by omega) | refine Kp.put ?_ (.inr (by omega)) | refine Kp.trans0 ?_ (by assumption) (by omega) | refine Kp.transS ?_ (by assumption) (by omega) (fun b hb hT => by first | omega | (dsimp only at hT ⊢; omega) | (simp only at hT ⊢; omega))) , hI4, ho3⟩⟩ (fun env H5 nx5 => ∃ own j, FallE lo nx2 H2 left cut (.slice a2 cs.length c2) cs k p env H5 nx5 own j) (fun K hK m env H5 nx5 ⟨j, own5, hJ⟩ hn => ?_) (fun env H5 nx5 ⟨own5, j, hE⟩ => ?_)
  rotate_left
  · obtain ⟨henv, hx5, hk5, hI5, ho5⟩ := hE
    subst henv
    have hs5 : SlA nx5 H5 8 (.slice a2 cs.length c2) cs.length (chCells cs) own := hs2.kp hk5 (nx' := nx5) hx5 (by simp)
    simp only [awp_seq, awp_region]
    generalize hG : awp Try.prog lo L6 = G
    simp (disch := omega) only [go_sem, ↓reduceIte ]
    rw [← hG]
    simp only [awp_seq, awp_region]
    generalize hG2 : awp Try.prog lo L6 = G2
    simp (disch := omega) only [go_sem, ↓reduceIte ]
    rw [← hG2]
    clear hG2 hG
    generalize left.tmod 60 = n
    generalize cut.tmod 60 = m
    refine awp_cut (env' := [(9, .slice a2 cs.length c2), (10, .int .i64 k), (11, .pointer (some ⟨p, 0, none⟩)), (13, .int .i64 n), (14, .int .i64 m), (15, .bool (decide ((k : Int) ≤ n ∧ n ≤ cs.length ∧ 0 ≤ m ∧ m ≤ n)))]) (H' := H5) (nx' := nx5) ?_ (fun K hK => ?_)
    rotate_left
    · by_cases q1 : (k : Int) ≤ n
      · by_cases q2 : n ≤ cs.length
        · by_cases q3 : 0 ≤ m
          · by_cases q4 : m ≤ n
            · rw [decide_eq_true (show (k : Int) ≤ n ∧ n ≤ cs.length ∧ 0 ≤ m ∧ m ≤ n by omega)] at hK
              simp (disch := omega) only [go_sem, ↓reduceIte ]
              exact hK
            · rw [decide_eq_false (show ¬ ((k : Int) ≤ n ∧ n ≤ cs.length ∧ 0 ≤ m ∧ m ≤ n) by omega)] at hK
              simp (disch := omega) only [go_sem, ↓reduceIte ]
              exact hK
          · rw [decide_eq_false (show ¬ ((k : Int) ≤ n ∧ n ≤ cs.length ∧ 0 ≤ m ∧ m ≤ n) by omega)] at hK
            simp (disch := omega) only [go_sem, ↓reduceIte ]
            exact hK
        · rw [decide_eq_false (show ¬ ((k : Int) ≤ n ∧ n ≤ cs.length ∧ 0 ≤ m ∧ m ≤ n) by omega)] at hK
          simp (disch := omega) only [go_sem, ↓reduceIte ]
          exact hK
      · rw [decide_eq_false (show ¬ ((k : Int) ≤ n ∧ n ≤ cs.length ∧ 0 ≤ m ∧ m ≤ n) by omega)] at hK
        simp (disch := omega) only [go_sem, ↓reduceIte ]
        exact hK
    have hpl := hI5.lt
    generalize hmay : decide ((k : Int) ≤ n ∧ n ≤ cs.length ∧ 0 ≤ m ∧ m ≤ n) = may
    simp (disch := omega) only [go_sem, ↓reduceIte ]
    refine (ifell_c hI5 (by omega) n m).mono fun v H6 nx6 _ ⟨hx6, hk6, hR⟩ => ?_
    rcases hR with ⟨r1, r2, r3, r4, hv, hI6⟩ | ⟨r, hv, hI6⟩
    · subst hv
      rw [decide_eq_true (show (k : Int) ≤ n ∧ n ≤ cs.length ∧ 0 ≤ m ∧ m ≤ n by omega)] at hmay
      subst hmay
      obtain ⟨n, rfl⟩ : ∃ u : Nat, n = u := ⟨n.toNat, by omega⟩
      obtain ⟨m, rfl⟩ : ∃ u : Nat, m = u := ⟨m.toNat, by omega⟩
      rw [Int.toNat_natCast] at hI6
      have hnl : (cs.take n).length = n := by simp; omega
      have hs6 : SlA nx6 H6 8 (.slice a2 cs.length c2) cs.length (chCells cs) own := hs5.kp hk6 hx6 (by intro b hb; omega)
      simp (disch := omega) only [go_sem, ↓reduceIte ]
      refine awp_draw ord6x21 (by kernel_rfl) ?_
      simp (disch := omega) only [go_sem, ↓reduceIte , ord6x21]
      refine (ilen_c hI6).mono fun v H7 nx7 _ ⟨hv, hH7, hx7⟩ => ?_
      subst hv; subst hH7; subst hx7
      rw [hnl]
      simp (disch := omega) only [go_sem, ↓reduceIte ]
      refine (isafe_c hI6).mono fun v H7 nx7 _ ⟨hv, hH7, hx7⟩ => ?_
      subst hv; subst hH7; subst hx7
      simp (disch := omega) only [go_sem, ↓reduceIte ]
      refine (icut_c hI6).mono fun v H7 nx7 _ ⟨hv, hH7, hx7⟩ => ?_
      subst hv; subst hH7; subst hx7
      simp (disch := omega) only [go_sem, ↓reduceIte ]
      rw [slice_lh sl45 (by omega) (by omega) (by omega)]
      have hcut2 := hs6.cut (l := m) (h := n) (m := c2) (by omega) (by omega) (by omega) (by omega)
      rw [chCells_drop, chCells_take, ← drop_take_ch] at hcut2
      rw [Int.toNat_natCast, Int.toNat_natCast]
      generalize hcv2 : cutS a2 8 c2 m n = cv2 at hcut2 ⊢
      have hlen2 : ((cs.take n).drop m).length = n - m := by simp; omega
      rw [← hlen2] at hcut2
      obtain ⟨a8, c8, rfl⟩ := hcut2.form
      simp (disch := omega) only [go_sem, ↓reduceIte ]
      refine (ichanges_c hI6 (by omega) (by simp; omega)).mono fun v H8 nx8 _ ⟨hx8, hk8, own8, hs8⟩ => ?_
      obtain ⟨a9, c9, rfl⟩ := hs8.form
      simp (disch := omega) only [go_sem, ↓reduceIte ]
      refine ⟨dkeep_kp (by repeat first | exact Kp.refl _ _ _ | refine Kp.dropT ?_ (.inl (by omega)) | refine Kp.put ?_ (.inl (by omega)) | refine Kp.new ?_ (by omega) | refine Kp.put ?_ (.inr (by omega)) | refine Kp.trans0 ?_ (by assumption) (by omega) | refine Kp.transS ?_ (by assumption) (by omega) (fun b hb hT => by first | omega | (dsimp only at hT ⊢; omega) | (simp only at hT ⊢; omega))) , ?_⟩
      refine (same07_c hs8 (hcut2.kp hk8 hx8 (by simp))).mono fun v H9 nx9 _ ⟨hv, hH9, hx9⟩ => ?_
      subst hv; subst hH9; subst hx9
      simp (disch := omega) only [go_sem, ↓reduceIte ]
      refine ⟨dkeep_kp (by repeat first | exact Kp.refl _ _ _ | refine Kp.dropT ?_ (.inl (by omega)) | refine Kp.put ?_ (.inl (by omega)) | refine Kp.new ?_ (by omega) | refine Kp.put ?_ (.inr (by omega)) | refine Kp.trans0 ?_ (by assumption) (by omega) | refine Kp.transS ?_ (by assumption) (by omega) (fun b hb hT => by first | omega | (dsimp only at hT ⊢; omega) | (simp only at hT ⊢; omega))) , ?_⟩
      exact ⟨by omega, (by repeat first | exact Kp.refl _ _ _ | refine Kp.dropT ?_ (.inl (by omega)) | refine Kp.put ?_ (.inl (by omega)) | refine Kp.new ?_ (by omega) | refine Kp.put ?_ (.inr (by omega)) | refine Kp.trans0 ?_ (by assumption) (by omega) | refine Kp.transS ?_ (by assumption) (by omega) (fun b hb hT => by first | omega | (dsimp only at hT ⊢; omega) | (simp only at hT ⊢; omega))) ⟩
    · subst hv
      rw [decide_eq_false (show ¬ ((k : Int) ≤ n ∧ n ≤ cs.length ∧ 0 ≤ m ∧ m ≤ n) by omega)] at hmay
      subst hmay
      simp (disch := omega) only [go_sem, ↓reduceIte ]
      refine (ilen_c hI6).mono fun v H7 nx7 _ ⟨hv, hH7, hx7⟩ => ?_
      subst hv; subst hH7; subst hx7
      simp (disch := omega) only [go_sem, ↓reduceIte ]
      refine (isafe_c hI6).mono fun v H7 nx7 _ ⟨hv, hH7, hx7⟩ => ?_
      subst hv; subst hH7; subst hx7
      simp (disch := omega) only [go_sem, ↓reduceIte ]
      refine (icut_c hI6).mono fun v H7 nx7 _ ⟨hv, hH7, hx7⟩ => ?_
      subst hv; subst hH7; subst hx7
      simp (disch := omega) only [go_sem, ↓reduceIte ]
      exact ⟨by omega, (by repeat first | exact Kp.refl _ _ _ | refine Kp.dropT ?_ (.inl (by omega)) | refine Kp.put ?_ (.inl (by omega)) | refine Kp.new ?_ (by omega) | refine Kp.put ?_ (.inr (by omega)) | refine Kp.trans0 ?_ (by assumption) (by omega) | refine Kp.transS ?_ (by assumption) (by omega) (fun b hb hT => by first | omega | (dsimp only at hT ⊢; omega) | (simp only at hT ⊢; omega))) ⟩
  obtain ⟨hm, hj, henv, hx5, hk5, hI5, ho5⟩ := hJ
  subst henv
  have hs5 : SlA nx5 H5 8 (.slice a2 cs.length c2) cs.length (chCells cs) own := hs2.kp hk5 (nx' := nx5) hx5 (by simp)
  by_cases hjl : j < cs.length
  · obtain ⟨x, hx0⟩ : ∃ x, cs[j]? = some x := ⟨_, List.getElem?_eq_getElem hjl⟩
    obtain ⟨g, off, cap, hv, hg⟩ := hs5.open (by omega)
    cases hv
    have hld := ch_load hs5 hx0
    unfold Chg.cells at hld
    simp (disch := omega) only [go_sem, ↓reduceIte , hld]
    have hlen : (cs.take j).length = j := by simp; omega
    have hxn := hh.no j x hx0
    refine (iadd_c hI5 (by omega) (hh.ok x (List.mem_of_getElem? hx0)) (by rw [hxn, hlen]) (hh.t0 x (List.mem_of_getElem? hx0)) (fun d hd => ?_)).mono fun v H6 nx6 _ ⟨hv, hx6, hk6, own6, hI6, ho6⟩ => ?_
    · rw [hlen, List.getElem?_take] at hd
      split at hd
      · rename_i hlt2
        have := hh.up (j - 1) d x hd (by rw [show j - 1 + 1 = j by omega]; exact hx0)
        exact this
      · cases hd
    subst hv
    simp (disch := omega) only [go_sem, ↓reduceIte ]
    refine ⟨cs.length - (j + 1), by omega, j + 1, own6, ⟨rfl, by omega, rfl, by omega, (by repeat first | exact Kp.refl _ _ _ | refine Kp.dropT ?_ (.inl (by omega)) | refine Kp.put ?_ (.inl (by omega)) | refine Kp.new ?_ (by omega) | refine Kp.put ?_ (.inr (by omega)) | refine Kp.trans0 ?_ (by assumption) (by omega) | refine Kp.transS ?_ (by assumption) (by omega) (fun b hb hT => by first | omega | (dsimp only at hT ⊢; omega) | (simp only at hT ⊢; omega))) , ?_, by omega⟩⟩
    rw [List.take_add_one, hx0]
    exact hI6
  · rw [List.take_of_length_le (by omega)] at hI5
    simp (disch := omega) only [go_sem, ↓reduceIte ]
    exact hK _ _ _ ⟨own5, j, ⟨rfl, hx5, hk5, hI5, ho5⟩⟩
end Go.Proofs.Ytcdnjkogkibegaa
