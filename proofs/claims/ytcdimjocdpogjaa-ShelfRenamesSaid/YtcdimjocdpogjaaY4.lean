/- ShelfRenames, in our own logic. -/
import Derived.Test.YtcdimjocdpogjaaY2
namespace Go.Proofs.Ytcdimjocdpogjaa
open Go.RowKit
set_option linter.unusedSimpArgs false

/-- Two files. -/
def fsTwo (d : Int) (now old : List (ByteArray × Nat)) (mv : List Mv) (i : Nat) (bp : List Int) (sp : Int) (j : Nat) (bq : List Int) (sq : Int) : Fs := ⟨now, old, mv, 1000, -1, false, d, [(i, bp, sp), (j, bq, sq)]⟩
section
variable {d : Int} {now old : List (ByteArray × Nat)} {mv : List Mv} {i j : Nat} {bp bq q : List Int} {sp sq : Int}
theorem two_act : actR (fsTwo d now old mv i bp sp j bq sq) = (true, fsTwo (d + 1) now old mv i bp sp j bq sq) := by
  simp [actR, fsTwo]
  rfl
theorem two_tot : totF (fsTwo d now old mv i bp sp j bq sq) = bp.length + bq.length := by simp [totF, fsTwo]
theorem two_big (hd : 0 ≤ d ∧ d ≤ 1000000) (hm : mv.length ≤ 1000000) (hb : bp.length + bq.length ≤ 1000000000) : FsBig (fsTwo d now old mv i bp sp j bq sq) :=
  ⟨⟨by simp [fsTwo], by simp [fsTwo], hd.1, hd.2, hm⟩, by rw [two_tot]; exact hb, by simp [fsTwo], by simp [fsTwo]⟩
theorem two_create : createR (fsOne 1000 d nmA i old [] bp sp []) nmB j = (0, fsTwo (d + 1) [(nmA, i), (nmB, j)] old [⟨nmB, some j, .empty⟩] i bp sp j [] 0) := by
  unfold createR
  rw [one_act]
  simp [okB', fsOne, fsTwo, getA, setA, neAB]
theorem two_append (hij : i ≠ j) (hu : bp.length + bq.length + q.length ≤ 1000) : appendR (fsTwo d [(nmA, i), (nmB, j)] old mv i bp sp j bq sq) nmB q = (0, fsTwo (d + 1) [(nmA, i), (nmB, j)] old mv i bp sp j (bq ++ q) sq) := by
  have h0 : usedF (fsTwo d [(nmA, i), (nmB, j)] old mv i bp sp j bq sq) ≤ bp.length + bq.length := Nat.le_trans (sumD_le _ _) (by simp [fsTwo])
  unfold appendR
  rw [two_act]
  have h3 : getA nmB (fsTwo d [(nmA, i), (nmB, j)] old mv i bp sp j bq sq).now = some j := by simp [fsTwo, getA, neAB]
  simp only [if_true, h3]
  have hr : (fsTwo d [(nmA, i), (nmB, j)] old mv i bp sp j bq sq).room = 1000 := rfl
  rw [if_neg (by rw [hr]; omega)]
  simp [fsTwo, modB, hij]
theorem two_sync (hij : i ≠ j) : syncR (fsTwo d [(nmA, i), (nmB, j)] old mv i bp sp j bq sq) nmB = (0, fsTwo (d + 1) [(nmA, i), (nmB, j)] old mv i bp sp j bq bq.length) := by
  unfold syncR fileR
  rw [two_act]
  have h3 : getA nmB (fsTwo d [(nmA, i), (nmB, j)] old mv i bp sp j bq sq).now = some j := by simp [fsTwo, getA, neAB]
  have h4 : getA j (fsTwo d [(nmA, i), (nmB, j)] old mv i bp sp j bq sq).bk = some (bq, sq) := by simp [fsTwo, getA, hij]
  simp only [if_true, h3, h4, Option.any_some]
  simp [fsTwo, modB, hij]
theorem two_rename : renameR (fsTwo d [(nmA, i), (nmB, j)] old mv i bp sp j bq sq) nmB nmA = (0, fsTwo (d + 1) [(nmA, j)] old (mv ++ [⟨nmA, some j, nmB⟩]) i bp sp j bq sq) := by
  unfold renameR
  rw [two_act]
  have h3 : getA nmB (fsTwo d [(nmA, i), (nmB, j)] old mv i bp sp j bq sq).now = some j := by simp [fsTwo, getA, neAB]
  simp only [okA, if_true, h3]
  simp [fsTwo, neBA, neAB, setA, delA]
def fellNow (k : Int) (i j : Nat) : List (ByteArray × Nat) := if k = 0 then [(nmA, i)] else if k = 1 then [(nmA, i), (nmB, j)] else [(nmA, j)]
theorem neAE : (nmA = ByteArray.empty) = False := by
  simp only [nmA, ByteArray.empty, ByteArray.emptyWithCapacity, eq_iff_iff, iff_false, ByteArray.mk.injEq]
  decide
theorem neBE : (nmB = ByteArray.empty) = False := by
  simp only [nmB, ByteArray.empty, ByteArray.emptyWithCapacity, eq_iff_iff, iff_false, ByteArray.mk.injEq]
  decide
theorem two_fallN (k : Int) (h0 : 0 ≤ k) (h3 : k ≤ 3) : fallN (fsTwo d now [(nmA, i)] [⟨nmB, some j, .empty⟩, ⟨nmA, some j, nmB⟩] i bp sp j bq sq) k = fellNow k i j := by
  have e : fallN (fsTwo d now [(nmA, i)] [⟨nmB, some j, .empty⟩, ⟨nmA, some j, nmB⟩] i bp sp j bq sq) k = (([⟨nmB, some j, .empty⟩, ⟨nmA, some j, nmB⟩] : List Mv).take (kOf k 2)).foldl stepN [(nmA, i)] := rfl
  rw [e]
  rcases (by omega : k = 0 ∨ k = 1 ∨ k = 2 ∨ k = 3) with rfl | rfl | rfl | rfl
  · rw [show kOf 0 2 = 0 from rfl]; rfl
  · rw [show kOf 1 2 = 1 from rfl]
    simp [fellNow, stepN, setA, delA, neAB, neBA, neAE, neBE]
  · rw [show kOf 2 2 = 2 from rfl]
    simp [fellNow, stepN, setA, delA, neAB, neBA, neAE, neBE]
  · rw [show kOf 3 2 = 2 from rfl]
    simp [fellNow, stepN, setA, delA, neAB, neBA, neAE, neBE]
theorem cut_all (bs : List Int) : cutB 0 bs bs.length = (bs, (bs.length : Int)) := by
  unfold cutB
  have : min (bs.length : Int) ((bs.length : Int) + min (max 0 0) (bs.length : Int)) = bs.length := by omega
  rw [this]
  simp
theorem two_fall (k : Int) (h0 : 0 ≤ k) (h3 : k ≤ 3) : fallR (fsTwo d now [(nmA, i)] [⟨nmB, some j, .empty⟩, ⟨nmA, some j, nmB⟩] i bp bp.length j bq bq.length) k 0 = fsTwo d (fellNow k i j) (fellNow k i j) [] i bp bp.length j bq bq.length := by
  unfold fallR
  rw [two_fallN k h0 h3]
  simp only [fsTwo, Fs.mk.injEq, true_and, cutD, List.map_cons, List.map_nil, cut_all]
  simp
theorem two_readA (hij : i ≠ j) (k : Int) : readR (fsTwo d (fellNow k i j) old mv i bp sp j bq sq) nmA = (if k = 0 ∨ k = 1 then bp else bq, 0) := by
  unfold readR fellNow
  by_cases h0 : k = 0
  · simp [h0, fsTwo, getA]
  · by_cases h1 : k = 1
    · simp [h1, fsTwo, getA]
    · simp [h0, h1, fsTwo, getA, hij]
theorem two_readB (k : Int) : (readR (fsTwo d (fellNow k i j) old mv i bp sp j bq sq) nmB).2 = if k = 1 then 0 else 2 := by
  unfold readR fellNow
  by_cases h0 : k = 0
  · simp [h0, fsTwo, getA, neAB]
  · by_cases h1 : k = 1
    · simp [h1, fsTwo, getA, neAB]
    · simp [h0, h1, fsTwo, getA, neAB]
theorem two_ne {N lo nx : Nat} {H : AH} {p : Nat} (h : ShW N lo nx H p (fsTwo d now old mv i bp sp j bq sq)) : i ≠ j := by
  obtain ⟨L, h, _⟩ := h
  have := h.uq
  unfold UqA at this
  simp only [fsTwo, List.pairwise_cons, List.mem_singleton, forall_eq] at this
  exact this.1
end

set_option maxHeartbeats 8000000 in
set_option maxRecDepth 20000 in
theorem shelfRenames_c {lo : Nat} {H : AH} {nx : Nat} {vp vq : Value} {ps qs : List Int} {ownp ownq : Nat} (hp : SlA nx H 1 vp ps.length (bytV ps) ownp) (hq : SlA nx H 1 vq qs.length (bytV qs) ownq) (hlp : ps.length ≤ 60) (hlq : qs.length ≤ 60) (n : Int) (hn0 : 0 ≤ n) :
    ACalls Try.prog lo 4 #[vp, vq, .int .u8 n] H nx (fun v H' nx' => v = .bool true ∧ nx ≤ nx' ∧ Kp (fun _ => False) nx H H') := by
  refine ACalls.withLo fun hlo => ?_
  refine acalls_of_awp L4 Try.func4 rfl (by kernel_rfl) ?_
  obtain ⟨pa, pc, rfl⟩ := hp.form
  obtain ⟨qa, qc, rfl⟩ := hq.form
  have hpo := hp.le
  have hqo := hq.le
  simp (disch := omega) only [go_sem, ↓reduceIte ]
  refine awake05_c.mono fun v H0 nx0 _ ⟨hv, hx0, hk0⟩ => ?_
  subst hv
  simp (disch := omega) only [go_sem, ↓reduceIte ]
  refine (wNew 1000).mono fun v H1 nx1 _ ⟨hx1, hk1, p, hv, w1⟩ => ?_
  subst hv
  simp (disch := omega) only [go_sem, ↓reduceIte ]
  refine (wCreate w1 (by omega) (fsNone_ok (by omega)) nmA).mono fun v H2 nx2 _ ⟨i, hi, hv, s2⟩ => ?_
  rw [one_create okA] at hv s2
  subst hv
  have x2 := s2.le
  have w2 := s2.sh
  have k2 := s2.kp
  have r2 := one_other w2
  have hkA2 : Kp (fun b => nx0 ≤ b) nx H H2 := (by repeat first | exact Kp.refl _ _ _ | refine Kp.dropT ?_ (.inl (by omega)) | refine Kp.put ?_ (.inl (by omega)) | refine Kp.new ?_ (by omega) | refine Kp.put ?_ (.inr (by omega)) | refine Kp.newO ?_ (by omega) | refine Kp.setO ?_ (.inl (by omega)) | refine Kp.setO ?_ (.inr (by omega)) | refine Kp.trans0 ?_ (by assumption) (by omega) | refine Kp.transS ?_ (by assumption) (by omega) (fun b hb hT => by first | omega | (dsimp only at hT ⊢; omega) | (simp only at hT ⊢; omega))) 
  have hp2 : SlA nx2 H2 1 (.slice pa ps.length pc) ps.length (bytV ps) ownp := hp.kp hkA2 (by omega) (by intro b hb; omega)
  have hu2 : usedF (fsOne 1000 (0 + 1) nmA i [] [⟨nmA, some i, .empty⟩] [] 0 []) ≤ 0 := used_le (by simp)
  simp (disch := omega) only [go_sem, ↓reduceIte ]
  refine (wAppend (q := ps) w2 (by omega) (fsOne_big (by omega) (by omega) (by simp) (by simp [totB])) nmA hp2 (by omega) (by omega)).mono fun v H3 nx3 _ ⟨hv, s3⟩ => ?_
  rw [one_append r2 (by omega)] at hv s3
  subst hv
  have x3 := s3.le
  have w3 := s3.sh
  have k3 := s3.kp
  simp (disch := omega) only [go_sem, ↓reduceIte ]
  refine (wSync w3 (by omega) (fsOne_big (by omega) (by omega) (by simp) (by simp [totB]; omega)) nmA).mono fun v H4 nx4 _ ⟨hv, s4⟩ => ?_
  rw [one_sync r2] at hv s4
  subst hv
  have x4 := s4.le
  have w4 := s4.sh
  have k4 := s4.kp
  simp (disch := omega) only [go_sem, ↓reduceIte ]
  refine (wNames w4 (by omega) (fsOne_big (by omega) (by omega) (by simp) (by simp [totB]; omega)).toFsOk).mono fun v H5 nx5 _ ⟨hv, s5⟩ => ?_
  rw [one_names] at hv s5
  subst hv
  have x5 := s5.le
  have w5 := s5.sh
  have k5 := s5.kp
  rw [List.nil_append] at w5
  simp (disch := omega) only [go_sem, ↓reduceIte ]
  refine (wCreate w5 (by omega) (fsOne_big (by omega) (by omega) (by simp) (by simp [totB]; omega)).toFsOk nmB).mono fun v H6 nx6 _ ⟨j, hj, hv, s6⟩ => ?_
  rw [two_create] at hv s6
  subst hv
  have x6 := s6.le
  have w6 := s6.sh
  have k6 := s6.kp
  have hij := two_ne w6
  have hkA6 : Kp (fun b => nx0 ≤ b) nx H H6 := (by repeat first | exact Kp.refl _ _ _ | refine Kp.dropT ?_ (.inl (by omega)) | refine Kp.put ?_ (.inl (by omega)) | refine Kp.new ?_ (by omega) | refine Kp.put ?_ (.inr (by omega)) | refine Kp.newO ?_ (by omega) | refine Kp.setO ?_ (.inl (by omega)) | refine Kp.setO ?_ (.inr (by omega)) | refine Kp.trans0 ?_ (by assumption) (by omega) | refine Kp.transS ?_ (by assumption) (by omega) (fun b hb hT => by first | omega | (dsimp only at hT ⊢; omega) | (simp only at hT ⊢; omega))) 
  have hq6 : SlA nx6 H6 1 (.slice qa qs.length qc) qs.length (bytV qs) ownq := hq.kp hkA6 (by omega) (by intro b hb; omega)
  simp (disch := omega) only [go_sem, ↓reduceIte ]
  refine (wAppend (q := qs) w6 (by omega) (two_big (by omega) (by simp) (by simp; omega)) nmB hq6 (by omega) (by omega)).mono fun v H7 nx7 _ ⟨hv, s7⟩ => ?_
  rw [two_append hij (by simp; omega)] at hv s7
  subst hv
  have x7 := s7.le
  have w7 := s7.sh
  have k7 := s7.kp
  rw [List.nil_append] at w7
  simp (disch := omega) only [go_sem, ↓reduceIte ]
  refine (wSync w7 (by omega) (two_big (by omega) (by simp) (by omega)) nmB).mono fun v H8 nx8 _ ⟨hv, s8⟩ => ?_
  rw [two_sync hij] at hv s8
  subst hv
  have x8 := s8.le
  have w8 := s8.sh
  have k8 := s8.kp
  simp (disch := omega) only [go_sem, ↓reduceIte ]
  refine (wRename w8 (by omega) (two_big (by omega) (by simp) (by omega)).toFsOk nmB nmA).mono fun v H9 nx9 _ ⟨hv, s9⟩ => ?_
  rw [two_rename] at hv s9
  subst hv
  have x9 := s9.le
  have w9 := s9.sh
  have k9 := s9.kp
  simp only [List.cons_append, List.nil_append] at w9
  have m0 : 0 ≤ n % 4 := by omega
  have m1 : n % 4 ≤ 3 := by omega
  simp (disch := omega) only [go_sem, ↓reduceIte ]
  refine (wFall w9 (by omega) (fun q hq => by
    simp only [fsTwo, List.mem_cons, List.not_mem_nil, or_false] at hq
    rcases hq with rfl | rfl <;> simp) (by rw [two_tot]; omega) (by simp [fsTwo]) (n % 4) 0).mono fun v H10 nx10 _ ⟨hv, s10⟩ => ?_
  rw [two_fall (n % 4) m0 m1] at s10
  subst hv
  have x10 := s10.le
  have w10 := s10.sh
  have k10 := s10.kp
  simp (disch := omega) only [go_sem, ↓reduceIte ]
  refine (wRead w10 (by rw [two_tot]; omega) nmA).mono fun v H11 nx11 _ ⟨x11, k11, w11, u, own11, hv, hs11, ho11⟩ => ?_
  rw [two_readA hij] at hv hs11
  subst hv
  have hone11 := hs11.one
  simp (disch := omega) only [go_sem, ↓reduceIte , hone11]
  refine (wRead w11 (by rw [two_tot]; omega) nmB).mono fun v H12 nx12 _ ⟨x12, k12, w12, u2, own12, hv, hs12, ho12⟩ => ?_
  rw [two_readB] at hv
  subst hv
  have hone12 := hs12.one
  have hkA12 : Kp (fun b => nx0 ≤ b) nx H H12 := (by repeat first | exact Kp.refl _ _ _ | refine Kp.dropT ?_ (.inl (by omega)) | refine Kp.put ?_ (.inl (by omega)) | refine Kp.new ?_ (by omega) | refine Kp.put ?_ (.inr (by omega)) | refine Kp.newO ?_ (by omega) | refine Kp.setO ?_ (.inl (by omega)) | refine Kp.setO ?_ (.inr (by omega)) | refine Kp.trans0 ?_ (by assumption) (by omega) | refine Kp.transS ?_ (by assumption) (by omega) (fun b hb hT => by first | omega | (dsimp only at hT ⊢; omega) | (simp only at hT ⊢; omega))) 
  have hp12 : SlA nx12 H12 1 (.slice pa ps.length pc) ps.length (bytV ps) ownp := hp.kp hkA12 (by omega) (by intro b hb; omega)
  have hq12 : SlA nx12 H12 1 (.slice qa qs.length qc) qs.length (bytV qs) ownq := hq.kp hkA12 (by omega) (by intro b hb; omega)
  have hu12 := hs11.kp k12 x12 (by simp)
  have hkk : Kp (fun _ => False) nx H H12 := Kp.mono hkA12 (Nat.le_refl _) (fun b hb e => by omega)
  have e1 := fun K : Value → AH → Nat → Prop => convQ_bytes (P := Try.prog) (lo := lo) (K := K) sl22 (d := 9) u8u stru hp12
  have e2 := fun K : Value → AH → Nat → Prop => convQ_bytes (P := Try.prog) (lo := lo) (K := K) sl22 (d := 9) u8u stru hq12
  simp only at hu12
  have e3 := fun K : Value → AH → Nat → Prop => convQ_bytes (P := Try.prog) (lo := lo) (K := K) sl22 (d := 9) u8u stru hu12
  clear hs11 hu12
  rcases (by omega : n % 4 = 0 ∨ n % 4 = 1 ∨ 2 ≤ n % 4) with h | h | h
  · simp only [h] at e3 ⊢
    simp only [true_or, if_true] at e3
    simp (disch := omega) only [go_sem, ↓reduceIte , e1, e2, e3, h, decide_true, decide_false, hone11, hone12]
    exact ⟨by omega, hkk⟩
  · simp only [h] at e3 ⊢
    simp only [or_true, if_true] at e3
    simp (disch := omega) only [go_sem, ↓reduceIte , e1, e2, e3, h, decide_true, decide_false, hone11, hone12]
    exact ⟨by omega, hkk⟩
  · have h0 : ¬ n % 4 = 0 := by omega
    have h1 : ¬ n % 4 = 1 := by omega
    simp only [h0, h1, or_self, if_false] at e3 ⊢
    simp (disch := omega) only [go_sem, ↓reduceIte , e1, e2, e3, h, h1, decide_true, decide_false, hone11, hone12]
    exact ⟨by omega, hkk⟩
end Go.Proofs.Ytcdimjocdpogjaa
