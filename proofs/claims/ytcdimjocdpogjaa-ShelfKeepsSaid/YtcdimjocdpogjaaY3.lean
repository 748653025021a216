/- ShelfKeeps, in our own logic. -/
import Derived.Test.YtcdimjocdpogjaaY2
namespace Go.Proofs.Ytcdimjocdpogjaa
open Go.RowKit
set_option linter.unusedSimpArgs false

set_option maxHeartbeats 8000000 in
set_option maxRecDepth 20000 in
theorem shelfKeeps_c {lo : Nat} {H : AH} {nx : Nat} {vp vq : Value} {ps qs : List Int} {ownp ownq : Nat} (hp : SlA nx H 1 vp ps.length (bytV ps) ownp) (hq : SlA nx H 1 vq qs.length (bytV qs) ownq) (hlp : ps.length ≤ 60) (hlq : qs.length ≤ 60) (n : Int) :
    ACalls Try.prog lo 3 #[vp, vq, .int .i64 n] H nx (fun v H' nx' => v = .bool true ∧ nx ≤ nx' ∧ Kp (fun _ => False) nx H H') := by
  refine ACalls.withLo fun hlo => ?_
  refine acalls_of_awp L3 Try.func3 rfl (by kernel_rfl) ?_
  obtain ⟨pa, pc, rfl⟩ := hp.form
  obtain ⟨qa, qc, rfl⟩ := hq.form
  have hpo := hp.le
  have hqo := hq.le
  simp (disch := omega) only [go_sem, ↓reduceIte ]
  refine awake05_c.mono fun v H0 nx0 _ ⟨hv, hx0, hk0⟩ => ?_
  subst hv
  simp (disch := omega) only [go_sem, ↓reduceIte ]
  refine (wNew 1000).mono fun v H1 nx1 _ ⟨hx1, hk1, p, hv, w1⟩ => ?_
  subst hv
  simp (disch := omega) only [go_sem, ↓reduceIte ]
  refine (wCreate w1 (by omega) (fsNone_ok (by omega)) nmA).mono fun v H2 nx2 _ ⟨i, hi, hv, s2⟩ => ?_
  rw [one_create okA] at hv s2
  subst hv
  have x2 := s2.le
  have w2 := s2.sh
  have k2 := s2.kp
  have r2 := one_other w2
  have hkA2 : Kp (fun b => nx0 ≤ b) nx H H2 := (by repeat first | exact Kp.refl _ _ _ | refine Kp.dropT ?_ (.inl (by omega)) | refine Kp.put ?_ (.inl (by omega)) | refine Kp.new ?_ (by omega) | refine Kp.put ?_ (.inr (by omega)) | refine Kp.newO ?_ (by omega) | refine Kp.setO ?_ (.inl (by omega)) | refine Kp.setO ?_ (.inr (by omega)) | refine Kp.trans0 ?_ (by assumption) (by omega) | refine Kp.transS ?_ (by assumption) (by omega) (fun b hb hT => by first | omega | (dsimp only at hT ⊢; omega) | (simp only at hT ⊢; omega))) 
  have hp2 : SlA nx2 H2 1 (.slice pa ps.length pc) ps.length (bytV ps) ownp := hp.kp hkA2 (by omega) (by intro b hb; omega)
  have hu2 : usedF (fsOne 1000 (0 + 1) nmA i [] [⟨nmA, some i, .empty⟩] [] 0 []) ≤ 0 := used_le (by simp)
  simp (disch := omega) only [go_sem, ↓reduceIte ]
  refine (wAppend (q := ps) w2 (by omega) (fsOne_big (by omega) (by omega) (by simp) (by simp [totB])) nmA hp2 (by omega) (by omega)).mono fun v H3 nx3 _ ⟨hv, s3⟩ => ?_
  rw [one_append r2 (by omega)] at hv s3
  subst hv
  have x3 := s3.le
  have w3 := s3.sh
  have k3 := s3.kp
  simp (disch := omega) only [go_sem, ↓reduceIte ]
  refine (wSync w3 (by omega) (fsOne_big (by omega) (by omega) (by simp) (by simp [totB]; omega)) nmA).mono fun v H4 nx4 _ ⟨hv, s4⟩ => ?_
  rw [one_sync r2] at hv s4
  subst hv
  have x4 := s4.le
  have w4 := s4.sh
  have k4 := s4.kp
  simp (disch := omega) only [go_sem, ↓reduceIte ]
  refine (wNames w4 (by omega) (fsOne_big (by omega) (by omega) (by simp) (by simp [totB]; omega)).toFsOk).mono fun v H5 nx5 _ ⟨hv, s5⟩ => ?_
  rw [one_names] at hv s5
  subst hv
  have x5 := s5.le
  have w5 := s5.sh
  have k5 := s5.kp
  have hkA5 : Kp (fun b => nx0 ≤ b) nx H H5 := (by repeat first | exact Kp.refl _ _ _ | refine Kp.dropT ?_ (.inl (by omega)) | refine Kp.put ?_ (.inl (by omega)) | refine Kp.new ?_ (by omega) | refine Kp.put ?_ (.inr (by omega)) | refine Kp.newO ?_ (by omega) | refine Kp.setO ?_ (.inl (by omega)) | refine Kp.setO ?_ (.inr (by omega)) | refine Kp.trans0 ?_ (by assumption) (by omega) | refine Kp.transS ?_ (by assumption) (by omega) (fun b hb hT => by first | omega | (dsimp only at hT ⊢; omega) | (simp only at hT ⊢; omega))) 
  have hq5 : SlA nx5 H5 1 (.slice qa qs.length qc) qs.length (bytV qs) ownq := hq.kp hkA5 (by omega) (by intro b hb; omega)
  have hu5 : usedF (fsOne 1000 (0 + 1 + 1 + 1 + 1) nmA i [(nmA, i)] [] ([] ++ ps) (([] ++ ps : List Int).length : Int) []) ≤ ([] ++ ps : List Int).length := used_le (by simp)
  rw [List.nil_append] at hu5 w5
  simp (disch := omega) only [go_sem, ↓reduceIte ]
  refine (wAppend (q := qs) w5 (by omega) (fsOne_big (by omega) (by omega) (by simp) (by simp [totB]; omega)) nmA hq5 (by omega) (by omega)).mono fun v H6 nx6 _ ⟨hv, s6⟩ => ?_
  rw [one_append r2 (by omega)] at hv s6
  subst hv
  have x6 := s6.le
  have w6 := s6.sh
  have k6 := s6.kp
  simp (disch := omega) only [go_sem, ↓reduceIte ]
  refine (wFall w6 (by omega) (one_safe (by rw [List.length_append]; omega) (fun q hq => by simp at hq)) (by rw [one_tot]; simp [totB]; omega) (by simp [fsOne]) 0 n).mono fun v H7 nx7 _ ⟨hv, s7⟩ => ?_
  rw [one_fall r2] at s7
  subst hv
  have x7 := s7.le
  have w7 := s7.sh
  have k7 := s7.kp
  simp (disch := omega) only [go_sem, ↓reduceIte ]
  refine (wRead w7 (by rw [one_tot]; have := (cutB_len n (ps ++ qs) ps.length (by omega)).2.2; simp [totB] at this ⊢; omega) nmA).mono fun v H8 nx8 _ ⟨x8, k8, w8, u, own8, hv, hs8, ho8⟩ => ?_
  rw [one_read r2] at hv hs8
  subst hv
  have hone8 := hs8.one
  have hkA8 : Kp (fun b => nx0 ≤ b) nx H H8 := (by repeat first | exact Kp.refl _ _ _ | refine Kp.dropT ?_ (.inl (by omega)) | refine Kp.put ?_ (.inl (by omega)) | refine Kp.new ?_ (by omega) | refine Kp.put ?_ (.inr (by omega)) | refine Kp.newO ?_ (by omega) | refine Kp.setO ?_ (.inl (by omega)) | refine Kp.setO ?_ (.inr (by omega)) | refine Kp.trans0 ?_ (by assumption) (by omega) | refine Kp.transS ?_ (by assumption) (by omega) (fun b hb hT => by first | omega | (dsimp only at hT ⊢; omega) | (simp only at hT ⊢; omega))) 
  have hp8 : SlA nx8 H8 1 (.slice pa ps.length pc) ps.length (bytV ps) ownp := hp.kp hkA8 (by omega) (by intro b hb; omega)
  have hq8 : SlA nx8 H8 1 (.slice qa qs.length qc) qs.length (bytV qs) ownq := hq.kp hkA8 (by omega) (by intro b hb; omega)
  simp only at hs8
  have hqc : qs.length ≤ qc := by
    rcases hq.2.2 with ⟨e, _, _⟩ | ⟨_, _, _, e, _, h, _⟩
    · simp only [Value.slice.injEq] at e; omega
    · simp only [Value.slice.injEq] at e; omega
  obtain ⟨k, hk, hkn⟩ : ∃ k : Nat, k ≤ qs.length ∧ (k : Int) = (if n < 0 then (0 : Int) else if (qs.length : Int) < n then (qs.length : Int) else n) := by
    by_cases h1 : n < 0
    · exact ⟨0, by omega, by rw [if_pos h1]; rfl⟩
    · by_cases h2 : (qs.length : Int) < n
      · exact ⟨qs.length, by omega, by rw [if_neg h1, if_pos h2]⟩
      · exact ⟨n.toNat, by omega, by rw [if_neg h1, if_neg h2]; omega⟩
  have hval : (cutB n (ps ++ qs) ps.length).1 = ps ++ qs.take k := by
    unfold cutB
    have : (min ((ps ++ qs).length : Int) ((ps.length : Int) + min (max n 0) (ps ++ qs).length)).toNat = ps.length + k := by
      rw [List.length_append]
      by_cases h1 : n < 0
      · rw [if_pos h1] at hkn; omega
      · rw [if_neg h1] at hkn
        by_cases h2 : (qs.length : Int) < n
        · rw [if_pos h2] at hkn; omega
        · rw [if_neg h2] at hkn; omega
    simp only [this]
    rw [List.take_length_add_append]
  rw [hval] at hs8
  have v1 := convV_by (P := Try.prog) sl22 (d := 9) u8u stru hs8
  have v2 := convV_by (P := Try.prog) sl22 (d := 9) u8u stru hp8
  have hsv := slice_h (P := Try.prog) (H := AH.empty) (n := qs.length) (c := qc) (a := qa) (kh := .i64) (h := (k : Nat)) sl22 (by omega) (by omega)
  have hcut := hq8.cut (l := 0) (h := k) (m := qc) (by omega) hk (by omega) (by omega)
  generalize hcv : cutS qa 1 qc 0 k = cv at hcut
  have hcl : ((bytV qs).drop (0 * 1)).take ((k - 0) * 1) = bytV (qs.take k) := by simp [bytV, List.map_take]
  have hlen : (qs.take k).length = k - 0 := by rw [List.length_take]; omega
  rw [hcl, ← hlen] at hcut
  have v3 := convV_by (P := Try.prog) sl22 (d := 9) u8u stru hcut
  rw [Int.toNat_natCast, hcv] at hsv
  have hsvz : ∀ z : Int, z = (k : Int) → sliceV Try.prog AH.empty 22 (.slice qa qs.length qc) none (some (.int .i64 z)) none = some cv := fun z hz => by rw [hz]; exact hsv
  have v4 := add_str (P := Try.prog) (H := AH.empty) (t := 9) (x := .tmp 60) (y := .tmp 64) (a := byteS ps) (b := byteS (qs.take k)) (by rw [byteS_size, byteS_size, hlen]; omega)
  have v5 := byteS_append ps (qs.take k)
  have hkk : Kp (fun _ => False) nx H H8 := Kp.mono hkA8 (Nat.le_refl _) (fun b hb e => by omega)
  by_cases h1 : n < 0
  · rw [if_pos h1] at hkn
    simp (disch := omega) only [go_sem, ↓reduceIte , h1, hone8]
    refine awp_draw ord3x16 (by kernel_rfl) ?_
    simp (disch := omega) only [go_sem, ↓reduceIte , ord3x16, v1, v2, v3, v4, v5, hsvz, decide_true]
    exact ⟨by omega, hkk⟩
  · rw [if_neg h1] at hkn
    by_cases h2 : (qs.length : Int) < n
    · rw [if_pos h2] at hkn
      simp (disch := omega) only [go_sem, ↓reduceIte , h1, h2, hone8]
      refine awp_draw ord3x16 (by kernel_rfl) ?_
      simp (disch := omega) only [go_sem, ↓reduceIte , ord3x16, v1, v2, v3, v4, v5, hsvz, decide_true]
      exact ⟨by omega, hkk⟩
    · rw [if_neg h2] at hkn
      simp (disch := omega) only [go_sem, ↓reduceIte , h1, h2, hone8]
      refine awp_draw ord3x16 (by kernel_rfl) ?_
      simp (disch := omega) only [go_sem, ↓reduceIte , ord3x16, v1, v2, v3, v4, v5, hsvz, decide_true]
      exact ⟨by omega, hkk⟩
end Go.Proofs.Ytcdimjocdpogjaa
