/- Ether's law EtherPlays, in our own logic. -/
import Derived.Test.YtcdnjkogkibegaaF14
import Derived.Test.YtcdnjkogkibegaaF17
import Derived.Test.YtcdnjkogkibegaaF18
namespace Go.Proofs.Ytcdnjkogkibegaa
open Go.RowKit
set_option linter.unusedSimpArgs false

theorem plays_much {lo : Nat} {H : AH} {nx : Nat} {s : Value} {acts : List Act19} {owna : Nat} (hs : SlA nx H 4 s acts.length (actCells19 acts) owna) (h : 80 < acts.length) :
    ACalls Try.prog lo 7 #[s] H nx (fun v H' nx' => v = .bool true ∧ nx ≤ nx' ∧ Kp (fun _ => False) nx H H') := by
  refine ACalls.withLo fun hlo => ?_
  refine acalls_of_awp L7 Try.func7 rfl (by kernel_rfl) ?_
  obtain ⟨sa, sc, rfl⟩ := hs.form
  simp (disch := omega) only [go_sem, ↓reduceIte ]
  refine awake19_c.mono fun v H1 nx1 _ ⟨hv, hx1, hk1⟩ => ?_
  subst hv
  simp (disch := omega) only [go_sem, ↓reduceIte ]
  refine awake19_c.mono fun v H2 nx2 _ ⟨hv, hx2, hk2⟩ => ?_
  subst hv
  simp (disch := omega) only [go_sem, ↓reduceIte ]
  exact ⟨by omega, (by repeat first | exact Kp.refl _ _ _ | refine Kp.dropT ?_ (.inl (by omega)) | refine Kp.put ?_ (.inl (by omega)) | refine Kp.new ?_ (by omega) | refine Kp.put ?_ (.inr (by omega)) | refine Kp.trans0 ?_ (by assumption) (by omega) | refine Kp.transS ?_ (by assumption) (by omega) (fun b hb hT => by first | omega | (dsimp only at hT ⊢; omega) | (simp only at hT ⊢; omega))) ⟩

theorem zUp : z66.cells = (List.replicate 25 (Value.bool false)).toArray := by kernel_rfl

structure PlayI (lo nx0 : Nat) (H0 : AH) (s : Value) (n x p4 : Nat) (m : Nat) (env : Env) (H : AH) (nx : Nat) (i : Nat) (up : Nat → Nat → Bool) (l l2 : List Pkt) (own own5 : Nat) (v5 : Value) : Prop where
  hm : m = n - i
  hi : i ≤ n
  henv : env = [(0, s), (3, .pointer (some ⟨x, 0, none⟩)), (4, .pointer (some ⟨p4, 0, none⟩)), (5, v5), (6, .int .i64 i)]
  hx : nx0 ≤ nx
  hk : Kp (fun _ => False) nx0 H0 H
  hP : PlA lo nx H x p4 up l l2 own own5 v5
  ho : own = 0 ∨ nx0 < own
  ho5 : own5 = 0 ∨ nx0 < own5
  hl : l.length ≤ 5 * i

theorem atC_eq {i : Int} {n : Nat} (h : 0 < n) : (IntKind.u64.wrap i % (n : Int)) = (atC i n : Int) := by
  unfold atC
  have h1 := Int.emod_nonneg (IntKind.u64.wrap i) (show (n : Int) ≠ 0 by omega)
  omega

set_option maxHeartbeats 16000000 in
theorem plays_c {lo : Nat} {H : AH} {nx : Nat} {s : Value} {acts : List Act19} {owna : Nat} (hs : SlA nx H 4 s acts.length (actCells19 acts) owna) (hok : ∀ x ∈ acts, Act19Ok x) (h80 : acts.length ≤ 80) :
    ACalls Try.prog lo 7 #[s] H nx (fun v H' nx' => v = .bool true ∧ nx ≤ nx' ∧ Kp (fun _ => False) nx H H') := by
  refine ACalls.withLo fun hlo => ?_
  refine acalls_of_awp L7 Try.func7 rfl (by kernel_rfl) ?_
  obtain ⟨sa, sc, rfl⟩ := hs.form
  have hle := hs.le
  simp (disch := omega) only [go_sem, ↓reduceIte ]
  refine awake19_c.mono fun v H1 nx1 _ ⟨hv, hx1, hk1⟩ => ?_
  subst hv
  simp (disch := omega) only [go_sem, ↓reduceIte ]
  intro x hx
  simp (disch := omega) only [go_sem, ↓reduceIte ]
  intro p4 hp4
  simp (disch := omega) only [go_sem, ↓reduceIte ]
  refine awp_name fun Hs hHs => ?_
  have hk0 : Kp (fun _ => False) nx H Hs := by rw [hHs]; exact (by repeat first | exact Kp.refl _ _ _ | refine Kp.dropT ?_ (.inl (by omega)) | refine Kp.put ?_ (.inl (by omega)) | refine Kp.new ?_ (by omega) | refine Kp.put ?_ (.inr (by omega)) | refine Kp.trans0 ?_ (by assumption) (by omega) | refine Kp.transS ?_ (by assumption) (by omega) (fun b hb hT => by first | omega | (dsimp only at hT ⊢; omega) | (simp only at hT ⊢; omega))) 
  have hE0 : EtherA lo (p4 + 1) Hs x (fun _ _ => false) [] 0 := by rw [hHs]; exact (EtherA.zero H1 (by omega)).new hp4
  have hP0 : PlA lo (p4 + 1) Hs x p4 (fun _ _ => false) [] [] 0 0 (.slice none 0 0) := by
    refine ⟨hE0, by omega, by omega, by omega, fun a b ha hb => ?_, fun _ _ _ => rfl, SlA.nil _ _ _, rfl, by simp, by omega, by omega, by omega, .inl rfl, .inl rfl, by simp, by simp⟩
    rw [hHs, new_same]
    show (z66.cells)[a * 5 + b]? = _
    rw [zUp, List.getElem?_toArray, List.getElem?_replicate, if_pos (by omega)]
  clear hHs
  refine awp_loop (fun m env H2 nx2 => ∃ i up l l2 own own5 v5, PlayI lo nx H (.slice sa acts.length sc) acts.length x p4 m env H2 nx2 i up l l2 own own5 v5) acts.length ⟨0, _, [], [], 0, 0, _, ⟨rfl, by omega, rfl, by omega, hk0, hP0, .inl rfl, .inl rfl, by simp⟩⟩ (fun m env H2 nx2 ⟨i, up, l, l2, own, own5, v5, hI⟩ hn => ?_)
  obtain ⟨hm, hi, henv, hx2, hk2, hP, ho, ho5, hl⟩ := hI
  subst henv
  have hc2 := hk2.cell0
  by_cases hil : i < acts.length
  · obtain ⟨act, hx0⟩ : ∃ act, acts[i]? = some act := ⟨_, List.getElem?_eq_getElem hil⟩
    have hao := hok act (List.mem_of_getElem? hx0)
    obtain ⟨ak0, ak1, aa0, aa1, ab0, ab1⟩ := hao
    obtain ⟨g, off, cap, hv, hg⟩ := hs.open (by omega)
    cases hv
    have c0 := hs.cells.1 (4 * i + 0) (.int .u8 act.k) (by unfold actCells19; rw [flat_get (f := Act19.cells) (n := 4) (fun _ => rfl) acts i act hx0 0 (by omega)]; rfl)
    have c1 := hs.cells.1 (4 * i + 1) (.int .u8 act.a) (by unfold actCells19; rw [flat_get (f := Act19.cells) (n := 4) (fun _ => rfl) acts i act hx0 1 (by omega)]; rfl)
    have c2 := hs.cells.1 (4 * i + 2) (.int .u8 act.b) (by unfold actCells19; rw [flat_get (f := Act19.cells) (n := 4) (fun _ => rfl) acts i act hx0 2 (by omega)]; rfl)
    have c3 := hs.cells.1 (4 * i + 3) (.int .i64 act.i) (by unfold actCells19; rw [flat_get (f := Act19.cells) (n := 4) (fun _ => rfl) acts i act hx0 3 (by omega)]; rfl)
    rw [Nat.mul_comm] at c0 c1 c2 c3
    rw [Nat.add_zero] at c0
    rw [← Nat.add_assoc] at c1 c2 c3
    obtain ⟨a, ha, ha5⟩ : ∃ a : Nat, act.a % 5 = a ∧ a < 5 := ⟨(act.a % 5).toNat, by omega, by omega⟩
    obtain ⟨b, hb, hb5⟩ : ∃ b : Nat, act.b % 5 = b ∧ b < 5 := ⟨(act.b % 5).toNat, by omega, by omega⟩
    have hlen := hP.len
    obtain ⟨s5, t5, rfl⟩ := hP.hs.form
    refine awp_cutE (fun e h n => ∃ r, e = (0, .slice (some ⟨g, off, none⟩) acts.length sc) :: (3, .pointer (some ⟨x, 0, none⟩)) :: (4, .pointer (some ⟨p4, 0, none⟩)) :: (5, .slice s5 l2.length t5) :: (6, .int .i64 i) :: r ∧ h = H2 ∧ n = nx2) (fun K hK => by simp (disch := omega) only [go_sem, ↓reduceIte ]; exact hK _ _ _ ⟨_, rfl, rfl, rfl⟩) (fun e h n ⟨r, he, hh, hn'⟩ => ?_)
    rw [he, hh, hn']
    clear he hh hn'
    have hw := wrap_u64_range act.i
    have next : ∀ (l' l2' : List Pkt) (up' : Nat → Nat → Bool) (own' own5' : Nat) (v5' : Value) (H3 : AH) (nx3 : Nat), nx ≤ nx3 → Kp (fun _ => False) nx H H3 → PlA lo nx3 H3 x p4 up' l' l2' own' own5' v5' → (own' = 0 ∨ nx < own') → (own5' = 0 ∨ nx < own5') → l'.length ≤ 5 * i + 5 →
        ∃ m', m' < m ∧ ∃ i' up l l2 own own5 v5, PlayI lo nx H (.slice (some ⟨g, off, none⟩) acts.length sc) acts.length x p4 m' [(0, .slice (some ⟨g, off, none⟩) acts.length sc), (3, .pointer (some ⟨x, 0, none⟩)), (4, .pointer (some ⟨p4, 0, none⟩)), (5, v5'), (6, .int .i64 ((i : Int) + 1))] H3 nx3 i' up l l2 own own5 v5 := fun l' l2' up' own' own5' v5' H3 nx3 u1 u2 u3 u4 u5 u6 => ⟨acts.length - (i + 1), by omega, i + 1, up', l', l2', own', own5', v5', ⟨rfl, by omega, rfl, u1, u2, u3, u4, u5, by omega⟩⟩
    rw [awp_seq, awp_block]
    refine awp_cutE (fun e h n => e = [(0, .slice (some ⟨g, off, none⟩) acts.length sc), (3, .pointer (some ⟨x, 0, none⟩)), (4, .pointer (some ⟨p4, 0, none⟩)), (5, .slice s5 l2.length t5), (6, .int .i64 i), (7, .int .i64 a)] ∧ h = H2 ∧ n = nx2) (fun K hK => by simp (disch := omega) only [go_sem, ↓reduceIte , hc2, c1, ha]; exact hK _ _ _ ⟨rfl, rfl, rfl⟩) (fun e h n ⟨he, hh, hn'⟩ => ?_)
    rw [he, hh, hn']
    clear he hh hn'
    refine awp_cutE (fun e h n => e = [(0, .slice (some ⟨g, off, none⟩) acts.length sc), (3, .pointer (some ⟨x, 0, none⟩)), (4, .pointer (some ⟨p4, 0, none⟩)), (5, .slice s5 l2.length t5), (6, .int .i64 i), (7, .int .i64 a), (8, .int .i64 b)] ∧ h = H2 ∧ n = nx2) (fun K hK => by simp (disch := omega) only [go_sem, ↓reduceIte , hc2, c2, hb]; exact hK _ _ _ ⟨rfl, rfl, rfl⟩) (fun e h n ⟨he, hh, hn'⟩ => ?_)
    rw [he, hh, hn']
    clear he hh hn'
    refine awp_cutE (fun e h n => e = [(0, .slice (some ⟨g, off, none⟩) acts.length sc), (3, .pointer (some ⟨x, 0, none⟩)), (4, .pointer (some ⟨p4, 0, none⟩)), (5, .slice s5 l2.length t5), (6, .int .i64 i), (7, .int .i64 a), (8, .int .i64 b), (9, .int .i64 0)] ∧ h = H2 ∧ n = nx2) (fun K hK => by simp (disch := omega) only [go_sem, ↓reduceIte ]; exact hK _ _ _ ⟨rfl, rfl, rfl⟩) (fun e h n ⟨he, hh, hn'⟩ => ?_)
    rw [he, hh, hn']
    clear he hh hn'
    refine awp_cutE (fun e h n => ∃ (k : Int) (r : Env), e = swEnv g off acts.length sc i a b x p4 (.slice s5 l2.length t5) k r ∧ (0 < l.length → k = atC act.i l.length) ∧ h = H2 ∧ n = nx2) (fun K hK => ?_) (fun e h n ⟨k, r, he, hkk, hh, hn'⟩ => ?_)
    · by_cases h0 : l2.length = 0
      · simp (disch := omega) only [go_sem, ↓reduceIte ]
        exact hK _ _ _ ⟨0, [(51, .bool false)], rfl, fun h => by omega, rfl, rfl⟩
      · have q1 := Int.emod_nonneg (IntKind.u64.wrap act.i) (show (l2.length : Int) ≠ 0 by omega)
        have q2 := Int.emod_lt_of_pos (IntKind.u64.wrap act.i) (show 0 < (l2.length : Int) by omega)
        simp (disch := omega) only [go_sem, ↓reduceIte , hc2, c3]
        exact hK _ _ _ ⟨IntKind.u64.wrap act.i % (l2.length : Int), [], rfl, fun h => by rw [hlen]; exact atC_eq h, rfl, rfl⟩
    rw [he, hh, hn']
    clear he hh hn'
    have hin : SwIn lo nx H g off acts.length i a b x p4 act H2 nx2 up l l2 own own5 (.slice s5 l2.length t5) := ⟨hP, hk2, hx2, hlo, by omega, by omega, by omega, c0, c3, ak0, ak1, ho, ho5, ha5, hb5, hil, h80, hl⟩
    refine awp_cutE (fun e h n => plR lo nx H (.slice (some ⟨g, off, none⟩) acts.length sc) x p4 i a b (5 * i + 5) e h n) (fun K hK => ?_) (fun e h n ⟨up', l', l2', own', own5', v5', r', hR⟩ => ?_)
    · have hcase : act.k % 9 < 3 ∨ (act.k % 9 = 3 ∨ act.k % 9 = 4) ∨ (act.k % 9 = 5 ∨ act.k % 9 = 6) ∨ act.k % 9 = 7 ∨ act.k % 9 = 8 := by omega
      rcases hcase with h | h | h | h | h
      · exact sw_join hin h hK
      · exact sw_send hin h hK
      · refine sw_take hin h hkk hK (fun env' H' nx' ⟨up', l', l2', own', own5', v5', r', hR⟩ => ?_)
        obtain ⟨he, u1, u2, u3, u4, u5, u6⟩ := hR
        subst he
        simp (disch := omega) only [go_sem, ↓reduceIte ]
        exact next l' l2' up' own' own5' v5' H' nx' u1 u2 u3 u4 u5 u6
      · refine sw_lose hin h hkk hK (fun env' H' nx' ⟨up', l', l2', own', own5', v5', r', hR⟩ => ?_)
        obtain ⟨he, u1, u2, u3, u4, u5, u6⟩ := hR
        subst he
        simp (disch := omega) only [go_sem, ↓reduceIte ]
        exact next l' l2' up' own' own5' v5' H' nx' u1 u2 u3 u4 u5 u6
      · exact sw_double hin h hkk hK
    · obtain ⟨he, u1, u2, u3, u4, u5, u6⟩ := hR
      subst he
      have hl2 := u3.len
      obtain ⟨s6, t6, rfl⟩ := u3.hs.form
      have hcu := u3.hup a b ha5 hb5
      simp only [awp_seq]
      refine awp_draw ord7x55 (by kernel_rfl) ?_
      simp (disch := omega) only [go_sem, ↓reduceIte , ord7x55]
      refine (len_c u3.hE).mono fun v H5 nx5 _ ⟨hv5, hH5, hx5⟩ => ?_
      subst hv5; subst hH5; subst hx5
      simp (disch := omega) only [go_sem, ↓reduceIte , hcu]
      refine (hears_c u3.hE a b).mono fun v H5 nx5 _ ⟨hv5, hH5, hx5⟩ => ?_
      subst hv5; subst hH5; subst hx5
      have hhe : hearsC up' a b = up' a b := by simp [hearsC, nodeC]; omega
      rw [hhe]
      simp (disch := omega) only [go_sem, ↓reduceIte , hcu]
      exact next l' l2' up' own' own5' _ _ _ u1 u2 u3 u4 u5 u6
  · simp (disch := omega) only [go_sem, ↓reduceIte ]
    exact ⟨by omega, hk2⟩
end Go.Proofs.Ytcdnjkogkibegaa
