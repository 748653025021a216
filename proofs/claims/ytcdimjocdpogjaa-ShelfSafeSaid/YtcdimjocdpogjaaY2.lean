/- Shelf: the document's example; ShelfKeeps. -/
import Derived.Test.YtcdimjocdpogjaaY1
import Derived.Test.YtcdimjocdpogjaaL26
namespace Go.Proofs.Ytcdimjocdpogjaa
open Go.RowKit
set_option linter.unusedSimpArgs false

theorem u8u : Try.prog.underlying 5 = some (.int .u8) := by kernel_rfl
theorem stru : Try.prog.underlying 9 = some .string := by kernel_rfl

set_option maxHeartbeats 8000000 in
set_option maxRecDepth 20000 in
theorem awake05_c {lo : Nat} {H : AH} {nx : Nat} : ACalls Try.prog lo 8 #[] H nx (fun v H' nx' => v = .bool true ∧ nx ≤ nx' ∧ Kp (fun _ => False) nx H H') := by
  refine ACalls.withLo fun hlo => ?_
  refine acalls_of_awp L8 Try.func8 rfl (by kernel_rfl) ?_
  simp (disch := omega) only [go_sem, ↓reduceIte ]
  refine (wNew 100).mono fun v H1 nx1 _ ⟨hx1, hk1, p, hv, w1⟩ => ?_
  subst hv
  simp (disch := omega) only [go_sem, ↓reduceIte ]
  refine (wCreate w1 (by omega) (fsNone_ok (by omega)) nmA).mono fun v H2 nx2 _ ⟨i, hi, hv, s2⟩ => ?_
  rw [one_create okA] at hv s2
  subst hv
  have x2 := s2.le
  have w2 := s2.sh
  have k2 := s2.kp
  have r2 := one_other w2
  simp only [Int.zero_add] at w2
  simp (disch := omega) only [go_sem, ↓reduceIte ]
  refine buildSQ_all (n := 2) [.int .u8 120, .int .u8 121] sl22 zero5 (by omega) (by omega) rfl (by simp [cells_int]) fun m3 hm3 => ?_
  have hlit : SlA (m3 + 1) _ 1 (.slice (some ⟨m3, 0, none⟩) 2 2) 2 (bytV [120, 121]) (m3 + 1) := SlA.ofNew (H := H2) (e := 5) (cs := ([Value.int .u8 120, .int .u8 121].flatMap fun v => v.cells.toList).toArray) rfl (by omega) (by simp [maxLen]) (by simp [cells_int]) (fun j _ => by simp [cells_int, bytV])
  simp (disch := omega) only [go_sem, ↓reduceIte ]
  refine convQ_same sl22 u8u (new_t_same _ _ _) ?_
  simp (disch := omega) only [go_sem, ↓reduceIte ]
  have hu1 : usedF (fsOne 100 1 nmA i [] [⟨nmA, some i, .empty⟩] [] 0 []) ≤ 0 := used_le (by simp)
  refine (wAppendNew (q := [120, 121]) w2 (H := ((H2.new m3 _ 5).dropT m3)) (nx := m3 + 1) (by repeat first | exact Kp.refl _ _ _ | refine Kp.dropT ?_ (.inl (by omega)) | refine Kp.put ?_ (.inl (by omega)) | refine Kp.new ?_ (by omega) | refine Kp.put ?_ (.inr (by omega)) | refine Kp.newO ?_ (by omega) | refine Kp.setO ?_ (.inl (by omega)) | refine Kp.setO ?_ (.inr (by omega)) | refine Kp.trans0 ?_ (by assumption) (by omega) | refine Kp.transS ?_ (by assumption) (by omega) (fun b hb hT => by first | omega | (dsimp only at hT ⊢; omega) | (simp only at hT ⊢; omega)))  (by omega) (by omega) (fsOne_big (by omega) (by omega) (by simp) (by simp [totB])) nmA (hlit.dropT) (by simp) (by omega)).mono fun v H4 nx4 _ ⟨hv, s4⟩ => ?_
  rw [one_append r2 (by simp only [List.length_cons, List.length_nil]; omega)] at hv s4
  subst hv
  have x4 := s4.le
  have w4 := s4.sh
  have k4 := s4.kp
  simp (disch := omega) only [go_sem, ↓reduceIte ]
  refine (wSync w4 (by omega) (fsOne_big (by omega) (by omega) (by simp) (by simp [totB])) nmA).mono fun v H5 nx5 _ ⟨hv, s5⟩ => ?_
  rw [one_sync r2] at hv s5
  subst hv
  have x5 := s5.le
  have w5 := s5.sh
  have k5 := s5.kp
  simp (disch := omega) only [go_sem, ↓reduceIte ]
  refine (wFall w5 (by omega) (one_safe (by simp) (fun q hq => by simp at hq)) (by rw [one_tot]; simp [totB]) (by simp [fsOne]) 0 0).mono fun v H6 nx6 _ ⟨hv, s6⟩ => ?_
  rw [one_fell] at s6
  subst hv
  have x6 := s6.le
  have w6 := s6.sh
  have k6 := s6.kp
  simp (disch := omega) only [go_sem, ↓reduceIte ]
  refine (wList w6 (by simp [fsNone]) (by simp [fsNone])).mono fun v H7 nx7 _ ⟨x7, k7, w7, own7, ss, hss, hs7, _⟩ => ?_
  have hss0 : ss = [] := by simpa [fsNone] using hss
  subst hss0
  obtain ⟨a7, c7, rfl⟩ := hs7.form
  obtain ⟨r7, ht7, hsf7, w7'⟩ : ∃ r, totB r = 2 ∧ SafeOk r ∧ ShW nx lo nx7 H7 p (fsNone 100 3 r) := ⟨_, by simp [totB], fun q hq => by simp at hq; subst hq; simp, w7⟩
  simp (disch := omega) only [go_sem, ↓reduceIte , List.length_nil]
  refine (wCreate w7' (by omega) (fsNone_ok (by omega)) nmB).mono fun v H8 nx8 _ ⟨j, hj, hv, s8⟩ => ?_
  rw [one_create okB'] at hv s8
  subst hv
  have x8 := s8.le
  have w8 := s8.sh
  have k8 := s8.kp
  have r8 := one_other w8
  simp (disch := omega) only [go_sem, ↓reduceIte ]
  refine buildSQ_all (n := 2) [.int .u8 120, .int .u8 121] sl22 zero5 (by omega) (by omega) rfl (by simp [cells_int]) fun m9 hm9 => ?_
  have hlit9 : SlA (m9 + 1) _ 1 (.slice (some ⟨m9, 0, none⟩) 2 2) 2 (bytV [120, 121]) (m9 + 1) := SlA.ofNew (H := H8) (e := 5) (cs := ([Value.int .u8 120, .int .u8 121].flatMap fun v => v.cells.toList).toArray) rfl (by omega) (by simp [maxLen]) (by simp [cells_int]) (fun j _ => by simp [cells_int, bytV])
  simp (disch := omega) only [go_sem, ↓reduceIte ]
  refine convQ_same sl22 u8u (new_t_same _ _ _) ?_
  simp (disch := omega) only [go_sem, ↓reduceIte ]
  have hu9 : usedF (fsOne 100 (3 + 1) nmB j [] [⟨nmB, some j, .empty⟩] [] 0 r7) ≤ 0 := used_le (fun x hx => by simpa [usedIds, fsOne] using r8 x hx)
  refine (wAppendNew (q := [120, 121]) w8 (H := ((H8.new m9 _ 5).dropT m9)) (nx := m9 + 1) (by repeat first | exact Kp.refl _ _ _ | refine Kp.dropT ?_ (.inl (by omega)) | refine Kp.put ?_ (.inl (by omega)) | refine Kp.new ?_ (by omega) | refine Kp.put ?_ (.inr (by omega)) | refine Kp.newO ?_ (by omega) | refine Kp.setO ?_ (.inl (by omega)) | refine Kp.setO ?_ (.inr (by omega)) | refine Kp.trans0 ?_ (by assumption) (by omega) | refine Kp.transS ?_ (by assumption) (by omega) (fun b hb hT => by first | omega | (dsimp only at hT ⊢; omega) | (simp only at hT ⊢; omega)))  (by omega) (by omega) (fsOne_big (by omega) (by omega) (by simp) (by simp [ht7])) nmB (hlit9.dropT) (by simp) (by omega)).mono fun v H9 nx9 _ ⟨hv, s9⟩ => ?_
  rw [one_append r8 (by simp only [List.length_cons, List.length_nil]; omega)] at hv s9
  subst hv
  have x9 := s9.le
  have w9 := s9.sh
  have k9 := s9.kp
  simp (disch := omega) only [go_sem, ↓reduceIte ]
  refine (wSync w9 (by omega) (fsOne_big (by omega) (by omega) (by simp) (by simp [ht7])) nmB).mono fun v H10 nx10 _ ⟨hv, s10⟩ => ?_
  rw [one_sync r8] at hv s10
  subst hv
  have x10 := s10.le
  have w10 := s10.sh
  have k10 := s10.kp
  simp (disch := omega) only [go_sem, ↓reduceIte ]
  refine (wNames w10 (by omega) (fsOne_big (by omega) (by omega) (by simp) (by simp [ht7])).toFsOk).mono fun v H11 nx11 _ ⟨hv, s11⟩ => ?_
  rw [one_names] at hv s11
  subst hv
  have x11 := s11.le
  have w11 := s11.sh
  have k11 := s11.kp
  simp (disch := omega) only [go_sem, ↓reduceIte ]
  refine (wFall w11 (by omega) (one_safe (by simp) hsf7) (by rw [one_tot, ht7]; simp) (by simp [fsOne]) 0 0).mono fun v H12 nx12 _ ⟨hv, s12⟩ => ?_
  rw [one_fall r8] at s12
  subst hv
  have x12 := s12.le
  have w12 := s12.sh
  have k12 := s12.kp
  have hcut : cutB 0 ([] ++ [120, 121]) (([] ++ [120, 121] : List Int).length : Int) = ([120, 121], 2) := by decide
  rw [hcut] at w12
  simp (disch := omega) only [go_sem, ↓reduceIte ]
  refine (wRead w12 (by rw [one_tot, ht7]; simp) nmB).mono fun v H13 nx13 _ ⟨x13, k13, w13, u, own13, hv, hs13, ho13⟩ => ?_
  rw [one_read r8] at hv hs13
  subst hv
  have hone13 := hs13.one
  simp only at hs13
  have e13 := fun K : Value → AH → Nat → Prop => convQ_bytes (P := Try.prog) (lo := lo) (K := K) sl22 (d := 9) u8u stru hs13
  have ebs : (byteS [120, 121]).data.toList = [120, 121] := by decide
  simp (disch := omega) only [go_sem, ↓reduceIte , e13, ebs, decide_true]
  refine ⟨by omega, ?_⟩
  have hkk : Kp (fun b => nx ≤ b) nx H H13 := (by repeat first | exact Kp.refl _ _ _ | refine Kp.dropT ?_ (.inl (by omega)) | refine Kp.put ?_ (.inl (by omega)) | refine Kp.new ?_ (by omega) | refine Kp.put ?_ (.inr (by omega)) | refine Kp.newO ?_ (by omega) | refine Kp.setO ?_ (.inl (by omega)) | refine Kp.setO ?_ (.inr (by omega)) | refine Kp.trans0 ?_ (by assumption) (by omega) | refine Kp.transS ?_ (by assumption) (by omega) (fun b hb hT => by first | omega | (dsimp only at hT ⊢; omega) | (simp only at hT ⊢; omega))) 
  exact Kp.mono hkk (Nat.le_refl _) (fun b hb e => by omega)
end Go.Proofs.Ytcdimjocdpogjaa
