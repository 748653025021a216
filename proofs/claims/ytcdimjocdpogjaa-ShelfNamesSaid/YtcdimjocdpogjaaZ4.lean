/- Shelf: which names may be. -/
import Derived.Test.YtcdimjocdpogjaaZ3
namespace Go.Proofs.Ytcdimjocdpogjaa
open Go.RowKit
set_option linter.unusedSimpArgs false

def okR (c : Int) : Bool := (decide (97 ≤ c) && decide (c ≤ 122)) || ((decide (48 ≤ c) && decide (c ≤ 57)) || decide (c = 46))
def okByte (b : UInt8) : Bool := okR b.toNat
def allOk (s : ByteArray) : Bool := s.data.toList.all okByte
def nameOk (s : ByteArray) : Bool := decide (0 < s.size) && decide (s.size ≤ 32) && allOk s

theorem dec_small {s : ByteArray} {pos : Nat} (h : (s.get! pos).toNat < 128) : Utf8.decode s pos = ((s.get! pos).toNat, 1) := by
  unfold Utf8.decode
  simp only [Nat.add_zero]
  rw [if_pos h]
theorem dec_great {s : ByteArray} {pos : Nat} (h : 128 ≤ (s.get! pos).toNat) : 128 ≤ (Utf8.decode s pos).1 := by
  unfold Utf8.decode
  simp only [Nat.add_zero]
  rw [if_neg (by omega)]
  repeat' split
  all_goals first | (simp only [Utf8.runeError]; omega) | (simp only [ge_iff_le, Bool.and_eq_true, decide_eq_true_eq] at *; omega)
theorem okR_great {c : Int} (h : 128 ≤ c) : okR c = false := by
  unfold okR
  simp only [Bool.or_eq_false_iff, Bool.and_eq_false_iff, decide_eq_false_iff_not]
  omega
theorem okR_dec (s : ByteArray) (pos : Nat) : okR ((Utf8.decode s pos).1 : Nat) = okByte (s.get! pos) := by
  unfold okByte
  by_cases h : (s.get! pos).toNat < 128
  · rw [dec_small h]
  · rw [okR_great (by have := dec_great (s := s) (pos := pos) (by omega); omega), okR_great (by omega)]

theorem allOk_true {s : ByteArray} (h : ∀ j, j < s.size → okByte (s.get! j) = true) : allOk s = true := by
  obtain ⟨a⟩ := s
  unfold allOk
  rw [List.all_eq_true]
  intro b hb
  obtain ⟨j, hj, rfl⟩ := List.getElem_of_mem hb
  have hj' : j < a.size := by simpa using hj
  have := h j hj'
  change okByte a[j]! = true at this
  rw [getElem!_pos a j hj'] at this
  simpa using this
theorem allOk_false {s : ByteArray} {j : Nat} (hj : j < s.size) (h : okByte (s.get! j) = false) : allOk s = false := by
  obtain ⟨a⟩ := s
  unfold allOk
  rw [List.all_eq_false]
  have hj' : j < a.size := hj
  change okByte a[j]! = false at h
  rw [getElem!_pos a j hj'] at h
  exact ⟨a[j], by simp, by rw [h]; simp⟩

set_option maxRecDepth 20000 in
theorem nameC_c {lo : Nat} (c : Int) (H : AH) (nx : Nat) : ACalls Try.prog lo 33 #[.int .i32 c] H nx (fun v H' nx' => v = .bool (!okR c) ∧ H' = H ∧ nx' = nx) := by
  refine acalls_of_awp L33 Try.func33 rfl (by kernel_rfl) ?_
  unfold okR
  by_cases h1 : 97 ≤ c ∧ c ≤ 122
  · obtain ⟨h1, h2⟩ := h1
    simp (disch := omega) only [go_sem, ↓reduceIte , h1, h2]
    rfl
  · have e1 : (decide (97 ≤ c) && decide (c ≤ 122)) = false := by
      simp only [Bool.and_eq_false_iff, decide_eq_false_iff_not]; omega
    rw [e1]
    by_cases h3 : 48 ≤ c ∧ c ≤ 57
    · obtain ⟨h3, h4⟩ := h3
      have h1 : ¬ 97 ≤ c := by omega
      simp (disch := omega) only [go_sem, ↓reduceIte , h1, h3, h4]
      rfl
    · have e2 : (decide (48 ≤ c) && decide (c ≤ 57)) = false := by
        simp only [Bool.and_eq_false_iff, decide_eq_false_iff_not]; omega
      rw [e2]
      by_cases h5 : c = 46
      · subst h5
        simp (disch := omega) only [go_sem, ↓reduceIte ]
        rfl
      · have e3 : decide (c = 46) = false := by simpa using h5
        rw [e3]
        by_cases h1 : 97 ≤ c
        · have h2 : ¬ c ≤ 122 := by omega
          have h3 : 48 ≤ c := by omega
          have h4 : ¬ c ≤ 57 := by omega
          simp (disch := omega) only [go_sem, ↓reduceIte , h1, h2, h3, h4, h5]
          rfl
        · by_cases h3 : 48 ≤ c
          · have h4 : ¬ c ≤ 57 := by omega
            simp (disch := omega) only [go_sem, ↓reduceIte , h1, h3, h4, h5]
            rfl
          · simp (disch := omega) only [go_sem, ↓reduceIte , h1, h3, h5]
            rfl

structure IdI (nx0 : Nat) (H0 : AH) (s : ByteArray) (r : Nat) (m : Nat) (env : Env) (H : AH) (nx pos : Nat) : Prop where
  hm : m = s.size - pos
  hp : pos ≤ s.size
  henv : env = [(1, .func (.func 33) #[] #[]), (2, .bool true), (10, .pointer (some ⟨r, 0, none⟩))] ∨ ∃ x, env = [(1, .func (.func 33) #[] #[]), (2, .bool true), (7, x), (10, .pointer (some ⟨r, 0, none⟩)), (19, .bool false)]
  hx : nx0 ≤ nx
  hk : Kp (fun b => b = r) nx0 H0 H
  it : H.o r = some (.stringIter s pos)
  ok : ∀ j, j < pos → okByte (s.get! j) = true

set_option maxRecDepth 20000 in
theorem idxFunc_c {lo : Nat} (s : ByteArray) (H : AH) (nx : Nat) : ACalls Try.prog lo 60 #[.string s, .func (.func 33) #[] #[], .bool true] H nx (fun v H' nx' => nx ≤ nx' ∧ Kp (fun _ => False) nx H H' ∧ ∃ i : Int, v = .int .i64 i ∧ (0 ≤ i ↔ allOk s = false)) := by
  refine ACalls.withLo fun hlo => ?_
  refine acalls_of_awp L60 Try.func60 rfl (by kernel_rfl) ?_
  simp (disch := omega) only [go_sem, ↓reduceIte ]
  refine rangeQ_str underStr1 fun r hr => ?_
  simp (disch := omega) only [go_sem, ↓reduceIte ]
  refine awp_loop (fun m env H1 nx1 => ∃ pos, IdI (r + 1) (H.newO r (.stringIter s 0)) s r m env H1 nx1 pos) s.size ⟨0, ⟨rfl, by omega, .inl rfl, Nat.le_refl _, Kp.refl _ _ _, newO_same _ _ _, by omega⟩⟩ (fun m env H1 nx1 ⟨pos, hI⟩ hn => ?_)
  obtain ⟨hm, hp, henv, hx1, hk1, hit, hok⟩ := hI
  rcases henv with rfl | ⟨x, rfl⟩
  all_goals
    simp (disch := omega) only [go_sem, ↓reduceIte ]
    refine nextMQ_str hit (by omega) (fun hlt => ?_) (fun hge => ?_)
    · have hget : okByte (s.get! pos) = okR ((Utf8.decode s pos).1 : Nat) := (okR_dec s pos).symm
      simp (disch := omega) only [go_sem, ↓reduceIte ]
      refine (nameC_c _ _ _).mono fun v H2 nx2 _ ⟨hv, hH, hx⟩ => ?_
      subst hv; subst hH; subst hx
      cases hb : okR ((Utf8.decode s pos).1 : Nat) with
      | true =>
        have hft : (false == true) = false := rfl
        rw [hb] at hget
        have hwd : (Utf8.decode s pos).2 = 1 := by
          by_cases h : (s.get! pos).toNat < 128
          · rw [dec_small h]
          · have := okR_great (c := (s.get! pos).toNat) (by omega)
            unfold okByte at hget
            rw [hget] at this; cases this
        simp (disch := omega) only [go_sem, ↓reduceIte , hft, hwd]
        refine ⟨s.size - (pos + 1), by omega, pos + 1, ⟨rfl, by omega, .inr ⟨_, rfl⟩, by omega, (by repeat first | exact Kp.refl _ _ _ | refine Kp.dropT ?_ (.inl (by omega)) | refine Kp.put ?_ (.inl (by omega)) | refine Kp.new ?_ (by omega) | refine Kp.put ?_ (.inr (by omega)) | refine Kp.newO ?_ (by omega) | refine Kp.setO ?_ (.inl (by omega)) | refine Kp.setO ?_ (.inr (by omega)) | refine Kp.trans0 ?_ (by assumption) (by omega) | refine Kp.transS ?_ (by assumption) (by omega) (fun b hb hT => by first | omega | (dsimp only at hT ⊢; omega) | (simp only at hT ⊢; omega))) , by simp (disch := omega) only [go_sem, ↓reduceIte ], fun j hj => ?_⟩⟩
        by_cases e : j = pos
        · subst e; exact hget
        · exact hok j (by omega)
      | false =>
        simp (disch := omega) only [go_sem, ↓reduceIte ]
        refine ⟨by omega, (by repeat first | exact Kp.refl _ _ _ | refine Kp.dropT ?_ (.inl (by omega)) | refine Kp.put ?_ (.inl (by omega)) | refine Kp.new ?_ (by omega) | refine Kp.put ?_ (.inr (by omega)) | refine Kp.newO ?_ (by omega) | refine Kp.setO ?_ (.inl (by omega)) | refine Kp.setO ?_ (.inr (by omega)) | refine Kp.trans0 ?_ (by assumption) (by omega) | refine Kp.transS ?_ (by assumption) (by omega) (fun b hb hT => by first | omega | (dsimp only at hT ⊢; omega) | (simp only at hT ⊢; omega))) , pos, rfl, ?_⟩
        rw [hb] at hget
        exact ⟨fun _ => allOk_false hlt hget, fun _ => by omega⟩
    · simp (disch := omega) only [go_sem, ↓reduceIte ]
      refine ⟨by omega, (by repeat first | exact Kp.refl _ _ _ | refine Kp.dropT ?_ (.inl (by omega)) | refine Kp.put ?_ (.inl (by omega)) | refine Kp.new ?_ (by omega) | refine Kp.put ?_ (.inr (by omega)) | refine Kp.newO ?_ (by omega) | refine Kp.setO ?_ (.inl (by omega)) | refine Kp.setO ?_ (.inr (by omega)) | refine Kp.trans0 ?_ (by assumption) (by omega) | refine Kp.transS ?_ (by assumption) (by omega) (fun b hb hT => by first | omega | (dsimp only at hT ⊢; omega) | (simp only at hT ⊢; omega))) , -1, rfl, ?_⟩
      have := allOk_true (s := s) fun j hj => hok j (by omega)
      rw [this]
      simp

theorem contF_c {lo : Nat} (s : ByteArray) (H : AH) (nx : Nat) : ACalls Try.prog lo 34 #[.string s, .func (.func 33) #[] #[]] H nx (fun v H' nx' => nx ≤ nx' ∧ Kp (fun _ => False) nx H H' ∧ v = .bool (!allOk s)) := by
  refine acalls_of_awp L34 Try.func34 rfl (by kernel_rfl) ?_
  simp (disch := omega) only [go_sem, ↓reduceIte ]
  have h1 : ACalls Try.prog lo 49 #[.string s, .func (.func 33) #[] #[]] H nx (fun v H' nx' => nx ≤ nx' ∧ Kp (fun _ => False) nx H H' ∧ ∃ i : Int, v = .int .i64 i ∧ (0 ≤ i ↔ allOk s = false)) := by
    refine acalls_of_awp L49 Try.func49 rfl (by kernel_rfl) ?_
    simp (disch := omega) only [go_sem, ↓reduceIte ]
    refine (idxFunc_c s H nx).mono fun v H1 nx1 _ ⟨hx, hk, i, hv, hi⟩ => ?_
    subst hv
    simp (disch := omega) only [go_sem, ↓reduceIte ]
    exact ⟨by omega, hk, i, rfl, hi⟩
  refine h1.mono fun v H1 nx1 _ ⟨hx, hk, i, hv, hi⟩ => ?_
  subst hv
  cases ha : allOk s with
  | true =>
    have : ¬ 0 ≤ i := fun h => by rw [hi.1 h] at ha; cases ha
    simp (disch := omega) only [go_sem, ↓reduceIte , this]
    exact ⟨by omega, hk⟩
  | false =>
    have := hi.2 ha
    simp (disch := omega) only [go_sem, ↓reduceIte , this]
    exact ⟨by omega, hk⟩

set_option maxRecDepth 20000 in
theorem shName_c {lo : Nat} (s : ByteArray) (H : AH) (nx : Nat) : ACalls Try.prog lo 19 #[.string s] H nx (fun v H' nx' => nx ≤ nx' ∧ Kp (fun _ => False) nx H H' ∧ v = .bool (nameOk s)) := by
  refine acalls_of_awp L19 Try.func19 rfl (by kernel_rfl) ?_
  unfold nameOk
  by_cases h0 : s.size = 0
  · have e : s.data.toList = [] := by
      rw [← List.length_eq_zero_iff, Array.length_toList, ByteArray.size_data]; exact h0
    simp (disch := omega) only [go_sem, ↓reduceIte , e, decide_true]
    exact ⟨Nat.le_refl _, Kp.refl _ _ _⟩
  · have e : ¬ s.data.toList = [] := fun e => h0 (by
      rw [← ByteArray.size_data, ← Array.length_toList, e]; rfl)
    by_cases h1 : s.size ≤ 32
    · simp (disch := omega) only [go_sem, ↓reduceIte , e, h1, decide_false, decide_true]
      refine (contF_c s H nx).mono fun v H1 nx1 _ ⟨hx, hk, hv⟩ => ?_
      subst hv
      cases ha : allOk s with
      | true =>
        simp (disch := omega) only [go_sem, ↓reduceIte ]
        exact ⟨hx, hk⟩
      | false =>
        simp (disch := omega) only [go_sem, ↓reduceIte ]
        exact ⟨hx, hk⟩
    · simp (disch := omega) only [go_sem, ↓reduceIte , e, h1, decide_false]
      exact ⟨Nat.le_refl _, Kp.refl _ _ _⟩
end Go.Proofs.Ytcdimjocdpogjaa
