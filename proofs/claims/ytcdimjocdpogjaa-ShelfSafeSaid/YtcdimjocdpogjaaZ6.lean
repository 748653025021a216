/- Shelf: Used. -/
import Derived.Test.YtcdimjocdpogjaaZ5
namespace Go.Proofs.Ytcdimjocdpogjaa
open Go.RowKit
set_option linter.unusedSimpArgs false

theorem mapSeen : mapT Try.prog 73 = some (59, 4) := by kernel_rfl
theorem underBk : Try.prog.underlying 59 = some (.pointer 62) := by kernel_rfl
theorem keyBk : KeyT Try.prog 59 ekP gP := keyT_ptr underBk (n := 1) (by kernel_rfl)
theorem zeroBoo : zeroT Try.prog 4 = some (.bool false) := by kernel_rfl
def vB (b : Bool) : Value := .bool b

/-- How many bytes some files have. -/
def sumD (bk : List (Nat × List Int × Int)) (D : List Nat) : Nat := ((bk.filter fun q => decide (q.1 ∈ D)).map fun q => q.2.1.length).sum
theorem sumD_congr {bk : List (Nat × List Int × Int)} {D E : List Nat} (h : ∀ i, i ∈ D ↔ i ∈ E) : sumD bk D = sumD bk E := by
  unfold sumD
  rw [List.filter_congr fun q _ => by rw [decide_eq_decide.2 (h q.1)]]
theorem sumD_nil (bk : List (Nat × List Int × Int)) : sumD bk [] = 0 := by
  unfold sumD
  rw [List.filter_eq_nil_iff.2 (by simp)]
  rfl
theorem sumD_cons : ∀ {bk : List (Nat × List Int × Int)} {D : List Nat} {q : Nat × List Int × Int}, UqA bk → q ∈ bk → q.1 ∉ D → sumD bk (q.1 :: D) = sumD bk D + q.2.1.length
  | [], _, _, _, h, _ => by simp at h
  | r :: bk, D, q, hu, hq, hD => by
    unfold UqA at hu
    rw [List.pairwise_cons] at hu
    unfold sumD
    rcases List.mem_cons.1 hq with rfl | hq
    · rw [List.filter_cons_of_pos (by simp), List.filter_cons_of_neg (by simpa using hD)]
      simp only [List.map_cons, List.sum_cons]
      rw [List.filter_congr (q := fun r : Nat × List Int × Int => decide (r.1 ∈ D)) fun r hr => by
        have := hu.1 r hr
        have e : r.1 ≠ q.1 := fun e => this e.symm
        simp [e]]
      omega
    · have hne := hu.1 q hq
      have ih := sumD_cons (D := D) hu.2 hq hD
      unfold sumD at ih
      by_cases hr : r.1 ∈ D
      · rw [List.filter_cons_of_pos (by simp [hr]), List.filter_cons_of_pos (by simp [hr])]
        simp only [List.map_cons, List.sum_cons]
        omega
      · rw [List.filter_cons_of_neg (by simp [hr, hne]), List.filter_cons_of_neg (by simp [hr])]
        exact ih
theorem sumD_le : ∀ (bk : List (Nat × List Int × Int)) (D : List Nat), sumD bk D ≤ (bk.map fun q => q.2.1.length).sum
  | [], D => by simp [sumD]
  | q :: bk, D => by
    have ih := sumD_le bk D
    unfold sumD at ih ⊢
    rw [List.filter_cons]
    split <;> simp only [List.map_cons, List.sum_cons] <;> omega

/-- What Used's closure has seen. -/
structure SeenA (H : AH) (t3 t4 ms : Nat) (bk : List (Nat × List Int × Int)) (D : List Nat) : Prop where
  c3 : H.c t3 0 = some (.map (some ms))
  c4 : H.c t4 0 = some (.int .i64 (sumD bk D))
  ob : ∃ ob l, H.o ms = some ob ∧ MapA ekP vB ob l ∧ ∀ x, getA x l = if x = none ∨ ∃ i ∈ D, x = some i then some true else none
  sub : ∀ i ∈ D, ∃ q ∈ bk, q.1 = i
  tt : ∀ q ∈ bk, (H.t q.1).isSome = true
theorem SeenA.keys {H : AH} {t3 t4 ms : Nat} {bk : List (Nat × List Int × Int)} {D : List Nat} (h : SeenA H t3 t4 ms bk D) {l : List (Option Nat × Bool)} (hu : UqA l) (hl : ∀ x, getA x l = if x = none ∨ ∃ i ∈ D, x = some i then some true else none) : ∀ p ∈ l, gP H p.1 := by
  intro p hp b hb
  have h1 : getA p.1 l = some p.2 := mem_getA hu (by simpa using hp)
  rw [hl, hb] at h1
  split at h1
  · rename_i hc
    rcases hc with hc | ⟨i, hi, hc⟩
    · cases hc
    · cases hc
      obtain ⟨q, hq, rfl⟩ := h.sub _ hi
      exact h.tt q hq
  · cases h1

set_option maxRecDepth 20000 in
theorem usedC_c {lo nx : Nat} {H : AH} {t3 t4 ms : Nat} {bk : List (Nat × List Int × Int)} {D : List Nat} (h : SeenA H t3 t4 ms bk D) (hu : UqA bk) (b : Option Nat) (hb : ∀ i, b = some i → ∃ q ∈ bk, q.1 = i ∧ ∃ v own, H.c i 0 = some v ∧ SlA nx H 1 v q.2.1.length (bytV q.2.1) own)
    (h34 : t3 ≠ t4) (hlo : lo ≤ ms ∧ lo ≤ t4) (hsz : (bk.map fun q => q.2.1.length).sum ≤ 4611686018427387904) :
    ACalls Try.prog lo 37 #[ekP b, .pointer (some ⟨t3, 0, none⟩), .pointer (some ⟨t4, 0, none⟩)] H nx (fun v H' nx' => v = .tuple #[] ∧ nx' = nx ∧ Kp (fun c => c = ms ∨ c = t4) nx H H' ∧ ∃ D', SeenA H' t3 t4 ms bk D' ∧ ∀ i, i ∈ D' ↔ i ∈ D ∨ b = some i) := by
  refine acalls_of_awp L37 Try.func37 rfl (by kernel_rfl) ?_
  obtain ⟨c3, c4, ⟨ob, l, ho, hM, hl⟩, hsub, htt⟩ := h
  have hkeys := SeenA.keys ⟨c3, c4, ⟨ob, l, ho, hM, hl⟩, hsub, htt⟩ hM.uq hl
  have hgb : gP H b := fun i hi => by
    obtain ⟨q, hq, rfl, _⟩ := hb i hi
    exact htt q hq
  have hlk := lookupV_mapA (P := Try.prog) (x := b) keyBk mapSeen zeroBoo ho hM hgb hkeys
  rw [hl b] at hlk
  unfold ekP at hlk ⊢
  by_cases hc : b = none ∨ ∃ i ∈ D, b = some i
  · rw [if_pos hc] at hlk
    simp only [Option.map_some, Option.getD_some, vB] at hlk
    simp (disch := omega) only [go_sem, ↓reduceIte , c3, hlk]
    refine ⟨(by repeat first | exact Kp.refl _ _ _ | refine Kp.dropT ?_ (.inl (by omega)) | refine Kp.put ?_ (.inl (by omega)) | refine Kp.new ?_ (by omega) | refine Kp.put ?_ (.inr (by omega)) | refine Kp.newO ?_ (by omega) | refine Kp.setO ?_ (.inl (by omega)) | refine Kp.setO ?_ (.inr (by omega)) | refine Kp.trans0 ?_ (by assumption) (by omega) | refine Kp.transS ?_ (by assumption) (by omega) (fun b hb hT => by first | omega | (dsimp only at hT ⊢; omega) | (simp only at hT ⊢; omega))) , D, ⟨c3, c4, ⟨ob, l, ho, hM, hl⟩, hsub, htt⟩, fun i => ⟨.inl, fun h => ?_⟩⟩
    rcases h with h | h
    · exact h
    · rcases hc with hc | ⟨j, hj, hc⟩
      · rw [hc] at h; cases h
      · rw [hc] at h; cases h; exact hj
  · rw [if_neg hc] at hlk
    simp only [Option.map_none, Option.getD_none] at hlk
    obtain ⟨i, rfl⟩ : ∃ i, b = some i := by
      cases b with
      | none => exact absurd (.inl rfl) hc
      | some i => exact ⟨i, rfl⟩
    have hiD : i ∉ D := fun hi => hc (.inr ⟨i, hi, rfl⟩)
    obtain ⟨q, hq, rfl, v, own, hv, hs⟩ := hb i rfl
    obtain ⟨va, vc, rfl⟩ := hs.form
    have hsum := sumD_cons hu hq hiD
    have hle := sumD_le bk (q.1 :: D)
    simp only [Option.map_some] at hlk
    simp (disch := omega) only [go_sem, ↓reduceIte , c3, hlk]
    refine mapSetQ_A (P := Try.prog) (ek := ekP) (ev := vB) (x := some q.1) (v := true) keyBk mapSeen hlo.1 ho hM hgb hkeys fun ob' hM' => ?_
    simp (disch := omega) only [go_sem, ↓reduceIte ]
    refine awp_draw ord37x2 (by kernel_rfl) ?_
    simp (disch := omega) only [go_sem, ↓reduceIte , ord37x2, c4, hv]
    refine ⟨dkeep_last (by kernel_rfl), (by repeat first | exact Kp.refl _ _ _ | refine Kp.dropT ?_ (.inl (by omega)) | refine Kp.put ?_ (.inl (by omega)) | refine Kp.new ?_ (by omega) | refine Kp.put ?_ (.inr (by omega)) | refine Kp.newO ?_ (by omega) | refine Kp.setO ?_ (.inl (by omega)) | refine Kp.setO ?_ (.inr (by omega)) | refine Kp.trans0 ?_ (by assumption) (by omega) | refine Kp.transS ?_ (by assumption) (by omega) (fun b hb hT => by first | omega | (dsimp only at hT ⊢; omega) | (simp only at hT ⊢; omega))) , q.1 :: D, ⟨by simp (disch := omega) only [go_sem, ↓reduceIte , c3], by simp (disch := omega) only [go_sem, ↓reduceIte , hsum]; rfl, ⟨ob', _, by simp (disch := omega) only [go_sem, ↓reduceIte ], hM', fun x => ?_⟩, fun i hi => ?_, htt⟩, fun i => by simp [or_comm, eq_comm]⟩
    · rw [getA_set, hl]
      by_cases e : some q.1 = x
      · subst e
        simp
      · rw [if_neg e]
        have : (x = none ∨ ∃ i, i ∈ q.1 :: D ∧ x = some i) ↔ (x = none ∨ ∃ i, i ∈ D ∧ x = some i) := by
          constructor
          · rintro (h | ⟨i, hi, h⟩)
            · exact .inl h
            · rcases List.mem_cons.1 hi with rfl | hi
              · exact absurd h.symm e
              · exact .inr ⟨i, hi, h⟩
          · rintro (h | ⟨i, hi, h⟩)
            · exact .inl h
            · exact .inr ⟨i, List.mem_cons_of_mem _ hi, h⟩
        simp only [this]
    · rcases List.mem_cons.1 hi with rfl | hi
      · exact ⟨q, hq, rfl⟩
      · exact hsub i hi

def usedIds (f : Fs) : List Nat := f.old.map (·.2) ++ f.moves.filterMap (·.b)
/-- How many bytes count. -/
def usedF (f : Fs) : Nat := sumD f.bk (usedIds f)
def totF (f : Fs) : Nat := (f.bk.map fun q => q.2.1.length).sum
theorem SeenA.kp {S : Nat → Prop} {nx : Nat} {H H' : AH} {t3 t4 ms : Nat} {bk : List (Nat × List Int × Int)} {D : List Nat} (h : SeenA H t3 t4 ms bk D) (hk : Kp S nx H H') (h3 : t3 < nx ∧ ¬ S t3) (h4 : t4 < nx ∧ ¬ S t4) (hm : ms < nx ∧ ¬ S ms) (hb : ∀ q ∈ bk, q.1 < nx ∧ ¬ S q.1) : SeenA H' t3 t4 ms bk D :=
  ⟨by rw [(hk t3 h3.1 h3.2).1]; exact h.c3, by rw [(hk t4 h4.1 h4.2).1]; exact h.c4, by rw [(hk ms hm.1 hm.2).2.1]; exact h.ob, h.sub, fun q hq => by rw [(hk q.1 (hb q hq).1 (hb q hq).2).2.2]; exact h.tt q hq⟩

theorem IterA.kp {S : Nat → Prop} {nx : Nat} {H H' : AH} {r m clk : Nat} {z dz left : List (Nat × ByteArray × Nat)} (h : IterA H r m clk z dz left) (hk : Kp S nx H H') (h1 : r < nx) (h2 : ¬ S r) : IterA H' r m clk z dz left :=
  ⟨by rw [(hk r h1 h2).2.1]; exact h.it, h.perm⟩

structure UsI (nx0 : Nat) (H0 : AH) (p t3 t4 ms r mo clk : Nat) (z : List (Nat × ByteArray × Nat)) (bk : List (Nat × List Int × Int)) (m : Nat) (env : Env) (H : AH) (nx : Nat) (dz left : List (Nat × ByteArray × Nat)) (D : List Nat) : Prop where
  hm : m = left.length
  henv : env = [(0, .pointer (some ⟨p, 0, none⟩)), (4, .pointer (some ⟨t4, 0, none⟩)), (5, .func (.func 37) #[] #[.pointer (some ⟨t3, 0, none⟩), .pointer (some ⟨t4, 0, none⟩)]), (19, .pointer (some ⟨r, 0, none⟩))]
  hx : nx0 ≤ nx
  hk : Kp (fun c => c = ms ∨ c = t4 ∨ c = r) nx0 H0 H
  it : IterA H r mo clk z dz left
  sn : SeenA H t3 t4 ms bk D
  hD : ∀ i, i ∈ D ↔ ∃ t ∈ dz, t.2.2 = i
structure UmI (nx0 : Nat) (H0 : AH) (t3 t4 ms : Nat) (mv : Value) (mvs : List Mv) (D0 : List Nat) (bk : List (Nat × List Int × Int)) (m : Nat) (env : Env) (H : AH) (nx k : Nat) (D : List Nat) : Prop where
  hm : m = mvs.length - k
  hk : k ≤ mvs.length
  henv : env = [(4, .pointer (some ⟨t4, 0, none⟩)), (5, .func (.func 37) #[] #[.pointer (some ⟨t3, 0, none⟩), .pointer (some ⟨t4, 0, none⟩)]), (30, mv), (31, .int .i64 mvs.length), (32, .int .i64 k)]
  hx : nx0 ≤ nx
  hkp : Kp (fun c => c = ms ∨ c = t4) nx0 H0 H
  sn : SeenA H t3 t4 ms bk D
  hD : ∀ i, i ∈ D ↔ i ∈ D0 ∨ ∃ x ∈ mvs.take k, x.b = some i

set_option maxHeartbeats 4000000 in
set_option maxRecDepth 20000 in
theorem shUsed_c {lo nx : Nat} {H : AH} {p : Nat} {f : Fs} {L : Lay} (h : ShA lo nx H p f L) (hsz : totF f ≤ 1000000000) (hmv : f.moves.length ≤ 1000000) :
    ACalls Try.prog lo 22 #[.pointer (some ⟨p, 0, none⟩)] H nx (fun v H' nx' => v = .int .i64 (usedF f) ∧ nx ≤ nx' ∧ Kp (fun _ => False) nx H H') := by
  refine ACalls.withLo fun hlo => ?_
  refine acalls_of_awp L22 Try.func22 rfl (by kernel_rfl) ?_
  obtain ⟨l1, l2⟩ := h.ltp
  obtain ⟨o1, o2, o3⟩ := h.lto
  have c1 := h.c1
  simp (disch := omega) only [go_sem, ↓reduceIte ]
  intro ms hms
  simp (disch := omega) only [go_sem, ↓reduceIte ]
  refine mapSetQ_A (P := Try.prog) (ek := ekP) (ev := vB) (x := none) (v := true) keyBk mapSeen (by omega) (newO_same _ _ _) (MapA.nil _ _) (fun b hb => by cases hb) (by simp) fun ob1 hM1 => ?_
  simp (disch := omega) only [go_sem, ↓reduceIte ]
  intro t3 h3
  simp (disch := omega) only [go_sem, ↓reduceIte ]
  intro t4 h4
  simp (disch := omega) only [go_sem, ↓reduceIte , c1]
  obtain ⟨obo, hoo, hMo⟩ := h.oo
  obtain ⟨huo, clk, z, hz, hzo⟩ := hMo
  refine rangeQ_A mapSh (by simp (disch := omega) only [go_sem, ↓reduceIte , hoo]) hz fun r hr hI => ?_
  simp (disch := omega) only [go_sem, ↓reduceIte ]
  refine awp_name fun H0 hH0 => ?_
  have hk0 : Kp (fun _ => False) nx H H0 := by rw [hH0]; exact (by repeat first | exact Kp.refl _ _ _ | refine Kp.dropT ?_ (.inl (by omega)) | refine Kp.put ?_ (.inl (by omega)) | refine Kp.new ?_ (by omega) | refine Kp.put ?_ (.inr (by omega)) | refine Kp.newO ?_ (by omega) | refine Kp.setO ?_ (.inl (by omega)) | refine Kp.setO ?_ (.inr (by omega)) | refine Kp.trans0 ?_ (by assumption) (by omega) | refine Kp.transS ?_ (by assumption) (by omega) (fun b hb hT => by first | omega | (dsimp only at hT ⊢; omega) | (simp only at hT ⊢; omega))) 
  have hsn0 : SeenA H0 t3 t4 ms f.bk [] := by
    rw [hH0]
    refine ⟨by simp (disch := omega) only [go_sem, ↓reduceIte ], by simp (disch := omega) only [go_sem, ↓reduceIte , sumD_nil]; rfl, ⟨ob1, _, by simp (disch := omega) only [go_sem, ↓reduceIte ], hM1, fun x => ?_⟩, by simp, fun q hq => ?_⟩
    · cases x <;> simp [setA, getA]
    · have := (h.ltb hq).2.1
      simp (disch := omega) only [go_sem, ↓reduceIte , (h.bk q hq).1]
  have hI0 : IterA H0 r L.mo clk z [] z := by rw [hH0]; exact hI
  clear hI
  have hbk0 : ∀ q ∈ f.bk, q.1 < nx := fun q hq => (h.ltb hq).2.1
  refine awp_loop (fun m env H1 nx1 => ∃ dz left D, UsI (r + 1) H0 p t3 t4 ms r L.mo clk z f.bk m env H1 nx1 dz left D) z.length ⟨[], z, [], ⟨rfl, rfl, Nat.le_refl _, Kp.refl _ _ _, hI0, hsn0, by simp⟩⟩ (fun m env H1 nx1 ⟨dz, left, D, hI⟩ hn => ?_)
  obtain ⟨hm, henv, hx1, hk1, hit, hsn, hD⟩ := hI
  subst henv
  have hoo1 : H1.o L.mo = some obo := by rw [(hk1 L.mo (by omega) (by omega)).2.1, (hk0 L.mo (by omega) (by simp)).2.1]; exact hoo
  simp (disch := omega) only [go_sem, ↓reduceIte ]
  refine nextMQ_A hoo1 hz hit (by omega) (fun t left' ob2 htz hlt hit2 => ?_) (fun hl => ?_)
  · simp (disch := omega) only [go_sem, ↓reduceIte ]
    refine entryQ_A (by simp (disch := omega) only [go_sem, ↓reduceIte , hoo1]) hz hit2 ?_
    have hta : t.2 ∈ f.old := by rw [← hzo]; exact List.mem_map_of_mem htz
    obtain ⟨q, hq, hqt⟩ := h.old1 _ hta
    unfold evB
    simp (disch := omega) only [go_sem, ↓reduceIte ]
    have hb := h.bk q hq
    obtain ⟨_, ⟨v, hv, hsl⟩, _⟩ := hb
    have hk2 : Kp (fun c => c = ms ∨ c = t4 ∨ c = r) nx H (H1.setO r ob2) := (by repeat first | exact Kp.refl _ _ _ | refine Kp.dropT ?_ (.inl (by omega)) | refine Kp.put ?_ (.inl (by omega)) | refine Kp.new ?_ (by omega) | refine Kp.put ?_ (.inr (by omega)) | refine Kp.newO ?_ (by omega) | refine Kp.setO ?_ (.inl (by omega)) | refine Kp.setO ?_ (.inr (by omega)) | refine Kp.trans0 ?_ (by assumption) (by omega) | refine Kp.transS ?_ (by assumption) (by omega) (fun b hb hT => by first | omega | (dsimp only at hT ⊢; omega) | (simp only at hT ⊢; omega))) 
    have hsn2 : SeenA (H1.setO r ob2) t3 t4 ms f.bk D := hsn.kp (S := fun c => c = r) (nx := nx1) (by repeat first | exact Kp.refl _ _ _ | refine Kp.dropT ?_ (.inl (by omega)) | refine Kp.put ?_ (.inl (by omega)) | refine Kp.new ?_ (by omega) | refine Kp.put ?_ (.inr (by omega)) | refine Kp.newO ?_ (by omega) | refine Kp.setO ?_ (.inl (by omega)) | refine Kp.setO ?_ (.inr (by omega)) | refine Kp.trans0 ?_ (by assumption) (by omega) | refine Kp.transS ?_ (by assumption) (by omega) (fun b hb hT => by first | omega | (dsimp only at hT ⊢; omega) | (simp only at hT ⊢; omega)))  (by omega) (by omega) (by omega) (fun q' hq' => by have := hbk0 q' hq'; omega)
    refine (usedC_c (lo := lo) (nx := nx1) hsn2 h.uq (some t.2.2) (fun i hi => by
      cases hi
      exact ⟨q, hq, hqt, v, L.own q.1, by rw [← hqt, (hk2 q.1 (hbk0 q hq) (by have := hbk0 q hq; omega)).1]; exact hv, hsl.kp hk2 (by omega) (by intro b hb; have := hsl.le; omega)⟩) (by omega) (by omega) (by unfold totF at hsz; omega)).mono fun v' H3 nx3 _ ⟨hv', hx3, hk3, D', hsn3, hD3⟩ => ?_
    subst hv'; subst hx3
    simp (disch := omega) only [go_sem, ↓reduceIte ]
    refine ⟨left'.length, by omega, dz ++ [t], left', D', ⟨rfl, rfl, by omega, (by repeat first | exact Kp.refl _ _ _ | refine Kp.dropT ?_ (.inl (by omega)) | refine Kp.put ?_ (.inl (by omega)) | refine Kp.new ?_ (by omega) | refine Kp.put ?_ (.inr (by omega)) | refine Kp.newO ?_ (by omega) | refine Kp.setO ?_ (.inl (by omega)) | refine Kp.setO ?_ (.inr (by omega)) | refine Kp.trans0 ?_ (by assumption) (by omega) | refine Kp.transS ?_ (by assumption) (by omega) (fun b hb hT => by first | omega | (dsimp only at hT ⊢; omega) | (simp only at hT ⊢; omega))) , hit2.kp hk3 (by omega) (by omega), hsn3, fun i => ?_⟩⟩
    rw [hD3, hD]
    simp only [List.mem_append, List.mem_singleton, Option.some.injEq]
    constructor
    · rintro (⟨s, hs, e⟩ | e)
      · exact ⟨s, .inl hs, e⟩
      · exact ⟨t, .inr rfl, e⟩
    · rintro ⟨s, hs | rfl, e⟩
      · exact .inl ⟨s, hs, e⟩
      · exact .inr e
  · have hD1 : ∀ i, i ∈ D ↔ i ∈ f.old.map (·.2) := fun i => by
      have hp := hit.perm
      rw [hl, List.append_nil] at hp
      rw [hD, ← hzo, List.map_map]
      simp only [List.mem_map, Function.comp_apply]
      exact ⟨fun ⟨s, hs, e⟩ => ⟨s, hp.mem_iff.2 hs, e⟩, fun ⟨s, hs, e⟩ => ⟨s, hp.mem_iff.1 hs, e⟩⟩
    obtain ⟨mvv, hmv2, hms⟩ := h.c2
    have hkA : Kp (fun c => c = ms ∨ c = t4 ∨ c = r) nx H H1 := (by repeat first | exact Kp.refl _ _ _ | refine Kp.dropT ?_ (.inl (by omega)) | refine Kp.put ?_ (.inl (by omega)) | refine Kp.new ?_ (by omega) | refine Kp.put ?_ (.inr (by omega)) | refine Kp.newO ?_ (by omega) | refine Kp.setO ?_ (.inl (by omega)) | refine Kp.setO ?_ (.inr (by omega)) | refine Kp.trans0 ?_ (by assumption) (by omega) | refine Kp.transS ?_ (by assumption) (by omega) (fun b hb hT => by first | omega | (dsimp only at hT ⊢; omega) | (simp only at hT ⊢; omega))) 
    have d2 : H1.c p 2 = some mvv := by rw [(hkA p l2 (by omega)).1]; exact hmv2
    obtain ⟨ma, mc, rfl⟩ := hms.form
    simp (disch := omega) only [go_sem, ↓reduceIte , d2]
    refine awp_loop (fun m env H2 nx2 => ∃ k D', UmI nx1 H1 t3 t4 ms (.slice ma f.moves.length mc) f.moves D f.bk m env H2 nx2 k D') f.moves.length ⟨0, D, ⟨rfl, by omega, rfl, Nat.le_refl _, Kp.refl _ _ _, hsn, by simp⟩⟩ (fun m env H2 nx2 ⟨k, D2, hI⟩ hn => ?_)
    obtain ⟨hm2, hk2, henv, hx2, hkp2, hsn2, hD2⟩ := hI
    subst henv
    by_cases hkl : k < f.moves.length
    · obtain ⟨x, hx0⟩ : ∃ x, f.moves[k]? = some x := ⟨_, List.getElem?_eq_getElem hkl⟩
      have hsle := hms.le
      have hms2 : SlA nx2 H2 3 (.slice ma f.moves.length mc) f.moves.length (mvCells f.moves) L.mv := (hms.kp hkA (by omega) (by intro b hb; omega)).kp hkp2 hx2 (by intro b hb; omega)
      obtain ⟨ga, offa, ca, hva, hga⟩ := hms.open (by omega)
      cases hva
      have hld := mv_load hms2 hx0
      unfold Mv.cells ekP at hld
      simp (disch := omega) only [go_sem, ↓reduceIte , hld]
      intro d hd
      simp (disch := omega) only [go_sem, ↓reduceIte ]
      have hk3 : Kp (fun c => c = ms ∨ c = t4 ∨ c = r) nx H ((((H2.new d #[.string .empty, .pointer none, .string .empty] 65).put d 0 (.string x.name)).put d 1 (.pointer (x.b.map fun b => ⟨b, 0, none⟩))).put d (1 + 1) (.string x.frm)) := (by repeat first | exact Kp.refl _ _ _ | refine Kp.dropT ?_ (.inl (by omega)) | refine Kp.put ?_ (.inl (by omega)) | refine Kp.new ?_ (by omega) | refine Kp.put ?_ (.inr (by omega)) | refine Kp.newO ?_ (by omega) | refine Kp.setO ?_ (.inl (by omega)) | refine Kp.setO ?_ (.inr (by omega)) | refine Kp.trans0 ?_ (by assumption) (by omega) | refine Kp.transS ?_ (by assumption) (by omega) (fun b hb hT => by first | omega | (dsimp only at hT ⊢; omega) | (simp only at hT ⊢; omega))) 
      have hsn3 : SeenA ((((H2.new d #[.string .empty, .pointer none, .string .empty] 65).put d 0 (.string x.name)).put d 1 (.pointer (x.b.map fun b => ⟨b, 0, none⟩))).put d (1 + 1) (.string x.frm)) t3 t4 ms f.bk D2 := hsn2.kp (S := fun _ => False) (nx := nx2) (by repeat first | exact Kp.refl _ _ _ | refine Kp.dropT ?_ (.inl (by omega)) | refine Kp.put ?_ (.inl (by omega)) | refine Kp.new ?_ (by omega) | refine Kp.put ?_ (.inr (by omega)) | refine Kp.newO ?_ (by omega) | refine Kp.setO ?_ (.inl (by omega)) | refine Kp.setO ?_ (.inr (by omega)) | refine Kp.trans0 ?_ (by assumption) (by omega) | refine Kp.transS ?_ (by assumption) (by omega) (fun b hb hT => by first | omega | (dsimp only at hT ⊢; omega) | (simp only at hT ⊢; omega)))  ⟨by omega, by simp⟩ ⟨by omega, by simp⟩ ⟨by omega, by simp⟩ (fun q' hq' => ⟨by have := hbk0 q' hq'; omega, by simp⟩)
      refine (usedC_c (lo := lo) (nx := d + 1) hsn3 h.uq x.b (fun i hi => by
        obtain ⟨q, hq, hqt⟩ := h.mv1 x (List.mem_of_getElem? hx0) i hi
        obtain ⟨_, ⟨v, hv, hsl⟩, _⟩ := h.bk q hq
        have := hbk0 q hq
        exact ⟨q, hq, hqt, v, L.own q.1, by rw [← hqt, (hk3 q.1 this (by omega)).1]; exact hv, hsl.kp hk3 (by omega) (by intro b hb; have := hsl.le; omega)⟩) (by omega) (by omega) (by unfold totF at hsz; omega)).mono fun v' H4 nx4 _ ⟨hv', hx4, hk4, D', hsn4, hD4⟩ => ?_
      subst hv'; subst hx4
      simp (disch := omega) only [go_sem, ↓reduceIte ]
      refine ⟨f.moves.length - (k + 1), by omega, k + 1, D', ⟨rfl, by omega, rfl, by omega, (by repeat first | exact Kp.refl _ _ _ | refine Kp.dropT ?_ (.inl (by omega)) | refine Kp.put ?_ (.inl (by omega)) | refine Kp.new ?_ (by omega) | refine Kp.put ?_ (.inr (by omega)) | refine Kp.newO ?_ (by omega) | refine Kp.setO ?_ (.inl (by omega)) | refine Kp.setO ?_ (.inr (by omega)) | refine Kp.trans0 ?_ (by assumption) (by omega) | refine Kp.transS ?_ (by assumption) (by omega) (fun b hb hT => by first | omega | (dsimp only at hT ⊢; omega) | (simp only at hT ⊢; omega))) , hsn4, fun i => ?_⟩⟩
      rw [hD4, hD2, List.take_add_one, hx0]
      simp only [Option.toList_some, List.mem_append, List.mem_singleton]
      constructor
      · rintro ((e | ⟨s, hs, e⟩) | e)
        · exact .inl e
        · exact .inr ⟨s, .inl hs, e⟩
        · exact .inr ⟨x, .inr rfl, e⟩
      · rintro (e | ⟨s, hs | rfl, e⟩)
        · exact .inl (.inl e)
        · exact .inl (.inr ⟨s, hs, e⟩)
        · exact .inr e
    · obtain rfl : k = f.moves.length := by omega
      rw [List.take_length] at hD2
      simp (disch := omega) only [go_sem, ↓reduceIte , hsn2.c4]
      refine ⟨?_, by omega, (by repeat first | exact Kp.refl _ _ _ | refine Kp.dropT ?_ (.inl (by omega)) | refine Kp.put ?_ (.inl (by omega)) | refine Kp.new ?_ (by omega) | refine Kp.put ?_ (.inr (by omega)) | refine Kp.newO ?_ (by omega) | refine Kp.setO ?_ (.inl (by omega)) | refine Kp.setO ?_ (.inr (by omega)) | refine Kp.trans0 ?_ (by assumption) (by omega) | refine Kp.transS ?_ (by assumption) (by omega) (fun b hb hT => by first | omega | (dsimp only at hT ⊢; omega) | (simp only at hT ⊢; omega))) ⟩
      unfold usedF
      rw [sumD_congr fun i => ?_]
      rw [hD2, hD1]
      unfold usedIds
      rw [List.mem_append, List.mem_filterMap]
end Go.Proofs.Ytcdimjocdpogjaa
