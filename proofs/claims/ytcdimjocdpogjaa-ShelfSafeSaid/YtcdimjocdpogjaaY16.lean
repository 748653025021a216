/- The reference's shelf as it lies. The reference's shelf: what each act leaves. The reference's shelf: Delete. The reference's shelf: a file has other bytes, what that leaves. The reference's shelf: Sync. -/
import Derived.Test.YtcdimjocdpogjaaY11
section
namespace Go.Proofs.Ytcdimjocdpogjaa
open Go.RowKit
set_option linter.unusedSimpArgs false

/-- A file, and a list of names, with where they lie. -/
structure RFile where
  v : Value
  own : Nat
  bs : List Int
  safe : Int
structure RNms where
  v : Value
  own : Nat
  l : Nms
structure Rf where
  fl : List RFile
  now : RNms
  was : List RNms
  vL : Value
  oL : Nat
  vW : Value
  oW : Nat
  room : Int
  left : Int
  off : Bool
  done : Int
def RFile.cs (x : RFile) : List Value := flC (x.v, x.safe)
theorem RFile.cs_len (x : RFile) : x.cs.length = 2 := rfl
def Rf.val (R : Rf) : Value := shV R.vL R.now.v R.vW R.room R.left R.off R.done
def fpR (R : Rf) (b : Nat) : Prop := b + 1 = R.oL ∨ b + 1 = R.oW ∨ b + 1 = R.now.own ∨ (∃ x ∈ R.fl, b + 1 = x.own) ∨ ∃ x ∈ R.was, b + 1 = x.own
structure RfA (nx : Nat) (H : AH) (R : Rf) : Prop where
  sL : SlA nx H 2 R.vL R.fl.length (R.fl.flatMap RFile.cs) R.oL
  sF : ∀ x ∈ R.fl, SlA nx H 1 x.v x.bs.length (bytV x.bs) x.own
  sN : SlA nx H 2 R.now.v R.now.l.length (R.now.l.flatMap nmC) R.now.own
  sW : SlA nx H 1 R.vW R.was.length (R.was.map RNms.v) R.oW
  sWs : ∀ x ∈ R.was, SlA nx H 2 x.v x.l.length (x.l.flatMap nmC) x.own
theorem RfA.kp {nx nx' : Nat} {H H' : AH} {R : Rf} {S : Nat → Prop} (h : RfA nx H R) (hk : Kp S nx H H') (hn : nx ≤ nx') (hs : ∀ b, fpR R b → ¬ S b) : RfA nx' H' R where
  sL := h.sL.kp hk hn fun b e => hs b (.inl e)
  sF := fun x hx => (h.sF x hx).kp hk hn fun b e => hs b (.inr (.inr (.inr (.inl ⟨x, hx, e⟩))))
  sN := h.sN.kp hk hn fun b e => hs b (.inr (.inr (.inl e)))
  sW := h.sW.kp hk hn fun b e => hs b (.inr (.inl e))
  sWs := fun x hx => (h.sWs x hx).kp hk hn fun b e => hs b (.inr (.inr (.inr (.inr ⟨x, hx, e⟩))))
theorem RfA.fp_lt {nx : Nat} {H : AH} {R : Rf} (h : RfA nx H R) {b : Nat} (hb : fpR R b) : b < nx := by
  rcases hb with e | e | e | ⟨x, hx, e⟩ | ⟨x, hx, e⟩
  · have := h.sL.le; omega
  · have := h.sW.le; omega
  · have := h.sN.le; omega
  · have := (h.sF x hx).le; omega
  · have := (h.sWs x hx).le; omega

/-- No number of a file is out of range; sizes stay small (k: acts so far). -/
structure RfOk (R : Rf) (k : Nat) : Prop where
  now : ∀ a ∈ R.now.l, 0 ≤ a.2 ∧ a.2 < R.fl.length
  was : ∀ x ∈ R.was, ∀ a ∈ x.l, 0 ≤ a.2 ∧ a.2 < R.fl.length
  one : 0 < R.was.length
  safe : ∀ x ∈ R.fl, 0 ≤ x.safe ∧ x.safe ≤ x.bs.length
  kn : R.now.l.length ≤ k
  kw : R.was.length ≤ k + 1
  kws : ∀ x ∈ R.was, x.l.length ≤ k
  kf : R.fl.length ≤ k
  kb : ∀ x ∈ R.fl, x.bs.length ≤ 60 * k
  l0 : -1 ≤ R.left
  l1 : R.left ≤ 9223372036854775807
  d0 : 0 ≤ R.done
  d1 : R.done ≤ k

theorem findF_range {s : ByteArray} : ∀ {l : Nms} {n : Nat}, (∀ a ∈ l, 0 ≤ a.2 ∧ a.2 < n) → findF s l = -1 ∨ (0 ≤ findF s l ∧ findF s l < n)
  | [], _, _ => .inl rfl
  | a :: l, n, h => by
    unfold findF
    by_cases e : a.1 = s
    · rw [if_pos e]; exact .inr (h a (by simp))
    · rw [if_neg e]; exact findF_range fun b hb => h b (by simp [hb])

def actF (R : Rf) : Rf := if R.off = true ∨ R.left = 0 then { R with off := true } else { R with left := max (R.left - 1) (-1), done := R.done + 1 }
def goesF (R : Rf) : Bool := !(decide (R.off = true ∨ R.left = 0))
theorem act05_r {lo nx : Nat} {H : AH} {R : Rf} {k : Nat} (h : RfA nx H R) (ho : RfOk R k) (hk : k ≤ 1000000) : ACalls Try.prog lo 53 #[R.val] H nx (fun v H' nx' => nx ≤ nx' ∧ Kp (fun _ => False) nx H H' ∧ v = .tuple #[(actF R).val, .bool (goesF R)]) := by
  refine (act05_c R.room R.left R.done R.off h.sL.one h.sN.one h.sW.one ⟨ho.l0, ho.l1⟩ ⟨ho.d0, by have := ho.d1; omega⟩).mono fun v H1 nx1 _ ⟨h1, h2, h3⟩ => ⟨h1, h2, ?_⟩
  rw [h3]
  unfold actF goesF Rf.val
  split <;> rfl
theorem actF_a {nx : Nat} {H : AH} {R : Rf} (h : RfA nx H R) : RfA nx H (actF R) := by
  unfold actF
  split <;> exact ⟨h.sL, h.sF, h.sN, h.sW, h.sWs⟩
theorem RfOk.up {R : Rf} {k : Nat} (h : RfOk R k) : RfOk R (k + 1) := by
  have k1 := h.kn; have k2 := h.kw; have k3 := h.kf; have k7 := h.d1
  exact ⟨h.now, h.was, h.one, h.safe, Nat.le_succ_of_le k1, Nat.le_succ_of_le k2, fun x hx => Nat.le_succ_of_le (h.kws x hx), Nat.le_succ_of_le k3, fun x hx => Nat.le_trans (h.kb x hx) (Nat.mul_le_mul_left 60 (Nat.le_succ k)), h.l0, h.l1, h.d0, by omega⟩
theorem actF_ok {R : Rf} {k : Nat} (h : RfOk R k) : RfOk (actF R) (k + 1) := by
  have k1 := h.kn; have k2 := h.kw; have k3 := h.kf; have k4 := h.l0; have k5 := h.l1; have k6 := h.d0; have k7 := h.d1
  unfold actF
  split
  · exact ⟨h.now, h.was, h.one, h.safe, Nat.le_succ_of_le k1, Nat.le_succ_of_le k2, fun x hx => Nat.le_succ_of_le (h.kws x hx), Nat.le_succ_of_le k3, fun x hx => Nat.le_trans (h.kb x hx) (Nat.mul_le_mul_left 60 (Nat.le_succ k)), k4, k5, k6, by show R.done ≤ _; omega⟩
  · exact ⟨h.now, h.was, h.one, h.safe, Nat.le_succ_of_le k1, Nat.le_succ_of_le k2, fun x hx => Nat.le_succ_of_le (h.kws x hx), Nat.le_succ_of_le k3, fun x hx => Nat.le_trans (h.kb x hx) (Nat.mul_le_mul_left 60 (Nat.le_succ k)), by show -1 ≤ max (R.left - 1) (-1); omega, by show max (R.left - 1) (-1) ≤ _; omega, by show 0 ≤ R.done + 1; omega, by show R.done + 1 ≤ _; omega⟩
end Go.Proofs.Ytcdimjocdpogjaa
end
section
namespace Go.Proofs.Ytcdimjocdpogjaa
open Go.RowKit
set_option linter.unusedSimpArgs false

structure StR (nx : Nat) (H : AH) (R : Rf) (k : Nat) (R' : Rf) (H' : AH) (nx' : Nat) : Prop where
  le : nx ≤ nx'
  kp : Kp (fun _ => False) nx H H'
  a : RfA nx' H' R'
  ok : RfOk R' (k + 1)
  fp : ∀ b, fpR R' b → fpR R b ∨ nx ≤ b
theorem StR.act {nx nx' : Nat} {H H' : AH} {R : Rf} {k : Nat} (h : RfA nx H R) (ho : RfOk R k) (hn : nx ≤ nx') (hk : Kp (fun _ => False) nx H H') : StR nx H R k (actF R) H' nx' :=
  ⟨hn, hk, (actF_a h).kp hk hn (by simp), actF_ok ho, fun b hb => .inl (by unfold actF at hb; split at hb <;> exact hb)⟩
theorem StR.refl {nx nx' : Nat} {H H' : AH} {R : Rf} {k : Nat} (h : RfA nx H R) (ho : RfOk R k) (hn : nx ≤ nx') (hk : Kp (fun _ => False) nx H H') : StR nx H R k R H' nx' :=
  ⟨hn, hk, h.kp hk hn (by simp), RfOk.up ho, fun b hb => .inl hb⟩
theorem StR.names {nx nx' : Nat} {H H' : AH} {R R1 : Rf} {k d : Nat} {vW : Value} (s : StR nx H R k R1 H' nx') (hd : nx ≤ d) (hw : SlA nx' H' 1 vW 1 [R1.now.v] (d + 1)) : StR nx H R k { R1 with was := [R1.now], vW := vW, oW := d + 1 } H' nx' where
  le := s.le
  kp := s.kp
  a := ⟨s.a.sL, s.a.sF, s.a.sN, hw, fun x hx => by
    have : x = R1.now := by simpa using hx
    subst this
    exact s.a.sN⟩
  ok := ⟨s.ok.now, fun x hx => by
    have : x = R1.now := by simpa using hx
    subst this
    exact s.ok.now, by simp, s.ok.safe, s.ok.kn, by simp, fun x hx => by
    have : x = R1.now := by simpa using hx
    subst this
    exact s.ok.kn, s.ok.kf, s.ok.kb, s.ok.l0, s.ok.l1, s.ok.d0, s.ok.d1⟩
  fp := fun b hb => by
    rcases hb with e | e | e | e | ⟨x, hx, e⟩
    · exact s.fp b (.inl e)
    · exact .inr (by simp only [Nat.add_right_cancel_iff] at e; omega)
    · exact s.fp b (.inr (.inr (.inl e)))
    · exact s.fp b (.inr (.inr (.inr (.inl e))))
    · have : x = R1.now := by simpa using hx
      subst this
      exact s.fp b (.inr (.inr (.inl e)))

set_option maxRecDepth 20000 in
theorem names05_c {lo nx : Nat} {H : AH} {R : Rf} {k : Nat} (h : RfA nx H R) (ho : RfOk R k) (hk : k ≤ 1000000) : ACalls Try.prog lo 42 #[R.val] H nx (fun v H' nx' => ∃ R' e, v = .tuple #[R'.val, .int .i64 e] ∧ StR nx H R k R' H' nx') := by
  refine ACalls.withLo fun hlo => ?_
  refine acalls_of_awp L42 Try.func42 rfl (by kernel_rfl) ?_
  have h1 := h.sL.one
  have h2 := h.sN.one
  have h3 := h.sW.one
  have act := fun nx1 H1 (hn : nx ≤ nx1) (hk1 : Kp (fun _ => False) nx H H1) => act05_r (lo := lo) (h.kp hk1 hn (by simp)) ho hk
  unfold Rf.val shV at act ⊢
  simp (disch := omega) only [go_sem, ↓reduceIte , h1, h2, h3]
  intro a ha
  simp (disch := omega) only [go_sem, ↓reduceIte , h1, h2, h3]
  intro b hb
  simp (disch := omega) only [go_sem, ↓reduceIte , h1, h2, h3]
  refine (act _ _ (by omega) (by repeat first | exact Kp.refl _ _ _ | refine Kp.dropT ?_ (.inl (by omega)) | refine Kp.put ?_ (.inl (by omega)) | refine Kp.new ?_ (by omega) | refine Kp.put ?_ (.inr (by omega)) | refine Kp.newO ?_ (by omega) | refine Kp.setO ?_ (.inl (by omega)) | refine Kp.setO ?_ (.inr (by omega)) | refine Kp.trans0 ?_ (by assumption) (by omega) | refine Kp.transS ?_ (by assumption) (by omega) (fun b hb hT => by first | omega | (dsimp only at hT ⊢; omega) | (simp only at hT ⊢; omega))) ).mono fun v H1 nx1 _ ⟨hx1, hk1, hv⟩ => ?_
  subst hv
  have g1 := (actF_a h).sL.one
  have g2 := (actF_a h).sN.one
  have g3 := (actF_a h).sW.one
  have hc1 := hk1.cell0
  cases hg : goesF R with
  | false =>
    simp (disch := omega) only [go_sem, ↓reduceIte , g1, g2, g3, hc1]
    exact ⟨actF R, 7, rfl, StR.act h ho (by omega) (by repeat first | exact Kp.refl _ _ _ | refine Kp.dropT ?_ (.inl (by omega)) | refine Kp.put ?_ (.inl (by omega)) | refine Kp.new ?_ (by omega) | refine Kp.put ?_ (.inr (by omega)) | refine Kp.newO ?_ (by omega) | refine Kp.setO ?_ (.inl (by omega)) | refine Kp.setO ?_ (.inr (by omega)) | refine Kp.trans0 ?_ (by assumption) (by omega) | refine Kp.transS ?_ (by assumption) (by omega) (fun b hb hT => by first | omega | (dsimp only at hT ⊢; omega) | (simp only at hT ⊢; omega))) ⟩
  | true =>
    simp (disch := omega) only [go_sem, ↓reduceIte , g1, g2, g3, hc1]
    have cN := cells_one g2
    refine buildSQ_cs (n := 1) [(actF R).now.v] [(actF R).now.v] sl45 zero44 (by omega) (by omega) rfl (by simp [cN]) (by simp [cN]) fun d hd => ?_
    simp (disch := omega) only [go_sem, ↓reduceIte , g1, g2, g3, hc1]
    refine ⟨{ actF R with was := [(actF R).now], vW := .slice (some ⟨d, 0, none⟩) 1 1, oW := d + 1 }, 0, rfl, ?_⟩
    refine StR.names (StR.act h ho (by omega) (by repeat first | exact Kp.refl _ _ _ | refine Kp.dropT ?_ (.inl (by omega)) | refine Kp.put ?_ (.inl (by omega)) | refine Kp.new ?_ (by omega) | refine Kp.put ?_ (.inr (by omega)) | refine Kp.newO ?_ (by omega) | refine Kp.setO ?_ (.inl (by omega)) | refine Kp.setO ?_ (.inr (by omega)) | refine Kp.trans0 ?_ (by assumption) (by omega) | refine Kp.transS ?_ (by assumption) (by omega) (fun b hb hT => by first | omega | (dsimp only at hT ⊢; omega) | (simp only at hT ⊢; omega))) ) (by omega) ?_
    repeat refine SlA.put ?_ (by omega)
    exact SlA.ofNew (e := 44) (cs := [(actF R).now.v].toArray) rfl (by omega) (by simp [maxLen]) (by simp) (fun j _ => by simp)
end Go.Proofs.Ytcdimjocdpogjaa
end
section
namespace Go.Proofs.Ytcdimjocdpogjaa
open Go.RowKit
set_option linter.unusedSimpArgs false

theorem StR.moved {nx nx' : Nat} {H H' : AH} {R R1 : Rf} {k ownN ownW : Nat} {vN vW : Value} {l : Nms} (s : StR nx H R k R1 H' nx') (hn : SlA nx' H' 2 vN l.length (l.flatMap nmC) ownN) (hno : ownN = 0 ∨ nx < ownN) (hw : SlA nx' H' 1 vW (R1.was.map RNms.v ++ [vN]).length (R1.was.map RNms.v ++ [vN]) ownW) (hwo : nx < ownW) (hl : ∀ a ∈ l, 0 ≤ a.2 ∧ a.2 < R1.fl.length) (hlk : l.length ≤ k + 1) (hwk : R1.was.length ≤ k + 1) : StR nx H R k { R1 with now := ⟨vN, ownN, l⟩, was := R1.was ++ [⟨vN, ownN, l⟩], vW := vW, oW := ownW } H' nx' where
  le := s.le
  kp := s.kp
  a := ⟨s.a.sL, s.a.sF, hn, by
    simp only [List.length_append, List.length_map, List.length_singleton, List.map_append, List.map_cons, List.map_nil] at hw ⊢
    exact hw, fun x hx => by
    rcases List.mem_append.1 hx with hx | hx
    · exact s.a.sWs x hx
    · have : x = ⟨vN, ownN, l⟩ := by simpa using hx
      subst this
      exact hn⟩
  ok := ⟨hl, fun x hx => by
    rcases List.mem_append.1 hx with hx | hx
    · exact s.ok.was x hx
    · have : x = ⟨vN, ownN, l⟩ := by simpa using hx
      subst this
      exact hl, by simp, s.ok.safe, hlk, by simp; omega, fun x hx => by
    rcases List.mem_append.1 hx with hx | hx
    · exact s.ok.kws x hx
    · have : x = ⟨vN, ownN, l⟩ := by simpa using hx
      subst this
      exact hlk, s.ok.kf, s.ok.kb, s.ok.l0, s.ok.l1, s.ok.d0, s.ok.d1⟩
  fp := fun b hb => by
    rcases hb with e | e | e | e | ⟨x, hx, e⟩
    · exact s.fp b (.inl e)
    · exact .inr (by simp only at e; omega)
    · exact .inr (by simp only at e; omega)
    · exact s.fp b (.inr (.inr (.inr (.inl e))))
    · rcases List.mem_append.1 hx with hx | hx
      · exact s.fp b (.inr (.inr (.inr (.inr ⟨x, hx, e⟩))))
      · have : x = ⟨vN, ownN, l⟩ := by simpa using hx
        subst this
        exact .inr (by simp only at e; omega)

theorem woF_sub {s : ByteArray} {l : Nms} {a : ByteArray × Int} (h : a ∈ woF s l) : a ∈ l := (List.mem_filter.1 h).1

set_option maxRecDepth 20000 in
theorem delete05_c {lo nx : Nat} {H : AH} {R : Rf} {k : Nat} (h : RfA nx H R) (ho : RfOk R k) (hk : k ≤ 1000) (name : ByteArray) : ACalls Try.prog lo 44 #[R.val, .string name] H nx (fun v H' nx' => ∃ R' e, v = .tuple #[R'.val, .int .i64 e] ∧ StR nx H R k R' H' nx') := by
  refine ACalls.withLo fun hlo => ?_
  refine acalls_of_awp L44 Try.func44 rfl (by kernel_rfl) ?_
  have h1 := h.sL.one
  have h2 := h.sN.one
  have h3 := h.sW.one
  have act := fun nx1 H1 (hn : nx ≤ nx1) (hk1 : Kp (fun _ => False) nx H H1) => act05_r (lo := lo) (h.kp hk1 hn (by simp)) ho (by omega)
  unfold Rf.val shV at act ⊢
  simp (disch := omega) only [go_sem, ↓reduceIte , h1, h2, h3]
  intro a ha
  simp (disch := omega) only [go_sem, ↓reduceIte , h1, h2, h3]
  intro b hb
  simp (disch := omega) only [go_sem, ↓reduceIte , h1, h2, h3]
  refine (act _ _ (by omega) (by repeat first | exact Kp.refl _ _ _ | refine Kp.dropT ?_ (.inl (by omega)) | refine Kp.put ?_ (.inl (by omega)) | refine Kp.new ?_ (by omega) | refine Kp.put ?_ (.inr (by omega)) | refine Kp.newO ?_ (by omega) | refine Kp.setO ?_ (.inl (by omega)) | refine Kp.setO ?_ (.inr (by omega)) | refine Kp.trans0 ?_ (by assumption) (by omega) | refine Kp.transS ?_ (by assumption) (by omega) (fun b hb hT => by first | omega | (dsimp only at hT ⊢; omega) | (simp only at hT ⊢; omega))) ).mono fun v H1 nx1 _ ⟨hx1, hk1, hv⟩ => ?_
  subst hv
  have g1 := (actF_a h).sL.one
  have g2 := (actF_a h).sN.one
  have g3 := (actF_a h).sW.one
  have hc1 := hk1.cell0
  cases hg : goesF R with
  | false =>
    simp (disch := omega) only [go_sem, ↓reduceIte , g1, g2, g3, hc1]
    exact ⟨actF R, 7, rfl, StR.act h ho (by omega) (by repeat first | exact Kp.refl _ _ _ | refine Kp.dropT ?_ (.inl (by omega)) | refine Kp.put ?_ (.inl (by omega)) | refine Kp.new ?_ (by omega) | refine Kp.put ?_ (.inr (by omega)) | refine Kp.newO ?_ (by omega) | refine Kp.setO ?_ (.inl (by omega)) | refine Kp.setO ?_ (.inr (by omega)) | refine Kp.trans0 ?_ (by assumption) (by omega) | refine Kp.transS ?_ (by assumption) (by omega) (fun b hb hT => by first | omega | (dsimp only at hT ⊢; omega) | (simp only at hT ⊢; omega))) ⟩
  | true =>
    simp (disch := omega) only [go_sem, ↓reduceIte , g1, g2, g3, hc1]
    refine (find05_c name (l := (actF R).now.l) (own := (actF R).now.own) ((actF_a h).sN.kp (S := fun _ => False) (nx' := nx1) (by repeat first | exact Kp.refl _ _ _ | refine Kp.dropT ?_ (.inl (by omega)) | refine Kp.put ?_ (.inl (by omega)) | refine Kp.new ?_ (by omega) | refine Kp.put ?_ (.inr (by omega)) | refine Kp.newO ?_ (by omega) | refine Kp.setO ?_ (.inl (by omega)) | refine Kp.setO ?_ (.inr (by omega)) | refine Kp.trans0 ?_ (by assumption) (by omega) | refine Kp.transS ?_ (by assumption) (by omega) (fun b hb hT => by first | omega | (dsimp only at hT ⊢; omega) | (simp only at hT ⊢; omega)))  (by omega) (by simp))).mono fun v H2 nx2 _ ⟨hv, hH, hx⟩ => ?_
    subst hv; subst hH; subst hx
    rcases findF_range (s := name) (actF_ok ho).now with e | e
    · simp (disch := omega) only [go_sem, ↓reduceIte , e, g1, g2, g3, hc1]
      exact ⟨actF R, 2, rfl, StR.act h ho (by omega) (by repeat first | exact Kp.refl _ _ _ | refine Kp.dropT ?_ (.inl (by omega)) | refine Kp.put ?_ (.inl (by omega)) | refine Kp.new ?_ (by omega) | refine Kp.put ?_ (.inr (by omega)) | refine Kp.newO ?_ (by omega) | refine Kp.setO ?_ (.inl (by omega)) | refine Kp.setO ?_ (.inr (by omega)) | refine Kp.trans0 ?_ (by assumption) (by omega) | refine Kp.transS ?_ (by assumption) (by omega) (fun b hb hT => by first | omega | (dsimp only at hT ⊢; omega) | (simp only at hT ⊢; omega))) ⟩
    · simp (disch := omega) only [go_sem, ↓reduceIte , g1, g2, g3, hc1]
      refine awp_draw ord44x6 (by kernel_rfl) ?_
      simp (disch := omega) only [go_sem, ↓reduceIte , ord44x6, g1, g2, g3, hc1]
      have kn := (actF_ok ho).kn
      have kw := (actF_ok ho).kw
      refine (without05_c name (l := (actF R).now.l) (own := (actF R).now.own) ((actF_a h).sN.kp (S := fun _ => False) (nx' := nx2) (by repeat first | exact Kp.refl _ _ _ | refine Kp.dropT ?_ (.inl (by omega)) | refine Kp.put ?_ (.inl (by omega)) | refine Kp.new ?_ (by omega) | refine Kp.put ?_ (.inr (by omega)) | refine Kp.newO ?_ (by omega) | refine Kp.setO ?_ (.inl (by omega)) | refine Kp.setO ?_ (.inr (by omega)) | refine Kp.trans0 ?_ (by assumption) (by omega) | refine Kp.transS ?_ (by assumption) (by omega) (fun b hb hT => by first | omega | (dsimp only at hT ⊢; omega) | (simp only at hT ⊢; omega)))  (by omega) (by simp)) (by omega)).mono fun v H3 nx3 _ ⟨hx3, hk3, own3, hs3, ho3⟩ => ?_
      have hone3 := hs3.one
      simp (disch := omega) only [go_sem, ↓reduceIte , ord44x6, hone3, g1, g2, g3, hc1]
      refine ⟨dkeep_kp hk3, ?_⟩
      have hc3 := hk3.cell0
      have hwl := woF_len name (actF R).now.l
      have hW3 : SlA nx3 H3 1 (actF R).vW ((actF R).was.map RNms.v).length ((actF R).was.map RNms.v) (actF R).oW := by
        rw [List.length_map]
        exact ((actF_a h).sW.kp (S := fun _ => False) (nx' := nx2) (by repeat first | exact Kp.refl _ _ _ | refine Kp.dropT ?_ (.inl (by omega)) | refine Kp.put ?_ (.inl (by omega)) | refine Kp.new ?_ (by omega) | refine Kp.put ?_ (.inr (by omega)) | refine Kp.newO ?_ (by omega) | refine Kp.setO ?_ (.inl (by omega)) | refine Kp.setO ?_ (.inr (by omega)) | refine Kp.trans0 ?_ (by assumption) (by omega) | refine Kp.transS ?_ (by assumption) (by omega) (fun b hb hT => by first | omega | (dsimp only at hT ⊢; omega) | (simp only at hT ⊢; omega)))  (by omega) (by simp)).kp hk3 hx3 (by simp)
      refine (moved05_c (actF R).room (actF R).left (actF R).done (actF R).off g1 hone3 hW3 (fun u hu => ?_) (by rw [List.length_map]; omega)).mono fun v4 H4 nx4 _ ⟨hx4, hk4, vW, own4, hs4, ho4, hv⟩ => ?_
      · obtain ⟨x, hx, rfl⟩ := List.mem_map.1 hu
        exact ((actF_a h).sWs x hx).one
      · subst hv
        have hc4 := hk4.cell0
        have hone4 := hs4.one
        unfold shV
        simp (disch := omega) only [go_sem, ↓reduceIte , ord44x6, hone3, hone4, g1, g2, g3, hc1, hc3, hc4]
        refine ⟨dkeep_kp (hk3.trans (U := fun _ => False) hk4 hx3 (fun _ _ h => h) (fun _ _ h => h)), ?_⟩
        refine ⟨dkeep_last (by kernel_rfl), ?_⟩
        refine ⟨{ actF R with now := ⟨v, own3, woF name (actF R).now.l⟩, was := (actF R).was ++ [⟨v, own3, woF name (actF R).now.l⟩], vW := vW, oW := own4 }, 0, rfl, ?_⟩
        have hs3' := hs3.kp hk4 hx4 (by simp)
        refine StR.moved (StR.act h ho (by omega) (by repeat first | exact Kp.refl _ _ _ | refine Kp.dropT ?_ (.inl (by omega)) | refine Kp.put ?_ (.inl (by omega)) | refine Kp.new ?_ (by omega) | refine Kp.put ?_ (.inr (by omega)) | refine Kp.newO ?_ (by omega) | refine Kp.setO ?_ (.inl (by omega)) | refine Kp.setO ?_ (.inr (by omega)) | refine Kp.trans0 ?_ (by assumption) (by omega) | refine Kp.transS ?_ (by assumption) (by omega) (fun b hb hT => by first | omega | (dsimp only at hT ⊢; omega) | (simp only at hT ⊢; omega))) ) (by exact (by repeat first | assumption | refine SlA.dropT ?_ | refine SlA.put ?_ (by omega) | refine SlA.new ?_ (by omega) | refine SlA.newO ?_ (by omega) | refine SlA.setO ?_) ) (by omega) (by exact (by repeat first | assumption | refine SlA.dropT ?_ | refine SlA.put ?_ (by omega) | refine SlA.new ?_ (by omega) | refine SlA.newO ?_ (by omega) | refine SlA.setO ?_) ) (by omega) (fun x hx => (actF_ok ho).now x (woF_sub hx)) (by omega) ?_
        unfold actF
        split <;> exact ho.kw
end Go.Proofs.Ytcdimjocdpogjaa
end
section
namespace Go.Proofs.Ytcdimjocdpogjaa
open Go.RowKit
set_option linter.unusedSimpArgs false

theorem StR.changed {nx nx' : Nat} {H H' : AH} {R R1 : Rf} {k ownL i : Nat} {vL : Value} {x : RFile} (s : StR nx H R k R1 H' nx') (hL : SlA nx' H' 2 vL (R1.fl.set i x).length ((R1.fl.set i x).flatMap RFile.cs) ownL) (hLo : nx < ownL) (hx : SlA nx' H' 1 x.v x.bs.length (bytV x.bs) x.own) (hxo : (∃ y ∈ R1.fl, y.own = x.own) ∨ x.own = 0 ∨ nx < x.own) (hsafe : 0 ≤ x.safe ∧ x.safe ≤ x.bs.length) (hxl : x.bs.length ≤ 60 * (k + 1)) : StR nx H R k { R1 with fl := R1.fl.set i x, vL := vL, oL := ownL } H' nx' where
  le := s.le
  kp := s.kp
  a := ⟨hL, fun y hy => by
    rcases List.mem_or_eq_of_mem_set hy with hy | rfl
    · exact s.a.sF y hy
    · exact hx, s.a.sN, s.a.sW, s.a.sWs⟩
  ok := ⟨fun a ha => by have := s.ok.now a ha; simp only [List.length_set]; exact this, fun y hy a ha => by have := s.ok.was y hy a ha; simp only [List.length_set]; exact this, s.ok.one, fun y hy => by
    rcases List.mem_or_eq_of_mem_set hy with hy | rfl
    · exact s.ok.safe y hy
    · exact hsafe, s.ok.kn, s.ok.kw, s.ok.kws, by simp only [List.length_set]; exact s.ok.kf, fun y hy => by
    rcases List.mem_or_eq_of_mem_set hy with hy | rfl
    · exact s.ok.kb y hy
    · exact hxl, s.ok.l0, s.ok.l1, s.ok.d0, s.ok.d1⟩
  fp := fun b hb => by
    rcases hb with e | e | e | ⟨y, hy, e⟩ | e
    · exact .inr (by simp only at e; omega)
    · exact s.fp b (.inr (.inl e))
    · exact s.fp b (.inr (.inr (.inl e)))
    · rcases List.mem_or_eq_of_mem_set hy with hy | rfl
      · exact s.fp b (.inr (.inr (.inr (.inl ⟨y, hy, e⟩))))
      · rcases hxo with ⟨z, hz, ez⟩ | h | h
        · exact s.fp b (.inr (.inr (.inr (.inl ⟨z, hz, by omega⟩))))
        · omega
        · exact .inr (by omega)
    · exact s.fp b (.inr (.inr (.inr (.inr e))))
end Go.Proofs.Ytcdimjocdpogjaa
end
section
namespace Go.Proofs.Ytcdimjocdpogjaa
open Go.RowKit
set_option linter.unusedSimpArgs false

theorem fl_map (l : List RFile) : (l.map fun x => (x.v, x.safe)).flatMap flC = l.flatMap RFile.cs := by
  rw [List.flatMap_map]; rfl

set_option maxRecDepth 20000 in
theorem sync05_c {lo nx : Nat} {H : AH} {R : Rf} {k : Nat} (h : RfA nx H R) (ho : RfOk R k) (hk : k ≤ 1000) (name : ByteArray) : ACalls Try.prog lo 41 #[R.val, .string name] H nx (fun v H' nx' => ∃ R' e, v = .tuple #[R'.val, .int .i64 e] ∧ StR nx H R k R' H' nx') := by
  refine ACalls.withLo fun hlo => ?_
  refine acalls_of_awp L41 Try.func41 rfl (by kernel_rfl) ?_
  have h1 := h.sL.one
  have h2 := h.sN.one
  have h3 := h.sW.one
  have act := fun nx1 H1 (hn : nx ≤ nx1) (hk1 : Kp (fun _ => False) nx H H1) => act05_r (lo := lo) (h.kp hk1 hn (by simp)) ho (by omega)
  unfold Rf.val shV at act ⊢
  simp (disch := omega) only [go_sem, ↓reduceIte , h1, h2, h3]
  intro a ha
  simp (disch := omega) only [go_sem, ↓reduceIte , h1, h2, h3]
  intro b hb
  simp (disch := omega) only [go_sem, ↓reduceIte , h1, h2, h3]
  refine (act _ _ (by omega) (by repeat first | exact Kp.refl _ _ _ | refine Kp.dropT ?_ (.inl (by omega)) | refine Kp.put ?_ (.inl (by omega)) | refine Kp.new ?_ (by omega) | refine Kp.put ?_ (.inr (by omega)) | refine Kp.newO ?_ (by omega) | refine Kp.setO ?_ (.inl (by omega)) | refine Kp.setO ?_ (.inr (by omega)) | refine Kp.trans0 ?_ (by assumption) (by omega) | refine Kp.transS ?_ (by assumption) (by omega) (fun b hb hT => by first | omega | (dsimp only at hT ⊢; omega) | (simp only at hT ⊢; omega))) ).mono fun v H1 nx1 _ ⟨hx1, hk1, hv⟩ => ?_
  subst hv
  have g1 := (actF_a h).sL.one
  have g2 := (actF_a h).sN.one
  have g3 := (actF_a h).sW.one
  have hc1 := hk1.cell0
  cases hg : goesF R with
  | false =>
    simp (disch := omega) only [go_sem, ↓reduceIte , g1, g2, g3, hc1]
    exact ⟨actF R, 7, rfl, StR.act h ho (by omega) (by repeat first | exact Kp.refl _ _ _ | refine Kp.dropT ?_ (.inl (by omega)) | refine Kp.put ?_ (.inl (by omega)) | refine Kp.new ?_ (by omega) | refine Kp.put ?_ (.inr (by omega)) | refine Kp.newO ?_ (by omega) | refine Kp.setO ?_ (.inl (by omega)) | refine Kp.setO ?_ (.inr (by omega)) | refine Kp.trans0 ?_ (by assumption) (by omega) | refine Kp.transS ?_ (by assumption) (by omega) (fun b hb hT => by first | omega | (dsimp only at hT ⊢; omega) | (simp only at hT ⊢; omega))) ⟩
  | true =>
    simp (disch := omega) only [go_sem, ↓reduceIte , g1, g2, g3, hc1]
    refine (find05_c name (l := (actF R).now.l) (own := (actF R).now.own) ((actF_a h).sN.kp (S := fun _ => False) (nx' := nx1) (by repeat first | exact Kp.refl _ _ _ | refine Kp.dropT ?_ (.inl (by omega)) | refine Kp.put ?_ (.inl (by omega)) | refine Kp.new ?_ (by omega) | refine Kp.put ?_ (.inr (by omega)) | refine Kp.newO ?_ (by omega) | refine Kp.setO ?_ (.inl (by omega)) | refine Kp.setO ?_ (.inr (by omega)) | refine Kp.trans0 ?_ (by assumption) (by omega) | refine Kp.transS ?_ (by assumption) (by omega) (fun b hb hT => by first | omega | (dsimp only at hT ⊢; omega) | (simp only at hT ⊢; omega)))  (by omega) (by simp))).mono fun v H2 nx2 _ ⟨hv, hH, hx⟩ => ?_
    subst hv; subst hH; subst hx
    rcases findF_range (s := name) (actF_ok ho).now with e | e
    · simp (disch := omega) only [go_sem, ↓reduceIte , e, g1, g2, g3, hc1]
      exact ⟨actF R, 2, rfl, StR.act h ho (by omega) (by repeat first | exact Kp.refl _ _ _ | refine Kp.dropT ?_ (.inl (by omega)) | refine Kp.put ?_ (.inl (by omega)) | refine Kp.new ?_ (by omega) | refine Kp.put ?_ (.inr (by omega)) | refine Kp.newO ?_ (by omega) | refine Kp.setO ?_ (.inl (by omega)) | refine Kp.setO ?_ (.inr (by omega)) | refine Kp.trans0 ?_ (by assumption) (by omega) | refine Kp.transS ?_ (by assumption) (by omega) (fun b hb hT => by first | omega | (dsimp only at hT ⊢; omega) | (simp only at hT ⊢; omega))) ⟩
    · obtain ⟨j, hj⟩ : ∃ j : Nat, findF name (actF R).now.l = j := ⟨_, (Int.toNat_of_nonneg e.1).symm⟩
      rw [hj] at e ⊢
      have hjl : j < (actF R).fl.length := by omega
      obtain ⟨g, of, cap, hvL, hog⟩ := (actF_a h).sL.open (by omega)
      have hle := (actF_a h).sL.le
      have hgt : (actF R).fl[j]? = some (actF R).fl[j] := List.getElem?_eq_getElem hjl
      have hxs := (actF_a h).sF _ (List.getElem_mem hjl)
      have hsf := (actF_ok ho).safe _ (List.getElem_mem hjl)
      have hkb := (actF_ok ho).kb _ (List.getElem_mem hjl)
      have hsL := (actF_a h).sL
      rw [hvL] at hsL
      have c0 : H.c g (of + j * 2) = some (actF R).fl[j].v := by
        have := hsL.cells.1 (2 * j + 0) (actF R).fl[j].v (by rw [flat_get RFile.cs_len _ j _ hgt 0 (by omega)]; rfl)
        rwa [show of + (2 * j + 0) = of + j * 2 by omega] at this
      have c1 : H.c g (of + j * 2 + 1) = some (.int .i64 (actF R).fl[j].safe) := by
        have := hsL.cells.1 (2 * j + 1) (.int .i64 (actF R).fl[j].safe) (by rw [flat_get RFile.cs_len _ j _ hgt 1 (by omega)]; rfl)
        rwa [show of + (2 * j + 1) = of + j * 2 + 1 by omega] at this
      have hxone := hxs.one
      obtain ⟨xa, xc, hxv⟩ := hxs.form
      simp (disch := omega) only [go_sem, ↓reduceIte , hvL, g1, g2, g3, hc1, c0, c1, hxone]
      intro d hd
      simp (disch := omega) only [go_sem, ↓reduceIte , hvL, g1, g2, g3, hc1, c0, c1, hxone, hxv]
      have kf := (actF_ok ho).kf
      refine (changed05_c (vL := .slice (some ⟨g, of, none⟩) (actF R).fl.length cap) (vN := (actF R).now.v) (vW := (actF R).vW) (vx := .slice xa (actF R).fl[j].bs.length xc) (actF R).room (actF R).left (actF R).done (actF R).off (fl := (actF R).fl.map fun x => (x.v, x.safe)) (ownL := (actF R).oL) g2 g3 rfl ?_ (fun u hu => ?_) (by rw [List.length_map]; omega) j (by rw [List.length_map]; omega) (actF R).fl[j].bs.length).mono fun v5 H5 nx5 _ ⟨hx5, hk5, vL5, own5, hs5, ho5, hv⟩ => ?_
      · rw [List.length_map, fl_map]
        exact hsL.kp (S := fun _ => False) (by repeat first | exact Kp.refl _ _ _ | refine Kp.dropT ?_ (.inl (by omega)) | refine Kp.put ?_ (.inl (by omega)) | refine Kp.new ?_ (by omega) | refine Kp.put ?_ (.inr (by omega)) | refine Kp.newO ?_ (by omega) | refine Kp.setO ?_ (.inl (by omega)) | refine Kp.setO ?_ (.inr (by omega)) | refine Kp.trans0 ?_ (by assumption) (by omega) | refine Kp.transS ?_ (by assumption) (by omega) (fun b hb hT => by first | omega | (dsimp only at hT ⊢; omega) | (simp only at hT ⊢; omega)))  (by omega) (by simp)
      · obtain ⟨x, hx, rfl⟩ := List.mem_map.1 hu
        exact ((actF_a h).sF x hx).one
      · subst hv
        have hc5 := hk5.cell0
        have hone5 := hs5.one
        unfold shV
        simp (disch := omega) only [go_sem, ↓reduceIte , hone5, g1, g2, g3, hc1, hc5]
        refine ⟨{ actF R with fl := (actF R).fl.set j { (actF R).fl[j] with safe := (actF R).fl[j].bs.length }, vL := vL5, oL := own5 }, 0, rfl, ?_⟩
        have hm : ((actF R).fl.map fun x => (x.v, x.safe)).set j (.slice xa (actF R).fl[j].bs.length xc, ((actF R).fl[j].bs.length : Int)) = ((actF R).fl.set j { (actF R).fl[j] with safe := (actF R).fl[j].bs.length }).map fun x => (x.v, x.safe) := by
          rw [List.map_set, ← hxv]
        rw [hm, List.length_map, fl_map] at hs5
        have s1 := StR.act (k := k) (H' := (((((((H5.put b 0 vL5).put b 1 (actF R).now.v).put b (1 + 1) (actF R).vW).put b (1 + 1 + 1) (.int .i64 (actF R).room)).put b (1 + 1 + 1 + 1) (.int .i64 (actF R).left)).put b (1 + 1 + 1 + 1 + 1) (.bool (actF R).off)).put b (1 + 1 + 1 + 1 + 1 + 1) (.int .i64 (actF R).done))) (nx' := nx5) h ho (by omega) (by repeat first | exact Kp.refl _ _ _ | refine Kp.dropT ?_ (.inl (by omega)) | refine Kp.put ?_ (.inl (by omega)) | refine Kp.new ?_ (by omega) | refine Kp.put ?_ (.inr (by omega)) | refine Kp.newO ?_ (by omega) | refine Kp.setO ?_ (.inl (by omega)) | refine Kp.setO ?_ (.inr (by omega)) | refine Kp.trans0 ?_ (by assumption) (by omega) | refine Kp.transS ?_ (by assumption) (by omega) (fun b hb hT => by first | omega | (dsimp only at hT ⊢; omega) | (simp only at hT ⊢; omega))) 
        exact StR.changed s1 (by exact (by repeat first | assumption | refine SlA.dropT ?_ | refine SlA.put ?_ (by omega) | refine SlA.new ?_ (by omega) | refine SlA.newO ?_ (by omega) | refine SlA.setO ?_) ) (by omega) (s1.a.sF (actF R).fl[j] (List.getElem_mem hjl)) (.inl ⟨(actF R).fl[j], List.getElem_mem hjl, rfl⟩) ⟨by show (0 : Int) ≤ ((actF R).fl[j].bs.length : Int); omega, Int.le_refl _⟩ hkb
end Go.Proofs.Ytcdimjocdpogjaa
end
