/- A file that is safe under a name that is, and that nobody touches: it stays. In plain terms. -/
import Derived.Test.YtcdimjocdpogjaaY25
import Derived.Test.YtcdimjocdpogjaaY21
namespace Go.Proofs.Ytcdimjocdpogjaa
open Go.RowKit
set_option linter.unusedSimpArgs false

structure SafeIn (zN : ByteArray) (ps : List Int) (i : Nat) (f : Fs) : Prop where
  now : getA zN f.now = some i
  nowO : ∀ a ∈ f.now, a.2 = i → a.1 = zN
  old : getA zN f.old = some i
  oldO : ∀ a ∈ f.old, a.2 = i → a.1 = zN
  mv : ∀ m ∈ f.moves, m.name ≠ zN ∧ m.frm ≠ zN ∧ m.b ≠ some i
  bk : getA i f.bk = some (ps, (ps.length : Int))

section
variable {zN : ByteArray} {ps : List Int} {i : Nat} {f : Fs}
theorem SafeIn.act (h : SafeIn zN ps i f) : SafeIn zN ps i (actR f).2 :=
  ⟨by rw [actR_now]; exact h.now, by rw [actR_now]; exact h.nowO, by rw [actR_old]; exact h.old, by rw [actR_old]; exact h.oldO, by rw [actR_moves]; exact h.mv, by rw [actR_bk]; exact h.bk⟩
theorem getA_modB {g : List Int → Int → List Int × Int} {i j : Nat} (hne : j ≠ i) : ∀ {bk : Bks}, getA i (modB g j bk) = getA i bk
  | [] => rfl
  | x :: l => by
    have ih := getA_modB (g := g) hne (bk := l)
    by_cases e : x.1 = j
    · have h2 : modB g j (x :: l) = (j, g x.2.1 x.2.2) :: modB g j l := by
        unfold modB
        rw [List.map_cons, if_pos e]
      rw [h2]
      obtain ⟨x1, x2⟩ := x
      simp only at e
      subst e
      simp only [getA]
      rw [if_neg hne, if_neg hne, ih]
    · have h2 : modB g j (x :: l) = x :: modB g j l := by
        unfold modB
        rw [List.map_cons, if_neg e]
      rw [h2]
      obtain ⟨x1, x2⟩ := x
      simp only [getA, ih]
theorem getA_app {i j : Nat} {v : List Int × Int} {w : List Int × Int} : ∀ {bk : Bks}, getA i bk = some w → getA i (bk ++ [(j, v)]) = some w
  | [], h => by simp [getA] at h
  | x :: l, h => by
    obtain ⟨x1, x2⟩ := x
    simp only [getA, List.cons_append] at h ⊢
    split
    · rename_i e; rw [if_pos e] at h; exact h
    · rename_i e; rw [if_neg e] at h; exact getA_app h
theorem getA_cutD {b : Int} {D : List Nat} {i : Nat} : ∀ {bk : Bks}, getA i bk = some (ps, (ps.length : Int)) → getA i (cutD b D bk) = some (ps, (ps.length : Int))
  | [], h => by simp [getA] at h
  | x :: l, h => by
    have ih := getA_cutD (b := b) (D := D) (i := i) (bk := l)
    obtain ⟨x1, x2⟩ := x
    simp only [getA] at h
    unfold cutD at ih ⊢
    simp only [List.map_cons]
    by_cases e : x1 = i
    · rw [if_pos e] at h
      simp only [Option.some.injEq] at h
      subst h
      have hc : cutB b ps (ps.length : Int) = (ps, (ps.length : Int)) := by
        unfold cutB
        have : min ((ps.length : Int)) ((ps.length : Int) + min (max b 0) (ps.length : Int)) = ps.length := by omega
        rw [this]
        simp
      split
      · simp only [getA, e, if_true]
        rw [hc]
      · simp only [getA, e, if_true]
    · rw [if_neg e] at h
      split
      · simp only [getA, e, if_false]
        exact ih h
      · simp only [getA, e, if_false]
        exact ih h

theorem SafeIn.create (h : SafeIn zN ps i f) (hz : ByteArray.empty ≠ zN) {name : ByteArray} (hn : name ≠ zN) {j : Nat} (hj : j ≠ i) : SafeIn zN ps i (createR f name j).2 := by
  unfold createR
  split
  · split
    · split
      · exact h.act
      · refine ⟨?_, fun a ha e => ?_, by show getA zN (actR f).2.old = _; rw [actR_old]; exact h.old, by show ∀ a ∈ (actR f).2.old, _; rw [actR_old]; exact h.oldO, fun m hm => ?_, getA_app h.bk⟩
        · show getA zN (setA name j f.now) = _
          rw [getA_set, if_neg hn]
          exact h.now
        · rcases mem_setA ha with rfl | ha
          · exact absurd e hj
          · exact h.nowO a ha e
        · rcases List.mem_append.1 hm with hm | hm
          · exact h.mv m hm
          · have : m = ⟨name, some j, .empty⟩ := by simpa using hm
            subst this
            exact ⟨hn, hz, by simpa using hj⟩
    · exact h.act
  · exact h
/-- A file that another name has is another one. -/
theorem SafeIn.other (h : SafeIn zN ps i f) {name : ByteArray} (hn : name ≠ zN) {j : Nat} (hg : getA name f.now = some j) : j ≠ i := fun e => hn (h.nowO (name, j) (getA_mem hg) e)
theorem SafeIn.mod (h : SafeIn zN ps i f) {g : List Int → Int → List Int × Int} {j : Nat} (hj : j ≠ i) : SafeIn zN ps i { (actR f).2 with bk := modB g j f.bk } :=
  ⟨h.act.now, h.act.nowO, h.act.old, h.act.oldO, h.act.mv, by show getA i (modB g j f.bk) = _; rw [getA_modB hj]; exact h.bk⟩
theorem SafeIn.append (h : SafeIn zN ps i f) {name : ByteArray} (hn : name ≠ zN) {q : List Int} : SafeIn zN ps i (appendR f name q).2 := by
  unfold appendR
  split
  · split
    · exact h.act
    · rename_i j hg
      split
      · exact h.act
      · exact h.mod (h.other hn hg)
  · exact h.act
theorem SafeIn.file (h : SafeIn zN ps i f) {name : ByteArray} (hn : name ≠ zN) {g : List Int → Int → List Int × Int} {ok : List Int → Bool} : SafeIn zN ps i (fileR g ok f name).2 := by
  unfold fileR
  split
  · split
    · exact h.act
    · rename_i j hg
      split
      · exact h.mod (h.other hn hg)
      · exact h.act
  · exact h.act
theorem SafeIn.names (h : SafeIn zN ps i f) : SafeIn zN ps i (namesR f).2 := by
  unfold namesR
  split
  · exact ⟨h.act.now, h.act.nowO, h.now, h.nowO, by simp, h.act.bk⟩
  · exact h.act
theorem SafeIn.delete (h : SafeIn zN ps i f) (hz : ByteArray.empty ≠ zN) {name : ByteArray} (hn : name ≠ zN) : SafeIn zN ps i (deleteR f name).2 := by
  unfold deleteR
  split
  · split
    · refine ⟨?_, fun a ha e => h.nowO a (mem_delA.1 ha).1 e, h.act.old, h.act.oldO, fun m hm => ?_, h.act.bk⟩
      · show getA zN (delA name f.now) = _
        rw [getA_del, if_neg hn]
        exact h.now
      · rcases List.mem_append.1 hm with hm | hm
        · exact h.mv m hm
        · have : m = ⟨name, none, .empty⟩ := by simpa using hm
          subst this
          exact ⟨hn, hz, by simp⟩
    · exact h.act
  · exact h.act
theorem SafeIn.rename (h : SafeIn zN ps i f) {frm dst : ByteArray} (hf : frm ≠ zN) (hd : dst ≠ zN) : SafeIn zN ps i (renameR f frm dst).2 := by
  unfold renameR
  split
  · split
    · split
      · exact h.act
      · rename_i j hg
        have hj := h.other hf hg
        split
        · exact h.act
        · refine ⟨?_, fun a ha e => ?_, h.act.old, h.act.oldO, fun m hm => ?_, h.act.bk⟩
          · show getA zN (delA frm (setA dst j f.now)) = _
            rw [getA_del, if_neg hf, getA_set, if_neg hd]
            exact h.now
          · rcases mem_setA (mem_delA.1 ha).1 with rfl | ha
            · exact absurd e hj
            · exact h.nowO a ha e
          · rcases List.mem_append.1 hm with hm | hm
            · exact h.mv m hm
            · have : m = ⟨dst, some j, frm⟩ := by simpa using hm
              subst this
              exact ⟨hd, hf, by simpa using hj⟩
    · exact h.act
  · exact h
theorem fold_safe : ∀ {l : List Mv} {now : List (ByteArray × Nat)}, (∀ m ∈ l, m.name ≠ zN ∧ m.frm ≠ zN ∧ m.b ≠ some i) → getA zN now = some i → (∀ a ∈ now, a.2 = i → a.1 = zN) → getA zN (l.foldl stepN now) = some i ∧ ∀ a ∈ l.foldl stepN now, a.2 = i → a.1 = zN
  | [], _, _, h1, h2 => ⟨h1, h2⟩
  | m :: l, now, hm, h1, h2 => by
    rw [List.foldl_cons]
    obtain ⟨m1, m2, m3⟩ := hm m (by simp)
    refine fold_safe (fun m' h => hm m' (by simp [h])) ?_ fun a ha e => ?_
    · unfold stepN
      rw [getA_del, if_neg m2]
      split
      · rw [getA_del, if_neg m1]; exact h1
      · rw [getA_set, if_neg m1]; exact h1
    · rcases stepN_name ha with ha | ⟨j, hj, rfl⟩
      · exact h2 a ha e
      · exact absurd (by rw [hj]; exact congrArg some e) m3
theorem SafeIn.fall (h : SafeIn zN ps i f) {n b : Int} : SafeIn zN ps i (fallR f n b) := by
  obtain ⟨h1, h2⟩ := fold_safe (l := f.moves.take (kOf n f.moves.length)) (fun m hm => h.mv m (List.mem_of_mem_take hm)) h.old h.oldO
  exact ⟨h1, h2, h1, h2, by simp [fallR], getA_cutD h.bk⟩
theorem SafeIn.doF (h : SafeIn zN ps i f) (hz : ByteArray.empty ≠ zN) {c : Int} {na nb : ByteArray} (ha : na ≠ zN) (hb : nb ≠ zN) {n b : Int} {q : List Int} {j : Nat} (hu : UqA (doF f c na nb n b q j).bk) : SafeIn zN ps i (doF f c na nb n b q j) := by
  unfold Go.Proofs.Ytcdimjocdpogjaa.doF at hu ⊢
  split
  · rename_i hc
    rw [if_pos hc] at hu
    by_cases hj : j = i
    · subst hj
      unfold createR at hu ⊢
      split
      · rename_i hok
        rw [if_pos hok] at hu
        split
        · rename_i h1
          rw [if_pos h1] at hu
          split
          · exact h.act
          · rename_i h2
            rw [if_neg h2] at hu
            have hu : UqA (f.bk ++ [(j, [], 0)]) := hu
            have := (List.pairwise_append.1 hu).2.2 _ (getA_mem h.bk) (j, [], 0) (by simp)
            exact absurd rfl this
        · exact h.act
      · exact h
    · exact h.create hz ha hj
  · split
    · exact h.append ha
    · split
      · exact h.file ha
      · split
        · exact h.names
        · split
          · exact h.rename ha hb
          · split
            · exact h.delete hz ha
            · split
              · exact h.file ha
              · split
                · exact ⟨h.now, h.nowO, h.old, h.oldO, h.mv, h.bk⟩
                · split
                  · exact ⟨h.now, h.nowO, h.old, h.oldO, h.mv, h.bk⟩
                  · exact h.fall
theorem SafeIn.read (h : SafeIn zN ps i f) (ho : f.off = false) : readR f zN = (ps, 0) := by
  unfold readR
  rw [h.now]
  simp only [ho, Bool.false_eq_true, if_false]
  rw [h.bk]
  rfl
end
def nmZ : ByteArray := ⟨#[122]⟩
theorem nm6_z (n : Int) : nm6 n ≠ nmZ := by
  unfold nm6 nmZ
  repeat' split
  all_goals
    rw [ne_eq, ByteArray.mk.injEq]
    decide
theorem empty_z : ByteArray.empty ≠ nmZ := by
  unfold nmZ
  rw [ne_eq, show ByteArray.empty = ⟨#[]⟩ from rfl, ByteArray.mk.injEq]
  decide
end Go.Proofs.Ytcdimjocdpogjaa
