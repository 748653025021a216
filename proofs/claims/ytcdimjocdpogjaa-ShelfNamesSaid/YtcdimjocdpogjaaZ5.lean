/- Shelf: Create, Sync, Names, Delete, Cut, and so on. -/
import Derived.Test.YtcdimjocdpogjaaZ4
namespace Go.Proofs.Ytcdimjocdpogjaa
open Go.RowKit
set_option linter.unusedSimpArgs false

/-- What may be asked of a shelf. -/
structure FsOk (f : Fs) : Prop where
  l0 : -1 ≤ f.left
  l1 : f.left ≤ 9223372036854775807
  d0 : 0 ≤ f.done
  d1 : f.done ≤ 1000000
  mvs : f.moves.length ≤ 1000000
theorem actR_bk (f : Fs) : (actR f).2.bk = f.bk := by unfold actR; split <;> (try split) <;> rfl
theorem actR_now (f : Fs) : (actR f).2.now = f.now := by unfold actR; split <;> (try split) <;> rfl
theorem actR_old (f : Fs) : (actR f).2.old = f.old := by unfold actR; split <;> (try split) <;> rfl
theorem actR_room (f : Fs) : (actR f).2.room = f.room := by unfold actR; split <;> (try split) <;> rfl
theorem actR_moves (f : Fs) : (actR f).2.moves = f.moves := by unfold actR; split <;> (try split) <;> rfl

theorem AfterL.newB {lo nx : Nat} {H : AH} {p : Nat} {f : Fs} {L : Lay} (h : ShA lo nx H p f L) {i : Nat} (hi : nx ≤ i) :
    AfterL lo nx H p f L { f with bk := f.bk ++ [(i, [], 0)] } { L with own := fun j => if j = i then 0 else L.own j } (H.new i #[.slice none 0 0, .int .i64 0] 62) (i + 1) := by
  obtain ⟨h1, A⟩ := h.newB hi
  exact ⟨by omega, (Kp.refl _ _ _).new hi, h1, h.fpA A⟩
def syncF (f : Fs) (i : Nat) : Fs := match getA i f.bk with | some (bs, _) => { f with bk := updB i bs bs.length f.bk } | none => f
/-- Create's. 'i': the new file's. -/
def createR (f : Fs) (name : ByteArray) (i : Nat) : Int × Fs :=
  if nameOk name = true then
    if (actR f).1 = true then
      if (getA name f.now).isSome = true then (9, (actR f).2)
      else (0, { (actR f).2 with bk := f.bk ++ [(i, [], 0)], moves := f.moves ++ [⟨name, some i, .empty⟩], now := setA name i f.now })
    else (7, (actR f).2)
  else (1, f)

set_option maxRecDepth 20000 in
theorem shCreate_c {lo nx : Nat} {H : AH} {p : Nat} {f : Fs} {L : Lay} (h : ShA lo nx H p f L) (hf : FsOk f) (name : ByteArray) :
    ACalls Try.prog lo 10 #[.pointer (some ⟨p, 0, none⟩), .string name] H nx (fun v H' nx' => ∃ i, nx ≤ i ∧ v = .int .i64 (createR f name i).1 ∧ After lo nx H p f L (createR f name i).2 H' nx') := by
  refine acalls_of_awp L10 Try.func10 rfl (by kernel_rfl) ?_
  simp (disch := omega) only [go_sem, ↓reduceIte ]
  refine (shName_c name H nx).mono fun v H1 nx1 _ ⟨hx1, hk1, hv⟩ => ?_
  subst hv
  unfold createR
  have a1 := AfterL.still h hk1 hx1
  cases hn : nameOk name with
  | false =>
    simp (disch := omega) only [go_sem, ↓reduceIte ]
    exact ⟨nx, Nat.le_refl _, L, a1⟩
  | true =>
    simp (disch := omega) only [go_sem, ↓reduceIte ]
    refine (act_c a1.sh ⟨hf.l0, hf.l1⟩ ⟨hf.d0, by have := hf.d1; omega⟩).mono fun v H2 nx2 _ ⟨hx2, hv, k2⟩ => ?_
    subst hv; subst hx2
    have a2 := a1.trans k2
    cases ha : (actR f).1 with
    | false =>
      simp (disch := omega) only [go_sem, ↓reduceIte , ha]
      exact ⟨nx, Nat.le_refl _, L, a2⟩
    | true =>
      have c0 := a2.sh.c0
      have hlk := look_sh a2.sh.on name
      rw [actR_now] at hlk
      unfold bkV at hlk
      cases hg : getA name f.now with
      | some b =>
        rw [hg] at hlk
        simp (disch := omega) only [go_sem, ↓reduceIte , ha, c0, hlk]
        exact ⟨nx, Nat.le_refl _, L, a2⟩
      | none =>
        rw [hg] at hlk
        simp (disch := omega) only [go_sem, ↓reduceIte , ha, c0, hlk]
        intro i hi
        have a3 := a2.trans (AfterL.newB a2.sh hi)
        simp only [actR_bk] at a3
        simp (disch := omega) only [go_sem, ↓reduceIte ]
        refine (set_c a3.sh name (some i) (fun j hj => by cases hj; exact ⟨(i, [], 0), by simp, rfl⟩) (by simp only [actR_moves]; exact hf.mvs)).mono fun v H4 nx4 _ ⟨hv, own, k4⟩ => ?_
        subst hv
        simp (disch := omega) only [go_sem, ↓reduceIte ]
        have a4 := a3.trans k4
        simp only [actR_moves, actR_now] at a4
        exact ⟨i, by omega, _, a4⟩
end Go.Proofs.Ytcdimjocdpogjaa
