/- Shelf: as statements use it; 'awake'. -/
import Derived.Test.YtcdimjocdpogjaaZ9
namespace Go.Proofs.Ytcdimjocdpogjaa
open Go.RowKit
set_option linter.unusedSimpArgs false

/-- A shelf that lies from block N on. -/
def ShW (N lo nx : Nat) (H : AH) (p : Nat) (f : Fs) : Prop := ∃ L, ShA lo nx H p f L ∧ ∀ b, fpS p f L b → N ≤ b
structure StW (N lo nx : Nat) (H : AH) (p : Nat) (f' : Fs) (H' : AH) (nx' : Nat) : Prop where
  le : nx ≤ nx'
  kp : Kp (fun b => N ≤ b) nx H H'
  sh : ShW N lo nx' H' p f'
theorem After.stw {N lo nx nx' : Nat} {H H' : AH} {p : Nat} {f f' : Fs} {L : Lay} (hN : N ≤ nx) (hb : ∀ b, fpS p f L b → N ≤ b) (h : After lo nx H p f L f' H' nx') : StW N lo nx H p f' H' nx' := by
  obtain ⟨L', h⟩ := h
  exact ⟨h.le, Kp.mono h.kp (Nat.le_refl _) (fun b _ e => hb b e), L', h.sh, fun b e => by rcases h.fp b e with e | e; exact hb b e; omega⟩
theorem ShW.still {N lo nx nx' : Nat} {H H' : AH} {p : Nat} {f : Fs} (h : ShW N lo nx H p f) (hk : Kp (fun _ => False) nx H H') (hn : nx ≤ nx') : ShW N lo nx' H' p f := by
  obtain ⟨L, h1, h2⟩ := h
  exact ⟨L, h1.kp hk hn (by simp), h2⟩

section
variable {N lo nx : Nat} {H : AH} {p : Nat} {f : Fs}
theorem wCreate (h : ShW N lo nx H p f) (hN : N ≤ nx) (hf : FsOk f) (name : ByteArray) : ACalls Try.prog lo 10 #[.pointer (some ⟨p, 0, none⟩), .string name] H nx (fun v H' nx' => ∃ i, nx ≤ i ∧ v = .int .i64 (createR f name i).1 ∧ StW N lo nx H p (createR f name i).2 H' nx') := by
  obtain ⟨L, h1, h2⟩ := h
  exact (shCreate_c h1 hf name).mono fun _ _ _ _ ⟨i, g1, g2, g3⟩ => ⟨i, g1, g2, g3.stw hN h2⟩
theorem wAppend (h : ShW N lo nx H p f) (hN : N ≤ nx) (hf : FsBig f) (name : ByteArray) {pv : Value} {q : List Int} {ownp : Nat} (hq : SlA nx H 1 pv q.length (bytV q) ownp) (hql : q.length ≤ 1000000) (hqf : ownp ≤ N) : ACalls Try.prog lo 11 #[.pointer (some ⟨p, 0, none⟩), .string name, pv] H nx (fun v H' nx' => v = .int .i64 (appendR f name q).1 ∧ StW N lo nx H p (appendR f name q).2 H' nx') := by
  obtain ⟨L, h1, h2⟩ := h
  exact (shAppend_c h1 hf name (.inl hq) hql (fun b hb e => by have := h2 b e; omega)).mono fun _ _ _ _ ⟨g2, g3⟩ => ⟨g2, g3.stw hN h2⟩
/-- Bytes that were laid behind the shelf. -/
theorem wAppendNew {nx1 : Nat} {H1 : AH} (h : ShW N lo nx1 H1 p f) (hk : Kp (fun _ => False) nx1 H1 H) (hn : nx1 ≤ nx) (hN : N ≤ nx) (hf : FsBig f) (name : ByteArray) {pv : Value} {q : List Int} {ownp : Nat} (hq : SlA nx H 1 pv q.length (bytV q) ownp) (hql : q.length ≤ 1000000) (hqf : nx1 < ownp) : ACalls Try.prog lo 11 #[.pointer (some ⟨p, 0, none⟩), .string name, pv] H nx (fun v H' nx' => v = .int .i64 (appendR f name q).1 ∧ StW N lo nx H p (appendR f name q).2 H' nx') := by
  obtain ⟨L, h1, h2⟩ := h
  exact (shAppend_c (h1.kp hk hn (by simp)) hf name (.inl hq) hql (fun b hb e => by have := h1.fp_lt e; omega)).mono fun _ _ _ _ ⟨g2, g3⟩ => ⟨g2, g3.stw hN h2⟩
theorem wSync (h : ShW N lo nx H p f) (hN : N ≤ nx) (hf : FsBig f) (name : ByteArray) : ACalls Try.prog lo 12 #[.pointer (some ⟨p, 0, none⟩), .string name] H nx (fun v H' nx' => v = .int .i64 (syncR f name).1 ∧ StW N lo nx H p (syncR f name).2 H' nx') := by
  obtain ⟨L, h1, h2⟩ := h
  exact (shSync_c h1 hf name).mono fun _ _ _ _ ⟨g2, g3⟩ => ⟨g2, g3.stw hN h2⟩
theorem wCut (h : ShW N lo nx H p f) (hN : N ≤ nx) (hf : FsBig f) (name : ByteArray) (n : Int) : ACalls Try.prog lo 45 #[.pointer (some ⟨p, 0, none⟩), .string name, .int .i64 n] H nx (fun v H' nx' => v = .int .i64 (cutR f name n).1 ∧ StW N lo nx H p (cutR f name n).2 H' nx') := by
  obtain ⟨L, h1, h2⟩ := h
  exact (shCut_c h1 hf name n).mono fun _ _ _ _ ⟨g2, g3⟩ => ⟨g2, g3.stw hN h2⟩
theorem wNames (h : ShW N lo nx H p f) (hN : N ≤ nx) (hf : FsOk f) : ACalls Try.prog lo 13 #[.pointer (some ⟨p, 0, none⟩)] H nx (fun v H' nx' => v = .int .i64 (namesR f).1 ∧ StW N lo nx H p (namesR f).2 H' nx') := by
  obtain ⟨L, h1, h2⟩ := h
  exact (shNames_c h1 hf).mono fun _ _ _ _ ⟨g2, g3⟩ => ⟨g2, g3.stw hN h2⟩
theorem wDelete (h : ShW N lo nx H p f) (hN : N ≤ nx) (hf : FsOk f) (name : ByteArray) : ACalls Try.prog lo 28 #[.pointer (some ⟨p, 0, none⟩), .string name] H nx (fun v H' nx' => v = .int .i64 (deleteR f name).1 ∧ StW N lo nx H p (deleteR f name).2 H' nx') := by
  obtain ⟨L, h1, h2⟩ := h
  exact (shDelete_c h1 hf name).mono fun _ _ _ _ ⟨g2, g3⟩ => ⟨g2, g3.stw hN h2⟩
theorem wRename (h : ShW N lo nx H p f) (hN : N ≤ nx) (hf : FsOk f) (frm dst : ByteArray) : ACalls Try.prog lo 16 #[.pointer (some ⟨p, 0, none⟩), .string frm, .string dst] H nx (fun v H' nx' => v = .int .i64 (renameR f frm dst).1 ∧ StW N lo nx H p (renameR f frm dst).2 H' nx') := by
  obtain ⟨L, h1, h2⟩ := h
  exact (shRename_c h1 hf frm dst).mono fun _ _ _ _ ⟨g2, g3⟩ => ⟨g2, g3.stw hN h2⟩
theorem wFall (h : ShW N lo nx H p f) (hN : N ≤ nx) (hs : SafeOk f.bk) (htot : totF f ≤ 1000000000) (hmv : f.moves.length ≤ 1000000) (names bytes : Int) : ACalls Try.prog lo 14 #[.pointer (some ⟨p, 0, none⟩), .int .i64 names, .int .i64 bytes] H nx (fun v H' nx' => v = .tuple #[] ∧ StW N lo nx H p (fallR f names bytes) H' nx') := by
  obtain ⟨L, h1, h2⟩ := h
  exact (shFall_c h1 hs htot hmv names bytes).mono fun _ _ _ _ ⟨g2, g3⟩ => ⟨g2, g3.stw hN h2⟩
theorem wRead (h : ShW N lo nx H p f) (htot : totF f ≤ 1000000000) (name : ByteArray) : ACalls Try.prog lo 15 #[.pointer (some ⟨p, 0, none⟩), .string name] H nx (fun v H' nx' => nx ≤ nx' ∧ Kp (fun _ => False) nx H H' ∧ ShW N lo nx' H' p f ∧ ∃ u own, v = .tuple #[u, .int .i64 (readR f name).2] ∧ SlA nx' H' 1 u (readR f name).1.length (bytV (readR f name).1) own ∧ (own = 0 ∨ nx < own)) := by
  obtain ⟨L, h1, h2⟩ := h
  exact (shRead_c h1 htot name).mono fun _ _ _ _ ⟨g1, g2, g3⟩ => ⟨g1, g2, ⟨L, h1.kp g2 g1 (by simp), h2⟩, g3⟩
theorem wUsed (h : ShW N lo nx H p f) (hsz : totF f ≤ 1000000000) (hmv : f.moves.length ≤ 1000000) : ACalls Try.prog lo 22 #[.pointer (some ⟨p, 0, none⟩)] H nx (fun v H' nx' => v = .int .i64 (usedF f) ∧ nx ≤ nx' ∧ Kp (fun _ => False) nx H H' ∧ ShW N lo nx' H' p f) := by
  obtain ⟨L, h1, h2⟩ := h
  exact (shUsed_c h1 hsz hmv).mono fun _ _ _ _ ⟨g1, g2, g3⟩ => ⟨g1, g2, g3, L, h1.kp g3 g2 (by simp), h2⟩
theorem wList (h : ShW N lo nx H p f) (hk : ∀ a ∈ f.now, a.1.size ≤ 1000) (hl : f.now.length ≤ 1000000) : ACalls Try.prog lo 21 #[.pointer (some ⟨p, 0, none⟩)] H nx (fun v H' nx' => nx ≤ nx' ∧ Kp (fun _ => False) nx H H' ∧ ShW N lo nx' H' p f ∧ ∃ (own : Nat) (ss : List (List UInt8)), (if f.off = true then ss = [] else ss.Perm (f.now.map fun a => a.1.data.toList)) ∧ SlA nx' H' 1 v ss.length (ss.map Go.Proofs.encStr) own ∧ (own = 0 ∨ nx < own)) := by
  obtain ⟨L, h1, h2⟩ := h
  exact (shList_c h1 hk hl).mono fun _ _ _ _ ⟨g1, g2, g3⟩ => ⟨g1, g2, ⟨L, h1.kp g2 g1 (by simp), h2⟩, g3⟩
end

def nmA : ByteArray := ⟨#[97]⟩
def nmB : ByteArray := ⟨#[98]⟩
theorem okA : nameOk nmA = true := by kernel_rfl
theorem okB' : nameOk nmB = true := by kernel_rfl
theorem neAB : (nmA = nmB) = False := by
  simp only [nmA, nmB, eq_iff_iff, iff_false, ByteArray.mk.injEq]
  decide
theorem neBA : (nmB = nmA) = False := by
  simp only [nmA, nmB, eq_iff_iff, iff_false, ByteArray.mk.injEq]
  decide
abbrev Bks := List (Nat × List Int × Int)
def totB (r : Bks) : Nat := (r.map fun q => q.2.1.length).sum
theorem tot_filter_le (g : Nat × List Int × Int → Bool) : ∀ r : Bks, ((r.filter g).map fun q => q.2.1.length).sum ≤ totB r
  | [] => by simp [totB]
  | x :: r => by
    have ih := tot_filter_le g r
    unfold totB at ih ⊢
    rw [List.filter_cons]
    split <;> simp only [List.map_cons, List.sum_cons] <;> omega
/-- A shelf without names; with one name. r: files that have no name any more. -/
def fsNone (room d : Int) (r : Bks) : Fs := ⟨[], [], [], room, -1, false, d, r⟩
def fsOne (room d : Int) (name : ByteArray) (i : Nat) (old : List (ByteArray × Nat)) (mv : List Mv) (bs : List Int) (s : Int) (r : Bks) : Fs := ⟨[(name, i)], old, mv, room, -1, false, d, r ++ [(i, bs, s)]⟩
theorem fsNone_ok {room d : Int} {r : Bks} (hd : 0 ≤ d ∧ d ≤ 1000000) : FsOk (fsNone room d r) := ⟨by simp [fsNone], by simp [fsNone], hd.1, hd.2, by simp [fsNone]⟩
theorem wNew {lo nx : Nat} {H : AH} (room : Int) : ACalls Try.prog lo 9 #[.int .i64 room] H nx (fun v H' nx' => nx ≤ nx' ∧ Kp (fun _ => False) nx H H' ∧ ∃ p, v = .pointer (some ⟨p, 0, none⟩) ∧ ShW nx lo nx' H' p (fsNone room 0 [])) :=
  (shNew_c room).mono fun _ _ _ _ ⟨h1, h2, p, L, h3, h4, h5⟩ => ⟨h1, h2, p, h3, L, h4, h5⟩
section
variable {room d : Int} {name : ByteArray} {i : Nat} {old : List (ByteArray × Nat)} {mv : List Mv} {bs q : List Int} {s bytes : Int} {r : Bks}
theorem one_tot : totF (fsOne room d name i old mv bs s r) = totB r + bs.length := by simp [totF, fsOne, totB]
theorem fsOne_big (hr : -1000000000 ≤ room ∧ room ≤ 1000000000) (hd : 0 ≤ d ∧ d ≤ 1000000) (hm : mv.length ≤ 1000000) (hb : totB r + bs.length ≤ 1000000000) : FsBig (fsOne room d name i old mv bs s r) :=
  ⟨⟨by simp [fsOne], by simp [fsOne], hd.1, hd.2, hm⟩, by rw [one_tot]; exact hb, hr.1, hr.2⟩
theorem one_act : actR (fsOne room d name i old mv bs s r) = (true, fsOne room (d + 1) name i old mv bs s r) := by
  simp [actR, fsOne]
  rfl
theorem none_act : actR (fsNone room d r) = (true, fsNone room (d + 1) r) := by
  simp [actR, fsNone]
  rfl
theorem one_create (hn : nameOk name = true) : createR (fsNone room d r) name i = (0, fsOne room (d + 1) name i [] [⟨name, some i, .empty⟩] [] 0 r) := by
  unfold createR
  rw [none_act]
  simp [hn, fsNone, getA, setA, fsOne]
theorem mod_last (g : List Int → Int → List Int × Int) (h : ∀ x ∈ r, x.1 ≠ i) : modB g i (r ++ [(i, bs, s)]) = r ++ [(i, g bs s)] := by
  unfold modB
  rw [List.map_append]
  congr 1
  · conv => rhs; rw [← List.map_id r]
    refine List.map_congr_left fun x hx => ?_
    rw [if_neg (h x hx)]; rfl
  · simp
theorem get_last (h : ∀ x ∈ r, x.1 ≠ i) : getA i (r ++ [(i, bs, s)]) = some (bs, s) := by
  induction r with
  | nil => simp [getA]
  | cons x r ih =>
    simp only [List.cons_append, getA]
    rw [if_neg (h x (by simp))]
    exact ih fun y hy => h y (by simp [hy])
theorem one_append (h : ∀ x ∈ r, x.1 ≠ i) (hu : usedF (fsOne room d name i old mv bs s r) + q.length ≤ room) : appendR (fsOne room d name i old mv bs s r) name q = (0, fsOne room (d + 1) name i old mv (bs ++ q) s r) := by
  have h1 : ¬ room - usedF (fsOne room d name i old mv bs s r) < q.length := by omega
  unfold appendR
  rw [one_act]
  simp only [if_true]
  have h3 : getA name (fsOne room d name i old mv bs s r).now = some i := by simp [fsOne, getA]
  rw [h3]
  simp only
  rw [if_neg (by simpa [fsOne] using h1)]
  simp only [fsOne]
  rw [mod_last _ h]
theorem one_sync (h : ∀ x ∈ r, x.1 ≠ i) : syncR (fsOne room d name i old mv bs s r) name = (0, fsOne room (d + 1) name i old mv bs bs.length r) := by
  unfold syncR fileR
  rw [one_act]
  have h3 : getA name (fsOne room d name i old mv bs s r).now = some i := by simp [fsOne, getA]
  have h4 : getA i (fsOne room d name i old mv bs s r).bk = some (bs, s) := get_last h
  simp only [if_true, h3, h4, Option.any_some]
  simp only [fsOne]
  rw [mod_last _ h]
theorem one_names : namesR (fsOne room d name i old mv bs s r) = (0, fsOne room (d + 1) name i [(name, i)] [] bs s r) := by
  unfold namesR
  rw [one_act]
  simp [fsOne]
theorem used_le (hids : ∀ x ∈ r, x.1 ∉ usedIds (fsOne room d name i old mv bs s r)) : usedF (fsOne room d name i old mv bs s r) ≤ bs.length := by
  unfold usedF
  generalize usedIds (fsOne room d name i old mv bs s r) = D at hids ⊢
  show sumD (r ++ [(i, bs, s)]) D ≤ bs.length
  unfold sumD
  rw [List.filter_append, List.filter_eq_nil_iff.2 (fun x hx => by simpa using hids x hx)]
  simp only [List.nil_append]
  refine Nat.le_trans (tot_filter_le _ _) ?_
  simp [totB]
theorem one_safe (h : 0 ≤ s ∧ s ≤ bs.length) (hr : SafeOk r) : SafeOk (fsOne room d name i old mv bs s r).bk := by
  intro q hq
  simp only [fsOne, List.mem_append, List.mem_singleton] at hq
  rcases hq with hq | rfl
  · exact hr q hq
  · exact h
theorem kOf_zero (n : Nat) : kOf 0 n = 0 := by unfold kOf; omega
theorem one_fall (h : ∀ x ∈ r, x.1 ≠ i) : fallR (fsOne room d name i [(name, i)] mv bs s r) 0 bytes = fsOne room d name i [(name, i)] [] (cutB bytes bs s).1 (cutB bytes bs s).2 r := by
  have hN : fallN (fsOne room d name i [(name, i)] mv bs s r) 0 = [(name, i)] := by simp [fallN, fsOne, kOf_zero]
  unfold fallR
  rw [hN]
  simp only [fsOne, List.map_cons, List.map_nil, Fs.mk.injEq, true_and]
  unfold cutD
  rw [List.map_append]
  congr 1
  · conv => rhs; rw [← List.map_id r]
    refine List.map_congr_left fun x hx => ?_
    rw [if_neg (by simpa using h x hx)]; rfl
  · simp
theorem one_fell : fallR (fsOne room d name i [] mv bs s r) 0 bytes = fsNone room d (r ++ [(i, bs, s)]) := by
  have hN : fallN (fsOne room d name i [] mv bs s r) 0 = [] := by simp [fallN, fsOne, kOf_zero]
  unfold fallR
  rw [hN]
  simp only [fsOne, fsNone, List.map_nil, cutD_nil]
theorem one_read (h : ∀ x ∈ r, x.1 ≠ i) : readR (fsOne room d name i old mv bs s r) name = (bs, 0) := by
  unfold readR
  have h3 : getA name (fsOne room d name i old mv bs s r).now = some i := by simp [fsOne, getA]
  rw [h3]
  simp only [fsOne, Bool.false_eq_true, if_false]
  rw [get_last h]
  rfl
theorem one_other {N lo nx : Nat} {H : AH} {p : Nat} (h : ShW N lo nx H p (fsOne room d name i old mv bs s r)) : ∀ x ∈ r, x.1 ≠ i := by
  obtain ⟨L, h, _⟩ := h
  have := h.uq
  unfold UqA at this
  simp only [fsOne] at this
  rw [List.pairwise_append] at this
  intro x hx
  exact this.2.2 x hx (i, bs, s) (by simp)
end
end Go.Proofs.Ytcdimjocdpogjaa
