/- ShelfRoom: its second loop, and what comes behind. ShelfRoom, in our own logic. ShelfRoom, whole. -/
import Derived.Test.YtcdimjocdpogjaaY38
import Derived.Test.YtcdimjocdpogjaaY2
section
namespace Go.Proofs.Ytcdimjocdpogjaa
open Go.RowKit
set_option linter.unusedSimpArgs false

theorem delete_sub {room : Nat} {f : Fs} (h : RoomIn room f) {name : ByteArray} : ∀ a ∈ (deleteR f name).2.now, a ∈ f.now ∧ a.1 ≠ name := fun a ha => by
  obtain ⟨at1, _⟩ := room_act h
  unfold deleteR at ha
  rw [at1] at ha
  simp only [if_true] at ha
  split at ha
  · exact mem_delA.1 ha
  · rename_i hno
    have ha : a ∈ (actR f).2.now := ha
    rw [actR_now] at ha
    refine ⟨ha, fun e => ?_⟩
    have hn : getA name f.now = none := by simpa using hno
    exact getA_none.1 hn a ha e

structure RdI (N lo : Nat) (H0 : AH) (room p : Nat) (vl : Value) (ss : List (List UInt8)) (own k0 : Nat) (m : Nat) (env : Env) (H : AH) (nx j : Nat) (f : Fs) (L : Lay) : Prop where
  hm : m = ss.length - j
  hj : j ≤ ss.length
  henv : env = [(5, .pointer (some ⟨p, 0, none⟩)), (9, vl), (10, .int .i64 j)]
  sh : ShA lo nx H p f L
  low : ∀ b, fpS p f L b → N ≤ b
  le : N ≤ nx
  kp : Kp (fun _ => False) N H0 H
  fi : FsIn f (k0 + j)
  r : RoomIn room f
  sl : SlA nx H 1 vl ss.length (ss.map encStr) own
  so : ∀ b, fpS p f L b → b + 1 ≠ own
  gone : ∀ a ∈ f.now, a.1.data.toList ∉ ss.take j
  sub : ∀ a ∈ f.now, a.1.data.toList ∈ ss

noncomputable def rdmLoop : Code := codeAt [.T, .T, .T, .T, .T, .T, .H, .T, .I] ((Try.f7.body).getD .skip)
set_option maxHeartbeats 4000000 in
set_option maxRecDepth 20000 in
theorem rdm_loop {N lo nx0 : Nat} {H0 : AH} {room p : Nat} {vl : Value} {ss : List (List UInt8)} {own k0 : Nat} (hk0 : k0 ≤ 60) (hsl : ss.length ≤ 60) {K0 : Env → AH → Nat → Prop} {Q : Exit → Env → AH → Nat → Prop} {env : Env} {H : AH} {f : Fs} {L : Lay} (h0 : RdI N lo H0 room p vl ss own k0 ss.length env H nx0 0 f L)
    (hK : ∀ env H nx f L, RdI N lo H0 room p vl ss own k0 0 env H nx ss.length f L → K0 (env ++ [(70, .bool false)]) H nx) : awp Try.prog lo L7 rdmLoop (blockQ 2 (thenQ K0 Q)) env H nx0 := by
  have hcode : rdmLoop = codeAt [.T, .T, .T, .T, .T, .T, .H, .T, .I] ((Try.f7.body).getD .skip) := rfl
  simp only [Try.f7, Option.getD_some, codeAt_H, codeAt_T, codeAt_I, codeAt_L, codeAt_C, codeAt_P, codeAt_nil] at hcode
  rw [hcode]
  clear hcode
  refine awp_loopX (fun m env H nx => ∃ j f L, RdI N lo H0 room p vl ss own k0 m env H nx j f L) ss.length ⟨0, f, L, h0⟩ (fun env H nx => ∃ e f L, RdI N lo H0 room p vl ss own k0 0 e H nx ss.length f L ∧ env = e ++ [(70, .bool false)]) (fun K hK m env H nx ⟨j, f, L, hI⟩ hn => ?_) (fun env H nx ⟨e, f, L, hI, he⟩ => by subst he; exact hK _ _ _ _ _ hI)
  obtain ⟨hm, hj, henv, sh, low, le, kp, fi, r, sl, so, gone, sub⟩ := hI
  subst henv
  obtain ⟨aa, ac, hvl⟩ := sl.form
  by_cases hlt : j < ss.length
  · obtain ⟨g, off, cap, hv, hgo⟩ := sl.open (by omega)
    have hgle := sl.le
    rw [hvl] at hv
    simp only [Value.slice.injEq, true_and] at hv
    obtain ⟨rfl, rfl⟩ := hv
    have sl2 := sl
    rw [hvl] at sl2
    have cj : H.c g (off + j) = some (.string ⟨ss[j].toArray⟩) := sl2.cells.1 j _ (by rw [List.getElem?_map, List.getElem?_eq_getElem hlt]; rfl)
    simp (disch := omega) only [go_sem, ↓reduceIte , hvl, cj]
    refine (shDelete_c sh (fi.big (by omega)).toFsOk ⟨ss[j].toArray⟩).mono fun v H1 nx1 _ ⟨hv1, L1, s1⟩ => ?_
    subst hv1
    have hle1 := s1.le
    simp (disch := omega) only [go_sem, ↓reduceIte ]
    have hd : doF f 7 ⟨ss[j].toArray⟩ .empty 0 0 [] 0 = (deleteR f ⟨ss[j].toArray⟩).2 := by simp [doF]
    have fi' := doF_in (c := 7) (na := ⟨ss[j].toArray⟩) (nb := .empty) (n := 0) (b := 0) (q := []) (i := 0) fi sh.uq (by simp)
    have r' := doF_room r sh.uq (c := 7) (by omega) (by omega) (na := ⟨ss[j].toArray⟩) (nb := .empty) (n := 0) (b := 0) (q := []) (i := 0) fi.safe (by rw [hd]; exact s1.sh.uq)
    rw [hd] at fi' r'
    have hds := delete_sub r (name := ⟨ss[j].toArray⟩)
    refine ⟨ss.length - (j + 1), by omega, j + 1, _, L1, ⟨rfl, by omega, by simp, s1.sh, fun b hb => ?_, by omega, kp.trans (U := fun _ => False) s1.kp le (fun _ _ e => e) (fun b hb e => by have := low b e; omega), fi', r', sl2.kp s1.kp hle1 (fun b e h => so b h e), fun b hb => ?_, fun a ha => ?_, fun a ha => sub a (hds a ha).1⟩⟩
    · rcases s1.fp b hb with h | h
      · exact low b h
      · omega
    · rcases s1.fp b hb with h | h
      · exact so b h
      · omega
    · obtain ⟨h1, h2⟩ := hds a ha
      rw [List.take_add_one, List.getElem?_eq_getElem hlt, List.mem_append]
      rintro (h | h)
      · exact gone a h1 h
      · have h : a.1.data.toList = ss[j] := by simpa using h
        exact h2 (ByteArray.ext (by rw [← h]))
  · have ej : j = ss.length := by omega
    subst ej
    simp (disch := omega) only [go_sem, ↓reduceIte , hvl]
    refine hK _ _ _ ⟨_, f, L, ⟨by omega, by omega, rfl, sh, low, le, kp, fi, r, sl, so, gone, sub⟩, ?_⟩
    rw [hvl]
    rfl
end Go.Proofs.Ytcdimjocdpogjaa
end
section
namespace Go.Proofs.Ytcdimjocdpogjaa
open Go.RowKit
set_option linter.unusedSimpArgs false

noncomputable def romTail : Code := codeAt [.T, .T, .T, .T, .T] ((Try.f7.body).getD .skip)
noncomputable def rdmTail : Code := codeAt [.T, .T, .T, .T, .T, .T, .T] ((Try.f7.body).getD .skip)

set_option maxHeartbeats 4000000 in
set_option maxRecDepth 20000 in
theorem rdm_tail {N lo : Nat} {H0 : AH} {room p : Nat} {vl : Value} {ss : List (List UInt8)} {own k0 : Nat} (hk0 : k0 ≤ 60) (hsl : ss.length ≤ 60) {env : Env} {H : AH} {nx : Nat} {f : Fs} {L : Lay} (hI : RdI N lo H0 room p vl ss own k0 0 env H nx ss.length f L) :
    awp Try.prog lo L7 rdmTail (retQ Try.prog Try.f7 fun v H' nx' => v = .bool true ∧ N ≤ nx' ∧ Kp (fun _ => False) N H0 H') (env ++ [(70, .bool false)]) H nx := by
  have hcode : rdmTail = codeAt [.T, .T, .T, .T, .T, .T, .T] ((Try.f7.body).getD .skip) := rfl
  simp only [Try.f7, Option.getD_some, codeAt_H, codeAt_T, codeAt_I, codeAt_L, codeAt_C, codeAt_P, codeAt_nil] at hcode
  rw [hcode]
  clear hcode
  obtain ⟨hm, hj, henv, sh, low, le, kp, fi, r, sl, so, gone, sub⟩ := hI
  subst henv
  have hnow : f.now = [] := by
    cases hn : f.now with
    | nil => rfl
    | cons a l =>
      have ha : a ∈ f.now := by rw [hn]; simp
      have h1 := gone a ha
      rw [List.take_length] at h1
      exact absurd (sub a ha) h1
  obtain ⟨at1, ar⟩ := room_act r
  have hnm : namesR f = (0, { (actR f).2 with old := f.now, moves := [] }) := by unfold namesR; rw [at1]; simp
  simp only [List.cons_append, List.nil_append]
  simp (disch := omega) only [go_sem, ↓reduceIte ]
  refine (shNames_c sh (fi.big (by omega)).toFsOk).mono fun v H1 nx1 _ ⟨hv1, L1, s1⟩ => ?_
  rw [hnm] at hv1 s1
  subst hv1
  have hle1 := s1.le
  have kp1 := kp.trans (U := fun _ => False) s1.kp le (fun _ _ e => e) (fun b hb e => by have := low b e; omega)
  simp (disch := omega) only [go_sem, ↓reduceIte ]
  have hu0 : usedF { (actR f).2 with old := f.now, moves := [] } = 0 := by
    unfold usedF usedIds
    show sumD _ (f.now.map (·.2) ++ ([] : List Mv).filterMap (·.b)) = 0
    rw [hnow]
    exact sumD_nil _
  refine (shUsed_c s1.sh (by
    show totF (actR f).2 ≤ _
    rw [totF_act]
    have := fi.tot
    omega) (by simp)).mono fun v H2 nx2 _ ⟨hv2, hx2, hk2⟩ => ?_
  rw [hu0] at hv2
  subst hv2
  simp (disch := omega) only [go_sem, ↓reduceIte ]
  refine (shMoves_c (s1.sh.kp hk2 hx2 (by simp))).mono fun v H3 nx3 _ ⟨hv3, hH3, hx3⟩ => ?_
  subst hv3; subst hH3; subst hx3
  simp (disch := omega) only [go_sem, ↓reduceIte , List.length_nil]
  exact ⟨by omega, kp1.trans (U := fun _ => False) hk2 (by omega) (fun _ _ e => e) (fun _ _ e => e)⟩

set_option maxHeartbeats 4000000 in
set_option maxRecDepth 20000 in
theorem rom_tail {N lo : Nat} {H0 : AH} {room : Nat} {va : Value} {acts : List Ac5} {p z : Nat} (hal : acts.length ≤ 60) {env : Env} {H : AH} {nx : Nat} {f : Fs} {L : Lay} {R : Rf} {k : Nat} (hI : RoI N lo H0 room va acts p z 0 env H nx acts.length f L R k) :
    awp Try.prog lo L7 romTail (retQ Try.prog Try.f7 fun v H' nx' => v = .bool true ∧ N ≤ nx' ∧ Kp (fun _ => False) N H0 H') (env ++ [(28, .bool false)]) H nx := by
  have hcode : romTail = codeAt [.T, .T, .T, .T, .T] ((Try.f7.body).getD .skip) := rfl
  simp only [Try.f7, Option.getD_some, codeAt_H, codeAt_T, codeAt_I, codeAt_L, codeAt_C, codeAt_P, codeAt_nil] at hcode
  rw [hcode]
  clear hcode
  obtain ⟨hm, hi, hki, henv, t, r⟩ := hI
  subst henv
  have B := t.B
  have hnl := B.fi.nl
  simp only [List.cons_append, List.nil_append]
  simp (disch := omega) only [go_sem, ↓reduceIte ]
  refine (shList_c B.sh (fun a ha => by have := B.fi.ns a ha; omega) (by omega)).mono fun v H1 nx1 _ ⟨hx1, hk1, own, ss, hss, sl, hown⟩ => ?_
  rw [if_neg (by rw [r.off]; simp)] at hss
  have hsl : ss.length ≤ 60 := by
    have := hss.length_eq
    rw [List.length_map] at this
    omega
  have sh1 := B.sh.kp hk1 hx1 (by simp)
  have hl2 : ∀ b, fpS p f L b → b < nx := fun b hb => B.sh.fp_lt hb
  obtain ⟨la, lc, hlv⟩ := sl.form
  have hI : RdI N lo H0 room p v ss own k ss.length [(5, .pointer (some ⟨p, 0, none⟩)), (9, v), (10, .int .i64 0)] H1 nx1 0 f L :=
    ⟨by omega, by omega, rfl, sh1, B.low, by have := t.le; omega, t.kp.trans (U := fun _ => False) hk1 t.le (fun _ _ e => e) (fun _ _ e => e), B.fi, r, sl, fun b hb e => by have := hl2 b hb; omega, by simp, fun a ha => hss.mem_iff.2 (List.mem_map.2 ⟨a, ha, rfl⟩)⟩
  rw [hlv] at hI ⊢
  simp (disch := omega) only [go_sem, ↓reduceIte ]
  exact rdm_loop (by omega) hsl hI fun _ _ _ _ _ hI => rdm_tail (by omega) hsl hI
end Go.Proofs.Ytcdimjocdpogjaa
end
section
namespace Go.Proofs.Ytcdimjocdpogjaa
open Go.RowKit
set_option linter.unusedSimpArgs false

def fsNew (room : Int) : Fs := ⟨[], [], [], room, -1, false, 0, []⟩
theorem fsNew_in {room : Int} (h : -1000000000 ≤ room ∧ room ≤ 1000000000) : FsIn (fsNew room) 0 :=
  ⟨by simp [fsNew], by simp [fsNew], by simp [fsNew], by simp [fsNew], by simp [fsNew], by simp [totF, fsNew], h.1, h.2, fun x hx => by simp [fsNew] at hx, by simp [fsNew], by simp [fsNew], by simp [fsNew], by simp [fsNew]⟩
theorem fsNew_room (room : Nat) : RoomIn room (fsNew room) := ⟨rfl, rfl, rfl, by simp [usedF, usedIds, fsNew, sumD], by simp [fsNew]⟩

set_option maxHeartbeats 4000000 in
set_option maxRecDepth 20000 in
theorem shelfRoom_c {lo : Nat} {H : AH} {nx : Nat} {room : Nat} {va : Value} {acts : List Ac5} {own : Nat} (hr : room < 256) (hac : SlA nx H 5 va acts.length (acts.flatMap Ac5.cells) own) (hok : ∀ a ∈ acts, Ac5Ok nx H a) :
    ACalls Try.prog lo 7 #[.int .u8 room, va] H nx (fun v H' nx' => v = .bool true ∧ nx ≤ nx' ∧ Kp (fun _ => False) nx H H') := by
  refine ACalls.withLo fun hlo => ?_
  refine acalls_of_awp L7 Try.func7 rfl (by kernel_rfl) ?_
  obtain ⟨aa, ac, hva⟩ := hac.form
  by_cases hl : 60 < acts.length
  · rw [hva]
    simp (disch := omega) only [go_sem, ↓reduceIte ]
    refine awake05_c.mono fun v H1 nx1 _ ⟨hv, hx1, hk1⟩ => ?_
    subst hv
    simp (disch := omega) only [go_sem, ↓reduceIte ]
    refine awake05_c.mono fun v H2 nx2 _ ⟨hv, hx2, hk2⟩ => ?_
    subst hv
    simp (disch := omega) only [go_sem, ↓reduceIte ]
    exact ⟨by omega, (by repeat first | exact Kp.refl _ _ _ | refine Kp.dropT ?_ (.inl (by omega)) | refine Kp.put ?_ (.inl (by omega)) | refine Kp.new ?_ (by omega) | refine Kp.put ?_ (.inr (by omega)) | refine Kp.newO ?_ (by omega) | refine Kp.setO ?_ (.inl (by omega)) | refine Kp.setO ?_ (.inr (by omega)) | refine Kp.trans0 ?_ (by assumption) (by omega) | refine Kp.transS ?_ (by assumption) (by omega) (fun b hb hT => by first | omega | (dsimp only at hT ⊢; omega) | (simp only at hT ⊢; omega))) ⟩
  · rw [hva]
    simp (disch := omega) only [go_sem, ↓reduceIte ]
    refine awake05_c.mono fun v H1 nx1 _ ⟨hv, hx1, hk1⟩ => ?_
    subst hv
    simp (disch := omega) only [go_sem, ↓reduceIte , decide_false]
    refine (shNew_c room).mono fun v H2 nx2 _ ⟨hx2, hk2, p, L, hv, sh, hfp⟩ => ?_
    subst hv
    simp (disch := omega) only [go_sem, ↓reduceIte ]
    refine (new05_c room).mono fun v H3 nx3 _ ⟨hx3, hk3, R, hv, ra, ro, hfr⟩ => ?_
    subst hv
    have g1 := ra.sL.one
    have g2 := ra.sN.one
    have g3 := ra.sW.one
    unfold Rf.val shV
    simp (disch := omega) only [go_sem, ↓reduceIte , g1, g2, g3]
    intro z hz
    simp (disch := omega) only [go_sem, ↓reduceIte , g1, g2, g3]
    have hkz : Kp (fun _ => False) nx3 H3 ((((((((H3.new z #[.slice none 0 0, .slice none 0 0, .slice none 0 0, .int .i64 0, .int .i64 0, .bool false, .int .i64 0] 47).put z 0 R.vL).put z 1 R.now.v).put z (1 + 1) R.vW).put z (1 + 1 + 1) (.int .i64 R.room)).put z (1 + 1 + 1 + 1) (.int .i64 R.left)).put z (1 + 1 + 1 + 1 + 1) (.bool R.off)).put z (1 + 1 + 1 + 1 + 1 + 1) (.int .i64 R.done)) := (by repeat first | exact Kp.refl _ _ _ | refine Kp.dropT ?_ (.inl (by omega)) | refine Kp.put ?_ (.inl (by omega)) | refine Kp.new ?_ (by omega) | refine Kp.put ?_ (.inr (by omega)) | refine Kp.newO ?_ (by omega) | refine Kp.setO ?_ (.inl (by omega)) | refine Kp.setO ?_ (.inr (by omega)) | refine Kp.trans0 ?_ (by assumption) (by omega) | refine Kp.transS ?_ (by assumption) (by omega) (fun b hb hT => by first | omega | (dsimp only at hT ⊢; omega) | (simp only at hT ⊢; omega))) 
    have hkn : Kp (fun _ => False) nx H ((((((((H3.new z #[.slice none 0 0, .slice none 0 0, .slice none 0 0, .int .i64 0, .int .i64 0, .bool false, .int .i64 0] 47).put z 0 R.vL).put z 1 R.now.v).put z (1 + 1) R.vW).put z (1 + 1 + 1) (.int .i64 R.room)).put z (1 + 1 + 1 + 1) (.int .i64 R.left)).put z (1 + 1 + 1 + 1 + 1) (.bool R.off)).put z (1 + 1 + 1 + 1 + 1 + 1) (.int .i64 R.done)) := ((hk1.trans (U := fun _ => False) hk2 (by omega) (fun _ _ h => h) (fun _ _ h => h)).trans (U := fun _ => False) hk3 (by omega) (fun _ _ h => h) (fun _ _ h => h)).trans (U := fun _ => False) hkz (by omega) (fun _ _ h => h) (fun _ _ h => h)
    have hl1 : ∀ b, fpS p (fsNew room) L b → b < nx2 := fun b hb => sh.fp_lt hb
    have hl2 : ∀ b, fpR R b → b < nx3 := fun b hb => ra.fp_lt hb
    have hI : RoI nx lo H room va acts p z acts.length [(0, .int .u8 room), (1, va), (5, .pointer (some ⟨p, 0, none⟩)), (6, .pointer (some ⟨z, 0, none⟩)), (7, .int .i64 0)] _ (z + 1) 0 (fsNew room) L R 0 :=
      ⟨by omega, by omega, by omega, rfl, ⟨⟨(sh.kp hk3 hx3 (by simp)).kp hkz (by omega) (by simp), fun b hb => by have := hfp b hb; omega, ra.kp hkz (by omega) (by simp), ro, fsNew_in (by omega), fun b h1 h2 => by have := hl1 b h2; have := hfr b h1; omega⟩, by omega, hkn, by simp (disch := omega) only [go_sem, ↓reduceIte ], by simp (disch := omega) only [go_sem, ↓reduceIte ], by simp (disch := omega) only [go_sem, ↓reduceIte ], by simp (disch := omega) only [go_sem, ↓reduceIte ], by simp (disch := omega) only [go_sem, ↓reduceIte ], by simp (disch := omega) only [go_sem, ↓reduceIte ], by simp (disch := omega) only [go_sem, ↓reduceIte ], fun e => by have := hl1 z e; omega, fun e => by have := hl2 z e; omega, by omega, by omega⟩, fsNew_room room⟩
    rw [hva] at hI hac
    exact rom_loop (post := fun v H' nx' => v = .bool true ∧ nx ≤ nx' ∧ Kp (fun _ => False) nx H H') hlo hr hac (by omega) hok hI (fun _ _ h1 h2 => ⟨rfl, h1, h2⟩) (fun _ _ _ _ _ _ _ hI => rom_tail (by omega) hI)
end Go.Proofs.Ytcdimjocdpogjaa
end
