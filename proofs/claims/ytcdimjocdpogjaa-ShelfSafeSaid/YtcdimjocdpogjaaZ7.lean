/- Shelf: Append, Sync, Cut, Names, Rename, Delete. -/
import Derived.Test.YtcdimjocdpogjaaZ6
import Derived.Test.YtcdimjocdpogjaaL26
namespace Go.Proofs.Ytcdimjocdpogjaa
open Go.RowKit
set_option linter.unusedSimpArgs false

theorem AfterL.setB {lo nx nx' : Nat} {H H' : AH} {p : Nat} {f : Fs} {L : Lay} (h : ShA lo nx H p f L) {i : Nat} {b0 : List Int} {s0 : Int} (hi : (i, b0, s0) ∈ f.bk) (hk : Kp (fun b => b = i ∨ b + 1 = L.own i) nx H H') (hn : nx ≤ nx') {v : Value} {own : Nat} {bs : List Int} {s : Int} (ht : H'.t i = H.t i) (hc0 : H'.c i 0 = some v) (hc1 : H'.c i 1 = some (.int .i64 s))
    (hs : SlA nx' H' 1 v bs.length (bytV bs) own) (ho : own = L.own i ∨ own = 0 ∨ nx < own) : AfterL lo nx H p f L { f with bk := updB i bs s f.bk } { L with own := fun j => if j = i then own else L.own j } H' nx' :=
  ⟨hn, Kp.mono hk (Nat.le_refl _) (fun b _ e => by
    rcases e with rfl | e
    · exact fp_bk (q := (_, b0, s0)) hi
    · exact fp_ow (q := (i, b0, s0)) hi e), h.setB hi hk hn ht hc0 hc1 hs ho, h.fpA (h.anewOw (i := i) hn ⟨_, hi, rfl⟩ (by have := hs.le; omega) (updB_fst i bs s f.bk))⟩

/-- A file's bytes. -/
def modB (g : List Int → Int → List Int × Int) (i : Nat) (bk : List (Nat × List Int × Int)) : List (Nat × List Int × Int) := bk.map fun r => if r.1 = i then (i, g r.2.1 r.2.2) else r
theorem modB_eq {g : List Int → Int → List Int × Int} {i : Nat} {bk : List (Nat × List Int × Int)} (hu : UqA bk) {b0 : List Int} {s0 : Int} (h : (i, b0, s0) ∈ bk) : modB g i bk = updB i (g b0 s0).1 (g b0 s0).2 bk := by
  unfold modB updB
  refine List.map_congr_left fun r hr => ?_
  split
  · rename_i e
    have h1 := mem_getA hu h
    have h2 : getA r.1 bk = some r.2 := mem_getA hu hr
    rw [e, h1] at h2
    simp only [Option.some.injEq] at h2
    rw [← h2]
  · rfl
theorem tot_ge {bk : List (Nat × List Int × Int)} {q : Nat × List Int × Int} (h : q ∈ bk) : q.2.1.length ≤ (bk.map fun q => q.2.1.length).sum := by
  induction bk with
  | nil => simp at h
  | cons r bk ih =>
    simp only [List.map_cons, List.sum_cons]
    rcases List.mem_cons.1 h with rfl | h
    · omega
    · have := ih h; omega

def appendR (f : Fs) (name : ByteArray) (q : List Int) : Int × Fs :=
  if (actR f).1 = true then
    match getA name f.now with
    | none => (2, (actR f).2)
    | some i => if f.room - usedF f < q.length then (3, (actR f).2) else (0, { (actR f).2 with bk := modB (fun bs s => (bs ++ q, s)) i f.bk })
  else (7, (actR f).2)
theorem usedF_act (f : Fs) : usedF (actR f).2 = usedF f := by
  unfold usedF usedIds
  rw [actR_bk, actR_old, actR_moves]
theorem totF_act (f : Fs) : totF (actR f).2 = totF f := by
  unfold totF
  rw [actR_bk]

/-- What is asked of a shelf, more. -/
structure FsBig (f : Fs) : Prop extends FsOk f where
  tot : totF f ≤ 1000000000
  r0 : -1000000000 ≤ f.room
  r1 : f.room ≤ 1000000000

set_option maxHeartbeats 4000000 in
set_option maxRecDepth 20000 in
theorem shAppend_c {lo nx : Nat} {H : AH} {p : Nat} {f : Fs} {L : Lay} (h : ShA lo nx H p f L) (hf : FsBig f) (name : ByteArray) {pv : Value} {q : List Int} {ownp : Nat} (hq : SlZ nx H 1 pv q.length (bytV q) ownp) (hql : q.length ≤ 1000000) (hqf : ∀ b, b + 1 = ownp → ¬ fpS p f L b) :
    ACalls Try.prog lo 11 #[.pointer (some ⟨p, 0, none⟩), .string name, pv] H nx (fun v H' nx' => v = .int .i64 (appendR f name q).1 ∧ After lo nx H p f L (appendR f name q).2 H' nx') := by
  refine ACalls.withLo fun hlo => ?_
  refine acalls_of_awp L11 Try.func11 rfl (by kernel_rfl) ?_
  obtain ⟨pa, pc, rfl⟩ := hq.form
  simp (disch := omega) only [go_sem, ↓reduceIte ]
  refine (act_c h ⟨hf.l0, hf.l1⟩ ⟨hf.d0, by have := hf.d1; omega⟩).mono fun v H2 nx2 _ ⟨hx2, hv, a2⟩ => ?_
  subst hv; subst hx2
  unfold appendR
  cases ha : (actR f).1 with
  | false =>
    simp (disch := omega) only [go_sem, ↓reduceIte , ha]
    exact ⟨L, a2⟩
  | true =>
    have c0 := a2.sh.c0
    have c3 := a2.sh.c3
    have hlk := look_sh a2.sh.on name
    rw [actR_now] at hlk
    rw [actR_room] at c3
    unfold bkV at hlk
    cases hg : getA name f.now with
    | none =>
      rw [hg] at hlk
      simp (disch := omega) only [go_sem, ↓reduceIte , ha, c0, hlk]
      exact ⟨L, a2⟩
    | some i =>
      rw [hg] at hlk
      simp (disch := omega) only [go_sem, ↓reduceIte , ha, c0, hlk]
      refine awp_draw ord11x7 (by kernel_rfl) ?_
      simp (disch := omega) only [go_sem, ↓reduceIte , ord11x7, c3]
      refine (shUsed_c a2.sh (by rw [totF_act]; exact hf.tot) (by rw [actR_moves]; exact hf.mvs)).mono fun v H3 nx3 _ ⟨hv, hx3, hk3⟩ => ?_
      subst hv
      rw [usedF_act]
      have hr0 := hf.r0
      have hr1 := hf.r1
      have hus : usedF f ≤ 1000000000 := Nat.le_trans (sumD_le _ _) hf.tot
      have a3 := a2.trans (AfterL.still a2.sh hk3 hx3)
      by_cases hfull : f.room - usedF f < q.length
      · simp (disch := omega) only [go_sem, ↓reduceIte , hfull]
        exact ⟨dkeep_kp hk3, L, a3⟩
      · obtain ⟨⟨i0, b0, s0⟩, hq0, e0⟩ := h.now1 _ (getA_mem hg)
        simp only at e0
        subst e0
        have hmem : (i0, b0, s0) ∈ (actR f).2.bk := by rw [actR_bk]; exact hq0
        obtain ⟨ht, ⟨bv, hbv, hbs⟩, hb1⟩ := a3.sh.bk _ hmem
        obtain ⟨r1, r2, r3, r4, r5, r6, r7, r8, r9⟩ := a3.sh.ltb hmem
        simp only at ht hbv hbs hb1 r1 r2 r3 r4 r5 r6 r7 r8 r9
        obtain ⟨ba, bc, rfl⟩ := hbs.form
        have hqS : SlZ nx3 H3 1 (.slice pa q.length pc) q.length (bytV q) ownp := hq.kp a3.kp a3.le hqf
        have hb0 : b0.length ≤ 1000000000 := Nat.le_trans (tot_ge hq0) hf.tot
        simp (disch := omega) only [go_sem, ↓reduceIte , hfull, hbv]
        refine ⟨dkeep_kp hk3, appendQ_two (aw_append sl22 zero5 rfl by5 hbs (hqS.src sl22 bytV_one) (by simp only [maxLen]; omega) (by omega) (by omega) fun v7 H7 nx7 own7 hn7 hs7 ho7 hk7 _ => ?_)⟩
        have hone7 := hs7.one
        have d0 : H7.c i0 0 = some (.slice ba b0.length bc) := by rw [(hk7 i0 r2 (by omega)).1]; exact hbv
        have d1 : H7.c i0 1 = some (.int .i64 s0) := by rw [(hk7 i0 r2 (by omega)).1]; exact hb1
        simp (disch := omega) only [go_sem, ↓reduceIte , hone7, d0]
        have a4 := a3.trans (AfterL.setB (H' := H7.put i0 0 v7) (nx' := nx7) (v := v7) (own := own7) (bs := b0 ++ q) (s := s0) a3.sh hmem (by repeat first | exact Kp.refl _ _ _ | refine Kp.dropT ?_ (.inl (by omega)) | refine Kp.put ?_ (.inl (by omega)) | refine Kp.new ?_ (by omega) | refine Kp.put ?_ (.inr (by omega)) | refine Kp.newO ?_ (by omega) | refine Kp.setO ?_ (.inl (by omega)) | refine Kp.setO ?_ (.inr (by omega)) | refine Kp.trans0 ?_ (by assumption) (by omega) | refine Kp.transS ?_ (by assumption) (by omega) (fun b hb hT => by first | omega | (dsimp only at hT ⊢; omega) | (simp only at hT ⊢; omega)))  hn7 (by rw [put_t, (hk7 i0 r2 (by omega)).2.2]) (put_same _ _ _) (by rw [put_other _ _ _ _ _ (by omega)]; exact d1) (by rw [List.length_append, bytV_append]; exact hs7.put (by omega)) (by omega))
        rw [actR_bk] at a4
        rw [modB_eq h.uq hq0]
        exact ⟨_, a4⟩

def fileR (g : List Int → Int → List Int × Int) (ok : List Int → Bool) (f : Fs) (name : ByteArray) : Int × Fs :=
  if (actR f).1 = true then
    match getA name f.now with
    | none => (2, (actR f).2)
    | some i => if (getA i f.bk).any (fun x => ok x.1) = true then (0, { (actR f).2 with bk := modB g i f.bk }) else (1, (actR f).2)
  else (7, (actR f).2)
def syncR (f : Fs) (name : ByteArray) : Int × Fs := fileR (fun bs _ => (bs, bs.length)) (fun _ => true) f name
def cutR (f : Fs) (name : ByteArray) (n : Int) : Int × Fs := fileR (fun bs _ => (bs.take n.toNat, n)) (fun bs => decide (0 ≤ n) && decide (n ≤ bs.length)) f name

set_option maxHeartbeats 4000000 in
set_option maxRecDepth 20000 in
theorem shSync_c {lo nx : Nat} {H : AH} {p : Nat} {f : Fs} {L : Lay} (h : ShA lo nx H p f L) (hf : FsBig f) (name : ByteArray) :
    ACalls Try.prog lo 12 #[.pointer (some ⟨p, 0, none⟩), .string name] H nx (fun v H' nx' => v = .int .i64 (syncR f name).1 ∧ After lo nx H p f L (syncR f name).2 H' nx') := by
  refine ACalls.withLo fun hlo => ?_
  refine acalls_of_awp L12 Try.func12 rfl (by kernel_rfl) ?_
  simp (disch := omega) only [go_sem, ↓reduceIte ]
  refine (act_c h ⟨hf.l0, hf.l1⟩ ⟨hf.d0, by have := hf.d1; omega⟩).mono fun v H2 nx2 _ ⟨hx2, hv, a2⟩ => ?_
  subst hv; subst hx2
  unfold syncR fileR
  cases ha : (actR f).1 with
  | false =>
    simp (disch := omega) only [go_sem, ↓reduceIte , ha]
    exact ⟨L, a2⟩
  | true =>
    have c0 := a2.sh.c0
    have hlk := look_sh a2.sh.on name
    rw [actR_now] at hlk
    unfold bkV at hlk
    cases hg : getA name f.now with
    | none =>
      rw [hg] at hlk
      simp (disch := omega) only [go_sem, ↓reduceIte , ha, c0, hlk]
      exact ⟨L, a2⟩
    | some i =>
      rw [hg] at hlk
      obtain ⟨⟨i0, b0, s0⟩, hq0, e0⟩ := h.now1 _ (getA_mem hg)
      simp only at e0
      subst e0
      have hmem : (i0, b0, s0) ∈ (actR f).2.bk := by rw [actR_bk]; exact hq0
      obtain ⟨ht, ⟨bv, hbv, hbs⟩, hb1⟩ := a2.sh.bk _ hmem
      obtain ⟨r1, r2, r3, r4, r5, r6, r7, r8, r9⟩ := a2.sh.ltb hmem
      simp only at ht hbv hbs hb1 r1 r2 r3 r4 r5 r6 r7 r8 r9
      obtain ⟨ba, bc, rfl⟩ := hbs.form
      have hgb : getA i0 f.bk = some (b0, s0) := mem_getA h.uq hq0
      simp (disch := omega) only [go_sem, ↓reduceIte , ha, c0, hlk, hbv, hb1, hgb, Option.any_some]
      have a3 := a2.trans (AfterL.setB (H' := H2.put i0 1 (.int .i64 b0.length)) (nx' := nx2) (v := .slice ba b0.length bc) (own := L.own i0) (bs := b0) (s := b0.length) a2.sh hmem (by repeat first | exact Kp.refl _ _ _ | refine Kp.dropT ?_ (.inl (by omega)) | refine Kp.put ?_ (.inl (by omega)) | refine Kp.new ?_ (by omega) | refine Kp.put ?_ (.inr (by omega)) | refine Kp.newO ?_ (by omega) | refine Kp.setO ?_ (.inl (by omega)) | refine Kp.setO ?_ (.inr (by omega)) | refine Kp.trans0 ?_ (by assumption) (by omega) | refine Kp.transS ?_ (by assumption) (by omega) (fun b hb hT => by first | omega | (dsimp only at hT ⊢; omega) | (simp only at hT ⊢; omega)))  (Nat.le_refl _) (by rw [put_t]) (by rw [put_other _ _ _ _ _ (by omega)]; exact hbv) (put_same _ _ _) (hbs.put (by omega)) (by omega))
      rw [actR_bk] at a3
      rw [modB_eq h.uq hq0]
      exact ⟨_, a3⟩

/-! ### Cut -/
set_option maxHeartbeats 4000000 in
set_option maxRecDepth 20000 in
theorem shCut_c {lo nx : Nat} {H : AH} {p : Nat} {f : Fs} {L : Lay} (h : ShA lo nx H p f L) (hf : FsBig f) (name : ByteArray) (n : Int) :
    ACalls Try.prog lo 45 #[.pointer (some ⟨p, 0, none⟩), .string name, .int .i64 n] H nx (fun v H' nx' => v = .int .i64 (cutR f name n).1 ∧ After lo nx H p f L (cutR f name n).2 H' nx') := by
  refine ACalls.withLo fun hlo => ?_
  refine acalls_of_awp L45 Try.func45 rfl (by kernel_rfl) ?_
  simp (disch := omega) only [go_sem, ↓reduceIte ]
  refine (act_c h ⟨hf.l0, hf.l1⟩ ⟨hf.d0, by have := hf.d1; omega⟩).mono fun v H2 nx2 _ ⟨hx2, hv, a2⟩ => ?_
  subst hv; subst hx2
  unfold cutR fileR
  cases ha : (actR f).1 with
  | false =>
    simp (disch := omega) only [go_sem, ↓reduceIte , ha]
    exact ⟨L, a2⟩
  | true =>
    have c0 := a2.sh.c0
    have hlk := look_sh a2.sh.on name
    rw [actR_now] at hlk
    unfold bkV at hlk
    cases hg : getA name f.now with
    | none =>
      rw [hg] at hlk
      simp (disch := omega) only [go_sem, ↓reduceIte , ha, c0, hlk]
      exact ⟨L, a2⟩
    | some i =>
      rw [hg] at hlk
      obtain ⟨⟨i0, b0, s0⟩, hq0, e0⟩ := h.now1 _ (getA_mem hg)
      simp only at e0
      subst e0
      have hmem : (i0, b0, s0) ∈ (actR f).2.bk := by rw [actR_bk]; exact hq0
      obtain ⟨ht, ⟨bv, hbv, hbs⟩, hb1⟩ := a2.sh.bk _ hmem
      obtain ⟨r1, r2, r3, r4, r5, r6, r7, r8, r9⟩ := a2.sh.ltb hmem
      simp only at ht hbv hbs hb1 r1 r2 r3 r4 r5 r6 r7 r8 r9
      obtain ⟨ba, bc, rfl⟩ := hbs.form
      have hgb : getA i0 f.bk = some (b0, s0) := mem_getA h.uq hq0
      by_cases hn0 : 0 ≤ n
      · by_cases hn1 : n ≤ b0.length
        · have hbc : b0.length ≤ bc := by
            rcases hbs.2.2 with ⟨e, _, _⟩ | ⟨_, _, _, e, _, h, _⟩
            · simp only [Value.slice.injEq] at e; omega
            · simp only [Value.slice.injEq] at e; omega
          have hsv := slice_hm (H := H2) (n := b0.length) (c := bc) (a := ba) (kh := .i64) (km := .i64) sl22 hn0 (Int.le_refl n) (by omega)
          have hcut := hbs.cut (l := 0) (h := n.toNat) (m := n.toNat) (by omega) (by omega) (by omega) (by omega)
          generalize hcv : cutS ba 1 n.toNat 0 n.toNat = cv at hsv hcut
          have hcl : ((bytV b0).drop (0 * 1)).take ((n.toNat - 0) * 1) = bytV (b0.take n.toNat) := by simp [bytV, List.map_take]
          rw [hcl] at hcut
          have hone := hcut.one
          simp (disch := omega) only [go_sem, ↓reduceIte , ha, c0, hlk, hbv, hb1, hgb, hn0, hn1, hsv, hone, Option.any_some, decide_true, Bool.and_true]
          have hlen : (b0.take n.toNat).length = n.toNat - 0 := by rw [List.length_take]; omega
          have a3 := a2.trans (AfterL.setB (H' := (H2.put i0 0 cv).put i0 1 (.int .i64 n)) (nx' := nx2) (v := cv) (own := L.own i0) (bs := b0.take n.toNat) (s := n) a2.sh hmem (by repeat first | exact Kp.refl _ _ _ | refine Kp.dropT ?_ (.inl (by omega)) | refine Kp.put ?_ (.inl (by omega)) | refine Kp.new ?_ (by omega) | refine Kp.put ?_ (.inr (by omega)) | refine Kp.newO ?_ (by omega) | refine Kp.setO ?_ (.inl (by omega)) | refine Kp.setO ?_ (.inr (by omega)) | refine Kp.trans0 ?_ (by assumption) (by omega) | refine Kp.transS ?_ (by assumption) (by omega) (fun b hb hT => by first | omega | (dsimp only at hT ⊢; omega) | (simp only at hT ⊢; omega)))  (Nat.le_refl _) (by rw [put_t, put_t]) (by rw [put_other _ _ _ _ _ (by omega), put_same]) (put_same _ _ _) (by rw [hlen]; exact (hcut.put (by omega)).put (by omega)) (by omega))
          rw [actR_bk] at a3
          rw [modB_eq h.uq hq0]
          exact ⟨_, a3⟩
        · simp (disch := omega) only [go_sem, ↓reduceIte , ha, c0, hlk, hbv, hb1, hgb, hn0, hn1, Option.any_some, decide_true, decide_false, Bool.and_false]
          exact ⟨L, a2⟩
      · simp (disch := omega) only [go_sem, ↓reduceIte , ha, c0, hlk, hgb, hn0, Option.any_some, decide_false, Bool.false_and]
        exact ⟨L, a2⟩

/-! ### Names, Delete, Rename -/
theorem eqmSh (H : AH) (x y : Operand) (m : Option Nat) : binV Try.prog H .eql 55 x y (.map m) (.map none) = some (.bool m.isNone) := eq_mapnil mapSh
theorem extSh : fnOk Try.prog 48 = false := by kernel_rfl
set_option maxRecDepth 20000 in
theorem clone_sh {lo nx m : Nat} {H : AH} {ob : Obj} {l : List (ByteArray × Nat)} (hm : H.o m = some ob) (hM : MapA ekS evB ob l) :
    ACalls Try.prog lo 31 #[.map (some m)] H nx (fun v H' nx' => ∃ n, nx ≤ n ∧ v = .map (some n) ∧ H' = H.newO n ob ∧ nx' = n + 1) := by
  refine acalls_of_awp L31 Try.func31 rfl (by kernel_rfl) ?_
  simp (disch := omega) only [go_sem, ↓reduceIte , eqmSh]
  refine mkIQ_map mapSh ?_
  simp (disch := omega) only [go_sem, ↓reduceIte , extSh]
  refine clone_map Try.func48 (by kernel_rfl) (by kernel_rfl) (by kernel_rfl) (by kernel_rfl) hm (by obtain ⟨es, clk, e, _⟩ := hM.entries; exact ⟨es, clk, e⟩) fun r hr => ?_
  simp (disch := omega) only [go_sem, ↓reduceIte ]
  refine tAssQ_map mapSh ?_
  simp (disch := omega) only [go_sem, ↓reduceIte ]
  exact ⟨r, hr, rfl, rfl, rfl⟩
end Go.Proofs.Ytcdimjocdpogjaa
