/- Engine: Hear, its loop: in our own logic. -/
import Derived.Test.YtngnbafididkcaaGreatN5
namespace Go.Proofs.YtngnbafididkcaaGreat
open Go.RowKit
set_option linter.unusedSimpArgs false

/-- What a part does. -/
def partE (rq : Eng → Prt → Eng) (fr now : Int) (e : Eng) (x : Prt) : Eng :=
  if x.kind = 1 then (match getA fr e.lk with | some l => { e with lk := setA fr (helloL l x.n now) e.lk } | none => e)
  else if x.kind = 2 then (if x.node = e.id then (match getA fr e.lk with | some l => { e with lk := setA fr { l with cost := max x.metric 1, til := now + 20 } e.lk } | none => e) else e)
  else if x.kind = 3 then (if (getA (x.addr, x.len) e.own).isSome = true then e else { e with ts := delK ⟨x.addr, x.len, fr, x.node, x.seq, x.metric, now + 50⟩ e.ts ++ toldR ⟨x.addr, x.len, fr, x.node, x.seq, x.metric, now + 50⟩ })
  else if x.kind = 4 then rq e x else e
structure PtOk (x : Prt) : Prop where
  k0 : 0 ≤ x.kind
  k1 : x.kind ≤ 4
  n0 : 0 ≤ x.n
  n1 : x.n ≤ 1000000
  up : x.kind = 3 → pxRightC x.addr x.len = true ∧ 0 ≤ x.addr ∧ x.addr ≤ 4294967295 ∧ 0 ≤ x.len ∧ x.len ≤ 32 ∧ 0 ≤ x.node ∧ x.node < 16
structure HOk (e : Eng) (k : Nat) : Prop where
  uq : UqT e.ts
  le : e.ts.length ≤ k
  ln : ∀ a ∈ e.lk, 0 ≤ a.2.next ∧ a.2.next ≤ 1000001
theorem delK_len (x : Tld) (l : List Tld) : (delK x l).length ≤ l.length := List.length_filter_le _ _
theorem uq_told {l : List Tld} (h : UqT l) (x : Tld) : UqT (delK x l ++ toldR x) := by
  unfold UqT at *
  rw [List.pairwise_append]
  refine ⟨h.filter _, ?_, fun a ha b hb => ?_⟩
  · unfold toldR; split <;> simp
  · unfold toldR at hb
    split at hb
    · cases hb
    · rw [List.mem_singleton] at hb
      subst hb
      have := (List.mem_filter.1 ha).2
      rw [hitT_symm]
      simpa using this
theorem HOk.part {rq : Eng → Prt → Eng} {fr now : Int} {e : Eng} {x : Prt} {k : Nat} (h : HOk e k) (hx : PtOk x) (hrq : (rq e x).ts = e.ts ∧ (rq e x).lk = e.lk) : HOk (partE rq fr now e x) (k + 1) := by
  unfold partE
  have same : ∀ e' : Eng, e'.ts = e.ts → e'.lk = e.lk → HOk e' (k + 1) := fun e' h1 h2 => ⟨by rw [h1]; exact h.uq, by rw [h1]; have := h.le; omega, by rw [h2]; exact h.ln⟩
  have lk : ∀ (l : Lnk), 0 ≤ l.next ∧ l.next ≤ 1000001 → HOk { e with lk := setA fr l e.lk } (k + 1) := fun l hl => ⟨h.uq, by have := h.le; show e.ts.length ≤ k + 1; omega, fun a ha => by
    rcases mem_setA (show a ∈ setA fr l e.lk from ha) with rfl | ha
    · exact hl
    · exact h.ln a ha⟩
  split
  · cases hg : getA fr e.lk with
    | none => exact same e rfl rfl
    | some l =>
      have := hx.n0; have := hx.n1
      exact lk _ ⟨by show 0 ≤ x.n + 1; omega, by show x.n + 1 ≤ 1000001; omega⟩
  · split
    · split
      · cases hg : getA fr e.lk with
        | none => exact same e rfl rfl
        | some l => exact lk _ (h.ln _ (getA_mem hg))
      · exact same e rfl rfl
    · split
      · split
        · exact same e rfl rfl
        · refine ⟨uq_told h.uq _, ?_, h.ln⟩
          have h1 := delK_len ⟨x.addr, x.len, fr, x.node, x.seq, x.metric, now + 50⟩ e.ts
          have h2 : (toldR ⟨x.addr, x.len, fr, x.node, x.seq, x.metric, now + 50⟩).length ≤ 1 := by unfold toldR; split <;> simp
          have := h.le
          show (delK _ e.ts ++ toldR _).length ≤ k + 1
          rw [List.length_append]
          omega
      · split
        · exact same _ hrq.1 hrq.2
        · exact same e rfl rfl

theorem hok_fold {rq : Eng → Prt → Eng} {fr now : Int} {e1 : Eng} {k : Nat} {ps : List Prt} (hok : HOk e1 k) (hps : ∀ x ∈ ps, PtOk x) (hrq0 : ∀ e x, (rq e x).ts = e.ts ∧ (rq e x).lk = e.lk ∧ (rq e x).id = e.id) (i : Nat) : HOk ((ps.take i).foldl (partE rq fr now) e1) (k + i) := by
  induction i with
  | zero => exact hok
  | succ i ih =>
    by_cases hlt : i < ps.length
    · rw [List.take_succ_eq_append_getElem hlt, List.foldl_append]
      exact ih.part (hps _ (List.getElem_mem hlt)) ⟨(hrq0 _ _).1, (hrq0 _ _).2.1⟩
    · rw [List.take_of_length_le (by omega)]
      rw [List.take_of_length_le (by omega)] at ih
      exact ⟨ih.uq, by have := ih.le; omega, ih.ln⟩

structure HrI (lo nx1 : Nat) (H1 : AH) (p : Nat) (col1 : Nat → Nat) (rq : Eng → Prt → Eng) (fr now : Int) (bx b0 : Nat) (sv : Value) (ps : List Prt) (e1 : Eng) (m : Nat) (env : Env) (H : AH) (nx i : Nat) (y : ELay) (col : Nat → Nat) : Prop where
  hm : m = ps.length - i
  hi : i ≤ ps.length
  henv : env = [(0, .pointer (some ⟨p, 0, none⟩)), (3, .int .u64 now), (5, .pointer (some ⟨bx, 0, none⟩)), (8, .pointer (some ⟨b0, 0, none⟩)), (53, sv), (54, .int .i64 ps.length), (55, .int .i64 i)]
  st : EngS lo nx1 H1 p col1 ((ps.take i).foldl (partE rq fr now) e1) H nx y col
  bl : y.bl fr = b0
  lk : ∃ l, getA fr ((ps.take i).foldl (partE rq fr now) e1).lk = some l

noncomputable def hearLoop : Code := codeAt [.T, .T, .T, .T, .T, .T, .I] ((Tryz.f15.body).getD .skip)
theorem pt_load {nx : Nat} {H : AH} {g off c n own : Nat} {l : List Prt} (hs : SlA nx H 7 (.slice (some ⟨g, off, none⟩) n c) n (ptCells l) own) {i : Nat} {x : Prt} (hi : l[i]? = some x) : loadN H g (off + i * 7) 7 = some x.cells := flat_load prt_len hs hi

set_option maxHeartbeats 4000000 in
set_option maxRecDepth 20000 in
theorem hear_loop {lo nx1 : Nat} {H1 : AH} {p : Nat} {col1 : Nat → Nat} {rq : Eng → Prt → Eng} {fr now : Int} {bx b0 : Nat} {sv : Value} {ps : List Prt} {own : Nat} {e1 : Eng} {k : Nat}
    (hs : SlA nx1 H1 7 sv ps.length (ptCells ps) own) (hso : ∀ b, b + 1 = own → col1 b = 0) (hbx : bx < nx1) (hbx0 : col1 bx = 0) (hc0 : H1.c bx 0 = some (.int .i64 fr)) (hps : ∀ x ∈ ps, PtOk x) (hfr : 0 ≤ fr ∧ fr < 16) (hnow : 0 ≤ now ∧ now ≤ 1000000)
    (hok : HOk e1 k) (hk : k + ps.length < 256) (hpl : ps.length ≤ 1000) (hrq0 : ∀ e x, (rq e x).ts = e.ts ∧ (rq e x).lk = e.lk ∧ (rq e x).id = e.id)
    (hrq : ∀ (e : Eng) (x : Prt) (H : AH) (nx : Nat) (y : ELay) (col : Nat → Nat), x ∈ ps → x.kind = 4 → (∃ i, e = (ps.take i).foldl (partE rq fr now) e1 ∧ ps[i]? = some x) → EngA lo nx H p e y col → ACalls Tryz.prog lo 43 #[.pointer (some ⟨p, 0, none⟩), .agg x.cells.toArray] H nx (fun _ H' nx' => ∃ y' col', y'.bl = y.bl ∧ EngS lo nx H p col (rq e x) H' nx' y' col'))
    {R : Value → AH → Nat → Prop} {env : Env} {y1 : ELay} (h0 : HrI lo nx1 H1 p col1 rq fr now bx b0 sv ps e1 ps.length env H1 nx1 0 y1 col1)
    (hK : ∀ H nx y col, EngS lo nx1 H1 p col1 (ps.foldl (partE rq fr now) e1) H nx y col → R (.tuple #[]) H nx) :
    awp Tryz.prog lo L15 hearLoop (blockQ 0 (retQ Tryz.prog Tryz.f15 R)) env H1 nx1 := by
  have hcode : hearLoop = codeAt [.T, .T, .T, .T, .T, .T, .I] ((Tryz.f15.body).getD .skip) := rfl
  simp only [Tryz.f15, Option.getD_some, codeAt_H, codeAt_T, codeAt_I, codeAt_L, codeAt_C, codeAt_P, codeAt_nil] at hcode
  rw [hcode]
  clear hcode
  refine awp_loop (fun m env H nx => ∃ i y col, HrI lo nx1 H1 p col1 rq fr now bx b0 sv ps e1 m env H nx i y col) ps.length ⟨0, y1, col1, h0⟩ (fun m env H nx ⟨i, y, col, hI⟩ hn => ?_)
  obtain ⟨hm, hi, henv, st, hbl, l, hl⟩ := hI
  subst henv
  obtain ⟨aa, ac, rfl⟩ := hs.form
  by_cases hlt : i < ps.length
  · obtain ⟨g, off, cap, hv, hgo⟩ := hs.open (by omega)
    simp only [Value.slice.injEq, true_and] at hv
    obtain ⟨rfl, rfl⟩ := hv
    have hA := st.a
    have hsn := hs.kp st.kp st.le (fun b hb => by rw [hso b hb]; simp)
    have hx0 : ps[i]? = some ps[i] := List.getElem?_eq_getElem hlt
    have hld := pt_load hsn hx0
    have htk : ps.take (i + 1) = ps.take i ++ [ps[i]] := by rw [List.take_succ_eq_append_getElem hlt]
    have hpx := hps ps[i] (List.getElem_mem hlt)
    generalize ps[i] = x at hld hx0 htk hpx
    unfold Prt.cells at hld
    have hgle := hs.le
    have bx0 : H.c bx 0 = some (.int .i64 fr) := by rw [st.kp.cell bx 0 hbx (by rw [hbx0]; simp)]; exact hc0
    generalize hei : (ps.take i).foldl (partE rq fr now) e1 = ei at st hA hl
    have hnx : nx1 ≤ nx := st.le
    have hmem := getA_mem hl
    have hb9 := hA.k.kb _ hmem
    simp only at hb9
    rw [hbl] at hb9
    have hb0 := hA.k.lt hb9 (by omega)
    have hokI : HOk ei (k + i) := by
      rw [← hei]
      exact hok_fold hok hps hrq0 i
    have hln := hA.lk.ln _ hmem
    simp only at hln
    rw [hbl] at hln
    have hlb := hokI.ln _ hmem
    simp only at hlb
    have fin : ∀ (H' : AH) (nx' : Nat) (y' : ELay) (col' : Nat → Nat), EngS lo nx H p col (partE rq fr now ei x) H' nx' y' col' → y'.bl fr = b0 → (∃ l, getA fr (partE rq fr now ei x).lk = some l) →
        ∃ m', m' < m ∧ ∃ j y col, HrI lo nx1 H1 p col1 rq fr now bx b0 (.slice (some ⟨g, off, none⟩) ps.length ac) ps e1 m' [(0, .pointer (some ⟨p, 0, none⟩)), (3, .int .u64 now), (5, .pointer (some ⟨bx, 0, none⟩)), (8, .pointer (some ⟨b0, 0, none⟩)), (53, .slice (some ⟨g, off, none⟩) ps.length ac), (54, .int .i64 ps.length), (55, .int .i64 (i + 1 : Nat))] H' nx' j y col := fun H' nx' y' col' s' hb' hl' => by
      have hf : (ps.take (i + 1)).foldl (partE rq fr now) e1 = partE rq fr now ei x := by rw [htk, List.foldl_append, hei]; rfl
      exact ⟨ps.length - (i + 1), by omega, i + 1, y', col', ⟨rfl, by omega, rfl, by rw [hf]; exact st.trans s', hb', by rw [hf]; exact hl'⟩⟩
    have hcast : ((i : Int) + 1) = ((i + 1 : Nat) : Int) := by omega
    simp (disch := omega) only [go_sem, ↓reduceIte , hld]
    intro d hd
    have kd : Kp (fun _ => False) nx H (((((((H.new d #[.int .u8 0, .int .u64 0, .int .i64 0, .int .u32 0, .int .u8 0, .int .u16 0, .int .u16 0] 32).put d 0 (.int .u8 x.kind)).put d 1 (.int .u64 x.n)).put d (1 + 1) (.int .i64 x.node)).put d (1 + 1 + 1) (.int .u32 x.addr)).put d (1 + 1 + 1 + 1) (.int .u8 x.len)).put d (1 + 1 + 1 + 1 + 1) (.int .u16 x.seq) |>.put d (1 + 1 + 1 + 1 + 1 + 1) (.int .u16 x.metric)) := (by repeat first | exact Kp.refl _ _ _ | refine Kp.dropT ?_ (.inl (by omega)) | refine Kp.put ?_ (.inl (by omega)) | refine Kp.new ?_ (by omega) | refine Kp.put ?_ (.inr (by omega)) | refine Kp.newO ?_ (by omega) | refine Kp.setO ?_ (.inl (by omega)) | refine Kp.setO ?_ (.inr (by omega)) | refine Kp.trans0 ?_ (by assumption) (by omega) | refine Kp.transS ?_ (by assumption) (by omega) (fun b hb hT => by first | omega | (dsimp only at hT ⊢; omega) | (simp only at hT ⊢; omega))) 
    have sd := (EngS.refl hA).still kd (show nx ≤ d + 1 by omega)
    have lnd := hln.kp kd hb0.2 (by simp)
    by_cases h1 : x.kind = 1
    · have e1 : partE rq fr now ei x = { ei with lk := setA fr (helloL l x.n now) ei.lk } := by unfold partE; rw [if_pos h1, hl]
      have := hpx.n0; have := hpx.n1
      simp (disch := omega) only [go_sem, ↓reduceIte , hcast]
      refine (lhello_c lnd ⟨hb0.1, by omega⟩ x.n now (by omega) (by omega) (by omega) (by omega) (by omega) (by omega)).mono fun v H2 nx2 _ ⟨hv, hx2, hk2, hl2⟩ => ?_
      subst hv; subst hx2
      simp (disch := omega) only [go_sem, ↓reduceIte , hcast]
      refine fin _ _ y col ⟨by omega, kd.trans (U := fun b => col b ≠ 0) hk2 (by omega) (fun _ _ h => h.elim) (fun b hb h => by rw [h, hb9]; omega), by rw [e1]; exact sd.a.setLk hl (by rw [hbl]; exact hk2) (by rw [hbl]; exact hl2), fun b hb => .inl hb⟩ hbl ⟨helloL l x.n now, ?_⟩
      rw [e1]
      show getA fr (setA fr _ ei.lk) = _
      rw [getA_set, if_pos rfl]
    by_cases h2 : x.kind = 2
    · have cid := sd.a.c.c0
      simp (disch := omega) only [go_sem, ↓reduceIte , hcast]
      refine awp_draw ord15x14 (by kernel_rfl) ?_
      have cid0 := hA.c.c0
      have hpn := (hA.k.lt hA.k.kp (by omega)).2
      by_cases h3 : x.node = ei.id
      · have e1 : partE rq fr now ei x = { ei with lk := setA fr { l with cost := max x.metric 1, til := now + 20 } ei.lk } := by unfold partE; rw [if_neg h1, if_pos h2, if_pos h3, hl]
        simp (disch := omega) only [go_sem, ↓reduceIte , ord15x14, cid0, hcast]
        refine (lheard_c lnd ⟨hb0.1, by omega⟩ x.metric now (by omega) (by omega)).mono fun v H2 nx2 _ ⟨hv, hx2, hk2, hl2⟩ => ?_
        subst hv; subst hx2
        simp (disch := omega) only [go_sem, ↓reduceIte , hcast]
        refine fin _ _ y col ⟨by omega, kd.trans (U := fun b => col b ≠ 0) hk2 (by omega) (fun _ _ h => h.elim) (fun b hb h => by rw [h, hb9]; omega), by rw [e1]; exact sd.a.setLk hl (by rw [hbl]; exact hk2) (by rw [hbl]; exact hl2), fun b hb => .inl hb⟩ hbl ⟨{ l with cost := max x.metric 1, til := now + 20 }, ?_⟩
        rw [e1]
        show getA fr (setA fr _ ei.lk) = _
        rw [getA_set, if_pos rfl]
      · have e1 : partE rq fr now ei x = ei := by unfold partE; rw [if_neg h1, if_pos h2, if_neg h3]
        simp (disch := omega) only [go_sem, ↓reduceIte , ord15x14, cid0, hcast]
        exact fin _ _ y col (by rw [e1]; exact sd) hbl (by rw [e1]; exact ⟨l, hl⟩)
    by_cases h3 : x.kind = 3
    · obtain ⟨u1, u2, u3, u4, u5, u6, u7⟩ := hpx.up h3
      obtain ⟨ob, hob, hM⟩ := sd.a.om
      have hlk := own_look hob hM x.addr x.len
      have c40 := hA.c.c4
      have hpn := (hA.k.lt hA.k.kp (by omega)).2
      simp (disch := omega) only [go_sem, ↓reduceIte , hcast]
      refine awp_draw ord15x17 (by kernel_rfl) ?_
      cases hgt : getA (x.addr, x.len) ei.own with
      | some q =>
        have e1 : partE rq fr now ei x = ei := by unfold partE; rw [if_neg h1, if_neg h2, if_pos h3, hgt]; rfl
        rw [hgt] at hlk
        simp (disch := omega) only [go_sem, ↓reduceIte , ord15x17, c40, hlk, Option.isSome_some, Option.getD_some]
        refine awp_draw ord15x18 (by kernel_rfl) ?_
        simp (disch := omega) only [go_sem, ↓reduceIte , ord15x18, hcast]
        exact fin _ _ y col (by rw [e1]; exact sd) hbl (by rw [e1]; exact ⟨l, hl⟩)
      | none =>
        have e1 : partE rq fr now ei x = { ei with ts := delK ⟨x.addr, x.len, fr, x.node, x.seq, x.metric, now + 50⟩ ei.ts ++ toldR ⟨x.addr, x.len, fr, x.node, x.seq, x.metric, now + 50⟩ } := by unfold partE; rw [if_neg h1, if_neg h2, if_pos h3, hgt]; rfl
        rw [hgt] at hlk
        simp (disch := omega) only [go_sem, ↓reduceIte , ord15x17, c40, hlk, Option.isSome_none, Option.getD_none]
        refine awp_draw ord15x18 (by kernel_rfl) ?_
        obtain ⟨ts, hp, hR⟩ := sd.a.rt
        have c20 := hA.c.c2
        have hul := hokI.le
        simp (disch := omega) only [go_sem, ↓reduceIte , ord15x18, c20, bx0]
        refine (tell_c hR (hokI.uq.perm hp.symm) ⟨x.addr, x.len, fr, x.node, x.seq, x.metric, now + 50⟩ now ⟨u2, u3, u4, u5, hfr.1, hfr.2⟩ u6 u7 u1 hnow.1 hnow.2 rfl (by rw [hp.length_eq]; omega)).mono fun v H2 nx2 _ ⟨hv, hx2, hk2, ts', own', hR', hown', hp'⟩ => ?_
        subst hv
        simp (disch := omega) only [go_sem, ↓reduceIte , ord15x18, hcast]
        refine ⟨dkeep_last (by kernel_rfl), ?_⟩
        have k2 : Kp (fun b => col b ≠ 0) nx H H2 := kd.trans (U := fun b => col b ≠ 0) hk2 (by omega) (fun _ _ h => h.elim) (fun b hb h => by
          rcases h with h | h
          · rw [h, hA.k.kr]; omega
          · rw [hA.k.kr2 b h]; omega)
        refine fin _ _ { y with orr := own' } (recol col own' 2) ⟨by omega, k2, by rw [e1]; exact sd.a.setTs hx2 hk2 hR' hown' (hp'.trans ((hp.filter _).append_right _)), fun b hb => ?_⟩ hbl (by rw [e1]; exact ⟨l, hl⟩)
        by_cases hbo : b + 1 = own'
        · rcases hown' with h | h
          · exact .inl (by rw [hA.k.kr2 b (by rw [← h]; exact hbo)]; omega)
          · exact .inr (by omega)
        · rw [recol_ne hbo] at hb
          exact .inl hb
    by_cases h4 : x.kind = 4
    · have e1 : partE rq fr now ei x = rq ei x := by unfold partE; rw [if_neg h1, if_neg h2, if_neg h3, if_pos h4]
      simp (disch := omega) only [go_sem, ↓reduceIte , hcast]
      refine (hrq ei x _ _ y col (by
        have : x ∈ ps.take (i + 1) := by rw [htk]; simp
        exact List.mem_of_mem_take this) h4 ⟨i, hei.symm, hx0⟩ sd.a).mono fun v H2 nx2 hn2 ⟨y', col', hb', s'⟩ => ?_
      simp (disch := omega) only [go_sem, ↓reduceIte , hcast]
      refine fin _ _ y' col' (by rw [e1]; exact sd.trans s') (by rw [hb']; exact hbl) (by rw [e1, (hrq0 ei x).2.1]; exact ⟨l, hl⟩)
    · have := hpx.k0; have := hpx.k1
      have e1 : partE rq fr now ei x = ei := by unfold partE; rw [if_neg h1, if_neg h2, if_neg h3, if_neg h4]
      simp (disch := omega) only [go_sem, ↓reduceIte , hcast]
      exact fin _ _ y col (by rw [e1]; exact sd) hbl (by rw [e1]; exact ⟨l, hl⟩)
  · have ei : i = ps.length := by omega
    subst ei
    rw [List.take_length] at st
    simp (disch := omega) only [go_sem, ↓reduceIte ]
    exact hK _ _ _ _ st
end Go.Proofs.YtngnbafididkcaaGreat
