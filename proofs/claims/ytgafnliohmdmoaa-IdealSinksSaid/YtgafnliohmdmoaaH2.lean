/- Ideal, in our own logic: Rows, its first loop. -/
import Derived.Test.YtgafnliohmdmoaaH1
import Derived.Test.YtgafnliohmdmoaaC5
import Derived.Test.YtgafnliohmdmoaaL27
import Derived.Test.YtgafnliohmdmoaaL26
import Derived.Test.YtgafnliohmdmoaaK1
namespace Go.Proofs.Ytgafnliohmdmoaa
open Go.RowKit
set_option linter.unusedSimpArgs false

structure RwR where
  a : Int
  n : Int
  has : Bool
  ra : Int
  rn : Int
  via : Int
  met : Int
  seq : Int
  ms : Int
  mm : Int
def RwR.cells (r : RwR) : List Value := [.int .u32 r.a, .int .u8 r.n, .bool r.has, .int .u32 r.ra, .int .u8 r.rn, .int .i64 r.via, .int .u16 r.met, .int .u16 r.seq, .int .u16 r.ms, .int .u16 r.mm]
theorem rw_len (r : RwR) : r.cells.length = 10 := rfl
def rwV (r : RwR) : Value := .agg #[.int .u32 r.a, .int .u8 r.n, .bool r.has, .int .u32 r.ra, .int .u8 r.rn, .int .i64 r.via, .int .u16 r.met, .int .u16 r.seq, .int .u16 r.ms, .int .u16 r.mm]
def pxK (x : Int × Int) : Value := .agg #[.int .u32 x.1, .int .u8 x.2]
theorem keyPx : KeyT Try.prog 42 pxK (fun _ _ => True) := keyT_two (j1 := .u32) (j2 := .u8) (by kernel_rfl) (by kernel_rfl)
theorem mapRw : mapT Try.prog 69 = some (42, 54) := by kernel_rfl
theorem zeroRw : zeroT Try.prog 54 = some (rwV ⟨0, 0, false, 0, 0, 0, 0, 0, 0, 0⟩) := by kernel_rfl

structure RwI (nx0 : Nat) (H0 : AH) (s : Value) (n mb : Nat) (m : Nat) (env : Env) (H : AH) (nx i : Nat) (ob : Obj) (l : List ((Int × Int) × RwR)) : Prop where
  hm : m = n - i
  hi : i ≤ n
  henv : env = [(5, .map (some mb)), (29, s), (30, .int .i64 n), (31, .int .i64 i)]
  hx : nx0 ≤ nx
  hk : Kp (fun b => b = mb) nx0 H0 H
  ho : H.o mb = some ob
  hM : MapA pxK rwV ob l
  hl : l.length ≤ i

theorem setA_lenG {α β : Type} [DecidableEq α] (x : α) (v : β) : ∀ l : List (α × β), (setA x v l).length ≤ l.length + 1
  | [] => by simp [setA]
  | p :: l => by
    have ih := setA_lenG x v l
    unfold setA
    split
    · simp
    · simp only [List.length_cons]; omega

noncomputable def rwLoop : Code := codeAt [.T, .T, .T, .H, .T, .I] ((Try.f22.body).getD .skip)
set_option maxHeartbeats 4000000 in
set_option maxRecDepth 20000 in
theorem rw_loop {lo nx0 : Nat} {H0 : AH} {s : Value} {cs : List Chg} {own mb : Nat} (hlo : lo ≤ mb) (hmb : mb < nx0) (hs : SlA nx0 H0 8 s cs.length (chCells cs) own) (hne : own ≠ mb + 1) (hl : cs.length ≤ 1000) {K0 : Env → AH → Nat → Prop} {Q : Exit → Env → AH → Nat → Prop} {env : Env} {ob : Obj} (h0 : RwI nx0 H0 s cs.length mb cs.length env H0 nx0 0 ob [])
    (hK : ∀ env H nx ob l, RwI nx0 H0 s cs.length mb 0 env H nx cs.length ob l → K0 (env ++ [(32, .bool false)]) H nx) : awp Try.prog lo L22 rwLoop (blockQ 0 (thenQ K0 Q)) env H0 nx0 := by
  have hcode : rwLoop = codeAt [.T, .T, .T, .H, .T, .I] ((Try.f22.body).getD .skip) := rfl
  simp only [Try.f22, Option.getD_some, codeAt_H, codeAt_T, codeAt_I, codeAt_L, codeAt_C, codeAt_P, codeAt_nil] at hcode
  rw [hcode]
  clear hcode
  refine awp_loopX (fun m env H nx => ∃ i ob l, RwI nx0 H0 s cs.length mb m env H nx i ob l) cs.length ⟨0, ob, [], h0⟩ (fun env H nx => ∃ e ob l, RwI nx0 H0 s cs.length mb 0 e H nx cs.length ob l ∧ env = e ++ [(32, .bool false)]) (fun K hK m env H nx ⟨i, ob, l, hI⟩ hn => ?_) (fun env H nx ⟨e, ob, l, hI, he⟩ => by subst he; exact hK _ _ _ _ _ hI)
  obtain ⟨hm, hi, henv, hx, hk, ho, hM, hll⟩ := hI
  subst henv
  obtain ⟨aa, ac, hsv⟩ := hs.form
  by_cases hlt : i < cs.length
  · obtain ⟨g, off, cap, hv, hgo⟩ := hs.open (by omega)
    have hgle := hs.le
    rw [hsv] at hv
    simp only [Value.slice.injEq, true_and] at hv
    obtain ⟨rfl, rfl⟩ := hv
    have hs1 : SlA nx H 8 (.slice (some ⟨g, off, none⟩) cs.length ac) cs.length (chCells cs) own := by
      rw [← hsv]
      exact hs.kp hk hx (fun b e h => by omega)
    have hx0 : cs[i]? = some cs[i] := List.getElem?_eq_getElem hlt
    have hld := ch_load hs1 hx0
    generalize cs[i] = c at hx0 hld
    unfold Chg.cells at hld
    simp (disch := omega) only [go_sem, ↓reduceIte , hsv, hld]
    intro d hd
    simp (disch := omega) only [go_sem, ↓reduceIte ]
    have hlk := fun H' (e : H'.o mb = some ob) => lookupV_mapA2 (P := Try.prog) (H := H') (x := (c.addr, c.len)) keyPx mapRw zeroRw e hM trivial (fun _ _ => trivial)
    unfold pxK at hlk
    have e1 := hlk _ (show (((((((((H.new d #[.int .u64 0, .int .u64 0, .bool false, .int .u32 0, .int .u8 0, .int .i64 0, .int .u16 0, .int .u16 0] 47).put d 0 (.int .u64 c.no)).put d 1 (.int .u64 c.time)).put d (1 + 1) (.bool c.gone)).put d (1 + 1 + 1) (.int .u32 c.addr)).put d (1 + 1 + 1 + 1) (.int .u8 c.len)).put d (1 + 1 + 1 + 1 + 1) (.int .i64 c.via)).put d (1 + 1 + 1 + 1 + 1 + 1) (.int .u16 c.metric)).put d (1 + 1 + 1 + 1 + 1 + 1 + 1) (.int .u16 c.seq)).o mb = some ob by simp (disch := omega) only [go_sem, ↓reduceIte , ho])
    obtain ⟨r0, hr0⟩ : ∃ r0, ((getA (c.addr, c.len) l).map rwV).getD (rwV ⟨0, 0, false, 0, 0, 0, 0, 0, 0, 0⟩) = rwV r0 := by
      cases getA (c.addr, c.len) l with
      | none => exact ⟨_, rfl⟩
      | some r => exact ⟨r, rfl⟩
    generalize (getA (c.addr, c.len) l).isSome = okb at e1
    rw [hr0] at e1
    unfold rwV at e1
    simp (disch := omega) only [go_sem, ↓reduceIte , e1]
    intro u hu
    simp (disch := omega) only [go_sem, ↓reduceIte ]
    intro w hw
    simp (disch := omega) only [go_sem, ↓reduceIte ]
    have fin : ∀ (H5 : AH) (nx5 : Nat) (r : RwR) (ob5 : Obj), nx ≤ nx5 → Kp (fun b => b = mb) nx H H5 → H5.o mb = some ob5 → MapA pxK rwV ob5 (setA (c.addr, c.len) r l) → ∃ m', m' < m ∧ ∃ i' ob l, RwI nx0 H0 (.slice (some ⟨g, off, none⟩) cs.length ac) cs.length mb m' [(5, .map (some mb)), (29, .slice (some ⟨g, off, none⟩) cs.length ac), (30, .int .i64 cs.length), (31, .int .i64 (i + 1))] H5 nx5 i' ob l := fun H5 nx5 r ob5 h1 h2 h3 h4 => by
      have := setA_lenG (c.addr, c.len) r l
      exact ⟨cs.length - (i + 1), by omega, i + 1, ob5, _, ⟨rfl, by omega, by simp, by omega, hk.trans (U := fun b => b = mb) h2 hx (fun _ _ e => e) (fun _ _ e => e), h3, h4, by omega⟩⟩
    cases hgn : c.gone with
    | true =>
      simp (disch := omega) only [go_sem, ↓reduceIte ]
      refine awp_drawS ord22x11 _ (hide_sub _ u) (by kernel_rfl) ?_
      simp (disch := omega) only [go_sem, ↓reduceIte , ord22x11]
      refine ⟨dkeep_hide (by repeat first | exact Kp.refl _ _ _ | refine Kp.dropT ?_ (.inl (by omega)) | refine Kp.put ?_ (.inl (by omega)) | refine Kp.new ?_ (by omega) | refine Kp.put ?_ (.inr (by omega)) | refine Kp.newO ?_ (by omega) | refine Kp.setO ?_ (.inl (by omega)) | refine Kp.setO ?_ (.inr (by omega)) | refine Kp.trans0 ?_ (by assumption) (by omega) | refine Kp.transS ?_ (by assumption) (by omega) (fun b hb hT => by first | omega | (dsimp only at hT ⊢; omega) | (simp only at hT ⊢; omega))) , ?_⟩
      refine ⟨dkeep_last (by kernel_rfl), ?_⟩
      refine mapSetQ_A (P := Try.prog) (ek := pxK) (ev := rwV) (x := (c.addr, c.len)) (v := ⟨r0.a, r0.n, false, c.addr, c.len, 0, 0, 0, r0.ms, r0.mm⟩) keyPx mapRw (by omega) (show _ = some ob by simp (disch := omega) only [go_sem, ↓reduceIte , ho]) hM trivial (fun _ _ => trivial) fun ob1 hM1 => ?_
      simp (disch := omega) only [go_sem, ↓reduceIte ]
      exact fin _ _ _ ob1 (by omega) (by repeat first | exact Kp.refl _ _ _ | refine Kp.dropT ?_ (.inl (by omega)) | refine Kp.put ?_ (.inl (by omega)) | refine Kp.new ?_ (by omega) | refine Kp.put ?_ (.inr (by omega)) | refine Kp.newO ?_ (by omega) | refine Kp.setO ?_ (.inl (by omega)) | refine Kp.setO ?_ (.inr (by omega)) | refine Kp.trans0 ?_ (by assumption) (by omega) | refine Kp.transS ?_ (by assumption) (by omega) (fun b hb hT => by first | omega | (dsimp only at hT ⊢; omega) | (simp only at hT ⊢; omega)))  (by simp (disch := omega) only [go_sem, ↓reduceIte ]) hM1
    | false =>
      simp (disch := omega) only [go_sem, ↓reduceIte ]
      cases okb with
      | true =>
        simp (disch := omega) only [go_sem, ↓reduceIte ]
        refine awp_draw ord22x13 (by kernel_rfl) ?_
        simp (disch := omega) only [go_sem, ↓reduceIte , ord22x13]
        refine (sbest_c r0.ms r0.mm c.seq c.metric _ _).mono fun v H6 nx6 _ ⟨hv, hx6, hk6⟩ => ?_
        obtain ⟨ms, mm, hb⟩ : ∃ ms mm, v = .agg #[.int .u16 ms, .int .u16 mm] := by
          rw [hv]
          split
          · exact ⟨_, _, rfl⟩
          · exact ⟨_, _, rfl⟩
        subst hb
        have hc6 := hk6.cell0
        simp (disch := omega) only [go_sem, ↓reduceIte , ord22x13, hc6]
        refine ⟨dkeep_kp hk6, ?_⟩
        refine ⟨dkeep_last (by kernel_rfl), ?_⟩
        have ho6 : H6.o mb = some ob := by
          rw [(hk6 mb (by omega) (by simp)).2.1]
          simp (disch := omega) only [go_sem, ↓reduceIte , ho]
        refine mapSetQ_A (P := Try.prog) (ek := pxK) (ev := rwV) (x := (c.addr, c.len)) (v := ⟨c.addr, c.len, true, c.addr, c.len, c.via, c.metric, c.seq, ms, mm⟩) keyPx mapRw (by omega) (show _ = some ob by simp (disch := omega) only [go_sem, ↓reduceIte , ho6]) hM trivial (fun _ _ => trivial) fun ob1 hM1 => ?_
        simp (disch := omega) only [go_sem, ↓reduceIte , hc6]
        exact fin _ _ _ ob1 (by omega) (by repeat first | exact Kp.refl _ _ _ | refine Kp.dropT ?_ (.inl (by omega)) | refine Kp.put ?_ (.inl (by omega)) | refine Kp.new ?_ (by omega) | refine Kp.put ?_ (.inr (by omega)) | refine Kp.newO ?_ (by omega) | refine Kp.setO ?_ (.inl (by omega)) | refine Kp.setO ?_ (.inr (by omega)) | refine Kp.trans0 ?_ (by assumption) (by omega) | refine Kp.transS ?_ (by assumption) (by omega) (fun b hb hT => by first | omega | (dsimp only at hT ⊢; omega) | (simp only at hT ⊢; omega)))  (by simp (disch := omega) only [go_sem, ↓reduceIte ]) hM1
      | false =>
        simp (disch := omega) only [go_sem, ↓reduceIte ]
        refine mapSetQ_A (P := Try.prog) (ek := pxK) (ev := rwV) (x := (c.addr, c.len)) (v := ⟨c.addr, c.len, true, c.addr, c.len, c.via, c.metric, c.seq, c.seq, c.metric⟩) keyPx mapRw (by omega) (show _ = some ob by simp (disch := omega) only [go_sem, ↓reduceIte , ho]) hM trivial (fun _ _ => trivial) fun ob1 hM1 => ?_
        simp (disch := omega) only [go_sem, ↓reduceIte ]
        exact fin _ _ _ ob1 (by omega) (by repeat first | exact Kp.refl _ _ _ | refine Kp.dropT ?_ (.inl (by omega)) | refine Kp.put ?_ (.inl (by omega)) | refine Kp.new ?_ (by omega) | refine Kp.put ?_ (.inr (by omega)) | refine Kp.newO ?_ (by omega) | refine Kp.setO ?_ (.inl (by omega)) | refine Kp.setO ?_ (.inr (by omega)) | refine Kp.trans0 ?_ (by assumption) (by omega) | refine Kp.transS ?_ (by assumption) (by omega) (fun b hb hT => by first | omega | (dsimp only at hT ⊢; omega) | (simp only at hT ⊢; omega)))  (by simp (disch := omega) only [go_sem, ↓reduceIte ]) hM1
  · have ei : i = cs.length := by omega
    subst ei
    simp (disch := omega) only [go_sem, ↓reduceIte , hsv]
    refine hK _ _ _ ⟨_, ob, l, ⟨by omega, by omega, rfl, hx, hk, ho, hM, hll⟩, ?_⟩
    rw [hsv]
    rfl
end Go.Proofs.Ytgafnliohmdmoaa
