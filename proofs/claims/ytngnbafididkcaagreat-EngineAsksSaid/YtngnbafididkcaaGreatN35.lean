/- Engine: request: in our own logic. -/
import Derived.Test.YtngnbafididkcaaGreatN22
import Derived.Test.YtngnbafididkcaaGreatN21
namespace Go.Proofs.YtngnbafididkcaaGreat
open Go.RowKit
set_option linter.unusedSimpArgs false

/-- What a request does. -/
def reqE (e : Eng) (x : Prt) : Eng :=
  match getA (x.addr, x.len) e.own with
  | some q => { e with own := if newI x.seq q = true then setA (x.addr, x.len) (nextI q) e.own else e.own, due := true }
  | none =>
    match routeE e x.addr x.len with
    | some r => if newI x.seq r.seq = true then (if 0 < x.n then { e with asks := askE e.asks { x with n := x.n - 1 } } else e) else { e with due := true }
    | none => if 0 < x.n then { e with asks := askE e.asks { x with n := x.n - 1 } } else e
set_option maxHeartbeats 1000000 in
set_option maxRecDepth 20000 in
theorem ereq_c {lo nx : Nat} {H : AH} {p : Nat} {e : Eng} {y : ELay} {col : Nat → Nat} (hA : EngA lo nx H p e y col) (x : Prt) (hal : e.asks.length ≤ 16) (hsl : e.sel.length ≤ 1000000) (hn : 0 ≤ x.n ∧ x.n ≤ 1000000) :
    ACalls Tryz.prog lo 43 #[.pointer (some ⟨p, 0, none⟩), .agg x.cells.toArray] H nx (fun _ H' nx' => ∃ y' col', y'.bl = y.bl ∧ EngS lo nx H p col (reqE e x) H' nx' y' col') := by
  refine ACalls.withLo fun hlo => ?_
  refine acalls_of_awp L43 Tryz.func43 rfl (by kernel_rfl) ?_
  unfold Prt.cells
  simp (disch := omega) only [go_sem, ↓reduceIte ]
  intro d hd
  have kd : Kp (fun _ => False) nx H (H.new d #[.int .u8 x.kind, .int .u64 x.n, .int .i64 x.node, .int .u32 x.addr, .int .u8 x.len, .int .u16 x.seq, .int .u16 x.metric] 32) := (by repeat first | exact Kp.refl _ _ _ | refine Kp.dropT ?_ (.inl (by omega)) | refine Kp.put ?_ (.inl (by omega)) | refine Kp.new ?_ (by omega) | refine Kp.put ?_ (.inr (by omega)) | refine Kp.newO ?_ (by omega) | refine Kp.setO ?_ (.inl (by omega)) | refine Kp.setO ?_ (.inr (by omega)) | refine Kp.trans0 ?_ (by assumption) (by omega) | refine Kp.transS ?_ (by assumption) (by omega) (fun b hb hT => by first | omega | (dsimp only at hT ⊢; omega) | (simp only at hT ⊢; omega))) 
  have hA1 := hA.kp' (nx' := d + 1) kd (by omega) (by simp)
  have c4 := hA.c.c4
  have hpn := (hA.k.lt hA.k.kp (by omega))
  obtain ⟨ob, hob, hM⟩ := hA1.om
  have hlk := own_look hob hM x.addr x.len
  simp (disch := omega) only [go_sem, ↓reduceIte ]
  refine awp_draw ord43x1 (by kernel_rfl) ?_
  cases hg : getA (x.addr, x.len) e.own with
  | some q =>
    have he : reqE e x = { e with own := if newI x.seq q = true then setA (x.addr, x.len) (nextI q) e.own else e.own, due := true } := by unfold reqE; rw [hg]
    rw [hg] at hlk
    simp (disch := omega) only [go_sem, ↓reduceIte , ord43x1, c4, hlk, Option.isSome_some, Option.getD_some]
    have c9 : H.c p (7 + 1 + 1) = some (.bool e.due) := hA.c.c9
    have hmol := hA.k.lt hA.k.ko (by omega)
    have fin : ∀ (H2 : AH) (nx2 : Nat) (l : List ((Int × Int) × Int)), nx ≤ nx2 → EngS lo nx H p col { e with own := l } H2 nx2 y col → (if newI x.seq q = true then setA (x.addr, x.len) (nextI q) e.own else e.own) = l → ∃ y' col', y'.bl = y.bl ∧ EngS lo nx H p col (reqE e x) (H2.put p (7 + 1 + 1) (.bool true)) nx2 y' col' := fun H2 nx2 l hnx s2 hl => by
      have hp2 := s2.a.k.lt s2.a.k.kp (by omega)
      have k3 : Kp (fun b => b = p) nx2 H2 (H2.put p (7 + 1 + 1) (.bool true)) := (by repeat first | exact Kp.refl _ _ _ | refine Kp.dropT ?_ (.inl (by omega)) | refine Kp.put ?_ (.inl (by omega)) | refine Kp.new ?_ (by omega) | refine Kp.put ?_ (.inr (by omega)) | refine Kp.newO ?_ (by omega) | refine Kp.setO ?_ (.inl (by omega)) | refine Kp.setO ?_ (.inr (by omega)) | refine Kp.trans0 ?_ (by assumption) (by omega) | refine Kp.transS ?_ (by assumption) (by omega) (fun b hb hT => by first | omega | (dsimp only at hT ⊢; omega) | (simp only at hT ⊢; omega))) 
      refine ⟨y, col, rfl, s2.trans ⟨Nat.le_refl _, k3.mono (Nat.le_refl _) (fun b _ hb => by rw [hb, s2.a.k.kp]; omega), ?_, fun b hb => .inl hb⟩⟩
      rw [he, hl]
      exact s2.a.scal k3 (s2.a.c.put9 true) rfl rfl rfl rfl rfl rfl rfl
    refine (snewer_c x.seq q _ _).mono fun v H1 nx1 _ ⟨hv, hH, hn1⟩ => ?_
    subst hv; subst hH; subst hn1
    cases hnw : newI x.seq q with
    | false =>
      have s1 := (EngS.refl hA).still kd (show nx ≤ d + 1 by omega)
      have hf := fin _ _ e.own (by omega) s1 (by rw [hnw]; rfl)
      simp (disch := omega) only [go_sem, ↓reduceIte , c9]
      exact hf
    | true =>
      simp (disch := omega) only [go_sem, ↓reduceIte ]
      refine awp_draw ord43x4 (by kernel_rfl) ?_
      simp (disch := omega) only [go_sem, ↓reduceIte , ord43x4, c4]
      refine (snext_c q).mono fun v H2 nx2 _ ⟨hv, hn2, hH2⟩ => ?_
      subst hv; subst hn2; subst hH2
      simp (disch := omega) only [go_sem, ↓reduceIte , ord43x4, c4]
      have s1 := (EngS.refl hA).still kd (show nx ≤ d + 1 by omega)
      refine mapSetQ_A (P := Tryz.prog) (ek := pxK) (ev := ev16) (x := (x.addr, x.len)) (v := nextI q) keyPx mapOwn hmol.1 hob hM trivial (fun _ _ => trivial) fun ob1 hM1 => ?_
      have s2 : EngS lo nx H p col { e with own := setA (x.addr, x.len) (nextI q) e.own } ((H.new d #[.int .u8 x.kind, .int .u64 x.n, .int .i64 x.node, .int .u32 x.addr, .int .u8 x.len, .int .u16 x.seq, .int .u16 x.metric] 32).setO y.mo ob1) (d + 1) y col :=
        s1.trans ⟨Nat.le_refl _, Kp.setO (Kp.refl _ _ _) (.inr (by rw [hA.k.ko]; omega)), hA1.setOwn hM1, fun b hb => .inl hb⟩
      have hf := fin _ _ _ (by omega) s2 (by rw [hnw]; rfl)
      simp (disch := omega) only [go_sem, ↓reduceIte , ord43x4, c9]
      exact ⟨dkeep_last (by kernel_rfl), hf⟩
  | none =>
    rw [hg] at hlk
    simp (disch := omega) only [go_sem, ↓reduceIte , ord43x1, c4, hlk, Option.isSome_none, Option.getD_none]
    refine (eroute_c hA1 hsl x.addr x.len).mono fun v H1 nx1 _ ⟨hx1, hk1, hv⟩ => ?_
    subst hv
    have s1 := (EngS.refl hA1).still hk1 hx1
    have he0 : reqE e x = match routeE e x.addr x.len with
        | some r => if newI x.seq r.seq = true then (if 0 < x.n then { e with asks := askE e.asks { x with n := x.n - 1 } } else e) else { e with due := true }
        | none => if 0 < x.n then { e with asks := askE e.asks { x with n := x.n - 1 } } else e := by unfold reqE; rw [hg]
    have k1 : Kp (fun _ => False) nx H H1 := kd.trans (U := fun _ => False) hk1 (by omega) (fun _ _ h => h) (fun _ _ h => h)
    have st : EngS lo nx H p col e H1 nx1 y col := (EngS.refl hA).still k1 (by omega)
    have cd0 : H1.c d 0 = some (.int .u8 x.kind) := by rw [hk1.cell0 d _ (by omega), new_same]; rfl
    have cd1 : H1.c d 1 = some (.int .u64 x.n) := by rw [hk1.cell0 d _ (by omega), new_same]; rfl
    have cd2 : H1.c d (1 + 1) = some (.int .i64 x.node) := by rw [hk1.cell0 d _ (by omega), new_same]; rfl
    have cd3 : H1.c d (1 + 1 + 1) = some (.int .u32 x.addr) := by rw [hk1.cell0 d _ (by omega), new_same]; rfl
    have cd4 : H1.c d (1 + 1 + 1 + 1) = some (.int .u8 x.len) := by rw [hk1.cell0 d _ (by omega), new_same]; rfl
    have cd5 : H1.c d (1 + 1 + 1 + 1 + 1) = some (.int .u16 x.seq) := by rw [hk1.cell0 d _ (by omega), new_same]; rfl
    have cd6 : H1.c d (1 + 1 + 1 + 1 + 1 + 1) = some (.int .u16 x.metric) := by rw [hk1.cell0 d _ (by omega), new_same]; rfl
    have cd55 : H1.c d 5 = some (.int .u16 x.seq) := cd5
    have ask : ∀ (M : AH) (nm : Nat), nx1 ≤ nm → Kp (fun b => nx ≤ b) nx1 H1 M → EngS lo nx H p col e M nm y col := fun M nm hnm hk =>
      st.step (hk.mono (Nat.le_refl _) (fun _ _ h => .inr h)) hnm (st.a.kp' (nx' := nm) hk hnm (fun b hb h => by have := hA.k.rng b hb; omega)) (fun b hb => .inl hb)
    cases hr : routeE e x.addr x.len with
    | none =>
      rw [hr] at he0
      simp only [Option.getD_none, Option.isSome_none, rt0]
      unfold Rt.cells
      simp (disch := omega) only [go_sem, ↓reduceIte ]
      intro b6 h6
      simp (disch := omega) only [go_sem, ↓reduceIte , cd1]
      by_cases h0 : 0 < x.n
      · have he1 : reqE e x = { e with asks := askE e.asks { x with n := x.n - 1 } } := by rw [he0]; exact if_pos h0
        simp (disch := omega) only [go_sem, ↓reduceIte , cd0, cd1, cd2, cd3, cd4, cd5, cd6]
        refine (eask_c (ask _ _ (by omega) (show Kp (fun b => nx ≤ b) nx1 H1 _ from (by repeat first | exact Kp.refl _ _ _ | refine Kp.dropT ?_ (.inl (by omega)) | refine Kp.put ?_ (.inl (by omega)) | refine Kp.new ?_ (by omega) | refine Kp.put ?_ (.inr (by omega)) | refine Kp.newO ?_ (by omega) | refine Kp.setO ?_ (.inl (by omega)) | refine Kp.setO ?_ (.inr (by omega)) | refine Kp.trans0 ?_ (by assumption) (by omega) | refine Kp.transS ?_ (by assumption) (by omega) (fun b hb hT => by first | omega | (dsimp only at hT ⊢; omega) | (simp only at hT ⊢; omega))) )).a { x with n := x.n - 1 } hal).mono fun v M2 nm2 _ ⟨hv, y', col', hbl, _, _, s'⟩ => ?_
        subst hv
        simp (disch := omega) only [go_sem, ↓reduceIte ]
        exact ⟨y', col', hbl, by rw [he1]; exact (ask _ _ (by omega) (show Kp (fun b => nx ≤ b) nx1 H1 _ from (by repeat first | exact Kp.refl _ _ _ | refine Kp.dropT ?_ (.inl (by omega)) | refine Kp.put ?_ (.inl (by omega)) | refine Kp.new ?_ (by omega) | refine Kp.put ?_ (.inr (by omega)) | refine Kp.newO ?_ (by omega) | refine Kp.setO ?_ (.inl (by omega)) | refine Kp.setO ?_ (.inr (by omega)) | refine Kp.trans0 ?_ (by assumption) (by omega) | refine Kp.transS ?_ (by assumption) (by omega) (fun b hb hT => by first | omega | (dsimp only at hT ⊢; omega) | (simp only at hT ⊢; omega))) )).trans s'⟩
      · have he1 : reqE e x = e := by rw [he0]; exact if_neg h0
        simp (disch := omega) only [go_sem, ↓reduceIte , cd0, cd1, cd2, cd3, cd4, cd5, cd6]
        exact ⟨y, col, rfl, by rw [he1]; exact ask _ _ (by omega) (show Kp (fun b => nx ≤ b) nx1 H1 _ from (by repeat first | exact Kp.refl _ _ _ | refine Kp.dropT ?_ (.inl (by omega)) | refine Kp.put ?_ (.inl (by omega)) | refine Kp.new ?_ (by omega) | refine Kp.put ?_ (.inr (by omega)) | refine Kp.newO ?_ (by omega) | refine Kp.setO ?_ (.inl (by omega)) | refine Kp.setO ?_ (.inr (by omega)) | refine Kp.trans0 ?_ (by assumption) (by omega) | refine Kp.transS ?_ (by assumption) (by omega) (fun b hb hT => by first | omega | (dsimp only at hT ⊢; omega) | (simp only at hT ⊢; omega))) )⟩
    | some r =>
      rw [hr] at he0
      simp only [Option.getD_some, Option.isSome_some]
      unfold Rt.cells
      simp (disch := omega) only [go_sem, ↓reduceIte ]
      intro b6 h6
      simp (disch := omega) only [go_sem, ↓reduceIte , cd55]
      refine (snewer_c x.seq r.seq _ _).mono fun v M nm _ ⟨hv, hM, hnm⟩ => ?_
      subst hv; subst hM; subst hnm
      cases hnw : newI x.seq r.seq with
      | false =>
        simp only [hnw] at he0
        have he1 : reqE e x = { e with due := true } := by rw [he0]; rfl
        have c9 : H1.c p (7 + 1 + 1) = some (.bool e.due) := st.a.c.c9
        simp (disch := omega) only [go_sem, ↓reduceIte , c9]
        have sM := ask _ (b6 + 1) (by omega) (show Kp (fun b => nx ≤ b) nx1 H1 (((((H1.new b6 #[.int .u32 0, .int .u8 0, .int .i64 0, .int .u16 0, .int .u16 0] 40).put b6 0 (.int .u32 r.addr)).put b6 1 (.int .u8 r.len)).put b6 (1 + 1) (.int .i64 r.via)).put b6 (1 + 1 + 1) (.int .u16 r.metric) |>.put b6 (1 + 1 + 1 + 1) (.int .u16 r.seq)) from (by repeat first | exact Kp.refl _ _ _ | refine Kp.dropT ?_ (.inl (by omega)) | refine Kp.put ?_ (.inl (by omega)) | refine Kp.new ?_ (by omega) | refine Kp.put ?_ (.inr (by omega)) | refine Kp.newO ?_ (by omega) | refine Kp.setO ?_ (.inl (by omega)) | refine Kp.setO ?_ (.inr (by omega)) | refine Kp.trans0 ?_ (by assumption) (by omega) | refine Kp.transS ?_ (by assumption) (by omega) (fun b hb hT => by first | omega | (dsimp only at hT ⊢; omega) | (simp only at hT ⊢; omega))) )
        generalize (((((H1.new b6 #[.int .u32 0, .int .u8 0, .int .i64 0, .int .u16 0, .int .u16 0] 40).put b6 0 (.int .u32 r.addr)).put b6 1 (.int .u8 r.len)).put b6 (1 + 1) (.int .i64 r.via)).put b6 (1 + 1 + 1) (.int .u16 r.metric) |>.put b6 (1 + 1 + 1 + 1) (.int .u16 r.seq)) = M at sM ⊢
        have hp2 := sM.a.k.lt sM.a.k.kp (by omega)
        have k3 : Kp (fun b => b = p) (b6 + 1) M (M.put p (7 + 1 + 1) (.bool true)) := (by repeat first | exact Kp.refl _ _ _ | refine Kp.dropT ?_ (.inl (by omega)) | refine Kp.put ?_ (.inl (by omega)) | refine Kp.new ?_ (by omega) | refine Kp.put ?_ (.inr (by omega)) | refine Kp.newO ?_ (by omega) | refine Kp.setO ?_ (.inl (by omega)) | refine Kp.setO ?_ (.inr (by omega)) | refine Kp.trans0 ?_ (by assumption) (by omega) | refine Kp.transS ?_ (by assumption) (by omega) (fun b hb hT => by first | omega | (dsimp only at hT ⊢; omega) | (simp only at hT ⊢; omega))) 
        refine ⟨y, col, rfl, sM.trans ⟨Nat.le_refl _, k3.mono (Nat.le_refl _) (fun b _ hb => by rw [hb, sM.a.k.kp]; omega), ?_, fun b hb => .inl hb⟩⟩
        rw [he1]
        exact sM.a.scal k3 (sM.a.c.put9 true) rfl rfl rfl rfl rfl rfl rfl
      | true =>
        simp only [hnw] at he0
        simp (disch := omega) only [go_sem, ↓reduceIte , cd1]
        by_cases h0 : 0 < x.n
        · have he1 : reqE e x = { e with asks := askE e.asks { x with n := x.n - 1 } } := by rw [he0]; simp only [if_true]; exact if_pos h0
          simp (disch := omega) only [go_sem, ↓reduceIte , cd0, cd1, cd2, cd3, cd4, cd5, cd6]
          refine (eask_c (ask _ _ (by omega) (show Kp (fun b => nx ≤ b) nx1 H1 _ from (by repeat first | exact Kp.refl _ _ _ | refine Kp.dropT ?_ (.inl (by omega)) | refine Kp.put ?_ (.inl (by omega)) | refine Kp.new ?_ (by omega) | refine Kp.put ?_ (.inr (by omega)) | refine Kp.newO ?_ (by omega) | refine Kp.setO ?_ (.inl (by omega)) | refine Kp.setO ?_ (.inr (by omega)) | refine Kp.trans0 ?_ (by assumption) (by omega) | refine Kp.transS ?_ (by assumption) (by omega) (fun b hb hT => by first | omega | (dsimp only at hT ⊢; omega) | (simp only at hT ⊢; omega))) )).a { x with n := x.n - 1 } hal).mono fun v M2 nm2 _ ⟨hv, y', col', hbl, _, _, s'⟩ => ?_
          subst hv
          simp (disch := omega) only [go_sem, ↓reduceIte ]
          exact ⟨y', col', hbl, by rw [he1]; exact (ask _ _ (by omega) (show Kp (fun b => nx ≤ b) nx1 H1 _ from (by repeat first | exact Kp.refl _ _ _ | refine Kp.dropT ?_ (.inl (by omega)) | refine Kp.put ?_ (.inl (by omega)) | refine Kp.new ?_ (by omega) | refine Kp.put ?_ (.inr (by omega)) | refine Kp.newO ?_ (by omega) | refine Kp.setO ?_ (.inl (by omega)) | refine Kp.setO ?_ (.inr (by omega)) | refine Kp.trans0 ?_ (by assumption) (by omega) | refine Kp.transS ?_ (by assumption) (by omega) (fun b hb hT => by first | omega | (dsimp only at hT ⊢; omega) | (simp only at hT ⊢; omega))) )).trans s'⟩
        · have he1 : reqE e x = e := by rw [he0]; simp only [if_true]; exact if_neg h0
          simp (disch := omega) only [go_sem, ↓reduceIte , cd0, cd1, cd2, cd3, cd4, cd5, cd6]
          exact ⟨y, col, rfl, by rw [he1]; exact ask _ _ (by omega) (show Kp (fun b => nx ≤ b) nx1 H1 _ from (by repeat first | exact Kp.refl _ _ _ | refine Kp.dropT ?_ (.inl (by omega)) | refine Kp.put ?_ (.inl (by omega)) | refine Kp.new ?_ (by omega) | refine Kp.put ?_ (.inr (by omega)) | refine Kp.newO ?_ (by omega) | refine Kp.setO ?_ (.inl (by omega)) | refine Kp.setO ?_ (.inr (by omega)) | refine Kp.trans0 ?_ (by assumption) (by omega) | refine Kp.transS ?_ (by assumption) (by omega) (fun b hb hT => by first | omega | (dsimp only at hT ⊢; omega) | (simp only at hT ⊢; omega))) )⟩
end Go.Proofs.YtngnbafididkcaaGreat
