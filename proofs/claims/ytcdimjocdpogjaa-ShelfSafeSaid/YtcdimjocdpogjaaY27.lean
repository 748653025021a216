/- The reference's shelf: Fall. The reference's shelf: Fall, whole. -/
import Derived.Test.YtcdimjocdpogjaaY24
import Derived.Test.YtcdimjocdpogjaaK1
section
namespace Go.Proofs.Ytcdimjocdpogjaa
open Go.RowKit
set_option linter.unusedSimpArgs false

theorem StR.fell {nx nx' : Nat} {H H' : AH} {R R1 : Rf} {k d : Nat} {vW : Value} {w : RNms} (s : StR nx H R k R1 H' nx') (hd : nx ≤ d) (hwm : w ∈ R1.was) (hw : SlA nx' H' 1 vW 1 [w.v] (d + 1)) : StR nx H R k { R1 with now := w, was := [w], vW := vW, oW := d + 1, off := false, left := -1 } H' nx' where
  le := s.le
  kp := s.kp
  a := ⟨s.a.sL, s.a.sF, s.a.sWs w hwm, hw, fun x hx => by
    have : x = w := by simpa using hx
    subst this
    exact s.a.sWs x hwm⟩
  ok := ⟨s.ok.was w hwm, fun x hx => by
    have : x = w := by simpa using hx
    subst this
    exact s.ok.was x hwm, by simp, s.ok.safe, s.ok.kws w hwm, by simp, fun x hx => by
    have : x = w := by simpa using hx
    subst this
    exact s.ok.kws x hwm, s.ok.kf, s.ok.kb, by show (-1 : Int) ≤ -1; omega, by show (-1 : Int) ≤ _; omega, s.ok.d0, s.ok.d1⟩
  fp := fun b hb => by
    rcases hb with e | e | e | e | ⟨x, hx, e⟩
    · exact s.fp b (.inl e)
    · exact .inr (by simp only [Nat.add_right_cancel_iff] at e; omega)
    · exact s.fp b (.inr (.inr (.inr (.inr ⟨w, hwm, e⟩))))
    · exact s.fp b (.inr (.inr (.inr (.inl e))))
    · have : x = w := by simpa using hx
      subst this
      exact s.fp b (.inr (.inr (.inr (.inr ⟨x, hwm, e⟩))))

structure FalI (nx : Nat) (H : AH) (R : Rf) (k a b : Nat) (w : RNms) (bytes : Int) (m : Nat) (env : Env) (H1 : AH) (nx1 i : Nat) (R1 : Rf) : Prop where
  hm : m = w.l.length - i
  hi : i ≤ w.l.length
  henv : env = [(2, .int .i64 bytes), (3, .pointer (some ⟨a, 0, none⟩)), (6, .pointer (some ⟨b, 0, none⟩)), (7, w.v), (8, .int .i64 i)]
  s : StR nx H R k R1 H1 nx1
  hw : w ∈ R1.was
  c0 : H1.c a 0 = some R1.vL
  c1 : H1.c a 1 = some R1.now.v
  c2 : H1.c a 2 = some R1.vW
  c3 : H1.c a 3 = some (.int .i64 R1.room)
  c4 : H1.c a 4 = some (.int .i64 R1.left)
  c5 : H1.c a 5 = some (.bool R1.off)
  c6 : H1.c a 6 = some (.int .i64 R1.done)
  cb : ∀ j, j < 7 → (H1.c b j).isSome = true
  ha : nx ≤ a
  hb : a < b
  hb1 : b < nx1
  na : ∀ x, fpR R1 x → x ≠ a ∧ x ≠ b

noncomputable def falLoop : Code := codeAt [.T, .T, .T, .T, .T, .H, .T, .I] ((Try.f47.body).getD .skip)
noncomputable def falTail : Code := codeAt [.T, .T, .T, .T, .T, .T] ((Try.f47.body).getD .skip)

set_option maxHeartbeats 4000000 in
set_option maxRecDepth 20000 in
theorem fal_loop {lo nx : Nat} {H : AH} {R : Rf} {k a b : Nat} {w : RNms} {bytes : Int} (hlo : lo ≤ nx) (hk : k ≤ 1000) (hb0 : 0 ≤ bytes) {K0 : Env → AH → Nat → Prop} {Q : Exit → Env → AH → Nat → Prop} {env : Env} {H1 : AH} {nx1 : Nat} {R0 : Rf} (h0 : FalI nx H R k a b w bytes w.l.length env H1 nx1 0 R0)
    (hK : ∀ env H2 nx2 R1, FalI nx H R k a b w bytes 0 env H2 nx2 w.l.length R1 → K0 (env ++ [(33, .bool false)]) H2 nx2) : awp Try.prog lo L47 falLoop (blockQ 0 (thenQ K0 Q)) env H1 nx1 := by
  simp only [falLoop, Try.f47, Option.getD_some, codeAt_H, codeAt_T, codeAt_I, codeAt_L, codeAt_C, codeAt_P, codeAt_nil]
  refine awp_loopX (fun m env H2 nx2 => ∃ i R1, FalI nx H R k a b w bytes m env H2 nx2 i R1) w.l.length ⟨0, R0, h0⟩ (fun env H2 nx2 => ∃ e R1, FalI nx H R k a b w bytes 0 e H2 nx2 w.l.length R1 ∧ env = e ++ [(33, .bool false)]) (fun K hK m env H2 nx2 ⟨i, R1, hI⟩ hn => ?_) (fun env H2 nx2 ⟨e, R1, hI, he⟩ => by subst he; exact hK _ _ _ _ hI)
  obtain ⟨hm, hi, henv, s, hw, c0, c1, c2, c3, c4, c5, c6, cb, ha, hb, hb1, na⟩ := hI
  subst henv
  have hsw := s.a.sWs w hw
  obtain ⟨wa, wc, hwv⟩ := hsw.form
  by_cases hlt : i < w.l.length
  · obtain ⟨g, off, cap, hv, hgo⟩ := hsw.open (by omega)
    have hgle := hsw.le
    rw [hwv] at hv
    simp only [Value.slice.injEq, true_and] at hv
    obtain ⟨rfl, rfl⟩ := hv
    have hkw := s.ok.kws w hw
    have hsw2 := hsw
    rw [hwv] at hsw2
    have cl : H2.c g (off + i * 2 + 1) = some (.int .i64 w.l[i].2) := by
      have := hsw2.cells.1 (2 * i + 1) (.int .i64 w.l[i].2) (by rw [flat_get nmC_len w.l i w.l[i] (List.getElem?_eq_getElem hlt) 1 (by omega)]; rfl)
      rwa [show off + (2 * i + 1) = off + i * 2 + 1 by omega] at this
    have hrg := s.ok.was w hw w.l[i] (List.getElem_mem hlt)
    obtain ⟨j, hj⟩ : ∃ j : Nat, w.l[i].2 = j := ⟨_, (Int.toNat_of_nonneg hrg.1).symm⟩
    rw [hj] at cl hrg
    have hjl : j < R1.fl.length := by omega
    obtain ⟨gL, oL, cL, hvL, hog⟩ := s.a.sL.open (by omega)
    have hle := s.a.sL.le
    have hgt : R1.fl[j]? = some R1.fl[j] := List.getElem?_eq_getElem hjl
    have hxs := s.a.sF _ (List.getElem_mem hjl)
    have hsf := s.ok.safe _ (List.getElem_mem hjl)
    have hkb := s.ok.kb _ (List.getElem_mem hjl)
    have kf := s.ok.kf
    have hox : R1.fl[j].own ≠ a + 1 := fun e => (na a (.inr (.inr (.inr (.inl ⟨_, List.getElem_mem hjl, e.symm⟩))))).1 rfl
    have hsL := s.a.sL
    have g1 := hsL.one
    have g2 := s.a.sN.one
    have g3 := s.a.sW.one
    rw [hvL] at hsL c0
    have x0 : H2.c gL (oL + j * 2) = some R1.fl[j].v := by
      have := hsL.cells.1 (2 * j + 0) R1.fl[j].v (by rw [flat_get RFile.cs_len _ j _ hgt 0 (by omega)]; rfl)
      rwa [show oL + (2 * j + 0) = oL + j * 2 by omega] at this
    have x1 : H2.c gL (oL + j * 2 + 1) = some (.int .i64 R1.fl[j].safe) := by
      have := hsL.cells.1 (2 * j + 1) (.int .i64 R1.fl[j].safe) (by rw [flat_get RFile.cs_len _ j _ hgt 1 (by omega)]; rfl)
      rwa [show oL + (2 * j + 1) = oL + j * 2 + 1 by omega] at this
    obtain ⟨xa, xc, hxv⟩ := hxs.form
    rw [hxv] at x0
    have hbc : R1.fl[j].bs.length ≤ xc := by
      have hxs2 := hxs
      rw [hxv] at hxs2
      rcases hxs2.2.2 with ⟨e, _, _⟩ | ⟨_, _, _, e, _, h, _⟩
      · simp only [Value.slice.injEq] at e; omega
      · simp only [Value.slice.injEq] at e; omega
    simp (disch := omega) only [go_sem, ↓reduceIte , hwv, c0]
    refine awp_draw ord47x11 (by kernel_rfl) ?_
    simp (disch := omega) only [go_sem, ↓reduceIte , ord47x11, c0, cl, x0, x1]
    intro d hd
    simp (disch := omega) only [go_sem, ↓reduceIte , ord47x11, c0, cl, x0, x1]
    refine ⟨dkeep_kp (by repeat first | exact Kp.refl _ _ _ | refine Kp.dropT ?_ (.inl (by omega)) | refine Kp.put ?_ (.inl (by omega)) | refine Kp.new ?_ (by omega) | refine Kp.put ?_ (.inr (by omega)) | refine Kp.newO ?_ (by omega) | refine Kp.setO ?_ (.inl (by omega)) | refine Kp.setO ?_ (.inr (by omega)) | refine Kp.trans0 ?_ (by assumption) (by omega) | refine Kp.transS ?_ (by assumption) (by omega) (fun b hb hT => by first | omega | (dsimp only at hT ⊢; omega) | (simp only at hT ⊢; omega))) , ?_⟩
    refine ⟨dkeep_kp (by repeat first | exact Kp.refl _ _ _ | refine Kp.dropT ?_ (.inl (by omega)) | refine Kp.put ?_ (.inl (by omega)) | refine Kp.new ?_ (by omega) | refine Kp.put ?_ (.inr (by omega)) | refine Kp.newO ?_ (by omega) | refine Kp.setO ?_ (.inl (by omega)) | refine Kp.setO ?_ (.inr (by omega)) | refine Kp.trans0 ?_ (by assumption) (by omega) | refine Kp.transS ?_ (by assumption) (by omega) (fun b hb hT => by first | omega | (dsimp only at hT ⊢; omega) | (simp only at hT ⊢; omega))) , ?_⟩
    have hex : ∃ n : Int, (0 ≤ n ∧ n ≤ R1.fl[j].bs.length) ∧ n = if bytes < R1.fl[j].bs.length - R1.fl[j].safe then R1.fl[j].safe + bytes else R1.fl[j].bs.length := ⟨_, by split <;> omega, rfl⟩
    obtain ⟨n, ⟨hn0, hn1⟩, hne⟩ := hex
    have hsv := slice_hm (P := Try.prog) (H := AH.empty) (n := R1.fl[j].bs.length) (c := xc) (a := xa) (kh := .i64) (km := .i64) sl22 hn0 (Int.le_refl n) (by omega)
    have hxs' := hxs
    rw [hxv] at hxs'
    have hcut := hxs'.cut (l := 0) (h := n.toNat) (m := n.toNat) (by omega) (by omega) (by omega) (by omega)
    generalize hcv : cutS xa 1 n.toNat 0 n.toNat = cv at hsv hcut
    have hcl : ((bytV R1.fl[j].bs).drop (0 * 1)).take ((n.toNat - 0) * 1) = bytV (R1.fl[j].bs.take n.toNat) := by simp [bytV, List.map_take]
    have hlen : (R1.fl[j].bs.take n.toNat).length = n.toNat - 0 := by rw [List.length_take]; omega
    rw [hcl, ← hlen] at hcut
    obtain ⟨ca, cc, hcv2⟩ := hcut.form
    have hone : (Value.slice ca (R1.fl[j].bs.take n.toNat).length cc).oneCell' = true := rfl
    rw [hcv2] at hsv hcut
    have hkd : Kp (fun _ => False) nx2 H2 (((H2.new d #[.slice none 0 0, .int .i64 0] 90).put d 0 (.slice xa R1.fl[j].bs.length xc)).put d 1 (.int .i64 R1.fl[j].safe)) := (by repeat first | exact Kp.refl _ _ _ | refine Kp.dropT ?_ (.inl (by omega)) | refine Kp.put ?_ (.inl (by omega)) | refine Kp.new ?_ (by omega) | refine Kp.put ?_ (.inr (by omega)) | refine Kp.newO ?_ (by omega) | refine Kp.setO ?_ (.inl (by omega)) | refine Kp.setO ?_ (.inr (by omega)) | refine Kp.trans0 ?_ (by assumption) (by omega) | refine Kp.transS ?_ (by assumption) (by omega) (fun b hb hT => by first | omega | (dsimp only at hT ⊢; omega) | (simp only at hT ⊢; omega))) 
    have hcd := hkd.cell0
    have hch := changed05_c (lo := lo) (vL := .slice (some ⟨gL, oL, none⟩) R1.fl.length cL) (vN := R1.now.v) (vW := R1.vW) (vx := .slice ca (R1.fl[j].bs.take n.toNat).length cc) R1.room R1.left R1.done R1.off (fl := R1.fl.map fun x => (x.v, x.safe)) (ownL := R1.oL) g2 g3 hone (by
      rw [List.length_map, fl_map]
      exact hsL.kp hkd (by omega : nx2 ≤ d + 1) (by simp)) (fun u hu => by
      obtain ⟨x, hx, rfl⟩ := List.mem_map.1 hu
      exact (s.a.sF x hx).one) (by rw [List.length_map]; omega) j (by rw [List.length_map]; omega) n
    unfold shV at hch
    by_cases hbt : bytes < R1.fl[j].bs.length - R1.fl[j].safe
    · rw [if_pos hbt] at hne
      simp (disch := omega) only [go_sem, ↓reduceIte , hbt, decide_true]
      rw [← hne]
      refine awp_draw ord47x15 (by kernel_rfl) ?_
      simp (disch := omega) only [go_sem, ↓reduceIte , ord47x15, g2, g3, c0, c1, c2, c3, c4, c5, c6, cl, hsv, hone]
      refine hch.mono fun v5 H5 nx5 _ ⟨hx5, hk5, vL5, own5, hs5, ho5, hv⟩ => ?_
      subst hv
      have hc5 := hk5.cell0
      have hone5 := hs5.one
      simp (disch := omega) only [go_sem, ↓reduceIte , ord47x15, hone5, g2, g3, c0, c1, c2, c3, c4, c5, c6, hc5, hcd]
      refine ⟨dkeep_kp hk5, ?_⟩
      refine ⟨dkeep_last (by kernel_rfl), ?_⟩
      refine ⟨w.l.length - (i + 1), by omega, i + 1, { R1 with fl := R1.fl.set j ⟨.slice ca (R1.fl[j].bs.take n.toNat).length cc, R1.fl[j].own, R1.fl[j].bs.take n.toNat, n⟩, vL := vL5, oL := own5 }, ?_⟩
      have hm2 : (R1.fl.map fun x => (x.v, x.safe)).set j (.slice ca (R1.fl[j].bs.take n.toNat).length cc, n) = (R1.fl.set j ⟨.slice ca (R1.fl[j].bs.take n.toNat).length cc, R1.fl[j].own, R1.fl[j].bs.take n.toNat, n⟩).map fun x => (x.v, x.safe) := by
        rw [List.map_set]
      rw [hm2, List.length_map, fl_map] at hs5
      have hk2 := hkd.trans (U := fun _ => False) hk5 (by omega) (fun _ _ h => h) (fun _ _ h => h)
      have hkn := s.kp
      have hkn2 := hkn.trans (U := fun _ => False) hk2 s.le (fun _ _ h => h) (fun _ _ h => h)
      have hkf : Kp (fun _ => False) nx H (((((((H5.put a 0 vL5).put a 1 R1.now.v).put a (1 + 1) R1.vW).put a (1 + 1 + 1) (.int .i64 R1.room)).put a (1 + 1 + 1 + 1) (.int .i64 R1.left)).put a (1 + 1 + 1 + 1 + 1) (.bool R1.off)).put a (1 + 1 + 1 + 1 + 1 + 1) (.int .i64 R1.done)) := by
        repeat refine Kp.put ?_ (.inl (by omega))
        exact hkn2
      have hcut' := hcut.kp hk2 (by omega : nx2 ≤ nx5) (by simp)
      have hle0 := s.le
      have sold : StR nx H R k R1 (((((((H5.put a 0 vL5).put a 1 R1.now.v).put a (1 + 1) R1.vW).put a (1 + 1 + 1) (.int .i64 R1.room)).put a (1 + 1 + 1 + 1) (.int .i64 R1.left)).put a (1 + 1 + 1 + 1 + 1) (.bool R1.off)).put a (1 + 1 + 1 + 1 + 1 + 1) (.int .i64 R1.done)) nx5 := ⟨by omega, hkf, s.a.kp (S := fun b => b = a) (by
        repeat refine Kp.put ?_ (.inr rfl)
        exact Kp.mono hk2 (Nat.le_refl _) (fun _ _ h => h.elim)) (by omega) (fun q hq e => (na q hq).1 e), s.ok, s.fp⟩
      refine ⟨by omega, by omega, by rw [hwv]; simp, ?_, hw, by simp (disch := omega) only [go_sem, ↓reduceIte ], by simp (disch := omega) only [go_sem, ↓reduceIte ], by simp (disch := omega) only [go_sem, ↓reduceIte ], by simp (disch := omega) only [go_sem, ↓reduceIte ], by simp (disch := omega) only [go_sem, ↓reduceIte ], by simp (disch := omega) only [go_sem, ↓reduceIte ], by simp (disch := omega) only [go_sem, ↓reduceIte ], fun q hq => ?_, ha, hb, by omega, fun x hx => ?_⟩
      · refine StR.changed (R1 := R1) (i := j) (x := ⟨.slice ca (R1.fl[j].bs.take n.toNat).length cc, R1.fl[j].own, R1.fl[j].bs.take n.toNat, n⟩) (vL := vL5) (ownL := own5) sold (by exact (by repeat first | assumption | refine SlA.dropT ?_ | refine SlA.put ?_ (by omega) | refine SlA.new ?_ (by omega) | refine SlA.newO ?_ (by omega) | refine SlA.setO ?_) ) (by omega) (by dsimp only; exact (by repeat first | assumption | refine SlA.dropT ?_ | refine SlA.put ?_ (by omega) | refine SlA.new ?_ (by omega) | refine SlA.newO ?_ (by omega) | refine SlA.setO ?_) ) (.inl ⟨R1.fl[j], List.getElem_mem hjl, rfl⟩) ⟨by dsimp only; omega, by dsimp only; omega⟩ (by dsimp only; omega)
      · have := cb q hq
        simp (disch := omega) only [go_sem, ↓reduceIte , hc5, hcd]
        exact this
      · rcases hx with e | e | e | ⟨y, hy, e⟩ | e
        · dsimp only at e; omega
        · exact na x (.inr (.inl e))
        · exact na x (.inr (.inr (.inl e)))
        · rcases List.mem_or_eq_of_mem_set hy with hy | rfl
          · exact na x (.inr (.inr (.inr (.inl ⟨y, hy, e⟩))))
          · exact na x (.inr (.inr (.inr (.inl ⟨_, List.getElem_mem hjl, e⟩))))
        · exact na x (.inr (.inr (.inr (.inr e))))
    · rw [if_neg hbt] at hne
      simp (disch := omega) only [go_sem, ↓reduceIte , hbt, decide_false]
      rw [← hne]
      refine awp_draw ord47x15 (by kernel_rfl) ?_
      simp (disch := omega) only [go_sem, ↓reduceIte , ord47x15, g2, g3, c0, c1, c2, c3, c4, c5, c6, cl, hsv, hone]
      refine hch.mono fun v5 H5 nx5 _ ⟨hx5, hk5, vL5, own5, hs5, ho5, hv⟩ => ?_
      subst hv
      have hc5 := hk5.cell0
      have hone5 := hs5.one
      simp (disch := omega) only [go_sem, ↓reduceIte , ord47x15, hone5, g2, g3, c0, c1, c2, c3, c4, c5, c6, hc5, hcd]
      refine ⟨dkeep_kp hk5, ?_⟩
      refine ⟨dkeep_last (by kernel_rfl), ?_⟩
      refine ⟨w.l.length - (i + 1), by omega, i + 1, { R1 with fl := R1.fl.set j ⟨.slice ca (R1.fl[j].bs.take n.toNat).length cc, R1.fl[j].own, R1.fl[j].bs.take n.toNat, n⟩, vL := vL5, oL := own5 }, ?_⟩
      have hm2 : (R1.fl.map fun x => (x.v, x.safe)).set j (.slice ca (R1.fl[j].bs.take n.toNat).length cc, n) = (R1.fl.set j ⟨.slice ca (R1.fl[j].bs.take n.toNat).length cc, R1.fl[j].own, R1.fl[j].bs.take n.toNat, n⟩).map fun x => (x.v, x.safe) := by
        rw [List.map_set]
      rw [hm2, List.length_map, fl_map] at hs5
      have hk2 := hkd.trans (U := fun _ => False) hk5 (by omega) (fun _ _ h => h) (fun _ _ h => h)
      have hkn := s.kp
      have hkn2 := hkn.trans (U := fun _ => False) hk2 s.le (fun _ _ h => h) (fun _ _ h => h)
      have hkf : Kp (fun _ => False) nx H (((((((H5.put a 0 vL5).put a 1 R1.now.v).put a (1 + 1) R1.vW).put a (1 + 1 + 1) (.int .i64 R1.room)).put a (1 + 1 + 1 + 1) (.int .i64 R1.left)).put a (1 + 1 + 1 + 1 + 1) (.bool R1.off)).put a (1 + 1 + 1 + 1 + 1 + 1) (.int .i64 R1.done)) := by
        repeat refine Kp.put ?_ (.inl (by omega))
        exact hkn2
      have hcut' := hcut.kp hk2 (by omega : nx2 ≤ nx5) (by simp)
      have hle0 := s.le
      have sold : StR nx H R k R1 (((((((H5.put a 0 vL5).put a 1 R1.now.v).put a (1 + 1) R1.vW).put a (1 + 1 + 1) (.int .i64 R1.room)).put a (1 + 1 + 1 + 1) (.int .i64 R1.left)).put a (1 + 1 + 1 + 1 + 1) (.bool R1.off)).put a (1 + 1 + 1 + 1 + 1 + 1) (.int .i64 R1.done)) nx5 := ⟨by omega, hkf, s.a.kp (S := fun b => b = a) (by
        repeat refine Kp.put ?_ (.inr rfl)
        exact Kp.mono hk2 (Nat.le_refl _) (fun _ _ h => h.elim)) (by omega) (fun q hq e => (na q hq).1 e), s.ok, s.fp⟩
      refine ⟨by omega, by omega, by rw [hwv]; simp, ?_, hw, by simp (disch := omega) only [go_sem, ↓reduceIte ], by simp (disch := omega) only [go_sem, ↓reduceIte ], by simp (disch := omega) only [go_sem, ↓reduceIte ], by simp (disch := omega) only [go_sem, ↓reduceIte ], by simp (disch := omega) only [go_sem, ↓reduceIte ], by simp (disch := omega) only [go_sem, ↓reduceIte ], by simp (disch := omega) only [go_sem, ↓reduceIte ], fun q hq => ?_, ha, hb, by omega, fun x hx => ?_⟩
      · refine StR.changed (R1 := R1) (i := j) (x := ⟨.slice ca (R1.fl[j].bs.take n.toNat).length cc, R1.fl[j].own, R1.fl[j].bs.take n.toNat, n⟩) (vL := vL5) (ownL := own5) sold (by exact (by repeat first | assumption | refine SlA.dropT ?_ | refine SlA.put ?_ (by omega) | refine SlA.new ?_ (by omega) | refine SlA.newO ?_ (by omega) | refine SlA.setO ?_) ) (by omega) (by dsimp only; exact (by repeat first | assumption | refine SlA.dropT ?_ | refine SlA.put ?_ (by omega) | refine SlA.new ?_ (by omega) | refine SlA.newO ?_ (by omega) | refine SlA.setO ?_) ) (.inl ⟨R1.fl[j], List.getElem_mem hjl, rfl⟩) ⟨by dsimp only; omega, by dsimp only; omega⟩ (by dsimp only; omega)
      · have := cb q hq
        simp (disch := omega) only [go_sem, ↓reduceIte , hc5, hcd]
        exact this
      · rcases hx with e | e | e | ⟨y, hy, e⟩ | e
        · dsimp only at e; omega
        · exact na x (.inr (.inl e))
        · exact na x (.inr (.inr (.inl e)))
        · rcases List.mem_or_eq_of_mem_set hy with hy | rfl
          · exact na x (.inr (.inr (.inr (.inl ⟨y, hy, e⟩))))
          · exact na x (.inr (.inr (.inr (.inl ⟨_, List.getElem_mem hjl, e⟩))))
        · exact na x (.inr (.inr (.inr (.inr e))))
  · have ei : i = w.l.length := by omega
    subst ei
    simp (disch := omega) only [go_sem, ↓reduceIte , hwv]
    refine hK _ _ _ ⟨_, R1, ⟨by omega, by omega, rfl, s, hw, c0, c1, c2, c3, c4, c5, c6, cb, ha, hb, hb1, na⟩, ?_⟩
    rw [hwv]
    rfl
end Go.Proofs.Ytcdimjocdpogjaa
end
section
namespace Go.Proofs.Ytcdimjocdpogjaa
open Go.RowKit
set_option linter.unusedSimpArgs false

set_option maxHeartbeats 4000000 in
set_option maxRecDepth 20000 in
theorem fal_tail {lo nx : Nat} {H : AH} {R : Rf} {k a b : Nat} {w : RNms} {bytes : Int} (hlo : lo ≤ nx) {env : Env} {H1 : AH} {nx1 : Nat} {R1 : Rf} (hI : FalI nx H R k a b w bytes 0 env H1 nx1 w.l.length R1) :
    awp Try.prog lo L47 falTail (retQ Try.prog Try.f47 fun v H' nx' => ∃ R', v = R'.val ∧ StR nx H R k R' H' nx') (env ++ [(33, .bool false)]) H1 nx1 := by
  have hcode : falTail = codeAt [.T, .T, .T, .T, .T, .T] ((Try.f47.body).getD .skip) := rfl
  simp only [Try.f47, Option.getD_some, codeAt_H, codeAt_T, codeAt_I, codeAt_L, codeAt_C, codeAt_P, codeAt_nil] at hcode
  rw [hcode]
  clear hcode
  obtain ⟨hm, hi, henv, s, hw, c0, c1, c2, c3, c4, c5, c6, cb, ha, hb, hb1, na⟩ := hI
  subst henv
  have hsw := s.a.sWs w hw
  obtain ⟨wa, wc, hwv⟩ := hsw.form
  have g1 := s.a.sL.one
  have hle0 := s.le
  unfold Rf.val shV
  simp only [List.cons_append, List.nil_append]
  simp (disch := omega) only [go_sem, ↓reduceIte , hwv, c1, c2, Option.isSome_some, true_and]
  have cN : (Value.slice wa w.l.length wc).cells = #[Value.slice wa w.l.length wc] := rfl
  refine buildSQ_cs (n := 1) [.slice wa w.l.length wc] [.slice wa w.l.length wc] sl45 zero44 (by omega) (by omega) rfl (by simp [cN]) (by simp [cN]) fun d hd => ?_
  simp (disch := omega) only [go_sem, ↓reduceIte , g1, c0, c1, c2, c3, c4, c5, c6, cb, Option.isSome_some, true_and]
  have hS : Kp (fun q => q = a ∨ q = b) nx1 H1 ((((((((((((H1.put a 1 (.slice wa w.l.length wc)).new d [.slice wa w.l.length wc].toArray 44).put a 2 (.slice (some ⟨d, 0, none⟩) 1 1)).put a 5 (.bool false)).put a 4 (.int .i64 (-1))).put b 0 R1.vL).put b 1 (.slice wa w.l.length wc)).put b (1 + 1) (.slice (some ⟨d, 0, none⟩) 1 1)).put b (1 + 1 + 1) (.int .i64 R1.room)).put b (1 + 1 + 1 + 1) (.int .i64 (-1))).put b (1 + 1 + 1 + 1 + 1) (.bool false)).put b (1 + 1 + 1 + 1 + 1 + 1) (.int .i64 R1.done)) := by
    repeat first | exact Kp.refl _ _ _ | refine Kp.put ?_ (.inr (.inl rfl)) | refine Kp.put ?_ (.inr (.inr rfl)) | refine Kp.new ?_ hd
  have s2 : StR nx H R k R1 _ (d + 1) := ⟨by omega, s.kp.trans (U := fun _ => False) hS s.le (fun _ _ h => h) (fun q hq h => by rcases h with rfl | rfl <;> omega), s.a.kp hS (by omega) (fun q hq h => by
    have := na q hq
    rcases h with h | h
    · exact this.1 h
    · exact this.2 h), s.ok, s.fp⟩
  refine ⟨{ R1 with now := w, was := [w], vW := .slice (some ⟨d, 0, none⟩) 1 1, oW := d + 1, off := false, left := -1 }, by rw [← hwv], StR.fell s2 (by omega) hw ?_⟩
  rw [hwv]
  have hn : SlA (d + 1) ((H1.put a 1 (.slice wa w.l.length wc)).new d [.slice wa w.l.length wc].toArray 44) 1 (.slice (some ⟨d, 0, none⟩) 1 1) 1 [.slice wa w.l.length wc] (d + 1) := SlA.ofNew (e := 44) (cs := [.slice wa w.l.length wc].toArray) rfl (by omega) (by simp [maxLen]) (by simp) (fun j _ => by simp)
  exact (by repeat first | assumption | refine SlA.dropT ?_ | refine SlA.put ?_ (by omega) | refine SlA.new ?_ (by omega) | refine SlA.newO ?_ (by omega) | refine SlA.setO ?_) 

set_option maxHeartbeats 4000000 in
set_option maxRecDepth 20000 in
theorem fall05_c {lo nx : Nat} {H : AH} {R : Rf} {k : Nat} (h : RfA nx H R) (ho : RfOk R k) (hk : k ≤ 1000) (names bytes : Int) : ACalls Try.prog lo 47 #[R.val, .int .i64 names, .int .i64 bytes] H nx (fun v H' nx' => ∃ R', v = R'.val ∧ StR nx H R k R' H' nx') := by
  refine ACalls.withLo fun hlo => ?_
  refine acalls_of_awp L47 Try.func47 rfl (by kernel_rfl) ?_
  have h1 := h.sL.one
  have h2 := h.sN.one
  have h3 := h.sW.one
  have h1' := ho.one
  have kw := ho.kw
  obtain ⟨wg, wo, wc, hvW, hwo⟩ := h.sW.open (by omega)
  have hwle := h.sW.le
  obtain ⟨m, hm, hmv⟩ : ∃ m : Nat, m < R.was.length ∧ (m : Int) = min (max names 0) (R.was.length - 1) := ⟨(min (max names 0) ((R.was.length : Int) - 1)).toNat, by omega, by omega⟩
  have hsW := h.sW
  rw [hvW] at hsW
  have cm : H.c wg (wo + m) = some R.was[m].v := hsW.cells.1 m _ (by rw [List.getElem?_map, List.getElem?_eq_getElem hm]; rfl)
  have hwm := List.getElem_mem hm
  generalize R.was[m] = w at cm hwm
  have hsw := h.sWs w hwm
  obtain ⟨wa, wc2, hwv⟩ := hsw.form
  rw [hwv] at cm
  have fin : ∀ (b2 : Int) (a b : Nat), 0 ≤ b2 → nx ≤ a → a < b → FalI nx H R k a b w b2 w.l.length [(2, .int .i64 b2), (3, .pointer (some ⟨a, 0, none⟩)), (6, .pointer (some ⟨b, 0, none⟩)), (7, .slice wa w.l.length wc2), (8, .int .i64 0)] ((H.new a #[R.vL, R.now.v, R.vW, .int .i64 R.room, .int .i64 R.left, .bool R.off, .int .i64 R.done] 47).new b #[.slice none 0 0, .slice none 0 0, .slice none 0 0, .int .i64 0, .int .i64 0, .bool false, .int .i64 0] 47) (b + 1) 0 R := fun b2 a b _ ha hb => by
    refine ⟨by omega, by omega, by rw [hwv]; rfl, StR.refl h ho (by omega) (by repeat first | exact Kp.refl _ _ _ | refine Kp.dropT ?_ (.inl (by omega)) | refine Kp.put ?_ (.inl (by omega)) | refine Kp.new ?_ (by omega) | refine Kp.put ?_ (.inr (by omega)) | refine Kp.newO ?_ (by omega) | refine Kp.setO ?_ (.inl (by omega)) | refine Kp.setO ?_ (.inr (by omega)) | refine Kp.trans0 ?_ (by assumption) (by omega) | refine Kp.transS ?_ (by assumption) (by omega) (fun b hb hT => by first | omega | (dsimp only at hT ⊢; omega) | (simp only at hT ⊢; omega))) , hwm, by simp (disch := omega) only [go_sem, ↓reduceIte ], by simp (disch := omega) only [go_sem, ↓reduceIte ], by simp (disch := omega) only [go_sem, ↓reduceIte ], by simp (disch := omega) only [go_sem, ↓reduceIte ], by simp (disch := omega) only [go_sem, ↓reduceIte ], by simp (disch := omega) only [go_sem, ↓reduceIte ], by simp (disch := omega) only [go_sem, ↓reduceIte ], fun j hj => ?_, ha, hb, by omega, fun x hx => ?_⟩
    · rcases (by omega : j = 0 ∨ j = 1 ∨ j = 2 ∨ j = 3 ∨ j = 4 ∨ j = 5 ∨ j = 6) with rfl | rfl | rfl | rfl | rfl | rfl | rfl <;> simp (disch := omega) only [go_sem, ↓reduceIte , Option.isSome_some]
    · have := h.fp_lt hx
      omega
  rw [hvW] at fin
  unfold Rf.val shV
  simp (disch := omega) only [go_sem, ↓reduceIte , h1, h2, h3]
  intro a ha
  simp (disch := omega) only [go_sem, ↓reduceIte , h1, h2, h3]
  intro b hb
  simp (disch := omega) only [go_sem, ↓reduceIte , h1, h2, h3, hvW]
  by_cases n0 : names < 0
  · have e0 : m = 0 := by omega
    subst e0
    rw [Nat.add_zero] at cm
    by_cases b0 : bytes < 0
    · simp (disch := omega) only [go_sem, ↓reduceIte , n0, b0, decide_true, decide_false, h1, h2, h3, hvW, cm, Int.toNat_zero, Nat.add_zero]
      exact fal_loop (bytes := 0) hlo hk (by omega) (fin 0 a b (by omega) (by omega) (by omega)) (fun _ _ _ _ hI => fal_tail hlo hI)
    · simp (disch := omega) only [go_sem, ↓reduceIte , n0, b0, decide_true, decide_false, h1, h2, h3, hvW, cm, Int.toNat_zero, Nat.add_zero]
      exact fal_loop (bytes := bytes) hlo hk (by omega) (fin bytes a b (by omega) (by omega) (by omega)) (fun _ _ _ _ hI => fal_tail hlo hI)
  · by_cases n1 : (R.was.length : Int) - 1 < names
    · have e0 : (m : Int) = R.was.length - 1 := by omega
      by_cases b0 : bytes < 0
      · simp (disch := omega) only [go_sem, ↓reduceIte , n0, n1, b0, decide_true, decide_false, h1, h2, h3, hvW]
        rw [← e0]
        simp (disch := omega) only [go_sem, ↓reduceIte , h1, h2, h3, hvW, cm]
        exact fal_loop (bytes := 0) hlo hk (by omega) (fin 0 a b (by omega) (by omega) (by omega)) (fun _ _ _ _ hI => fal_tail hlo hI)
      · simp (disch := omega) only [go_sem, ↓reduceIte , n0, n1, b0, decide_true, decide_false, h1, h2, h3, hvW]
        rw [← e0]
        simp (disch := omega) only [go_sem, ↓reduceIte , h1, h2, h3, hvW, cm]
        exact fal_loop (bytes := bytes) hlo hk (by omega) (fin bytes a b (by omega) (by omega) (by omega)) (fun _ _ _ _ hI => fal_tail hlo hI)
    · have e0 : names = (m : Int) := by omega
      subst e0
      by_cases b0 : bytes < 0
      · simp (disch := omega) only [go_sem, ↓reduceIte , n0, n1, b0, decide_true, decide_false, h1, h2, h3, hvW, cm]
        exact fal_loop (bytes := 0) hlo hk (by omega) (fin 0 a b (by omega) (by omega) (by omega)) (fun _ _ _ _ hI => fal_tail hlo hI)
      · simp (disch := omega) only [go_sem, ↓reduceIte , n0, n1, b0, decide_true, decide_false, h1, h2, h3, hvW, cm]
        exact fal_loop (bytes := bytes) hlo hk (by omega) (fin bytes a b (by omega) (by omega) (by omega)) (fun _ _ _ _ hI => fal_tail hlo hI)
end Go.Proofs.Ytcdimjocdpogjaa
end
