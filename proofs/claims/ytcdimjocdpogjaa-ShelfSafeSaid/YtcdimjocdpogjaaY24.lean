/- The reference's shelf: Used. The reference's shelf: Append. The reference's shelf: Cut. -/
import Derived.Test.YtcdimjocdpogjaaY16
section
namespace Go.Proofs.Ytcdimjocdpogjaa
open Go.RowKit
set_option linter.unusedSimpArgs false

set_option maxHeartbeats 4000000 in
set_option maxRecDepth 20000 in
theorem used05_c {lo nx : Nat} {H : AH} {R : Rf} {k : Nat} (h : RfA nx H R) (ho : RfOk R k) (hk : k ≤ 1000) : ACalls Try.prog lo 57 #[R.val] H nx (fun v H' nx' => nx ≤ nx' ∧ Kp (fun _ => False) nx H H' ∧ ∃ n : Int, v = .int .i64 n ∧ 0 ≤ n ∧ n ≤ 60000 * k) := by
  refine ACalls.withLo fun hlo => ?_
  refine acalls_of_awp L57 Try.func57 rfl (by kernel_rfl) ?_
  have h1 := h.sL.one
  have h2 := h.sN.one
  have h3 := h.sW.one
  have kf := ho.kf
  have kw := ho.kw
  have kb := ho.kb
  unfold Rf.val shV
  simp (disch := omega) only [go_sem, ↓reduceIte , h1, h2, h3]
  intro a ha
  obtain ⟨la, lc, hvL⟩ := h.sL.form
  obtain ⟨wa, wc, hvW⟩ := h.sW.form
  simp (disch := omega) only [go_sem, ↓reduceIte , h1, h2, h3]
  have hk0 : Kp (fun _ => False) nx H (H.new a #[R.vL, R.now.v, R.vW, .int .i64 R.room, .int .i64 R.left, .bool R.off, .int .i64 R.done] 47) := (by repeat first | exact Kp.refl _ _ _ | refine Kp.dropT ?_ (.inl (by omega)) | refine Kp.put ?_ (.inl (by omega)) | refine Kp.new ?_ (by omega) | refine Kp.put ?_ (.inr (by omega)) | refine Kp.newO ?_ (by omega) | refine Kp.setO ?_ (.inl (by omega)) | refine Kp.setO ?_ (.inr (by omega)) | refine Kp.trans0 ?_ (by assumption) (by omega) | refine Kp.transS ?_ (by assumption) (by omega) (fun b hb hT => by first | omega | (dsimp only at hT ⊢; omega) | (simp only at hT ⊢; omega))) 
  have a0 := h.kp hk0 (Nat.le_of_lt (by omega : nx < a + 1)) (by simp)
  generalize hH0 : H.new a #[R.vL, R.now.v, R.vW, .int .i64 R.room, .int .i64 R.left, .bool R.off, .int .i64 R.done] 47 = H0 at *
  have c0 : H0.c a 0 = some R.vL := by subst hH0; simp (disch := omega) only [go_sem, ↓reduceIte ]
  have c2 : H0.c a 2 = some R.vW := by subst hH0; simp (disch := omega) only [go_sem, ↓reduceIte ]
  rw [hvL] at c0
  rw [hvW] at c2
  refine awp_loopX (fun m env H1 nx1 => ∃ (i : Nat) (n : Int), (m = R.fl.length - i ∧ i ≤ R.fl.length ∧ 0 ≤ n ∧ n ≤ 60000 * i) ∧ env = [(1, .pointer (some ⟨a, 0, none⟩)), (3, .int .i64 n), (4, .int .i64 i)] ∧ H1 = H0 ∧ nx1 = a + 1) R.fl.length ⟨0, 0, ⟨by omega, by omega, by omega, by omega⟩, rfl, rfl, rfl⟩ (fun env H1 nx1 => ∃ (n : Int), (0 ≤ n ∧ n ≤ 60000 * k) ∧ env = [(1, .pointer (some ⟨a, 0, none⟩)), (3, .int .i64 n), (4, .int .i64 R.fl.length), (12, .bool false)] ∧ H1 = H0 ∧ nx1 = a + 1) (fun K hK m env H1 nx1 ⟨i, n, ⟨hm, hi, hn0, hn1⟩, henv, hH, hx⟩ hn => ?_) (fun env H1 nx1 ⟨n, ⟨hn0, hn1⟩, henv, hH, hx⟩ => ?_)
  · subst henv; subst hH; subst hx
    have pv : ∀ (j : Nat), j < R.was.length → ∃ x ∈ R.was, ∃ g off cap, R.vW = .slice (some ⟨g, off, none⟩) R.was.length cap ∧ H1.c g (off + j) = some x.v ∧ SlA (a + 1) H1 2 x.v x.l.length (x.l.flatMap nmC) x.own := fun j hj => by
      obtain ⟨g, off, cap, hv, hg⟩ := a0.sW.open (by omega)
      have hs := a0.sW
      rw [hv] at hs
      refine ⟨R.was[j], List.getElem_mem hj, g, off, cap, hv, ?_, a0.sWs _ (List.getElem_mem hj)⟩
      exact hs.cells.1 j _ (by rw [List.getElem?_map, List.getElem?_eq_getElem hj]; rfl)
    by_cases hlt : i < R.fl.length
    · simp (disch := omega) only [go_sem, ↓reduceIte , c0]
      refine awp_loopX (fun m env H2 nx2 => ∃ (j : Nat) (b : Bool), (m = R.was.length - j ∧ j ≤ R.was.length) ∧ env = [(1, .pointer (some ⟨a, 0, none⟩)), (3, .int .i64 n), (4, .int .i64 i), (5, .bool b), (6, .int .i64 j)] ∧ H2 = H1 ∧ nx2 = a + 1) R.was.length ⟨0, false, ⟨by omega, by omega⟩, rfl, rfl, rfl⟩ (fun env H2 nx2 => ∃ (b : Bool), env = [(1, .pointer (some ⟨a, 0, none⟩)), (3, .int .i64 n), (4, .int .i64 i), (5, .bool b), (6, .int .i64 R.was.length), (19, .bool false)] ∧ H2 = H1 ∧ nx2 = a + 1) (fun K2 hK2 m2 env2 H2 nx2 ⟨j, b, ⟨hm2, hj⟩, henv, hH, hx⟩ hn2 => ?_) (fun env H2 nx2 ⟨b, henv, hH, hx⟩ => ?_)
      · subst henv; subst hH; subst hx
        by_cases hjt : j < R.was.length
        · obtain ⟨x, hx, g, off, cap, hvW2, cj, hsx⟩ := pv j hjt
          rw [hvW] at hvW2
          simp only [Value.slice.injEq, true_and] at hvW2
          obtain ⟨rfl, rfl⟩ := hvW2
          obtain ⟨xa, xc, hxv⟩ := hsx.form
          rw [hxv] at cj
          have hxl := ho.kws x hx
          simp (disch := omega) only [go_sem, ↓reduceIte , c0, c2]
          refine awp_loop (fun m env H3 nx3 => ∃ (l : Nat) (b : Bool), (m = x.l.length - l ∧ l ≤ x.l.length) ∧ env = [(1, .pointer (some ⟨a, 0, none⟩)), (3, .int .i64 n), (4, .int .i64 i), (5, .bool b), (6, .int .i64 j), (7, .int .i64 l)] ∧ H3 = H2 ∧ nx3 = a + 1) x.l.length ⟨0, b, ⟨by omega, by omega⟩, rfl, rfl, rfl⟩ (fun m3 env3 H3 nx3 ⟨l, b3, ⟨hm3, hl⟩, henv, hH, hx⟩ hn3 => ?_)
          · subst henv; subst hH; subst hx
            by_cases hlt3 : l < x.l.length
            · obtain ⟨g3, off3, cap3, hv3, _⟩ := hsx.open (by omega)
              rw [hxv] at hv3
              simp only [Value.slice.injEq, true_and] at hv3
              obtain ⟨rfl, rfl⟩ := hv3
              rw [hxv] at hsx
              have cl : H3.c g3 (off3 + l * 2 + 1) = some (.int .i64 x.l[l].2) := by
                have := hsx.cells.1 (2 * l + 1) (.int .i64 x.l[l].2) (by rw [flat_get nmC_len x.l l x.l[l] (List.getElem?_eq_getElem hlt3) 1 (by omega)]; rfl)
                rwa [show off3 + (2 * l + 1) = off3 + l * 2 + 1 by omega] at this
              cases b3 with
              | true =>
                simp (disch := omega) only [go_sem, ↓reduceIte , c0, c2, cj, cl]
                exact ⟨x.l.length - (l + 1), by omega, l + 1, true, ⟨rfl, by omega⟩, by simp⟩
              | false =>
                simp (disch := omega) only [go_sem, ↓reduceIte , c0, c2, cj, cl]
                exact ⟨x.l.length - (l + 1), by omega, l + 1, decide (x.l[l].2 = (i : Int)), ⟨rfl, by omega⟩, by simp⟩
            · have el : l = x.l.length := by omega
              subst el
              simp (disch := omega) only [go_sem, ↓reduceIte , c0, c2, cj]
              exact ⟨R.was.length - (j + 1), by omega, j + 1, b3, ⟨rfl, by omega⟩, by simp⟩
        · have ej : j = R.was.length := by omega
          subst ej
          simp (disch := omega) only [go_sem, ↓reduceIte , c0, c2]
          exact hK2 _ _ _ ⟨_, rfl, rfl, rfl⟩
      · subst henv; subst hH; subst hx
        have hsz := kb _ (List.getElem_mem hlt)
        obtain ⟨g, off, cap, hv, _⟩ := a0.sL.open (by omega)
        have hs := a0.sL
        rw [hvL] at hv
        simp only [Value.slice.injEq, true_and] at hv
        obtain ⟨rfl, rfl⟩ := hv
        rw [hvL] at hs
        obtain ⟨fa, fc, hfv⟩ := (a0.sF _ (List.getElem_mem hlt)).form
        have ci : H2.c g (off + i * 2) = some R.fl[i].v := by
          have := hs.cells.1 (2 * i + 0) R.fl[i].v (by rw [flat_get RFile.cs_len _ i _ (List.getElem?_eq_getElem hlt) 0 (by omega)]; rfl)
          rwa [show off + (2 * i + 0) = off + i * 2 by omega] at this
        rw [hfv] at ci
        cases b with
        | true =>
          simp (disch := omega) only [go_sem, ↓reduceIte , c0, c2, ci]
          exact ⟨R.fl.length - (i + 1), by omega, i + 1, n + R.fl[i].bs.length, ⟨rfl, by omega, by omega, by omega⟩, by simp⟩
        | false =>
          simp (disch := omega) only [go_sem, ↓reduceIte , c0, c2, ci]
          exact ⟨R.fl.length - (i + 1), by omega, i + 1, n, ⟨rfl, by omega, by omega, by omega⟩, by simp⟩
    · have ei : i = R.fl.length := by omega
      subst ei
      simp (disch := omega) only [go_sem, ↓reduceIte , c0]
      exact hK _ _ _ ⟨n, ⟨hn0, by omega⟩, rfl, rfl, rfl⟩
  · subst henv; subst hH; subst hx
    simp (disch := omega) only [go_sem, ↓reduceIte ]
    exact ⟨by omega, hk0, n, rfl, hn0, hn1⟩
end Go.Proofs.Ytcdimjocdpogjaa
end
section
namespace Go.Proofs.Ytcdimjocdpogjaa
open Go.RowKit
set_option linter.unusedSimpArgs false

set_option maxHeartbeats 4000000 in
set_option maxRecDepth 20000 in
theorem append05_c {lo nx : Nat} {H : AH} {R : Rf} {k : Nat} (h : RfA nx H R) (ho : RfOk R k) (hk : k ≤ 900) (name : ByteArray) {pv : Value} {q : List Int} {ownp : Nat} (hq : SlZ nx H 1 pv q.length (bytV q) ownp) (hql : q.length ≤ 60) : ACalls Try.prog lo 40 #[R.val, .string name, pv] H nx (fun v H' nx' => ∃ R' e, v = .tuple #[R'.val, .int .i64 e] ∧ StR nx H R k R' H' nx') := by
  refine ACalls.withLo fun hlo => ?_
  refine acalls_of_awp L40 Try.func40 rfl (by kernel_rfl) ?_
  have h1 := h.sL.one
  have h2 := h.sN.one
  have h3 := h.sW.one
  have hqo := hq.one
  obtain ⟨pa, pc, rfl⟩ := hq.form
  have act := fun nx1 H1 (hn : nx ≤ nx1) (hk1 : Kp (fun _ => False) nx H H1) => act05_r (lo := lo) (h.kp hk1 hn (by simp)) ho (by omega)
  unfold Rf.val shV at act ⊢
  simp (disch := omega) only [go_sem, ↓reduceIte , h1, h2, h3]
  intro a ha
  simp (disch := omega) only [go_sem, ↓reduceIte , h1, h2, h3]
  intro b hb
  simp (disch := omega) only [go_sem, ↓reduceIte , h1, h2, h3]
  refine (act _ _ (by omega) (by repeat first | exact Kp.refl _ _ _ | refine Kp.dropT ?_ (.inl (by omega)) | refine Kp.put ?_ (.inl (by omega)) | refine Kp.new ?_ (by omega) | refine Kp.put ?_ (.inr (by omega)) | refine Kp.newO ?_ (by omega) | refine Kp.setO ?_ (.inl (by omega)) | refine Kp.setO ?_ (.inr (by omega)) | refine Kp.trans0 ?_ (by assumption) (by omega) | refine Kp.transS ?_ (by assumption) (by omega) (fun b hb hT => by first | omega | (dsimp only at hT ⊢; omega) | (simp only at hT ⊢; omega))) ).mono fun v H1 nx1 _ ⟨hx1, hk1, hv⟩ => ?_
  subst hv
  have g1 := (actF_a h).sL.one
  have g2 := (actF_a h).sN.one
  have g3 := (actF_a h).sW.one
  have hc1 := hk1.cell0
  cases hg : goesF R with
  | false =>
    simp (disch := omega) only [go_sem, ↓reduceIte , g1, g2, g3, hc1]
    exact ⟨actF R, 7, rfl, StR.act h ho (by omega) (by repeat first | exact Kp.refl _ _ _ | refine Kp.dropT ?_ (.inl (by omega)) | refine Kp.put ?_ (.inl (by omega)) | refine Kp.new ?_ (by omega) | refine Kp.put ?_ (.inr (by omega)) | refine Kp.newO ?_ (by omega) | refine Kp.setO ?_ (.inl (by omega)) | refine Kp.setO ?_ (.inr (by omega)) | refine Kp.trans0 ?_ (by assumption) (by omega) | refine Kp.transS ?_ (by assumption) (by omega) (fun b hb hT => by first | omega | (dsimp only at hT ⊢; omega) | (simp only at hT ⊢; omega))) ⟩
  | true =>
    simp (disch := omega) only [go_sem, ↓reduceIte , g1, g2, g3, hc1]
    refine (find05_c name (l := (actF R).now.l) (own := (actF R).now.own) ((actF_a h).sN.kp (S := fun _ => False) (nx' := nx1) (by repeat first | exact Kp.refl _ _ _ | refine Kp.dropT ?_ (.inl (by omega)) | refine Kp.put ?_ (.inl (by omega)) | refine Kp.new ?_ (by omega) | refine Kp.put ?_ (.inr (by omega)) | refine Kp.newO ?_ (by omega) | refine Kp.setO ?_ (.inl (by omega)) | refine Kp.setO ?_ (.inr (by omega)) | refine Kp.trans0 ?_ (by assumption) (by omega) | refine Kp.transS ?_ (by assumption) (by omega) (fun b hb hT => by first | omega | (dsimp only at hT ⊢; omega) | (simp only at hT ⊢; omega)))  (by omega) (by simp))).mono fun v H2 nx2 _ ⟨hv, hH, hx⟩ => ?_
    subst hv; subst hH; subst hx
    rcases findF_range (s := name) (actF_ok ho).now with e | e
    · simp (disch := omega) only [go_sem, ↓reduceIte , e, g1, g2, g3, hc1]
      exact ⟨actF R, 2, rfl, StR.act h ho (by omega) (by repeat first | exact Kp.refl _ _ _ | refine Kp.dropT ?_ (.inl (by omega)) | refine Kp.put ?_ (.inl (by omega)) | refine Kp.new ?_ (by omega) | refine Kp.put ?_ (.inr (by omega)) | refine Kp.newO ?_ (by omega) | refine Kp.setO ?_ (.inl (by omega)) | refine Kp.setO ?_ (.inr (by omega)) | refine Kp.trans0 ?_ (by assumption) (by omega) | refine Kp.transS ?_ (by assumption) (by omega) (fun b hb hT => by first | omega | (dsimp only at hT ⊢; omega) | (simp only at hT ⊢; omega))) ⟩
    · obtain ⟨j, hj⟩ : ∃ j : Nat, findF name (actF R).now.l = j := ⟨_, (Int.toNat_of_nonneg e.1).symm⟩
      rw [hj] at e ⊢
      have hjl : j < (actF R).fl.length := by omega
      obtain ⟨g, of, cap, hvL, hog⟩ := (actF_a h).sL.open (by omega)
      have hle := (actF_a h).sL.le
      have hgt : (actF R).fl[j]? = some (actF R).fl[j] := List.getElem?_eq_getElem hjl
      have hxs := (actF_a h).sF _ (List.getElem_mem hjl)
      have hsf := (actF_ok ho).safe _ (List.getElem_mem hjl)
      have hkb := (actF_a h).sF _ (List.getElem_mem hjl)
      have hkb2 : (actF R).fl[j].bs.length ≤ 60 * k := by
        have e0 : (actF R).fl = R.fl := by unfold actF; split <;> rfl
        have : (actF R).fl[j] ∈ R.fl := by rw [← e0]; exact List.getElem_mem hjl
        exact ho.kb _ this
      have hsL := (actF_a h).sL
      rw [hvL] at hsL
      have c0 : H.c g (of + j * 2) = some (actF R).fl[j].v := by
        have := hsL.cells.1 (2 * j + 0) (actF R).fl[j].v (by rw [flat_get RFile.cs_len _ j _ hgt 0 (by omega)]; rfl)
        rwa [show of + (2 * j + 0) = of + j * 2 by omega] at this
      have c1 : H.c g (of + j * 2 + 1) = some (.int .i64 (actF R).fl[j].safe) := by
        have := hsL.cells.1 (2 * j + 1) (.int .i64 (actF R).fl[j].safe) (by rw [flat_get RFile.cs_len _ j _ hgt 1 (by omega)]; rfl)
        rwa [show of + (2 * j + 1) = of + j * 2 + 1 by omega] at this
      have hxone := hxs.one
      obtain ⟨xa, xc, hxv⟩ := hxs.form
      simp (disch := omega) only [go_sem, ↓reduceIte , g1, g2, g3, hc1]
      refine awp_draw ord40x7 (by kernel_rfl) ?_
      simp (disch := omega) only [go_sem, ↓reduceIte , ord40x7, g1, g2, g3, hc1]
      have hk12 : Kp (fun _ => False) nx H (((((((H1.put a 0 (actF R).vL).put a 1 (actF R).now.v).put a (1 + 1) (actF R).vW).put a (1 + 1 + 1) (.int .i64 (actF R).room)).put a (1 + 1 + 1 + 1) (.int .i64 (actF R).left)).put a (1 + 1 + 1 + 1 + 1) (.bool (actF R).off)).put a (1 + 1 + 1 + 1 + 1 + 1) (.int .i64 (actF R).done)) := (by repeat first | exact Kp.refl _ _ _ | refine Kp.dropT ?_ (.inl (by omega)) | refine Kp.put ?_ (.inl (by omega)) | refine Kp.new ?_ (by omega) | refine Kp.put ?_ (.inr (by omega)) | refine Kp.newO ?_ (by omega) | refine Kp.setO ?_ (.inl (by omega)) | refine Kp.setO ?_ (.inr (by omega)) | refine Kp.trans0 ?_ (by assumption) (by omega) | refine Kp.transS ?_ (by assumption) (by omega) (fun b hb hT => by first | omega | (dsimp only at hT ⊢; omega) | (simp only at hT ⊢; omega))) 
      have hu := used05_c (lo := lo) ((actF_a h).kp hk12 (by omega : nx ≤ nx2) (by simp)) (actF_ok ho) (by omega)
      unfold Rf.val shV at hu
      refine hu.mono fun v Hu nxu _ ⟨hxu, hku, n, hv, hn0, hn1⟩ => ?_
      subst hv
      have hcu := hku.cell0
      simp (disch := omega) only [go_sem, ↓reduceIte , ord40x7, g1, g2, g3, hc1, hcu]
      refine ⟨dkeep_kp hku, ?_⟩
      by_cases hfull : (actF R).room < n + q.length
      · simp (disch := omega) only [go_sem, ↓reduceIte , hfull, decide_true, g1, g2, g3, hc1, hcu]
        exact ⟨actF R, 3, rfl, StR.act h ho (by omega) (by repeat first | exact Kp.refl _ _ _ | refine Kp.dropT ?_ (.inl (by omega)) | refine Kp.put ?_ (.inl (by omega)) | refine Kp.new ?_ (by omega) | refine Kp.put ?_ (.inr (by omega)) | refine Kp.newO ?_ (by omega) | refine Kp.setO ?_ (.inl (by omega)) | refine Kp.setO ?_ (.inr (by omega)) | refine Kp.trans0 ?_ (by assumption) (by omega) | refine Kp.transS ?_ (by assumption) (by omega) (fun b hb hT => by first | omega | (dsimp only at hT ⊢; omega) | (simp only at hT ⊢; omega))) ⟩
      · simp (disch := omega) only [go_sem, ↓reduceIte , hfull, decide_false, hvL, g1, g2, g3, hc1, hcu, c0, c1, hxone]
        intro d hd
        simp (disch := omega) only [go_sem, ↓reduceIte , hvL, g1, g2, g3, hc1, hcu, c0, c1, hxone, hxv]
        have hk13 : Kp (fun _ => False) nx H Hu := hk12.trans (U := fun _ => False) hku (by omega) (fun _ _ h => h) (fun _ _ h => h)
        have hkd : Kp (fun _ => False) nx H (((Hu.new d #[.slice none 0 0, .int .i64 0] 90).put d 0 (.slice xa (actF R).fl[j].bs.length xc)).put d 1 (.int .i64 (actF R).fl[j].safe)) := (by repeat first | exact Kp.refl _ _ _ | refine Kp.dropT ?_ (.inl (by omega)) | refine Kp.put ?_ (.inl (by omega)) | refine Kp.new ?_ (by omega) | refine Kp.put ?_ (.inr (by omega)) | refine Kp.newO ?_ (by omega) | refine Kp.setO ?_ (.inl (by omega)) | refine Kp.setO ?_ (.inr (by omega)) | refine Kp.trans0 ?_ (by assumption) (by omega) | refine Kp.transS ?_ (by assumption) (by omega) (fun b hb hT => by first | omega | (dsimp only at hT ⊢; omega) | (simp only at hT ⊢; omega))) 
        have hx2 := hxs.kp hkd (by omega : nx ≤ d + 1) (by simp)
        have hq2 := hq.kp hkd (by omega : nx ≤ d + 1) (by simp)
        rw [hxv] at hx2
        refine appendQ_two (aw_append sl22 zero5 rfl by5 (SlA.nil _ _ _) (hx2.src sl22 bytV_one) (by simp only [maxLen]; omega) (by omega) (.inl rfl) fun v3 H3 nx3 own3 hn3 hs3 ho3 hk3 _ => ?_)
        rw [Nat.zero_add, List.nil_append] at hs3
        have hone3 := hs3.one
        have hle3 := hs3.le
        have hk3' := Kp.mono (T := fun _ => False) hk3 (Nat.le_refl _) (fun b hb e => by omega)
        clear hk3
        have hc3 := hk3'.cell0
        have hq3 := hq2.kp hk3' (by omega) (by simp)
        simp (disch := omega) only [go_sem, ↓reduceIte , hone3]
        refine appendQ_two (aw_append sl22 zero5 rfl by5 hs3 (hq3.src sl22 bytV_one) (by simp only [maxLen]; omega) (by omega) (by omega) fun v7 H7 nx7 own7 hn7 hs7 ho7 hk7 _ => ?_)
        have hone7 := hs7.one
        have hle7 := hs7.le
        have hk7' := Kp.trans (U := fun _ => False) hk3' hk7 (by omega) (fun _ _ h => h) (fun b hb h => by omega)
        clear hk7
        have hc7 := hk7'.cell0
        simp (disch := omega) only [go_sem, ↓reduceIte , hvL, g1, g2, g3, hone7, hc1, hcu, hc7]
        have hk17 := hkd.trans (U := fun _ => False) hk7' (by omega) (fun _ _ h => h) (fun _ _ h => h)
        have kf := (actF_ok ho).kf
        refine (changed05_c (vL := .slice (some ⟨g, of, none⟩) (actF R).fl.length cap) (vN := (actF R).now.v) (vW := (actF R).vW) (vx := v7) (actF R).room (actF R).left (actF R).done (actF R).off (fl := (actF R).fl.map fun x => (x.v, x.safe)) (ownL := (actF R).oL) g2 g3 hone7 ?_ (fun u hu => ?_) (by rw [List.length_map]; omega) j (by rw [List.length_map]; omega) (actF R).fl[j].safe).mono fun v5 H5 nx5 _ ⟨hx5, hk5, vL5, own5, hs5, ho5, hv⟩ => ?_
        · rw [List.length_map, fl_map]
          exact hsL.kp (S := fun _ => False) (Kp.put hk17 (.inl (by omega))) (by omega) (by simp)
        · obtain ⟨x, hx, rfl⟩ := List.mem_map.1 hu
          exact ((actF_a h).sF x hx).one
        · subst hv
          have hc5 := hk5.cell0
          have hone5 := hs5.one
          unfold shV
          simp (disch := omega) only [go_sem, ↓reduceIte , hone5, g1, g2, g3, hc1, hcu, hc7, hc5]
          refine ⟨{ actF R with fl := (actF R).fl.set j ⟨v7, own7, (actF R).fl[j].bs ++ q, (actF R).fl[j].safe⟩, vL := vL5, oL := own5 }, 0, rfl, ?_⟩
          have hm : ((actF R).fl.map fun x => (x.v, x.safe)).set j (v7, (actF R).fl[j].safe) = ((actF R).fl.set j ⟨v7, own7, (actF R).fl[j].bs ++ q, (actF R).fl[j].safe⟩).map fun x => (x.v, x.safe) := by
            rw [List.map_set]
          rw [hm, List.length_map, fl_map] at hs5
          have hs7' := (hs7.put (b := d) (o := 0) (u := v7) (by omega)).kp hk5 hx5 (by simp)
          refine StR.changed (R1 := actF R) (i := j) (x := ⟨v7, own7, (actF R).fl[j].bs ++ q, (actF R).fl[j].safe⟩) (vL := vL5) (ownL := own5) (StR.act h ho (by omega) (by repeat first | exact Kp.refl _ _ _ | refine Kp.dropT ?_ (.inl (by omega)) | refine Kp.put ?_ (.inl (by omega)) | refine Kp.new ?_ (by omega) | refine Kp.put ?_ (.inr (by omega)) | refine Kp.newO ?_ (by omega) | refine Kp.setO ?_ (.inl (by omega)) | refine Kp.setO ?_ (.inr (by omega)) | refine Kp.trans0 ?_ (by assumption) (by omega) | refine Kp.transS ?_ (by assumption) (by omega) (fun b hb hT => by first | omega | (dsimp only at hT ⊢; omega) | (simp only at hT ⊢; omega))) ) (by exact (by repeat first | assumption | refine SlA.dropT ?_ | refine SlA.put ?_ (by omega) | refine SlA.new ?_ (by omega) | refine SlA.newO ?_ (by omega) | refine SlA.setO ?_) ) (by omega) (by dsimp only; rw [List.length_append, bytV_append]; exact (by repeat first | assumption | refine SlA.dropT ?_ | refine SlA.put ?_ (by omega) | refine SlA.new ?_ (by omega) | refine SlA.newO ?_ (by omega) | refine SlA.setO ?_) ) (by dsimp only; omega) ⟨hsf.1, by dsimp only; rw [List.length_append]; omega⟩ (by dsimp only; rw [List.length_append]; omega)
end Go.Proofs.Ytcdimjocdpogjaa
end
section
namespace Go.Proofs.Ytcdimjocdpogjaa
open Go.RowKit
set_option linter.unusedSimpArgs false

set_option maxHeartbeats 4000000 in
set_option maxRecDepth 20000 in
theorem cut05_c {lo nx : Nat} {H : AH} {R : Rf} {k : Nat} (h : RfA nx H R) (ho : RfOk R k) (hk : k ≤ 1000) (name : ByteArray) (n : Int) : ACalls Try.prog lo 46 #[R.val, .string name, .int .i64 n] H nx (fun v H' nx' => ∃ R' e, v = .tuple #[R'.val, .int .i64 e] ∧ StR nx H R k R' H' nx') := by
  refine ACalls.withLo fun hlo => ?_
  refine acalls_of_awp L46 Try.func46 rfl (by kernel_rfl) ?_
  have h1 := h.sL.one
  have h2 := h.sN.one
  have h3 := h.sW.one
  have act := fun nx1 H1 (hn : nx ≤ nx1) (hk1 : Kp (fun _ => False) nx H H1) => act05_r (lo := lo) (h.kp hk1 hn (by simp)) ho (by omega)
  unfold Rf.val shV at act ⊢
  simp (disch := omega) only [go_sem, ↓reduceIte , h1, h2, h3]
  intro a ha
  simp (disch := omega) only [go_sem, ↓reduceIte , h1, h2, h3]
  intro b hb
  simp (disch := omega) only [go_sem, ↓reduceIte , h1, h2, h3]
  refine (act _ _ (by omega) (by repeat first | exact Kp.refl _ _ _ | refine Kp.dropT ?_ (.inl (by omega)) | refine Kp.put ?_ (.inl (by omega)) | refine Kp.new ?_ (by omega) | refine Kp.put ?_ (.inr (by omega)) | refine Kp.newO ?_ (by omega) | refine Kp.setO ?_ (.inl (by omega)) | refine Kp.setO ?_ (.inr (by omega)) | refine Kp.trans0 ?_ (by assumption) (by omega) | refine Kp.transS ?_ (by assumption) (by omega) (fun b hb hT => by first | omega | (dsimp only at hT ⊢; omega) | (simp only at hT ⊢; omega))) ).mono fun v H1 nx1 _ ⟨hx1, hk1, hv⟩ => ?_
  subst hv
  have g1 := (actF_a h).sL.one
  have g2 := (actF_a h).sN.one
  have g3 := (actF_a h).sW.one
  have hc1 := hk1.cell0
  cases hg : goesF R with
  | false =>
    simp (disch := omega) only [go_sem, ↓reduceIte , g1, g2, g3, hc1]
    exact ⟨actF R, 7, rfl, StR.act h ho (by omega) (by repeat first | exact Kp.refl _ _ _ | refine Kp.dropT ?_ (.inl (by omega)) | refine Kp.put ?_ (.inl (by omega)) | refine Kp.new ?_ (by omega) | refine Kp.put ?_ (.inr (by omega)) | refine Kp.newO ?_ (by omega) | refine Kp.setO ?_ (.inl (by omega)) | refine Kp.setO ?_ (.inr (by omega)) | refine Kp.trans0 ?_ (by assumption) (by omega) | refine Kp.transS ?_ (by assumption) (by omega) (fun b hb hT => by first | omega | (dsimp only at hT ⊢; omega) | (simp only at hT ⊢; omega))) ⟩
  | true =>
    simp (disch := omega) only [go_sem, ↓reduceIte , g1, g2, g3, hc1]
    refine (find05_c name (l := (actF R).now.l) (own := (actF R).now.own) ((actF_a h).sN.kp (S := fun _ => False) (nx' := nx1) (by repeat first | exact Kp.refl _ _ _ | refine Kp.dropT ?_ (.inl (by omega)) | refine Kp.put ?_ (.inl (by omega)) | refine Kp.new ?_ (by omega) | refine Kp.put ?_ (.inr (by omega)) | refine Kp.newO ?_ (by omega) | refine Kp.setO ?_ (.inl (by omega)) | refine Kp.setO ?_ (.inr (by omega)) | refine Kp.trans0 ?_ (by assumption) (by omega) | refine Kp.transS ?_ (by assumption) (by omega) (fun b hb hT => by first | omega | (dsimp only at hT ⊢; omega) | (simp only at hT ⊢; omega)))  (by omega) (by simp))).mono fun v H2 nx2 _ ⟨hv, hH, hx⟩ => ?_
    subst hv; subst hH; subst hx
    rcases findF_range (s := name) (actF_ok ho).now with e | e
    · simp (disch := omega) only [go_sem, ↓reduceIte , e, g1, g2, g3, hc1]
      exact ⟨actF R, 2, rfl, StR.act h ho (by omega) (by repeat first | exact Kp.refl _ _ _ | refine Kp.dropT ?_ (.inl (by omega)) | refine Kp.put ?_ (.inl (by omega)) | refine Kp.new ?_ (by omega) | refine Kp.put ?_ (.inr (by omega)) | refine Kp.newO ?_ (by omega) | refine Kp.setO ?_ (.inl (by omega)) | refine Kp.setO ?_ (.inr (by omega)) | refine Kp.trans0 ?_ (by assumption) (by omega) | refine Kp.transS ?_ (by assumption) (by omega) (fun b hb hT => by first | omega | (dsimp only at hT ⊢; omega) | (simp only at hT ⊢; omega))) ⟩
    · obtain ⟨j, hj⟩ : ∃ j : Nat, findF name (actF R).now.l = j := ⟨_, (Int.toNat_of_nonneg e.1).symm⟩
      rw [hj] at e ⊢
      have hjl : j < (actF R).fl.length := by omega
      obtain ⟨g, of, cap, hvL, hog⟩ := (actF_a h).sL.open (by omega)
      have hle := (actF_a h).sL.le
      have hgt : (actF R).fl[j]? = some (actF R).fl[j] := List.getElem?_eq_getElem hjl
      have hxs := (actF_a h).sF _ (List.getElem_mem hjl)
      have hkb := (actF_ok ho).kb _ (List.getElem_mem hjl)
      have hsL := (actF_a h).sL
      rw [hvL] at hsL
      have c0 : H.c g (of + j * 2) = some (actF R).fl[j].v := by
        have := hsL.cells.1 (2 * j + 0) (actF R).fl[j].v (by rw [flat_get RFile.cs_len _ j _ hgt 0 (by omega)]; rfl)
        rwa [show of + (2 * j + 0) = of + j * 2 by omega] at this
      have hxone := hxs.one
      obtain ⟨xa, xc, hxv⟩ := hxs.form
      rw [hxv] at c0
      by_cases hn0 : n < 0
      · simp (disch := omega) only [go_sem, ↓reduceIte , hn0, decide_true, hvL, g1, g2, g3, hc1, c0]
        exact ⟨actF R, 1, by rw [hvL], StR.act h ho (by omega) (by repeat first | exact Kp.refl _ _ _ | refine Kp.dropT ?_ (.inl (by omega)) | refine Kp.put ?_ (.inl (by omega)) | refine Kp.new ?_ (by omega) | refine Kp.put ?_ (.inr (by omega)) | refine Kp.newO ?_ (by omega) | refine Kp.setO ?_ (.inl (by omega)) | refine Kp.setO ?_ (.inr (by omega)) | refine Kp.trans0 ?_ (by assumption) (by omega) | refine Kp.transS ?_ (by assumption) (by omega) (fun b hb hT => by first | omega | (dsimp only at hT ⊢; omega) | (simp only at hT ⊢; omega))) ⟩
      · by_cases hn1 : (actF R).fl[j].bs.length < n
        · simp (disch := omega) only [go_sem, ↓reduceIte , hn0, hn1, decide_true, decide_false, hvL, g1, g2, g3, hc1, c0]
          exact ⟨actF R, 1, by rw [hvL], StR.act h ho (by omega) (by repeat first | exact Kp.refl _ _ _ | refine Kp.dropT ?_ (.inl (by omega)) | refine Kp.put ?_ (.inl (by omega)) | refine Kp.new ?_ (by omega) | refine Kp.put ?_ (.inr (by omega)) | refine Kp.newO ?_ (by omega) | refine Kp.setO ?_ (.inl (by omega)) | refine Kp.setO ?_ (.inr (by omega)) | refine Kp.trans0 ?_ (by assumption) (by omega) | refine Kp.transS ?_ (by assumption) (by omega) (fun b hb hT => by first | omega | (dsimp only at hT ⊢; omega) | (simp only at hT ⊢; omega))) ⟩
        · simp (disch := omega) only [go_sem, ↓reduceIte , hn0, hn1, decide_true, decide_false, hvL, g1, g2, g3, hc1, c0]
          have hbc : (actF R).fl[j].bs.length ≤ xc := by
            rw [hxv] at hxs
            rcases hxs.2.2 with ⟨e, _, _⟩ | ⟨_, _, _, e, _, h, _⟩
            · simp only [Value.slice.injEq] at e; omega
            · simp only [Value.slice.injEq] at e; omega
          have hsv := slice_hm (P := Try.prog) (H := AH.empty) (n := (actF R).fl[j].bs.length) (c := xc) (a := xa) (kh := .i64) (km := .i64) sl22 (by omega : 0 ≤ n) (Int.le_refl n) (by omega)
          have hxs' := hxs
          rw [hxv] at hxs'
          have hcut := hxs'.cut (l := 0) (h := n.toNat) (m := n.toNat) (by omega) (by omega) (by omega) (by omega)
          generalize hcv : cutS xa 1 n.toNat 0 n.toNat = cv at hsv hcut
          have hcl : ((bytV (actF R).fl[j].bs).drop (0 * 1)).take ((n.toNat - 0) * 1) = bytV ((actF R).fl[j].bs.take n.toNat) := by simp [bytV, List.map_take]
          have hlen : ((actF R).fl[j].bs.take n.toNat).length = n.toNat - 0 := by rw [List.length_take]; omega
          rw [hcl, ← hlen] at hcut
          obtain ⟨ca, cc, hcv2⟩ := hcut.form
          have hone : (Value.slice ca ((actF R).fl[j].bs.take n.toNat).length cc).oneCell' = true := rfl
          rw [hcv2] at hsv hcut
          have kf := (actF_ok ho).kf
          refine awp_draw ord46x9 (by kernel_rfl) ?_
          simp (disch := omega) only [go_sem, ↓reduceIte , ord46x9, hvL, g1, g2, g3, hc1, c0, hsv, hone]
          refine (changed05_c (vL := .slice (some ⟨g, of, none⟩) (actF R).fl.length cap) (vN := (actF R).now.v) (vW := (actF R).vW) (vx := .slice ca ((actF R).fl[j].bs.take n.toNat).length cc) (actF R).room (actF R).left (actF R).done (actF R).off (fl := (actF R).fl.map fun x => (x.v, x.safe)) (ownL := (actF R).oL) g2 g3 hone ?_ (fun u hu => ?_) (by rw [List.length_map]; omega) j (by rw [List.length_map]; omega) n).mono fun v5 H5 nx5 _ ⟨hx5, hk5, vL5, own5, hs5, ho5, hv⟩ => ?_
          · rw [List.length_map, fl_map]
            exact hsL.kp (S := fun _ => False) (by repeat first | exact Kp.refl _ _ _ | refine Kp.dropT ?_ (.inl (by omega)) | refine Kp.put ?_ (.inl (by omega)) | refine Kp.new ?_ (by omega) | refine Kp.put ?_ (.inr (by omega)) | refine Kp.newO ?_ (by omega) | refine Kp.setO ?_ (.inl (by omega)) | refine Kp.setO ?_ (.inr (by omega)) | refine Kp.trans0 ?_ (by assumption) (by omega) | refine Kp.transS ?_ (by assumption) (by omega) (fun b hb hT => by first | omega | (dsimp only at hT ⊢; omega) | (simp only at hT ⊢; omega)))  (by omega) (by simp)
          · obtain ⟨x, hx, rfl⟩ := List.mem_map.1 hu
            exact ((actF_a h).sF x hx).one
          · subst hv
            have hc5 := hk5.cell0
            have hone5 := hs5.one
            unfold shV
            simp (disch := omega) only [go_sem, ↓reduceIte , ord46x9, hone5, g1, g2, g3, hc1, hc5]
            refine ⟨dkeep_kp hk5, ?_⟩
            refine ⟨dkeep_last (by kernel_rfl), ?_⟩
            refine ⟨{ actF R with fl := (actF R).fl.set j ⟨.slice ca ((actF R).fl[j].bs.take n.toNat).length cc, (actF R).fl[j].own, (actF R).fl[j].bs.take n.toNat, n⟩, vL := vL5, oL := own5 }, 0, rfl, ?_⟩
            have hm : ((actF R).fl.map fun x => (x.v, x.safe)).set j (.slice ca ((actF R).fl[j].bs.take n.toNat).length cc, n) = ((actF R).fl.set j ⟨.slice ca ((actF R).fl[j].bs.take n.toNat).length cc, (actF R).fl[j].own, (actF R).fl[j].bs.take n.toNat, n⟩).map fun x => (x.v, x.safe) := by
              rw [List.map_set]
            rw [hm, List.length_map, fl_map] at hs5
            have hkf : Kp (fun _ => False) nx H (((((((H5.put b 0 vL5).put b 1 (actF R).now.v).put b (1 + 1) (actF R).vW).put b (1 + 1 + 1) (.int .i64 (actF R).room)).put b (1 + 1 + 1 + 1) (.int .i64 (actF R).left)).put b (1 + 1 + 1 + 1 + 1) (.bool (actF R).off)).put b (1 + 1 + 1 + 1 + 1 + 1) (.int .i64 (actF R).done)) := (by repeat first | exact Kp.refl _ _ _ | refine Kp.dropT ?_ (.inl (by omega)) | refine Kp.put ?_ (.inl (by omega)) | refine Kp.new ?_ (by omega) | refine Kp.put ?_ (.inr (by omega)) | refine Kp.newO ?_ (by omega) | refine Kp.setO ?_ (.inl (by omega)) | refine Kp.setO ?_ (.inr (by omega)) | refine Kp.trans0 ?_ (by assumption) (by omega) | refine Kp.transS ?_ (by assumption) (by omega) (fun b hb hT => by first | omega | (dsimp only at hT ⊢; omega) | (simp only at hT ⊢; omega))) 
            have hcut' := hcut.kp hkf (by omega : nx ≤ nx5) (by simp)
            exact StR.changed (R1 := actF R) (i := j) (x := ⟨.slice ca ((actF R).fl[j].bs.take n.toNat).length cc, (actF R).fl[j].own, (actF R).fl[j].bs.take n.toNat, n⟩) (vL := vL5) (ownL := own5) (StR.act h ho (by omega) hkf) (by exact (by repeat first | assumption | refine SlA.dropT ?_ | refine SlA.put ?_ (by omega) | refine SlA.new ?_ (by omega) | refine SlA.newO ?_ (by omega) | refine SlA.setO ?_) ) (by omega) hcut' (.inl ⟨(actF R).fl[j], List.getElem_mem hjl, rfl⟩) ⟨by dsimp only; omega, by dsimp only; omega⟩ (by dsimp only; omega)
end Go.Proofs.Ytcdimjocdpogjaa
end
