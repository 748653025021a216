/- Engine: Chosen, Route, Mark, Bad, Counts: in our own logic. -/
import Derived.Test.YtngnbafididkcaaGreatN9
namespace Go.Proofs.YtngnbafididkcaaGreat
open Go.RowKit
set_option linter.unusedSimpArgs false

section
variable {lo nx : Nat} {H : AH} {p : Nat} {e : Eng} {y : ELay} {col : Nat → Nat}
set_option maxRecDepth 20000 in
theorem echosen_c (hA : EngA lo nx H p e y col) (hl : e.sel.length ≤ 1000000) : ACalls Tryz.prog lo 38 #[.pointer (some ⟨p, 0, none⟩)] H nx (fun v H' nx' => nx ≤ nx' ∧ Kp (fun _ => False) nx H H' ∧ ∃ own', SlA nx' H' 5 v e.sel.length (rtCells e.sel) own' ∧ (own' = 0 ∨ nx < own')) := by
  refine acalls_of_awp L38 Tryz.func38 rfl (by kernel_rfl) ?_
  have c5 := hA.c.c5
  have hone := hA.s5.one
  simp (disch := omega) only [go_sem, ↓reduceIte , c5, hone]
  refine (cloneRt_c hA.s5 hl).mono fun v H1 nx1 _ ⟨hx, hk, own', hs, ho⟩ => ?_
  have hone1 := hs.one
  simp (disch := omega) only [go_sem, ↓reduceIte , hone1]
  exact ⟨hx, hk, own', hs, ho⟩
def rt0 : Rt := ⟨0, 0, 0, 0, 0⟩
def routeE (e : Eng) (a n : Int) : Option Rt := e.sel.find? fun x => samePx x a n
structure RoI (nx0 : Nat) (H0 : AH) (b4 b3 : Nat) (sv : Value) (l : List Rt) (a n : Int) (m : Nat) (env : Env) (H : AH) (nx i : Nat) : Prop where
  hm : m = l.length - i
  hi : i ≤ l.length
  henv : env = [(3, .pointer (some ⟨b3, 0, none⟩)), (4, .pointer (some ⟨b4, 0, none⟩)), (9, sv), (10, .int .i64 l.length), (11, .int .i64 i)]
  hx : nx0 ≤ nx
  hk : Kp (fun _ => False) nx0 H0 H
  hno : ∀ x ∈ l.take i, samePx x a n = false
set_option maxHeartbeats 1000000 in
set_option maxRecDepth 20000 in
theorem eroute_c (hA : EngA lo nx H p e y col) (hl : e.sel.length ≤ 1000000) (a n : Int) : ACalls Tryz.prog lo 18 #[.pointer (some ⟨p, 0, none⟩), .agg #[.int .u32 a, .int .u8 n]] H nx (fun v H' nx' => nx ≤ nx' ∧ Kp (fun _ => False) nx H H' ∧ v = .tuple #[.agg ((routeE e a n).getD rt0).cells.toArray, .bool (routeE e a n).isSome]) := by
  refine ACalls.withLo fun hlo => ?_
  refine acalls_of_awp L18 Tryz.func18 rfl (by kernel_rfl) ?_
  simp (disch := omega) only [go_sem, ↓reduceIte ]
  intro b3 h3
  simp (disch := omega) only [go_sem, ↓reduceIte ]
  intro b4 h4
  have kb : Kp (fun _ => False) nx H ((H.new b3 #[.int .u32 a, .int .u8 n] 30).new b4 #[.int .u32 0, .int .u8 0, .int .i64 0, .int .u16 0, .int .u16 0] 40) := (by repeat first | exact Kp.refl _ _ _ | refine Kp.dropT ?_ (.inl (by omega)) | refine Kp.put ?_ (.inl (by omega)) | refine Kp.new ?_ (by omega) | refine Kp.put ?_ (.inr (by omega)) | refine Kp.newO ?_ (by omega) | refine Kp.setO ?_ (.inl (by omega)) | refine Kp.setO ?_ (.inr (by omega)) | refine Kp.trans0 ?_ (by assumption) (by omega) | refine Kp.transS ?_ (by assumption) (by omega) (fun b hb hT => by first | omega | (dsimp only at hT ⊢; omega) | (simp only at hT ⊢; omega))) 
  simp (disch := omega) only [go_sem, ↓reduceIte ]
  refine (echosen_c (hA.kp' (nx' := b4 + 1) kb (by omega) (by simp)) hl).mono fun v H1 nx1 _ ⟨hx1, hk1, own, hs, ho⟩ => ?_
  obtain ⟨aa, ac, rfl⟩ := hs.form
  have k1 : Kp (fun _ => False) nx H H1 := kb.trans (U := fun _ => False) hk1 (by omega) (fun _ _ h => h) (fun _ _ h => h)
  have cb3 : H1.c b3 0 = some (.int .u32 a) := by rw [hk1.cell0 b3 _ (by omega)]; simp (disch := omega) only [go_sem, ↓reduceIte ]
  have cb31 : H1.c b3 1 = some (.int .u8 n) := by rw [hk1.cell0 b3 _ (by omega)]; simp (disch := omega) only [go_sem, ↓reduceIte ]
  have cb4 : ∀ o, H1.c b4 o = (#[.int .u32 0, .int .u8 0, .int .i64 0, .int .u16 0, .int .u16 0] : Array Value)[o]? := fun o => by rw [hk1.cell0 b4 _ (by omega), new_same]
  simp (disch := omega) only [go_sem, ↓reduceIte ]
  refine awp_loop (fun m env H nx => ∃ i, RoI nx1 H1 b4 b3 (.slice aa e.sel.length ac) e.sel a n m env H nx i) e.sel.length ⟨0, ⟨by omega, by omega, rfl, Nat.le_refl _, Kp.refl _ _ _, by simp⟩⟩ (fun m env H2 nx2 ⟨i, hI⟩ hn => ?_)
  obtain ⟨hm, hi, henv, hx, hk, hno⟩ := hI
  subst henv
  have hsn := hs.kp hk hx (by simp)
  have k2 : Kp (fun _ => False) nx H H2 := k1.trans (U := fun _ => False) hk (by omega) (fun _ _ h => h) (fun _ _ h => h)
  have c4 : ∀ o, H2.c b4 o = (#[.int .u32 0, .int .u8 0, .int .i64 0, .int .u16 0, .int .u16 0] : Array Value)[o]? := fun o => by rw [hk.cell0 b4 _ (by omega)]; exact cb4 o
  have c40 := c4 0
  have c41 := c4 1
  have c42 := c4 (1 + 1)
  have c43 := c4 (1 + 1 + 1)
  have c44 := c4 (1 + 1 + 1 + 1)
  have c30 : H2.c b3 0 = some (.int .u32 a) := by rw [hk.cell0 b3 _ (by omega)]; exact cb3
  have c31 : H2.c b3 1 = some (.int .u8 n) := by rw [hk.cell0 b3 _ (by omega)]; exact cb31
  by_cases hlt : i < e.sel.length
  · obtain ⟨g, off, cap, hv, hgo⟩ := hs.open (by omega)
    simp only [Value.slice.injEq, true_and] at hv
    obtain ⟨rfl, rfl⟩ := hv
    have hx0 : e.sel[i]? = some e.sel[i] := List.getElem?_eq_getElem hlt
    have hld := rt_load hsn hx0
    have hfind := fun h => take_next (q := fun x => samePx x a n) hlt hno h
    have hfs : samePx e.sel[i] a n = true → routeE e a n = some e.sel[i] := fun h => by
      unfold routeE
      rw [List.find?_eq_some_iff_append]
      exact ⟨h, e.sel.take i, e.sel.drop (i + 1), by rw [← List.drop_eq_getElem_cons hlt, List.take_append_drop], fun z hz => by rw [hno z hz]; rfl⟩
    generalize e.sel[i] = x at hld hx0 hfind hfs
    unfold Rt.cells at hld
    simp (disch := omega) only [go_sem, ↓reduceIte , hld]
    intro d hd
    by_cases h1 : x.addr = a
    · by_cases h2 : x.len = n
      · have hr := hfs (by unfold samePx; simp [h1, h2])
        rw [hr]
        unfold Rt.cells
        simp (disch := omega) only [go_sem, ↓reduceIte , c30, c31, c40, c41, c42, c43, c44, h1, h2]
        subst h1; subst h2
        exact ⟨by omega, k2.trans (T := fun b => nx ≤ b) (U := fun _ => False) (nx' := nx2) (show Kp (fun b => nx ≤ b) nx2 H2 _ from (by repeat first | exact Kp.refl _ _ _ | refine Kp.dropT ?_ (.inl (by omega)) | refine Kp.put ?_ (.inl (by omega)) | refine Kp.new ?_ (by omega) | refine Kp.put ?_ (.inr (by omega)) | refine Kp.newO ?_ (by omega) | refine Kp.setO ?_ (.inl (by omega)) | refine Kp.setO ?_ (.inr (by omega)) | refine Kp.trans0 ?_ (by assumption) (by omega) | refine Kp.transS ?_ (by assumption) (by omega) (fun b hb hT => by first | omega | (dsimp only at hT ⊢; omega) | (simp only at hT ⊢; omega))) ) (by omega) (fun _ _ h => h) (fun _ _ h => by omega), rfl⟩
      · simp (disch := omega) only [go_sem, ↓reduceIte , c30, c31, h1, h2]
        exact ⟨e.sel.length - (i + 1), by omega, i + 1, ⟨rfl, by omega, rfl, by omega, hk.trans (U := fun _ => False) (nx' := nx2) (show Kp (fun _ => False) nx2 H2 _ from (by repeat first | exact Kp.refl _ _ _ | refine Kp.dropT ?_ (.inl (by omega)) | refine Kp.put ?_ (.inl (by omega)) | refine Kp.new ?_ (by omega) | refine Kp.put ?_ (.inr (by omega)) | refine Kp.newO ?_ (by omega) | refine Kp.setO ?_ (.inl (by omega)) | refine Kp.setO ?_ (.inr (by omega)) | refine Kp.trans0 ?_ (by assumption) (by omega) | refine Kp.transS ?_ (by assumption) (by omega) (fun b hb hT => by first | omega | (dsimp only at hT ⊢; omega) | (simp only at hT ⊢; omega))) ) hx (fun _ _ h => h) (fun _ _ h => h), hfind (by unfold samePx; simp [h2])⟩⟩
    · simp (disch := omega) only [go_sem, ↓reduceIte , c30, c31, h1]
      exact ⟨e.sel.length - (i + 1), by omega, i + 1, ⟨rfl, by omega, rfl, by omega, hk.trans (U := fun _ => False) (nx' := nx2) (show Kp (fun _ => False) nx2 H2 _ from (by repeat first | exact Kp.refl _ _ _ | refine Kp.dropT ?_ (.inl (by omega)) | refine Kp.put ?_ (.inl (by omega)) | refine Kp.new ?_ (by omega) | refine Kp.put ?_ (.inr (by omega)) | refine Kp.newO ?_ (by omega) | refine Kp.setO ?_ (.inl (by omega)) | refine Kp.setO ?_ (.inr (by omega)) | refine Kp.trans0 ?_ (by assumption) (by omega) | refine Kp.transS ?_ (by assumption) (by omega) (fun b hb hT => by first | omega | (dsimp only at hT ⊢; omega) | (simp only at hT ⊢; omega))) ) hx (fun _ _ h => h) (fun _ _ h => h), hfind (by unfold samePx; simp [h1])⟩⟩
  · have ei : i = e.sel.length := by omega
    subst ei
    have hr : routeE e a n = none := by
      unfold routeE
      rw [List.find?_eq_none]
      intro x hx
      rw [hno x (by rw [List.take_length]; exact hx)]
      simp
    rw [hr]
    simp (disch := omega) only [go_sem, ↓reduceIte , c40, c41, c42, c43, c44]
    exact ⟨by omega, k2.trans (T := fun b => nx ≤ b) (U := fun _ => False) (nx' := nx2) (show Kp (fun b => nx ≤ b) nx2 H2 _ from (by repeat first | exact Kp.refl _ _ _ | refine Kp.dropT ?_ (.inl (by omega)) | refine Kp.put ?_ (.inl (by omega)) | refine Kp.new ?_ (by omega) | refine Kp.put ?_ (.inr (by omega)) | refine Kp.newO ?_ (by omega) | refine Kp.setO ?_ (.inl (by omega)) | refine Kp.setO ?_ (.inr (by omega)) | refine Kp.trans0 ?_ (by assumption) (by omega) | refine Kp.transS ?_ (by assumption) (by omega) (fun b hb hT => by first | omega | (dsimp only at hT ⊢; omega) | (simp only at hT ⊢; omega))) ) (by omega) (fun _ _ h => h) (fun _ _ h => by omega), rfl⟩
end
end Go.Proofs.YtngnbafididkcaaGreat
