/- EngineHops: in our own logic. -/
import Derived.Test.YtngnbafididkcaaGreatN41
namespace Go.Proofs.YtngnbafididkcaaGreat
open Go.RowKit
set_option linter.unusedSimpArgs false

set_option maxHeartbeats 4000000 in
set_option maxRecDepth 20000 in
theorem engineHops_c {lo nx : Nat} {H : AH} (p s n0 : Int) (hp : 0 ≤ p ∧ p ≤ 255) (_hs : 0 ≤ s ∧ s ≤ 65535) (hn0 : 0 ≤ n0 ∧ n0 ≤ 255) : ACalls Tryz.prog lo 10 #[.int .u8 p, .int .u16 s, .int .u8 n0] H nx (fun v H' nx' => v = .bool true ∧ nx ≤ nx' ∧ Kp (fun _ => False) nx H H') := by
  refine ACalls.withLo fun hlo => ?_
  refine acalls_of_awp L10 Tryz.func10 rfl (by kernel_rfl) ?_
  have hmod : 0 ≤ n0 % 65 ∧ n0 % 65 ≤ 64 := by omega
  simp (disch := omega) only [go_sem, ↓reduceIte ]
  refine awake17_c.mono fun v H1 nx1 _ ⟨hv, hx1, hk1⟩ => ?_
  subst hv
  simp (disch := omega) only [go_sem, ↓reduceIte ]
  refine (met17_c 96 96).mono fun v H2 nx2 _ ⟨q, y2, col, hv, st⟩ => ?_
  subst hv
  have hx2 := st.le
  have o0 := OneE.start 96 96 p (by omega) (by omega)
  simp (disch := omega) only [go_sem, ↓reduceIte ]
  refine (eselect_c st.a o0.pre).mono fun v H3 nx3 _ ⟨e1, L, ks, es1, es2, ts', tb, d, l2, y3, c3, own3, hse, s3, hsl3, how3, hko3⟩ => ?_
  obtain ⟨o1, hr1, _⟩ := o0.sel hp.1 hp.2 (by omega) hse
  have hr1 : routeE e1 (pfxA p) (pfxN p) = none := by rw [hr1]; rfl
  obtain ⟨ha1, hl1⟩ := hse.bare rfl rfl rfl rfl
  have hone3 := hsl3.one
  have hx3 := s3.le
  simp (disch := omega) only [go_sem, ↓reduceIte , hone3]
  refine (etell0_c s3.a 1 (by omega) (by rw [hl1]; simp) o1.pre.sl (by rw [ha1]; simp)).mono fun v H4 nx4 _ ⟨v4, y4, c4, own4, hv, s4, hsl4, how4, hko4⟩ => ?_
  subst hv
  have o2 := o1.tell
  have hr2 : routeE (tellE e1) (pfxA p) (pfxN p) = none := by rw [tellE_route]; exact hr1
  have ha2 : (tellE e1).asks = [] := by rw [tellE_eq]
  have hd2 : (tellE e1).due = false := by rw [tellE_eq]
  generalize tellE e1 = e2 at s4 o2 hr2 ha2 hd2
  have hone4 := hsl4.one
  have hx4 := s4.le
  simp (disch := omega) only [go_sem, ↓reduceIte , hone4]
  refine (pfx_c p hp.1 hp.2 _ _).mono fun v H5 nx5 _ ⟨hv, hx5, hk5⟩ => ?_
  subst hv
  simp (disch := omega) only [go_sem, ↓reduceIte ]
  refine buildSQ_all (n := 1) [.agg #[.int .u8 4, .int .u64 (n0 % 65), .int .i64 0, .int .u32 (pfxA p), .int .u8 (pfxN p), .int .u16 s, .int .u16 0]] sl34 zero32 (by omega) (by omega) rfl (by simp [cells_agg]) fun f hf => ?_
  have hlit := pt_lit H5 f 32 (hopP p s (n0 % 65))
  have s6 := ((EngS.refl s4.a).still hk5 hx5).still (nx2 := f + 1) (part_fresh H5 f (hopP p s (n0 % 65)) nx5 hf) (by omega)
  simp (disch := omega) only [go_sem, ↓reduceIte ]
  refine (hearReq_c (fr := 1) (x := hopP p s (n0 % 65)) s6.a hlit (fun c hc => Classical.byContradiction fun hz => by have := s4.a.k.rng c hz; omega) rfl (by show 0 ≤ n0 % 65 ∧ n0 % 65 ≤ _; omega) (by omega) (by rw [o2.id]; omega) o2.lk1 2 (by omega) (by rw [o2.st]; omega) o2.hok (by omega) (by rw [ha2]; simp) (by have := o2.pre.sl; omega)).mono fun v H7 nx7 _ ⟨hv, y7, c7, s7⟩ => ?_
  subst hv
  rw [req_hop o2.own hp.1 hp.2 hr2 ha2] at s7
  have hx7 := s7.le
  have sl2 := o2.pre.sl
  have ll2 := o2.ll
  have id2 := o2.id
  have st7 := (((st.trans s3).trans s4).trans s6).trans s7
  by_cases hz : n0 % 65 = 0
  · rw [if_neg (by omega)] at s7 st7
    simp (disch := omega) only [go_sem, ↓reduceIte ]
    refine (etell0_c s7.a 3 (by omega) (by omega) sl2 (by rw [ha2]; simp)).mono fun v H8 nx8 _ ⟨v8, y8, c8, own8, hv, s8, hsl8, how8, hko8⟩ => ?_
    subst hv
    have st8 := st7.trans s8
    have hx8 := s8.le
    have hT : tellP e2 (mayE []) = [] := by unfold tellP; rw [hd2, ha2]; rfl
    rw [hT] at hsl8 ⊢
    rw [show decide ((0 : Int) < (([] : List Prt).length : Int)) = false from rfl]
    change SlA nx8 H8 7 v8 0 (ptCells []) own8 at hsl8
    have hone8 := hsl8.one
    obtain ⟨a8, k8, rfl⟩ := hsl8.form
    simp (disch := omega) only [go_sem, ↓reduceIte , hone8, hz]
    intro b8 hb8
    have k9 : Kp (fun _ => False) nx H H8 := hk1.trans (U := fun _ => False) st8.kp0 (by omega) (fun _ _ h => h) (fun _ _ h => h)
    simp (disch := omega) only [go_sem, ↓reduceIte , hone8, hz]
    exact ⟨by omega, k9.trans (U := fun _ => False) (nx' := nx8) (show Kp (fun _ => False) nx8 H8 _ from (by repeat first | exact Kp.refl _ _ _ | refine Kp.dropT ?_ (.inl (by omega)) | refine Kp.put ?_ (.inl (by omega)) | refine Kp.new ?_ (by omega) | refine Kp.put ?_ (.inr (by omega)) | refine Kp.newO ?_ (by omega) | refine Kp.setO ?_ (.inl (by omega)) | refine Kp.setO ?_ (.inr (by omega)) | refine Kp.trans0 ?_ (by assumption) (by omega) | refine Kp.transS ?_ (by assumption) (by omega) (fun b hb hT => by first | omega | (dsimp only at hT ⊢; omega) | (simp only at hT ⊢; omega))) ) (by omega) (fun _ _ h => h) (fun _ _ h => h)⟩
  · rw [if_pos (by omega)] at s7 st7
    simp (disch := omega) only [go_sem, ↓reduceIte ]
    refine (etell0_c s7.a 3 (by omega) (by show e2.lost.length ≤ _; omega) sl2 (by simp)).mono fun v H8 nx8 _ ⟨v8, y8, c8, own8, hv, s8, hsl8, how8, hko8⟩ => ?_
    subst hv
    have st8 := st7.trans s8
    have hx8 := s8.le
    have hT : tellP { e2 with asks := [hopP p s (n0 % 65 - 1)] } (mayE []) = [hopP p s (n0 % 65 - 1)] := by unfold tellP; simp only [hd2]; rfl
    rw [hT] at hsl8 ⊢
    rw [show decide ((0 : Int) < (([hopP p s (n0 % 65 - 1)] : List Prt).length : Int)) = true from rfl]
    change SlA nx8 H8 7 v8 1 (ptCells [hopP p s (n0 % 65 - 1)]) own8 at hsl8
    have hone8 := hsl8.one
    obtain ⟨g, off, k8, rfl, hgo⟩ := hsl8.open (by omega)
    simp (disch := omega) only [go_sem, ↓reduceIte , hone8, hz]
    intro b8 hb8
    have k9 : Kp (fun _ => False) nx H H8 := hk1.trans (U := fun _ => False) st8.kp0 (by omega) (fun _ _ h => h) (fun _ _ h => h)
    have k10 : Kp (fun _ => False) nx8 H8 ((H8.new b8 #[.int .i64 0, .slice none 0 0] 36).put b8 0 (.int .i64 e2.id) |>.put b8 1 (.slice (some ⟨g, off, none⟩) 1 k8)) := (by repeat first | exact Kp.refl _ _ _ | refine Kp.dropT ?_ (.inl (by omega)) | refine Kp.put ?_ (.inl (by omega)) | refine Kp.new ?_ (by omega) | refine Kp.put ?_ (.inr (by omega)) | refine Kp.newO ?_ (by omega) | refine Kp.setO ?_ (.inl (by omega)) | refine Kp.setO ?_ (.inr (by omega)) | refine Kp.trans0 ?_ (by assumption) (by omega) | refine Kp.transS ?_ (by assumption) (by omega) (fun b hb hT => by first | omega | (dsimp only at hT ⊢; omega) | (simp only at hT ⊢; omega))) 
    have hs10 := hsl8.kp k10 (show nx8 ≤ b8 + 1 by omega) (by simp)
    have hld : loadN _ g (off + Int.toNat 0 * 7) 7 = _ := pt_load (i := 0) (x := hopP p s (n0 % 65 - 1)) hs10 rfl
    unfold hopP Prt.cells at hld
    have cM : ((H8.new b8 #[.int .i64 0, .slice none 0 0] 36).put b8 0 (.int .i64 e2.id) |>.put b8 1 (.slice (some ⟨g, off, none⟩) 1 k8)).c b8 1 = some (.slice (some ⟨g, off, none⟩) 1 k8) := by simp (disch := omega) only [go_sem, ↓reduceIte ]
    simp (disch := omega) only [go_sem, ↓reduceIte , hone8, hz]
    generalize ((H8.new b8 #[.int .i64 0, .slice none 0 0] 36).put b8 0 (.int .i64 e2.id) |>.put b8 1 (.slice (some ⟨g, off, none⟩) 1 k8)) = M at hld cM k10 hs10 ⊢
    refine awp_draw ord10x10 (by kernel_rfl) ?_
    simp (disch := omega) only [go_sem, ↓reduceIte , ord10x10, hld, cM]
    refine (pfx_c p hp.1 hp.2 _ _).mono fun v H11 nx11 _ ⟨hv, hx11, hk11⟩ => ?_
    subst hv
    simp (disch := omega) only [go_sem, ↓reduceIte , ord10x10]
    exact ⟨dkeep_kp hk11, by omega, ((k9.trans (U := fun _ => False) k10 (by omega) (fun _ _ h => h) (fun _ _ h => h)).trans (U := fun _ => False) (nx' := b8 + 1) hk11 (by omega) (fun _ _ h => h) (fun _ _ h => h))⟩
end Go.Proofs.YtngnbafididkcaaGreat
