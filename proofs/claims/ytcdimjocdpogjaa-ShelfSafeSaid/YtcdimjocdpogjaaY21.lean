/- The law's names of files. The reference's shelf: a new one. The reference's shelf: Rename. The reference's shelf: Create. -/
import Derived.Test.YtcdimjocdpogjaaY5
import Derived.Test.YtcdimjocdpogjaaY16
section
namespace Go.Proofs.Ytcdimjocdpogjaa
open Go.RowKit
set_option linter.unusedSimpArgs false

def nm6 (n : Int) : ByteArray := if n % 6 = 0 then ⟨#[97]⟩ else if n % 6 = 1 then ⟨#[98]⟩ else if n % 6 = 2 then ⟨#[99, 46, 49]⟩ else if n % 6 = 3 then ⟨#[100]⟩ else if n % 6 = 4 then ⟨#[69]⟩ else ⟨#[]⟩
set_option maxRecDepth 20000 in
theorem name05_c {lo : Nat} {H : AH} {nx : Nat} (n : Int) (h0 : 0 ≤ n) : ACalls Try.prog lo 38 #[.int .u8 n] H nx (fun v H' nx' => nx ≤ nx' ∧ Kp (fun _ => False) nx H H' ∧ v = .string (nm6 n)) := by
  refine ACalls.withLo fun hlo => ?_
  refine acalls_of_awp L38 Try.func38 rfl (by kernel_rfl) ?_
  simp (disch := omega) only [go_sem, ↓reduceIte ]
  refine buildSQ_cs (n := 6) [.string ⟨#[97]⟩, .string ⟨#[98]⟩, .string ⟨#[99, 46, 49]⟩, .string ⟨#[100]⟩, .string ⟨#[69]⟩, .string ⟨#[]⟩] [.string ⟨#[97]⟩, .string ⟨#[98]⟩, .string ⟨#[99, 46, 49]⟩, .string ⟨#[100]⟩, .string ⟨#[69]⟩, .string ⟨#[]⟩] sl38 zero9 (by omega) (by omega) rfl (by simp [Value.cells]) (by simp [Value.cells]) fun d hd => ?_
  have m0 : 0 ≤ n % 6 := by omega
  have m1 : n % 6 < 6 := by omega
  unfold nm6
  rcases (by omega : n % 6 = 0 ∨ n % 6 = 1 ∨ n % 6 = 2 ∨ n % 6 = 3 ∨ n % 6 = 4 ∨ n % 6 = 5) with e | e | e | e | e | e
  all_goals
    simp (disch := omega) only [go_sem, ↓reduceIte , e, Int.toNat_zero, Int.toNat_one, Int.reduceToNat]
    exact ⟨by omega, (by repeat first | exact Kp.refl _ _ _ | refine Kp.dropT ?_ (.inl (by omega)) | refine Kp.put ?_ (.inl (by omega)) | refine Kp.new ?_ (by omega) | refine Kp.put ?_ (.inr (by omega)) | refine Kp.newO ?_ (by omega) | refine Kp.setO ?_ (.inl (by omega)) | refine Kp.setO ?_ (.inr (by omega)) | refine Kp.trans0 ?_ (by assumption) (by omega) | refine Kp.transS ?_ (by assumption) (by omega) (fun b hb hT => by first | omega | (dsimp only at hT ⊢; omega) | (simp only at hT ⊢; omega))) ⟩
end Go.Proofs.Ytcdimjocdpogjaa
end
section
namespace Go.Proofs.Ytcdimjocdpogjaa
open Go.RowKit
set_option linter.unusedSimpArgs false

set_option maxRecDepth 20000 in
theorem new05_c {lo nx : Nat} {H : AH} (room : Int) : ACalls Try.prog lo 26 #[.int .i64 room] H nx (fun v H' nx' => nx ≤ nx' ∧ Kp (fun _ => False) nx H H' ∧ ∃ R, v = R.val ∧ RfA nx' H' R ∧ RfOk R 0 ∧ ∀ b, fpR R b → nx ≤ b) := by
  refine ACalls.withLo fun hlo => ?_
  refine acalls_of_awp L26 Try.func26 rfl (by kernel_rfl) ?_
  simp (disch := omega) only [go_sem, ↓reduceIte ]
  intro a ha
  simp (disch := omega) only [go_sem, ↓reduceIte ]
  refine buildSQ_cs (n := 1) [.slice none 0 0] [.slice none 0 0] sl45 zero44 (by omega) (by omega) rfl (by simp [Value.cells]) (by simp [Value.cells]) fun d hd => ?_
  simp (disch := omega) only [go_sem, ↓reduceIte ]
  have hw : SlA (d + 1) _ 1 (.slice (some ⟨d, 0, none⟩) 1 1) 1 [.slice none 0 0] (d + 1) := SlA.ofNew (H := (H.new a #[.slice none 0 0, .slice none 0 0, .slice none 0 0, .int .i64 0, .int .i64 0, .bool false, .int .i64 0] 47)) (e := 44) (cs := [.slice none 0 0].toArray) rfl (by omega) (by simp [maxLen]) (by simp) (fun j _ => by simp)
  refine ⟨by omega, (by repeat first | exact Kp.refl _ _ _ | refine Kp.dropT ?_ (.inl (by omega)) | refine Kp.put ?_ (.inl (by omega)) | refine Kp.new ?_ (by omega) | refine Kp.put ?_ (.inr (by omega)) | refine Kp.newO ?_ (by omega) | refine Kp.setO ?_ (.inl (by omega)) | refine Kp.setO ?_ (.inr (by omega)) | refine Kp.trans0 ?_ (by assumption) (by omega) | refine Kp.transS ?_ (by assumption) (by omega) (fun b hb hT => by first | omega | (dsimp only at hT ⊢; omega) | (simp only at hT ⊢; omega))) , ⟨[], ⟨.slice none 0 0, 0, []⟩, [⟨.slice none 0 0, 0, []⟩], .slice none 0 0, 0, .slice (some ⟨d, 0, none⟩) 1 1, d + 1, room, -1, false, 0⟩, rfl, ⟨SlA.nil _ _ _, by simp, SlA.nil _ _ _, by show SlA (d + 1) _ 1 _ 1 [.slice none 0 0] (d + 1); exact (by repeat first | assumption | refine SlA.dropT ?_ | refine SlA.put ?_ (by omega) | refine SlA.new ?_ (by omega) | refine SlA.newO ?_ (by omega) | refine SlA.setO ?_) , fun x hx => ?_⟩, ⟨by simp, by simp, by simp, by simp, by simp, by simp, by simp, by simp, by simp, by simp, by simp, by simp, by simp⟩, fun b hb => ?_⟩
  · have : x = ⟨.slice none 0 0, 0, []⟩ := by simpa using hx
    subst this
    exact SlA.nil _ _ _
  · rcases hb with e | e | e | ⟨x, hx, e⟩ | ⟨x, hx, e⟩
    · simp only at e; omega
    · simp only at e; omega
    · simp only at e; omega
    · simp at hx
    · have : x = ⟨.slice none 0 0, 0, []⟩ := by simpa using hx
      subst this
      simp only at e
      omega
end Go.Proofs.Ytcdimjocdpogjaa
end
section
namespace Go.Proofs.Ytcdimjocdpogjaa
open Go.RowKit
set_option linter.unusedSimpArgs false

set_option maxRecDepth 20000 in
theorem rename05_c {lo nx : Nat} {H : AH} {R : Rf} {k : Nat} (h : RfA nx H R) (ho : RfOk R k) (hk : k ≤ 1000) (frm dst : ByteArray) (hd : dst.size ≤ 1000) : ACalls Try.prog lo 43 #[R.val, .string frm, .string dst] H nx (fun v H' nx' => ∃ R' e, v = .tuple #[R'.val, .int .i64 e] ∧ StR nx H R k R' H' nx') := by
  refine ACalls.withLo fun hlo => ?_
  refine acalls_of_awp L43 Try.func43 rfl (by kernel_rfl) ?_
  have h1 := h.sL.one
  have h2 := h.sN.one
  have h3 := h.sW.one
  have act := fun nx1 H1 (hn : nx ≤ nx1) (hk1 : Kp (fun _ => False) nx H H1) => act05_r (lo := lo) (h.kp hk1 hn (by simp)) ho (by omega)
  unfold Rf.val shV at act ⊢
  simp (disch := omega) only [go_sem, ↓reduceIte , h1, h2, h3]
  intro a ha
  simp (disch := omega) only [go_sem, ↓reduceIte , h1, h2, h3]
  intro b hb
  simp (disch := omega) only [go_sem, ↓reduceIte , h1, h2, h3]
  refine (right05_c dst hd).mono fun v H0 nx0 _ ⟨hv, hx0, hk0⟩ => ?_
  subst hv
  have hc0 := hk0.cell0
  cases hr : nameOk dst with
  | false =>
    simp (disch := omega) only [go_sem, ↓reduceIte , h1, h2, h3, hc0]
    exact ⟨R, 1, rfl, StR.refl h ho (by omega) (by repeat first | exact Kp.refl _ _ _ | refine Kp.dropT ?_ (.inl (by omega)) | refine Kp.put ?_ (.inl (by omega)) | refine Kp.new ?_ (by omega) | refine Kp.put ?_ (.inr (by omega)) | refine Kp.newO ?_ (by omega) | refine Kp.setO ?_ (.inl (by omega)) | refine Kp.setO ?_ (.inr (by omega)) | refine Kp.trans0 ?_ (by assumption) (by omega) | refine Kp.transS ?_ (by assumption) (by omega) (fun b hb hT => by first | omega | (dsimp only at hT ⊢; omega) | (simp only at hT ⊢; omega))) ⟩
  | true =>
  simp (disch := omega) only [go_sem, ↓reduceIte , h1, h2, h3, hc0]
  refine (act _ _ (by omega) (by repeat first | exact Kp.refl _ _ _ | refine Kp.dropT ?_ (.inl (by omega)) | refine Kp.put ?_ (.inl (by omega)) | refine Kp.new ?_ (by omega) | refine Kp.put ?_ (.inr (by omega)) | refine Kp.newO ?_ (by omega) | refine Kp.setO ?_ (.inl (by omega)) | refine Kp.setO ?_ (.inr (by omega)) | refine Kp.trans0 ?_ (by assumption) (by omega) | refine Kp.transS ?_ (by assumption) (by omega) (fun b hb hT => by first | omega | (dsimp only at hT ⊢; omega) | (simp only at hT ⊢; omega))) ).mono fun v H1 nx1 _ ⟨hx1, hk1, hv⟩ => ?_
  subst hv
  have g1 := (actF_a h).sL.one
  have g2 := (actF_a h).sN.one
  have g3 := (actF_a h).sW.one
  have hc1 := hk1.cell0
  cases hg : goesF R with
  | false =>
    simp (disch := omega) only [go_sem, ↓reduceIte , g1, g2, g3, hc1, hc0]
    exact ⟨actF R, 7, rfl, StR.act h ho (by omega) (by repeat first | exact Kp.refl _ _ _ | refine Kp.dropT ?_ (.inl (by omega)) | refine Kp.put ?_ (.inl (by omega)) | refine Kp.new ?_ (by omega) | refine Kp.put ?_ (.inr (by omega)) | refine Kp.newO ?_ (by omega) | refine Kp.setO ?_ (.inl (by omega)) | refine Kp.setO ?_ (.inr (by omega)) | refine Kp.trans0 ?_ (by assumption) (by omega) | refine Kp.transS ?_ (by assumption) (by omega) (fun b hb hT => by first | omega | (dsimp only at hT ⊢; omega) | (simp only at hT ⊢; omega))) ⟩
  | true =>
    simp (disch := omega) only [go_sem, ↓reduceIte , g1, g2, g3, hc1, hc0]
    refine (find05_c frm (l := (actF R).now.l) (own := (actF R).now.own) ((actF_a h).sN.kp (S := fun _ => False) (nx' := nx1) (by repeat first | exact Kp.refl _ _ _ | refine Kp.dropT ?_ (.inl (by omega)) | refine Kp.put ?_ (.inl (by omega)) | refine Kp.new ?_ (by omega) | refine Kp.put ?_ (.inr (by omega)) | refine Kp.newO ?_ (by omega) | refine Kp.setO ?_ (.inl (by omega)) | refine Kp.setO ?_ (.inr (by omega)) | refine Kp.trans0 ?_ (by assumption) (by omega) | refine Kp.transS ?_ (by assumption) (by omega) (fun b hb hT => by first | omega | (dsimp only at hT ⊢; omega) | (simp only at hT ⊢; omega)))  (by omega) (by simp))).mono fun v H2 nx2 _ ⟨hv, hH, hx⟩ => ?_
    subst hv; subst hH; subst hx
    rcases findF_range (s := frm) (actF_ok ho).now with e | e
    · simp (disch := omega) only [go_sem, ↓reduceIte , e, g1, g2, g3, hc1, hc0]
      exact ⟨actF R, 2, rfl, StR.act h ho (by omega) (by repeat first | exact Kp.refl _ _ _ | refine Kp.dropT ?_ (.inl (by omega)) | refine Kp.put ?_ (.inl (by omega)) | refine Kp.new ?_ (by omega) | refine Kp.put ?_ (.inr (by omega)) | refine Kp.newO ?_ (by omega) | refine Kp.setO ?_ (.inl (by omega)) | refine Kp.setO ?_ (.inr (by omega)) | refine Kp.trans0 ?_ (by assumption) (by omega) | refine Kp.transS ?_ (by assumption) (by omega) (fun b hb hT => by first | omega | (dsimp only at hT ⊢; omega) | (simp only at hT ⊢; omega))) ⟩
    · by_cases es : frm = dst
      · subst es
        simp (disch := omega) only [go_sem, ↓reduceIte , g1, g2, g3, hc1, hc0, decide_true]
        exact ⟨actF R, 0, rfl, StR.act h ho (by omega) (by repeat first | exact Kp.refl _ _ _ | refine Kp.dropT ?_ (.inl (by omega)) | refine Kp.put ?_ (.inl (by omega)) | refine Kp.new ?_ (by omega) | refine Kp.put ?_ (.inr (by omega)) | refine Kp.newO ?_ (by omega) | refine Kp.setO ?_ (.inl (by omega)) | refine Kp.setO ?_ (.inr (by omega)) | refine Kp.trans0 ?_ (by assumption) (by omega) | refine Kp.transS ?_ (by assumption) (by omega) (fun b hb hT => by first | omega | (dsimp only at hT ⊢; omega) | (simp only at hT ⊢; omega))) ⟩
      · have es' := strNe es
        simp (disch := omega) only [go_sem, ↓reduceIte , g1, g2, g3, hc1, hc0, es', decide_false]
        refine awp_draw ord43x11 (by kernel_rfl) ?_
        simp (disch := omega) only [go_sem, ↓reduceIte , ord43x11, g1, g2, g3, hc1, hc0]
        have kn : (actF R).now.l.length ≤ k := by unfold actF; split <;> exact ho.kn
        have kw := (actF_ok ho).kw
        refine (without05_c frm (l := (actF R).now.l) (own := (actF R).now.own) ((actF_a h).sN.kp (S := fun _ => False) (nx' := nx2) (by repeat first | exact Kp.refl _ _ _ | refine Kp.dropT ?_ (.inl (by omega)) | refine Kp.put ?_ (.inl (by omega)) | refine Kp.new ?_ (by omega) | refine Kp.put ?_ (.inr (by omega)) | refine Kp.newO ?_ (by omega) | refine Kp.setO ?_ (.inl (by omega)) | refine Kp.setO ?_ (.inr (by omega)) | refine Kp.trans0 ?_ (by assumption) (by omega) | refine Kp.transS ?_ (by assumption) (by omega) (fun b hb hT => by first | omega | (dsimp only at hT ⊢; omega) | (simp only at hT ⊢; omega)))  (by omega) (by simp)) (by omega)).mono fun v H3 nx3 _ ⟨hx3, hk3, own3, hs3, ho3⟩ => ?_
        have hone3 := hs3.one
        simp (disch := omega) only [go_sem, ↓reduceIte , ord43x11, hone3, g1, g2, g3, hc1, hc0]
        refine ⟨dkeep_kp hk3, ?_⟩
        have hc3 := hk3.cell0
        have hwl := woF_len frm (actF R).now.l
        refine (with05_c dst (findF frm (actF R).now.l) hs3 (by omega)).mono fun v6 H6 nx6 _ ⟨hx6, hk6, own6, hs6, ho6⟩ => ?_
        have hone6 := hs6.one
        have hc6 := hk6.cell0
        have hwl6 := woF_len dst (woF frm (actF R).now.l)
        have hwl7 : (wiF dst (findF frm (actF R).now.l) (woF frm (actF R).now.l)).length = (woF dst (woF frm (actF R).now.l)).length + 1 := by simp [wiF]
        simp (disch := omega) only [go_sem, ↓reduceIte , ord43x11, hone3, hone6, g1, g2, g3, hc1, hc0, hc3]
        refine ⟨dkeep_kp (hk3.trans (U := fun _ => False) hk6 hx3 (fun _ _ h => h) (fun _ _ h => h)), ?_⟩
        have hW3 : SlA nx6 H6 1 (actF R).vW ((actF R).was.map RNms.v).length ((actF R).was.map RNms.v) (actF R).oW := by
          rw [List.length_map]
          exact (((actF_a h).sW.kp (S := fun _ => False) (nx' := nx2) (by repeat first | exact Kp.refl _ _ _ | refine Kp.dropT ?_ (.inl (by omega)) | refine Kp.put ?_ (.inl (by omega)) | refine Kp.new ?_ (by omega) | refine Kp.put ?_ (.inr (by omega)) | refine Kp.newO ?_ (by omega) | refine Kp.setO ?_ (.inl (by omega)) | refine Kp.setO ?_ (.inr (by omega)) | refine Kp.trans0 ?_ (by assumption) (by omega) | refine Kp.transS ?_ (by assumption) (by omega) (fun b hb hT => by first | omega | (dsimp only at hT ⊢; omega) | (simp only at hT ⊢; omega)))  (by omega) (by simp)).kp hk3 hx3 (by simp)).kp hk6 hx6 (by simp)
        refine (moved05_c (actF R).room (actF R).left (actF R).done (actF R).off g1 hone6 hW3 (fun u hu => ?_) (by rw [List.length_map]; omega)).mono fun v4 H4 nx4 _ ⟨hx4, hk4, vW, own4, hs4, ho4, hv⟩ => ?_
        · obtain ⟨x, hx, rfl⟩ := List.mem_map.1 hu
          exact ((actF_a h).sWs x hx).one
        · subst hv
          have hc4 := hk4.cell0
          have hone4 := hs4.one
          unfold shV
          simp (disch := omega) only [go_sem, ↓reduceIte , ord43x11, hone3, hone4, hone6, g1, g2, g3, hc0, hc1, hc3, hc4, hc6]
          refine ⟨dkeep_kp ((hk3.trans (U := fun _ => False) hk6 hx3 (fun _ _ h => h) (fun _ _ h => h)).trans (U := fun _ => False) hk4 (by omega) (fun _ _ h => h) (fun _ _ h => h)), ?_⟩
          refine ⟨dkeep_last (by kernel_rfl), ?_⟩
          refine ⟨{ actF R with now := ⟨v6, own6, wiF dst (findF frm (actF R).now.l) (woF frm (actF R).now.l)⟩, was := (actF R).was ++ [⟨v6, own6, wiF dst (findF frm (actF R).now.l) (woF frm (actF R).now.l)⟩], vW := vW, oW := own4 }, 0, rfl, ?_⟩
          have hs6' := hs6.kp hk4 hx4 (by simp)
          refine StR.moved (StR.act h ho (by omega) (by repeat first | exact Kp.refl _ _ _ | refine Kp.dropT ?_ (.inl (by omega)) | refine Kp.put ?_ (.inl (by omega)) | refine Kp.new ?_ (by omega) | refine Kp.put ?_ (.inr (by omega)) | refine Kp.newO ?_ (by omega) | refine Kp.setO ?_ (.inl (by omega)) | refine Kp.setO ?_ (.inr (by omega)) | refine Kp.trans0 ?_ (by assumption) (by omega) | refine Kp.transS ?_ (by assumption) (by omega) (fun b hb hT => by first | omega | (dsimp only at hT ⊢; omega) | (simp only at hT ⊢; omega))) ) (by exact (by repeat first | assumption | refine SlA.dropT ?_ | refine SlA.put ?_ (by omega) | refine SlA.new ?_ (by omega) | refine SlA.newO ?_ (by omega) | refine SlA.setO ?_) ) (by omega) (by exact (by repeat first | assumption | refine SlA.dropT ?_ | refine SlA.put ?_ (by omega) | refine SlA.new ?_ (by omega) | refine SlA.newO ?_ (by omega) | refine SlA.setO ?_) ) (by omega) (fun x hx => ?_) (by omega) ?_
          · rcases List.mem_append.1 hx with hx | hx
            · exact (actF_ok ho).now x (woF_sub (woF_sub hx))
            · have : x = (dst, findF frm (actF R).now.l) := by simpa using hx
              subst this; exact e
          · unfold actF
            split <;> exact ho.kw
end Go.Proofs.Ytcdimjocdpogjaa
end
section
namespace Go.Proofs.Ytcdimjocdpogjaa
open Go.RowKit
set_option linter.unusedSimpArgs false

theorem StR.file {nx nx' : Nat} {H H' : AH} {R R1 : Rf} {k ownL : Nat} {vL : Value} (s : StR nx H R k R1 H' nx') (hL : SlA nx' H' 2 vL (R1.fl.length + 1) (R1.fl.flatMap RFile.cs ++ [.slice none 0 0, .int .i64 0]) ownL) (hLo : nx < ownL) (hk : R1.fl.length ≤ k) : StR nx H R k { R1 with fl := R1.fl ++ [⟨.slice none 0 0, 0, [], 0⟩], vL := vL, oL := ownL } H' nx' where
  le := s.le
  kp := s.kp
  a := ⟨by
    simp only [List.length_append, List.length_singleton, List.flatMap_append, List.flatMap_cons, List.flatMap_nil, List.append_nil]
    exact hL, fun y hy => by
    rcases List.mem_append.1 hy with hy | hy
    · exact s.a.sF y hy
    · have : y = ⟨.slice none 0 0, 0, [], 0⟩ := by simpa using hy
      subst this
      exact SlA.nil _ _ _, s.a.sN, s.a.sW, s.a.sWs⟩
  ok := ⟨fun a ha => by have := s.ok.now a ha; simp only [List.length_append, List.length_singleton]; omega, fun y hy a ha => by have := s.ok.was y hy a ha; simp only [List.length_append, List.length_singleton]; omega, s.ok.one, fun y hy => by
    rcases List.mem_append.1 hy with hy | hy
    · exact s.ok.safe y hy
    · have : y = ⟨.slice none 0 0, 0, [], 0⟩ := by simpa using hy
      subst this
      simp, s.ok.kn, s.ok.kw, s.ok.kws, by simp only [List.length_append, List.length_singleton]; omega, fun y hy => by
    rcases List.mem_append.1 hy with hy | hy
    · exact s.ok.kb y hy
    · have : y = ⟨.slice none 0 0, 0, [], 0⟩ := by simpa using hy
      subst this
      simp, s.ok.l0, s.ok.l1, s.ok.d0, s.ok.d1⟩
  fp := fun b hb => by
    rcases hb with e | e | e | ⟨y, hy, e⟩ | e
    · exact .inr (by simp only at e; omega)
    · exact s.fp b (.inr (.inl e))
    · exact s.fp b (.inr (.inr (.inl e)))
    · rcases List.mem_append.1 hy with hy | hy
      · exact s.fp b (.inr (.inr (.inr (.inl ⟨y, hy, e⟩))))
      · have : y = ⟨.slice none 0 0, 0, [], 0⟩ := by simpa using hy
        subst this
        simp only at e
        omega
    · exact s.fp b (.inr (.inr (.inr (.inr e))))
theorem fl_one {nx : Nat} {H : AH} {R : Rf} (h : RfA nx H R) : ∀ u ∈ R.fl.flatMap RFile.cs, u.oneCell' = true := fun u hu => by
  obtain ⟨p, hp, h'⟩ := List.mem_flatMap.1 hu
  simp only [RFile.cs, flC, List.mem_cons, List.not_mem_nil, or_false] at h'
  rcases h' with rfl | rfl
  · exact (h.sF p hp).one
  · rfl

set_option maxHeartbeats 4000000 in
set_option maxRecDepth 20000 in
theorem create05_c {lo nx : Nat} {H : AH} {R : Rf} {k : Nat} (h : RfA nx H R) (ho : RfOk R k) (hk : k ≤ 1000) (name : ByteArray) (hd : name.size ≤ 1000) : ACalls Try.prog lo 39 #[R.val, .string name] H nx (fun v H' nx' => ∃ R' e, v = .tuple #[R'.val, .int .i64 e] ∧ StR nx H R k R' H' nx') := by
  refine ACalls.withLo fun hlo => ?_
  refine acalls_of_awp L39 Try.func39 rfl (by kernel_rfl) ?_
  have h1 := h.sL.one
  have h2 := h.sN.one
  have h3 := h.sW.one
  have act := fun nx1 H1 (hn : nx ≤ nx1) (hk1 : Kp (fun _ => False) nx H H1) => act05_r (lo := lo) (h.kp hk1 hn (by simp)) ho (by omega)
  unfold Rf.val shV at act ⊢
  simp (disch := omega) only [go_sem, ↓reduceIte , h1, h2, h3]
  intro a ha
  simp (disch := omega) only [go_sem, ↓reduceIte , h1, h2, h3]
  intro b hb
  simp (disch := omega) only [go_sem, ↓reduceIte , h1, h2, h3]
  refine (right05_c name hd).mono fun v H0 nx0 _ ⟨hv, hx0, hk0⟩ => ?_
  subst hv
  have hc0 := hk0.cell0
  cases hr : nameOk name with
  | false =>
    simp (disch := omega) only [go_sem, ↓reduceIte , h1, h2, h3, hc0]
    exact ⟨R, 1, rfl, StR.refl h ho (by omega) (by repeat first | exact Kp.refl _ _ _ | refine Kp.dropT ?_ (.inl (by omega)) | refine Kp.put ?_ (.inl (by omega)) | refine Kp.new ?_ (by omega) | refine Kp.put ?_ (.inr (by omega)) | refine Kp.newO ?_ (by omega) | refine Kp.setO ?_ (.inl (by omega)) | refine Kp.setO ?_ (.inr (by omega)) | refine Kp.trans0 ?_ (by assumption) (by omega) | refine Kp.transS ?_ (by assumption) (by omega) (fun b hb hT => by first | omega | (dsimp only at hT ⊢; omega) | (simp only at hT ⊢; omega))) ⟩
  | true =>
  simp (disch := omega) only [go_sem, ↓reduceIte , h1, h2, h3, hc0]
  refine (act _ _ (by omega) (by repeat first | exact Kp.refl _ _ _ | refine Kp.dropT ?_ (.inl (by omega)) | refine Kp.put ?_ (.inl (by omega)) | refine Kp.new ?_ (by omega) | refine Kp.put ?_ (.inr (by omega)) | refine Kp.newO ?_ (by omega) | refine Kp.setO ?_ (.inl (by omega)) | refine Kp.setO ?_ (.inr (by omega)) | refine Kp.trans0 ?_ (by assumption) (by omega) | refine Kp.transS ?_ (by assumption) (by omega) (fun b hb hT => by first | omega | (dsimp only at hT ⊢; omega) | (simp only at hT ⊢; omega))) ).mono fun v H1 nx1 _ ⟨hx1, hk1, hv⟩ => ?_
  subst hv
  have g1 := (actF_a h).sL.one
  have g2 := (actF_a h).sN.one
  have g3 := (actF_a h).sW.one
  have hc1 := hk1.cell0
  cases hg : goesF R with
  | false =>
    simp (disch := omega) only [go_sem, ↓reduceIte , g1, g2, g3, hc1, hc0]
    exact ⟨actF R, 7, rfl, StR.act h ho (by omega) (by repeat first | exact Kp.refl _ _ _ | refine Kp.dropT ?_ (.inl (by omega)) | refine Kp.put ?_ (.inl (by omega)) | refine Kp.new ?_ (by omega) | refine Kp.put ?_ (.inr (by omega)) | refine Kp.newO ?_ (by omega) | refine Kp.setO ?_ (.inl (by omega)) | refine Kp.setO ?_ (.inr (by omega)) | refine Kp.trans0 ?_ (by assumption) (by omega) | refine Kp.transS ?_ (by assumption) (by omega) (fun b hb hT => by first | omega | (dsimp only at hT ⊢; omega) | (simp only at hT ⊢; omega))) ⟩
  | true =>
    simp (disch := omega) only [go_sem, ↓reduceIte , g1, g2, g3, hc1, hc0]
    refine (find05_c name (l := (actF R).now.l) (own := (actF R).now.own) ((actF_a h).sN.kp (S := fun _ => False) (nx' := nx1) (by repeat first | exact Kp.refl _ _ _ | refine Kp.dropT ?_ (.inl (by omega)) | refine Kp.put ?_ (.inl (by omega)) | refine Kp.new ?_ (by omega) | refine Kp.put ?_ (.inr (by omega)) | refine Kp.newO ?_ (by omega) | refine Kp.setO ?_ (.inl (by omega)) | refine Kp.setO ?_ (.inr (by omega)) | refine Kp.trans0 ?_ (by assumption) (by omega) | refine Kp.transS ?_ (by assumption) (by omega) (fun b hb hT => by first | omega | (dsimp only at hT ⊢; omega) | (simp only at hT ⊢; omega)))  (by omega) (by simp))).mono fun v H2 nx2 _ ⟨hv, hH, hx⟩ => ?_
    subst hv; subst hH; subst hx
    rcases findF_range (s := name) (actF_ok ho).now with e | e
    rotate_left
    · simp (disch := omega) only [go_sem, ↓reduceIte , e, g1, g2, g3, hc1, hc0]
      exact ⟨actF R, 9, rfl, StR.act h ho (by omega) (by repeat first | exact Kp.refl _ _ _ | refine Kp.dropT ?_ (.inl (by omega)) | refine Kp.put ?_ (.inl (by omega)) | refine Kp.new ?_ (by omega) | refine Kp.put ?_ (.inr (by omega)) | refine Kp.newO ?_ (by omega) | refine Kp.setO ?_ (.inl (by omega)) | refine Kp.setO ?_ (.inr (by omega)) | refine Kp.trans0 ?_ (by assumption) (by omega) | refine Kp.transS ?_ (by assumption) (by omega) (fun b hb hT => by first | omega | (dsimp only at hT ⊢; omega) | (simp only at hT ⊢; omega))) ⟩
    · simp (disch := omega) only [go_sem, ↓reduceIte , e, g1, g2, g3, hc1, hc0]
      have kn : (actF R).now.l.length ≤ k := by unfold actF; split <;> exact ho.kn
      have kw : (actF R).was.length ≤ k + 1 := by unfold actF; split <;> exact ho.kw
      have kf : (actF R).fl.length ≤ k := by unfold actF; split <;> exact ho.kf
      have hk12 : Kp (fun _ => False) nx H (((((((H1.put a 0 (actF R).vL).put a 1 (actF R).now.v).put a (1 + 1) (actF R).vW).put a (1 + 1 + 1) (.int .i64 (actF R).room)).put a (1 + 1 + 1 + 1) (.int .i64 (actF R).left)).put a (1 + 1 + 1 + 1 + 1) (.bool (actF R).off)).put a (1 + 1 + 1 + 1 + 1 + 1) (.int .i64 (actF R).done)) := (by repeat first | exact Kp.refl _ _ _ | refine Kp.dropT ?_ (.inl (by omega)) | refine Kp.put ?_ (.inl (by omega)) | refine Kp.new ?_ (by omega) | refine Kp.put ?_ (.inr (by omega)) | refine Kp.newO ?_ (by omega) | refine Kp.setO ?_ (.inl (by omega)) | refine Kp.setO ?_ (.inr (by omega)) | refine Kp.trans0 ?_ (by assumption) (by omega) | refine Kp.transS ?_ (by assumption) (by omega) (fun b hb hT => by first | omega | (dsimp only at hT ⊢; omega) | (simp only at hT ⊢; omega))) 
      have hL2 := (actF_a h).sL.kp hk12 (by omega : nx ≤ nx2) (by simp)
      refine appendQ_two (aw_append sl43 zero90 rfl by90 (SlA.nil _ _ _) (hL2.src sl43 (fl_one (actF_a h))) (by simp only [maxLen]; omega) (by omega) (.inl rfl) fun v3 H3 nx3 own3 hn3 hs3 ho3 hk3 _ => ?_)
      rw [Nat.zero_add, List.nil_append] at hs3
      have hone3 := hs3.one
      have hle3 := hs3.le
      have hk3' := Kp.mono (T := fun _ => False) hk3 (Nat.le_refl _) (fun b hb e => by omega)
      clear hk3
      have hc3 := hk3'.cell0
      simp (disch := omega) only [go_sem, ↓reduceIte , g1, g2, g3, hone3, hc3, hc1, hc0]
      refine buildSQ_all (n := 1) [.agg #[.slice none 0 0, .int .i64 0]] sl43 zero90 (by omega) (by omega) rfl (by simp [cells_agg]) fun d hd => ?_
      have hlit : SlA (d + 1) _ 2 (.slice (some ⟨d, 0, none⟩) 1 1) 1 [.slice none 0 0, .int .i64 0] (d + 1) := SlA.ofNew (H := H3) (e := 90) (cs := ([Value.agg #[.slice none 0 0, .int .i64 0]].flatMap fun v => v.cells.toList).toArray) rfl (by omega) (by simp [maxLen]) (by simp [cells_agg]) (fun j _ => by simp [cells_agg])
      have hs6 := hs3.new (vs := ([Value.agg #[.slice none 0 0, .int .i64 0]].flatMap fun v => v.cells.toList).toArray) (e := 90) hd
      simp (disch := omega) only [go_sem, ↓reduceIte ]
      refine appendQ_two (aw_append sl43 zero90 rfl by90 hs6 (hlit.src sl43 (by simp [Value.oneCell'])) (by simp only [maxLen]; omega) (by omega) (by omega) fun v7 H7 nx7 own7 hn7 hs7 ho7 hk7 _ => ?_)
      obtain ⟨a7, c7, rfl⟩ := hs7.form
      obtain ⟨g7, _, _, _, hg7⟩ := hs7.open (by omega)
      have hle7 := hs7.le
      have hc7 := hk7.cell
      simp (disch := omega) only [go_sem, ↓reduceIte , g1, g2, g3, hone3, hc7, hc3, hc1, hc0]
      have hk7' : Kp (fun _ => False) nx H H7 := by
        have hk6 : Kp (fun _ => False) nx H (H3.new d ([Value.agg #[.slice none 0 0, .int .i64 0]].flatMap fun v => v.cells.toList).toArray 90) := (hk12.trans (U := fun _ => False) hk3' (by omega) (fun _ _ h => h) (fun b hb h => h)).new (by omega)
        exact hk6.trans (U := fun _ => False) hk7 (by omega) (fun _ _ h => h) (fun b hb h => by omega)
      clear hk7
      refine awp_draw ord39x11 (by kernel_rfl) ?_
      simp (disch := omega) only [go_sem, ↓reduceIte , ord39x11, g1, g2, g3, hone3, hc7, hc3, hc1, hc0]
      refine (with05_c name _ (l := (actF R).now.l) (own := (actF R).now.own) ((actF_a h).sN.kp (S := fun _ => False) (nx' := nx7) (by repeat first | exact Kp.refl _ _ _ | refine Kp.dropT ?_ (.inl (by omega)) | refine Kp.put ?_ (.inl (by omega)) | refine Kp.new ?_ (by omega) | refine Kp.put ?_ (.inr (by omega)) | refine Kp.newO ?_ (by omega) | refine Kp.setO ?_ (.inl (by omega)) | refine Kp.setO ?_ (.inr (by omega)) | refine Kp.trans0 ?_ (by assumption) (by omega) | refine Kp.transS ?_ (by assumption) (by omega) (fun b hb hT => by first | omega | (dsimp only at hT ⊢; omega) | (simp only at hT ⊢; omega)))  (by omega) (by simp)) (by omega)).mono fun v Hw nxw _ ⟨hxw, hkw, ownw, hsw, how⟩ => ?_
      have honew := hsw.one
      have hwl := woF_len name (actF R).now.l
      simp (disch := omega) only [go_sem, ↓reduceIte , ord39x11, honew, g1, g2, g3, hone3, hc7, hc3, hc1, hc0]
      refine ⟨dkeep_kp hkw, ?_⟩
      obtain ⟨ix, hix⟩ : ∃ ix : Int, ix = ((actF R).fl.length + 1 : Nat) - 1 := ⟨_, rfl⟩
      rw [← hix] at hsw
      have hwl2 : (wiF name ix (actF R).now.l).length = (woF name (actF R).now.l).length + 1 := by simp [wiF]
      have hcw := hkw.cell0
      have hW3 : SlA nxw Hw 1 (actF R).vW ((actF R).was.map RNms.v).length ((actF R).was.map RNms.v) (actF R).oW := by
        rw [List.length_map]
        exact ((actF_a h).sW.kp (S := fun _ => False) (nx' := nx7) (by repeat first | exact Kp.refl _ _ _ | refine Kp.dropT ?_ (.inl (by omega)) | refine Kp.put ?_ (.inl (by omega)) | refine Kp.new ?_ (by omega) | refine Kp.put ?_ (.inr (by omega)) | refine Kp.newO ?_ (by omega) | refine Kp.setO ?_ (.inl (by omega)) | refine Kp.setO ?_ (.inr (by omega)) | refine Kp.trans0 ?_ (by assumption) (by omega) | refine Kp.transS ?_ (by assumption) (by omega) (fun b hb hT => by first | omega | (dsimp only at hT ⊢; omega) | (simp only at hT ⊢; omega)))  (by omega) (by simp)).kp hkw hxw (by simp)
      refine (moved05_c (vL := .slice a7 ((actF R).fl.length + 1) c7) (actF R).room (actF R).left (actF R).done (actF R).off rfl honew hW3 (fun u hu => ?_) (by rw [List.length_map]; omega)).mono fun v4 H4 nx4 _ ⟨hx4, hk4, vW, own4, hs4, ho4, hv⟩ => ?_
      · obtain ⟨x, hx, rfl⟩ := List.mem_map.1 hu
        exact ((actF_a h).sWs x hx).one
      · subst hv
        have hc4 := hk4.cell0
        have hone4 := hs4.one
        unfold shV
        simp (disch := omega) only [go_sem, ↓reduceIte , ord39x11, honew, hone4, g1, g2, g3, hone3, hc7, hc3, hc1, hc0, hcw, hc4]
        refine ⟨dkeep_kp (hkw.trans (U := fun _ => False) hk4 hxw (fun _ _ h => h) (fun _ _ h => h)), ?_⟩
        refine ⟨dkeep_last (by kernel_rfl), ?_⟩
        refine ⟨{ actF R with fl := (actF R).fl ++ [⟨.slice none 0 0, 0, [], 0⟩], vL := .slice a7 ((actF R).fl.length + 1) c7, oL := own7, now := ⟨v, ownw, wiF name ix (actF R).now.l⟩, was := (actF R).was ++ [⟨v, ownw, wiF name ix (actF R).now.l⟩], vW := vW, oW := own4 }, 0, rfl, ?_⟩
        have hs7' := (hs7.put (b := a) (o := 0) (u := .slice a7 ((actF R).fl.length + 1) c7) (by omega)).kp hkw hxw (by simp)
        have hs7'' := hs7'.kp hk4 hx4 (by simp)
        have hsw' := hsw.kp hk4 hx4 (by simp)
        refine StR.moved (R1 := { actF R with fl := (actF R).fl ++ [⟨.slice none 0 0, 0, [], 0⟩], vL := .slice a7 ((actF R).fl.length + 1) c7, oL := own7 }) (StR.file (StR.act h ho (by omega) (by repeat first | exact Kp.refl _ _ _ | refine Kp.dropT ?_ (.inl (by omega)) | refine Kp.put ?_ (.inl (by omega)) | refine Kp.new ?_ (by omega) | refine Kp.put ?_ (.inr (by omega)) | refine Kp.newO ?_ (by omega) | refine Kp.setO ?_ (.inl (by omega)) | refine Kp.setO ?_ (.inr (by omega)) | refine Kp.trans0 ?_ (by assumption) (by omega) | refine Kp.transS ?_ (by assumption) (by omega) (fun b hb hT => by first | omega | (dsimp only at hT ⊢; omega) | (simp only at hT ⊢; omega))) ) (by exact (by repeat first | assumption | refine SlA.dropT ?_ | refine SlA.put ?_ (by omega) | refine SlA.new ?_ (by omega) | refine SlA.newO ?_ (by omega) | refine SlA.setO ?_) ) (by omega) (by omega)) (by exact (by repeat first | assumption | refine SlA.dropT ?_ | refine SlA.put ?_ (by omega) | refine SlA.new ?_ (by omega) | refine SlA.newO ?_ (by omega) | refine SlA.setO ?_) ) (by omega) (by exact (by repeat first | assumption | refine SlA.dropT ?_ | refine SlA.put ?_ (by omega) | refine SlA.new ?_ (by omega) | refine SlA.newO ?_ (by omega) | refine SlA.setO ?_) ) (by omega) (fun x hx => ?_) (by omega) (by show (actF R).was.length ≤ _; omega)
        rcases List.mem_append.1 hx with hx | hx
        · have := (actF_ok ho).now x (woF_sub hx)
          simp only [List.length_append, List.length_singleton]
          omega
        · have : x = (name, ix) := by simpa using hx
          subst this
          simp only [List.length_append, List.length_singleton]
          omega
end Go.Proofs.Ytcdimjocdpogjaa
end
