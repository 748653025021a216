/- slices.Collect over maps.Keys of a map whose keys are prefixes, in our own logic. slices.SortedFunc over maps.Keys of a map whose keys are prefixes; slices.SortFunc of prefixes and of routes: in our own logic. -/
import Derived.Test.YtngnbafididkcaaGreatFacts
import Derived.Test.YtngnbafididkcaaGreatL28
import Derived.Test.YtngnbafididkcaaGreatC5
import Derived.Test.YtngnbafididkcaaGreatL18
import Derived.Test.YtngnbafididkcaaGreatR9
import Derived.Shelf.SlSortCmp.NoneTotal
import Derived.Shelf.Lay
import Derived.Ground.SlsfProg
section
namespace Go.Proofs.YtngnbafididkcaaGreat
open Go.RowKit
set_option linter.unusedSimpArgs false

def pxK (x : Int × Int) : Value := .agg #[.int .u32 x.1, .int .u8 x.2]
theorem keyPx : KeyT Tryz.prog 30 pxK (fun _ _ => True) := keyT_two (j1 := .u32) (j2 := .u8) (by kernel_rfl) (by kernel_rfl)
theorem mapOwn : mapT Tryz.prog 91 = some (30, 22) := by kernel_rfl
def pxC (l : List (Int × Int)) : List Value := l.flatMap fun x => [.int .u32 x.1, .int .u8 x.2]
theorem pxC_one {l : List (Int × Int)} : ∀ v ∈ pxC l, v.oneCell' = true := by
  intro v hv
  simp only [pxC, List.mem_flatMap] at hv
  obtain ⟨c, _, hv⟩ := hv
  simp only [List.mem_cons, List.not_mem_nil, or_false] at hv
  rcases hv with rfl | rfl <;> rfl
theorem pxC_append (a b : List (Int × Int)) : pxC (a ++ b) = pxC a ++ pxC b := by simp [pxC]

theorem IterA.stay {α β : Type} {H H' : AH} {r m clk : Nat} {z dz left : List (Nat × α × β)} (h : IterA H r m clk z dz left) (e : H'.o r = H.o r) : IterA H' r m clk z dz left := ⟨by rw [e]; exact h.it, h.perm⟩

section
variable {ev : Int → Value} {lo : Nat}
structure KcI (J : List (Int × Int) → AH → Nat → Prop) (l Bm m clk : Nat) (z : List (Nat × (Int × Int) × Int)) (r n : Nat) (env : Env) (H : AH) (nx : Nat) (dz left : List (Nat × (Int × Int) × Int)) : Prop where
  hn : n = left.length
  henv : ∃ e, env = (0, .func (.yield l) #[] #[]) :: (5, .pointer (some ⟨r, 0, none⟩)) :: e
  hJ : J (dz.map fun t => t.2.1) H nx
  it : IterA H r m clk z dz left

set_option maxHeartbeats 4000000 in
set_option maxRecDepth 20000 in
/-- The function value that maps.Keys hands back, called with a yield: the keys come, each once. -/
theorem keysPC_c {l Bm m clk : Nat} {ob : Obj} {z : List (Nat × (Int × Int) × Int)} {J : Nat → List (Int × Int) → AH → Nat → Prop} {H : AH} {nx : Nat} (hlo : lo ≤ nx) (hz : MapZ pxK ev ob clk z)
    (hB : H.c Bm 0 = some (.map (some m))) (hm : H.o m = some ob)
    (h0 : ∀ r o, nx ≤ r → J r [] (H.newO r o) (r + 1))
    (hJm : ∀ r ks H nx, J r ks H nx → r < nx ∧ m ≠ r ∧ H.o m = some ob)
    (hJk : ∀ r ks H nx H' nx', J r ks H nx → nx ≤ nx' → Kp (fun b => b = r) nx H H' → J r ks H' nx')
    (hround : ∀ r ks k H nx K, J r ks H nx → ks.length < z.length → (∀ H' nx', nx ≤ nx' → J r (ks ++ [k]) H' nx' → H'.o r = H.o r → K (.bool true) H' nx') → roundQ Tryz.prog lo l [pxK k] K H nx) :
    ACalls Tryz.prog lo 84 #[.func (.yield l) #[] #[], .pointer (some ⟨Bm, 0, none⟩)] H nx (fun v H' nx' => v = .tuple #[] ∧ ∃ r ks, ks.Perm (z.map fun t => t.2.1) ∧ J r ks H' nx') := by
  refine acalls_of_awy L84 Tryz.func84 rfl (by kernel_rfl) ?_
  simp (disch := omega) only [go_sem, ↓reduceIte , hB]
  refine rangeQ_A mapOwn hm hz fun r hr hIt => ?_
  simp (disch := omega) only [go_sem, ↓reduceIte , hB]
  refine awy_loop (fun n env H2 nx2 => ∃ dz left, KcI (J r) l Bm m clk z r n env H2 nx2 dz left) z.length ⟨[], z, ⟨rfl, ⟨[], rfl⟩, h0 r _ hr, hIt⟩⟩ (fun n env H2 nx2 ⟨dz, left, hI⟩ hn2 => ?_)
  obtain ⟨hn, ⟨e, henv⟩, hJ, hit⟩ := hI
  subst henv
  obtain ⟨hrn, hmr, hmo⟩ := hJm _ _ _ _ hJ
  simp (disch := omega) only [go_sem, ↓reduceIte ]
  refine nextMQ_A hmo hz hit (by omega) (fun t left' ob2 htz hlt hit2 => ?_) (fun hl => ?_)
  · simp (disch := omega) only [go_sem, ↓reduceIte ]
    refine entryQ_A (by simp (disch := omega) only [go_sem, ↓reduceIte , hmo]) hz hit2 ?_
    unfold pxK
    simp (disch := omega) only [go_sem, ↓reduceIte ]
    intro d hd
    simp (disch := omega) only [go_sem, ↓reduceIte ]
    have hdl : dz.length + 1 + left'.length = z.length := by
      have := hit2.perm.length_eq
      rw [List.length_append, List.length_append] at this
      simp only [List.length_cons, List.length_nil] at this
      omega
    refine hround r (dz.map fun t => t.2.1) t.2.1 _ _ _ (hJk _ _ _ _ _ (d + 1) hJ (by omega) (by repeat first | exact Kp.refl _ _ _ | refine Kp.dropT ?_ (.inl (by omega)) | refine Kp.put ?_ (.inl (by omega)) | refine Kp.new ?_ (by omega) | refine Kp.put ?_ (.inr (by omega)) | refine Kp.newO ?_ (by omega) | refine Kp.setO ?_ (.inl (by omega)) | refine Kp.setO ?_ (.inr (by omega)) | refine Kp.trans0 ?_ (by assumption) (by omega) | refine Kp.transS ?_ (by assumption) (by omega) (fun b hb hT => by first | omega | (dsimp only at hT ⊢; omega) | (simp only at hT ⊢; omega))) ) (by rw [List.length_map]; omega) fun H' nx' hx' hJ' hr' => ?_
    simp (disch := omega) only [go_sem, ↓reduceIte ]
    refine ⟨left'.length, by omega, dz ++ [t], left', ⟨rfl, ⟨_, rfl⟩, by rw [List.map_append]; exact hJ', hit2.stay ?_⟩⟩
    rw [hr']
    simp (disch := omega) only [go_sem, ↓reduceIte ]
  · simp (disch := omega) only [go_sem, ↓reduceIte ]
    refine retY_normal ?_
    simp (disch := omega) only [go_sem, ↓reduceIte ]
    refine ⟨r, dz.map fun t => t.2.1, ?_, hJ⟩
    have := hit.perm
    rw [hl, List.append_nil] at this
    exact (this.map fun t => t.2.1).symm

/-- What stands between two rounds. -/
structure ApA (nx0 : Nat) (H0 : AH) (Bs D : Nat) (rec : Loop) (r : Nat) (ks : List (Int × Int)) (H : AH) (nx : Nat) : Prop where
  hx : r < nx
  hr : D + 1 < r
  hk : Kp (fun b => b = r) nx0 H0 H
  bx : ∃ v own, H.c Bs 0 = some v ∧ SlA nx H 2 v ks.length (pxC ks) own ∧ (own = 0 ∨ r + 1 < own)
  tB : H.t Bs = some (46, 1)
  ol : H.o (D + 1) = some (.loop rec)
  oD : H.o D = some (.deferred (some []))

def apL : Nat → List Nat := fun | 0 => [1, 2] | 1 => [2, 6] | 2 => [2, 5] | 4 => [4] | _ => []

set_option maxHeartbeats 4000000 in
set_option maxRecDepth 20000 in
theorem appSeqP_c {Bm m clk : Nat} {ob : Obj} {z : List (Nat × (Int × Int) × Int)} {H : AH} {nx : Nat} (hlo : lo ≤ nx) (hz : MapZ pxK ev ob clk z) (hzl : z.length ≤ 1000000)
    (hB : H.c Bm 0 = some (.map (some m))) (hBn : Bm < nx) (hm : H.o m = some ob) (hmn : m < nx) :
    ACalls Tryz.prog lo 116 #[.slice none 0 0, .func (.func 84) #[] #[.pointer (some ⟨Bm, 0, none⟩)]] H nx (fun v H' nx' => ∃ own ks, ks.Perm (z.map fun t => t.2.1) ∧ SlA nx' H' 2 v ks.length (pxC ks) own ∧ (own = 0 ∨ nx < own) ∧ nx ≤ nx' ∧ Kp (fun _ => False) nx H H') := by
  refine acalls_of_awy apL Tryz.func116 rfl (by kernel_rfl) ?_
  simp (disch := omega) only [go_sem, ↓reduceIte , apL]
  intro Bs hBs
  simp (disch := omega) only [go_sem, ↓reduceIte , apL]
  refine ⟨rfl, 84, #[.pointer (some ⟨Bm, 0, none⟩)], by simp only [ev_tmp, eg_cons, ↓reduceIte, reduceCtorEq, Nat.reduceEqDiff], by kernel_rfl, fun fn tmps D l he hD hl => ?_⟩
  subst hl
  generalize hrec : (Loop.mk .ready none fn tmps #[7] _ _ D) = rec
  show ACalls Tryz.prog lo 84 #[.func (.yield (D + 1)) #[] #[], .pointer (some ⟨Bm, 0, none⟩)] _ _ _
  have hBs1 : Bs < D := by omega
  refine (keysPC_c (l := D + 1) (Bm := Bm) (m := m) (J := ApA nx H Bs D rec) (by omega) hz (by simp (disch := omega) only [go_sem, ↓reduceIte , hB]) (by simp (disch := omega) only [go_sem, ↓reduceIte , hm]) (fun r o hr => ?_) (fun r ks H2 nx2 hJ => ⟨hJ.hx, by have := hJ.hr; omega, by have := hJ.hr; rw [(hJ.hk m (by omega) (by omega)).2.1]; exact hm⟩) (fun r ks H2 nx2 H3 nx3 hJ hn3 hk3 => ?_) (fun r ks k H2 nx2 K hJ hlen hK => ?_)).mono fun v H2 nx2 hx2 ⟨hv, r, ks, hp, hJ⟩ => ?_
  · exact ⟨by omega, by omega, (by repeat first | exact Kp.refl _ _ _ | refine Kp.dropT ?_ (.inl (by omega)) | refine Kp.put ?_ (.inl (by omega)) | refine Kp.new ?_ (by omega) | refine Kp.put ?_ (.inr (by omega)) | refine Kp.newO ?_ (by omega) | refine Kp.setO ?_ (.inl (by omega)) | refine Kp.setO ?_ (.inr (by omega)) | refine Kp.trans0 ?_ (by assumption) (by omega) | refine Kp.transS ?_ (by assumption) (by omega) (fun b hb hT => by first | omega | (dsimp only at hT ⊢; omega) | (simp only at hT ⊢; omega))) , ⟨.slice none 0 0, 0, by simp (disch := omega) only [go_sem, ↓reduceIte ], SlA.nil _ _ _, .inl rfl⟩, by simp (disch := omega) only [go_sem, ↓reduceIte ]; rfl, by simp (disch := omega) only [go_sem, ↓reduceIte ], by simp (disch := omega) only [go_sem, ↓reduceIte ]⟩
  · obtain ⟨hx, hr, hk, ⟨v, own, h1, h2, h3⟩, tB, ol, oD⟩ := hJ
    have hBr : Bs ≠ r := by omega
    exact ⟨by omega, hr, hk.trans (U := fun b => b = r) hk3 (by omega) (fun _ _ e => e) (fun _ _ e => e), ⟨v, own, by rw [hk3.cell Bs 0 (by omega) hBr, h1], h2.kp hk3 hn3 (fun b e h => by omega), h3⟩, by rw [(hk3 Bs (by omega) hBr).2.2]; exact tB, by rw [(hk3 (D + 1) (by omega) (by omega)).2.1]; exact ol, by rw [(hk3 D (by omega) (by omega)).2.1]; exact oD⟩
  · obtain ⟨hx, hr, hk, ⟨v, own, h1, h2, h3⟩, tB, ol, oD⟩ := hJ
    have hst : rec.state = .ready := by rw [← hrec]
    obtain ⟨va, vc, rfl⟩ := h2.form
    refine ⟨rec, ol, by rw [← hrec]; rfl, ?_⟩
    rw [← hrec]
    dsimp only
    refine ARound.of apL (N := Tryz.f116.ntmps) (rec := rec) (env := [(7, pxK k), (2, .pointer (some ⟨Bs, 0, none⟩))]) (by omega) hst (by kernel_rfl) ?_ ?_
    · have h7 := (he.sub (env' := [(2, .pointer (some ⟨Bs, 0, none⟩))]) (fun t v h => by
        simp only [eg_cons, eg_nil] at h ⊢
        split at h
        · rename_i e
          subst e
          simpa using h
        · cases h)).push (dst := some 7) (fun d e => by cases e; decide) (pxK k)
      rw [show Array.foldl (fun (tmps : Array Value) (x : Nat × Value) => tmps.setIfInBounds x.1 x.2) tmps (#[7].zip #[pxK k]) = tmps.setIfInBounds 7 (pxK k) from by simp]
      exact h7
    · unfold pxK
      simp (disch := omega) only [go_sem, ↓reduceIte , apL]
      intro d hd
      simp (disch := omega) only [go_sem, ↓reduceIte ]
      refine ⟨rfl, by simp (disch := omega) only [go_sem, ↓reduceIte , ol], ?_⟩
      simp (disch := omega) only [go_sem, ↓reduceIte , apL, h1]
      generalize hH3 : (((H2.new d #[.int .u32 0, .int .u8 0] 30).put d 0 (.int .u32 k.1)).put d 1 (.int .u8 k.2)).setO (D + 1) _ = H3
      have hk3 : Kp (fun b => b = D + 1) nx2 H2 H3 := by rw [← hH3]; exact (by repeat first | exact Kp.refl _ _ _ | refine Kp.dropT ?_ (.inl (by omega)) | refine Kp.put ?_ (.inl (by omega)) | refine Kp.new ?_ (by omega) | refine Kp.put ?_ (.inr (by omega)) | refine Kp.newO ?_ (by omega) | refine Kp.setO ?_ (.inl (by omega)) | refine Kp.setO ?_ (.inr (by omega)) | refine Kp.trans0 ?_ (by assumption) (by omega) | refine Kp.transS ?_ (by assumption) (by omega) (fun b hb hT => by first | omega | (dsimp only at hT ⊢; omega) | (simp only at hT ⊢; omega))) 
      have ol3 : H3.o (D + 1) = some (.loop { rec with state := .busy }) := by rw [← hH3]; simp (disch := omega) only [go_sem, ↓reduceIte ]
      clear hH3
      have sl1 := h2.kp hk3 (by omega : nx2 ≤ d + 1) (fun b e h => by omega)
      refine buildSQ_all (n := 1) [.agg #[.int .u32 k.1, .int .u8 k.2]] sl46 zero30 (by omega) (by omega) rfl (by simp [cells_agg]) fun e he => ?_
      have hlit : ∀ H' : AH, SlA (e + 1) (H'.new e ([Value.agg #[.int .u32 k.1, .int .u8 k.2]].flatMap fun v => v.cells.toList).toArray 30) 2 (.slice (some ⟨e, 0, none⟩) 1 1) 1 (pxC [k]) (e + 1) := fun H' => SlA.ofNew rfl (by omega) (by simp [maxLen]) (by simp [cells_agg]) (fun j _ => by simp [cells_agg, pxC])
      have sl2 := sl1.new (vs := ([Value.agg #[.int .u32 k.1, .int .u8 k.2]].flatMap fun v => v.cells.toList).toArray) (e := 30) he
      simp (disch := omega) only [go_sem, ↓reduceIte ]
      refine appendQ_two (aw_append sl46 zero30 rfl by30 sl2 ((hlit _).src sl46 pxC_one) (by simp only [maxLen]; omega) (by omega) (by omega) fun v7 H7 nx7 own7 hn7 hs7 ho7 hk7 _ => ?_)
      have hone7 := hs7.one
      have hk37 : Kp (fun b => b + 1 = own) (d + 1) H3 H7 := by
        have hke : Kp (fun _ => False) (d + 1) H3 (H3.new e ([Value.agg #[.int .u32 k.1, .int .u8 k.2]].flatMap fun v => v.cells.toList).toArray 30) := (by repeat first | exact Kp.refl _ _ _ | refine Kp.dropT ?_ (.inl (by omega)) | refine Kp.put ?_ (.inl (by omega)) | refine Kp.new ?_ (by omega) | refine Kp.put ?_ (.inr (by omega)) | refine Kp.newO ?_ (by omega) | refine Kp.setO ?_ (.inl (by omega)) | refine Kp.setO ?_ (.inr (by omega)) | refine Kp.trans0 ?_ (by assumption) (by omega) | refine Kp.transS ?_ (by assumption) (by omega) (fun b hb hT => by first | omega | (dsimp only at hT ⊢; omega) | (simp only at hT ⊢; omega))) 
        exact hke.trans (U := fun b => b + 1 = own) hk7 (by omega) (fun _ _ h => h.elim) (fun b hb h => by omega)
      have b7 : H7.c Bs 0 = some (.slice va ks.length vc) := by
        rw [hk37.cell Bs 0 (by omega) (by omega), hk3.cell Bs 0 (by omega) (by omega)]
        exact h1
      have t7 : H7.t Bs = some (46, 1) := by
        rw [(hk37 Bs (by omega) (by omega)).2.2, (hk3 Bs (by omega) (by omega)).2.2]
        exact tB
      have o7 : H7.o (D + 1) = some (.loop { rec with state := .busy }) := by
        rw [(hk37 (D + 1) (by omega) (by omega)).2.1]
        exact ol3
      simp (disch := omega) only [go_sem, ↓reduceIte , b7, hone7]
      refine ⟨{ rec with state := .busy }, by simp (disch := omega) only [go_sem, ↓reduceIte , o7], hK _ _ (by omega) ?_ ?_⟩
      · have kf : Kp (fun b => b = Bs ∨ b = D + 1 ∨ b + 1 = own) nx2 H2 (((H7.put Bs 0 v7).setO (D + 1) (.loop { rec with state := .ready, pending := none }))) := by
          have k0 : Kp (fun b => b = Bs ∨ b = D + 1 ∨ b + 1 = own) nx2 H2 H7 := hk3.trans (U := fun b => b = Bs ∨ b = D + 1 ∨ b + 1 = own) hk37 (by omega) (fun _ _ h => .inr (.inl h)) (fun _ _ h => .inr (.inr h))
          exact (k0.put (.inr (.inl rfl))).setO (.inr (.inr (.inl rfl)))
        refine ⟨by omega, hr, hk.trans (U := fun b => b = r) kf (by omega) (fun _ _ h => h) (fun b hb h => by omega), ⟨v7, own7, by simp (disch := omega) only [go_sem, ↓reduceIte ], ?_, by omega⟩, ?_, ?_, ?_⟩
        · rw [List.length_append, pxC_append]
          exact (by repeat first | assumption | refine SlA.dropT ?_ | refine SlA.put ?_ (by omega) | refine SlA.new ?_ (by omega) | refine SlA.newO ?_ (by omega) | refine SlA.setO ?_) 
        · rw [← t7]
          rfl
        · rw [setO_same]
          rw [← hrec]
        · rw [(kf D (by omega) (by omega)).2.1]
          exact oD
      · have kr : Kp (fun b => b = Bs ∨ b = D + 1 ∨ b + 1 = own) nx2 H2 H7 := hk3.trans (U := fun b => b = Bs ∨ b = D + 1 ∨ b + 1 = own) hk37 (by omega) (fun _ _ h => .inr (.inl h)) (fun _ _ h => .inr (.inr h))
        simp (disch := omega) only [go_sem, ↓reduceIte ]
        exact (kr r (by omega) (by omega)).2.1
  · subst hv
    obtain ⟨hx, hr, hk, ⟨v, own, h1, h2, h3⟩, tB, ol, oD⟩ := hJ
    refine aw_endLoop ol (by rw [← hrec]) (by omega) ⟨by rw [← hrec], ?_⟩
    have hone := h2.one
    simp (disch := omega) only [go_sem, ↓reduceIte , apL, h1, hone]
    refine retY_mark (by omega) (by simp (disch := omega) only [go_sem, ↓reduceIte , oD]) ?_
    simp (disch := omega) only [go_sem, ↓reduceIte ]
    refine ⟨own, ks, hp, (by repeat first | assumption | refine SlA.dropT ?_ | refine SlA.put ?_ (by omega) | refine SlA.new ?_ (by omega) | refine SlA.newO ?_ (by omega) | refine SlA.setO ?_) , by omega, by omega, ?_⟩
    exact ((hk.setO (.inl (by omega))).setO (.inl (by omega))).mono (Nat.le_refl _) (fun b hb h => by omega)
end
end Go.Proofs.YtngnbafididkcaaGreat
end
section
namespace Go.Proofs.YtngnbafididkcaaGreat
open Go.Shelf Go.RowKit Go.Lib Go.Sort
set_option linter.unusedSimpArgs false
shelf_lay_g SlLaysF0.n6 Slsf 6 at Tryz 83 as sortPx
shelf_lay_g SlLaysF0.n6 Slsf 6 at Tryz 51 as sortRt

def cfP (x y : Int × Int) : Int := pxCmpI x.1 x.2 y.1 y.2
def ltX (x y : Int × Int) : Prop := x.1 < y.1 ∨ (x.1 = y.1 ∧ x.2 < y.2)
theorem cfP_lt (x y : Int × Int) : cfP x y < 0 ↔ ltX x y := by
  unfold cfP pxCmpI orI2 cmpI ltX
  repeat' split
  all_goals omega
theorem ltPx (x y : Int × Int) : ltOf (fun x y : Int × Int => cfP x y) x y = decide (cfP x y < 0) := rfl
theorem swoP : SWO (ltOf fun x y : Int × Int => cfP x y) where
  irrefl x := by rw [ltPx, decide_eq_false_iff_not, cfP_lt]; unfold ltX; omega
  trans x y z h1 h2 := by rw [ltPx, decide_eq_true_iff, cfP_lt] at *; unfold ltX at *; omega
  ntrans x y z h1 h2 := by rw [ltPx, decide_eq_false_iff_not, cfP_lt] at *; unfold ltX at *; omega
def pxL (x : Int × Int) : List Value := [.int .u32 x.1, .int .u8 x.2]
theorem pxC_flat (l : List (Int × Int)) : pxC l = l.flatMap pxL := rfl

theorem sortPx_c {lo : Nat} {H : AH} {nx : Nat} {v : Value} {ks : List (Int × Int)} {own : Nat} (hs : SlA nx H 2 v ks.length (pxC ks) own) (how : own = 0 ∨ lo < own) (hl : ks.length ≤ 1000000) :
    ACalls Tryz.prog lo 83 #[v, .func (.func 48) #[] #[]] H nx (fun r H' nx' => r = .tuple #[] ∧ nx' = nx ∧ ∃ ks' : List (Int × Int), ks'.Perm ks ∧ ks'.Pairwise (fun x y => ¬ ltX y x) ∧ Kp (fun b => b + 1 = own) nx H H' ∧ SlA nx H' 2 v ks'.length (pxC ks') own) := by
  have hcl : ∀ (x y : Int × Int) (W : World), Calls Tryz.prog 48 #[.agg (pxL x).toArray, .agg (pxL y).toArray] W fun e w' => e = .returned (.int .i64 (cfP x y)) ∧ ∃ q os', w' = Go.Sort.grow (W.drewN q) os' := fun x y W =>
    (calls_grow (R := fun v => v = .int .i64 (cfP x y)) (fun H lo nx _ => (pxCmp_d (lo := lo) x.1 x.2 y.1 y.2 H nx).mono fun v H' nx' _ ⟨hv, _, _, hd⟩ => ⟨hv, hd⟩) W).mono fun e w' ⟨⟨v, he, hv⟩, h⟩ => ⟨by rw [he, hv], h⟩
  have hcon := acalls_sort sortPx (k := 2) Tryz.isAgg30 Tryz.sizeOf30 (enc := pxL) (fun _ => rfl) (fun x u hu => pxC_one (l := [x]) u (by simpa [pxC, pxL] using hu)) swoP (g := 48) (enters_of Tryz.func48 (by kernel_rfl) rfl) hcl (lo := lo) (nx := nx) (H := H) (v := v) (own := own) (d := ks) hs how (by omega)
  exact hcon.mono fun r H' nx' _ ⟨hr, hx, d', hp, hsd, hk, hs'⟩ => ⟨hr, hx, d', hp, hsd.imp (fun {a b} h => by
    rw [ltPx, decide_eq_false_iff_not, cfP_lt] at h; exact h), hk, by subst hx; exact hs'⟩

def cfR (x y : Rt) : Int := pxCmpI x.addr x.len y.addr y.len
def ltR (x y : Rt) : Prop := x.addr < y.addr ∨ (x.addr = y.addr ∧ x.len < y.len)
theorem cfR_lt (x y : Rt) : cfR x y < 0 ↔ ltR x y := by
  unfold cfR pxCmpI orI2 cmpI ltR
  repeat' split
  all_goals omega
theorem ltRt (x y : Rt) : ltOf (fun x y : Rt => cfR x y) x y = decide (cfR x y < 0) := rfl
theorem swoR : SWO (ltOf fun x y : Rt => cfR x y) where
  irrefl x := by rw [ltRt, decide_eq_false_iff_not, cfR_lt]; unfold ltR; omega
  trans x y z h1 h2 := by rw [ltRt, decide_eq_true_iff, cfR_lt] at *; unfold ltR at *; omega
  ntrans x y z h1 h2 := by rw [ltRt, decide_eq_false_iff_not, cfR_lt] at *; unfold ltR at *; omega
instance : Inhabited Rt := ⟨⟨0, 0, 0, 0, 0⟩⟩
set_option maxRecDepth 20000 in
theorem eselD_c {lo : Nat} (x y : Rt) (H : AH) (nx : Nat) : ACalls Tryz.prog lo 52 #[.agg x.cells.toArray, .agg y.cells.toArray] H nx (fun v H' _ => v = .int .i64 (cfR x y) ∧ H'.d = H.d) := by
  unfold Rt.cells
  refine ACalls.withLo fun hlo => ?_
  refine acalls_of_awp L52 Tryz.func52 rfl (by kernel_rfl) ?_
  simp (disch := omega) only [go_sem, ↓reduceIte ]
  intro p hp
  simp (disch := omega) only [go_sem, ↓reduceIte ]
  intro q hq
  simp (disch := omega) only [go_sem, ↓reduceIte ]
  refine (pxCmp_d _ _ _ _ _ _).mono fun v H1 nx1 _ ⟨hv, hx1, hk1, hd1⟩ => ?_
  subst hv
  simp (disch := omega) only [go_sem, ↓reduceIte ]
  exact ⟨rfl, by rw [hd1]; rfl⟩
theorem sortRt_c {lo : Nat} {H : AH} {nx : Nat} {v : Value} {ts : List Rt} {own : Nat} (hs : SlA nx H 5 v ts.length (rtCells ts) own) (how : own = 0 ∨ lo < own) (hl : ts.length ≤ 1000000) :
    ACalls Tryz.prog lo 51 #[v, .func (.func 52) #[] #[]] H nx (fun r H' nx' => r = .tuple #[] ∧ nx' = nx ∧ ∃ ts' : List Rt, ts'.Perm ts ∧ ts'.Pairwise (fun x y => ¬ ltR y x) ∧ Kp (fun b => b + 1 = own) nx H H' ∧ SlA nx H' 5 v ts'.length (rtCells ts') own) := by
  have hcl : ∀ (x y : Rt) (W : World), Calls Tryz.prog 52 #[.agg x.cells.toArray, .agg y.cells.toArray] W fun e w' => e = .returned (.int .i64 (cfR x y)) ∧ ∃ q os', w' = Go.Sort.grow (W.drewN q) os' := fun x y W =>
    (calls_grow (R := fun v => v = .int .i64 (cfR x y)) (fun H lo nx _ => eselD_c x y H nx) W).mono fun e w' ⟨⟨v, he, hv⟩, h⟩ => ⟨by rw [he, hv], h⟩
  have hcon := acalls_sort sortRt (k := 5) Tryz.isAgg40 Tryz.sizeOf40 (enc := fun x : Rt => x.cells) (fun _ => rfl) (fun x u hu => rtCells_one (l := [x]) u (by simpa [rtCells] using hu)) swoR (g := 52) (enters_of Tryz.func52 (by kernel_rfl) rfl) hcl (lo := lo) (nx := nx) (H := H) (v := v) (own := own) (d := ts) hs how (by omega)
  exact hcon.mono fun r H' nx' _ ⟨hr, hx, d', hp, hsd, hk, hs'⟩ => ⟨hr, hx, d', hp, hsd.imp (fun {a b} h => by
    rw [ltRt, decide_eq_false_iff_not, cfR_lt] at h; exact h), hk, by subst hx; exact hs'⟩

section
variable {ev : Int → Value} {lo : Nat}
set_option maxRecDepth 20000 in
theorem collectP_c {Bm m clk : Nat} {ob : Obj} {z : List (Nat × (Int × Int) × Int)} {H : AH} {nx : Nat} (hlo : lo ≤ nx) (hz : MapZ pxK ev ob clk z) (hzl : z.length ≤ 1000000)
    (hB : H.c Bm 0 = some (.map (some m))) (hBn : Bm < nx) (hm : H.o m = some ob) (hmn : m < nx) :
    ACalls Tryz.prog lo 82 #[.func (.func 84) #[] #[.pointer (some ⟨Bm, 0, none⟩)]] H nx (fun v H' nx' => ∃ own ks, ks.Perm (z.map fun t => t.2.1) ∧ SlA nx' H' 2 v ks.length (pxC ks) own ∧ (own = 0 ∨ nx < own) ∧ nx ≤ nx' ∧ Kp (fun _ => False) nx H H') := by
  refine acalls_of_awp L82 Tryz.func82 rfl (by kernel_rfl) ?_
  simp (disch := omega) only [go_sem, ↓reduceIte ]
  refine (appSeqP_c hlo hz hzl hB hBn hm hmn).mono fun v H' nx' _ ⟨own, ks, h1, h2, h3, h4, h5⟩ => ?_
  simp (disch := omega) only [go_sem, ↓reduceIte ]
  exact ⟨own, ks, h1, h2, h3, h4, h5⟩
set_option maxRecDepth 20000 in
theorem sortedP_c {Bm m clk : Nat} {ob : Obj} {z : List (Nat × (Int × Int) × Int)} {H : AH} {nx : Nat} (hlo : lo ≤ nx) (hz : MapZ pxK ev ob clk z) (hzl : z.length ≤ 1000000)
    (hB : H.c Bm 0 = some (.map (some m))) (hBn : Bm < nx) (hm : H.o m = some ob) (hmn : m < nx) :
    ACalls Tryz.prog lo 46 #[.func (.func 84) #[] #[.pointer (some ⟨Bm, 0, none⟩)], .func (.func 48) #[] #[]] H nx (fun v H' nx' => ∃ own ks, ks.Perm (z.map fun t => t.2.1) ∧ ks.Pairwise (fun x y => ¬ ltX y x) ∧ SlA nx' H' 2 v ks.length (pxC ks) own ∧ (own = 0 ∨ nx < own) ∧ nx ≤ nx' ∧ Kp (fun _ => False) nx H H') := by
  refine acalls_of_awp L46 Tryz.func46 rfl (by kernel_rfl) ?_
  simp (disch := omega) only [go_sem, ↓reduceIte ]
  refine (collectP_c hlo hz hzl hB hBn hm hmn).mono fun v H1 nx1 _ ⟨own, ks, h1, h2, h3, h4, h5⟩ => ?_
  simp (disch := omega) only [go_sem, ↓reduceIte ]
  have hkl := h1.length_eq
  rw [List.length_map] at hkl
  refine (sortPx_c (ks := ks) h2 (by omega) (by omega)).mono fun r H2 nx2 _ ⟨hr, hx2, ks', hp, hsd, hk2, hs2⟩ => ?_
  subst hr; subst hx2
  simp (disch := omega) only [go_sem, ↓reduceIte ]
  exact ⟨own, ks', hp.trans h1, hsd, hs2, h3, h4, h5.trans (U := fun _ => False) hk2 h4 (fun _ _ h => h) (fun b hb h => by omega)⟩
end
/-- maps.Keys: the map is boxed. -/
theorem keysP_c {lo : Nat} {H : AH} {nx m : Nat} : ACalls Tryz.prog lo 47 #[.map (some m)] H nx (fun v H' nx' => ∃ b, nx ≤ b ∧ nx' = b + 1 ∧ v = .func (.func 84) #[] #[.pointer (some ⟨b, 0, none⟩)] ∧ H'.c b 0 = some (.map (some m)) ∧ Kp (fun _ => False) nx H H') := by
  refine acalls_of_awp L47 Tryz.func47 rfl (by kernel_rfl) ?_
  simp (disch := omega) only [go_sem, ↓reduceIte ]
  intro b hb
  simp (disch := omega) only [go_sem, ↓reduceIte ]
  exact ⟨b, hb, rfl, rfl, by simp (disch := omega) only [go_sem, ↓reduceIte ], (by repeat first | exact Kp.refl _ _ _ | refine Kp.dropT ?_ (.inl (by omega)) | refine Kp.put ?_ (.inl (by omega)) | refine Kp.new ?_ (by omega) | refine Kp.put ?_ (.inr (by omega)) | refine Kp.newO ?_ (by omega) | refine Kp.setO ?_ (.inl (by omega)) | refine Kp.setO ?_ (.inr (by omega)) | refine Kp.trans0 ?_ (by assumption) (by omega) | refine Kp.transS ?_ (by assumption) (by omega) (fun b hb hT => by first | omega | (dsimp only at hT ⊢; omega) | (simp only at hT ⊢; omega))) ⟩
end Go.Proofs.YtngnbafididkcaaGreat
end
