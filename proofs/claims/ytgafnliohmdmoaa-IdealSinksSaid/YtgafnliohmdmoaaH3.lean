/- Ideal, in our own logic: Rows (sorted). -/
import Derived.Test.YtgafnliohmdmoaaH2
import Derived.Test.YtgafnliohmdmoaaS3
namespace Go.Proofs.Ytgafnliohmdmoaa
open Go.RowKit Go.Sort
set_option linter.unusedSimpArgs false

def rwCells (l : List RwR) : List Value := l.flatMap RwR.cells
theorem rwCells_one {l : List RwR} : ∀ v ∈ rwCells l, v.oneCell' = true := by
  intro v hv
  simp only [rwCells, List.mem_flatMap] at hv
  obtain ⟨c, _, hv⟩ := hv
  simp only [RwR.cells, List.mem_cons, List.not_mem_nil, or_false] at hv
  rcases hv with rfl | rfl | rfl | rfl | rfl | rfl | rfl | rfl | rfl | rfl <;> rfl
theorem rwCells_append (a b : List RwR) : rwCells (a ++ b) = rwCells a ++ rwCells b := by simp [rwCells]
instance : Inhabited RwR := ⟨⟨0, 0, false, 0, 0, 0, 0, 0, 0, 0⟩⟩
def cfR (x y : RwR) : Int := pxCmpI x.a x.n y.a y.n
def aheadR (x y : RwR) : Prop := x.a < y.a ∨ (x.a = y.a ∧ x.n < y.n)
theorem cfR_lt (x y : RwR) : cfR x y < 0 ↔ aheadR x y := by
  unfold cfR pxCmpI orI2 cmpI aheadR
  repeat' split
  all_goals omega
theorem ltR (x y : RwR) : ltOf (fun x y : RwR => cfR x y) x y = decide (cfR x y < 0) := rfl
theorem swoR : SWO (ltOf fun x y : RwR => cfR x y) where
  irrefl x := by rw [ltR, decide_eq_false_iff_not, cfR_lt]; unfold aheadR; omega
  trans x y z h1 h2 := by rw [ltR, decide_eq_true_iff, cfR_lt] at *; unfold aheadR at *; omega
  ntrans x y z h1 h2 := by rw [ltR, decide_eq_false_iff_not, cfR_lt] at *; unfold aheadR at *; omega
set_option maxRecDepth 20000 in
theorem irowsC_c {lo : Nat} (x y : RwR) (H : AH) (nx : Nat) : ACalls Try.prog lo 29 #[.agg x.cells.toArray, .agg y.cells.toArray] H nx (fun v H' _ => v = .int .i64 (cfR x y) ∧ H'.d = H.d) := by
  unfold RwR.cells
  refine ACalls.withLo fun hlo => ?_
  refine acalls_of_awp L29 Try.func29 rfl (by kernel_rfl) ?_
  simp (disch := omega) only [go_sem, ↓reduceIte ]
  intro p hp
  simp (disch := omega) only [go_sem, ↓reduceIte ]
  intro q hq
  simp (disch := omega) only [go_sem, ↓reduceIte ]
  refine (pxCmp_d _ _ _ _ _ _).mono fun v H1 nx1 _ ⟨hv, hx1, hk1, hd1⟩ => ?_
  subst hv
  simp (disch := omega) only [go_sem, ↓reduceIte ]
  exact ⟨rfl, by rw [hd1]; rfl⟩

theorem sortRow_c {lo : Nat} {H : AH} {nx : Nat} {v : Value} {ts : List RwR} {own : Nat} (hs : SlA nx H 10 v ts.length (rwCells ts) own) (how : own = 0 ∨ lo < own) (hl : ts.length ≤ 1000000) :
    ACalls Try.prog lo 28 #[v, .func (.func 29) #[] #[]] H nx (fun r H' nx' => r = .tuple #[] ∧ nx' = nx ∧ ∃ ts' : List RwR, ts'.Perm ts ∧ Kp (fun b => b + 1 = own) nx H H' ∧ SlA nx H' 10 v ts'.length (rwCells ts') own) := by
  have hcl : ∀ (x y : RwR) (W : World), Calls Try.prog 29 #[.agg x.cells.toArray, .agg y.cells.toArray] W fun e w' => e = .returned (.int .i64 (cfR x y)) ∧ ∃ q os', w' = Go.Sort.grow (W.drewN q) os' := fun x y W =>
    (calls_grow (R := fun v => v = .int .i64 (cfR x y)) (fun H lo nx _ => irowsC_c x y H nx) W).mono fun e w' ⟨⟨v, he, hv⟩, h⟩ => ⟨by rw [he, hv], h⟩
  have hcon := acalls_sort sortRow (k := 10) Try.isAgg54 Try.sizeOf54 (enc := fun x : RwR => x.cells) (fun _ => rfl) (fun x u hu => rwCells_one (l := [x]) u (by simpa [rwCells] using hu)) swoR (g := 29) (enters_of Try.func29 (by kernel_rfl) rfl) hcl (lo := lo) (nx := nx) (H := H) (v := v) (own := own) (d := ts) hs how (by omega)
  exact hcon.mono fun r H' nx' _ ⟨hr, hx, d', hp, hsd, hk, hs'⟩ => ⟨hr, hx, d', hp, hk, by subst hx; exact hs'⟩

theorem IterA.stay {α β : Type} {H H' : AH} {r m clk : Nat} {z dz left : List (Nat × α × β)} (h : IterA H r m clk z dz left) (e : H'.o r = H.o r) : IterA H' r m clk z dz left := ⟨by rw [e]; exact h.it, h.perm⟩
structure RgI (nx0 : Nat) (H0 : AH) (mb r clk : Nat) (z : List (Nat × (Int × Int) × RwR)) (m : Nat) (env : Env) (H : AH) (nx : Nat) (dz left : List (Nat × (Int × Int) × RwR)) (v : Value) (own : Nat) : Prop where
  hm : m = left.length
  henv : env = [(11, v), (85, .pointer (some ⟨r, 0, none⟩))]
  hx : nx0 ≤ nx
  hk : Kp (fun b => b = r) nx0 H0 H
  it : IterA H r mb clk z dz left
  sl : SlA nx H 10 v dz.length (rwCells (dz.map fun t => t.2.2)) own
  ow : own = 0 ∨ nx0 < own

noncomputable def rwTail : Code := codeAt [.T, .T, .T, .T] ((Try.f22.body).getD .skip)
def rowsQ (nx : Nat) (H : AH) (v : Value) (H' : AH) (nx' : Nat) : Prop := nx ≤ nx' ∧ Kp (fun _ => False) nx H H' ∧ ∃ (own' : Nat) (rs : List RwR), SlA nx' H' 10 v rs.length (rwCells rs) own' ∧ (own' = 0 ∨ nx < own') ∧ rs.length ≤ 1000

set_option maxHeartbeats 4000000 in
set_option maxRecDepth 20000 in
theorem rw_tail {lo nx nxb : Nat} {H Hb : AH} {s : Value} {n mb : Nat} (hlo : lo ≤ nx) (hn : n ≤ 1000) (hmb : nx ≤ mb) (hmb1 : mb < nxb) (hkb : Kp (fun _ => False) nx H Hb) {env : Env} {H1 : AH} {nx1 : Nat} {ob : Obj} {l : List ((Int × Int) × RwR)} (hI : RwI nxb Hb s n mb 0 env H1 nx1 n ob l) :
    awp Try.prog lo L22 rwTail (retQ Try.prog Try.f22 (rowsQ nx H)) (env ++ [(32, .bool false)]) H1 nx1 := by
  have hcode : rwTail = codeAt [.T, .T, .T, .T] ((Try.f22.body).getD .skip) := rfl
  simp only [Try.f22, Option.getD_some, codeAt_H, codeAt_T, codeAt_I, codeAt_L, codeAt_C, codeAt_P, codeAt_nil] at hcode
  rw [hcode]
  clear hcode
  obtain ⟨hm, hi, henv, hx, hk, ho, hM, hll⟩ := hI
  subst henv
  have k1 : Kp (fun _ => False) nx H H1 := hkb.trans (U := fun _ => False) hk (by omega) (fun _ _ e => e) (fun b hb e => by omega)
  obtain ⟨huo, clk, z, hz, hzo⟩ := hM
  have hzl : z.length ≤ 1000 := by
    have : (z.map (·.2)).length = l.length := by rw [hzo]
    rw [List.length_map] at this
    omega
  simp only [List.cons_append, List.nil_append]
  simp (disch := omega) only [go_sem, ↓reduceIte ]
  refine rangeQ_A mapRw ho hz fun r hr hIt => ?_
  simp (disch := omega) only [go_sem, ↓reduceIte ]
  refine awp_loop (fun m env H2 nx2 => ∃ dz left v own, RgI (r + 1) (H1.newO r (.mapIter (some mb) clk #[] clk)) mb r clk z m env H2 nx2 dz left v own) z.length ⟨[], z, .slice none 0 0, 0, ⟨rfl, rfl, Nat.le_refl _, Kp.refl _ _ _, hIt, SlA.nil _ _ _, .inl rfl⟩⟩ (fun m env H2 nx2 ⟨dz, left, v, own, hI⟩ hn2 => ?_)
  obtain ⟨hm2, henv, hx2, hk2, hit, sl, ow⟩ := hI
  subst henv
  have hone := sl.one
  have k12 : Kp (fun _ => False) nx H (H1.newO r (.mapIter (some mb) clk #[] clk)) := (by repeat first | exact Kp.refl _ _ _ | refine Kp.dropT ?_ (.inl (by omega)) | refine Kp.put ?_ (.inl (by omega)) | refine Kp.new ?_ (by omega) | refine Kp.put ?_ (.inr (by omega)) | refine Kp.newO ?_ (by omega) | refine Kp.setO ?_ (.inl (by omega)) | refine Kp.setO ?_ (.inr (by omega)) | refine Kp.trans0 ?_ (by assumption) (by omega) | refine Kp.transS ?_ (by assumption) (by omega) (fun b hb hT => by first | omega | (dsimp only at hT ⊢; omega) | (simp only at hT ⊢; omega))) 
  have k2 : Kp (fun _ => False) nx H H2 := k12.trans (U := fun _ => False) hk2 (by omega) (fun _ _ e => e) (fun b hb e => by omega)
  have ho2 : H2.o mb = some ob := by
    rw [(hk2 mb (by omega) (by omega)).2.1]
    simp (disch := omega) only [go_sem, ↓reduceIte , ho]
  simp (disch := omega) only [go_sem, ↓reduceIte , hone]
  refine nextMQ_A ho2 hz hit (by omega) (fun t left' ob2 htz hlt hit2 => ?_) (fun hl => ?_)
  · simp (disch := omega) only [go_sem, ↓reduceIte , hone]
    refine entryQ_A (by simp (disch := omega) only [go_sem, ↓reduceIte , ho2]) hz hit2 ?_
    unfold rwV
    simp (disch := omega) only [go_sem, ↓reduceIte , hone]
    intro d hd
    simp (disch := omega) only [go_sem, ↓reduceIte , hone]
    have hkd : Kp (fun b => b = r) nx2 H2 ((((((((((((H2.setO r ob2).new d #[.int .u32 0, .int .u8 0, .bool false, .int .u32 0, .int .u8 0, .int .i64 0, .int .u16 0, .int .u16 0, .int .u16 0, .int .u16 0] 54).put d 0 (.int .u32 t.2.2.a)).put d 1 (.int .u8 t.2.2.n)).put d (1 + 1) (.bool t.2.2.has)).put d (1 + 1 + 1) (.int .u32 t.2.2.ra)).put d (1 + 1 + 1 + 1) (.int .u8 t.2.2.rn)).put d (1 + 1 + 1 + 1 + 1) (.int .i64 t.2.2.via)).put d (1 + 1 + 1 + 1 + 1 + 1) (.int .u16 t.2.2.met)).put d (1 + 1 + 1 + 1 + 1 + 1 + 1) (.int .u16 t.2.2.seq)).put d (1 + 1 + 1 + 1 + 1 + 1 + 1 + 1) (.int .u16 t.2.2.ms)).put d (1 + 1 + 1 + 1 + 1 + 1 + 1 + 1 + 1) (.int .u16 t.2.2.mm)) := (by repeat first | exact Kp.refl _ _ _ | refine Kp.dropT ?_ (.inl (by omega)) | refine Kp.put ?_ (.inl (by omega)) | refine Kp.new ?_ (by omega) | refine Kp.put ?_ (.inr (by omega)) | refine Kp.newO ?_ (by omega) | refine Kp.setO ?_ (.inl (by omega)) | refine Kp.setO ?_ (.inr (by omega)) | refine Kp.trans0 ?_ (by assumption) (by omega) | refine Kp.transS ?_ (by assumption) (by omega) (fun b hb hT => by first | omega | (dsimp only at hT ⊢; omega) | (simp only at hT ⊢; omega))) 
    have sl1 := sl.kp hkd (by omega : nx2 ≤ d + 1) (fun b e h => by omega)
    have hdl : dz.length ≤ 1000 := by
      have := hit.perm.length_eq
      rw [List.length_append] at this
      omega
    refine buildSQ_all (n := 1) [.agg #[.int .u32 t.2.2.a, .int .u8 t.2.2.n, .bool t.2.2.has, .int .u32 t.2.2.ra, .int .u8 t.2.2.rn, .int .i64 t.2.2.via, .int .u16 t.2.2.met, .int .u16 t.2.2.seq, .int .u16 t.2.2.ms, .int .u16 t.2.2.mm]] sl63 zero54 (by omega) (by omega) rfl (by simp [cells_agg]) fun e he => ?_
    have hlit : ∀ H' : AH, SlA (e + 1) (H'.new e ([Value.agg #[.int .u32 t.2.2.a, .int .u8 t.2.2.n, .bool t.2.2.has, .int .u32 t.2.2.ra, .int .u8 t.2.2.rn, .int .i64 t.2.2.via, .int .u16 t.2.2.met, .int .u16 t.2.2.seq, .int .u16 t.2.2.ms, .int .u16 t.2.2.mm]].flatMap fun v => v.cells.toList).toArray 54) 10 (.slice (some ⟨e, 0, none⟩) 1 1) 1 (rwCells [t.2.2]) (e + 1) := fun H' => SlA.ofNew rfl (by omega) (by simp [maxLen]) (by simp [cells_agg]) (fun j _ => by simp [cells_agg, rwCells, RwR.cells])
    have sl2 := sl1.new (vs := ([Value.agg #[.int .u32 t.2.2.a, .int .u8 t.2.2.n, .bool t.2.2.has, .int .u32 t.2.2.ra, .int .u8 t.2.2.rn, .int .i64 t.2.2.via, .int .u16 t.2.2.met, .int .u16 t.2.2.seq, .int .u16 t.2.2.ms, .int .u16 t.2.2.mm]].flatMap fun v => v.cells.toList).toArray) (e := 54) he
    simp (disch := omega) only [go_sem, ↓reduceIte ]
    refine appendQ_two (aw_append sl63 zero54 rfl by54 sl2 ((hlit _).src sl63 rwCells_one) (by simp only [maxLen]; omega) (by omega) (by omega) fun v7 H7 nx7 own7 hn7 hs7 ho7 hk7 _ => ?_)
    have hone7 := hs7.one
    simp (disch := omega) only [go_sem, ↓reduceIte , hone7]
    refine ⟨left'.length, by omega, dz ++ [t], left', v7, own7, ⟨rfl, rfl, by omega, ?_, hit2.stay ?_, ?_, by omega⟩⟩
    · have hke : Kp (fun b => b = r) nx2 H2 _ := hkd.new (n := e) (vs := ([Value.agg #[.int .u32 t.2.2.a, .int .u8 t.2.2.n, .bool t.2.2.has, .int .u32 t.2.2.ra, .int .u8 t.2.2.rn, .int .i64 t.2.2.via, .int .u16 t.2.2.met, .int .u16 t.2.2.seq, .int .u16 t.2.2.ms, .int .u16 t.2.2.mm]].flatMap fun v => v.cells.toList).toArray) (e := 54) (by omega)
      have h8 := hk2.trans (U := fun b => b = r) hke hx2 (fun _ _ h => h) (fun _ _ h => h)
      exact h8.trans (U := fun b => b = r) hk7 (by omega) (fun _ _ h => h) (fun b hb h => by omega)
    · rw [(hk7 r (by omega) (by omega)).2.1]
      simp (disch := omega) only [go_sem, ↓reduceIte ]
    · rw [List.length_append, List.map_append, rwCells_append]
      exact hs7
  · simp (disch := omega) only [go_sem, ↓reduceIte , hone]
    have hpl := hit.perm.length_eq
    rw [List.length_append] at hpl
    refine (sortRow_c (ts := dz.map fun t => t.2.2) (own := own) (by rw [List.length_map]; exact sl) (by omega) (by rw [List.length_map]; omega)).mono fun v H3 nx3 _ ⟨hv, hx3, ts', hp, hk3, hs3⟩ => ?_
    subst hv; subst hx3
    simp (disch := omega) only [go_sem, ↓reduceIte , hone]
    exact ⟨by omega, k2.trans (U := fun _ => False) hk3 (by omega) (fun _ _ e => e) (fun b hb e => by omega), own, ts', hs3, by omega, by
      have h1 := hp.length_eq
      have := hit.perm.length_eq
      rw [List.length_append] at this
      rw [List.length_map] at h1
      omega⟩

set_option maxHeartbeats 4000000 in
set_option maxRecDepth 20000 in
theorem irows_c {lo : Nat} {p : Nat} {cs : List Chg} {own : Nat} {safe cut : Int} {H : AH} {nx : Nat} (hI : IdealA lo nx H p cs own safe cut) (hl : cs.length ≤ 1000) {n : Nat} (hn : n ≤ cs.length) :
    ACalls Try.prog lo 22 #[.pointer (some ⟨p, 0, none⟩), .int .i64 n] H nx (rowsQ nx H) := by
  refine ACalls.withLo fun hlo => ?_
  refine acalls_of_awp L22 Try.func22 rfl (by kernel_rfl) ?_
  obtain ⟨ge, lt, ⟨v, hq, hs⟩, s, c, ow, ne, no⟩ := hI
  obtain ⟨a, cc, rfl⟩ := hs.form
  have hle := hs.le
  simp (disch := omega) only [go_sem, ↓reduceIte ]
  intro mb hmb
  simp (disch := omega) only [go_sem, ↓reduceIte ]
  have hcap : cs.length ≤ cc := by
    rcases hs.2.2 with ⟨e, _, _⟩ | ⟨_, _, _, e, _, h, _⟩
    · simp only [Value.slice.injEq] at e; omega
    · simp only [Value.slice.injEq] at e; omega
  have hsv := slice_h (P := Try.prog) (H := AH.empty) (n := cs.length) (c := cc) (a := a) (kh := .i64) (h := (n : Int)) sl25 (by omega) (by omega)
  have hcut := hs.cut (l := 0) (h := n) (m := cc) (by omega) (by omega) (by omega) (by omega)
  rw [Int.toNat_natCast] at hsv
  generalize hcv : cutS a 8 cc 0 n = cv at hsv hcut
  have hcl : ((chCells cs).drop (0 * 8)).take ((n - 0) * 8) = chCells (cs.take n) := by rw [Nat.zero_mul, List.drop_zero, Nat.sub_zero, chCells_take]
  have hlen : (cs.take n).length = n - 0 := by rw [List.length_take]; omega
  rw [hcl, ← hlen] at hcut
  obtain ⟨ca, cc2, hcv2⟩ := hcut.form
  rw [hcv2] at hsv hcut
  refine awp_draw ord22x4 (by kernel_rfl) ?_
  have hmn : min (max (n : Int) 0) cs.length = n := by omega
  simp (disch := omega) only [go_sem, ↓reduceIte , ord22x4, hq, hmn, hsv]
  have hkb : Kp (fun _ => False) nx H (H.newO mb (.map #[] 0)) := (by repeat first | exact Kp.refl _ _ _ | refine Kp.dropT ?_ (.inl (by omega)) | refine Kp.put ?_ (.inl (by omega)) | refine Kp.new ?_ (by omega) | refine Kp.put ?_ (.inr (by omega)) | refine Kp.newO ?_ (by omega) | refine Kp.setO ?_ (.inl (by omega)) | refine Kp.setO ?_ (.inr (by omega)) | refine Kp.trans0 ?_ (by assumption) (by omega) | refine Kp.transS ?_ (by assumption) (by omega) (fun b hb hT => by first | omega | (dsimp only at hT ⊢; omega) | (simp only at hT ⊢; omega))) 
  have hs2 := hcut.kp hkb (by omega : nx ≤ mb + 1) (by simp)
  exact rw_loop (cs := cs.take n) (ob := .map #[] 0) (by omega) (by omega) hs2 (by omega) (by rw [List.length_take]; omega) ⟨by omega, by omega, rfl, by omega, Kp.refl _ _ _, newO_same _ _ _, MapA.nil _ _, by simp⟩ (fun _ _ _ _ _ hI => rw_tail hlo (by rw [List.length_take]; omega) hmb (by omega) hkb hI)
end Go.Proofs.Ytgafnliohmdmoaa
