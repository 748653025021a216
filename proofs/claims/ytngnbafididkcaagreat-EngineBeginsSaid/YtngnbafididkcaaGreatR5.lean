/- Routes, in our own logic: comparisons. The library's sort laid at []Told. Routes, in our own logic: All (sorted). -/
import Derived.Test.YtngnbafididkcaaGreatR3
import Derived.Test.YtngnbafididkcaaGreatC5
import Derived.Test.YtngnbafididkcaaGreatFacts
import Derived.Test.YtngnbafididkcaaGreatL18
import Derived.Shelf.SlSortCmp.NoneTotal
import Derived.Shelf.Lay
import Derived.Ground.SlsfProg
section
namespace Go.Proofs.YtngnbafididkcaaGreat
open Go.RowKit
set_option linter.unusedSimpArgs false

/-- By prefixes, then by tellers. -/
def cfT (x y : Tld) : Int := if pxCmpI x.addr x.len y.addr y.len ≠ 0 then pxCmpI x.addr x.len y.addr y.len else x.who - y.who
structure TdOk (t : Tld) : Prop where
  a0 : 0 ≤ t.addr
  a1 : t.addr ≤ 4294967295
  l0 : 0 ≤ t.len
  l1 : t.len ≤ 32
  w0 : 0 ≤ t.who
  w1 : t.who < 16
theorem rallC_c {lo : Nat} {x y : Tld} (hx : TdOk x) (hy : TdOk y) (H : AH) (nx : Nat) : ACalls Tryz.prog lo 122 #[.agg x.cells.toArray, .agg y.cells.toArray] H nx (fun v H' _ => v = .int .i64 (cfT x y) ∧ H'.d = H.d) := by
  have h1 := hx.w0; have h2 := hx.w1; have h3 := hy.w0; have h4 := hy.w1
  unfold Tld.cells
  refine ACalls.withLo fun hlo => ?_
  refine acalls_of_awp L122 Tryz.func122 rfl (by kernel_rfl) ?_
  simp (disch := omega) only [go_sem, ↓reduceIte ]
  intro p hp
  simp (disch := omega) only [go_sem, ↓reduceIte ]
  intro q hq
  simp (disch := omega) only [go_sem, ↓reduceIte ]
  refine (pxCmp_d _ _ _ _ _ _).mono fun v H1 nx1 _ ⟨hv, hx1, hk1, hd1⟩ => ?_
  subst hv
  have hc1 := hk1.cell0
  by_cases h : pxCmpI x.addr x.len y.addr y.len = 0
  · simp (disch := omega) only [go_sem, ↓reduceIte , h, hc1]
    exact ⟨by simp [cfT, h], by rw [hd1]; rfl⟩
  · simp (disch := omega) only [go_sem, ↓reduceIte , h]
    exact ⟨by simp [cfT, h], by rw [hd1]; rfl⟩
end Go.Proofs.YtngnbafididkcaaGreat
end
section
namespace Go.Proofs.YtngnbafididkcaaGreat
open Go.Shelf Go.RowKit Go.Lib Go.Sort
shelf_lay_g SlLaysF0.n6 Slsf 6 at Tryz 121 as sortTold

end Go.Proofs.YtngnbafididkcaaGreat
end
section
namespace Go.Proofs.YtngnbafididkcaaGreat
open Go.RowKit Go.Sort
set_option linter.unusedSimpArgs false

/-- By prefixes, then by tellers. -/
def aheadT (x y : Tld) : Prop := x.addr < y.addr ∨ (x.addr = y.addr ∧ (x.len < y.len ∨ (x.len = y.len ∧ x.who < y.who)))
theorem cfT_lt (x y : Tld) : cfT x y < 0 ↔ aheadT x y := by
  unfold cfT pxCmpI orI2 cmpI aheadT
  repeat' split
  all_goals omega

abbrev TldR := {t : Tld // TdOk t}
instance : Inhabited TldR := ⟨⟨⟨0, 0, 0, 0, 0, 0, 0⟩, by constructor <;> simp⟩⟩

theorem ltT (x y : TldR) : ltOf (fun x y : TldR => cfT x.1 y.1) x y = decide (cfT x.1 y.1 < 0) := rfl
theorem swoT : SWO (ltOf fun x y : TldR => cfT x.1 y.1) where
  irrefl x := by rw [ltT, decide_eq_false_iff_not, cfT_lt]; unfold aheadT; omega
  trans x y z h1 h2 := by rw [ltT, decide_eq_true_iff, cfT_lt] at *; unfold aheadT at *; omega
  ntrans x y z h1 h2 := by rw [ltT, decide_eq_false_iff_not, cfT_lt] at *; unfold aheadT at *; omega

theorem sortTold_c {lo : Nat} {H : AH} {nx : Nat} {v : Value} {ts : List Tld} {own : Nat} (hs : SlA nx H 7 v ts.length (tdCells ts) own) (how : own = 0 ∨ lo < own) (hok : ∀ t ∈ ts, TdOk t) (hl : ts.length ≤ 1000000) :
    ACalls Tryz.prog lo 121 #[v, .func (.func 122) #[] #[]] H nx (fun r H' nx' => r = .tuple #[] ∧ nx' = nx ∧ ∃ ts' : List Tld, ts'.Perm ts ∧ ts'.Pairwise (fun x y => ¬ aheadT y x) ∧ Kp (fun b => b + 1 = own) nx H H' ∧ SlA nx H' 7 v ts'.length (tdCells ts') own) := by
  have e1 : (ts.pmap Subtype.mk hok).map Subtype.val = ts := by rw [List.map_pmap]; simp
  have e2 : (ts.pmap Subtype.mk hok).flatMap (fun x : TldR => x.1.cells) = tdCells ts := by
    have h : ∀ l : List TldR, l.flatMap (fun x : TldR => x.1.cells) = tdCells (l.map Subtype.val) := fun l => by simp [tdCells, List.flatMap_map]
    rw [h, e1]
  have hcl : ∀ (x y : TldR) (W : World), Calls Tryz.prog 122 #[.agg x.1.cells.toArray, .agg y.1.cells.toArray] W fun e w' => e = .returned (.int .i64 (cfT x.1 y.1)) ∧ ∃ q os', w' = Go.Sort.grow (W.drewN q) os' := fun x y W =>
    (calls_grow (R := fun v => v = .int .i64 (cfT x.1 y.1)) (fun H lo nx _ => rallC_c x.2 y.2 H nx) W).mono fun e w' ⟨⟨v, he, hv⟩, h⟩ => ⟨by rw [he, hv], h⟩
  have hcon := acalls_sort sortTold (k := 7) Tryz.isAgg142 Tryz.sizeOf142 (enc := fun x : TldR => x.1.cells) (fun _ => rfl) (fun x u hu => tdCells_one (l := [x.1]) u (by simpa [tdCells] using hu)) swoT (g := 122) (enters_of Tryz.func122 (by kernel_rfl) rfl) hcl (lo := lo) (nx := nx) (H := H) (v := v) (own := own) (d := ts.pmap Subtype.mk hok) (by rw [List.length_pmap, e2]; exact hs) how (by rw [List.length_pmap]; omega)
  refine hcon.mono fun r H' nx' _ ⟨hr, hx, d', hp, hsd, hk, hs'⟩ => ⟨hr, hx, d'.map Subtype.val, ?_, ?_, hk, ?_⟩
  · have := hp.map Subtype.val
    rwa [e1] at this
  · rw [List.pairwise_map]
    refine hsd.imp fun {a b} h => ?_
    rw [ltT, decide_eq_false_iff_not, cfT_lt] at h
    exact h
  · subst hx
    have h : tdCells (d'.map Subtype.val) = d'.flatMap (fun x : TldR => x.1.cells) := by simp [tdCells, List.flatMap_map]
    rw [h, List.length_map]
    exact hs'

set_option maxRecDepth 20000 in
theorem cloneTold_c {lo : Nat} {H : AH} {nx : Nat} {v : Value} {ts : List Tld} {own : Nat} (hs : SlA nx H 7 v ts.length (tdCells ts) own) (hl : ts.length ≤ 1000000) :
    ACalls Tryz.prog lo 120 #[v] H nx (fun v H' nx' => nx ≤ nx' ∧ Kp (fun _ => False) nx H H' ∧ ∃ own', SlA nx' H' 7 v ts.length (tdCells ts) own' ∧ (own' = 0 ∨ nx < own')) := by
  refine ACalls.withLo fun hlo => ?_
  obtain ⟨a, c, rfl⟩ := hs.form
  cases a with
  | none =>
    rcases hs.2.2 with ⟨h1, h2, h3⟩ | ⟨g, off, cap, h1, _⟩
    · simp only [Value.slice.injEq] at h1
      obtain ⟨_, _, rfl⟩ := h1
      have : ts = [] := List.eq_nil_of_length_eq_zero h2
      subst this
      refine acalls_of_awp L120 Tryz.func120 rfl (by kernel_rfl) ?_
      simp (disch := omega) only [go_sem, ↓reduceIte , List.length_nil]
      exact ⟨Nat.le_refl _, Kp.refl _ _ _, 0, SlA.nil _ _ _, .inl rfl⟩
    · simp at h1
  | some a =>
    refine acalls_of_awp L120 Tryz.func120 rfl (by kernel_rfl) ?_
    simp (disch := omega) only [go_sem, ↓reduceIte ]
    refine buildSQ_nil sl143 fun m hm => ?_
    simp (disch := omega) only [go_sem, ↓reduceIte ]
    have h0 : SlA (m + 1) (H.new m #[] 142) 7 (.slice (some ⟨m, 0, none⟩) 0 0) 0 [] (m + 1) := SlA.ofNew (by simp) (by omega) (by simp [maxLen]) (by simp) (by simp)
    refine aw_append sl143 zero142 rfl by142 h0 ((hs.new hm).src sl143 tdCells_one) (by simp only [maxLen]; omega) (by omega) (.inr (by omega)) fun v' H' nx' own' hn hs' ho hk hnil => ?_
    simp (disch := omega) only [go_sem, ↓reduceIte ]
    refine ⟨by omega, Kp.trans (U := fun _ => False) ((Kp.refl (fun _ => False) nx H).new hm) hk (by omega) (fun b _ h => h) (fun b hb h => by omega), own', by simpa using hs', ?_⟩
    omega

/-- All that was told, sorted: in a slice of its own. -/
theorem rall_c {lo : Nat} {p : Nat} {ts : List Tld} {own : Nat} {H : AH} {nx : Nat} (hR : RouA lo nx H p ts own) (hok : ∀ t ∈ ts, TdOk t) (hl : ts.length ≤ 1000000) :
    ACalls Tryz.prog lo 89 #[.pointer (some ⟨p, 0, none⟩)] H nx (fun v H' nx' => nx ≤ nx' ∧ Kp (fun _ => False) nx H H' ∧ ∃ (own' : Nat) (ts' : List Tld), SlA nx' H' 7 v ts'.length (tdCells ts') own' ∧ (own' = 0 ∨ nx < own') ∧ ts'.Perm ts ∧ ts'.Pairwise (fun x y => ¬ aheadT y x)) := by
  refine ACalls.withLo fun hlo => ?_
  refine acalls_of_awp L89 Tryz.func89 rfl (by kernel_rfl) ?_
  have hlt := hR.lt
  obtain ⟨v, hq, hs⟩ := hR.q
  simp (disch := omega) only [go_sem, ↓reduceIte , hq]
  refine (cloneTold_c hs hl).mono fun v H1 nx1 _ ⟨hx1, hk1, own1, hs1, ho1⟩ => ?_
  have hone1 := hs1.one
  simp (disch := omega) only [go_sem, ↓reduceIte , hone1]
  refine (sortTold_c hs1 (by omega) hok hl).mono fun r H2 nx2 _ ⟨hr, hx2, ts', hp, hsd, hk2, hs2⟩ => ?_
  subst hr; subst hx2
  simp (disch := omega) only [go_sem, ↓reduceIte ]
  exact ⟨by omega, Kp.trans (U := fun _ => False) hk1 hk2 hx1 (fun b _ h => h) (fun b hb h => by omega), own1, ts', hs2, ho1, hp, hsd⟩
end Go.Proofs.YtngnbafididkcaaGreat
end
