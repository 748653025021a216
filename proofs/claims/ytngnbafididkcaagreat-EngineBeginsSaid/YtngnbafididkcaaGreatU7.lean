/- Sources, in our own logic: slices.Insert of one mark. Sources: slices.Insert of one mark where there is room. Zero marks behind. Sources: slices.Insert of one mark where there is none. Sources, in our own logic: Lower. -/
import Derived.Test.YtngnbafididkcaaGreatU2
import Derived.Test.YtngnbafididkcaaGreatL19
section
namespace Go.Proofs.YtngnbafididkcaaGreat
open Go.RowKit
set_option linter.unusedSimpArgs false

theorem overS_ext : fnOk Tryz.prog 114 = false := by kernel_rfl

set_option maxRecDepth 20000 in
theorem overS_q {lo : Nat} {H : AH} {nx : Nat} {K : Value → AH → Nat → Prop} {d g o o2 l c ed nd : Nat} (hd : H.t d = some (ed, nd)) (hc : (H.c g o).isSome = true) (hne : d ≠ g) (hk : K (.bool false) H nx) :
    externQ Tryz.prog lo 114 #[.slice (some ⟨d, 0, none⟩) 1 1, .slice (some ⟨g, o2, none⟩) l c] K H nx := by
  refine externQ_of (e := Extern.SlicesOverlaps.overlaps #[153, 153] #[4]) Tryz.func114 (by kernel_rfl) (by kernel_rfl) (by kernel_rfl) (by kernel_rfl) ?_
  exact aw_overlaps sl153 hd hc hne hk

theorem insE_split {es : List Ent} {i : Nat} (x : Ent) (hi : i ≤ es.length) : (es.take i ++ [x] ++ es.drop i).length = es.length + 1 := by simp; omega
theorem en_len (xs : List Ent) : (enCells xs).length = xs.length * 4 := flat_length en_four xs

structure InsA (lo nx : Nat) (H : AH) (s : Value) (es : List Ent) (own d : Nat) (x : Ent) : Prop where
  hs : SlA nx H 4 s es.length (enCells es) own
  how : own = 0 ∨ lo < own
  hl : es.length ≤ 1000
  hx : SlA nx H 4 (.slice (some ⟨d, 0, none⟩) 1 1) 1 (enCells [x]) (d + 1)
  hd : (H.t d).isSome = true
  hdn : own ≠ d + 1
def InsR (nx : Nat) (H : AH) (es : List Ent) (own : Nat) (x : Ent) (i : Nat) (v : Value) (H' : AH) (nx' : Nat) : Prop :=
  nx ≤ nx' ∧ Kp (fun b => b + 1 = own) nx H H' ∧ ∃ own', SlA nx' H' 4 v (es.length + 1) (enCells (es.take i ++ [x] ++ es.drop i)) own' ∧ (own' = own ∨ nx < own')

set_option maxRecDepth 20000 in
theorem ins_end {lo : Nat} {H : AH} {nx : Nat} {s : Value} {es : List Ent} {own d : Nat} {x : Ent} (h : InsA lo nx H s es own d x) :
    ACalls Tryz.prog lo 81 #[s, .int .i64 es.length, .slice (some ⟨d, 0, none⟩) 1 1] H nx (InsR nx H es own x es.length) := by
  refine ACalls.withLo fun hlo => ?_
  refine acalls_of_awp L81 Tryz.func81 rfl (by kernel_rfl) ?_
  obtain ⟨hs, how, hl, hx, hd, hdn⟩ := h
  obtain ⟨sa, sc, rfl⟩ := hs.form
  simp (disch := omega) only [go_sem, ↓reduceIte , slice_l sl153]
  refine appendQ_two (aw_append sl153 zero152 rfl by152 hs (hx.src sl153 enCells_one) (by simp only [maxLen]; omega) (by omega) how fun v7 H7 nx7 own7 hn7 hs7 ho7 hk7 _ => ?_)
  simp (disch := omega) only [go_sem, ↓reduceIte ]
  refine ⟨hn7, hk7, own7, ?_, ho7⟩
  rw [List.take_length, List.drop_length, List.append_nil, enCells_append]
  exact hs7
end Go.Proofs.YtngnbafididkcaaGreat
end
section
namespace Go.Proofs.YtngnbafididkcaaGreat
open Go.RowKit
set_option linter.unusedSimpArgs false

set_option maxRecDepth 20000 in
theorem ins_room {lo : Nat} {H : AH} {nx : Nat} {es : List Ent} {own d : Nat} {x : Ent} {g off sc : Nat} (h : InsA lo nx H (.slice (some ⟨g, off, none⟩) es.length sc) es own d x) (i : Nat) (hi : i < es.length) (hroom : es.length + 1 ≤ sc) :
    ACalls Tryz.prog lo 81 #[.slice (some ⟨g, off, none⟩) es.length sc, .int .i64 i, .slice (some ⟨d, 0, none⟩) 1 1] H nx (InsR nx H es own x i) := by
  refine ACalls.withLo fun hlo => ?_
  refine acalls_of_awp L81 Tryz.func81 rfl (by kernel_rfl) ?_
  obtain ⟨hs, how, hl, hx, hd, hdn⟩ := h
  obtain ⟨hc, hg, _, hcm, hcs⟩ := hs.cells
  simp only [maxLen] at hcm
  have hle := hs.le
  obtain ⟨⟨ed, nd⟩, hd⟩ := Option.isSome_iff_exists.1 hd
  have e1 : ((i : Int) + ((1 : Nat) : Int)).toNat = i + 1 := by omega
  have e2 : ((es.length : Int) + ((1 : Nat) : Int)).toNat = es.length + 1 := by omega
  have hin : ¬ i = es.length := by omega
  simp (disch := omega) only [go_sem, ↓reduceIte , hin, slice_l sl153]
  refine capQ_sl sl153 ?_
  simp (disch := omega) only [go_sem, ↓reduceIte , hroom, slice_h sl153, slice_l sl153, overS_ext, e1, e2]
  refine overS_q hd (hcs 0 (by omega)) (by omega) ?_
  simp only [aopsK_app, push_some]
  rw [aops_cons]
  simp only [bop_unOp, ev_tmp, eg_cons, ↓reduceIte, Option.bind_some]
  rw [unV_not, onV_some, aopsK_app, push_some, aops_nil, regK_app]
  simp only [prune_cons, eg_cons, prune_nil, Nat.reduceEqDiff, ↓reduceIte]
  rw [thenQ_normal, awp_cond]
  simp only [ev_tmp, eg_cons, Nat.reduceEqDiff, ↓reduceIte, Bool.not_false, condQ_true]
  rw [awp_seq]
  refine awp_draw ord81x15 (by kernel_rfl) ?_
  simp (disch := omega) only [go_sem, ↓reduceIte , ord81x15, slice_l sl153, e1, e2]
  obtain ⟨ys, hys, hs1⟩ := hs.grow1 hroom
  have hcut := hs.cut (l := i) (h := es.length) (m := sc) (by omega) (Nat.le_refl _) (by omega) (Nat.le_refl _)
  have hnews : ((enCells es).drop (i * 4)).take ((es.length - i) * 4) = enCells (es.drop i) := by
    rw [show enCells es = es.flatMap Ent.cells from rfl, flat_drop en_four, List.take_of_length_le]
    · rfl
    · rw [flat_length en_four, List.length_drop]; exact Nat.le_refl _
  rw [hnews, cutS_lt (by omega)] at hcut
  have hD : (enCells (es.drop i)).length = (es.length - i) * 4 := by rw [en_len, List.length_drop]
  have hA : (enCells (es.take i)).length = i * 4 := by rw [en_len]; simp; omega
  have hE := en_len es
  have hx4 : (enCells [x]).length = 4 := by rw [en_len]; rfl
  have hfirst : peek Tryz.prog H (Builtin.firstCells 4 (es.length - i) (.slice (some ⟨g, off + i * 4, none⟩) (es.length + 1 - i) (sc - i))) = some (enCells (es.drop i)).toArray := hcut.first
  refine copyQ_two (aw_copy sl153 (n := es.length - i) (by simp only [Nat.min_def]; split <;> omega) hfirst enCells_one (by omega) (fun j hj => ?_) fun u => ?_)
  · rw [hD] at hj
    rw [Nat.add_assoc]
    exact hcs _ (by omega)
  have hw1 := hs1.write (o := (i + 1) * 4) (vs := enCells (es.drop i)) (by rw [hD]; omega)
  have hxx : SlA nx _ 4 (.slice (some ⟨d, 0, none⟩) 1 1) 1 (enCells [x]) (d + 1) := hx.kp (S := fun b => b = g) (nx' := nx) (Kp.puts (S := fun b => b = g) (b := g) (.inr rfl) (enCells (es.drop i)) (off + (i + 1) * 4) _ (Kp.refl _ _ _)) (Nat.le_refl _) (by intro b hb; omega)
  simp (disch := omega) only [go_sem, ↓reduceIte , slice_l sl153]
  refine ⟨dkeep_last (by kernel_rfl), ?_⟩
  refine copyQ_two (aw_copy sl153 (n := 1) (by simp only [Nat.min_def]; split <;> omega) hxx.first enCells_one (by omega) (fun j hj => ?_) fun u => ?_)
  · rw [hx4] at hj
    have := hw1.cells.2.2.2.2 (i * 4 + j) (by omega)
    rwa [← Nat.add_assoc] at this
  have hw2 := hw1.write (o := i * 4) (vs := enCells [x]) (by rw [hx4]; omega)
  have hT : ((enCells es ++ ys).take ((i + 1) * 4)).length = (i + 1) * 4 := by simp only [List.length_take, List.length_append, hE, hys]; omega
  have hR : (enCells es ++ ys).drop ((i + 1) * 4 + (enCells (es.drop i)).length) = [] := List.drop_of_length_le (by simp only [List.length_append, hE, hys, hD]; omega)
  rw [hR, List.append_nil] at hw2
  have p1 : ((enCells es ++ ys).take ((i + 1) * 4) ++ enCells (es.drop i)).take (i * 4) = enCells (es.take i) := by
    rw [List.take_append_of_le_length (by rw [hT]; omega), List.take_take, show min (i * 4) ((i + 1) * 4) = i * 4 by omega, List.take_append_of_le_length (by rw [hE]; omega)]
    exact flat_take en_four es i
  have p2 : ((enCells es ++ ys).take ((i + 1) * 4) ++ enCells (es.drop i)).drop (i * 4 + 4) = enCells (es.drop i) := by
    rw [show i * 4 + 4 = (i + 1) * 4 by omega]
    exact List.drop_left' hT
  rw [hx4, p1, p2] at hw2
  simp (disch := omega) only [go_sem, ↓reduceIte ]
  refine ⟨Nat.le_refl _, Kp.puts (S := fun b => b + 1 = own) (b := g) (.inr hg.symm) _ _ _ (Kp.puts (S := fun b => b + 1 = own) (b := g) (.inr hg.symm) _ _ _ (Kp.refl _ _ _)), own, ?_, .inl rfl⟩
  rw [enCells_append, enCells_append]
  exact hw2
end Go.Proofs.YtngnbafididkcaaGreat
end
section
namespace Go.Proofs.YtngnbafididkcaaGreat
open Go.RowKit
set_option linter.unusedSimpArgs false

def enZ (m : Nat) : Array Value := Builtin.zeroCells (Value.agg #[.int .u32 0, .int .u8 0, .int .u16 0, .int .u16 0]).cells m
set_option maxRecDepth 20000 in
theorem en_zeros {lo : Nat} {H : AH} {nx n m c own : Nat} {a : Option Addr} {xs : List Value} {K : Value → AH → Nat → Prop} (hs : SlA nx H 4 (.slice a n c) n xs own) (hroom : c < n + m) (hm : m ≤ 1001) (hn : n ≤ 1000) (hpos : 0 < m)
    (hk : ∀ g cap', nx ≤ g → SlA (g + 1) (H.new g (xs.toArray ++ enZ m ++ enZ (cap' - (n + m))) 152) 4 (.slice (some ⟨g, 0, none⟩) (n + m) cap') (n + m) (xs ++ (enZ m).toList) (g + 1) → K (.slice (some ⟨g, 0, none⟩) (n + m) cap') (H.new g (xs.toArray ++ enZ m ++ enZ (cap' - (n + m))) 152) (g + 1)) :
    aw Tryz.prog lo (Builtin.append_ #[153, 3] 153 #[.slice a n c, .int .i64 m]) K H nx :=
  by
    have a1 : slT Tryz.prog 153 = some (152, 4) := sl153
    have a2 : Tryz.prog.underlying 3 = some (.int .i64) := Tryz.underlying3
    have a3 : zeroT Tryz.prog 152 = some (Value.agg #[.int .u32 0, .int .u8 0, .int .u16 0, .int .u16 0]) := zero152
    have a4 : (Value.agg #[.int .u32 0, .int .u8 0, .int .u16 0, .int .u16 0]).cells.size = 4 := rfl
    have a5 := by152
    have b1 : m ≤ 1000000 := by omega
    have b2 : 0 < m * 4 := by omega
    have b3 : n + m ≤ maxLen := by simp only [maxLen]; omega
    have b4 : (n + m) * 12 ≤ 140737488355328 := by omega
    exact aw_append_zeros (kk := .i64) a1 a2 a3 a4 a5 hs hroom b1 b2 b3 b4 hk
theorem enZ_len (m : Nat) : (enZ m).toList.length = m * 4 := by simp [enZ, size_zeroCells, cells_agg]

end Go.Proofs.YtngnbafididkcaaGreat
end
section
namespace Go.Proofs.YtngnbafididkcaaGreat
open Go.RowKit
set_option linter.unusedSimpArgs false

set_option maxRecDepth 20000 in
theorem ins_grow {lo : Nat} {H : AH} {nx : Nat} {es : List Ent} {own d : Nat} {x : Ent} {g off sc : Nat} (h : InsA lo nx H (.slice (some ⟨g, off, none⟩) es.length sc) es own d x) (i : Nat) (hi : i < es.length) (hroom : ¬ es.length + 1 ≤ sc) :
    ACalls Tryz.prog lo 81 #[.slice (some ⟨g, off, none⟩) es.length sc, .int .i64 i, .slice (some ⟨d, 0, none⟩) 1 1] H nx (InsR nx H es own x i) := by
  refine ACalls.withLo fun hlo => ?_
  refine acalls_of_awp L81 Tryz.func81 rfl (by kernel_rfl) ?_
  obtain ⟨hs, how, hl, hx, hd, hdn⟩ := h
  have hlx := hx.le
  obtain ⟨hc, hg, hcap, hcm, hcs⟩ := hs.cells
  simp only [maxLen] at hcm
  have hle := hs.le
  have hin : ¬ i = es.length := by omega
  simp (disch := omega) only [go_sem, ↓reduceIte , hin, slice_l sl153]
  refine capQ_sl sl153 ?_
  simp (disch := omega) only [go_sem, ↓reduceIte , hroom, slice_h sl153, slice_l sl153]
  rw [show (es.length : Int) + ((1 : Nat) : Int) - (i : Int) = ((es.length + 1 - i : Nat) : Int) by omega]
  have hless := hs.less (i := i) (by omega)
  rw [show enCells es = es.flatMap Ent.cells from rfl, flat_take en_four] at hless
  refine appendQ_two (en_zeros hless (by omega) (by omega) (by omega) (by omega) fun b cap' hb hsb => ?_)
  rw [show i + (es.length + 1 - i) = es.length + 1 by omega] at hsb ⊢
  have hone : (Value.slice (some ⟨b, 0, none⟩) (es.length + 1) cap').oneCell' = true := rfl
  have hcap2 := hsb.cells.2.2.1
  have hcm2 := hsb.cells.2.2.2.1
  simp only [maxLen] at hcm2
  simp (disch := omega) only [go_sem, ↓reduceIte , hone, slice_l sl153]
  refine copyQ_two (aw_copy sl153 (n := 1) (by simp only [Nat.min_def]; split <;> omega) ((hx.kp (S := fun _ => False) (nx' := b + 1) (H' := H.new b ((enCells (es.take i)).toArray ++ enZ (es.length + 1 - i) ++ enZ (cap' - (es.length + 1))) 152) (by repeat first | exact Kp.refl _ _ _ | refine Kp.dropT ?_ (.inl (by omega)) | refine Kp.put ?_ (.inl (by omega)) | refine Kp.new ?_ (by omega) | refine Kp.put ?_ (.inr (by omega)) | refine Kp.newO ?_ (by omega) | refine Kp.setO ?_ (.inl (by omega)) | refine Kp.setO ?_ (.inr (by omega)) | refine Kp.trans0 ?_ (by assumption) (by omega) | refine Kp.transS ?_ (by assumption) (by omega) (fun b hb hT => by first | omega | (dsimp only at hT ⊢; omega) | (simp only at hT ⊢; omega)))  (by omega) (by simp)).first) enCells_one (by omega) (fun j hj => ?_) fun u => ?_)
  · rw [en_len] at hj
    simp only [List.length_singleton] at hj
    have := hsb.cells.2.2.2.2 (i * 4 + j) (by omega)
    rwa [Nat.zero_add] at this
  have hA : (enCells (es.take i)).length = i * 4 := by rw [en_len]; simp; omega
  have hZ := enZ_len (es.length + 1 - i)
  have hw1 := hsb.write (o := i * 4) (vs := enCells [x]) (by rw [en_len]; simp only [List.length_singleton]; omega)
  rw [Nat.zero_add] at hw1
  simp (disch := omega) only [go_sem, ↓reduceIte , slice_l sl153]
  refine awp_draw ord81x11 (by kernel_rfl) ?_
  have e1 : ((i : Int) + ((1 : Nat) : Int)).toNat = i + 1 := by omega
  simp (disch := omega) only [go_sem, ↓reduceIte , ord81x11, slice_l sl153, e1]
  have hs3 : SlA (b + 1) _ 4 (.slice (some ⟨g, off, none⟩) es.length sc) es.length (enCells es) own := hs.kp (S := fun _ => False) (nx' := b + 1) (Kp.puts (S := fun _ => False) (b := b) (.inl hb) (enCells [x]) (i * 4) _ ((Kp.refl _ _ _).new (vs := (enCells (es.take i)).toArray ++ enZ (es.length + 1 - i) ++ enZ (cap' - (es.length + 1))) (e := 152) hb)) (by omega) (by simp)
  have hcut := hs3.cut (l := i) (h := es.length) (m := sc) (by omega) (Nat.le_refl _) hcap (Nat.le_refl _)
  have hnews : ((enCells es).drop (i * 4)).take ((es.length - i) * 4) = enCells (es.drop i) := by
    rw [show enCells es = es.flatMap Ent.cells from rfl, flat_drop en_four, List.take_of_length_le]
    · rfl
    · rw [flat_length en_four, List.length_drop]; exact Nat.le_refl _
  rw [hnews, cutS_lt (by omega)] at hcut
  have hD : (enCells (es.drop i)).length = (es.length - i) * 4 := by rw [en_len, List.length_drop]
  refine copyQ_two (aw_copy sl153 (n := es.length - i) (by simp only [Nat.min_def]; split <;> omega) hcut.first enCells_one (by omega) (fun j hj => ?_) fun u => ?_)
  · rw [hD] at hj
    have := hw1.cells.2.2.2.2 ((i + 1) * 4 + j) (by omega)
    rwa [Nat.zero_add] at this
  have hw2 := hw1.write (o := (i + 1) * 4) (vs := enCells (es.drop i)) (by rw [hD]; omega)
  rw [Nat.zero_add] at hw2
  simp (disch := omega) only [go_sem, ↓reduceIte ]
  have hx4 : (enCells [x]).length = 4 := by rw [en_len]; rfl
  have hq : (enCells (es.take i) ++ enCells [x]).length = (i + 1) * 4 := by rw [List.length_append, hA, hx4]; omega
  have t1 : (List.flatMap Ent.cells (es.take i) ++ (enZ (es.length + 1 - i)).toList).take (i * 4) = enCells (es.take i) := List.take_left' hA
  have hl1 := hw1.1
  rw [t1] at hl1 hw2
  have hdr : ∀ L : List Value, L.length = (es.length + 1) * 4 → L.drop ((i + 1) * 4 + (enCells (es.drop i)).length) = [] := fun L hL => List.drop_of_length_le (by rw [hL, hD]; omega)
  rw [List.take_left' hq, hdr _ hl1, List.append_nil] at hw2
  refine ⟨dkeep_last (by kernel_rfl), by omega, Kp.puts (S := fun b => b + 1 = own) (b := b) (.inl hb) _ _ _ (Kp.puts (S := fun b => b + 1 = own) (b := b) (.inl hb) _ _ _ ((Kp.refl _ _ _).new hb)), b + 1, ?_, .inr (by omega)⟩
  rw [enCells_append, enCells_append]
  exact hw2
end Go.Proofs.YtngnbafididkcaaGreat
end
section
namespace Go.Proofs.YtngnbafididkcaaGreat
open Go.RowKit
set_option linter.unusedSimpArgs false

theorem insS_c {lo : Nat} {H : AH} {nx : Nat} {s : Value} {es : List Ent} {own d : Nat} {x : Ent} (h : InsA lo nx H s es own d x) (i : Nat) (hi : i ≤ es.length) :
    ACalls Tryz.prog lo 81 #[s, .int .i64 i, .slice (some ⟨d, 0, none⟩) 1 1] H nx (InsR nx H es own x i) := by
  by_cases hin : i = es.length
  · subst hin
    exact ins_end h
  · obtain ⟨g, off, cp, rfl, hg⟩ := h.hs.open (by omega)
    by_cases hroom : es.length + 1 ≤ cp
    · exact ins_room h i (by omega) hroom
    · exact ins_grow h i (by omega) hroom

/-- Marks behind one more. -/
def LowR (es : List Ent) (a n s m : Int) (es' : List Ent) : Prop :=
  (∃ i x, es[i]? = some x ∧ x.addr = a ∧ x.len = n ∧ es' = es.set i (if nearI s m x.seq x.metric = true then ⟨a, n, s, m⟩ else x)) ∨
  ((∀ x ∈ es, ¬ (x.addr = a ∧ x.len = n)) ∧ ∃ i, PlP es a n i ∧ es' = es.take i ++ [⟨a, n, s, m⟩] ++ es.drop i)
def SortE (es : List Ent) : Prop := es.Pairwise (fun x y => ltP x.addr x.len y.addr y.len)

theorem LowR.sorted {es es' : List Ent} {a n s m : Int} (h : LowR es a n s m es') (hs : SortE es) : SortE es' := by
  rcases h with ⟨i, x, hx, h1, h2, rfl⟩ | ⟨hno, i, hp, rfl⟩
  · unfold SortE at *
    rw [List.pairwise_iff_getElem] at hs ⊢
    have hix := (List.getElem?_eq_some_iff.1 hx)
    obtain ⟨hil, rfl⟩ := hix
    have key : ∀ (j : Nat) (hj : j < (es.set i (if nearI s m es[i].seq es[i].metric = true then ⟨a, n, s, m⟩ else es[i])).length), ((es.set i (if nearI s m es[i].seq es[i].metric = true then ⟨a, n, s, m⟩ else es[i]))[j]).addr = (es[j]'(by simpa using hj)).addr ∧ ((es.set i (if nearI s m es[i].seq es[i].metric = true then ⟨a, n, s, m⟩ else es[i]))[j]).len = (es[j]'(by simpa using hj)).len := fun j hj => by
      rw [List.getElem_set]
      split
      · rename_i e
        subst e
        split
        · exact ⟨h1.symm, h2.symm⟩
        · exact ⟨rfl, rfl⟩
      · exact ⟨rfl, rfl⟩
    intro j k hj hk hjk
    have := hs j k (by simpa using hj) (by simpa using hk) hjk
    rw [(key j hj).1, (key j hj).2, (key k hk).1, (key k hk).2]
    exact this
  · have hle := hp.le
    have ha : ∀ y ∈ es.take i, ltP y.addr y.len a n := fun y hy => by
      obtain ⟨j, hj, rfl⟩ := List.getElem_of_mem hy
      rw [List.length_take] at hj
      rw [List.getElem_take]
      exact hp.bef j _ (by omega) (List.getElem?_eq_getElem (by omega))
    have hb : ∀ y ∈ es.drop i, ltP a n y.addr y.len := fun y hy => by
      obtain ⟨j, hj, rfl⟩ := List.getElem_of_mem hy
      rw [List.length_drop] at hj
      rw [List.getElem_drop]
      have h1 := hp.aft (i + j) _ (by omega) (List.getElem?_eq_getElem (by omega))
      have h2 := hno es[i + j] (List.getElem_mem _)
      unfold ltP at h1 ⊢
      omega
    unfold SortE at *
    have hsplit := hs
    rw [← List.take_append_drop i es, List.pairwise_append] at hsplit
    obtain ⟨p1, p2, p3⟩ := hsplit
    rw [List.append_assoc, List.pairwise_append, List.singleton_append, List.pairwise_cons]
    refine ⟨p1, ⟨hb, p2⟩, fun y hy z hz => ?_⟩
    rcases List.mem_cons.1 hz with rfl | hz
    · exact ha y hy
    · exact p3 y hy z hz
theorem LowR.len {es es' : List Ent} {a n s m : Int} (h : LowR es a n s m es') : es'.length ≤ es.length + 1 := by
  rcases h with ⟨i, x, hx, h1, h2, rfl⟩ | ⟨hno, i, hp, rfl⟩
  · simp
  · have := hp.le; simp; omega

theorem put_self {H : AH} {b o : Nat} {v : Value} (h : H.c b o = some v) : H.put b o v = H := by
  unfold AH.put
  have : (fun b' o' => if b' = b ∧ o' = o then some v else H.c b' o') = H.c := by
    funext b' o'
    split
    · rename_i e
      obtain ⟨rfl, rfl⟩ := e
      exact h.symm
    · rfl
  rw [this]

theorem slower_bad {lo : Nat} {q : Nat} {es : List Ent} {own : Nat} {H : AH} {nx : Nat} (hq : SouA lo nx H q es own) (a n s : Int) (hpx : pxRightC a n = true) (n0 : 0 ≤ n) :
    ACalls Tryz.prog lo 45 #[.pointer (some ⟨q, 0, none⟩), .agg #[.int .u32 a, .int .u8 n], .agg #[.int .u16 s, .int .u16 65535]] H nx (fun v H' nx' => v = .int .i64 1 ∧ nx ≤ nx' ∧ Kp (fun _ => False) nx H H') := by
  refine ACalls.withLo fun hlo => ?_
  refine acalls_of_awp L45 Tryz.func45 rfl (by kernel_rfl) ?_
  have hlt := hq.lt
  simp (disch := omega) only [go_sem, ↓reduceIte ]
  intro p hp
  simp (disch := omega) only [go_sem, ↓reduceIte ]
  intro m hm
  simp (disch := omega) only [go_sem, ↓reduceIte ]
  refine (pxRight_c _ _ n0 _ _).mono fun v H1 nx1 _ ⟨hv, hx1, hk1⟩ => ?_
  subst hv
  have hc1 := hk1.cell0
  simp (disch := omega) only [go_sem, ↓reduceIte , hpx, hc1]
  exact ⟨by omega, (by repeat first | exact Kp.refl _ _ _ | refine Kp.dropT ?_ (.inl (by omega)) | refine Kp.put ?_ (.inl (by omega)) | refine Kp.new ?_ (by omega) | refine Kp.put ?_ (.inr (by omega)) | refine Kp.newO ?_ (by omega) | refine Kp.setO ?_ (.inl (by omega)) | refine Kp.setO ?_ (.inr (by omega)) | refine Kp.trans0 ?_ (by assumption) (by omega) | refine Kp.transS ?_ (by assumption) (by omega) (fun b hb hT => by first | omega | (dsimp only at hT ⊢; omega) | (simp only at hT ⊢; omega))) ⟩

set_option maxRecDepth 20000 in
theorem slower_c {lo : Nat} {q : Nat} {es : List Ent} {own : Nat} {H : AH} {nx : Nat} (hq : SouA lo nx H q es own) (hl : es.length ≤ 200) (a n s m : Int) (hpx : pxRightC a n = true) (n0 : 0 ≤ n) (hm : m ≠ 65535) :
    ACalls Tryz.prog lo 45 #[.pointer (some ⟨q, 0, none⟩), .agg #[.int .u32 a, .int .u8 n], .agg #[.int .u16 s, .int .u16 m]] H nx (fun v H' nx' => v = .int .i64 0 ∧ nx ≤ nx' ∧ Kp (fun b => b = q ∨ b + 1 = own) nx H H' ∧ ∃ es' own', LowR es a n s m es' ∧ SouA lo nx' H' q es' own' ∧ (own' = own ∨ nx < own')) := by
  refine ACalls.withLo fun hlo => ?_
  refine acalls_of_awp L45 Tryz.func45 rfl (by kernel_rfl) ?_
  have hlt := hq.lt
  have hge := hq.ge
  have hne := hq.ne
  have how := hq.ow
  simp (disch := omega) only [go_sem, ↓reduceIte ]
  intro pp hpp
  simp (disch := omega) only [go_sem, ↓reduceIte ]
  intro pm hpm
  simp (disch := omega) only [go_sem, ↓reduceIte ]
  refine (pxRight_c _ _ n0 _ _).mono fun v H1 nx1 _ ⟨hv, hx1, hk1⟩ => ?_
  subst hv
  have hc1 := hk1.cell0
  have hq1 : SouA lo nx1 H1 q es own := hq.kp (S := fun _ => False) (by repeat first | exact Kp.refl _ _ _ | refine Kp.dropT ?_ (.inl (by omega)) | refine Kp.put ?_ (.inl (by omega)) | refine Kp.new ?_ (by omega) | refine Kp.put ?_ (.inr (by omega)) | refine Kp.newO ?_ (by omega) | refine Kp.setO ?_ (.inl (by omega)) | refine Kp.setO ?_ (.inr (by omega)) | refine Kp.trans0 ?_ (by assumption) (by omega) | refine Kp.transS ?_ (by assumption) (by omega) (fun b hb hT => by first | omega | (dsimp only at hT ⊢; omega) | (simp only at hT ⊢; omega)))  (by omega) (by simp) (by simp)
  simp (disch := omega) only [go_sem, ↓reduceIte , hpx, hc1, hm]
  refine (sfind_c hq1 (by omega) a n).mono fun v H2 nx2 _ ⟨hx2, hk2, i, hi, hv⟩ => ?_
  subst hv
  have hc2 := hk2.cell0
  have hq2 : SouA lo nx2 H2 q es own := hq1.kp (S := fun _ => False) hk2 hx2 (by simp) (by simp)
  obtain ⟨_, _, ⟨v, hv, hs⟩, _, _, hso⟩ := hq2
  have hle := hs.le
  have hv1 := hv
  rw [hc2 _ _ (by omega), hc1 _ _ (by omega), new_other _ _ _ _ _ (by omega), new_other _ _ _ _ _ (by omega)] at hv1
  have hil := hi.le
  cases hb : hasP es a n i with
  | true =>
    unfold hasP at hb
    rw [decide_eq_true_iff] at hb
    obtain ⟨x, hx0, h1, h2⟩ := hb
    have hil2 := (List.getElem?_eq_some_iff.1 hx0).1
    obtain ⟨g, off, cp, rfl, hg⟩ := hs.open (by omega)
    have y2 := en_cells hs hx0 2 (by omega)
    have y3 := en_cells hs hx0 3 (by omega)
    simp only [Ent.cells, List.getElem?_cons_zero, List.getElem?_cons_succ] at y2 y3
    have y3' : H2.c g (off + i * 4 + 2 + 1) = some (.int .u16 x.metric) := y3
    have y2s : (H2.c g (off + i * 4 + 2)).isSome = true := by rw [y2]; rfl
    have y3s : (H2.c g (off + i * 4 + 2 + 1)).isSome = true := by rw [y3']; rfl
    have y0 := en_cells hs hx0 0 (by omega)
    have y1 := en_cells hs hx0 1 (by omega)
    rw [Nat.add_zero] at y0
    simp only [Ent.cells, List.getElem?_cons_zero, List.getElem?_cons_succ] at y0 y1
    have hp0 : H2.c pm 0 = some (.int .u16 s) := by simp (disch := omega) only [go_sem, ↓reduceIte , hc2, hc1]
    have hp1 : H2.c pm 1 = some (.int .u16 m) := by simp (disch := omega) only [go_sem, ↓reduceIte , hc2, hc1]
    simp (disch := omega) only [go_sem, ↓reduceIte ]
    refine awp_draw ord45x8 (by kernel_rfl) ?_
    simp (disch := omega) only [go_sem, ↓reduceIte , ord45x8, hv, y2, y3', hp0, hp1]
    refine (sbest_c x.seq x.metric s m _ _).mono fun v H3 nx3 _ ⟨hv3, hx3, hk3⟩ => ?_
    have hc3 := hk3.cell0
    have hs3 := hs.kp hk3 hx3 (by simp)
    have z0 : H3.c g (off + i * 4) = some (.int .u32 x.addr) := by rw [hc3 _ _ (by omega)]; exact y0
    have z1 : H3.c g (off + i * 4 + 1) = some (.int .u8 x.len) := by rw [hc3 _ _ (by omega)]; exact y1
    have hvq : H3.c q 0 = some (.slice (some ⟨g, off, none⟩) es.length cp) := by rw [hc3 _ _ (by omega)]; exact hv
    have fin : ∀ s' m' : Int, LowR es a n s m (es.set i ⟨x.addr, x.len, s', m'⟩) → nx ≤ nx3 ∧ Kp (fun b => b = q ∨ b + 1 = own) nx H ((H3.put g (off + i * 4 + 2) (.int .u16 s')).put g (off + i * 4 + 2 + 1) (.int .u16 m')) ∧ ∃ es' own', LowR es a n s m es' ∧ SouA lo nx3 ((H3.put g (off + i * 4 + 2) (.int .u16 s')).put g (off + i * 4 + 2 + 1) (.int .u16 m')) q es' own' ∧ (own' = own ∨ nx < own') := fun s' m' hL => by
      have hset := hs3.setE en_four hil2 (⟨x.addr, x.len, s', m'⟩ : Ent)
      unfold Ent.cells at hset
      rw [puts_cons, put_self z0, puts_cons, put_self z1, puts_cons, puts_cons, puts_nil] at hset
      refine ⟨by omega, (by repeat first | exact Kp.refl _ _ _ | refine Kp.dropT ?_ (.inl (by omega)) | refine Kp.put ?_ (.inl (by omega)) | refine Kp.new ?_ (by omega) | refine Kp.put ?_ (.inr (by omega)) | refine Kp.newO ?_ (by omega) | refine Kp.setO ?_ (.inl (by omega)) | refine Kp.setO ?_ (.inr (by omega)) | refine Kp.trans0 ?_ (by assumption) (by omega) | refine Kp.transS ?_ (by assumption) (by omega) (fun b hb hT => by first | omega | (dsimp only at hT ⊢; omega) | (simp only at hT ⊢; omega))) , _, own, hL, ⟨by omega, by omega, ⟨_, by rw [put_other _ _ _ _ _ (by omega), put_other _ _ _ _ _ (by omega)]; exact hvq, ?_⟩, how, hne, hL.sorted hso⟩, .inl rfl⟩
      rw [List.length_set]
      exact hset
    cases hn : nearI s m x.seq x.metric with
    | true =>
      rw [if_pos hn] at hv3
      subst hv3
      simp (disch := omega) only [go_sem, ↓reduceIte , hc3, y2s, y3s]
      refine ⟨dkeep_kp hk3, dkeep_last (by kernel_rfl), ?_⟩
      exact fin s m (.inl ⟨i, x, hx0, h1, h2, by rw [if_pos hn, h1, h2]⟩)
    | false =>
      rw [if_neg (by rw [hn]; simp)] at hv3
      subst hv3
      simp (disch := omega) only [go_sem, ↓reduceIte , hc3, y2s, y3s]
      refine ⟨dkeep_kp hk3, dkeep_last (by kernel_rfl), ?_⟩
      exact fin x.seq x.metric (.inl ⟨i, x, hx0, h1, h2, by rw [if_neg (by rw [hn]; simp)]⟩)
  | false =>
    obtain ⟨sa, sc, rfl⟩ := hs.form
    simp (disch := omega) only [go_sem, ↓reduceIte , hv1, hc2, hc1]
    refine awp_draw ord45x6 (by kernel_rfl) ?_
    simp (disch := omega) only [go_sem, ↓reduceIte , ord45x6, hv1, hc2, hc1]
    refine buildSQ_all (n := 1) [.agg #[.int .u32 a, .int .u8 n, .int .u16 s, .int .u16 m]] sl153 zero152 (by omega) (by omega) rfl (by simp [cells_agg]) fun d hd => ?_
    have hlit : SlA (d + 1) _ 4 (.slice (some ⟨d, 0, none⟩) 1 1) 1 (enCells [⟨a, n, s, m⟩]) (d + 1) := SlA.ofNew (H := H2) (e := 152) (cs := ([Value.agg #[.int .u32 a, .int .u8 n, .int .u16 s, .int .u16 m]].flatMap fun v => v.cells.toList).toArray) rfl (by omega) (by simp [maxLen]) (by simp [cells_agg]) (fun j _ => by simp [cells_agg, enCells, Ent.cells])
    have hs6 := hs.new (vs := ([Value.agg #[.int .u32 a, .int .u8 n, .int .u16 s, .int .u16 m]].flatMap fun v => v.cells.toList).toArray) (e := 152) hd
    simp (disch := omega) only [go_sem, ↓reduceIte ]
    refine ⟨dkeep_kp (by repeat first | exact Kp.refl _ _ _ | refine Kp.dropT ?_ (.inl (by omega)) | refine Kp.put ?_ (.inl (by omega)) | refine Kp.new ?_ (by omega) | refine Kp.put ?_ (.inr (by omega)) | refine Kp.newO ?_ (by omega) | refine Kp.setO ?_ (.inl (by omega)) | refine Kp.setO ?_ (.inr (by omega)) | refine Kp.trans0 ?_ (by assumption) (by omega) | refine Kp.transS ?_ (by assumption) (by omega) (fun b hb hT => by first | omega | (dsimp only at hT ⊢; omega) | (simp only at hT ⊢; omega))) , ?_⟩
    refine (insS_c (x := ⟨a, n, s, m⟩) ⟨hs6, how, by omega, hlit, by rw [new_t_same]; rfl, by omega⟩ i hil).mono fun v H4 nx4 _ ⟨hx4, hk4, own4, hs4, ho4⟩ => ?_
    have hone4 := hs4.one
    have hc4 := hk4.cell
    simp (disch := omega) only [go_sem, ↓reduceIte ]
    refine ⟨dkeep_last (by kernel_rfl), ?_⟩
    simp (disch := omega) only [go_sem, ↓reduceIte , hc4, hv, hone4]
    refine ⟨dkeep_last (by kernel_rfl), ?_⟩
    have hL : LowR es a n s m (es.take i ++ [⟨a, n, s, m⟩] ++ es.drop i) := .inr ⟨has_none hso hi hb, i, hi, rfl⟩
    refine ⟨by omega, (by repeat first | exact Kp.refl _ _ _ | refine Kp.dropT ?_ (.inl (by omega)) | refine Kp.put ?_ (.inl (by omega)) | refine Kp.new ?_ (by omega) | refine Kp.put ?_ (.inr (by omega)) | refine Kp.newO ?_ (by omega) | refine Kp.setO ?_ (.inl (by omega)) | refine Kp.setO ?_ (.inr (by omega)) | refine Kp.trans0 ?_ (by assumption) (by omega) | refine Kp.transS ?_ (by assumption) (by omega) (fun b hb hT => by first | omega | (dsimp only at hT ⊢; omega) | (simp only at hT ⊢; omega))) , _, own4, hL, ⟨by omega, by omega, ⟨v, by simp (disch := omega) only [go_sem, ↓reduceIte ], ?_⟩, by omega, by omega, hL.sorted hso⟩, by omega⟩
    rw [insE_split _ hil]
    exact hs4.put (by omega)

/-- Marks that may be. -/
def EntOk (x : Ent) : Prop := 0 ≤ x.seq ∧ x.seq ≤ 1000
theorem LowR.ok {es es' : List Ent} {a n s m : Int} (h : LowR es a n s m es') (hs : ∀ x ∈ es, EntOk x) (s0 : 0 ≤ s) (s1 : s ≤ 1000) : ∀ x ∈ es', EntOk x := by
  rcases h with ⟨i, x, hx, h1, h2, rfl⟩ | ⟨hno, i, hp, rfl⟩
  · intro y hy
    rcases List.mem_or_eq_of_mem_set hy with hy | rfl
    · exact hs y hy
    · split
      · exact ⟨s0, s1⟩
      · exact hs x (List.mem_of_getElem? hx)
  · intro y hy
    simp only [List.mem_append, List.mem_singleton] at hy
    rcases hy with (hy | rfl) | hy
    · exact hs y (List.mem_of_mem_take hy)
    · exact ⟨s0, s1⟩
    · exact hs y (List.mem_of_mem_drop hy)
end Go.Proofs.YtngnbafididkcaaGreat
end
