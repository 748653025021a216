/- Routes, in our own logic: Select. -/
import Derived.Test.YtngnbafididkcaaGreatR5
namespace Go.Proofs.YtngnbafididkcaaGreat
open Go.RowKit
set_option linter.unusedSimpArgs false

structure Rt where
  addr : Int
  len : Int
  via : Int
  metric : Int
  seq : Int
def Rt.cells (t : Rt) : List Value := [.int .u32 t.addr, .int .u8 t.len, .int .i64 t.via, .int .u16 t.metric, .int .u16 t.seq]
def rtCells (l : List Rt) : List Value := l.flatMap Rt.cells
theorem rt_five (t : Rt) : t.cells.length = 5 := rfl
theorem rt_load {nx : Nat} {H : AH} {g off c n own : Nat} {l : List Rt} (hs : SlA nx H 5 (.slice (some ⟨g, off, none⟩) n c) n (rtCells l) own) {i : Nat} {x : Rt} (hi : l[i]? = some x) : loadN H g (off + i * 5) 5 = some x.cells := flat_load rt_five hs hi
theorem rtCells_one {l : List Rt} : ∀ v ∈ rtCells l, v.oneCell' = true := by
  intro v hv
  simp only [rtCells, List.mem_flatMap] at hv
  obtain ⟨c, _, hv⟩ := hv
  simp only [Rt.cells, List.mem_cons, List.not_mem_nil, or_false] at hv
  rcases hv with rfl | rfl | rfl | rfl | rfl <;> rfl
theorem rtCells_append (a b : List Rt) : rtCells (a ++ b) = rtCells a ++ rtCells b := by simp [rtCells]

/-- Select's step. -/
def selPut (l : List Rt) (x : Rt) : List Rt :=
  match l.getLast? with
  | none => l ++ [x]
  | some y => if y.addr = x.addr ∧ y.len = x.len then (if x.metric < y.metric then l.set (l.length - 1) x else l) else l ++ [x]
def selStep (costs : List Int) (feas : Tld → Bool) (l : List Rt) (t : Tld) : List Rt :=
  match costs[t.who.toNat]? with
  | none => l
  | some c => if c = 65535 ∨ 65535 ≤ t.metric + c ∨ feas t = false then l else selPut l ⟨t.addr, t.len, t.who, t.metric + c, t.seq⟩
def selR (costs : List Int) (feas : Tld → Bool) (ts : List Tld) : List Rt := ts.foldl (selStep costs feas) []
theorem selPut_len (l : List Rt) (x : Rt) : (selPut l x).length ≤ l.length + 1 := by
  unfold selPut
  split <;> (try split) <;> (try split) <;> simp
theorem selStep_len (costs : List Int) (feas : Tld → Bool) (l : List Rt) (t : Tld) : (selStep costs feas l t).length ≤ l.length + 1 := by
  unfold selStep
  split
  · omega
  · split
    · omega
    · exact selPut_len _ _
theorem selR_snoc {costs : List Int} {feas : Tld → Bool} {ts : List Tld} {k : Nat} {t : Tld} (h : ts[k]? = some t) : selR costs feas (ts.take (k + 1)) = selStep costs feas (selR costs feas (ts.take k)) t := by
  unfold selR
  rw [List.take_add_one, h, Option.toList_some, List.foldl_append]
  rfl
theorem selR_len (costs : List Int) (feas : Tld → Bool) (ts : List Tld) : ∀ k, (selR costs feas (ts.take k)).length ≤ k
  | 0 => by simp [selR]
  | k + 1 => by
    have ih := selR_len costs feas ts k
    cases h : ts[k]? with
    | none =>
      have e : ts.take (k + 1) = ts.take k := by rw [List.take_add_one, h]; simp
      rw [e]; omega
    | some t =>
      rw [selR_snoc h]
      have := selStep_len costs feas (selR costs feas (ts.take k)) t
      omega

structure SelI (nx1 : Nat) (H1 : AH) (costs : List Int) (feas : Tld → Bool) (ts : List Tld) (sv cv av : Value) (m : Nat) (env : Env) (H : AH) (nx k : Nat) (lv : Value) (l : List Rt) (own : Nat) : Prop where
  hm : m = ts.length - k
  hk : k ≤ ts.length
  henv : env = [(1, sv), (2, cv), (7, lv), (15, av), (16, .int .i64 ts.length), (17, .int .i64 k)]
  hx : nx1 ≤ nx
  hkp : Kp (fun _ => False) nx1 H1 H
  hs : SlA nx H 5 lv l.length (rtCells l) own
  how : own = 0 ∨ nx1 < own
  hl : l = selR costs feas (ts.take k)

set_option maxHeartbeats 4000000 in
set_option maxRecDepth 20000 in
theorem rselect_c {lo : Nat} {p : Nat} {ts : List Tld} {own : Nat} {H : AH} {nx : Nat} (hR : RouA lo nx H p ts own) (hok : ∀ t ∈ ts, TdOk t ∧ 0 ≤ t.metric ∧ t.metric ≤ 65535) (hl : ts.length ≤ 1000000) {sv cv : Value} {costs : List Int} {ownc : Nat} (hc : SlA nx H 1 cv costs.length (costs.map (Value.int .u16)) ownc) (hcs : ∀ c ∈ costs, 0 ≤ c ∧ c ≤ 65535) {feas : Tld → Bool}
    (hfeas : ∀ (H1 : AH) (nx1 : Nat), nx ≤ nx1 → Kp (fun _ => False) nx H H1 → ∀ t ∈ ts, ACalls Tryz.prog lo 90 #[sv, .agg #[.int .u32 t.addr, .int .u8 t.len], .agg #[.int .u16 t.seq, .int .u16 t.metric]] H1 nx1 (fun v H' nx' => v = .bool (feas t) ∧ nx1 ≤ nx' ∧ Kp (fun _ => False) nx1 H1 H')) :
    ACalls Tryz.prog lo 50 #[.pointer (some ⟨p, 0, none⟩), sv, cv] H nx (fun v H' nx' => nx ≤ nx' ∧ Kp (fun _ => False) nx H H' ∧ ∃ (own' : Nat) (ts' : List Tld), ts'.Perm ts ∧ ts'.Pairwise (fun x y => ¬ aheadT y x) ∧ SlA nx' H' 5 v (selR costs feas ts').length (rtCells (selR costs feas ts')) own' ∧ (own' = 0 ∨ nx < own')) := by
  refine ACalls.withLo fun hlo => ?_
  refine acalls_of_awp L50 Tryz.func50 rfl (by kernel_rfl) ?_
  obtain ⟨ca, cc, rfl⟩ := hc.form
  simp (disch := omega) only [go_sem, ↓reduceIte ]
  refine (rall_c hR (fun t ht => (hok t ht).1) hl).mono fun v H1 nx1 _ ⟨hx1, hk1, owna, ts', hs1, hown1, hp, hsd⟩ => ?_
  obtain ⟨aa, ac, rfl⟩ := hs1.form
  have hlp : ts'.length = ts.length := hp.length_eq
  have hmem : ∀ t ∈ ts', t ∈ ts := fun t ht => hp.mem_iff.1 ht
  simp (disch := omega) only [go_sem, ↓reduceIte ]
  refine awp_loop (fun m env H2 nx2 => ∃ k lv l own, SelI nx1 H1 costs feas ts' sv (.slice ca costs.length cc) (.slice aa ts'.length ac) m env H2 nx2 k lv l own) ts'.length ⟨0, .slice none 0 0, [], 0, ⟨rfl, by omega, rfl, Nat.le_refl _, Kp.refl _ _ _, SlA.nil _ _ _, .inl rfl, rfl⟩⟩ (fun m env H2 nx2 ⟨k, lv, l, ownl, hI⟩ hn => ?_)
  obtain ⟨hm, hk, henv, hx2, hkp, hs, how, hll⟩ := hI
  subst henv
  by_cases hkl : k < ts'.length
  · obtain ⟨t, hx0⟩ : ∃ t, ts'[k]? = some t := ⟨_, List.getElem?_eq_getElem hkl⟩
    have htm := hmem t (List.mem_of_getElem? hx0)
    obtain ⟨htok, hm0, hm1⟩ := hok t htm
    have hw0 := htok.w0
    have hw1 := htok.w1
    have hsa2 := hs1.kp hkp hx2 (by simp)
    obtain ⟨ga, offa, ca2, hva, hga⟩ := hs1.open (by omega)
    cases hva
    have hld := td_load hsa2 hx0
    unfold Tld.cells at hld
    have hone := hs.one
    simp (disch := omega) only [go_sem, ↓reduceIte , hld, hone]
    intro d hd
    have hstep := selR_snoc (costs := costs) (feas := feas) hx0
    by_cases hwl : t.who < costs.length
    · obtain ⟨c, hcg⟩ : ∃ c, costs[t.who.toNat]? = some c := ⟨_, List.getElem?_eq_getElem (by omega)⟩
      obtain ⟨c0, c1⟩ := hcs c (List.mem_of_getElem? hcg)
      have hc2 := (hc.kp hk1 hx1 (by simp)).kp hkp hx2 (by simp)
      obtain ⟨gc, offc, cpc, hvc, hgc⟩ := hc.open (by omega)
      cases hvc
      have hcl := hc.le
      have hcell := hc2.cells.1 t.who.toNat (.int .u16 c) (by rw [List.getElem?_map, hcg]; rfl)
      by_cases h1 : c = 65535
      · simp (disch := omega) only [go_sem, ↓reduceIte , hcell, h1, hone]
        refine ⟨ts'.length - (k + 1), by omega, k + 1, lv, l, ownl, ⟨rfl, by omega, rfl, by omega, (by repeat first | exact Kp.refl _ _ _ | refine Kp.dropT ?_ (.inl (by omega)) | refine Kp.put ?_ (.inl (by omega)) | refine Kp.new ?_ (by omega) | refine Kp.put ?_ (.inr (by omega)) | refine Kp.newO ?_ (by omega) | refine Kp.setO ?_ (.inl (by omega)) | refine Kp.setO ?_ (.inr (by omega)) | refine Kp.trans0 ?_ (by assumption) (by omega) | refine Kp.transS ?_ (by assumption) (by omega) (fun b hb hT => by first | omega | (dsimp only at hT ⊢; omega) | (simp only at hT ⊢; omega))) , hs.kp (S := fun _ => False) (by repeat first | exact Kp.refl _ _ _ | refine Kp.dropT ?_ (.inl (by omega)) | refine Kp.put ?_ (.inl (by omega)) | refine Kp.new ?_ (by omega) | refine Kp.put ?_ (.inr (by omega)) | refine Kp.newO ?_ (by omega) | refine Kp.setO ?_ (.inl (by omega)) | refine Kp.setO ?_ (.inr (by omega)) | refine Kp.trans0 ?_ (by assumption) (by omega) | refine Kp.transS ?_ (by assumption) (by omega) (fun b hb hT => by first | omega | (dsimp only at hT ⊢; omega) | (simp only at hT ⊢; omega)))  (by omega) (by simp), how, ?_⟩⟩
        rw [hstep, ← hll]
        unfold selStep
        rw [hcg]
        exact (if_pos (by simp [h1])).symm
      by_cases h2 : 65535 ≤ t.metric + c
      · simp (disch := omega) only [go_sem, ↓reduceIte , hcell, h1, h2, hone]
        refine ⟨ts'.length - (k + 1), by omega, k + 1, lv, l, ownl, ⟨rfl, by omega, rfl, by omega, (by repeat first | exact Kp.refl _ _ _ | refine Kp.dropT ?_ (.inl (by omega)) | refine Kp.put ?_ (.inl (by omega)) | refine Kp.new ?_ (by omega) | refine Kp.put ?_ (.inr (by omega)) | refine Kp.newO ?_ (by omega) | refine Kp.setO ?_ (.inl (by omega)) | refine Kp.setO ?_ (.inr (by omega)) | refine Kp.trans0 ?_ (by assumption) (by omega) | refine Kp.transS ?_ (by assumption) (by omega) (fun b hb hT => by first | omega | (dsimp only at hT ⊢; omega) | (simp only at hT ⊢; omega))) , hs.kp (S := fun _ => False) (by repeat first | exact Kp.refl _ _ _ | refine Kp.dropT ?_ (.inl (by omega)) | refine Kp.put ?_ (.inl (by omega)) | refine Kp.new ?_ (by omega) | refine Kp.put ?_ (.inr (by omega)) | refine Kp.newO ?_ (by omega) | refine Kp.setO ?_ (.inl (by omega)) | refine Kp.setO ?_ (.inr (by omega)) | refine Kp.trans0 ?_ (by assumption) (by omega) | refine Kp.transS ?_ (by assumption) (by omega) (fun b hb hT => by first | omega | (dsimp only at hT ⊢; omega) | (simp only at hT ⊢; omega)))  (by omega) (by simp), how, ?_⟩⟩
        rw [hstep, ← hll]
        unfold selStep
        rw [hcg]
        exact (if_pos (by simp [h2])).symm
      simp (disch := omega) only [go_sem, ↓reduceIte , hcell, h1, h2, hone]
      have hk3 : Kp (fun _ => False) nx1 H1 ((((((((H2.new d #[.int .u32 0, .int .u8 0, .int .i64 0, .int .i64 0, .int .u16 0, .int .u16 0, .int .u64 0] 142).put d 0 (.int .u32 t.addr)).put d 1 (.int .u8 t.len)).put d (1 + 1) (.int .i64 t.who)).put d (1 + 1 + 1) (.int .i64 t.node)).put d (1 + 1 + 1 + 1) (.int .u16 t.seq)).put d (1 + 1 + 1 + 1 + 1) (.int .u16 t.metric)).put d (1 + 1 + 1 + 1 + 1 + 1) (.int .u64 t.til)) := (by repeat first | exact Kp.refl _ _ _ | refine Kp.dropT ?_ (.inl (by omega)) | refine Kp.put ?_ (.inl (by omega)) | refine Kp.new ?_ (by omega) | refine Kp.put ?_ (.inr (by omega)) | refine Kp.newO ?_ (by omega) | refine Kp.setO ?_ (.inl (by omega)) | refine Kp.setO ?_ (.inr (by omega)) | refine Kp.trans0 ?_ (by assumption) (by omega) | refine Kp.transS ?_ (by assumption) (by omega) (fun b hb hT => by first | omega | (dsimp only at hT ⊢; omega) | (simp only at hT ⊢; omega))) 
      refine (hfeas _ (d + 1) (by omega) (Kp.trans (U := fun _ => False) hk1 hk3 hx1 (fun _ _ h => h) (fun _ _ h => h)) t htm).mono fun v H4 nx4 _ ⟨hv, hx4, hk4⟩ => ?_
      subst hv
      have hc4 := hk4.cell0
      have hs4 : SlA nx4 H4 5 lv l.length (rtCells l) ownl := hs.kp (S := fun _ => False) (by repeat first | exact Kp.refl _ _ _ | refine Kp.dropT ?_ (.inl (by omega)) | refine Kp.put ?_ (.inl (by omega)) | refine Kp.new ?_ (by omega) | refine Kp.put ?_ (.inr (by omega)) | refine Kp.newO ?_ (by omega) | refine Kp.setO ?_ (.inl (by omega)) | refine Kp.setO ?_ (.inr (by omega)) | refine Kp.trans0 ?_ (by assumption) (by omega) | refine Kp.transS ?_ (by assumption) (by omega) (fun b hb hT => by first | omega | (dsimp only at hT ⊢; omega) | (simp only at hT ⊢; omega)))  (by omega) (by simp)
      cases hft : feas t with
      | false =>
        simp (disch := omega) only [go_sem, ↓reduceIte , hone]
        refine ⟨ts'.length - (k + 1), by omega, k + 1, lv, l, ownl, ⟨rfl, by omega, rfl, by omega, (by repeat first | exact Kp.refl _ _ _ | refine Kp.dropT ?_ (.inl (by omega)) | refine Kp.put ?_ (.inl (by omega)) | refine Kp.new ?_ (by omega) | refine Kp.put ?_ (.inr (by omega)) | refine Kp.newO ?_ (by omega) | refine Kp.setO ?_ (.inl (by omega)) | refine Kp.setO ?_ (.inr (by omega)) | refine Kp.trans0 ?_ (by assumption) (by omega) | refine Kp.transS ?_ (by assumption) (by omega) (fun b hb hT => by first | omega | (dsimp only at hT ⊢; omega) | (simp only at hT ⊢; omega))) , hs.kp (S := fun _ => False) (by repeat first | exact Kp.refl _ _ _ | refine Kp.dropT ?_ (.inl (by omega)) | refine Kp.put ?_ (.inl (by omega)) | refine Kp.new ?_ (by omega) | refine Kp.put ?_ (.inr (by omega)) | refine Kp.newO ?_ (by omega) | refine Kp.setO ?_ (.inl (by omega)) | refine Kp.setO ?_ (.inr (by omega)) | refine Kp.trans0 ?_ (by assumption) (by omega) | refine Kp.transS ?_ (by assumption) (by omega) (fun b hb hT => by first | omega | (dsimp only at hT ⊢; omega) | (simp only at hT ⊢; omega)))  (by omega) (by simp), how, ?_⟩⟩
        rw [hstep, ← hll]
        unfold selStep
        rw [hcg]
        exact (if_pos (by simp [hft])).symm
      | true =>
        simp (disch := omega) only [go_sem, ↓reduceIte , hc4, hone]
        intro e he
        let x : Rt := ⟨t.addr, t.len, t.who, t.metric + c, t.seq⟩
        have hll2 := selR_len costs feas ts' k
        rw [← hll] at hll2
        have hle4 := hs4.le
        have hs5 : SlA (e + 1) _ 5 lv l.length (rtCells l) ownl := hs4.kp (S := fun _ => False) (nx' := e + 1) (H' := ((((((H4.new e #[.int .u32 0, .int .u8 0, .int .i64 0, .int .u16 0, .int .u16 0] 40).put e 0 (.int .u32 t.addr)).put e 1 (.int .u8 t.len)).put e (1 + 1) (.int .i64 t.who)).put e (1 + 1 + 1) (.int .u16 (t.metric + c))).put e (1 + 1 + 1 + 1) (.int .u16 t.seq))) (by repeat first | exact Kp.refl _ _ _ | refine Kp.dropT ?_ (.inl (by omega)) | refine Kp.put ?_ (.inl (by omega)) | refine Kp.new ?_ (by omega) | refine Kp.put ?_ (.inr (by omega)) | refine Kp.newO ?_ (by omega) | refine Kp.setO ?_ (.inl (by omega)) | refine Kp.setO ?_ (.inr (by omega)) | refine Kp.trans0 ?_ (by assumption) (by omega) | refine Kp.transS ?_ (by assumption) (by omega) (fun b hb hT => by first | omega | (dsimp only at hT ⊢; omega) | (simp only at hT ⊢; omega)))  (by omega) (by simp)
        obtain ⟨al, cl, rfl⟩ := hs4.form
        simp (disch := omega) only [go_sem, ↓reduceIte , hc4]
        refine awp_draw ord50x12 (by kernel_rfl) ?_
        rcases List.eq_nil_or_concat l with rfl | ⟨l0, y, hly⟩
        · simp (disch := omega) only [go_sem, ↓reduceIte , ord50x12, hc4, List.length_nil]
          refine buildSQ_all (n := 1) [.agg #[.int .u32 t.addr, .int .u8 t.len, .int .i64 t.who, .int .u16 (t.metric + c), .int .u16 t.seq]] sl37 zero40 (by omega) (by omega) rfl (by simp [cells_agg]) fun f hf => ?_
          have hlit : SlA (f + 1) _ 5 (.slice (some ⟨f, 0, none⟩) 1 1) 1 (rtCells [x]) (f + 1) := SlA.ofNew (H := ((((((H4.new e #[.int .u32 0, .int .u8 0, .int .i64 0, .int .u16 0, .int .u16 0] 40).put e 0 (.int .u32 t.addr)).put e 1 (.int .u8 t.len)).put e (1 + 1) (.int .i64 t.who)).put e (1 + 1 + 1) (.int .u16 (t.metric + c))).put e (1 + 1 + 1 + 1) (.int .u16 t.seq))) (e := 40) (cs := ([Value.agg #[.int .u32 t.addr, .int .u8 t.len, .int .i64 t.who, .int .u16 (t.metric + c), .int .u16 t.seq]].flatMap fun v => v.cells.toList).toArray) rfl (by omega) (by simp [maxLen]) (by simp [cells_agg]) (fun j _ => by simp [cells_agg, rtCells, Rt.cells, x])
          have hs6 := hs5.new (vs := ([Value.agg #[.int .u32 t.addr, .int .u8 t.len, .int .i64 t.who, .int .u16 (t.metric + c), .int .u16 t.seq]].flatMap fun v => v.cells.toList).toArray) (e := 40) hf
          simp (disch := omega) only [go_sem, ↓reduceIte ]
          refine appendQ_two (aw_append sl37 zero40 rfl by40 hs6 (hlit.src sl37 rtCells_one) (by simp only [maxLen]; omega) (by omega) (by omega) fun v7 H7 nx7 own7 hn7 hs7 ho7 hk7 _ => ?_)
          have hone7 := hs7.one
          simp (disch := omega) only [go_sem, ↓reduceIte , hone7]
          refine ⟨ts'.length - (k + 1), by omega, k + 1, v7, [] ++ [x], own7, ⟨rfl, by omega, rfl, by omega, (by repeat first | exact Kp.refl _ _ _ | refine Kp.dropT ?_ (.inl (by omega)) | refine Kp.put ?_ (.inl (by omega)) | refine Kp.new ?_ (by omega) | refine Kp.put ?_ (.inr (by omega)) | refine Kp.newO ?_ (by omega) | refine Kp.setO ?_ (.inl (by omega)) | refine Kp.setO ?_ (.inr (by omega)) | refine Kp.trans0 ?_ (by assumption) (by omega) | refine Kp.transS ?_ (by assumption) (by omega) (fun b hb hT => by first | omega | (dsimp only at hT ⊢; omega) | (simp only at hT ⊢; omega))) , ?_, by omega, ?_⟩⟩
          · rw [List.length_append, rtCells_append]
            exact hs7
          · rw [hstep, ← hll]
            unfold selStep
            rw [hcg]
            refine Eq.trans ?_ (if_neg (by simp [h1, h2, hft])).symm
            unfold selPut
            rfl

        · rw [List.concat_eq_append] at hly
          have hll0 : l.length = l0.length + 1 := by rw [hly]; simp
          have hyi : l[l.length - 1]? = some y := by rw [hll0, hly]; simp
          have hlast : l.getLast? = some y := by rw [hly]; simp
          obtain ⟨gl, ofl, cl2, hvl, hgl⟩ := hs4.open (by omega)
          cases hvl
          have hldy := rt_load hs4 hyi
          unfold Rt.cells at hldy
          have hyc : ∀ j, j < 5 → H2.c gl (ofl + ((l.length : Int) - 1).toNat * 5 + j) = y.cells[j]? := fun j hj => by
            have h5 := flat_get rt_five l (l.length - 1) y hyi j hj
            rw [show ofl + ((l.length : Int) - 1).toNat * 5 + j = ofl + (5 * (l.length - 1) + j) by omega]
            obtain ⟨u, hu⟩ : ∃ u, y.cells[j]? = some u := ⟨_, List.getElem?_eq_getElem (by rw [rt_five]; exact hj)⟩
            rw [hu] at h5 ⊢
            exact hs.cells.1 _ _ h5
          have y0 := hyc 0 (by omega)
          have y1 := hyc 1 (by omega)
          have y3 := hyc 3 (by omega)
          rw [Nat.add_zero] at y0
          simp only [Rt.cells, List.getElem?_cons_zero, List.getElem?_cons_succ] at y0 y1 y3
          have hy5 : ∀ j, j < 5 → (H2.c gl (ofl + ((l.length : Int) - 1).toNat * 5 + j)).isSome = true := fun j hj => by
            rw [hyc j hj, List.getElem?_eq_getElem (by rw [rt_five]; exact hj)]
            rfl
          have w0 := hy5 0 (by omega)
          have w1 := hy5 1 (by omega)
          have w2 := hy5 2 (by omega)
          have w3 := hy5 3 (by omega)
          have w4 := hy5 4 (by omega)
          rw [Nat.add_zero] at w0
          have hle3 := hs.le
          by_cases hP : y.addr = t.addr ∧ y.len = t.len
          · obtain ⟨hP1, hP2⟩ := hP
            simp (disch := omega) only [go_sem, ↓reduceIte , ord50x12, hc4, y0, y1, hP1, hP2]
            refine awp_draw ord50x14 (by kernel_rfl) ?_
            by_cases hM : t.metric + c < y.metric
            · simp (disch := omega) only [go_sem, ↓reduceIte , ord50x14, hc4, y3, hM, w0, w1, w2, w3, w4]
              refine ⟨ts'.length - (k + 1), by omega, k + 1, .slice (some ⟨gl, ofl, none⟩) l.length cl, l.set (l.length - 1) x, ownl, ⟨rfl, by omega, rfl, by omega, (by repeat first | exact Kp.refl _ _ _ | refine Kp.dropT ?_ (.inl (by omega)) | refine Kp.put ?_ (.inl (by omega)) | refine Kp.new ?_ (by omega) | refine Kp.put ?_ (.inr (by omega)) | refine Kp.newO ?_ (by omega) | refine Kp.setO ?_ (.inl (by omega)) | refine Kp.setO ?_ (.inr (by omega)) | refine Kp.trans0 ?_ (by assumption) (by omega) | refine Kp.transS ?_ (by assumption) (by omega) (fun b hb hT => by first | omega | (dsimp only at hT ⊢; omega) | (simp only at hT ⊢; omega))) , ?_, how, ?_⟩⟩
              · have h := hs5.setE rt_five (i := l.length - 1) (by omega) x
                unfold Rt.cells at h
                rw [List.length_set, show ((l.length : Int) - 1).toNat = l.length - 1 by omega]
                exact h
              · rw [hstep, ← hll]
                unfold selStep
                rw [hcg]
                refine Eq.trans ?_ (if_neg (by simp [h1, h2, hft])).symm
                unfold selPut
                rw [hlast]
                refine Eq.trans ?_ (if_pos ⟨hP1, hP2⟩).symm
                exact (if_pos hM).symm
            · simp (disch := omega) only [go_sem, ↓reduceIte , ord50x14, hc4, y3, hM]
              refine ⟨ts'.length - (k + 1), by omega, k + 1, .slice (some ⟨gl, ofl, none⟩) l.length cl, l, ownl, ⟨rfl, by omega, rfl, by omega, (by repeat first | exact Kp.refl _ _ _ | refine Kp.dropT ?_ (.inl (by omega)) | refine Kp.put ?_ (.inl (by omega)) | refine Kp.new ?_ (by omega) | refine Kp.put ?_ (.inr (by omega)) | refine Kp.newO ?_ (by omega) | refine Kp.setO ?_ (.inl (by omega)) | refine Kp.setO ?_ (.inr (by omega)) | refine Kp.trans0 ?_ (by assumption) (by omega) | refine Kp.transS ?_ (by assumption) (by omega) (fun b hb hT => by first | omega | (dsimp only at hT ⊢; omega) | (simp only at hT ⊢; omega))) , hs5, how, ?_⟩⟩
              rw [hstep, ← hll]
              unfold selStep
              rw [hcg]
              refine Eq.trans ?_ (if_neg (by simp [h1, h2, hft])).symm
              unfold selPut
              rw [hlast]
              refine Eq.trans ?_ (if_pos ⟨hP1, hP2⟩).symm
              exact (if_neg hM).symm
          · have hne : ¬ (y.addr = t.addr) ∨ (y.addr = t.addr ∧ ¬ (y.len = t.len)) := by omega
            rcases hne with hP1 | ⟨hP1, hP2⟩
            · simp (disch := omega) only [go_sem, ↓reduceIte , ord50x12, hc4, y0, y1, hP1]
              refine buildSQ_all (n := 1) [.agg #[.int .u32 t.addr, .int .u8 t.len, .int .i64 t.who, .int .u16 (t.metric + c), .int .u16 t.seq]] sl37 zero40 (by omega) (by omega) rfl (by simp [cells_agg]) fun f hf => ?_
              have hlit : SlA (f + 1) _ 5 (.slice (some ⟨f, 0, none⟩) 1 1) 1 (rtCells [x]) (f + 1) := SlA.ofNew (H := ((((((H4.new e #[.int .u32 0, .int .u8 0, .int .i64 0, .int .u16 0, .int .u16 0] 40).put e 0 (.int .u32 t.addr)).put e 1 (.int .u8 t.len)).put e (1 + 1) (.int .i64 t.who)).put e (1 + 1 + 1) (.int .u16 (t.metric + c))).put e (1 + 1 + 1 + 1) (.int .u16 t.seq))) (e := 40) (cs := ([Value.agg #[.int .u32 t.addr, .int .u8 t.len, .int .i64 t.who, .int .u16 (t.metric + c), .int .u16 t.seq]].flatMap fun v => v.cells.toList).toArray) rfl (by omega) (by simp [maxLen]) (by simp [cells_agg]) (fun j _ => by simp [cells_agg, rtCells, Rt.cells, x])
              have hs6 := hs5.new (vs := ([Value.agg #[.int .u32 t.addr, .int .u8 t.len, .int .i64 t.who, .int .u16 (t.metric + c), .int .u16 t.seq]].flatMap fun v => v.cells.toList).toArray) (e := 40) hf
              simp (disch := omega) only [go_sem, ↓reduceIte ]
              refine appendQ_two (aw_append sl37 zero40 rfl by40 hs6 (hlit.src sl37 rtCells_one) (by simp only [maxLen]; omega) (by omega) (by omega) fun v7 H7 nx7 own7 hn7 hs7 ho7 hk7 _ => ?_)
              have hone7 := hs7.one
              simp (disch := omega) only [go_sem, ↓reduceIte , hone7]
              refine ⟨ts'.length - (k + 1), by omega, k + 1, v7, l ++ [x], own7, ⟨rfl, by omega, rfl, by omega, (by repeat first | exact Kp.refl _ _ _ | refine Kp.dropT ?_ (.inl (by omega)) | refine Kp.put ?_ (.inl (by omega)) | refine Kp.new ?_ (by omega) | refine Kp.put ?_ (.inr (by omega)) | refine Kp.newO ?_ (by omega) | refine Kp.setO ?_ (.inl (by omega)) | refine Kp.setO ?_ (.inr (by omega)) | refine Kp.trans0 ?_ (by assumption) (by omega) | refine Kp.transS ?_ (by assumption) (by omega) (fun b hb hT => by first | omega | (dsimp only at hT ⊢; omega) | (simp only at hT ⊢; omega))) , ?_, by omega, ?_⟩⟩
              · rw [List.length_append, rtCells_append]
                exact hs7
              · rw [hstep, ← hll]
                unfold selStep
                rw [hcg]
                refine Eq.trans ?_ (if_neg (by simp [h1, h2, hft])).symm
                unfold selPut
                rw [hlast]
                exact (if_neg hP).symm

            · simp (disch := omega) only [go_sem, ↓reduceIte , ord50x12, hc4, y0, y1, hP1, hP2]
              refine buildSQ_all (n := 1) [.agg #[.int .u32 t.addr, .int .u8 t.len, .int .i64 t.who, .int .u16 (t.metric + c), .int .u16 t.seq]] sl37 zero40 (by omega) (by omega) rfl (by simp [cells_agg]) fun f hf => ?_
              have hlit : SlA (f + 1) _ 5 (.slice (some ⟨f, 0, none⟩) 1 1) 1 (rtCells [x]) (f + 1) := SlA.ofNew (H := ((((((H4.new e #[.int .u32 0, .int .u8 0, .int .i64 0, .int .u16 0, .int .u16 0] 40).put e 0 (.int .u32 t.addr)).put e 1 (.int .u8 t.len)).put e (1 + 1) (.int .i64 t.who)).put e (1 + 1 + 1) (.int .u16 (t.metric + c))).put e (1 + 1 + 1 + 1) (.int .u16 t.seq))) (e := 40) (cs := ([Value.agg #[.int .u32 t.addr, .int .u8 t.len, .int .i64 t.who, .int .u16 (t.metric + c), .int .u16 t.seq]].flatMap fun v => v.cells.toList).toArray) rfl (by omega) (by simp [maxLen]) (by simp [cells_agg]) (fun j _ => by simp [cells_agg, rtCells, Rt.cells, x])
              have hs6 := hs5.new (vs := ([Value.agg #[.int .u32 t.addr, .int .u8 t.len, .int .i64 t.who, .int .u16 (t.metric + c), .int .u16 t.seq]].flatMap fun v => v.cells.toList).toArray) (e := 40) hf
              simp (disch := omega) only [go_sem, ↓reduceIte ]
              refine appendQ_two (aw_append sl37 zero40 rfl by40 hs6 (hlit.src sl37 rtCells_one) (by simp only [maxLen]; omega) (by omega) (by omega) fun v7 H7 nx7 own7 hn7 hs7 ho7 hk7 _ => ?_)
              have hone7 := hs7.one
              simp (disch := omega) only [go_sem, ↓reduceIte , hone7]
              refine ⟨ts'.length - (k + 1), by omega, k + 1, v7, l ++ [x], own7, ⟨rfl, by omega, rfl, by omega, (by repeat first | exact Kp.refl _ _ _ | refine Kp.dropT ?_ (.inl (by omega)) | refine Kp.put ?_ (.inl (by omega)) | refine Kp.new ?_ (by omega) | refine Kp.put ?_ (.inr (by omega)) | refine Kp.newO ?_ (by omega) | refine Kp.setO ?_ (.inl (by omega)) | refine Kp.setO ?_ (.inr (by omega)) | refine Kp.trans0 ?_ (by assumption) (by omega) | refine Kp.transS ?_ (by assumption) (by omega) (fun b hb hT => by first | omega | (dsimp only at hT ⊢; omega) | (simp only at hT ⊢; omega))) , ?_, by omega, ?_⟩⟩
              · rw [List.length_append, rtCells_append]
                exact hs7
              · rw [hstep, ← hll]
                unfold selStep
                rw [hcg]
                refine Eq.trans ?_ (if_neg (by simp [h1, h2, hft])).symm
                unfold selPut
                rw [hlast]
                exact (if_neg hP).symm

    · simp (disch := omega) only [go_sem, ↓reduceIte , hone]
      refine ⟨ts'.length - (k + 1), by omega, k + 1, lv, l, ownl, ⟨rfl, by omega, rfl, by omega, (by repeat first | exact Kp.refl _ _ _ | refine Kp.dropT ?_ (.inl (by omega)) | refine Kp.put ?_ (.inl (by omega)) | refine Kp.new ?_ (by omega) | refine Kp.put ?_ (.inr (by omega)) | refine Kp.newO ?_ (by omega) | refine Kp.setO ?_ (.inl (by omega)) | refine Kp.setO ?_ (.inr (by omega)) | refine Kp.trans0 ?_ (by assumption) (by omega) | refine Kp.transS ?_ (by assumption) (by omega) (fun b hb hT => by first | omega | (dsimp only at hT ⊢; omega) | (simp only at hT ⊢; omega))) , hs.kp (S := fun _ => False) (by repeat first | exact Kp.refl _ _ _ | refine Kp.dropT ?_ (.inl (by omega)) | refine Kp.put ?_ (.inl (by omega)) | refine Kp.new ?_ (by omega) | refine Kp.put ?_ (.inr (by omega)) | refine Kp.newO ?_ (by omega) | refine Kp.setO ?_ (.inl (by omega)) | refine Kp.setO ?_ (.inr (by omega)) | refine Kp.trans0 ?_ (by assumption) (by omega) | refine Kp.transS ?_ (by assumption) (by omega) (fun b hb hT => by first | omega | (dsimp only at hT ⊢; omega) | (simp only at hT ⊢; omega)))  (by omega) (by simp), how, ?_⟩⟩
      rw [hstep, ← hll]
      unfold selStep
      rw [List.getElem?_eq_none (by omega)]
  · obtain rfl : k = ts'.length := by omega
    have hone := hs.one
    simp (disch := omega) only [go_sem, ↓reduceIte , hone]
    rw [List.take_length] at hll
    exact ⟨by omega, (by repeat first | exact Kp.refl _ _ _ | refine Kp.dropT ?_ (.inl (by omega)) | refine Kp.put ?_ (.inl (by omega)) | refine Kp.new ?_ (by omega) | refine Kp.put ?_ (.inr (by omega)) | refine Kp.newO ?_ (by omega) | refine Kp.setO ?_ (.inl (by omega)) | refine Kp.setO ?_ (.inr (by omega)) | refine Kp.trans0 ?_ (by assumption) (by omega) | refine Kp.transS ?_ (by assumption) (by omega) (fun b hb hT => by first | omega | (dsimp only at hT ⊢; omega) | (simp only at hT ⊢; omega))) , ownl, ts', hp, hsd, hll ▸ hs, by omega⟩
end Go.Proofs.YtngnbafididkcaaGreat
