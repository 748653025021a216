/- Routes, in our own logic: DeleteFunc; Tick. Routes, in our own logic: Tick. -/
import Derived.Test.YtngnbafididkcaaGreatR3
section
namespace Go.Proofs.YtngnbafididkcaaGreat
open Go.RowKit
set_option linter.unusedSimpArgs false

structure DfI (nx0 : Nat) (H0 : AH) (pred : Tld → Bool) (ts : List Tld) (s f : Value) (own : Nat) (m : Nat) (env : Env) (H : AH) (nx : Nat) (i j : Nat) (cur : List Tld) : Prop where
  hm : m = ts.length - j
  hij : i < j
  hj : j ≤ ts.length
  henv : env = [(0, s), (1, f), (5, .int .i64 i), (6, .int .i64 j)]
  hx : nx0 ≤ nx
  hk : Kp (fun b => b + 1 = own) nx0 H0 H
  hs : SlA nx H 7 s cur.length (tdCells cur) own
  hl : cur.length = ts.length
  hd : cur.drop j = ts.drop j
  ht : cur.take i = (ts.take j).filter (fun t => !pred t)

theorem take_succ_get {α : Type} {l : List α} {j : Nat} {x : α} (h : l[j]? = some x) : l.take (j + 1) = l.take j ++ [x] := by
  rw [List.take_add_one, h]; rfl

set_option maxRecDepth 20000 in
theorem delF_c {lo : Nat} {H : AH} {nx fv : Nat} {cap : List Value} {pred : Tld → Bool} {s : Value} {ts : List Tld} {own : Nat} (hs : SlA nx H 7 s ts.length (tdCells ts) own) (how : own = 0 ∨ lo < own) (hf : fnOk Tryz.prog fv = true) (hlen : ts.length ≤ 1000000)
    (hp : ∀ t ∈ ts, ∀ (H1 : AH) (nx1 : Nat), nx ≤ nx1 → Kp (fun b => b + 1 = own) nx H H1 → ACalls Tryz.prog lo fv (Value.agg #[.int .u32 t.addr, .int .u8 t.len, .int .i64 t.who, .int .i64 t.node, .int .u16 t.seq, .int .u16 t.metric, .int .u64 t.til] :: cap).toArray H1 nx1 (fun v H' nx' => v = .bool (pred t) ∧ nx1 ≤ nx' ∧ Kp (fun _ => False) nx1 H1 H')) :
    ACalls Tryz.prog lo 104 #[s, .func (.func fv) #[] cap.toArray] H nx (fun v H' nx' => nx ≤ nx' ∧ Kp (fun b => b + 1 = own) nx H H' ∧ SlA nx' H' 7 v (ts.filter fun t => !pred t).length (tdCells (ts.filter fun t => !pred t)) own) := by
  refine ACalls.withLo fun hlo => ?_
  refine acalls_of_awp L104 Tryz.func104 rfl (by kernel_rfl) ?_
  obtain ⟨sa, sc, rfl⟩ := hs.form
  have hmx := hs.maxLen
  simp only [maxLen] at hmx
  simp (disch := omega) only [go_sem, ↓reduceIte ]
  refine (idx_c hs hf (fun t ht H1 nx1 hn hk => hp t ht H1 nx1 hn (hk.mono (Nat.le_refl _) (fun _ _ h => h.elim)))).mono fun v H1 nx1 _ ⟨hv, hx1, hk1⟩ => ?_
  rcases hv with ⟨i, t, hi, hpt, rfl, hfst⟩ | ⟨hnone, rfl⟩
  · have hil : i < ts.length := (List.getElem?_eq_some_iff.1 hi).1
    have hs1 := hs.kp hk1 hx1 (by simp)
    obtain ⟨g, off, cp, hv, hg⟩ := hs.open (by omega)
    cases hv
    have hle := hs.le
    have hcp := hs1.cells.2.2.1
    have hcm := hs1.cells.2.2.2.1
    simp only [maxLen] at hcm
    simp (disch := omega) only [go_sem, ↓reduceIte ]
    have hfl : (ts.take i).filter (fun t => !pred t) = ts.take i := by
      rw [List.filter_eq_self]
      intro x hx
      obtain ⟨j, hj, rfl⟩ := List.getElem_of_mem hx
      rw [List.length_take] at hj
      rw [List.getElem_take, hfst j _ (by omega) (List.getElem?_eq_getElem (by omega))]
      rfl
    have h0 : (ts.take (i + 1)).filter (fun t => !pred t) = ts.take i := by
      rw [take_succ_get hi, List.filter_append, hfl]
      simp [hpt]
    refine awp_loop (fun m env H2 nx2 => ∃ i j cur, DfI nx H pred ts (.slice (some ⟨g, off, none⟩) ts.length sc) (.func (.func fv) #[] cap.toArray) own m env H2 nx2 i j cur) (ts.length - (i + 1)) ⟨i, i + 1, ts, ⟨rfl, by omega, by omega, rfl, hx1, hk1.mono (Nat.le_refl _) (fun _ _ h => h.elim), hs1, rfl, rfl, by rw [h0]⟩⟩ (fun m env H2 nx2 ⟨i, j, cur, hI⟩ hn => ?_)
    obtain ⟨hm, hij, hj, henv, hx2, hk2, hs2, hl, hd, ht⟩ := hI
    subst henv
    rw [hl] at hs2
    by_cases hjl : j < ts.length
    · obtain ⟨x, hx0⟩ : ∃ x, ts[j]? = some x := ⟨_, List.getElem?_eq_getElem hjl⟩
      have hxc : cur[j]? = some x := by
        have : (cur.drop j)[0]? = (ts.drop j)[0]? := by rw [hd]
        simpa [hx0] using this
      have hld := td_load hs2 hxc
      unfold Tld.cells at hld
      simp (disch := omega) only [go_sem, ↓reduceIte , hld]
      intro d hd3
      simp (disch := omega) only [go_sem, ↓reduceIte , hf]
      have hk3 : Kp (fun b => b + 1 = own) nx H ((((((((H2.new d #[.int .u32 0, .int .u8 0, .int .i64 0, .int .i64 0, .int .u16 0, .int .u16 0, .int .u64 0] 142).put d 0 (.int .u32 x.addr)).put d 1 (.int .u8 x.len)).put d (1 + 1) (.int .i64 x.who)).put d (1 + 1 + 1) (.int .i64 x.node)).put d (1 + 1 + 1 + 1) (.int .u16 x.seq)).put d (1 + 1 + 1 + 1 + 1) (.int .u16 x.metric)).put d (1 + 1 + 1 + 1 + 1 + 1) (.int .u64 x.til)) := (by repeat first | exact Kp.refl _ _ _ | refine Kp.dropT ?_ (.inl (by omega)) | refine Kp.put ?_ (.inl (by omega)) | refine Kp.new ?_ (by omega) | refine Kp.put ?_ (.inr (by omega)) | refine Kp.newO ?_ (by omega) | refine Kp.setO ?_ (.inl (by omega)) | refine Kp.setO ?_ (.inr (by omega)) | refine Kp.trans0 ?_ (by assumption) (by omega) | refine Kp.transS ?_ (by assumption) (by omega) (fun b hb hT => by first | omega | (dsimp only at hT ⊢; omega) | (simp only at hT ⊢; omega))) 
      refine (hp x (List.mem_of_getElem? hx0) _ _ (by omega) hk3).mono fun v H4 nx4 _ ⟨hv, hx4, hk4⟩ => ?_
      subst hv
      have hc4 := hk4.cell0
      have hs4 : SlA nx4 H4 7 (.slice (some ⟨g, off, none⟩) cur.length sc) cur.length (tdCells cur) own := by
        rw [hl]
        exact hs2.kp (S := fun _ => False) (nx' := nx4) (H' := H4) (by repeat first | exact Kp.refl _ _ _ | refine Kp.dropT ?_ (.inl (by omega)) | refine Kp.put ?_ (.inl (by omega)) | refine Kp.new ?_ (by omega) | refine Kp.put ?_ (.inr (by omega)) | refine Kp.newO ?_ (by omega) | refine Kp.setO ?_ (.inl (by omega)) | refine Kp.setO ?_ (.inr (by omega)) | refine Kp.trans0 ?_ (by assumption) (by omega) | refine Kp.transS ?_ (by assumption) (by omega) (fun b hb hT => by first | omega | (dsimp only at hT ⊢; omega) | (simp only at hT ⊢; omega)))  (by omega) (by simp)
      have hk5 : Kp (fun b => b + 1 = own) nx H H4 := (by repeat first | exact Kp.refl _ _ _ | refine Kp.dropT ?_ (.inl (by omega)) | refine Kp.put ?_ (.inl (by omega)) | refine Kp.new ?_ (by omega) | refine Kp.put ?_ (.inr (by omega)) | refine Kp.newO ?_ (by omega) | refine Kp.setO ?_ (.inl (by omega)) | refine Kp.setO ?_ (.inr (by omega)) | refine Kp.trans0 ?_ (by assumption) (by omega) | refine Kp.transS ?_ (by assumption) (by omega) (fun b hb hT => by first | omega | (dsimp only at hT ⊢; omega) | (simp only at hT ⊢; omega))) 
      cases hpx : pred x with
      | true =>
        simp (disch := omega) only [go_sem, ↓reduceIte ]
        refine ⟨ts.length - (j + 1), by omega, i, j + 1, cur, ⟨rfl, by omega, by omega, rfl, by omega, hk5, by rw [hl] at hs4 ⊢; exact hs4, hl, ?_, ?_⟩⟩
        · rw [← List.drop_drop, hd, List.drop_drop]
        · rw [ht, take_succ_get hx0, List.filter_append]
          simp [hpx]
      | false =>
        have hcs := hs2.cells.2.2.2.2
        have hcp := hs2.cells.2.2.1
        have e0 : (H2.c g (off + i * 7)).isSome = true := by
          have := hcs (i * 7 + 0) (by omega)
          rwa [show off + (i * 7 + 0) = off + i * 7 by omega] at this
        have e1 : (H2.c g (off + i * 7 + 1)).isSome = true := by
          have := hcs (i * 7 + 1) (by omega)
          rwa [show off + (i * 7 + 1) = off + i * 7 + 1 by omega] at this
        have e2 : (H2.c g (off + i * 7 + 1 + 1)).isSome = true := by
          have := hcs (i * 7 + 2) (by omega)
          rwa [show off + (i * 7 + 2) = off + i * 7 + 1 + 1 by omega] at this
        have e3 : (H2.c g (off + i * 7 + 1 + 1 + 1)).isSome = true := by
          have := hcs (i * 7 + 3) (by omega)
          rwa [show off + (i * 7 + 3) = off + i * 7 + 1 + 1 + 1 by omega] at this
        have e4 : (H2.c g (off + i * 7 + 1 + 1 + 1 + 1)).isSome = true := by
          have := hcs (i * 7 + 4) (by omega)
          rwa [show off + (i * 7 + 4) = off + i * 7 + 1 + 1 + 1 + 1 by omega] at this
        have e5 : (H2.c g (off + i * 7 + 1 + 1 + 1 + 1 + 1)).isSome = true := by
          have := hcs (i * 7 + 5) (by omega)
          rwa [show off + (i * 7 + 5) = off + i * 7 + 1 + 1 + 1 + 1 + 1 by omega] at this
        have e6 : (H2.c g (off + i * 7 + 1 + 1 + 1 + 1 + 1 + 1)).isSome = true := by
          have := hcs (i * 7 + 6) (by omega)
          rwa [show off + (i * 7 + 6) = off + i * 7 + 1 + 1 + 1 + 1 + 1 + 1 by omega] at this
        simp (disch := omega) only [go_sem, ↓reduceIte , hc4, e0, e1, e2, e3, e4, e5, e6]
        refine ⟨ts.length - (j + 1), by omega, i + 1, j + 1, cur.set i x, ⟨rfl, by omega, by omega, rfl, by omega, (by repeat first | exact Kp.refl _ _ _ | refine Kp.dropT ?_ (.inl (by omega)) | refine Kp.put ?_ (.inl (by omega)) | refine Kp.new ?_ (by omega) | refine Kp.put ?_ (.inr (by omega)) | refine Kp.newO ?_ (by omega) | refine Kp.setO ?_ (.inl (by omega)) | refine Kp.setO ?_ (.inr (by omega)) | refine Kp.trans0 ?_ (by assumption) (by omega) | refine Kp.transS ?_ (by assumption) (by omega) (fun b hb hT => by first | omega | (dsimp only at hT ⊢; omega) | (simp only at hT ⊢; omega))) , ?_, ?_, ?_, ?_⟩⟩
        · have h := hs4.setE td_seven (i := i) (by omega) x
          unfold Tld.cells at h
          rw [List.length_set]
          rw [hl] at h ⊢
          exact h
        · rw [List.length_set, hl]
        · rw [List.drop_set_of_lt (by omega), ← List.drop_drop, hd, List.drop_drop]
        · have hg1 : (cur.set i x)[i]? = some x := by rw [List.getElem?_set_self (by omega)]
          rw [take_succ_get hg1, take_succ_get hx0, List.filter_append, ← ht, List.take_set_of_le (Nat.le_refl _)]
          simp [hpx]
    · obtain rfl : j = ts.length := by omega
      have hfin : ts.filter (fun t => !pred t) = cur.take i := by rw [ht, List.take_length]
      have hli : (cur.take i).length = i := by simp; omega
      have hle2 := hs2.le
      simp (disch := omega) only [go_sem, ↓reduceIte , slice_l sl143]
      refine clearQ_one (aw_clear sl143 zero142 (by omega) (by omega) (zeroCells_one (by decide) (by kernel_rfl) _) (fun k hk => ?_) ?_)
      · have := hs2.cells.2.2.2.2 (i * 7 + k) (by simp only [size_zeroCells, cells_agg, List.size_toArray, List.length_cons, List.length_nil] at hk; omega)
        rwa [← Nat.add_assoc] at this
      have hless := hs2.less (i := i) (by omega)
      rw [show tdCells cur = cur.flatMap Tld.cells from rfl, flat_take td_seven] at hless
      have hend := hless.beyond (o := off + i * 7) (vs := (Builtin.zeroCells (Value.agg #[.int .u32 0, .int .u8 0, .int .i64 0, .int .i64 0, .int .u16 0, .int .u16 0, .int .u64 0]).cells (ts.length - i)).toList) (Nat.le_refl _)
      simp (disch := omega) only [go_sem, ↓reduceIte , slice_h sl143]
      rw [hfin, hli]
      exact ⟨by omega, Kp.puts (.inr (by omega)) _ _ _ hk2, hend⟩
  · simp (disch := omega) only [go_sem, ↓reduceIte ]
    have hfl : ts.filter (fun t => !pred t) = ts := by
      rw [List.filter_eq_self]
      intro x hx
      rw [hnone x hx]
      rfl
    rw [hfl]
    exact ⟨hx1, hk1.mono (Nat.le_refl _) (fun _ _ h => h.elim), hs.kp hk1 hx1 (by simp)⟩
end Go.Proofs.YtngnbafididkcaaGreat
end
section
namespace Go.Proofs.YtngnbafididkcaaGreat
open Go.RowKit
set_option linter.unusedSimpArgs false

theorem tickC_c {lo : Nat} {H : AH} {nx tb : Nat} {now : Int} (hb : tb < nx) (c2 : H.c tb 0 = some (.int .u64 now)) (t : Tld) :
    ACalls Tryz.prog lo 106 #[.agg #[.int .u32 t.addr, .int .u8 t.len, .int .i64 t.who, .int .i64 t.node, .int .u16 t.seq, .int .u16 t.metric, .int .u64 t.til], .pointer (some ⟨tb, 0, none⟩)] H nx (fun v H' nx' => v = .bool (decide (t.til ≤ now)) ∧ nx ≤ nx' ∧ Kp (fun _ => False) nx H H') := by
  refine ACalls.withLo fun hlo => ?_
  refine acalls_of_awp L106 Tryz.func106 rfl (by kernel_rfl) ?_
  simp (disch := omega) only [go_sem, ↓reduceIte ]
  intro d hd
  simp (disch := omega) only [go_sem, ↓reduceIte , c2]
  exact ⟨by omega, (by repeat first | exact Kp.refl _ _ _ | refine Kp.dropT ?_ (.inl (by omega)) | refine Kp.put ?_ (.inl (by omega)) | refine Kp.new ?_ (by omega) | refine Kp.put ?_ (.inr (by omega)) | refine Kp.newO ?_ (by omega) | refine Kp.setO ?_ (.inl (by omega)) | refine Kp.setO ?_ (.inr (by omega)) | refine Kp.trans0 ?_ (by assumption) (by omega) | refine Kp.transS ?_ (by assumption) (by omega) (fun b hb hT => by first | omega | (dsimp only at hT ⊢; omega) | (simp only at hT ⊢; omega))) ⟩

def liveT (now : Int) (ts : List Tld) : List Tld := ts.filter fun t => !decide (t.til ≤ now)
theorem rtick_c {lo : Nat} {p : Nat} {ts : List Tld} {own : Nat} {H : AH} {nx : Nat} (hR : RouA lo nx H p ts own) (hl : ts.length ≤ 1000000) (now : Int) :
    ACalls Tryz.prog lo 68 #[.pointer (some ⟨p, 0, none⟩), .int .u64 now] H nx (fun v H' nx' => v = .tuple #[] ∧ nx ≤ nx' ∧ Kp (fun b => b = p ∨ b + 1 = own) nx H H' ∧ RouA lo nx' H' p (liveT now ts) own) := by
  refine ACalls.withLo fun hlo => ?_
  refine acalls_of_awp L68 Tryz.func68 rfl (by kernel_rfl) ?_
  have hlt := hR.lt
  have hge := hR.ge
  have hne := hR.ne
  obtain ⟨v, hq, hs⟩ := hR.q
  have hle := hs.le
  have hone := hs.one
  obtain ⟨sa, sc, rfl⟩ := hs.form
  simp (disch := omega) only [go_sem, ↓reduceIte ]
  intro tb htb
  simp (disch := omega) only [go_sem, ↓reduceIte , hq]
  have hk1 : Kp (fun _ => False) nx H (H.new tb #[.int .u64 now] 27) := (by repeat first | exact Kp.refl _ _ _ | refine Kp.dropT ?_ (.inl (by omega)) | refine Kp.put ?_ (.inl (by omega)) | refine Kp.new ?_ (by omega) | refine Kp.put ?_ (.inr (by omega)) | refine Kp.newO ?_ (by omega) | refine Kp.setO ?_ (.inl (by omega)) | refine Kp.setO ?_ (.inr (by omega)) | refine Kp.trans0 ?_ (by assumption) (by omega) | refine Kp.transS ?_ (by assumption) (by omega) (fun b hb hT => by first | omega | (dsimp only at hT ⊢; omega) | (simp only at hT ⊢; omega))) 
  refine (delF_c (fv := 106) (cap := [.pointer (some ⟨tb, 0, none⟩)]) (pred := fun t => decide (t.til ≤ now)) (hs.kp hk1 (nx' := tb + 1) (by omega) (by simp)) hR.ow (by kernel_rfl) hl (fun t _ H1 nx1 hn hk2 => ?_)).mono fun v H2 nx2 _ ⟨hx2, hk2, hs2⟩ => ?_
  · have hc := hk2.cell
    exact tickC_c (by omega) (by simp (disch := omega) only [go_sem, ↓reduceIte , hc]) t
  · have hone2 := hs2.one
    have hc := hk2.cell
    simp (disch := omega) only [go_sem, ↓reduceIte , hone2, hc, hq]
    refine ⟨by omega, (by repeat first | exact Kp.refl _ _ _ | refine Kp.dropT ?_ (.inl (by omega)) | refine Kp.put ?_ (.inl (by omega)) | refine Kp.new ?_ (by omega) | refine Kp.put ?_ (.inr (by omega)) | refine Kp.newO ?_ (by omega) | refine Kp.setO ?_ (.inl (by omega)) | refine Kp.setO ?_ (.inr (by omega)) | refine Kp.trans0 ?_ (by assumption) (by omega) | refine Kp.transS ?_ (by assumption) (by omega) (fun b hb hT => by first | omega | (dsimp only at hT ⊢; omega) | (simp only at hT ⊢; omega))) , ⟨by omega, by omega, ⟨v, by simp (disch := omega) only [go_sem, ↓reduceIte ], ?_⟩, hR.ow, hR.ne⟩⟩
    exact hs2.put (by omega)
end Go.Proofs.YtngnbafididkcaaGreat
end
