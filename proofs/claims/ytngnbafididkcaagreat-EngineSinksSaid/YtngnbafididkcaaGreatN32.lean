/- Engine: chosen again, the same is; in plain words. -/
import Derived.Test.YtngnbafididkcaaGreatN28
namespace Go.Proofs.YtngnbafididkcaaGreat
open Go.RowKit
set_option linter.unusedSimpArgs false

theorem LowL.unsnoc {es' : List Ent} {r : Rt} : ∀ {es : List Ent} {rs : List Rt}, LowL es (rs ++ [r]) es' → ∃ mid, LowL es rs mid ∧ LowR mid r.addr r.len r.seq r.metric es'
  | es, [], ⟨e1, h1, h⟩ => ⟨es, rfl, by rw [show es' = e1 from h]; exact h1⟩
  | es, x :: rs, ⟨e1, h1, h⟩ => by
    obtain ⟨mid, g1, g2⟩ := LowL.unsnoc (rs := rs) h
    exact ⟨mid, ⟨e1, h1, g1⟩, g2⟩
theorem near_of_low {es0 es : List Ent} {costs : List Int} {l : List Tld} {L : List Rt} (hS : SortE es0) (hL : L.Pairwise lessR) (h0 : ∀ e ∈ es0, EntOk e) (hc : ∀ c ∈ costs, 1 ≤ c) (hs : ∀ x ∈ L, 0 ≤ x.seq ∧ x.seq ≤ 1000) (h : LowL es0 L es) : NearI es0 costs l L L.length es := by
  have key : ∀ i, i ≤ L.length → ∀ es, LowL es0 (L.take i) es → NearI es0 costs l L i es := by
    intro i
    induction i with
    | zero =>
      intro _ es h
      rw [List.take_zero] at h
      rw [show es = es0 from h]
      exact ⟨hS, h0, Nat.le_refl _, fun e he => .inl he, fun o ho => ⟨o, ho, ⟨rfl, rfl⟩, .inl rfl⟩, fun j x hj => by omega⟩
    | succ i ih =>
      intro hi es h
      rw [List.take_succ_eq_append_getElem (by omega)] at h
      obtain ⟨mid, g1, g2⟩ := h.unsnoc
      exact (ih (by omega) mid g1).next hL h0 hc (List.getElem?_eq_getElem (by omega)) (hs _ (List.getElem_mem _)) g2
  exact key L.length (Nat.le_refl _) es (by rw [List.take_length]; exact h)
/-- A mark that is no farther stays. -/
theorem low_same {es es' : List Ent} {a n s m : Int} {x : Ent} (h : LowR es a n s m es') (hs : SortE es) (hw : wantE es a n = some x) (hn : nearI s m x.seq x.metric = false) : es' = es := by
  have hx := (want_iff hs).1 hw
  rcases h with ⟨i, z, hz, h1, h2, rfl⟩ | ⟨hno, _⟩
  · have hzx : z = x := hs.uniq (List.mem_of_getElem? hz) hx.1 (a := a) (n := n) ⟨h1, h2⟩ ⟨hx.2.1, hx.2.2⟩
    subst hzx
    rw [hn]
    obtain ⟨hi, rfl⟩ := List.getElem?_eq_some_iff.1 hz
    simp
  · exact absurd ⟨hx.2.1, hx.2.2⟩ (hno x hx.1)
theorem sort_strict {l : List Rt} (hd : l.Pairwise (fun x y => ¬ sameP x y)) (hs : l.Pairwise (fun x y => ¬ ltR y x)) : l.Pairwise lessR := by
  refine (List.Pairwise.and hd hs).imp fun {a b} h => ?_
  obtain ⟨h1, h2⟩ := h
  unfold sameP at h1
  unfold ltR at h2
  unfold lessR ltP
  omega
theorem perm_diff {l m : List Rt} (h : l.Perm m) (hd : m.Pairwise (fun x y => ¬ sameP x y)) : l.Pairwise (fun x y => ¬ sameP x y) :=
  (h.symm.pairwise_iff (fun {a b} hab hba => hab (by unfold sameP at *; omega))).1 hd
/-- What is known of one that has told of many. -/
structure ToldOk (e : Eng) : Prop where
  uq : UqT e.ts
  sq : ∀ t ∈ e.ts, 0 ≤ t.seq ∧ t.seq ≤ 1000
  no : ∀ t ∈ e.ts, ¬ (t.addr = 201326592 ∧ t.len = 24)
  cs : ∀ c ∈ costsE e, 1 ≤ c
section
variable {e e' : Eng} {L : List Rt} {ks : List (Int × Int)} {es1 es2 : List Ent} {ts' tb : List Tld} {d : Bool} {lo : List (Int × Int)}
theorem many_R (hse : SelE e e' L ks es1 es2 ts' tb d lo) (h : ToldOk e) : ∀ x ∈ selR (costsE e) (feasE es1) ts', (0 ≤ x.seq ∧ x.seq ≤ 1000) ∧ ¬ (x.addr = 201326592 ∧ x.len = 24) := fun x hx => by
  obtain ⟨t, ht, hch⟩ := selR_mem hx
  have hte := hse.tp.mem_iff.1 ht
  have h1 := h.sq t hte
  have h2 := h.no t hte
  have := hch.a
  have := hch.l
  have := hch.s
  exact ⟨by omega, by omega⟩
theorem many_strict (hse : SelE e e' L ks es1 es2 ts' tb d lo) (h : ToldOk e) : ts'.Pairwise aheadT := sorted_strict (h.uq.perm hse.tp.symm) hse.tso
theorem many_diff (hse : SelE e e' L ks es1 es2 ts' tb d lo) (h : ToldOk e) (ho : e.own = [(ownPx, 1)]) (hi : e.id = 0) : L.Pairwise lessR ∧ L.Perm (ownR :: selR (costsE e) (feasE es1) ts') := by
  have hL := hse.Lp
  rw [hse.own1 ho hi] at hL
  have hR := sel_S (costs := costsE e) (feas := feasE es1) (many_strict hse h)
  refine ⟨sort_strict (perm_diff hL ?_) hse.Lso, hL⟩
  show (ownR :: selR (costsE e) (feasE es1) ts').Pairwise _
  rw [List.pairwise_cons]
  refine ⟨fun x hx hc => ?_, hR.srt.imp fun {a b} hab hc => ?_⟩
  · have := (many_R hse h x hx).2
    unfold sameP ownR ownRq at hc
    simp only at hc
    omega
  · unfold lessR ltP at hab
    unfold sameP at hc
    omega
variable {f f' : Eng} {L2 : List Rt} {ks2 : List (Int × Int)} {fs1 fs2 : List Ent} {us' ub : List Tld} {d2 : Bool} {lo2 : List (Int × Int)}
/-- Chosen again the same is. -/
theorem sel_again (hse : SelE e e' L ks es1 es2 ts' tb d lo) (h : ToldOk e) (ho : e.own = [(ownPx, 1)]) (hi : e.id = 0) (hes : SortE e.es) (hok : ∀ x ∈ es1, EntOk x) (hmk : wantE es1 201326592 24 = some ⟨201326592, 24, 1, 0⟩)
    (hse2 : SelE f f' L2 ks2 fs1 fs2 us' ub d2 lo2) (h1 : f.own = e.own) (h2 : f.id = e.id) (h3 : f.lk = e.lk) (h4 : f.ts = e.ts) (h5 : f.es = es2) : L2 = L := by
  have hown := hse.own1 ho hi
  have hown2 := hse2.own1 (by rw [h1]; exact ho) (by rw [h2]; exact hi)
  have hl1 := hse.l1
  have hl2 := hse.l2
  have hs1 := hl1.sorted hes
  have hs2 := hl2.sorted hs1
  have hR := many_R hse h
  have hcs : costsE f = costsE e := by
    unfold costsE
    exact List.map_congr_left fun n _ => costN_lk h3 _
  have hT : ToldOk f := ⟨by rw [h4]; exact h.uq, by rw [h4]; exact h.sq, by rw [h4]; exact h.no, by rw [hcs]; exact h.cs⟩
  have hus : us' = ts' := told_sorted_eq _ _ (many_strict hse2 hT) (many_strict hse h) (fun x => by rw [hse2.tp.mem_iff, h4, hse.tp.mem_iff])
  have hw2 : wantE es2 201326592 24 = some ⟨201326592, 24, 1, 0⟩ := by
    rw [hl2.other hs1 (fun r hr => (hR r hr).2)]
    exact hmk
  have hfs : fs1 = es2 := by
    have hl := hse2.l1
    rw [hown2, h5] at hl
    obtain ⟨e1, g1, g2⟩ := hl
    rw [show fs1 = e1 from g2]
    exact low_same g1 hs2 hw2 (by decide)
  have hN := near_of_low (l := ts') hs1 (sel_S (many_strict hse h)).srt hok h.cs (fun x hx => (hR x hx).1) hl2
  have hag := hN.again (many_strict hse h) hok (fun t ht => h.sq t (hse.tp.mem_iff.1 ht))
  have d1 := many_diff hse h ho hi
  have dd2 := many_diff hse2 hT (by rw [h1]; exact ho) (by rw [h2]; exact hi)
  rw [hcs, hfs, hus, hag] at dd2
  exact sorted_eq _ _ dd2.1 d1.1 (fun x => by rw [dd2.2.mem_iff, d1.2.mem_iff])
end
end Go.Proofs.YtngnbafididkcaaGreat
