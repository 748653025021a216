/- Engine: what Select does where two neighbors have told of one prefix, in plain words. -/
import Derived.Test.YtngnbafididkcaaGreatN25
import Derived.Test.YtngnbafididkcaaGreatN21
namespace Go.Proofs.YtngnbafididkcaaGreat
open Go.RowKit
set_option linter.unusedSimpArgs false

def feasM (o : Option Ent) (t : Tld) : Bool := decide (t.metric = 65535) || match o with | none => true | some x => nearI t.seq t.metric x.seq x.metric
theorem feasE_M {es : List Ent} (hs : SortE es) (t : Tld) : feasE es t = feasM (wantE es t.addr t.len) t := by
  unfold feasE
  cases hf : feasM (wantE es t.addr t.len) t with
  | true =>
    rw [feasR_iff]
    unfold feasM at hf
    rw [Bool.or_eq_true, decide_eq_true_eq] at hf
    rcases hf with hf | hf
    · exact .inl hf
    · refine .inr fun x hx hp => ?_
      rw [(want_iff hs).2 ⟨hx, hp.1, hp.2⟩] at hf
      exact hf
  | false =>
    unfold feasM at hf
    rw [Bool.or_eq_false_iff, decide_eq_false_iff_not] at hf
    obtain ⟨h1, h2⟩ := hf
    cases hw : wantE es t.addr t.len with
    | none => rw [hw] at h2; cases h2
    | some x =>
      rw [hw] at h2
      have hx := (want_iff hs).1 hw
      rw [Bool.eq_false_iff, Ne, feasR_iff]
      rintro (h | h)
      · exact h1 h
      · have h3 := h x hx.1 hx.2
        simp only at h2
        rw [h3] at h2
        cases h2
/-- What is told of a prefix, by 1, by 2. -/
structure TwoT (ts : List Tld) (pa pn : Int) (x1 x2 : Option Tld) : Prop where
  pm : ts.Perm (x1.toList ++ x2.toList)
  h1 : ∀ t, x1 = some t → t.addr = pa ∧ t.len = pn ∧ t.who = 1
  h2 : ∀ t, x2 = some t → t.addr = pa ∧ t.len = pn ∧ t.who = 2
def pick2 : Option Rt → Option Rt → Option Rt
  | none, o => o
  | some r, none => some r
  | some r1, some r2 => if r2.metric < r1.metric then some r2 else some r1
theorem TwoT.strict {ts : List Tld} {pa pn : Int} {x1 x2 : Option Tld} (h : TwoT ts pa pn x1 x2) : (x1.toList ++ x2.toList).Pairwise aheadT := by
  cases x1 with
  | none => cases x2 <;> simp
  | some t1 =>
    cases x2 with
    | none => simp
    | some t2 =>
      have h1 := h.h1 t1 rfl
      have h2 := h.h2 t2 rfl
      simp [aheadT]
      omega
theorem ahead_uq {l : List Tld} (h : l.Pairwise aheadT) : UqT l := by
  unfold UqT
  refine h.imp fun {a b} hab => ?_
  rw [Bool.eq_false_iff, Ne, hitT_iff]
  unfold aheadT at hab
  omega
theorem TwoT.sorted {ts ts' : List Tld} {pa pn : Int} {x1 x2 : Option Tld} (h : TwoT ts pa pn x1 x2) (hp : ts'.Perm ts) (hs : ts'.Pairwise (fun x y => ¬ aheadT y x)) : ts' = x1.toList ++ x2.toList := by
  have hpp := hp.trans h.pm
  exact told_sorted_eq _ _ (sorted_strict ((ahead_uq h.strict).perm hpp.symm) hs) h.strict (fun x => hpp.mem_iff)
theorem rtOf_px {costs : List Int} {feas : Tld → Bool} {t : Tld} {x : Rt} (h : rtOf costs feas t = some x) : x.addr = t.addr ∧ x.len = t.len ∧ x.seq = t.seq := ⟨(rtOf_cho h).a, (rtOf_cho h).l, (rtOf_cho h).s⟩
theorem selR_two {ts : List Tld} {pa pn : Int} {x1 x2 : Option Tld} (h : TwoT ts pa pn x1 x2) (costs : List Int) (feas : Tld → Bool) : selR costs feas (x1.toList ++ x2.toList) = (pick2 (x1.bind (rtOf costs feas)) (x2.bind (rtOf costs feas))).toList := by
  unfold selR
  rw [selR_fold]
  cases x1 with
  | none =>
    cases x2 with
    | none => rfl
    | some t2 =>
      simp only [Option.toList_none, Option.toList_some, List.nil_append, List.filterMap_cons, List.filterMap_nil, Option.bind_none, Option.bind_some, pick2]
      cases rtOf costs feas t2 <;> rfl
  | some t1 =>
    cases x2 with
    | none =>
      simp only [Option.toList_none, Option.toList_some, List.append_nil, List.filterMap_cons, List.filterMap_nil, Option.bind_none, Option.bind_some]
      cases rtOf costs feas t1 <;> rfl
    | some t2 =>
      have h1 := h.h1 t1 rfl
      have h2 := h.h2 t2 rfl
      simp only [Option.toList_some, List.cons_append, List.nil_append, List.filterMap_cons, List.filterMap_nil, Option.bind_some]
      cases g1 : rtOf costs feas t1 with
      | none => cases rtOf costs feas t2 <;> rfl
      | some r1 =>
        cases g2 : rtOf costs feas t2 with
        | none => rfl
        | some r2 =>
          have e1 := rtOf_px g1
          have e2 := rtOf_px g2
          show selPut (selPut [] r1) r2 = (pick2 (some r1) (some r2)).toList
          have : selPut [] r1 = [r1] := rfl
          rw [this]
          unfold selPut pick2
          rw [show [r1].getLast? = some r1 from rfl]
          simp only
          rw [if_pos ⟨by omega, by omega⟩]
          split <;> rfl
section
variable {e e' : Eng} {L : List Rt} {ks : List (Int × Int)} {es1 es2 : List Ent} {ts' tb : List Tld} {d : Bool} {lo : List (Int × Int)} {pa pn : Int} {x1 x2 : Option Tld}
def ownR : Rt := ⟨201326592, 24, 0, 0, 1⟩
/-- The way that Select takes. -/
def wayE (e : Eng) (pa pn : Int) (x1 x2 : Option Tld) : Option Rt := pick2 (x1.bind (rtOf (costsE e) (feasM (wantE e.es pa pn)))) (x2.bind (rtOf (costsE e) (feasM (wantE e.es pa pn))))
def markE (o : Option Ent) (pa pn : Int) : Option Rt → Option Ent
  | none => o
  | some r => some (lowE o pa pn r.seq r.metric)
theorem pick2_px {o1 o2 : Option Rt} {pa pn : Int} (h1 : ∀ r, o1 = some r → r.addr = pa ∧ r.len = pn) (h2 : ∀ r, o2 = some r → r.addr = pa ∧ r.len = pn) : ∀ r, pick2 o1 o2 = some r → r.addr = pa ∧ r.len = pn := by
  intro r hr
  cases o1 with
  | none => exact h2 r hr
  | some r1 =>
    cases o2 with
    | none => exact h1 r hr
    | some r2 =>
      simp only [pick2] at hr
      split at hr
      · exact h2 r hr
      · exact h1 r hr
theorem two_sel (hse : SelE e e' L ks es1 es2 ts' tb d lo) (ho : e.own = [(ownPx, 1)]) (hi : e.id = 0) (h2 : TwoT e.ts pa pn x1 x2) (hne : ¬ (pa = 201326592 ∧ pn = 24)) (hs : SortE e.es) :
    L.Perm (ownR :: (wayE e pa pn x1 x2).toList) ∧ routeE e' pa pn = wayE e pa pn x1 x2 ∧ wantE es2 pa pn = markE (wantE e.es pa pn) pa pn (wayE e pa pn x1 x2) ∧ SortE es2 := by
  have hts := h2.sorted hse.tp hse.tso
  have hown := hse.own1 ho hi
  have hl1 := hse.l1
  have hl2 := hse.l2
  have hL := hse.Lp
  rw [hown] at hl1 hL
  have hs1 := hl1.sorted hs
  have hw1 : wantE es1 pa pn = wantE e.es pa pn := hl1.other hs (fun r hr => by
    rw [List.mem_singleton] at hr
    subst hr
    show ¬ ((201326592 : Int) = pa ∧ (24 : Int) = pn)
    omega)
  have hfe : ∀ t, t.addr = pa → t.len = pn → feasE es1 t = feasM (wantE e.es pa pn) t := fun t ha hl => by
    rw [feasE_M hs1, ha, hl, hw1]
  have hb1 : x1.bind (rtOf (costsE e) (feasE es1)) = x1.bind (rtOf (costsE e) (feasM (wantE e.es pa pn))) := by
    cases x1 with
    | none => rfl
    | some t =>
      have := h2.h1 t rfl
      simp only [Option.bind_some, rtOf, hfe t this.1 this.2.1]
  have hb2 : x2.bind (rtOf (costsE e) (feasE es1)) = x2.bind (rtOf (costsE e) (feasM (wantE e.es pa pn))) := by
    cases x2 with
    | none => rfl
    | some t =>
      have := h2.h2 t rfl
      simp only [Option.bind_some, rtOf, hfe t this.1 this.2.1]
  have hR : selR (costsE e) (feasE es1) ts' = (wayE e pa pn x1 x2).toList := by
    rw [hts, selR_two h2, hb1, hb2]
    rfl
  rw [hR] at hl2 hL
  have hpx : ∀ r, wayE e pa pn x1 x2 = some r → r.addr = pa ∧ r.len = pn := by
    refine pick2_px (fun r hr => ?_) (fun r hr => ?_)
    · cases x1 with
      | none => cases hr
      | some t =>
        have := h2.h1 t rfl
        have := rtOf_px hr
        omega
    · cases x2 with
      | none => cases hr
      | some t =>
        have := h2.h2 t rfl
        have := rtOf_px hr
        omega
  generalize wayE e pa pn x1 x2 = W at hl2 hL hpx
  refine ⟨hL, ?_, ?_, hl2.sorted hs1⟩
  · have hsel : e'.sel = L := by rw [hse.eq]
    have hno : samePx ownR pa pn = false := by
      simp only [samePx, ownR, Bool.and_eq_false_iff, decide_eq_false_iff_not]
      by_cases h1 : (201326592 : Int) = pa
      · exact .inr (decide_eq_false fun h => hne ⟨h1.symm, h.symm⟩)
      · exact .inl (decide_eq_false h1)
    unfold routeE
    rw [hsel, find_perm (m := ownR :: W.toList) hL (fun x hx y hy qx qy => by
      rcases List.mem_cons.1 hx with rfl | hx
      · rw [hno] at qx; cases qx
      · rcases List.mem_cons.1 hy with rfl | hy
        · rw [hno] at qy; cases qy
        · rw [Option.mem_toList] at hx hy
          rw [hx] at hy
          exact Option.some.inj hy)]
    rw [List.find?_cons_of_neg (by rw [hno]; simp)]
    cases W with
    | none => rfl
    | some r =>
      have := hpx r rfl
      show List.find? _ [r] = _
      rw [List.find?_cons_of_pos (by simp [samePx, this.1, this.2])]
  · cases W with
    | none =>
      rw [show es2 = es1 from hl2]
      exact hw1
    | some r =>
      obtain ⟨e1, g1, g2⟩ := (hl2 : LowL es1 [r] es2)
      rw [show es2 = e1 from g2]
      have := hpx r rfl
      rw [g1.want hs1, if_pos ⟨this.1.symm, this.2.symm⟩, this.1, this.2, hw1]
      rfl
end
end Go.Proofs.YtngnbafididkcaaGreat
