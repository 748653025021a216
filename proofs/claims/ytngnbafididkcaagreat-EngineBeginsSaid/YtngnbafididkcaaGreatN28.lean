/- Engine: what Select does where two neighbors have told of one prefix, in plain words. Engine's laws: what is told, in plain words; priced; an update is heard. Engine's laws: one prefix, told by two: step by step, in plain words. -/
import Derived.Test.YtngnbafididkcaaGreatN25
import Derived.Test.YtngnbafididkcaaGreatN21
section
namespace Go.Proofs.YtngnbafididkcaaGreat
open Go.RowKit
set_option linter.unusedSimpArgs false

def feasM (o : Option Ent) (t : Tld) : Bool := decide (t.metric = 65535) || match o with | none => true | some x => nearI t.seq t.metric x.seq x.metric
theorem feasE_M {es : List Ent} (hs : SortE es) (t : Tld) : feasE es t = feasM (wantE es t.addr t.len) t := by
  unfold feasE
  cases hf : feasM (wantE es t.addr t.len) t with
  | true =>
    rw [feasR_iff]
    unfold feasM at hf
    rw [Bool.or_eq_true, decide_eq_true_eq] at hf
    rcases hf with hf | hf
    · exact .inl hf
    · refine .inr fun x hx hp => ?_
      rw [(want_iff hs).2 ⟨hx, hp.1, hp.2⟩] at hf
      exact hf
  | false =>
    unfold feasM at hf
    rw [Bool.or_eq_false_iff, decide_eq_false_iff_not] at hf
    obtain ⟨h1, h2⟩ := hf
    cases hw : wantE es t.addr t.len with
    | none => rw [hw] at h2; cases h2
    | some x =>
      rw [hw] at h2
      have hx := (want_iff hs).1 hw
      rw [Bool.eq_false_iff, Ne, feasR_iff]
      rintro (h | h)
      · exact h1 h
      · have h3 := h x hx.1 hx.2
        simp only at h2
        rw [h3] at h2
        cases h2
/-- What is told of a prefix, by 1, by 2. -/
structure TwoT (ts : List Tld) (pa pn : Int) (x1 x2 : Option Tld) : Prop where
  pm : ts.Perm (x1.toList ++ x2.toList)
  h1 : ∀ t, x1 = some t → t.addr = pa ∧ t.len = pn ∧ t.who = 1
  h2 : ∀ t, x2 = some t → t.addr = pa ∧ t.len = pn ∧ t.who = 2
def pick2 : Option Rt → Option Rt → Option Rt
  | none, o => o
  | some r, none => some r
  | some r1, some r2 => if r2.metric < r1.metric then some r2 else some r1
theorem TwoT.strict {ts : List Tld} {pa pn : Int} {x1 x2 : Option Tld} (h : TwoT ts pa pn x1 x2) : (x1.toList ++ x2.toList).Pairwise aheadT := by
  cases x1 with
  | none => cases x2 <;> simp
  | some t1 =>
    cases x2 with
    | none => simp
    | some t2 =>
      have h1 := h.h1 t1 rfl
      have h2 := h.h2 t2 rfl
      simp [aheadT]
      omega
theorem ahead_uq {l : List Tld} (h : l.Pairwise aheadT) : UqT l := by
  unfold UqT
  refine h.imp fun {a b} hab => ?_
  rw [Bool.eq_false_iff, Ne, hitT_iff]
  unfold aheadT at hab
  omega
theorem TwoT.sorted {ts ts' : List Tld} {pa pn : Int} {x1 x2 : Option Tld} (h : TwoT ts pa pn x1 x2) (hp : ts'.Perm ts) (hs : ts'.Pairwise (fun x y => ¬ aheadT y x)) : ts' = x1.toList ++ x2.toList := by
  have hpp := hp.trans h.pm
  exact told_sorted_eq _ _ (sorted_strict ((ahead_uq h.strict).perm hpp.symm) hs) h.strict (fun x => hpp.mem_iff)
theorem rtOf_px {costs : List Int} {feas : Tld → Bool} {t : Tld} {x : Rt} (h : rtOf costs feas t = some x) : x.addr = t.addr ∧ x.len = t.len ∧ x.seq = t.seq := ⟨(rtOf_cho h).a, (rtOf_cho h).l, (rtOf_cho h).s⟩
theorem selR_two {ts : List Tld} {pa pn : Int} {x1 x2 : Option Tld} (h : TwoT ts pa pn x1 x2) (costs : List Int) (feas : Tld → Bool) : selR costs feas (x1.toList ++ x2.toList) = (pick2 (x1.bind (rtOf costs feas)) (x2.bind (rtOf costs feas))).toList := by
  unfold selR
  rw [selR_fold]
  cases x1 with
  | none =>
    cases x2 with
    | none => rfl
    | some t2 =>
      simp only [Option.toList_none, Option.toList_some, List.nil_append, List.filterMap_cons, List.filterMap_nil, Option.bind_none, Option.bind_some, pick2]
      cases rtOf costs feas t2 <;> rfl
  | some t1 =>
    cases x2 with
    | none =>
      simp only [Option.toList_none, Option.toList_some, List.append_nil, List.filterMap_cons, List.filterMap_nil, Option.bind_none, Option.bind_some]
      cases rtOf costs feas t1 <;> rfl
    | some t2 =>
      have h1 := h.h1 t1 rfl
      have h2 := h.h2 t2 rfl
      simp only [Option.toList_some, List.cons_append, List.nil_append, List.filterMap_cons, List.filterMap_nil, Option.bind_some]
      cases g1 : rtOf costs feas t1 with
      | none => cases rtOf costs feas t2 <;> rfl
      | some r1 =>
        cases g2 : rtOf costs feas t2 with
        | none => rfl
        | some r2 =>
          have e1 := rtOf_px g1
          have e2 := rtOf_px g2
          show selPut (selPut [] r1) r2 = (pick2 (some r1) (some r2)).toList
          have : selPut [] r1 = [r1] := rfl
          rw [this]
          unfold selPut pick2
          rw [show [r1].getLast? = some r1 from rfl]
          simp only
          rw [if_pos ⟨by omega, by omega⟩]
          split <;> rfl
section
variable {e e' : Eng} {L : List Rt} {ks : List (Int × Int)} {es1 es2 : List Ent} {ts' tb : List Tld} {d : Bool} {lo : List (Int × Int)} {pa pn : Int} {x1 x2 : Option Tld}
def ownRq (q : Int) : Rt := ⟨201326592, 24, 0, 0, q⟩
/-- The way that Select takes. -/
def wayE (e : Eng) (pa pn : Int) (x1 x2 : Option Tld) : Option Rt := pick2 (x1.bind (rtOf (costsE e) (feasM (wantE e.es pa pn)))) (x2.bind (rtOf (costsE e) (feasM (wantE e.es pa pn))))
def markE (o : Option Ent) (pa pn : Int) : Option Rt → Option Ent
  | none => o
  | some r => some (lowE o pa pn r.seq r.metric)
theorem pick2_px {o1 o2 : Option Rt} {pa pn : Int} (h1 : ∀ r, o1 = some r → r.addr = pa ∧ r.len = pn) (h2 : ∀ r, o2 = some r → r.addr = pa ∧ r.len = pn) : ∀ r, pick2 o1 o2 = some r → r.addr = pa ∧ r.len = pn := by
  intro r hr
  cases o1 with
  | none => exact h2 r hr
  | some r1 =>
    cases o2 with
    | none => exact h1 r hr
    | some r2 =>
      simp only [pick2] at hr
      split at hr
      · exact h2 r hr
      · exact h1 r hr
theorem two_sel {q : Int} (hse : SelE e e' L ks es1 es2 ts' tb d lo) (ho : e.own = [(ownPx, q)]) (hi : e.id = 0) (h2 : TwoT e.ts pa pn x1 x2) (hne : ¬ (pa = 201326592 ∧ pn = 24)) (hs : SortE e.es) :
    L.Perm (ownRq q :: (wayE e pa pn x1 x2).toList) ∧ routeE e' pa pn = wayE e pa pn x1 x2 ∧ wantE es2 pa pn = markE (wantE e.es pa pn) pa pn (wayE e pa pn x1 x2) ∧ SortE es2 := by
  have hts := h2.sorted hse.tp hse.tso
  have hown := hse.own1 ho hi
  have hl1 := hse.l1
  have hl2 := hse.l2
  have hL := hse.Lp
  rw [hown] at hl1 hL
  have hs1 := hl1.sorted hs
  have hw1 : wantE es1 pa pn = wantE e.es pa pn := hl1.other hs (fun r hr => by
    rw [List.mem_singleton] at hr
    subst hr
    show ¬ ((201326592 : Int) = pa ∧ (24 : Int) = pn)
    omega)
  have hfe : ∀ t, t.addr = pa → t.len = pn → feasE es1 t = feasM (wantE e.es pa pn) t := fun t ha hl => by
    rw [feasE_M hs1, ha, hl, hw1]
  have hb1 : x1.bind (rtOf (costsE e) (feasE es1)) = x1.bind (rtOf (costsE e) (feasM (wantE e.es pa pn))) := by
    cases x1 with
    | none => rfl
    | some t =>
      have := h2.h1 t rfl
      simp only [Option.bind_some, rtOf, hfe t this.1 this.2.1]
  have hb2 : x2.bind (rtOf (costsE e) (feasE es1)) = x2.bind (rtOf (costsE e) (feasM (wantE e.es pa pn))) := by
    cases x2 with
    | none => rfl
    | some t =>
      have := h2.h2 t rfl
      simp only [Option.bind_some, rtOf, hfe t this.1 this.2.1]
  have hR : selR (costsE e) (feasE es1) ts' = (wayE e pa pn x1 x2).toList := by
    rw [hts, selR_two h2, hb1, hb2]
    rfl
  rw [hR] at hl2 hL
  have hpx : ∀ r, wayE e pa pn x1 x2 = some r → r.addr = pa ∧ r.len = pn := by
    refine pick2_px (fun r hr => ?_) (fun r hr => ?_)
    · cases x1 with
      | none => cases hr
      | some t =>
        have := h2.h1 t rfl
        have := rtOf_px hr
        omega
    · cases x2 with
      | none => cases hr
      | some t =>
        have := h2.h2 t rfl
        have := rtOf_px hr
        omega
  generalize wayE e pa pn x1 x2 = W at hl2 hL hpx
  refine ⟨hL, ?_, ?_, hl2.sorted hs1⟩
  · have hsel : e'.sel = L := by rw [hse.eq]
    have hno : samePx (ownRq q) pa pn = false := by
      simp only [samePx, ownRq, Bool.and_eq_false_iff, decide_eq_false_iff_not]
      by_cases h1 : (201326592 : Int) = pa
      · exact .inr (decide_eq_false fun h => hne ⟨h1.symm, h.symm⟩)
      · exact .inl (decide_eq_false h1)
    unfold routeE
    rw [hsel, find_perm (m := ownRq q :: W.toList) hL (fun x hx y hy qx qy => by
      rcases List.mem_cons.1 hx with rfl | hx
      · rw [hno] at qx; cases qx
      · rcases List.mem_cons.1 hy with rfl | hy
        · rw [hno] at qy; cases qy
        · rw [Option.mem_toList] at hx hy
          rw [hx] at hy
          exact Option.some.inj hy)]
    rw [List.find?_cons_of_neg (by rw [hno]; simp)]
    cases W with
    | none => rfl
    | some r =>
      have := hpx r rfl
      show List.find? _ [r] = _
      rw [List.find?_cons_of_pos (by simp [samePx, this.1, this.2])]
  · cases W with
    | none =>
      rw [show es2 = es1 from hl2]
      exact hw1
    | some r =>
      obtain ⟨e1, g1, g2⟩ := (hl2 : LowL es1 [r] es2)
      rw [show es2 = e1 from g2]
      have := hpx r rfl
      rw [g1.want hs1, if_pos ⟨this.1.symm, this.2.symm⟩, this.1, this.2, hw1]
      rfl
end
end Go.Proofs.YtngnbafididkcaaGreat
end
section
namespace Go.Proofs.YtngnbafididkcaaGreat
open Go.RowKit
set_option linter.unusedSimpArgs false

theorem pfx_own (a : Int) (h0 : 0 ≤ a) (h1 : a ≤ 255) : ¬ (pfxA a = 201326592 ∧ pfxN a = 24) := by
  have : ∀ a : Nat, a < 256 → ¬ (pfxA a = 201326592 ∧ pfxN a = 24) := by decide +kernel
  have h := this a.toNat (by omega)
  rwa [Int.toNat_of_nonneg h0] at h
end Go.Proofs.YtngnbafididkcaaGreat
end
section
namespace Go.Proofs.YtngnbafididkcaaGreat
open Go.RowKit
set_option linter.unusedSimpArgs false

theorem opt_len {o : Option Tld} : o.toList.length ≤ 1 := by cases o <;> simp
theorem TwoT.len {ts : List Tld} {pa pn : Int} {x1 x2 : Option Tld} (h : TwoT ts pa pn x1 x2) : ts.length ≤ 2 := by
  rw [h.pm.length_eq, List.length_append]
  have := opt_len (o := x1)
  have := opt_len (o := x2)
  omega
/-- An engine of which one prefix is told. n: how often Select was. -/
structure OneQ (q : Int) (a b : Int) (e : Eng) (p : Int) (x1 x2 : Option Tld) (mk : Option Ent) (n : Nat) : Prop where
  id : e.id = 0
  own : e.own = [(ownPx, q)]
  lk : e.lk = (metE a b 2).lk
  tw : TwoT e.ts (pfxA p) (pfxN p) x1 x2
  srt : SortE e.es
  mrk : wantE e.es (pfxA p) (pfxN p) = mk
  pre : EngPre e
  el : e.es.length ≤ 3 * n
  ll : e.lost.length ≤ 1000 * n
  st : e.strange = 0
  bd : e.bad = 0 ∧ e.full = 0 ∧ e.noroom = 0
abbrev OneE := OneQ 1
section
variable {q a b : Int} {e e' : Eng} {p : Int} {x1 x2 : Option Tld} {mk : Option Ent} {n : Nat}
theorem OneE.start (a b p : Int) (ha : 0 ≤ a ∧ a ≤ 65535) (hb : 0 ≤ b ∧ b ≤ 65535) : OneE a b (metE a b 2) p none none none 0 :=
  ⟨rfl, rfl, rfl, ⟨by simp [metE], fun _ h => (by cases h), fun _ h => (by cases h)⟩, by simp [metE, SortE], rfl, metE_pre a b ha hb, by simp [metE], by simp [metE], rfl, rfl, rfl, rfl⟩
theorem OneQ.hok (h : OneQ q a b e p x1 x2 mk n) : HOk e 2 :=
  ⟨(ahead_uq h.tw.strict).perm h.tw.pm.symm, h.tw.len, by rw [h.lk]; exact (metE_ok a b 2 (by omega) (by omega)).ln⟩
variable {L : List Rt} {ks : List (Int × Int)} {es1 es2 : List Ent} {ts' tb : List Tld} {d : Bool} {lo : List (Int × Int)}
theorem SelE.pre (hse : SelE e e' L ks es1 es2 ts' tb d lo) (h : EngPre e) (hz : e.es.length + 2 * (e.own.length + e.ts.length) ≤ 200) (hll : e.lost.length + e.sel.length ≤ 1000000) : EngPre e' ∧ es2.length ≤ e.es.length + e.own.length + e.ts.length ∧ e'.lost.length ≤ e.lost.length + e.sel.length := by
  have l1 := hse.l1.len
  have l2 := hse.l2.len
  have hk := hse.kp.length_eq
  have ho : (ownL e ks).length = ks.length := by simp [ownL]
  have hr := selR_len (costsE e) (feasE es1) ts' ts'.length
  rw [List.take_length, hse.tp.length_eq] at hr
  rw [List.length_map] at hk
  have hL := hse.Lp.length_eq
  rw [List.length_append] at hL
  have hlo : lo.length ≤ e.lost.length + e.sel.length := by
    rcases hse.ch with ⟨_, _, h3⟩ | ⟨_, _, h3⟩
    · rw [h3]; omega
    · rw [h3, List.length_append]
      have := lostE_len L e.sel
      omega
  rw [hse.eq]
  refine ⟨⟨h.ow, h.ok, h.px, ?_, h.lk, h.lc, blks_len _ _ _ _ h.al, ?_, ?_⟩, by omega, hlo⟩
  · show es2.length + e.own.length + e.ts.length ≤ 200
    omega
  · show L.length ≤ 1000
    omega
  · show lo.length ≤ 1000000
    omega
theorem OneQ.sel (h : OneQ q a b e p x1 x2 mk n) (h0 : 0 ≤ p) (h1 : p ≤ 255) (hn : n ≤ 50) (hse : SelE e e' L ks es1 es2 ts' tb d lo) :
    OneQ q a b e' p x1 x2 (markE mk (pfxA p) (pfxN p) (wayE e (pfxA p) (pfxN p) x1 x2)) (n + 1) ∧ routeE e' (pfxA p) (pfxN p) = wayE e (pfxA p) (pfxN p) x1 x2 ∧ L.Perm (ownRq q :: (wayE e (pfxA p) (pfxN p) x1 x2).toList) := by
  obtain ⟨g1, g2, g3, g4⟩ := two_sel hse h.own h.id h.tw (pfx_own p h0 h1) h.srt
  have hel := h.el
  have hll := h.ll
  have htl := h.tw.len
  have hol : e.own.length = 1 := by rw [h.own]; rfl
  have hsl := h.pre.sl
  obtain ⟨q1, q2, q3⟩ := hse.pre h.pre (by omega) (by omega)
  have he := hse.eq
  refine ⟨⟨by rw [he]; exact h.id, by rw [he]; exact h.own, by rw [he]; exact h.lk, by rw [he]; exact h.tw, by rw [he]; exact g4, ?_, q1, ?_, ?_, by rw [he]; exact h.st, by rw [he]; exact h.bd⟩, g2, g1⟩
  · rw [he]
    show wantE es2 _ _ = _
    rw [g3, h.mrk]
  · rw [he]
    show es2.length ≤ 3 * (n + 1)
    omega
  · omega
theorem OneQ.way (h : OneQ q a b e p x1 x2 mk n) : wayE e (pfxA p) (pfxN p) x1 x2 = pick2 (x1.bind (rtOf (costsE e) (feasM mk))) (x2.bind (rtOf (costsE e) (feasM mk))) := by
  unfold wayE
  rw [h.mrk]
end
end Go.Proofs.YtngnbafididkcaaGreat
end
