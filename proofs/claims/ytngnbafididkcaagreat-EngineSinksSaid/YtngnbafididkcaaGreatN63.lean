/- EngineSinks: in plain words. -/
import Derived.Test.YtngnbafididkcaaGreatN32
import Derived.Test.YtngnbafididkcaaGreatN62
import Derived.Test.YtngnbafididkcaaGreatN30
namespace Go.Proofs.YtngnbafididkcaaGreat
open Go.RowKit
set_option linter.unusedSimpArgs false

theorem nodup_lt : ∀ (n : Nat) (l : List Nat), l.Nodup → (∀ x ∈ l, x < n) → l.length ≤ n
  | 0, l, _, h => by
    cases l with
    | nil => simp
    | cons a l => have := h a List.mem_cons_self; omega
  | n + 1, l, hn, h => by
    by_cases hm : n ∈ l
    · have h1 := nodup_lt n (l.erase n) (hn.erase n) (fun x hx => by
        have h2 := (hn.mem_erase_iff).1 hx
        have := h x h2.2
        have := h2.1
        omega)
      rw [List.length_erase_of_mem hm] at h1
      omega
    · have h1 := nodup_lt n l hn (fun x hx => by
        have := h x hx
        have : x ≠ n := fun hc => hm (by rw [← hc]; exact hx)
        omega)
      omega
/-- A prefix that is one of the eighteen. -/
theorem first_at {a n : Int} (h : 0 ≤ firstI a n) : ∃ k : Nat, k < 18 ∧ firstI a n = k ∧ pfxA k = a ∧ pfxN k = n := by
  unfold firstI at h ⊢
  cases hf : (List.range 18).find? (isPfx a n) with
  | none => rw [hf] at h; simp at h
  | some k =>
    have h1 := List.find?_some hf
    have h2 := List.mem_range.1 (List.mem_of_find?_eq_some hf)
    unfold isPfx at h1
    simp only [Bool.and_eq_true, decide_eq_true_eq] at h1
    exact ⟨k, h2, rfl, h1.1, h1.2⟩
theorem first_pfx (p : Int) (h0 : 0 ≤ p) (h1 : p ≤ 255) : 0 ≤ firstI (pfxA p) (pfxN p) := by
  have : ∀ a : Nat, a < 256 → 0 ≤ firstI (pfxA a) (pfxN a) := by decide +kernel
  have h := this p.toNat (by omega)
  rwa [Int.toNat_of_nonneg h0] at h
theorem first_own : firstI 201326592 24 = -1 := by decide +kernel
theorem first_rng (a n : Int) : -1 ≤ firstI a n ∧ firstI a n < 18 := by
  by_cases h : 0 ≤ firstI a n
  · obtain ⟨k, h1, h2, _⟩ := first_at h
    omega
  · unfold firstI at h ⊢
    cases hf : (List.range 18).find? (isPfx a n) with
    | none => simp
    | some k => rw [hf] at h; exact absurd (Int.natCast_nonneg k) h
theorem keys_len {es : List Ent} (hs : SortE es) (hk : ∀ x ∈ es, (x.addr = 201326592 ∧ x.len = 24) ∨ 0 ≤ firstI x.addr x.len) : es.length ≤ 19 := by
  have h := nodup_lt 19 (es.map fun x => (firstI x.addr x.len + 1).toNat) (by
    refine List.pairwise_map.2 ?_
    refine (List.Pairwise.and_mem.1 hs).imp fun {x y} hxy hc => ?_
    obtain ⟨hx, hy, hlt⟩ := hxy
    have rx := first_rng x.addr x.len
    have ry := first_rng y.addr y.len
    unfold ltP at hlt
    rcases hk x hx with ⟨a1, a2⟩ | a
    · rcases hk y hy with ⟨b1, b2⟩ | b
      · omega
      · rw [a1, a2, first_own] at hc
        omega
    · rcases hk y hy with ⟨b1, b2⟩ | b
      · rw [b1, b2, first_own] at hc
        omega
      · obtain ⟨k, _, k1, k2, k3⟩ := first_at a
        obtain ⟨j, _, j1, j2, j3⟩ := first_at b
        have : k = j := by omega
        subst this
        omega) (fun z hz => by
    obtain ⟨x, _, rfl⟩ := List.mem_map.1 hz
    have := first_rng x.addr x.len
    omega)
  rwa [List.length_map] at h
/-- Marks of prefixes that are each lowered once. -/
theorem LowL.wantAll : ∀ {es es' : List Ent} {rs : List Rt}, LowL es rs es' → SortE es → rs.Pairwise (fun x y => ¬ sameP x y) → ∀ r ∈ rs, wantE es' r.addr r.len = some (lowE (wantE es r.addr r.len) r.addr r.len r.seq r.metric)
  | _, _, [], _, _, _, r, hr => by cases hr
  | es, es', r0 :: rs, ⟨e1, h1, h2⟩, hs, hd, r, hr => by
    rw [List.pairwise_cons] at hd
    rcases List.mem_cons.1 hr with rfl | hr
    · rw [LowL.other h2 (h1.sorted hs) (fun x hx hc => hd.1 x hx ⟨hc.1.symm, hc.2.symm⟩), h1.want hs, if_pos ⟨rfl, rfl⟩]
    · rw [LowL.wantAll h2 (h1.sorted hs) hd.2 r hr, h1.want hs, if_neg (fun hc => hd.1 r hr ⟨hc.1.symm, hc.2.symm⟩)]
theorem nearI_irr (s m : Int) : nearI s m s m = false := by simp [nearI, newI]
/-- Marks never go back. -/
theorem near_kept {es es' : List Ent} {costs : List Int} {L : List Rt} {i : Nat} (h : NearI es costs [] L i es') (hs : SortE es) {a n : Int} {o : Ent} (ho : wantE es a n = some o) : ∃ x, wantE es' a n = some x ∧ (x = o ∨ nearI x.seq x.metric o.seq o.metric = true) := by
  have h1 := (want_iff hs).1 ho
  obtain ⟨x, hx, hp, hq⟩ := h.kept o h1.1
  unfold atP at hp
  exact ⟨x, (want_iff h.srt).2 ⟨hx, by rw [hp.1]; exact h1.2.1, by rw [hp.2]; exact h1.2.2⟩, hq⟩
structure SinkE (e : Eng) (T : Nat → Int) (i n : Nat) : Prop where
  id : e.id = 0
  own : e.own = [(ownPx, 1)]
  lk : e.lk = (metE 96 10 2).lk
  told : ToldOk e
  tk : ∀ t ∈ e.ts, ∃ b k : Nat, b < 2 ∧ k < 18 ∧ t.who = 1 + b ∧ firstI t.addr t.len = k ∧ t.seq = T (b * 36 + k * 2) ∧ t.metric = T (b * 36 + k * 2 + 1) ∧ t.metric ≠ 65535
  srt : SortE e.es
  eok : ∀ x ∈ e.es, EntOk x
  ek : ∀ x ∈ e.es, (x.addr = 201326592 ∧ x.len = 24) ∨ 0 ≤ firstI x.addr x.len
  pre : EngPre e
  tl : e.ts.length ≤ i
  ll : e.lost.length ≤ 1000 * n
  st : e.strange = 0
theorem costs_sink {e : Eng} (h : e.lk = (metE 96 10 2).lk) : ∀ c ∈ costsE e, 1 ≤ c := by
  have h1 : costsE e = costsE (metE 96 10 2) := by
    unfold costsE
    exact List.map_congr_left fun n _ => costN_lk h _
  rw [h1]
  decide +kernel
theorem SinkE.start (T : Nat → Int) : SinkE (metE 96 10 2) T 0 0 :=
  ⟨rfl, rfl, rfl, ⟨by simp [metE, UqT], by simp [metE], by simp [metE], costs_sink rfl⟩, by simp [metE], by simp [metE, SortE], by simp [metE], by simp [metE], metE_pre 96 10 (by omega) (by omega), by simp [metE], by simp [metE], rfl⟩
theorem SinkE.el {e : Eng} {T : Nat → Int} {i n : Nat} (h : SinkE e T i n) : e.es.length ≤ 19 := keys_len h.srt h.ek
theorem SinkE.hok {e : Eng} {T : Nat → Int} {i n : Nat} (h : SinkE e T i n) : HOk e i := ⟨h.told.uq, h.tl, by rw [h.lk]; exact (metE_ok 96 10 2 (by omega) (by omega)).ln⟩
/-- What is told of last. -/
def updT (T : Nat → Int) (b k : Nat) (s m : Int) : Nat → Int := fun j => if j = b * 36 + k * 2 then s else if j = b * 36 + k * 2 + 1 then m else T j
theorem SinkE.hear {e : Eng} {T : Nat → Int} {i n : Nat} (h : SinkE e T i n) {p m s : Int} {b k : Nat} (h0 : 0 ≤ p) (h1 : p ≤ 255) (hm : 0 ≤ m ∧ m ≤ 65535) (hs : 0 ≤ s ∧ s ≤ 1000) (hb : b < 2) (hk : firstI (pfxA p) (pfxN p) = k) (hk18 : k < 18) (hi : i ≤ 100) : SinkE (hearE noRq (1 + b) 0 2 [updP p s m] e) (updT T b k s m) (i + 1) n := by
  have hno := pfx_own p h0 h1
  rw [hearE_upd (by rw [h.id]; omega) (by rw [h.lk]; rcases (show b = 0 ∨ b = 1 by omega) with rfl | rfl <;> rfl) rfl (by
    show getA (pfxA p, pfxN p) e.own = none
    rw [h.own]
    unfold getA
    rw [if_neg (by intro hc; simp only [ownPx, Prod.mk.injEq] at hc; exact hno ⟨hc.1.symm, hc.2.symm⟩)]
    rfl)]
  have hmem : ∀ t ∈ delK (tldOf (1 + b) (updP p s m) 2) e.ts ++ toldR (tldOf (1 + b) (updP p s m) 2), (t ∈ e.ts ∧ hitT (tldOf (1 + b) (updP p s m) 2) t = false) ∨ (t = tldOf (1 + b) (updP p s m) 2 ∧ m ≠ 65535) := fun t ht => by
    rcases List.mem_append.1 ht with ht | ht
    · have := List.mem_filter.1 ht
      exact .inl ⟨this.1, by simpa using this.2⟩
    · unfold toldR at ht
      split at ht
      · cases ht
      · rename_i hne
        exact .inr ⟨List.mem_singleton.1 ht, hne⟩
  have hlen : (delK (tldOf (1 + b) (updP p s m) 2) e.ts ++ toldR (tldOf (1 + b) (updP p s m) 2)).length ≤ i + 1 := by
    have h1 := delK_len (tldOf (1 + b) (updP p s m) 2) e.ts
    have h2 : (toldR (tldOf (1 + b) (updP p s m) 2)).length ≤ 1 := by unfold toldR; split <;> simp
    have := h.tl
    rw [List.length_append]
    omega
  have hel := h.el
  have hol : e.own.length = 1 := by rw [h.own]; rfl
  refine ⟨h.id, h.own, h.lk, ⟨uq_told h.told.uq _, fun t ht => ?_, fun t ht => ?_, costs_sink h.lk⟩, fun t ht => ?_, h.srt, h.eok, h.ek, pre_ts h.pre (fun t ht => ?_) (by omega), hlen, h.ll, h.st⟩
  · rcases hmem t ht with ⟨ht, _⟩ | ⟨rfl, _⟩
    · exact h.told.sq t ht
    · exact hs
  · rcases hmem t ht with ⟨ht, _⟩ | ⟨rfl, _⟩
    · exact h.told.no t ht
    · exact hno
  · rcases hmem t ht with ⟨ht, hh⟩ | ⟨rfl, hm2⟩
    · obtain ⟨b', k', g1, g2, g3, g4, g5, g6, g7⟩ := h.tk t ht
      have hne : ¬ (b' = b ∧ k' = k) := fun hc => by
        obtain ⟨rfl, rfl⟩ := hc
        obtain ⟨j, _, j1, j2, j3⟩ := first_at (show 0 ≤ firstI t.addr t.len by omega)
        obtain ⟨l, _, l1, l2, l3⟩ := first_at (show 0 ≤ firstI (pfxA p) (pfxN p) by omega)
        have : j = l := by omega
        subst this
        rw [Bool.eq_false_iff, Ne, hitT_iff] at hh
        exact hh ⟨by show t.addr = pfxA p; rw [← j2, ← l2], by show t.len = pfxN p; rw [← j3, ← l3], g3⟩
      refine ⟨b', k', g1, g2, g3, g4, ?_, ?_, g7⟩
      · unfold updT
        rw [if_neg (by omega), if_neg (by omega)]
        exact g5
      · unfold updT
        rw [if_neg (by omega), if_neg (by omega)]
        exact g6
    · refine ⟨b, k, hb, hk18, rfl, hk, ?_, ?_, hm2⟩
      · unfold updT
        rw [if_pos rfl]
        rfl
      · unfold updT
        rw [if_neg (by omega), if_pos rfl]
        rfl
  · rcases hmem t ht with ⟨ht, _⟩ | ⟨rfl, _⟩
    · have := h.pre.ok t ht
      exact ⟨this.1, this.2.1, this.2.2, h.pre.px t ht⟩
    · exact upd_td (by omega) hm
theorem mk_some {es : List Ent} {a n : Int} {x : Ent} (h : wantE es a n = some x) : mkS es a n = x.seq ∧ mkM es a n = x.metric := by
  unfold mkS mkM
  rw [h]
  exact ⟨rfl, rfl⟩
/-- A way, as the law asks. -/
structure WayOk (es : List Ent) (T : Nat → Int) (r : Rt) : Prop where
  ex : ∃ b k : Nat, b < 2 ∧ k < 18 ∧ r.via = 1 + b ∧ firstI r.addr r.len = k ∧ (wantE es r.addr r.len).isSome = true ∧ nearI (T (b * 36 + k * 2)) (T (b * 36 + k * 2 + 1)) (mkS es r.addr r.len) (mkM es r.addr r.len) = true ∧ nearI r.seq r.metric (mkS es r.addr r.len) (mkM es r.addr r.len) = false
theorem low_near {o : Option Ent} {a n s m : Int} : nearI s m (lowE o a n s m).seq (lowE o a n s m).metric = false := by
  unfold lowE
  cases o with
  | none => exact nearI_irr s m
  | some x =>
    by_cases h : nearI s m x.seq x.metric = true
    · simp only [if_pos h]
      exact nearI_irr s m
    · simp only [if_neg h]
      rw [Bool.not_eq_true] at h
      exact h
section
variable {e e' : Eng} {L : List Rt} {ks : List (Int × Int)} {es1 es2 : List Ent} {ts' tb : List Tld} {d : Bool} {lo : List (Int × Int)}
theorem SinkE.sel {T : Nat → Int} {i n : Nat} (h : SinkE e T i n) (hi : i ≤ 70) (hn : n ≤ 70) (hse : SelE e e' L ks es1 es2 ts' tb d lo) :
    SinkE e' T i (n + 1) ∧ (∀ r ∈ L, r = ownR ∨ WayOk e'.es T r) ∧ (∀ a n, (wantE e.es a n).isSome = true → (wantE e'.es a n).isSome = true ∧ nearI (mkS e.es a n) (mkM e.es a n) (mkS e'.es a n) (mkM e'.es a n) = false) := by
  have hown := hse.own1 h.own h.id
  have hl1 := hse.l1
  have hl2 := hse.l2
  rw [hown] at hl1
  have hs1 := hl1.sorted h.srt
  have hs2 := hl2.sorted hs1
  have hR := many_R hse h.told
  have hst := many_strict hse h.told
  have hS := sel_S (costs := costsE e) (feas := feasE es1) hst
  have hN1 := near_of_low (costs := costsE e) (l := []) h.srt (List.pairwise_singleton _ _) h.eok h.told.cs (fun x hx => by
    rw [List.mem_singleton] at hx
    subst hx
    show (0 : Int) ≤ 1 ∧ (1 : Int) ≤ 1000
    omega) hl1
  have hN2 := near_of_low (costs := costsE e) (l := []) hs1 hS.srt hN1.ok h.told.cs (fun x hx => (hR x hx).1) hl2
  have hdiff : (selR (costsE e) (feasE es1) ts').Pairwise (fun x y => ¬ sameP x y) := hS.srt.imp fun {a b} hab hc => by
    unfold lessR ltP at hab
    unfold sameP at hc
    omega
  have hes : e'.es = es2 := by rw [hse.eq]
  have hel := h.el
  have htl := h.tl
  have hol : e.own.length = 1 := by rw [h.own]; rfl
  have hsl := h.pre.sl
  have hll := h.ll
  obtain ⟨q1, q2, q3⟩ := hse.pre h.pre (by omega) (by omega)
  have htold : ∀ x ∈ selR (costsE e) (feasE es1) ts', ∃ t ∈ e.ts, ChoR (costsE e) (feasE es1) t x := fun x hx => by
    obtain ⟨t, ht, hc⟩ := selR_mem hx
    exact ⟨t, hse.tp.mem_iff.1 ht, hc⟩
  have hfst : ∀ x ∈ selR (costsE e) (feasE es1) ts', 0 ≤ firstI x.addr x.len := fun x hx => by
    obtain ⟨t, ht, hc⟩ := htold x hx
    obtain ⟨b, k, _, _, _, g4, _⟩ := h.tk t ht
    rw [hc.a, hc.l, g4]
    omega
  refine ⟨⟨by rw [hse.eq]; exact h.id, by rw [hse.eq]; exact h.own, by rw [hse.eq]; exact h.lk, ?_, by rw [hse.eq]; exact h.tk, by rw [hes]; exact hs2, by rw [hes]; exact hN2.ok, ?_, q1, by rw [hse.eq]; exact h.tl, by omega, by rw [hse.eq]; exact h.st⟩, fun r hr => ?_, fun a n' ho => ?_⟩
  · have hc : costsE e' = costsE e := by
      unfold costsE
      exact List.map_congr_left fun n _ => costN_lk (by rw [hse.eq]) _
    have ht : e'.ts = e.ts := by rw [hse.eq]
    exact ⟨by rw [ht]; exact h.told.uq, by rw [ht]; exact h.told.sq, by rw [ht]; exact h.told.no, by rw [hc]; exact h.told.cs⟩
  · rw [hes]
    intro x hx
    rcases hN2.old x hx with h1 | ⟨j, r, _, hr, hp⟩
    · rcases hN1.old x h1 with h2 | ⟨j, r, _, hr, hp⟩
      · exact h.ek x h2
      · have := List.mem_singleton.1 (List.mem_of_getElem? hr)
        subst this
        exact .inl hp
    · have := hfst r (List.mem_of_getElem? hr)
      unfold atP at hp
      rw [← hp.1, ← hp.2] at this
      exact .inr this
  · have hL := hse.Lp
    rw [hown] at hL
    rcases List.mem_append.1 (hL.mem_iff.1 hr) with hr | hr
    · exact .inl (List.mem_singleton.1 hr)
    · refine .inr ?_
      rw [hes]
      obtain ⟨t, ht, hc⟩ := htold r hr
      obtain ⟨b, k, g1, g2, g3, g4, g5, g6, g7⟩ := h.tk t ht
      have hw := hl2.wantAll hs1 hdiff r hr
      obtain ⟨m1, m2⟩ := mk_some hw
      refine ⟨b, k, g1, g2, by rw [hc.v, g3], by rw [hc.a, hc.l, g4], by rw [hw]; rfl, ?_, by rw [m1, m2]; exact low_near⟩
      rw [m1, m2, ← g5, ← g6]
      obtain ⟨c, hcc, c1, c2, c3⟩ := hc.c
      have hcge := h.told.cs c (List.mem_of_getElem? hcc)
      have hf := hc.f
      rw [feasE_M hs1, ← hc.a, ← hc.l] at hf
      have hseq := hc.s
      unfold lowE
      cases hwo : wantE es1 r.addr r.len with
      | none =>
        simp only
        rw [hseq, nearI_same]
        simp only [decide_eq_true_eq]
        omega
      | some o =>
        rw [hwo] at hf
        unfold feasM at hf
        rw [Bool.or_eq_true, decide_eq_true_eq] at hf
        have hf : nearI t.seq t.metric o.seq o.metric = true := by
          rcases hf with hf | hf
          · exact absurd hf g7
          · exact hf
        by_cases hnr : nearI r.seq r.metric o.seq o.metric = true
        · simp only [if_pos hnr]
          rw [hseq, nearI_same]
          simp only [decide_eq_true_eq]
          omega
        · simp only [if_neg hnr]
          exact hf
  · obtain ⟨o, ho⟩ := Option.isSome_iff_exists.1 ho
    obtain ⟨x, hx, hx2⟩ := near_kept hN1 h.srt ho
    obtain ⟨z, hz, hz2⟩ := near_kept hN2 hs1 hx
    rw [hes]
    obtain ⟨m1, m2⟩ := mk_some ho
    obtain ⟨m3, m4⟩ := mk_some hz
    rw [m1, m2, m3, m4, hz]
    refine ⟨rfl, ?_⟩
    have ho1 := h.eok o ((want_iff h.srt).1 ho).1
    have hx1 := hN1.ok x ((want_iff hs1).1 hx).1
    have hz1 := hN2.ok z ((want_iff hs2).1 hz).1
    rw [Bool.eq_false_iff, Ne, nearI_lex ho1.1 ho1.2 hz1.1 hz1.2]
    have e1 : x = o ∨ (o.seq < x.seq ∨ (x.seq = o.seq ∧ x.metric < o.metric)) := hx2.imp_right (nearI_lex hx1.1 hx1.2 ho1.1 ho1.2).1
    have e2 : z = x ∨ (x.seq < z.seq ∨ (z.seq = x.seq ∧ z.metric < x.metric)) := hz2.imp_right (nearI_lex hz1.1 hz1.2 hx1.1 hx1.2).1
    rcases e1 with rfl | e1
    · rcases e2 with rfl | e2 <;> omega
    · rcases e2 with rfl | e2 <;> omega
end
end Go.Proofs.YtngnbafididkcaaGreat
