/- Engine's laws: one prefix, told by two: step by step, in plain words. -/
import Derived.Test.YtngnbafididkcaaGreatN27
namespace Go.Proofs.YtngnbafididkcaaGreat
open Go.RowKit
set_option linter.unusedSimpArgs false

theorem filter_opt {q : Tld → Bool} {o : Option Tld} (h : ∀ t, o = some t → q t = true) : o.toList.filter q = o.toList := by
  cases o with
  | none => rfl
  | some t => simp [h t rfl]
theorem filter_opt0 {q : Tld → Bool} {o : Option Tld} (h : ∀ t, o = some t → q t = false) : o.toList.filter q = [] := by
  cases o with
  | none => rfl
  | some t => simp [h t rfl]
theorem tOpt_eq {t u : Tld} (h : tOpt t = some u) : u = t := by
  unfold tOpt at h
  split at h
  · cases h
  · exact (Option.some.inj h).symm
theorem TwoT.hear1 {ts : List Tld} {pa pn : Int} {x1 x2 : Option Tld} (h : TwoT ts pa pn x1 x2) {t : Tld} (ht : t.addr = pa ∧ t.len = pn ∧ t.who = 1) : TwoT (delK t ts ++ toldR t) pa pn (tOpt t) x2 := by
  refine ⟨?_, fun u hu => by rw [tOpt_eq hu]; exact ht, h.h2⟩
  have hp := h.pm.filter (fun u => !hitT t u)
  rw [List.filter_append, filter_opt0 (fun u hu => ?_), filter_opt (fun u hu => ?_), List.nil_append] at hp
  · rw [toldR_opt]
    exact (hp.append_right _).trans List.perm_append_comm
  · have := h.h2 u hu
    have : hitT t u = false := by
      rw [Bool.eq_false_iff, Ne, hitT_iff]
      omega
    simp [this]
  · have := h.h1 u hu
    have : hitT t u = true := (hitT_iff _ _).2 ⟨by omega, by omega, by omega⟩
    simp [this]
theorem TwoT.hear2 {ts : List Tld} {pa pn : Int} {x1 x2 : Option Tld} (h : TwoT ts pa pn x1 x2) {t : Tld} (ht : t.addr = pa ∧ t.len = pn ∧ t.who = 2) : TwoT (delK t ts ++ toldR t) pa pn x1 (tOpt t) := by
  refine ⟨?_, h.h1, fun u hu => by rw [tOpt_eq hu]; exact ht⟩
  have hp := h.pm.filter (fun u => !hitT t u)
  rw [List.filter_append, filter_opt (fun u hu => ?_), filter_opt0 (fun u hu => ?_), List.append_nil] at hp
  · rw [toldR_opt]
    exact hp.append_right _
  · have := h.h2 u hu
    have : hitT t u = true := (hitT_iff _ _).2 ⟨by omega, by omega, by omega⟩
    simp [this]
  · have := h.h1 u hu
    have : hitT t u = false := by
      rw [Bool.eq_false_iff, Ne, hitT_iff]
      omega
    simp [this]
theorem opt_len {o : Option Tld} : o.toList.length ≤ 1 := by cases o <;> simp
theorem TwoT.len {ts : List Tld} {pa pn : Int} {x1 x2 : Option Tld} (h : TwoT ts pa pn x1 x2) : ts.length ≤ 2 := by
  rw [h.pm.length_eq, List.length_append]
  have := opt_len (o := x1)
  have := opt_len (o := x2)
  omega
/-- An engine of which one prefix is told. n: how often Select was. -/
structure OneE (a b : Int) (e : Eng) (p : Int) (x1 x2 : Option Tld) (mk : Option Ent) (n : Nat) : Prop where
  id : e.id = 0
  own : e.own = [(ownPx, 1)]
  lk : e.lk = (metE a b 2).lk
  tw : TwoT e.ts (pfxA p) (pfxN p) x1 x2
  srt : SortE e.es
  mrk : wantE e.es (pfxA p) (pfxN p) = mk
  pre : EngPre e
  el : e.es.length ≤ 3 * n
  ll : e.lost.length ≤ 1000 * n
  st : e.strange = 0
  bd : e.bad = 0 ∧ e.full = 0 ∧ e.noroom = 0
section
variable {a b : Int} {e e' : Eng} {p : Int} {x1 x2 : Option Tld} {mk : Option Ent} {n : Nat}
theorem OneE.start (a b p : Int) (ha : 0 ≤ a ∧ a ≤ 65535) (hb : 0 ≤ b ∧ b ≤ 65535) : OneE a b (metE a b 2) p none none none 0 :=
  ⟨rfl, rfl, rfl, ⟨by simp [metE], fun _ h => (by cases h), fun _ h => (by cases h)⟩, by simp [metE, SortE], rfl, metE_pre a b ha hb, by simp [metE], by simp [metE], rfl, rfl, rfl, rfl⟩
theorem OneE.hok (h : OneE a b e p x1 x2 mk n) : HOk e 2 :=
  ⟨(ahead_uq h.tw.strict).perm h.tw.pm.symm, h.tw.len, by rw [h.lk]; exact (metE_ok a b 2 (by omega) (by omega)).ln⟩
theorem OneE.upd (h : OneE a b e p x1 x2 mk n) (h0 : 0 ≤ p) (h1 : p ≤ 255) {fr s m : Int} (hf : fr = 1 ∨ fr = 2) (now : Int) : hearE noRq fr 0 now [updP p s m] e = { e with ts := delK (tldOf fr (updP p s m) now) e.ts ++ toldR (tldOf fr (updP p s m) now) } := by
  refine hearE_upd (by rw [h.id]; omega) ?_ rfl ?_
  · rw [h.lk]
    rcases hf with rfl | rfl <;> rfl
  · show getA (pfxA p, pfxN p) e.own = none
    rw [h.own]
    have := pfx_own p h0 h1
    unfold getA
    rw [if_neg (by intro hc; simp only [ownPx, Prod.mk.injEq] at hc; exact this ⟨hc.1.symm, hc.2.symm⟩)]
    rfl
theorem OneE.preU (h : OneE a b e p x1 x2 mk n) (hn : n ≤ 50) {fr s m now : Int} (hf : fr = 1 ∨ fr = 2) (hm : 0 ≤ m ∧ m ≤ 65535) (hl : (delK (tldOf fr (updP p s m) now) e.ts ++ toldR (tldOf fr (updP p s m) now)).length ≤ 2) : EngPre { e with ts := delK (tldOf fr (updP p s m) now) e.ts ++ toldR (tldOf fr (updP p s m) now) } := by
  refine pre_ts h.pre (fun t ht => ?_) ?_
  · rcases List.mem_append.1 ht with ht | ht
    · have hm := (List.mem_filter.1 ht).1
      have := h.pre.ok t hm
      exact ⟨this.1, this.2.1, this.2.2, h.pre.px t hm⟩
    · unfold toldR at ht
      split at ht
      · cases ht
      · rw [List.mem_singleton] at ht
        subst ht
        exact upd_td (by omega) hm
  · have h1 := h.el
    have h2 : e.own.length = 1 := by rw [h.own]; rfl
    omega
theorem OneE.hear1 (h : OneE a b e p x1 x2 mk n) (h0 : 0 ≤ p) (h1 : p ≤ 255) (hn : n ≤ 50) {s m : Int} (hm : 0 ≤ m ∧ m ≤ 65535) (now : Int) : OneE a b (hearE noRq 1 0 now [updP p s m] e) p (tOpt (tldOf 1 (updP p s m) now)) x2 mk n := by
  rw [h.upd h0 h1 (.inl rfl)]
  have ht := h.tw.hear1 (t := tldOf 1 (updP p s m) now) ⟨rfl, rfl, rfl⟩
  exact ⟨h.id, h.own, h.lk, ht, h.srt, h.mrk, h.preU hn (.inl rfl) hm ht.len, h.el, h.ll, h.st, h.bd⟩
theorem OneE.hear2 (h : OneE a b e p x1 x2 mk n) (h0 : 0 ≤ p) (h1 : p ≤ 255) (hn : n ≤ 50) {s m : Int} (hm : 0 ≤ m ∧ m ≤ 65535) (now : Int) : OneE a b (hearE noRq 2 0 now [updP p s m] e) p x1 (tOpt (tldOf 2 (updP p s m) now)) mk n := by
  rw [h.upd h0 h1 (.inr rfl)]
  have ht := h.tw.hear2 (t := tldOf 2 (updP p s m) now) ⟨rfl, rfl, rfl⟩
  exact ⟨h.id, h.own, h.lk, ht, h.srt, h.mrk, h.preU hn (.inr rfl) hm ht.len, h.el, h.ll, h.st, h.bd⟩
variable {L : List Rt} {ks : List (Int × Int)} {es1 es2 : List Ent} {ts' tb : List Tld} {d : Bool} {lo : List (Int × Int)}
theorem SelE.pre (hse : SelE e e' L ks es1 es2 ts' tb d lo) (h : EngPre e) (hz : e.es.length + 2 * (e.own.length + e.ts.length) ≤ 200) (hll : e.lost.length + e.sel.length ≤ 1000000) : EngPre e' ∧ es2.length ≤ e.es.length + e.own.length + e.ts.length ∧ e'.lost.length ≤ e.lost.length + e.sel.length := by
  have l1 := hse.l1.len
  have l2 := hse.l2.len
  have hk := hse.kp.length_eq
  have ho : (ownL e ks).length = ks.length := by simp [ownL]
  have hr := selR_len (costsE e) (feasE es1) ts' ts'.length
  rw [List.take_length, hse.tp.length_eq] at hr
  rw [List.length_map] at hk
  have hL := hse.Lp.length_eq
  rw [List.length_append] at hL
  have hlo : lo.length ≤ e.lost.length + e.sel.length := by
    rcases hse.ch with ⟨_, _, h3⟩ | ⟨_, _, h3⟩
    · rw [h3]; omega
    · rw [h3, List.length_append]
      have := lostE_len L e.sel
      omega
  rw [hse.eq]
  refine ⟨⟨h.ow, h.ok, h.px, ?_, h.lk, h.lc, blks_len _ _ _ _ h.al, ?_, ?_⟩, by omega, hlo⟩
  · show es2.length + e.own.length + e.ts.length ≤ 200
    omega
  · show L.length ≤ 1000
    omega
  · show lo.length ≤ 1000000
    omega
theorem OneE.sel (h : OneE a b e p x1 x2 mk n) (h0 : 0 ≤ p) (h1 : p ≤ 255) (hn : n ≤ 50) (hse : SelE e e' L ks es1 es2 ts' tb d lo) :
    OneE a b e' p x1 x2 (markE mk (pfxA p) (pfxN p) (wayE e (pfxA p) (pfxN p) x1 x2)) (n + 1) ∧ routeE e' (pfxA p) (pfxN p) = wayE e (pfxA p) (pfxN p) x1 x2 ∧ L.Perm (ownR :: (wayE e (pfxA p) (pfxN p) x1 x2).toList) := by
  obtain ⟨g1, g2, g3, g4⟩ := two_sel hse h.own h.id h.tw (pfx_own p h0 h1) h.srt
  have hel := h.el
  have hll := h.ll
  have htl := h.tw.len
  have hol : e.own.length = 1 := by rw [h.own]; rfl
  have hsl := h.pre.sl
  obtain ⟨q1, q2, q3⟩ := hse.pre h.pre (by omega) (by omega)
  have he := hse.eq
  refine ⟨⟨by rw [he]; exact h.id, by rw [he]; exact h.own, by rw [he]; exact h.lk, by rw [he]; exact h.tw, by rw [he]; exact g4, ?_, q1, ?_, ?_, by rw [he]; exact h.st, by rw [he]; exact h.bd⟩, g2, g1⟩
  · rw [he]
    show wantE es2 _ _ = _
    rw [g3, h.mrk]
  · rw [he]
    show es2.length ≤ 3 * (n + 1)
    omega
  · omega
theorem OneE.way (h : OneE a b e p x1 x2 mk n) : wayE e (pfxA p) (pfxN p) x1 x2 = pick2 (x1.bind (rtOf (costsE e) (feasM mk))) (x2.bind (rtOf (costsE e) (feasM mk))) := by
  unfold wayE
  rw [h.mrk]
theorem OneE.cost1 (h : OneE a b e p x1 x2 mk n) : costN e 1 = max a 1 := by rw [costN_lk h.lk, costN_met1]
theorem OneE.cost2 (h : OneE a b e p x1 x2 mk n) : costN e 2 = max b 1 := by rw [costN_lk h.lk, costN_met2]
end
end Go.Proofs.YtngnbafididkcaaGreat
