/- EngineForgets: in plain words. -/
import Derived.Test.YtngnbafididkcaaGreatN43
import Derived.Test.YtngnbafididkcaaGreatN58
namespace Go.Proofs.YtngnbafididkcaaGreat
open Go.RowKit
set_option linter.unusedSimpArgs false

/-- An engine of which one prefix is told, whatever its links are. -/
structure OneL (lk0 : List (Int × Lnk)) (e : Eng) (p : Int) (x1 x2 : Option Tld) (n : Nat) : Prop where
  id : e.id = 0
  own : e.own = [(ownPx, 1)]
  lk : e.lk = lk0
  tw : TwoT e.ts (pfxA p) (pfxN p) x1 x2
  srt : SortE e.es
  pre : EngPre e
  el : e.es.length ≤ 3 * n
  ll : e.lost.length ≤ 1000 * n
  st : e.strange = 0
def okL (l : Lnk) : Bool := decide (0 ≤ andI .u16 l.came 7) && decide (andI .u16 l.came 7 < 8) && decide (0 ≤ l.cost) && decide (l.cost ≤ 65535) && decide (0 ≤ l.next) && decide (l.next ≤ 1000000) && decide (0 ≤ l.quiet) && decide (l.quiet ≤ 1000000) && !decide (l.came = 0)
structure OkL (l : Lnk) : Prop where
  a : 0 ≤ andI .u16 l.came 7 ∧ andI .u16 l.came 7 < 8
  c : 0 ≤ l.cost ∧ l.cost ≤ 65535
  n : 0 ≤ l.next ∧ l.next ≤ 1000000
  q : 0 ≤ l.quiet ∧ l.quiet ≤ 1000000
  z : l.came ≠ 0
theorem okL_iff {l : Lnk} (h : okL l = true) : OkL l := by
  unfold okL at h
  simp only [Bool.and_eq_true, decide_eq_true_eq, Bool.not_eq_true', decide_eq_false_iff_not] at h
  obtain ⟨⟨⟨⟨⟨⟨⟨⟨h1, h2⟩, h3⟩, h4⟩, h5⟩, h6⟩, h7⟩, h8⟩, h9⟩ := h
  exact ⟨⟨h1, h2⟩, ⟨h3, h4⟩, ⟨h5, h6⟩, ⟨h7, h8⟩, h9⟩
/-- A hello is heard, and what it costs. -/
def saysL (l : Lnk) (n c now : Int) : Lnk := { helloL l n now with cost := max c 1, til := now + 20 }
section
variable {a b : Lnk} {e e' : Eng} {p : Int} {x1 x2 : Option Tld} {mk : Option Ent} {n : Nat} {lk0 : List (Int × Lnk)}
theorem OneQ.toL (h : OneE 96 96 e p x1 x2 mk n) : OneL (metE 96 96 2).lk e p x1 x2 n := ⟨h.id, h.own, h.lk, h.tw, h.srt, h.pre, h.el, h.ll, h.st⟩
theorem OneL.hok (h : OneL [(1, a), (2, b)] e p x1 x2 n) (ha : OkL a) (hb : OkL b) : HOk e 2 := by
  refine ⟨(ahead_uq h.tw.strict).perm h.tw.pm.symm, h.tw.len, fun l hl => ?_⟩
  rw [h.lk] at hl
  simp only [List.mem_cons, List.not_mem_nil, or_false] at hl
  rcases hl with rfl | rfl
  · exact ⟨ha.n.1, by have := ha.n.2; show a.next ≤ 1000001; omega⟩
  · exact ⟨hb.n.1, by have := hb.n.2; show b.next ≤ 1000001; omega⟩
/-- Links that are well again. -/
theorem OneL.links {a' b' : Lnk} {ts : List Tld} (h : OneL lk0 e p x1 x2 n) (ha : OkL a') (hb : OkL b') (hts : ts = e.ts) : OneL [(1, a'), (2, b')] { e with lk := [(1, a'), (2, b')], ts := ts } p x1 x2 n := by
  subst hts
  have hp := h.pre
  refine ⟨h.id, h.own, rfl, h.tw, h.srt, ⟨hp.ow, hp.ok, hp.px, hp.sz, fun l hl => ?_, fun l hl => ?_, hp.al, hp.sl, hp.ll⟩, h.el, h.ll, h.st⟩
  · simp only [List.mem_cons, List.not_mem_nil, or_false] at hl
    rcases hl with rfl | rfl
    · exact ha.a
    · exact hb.a
  · simp only [List.mem_cons, List.not_mem_nil, or_false] at hl
    rcases hl with rfl | rfl
    · exact ha.c
    · exact hb.c
theorem OneL.hello (h : OneL [(1, a), (2, b)] e p x1 x2 n) (k c now : Int) (ha : OkL a) (hb : OkL (saysL b k c now)) : OneL [(1, a), (2, saysL b k c now)] (hearE noRq 2 0 now (helloPs k c) e) p x1 x2 n := by
  have hE : hearE noRq 2 0 now (helloPs k c) e = { e with lk := [(1, a), (2, saysL b k c now)], ts := e.ts } := by
    have hl := h.lk
    have hi := h.id
    have hst := h.st
    clear h ha hb
    cases e
    simp only at hl hi hst
    subst hl; subst hi; subst hst
    rfl
  rw [hE]
  exact h.links ha hb rfl
theorem OneL.tick (h : OneL [(1, a), (2, b)] e p x1 none n) (now : Int) (ha : OkL (tickL now a)) (hb : OkL (tickL now b)) (ht : ∀ t, x1 = some t → now < t.til) : OneL [(1, tickL now a), (2, tickL now b)] (tickE now [1, 2] e) p x1 none n := by
  have hE : tickE now [1, 2] e = { e with lk := [(1, tickL now a), (2, tickL now b)], ts := e.ts } := by
    have h1 : tick1 now e 1 = { e with lk := [(1, tickL now a), (2, b)], ts := e.ts } := by
      rw [tick1_some (l := a) (by rw [h.lk]; rfl), if_neg ha.z, h.lk]
      rfl
    have h2 : tick1 now { e with lk := [(1, tickL now a), (2, b)], ts := e.ts } 2 = { e with lk := [(1, tickL now a), (2, tickL now b)], ts := e.ts } := by
      rw [tick1_some (l := b) rfl, if_neg hb.z]
      rfl
    unfold tickE
    rw [List.foldl_cons, List.foldl_cons, List.foldl_nil, h1, h2]
    have hl : liveT now e.ts = e.ts := by
      unfold liveT
      rw [List.filter_eq_self]
      intro t hm
      have hm2 := h.tw.pm.mem_iff.1 hm
      rw [Option.toList_none, List.append_nil, Option.mem_toList] at hm2
      have := ht t hm2
      simp only [Bool.not_eq_true', decide_eq_false_iff_not]
      omega
    show ({ e with lk := [(1, tickL now a), (2, tickL now b)], ts := liveT now e.ts } : Eng) = _
    rw [hl]
  rw [hE]
  exact h.links ha hb rfl
variable {L : List Rt} {ks : List (Int × Int)} {es1 es2 : List Ent} {ts' tb : List Tld} {d : Bool} {lo : List (Int × Int)}
theorem OneL.sel (h : OneL lk0 e p x1 x2 n) (h0 : 0 ≤ p) (h1 : p ≤ 255) (hn : n ≤ 50) (hse : SelE e e' L ks es1 es2 ts' tb d lo) :
    OneL lk0 e' p x1 x2 (n + 1) ∧ routeE e' (pfxA p) (pfxN p) = wayE e (pfxA p) (pfxN p) x1 x2 := by
  obtain ⟨g1, g2, g3, g4⟩ := two_sel hse h.own h.id h.tw (pfx_own p h0 h1) h.srt
  have hel := h.el
  have hll := h.ll
  have htl := h.tw.len
  have hol : e.own.length = 1 := by rw [h.own]; rfl
  have hsl := h.pre.sl
  obtain ⟨q1, q2, q3⟩ := hse.pre h.pre (by omega) (by omega)
  have he := hse.eq
  refine ⟨⟨by rw [he]; exact h.id, by rw [he]; exact h.own, by rw [he]; exact h.lk, by rw [he]; exact h.tw, by rw [he]; exact g4, q1, ?_, ?_, by rw [he]; exact h.st⟩, g2⟩
  · rw [he]
    show es2.length ≤ 3 * (n + 1)
    omega
  · omega
/-- No way by a neighbor that is not heard. -/
theorem OneL.gone {t : Tld} (hw : t.who = 1) (hc : costN e 1 = 65535) (pa pn : Int) : wayE e pa pn (tOpt t) none = none := by
  unfold wayE
  cases hf : feasM (wantE e.es pa pn) t with
  | true =>
    rw [way_t (c := 65535) 1 (by omega) hw hc hf]
    unfold wayT
    rw [if_pos (.inr (.inl rfl))]
    rfl
  | false =>
    rw [way_f hf]
    rfl
end
/-- The links, so many ticks on. -/
def lkA : Nat → Lnk
  | 0 => lkM 96 2
  | k + 1 => tickL (3 + k) (lkA k)
def lkS (k : Nat) (l : Lnk) : Lnk := saysL l ((3 + k) / 3 + 1) 96 (3 + k)
def lkB (other : Bool) : Nat → Lnk
  | 0 => lkM 96 2
  | k + 1 => tickL (3 + k) (if other = true ∧ (3 + (k : Int)) % 3 = 0 then lkS k (lkB other k) else lkB other k)
theorem lkA_ok : ∀ k : Nat, k < 38 → okL (lkA k) = true := by decide +kernel
theorem lkB_ok0 : ∀ k : Nat, k < 38 → okL (lkB false k) = true := by decide +kernel
theorem lkB_ok1 : ∀ k : Nat, k < 38 → okL (lkB true k) = true := by decide +kernel
theorem lkS_ok : ∀ k : Nat, k < 37 → okL (lkS k (lkB true k)) = true := by decide +kernel
theorem lkB_ok (other : Bool) (k : Nat) (h : k < 38) : OkL (lkB other k) := okL_iff (by cases other; exact lkB_ok0 k h; exact lkB_ok1 k h)
theorem lkA_end : costL (lkA 37) = 65535 ∧ costL (lkB false 37) = 65535 ∧ costL (lkB true 37) = 96 := by decide +kernel
end Go.Proofs.YtngnbafididkcaaGreat
