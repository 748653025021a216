/- Engine's laws: a request is heard; Tell with no rows: in plain words. -/
import Derived.Test.YtngnbafididkcaaGreatN40
import Derived.Test.YtngnbafididkcaaGreatN30
namespace Go.Proofs.YtngnbafididkcaaGreat
open Go.RowKit
set_option linter.unusedSimpArgs false

theorem reqE_keeps (e : Eng) (x : Prt) : (reqE e x).ts = e.ts ∧ (reqE e x).lk = e.lk ∧ (reqE e x).id = e.id := by
  unfold reqE
  split
  · exact ⟨rfl, rfl, rfl⟩
  · split
    · split
      · split <;> exact ⟨rfl, rfl, rfl⟩
      · exact ⟨rfl, rfl, rfl⟩
    · split <;> exact ⟨rfl, rfl, rfl⟩
theorem hearE_req {e : Eng} {fr now : Int} {x : Prt} (hid : fr ≠ e.id) (hlk : (getA fr e.lk).isSome = true) (h4 : x.kind = 4) : hearE reqE fr 0 now [x] e = reqE e x := by
  obtain ⟨l, hl⟩ := Option.isSome_iff_exists.1 hlk
  unfold hearE
  rw [if_neg hid, hl]
  simp only [List.foldl_cons, List.foldl_nil, partE, h4, Int.add_zero]
  rw [if_neg (by decide), if_neg (by decide), if_neg (by decide), if_pos trivial]
/-- One request is heard. -/
theorem hearReq_c {lo nx : Nat} {H : AH} {p : Nat} {col : Nat → Nat} {y : ELay} {e : Eng} {fr : Int} {x : Prt} {sv : Value} {own : Nat} {k : Nat} (hA : EngA lo nx H p e y col) (hs : SlA nx H 7 sv 1 (ptCells [x]) own) (hso : ∀ b, b + 1 = own → col b = 0) (h4 : x.kind = 4) (hn : 0 ≤ x.n ∧ x.n ≤ 1000000) (hfr : 0 ≤ fr ∧ fr < 16) (hid : fr ≠ e.id) (hlk : (getA fr e.lk).isSome = true) (now : Int) (hnow : 0 ≤ now ∧ now ≤ 1000000) (hst : -1000000 ≤ e.strange ∧ e.strange ≤ 1000000) (hok : HOk e k) (hk : k + 1 < 256) (hal : e.asks.length ≤ 16) (hsl : e.sel.length ≤ 1000000) :
    ACalls Tryz.prog lo 15 #[.pointer (some ⟨p, 0, none⟩), .agg #[.int .i64 fr, sv], .int .i64 0, .int .u64 now] H nx (fun v H' nx' => v = .tuple #[] ∧ ∃ y' col', EngS lo nx H p col (reqE e x) H' nx' y' col') := by
  have h := ehear_c (fr := fr) (strange := 0) (now := now) (ps := [x]) (rq := reqE) hA hs hso (fun z hz => by rw [List.mem_singleton] at hz; subst hz; exact ⟨by omega, by omega, hn.1, hn.2, by omega⟩) hfr hnow (by omega) hok hk (by simp) reqE_keeps (fun e' z H nx y col hz _ ⟨i, he, hi⟩ hA' => by
    rw [List.mem_singleton] at hz
    subst hz
    have hi0 : i = 0 := by
      have := (List.getElem?_eq_some_iff.1 hi).1
      rw [List.length_singleton] at this
      omega
    subst hi0
    rw [List.take_zero, List.foldl_nil] at he
    subst he
    exact ereq_c hA' z hal hsl hn)
  rw [hearE_req hid hlk h4] at h
  exact h
theorem OneQ.lk1 {q a b : Int} {e : Eng} {p : Int} {x1 x2 : Option Tld} {mk : Option Ent} {n : Nat} (h : OneQ q a b e p x1 x2 mk n) : (getA 1 e.lk).isSome = true := by rw [h.lk]; rfl
theorem OneQ.lk2 {q a b : Int} {e : Eng} {p : Int} {x1 x2 : Option Tld} {mk : Option Ent} {n : Nat} (h : OneQ q a b e p x1 x2 mk n) : (getA 2 e.lk).isSome = true := by rw [h.lk]; rfl
theorem tellE_eq (e : Eng) : tellE e = { e with lost := if e.due = true then [] else e.lost, due := false, asks := [] } := by
  unfold tellE
  by_cases h : e.due = true
  · rw [if_pos h, if_pos h]
  · rw [if_neg h, if_neg h]
    rw [Bool.not_eq_true] at h
    rw [← h]
theorem OneQ.tell {q a b : Int} {e : Eng} {p : Int} {x1 x2 : Option Tld} {mk : Option Ent} {n : Nat} (h : OneQ q a b e p x1 x2 mk n) : OneQ q a b (tellE e) p x1 x2 mk n := by
  rw [tellE_eq]
  have hll : (if e.due = true then [] else e.lost).length ≤ e.lost.length := by split <;> simp
  have h1 := h.ll
  have h2 := h.pre.ll
  exact ⟨h.id, h.own, h.lk, h.tw, h.srt, h.mrk, ⟨h.pre.ow, h.pre.ok, h.pre.px, h.pre.sz, h.pre.lk, h.pre.lc, by simp, h.pre.sl, by show (if e.due = true then [] else e.lost).length ≤ 1000000; omega⟩, h.el, by show (if e.due = true then [] else e.lost).length ≤ _; omega, h.st, h.bd⟩
theorem tellE_route (e : Eng) (a n : Int) : routeE (tellE e) a n = routeE e a n := by rw [tellE_eq]; rfl
/-- Tell, with no rows. -/
theorem etell0_c {lo nx : Nat} {H : AH} {p : Nat} {e : Eng} {y : ELay} {col : Nat → Nat} (hA : EngA lo nx H p e y col) (now : Int) (hnow : 0 ≤ now ∧ now ≤ 1000000 ∧ now % 2 = 1) (hll : e.lost.length ≤ 1000000) (hsl : e.sel.length ≤ 1000) (hal : e.asks.length ≤ 1000) :
    ACalls Tryz.prog lo 28 #[.pointer (some ⟨p, 0, none⟩), .int .u64 now, .slice none 0 0] H nx (fun r H' nx' => ∃ v' y' col' own', r = .tuple #[.agg #[.int .i64 e.id, v'], .bool (decide (0 < ((tellP e (mayE [])).length : Int)))] ∧ EngS lo nx H p col (tellE e) H' nx' y' col' ∧ SlA nx' H' 7 v' (tellP e (mayE [])).length (ptCells (tellP e (mayE []))) own' ∧ (own' = 0 ∨ nx < own') ∧ ∀ b, b + 1 = own' → col' b = 0) :=
  etell_c hA now hnow hll hsl hal (fun r _ H' nx' _ _ => emay_c (rs := []) (SlA.nil _ _ _) (by simp) r)
/-- Of an engine that is told nothing: what Select leaves. -/
theorem SelE.bare {e e' : Eng} {L : List Rt} {ks : List (Int × Int)} {es1 es2 : List Ent} {ts' tb : List Tld} {d : Bool} {lo : List (Int × Int)} (h : SelE e e' L ks es1 es2 ts' tb d lo) (ht : e.ts = []) (hs : e.sel = []) (ha : e.asks = []) (hl : e.lost = []) : e'.asks = [] ∧ e'.lost = [] := by
  have hb := h.bp
  rw [ht] at hb
  have hb0 : tb = [] := List.perm_nil.1 hb
  rw [h.eq, hb0, ha]
  refine ⟨rfl, ?_⟩
  show lo = []
  rcases h.ch with ⟨_, _, h3⟩ | ⟨_, _, h3⟩
  · rw [h3, hl]
  · rw [h3, hl, hs]; rfl
/-- A request that goes on. -/
def hopP (p s n : Int) : Prt := ⟨4, n, 0, pfxA p, pfxN p, s, 0⟩
theorem req_hop {e : Eng} {p s n : Int} (ho : e.own = [(ownPx, 1)]) (h0 : 0 ≤ p) (h1 : p ≤ 255) (hr : routeE e (pfxA p) (pfxN p) = none) (ha : e.asks = []) : reqE e (hopP p s n) = if 0 < n then { e with asks := [hopP p s (n - 1)] } else e := by
  have hg : getA (pfxA p, pfxN p) e.own = none := by
    rw [ho]
    have := pfx_own p h0 h1
    unfold getA
    rw [if_neg (by intro hc; simp only [ownPx, Prod.mk.injEq] at hc; exact this ⟨hc.1.symm, hc.2.symm⟩)]
    rfl
  unfold reqE
  simp only [hopP]
  rw [hg, hr, ha]
  rfl
end Go.Proofs.YtngnbafididkcaaGreat
