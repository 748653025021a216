/- Engine's laws: Tell with no rows: in plain words. -/
import Derived.Test.YtngnbafididkcaaGreatN40
import Derived.Test.YtngnbafididkcaaGreatN30
namespace Go.Proofs.YtngnbafididkcaaGreat
open Go.RowKit
set_option linter.unusedSimpArgs false

theorem OneQ.lk1 {q a b : Int} {e : Eng} {p : Int} {x1 x2 : Option Tld} {mk : Option Ent} {n : Nat} (h : OneQ q a b e p x1 x2 mk n) : (getA 1 e.lk).isSome = true := by rw [h.lk]; rfl
theorem OneQ.lk2 {q a b : Int} {e : Eng} {p : Int} {x1 x2 : Option Tld} {mk : Option Ent} {n : Nat} (h : OneQ q a b e p x1 x2 mk n) : (getA 2 e.lk).isSome = true := by rw [h.lk]; rfl
theorem tellE_eq (e : Eng) : tellE e = { e with lost := if e.due = true then [] else e.lost, due := false, asks := [] } := by
  unfold tellE
  by_cases h : e.due = true
  · rw [if_pos h, if_pos h]
  · rw [if_neg h, if_neg h]
    rw [Bool.not_eq_true] at h
    rw [← h]
theorem OneQ.tell {q a b : Int} {e : Eng} {p : Int} {x1 x2 : Option Tld} {mk : Option Ent} {n : Nat} (h : OneQ q a b e p x1 x2 mk n) : OneQ q a b (tellE e) p x1 x2 mk n := by
  rw [tellE_eq]
  have hll : (if e.due = true then [] else e.lost).length ≤ e.lost.length := by split <;> simp
  have h1 := h.ll
  have h2 := h.pre.ll
  exact ⟨h.id, h.own, h.lk, h.tw, h.srt, h.mrk, ⟨h.pre.ow, h.pre.ok, h.pre.px, h.pre.sz, h.pre.lk, h.pre.lc, by simp, h.pre.sl, by show (if e.due = true then [] else e.lost).length ≤ 1000000; omega⟩, h.el, by show (if e.due = true then [] else e.lost).length ≤ _; omega, h.st, h.bd⟩
theorem tellE_route (e : Eng) (a n : Int) : routeE (tellE e) a n = routeE e a n := by rw [tellE_eq]; rfl
/-- Tell, with no rows. -/
theorem etell0_c {lo nx : Nat} {H : AH} {p : Nat} {e : Eng} {y : ELay} {col : Nat → Nat} (hA : EngA lo nx H p e y col) (now : Int) (hnow : 0 ≤ now ∧ now ≤ 1000000 ∧ now % 2 = 1) (hll : e.lost.length ≤ 1000000) (hsl : e.sel.length ≤ 1000) (hal : e.asks.length ≤ 1000) :
    ACalls Tryz.prog lo 28 #[.pointer (some ⟨p, 0, none⟩), .int .u64 now, .slice none 0 0] H nx (fun r H' nx' => ∃ v' y' col' own', r = .tuple #[.agg #[.int .i64 e.id, v'], .bool (decide (0 < ((tellP e (mayE [])).length : Int)))] ∧ EngS lo nx H p col (tellE e) H' nx' y' col' ∧ SlA nx' H' 7 v' (tellP e (mayE [])).length (ptCells (tellP e (mayE []))) own' ∧ (own' = 0 ∨ nx < own') ∧ ∀ b, b + 1 = own' → col' b = 0) :=
  etell_c hA now hnow hll hsl hal (fun r _ H' nx' _ _ => emay_c (rs := []) (SlA.nil _ _ _) (by simp) r)
/-- Of an engine that is told nothing: what Select leaves. -/
theorem SelE.bare {e e' : Eng} {L : List Rt} {ks : List (Int × Int)} {es1 es2 : List Ent} {ts' tb : List Tld} {d : Bool} {lo : List (Int × Int)} (h : SelE e e' L ks es1 es2 ts' tb d lo) (ht : e.ts = []) (hs : e.sel = []) (ha : e.asks = []) (hl : e.lost = []) : e'.asks = [] ∧ e'.lost = [] := by
  have hb := h.bp
  rw [ht] at hb
  have hb0 : tb = [] := List.perm_nil.1 hb
  rw [h.eq, hb0, ha]
  refine ⟨rfl, ?_⟩
  show lo = []
  rcases h.ch with ⟨_, _, h3⟩ | ⟨_, _, h3⟩
  · rw [h3, hl]
  · rw [h3, hl, hs]; rfl
end Go.Proofs.YtngnbafididkcaaGreat
