/- EngineAsks: in plain words. -/
import Derived.Test.YtngnbafididkcaaGreatN41
namespace Go.Proofs.YtngnbafididkcaaGreat
open Go.RowKit
set_option linter.unusedSimpArgs false

theorem nextI_newer (s : Int) (_h : 0 ≤ s ∧ s ≤ 65535) : newI (nextI s) s = true := by
  have hn : nextI s = (s + 1) % 65536 := by
    unfold nextI
    simp only [IntKind.wrap, IntKind.bits, IntKind.signed]
    simp
  unfold newI
  rw [hn]
  simp only [Bool.and_eq_true, decide_eq_true_eq]
  omega
theorem nextI_rng (s : Int) : 0 ≤ nextI s ∧ nextI s ≤ 65535 := by
  have hn : nextI s = (s + 1) % 65536 := by
    unfold nextI
    simp only [IntKind.wrap, IntKind.bits, IntKind.signed]
    simp
  rw [hn]
  omega
/-- What is asked for, as one prefix is told of alone. -/
theorem SelE.asks1 {e e' : Eng} {L : List Rt} {ks : List (Int × Int)} {es1 es2 : List Ent} {ts' tb : List Tld} {d : Bool} {lo : List (Int × Int)} (h : SelE e e' L ks es1 es2 ts' tb d lo) {t : Tld} (ht : e.ts.Perm [t]) (hs : SortE e'.es) :
    e'.asks = if feasM (wantE e'.es t.addr t.len) t = true then e.asks else blkE e'.es e'.sel e.asks ⟨t.addr, t.len, t.who, 0, 0⟩ := by
  have he := h.eq
  have hb : tb = [t] := List.perm_singleton.1 (h.bp.trans ht)
  have h1 : e'.es = es2 := by rw [he]
  have h2 : e'.sel = L := by rw [he]
  rw [h1] at hs
  rw [h1, h2, he]
  show (blR (goodP (feasE es2) tb) tb).foldl (blkE es2 L) e.asks = _
  have hg : goodP (feasE es2) [t] t.addr t.len = feasM (wantE es2 t.addr t.len) t := by
    unfold goodP goodAt
    simp [feasE_M hs]
  rw [hb]
  unfold blR
  rw [List.filterMap_cons, List.filterMap_nil]
  unfold blOf
  rw [hg]
  by_cases hf : feasM (wantE es2 t.addr t.len) t = true
  · rw [if_pos hf, if_pos hf]; rfl
  · rw [if_neg hf, if_neg hf]; rfl
section
variable {q : Int} {e : Eng} {p s x now : Int} {mk : Option Ent} {n : Nat}
theorem OneQ.ts1 (h : OneQ q 96 96 e p (tOpt (tldOf 1 (updP p s x) now)) none mk n) (hx : x ≠ 65535) : e.ts.Perm [tldOf 1 (updP p s x) now] := by
  have h1 := h.tw.pm
  have : tOpt (tldOf 1 (updP p s x) now) = some (tldOf 1 (updP p s x) now) := if_neg hx
  rw [this] at h1
  exact h1
/-- The way, if it is feasible. -/
theorem ask_way (h : OneQ q 96 96 e p (tOpt (tldOf 1 (updP p s x) now)) none mk n) (hx : x ≤ 60097) (hf : feasM mk (tldOf 1 (updP p s x) now) = true) : wayE e (pfxA p) (pfxN p) (tOpt (tldOf 1 (updP p s x) now)) none = some ⟨pfxA p, pfxN p, 1, x + 96, s⟩ := by
  rw [h.way, way_t (t := tldOf 1 (updP p s x) now) (c := 96) 1 (by omega) (by rfl) (by rw [show ((1 : Nat) : Int) = 1 from rfl, h.cost1]; rfl) hf]
  show pick2 (wayT (pfxA p) (pfxN p) 1 s x 96) none = _
  unfold wayT
  rw [if_neg (by omega)]
  rfl
theorem ask_none (h : OneQ q 96 96 e p (tOpt (tldOf 1 (updP p s x) now)) none mk n) (hf : feasM mk (tldOf 1 (updP p s x) now) = false) : wayE e (pfxA p) (pfxN p) (tOpt (tldOf 1 (updP p s x) now)) none = none := by
  rw [h.way, way_f hf]
  rfl
theorem feas_next (hs : 0 ≤ s ∧ s ≤ 65535) (pa pn m : Int) : feasM (some ⟨pa, pn, s, m⟩) (tldOf 1 (updP p (nextI s) x) now) = true := by
  unfold feasM
  simp only [Bool.or_eq_true, decide_eq_true_eq]
  right
  show nearI (nextI s) x s m = true
  unfold nearI
  rw [nextI_newer s hs]
  rfl
end
/-- The way to its own prefix. -/
theorem route_own {q : Int} {e : Eng} {L : List Rt} {W : Option Rt} {pa pn : Int} (hsel : e.sel = L) (hL : L.Perm (ownRq q :: W.toList)) (hW : ∀ r, W = some r → r.addr = pa ∧ r.len = pn) (hne : ¬ (pa = 201326592 ∧ pn = 24)) : routeE e 201326592 24 = some (ownRq q) := by
  unfold routeE
  rw [hsel, find_perm (m := ownRq q :: W.toList) hL (fun x hx y hy qx qy => by
    have key : ∀ z ∈ ownRq q :: W.toList, samePx z 201326592 24 = true → z = ownRq q := fun z hz hq => by
      rcases List.mem_cons.1 hz with rfl | hz
      · rfl
      · rw [Option.mem_toList] at hz
        have := hW z hz
        simp only [samePx, Bool.and_eq_true, decide_eq_true_eq] at hq
        omega
    rw [key x hx qx, key y hy qy])]
  rw [List.find?_cons_of_pos (by simp [samePx, ownRq])]
/-- A request for what is blocked. -/
def askP (p s : Int) : Prt := ⟨4, 8, 0, pfxA p, pfxN p, nextI s, 0⟩
theorem blk_ask {es : List Ent} {L : List Rt} {p s m w : Int} {q : Int} (hw : wantE es (pfxA p) (pfxN p) = some ⟨pfxA p, pfxN p, s, m⟩) (hL : L.Perm [ownRq q]) (h0 : 0 ≤ p) (h1 : p ≤ 255) : blkE es L [] ⟨pfxA p, pfxN p, w, 0, 0⟩ = [askP p s] := by
  have hLe : L = [ownRq q] := List.perm_singleton.1 hL
  have hno : samePx (ownRq q) (pfxA p) (pfxN p) = false := by
    have hne := pfx_own p h0 h1
    simp only [samePx, ownRq, Bool.and_eq_false_iff, decide_eq_false_iff_not]
    by_cases h1 : (201326592 : Int) = pfxA p
    · exact .inr (decide_eq_false fun h => hne ⟨h1.symm, h.symm⟩)
    · exact .inl (decide_eq_false h1)
  unfold blkE
  simp only [hw, hLe, List.any_cons, List.any_nil, hno, Bool.or_false, Bool.false_eq_true, if_false]
  rfl
def isAsk (p s : Int) (z : Prt) : Bool := decide (z.kind = 4) && (decide (z.n = 8) && (decide (z.node = 0) && (decide (z.addr = pfxA p) && (decide (z.len = pfxN p) && (decide (z.seq = nextI s) && decide (z.metric = 0))))))
theorem isAsk_self (p s : Int) : isAsk p s (askP p s) = true := by
  simp [isAsk, askP]
end Go.Proofs.YtngnbafididkcaaGreat
