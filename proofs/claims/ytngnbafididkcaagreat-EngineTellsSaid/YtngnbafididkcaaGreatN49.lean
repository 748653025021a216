/- EngineTells: in plain words. -/
import Derived.Test.YtngnbafididkcaaGreatN43
import Derived.Test.YtngnbafididkcaaGreatN46
namespace Go.Proofs.YtngnbafididkcaaGreat
open Go.RowKit
set_option linter.unusedSimpArgs false

section
variable {e e' : Eng} {L : List Rt} {ks : List (Int × Int)} {es1 es2 : List Ent} {ts' tb : List Tld} {d : Bool} {lo : List (Int × Int)}
theorem SelE.outs (h : SelE e e' L ks es1 es2 ts' tb d lo) : e'.hello = e.hello ∧ e'.sel = L ∧ e'.due = d ∧ e'.lost = lo := by
  rw [h.eq]
  exact ⟨rfl, rfl, rfl, rfl⟩
theorem SelE.asks0 (h : SelE e e' L ks es1 es2 ts' tb d lo) (ht : e.ts.Perm []) : e'.asks = e.asks := by
  have hb : tb = [] := List.perm_nil.1 (h.bp.trans ht)
  rw [h.eq, hb]
  rfl
end
theorem own_any {L W : List Rt} {q : Int} (hL : L.Perm (ownRq q :: W)) : L.any (fun x => samePx x 201326592 24) = true :=
  List.any_eq_true.2 ⟨ownRq q, hL.mem_iff.2 (List.mem_cons_self), by simp [samePx, ownRq]⟩
theorem lostE_own {L W : List Rt} {q q' : Int} (hL : L.Perm (ownRq q :: W)) : lostE L [ownRq q'] = [] := by
  have h := own_any hL
  have h2 : L.any (fun x => samePx x (ownRq q').addr (ownRq q').len) = true := h
  unfold lostE
  rw [List.filter_cons, h2]
  rfl
theorem lostE_way {L : List Rt} {r : Rt} {q q' : Int} (hL : L.Perm [ownRq q, r]) (hne : ¬ (r.addr = 201326592 ∧ r.len = 24)) : lostE [ownRq q'] L = [(r.addr, r.len)] := by
  have h := (hL.filter (fun r => !([ownRq q'] : List Rt).any fun x => samePx x r.addr r.len)).map (fun r : Rt => (r.addr, r.len))
  have hr : samePx (ownRq q') r.addr r.len = false := by
    simp only [samePx, ownRq, Bool.and_eq_false_iff, decide_eq_false_iff_not]
    by_cases h1 : (201326592 : Int) = r.addr
    · exact .inr (decide_eq_false fun h => hne ⟨h1.symm, h.symm⟩)
    · exact .inl (decide_eq_false h1)
  have ho : samePx (ownRq q') (ownRq q).addr (ownRq q).len = true := by simp [samePx, ownRq]
  rw [List.filter_cons, List.filter_cons] at h
  simp only [List.any_cons, List.any_nil, hr, ho, Bool.or_false, Bool.not_true, Bool.not_false, Bool.false_eq_true, if_false, if_true, List.filter_nil, List.map_cons, List.map_nil] at h
  unfold lostE
  simp only [List.any_cons, List.any_nil, Bool.or_false]
  exact List.perm_singleton.1 h
def rowE (p s m : Int) : RwE := ⟨pfxA p, pfxN p, false, 0, 0, 0, 0, 0, s, m⟩
def minePt : Prt := ⟨3, 0, 0, 201326592, 24, 1, 65535⟩
def theirPt (p s x : Int) (gone safe : Bool) : Prt := if gone = true then ⟨3, 0, 0, pfxA p, pfxN p, 0, 65535⟩ else ⟨3, 0, 0, pfxA p, pfxN p, s, if safe = true then x + 96 else 65535⟩
def safeM (x : Int) (safe : Bool) : Int := if safe = true then x + 96 else x + 97
def wayR (p s x : Int) : Rt := ⟨pfxA p, pfxN p, 1, x + 96, s⟩
theorem may_own {p s m : Int} (hp : 0 ≤ p ∧ p ≤ 255) : mayE [rowE p s m] ownR = false := by
  have hne := pfx_own p hp.1 hp.2
  unfold mayE rowE
  simp only [List.any_cons, List.any_nil, Bool.or_false, Bool.and_eq_false_iff, decide_eq_false_iff_not, ownRq]
  by_cases h1 : pfxA p = 201326592
  · exact .inl (.inr fun h => hne ⟨h1, h⟩)
  · exact .inl (.inl h1)
theorem may_way {p s x : Int} {safe : Bool} : mayE [rowE p s (safeM x safe)] (wayR p s x) = safe := by
  unfold mayE rowE wayR safeM
  simp only [List.any_cons, List.any_nil, Bool.or_false, decide_true, Bool.true_and, nearI_same]
  cases safe
  · simp
  · simp
/-- What is left to tell of: nothing is gone, or the way is. -/
def TellOf (e : Eng) (p s x : Int) (gone : Bool) : Prop :=
  (gone = false ∧ e.lost = [] ∧ e.sel.Perm [ownR, wayR p s x]) ∨ (gone = true ∧ e.lost = [(pfxA p, pfxN p)] ∧ e.sel = [ownR])
theorem tail_ok {e : Eng} {p s x : Int} {gone safe : Bool} (hid : e.id = 0) (hp : 0 ≤ p ∧ p ≤ 255) (h : TellOf e p s x gone) :
    (lostPt e e.lost ++ selPt e (mayE [rowE p s (safeM x safe)]) e.sel).length = 2 ∧ ∀ z ∈ lostPt e e.lost ++ selPt e (mayE [rowE p s (safeM x safe)]) e.sel, z = minePt ∨ z = theirPt p s x gone safe := by
  have hown : (⟨3, 0, e.id, ownR.addr, ownR.len, ownR.seq, if mayE [rowE p s (safeM x safe)] ownR = true then ownR.metric else 65535⟩ : Prt) = minePt := by
    rw [may_own hp, hid]; rfl
  rcases h with ⟨rfl, h1, h2⟩ | ⟨rfl, h1, h2⟩
  · rw [h1]
    have hway : (⟨3, 0, e.id, (wayR p s x).addr, (wayR p s x).len, (wayR p s x).seq, if mayE [rowE p s (safeM x safe)] (wayR p s x) = true then (wayR p s x).metric else 65535⟩ : Prt) = theirPt p s x false safe := by
      rw [may_way, hid]; rfl
    constructor
    · show ([] ++ List.map _ e.sel).length = 2
      rw [List.nil_append, List.length_map, h2.length_eq]
      rfl
    · intro z hz
      have hz : z ∈ selPt e (mayE [rowE p s (safeM x safe)]) e.sel := hz
      unfold selPt at hz
      obtain ⟨r, hr, rfl⟩ := List.mem_map.1 hz
      rcases List.mem_cons.1 (h2.mem_iff.1 hr) with rfl | hr
      · exact .inl hown
      · have := List.mem_singleton.1 hr
        subst this
        exact .inr hway
  · rw [h1, h2]
    have hne := pfx_own p hp.1 hp.2
    have hl : lostPt e [(pfxA p, pfxN p)] = [theirPt p s x true safe] := by
      unfold lostPt
      have hr : samePx ownR (pfxA p) (pfxN p) = false := by
        simp only [samePx, ownRq, Bool.and_eq_false_iff, decide_eq_false_iff_not]
        by_cases h1 : (201326592 : Int) = pfxA p
        · exact .inr fun h => hne ⟨h1.symm, h.symm⟩
        · exact .inl h1
      rw [h2, hid]
      simp only [List.filter_cons, List.any_cons, List.any_nil, hr, Bool.or_false, Bool.not_false, if_true, List.filter_nil, List.map_cons, List.map_nil]
      rfl
    rw [hl]
    unfold selPt
    rw [List.map_cons, List.map_nil, hown]
    refine ⟨rfl, fun z hz => ?_⟩
    simp only [List.cons_append, List.nil_append, List.mem_cons, List.not_mem_nil, or_false] at hz
    rcases hz with rfl | rfl
    · exact .inr rfl
    · exact .inl rfl
theorem keys_met {ks : List Int} (h : ks.Perm ((metE 96 96 2).lk.map (·.1))) (hs : ks.Pairwise (· ≤ ·)) : ks = [1, 2] := by
  have h : ks.Perm [1, 2] := h
  refine List.Perm.eq_of_pairwise (le := fun a b : Int => a ≤ b) (fun a b _ _ h1 h2 => by omega) hs (by simp) h
theorem heard_met {e : Eng} (h : e.lk = (metE 96 96 2).lk) : heardPt e [1, 2] = [⟨2, 0, 1, 0, 0, 0, 96⟩, ⟨2, 0, 2, 0, 0, 0, 96⟩] := by
  have hr : recvL (lkM 96 2) = 96 := by
    unfold recvL
    rw [show (lkM 96 2).came = 3 from rfl]
    decide
  have h1 : recvN e 1 = 96 := by unfold recvN; rw [h]; exact hr
  have h2 : recvN e 2 = 96 := by unfold recvN; rw [h]; exact hr
  unfold heardPt
  rw [List.map_cons, List.map_cons, List.map_nil, h1, h2]
end Go.Proofs.YtngnbafididkcaaGreat
