/- Engine's laws: what is told, in plain words; priced; an update is heard. -/
import Derived.Test.YtngnbafididkcaaGreatN26
namespace Go.Proofs.YtngnbafididkcaaGreat
open Go.RowKit
set_option linter.unusedSimpArgs false

theorem priced17_c {lo nx : Nat} {H : AH} (c : Int) (h0 : 0 ≤ c ∧ c ≤ 65535) : ACalls Tryz.prog lo 20 #[.int .u16 c] H nx (fun v H' nx' => v = .int .i64 (max c 1) ∧ nx' = nx ∧ H' = H) := by
  refine acalls_of_awp L20 Tryz.func20 rfl (by kernel_rfl) ?_
  by_cases hc : c = 0
  · subst hc
    simp (disch := omega) only [go_sem, ↓reduceIte ]
    rfl
  · simp (disch := omega) only [go_sem, ↓reduceIte ]
    congr 1
    omega
def tldOf (fr : Int) (x : Prt) (now : Int) : Tld := ⟨x.addr, x.len, fr, x.node, x.seq, x.metric, now + 50⟩
def tOpt (t : Tld) : Option Tld := if t.metric = 65535 then none else some t
theorem toldR_opt (t : Tld) : toldR t = (tOpt t).toList := by
  unfold toldR tOpt
  split <;> rfl
theorem hearE_upd {e : Eng} {fr now : Int} {x : Prt} (hid : fr ≠ e.id) (hlk : (getA fr e.lk).isSome = true) (h3 : x.kind = 3) (hno : getA (x.addr, x.len) e.own = none) :
    hearE noRq fr 0 now [x] e = { e with ts := delK (tldOf fr x now) e.ts ++ toldR (tldOf fr x now) } := by
  obtain ⟨l, hl⟩ := Option.isSome_iff_exists.1 hlk
  unfold hearE
  rw [if_neg hid, hl]
  simp only [List.foldl_cons, List.foldl_nil, partE, h3, Int.add_zero]
  rw [if_neg (by decide), if_neg (by decide), if_pos trivial]
  simp only [hno, Option.isSome_none, Bool.false_eq_true, if_false]
  rfl
theorem pre_ts {e : Eng} {ts : List Tld} (h : EngPre e) (ht : ∀ t ∈ ts, TdOk t ∧ 0 ≤ t.metric ∧ t.metric ≤ 65535 ∧ pxRightC t.addr t.len = true) (hz : e.es.length + e.own.length + ts.length ≤ 200) : EngPre { e with ts := ts } :=
  ⟨h.ow, fun t hm => ⟨(ht t hm).1, (ht t hm).2.1, (ht t hm).2.2.1⟩, fun t hm => (ht t hm).2.2.2, hz, h.lk, h.lc, h.al, h.sl, h.ll⟩
def updP (a s m : Int) : Prt := ⟨3, 0, 3, pfxA a, pfxN a, s, m⟩
theorem pfx_own (a : Int) (h0 : 0 ≤ a) (h1 : a ≤ 255) : ¬ (pfxA a = 201326592 ∧ pfxN a = 24) := by
  have : ∀ a : Nat, a < 256 → ¬ (pfxA a = 201326592 ∧ pfxN a = 24) := by decide +kernel
  have h := this a.toNat (by omega)
  rwa [Int.toNat_of_nonneg h0] at h
theorem upd_ok {a s m : Int} (_h0 : 0 ≤ a) (_h1 : a ≤ 255) : PtOk (updP a s m) := by
  have h := pfx_range a
  exact updOk h.2.2.2.2 ⟨h.1, h.2.1⟩ ⟨h.2.2.1, h.2.2.2.1⟩ (by omega)
theorem upd_td {fr a s m now : Int} (hf : 0 ≤ fr ∧ fr < 16) (hm : 0 ≤ m ∧ m ≤ 65535) : TdOk (tldOf fr (updP a s m) now) ∧ 0 ≤ (tldOf fr (updP a s m) now).metric ∧ (tldOf fr (updP a s m) now).metric ≤ 65535 ∧ pxRightC (tldOf fr (updP a s m) now).addr (tldOf fr (updP a s m) now).len = true := by
  have h := pfx_range a
  exact ⟨⟨h.1, h.2.1, h.2.2.1, h.2.2.2.1, hf.1, hf.2⟩, hm.1, hm.2, h.2.2.2.2⟩
theorem costN_lk {e e' : Eng} (h : e.lk = e'.lk) (n : Int) : costN e n = costN e' n := by unfold costN; rw [h]
theorem costN_met1 (a b : Int) : costN (metE a b 2) 1 = max a 1 := by
  have h : recvL (lkM a 2) = 96 := by
    unfold recvL
    rw [show (lkM a 2).came = 3 from rfl]
    decide
  have hc : costN (metE a b 2) 1 = costL (lkM a 2) := rfl
  rw [hc]
  unfold costL
  rw [h, if_neg (by decide)]
  rfl
theorem costN_met2 (a b : Int) : costN (metE a b 2) 2 = max b 1 := by
  have h : recvL (lkM b 2) = 96 := by
    unfold recvL
    rw [show (lkM b 2).came = 3 from rfl]
    decide
  have hc : costN (metE a b 2) 2 = costL (lkM b 2) := rfl
  rw [hc]
  unfold costL
  rw [h, if_neg (by decide)]
  rfl
theorem costsE_at {e : Eng} (n : Nat) (h : n < 16) : (costsE e)[n]? = some (costN e n) := by
  unfold costsE
  rw [List.getElem?_map, List.getElem?_range h]
  rfl
/-- The way by one who has told of it. -/
def wayT (pa pn who s m c : Int) : Option Rt := if m = 65535 ∨ c = 65535 ∨ 65535 ≤ m + c then none else some ⟨pa, pn, who, m + c, s⟩
theorem way_t {e : Eng} {t : Tld} {o : Option Ent} {c : Int} (n : Nat) (hn : n < 16) (hw : t.who = n) (hc : costN e n = c) (hf : feasM o t = true) : (tOpt t).bind (rtOf (costsE e) (feasM o)) = wayT t.addr t.len n t.seq t.metric c := by
  unfold tOpt wayT
  by_cases hm : t.metric = 65535
  · rw [if_pos hm, if_pos (.inl hm)]; rfl
  · rw [if_neg hm, Option.bind_some]
    unfold rtOf
    rw [hw, Int.toNat_natCast, costsE_at n hn, hc]
    simp only [hf, Bool.true_eq_false, or_false, hm, false_or]
theorem way_f {e : Eng} {t : Tld} {o : Option Ent} (hf : feasM o t = false) : (tOpt t).bind (rtOf (costsE e) (feasM o)) = none := by
  unfold tOpt
  by_cases hm : t.metric = 65535
  · rw [if_pos hm]; rfl
  · rw [if_neg hm, Option.bind_some]
    unfold rtOf
    split
    · rfl
    · rw [if_pos (.inr (.inr hf))]
end Go.Proofs.YtngnbafididkcaaGreat
