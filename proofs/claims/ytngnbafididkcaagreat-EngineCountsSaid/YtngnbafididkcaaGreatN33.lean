/- Engine: many are told of by one, in plain words. -/
import Derived.Test.YtngnbafididkcaaGreatN32
namespace Go.Proofs.YtngnbafididkcaaGreat
open Go.RowKit
set_option linter.unusedSimpArgs false

/-- An engine that has been told of k prefixes, by 1, and never chose. -/
structure ManyE (e : Eng) (k : Nat) : Prop where
  id : e.id = 0
  own : e.own = [(ownPx, 1)]
  lk : e.lk = (metE 96 96 2).lk
  es : e.es = []
  told : ToldOk e
  pre : EngPre e
  tl : e.ts.length ≤ k
  sl : e.sel = []
  ll : e.lost = []
  cn : e.bad = 0 ∧ e.strange = 0 ∧ e.full = 0 ∧ e.noroom = 0
theorem costs_met {e : Eng} (h : e.lk = (metE 96 96 2).lk) : ∀ c ∈ costsE e, 1 ≤ c := by
  have h1 : costsE e = costsE (metE 96 96 2) := by
    unfold costsE
    exact List.map_congr_left fun n _ => costN_lk h _
  rw [h1]
  decide +kernel
theorem ManyE.start : ManyE (metE 96 96 2) 0 :=
  ⟨rfl, rfl, rfl, rfl, ⟨by simp [metE, UqT], by simp [metE], by simp [metE], costs_met rfl⟩, metE_pre 96 96 (by omega) (by omega), by simp [metE], rfl, rfl, rfl, rfl, rfl, rfl⟩
theorem ManyE.hok {e : Eng} {k : Nat} (h : ManyE e k) : HOk e k := ⟨h.told.uq, h.tl, by rw [h.lk]; exact (metE_ok 96 96 2 (by omega) (by omega)).ln⟩
theorem ManyE.hear {e : Eng} {k : Nat} (h : ManyE e k) {p m s : Int} (h0 : 0 ≤ p) (h1 : p ≤ 255) (hm : 0 ≤ m ∧ m ≤ 65535) (hs : 0 ≤ s ∧ s ≤ 1000) (hk : k ≤ 100) : ManyE (hearE noRq 1 0 2 [updP p s m] e) (k + 1) := by
  have hno := pfx_own p h0 h1
  rw [hearE_upd (by rw [h.id]; omega) (by rw [h.lk]; rfl) rfl (by
    show getA (pfxA p, pfxN p) e.own = none
    rw [h.own]
    unfold getA
    rw [if_neg (by intro hc; simp only [ownPx, Prod.mk.injEq] at hc; exact hno ⟨hc.1.symm, hc.2.symm⟩)]
    rfl)]
  have hmem : ∀ t ∈ delK (tldOf 1 (updP p s m) 2) e.ts ++ toldR (tldOf 1 (updP p s m) 2), t ∈ e.ts ∨ t = tldOf 1 (updP p s m) 2 := fun t ht => by
    rcases List.mem_append.1 ht with ht | ht
    · exact .inl (List.mem_filter.1 ht).1
    · unfold toldR at ht
      split at ht
      · cases ht
      · exact .inr (List.mem_singleton.1 ht)
  have hlen : (delK (tldOf 1 (updP p s m) 2) e.ts ++ toldR (tldOf 1 (updP p s m) 2)).length ≤ k + 1 := by
    have h1 := delK_len (tldOf 1 (updP p s m) 2) e.ts
    have h2 : (toldR (tldOf 1 (updP p s m) 2)).length ≤ 1 := by unfold toldR; split <;> simp
    have := h.tl
    rw [List.length_append]
    omega
  refine ⟨h.id, h.own, h.lk, h.es, ⟨uq_told h.told.uq _, fun t ht => ?_, fun t ht => ?_, costs_met h.lk⟩, pre_ts h.pre (fun t ht => ?_) ?_, hlen, h.sl, h.ll, h.cn⟩
  · rcases hmem t ht with ht | rfl
    · exact h.told.sq t ht
    · exact hs
  · rcases hmem t ht with ht | rfl
    · exact h.told.no t ht
    · exact hno
  · rcases hmem t ht with ht | rfl
    · have := h.pre.ok t ht
      exact ⟨this.1, this.2.1, this.2.2, h.pre.px t ht⟩
    · exact upd_td (by omega) hm
  · rw [h.es, h.own]
    show 0 + 1 + _ ≤ 200
    omega
section
variable {e e' : Eng} {L : List Rt} {ks : List (Int × Int)} {es1 es2 : List Ent} {ts' tb : List Tld} {d : Bool} {lo : List (Int × Int)} {k : Nat}
theorem ManyE.sel (h : ManyE e k) (hk : k ≤ 30) (hse : SelE e e' L ks es1 es2 ts' tb d lo) : EngPre e' ∧ es2.length ≤ 1 + k ∧ (∀ x ∈ es1, EntOk x) ∧ wantE es1 201326592 24 = some ⟨201326592, 24, 1, 0⟩ ∧ L.length ≤ 1 + k ∧ HOk e' k := by
  have hel : e.es.length = 0 := by rw [h.es]; rfl
  have hol : e.own.length = 1 := by rw [h.own]; rfl
  have htl := h.tl
  obtain ⟨q1, q2, q3⟩ := hse.pre h.pre (by omega) (by rw [h.ll, h.sl]; simp)
  have hl1 := hse.l1
  rw [hse.own1 h.own h.id, h.es] at hl1
  obtain ⟨z, g1, g2⟩ := hl1
  have hz : es1 = z := g2
  refine ⟨q1, by omega, ?_, ?_, ?_, ?_⟩
  · rw [hz]
    exact g1.ok (by simp) (by decide) (by decide)
  · rw [hz, g1.want List.Pairwise.nil, if_pos ⟨rfl, rfl⟩]
    rfl
  · rw [(many_diff hse h.told h.own h.id).2.length_eq, List.length_cons]
    have hr := selR_len (costsE e) (feasE es1) ts' ts'.length
    rw [List.take_length, hse.tp.length_eq] at hr
    omega
  · rw [hse.eq]
    exact ⟨h.told.uq, h.tl, h.hok.ln⟩
end
end Go.Proofs.YtngnbafididkcaaGreat
