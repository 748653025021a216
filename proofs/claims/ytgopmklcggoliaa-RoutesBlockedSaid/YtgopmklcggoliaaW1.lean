/- RoutesSelect, plain: the best of a prefix; how many prefixes. -/
import Derived.Test.YtgopmklcggoliaaV5
namespace Go.Proofs.Ytgopmklcggoliaa
open Go.RowKit
set_option linter.unusedSimpArgs false

theorem pfx_mod (a : Int) : pfxA (a % 18) = pfxA a ∧ pfxN (a % 18) = pfxN a := by
  have e1 : a % 18 % 3 = a % 3 := by omega
  have e2 : a % 18 / 3 % 2 = a / 3 % 2 := by omega
  have e3 : a % 18 / 6 % 3 = a / 6 % 3 := by omega
  unfold pfxA pfxN
  rw [e1, e2, e3]
  exact ⟨rfl, rfl⟩

def atR (x : Rt) (a n : Int) : Prop := x.addr = a ∧ x.len = n
def atT (t : Tld) (a n : Int) : Prop := t.addr = a ∧ t.len = n
/-- The best of a prefix, by the neighbors below one. -/
structure BestI (costs : List Int) (feas : Tld → Bool) (l : List Tld) (a n : Int) (b : Int) (o : Option Rt) : Prop where
  nul : o = none → ∀ t ∈ l, atT t a n → t.who < b → rtOf costs feas t = none
  one : ∀ x, o = some x → x.via < b ∧ (∃ t ∈ l, atT t a n ∧ rtOf costs feas t = some x) ∧ ∀ t ∈ l, atT t a n → t.who < b → ∀ z, rtOf costs feas t = some z → betR x z

theorem BestI.start {costs : List Int} {feas : Tld → Bool} {l : List Tld} {a n : Int} (h : ∀ t ∈ l, 0 ≤ t.who) : BestI costs feas l a n 0 none :=
  ⟨fun _ t ht _ hb => absurd (h t ht) (by omega), fun x hx => by cases hx⟩
theorem BestI.skip {costs : List Int} {feas : Tld → Bool} {l : List Tld} {a n b : Int} {o : Option Rt} (h : BestI costs feas l a n b o) (h1 : ∀ t ∈ l, atT t a n → t.who = b → rtOf costs feas t = none) : BestI costs feas l a n (b + 1) o := by
  refine ⟨fun ho t ht hp hb => ?_, fun x hx => ?_⟩
  · by_cases e : t.who = b
    · exact h1 t ht hp e
    · exact h.nul ho t ht hp (by omega)
  · obtain ⟨h2, h3, h4⟩ := h.one x hx
    refine ⟨by omega, h3, fun t ht hp hb z hz => ?_⟩
    by_cases e : t.who = b
    · rw [h1 t ht hp e] at hz; cases hz
    · exact h4 t ht hp (by omega) z hz
theorem BestI.keep {costs : List Int} {feas : Tld → Bool} {l : List Tld} {a n b : Int} {x : Rt} (h : BestI costs feas l a n b (some x)) (h1 : ∀ t ∈ l, atT t a n → t.who = b → ∀ z, rtOf costs feas t = some z → x.metric ≤ z.metric) : BestI costs feas l a n (b + 1) (some x) := by
  refine ⟨fun ho => (by cases ho), fun y hy => ?_⟩
  cases hy
  obtain ⟨h2, h3, h4⟩ := h.one x rfl
  refine ⟨by omega, h3, fun t ht hp hb z hz => ?_⟩
  by_cases e : t.who = b
  · have hv := (rtOf_cho hz).v
    have := h1 t ht hp e z hz
    unfold betR
    omega
  · exact h4 t ht hp (by omega) z hz
theorem BestI.take {costs : List Int} {feas : Tld → Bool} {l : List Tld} {a n b : Int} {o : Option Rt} (hu : UqT l) (h : BestI costs feas l a n b o) {t : Tld} {z : Rt} (ht : t ∈ l) (hp : atT t a n) (hb : t.who = b) (hz : rtOf costs feas t = some z) (h1 : ∀ x, o = some x → z.metric < x.metric) : BestI costs feas l a n (b + 1) (some z) := by
  refine ⟨fun ho => (by cases ho), fun y hy => ?_⟩
  cases hy
  have hv := (rtOf_cho hz).v
  refine ⟨by omega, ⟨t, ht, hp, hz⟩, fun t' ht' hp' hb' z' hz' => ?_⟩
  by_cases e : t'.who = b
  · have : t' = t := told_same2 hu ht ht' ((hitT_iff _ _).2 (by unfold atT at *; omega))
    subst this
    rw [hz] at hz'
    cases hz'
    exact .inr ⟨rfl, Int.le_refl _⟩
  · cases o with
    | none =>
      rw [h.nul rfl t' ht' hp' (by omega)] at hz'
      cases hz'
    | some x =>
      obtain ⟨h2, h3, h4⟩ := h.one x rfl
      have := h4 t' ht' hp' (by omega) z' hz'
      have := h1 x rfl
      unfold betR at *
      omega

theorem BestI.nope {costs : List Int} {feas : Tld → Bool} {l : List Tld} {a n b : Int} {L : List Rt} (hw : ∀ t ∈ l, t.who < b) (hS : SelS (l.filterMap (rtOf costs feas)) L) (h : BestI costs feas l a n b none) : ∀ y ∈ L, ¬ atR y a n := by
  intro y hy hp
  have := hS.sub y hy
  rw [List.mem_filterMap] at this
  obtain ⟨t, ht, hty⟩ := this
  have ch := rtOf_cho hty
  have ca := ch.a; have cl := ch.l
  rw [h.nul rfl t ht (by unfold atR at hp; unfold atT; omega) (hw t ht)] at hty
  cases hty
theorem BestI.chosen {costs : List Int} {feas : Tld → Bool} {l : List Tld} {a n b : Int} {L : List Rt} {x : Rt} (hu : UqT l) (hw : ∀ t ∈ l, t.who < b) (hS : SelS (l.filterMap (rtOf costs feas)) L) (h : BestI costs feas l a n b (some x)) : x ∈ L ∧ atR x a n := by
  obtain ⟨_, ⟨t, ht, hp, hx⟩, h4⟩ := h.one x rfl
  have ch := rtOf_cho hx
  have ca := ch.a; have cl := ch.l; have cv := ch.v
  have hpx : atR x a n := by unfold atT at hp; unfold atR; omega
  obtain ⟨y, hy, hs, hb⟩ := hS.least x (List.mem_filterMap.2 ⟨t, ht, hx⟩)
  have := hS.sub y hy
  rw [List.mem_filterMap] at this
  obtain ⟨t', ht', hty⟩ := this
  have ch' := rtOf_cho hty
  have da := ch'.a; have dl := ch'.l; have dv := ch'.v
  have hb2 := h4 t' ht' (by unfold sameP at hs; unfold atR at hpx; unfold atT; omega) (hw t' ht') y hty
  have : t' = t := told_same2 hu ht ht' ((hitT_iff _ _).2 (by unfold sameP at hs; unfold betR at hb hb2; omega))
  subst this
  rw [hx] at hty
  cases hty
  exact ⟨hy, hpx⟩

/-- How many of them have one of the first so many prefixes. -/
def inK (k : Nat) (y : Rt) : Bool := (List.range k).any fun j => decide (pfxA j = y.addr) && decide (pfxN j = y.len)
theorem inK_iff {k : Nat} {y : Rt} : inK k y = true ↔ ∃ j : Nat, j < k ∧ pfxA j = y.addr ∧ pfxN j = y.len := by
  simp only [inK, List.any_eq_true, List.mem_range, Bool.and_eq_true, decide_eq_true_eq]
def cntK (L : List Rt) (k : Nat) : Nat := L.countP (inK k)
theorem cntK_zero (L : List Rt) : cntK L 0 = 0 := by
  unfold cntK
  rw [List.countP_eq_zero]
  intro y _
  simp [inK]
theorem cntK_all {L : List Rt} (h : ∀ y ∈ L, ∃ a : Int, 0 ≤ a ∧ y.addr = pfxA a ∧ y.len = pfxN a) : cntK L 18 = L.length := by
  unfold cntK
  rw [List.countP_eq_length]
  intro y hy
  obtain ⟨a, a0, h1, h2⟩ := h y hy
  obtain ⟨m1, m2⟩ := pfx_mod a
  rw [inK_iff]
  refine ⟨(a % 18).toNat, by omega, ?_, ?_⟩
  · rw [Int.toNat_of_nonneg (by omega), m1, h1]
  · rw [Int.toNat_of_nonneg (by omega), m2, h2]
theorem inK_succ_other {k : Nat} {y : Rt} (h : ¬ atR y (pfxA k) (pfxN k)) : inK (k + 1) y = inK k y := by
  rw [Bool.eq_iff_iff, inK_iff, inK_iff]
  constructor
  · rintro ⟨j, h1, h2, h3⟩
    by_cases e : j = k
    · subst e
      exact absurd ⟨h2.symm, h3.symm⟩ h
    · exact ⟨j, by omega, h2, h3⟩
  · rintro ⟨j, h1, h2, h3⟩
    exact ⟨j, by omega, h2, h3⟩
theorem cntK_none {L : List Rt} {k : Nat} (h : ∀ y ∈ L, ¬ atR y (pfxA k) (pfxN k)) : cntK L (k + 1) = cntK L k := by
  unfold cntK
  exact List.countP_congr fun y hy => by rw [inK_succ_other (h y hy)]
theorem cntK_old {L : List Rt} {k j : Nat} (hj : j < k) (h1 : pfxA j = pfxA k) (h2 : pfxN j = pfxN k) : cntK L (k + 1) = cntK L k := by
  unfold cntK
  refine List.countP_congr fun y hy => ?_
  by_cases h : atR y (pfxA k) (pfxN k)
  · have e1 : inK (k + 1) y = true := inK_iff.2 ⟨k, by omega, h.1.symm, h.2.symm⟩
    have e2 : inK k y = true := inK_iff.2 ⟨j, hj, by rw [h1, h.1], by rw [h2, h.2]⟩
    rw [e1, e2]
  · rw [inK_succ_other h]
theorem atR_uniq {L : List Rt} (hs : L.Pairwise lessR) {i j : Nat} {x y : Rt} (hx : L[i]? = some x) (hy : L[j]? = some y) {a n : Int} (h1 : atR x a n) (h2 : atR y a n) : i = j := by
  obtain ⟨hi, rfl⟩ := List.getElem?_eq_some_iff.1 hx
  obtain ⟨hj, rfl⟩ := List.getElem?_eq_some_iff.1 hy
  rw [List.pairwise_iff_getElem] at hs
  rcases Nat.lt_trichotomy i j with h | h | h
  · have := hs i j hi hj h
    unfold lessR ltP at this; unfold atR at h1 h2; omega
  · exact h
  · have := hs j i hj hi h
    unfold lessR ltP at this; unfold atR at h1 h2; omega
theorem cntK_new : ∀ {L : List Rt} {k : Nat} {y : Rt}, L.Pairwise lessR → y ∈ L → atR y (pfxA k) (pfxN k) → (∀ j : Nat, j < k → ¬ (pfxA j = pfxA k ∧ pfxN j = pfxN k)) → cntK L (k + 1) = cntK L k + 1
  | [], _, _, _, hy, _, _ => by cases hy
  | x :: r, k, y, hs, hy, hp, hj => by
    rw [List.pairwise_cons] at hs
    have hself : ∀ z : Rt, atR z (pfxA k) (pfxN k) → inK (k + 1) z = true ∧ inK k z = false := fun z hz => by
      refine ⟨inK_iff.2 ⟨k, by omega, hz.1.symm, hz.2.symm⟩, ?_⟩
      rw [Bool.eq_false_iff]
      intro h
      obtain ⟨j, h1, h2, h3⟩ := inK_iff.1 h
      exact hj j h1 ⟨h2.trans hz.1, h3.trans hz.2⟩
    unfold cntK
    rw [List.countP_cons, List.countP_cons]
    rcases List.mem_cons.1 hy with rfl | hy
    · obtain ⟨e1, e2⟩ := hself y hp
      have hr : cntK r (k + 1) = cntK r k := cntK_none fun z hz hpz => by
        have := hs.1 z hz
        unfold lessR ltP at this; unfold atR at hp hpz; omega
      unfold cntK at hr
      rw [e1, e2, hr]
      simp
    · have hx : ¬ atR x (pfxA k) (pfxN k) := fun hx => by
        have := hs.1 y hy
        unfold lessR ltP at this; unfold atR at hp hx; omega
      have hr := cntK_new hs.2 hy hp hj
      unfold cntK at hr
      rw [inK_succ_other hx, hr]
      omega
end Go.Proofs.Ytgopmklcggoliaa
