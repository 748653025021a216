/- What Select chooses: of each prefix the least. Marks that are lowered; what is chosen stays so. Plain. -/
import Derived.Test.YtngnbafididkcaaGreatR9
import Derived.Test.YtngnbafididkcaaGreatU2
import Derived.Test.YtngnbafididkcaaGreatU7
import Derived.Test.YtngnbafididkcaaGreatT2
section
namespace Go.Proofs.YtngnbafididkcaaGreat
open Go.RowKit
set_option linter.unusedSimpArgs false

def sameP (x y : Rt) : Prop := x.addr = y.addr ∧ x.len = y.len
def lessR (x y : Rt) : Prop := ltP x.addr x.len y.addr y.len
def betR (y z : Rt) : Prop := y.metric < z.metric ∨ (y.metric = z.metric ∧ y.via ≤ z.via)
structure SelS (xs l : List Rt) : Prop where
  srt : l.Pairwise lessR
  sub : ∀ x ∈ l, x ∈ xs
  least : ∀ z ∈ xs, ∃ y ∈ l, sameP y z ∧ betR y z
def ordR (x y : Rt) : Prop := lessR x y ∨ (sameP x y ∧ x.via < y.via)

theorem lessR_trans {x y z : Rt} (h1 : lessR x y) (h2 : lessR y z) : lessR x z := by
  unfold lessR ltP at *; omega
theorem lessR_same {x y z : Rt} (h1 : lessR x y) (h2 : sameP y z) : lessR x z := by
  unfold lessR ltP sameP at *; omega

theorem selPut_S {a l : List Rt} {x : Rt} (h : SelS a l) (hs : (a ++ [x]).Pairwise ordR) : SelS (a ++ [x]) (selPut l x) := by
  have hax : ∀ z ∈ a, ordR z x := fun z hz => (List.pairwise_append.1 hs).2.2 z hz x (by simp)
  rcases List.eq_nil_or_concat l with rfl | ⟨l0, y, hl⟩
  · have ha : a = [] := by
      cases a with
      | nil => rfl
      | cons z r =>
        obtain ⟨y, hy, _⟩ := h.least z (by simp)
        cases hy
    subst ha
    exact ⟨by simp [selPut], by simp [selPut], fun z hz => ⟨z, by simpa [selPut] using hz, ⟨rfl, rfl⟩, .inr ⟨rfl, Int.le_refl _⟩⟩⟩
  · rw [List.concat_eq_append] at hl
    have hlast : l.getLast? = some y := by rw [hl]; simp
    have hya : y ∈ a := h.sub y (by rw [hl]; simp)
    have hyx := hax y hya
    have hsrt := h.srt
    rw [hl, List.pairwise_append] at hsrt
    obtain ⟨s1, _, s3⟩ := hsrt
    unfold selPut
    rw [hlast]
    simp only
    by_cases hp : y.addr = x.addr ∧ y.len = x.len
    · rw [if_pos hp]
      by_cases hm : x.metric < y.metric
      · rw [if_pos hm]
        have hset : l.set (l.length - 1) x = l0 ++ [x] := by
          rw [hl]
          simp
        rw [hset]
        refine ⟨?_, fun u hu => ?_, fun z hz => ?_⟩
        · rw [List.pairwise_append]
          refine ⟨s1, by simp, fun u hu w hw => ?_⟩
          rw [List.mem_singleton] at hw
          subst hw
          exact lessR_same (s3 u hu y (by simp)) hp
        · rcases List.mem_append.1 hu with hu | hu
          · exact List.mem_append.2 (.inl (h.sub u (by rw [hl]; exact List.mem_append.2 (.inl hu))))
          · exact List.mem_append.2 (.inr hu)
        · rcases List.mem_append.1 hz with hz | hz
          · obtain ⟨w, hw, hw1, hw2⟩ := h.least z hz
            rw [hl] at hw
            rcases List.mem_append.1 hw with hw | hw
            · exact ⟨w, List.mem_append.2 (.inl hw), hw1, hw2⟩
            · rw [List.mem_singleton] at hw
              subst hw
              refine ⟨x, by simp, ?_, ?_⟩
              · unfold sameP at *; omega
              · unfold betR at *; omega
          · rw [List.mem_singleton] at hz
            subst hz
            exact ⟨z, by simp, ⟨rfl, rfl⟩, .inr ⟨rfl, Int.le_refl _⟩⟩
      · rw [if_neg hm]
        refine ⟨h.srt, fun u hu => List.mem_append.2 (.inl (h.sub u hu)), fun z hz => ?_⟩
        rcases List.mem_append.1 hz with hz | hz
        · exact h.least z hz
        · rw [List.mem_singleton] at hz
          subst hz
          refine ⟨y, by rw [hl]; simp, hp, ?_⟩
          unfold ordR lessR ltP at hyx
          unfold betR
          omega
    · rw [if_neg hp]
      have hlt : lessR y x := by
        rcases hyx with h1 | h1
        · exact h1
        · exact absurd h1.1 hp
      refine ⟨?_, fun u hu => ?_, fun z hz => ?_⟩
      · rw [List.pairwise_append]
        refine ⟨h.srt, by simp, fun u hu w hw => ?_⟩
        rw [List.mem_singleton] at hw
        subst hw
        rw [hl] at hu
        rcases List.mem_append.1 hu with hu | hu
        · exact lessR_trans (s3 u hu y (by simp)) hlt
        · rw [List.mem_singleton] at hu
          subst hu
          exact hlt
      · rcases List.mem_append.1 hu with hu | hu
        · exact List.mem_append.2 (.inl (h.sub u hu))
        · exact List.mem_append.2 (.inr hu)
      · rcases List.mem_append.1 hz with hz | hz
        · obtain ⟨w, hw, hw1⟩ := h.least z hz
          exact ⟨w, List.mem_append.2 (.inl hw), hw1⟩
        · exact ⟨z, List.mem_append.2 (.inr hz), ⟨rfl, rfl⟩, by rw [List.mem_singleton] at hz; exact .inr ⟨rfl, Int.le_refl _⟩⟩

theorem fold_S : ∀ (b a l : List Rt), SelS a l → (a ++ b).Pairwise ordR → SelS (a ++ b) (b.foldl selPut l)
  | [], a, l, h, _ => by simpa using h
  | x :: r, a, l, h, hs => by
    have e : a ++ x :: r = (a ++ [x]) ++ r := by simp
    rw [e] at hs ⊢
    rw [List.foldl_cons]
    exact fold_S r (a ++ [x]) (selPut l x) (selPut_S h (List.pairwise_append.1 hs).1) hs

/-- The routes that may be. -/
def rtOf (costs : List Int) (feas : Tld → Bool) (t : Tld) : Option Rt :=
  match costs[t.who.toNat]? with
  | none => none
  | some c => if c = 65535 ∨ 65535 ≤ t.metric + c ∨ feas t = false then none else some ⟨t.addr, t.len, t.who, t.metric + c, t.seq⟩
theorem selR_fold (costs : List Int) (feas : Tld → Bool) : ∀ (ts : List Tld) (l : List Rt), ts.foldl (selStep costs feas) l = (ts.filterMap (rtOf costs feas)).foldl selPut l
  | [], _ => rfl
  | t :: r, l => by
    rw [List.foldl_cons, selR_fold costs feas r, List.filterMap_cons]
    unfold selStep rtOf
    cases costs[t.who.toNat]? with
    | none => rfl
    | some c =>
      simp only
      split <;> rfl

theorem sorted_eq : ∀ (l m : List Rt), l.Pairwise lessR → m.Pairwise lessR → (∀ x, x ∈ l ↔ x ∈ m) → l = m
  | [], [], _, _, _ => rfl
  | [], y :: m, _, _, h => absurd ((h y).2 (by simp)) (by simp)
  | x :: l, [], _, _, h => absurd ((h x).1 (by simp)) (by simp)
  | x :: l, y :: m, hl, hm, h => by
    rw [List.pairwise_cons] at hl hm
    have irr : ∀ z : Rt, ¬ lessR z z := fun z hz => by unfold lessR ltP at hz; omega
    have hxy : x = y := by
      rcases List.mem_cons.1 ((h x).1 (by simp)) with h1 | h1
      · exact h1
      · rcases List.mem_cons.1 ((h y).2 (by simp)) with h2 | h2
        · exact h2.symm
        · exact absurd (lessR_trans (hm.1 x h1) (hl.1 y h2)) (irr y)
    subst hxy
    rw [sorted_eq l m hl.2 hm.2 fun z => ⟨fun hz => ?_, fun hz => ?_⟩]
    · rcases List.mem_cons.1 ((h z).1 (List.mem_cons_of_mem _ hz)) with h1 | h1
      · subst h1; exact absurd (hl.1 z hz) (irr z)
      · exact h1
    · rcases List.mem_cons.1 ((h z).2 (List.mem_cons_of_mem _ hz)) with h1 | h1
      · subst h1; exact absurd (hm.1 z hz) (irr z)
      · exact h1

/-- What is chosen is what it is, whichever others there are. -/
theorem SelS.unique {xs l m : List Rt} (hk : ∀ x ∈ xs, ∀ y ∈ xs, sameP x y → x.via = y.via → x = y) (h1 : SelS xs l) (h2 : SelS xs m) : l = m := by
  have half : ∀ (l m : List Rt), SelS xs l → SelS xs m → ∀ x, x ∈ l → x ∈ m := fun l m h1 h2 x hx => by
    obtain ⟨y, hy, p1, b1⟩ := h2.least x (h1.sub x hx)
    obtain ⟨w, hw, p2, b2⟩ := h1.least y (h2.sub y hy)
    have hwx : w = x := by
      obtain ⟨i, hi, rfl⟩ := List.getElem_of_mem hw
      obtain ⟨j, hj, rfl⟩ := List.getElem_of_mem hx
      have hsrt := h1.srt
      rw [List.pairwise_iff_getElem] at hsrt
      rcases Nat.lt_trichotomy i j with h | rfl | h
      · have := hsrt i j hi hj h; unfold lessR ltP at this; unfold sameP at p1 p2; omega
      · rfl
      · have := hsrt j i hj hi h; unfold lessR ltP at this; unfold sameP at p1 p2; omega
    subst hwx
    have : w = y := hk w (h1.sub w hx) y (h2.sub y hy) (by unfold sameP at *; omega) (by unfold betR at *; omega)
    rw [this]; exact hy
  exact sorted_eq l m h1.srt h2.srt fun x => ⟨half l m h1 h2 x, half m l h2 h1 x⟩
end Go.Proofs.YtngnbafididkcaaGreat
end
section
namespace Go.Proofs.YtngnbafididkcaaGreat
open Go.RowKit
set_option linter.unusedSimpArgs false

theorem nearI_lex {s m s' m' : Int} (h0 : 0 ≤ s) (h1 : s ≤ 1000) (h2 : 0 ≤ s') (h3 : s' ≤ 1000) : nearI s m s' m' = true ↔ (s' < s ∨ (s = s' ∧ m < m')) := by
  simp only [nearI, newI, Bool.or_eq_true, Bool.and_eq_true, decide_eq_true_eq]
  omega

def atP (e : Ent) (a n : Int) : Prop := e.addr = a ∧ e.len = n
theorem SortE.uniq {es : List Ent} (hs : SortE es) {x y : Ent} (hx : x ∈ es) (hy : y ∈ es) {a n : Int} (h1 : atP x a n) (h2 : atP y a n) : x = y := by
  obtain ⟨i, hi, rfl⟩ := List.getElem_of_mem hx
  obtain ⟨j, hj, rfl⟩ := List.getElem_of_mem hy
  unfold SortE at hs
  unfold atP at h1 h2
  rcases Nat.lt_trichotomy i j with h | rfl | h
  · have := sorted_lt hs (List.getElem?_eq_getElem hi) (List.getElem?_eq_getElem hj) h
    unfold ltP at this; omega
  · rfl
  · have := sorted_lt hs (List.getElem?_eq_getElem hj) (List.getElem?_eq_getElem hi) h
    unfold ltP at this; omega

theorem LowR.there {es es' : List Ent} {a n s m : Int} (h : LowR es a n s m es') : ∃ e ∈ es', atP e a n ∧ ((e.seq = s ∧ e.metric = m) ∨ e ∈ es) := by
  rcases h with ⟨i, x, hx, h1, h2, rfl⟩ | ⟨hno, i, hp, rfl⟩
  · have hil := (List.getElem?_eq_some_iff.1 hx).1
    refine ⟨_, List.mem_set hil _, ?_⟩
    split
    · exact ⟨⟨rfl, rfl⟩, .inl ⟨rfl, rfl⟩⟩
    · exact ⟨⟨h1, h2⟩, .inr (List.mem_of_getElem? hx)⟩
  · exact ⟨⟨a, n, s, m⟩, by simp, ⟨rfl, rfl⟩, .inl ⟨rfl, rfl⟩⟩
theorem LowR.other {es es' : List Ent} {a n s m : Int} (h : LowR es a n s m es') : ∀ e ∈ es', ¬ atP e a n → e ∈ es := by
  rcases h with ⟨i, x, hx, h1, h2, rfl⟩ | ⟨hno, i, hp, rfl⟩
  · intro e he hne
    rcases List.mem_or_eq_of_mem_set he with he | rfl
    · exact he
    · split at hne
      · exact absurd ⟨rfl, rfl⟩ hne
      · exact absurd ⟨h1, h2⟩ hne
  · intro e he hne
    simp only [List.mem_append, List.mem_singleton] at he
    rcases he with (he | rfl) | he
    · exact List.mem_of_mem_take he
    · exact absurd ⟨rfl, rfl⟩ hne
    · exact List.mem_of_mem_drop he
theorem LowR.keeps {es es' : List Ent} {a n s m : Int} (h : LowR es a n s m es') : ∀ o ∈ es, ∃ e ∈ es', atP e o.addr o.len ∧ (e = o ∨ nearI e.seq e.metric o.seq o.metric = true) := by
  rcases h with ⟨i, x, hx, h1, h2, rfl⟩ | ⟨hno, i, hp, rfl⟩
  · intro o ho
    obtain ⟨j, hj, rfl⟩ := List.getElem_of_mem ho
    obtain ⟨hil, rfl⟩ := List.getElem?_eq_some_iff.1 hx
    by_cases e : i = j
    · subst e
      refine ⟨_, List.mem_set hil _, ?_⟩
      split
      · rename_i hn
        exact ⟨⟨h1.symm, h2.symm⟩, .inr hn⟩
      · exact ⟨⟨rfl, rfl⟩, .inl rfl⟩
    · refine ⟨es[j], ?_, ⟨rfl, rfl⟩, .inl rfl⟩
      refine List.mem_of_getElem? (i := j) ?_
      rw [List.getElem?_set_ne e, List.getElem?_eq_getElem hj]
  · intro o ho
    refine ⟨o, ?_, ⟨rfl, rfl⟩, .inl rfl⟩
    rw [← List.take_append_drop i es] at ho
    rcases List.mem_append.1 ho with ho | ho
    · simp [ho]
    · simp [ho]

theorem feasR_iff {es : List Ent} {a n s m : Int} : feasR es a n s m = true ↔ (m = 65535 ∨ ∀ e ∈ es, atP e a n → nearI s m e.seq e.metric = true) := by
  unfold feasR atP
  rw [Bool.or_eq_true, decide_eq_true_eq, List.all_eq_true]
  constructor
  · rintro (h | h)
    · exact .inl h
    · refine .inr fun e he hp => ?_
      have := h e he
      simpa [hp.1, hp.2] using this
  · rintro (h | h)
    · exact .inl h
    · refine .inr fun e he => ?_
      by_cases hp : e.addr = a ∧ e.len = n
      · simp [h e he hp]
      · have : (decide (e.addr = a) && decide (e.len = n)) = false := by
          simp only [Bool.and_eq_false_iff, decide_eq_false_iff_not]; omega
        simp [this]

def feasE (es : List Ent) (t : Tld) : Bool := feasR es t.addr t.len t.seq t.metric

/-- What a chosen route is. -/
structure ChoR (costs : List Int) (feas : Tld → Bool) (t : Tld) (x : Rt) : Prop where
  c : ∃ c, costs[t.who.toNat]? = some c ∧ c ≠ 65535 ∧ t.metric + c < 65535 ∧ x.metric = t.metric + c
  f : feas t = true
  a : x.addr = t.addr
  l : x.len = t.len
  v : x.via = t.who
  s : x.seq = t.seq
theorem rtOf_cho {costs : List Int} {feas : Tld → Bool} {t : Tld} {x : Rt} (h : rtOf costs feas t = some x) : ChoR costs feas t x := by
  unfold rtOf at h
  cases hc : costs[t.who.toNat]? with
  | none => rw [hc] at h; cases h
  | some c =>
    rw [hc] at h
    simp only at h
    split at h
    · cases h
    · rename_i hn
      simp only [Option.some.injEq] at h
      subst h
      have hf : feas t = true := by
        cases hft : feas t with
        | true => rfl
        | false => exact absurd (.inr (.inr hft)) hn
      exact ⟨⟨c, hc, fun e => hn (.inl e), Int.lt_of_not_ge fun e => hn (.inr (.inl e)), rfl⟩, hf, rfl, rfl, rfl, rfl⟩
theorem cho_rtOf {costs : List Int} {feas : Tld → Bool} {t : Tld} {x : Rt} (h : ChoR costs feas t x) : rtOf costs feas t = some x := by
  obtain ⟨⟨c, hc, h1, h2, h3⟩, hf, ha, hl, hv, hs⟩ := h
  unfold rtOf
  rw [hc]
  simp only
  rw [if_neg (by rw [hf]; simp; omega)]
  obtain ⟨x1, x2, x3, x4, x5⟩ := x
  simp only at h3 ha hl hv hs
  subst h3; subst ha; subst hl; subst hv; subst hs
  rfl

/-- Behind some that were chosen: their marks are lowered. -/
structure NearI (es0 : List Ent) (costs : List Int) (l : List Tld) (L : List Rt) (i : Nat) (es : List Ent) : Prop where
  srt : SortE es
  ok : ∀ e ∈ es, EntOk e
  len : es.length ≤ es0.length + i
  old : ∀ e ∈ es, e ∈ es0 ∨ ∃ j x, j < i ∧ L[j]? = some x ∧ atP e x.addr x.len
  kept : ∀ o ∈ es0, ∃ e ∈ es, atP e o.addr o.len ∧ (e = o ∨ nearI e.seq e.metric o.seq o.metric = true)
  near : ∀ (j : Nat) (x : Rt), j < i → L[j]? = some x → ∀ t ∈ l, ChoR costs (feasE es0) t x → ∀ e ∈ es, atP e x.addr x.len → nearI t.seq t.metric e.seq e.metric = true

end Go.Proofs.YtngnbafididkcaaGreat
end
section
namespace Go.Proofs.YtngnbafididkcaaGreat
open Go.RowKit
set_option linter.unusedSimpArgs false

theorem nearI_trans {a b c : Ent} (ha : EntOk a) (hb : EntOk b) (hc : EntOk c) (h1 : nearI a.seq a.metric b.seq b.metric = true) (h2 : nearI b.seq b.metric c.seq c.metric = true) : nearI a.seq a.metric c.seq c.metric = true := by
  rw [nearI_lex ha.1 ha.2 hb.1 hb.2] at h1
  rw [nearI_lex hb.1 hb.2 hc.1 hc.2] at h2
  rw [nearI_lex ha.1 ha.2 hc.1 hc.2]
  omega

theorem NearI.next {es0 : List Ent} {costs : List Int} {l : List Tld} {L : List Rt} {i : Nat} {es es' : List Ent} (h : NearI es0 costs l L i es) (hL : L.Pairwise lessR) (h0 : ∀ e ∈ es0, EntOk e) (hc1 : ∀ c ∈ costs, 1 ≤ c) {x : Rt} (hx : L[i]? = some x) (hs : 0 ≤ x.seq ∧ x.seq ≤ 1000) (hlow : LowR es x.addr x.len x.seq x.metric es') : NearI es0 costs l L (i + 1) es' := by
  have hdiff : ∀ (j : Nat) (y : Rt), j < i → L[j]? = some y → ¬ (y.addr = x.addr ∧ y.len = x.len) := fun j y hj hy he => by
    obtain ⟨hj1, rfl⟩ := List.getElem?_eq_some_iff.1 hy
    obtain ⟨hi1, rfl⟩ := List.getElem?_eq_some_iff.1 hx
    rw [List.pairwise_iff_getElem] at hL
    have := hL j i hj1 hi1 hj
    unfold lessR ltP at this
    omega
  have hsrt := hlow.sorted h.srt
  have hok' := hlow.ok h.ok hs.1 hs.2
  refine ⟨hsrt, hok', ?_, fun e he => ?_, fun o ho => ?_, fun j y hj hy t ht hch e he hp => ?_⟩
  · have := hlow.len; have := h.len; omega
  · by_cases hp : atP e x.addr x.len
    · exact .inr ⟨i, x, by omega, hx, hp⟩
    · rcases h.old e (hlow.other e he hp) with h1 | ⟨j, y, hj, hy, hyp⟩
      · exact .inl h1
      · exact .inr ⟨j, y, by omega, hy, hyp⟩
  · obtain ⟨e1, he1, p1, q1⟩ := h.kept o ho
    obtain ⟨e2, he2, p2, q2⟩ := hlow.keeps e1 he1
    refine ⟨e2, he2, by unfold atP at *; omega, ?_⟩
    rcases q2 with rfl | q2
    · exact q1
    · rcases q1 with rfl | q1
      · exact .inr q2
      · exact .inr (nearI_trans (hok' e2 he2) (h.ok e1 he1) (h0 o ho) q2 q1)
  · by_cases hji : j = i
    · subst hji
      rw [hx] at hy
      cases hy
      obtain ⟨⟨c, hcc, c1, c2, c3⟩, hf, ha, hl2, hv, hs2⟩ := hch
      have hcge := hc1 c (List.mem_of_getElem? hcc)
      obtain ⟨e0, he0, p0, q0⟩ := hlow.there
      have : e = e0 := hsrt.uniq he he0 hp p0
      subst this
      rcases q0 with ⟨q0, q1⟩ | q0
      · rw [q0, q1, ← hs2, nearI_lex hs.1 hs.2 hs.1 hs.2]
        omega
      · rcases h.old e q0 with h1 | ⟨k, y, hk, hy, hyp⟩
        · unfold feasE at hf
          rw [feasR_iff] at hf
          rcases hf with hf | hf
          · omega
          · exact hf e h1 (by unfold atP at *; omega)
        · exact absurd ⟨hyp.1.symm.trans hp.1, hyp.2.symm.trans hp.2⟩ (hdiff k y hk hy)
    · have hne := hdiff j y (by omega) hy
      exact h.near j y (by omega) hy t ht hch e (hlow.other e he (fun hq => hne ⟨hp.1.symm.trans hq.1, hp.2.symm.trans hq.2⟩)) hp

theorem xs_ord {costs : List Int} {feas : Tld → Bool} {l : List Tld} (h : l.Pairwise aheadT) : (l.filterMap (rtOf costs feas)).Pairwise ordR := by
  refine List.Pairwise.filterMap _ (fun t u htu x hx y hy => ?_) h
  have cx := rtOf_cho hx
  have cy := rtOf_cho hy
  have x1 := cx.a; have x2 := cx.l; have x3 := cx.v
  have y1 := cy.a; have y2 := cy.l; have y3 := cy.v
  unfold aheadT at htu
  unfold ordR lessR ltP sameP
  omega
theorem sel_S {costs : List Int} {feas : Tld → Bool} {l : List Tld} (h : l.Pairwise aheadT) : SelS (l.filterMap (rtOf costs feas)) (selR costs feas l) := by
  unfold selR
  rw [selR_fold]
  have := fold_S (l.filterMap (rtOf costs feas)) [] [] ⟨List.Pairwise.nil, by simp, by simp⟩ (by simpa using xs_ord h)
  simpa using this

/-- The same is chosen again. -/
theorem NearI.again {es0 : List Ent} {costs : List Int} {l : List Tld} {es : List Ent} (hsrt : l.Pairwise aheadT) (h : NearI es0 costs l (selR costs (feasE es0) l) (selR costs (feasE es0) l).length es) (h0 : ∀ e ∈ es0, EntOk e) (hts : ∀ t ∈ l, 0 ≤ t.seq ∧ t.seq ≤ 1000) :
    selR costs (feasE es) l = selR costs (feasE es0) l := by
  have S0 := sel_S (costs := costs) (feas := feasE es0) hsrt
  have S1 := sel_S (costs := costs) (feas := feasE es) hsrt
  have hsub : ∀ z ∈ l.filterMap (rtOf costs (feasE es)), z ∈ l.filterMap (rtOf costs (feasE es0)) := fun z hz => by
    rw [List.mem_filterMap] at hz ⊢
    obtain ⟨t, ht, hz⟩ := hz
    refine ⟨t, ht, ?_⟩
    obtain ⟨c, f, a, l2, v, s⟩ := rtOf_cho hz
    refine cho_rtOf ⟨c, ?_, a, l2, v, s⟩
    unfold feasE at f ⊢
    rw [feasR_iff] at f ⊢
    rcases f with f | f
    · exact .inl f
    · refine .inr fun o ho hp => ?_
      obtain ⟨e, he, p1, q1⟩ := h.kept o ho
      have hte := f e he (by unfold atP at *; omega)
      rcases q1 with rfl | q1
      · exact hte
      · have t1 : EntOk (⟨0, 0, t.seq, t.metric⟩ : Ent) := hts t ht
        exact nearI_trans t1 (h.ok e he) (h0 o ho) hte q1
  refine SelS.unique (xs := l.filterMap (rtOf costs (feasE es))) ?_ S1 ⟨S0.srt, fun x hx => ?_, fun z hz => S0.least z (hsub z hz)⟩
  · intro x hx y hy hp hv
    rw [List.mem_filterMap] at hx hy
    obtain ⟨t, ht, hx⟩ := hx
    obtain ⟨u, hu, hy⟩ := hy
    have cx := rtOf_cho hx
    have cy := rtOf_cho hy
    have htu : t = u := by
      obtain ⟨i, hi, rfl⟩ := List.getElem_of_mem ht
      obtain ⟨j, hj, rfl⟩ := List.getElem_of_mem hu
      have x1 := cx.a; have x2 := cx.l; have x3 := cx.v
      have y1 := cy.a; have y2 := cy.l; have y3 := cy.v
      unfold sameP at hp
      rw [List.pairwise_iff_getElem] at hsrt
      rcases Nat.lt_trichotomy i j with hlt | rfl | hlt
      · have := hsrt i j hi hj hlt; unfold aheadT at this; omega
      · rfl
      · have := hsrt j i hj hi hlt; unfold aheadT at this; omega
    subst htu
    rw [hx] at hy
    exact Option.some.inj hy
  · have hx0 := S0.sub x hx
    rw [List.mem_filterMap] at hx0 ⊢
    obtain ⟨t, ht, hx0⟩ := hx0
    refine ⟨t, ht, ?_⟩
    have ch := rtOf_cho hx0
    obtain ⟨j, hj, rfl⟩ := List.getElem_of_mem hx
    have hnear := h.near j _ hj (List.getElem?_eq_getElem hj) t ht ch
    refine cho_rtOf ⟨ch.c, ?_, ch.a, ch.l, ch.v, ch.s⟩
    unfold feasE
    rw [feasR_iff]
    exact .inr fun e he hp => hnear e he (by have := ch.a; have := ch.l; unfold atP at *; omega)
end Go.Proofs.YtngnbafididkcaaGreat
end
section
namespace Go.Proofs.YtngnbafididkcaaGreat
open Go.RowKit
set_option linter.unusedSimpArgs false

theorem told_same2 {l : List Tld} (hu : UqT l) {t u : Tld} (ht : t ∈ l) (hu2 : u ∈ l) (h : hitT t u = true) : u = t := by
  obtain ⟨i, hi, rfl⟩ := List.getElem_of_mem ht
  obtain ⟨j, hj, rfl⟩ := List.getElem_of_mem hu2
  unfold UqT at hu
  rw [List.pairwise_iff_getElem] at hu
  rcases Nat.lt_trichotomy i j with hlt | rfl | hlt
  · rw [hu i j hi hj hlt] at h; cases h
  · rfl
  · have := hu j i hj hi hlt
    rw [hitT_symm] at this
    rw [this] at h; cases h

theorem sorted_strict {l : List Tld} (hu : UqT l) (hs : l.Pairwise (fun x y => ¬ aheadT y x)) : l.Pairwise aheadT := by
  unfold UqT at hu
  rw [List.pairwise_iff_getElem] at hu hs ⊢
  intro i j hi hj hij
  have h1 := hu i j hi hj hij
  have h2 := hs i j hi hj hij
  have h3 : ¬ (l[j].addr = l[i].addr ∧ l[j].len = l[i].len ∧ l[j].who = l[i].who) := fun h => by
    rw [(hitT_iff _ _).2 h] at h1; cases h1
  unfold aheadT at h2 ⊢
  omega
theorem told_sorted_eq : ∀ (l m : List Tld), l.Pairwise aheadT → m.Pairwise aheadT → (∀ x, x ∈ l ↔ x ∈ m) → l = m
  | [], [], _, _, _ => rfl
  | [], y :: m, _, _, h => absurd ((h y).2 (by simp)) (by simp)
  | x :: l, [], _, _, h => absurd ((h x).1 (by simp)) (by simp)
  | x :: l, y :: m, hl, hm, h => by
    rw [List.pairwise_cons] at hl hm
    have irr : ∀ z : Tld, ¬ aheadT z z := fun z hz => by unfold aheadT at hz; omega
    have tr : ∀ {x y z : Tld}, aheadT x y → aheadT y z → aheadT x z := fun h1 h2 => by unfold aheadT at *; omega
    have hxy : x = y := by
      rcases List.mem_cons.1 ((h x).1 (by simp)) with h1 | h1
      · exact h1
      · rcases List.mem_cons.1 ((h y).2 (by simp)) with h2 | h2
        · exact h2.symm
        · exact absurd (tr (hm.1 x h1) (hl.1 y h2)) (irr y)
    subst hxy
    rw [told_sorted_eq l m hl.2 hm.2 fun z => ⟨fun hz => ?_, fun hz => ?_⟩]
    · rcases List.mem_cons.1 ((h z).1 (List.mem_cons_of_mem _ hz)) with h1 | h1
      · subst h1; exact absurd (hl.1 z hz) (irr z)
      · exact h1
    · rcases List.mem_cons.1 ((h z).2 (List.mem_cons_of_mem _ hz)) with h1 | h1
      · subst h1; exact absurd (hm.1 z hz) (irr z)
      · exact h1

end Go.Proofs.YtngnbafididkcaaGreat
end
