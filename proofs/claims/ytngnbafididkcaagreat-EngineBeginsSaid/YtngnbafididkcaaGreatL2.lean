/- OUR OWN LOGIC OVER THE KIT'S. 1: what is known of memory ('AH': cells, other objects, shapes of blocks), how it stands to a world ('Rel'); what an operation's text yields by what is known ('Sem.peek', looking alone; 'Sem.aw', writing too); and that the model's run does so. Nothing of the program stands here. OUR OWN LOGIC OVER THE KIT'S. 2: the model's run does what 'aw' says. Nothing of the program stands here. -/
import Derived.Test.YtngnbafididkcaaGreatBase3
section
namespace Go.Proofs.YtngnbafididkcaaGreat
open Go.RowKit

/-- What is known of memory. -/
structure AH where
  c : Nat → Nat → Option Value
  o : Nat → Option Obj
  t : Nat → Option (TypeId × Nat)
  d : Option Nat

def AH.put (H : AH) (b o : Nat) (v : Value) : AH := { H with c := fun b' o' => if b' = b ∧ o' = o then some v else H.c b' o' }
def AH.new (H : AH) (n : Nat) (vs : Array Value) (e : TypeId) : AH :=
  { c := fun b' o' => if b' = n then vs[o']? else H.c b' o', o := fun b' => if b' = n then none else H.o b', t := fun b' => if b' = n then some (e, vs.size) else H.t b', d := H.d }
def AH.newO (H : AH) (n : Nat) (ob : Obj) : AH :=
  { c := fun b' o' => if b' = n then none else H.c b' o', o := fun b' => if b' = n then some ob else H.o b', t := fun b' => if b' = n then none else H.t b', d := H.d }
def AH.setO (H : AH) (n : Nat) (ob : Obj) : AH := { H with o := fun b' => if b' = n then some ob else H.o b' }
def AH.dropT (H : AH) (n : Nat) : AH := { H with t := fun b' => if b' = n then none else H.t b' }

/-- Below a block number all is as it was. -/
structure BelowD (B : Nat) (w w' : World) : Prop extends Below B w w' where
  dr : True
theorem BelowD.refl (B : Nat) (w : World) : BelowD B w w := ⟨Below.refl B w, trivial⟩
theorem BelowD.trans {B : Nat} {a b c : World} (h : BelowD B a b) (k : BelowD B b c) : BelowD B a c := ⟨h.toBelow.trans k.toBelow, trivial⟩
theorem BelowD.mono {B B' : Nat} {w w' : World} (h : BelowD B w w') (hB : B' ≤ B) : BelowD B' w w' := ⟨h.toBelow.mono hB, h.dr⟩
theorem BelowD.drew {B : Nat} {a w : World} (h : BelowD B a w) : BelowD B a w.drew := ⟨h.toBelow.drew, trivial⟩
theorem BelowD.alloc {B : Nat} {a w : World} (h : BelowD B a w) (hB : B ≤ w.heap.size) (o : Obj) : BelowD B a (w.alloc o) := ⟨h.toBelow.alloc hB o, h.dr⟩
theorem BelowD.setCell {B : Nat} {a w : World} (h : BelowD B a w) {p : Addr} (hp : B ≤ p.block) (u : Value) : BelowD B a (w.setCell p u) := ⟨h.toBelow.setCell hp u, h.dr⟩

def Obj.plainO : Obj → Bool
  | .cells .. => false
  | _ => true

/-- What is known holds in a world: from block 'lo' on we may write; all that is known lies below 'nx'. -/
structure Rel (lo : Nat) (H : AH) (nx : Nat) (w : World) : Prop where
  lo_nx : lo ≤ nx
  nx_size : nx ≤ w.heap.size
  c : ∀ b o v, H.c b o = some v → b < nx ∧ w.cell? ⟨b, o, none⟩ = some v ∧ (lo ≤ b → w.frozen? ⟨b, o, none⟩ = false)
  o : ∀ b ob, H.o b = some ob → b < nx ∧ w.heap[b]? = some ob ∧ Obj.plainO ob = true
  t : ∀ b e n, H.t b = some (e, n) → b < nx ∧ lo ≤ b ∧ ∃ cs, w.heap[b]? = some (.cells cs e (0, 0)) ∧ cs.size = n
  d : ∀ k, H.d = some k → k ≤ w.drawn

/-- The same, of what is looked at alone. -/
structure Sees (lo : Nat) (H : AH) (w : World) : Prop where
  c : ∀ b o v, H.c b o = some v → w.cell? ⟨b, o, none⟩ = some v
  o : ∀ b ob, H.o b = some ob → w.heap[b]? = some ob ∧ Obj.plainO ob = true
  t : ∀ b e n, H.t b = some (e, n) → lo ≤ b ∧ ∃ cs, w.heap[b]? = some (.cells cs e (0, 0)) ∧ cs.size = n

theorem Rel.sees {lo nx : Nat} {H : AH} {w : World} (h : Rel lo H nx w) : Sees lo H w :=
  ⟨fun b o v hv => (h.c b o v hv).2.1, fun b ob hb => (h.o b ob hb).2, fun b e n hb => (h.t b e n hb).2⟩

theorem Rel.drew {lo nx : Nat} {H : AH} {w : World} (h : Rel lo H nx w) : Rel lo H nx w.drew := ⟨h.lo_nx, h.nx_size, h.c, h.o, h.t, fun k hk => Nat.le_succ_of_le (h.d k hk)⟩

/-- Looking alone: what a text yields by what is known. -/
def peek {α : Type} (P : Program) (H : AH) : Sem α → Option α
  | .pure a => some a
  | .load _ a k => if a.spot.isSome then none else match H.c a.block a.off with
    | some v => peek P H (k v)
    | none => none
  | .shape r k => match H.t r with
    | some x => peek P H (k (some x))
    | none => none
  | .frozen a k => if (H.t a.block).isSome then peek P H (k false) else none
  | .getObj r k => match H.o r with
    | some ob => peek P H (k ob)
    | none => none
  | .program k => peek P H (k P)
  | .mark _ k => peek P H k
  | .choose q k => if q.forced then peek P H (k 0) else none
  | _ => none

theorem frozen_of_t {lo : Nat} {H : AH} {w : World} (h : Sees lo H w) {a : Addr} (ha : (H.t a.block).isSome = true) : w.frozen? a = false := by
  obtain ⟨⟨e, n⟩, hx⟩ := Option.isSome_iff_exists.1 ha
  obtain ⟨_, cs, hc, _⟩ := h.t _ _ _ hx
  simp [World.frozen?, hc]

theorem peek_sound {α : Type} {P : Program} {lo : Nat} {H : AH} {w : World} (h : Sees lo H w) (s : Sem α) : ∀ a, peek P H s = some a → s.run P w = .ok a w := by
  induction s with
  | pure a => intro b hb; simp only [peek, Option.some.injEq] at hb; subst hb; rfl
  | load m a k ih =>
    intro b hb
    simp only [peek] at hb
    obtain ⟨bl, off, sp⟩ := a
    cases sp with
    | some x => simp at hb
    | none =>
      simp only [Option.isSome_none, Bool.false_eq_true, if_false] at hb
      cases hc : H.c bl off with
      | none => rw [hc] at hb; simp at hb
      | some v =>
        rw [hc] at hb
        simp only [Sem.run, h.c _ _ _ hc]
        exact ih v b hb
  | shape r k ih =>
    intro b hb
    simp only [peek] at hb
    cases ht : H.t r with
    | none => rw [ht] at hb; simp at hb
    | some x =>
      rw [ht] at hb
      obtain ⟨e, n⟩ := x
      obtain ⟨_, cs, hcs, hn⟩ := h.t _ _ _ ht
      simp only [Sem.run]
      have : w.shape? r = some (e, n) := by simp [World.shape?, hcs, hn]
      rw [this]
      exact ih _ b hb
  | frozen a k ih =>
    intro b hb
    simp only [peek] at hb
    split at hb
    · rename_i ht
      simp only [Sem.run, frozen_of_t h ht]
      exact ih _ b hb
    · cases hb
  | getObj r k ih =>
    intro b hb
    simp only [peek] at hb
    cases ho : H.o r with
    | none => rw [ho] at hb; simp at hb
    | some ob =>
      rw [ho] at hb
      obtain ⟨h1, h2⟩ := h.o _ _ ho
      simp only [Sem.run, h1]
      cases ob <;> first | (simp [Obj.plainO] at h2; done) | exact ih _ b hb
  | program k ih => intro b hb; simp only [peek] at hb; exact ih _ b hb
  | mark m k ih => intro b hb; simp only [peek] at hb; exact ih b hb
  | choose q k ih =>
    intro b hb
    simp only [peek] at hb
    split at hb
    · rename_i hf
      simp only [Sem.run, hf, if_true]
      exact ih _ b hb
    · cases hb
  | _ => intro b hb; simp [peek] at hb

theorem peek_bind {α β : Type} (P : Program) (H : AH) (s : Sem α) (f : α → Sem β) : peek P H (s.bind f) = (peek P H s).bind fun a => peek P H (f a) := by
  induction s with
  | pure a => rfl
  | load m a k ih =>
    simp only [Sem.bind, peek]
    split
    · rfl
    · split <;> simp [ih]
  | shape r k ih => simp only [Sem.bind, peek]; split <;> simp [ih]
  | frozen a k ih => simp only [Sem.bind, peek]; split <;> simp [ih]
  | getObj r k ih => simp only [Sem.bind, peek]; split <;> simp [ih]
  | program k ih => simp only [Sem.bind, peek, ih]
  | mark m k ih => simp only [Sem.bind, peek, ih]
  | choose q k ih => simp only [Sem.bind, peek]; split <;> simp [ih]
  | _ => rfl

/-- Writing too. -/
def aw {α : Type} (P : Program) (lo : Nat) : Sem α → (α → AH → Nat → Prop) → AH → Nat → Prop
  | .pure a, K, H, nx => K a H nx
  | .load _ a k, K, H, nx => a.spot = none ∧ ∃ v, H.c a.block a.off = some v ∧ aw P lo (k v) K H nx
  | .store _ a v k, K, H, nx => a.spot = none ∧ lo ≤ a.block ∧ v.oneCell' = true ∧ (H.c a.block a.off).isSome = true ∧ aw P lo k K (H.put a.block a.off v) nx
  | .new (.cells cs e (0, 0)) k, K, H, nx => ∀ n, nx ≤ n → aw P lo (k n) K (H.new n cs e) (n + 1)
  | .new (.cells _ _ _) _, _, _, _ => False
  | .new ob k, K, H, nx => ∀ n, nx ≤ n → aw P lo (k n) K (H.newO n ob) (n + 1)
  | .shape r k, K, H, nx => (∃ x, H.t r = some x ∧ aw P lo (k (some x)) K H nx) ∨ (H.t r = none ∧ (∃ o, (H.c r o).isSome = true) ∧ ∀ e n, 0 < n → aw P lo (k (some (e, n))) K H nx)
  | .frozen a k, K, H, nx => ((H.t a.block).isSome = true ∧ aw P lo (k false) K H nx) ∨ (∀ t, aw P lo (k t) K H nx)
  | .freeze a _ k, K, H, nx => (∃ e n, H.t a.block = some (e, n) ∧ n ≤ a.off) ∧ aw P lo k K (H.dropT a.block) nx
  | .getObj r k, K, H, nx => ∃ ob, H.o r = some ob ∧ aw P lo (k ob) K H nx
  | .setObj r ob k, K, H, nx => lo ≤ r ∧ (H.o r).isSome = true ∧ Obj.plainO ob = true ∧ aw P lo k K (H.setO r ob) nx
  | .choose q k, K, H, nx => (q.forced = true → aw P lo (k 0) K H nx) ∧ (q.forced = false → ∀ t, aw P lo (k (q.cut t)) K H nx)
  | .program k, K, H, nx => aw P lo (k P) K H nx
  | .mark _ k, K, H, nx => aw P lo k K H nx
  | .sys _ _, _, _, _ => False
  | .halt _, _, _, _ => False

end Go.Proofs.YtngnbafididkcaaGreat
end
section
namespace Go.Proofs.YtngnbafididkcaaGreat
open Go.RowKit

section
variable {lo nx : Nat} {H : AH} {w : World}

theorem Rel.put (h : Rel lo H nx w) {b o : Nat} {v : Value} (hb : (H.c b o).isSome = true) : Rel lo (H.put b o v) nx (w.setCell ⟨b, o, none⟩ v) := by
  obtain ⟨u, hu⟩ := Option.isSome_iff_exists.1 hb
  obtain ⟨hlt, hc, hf⟩ := h.c _ _ _ hu
  refine ⟨h.lo_nx, by simpa using h.nx_size, fun b' o' v' hv => ?_, fun b' ob hb' => ?_, fun b' e n ht => ?_, h.d⟩
  · simp only [AH.put] at hv
    split at hv
    · rename_i he
      obtain ⟨rfl, rfl⟩ := he
      simp only [Option.some.injEq] at hv
      subst hv
      exact ⟨hlt, World.cell?_setCell_same _ _ _ hc, fun hl => by rw [World.frozen?_setCell]; exact hf hl⟩
    · rename_i hne
      obtain ⟨h1, h2, h3⟩ := h.c _ _ _ hv
      refine ⟨h1, ?_, fun hl => by rw [World.frozen?_setCell]; exact h3 hl⟩
      rw [World.cell?_setCell_other _ _ _ _ (fun e => hne (by simp only [Addr.mk.injEq] at e; exact ⟨e.1.symm, e.2.1.symm⟩))]
      exact h2
  · obtain ⟨h1, h2, h3⟩ := h.o _ _ hb'
    refine ⟨h1, ?_, h3⟩
    rw [Below.heap_setCell _ _ _ _ (fun e => ?_)]
    · exact h2
    · subst e
      simp only [World.cell?] at hc
      rw [h2] at hc
      cases ob <;> simp [Obj.plainO] at h3 hc
  · obtain ⟨h1, h2, cs, h3, h4⟩ := h.t _ _ _ ht
    refine ⟨h1, h2, ?_⟩
    by_cases e : b' = b
    · subst e
      exact ⟨_, heap_setCell_same w b' o cs _ v h3, by simpa using h4⟩
    · exact ⟨cs, by rw [Below.heap_setCell _ _ _ _ e]; exact h3, h4⟩

theorem Rel.new (h : Rel lo H nx w) (cs : Array Value) (e : TypeId) : Rel lo (H.new w.heap.size cs e) (w.heap.size + 1) (w.alloc (.cells cs e)) := by
  refine ⟨by have := h.lo_nx; have := h.nx_size; omega, by simp, fun b' o' v' hv => ?_, fun b' ob hb' => ?_, fun b' e' n ht => ?_, h.d⟩
  · simp only [AH.new] at hv
    split at hv
    · rename_i he
      subst he
      refine ⟨by omega, ?_, fun _ => World.frozen?_alloc_at _ _ _ _ rfl⟩
      rw [World.cell?_alloc_at _ _ _ _ rfl]; exact hv
    · obtain ⟨h1, h2, h3⟩ := h.c _ _ _ hv
      have := h.nx_size
      exact ⟨by omega, by rw [World.cell?_alloc_lt _ _ _ (by simp; omega)]; exact h2, fun hl => by rw [frozen?_alloc_cells]; exact h3 hl⟩
  · simp only [AH.new] at hb'
    split at hb'
    · cases hb'
    · obtain ⟨h1, h2, h3⟩ := h.o _ _ hb'
      have := h.nx_size
      exact ⟨by omega, by rw [Below.heap_alloc _ _ _ (by omega)]; exact h2, h3⟩
  · simp only [AH.new] at ht
    split at ht
    · rename_i he
      subst he
      simp only [Option.some.injEq, Prod.mk.injEq] at ht
      obtain ⟨rfl, rfl⟩ := ht
      exact ⟨by omega, by have := h.lo_nx; have := h.nx_size; omega, cs, heap_alloc_new w _, rfl⟩
    · obtain ⟨h1, h2, cs', h3, h4⟩ := h.t _ _ _ ht
      have := h.nx_size
      exact ⟨by omega, h2, cs', by rw [Below.heap_alloc _ _ _ (by omega)]; exact h3, h4⟩

theorem frozen?_alloc_any (w : World) (ob : Obj) (a : Addr) (ha : a.block < w.heap.size) : (w.alloc ob).frozen? a = w.frozen? a :=
  World.frozen?_of_block (Below.heap_alloc _ _ _ ha)

theorem Rel.newO (h : Rel lo H nx w) {ob : Obj} (hob : Obj.plainO ob = true) : Rel lo (H.newO w.heap.size ob) (w.heap.size + 1) (w.alloc ob) := by
  have hns := h.nx_size
  refine ⟨by have := h.lo_nx; omega, by simp, fun b' o' v' hv => ?_, fun b' ob' hb' => ?_, fun b' e' n ht => ?_, h.d⟩
  · simp only [AH.newO] at hv
    split at hv
    · cases hv
    · obtain ⟨h1, h2, h3⟩ := h.c _ _ _ hv
      exact ⟨by omega, by rw [World.cell?_alloc_lt _ _ _ (by simp; omega)]; exact h2, fun hl => by rw [frozen?_alloc_any _ _ _ (by simp; omega)]; exact h3 hl⟩
  · simp only [AH.newO] at hb'
    split at hb'
    · rename_i he
      subst he
      simp only [Option.some.injEq] at hb'
      subst hb'
      exact ⟨by omega, heap_alloc_new w _, hob⟩
    · obtain ⟨h1, h2, h3⟩ := h.o _ _ hb'
      exact ⟨by omega, by rw [Below.heap_alloc _ _ _ (by omega)]; exact h2, h3⟩
  · simp only [AH.newO] at ht
    split at ht
    · cases ht
    · obtain ⟨h1, h2, cs', h3, h4⟩ := h.t _ _ _ ht
      exact ⟨by omega, h2, cs', by rw [Below.heap_alloc _ _ _ (by omega)]; exact h3, h4⟩

theorem Rel.setO (h : Rel lo H nx w) {r : Nat} {ob old : Obj} (hr : H.o r = some old) (hob : Obj.plainO ob = true) : Rel lo (H.setO r ob) nx { w with heap := w.heap.setIfInBounds r ob } := by
  obtain ⟨g1, g2, g3⟩ := h.o _ _ hr
  have hns := h.nx_size
  have other : ∀ k, k ≠ r → ({ w with heap := w.heap.setIfInBounds r ob } : World).heap[k]? = w.heap[k]? := fun k hk => by
    show (w.heap.setIfInBounds r ob)[k]? = _
    rw [Array.getElem?_setIfInBounds_ne (Ne.symm hk)]
  have noCell : ∀ o, w.cell? ⟨r, o, none⟩ = none := fun o => by
    simp only [World.cell?, g2]
    cases old <;> simp [Obj.plainO] at g3 <;> rfl
  refine ⟨h.lo_nx, by show nx ≤ (w.heap.setIfInBounds r ob).size; simpa using hns, fun b' o' v' hv => ?_, fun b' ob' hb' => ?_, fun b' e' n ht => ?_, h.d⟩
  · obtain ⟨h1, h2, h3⟩ := h.c b' o' v' hv
    have hne : b' ≠ r := fun e => by subst e; rw [noCell] at h2; cases h2
    exact ⟨h1, by rw [World.cell?_of_block (a := ⟨b', o', none⟩) (other b' hne)]; exact h2, fun hl => by rw [World.frozen?_of_block (a := ⟨b', o', none⟩) (other b' hne)]; exact h3 hl⟩
  · simp only [AH.setO] at hb'
    split at hb'
    · rename_i he
      subst he
      simp only [Option.some.injEq] at hb'
      subst hb'
      refine ⟨g1, ?_, hob⟩
      show (w.heap.setIfInBounds b' ob)[b']? = _
      rw [Array.getElem?_setIfInBounds_self_of_lt (by omega)]
    · rename_i hne
      obtain ⟨h1, h2, h3⟩ := h.o _ _ hb'
      exact ⟨h1, by rw [other b' hne]; exact h2, h3⟩
  · obtain ⟨h1, h2, cs', h3, h4⟩ := h.t b' e' n ht
    have hne : b' ≠ r := fun e => by
      subst e
      rw [g2] at h3
      simp only [Option.some.injEq] at h3
      subst h3
      simp [Obj.plainO] at g3
    exact ⟨h1, h2, cs', by rw [other b' hne]; exact h3, h4⟩

theorem below_setO (w : World) (r : Nat) (ob : Obj) (hr : lo ≤ r) : BelowD lo w { w with heap := w.heap.setIfInBounds r ob } :=
  ⟨⟨rfl, rfl, rfl, by show w.heap.size ≤ (w.heap.setIfInBounds r ob).size; simp, fun k hk => by
    show (w.heap.setIfInBounds r ob)[k]? = _
    rw [Array.getElem?_setIfInBounds_ne (by omega)]⟩, trivial⟩

theorem Rel.freeze (h : Rel lo H nx w) {a : Addr} {e n k : Nat} (ht : H.t a.block = some (e, n)) (hn : n ≤ a.off) : Rel lo (H.dropT a.block) nx (w.freeze a k) ∧ BelowD lo w (w.freeze a k) := by
  obtain ⟨h1, h2, cs, h3, h4⟩ := h.t _ _ _ ht
  by_cases hk : k = 0
  · subst hk
    have e0 : w.freeze a 0 = w := by simp [World.freeze]
    rw [e0]
    refine ⟨⟨h.lo_nx, h.nx_size, h.c, h.o, fun b' e' n' hb' => ?_, h.d⟩, BelowD.refl _ _⟩
    simp only [AH.dropT] at hb'
    split at hb'
    · cases hb'
    · exact h.t _ _ _ hb'
  · have other : ∀ b', b' ≠ a.block → (w.freeze a k).heap[b']? = w.heap[b']? := fun b' hb' => by
      unfold World.freeze
      rw [if_neg hk]
      simp only [Array.getElem?_modify, if_neg (Ne.symm hb')]
    have same : (w.freeze a k).heap[a.block]? = some (.cells cs e (a.off, a.off + k)) := by
      unfold World.freeze
      rw [if_neg hk]
      simp only [Array.getElem?_modify, if_true, h3]
      rfl
    have hos : (w.freeze a k).os = w.os ∧ (w.freeze a k).tape = w.tape ∧ (w.freeze a k).output = w.output ∧ (w.freeze a k).heap.size = w.heap.size := by
      unfold World.freeze
      rw [if_neg hk]
      exact ⟨rfl, rfl, rfl, by simp⟩
    refine ⟨⟨h.lo_nx, by rw [hos.2.2.2]; exact h.nx_size, fun b' o' v' hv => ?_, fun b' ob' hb' => ?_, fun b' e' n' hb' => ?_, by unfold World.freeze; rw [if_neg hk]; exact h.d⟩, ⟨⟨hos.1, hos.2.1, hos.2.2.1, by rw [hos.2.2.2]; exact Nat.le_refl _, fun b' hb' => other b' (by omega)⟩, trivial⟩⟩
    · obtain ⟨g1, g2, g3⟩ := h.c _ _ _ hv
      by_cases e' : b' = a.block
      · subst e'
        have hc : cs[o']? = some v' := by
          simp only [World.cell?, h3] at g2
          simpa using g2
        refine ⟨g1, ?_, fun _ => ?_⟩
        · simp only [World.cell?, same]; simpa using hc
        · have ho : o' < cs.size := (Array.getElem?_eq_some_iff.1 hc).1
          simp only [World.frozen?, same]; simp; omega
      · exact ⟨g1, by rw [World.cell?_of_block (w := w) (a := ⟨b', o', none⟩) (other b' e')]; exact g2, fun hl => by rw [World.frozen?_of_block (w := w) (a := ⟨b', o', none⟩) (other b' e')]; exact g3 hl⟩
    · obtain ⟨g1, g2, g3⟩ := h.o _ _ hb'
      have hne : b' ≠ a.block := fun e' => by
        subst e'
        rw [h3] at g2
        simp only [Option.some.injEq] at g2
        subst g2
        simp [Obj.plainO] at g3
      exact ⟨g1, by rw [other b' hne]; exact g2, g3⟩
    · simp only [AH.dropT] at hb'
      split at hb'
      · cases hb'
      · rename_i hne
        obtain ⟨g1, g2, cs', g3, g4⟩ := h.t _ _ _ hb'
        exact ⟨g1, g2, cs', by rw [other b' hne]; exact g3, g4⟩
end

theorem aw_sound {α : Type} {P : Program} {lo : Nat} (s : Sem α) : ∀ (K : α → AH → Nat → Prop) (H : AH) (nx : Nat) (w : World), aw P lo s K H nx → Rel lo H nx w →
    ∃ a w' H' nx', s.run P w = .ok a w' ∧ K a H' nx' ∧ Rel lo H' nx' w' ∧ BelowD lo w w' ∧ nx ≤ nx' := by
  induction s with
  | pure a => intro K H nx w h hr; exact ⟨a, w, H, nx, rfl, h, hr, BelowD.refl _ _, Nat.le_refl _⟩
  | load m a k ih =>
    intro K H nx w h hr
    obtain ⟨bl, off, sp⟩ := a
    obtain ⟨rfl, v, hv, hk⟩ := h
    obtain ⟨_, h2, _⟩ := hr.c _ _ _ hv
    obtain ⟨x, w', H', nx', g1, g⟩ := ih v K H nx w hk hr
    refine ⟨x, w', H', nx', ?_, g⟩
    simp only [Sem.run]
    simp only at h2
    rw [h2]
    exact g1
  | store m a v k ih =>
    intro K H nx w h hr
    obtain ⟨bl, off, sp⟩ := a
    obtain ⟨rfl, hlo, h1, hc, hk⟩ := h
    obtain ⟨u, hu⟩ := Option.isSome_iff_exists.1 hc
    obtain ⟨_, h2, h3⟩ := hr.c _ _ _ hu
    obtain ⟨x, w', H', nx', g1, g2, g3, g4, g5⟩ := ih K _ nx _ hk (hr.put hc)
    refine ⟨x, w', H', nx', ?_, g2, g3, ((BelowD.refl lo w).setCell hlo v).trans g4, g5⟩
    simp only at h2 h3 g1 hlo
    cases v <;> first | (simp [Value.oneCell'] at h1; done) | (simp only [Sem.run, h2, h3 hlo, Bool.false_eq_true, if_false]; exact g1)
  | new ob k ih =>
    intro K H nx w h hr
    have hns := hr.nx_size
    have hln := hr.lo_nx
    have fin : ∀ (H2 : AH), aw P lo (k w.heap.size) K H2 (w.heap.size + 1) → Rel lo H2 (w.heap.size + 1) (w.alloc ob) → ∃ a w' H' nx', (Sem.new ob k).run P w = .ok a w' ∧ K a H' nx' ∧ Rel lo H' nx' w' ∧ BelowD lo w w' ∧ nx ≤ nx' := by
      intro H2 h2 hr2
      obtain ⟨x, w', H', nx', g1, g2, g3, g4, g5⟩ := ih _ K H2 _ _ h2 hr2
      exact ⟨x, w', H', nx', g1, g2, g3, ((BelowD.refl lo w).alloc (by omega) ob).trans g4, by omega⟩
    cases ob with
    | cells cs e fr =>
      obtain ⟨f1, f2⟩ := fr
      match f1, f2, h with
      | 0, 0, h => exact fin _ (h _ hns) (hr.new cs e)
      | f1 + 1, f2, h => exact absurd h (by simp [aw])
      | 0, f2 + 1, h => exact absurd h (by simp [aw])
    | _ => exact fin _ (h _ hns) (hr.newO rfl)
  | shape r k ih =>
    intro K H nx w h hr
    rcases h with ⟨⟨e, n⟩, ht, hk⟩ | ⟨_, ⟨o, ho⟩, hk⟩
    · obtain ⟨_, _, cs, hcs, hn⟩ := hr.t _ _ _ ht
      obtain ⟨x, w', H', nx', g1, g⟩ := ih _ K H nx w hk hr
      refine ⟨x, w', H', nx', ?_, g⟩
      have : w.shape? r = some (e, n) := by simp [World.shape?, hcs, hn]
      simp only [Sem.run, this]
      exact g1
    · obtain ⟨v, hv⟩ := Option.isSome_iff_exists.1 ho
      obtain ⟨_, hc, _⟩ := hr.c _ _ _ hv
      obtain ⟨e, n, hsh, hn⟩ : ∃ e n, w.shape? r = some (e, n) ∧ 0 < n := by
        unfold World.cell? at hc
        unfold World.shape?
        split at hc
        · rename_i c e fr hb
          refine ⟨e, c.size, by rw [hb], ?_⟩
          simp only [Option.isSome_none, Bool.false_eq_true, if_false] at hc
          have := (Array.getElem?_eq_some_iff.1 hc).1
          omega
        · cases hc
      obtain ⟨x, w', H', nx', g1, g⟩ := ih _ K H nx w (hk e n hn) hr
      refine ⟨x, w', H', nx', ?_, g⟩
      simp only [Sem.run, hsh]
      exact g1
  | freeze a n k ih =>
    intro K H nx w h hr
    obtain ⟨⟨e, m, ht, hm⟩, hk⟩ := h
    obtain ⟨r1, r2⟩ := hr.freeze (k := n) ht hm
    obtain ⟨x, w', H', nx', g1, g2, g3, g4, g5⟩ := ih K _ nx _ hk r1
    exact ⟨x, w', H', nx', g1, g2, g3, r2.trans g4, g5⟩
  | frozen a k ih =>
    intro K H nx w h hr
    rcases h with ⟨ht, hk⟩ | hk
    · obtain ⟨x, w', H', nx', g1, g⟩ := ih _ K H nx w hk hr
      refine ⟨x, w', H', nx', ?_, g⟩
      simp only [Sem.run, frozen_of_t hr.sees ht]
      exact g1
    · obtain ⟨x, w', H', nx', g1, g⟩ := ih _ K H nx w (hk (w.frozen? a)) hr
      exact ⟨x, w', H', nx', g1, g⟩
  | getObj r k ih =>
    intro K H nx w h hr
    obtain ⟨ob, ho, hk⟩ := h
    obtain ⟨_, h2, h3⟩ := hr.o _ _ ho
    obtain ⟨x, w', H', nx', g1, g⟩ := ih _ K H nx w hk hr
    refine ⟨x, w', H', nx', ?_, g⟩
    simp only [Sem.run, h2]
    cases ob <;> first | (simp [Obj.plainO] at h3; done) | exact g1
  | setObj r ob k ih =>
    intro K H nx w h hr
    obtain ⟨hlo, ho, hob, hk⟩ := h
    obtain ⟨old, ho⟩ := Option.isSome_iff_exists.1 ho
    obtain ⟨_, h2, h3⟩ := hr.o _ _ ho
    obtain ⟨x, w', H', nx', g1, g2, g3, g4, g5⟩ := ih K _ nx _ hk (hr.setO ho hob)
    refine ⟨x, w', H', nx', ?_, g2, g3, (below_setO w r ob hlo).trans g4, g5⟩
    simp only [Sem.run, h2]
    cases old <;> first | (simp [Obj.plainO] at h3; done) | exact g1
  | choose q k ih =>
    intro K H nx w h hr
    by_cases hf : q.forced = true
    · obtain ⟨x, w', H', nx', g1, g⟩ := ih 0 K H nx w (h.1 hf) hr
      exact ⟨x, w', H', nx', by simp only [Sem.run, hf, if_true]; exact g1, g⟩
    · have hf' : q.forced = false := by simpa using hf
      obtain ⟨x, w', H', nx', g1, g2, g3, g4, g5⟩ := ih _ K H nx w.drew (h.2 hf' (w.tape w.drawn q)) hr.drew
      exact ⟨x, w', H', nx', by simp only [Sem.run, hf', Bool.false_eq_true, if_false]; exact g1, g2, g3, ((BelowD.refl lo w).drew).trans g4, g5⟩
  | program k ih => intro K H nx w h hr; exact ih _ K H nx w h hr
  | mark m k ih => intro K H nx w h hr; exact ih K H nx w h hr
  | sys c k ih => intro K H nx w h hr; exact h.elim
  | halt x => intro K H nx w h hr; exact h.elim

theorem aw_bind {α β : Type} (P : Program) (lo : Nat) (s : Sem α) (f : α → Sem β) : ∀ (K : β → AH → Nat → Prop) (H : AH) (nx : Nat), aw P lo (s.bind f) K H nx ↔ aw P lo s (fun a H nx => aw P lo (f a) K H nx) H nx := by
  induction s with
  | pure a => intro K H nx; exact Iff.rfl
  | new ob k ih =>
    intro K H nx
    cases ob with
    | cells cs e fr =>
      obtain ⟨f1, f2⟩ := fr
      match f1, f2 with
      | 0, 0 => exact ⟨fun h n hn => (ih _ _ _ _).1 (h n hn), fun h n hn => (ih _ _ _ _).2 (h n hn)⟩
      | f1 + 1, f2 => simp [Sem.bind, aw]
      | 0, f2 + 1 => simp [Sem.bind, aw]
    | _ => exact ⟨fun h n hn => (ih _ _ _ _).1 (h n hn), fun h n hn => (ih _ _ _ _).2 (h n hn)⟩
  | halt x => intro K H nx; exact Iff.rfl
  | sys c k ih => intro K H nx; exact Iff.rfl
  | _ => intro K H nx; simp_all [Sem.bind, aw]

end Go.Proofs.YtngnbafididkcaaGreat
end
