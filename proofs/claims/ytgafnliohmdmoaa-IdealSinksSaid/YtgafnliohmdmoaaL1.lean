/- OUR OWN LOGIC OVER THE KIT'S. 1: what is known of memory ('AH': cells, other objects, shapes of blocks), how it stands to a world ('Rel'); what an operation's text yields by what is known ('Sem.peek', looking alone; 'Sem.aw', writing too); and that the model's run does so. Nothing of the program stands here. -/
import Derived.Test.YtgafnliohmdmoaaBase3
namespace Go.Proofs.Ytgafnliohmdmoaa
open Go.RowKit

/-- What is known of memory. -/
structure AH where
  c : Nat → Nat → Option Value
  o : Nat → Option Obj
  t : Nat → Option (TypeId × Nat)
  d : Option Nat

def AH.put (H : AH) (b o : Nat) (v : Value) : AH := { H with c := fun b' o' => if b' = b ∧ o' = o then some v else H.c b' o' }
def AH.new (H : AH) (n : Nat) (vs : Array Value) (e : TypeId) : AH :=
  { c := fun b' o' => if b' = n then vs[o']? else H.c b' o', o := fun b' => if b' = n then none else H.o b', t := fun b' => if b' = n then some (e, vs.size) else H.t b', d := H.d }
def AH.newO (H : AH) (n : Nat) (ob : Obj) : AH :=
  { c := fun b' o' => if b' = n then none else H.c b' o', o := fun b' => if b' = n then some ob else H.o b', t := fun b' => if b' = n then none else H.t b', d := H.d }
def AH.setO (H : AH) (n : Nat) (ob : Obj) : AH := { H with o := fun b' => if b' = n then some ob else H.o b' }
def AH.dropT (H : AH) (n : Nat) : AH := { H with t := fun b' => if b' = n then none else H.t b' }

/-- Below a block number all is as it was. -/
structure BelowD (B : Nat) (w w' : World) : Prop extends Below B w w' where
  dr : True
theorem BelowD.refl (B : Nat) (w : World) : BelowD B w w := ⟨Below.refl B w, trivial⟩
theorem BelowD.trans {B : Nat} {a b c : World} (h : BelowD B a b) (k : BelowD B b c) : BelowD B a c := ⟨h.toBelow.trans k.toBelow, trivial⟩
theorem BelowD.mono {B B' : Nat} {w w' : World} (h : BelowD B w w') (hB : B' ≤ B) : BelowD B' w w' := ⟨h.toBelow.mono hB, h.dr⟩
theorem BelowD.drew {B : Nat} {a w : World} (h : BelowD B a w) : BelowD B a w.drew := ⟨h.toBelow.drew, trivial⟩
theorem BelowD.alloc {B : Nat} {a w : World} (h : BelowD B a w) (hB : B ≤ w.heap.size) (o : Obj) : BelowD B a (w.alloc o) := ⟨h.toBelow.alloc hB o, h.dr⟩
theorem BelowD.setCell {B : Nat} {a w : World} (h : BelowD B a w) {p : Addr} (hp : B ≤ p.block) (u : Value) : BelowD B a (w.setCell p u) := ⟨h.toBelow.setCell hp u, h.dr⟩

def Obj.plainO : Obj → Bool
  | .cells .. => false
  | _ => true

/-- What is known holds in a world: from block 'lo' on we may write; all that is known lies below 'nx'. -/
structure Rel (lo : Nat) (H : AH) (nx : Nat) (w : World) : Prop where
  lo_nx : lo ≤ nx
  nx_size : nx ≤ w.heap.size
  c : ∀ b o v, H.c b o = some v → b < nx ∧ w.cell? ⟨b, o, none⟩ = some v ∧ (lo ≤ b → w.frozen? ⟨b, o, none⟩ = false)
  o : ∀ b ob, H.o b = some ob → b < nx ∧ w.heap[b]? = some ob ∧ Obj.plainO ob = true
  t : ∀ b e n, H.t b = some (e, n) → b < nx ∧ lo ≤ b ∧ ∃ cs, w.heap[b]? = some (.cells cs e (0, 0)) ∧ cs.size = n
  d : ∀ k, H.d = some k → k ≤ w.drawn

/-- The same, of what is looked at alone. -/
structure Sees (lo : Nat) (H : AH) (w : World) : Prop where
  c : ∀ b o v, H.c b o = some v → w.cell? ⟨b, o, none⟩ = some v
  o : ∀ b ob, H.o b = some ob → w.heap[b]? = some ob ∧ Obj.plainO ob = true
  t : ∀ b e n, H.t b = some (e, n) → lo ≤ b ∧ ∃ cs, w.heap[b]? = some (.cells cs e (0, 0)) ∧ cs.size = n

theorem Rel.sees {lo nx : Nat} {H : AH} {w : World} (h : Rel lo H nx w) : Sees lo H w :=
  ⟨fun b o v hv => (h.c b o v hv).2.1, fun b ob hb => (h.o b ob hb).2, fun b e n hb => (h.t b e n hb).2⟩

theorem Rel.drew {lo nx : Nat} {H : AH} {w : World} (h : Rel lo H nx w) : Rel lo H nx w.drew := ⟨h.lo_nx, h.nx_size, h.c, h.o, h.t, fun k hk => Nat.le_succ_of_le (h.d k hk)⟩

/-- Looking alone: what a text yields by what is known. -/
def peek {α : Type} (P : Program) (H : AH) : Sem α → Option α
  | .pure a => some a
  | .load _ a k => if a.spot.isSome then none else match H.c a.block a.off with
    | some v => peek P H (k v)
    | none => none
  | .shape r k => match H.t r with
    | some x => peek P H (k (some x))
    | none => none
  | .frozen a k => if (H.t a.block).isSome then peek P H (k false) else none
  | .getObj r k => match H.o r with
    | some ob => peek P H (k ob)
    | none => none
  | .program k => peek P H (k P)
  | .mark _ k => peek P H k
  | .choose q k => if q.forced then peek P H (k 0) else none
  | _ => none

theorem frozen_of_t {lo : Nat} {H : AH} {w : World} (h : Sees lo H w) {a : Addr} (ha : (H.t a.block).isSome = true) : w.frozen? a = false := by
  obtain ⟨⟨e, n⟩, hx⟩ := Option.isSome_iff_exists.1 ha
  obtain ⟨_, cs, hc, _⟩ := h.t _ _ _ hx
  simp [World.frozen?, hc]

theorem peek_sound {α : Type} {P : Program} {lo : Nat} {H : AH} {w : World} (h : Sees lo H w) (s : Sem α) : ∀ a, peek P H s = some a → s.run P w = .ok a w := by
  induction s with
  | pure a => intro b hb; simp only [peek, Option.some.injEq] at hb; subst hb; rfl
  | load m a k ih =>
    intro b hb
    simp only [peek] at hb
    obtain ⟨bl, off, sp⟩ := a
    cases sp with
    | some x => simp at hb
    | none =>
      simp only [Option.isSome_none, Bool.false_eq_true, if_false] at hb
      cases hc : H.c bl off with
      | none => rw [hc] at hb; simp at hb
      | some v =>
        rw [hc] at hb
        simp only [Sem.run, h.c _ _ _ hc]
        exact ih v b hb
  | shape r k ih =>
    intro b hb
    simp only [peek] at hb
    cases ht : H.t r with
    | none => rw [ht] at hb; simp at hb
    | some x =>
      rw [ht] at hb
      obtain ⟨e, n⟩ := x
      obtain ⟨_, cs, hcs, hn⟩ := h.t _ _ _ ht
      simp only [Sem.run]
      have : w.shape? r = some (e, n) := by simp [World.shape?, hcs, hn]
      rw [this]
      exact ih _ b hb
  | frozen a k ih =>
    intro b hb
    simp only [peek] at hb
    split at hb
    · rename_i ht
      simp only [Sem.run, frozen_of_t h ht]
      exact ih _ b hb
    · cases hb
  | getObj r k ih =>
    intro b hb
    simp only [peek] at hb
    cases ho : H.o r with
    | none => rw [ho] at hb; simp at hb
    | some ob =>
      rw [ho] at hb
      obtain ⟨h1, h2⟩ := h.o _ _ ho
      simp only [Sem.run, h1]
      cases ob <;> first | (simp [Obj.plainO] at h2; done) | exact ih _ b hb
  | program k ih => intro b hb; simp only [peek] at hb; exact ih _ b hb
  | mark m k ih => intro b hb; simp only [peek] at hb; exact ih b hb
  | choose q k ih =>
    intro b hb
    simp only [peek] at hb
    split at hb
    · rename_i hf
      simp only [Sem.run, hf, if_true]
      exact ih _ b hb
    · cases hb
  | _ => intro b hb; simp [peek] at hb

theorem peek_bind {α β : Type} (P : Program) (H : AH) (s : Sem α) (f : α → Sem β) : peek P H (s.bind f) = (peek P H s).bind fun a => peek P H (f a) := by
  induction s with
  | pure a => rfl
  | load m a k ih =>
    simp only [Sem.bind, peek]
    split
    · rfl
    · split <;> simp [ih]
  | shape r k ih => simp only [Sem.bind, peek]; split <;> simp [ih]
  | frozen a k ih => simp only [Sem.bind, peek]; split <;> simp [ih]
  | getObj r k ih => simp only [Sem.bind, peek]; split <;> simp [ih]
  | program k ih => simp only [Sem.bind, peek, ih]
  | mark m k ih => simp only [Sem.bind, peek, ih]
  | choose q k ih => simp only [Sem.bind, peek]; split <;> simp [ih]
  | _ => rfl

/-- Writing too. -/
def aw {α : Type} (P : Program) (lo : Nat) : Sem α → (α → AH → Nat → Prop) → AH → Nat → Prop
  | .pure a, K, H, nx => K a H nx
  | .load _ a k, K, H, nx => a.spot = none ∧ ∃ v, H.c a.block a.off = some v ∧ aw P lo (k v) K H nx
  | .store _ a v k, K, H, nx => a.spot = none ∧ lo ≤ a.block ∧ v.oneCell' = true ∧ (H.c a.block a.off).isSome = true ∧ aw P lo k K (H.put a.block a.off v) nx
  | .new (.cells cs e (0, 0)) k, K, H, nx => ∀ n, nx ≤ n → aw P lo (k n) K (H.new n cs e) (n + 1)
  | .new (.cells _ _ _) _, _, _, _ => False
  | .new ob k, K, H, nx => ∀ n, nx ≤ n → aw P lo (k n) K (H.newO n ob) (n + 1)
  | .shape r k, K, H, nx => (∃ x, H.t r = some x ∧ aw P lo (k (some x)) K H nx) ∨ (H.t r = none ∧ (∃ o, (H.c r o).isSome = true) ∧ ∀ e n, 0 < n → aw P lo (k (some (e, n))) K H nx)
  | .frozen a k, K, H, nx => ((H.t a.block).isSome = true ∧ aw P lo (k false) K H nx) ∨ (∀ t, aw P lo (k t) K H nx)
  | .freeze a _ k, K, H, nx => (∃ e n, H.t a.block = some (e, n) ∧ n ≤ a.off) ∧ aw P lo k K (H.dropT a.block) nx
  | .getObj r k, K, H, nx => ∃ ob, H.o r = some ob ∧ aw P lo (k ob) K H nx
  | .setObj r ob k, K, H, nx => lo ≤ r ∧ (H.o r).isSome = true ∧ Obj.plainO ob = true ∧ aw P lo k K (H.setO r ob) nx
  | .choose q k, K, H, nx => (q.forced = true → aw P lo (k 0) K H nx) ∧ (q.forced = false → ∀ t, aw P lo (k (q.cut t)) K H nx)
  | .program k, K, H, nx => aw P lo (k P) K H nx
  | .mark _ k, K, H, nx => aw P lo k K H nx
  | .sys _ _, _, _, _ => False
  | .halt _, _, _, _ => False

end Go.Proofs.Ytgafnliohmdmoaa
