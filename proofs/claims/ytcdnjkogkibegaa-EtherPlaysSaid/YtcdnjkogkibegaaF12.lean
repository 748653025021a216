/- Ether's law EtherPlays, in our own logic: what is known of the play's state; its code's parts. -/
import Derived.Test.YtcdnjkogkibegaaF9
namespace Go.Proofs.Ytcdnjkogkibegaa
open Go.RowKit
set_option linter.unusedSimpArgs false

/-- An act as it lies. -/
structure Act19 where
  k : Int
  a : Int
  b : Int
  i : Int
def Act19.cells (x : Act19) : List Value := [.int .u8 x.k, .int .u8 x.a, .int .u8 x.b, .int .i64 x.i]
def actCells19 (l : List Act19) : List Value := l.flatMap Act19.cells
structure Act19Ok (x : Act19) : Prop where
  k0 : 0 ≤ x.k
  k1 : x.k ≤ 255
  a0 : 0 ≤ x.a
  a1 : x.a ≤ 255
  b0 : 0 ≤ x.b
  b1 : x.b ≤ 255

/-- The ether, and the list of what should be under way. -/
structure PlA (lo nx : Nat) (H : AH) (x p4 : Nat) (up : Nat → Nat → Bool) (l l2 : List Pkt) (own own5 : Nat) (v5 : Value) : Prop where
  hE : EtherA lo nx H x up l own
  g4 : lo ≤ p4
  lt4 : p4 < nx
  n4 : p4 ≠ x
  hup : ∀ a b, a < 5 → b < 5 → H.c p4 (a * 5 + b) = some (.bool (up a b))
  up0 : ∀ a b, (5 ≤ a ∨ 5 ≤ b) → up a b = false
  hs : SlA nx H 3 v5 l2.length (pkCells l2) own5
  hv : views l2 = views l
  hb : ∀ k ∈ l, k.bs.length = 1
  o4 : own ≠ p4 + 1
  o5x : own5 ≠ x + 1
  o54 : own5 ≠ p4 + 1
  o5 : own5 = 0 ∨ own5 ≠ own
  lo5 : own5 = 0 ∨ lo < own5
  pk1 : ∀ k ∈ l, k.own ≠ p4 + 1 ∧ (k.own = 0 ∨ k.own ≠ own5)
  pk2 : ∀ k ∈ l2, SlA nx H 1 k.v k.bs.length (byteV k.bs) k.own ∧ k.own ≠ x + 1 ∧ k.own ≠ p4 + 1 ∧ (k.own = 0 ∨ k.own ≠ own) ∧ (k.own = 0 ∨ k.own ≠ own5)

theorem PlA.len {lo nx : Nat} {H : AH} {x p4 : Nat} {up : Nat → Nat → Bool} {l l2 : List Pkt} {own own5 : Nat} {v5 : Value} (h : PlA lo nx H x p4 up l l2 own own5 v5) : l2.length = l.length := by
  have := congrArg List.length h.hv
  simpa [views] using this
theorem PlA.at {lo nx : Nat} {H : AH} {x p4 : Nat} {up : Nat → Nat → Bool} {l l2 : List Pkt} {own own5 : Nat} {v5 : Value} (h : PlA lo nx H x p4 up l l2 own own5 v5) {i : Nat} (hi : i < l.length) :
    ∃ k k2, l[i]? = some k ∧ l2[i]? = some k2 ∧ k2.fr = k.fr ∧ k2.dst = k.dst ∧ k2.bs = k.bs ∧ k.bs.length = 1 := by
  have hl := h.len
  have e := congrArg (fun z => z[i]?) h.hv
  simp only [views, List.getElem?_map, List.getElem?_eq_getElem hi, List.getElem?_eq_getElem (show i < l2.length by omega), Option.map_some, Option.some.injEq, Pkt.view, Prod.mk.injEq] at e
  exact ⟨_, _, List.getElem?_eq_getElem hi, List.getElem?_eq_getElem (by omega), e.1, e.2.1, e.2.2, h.hb _ (List.getElem_mem hi)⟩

/-- Only new memory was written. -/
theorem PlA.kp {lo nx : Nat} {H : AH} {x p4 : Nat} {up : Nat → Nat → Bool} {l l2 : List Pkt} {own own5 : Nat} {v5 : Value} (h : PlA lo nx H x p4 up l l2 own own5 v5) {nx' : Nat} {H' : AH} (hk : Kp (fun _ => False) nx H H') (hn : nx ≤ nx') : PlA lo nx' H' x p4 up l l2 own own5 v5 :=
  ⟨h.hE.kp hk hn (by simp) (by simp) (by simp), h.g4, Nat.lt_of_lt_of_le h.lt4 hn, h.n4, fun a b ha hb => by rw [hk.cell0 _ _ h.lt4]; exact h.hup a b ha hb, h.up0, h.hs.kp hk hn (by simp), h.hv, h.hb, h.o4, h.o5x, h.o54, h.o5, h.lo5, h.pk1,
    fun k hm => ⟨(h.pk2 k hm).1.kp hk hn (by simp), (h.pk2 k hm).2⟩⟩

/-- The ether alone was written: its block, its list's block. -/
theorem PlA.ether {lo nx : Nat} {H : AH} {x p4 : Nat} {up : Nat → Nat → Bool} {l l2 : List Pkt} {own own5 : Nat} {v5 : Value} (h : PlA lo nx H x p4 up l l2 own own5 v5) {nx' : Nat} {H' : AH} {l' : List Pkt} {own' : Nat} (hk : Kp (fun b => b = x ∨ b + 1 = own) nx H H') (hn : nx ≤ nx')
    (hE : EtherA lo nx' H' x up l' own') (ho : own' = own ∨ nx < own') (hf : ∀ k ∈ l', k ∈ l ∨ k.own = 0 ∨ nx < k.own) (hb : ∀ k ∈ l', k.bs.length = 1) (hv : views l' = views l2) : PlA lo nx' H' x p4 up l' l2 own' own5 v5 := by
  have q1 := h.o4
  have q2 := h.o5x
  have q3 := h.o54
  have q4 := h.o5
  have q5 := h.n4
  have q6 := h.lt4
  have q7 := h.hs.le
  refine ⟨hE, h.g4, by omega, h.n4, fun a b ha hb => ?_, h.up0, h.hs.kp hk hn (by intro b hb; omega), hv.symm, hb, by omega, h.o5x, h.o54, by omega, h.lo5, fun k hm => ?_, fun k hm => ?_⟩
  · rw [hk.cell _ _ q6 (by omega)]; exact h.hup a b ha hb
  · rcases hf k hm with hm | hm | hm
    · exact h.pk1 k hm
    · exact ⟨by omega, .inl hm⟩
    · exact ⟨by omega, by omega⟩
  · obtain ⟨p1, p2, p3, p4', p5⟩ := h.pk2 k hm
    have p6 := p1.le
    exact ⟨p1.kp hk hn (by intro b hb; omega), p2, p3, by omega, p5⟩

/-- The list that should be was made anew, or written behind its end; new memory besides. -/
theorem PlA.list {lo nx : Nat} {H : AH} {x p4 : Nat} {up : Nat → Nat → Bool} {l l2 : List Pkt} {own own5 : Nat} {v5 : Value} (h : PlA lo nx H x p4 up l l2 own own5 v5) {nx' : Nat} {H' : AH} {l2' : List Pkt} {own5' : Nat} {v5' : Value} (hk : Kp (fun b => b + 1 = own5) nx H H') (hn : nx ≤ nx')
    (hs : SlA nx' H' 3 v5' l2'.length (pkCells l2') own5') (ho : own5' = own5 ∨ nx < own5' ∨ own5' = 0) (hpk : ∀ k ∈ l2', k ∈ l2 ∨ (SlA nx' H' 1 k.v k.bs.length (byteV k.bs) k.own ∧ (k.own = 0 ∨ (nx < k.own ∧ k.own ≠ own5')))) (hlo : lo ≤ nx) :
    EtherA lo nx' H' x up l own ∧ (views l2' = views l → PlA lo nx' H' x p4 up l l2' own own5' v5') := by
  have q1 := h.o4
  have q2 := h.o5x
  have q3 := h.o54
  have q4 := h.o5
  have q5 := h.n4
  have q6 := h.lt4
  have q7 := h.hs.le
  have q8 := h.hE.lt
  have q9 := h.hE.q.choose_spec.2.le
  have q10 := h.lo5
  have hE := h.hE.kp hk hn (by omega) (by intro b hb; omega) (fun k hm b hb => by have := h.pk1 k hm; omega)
  refine ⟨hE, fun hv => ⟨hE, h.g4, by omega, h.n4, fun a b ha hb => ?_, h.up0, hs, hv, h.hb, h.o4, by omega, by omega, by omega, by omega, fun k hm => ?_, fun k hm => ?_⟩⟩
  · rw [hk.cell _ _ q6 (by omega)]; exact h.hup a b ha hb
  · have p1 := (h.hE.pk k hm).1.le
    have p2 := h.pk1 k hm
    exact ⟨p2.1, by omega⟩
  · rcases hpk k hm with hm | ⟨p1, p2⟩
    · obtain ⟨p1, p2, p3, p4', p5⟩ := h.pk2 k hm
      have p6 := p1.le
      exact ⟨p1.kp hk hn (by intro b hb; omega), p2, p3, p4', by omega⟩
    · exact ⟨p1, by omega, by omega, by omega, by omega⟩

/-! ### The code's parts -/
def codeHd : Code → Code
  | .seq a _ => a
  | c => c
def codeTl : Code → Code
  | .seq _ b => b
  | c => c
def codeIn : Code → Code
  | .block _ b => b
  | .loop b => b
  | c => c
noncomputable def playBody : Code := (Try.f7.body).getD .skip
/-- What an act comes to. -/
noncomputable def playSw : Code := codeHd (codeTl (codeTl (codeTl (codeTl (codeIn (codeHd (codeTl (codeIn (codeIn (codeTl (codeHd (codeTl (codeTl (codeTl (codeTl (codeTl playBody))))))))))))))))

/-- What is known behind an act. -/
structure PlR (lo nx0 : Nat) (H0 : AH) (s : Value) (x p4 i a b n : Nat) (env : Env) (H : AH) (nx : Nat) (up : Nat → Nat → Bool) (l l2 : List Pkt) (own own5 : Nat) (v5 : Value) (rest : Env) : Prop where
  henv : env = (0, s) :: (3, .pointer (some ⟨x, 0, none⟩)) :: (4, .pointer (some ⟨p4, 0, none⟩)) :: (5, v5) :: (6, .int .i64 i) :: (7, .int .i64 a) :: (8, .int .i64 b) :: rest
  hx : nx0 ≤ nx
  hk : Kp (fun _ => False) nx0 H0 H
  hP : PlA lo nx H x p4 up l l2 own own5 v5
  ho : own = 0 ∨ nx0 < own
  ho5 : own5 = 0 ∨ nx0 < own5
  hl : l.length ≤ n
def plR (lo nx0 : Nat) (H0 : AH) (s : Value) (x p4 i a b n : Nat) (env : Env) (H : AH) (nx : Nat) : Prop := ∃ up l l2 own own5 v5 rest, PlR lo nx0 H0 s x p4 i a b n env H nx up l l2 own own5 v5 rest

end Go.Proofs.Ytcdnjkogkibegaa
