/- Shelf: what lies in memory, and what turns there. -/
import Derived.Test.YtcdimjocdpogjaaFacts
import Derived.Test.YtcdimjocdpogjaaL26
namespace Go.Proofs.Ytcdimjocdpogjaa
open Go.RowKit
set_option linter.unusedSimpArgs false

def bytV (bs : List Int) : List Value := bs.map fun b => .int .u8 b
theorem bytV_one {bs : List Int} : ∀ v ∈ bytV bs, v.oneCell' = true := by
  intro v hv
  simp only [bytV, List.mem_map] at hv
  obtain ⟨b, _, rfl⟩ := hv
  rfl
theorem bytV_append (a b : List Int) : bytV (a ++ b) = bytV a ++ bytV b := by simp [bytV]
theorem bytV_len (a : List Int) : (bytV a).length = a.length := by simp [bytV]
/-- What was done to a name. -/
structure Mv where
  name : ByteArray
  b : Option Nat
  frm : ByteArray
def Mv.cells (m : Mv) : List Value := [.string m.name, ekP m.b, .string m.frm]
def mvCells (l : List Mv) : List Value := l.flatMap Mv.cells
theorem mv_three (m : Mv) : m.cells.length = 3 := rfl
theorem mvCells_one {l : List Mv} : ∀ v ∈ mvCells l, v.oneCell' = true := by
  intro v hv
  simp only [mvCells, List.mem_flatMap] at hv
  obtain ⟨c, _, hv⟩ := hv
  simp only [Mv.cells, List.mem_cons, List.not_mem_nil, or_false] at hv
  rcases hv with rfl | rfl | rfl <;> rfl
theorem mvCells_append (a b : List Mv) : mvCells (a ++ b) = mvCells a ++ mvCells b := by simp [mvCells]
theorem mv_load {nx : Nat} {H : AH} {g off c n own : Nat} {l : List Mv} (hs : SlA nx H 3 (.slice (some ⟨g, off, none⟩) n c) n (mvCells l) own) {i : Nat} {x : Mv} (hi : l[i]? = some x) : loadN H g (off + i * 3) 3 = some x.cells := flat_load mv_three hs hi

/-- A shelf. bk: its files, by their blocks: bytes, and how many are safe. -/
structure Fs where
  now : List (ByteArray × Nat)
  old : List (ByteArray × Nat)
  moves : List Mv
  room : Int
  left : Int
  off : Bool
  done : Int
  bk : List (Nat × List Int × Int)
structure Lay where
  mn : Nat
  mo : Nat
  mv : Nat
  own : Nat → Nat
def evB (b : Nat) : Value := .pointer (some ⟨b, 0, none⟩)

/-- The parts of a shelf in memory. -/
inductive Pt where
  | p | mn | mo | mv
  | bk (i : Nat)
  | ow (i : Nat)
def Pt.at (p : Nat) (L : Lay) : Pt → Nat
  | .p => p + 1
  | .mn => L.mn + 1
  | .mo => L.mo + 1
  | .mv => L.mv
  | .bk i => i + 1
  | .ow i => L.own i
def Pt.ok (f : Fs) : Pt → Prop
  | .bk i | .ow i => ∃ q ∈ f.bk, q.1 = i
  | _ => True
def fpS (p : Nat) (f : Fs) (L : Lay) (b : Nat) : Prop := ∃ x : Pt, x.ok f ∧ x.at p L = b + 1

structure ShA (lo nx : Nat) (H : AH) (p : Nat) (f : Fs) (L : Lay) : Prop where
  c0 : H.c p 0 = some (.map (some L.mn))
  c1 : H.c p 1 = some (.map (some L.mo))
  c2 : ∃ v, H.c p 2 = some v ∧ SlA nx H 3 v f.moves.length (mvCells f.moves) L.mv
  c3 : H.c p 3 = some (.int .i64 f.room)
  c4 : H.c p 4 = some (.int .i64 f.left)
  c5 : H.c p 5 = some (.bool f.off)
  c6 : H.c p 6 = some (.int .i64 f.done)
  on : ∃ ob, H.o L.mn = some ob ∧ MapA ekS evB ob f.now
  oo : ∃ ob, H.o L.mo = some ob ∧ MapA ekS evB ob f.old
  bk : ∀ q ∈ f.bk, H.t q.1 = some (62, 2) ∧ (∃ v, H.c q.1 0 = some v ∧ SlA nx H 1 v q.2.1.length (bytV q.2.1) (L.own q.1)) ∧ H.c q.1 1 = some (.int .i64 q.2.2)
  uq : UqA f.bk
  rng : ∀ x : Pt, x.ok f → x.at p L = 0 ∨ (lo < x.at p L ∧ x.at p L ≤ nx)
  nd : ∀ x y : Pt, x.ok f → y.ok f → x.at p L = y.at p L → x.at p L = 0 ∨ x = y
  now1 : ∀ a ∈ f.now, ∃ q ∈ f.bk, q.1 = a.2
  old1 : ∀ a ∈ f.old, ∃ q ∈ f.bk, q.1 = a.2
  mv1 : ∀ m ∈ f.moves, ∀ b, m.b = some b → ∃ q ∈ f.bk, q.1 = b

section
variable {lo nx : Nat} {H : AH} {p : Nat} {f : Fs} {L : Lay}
theorem ShA.ne (h : ShA lo nx H p f L) {x y : Pt} (hx : x.ok f) (hy : y.ok f) (hxy : x ≠ y) : x.at p L = 0 ∨ x.at p L ≠ y.at p L := by
  by_cases e : x.at p L = y.at p L
  · rcases h.nd x y hx hy e with h | h
    · exact .inl h
    · exact absurd h hxy
  · exact .inr e
theorem ShA.ltp (h : ShA lo nx H p f L) : lo ≤ p ∧ p < nx := by have := h.rng .p trivial; simp only [Pt.at] at this; omega
theorem ShA.ltn (h : ShA lo nx H p f L) : lo ≤ L.mn ∧ L.mn < nx ∧ L.mn ≠ p ∧ L.mn ≠ L.mo := by
  have := h.rng .mn trivial
  have h1 := h.ne (x := .mn) (y := .p) trivial trivial (by simp)
  have h2 := h.ne (x := .mn) (y := .mo) trivial trivial (by simp)
  simp only [Pt.at] at *; omega
theorem ShA.lto (h : ShA lo nx H p f L) : lo ≤ L.mo ∧ L.mo < nx ∧ L.mo ≠ p := by
  have := h.rng .mo trivial
  have h1 := h.ne (x := .mo) (y := .p) trivial trivial (by simp)
  simp only [Pt.at] at *; omega
theorem ShA.ltv (h : ShA lo nx H p f L) : (L.mv = 0 ∨ lo < L.mv) ∧ L.mv ≤ nx ∧ L.mv ≠ p + 1 := by
  have := h.rng .mv trivial
  have h1 := h.ne (x := .mv) (y := .p) trivial trivial (by simp)
  simp only [Pt.at] at *; omega
theorem ShA.ltb (h : ShA lo nx H p f L) {q : Nat × List Int × Int} (hq : q ∈ f.bk) : lo ≤ q.1 ∧ q.1 < nx ∧ q.1 ≠ p ∧ q.1 + 1 ≠ L.mv ∧ (L.own q.1 = 0 ∨ lo < L.own q.1) ∧ L.own q.1 ≤ nx ∧ L.own q.1 ≠ p + 1 ∧ L.own q.1 ≠ q.1 + 1 ∧ (L.own q.1 = 0 ∨ L.own q.1 ≠ L.mv) := by
  have h0 := h.rng (.bk q.1) ⟨q, hq, rfl⟩
  have h1 := h.rng (.ow q.1) ⟨q, hq, rfl⟩
  have h2 := h.ne (x := .bk q.1) (y := .p) ⟨q, hq, rfl⟩ trivial (by simp)
  have h3 := h.ne (x := .bk q.1) (y := .mv) ⟨q, hq, rfl⟩ trivial (by simp)
  have h4 := h.ne (x := .ow q.1) (y := .p) ⟨q, hq, rfl⟩ trivial (by simp)
  have h5 := h.ne (x := .ow q.1) (y := .bk q.1) ⟨q, hq, rfl⟩ ⟨q, hq, rfl⟩ (by simp)
  have h6 := h.ne (x := .ow q.1) (y := .mv) ⟨q, hq, rfl⟩ trivial (by simp)
  simp only [Pt.at] at *; omega
theorem ShA.ltbb (h : ShA lo nx H p f L) {q r : Nat × List Int × Int} (hq : q ∈ f.bk) (hr : r ∈ f.bk) (hne : q.1 ≠ r.1) : L.own q.1 ≠ r.1 + 1 ∧ (L.own q.1 = 0 ∨ L.own q.1 ≠ L.own r.1) := by
  have h5 := h.ne (x := .ow q.1) (y := .bk r.1) ⟨q, hq, rfl⟩ ⟨r, hr, rfl⟩ (by simp)
  have h6 := h.ne (x := .ow q.1) (y := .ow r.1) ⟨q, hq, rfl⟩ ⟨r, hr, rfl⟩ (by simpa using hne)
  simp only [Pt.at] at *; omega

/-- What turns nothing of it. -/
theorem ShA.kp (h : ShA lo nx H p f L) {S : Nat → Prop} {nx' : Nat} {H' : AH} (hk : Kp S nx H H') (hn : nx ≤ nx') (hs : ∀ b, fpS p f L b → ¬ S b) : ShA lo nx' H' p f L := by
  obtain ⟨l1, l2⟩ := h.ltp
  have hp := hk p l2 (hs p ⟨.p, trivial, rfl⟩)
  obtain ⟨n1, n2, _, _⟩ := h.ltn
  obtain ⟨o1, o2, _⟩ := h.lto
  have hmn := hk L.mn n2 (hs L.mn ⟨.mn, trivial, rfl⟩)
  have hmo := hk L.mo o2 (hs L.mo ⟨.mo, trivial, rfl⟩)
  refine ⟨by rw [hp.1]; exact h.c0, by rw [hp.1]; exact h.c1, ?_, by rw [hp.1]; exact h.c3, by rw [hp.1]; exact h.c4, by rw [hp.1]; exact h.c5, by rw [hp.1]; exact h.c6, by rw [hmn.2.1]; exact h.on, by rw [hmo.2.1]; exact h.oo, fun q hq => ?_, h.uq, fun x hx => ?_, h.nd, h.now1, h.old1, h.mv1⟩
  · obtain ⟨v, hv, hsl⟩ := h.c2
    exact ⟨v, by rw [hp.1]; exact hv, hsl.kp hk hn fun b hb => hs b ⟨.mv, trivial, hb.symm⟩⟩
  · obtain ⟨b1, ⟨v, b2, b3⟩, b4⟩ := h.bk q hq
    have hb := hk q.1 (h.ltb hq).2.1 (hs q.1 ⟨.bk q.1, ⟨q, hq, rfl⟩, rfl⟩)
    exact ⟨by rw [hb.2.2]; exact b1, ⟨v, by rw [hb.1]; exact b2, b3.kp hk hn fun b hb => hs b ⟨.ow q.1, ⟨q, hq, rfl⟩, hb.symm⟩⟩, by rw [hb.1]; exact b4⟩
  · have := h.rng x hx
    omega

/-- Where parts are laid anew. -/
structure Anew (lo nx nx' p : Nat) (f : Fs) (L : Lay) (f' : Fs) (L' : Lay) : Prop where
  le : nx ≤ nx'
  q : ∀ x : Pt, x.ok f' → (x.ok f ∧ x.at p L' = x.at p L) ∨ x.at p L' = 0 ∨ (nx < x.at p L' ∧ x.at p L' ≤ nx')
  d : ∀ x y : Pt, x.ok f' → y.ok f' → nx < x.at p L' → x.at p L' = y.at p L' → x = y
theorem Anew.same {lo nx nx' p : Nat} {f : Fs} {L : Lay} {f' : Fs} (hn : nx ≤ nx') (h : ∀ x : Pt, x.ok f' → x.ok f) (hr : ∀ x : Pt, x.ok f → x.at p L ≤ nx) : Anew lo nx nx' p f L f' L :=
  ⟨hn, fun x hx => .inl ⟨h x hx, rfl⟩, fun x y hx _ hl => absurd (hr x (h x hx)) (by omega)⟩
end
end Go.Proofs.Ytcdimjocdpogjaa
