/- OUR OWN LOGIC OVER THE KIT'S. 24: min and max of two integers; maps compared with nil. Nothing of the program stands here. OUR OWN LOGIC OVER THE KIT'S. 25: bytes as a string in a region that draws; strings joined. Nothing of the program stands here. A slice that came in with an argument: nothing is known of where one of no room lies. Nothing of the program stands here. -/
import Derived.Test.YtgafnliohmdmoaaL23
import Derived.Test.YtgafnliohmdmoaaL19
section
namespace Go.Proofs.Ytgafnliohmdmoaa
open Go.RowKit
theorem maxV_int (P : Program) (H : AH) (ts : Array TypeId) (t : TypeId) (k k' : IntKind) (a b : Int) : maxV P H ts t #[.int k a, .int k' b] = some (.int k (max a b)) := by
  show some (Value.int k (if b > a then b else a)) = _
  congr 2
  split <;> omega
theorem minV_int (P : Program) (H : AH) (ts : Array TypeId) (t : TypeId) (k k' : IntKind) (a b : Int) : minV P H ts t #[.int k a, .int k' b] = some (.int k (min a b)) := by
  show some (Value.int k (if b < a then b else a)) = _
  congr 2
  split <;> omega
section
variable {P : Program} {lo : Nat} {ops : Array Oper} {H0 : AH} {nx0 i : Nat} {rest : List Nat} {dst : Option Tmp} {type : TypeId} {pos : String} {after : Array Edge} {g : Option (Nat × Bool)} {env : Env} {H : AH} {nx : Nat} {K : Env → AH → Nat → Prop}
theorem dGo_min (args : Array Operand) (ts : Array TypeId) : dGo P lo ops H0 nx0 i rest { dst, op := .call { callee := .builtin .min, args, argTypes := ts }, type, pos, after, guard := g } env H nx K = onA (((evs env args.toList).bind fun l => minV P AH.empty ts type l.toArray)) (drawK P lo ops H0 nx0 rest env dst H nx K) := yq AH.empty _
theorem dGo_max (args : Array Operand) (ts : Array TypeId) : dGo P lo ops H0 nx0 i rest { dst, op := .call { callee := .builtin .max, args, argTypes := ts }, type, pos, after, guard := g } env H nx K = onA (((evs env args.toList).bind fun l => maxV P AH.empty ts type l.toArray)) (drawK P lo ops H0 nx0 rest env dst H nx K) := yq AH.empty _
end
attribute [go_sem] maxV_int minV_int dGo_min dGo_max
end Go.Proofs.Ytgafnliohmdmoaa
end
section
namespace Go.Proofs.Ytgafnliohmdmoaa
open Go.RowKit

theorem convV_by {P : Program} {H : AH} {nx : Nat} {s d e : TypeId} {v : Value} {bs : List Int} {own : Nat} (ht : slT P s = some (e, 1)) (hu : P.underlying e = some (.int .u8)) (hd : P.underlying d = some .string)
    (hs : SlA nx H 1 v bs.length (bs.map (Value.int .u8)) own) : convV P H s d v = some (.string (byteS bs)) := by
  unfold slT at ht
  cases hus : P.underlying s with
  | none => rw [hus] at ht; cases ht
  | some dd =>
  rw [hus] at ht
  cases dd <;> simp only [reduceCtorEq] at ht
  rename_i e'
  simp only [Option.map_eq_some_iff, Prod.mk.injEq] at ht
  obtain ⟨k', hk', rfl, rfl⟩ := ht
  obtain ⟨a, c, rfl⟩ := hs.form
  show peek P H (convert s d (.slice a bs.length c)) = some (.string (byteS bs))
  unfold convert
  rw [peek_then, peek_underlying, hus]
  simp only [Option.bind_some]
  rw [peek_then, peek_underlying, hd]
  simp only [Option.bind_some]
  rw [peek_then, peek_underlying, hu]
  simp only [Option.bind_some]
  unfold Conv.bytesToString
  cases a with
  | none =>
    rcases hs.2.2 with ⟨h1, h2, _⟩ | ⟨g, off, cap, h1, _⟩
    · have : bs = [] := List.eq_nil_of_length_eq_zero h2
      subst this
      rfl
    · simp at h1
  | some a =>
    have hf := hs.first (P := P)
    simp only [Builtin.firstCells, Nat.mul_one] at hf
    simp only
    rw [peek_then, hf]
    simp only [Option.bind_some]
    rw [peek_then]
    rw [← Array.forIn_toList, List.toList_toArray, peek_bytes_loop (fun _ _ => rfl) bs ByteArray.empty]
    simp only [Option.bind_some, peek_pure, byteS]
    congr 3
    rw [show ByteArray.empty.data = #[] from rfl, Array.empty_append]

theorem add_str {P : Program} {H : AH} {t : TypeId} {x y : Operand} {a b : ByteArray} (h : a.size + b.size ≤ 4611686018427387904) : binV P H .add t x y (.string a) (.string b) = some (.string (a ++ b)) := by
  rw [bin_eq (by simp) (by simp)]
  show peek P H (if ((a.size + b.size : Nat) : Int) > IntKind.i64.max then unsupported (.resourceLimit "string concatenation: a sum of the lengths that is no int") else (pure (Value.string (a ++ b)) : Sem Value)) = _
  rw [if_neg, peek_pure]
  have : IntKind.i64.max = 9223372036854775807 := by decide
  omega
theorem byteS_append (a b : List Int) : (byteS a ++ byteS b).data.toList = (byteS (a ++ b)).data.toList := by
  simp [byteS]
theorem byteS_size (a : List Int) : (byteS a).size = a.length := by simp [byteS, ByteArray.size]
end Go.Proofs.Ytgafnliohmdmoaa
end
section
namespace Go.Proofs.Ytgafnliohmdmoaa
open Go.RowKit

def SlZ (nx : Nat) (H : AH) (size : Nat) (v : Value) (n : Nat) (xs : List Value) (own : Nat) : Prop := SlA nx H size v n xs own ∨ ((∃ a, v = .slice (some a) 0 0) ∧ n = 0 ∧ xs = [] ∧ own = 0)
section
variable {P : Program} {nx : Nat} {H : AH} {size : Nat} {v : Value} {n : Nat} {xs : List Value} {own : Nat}
theorem SlZ.form (h : SlZ nx H size v n xs own) : ∃ a c, v = .slice a n c := by
  rcases h with h | ⟨⟨a, rfl⟩, rfl, _⟩
  · exact h.form
  · exact ⟨_, _, rfl⟩
theorem SlZ.one (h : SlZ nx H size v n xs own) : v.oneCell' = true := by
  obtain ⟨a, c, rfl⟩ := h.form
  rfl
theorem SlZ.le (h : SlZ nx H size v n xs own) : own ≤ nx := by
  rcases h with h | ⟨_, _, _, rfl⟩
  · exact h.le
  · omega
theorem SlZ.kp {S : Nat → Prop} {nx' : Nat} {H' : AH} (h : SlZ nx H size v n xs own) (hk : Kp S nx H H') (hn : nx ≤ nx') (hs : ∀ b, b + 1 = own → ¬ S b) : SlZ nx' H' size v n xs own := by
  rcases h with h | h
  · exact .inl (h.kp hk hn hs)
  · exact .inr h
theorem SlZ.src {tx e : TypeId} {k : Nat} (h : SlZ nx H size v n xs own) (ht : slT P tx = some (e, k)) (h1 : ∀ u ∈ xs, u.oneCell' = true) : SrcA P H size tx v n xs := by
  rcases h with h | ⟨⟨a, rfl⟩, rfl, rfl, _⟩
  · exact h.src ht h1
  · refine ⟨?_, rfl, by simp only [Builtin.firstCells, loadCells, Nat.zero_mul]; rfl, by simp, by simp⟩
    unfold slT at ht
    cases hu : P.underlying tx with
    | none => rw [hu] at ht; cases ht
    | some d =>
      rw [hu] at ht
      cases d <;> simp only [reduceCtorEq] at ht
      exact ⟨_, rfl, by simp⟩
end
end Go.Proofs.Ytgafnliohmdmoaa
end
