/- OUR OWN LOGIC OVER THE KIT'S. 25: bytes as a string in a region that draws; strings joined. Nothing of the program stands here. -/
import Derived.Test.YtcdimjocdpogjaaL24
namespace Go.Proofs.Ytcdimjocdpogjaa
open Go.RowKit

theorem convV_by {P : Program} {H : AH} {nx : Nat} {s d e : TypeId} {v : Value} {bs : List Int} {own : Nat} (ht : slT P s = some (e, 1)) (hu : P.underlying e = some (.int .u8)) (hd : P.underlying d = some .string)
    (hs : SlA nx H 1 v bs.length (bs.map (Value.int .u8)) own) : convV P H s d v = some (.string (byteS bs)) := by
  unfold slT at ht
  cases hus : P.underlying s with
  | none => rw [hus] at ht; cases ht
  | some dd =>
  rw [hus] at ht
  cases dd <;> simp only [reduceCtorEq] at ht
  rename_i e'
  simp only [Option.map_eq_some_iff, Prod.mk.injEq] at ht
  obtain ⟨k', hk', rfl, rfl⟩ := ht
  obtain ⟨a, c, rfl⟩ := hs.form
  show peek P H (convert s d (.slice a bs.length c)) = some (.string (byteS bs))
  unfold convert
  rw [peek_then, peek_underlying, hus]
  simp only [Option.bind_some]
  rw [peek_then, peek_underlying, hd]
  simp only [Option.bind_some]
  rw [peek_then, peek_underlying, hu]
  simp only [Option.bind_some]
  unfold Conv.bytesToString
  cases a with
  | none =>
    rcases hs.2.2 with ⟨h1, h2, _⟩ | ⟨g, off, cap, h1, _⟩
    · have : bs = [] := List.eq_nil_of_length_eq_zero h2
      subst this
      rfl
    · simp at h1
  | some a =>
    have hf := hs.first (P := P)
    simp only [Builtin.firstCells, Nat.mul_one] at hf
    simp only
    rw [peek_then, hf]
    simp only [Option.bind_some]
    rw [peek_then]
    rw [← Array.forIn_toList, List.toList_toArray, peek_bytes_loop (fun _ _ => rfl) bs ByteArray.empty]
    simp only [Option.bind_some, peek_pure, byteS]
    congr 3
    rw [show ByteArray.empty.data = #[] from rfl, Array.empty_append]

theorem add_str {P : Program} {H : AH} {t : TypeId} {x y : Operand} {a b : ByteArray} (h : a.size + b.size ≤ 4611686018427387904) : binV P H .add t x y (.string a) (.string b) = some (.string (a ++ b)) := by
  rw [bin_eq (by simp) (by simp)]
  show peek P H (if ((a.size + b.size : Nat) : Int) > IntKind.i64.max then unsupported (.resourceLimit "string concatenation: a sum of the lengths that is no int") else (pure (Value.string (a ++ b)) : Sem Value)) = _
  rw [if_neg, peek_pure]
  have : IntKind.i64.max = 9223372036854775807 := by decide
  omega
theorem byteS_append (a b : List Int) : (byteS a ++ byteS b).data.toList = (byteS (a ++ b)).data.toList := by
  simp [byteS]
theorem byteS_size (a : List Int) : (byteS a).size = a.length := by simp [byteS, ByteArray.size]
end Go.Proofs.Ytcdimjocdpogjaa
