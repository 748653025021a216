import Derived.Test.YtcdnjkogkibegaaL15
namespace Go.Proofs.Ytcdnjkogkibegaa
open Go.RowKit
set_option linter.unusedSimpArgs false
/-! 3: milestone/milestonelaw19.EtherMost · code of 69 operations -/
def L3 : Nat → List Nat
  | 0 => [0]
  | 1 => [0, 10]
  | 2 => [2]
  | 3 => [0, 3]
  | 4 => [0, 3]
  | 5 => [3, 4]
  | 6 => [3, 4, 5]
  | 7 => [3, 4, 5, 21]
  | 9 => [3, 4, 5]
  | 8 => [3, 4, 5]
  | 10 => [3, 4, 6]
  | 11 => [3, 4, 6, 34]
  | 12 => [3, 4, 6]
  | 13 => [3, 4, 6, 7, 8]
  | 14 => [2]
  | _ => []
theorem L3x0 : L3 0 = [0] := (rfl)
theorem L3x1 : L3 1 = [0, 10] := (rfl)
theorem L3x2 : L3 2 = [2] := (rfl)
theorem L3x3 : L3 3 = [0, 3] := (rfl)
theorem L3x4 : L3 4 = [0, 3] := (rfl)
theorem L3x5 : L3 5 = [3, 4] := (rfl)
theorem L3x6 : L3 6 = [3, 4, 5] := (rfl)
theorem L3x7 : L3 7 = [3, 4, 5, 21] := (rfl)
theorem L3x9 : L3 9 = [3, 4, 5] := (rfl)
theorem L3x8 : L3 8 = [3, 4, 5] := (rfl)
theorem L3x10 : L3 10 = [3, 4, 6] := (rfl)
theorem L3x11 : L3 11 = [3, 4, 6, 34] := (rfl)
theorem L3x12 : L3 12 = [3, 4, 6] := (rfl)
theorem L3x13 : L3 13 = [3, 4, 6, 7, 8] := (rfl)
theorem L3x14 : L3 14 = [2] := (rfl)
def ord3x14 : List Nat := [0, 2, 1, 3, 4, 5, 6, 7, 8, 9, 10, 11, 12, 13, 14, 15, 16, 17, 18, 19, 20, 21, 22, 23, 24, 25, 26]
theorem fnOk3 : fnOk Try.prog 3 = true := by kernel_rfl
theorem rq3 {R : Value → AH → Nat → Prop} {env : Env} {H : AH} {nx : Nat} : retQ Try.prog Try.f3 R .ret env H nx = onV (eg env 2) R H nx := retQ_one rfl (of_decide_eq_true (by kernel_rfl))

noncomputable def z29 : Value := (zeroT Try.prog 29).getD undef
theorem zero29 : zeroT Try.prog 29 = some z29 := by kernel_rfl
theorem bd0x29 (H : AH) : buildV Try.prog H 29 #[] = some (.agg z29.cells) := build_zero (by kernel_rfl) zero29
theorem cv22x3 (lo : Nat) (k' : IntKind) (n : Int) (K : Value → AH → Nat → Prop) (H : AH) (nx : Nat) : convQ Try.prog lo 22 3 (.int k' n) K H nx = K (.int .i64 (IntKind.wrap .i64 n)) H nx := convQ_int (by kernel_rfl) (by kernel_rfl)
theorem cx22x3 (k' : IntKind) (n : Int) (H : AH) : convV Try.prog H 22 3 (.int k' n) = some (.int .i64 (IntKind.wrap .i64 n)) := convV_int (by kernel_rfl) (by kernel_rfl)
theorem cv3x5 (lo : Nat) (k' : IntKind) (n : Int) (K : Value → AH → Nat → Prop) (H : AH) (nx : Nat) : convQ Try.prog lo 3 5 (.int k' n) K H nx = K (.int .u8 (IntKind.wrap .u8 n)) H nx := convQ_int (by kernel_rfl) (by kernel_rfl)
theorem cx3x5 (k' : IntKind) (n : Int) (H : AH) : convV Try.prog H 3 5 (.int k' n) = some (.int .u8 (IntKind.wrap .u8 n)) := convV_int (by kernel_rfl) (by kernel_rfl)
theorem zero5 : zeroT Try.prog 5 = some (.int .u8 0) := by kernel_rfl
theorem sl34 : slT Try.prog 34 = some (5, 1) := by kernel_rfl
theorem zero36 : zeroT Try.prog 36 = some (.agg #[(.int .i64 0), (.int .i64 0), (.slice none 0 0)]) := by kernel_rfl
theorem al36 (lo : Nat) (K : Value → AH → Nat → Prop) (H : AH) (nx : Nat) : allocQ Try.prog lo 36 K H nx = newQ 36 ((.agg #[(.int .i64 0), (.int .i64 0), (.slice none 0 0)]) : Value).cells K H nx := alloc_new zero36
theorem st36 (lo : Nat) (b o : Nat) (v0 v1 v2 : Value) (K : AH → Nat → Prop) (H : AH) (nx : Nat) : storeQ Try.prog lo 36 (.pointer (some ⟨b, o, none⟩)) (.agg #[v0, v1, v2]) K H nx = stsQ lo b o [v0, v1, v2] K H nx := store_agg (n := 3) (by kernel_rfl) (by decide) rfl
theorem fa36x2 (H : AH) (b o : Nat) : fieldAV Try.prog H 36 2 (.pointer (some ⟨b, o, none⟩)) = some (.pointer (some ⟨b, o + 2, none⟩)) := fieldAV_eq 36 2 b o false 0 2 (by kernel_rfl)
theorem ld34 (H : AH) (b o : Nat) : loadV Try.prog H 34 (.pointer (some ⟨b, o, none⟩)) = H.c b o := load_one (by kernel_rfl)
theorem ia34 (H : AH) (n b o c : Nat) (kk : IntKind) (i : Int) (h0 : 0 ≤ i) (h1 : i < n) : indexAV Try.prog H 34 (.slice (some ⟨b, o, none⟩) n c) (.int kk i) = some (.pointer (some ⟨b, o + i.toNat * 1, none⟩)) := indexAV_slice 34 5 n 1 b o c kk i (by kernel_rfl) h0 h1
theorem ld5 (H : AH) (b o : Nat) : loadV Try.prog H 5 (.pointer (some ⟨b, o, none⟩)) = H.c b o := load_one (by kernel_rfl)
theorem cv5x3 (lo : Nat) (k' : IntKind) (n : Int) (K : Value → AH → Nat → Prop) (H : AH) (nx : Nat) : convQ Try.prog lo 5 3 (.int k' n) K H nx = K (.int .i64 (IntKind.wrap .i64 n)) H nx := convQ_int (by kernel_rfl) (by kernel_rfl)
theorem cx5x3 (k' : IntKind) (n : Int) (H : AH) : convV Try.prog H 5 3 (.int k' n) = some (.int .i64 (IntKind.wrap .i64 n)) := convV_int (by kernel_rfl) (by kernel_rfl)
/-! 4: milestone/milestonelaw19.EtherCuts · code of 112 operations -/
def L4 : Nat → List Nat
  | 0 => [0, 1, 2]
  | 1 => [0, 1, 2, 22]
  | 2 => [6]
  | 3 => [0, 1, 2, 7]
  | 4 => [0, 2, 7, 8]
  | 5 => [0, 7, 8, 9]
  | 6 => [0, 7, 8, 9]
  | 7 => [0, 7, 8, 9, 10]
  | 8 => [0, 7, 8, 9, 10, 40]
  | 10 => [0, 7, 8, 9, 10]
  | 9 => [0, 7, 8, 9, 10]
  | 11 => [0, 7, 8, 9]
  | 12 => [0, 7, 8, 9, 72]
  | 13 => [6]
  | 14 => [0, 7, 8, 9, 11]
  | 15 => [0, 7, 8, 9, 11, 77]
  | 17 => [0, 7, 8, 9, 11, 12, 13]
  | 18 => [0, 7, 8, 9, 11, 107]
  | 19 => [6]
  | 16 => [0, 7, 8, 9, 11]
  | 20 => [6]
  | _ => []
theorem L4x0 : L4 0 = [0, 1, 2] := (rfl)
theorem L4x1 : L4 1 = [0, 1, 2, 22] := (rfl)
theorem L4x2 : L4 2 = [6] := (rfl)
theorem L4x3 : L4 3 = [0, 1, 2, 7] := (rfl)
theorem L4x4 : L4 4 = [0, 2, 7, 8] := (rfl)
theorem L4x5 : L4 5 = [0, 7, 8, 9] := (rfl)
theorem L4x6 : L4 6 = [0, 7, 8, 9] := (rfl)
theorem L4x7 : L4 7 = [0, 7, 8, 9, 10] := (rfl)
theorem L4x8 : L4 8 = [0, 7, 8, 9, 10, 40] := (rfl)
theorem L4x10 : L4 10 = [0, 7, 8, 9, 10] := (rfl)
theorem L4x9 : L4 9 = [0, 7, 8, 9, 10] := (rfl)
theorem L4x11 : L4 11 = [0, 7, 8, 9] := (rfl)
theorem L4x12 : L4 12 = [0, 7, 8, 9, 72] := (rfl)
theorem L4x13 : L4 13 = [6] := (rfl)
theorem L4x14 : L4 14 = [0, 7, 8, 9, 11] := (rfl)
theorem L4x15 : L4 15 = [0, 7, 8, 9, 11, 77] := (rfl)
theorem L4x17 : L4 17 = [0, 7, 8, 9, 11, 12, 13] := (rfl)
theorem L4x18 : L4 18 = [0, 7, 8, 9, 11, 107] := (rfl)
theorem L4x19 : L4 19 = [6] := (rfl)
theorem L4x16 : L4 16 = [0, 7, 8, 9, 11] := (rfl)
theorem L4x20 : L4 20 = [6] := (rfl)
theorem fnOk4 : fnOk Try.prog 4 = true := by kernel_rfl
theorem rq4 {R : Value → AH → Nat → Prop} {env : Env} {H : AH} {nx : Nat} : retQ Try.prog Try.f4 R .ret env H nx = onV (eg env 6) R H nx := retQ_one rfl (of_decide_eq_true (by kernel_rfl))

theorem fa36x0 (H : AH) (b o : Nat) : fieldAV Try.prog H 36 0 (.pointer (some ⟨b, o, none⟩)) = some (.pointer (some ⟨b, o + 0, none⟩)) := fieldAV_eq 36 0 b o false 0 0 (by kernel_rfl)
theorem ld3 (H : AH) (b o : Nat) : loadV Try.prog H 3 (.pointer (some ⟨b, o, none⟩)) = H.c b o := load_one (by kernel_rfl)
theorem fa36x1 (H : AH) (b o : Nat) : fieldAV Try.prog H 36 1 (.pointer (some ⟨b, o, none⟩)) = some (.pointer (some ⟨b, o + 1, none⟩)) := fieldAV_eq 36 1 b o false 0 1 (by kernel_rfl)
/-! 5: milestone/milestonelaw20.IdealFolds · code of 85 operations -/
def L5 : Nat → List Nat
  | 0 => [0, 1]
  | 1 => [0, 1, 24]
  | 2 => [4]
  | 3 => [1, 5]
  | 4 => [1, 5, 6]
  | 5 => [1, 5, 6, 31]
  | 6 => [4]
  | 7 => [1, 5, 6, 7]
  | 8 => [1, 5, 6, 7, 8]
  | 9 => [1, 5, 6, 7, 8, 9]
  | 10 => [1, 5, 6, 7, 8, 9, 35]
  | 12 => [1, 5, 6, 7, 8, 9, 10]
  | 13 => [1, 5, 6, 7, 8, 9, 10, 11]
  | 14 => [1, 5, 6, 7, 8, 9, 10, 11, 12]
  | 15 => [1, 5, 6, 7, 8, 9, 10, 12, 66]
  | 16 => [4]
  | 17 => [1, 5, 6, 7, 8, 9, 10, 67]
  | 18 => [1, 5, 6, 7, 9]
  | 19 => [1, 5, 6, 7, 8, 9]
  | 20 => [1, 5, 6, 7, 8, 9, 80]
  | 21 => [4]
  | 11 => [1, 5, 6, 7, 8, 9]
  | 22 => [4]
  | _ => []
theorem L5x0 : L5 0 = [0, 1] := (rfl)
theorem L5x1 : L5 1 = [0, 1, 24] := (rfl)
theorem L5x2 : L5 2 = [4] := (rfl)
theorem L5x3 : L5 3 = [1, 5] := (rfl)
theorem L5x4 : L5 4 = [1, 5, 6] := (rfl)
theorem L5x5 : L5 5 = [1, 5, 6, 31] := (rfl)
theorem L5x6 : L5 6 = [4] := (rfl)
theorem L5x7 : L5 7 = [1, 5, 6, 7] := (rfl)
theorem L5x8 : L5 8 = [1, 5, 6, 7, 8] := (rfl)
theorem L5x9 : L5 9 = [1, 5, 6, 7, 8, 9] := (rfl)
theorem L5x10 : L5 10 = [1, 5, 6, 7, 8, 9, 35] := (rfl)
theorem L5x12 : L5 12 = [1, 5, 6, 7, 8, 9, 10] := (rfl)
theorem L5x13 : L5 13 = [1, 5, 6, 7, 8, 9, 10, 11] := (rfl)
theorem L5x14 : L5 14 = [1, 5, 6, 7, 8, 9, 10, 11, 12] := (rfl)
theorem L5x15 : L5 15 = [1, 5, 6, 7, 8, 9, 10, 12, 66] := (rfl)
theorem L5x16 : L5 16 = [4] := (rfl)
theorem L5x17 : L5 17 = [1, 5, 6, 7, 8, 9, 10, 67] := (rfl)
theorem L5x18 : L5 18 = [1, 5, 6, 7, 9] := (rfl)
theorem L5x19 : L5 19 = [1, 5, 6, 7, 8, 9] := (rfl)
theorem L5x20 : L5 20 = [1, 5, 6, 7, 8, 9, 80] := (rfl)
theorem L5x21 : L5 21 = [4] := (rfl)
theorem L5x11 : L5 11 = [1, 5, 6, 7, 8, 9] := (rfl)
theorem L5x22 : L5 22 = [4] := (rfl)
theorem fnOk5 : fnOk Try.prog 5 = true := by kernel_rfl
theorem rq5 {R : Value → AH → Nat → Prop} {env : Env} {H : AH} {nx : Nat} : retQ Try.prog Try.f5 R .ret env H nx = onV (eg env 4) R H nx := retQ_one rfl (of_decide_eq_true (by kernel_rfl))

theorem len43 (H : AH) (ty : TypeId) (a : Option Addr) (n c : Nat) : lenV Try.prog H #[43] ty #[.slice a n c] = some (.int .i64 n) := lenV_slice 43 77 ty 5 a n c (by kernel_rfl)
theorem len44 (H : AH) (ty : TypeId) (a : Option Addr) (n c : Nat) : lenV Try.prog H #[44] ty #[.slice a n c] = some (.int .i64 n) := lenV_slice 44 3 ty 1 a n c (by kernel_rfl)
theorem eqp47 (H : AH) (x y : Operand) (a : Option Addr) : binV Try.prog H .eql 47 x y (.pointer a) (.pointer none) = some (.bool a.isNone) := eq_ptr (by kernel_rfl)
theorem nep47 (H : AH) (x y : Operand) (a : Option Addr) : binV Try.prog H .neq 47 x y (.pointer a) (.pointer none) = some (.bool a.isSome) := ne_ptr (by kernel_rfl)
theorem ia44 (H : AH) (n b o c : Nat) (kk : IntKind) (i : Int) (h0 : 0 ≤ i) (h1 : i < n) : indexAV Try.prog H 44 (.slice (some ⟨b, o, none⟩) n c) (.int kk i) = some (.pointer (some ⟨b, o + i.toNat * 1, none⟩)) := indexAV_slice 44 3 n 1 b o c kk i (by kernel_rfl) h0 h1
theorem len45 (H : AH) (ty : TypeId) (a : Option Addr) (n c : Nat) : lenV Try.prog H #[45] ty #[.slice a n c] = some (.int .i64 n) := lenV_slice 45 59 ty 8 a n c (by kernel_rfl)
theorem eqb4 (H : AH) (x y : Operand) (a b : Bool) : binV Try.prog H .eql 4 x y (.bool a) (.bool b) = some (.bool (a == b)) := eq_bool (by kernel_rfl)
theorem neb4 (H : AH) (x y : Operand) (a b : Bool) : binV Try.prog H .neq 4 x y (.bool a) (.bool b) = some (.bool (!(a == b))) := ne_bool (by kernel_rfl)
/-! 6: milestone/milestonelaw20.IdealFalls · code of 133 operations -/
def L6 : Nat → List Nat
  | 0 => [0, 1, 2, 3]
  | 1 => [0, 1, 2, 3, 23]
  | 2 => [8]
  | 3 => [1, 2, 3, 9]
  | 4 => [2, 3, 9, 10]
  | 5 => [2, 3, 9, 10, 11]
  | 6 => [2, 3, 9, 10, 11, 38]
  | 7 => [8]
  | 8 => [2, 3, 9, 10, 11]
  | 9 => [2, 3, 9, 10, 11, 12]
  | 10 => [2, 3, 9, 10, 11, 12, 45]
  | 12 => [2, 3, 9, 10, 11, 12]
  | 11 => [2, 3, 9, 10, 11, 12]
  | 13 => [3, 9, 10, 11, 13]
  | 14 => [9, 10, 11, 13, 14]
  | 15 => [9, 10, 11, 13, 14, 15]
  | 16 => [9, 10, 11, 13, 14, 15, 16]
  | 17 => [9, 10, 11, 13, 14, 15, 91]
  | 18 => [8]
  | 19 => [9, 10, 11, 13, 14, 93]
  | 20 => [8]
  | 21 => [8]
  | _ => []
theorem L6x0 : L6 0 = [0, 1, 2, 3] := (rfl)
theorem L6x1 : L6 1 = [0, 1, 2, 3, 23] := (rfl)
theorem L6x2 : L6 2 = [8] := (rfl)
theorem L6x3 : L6 3 = [1, 2, 3, 9] := (rfl)
theorem L6x4 : L6 4 = [2, 3, 9, 10] := (rfl)
theorem L6x5 : L6 5 = [2, 3, 9, 10, 11] := (rfl)
theorem L6x6 : L6 6 = [2, 3, 9, 10, 11, 38] := (rfl)
theorem L6x7 : L6 7 = [8] := (rfl)
theorem L6x8 : L6 8 = [2, 3, 9, 10, 11] := (rfl)
theorem L6x9 : L6 9 = [2, 3, 9, 10, 11, 12] := (rfl)
theorem L6x10 : L6 10 = [2, 3, 9, 10, 11, 12, 45] := (rfl)
theorem L6x12 : L6 12 = [2, 3, 9, 10, 11, 12] := (rfl)
theorem L6x11 : L6 11 = [2, 3, 9, 10, 11, 12] := (rfl)
theorem L6x13 : L6 13 = [3, 9, 10, 11, 13] := (rfl)
theorem L6x14 : L6 14 = [9, 10, 11, 13, 14] := (rfl)
theorem L6x15 : L6 15 = [9, 10, 11, 13, 14, 15] := (rfl)
theorem L6x16 : L6 16 = [9, 10, 11, 13, 14, 15, 16] := (rfl)
theorem L6x17 : L6 17 = [9, 10, 11, 13, 14, 15, 91] := (rfl)
theorem L6x18 : L6 18 = [8] := (rfl)
theorem L6x19 : L6 19 = [9, 10, 11, 13, 14, 93] := (rfl)
theorem L6x20 : L6 20 = [8] := (rfl)
theorem L6x21 : L6 21 = [8] := (rfl)
def ord6x21 : List Nat := [0, 2, 1, 3, 4, 5, 7, 6, 8, 9, 10, 11, 13, 12, 14, 15, 16, 17, 19, 20, 21, 22, 18, 23, 24, 25]
theorem fnOk6 : fnOk Try.prog 6 = true := by kernel_rfl
theorem rq6 {R : Value → AH → Nat → Prop} {env : Env} {H : AH} {nx : Nat} : retQ Try.prog Try.f6 R .ret env H nx = onV (eg env 8) R H nx := retQ_one rfl (of_decide_eq_true (by kernel_rfl))

theorem sl45 : slT Try.prog 45 = some (59, 8) := by kernel_rfl
theorem ia45 (H : AH) (n b o c : Nat) (kk : IntKind) (i : Int) (h0 : 0 ≤ i) (h1 : i < n) : indexAV Try.prog H 45 (.slice (some ⟨b, o, none⟩) n c) (.int kk i) = some (.pointer (some ⟨b, o + i.toNat * 8, none⟩)) := indexAV_slice 45 59 n 8 b o c kk i (by kernel_rfl) h0 h1
theorem ld59 (H : AH) (b o : Nat) : loadV Try.prog H 59 (.pointer (some ⟨b, o, none⟩)) = (loadN H b o 8).map fun l => .agg l.toArray := load_agg (by kernel_rfl) (by kernel_rfl)
/-! 7: milestone/milestonelaw19.EtherPlays · code of 316 operations -/
def L7 : Nat → List Nat
  | 0 => [0]
  | 1 => [0, 25]
  | 2 => [2]
  | 3 => [0, 3]
  | 4 => [0, 3, 4]
  | 5 => [0, 3, 4, 5]
  | 6 => [0, 3, 4, 5, 6]
  | 7 => [0, 3, 4, 5, 6, 32]
  | 9 => [0, 3, 4, 5, 6, 7]
  | 10 => [0, 3, 4, 5, 6, 7, 8]
  | 11 => [0, 3, 4, 5, 6, 7, 8, 9]
  | 12 => [0, 3, 4, 5, 6, 7, 8, 9, 51]
  | 13 => [0, 3, 4, 5, 6, 7, 8, 9]
  | 14 => [0, 3, 4, 5, 6, 7, 8, 9, 68]
  | 28 => [0, 3, 4, 5, 6, 7, 8, 9, 68, 177]
  | 29 => [0, 3, 4, 5, 6, 7, 8, 9, 68, 177]
  | 30 => [0, 3, 4, 5, 6, 7, 8, 9, 68, 177]
  | 31 => [0, 3, 4, 5, 6, 7, 8, 10]
  | 32 => [0, 3, 4, 5, 6, 7, 8, 10, 11]
  | 33 => [0, 3, 4, 5, 6, 7, 8, 10, 198]
  | 34 => [2]
  | 35 => [0, 3, 4, 5, 6, 7, 8, 10, 201]
  | 36 => [0, 3, 4, 5, 6, 7, 8, 10]
  | 37 => [0, 3, 4, 5, 6, 7, 8]
  | 38 => [0, 3, 4, 5, 6, 7, 8, 9, 68, 212]
  | 39 => [0, 3, 4, 5, 6, 7, 8, 9, 68, 212]
  | 40 => [0, 3, 4, 5, 6, 7, 8, 12]
  | 41 => [0, 3, 4, 5, 6, 7, 8, 12, 13]
  | 42 => [0, 3, 4, 5, 6, 7, 8, 12, 13, 216]
  | 44 => [0, 3, 4, 5, 6, 7, 8, 12, 13, 223]
  | 45 => [0, 3, 4, 5, 6, 7, 8, 12, 13]
  | 46 => [0, 3, 4, 5, 6, 7, 8, 12, 13]
  | 43 => [0, 3, 4, 5, 6, 7, 8, 12, 13]
  | 47 => [0, 3, 4, 5, 6, 7, 8, 242]
  | 48 => [2]
  | 49 => [0, 3, 4, 5, 6, 7, 8, 9, 243]
  | 50 => [0, 3, 4, 5, 6, 7, 8, 9, 14]
  | 51 => [0, 3, 4, 5, 6, 7, 8, 9, 265]
  | 52 => [2]
  | 53 => [0, 3, 4, 5, 6, 7, 8, 9, 268]
  | 54 => [0, 3, 4, 5, 6, 7, 8]
  | 15 => [0, 3, 4, 5, 6, 7, 8, 9, 15, 16]
  | 16 => [0, 3, 4, 5, 6, 7, 8, 9, 15, 84]
  | 17 => [2]
  | 18 => [0, 3, 4, 5, 6, 7, 8, 9, 15, 87]
  | 19 => [0, 3, 4, 5, 6, 7, 8, 9, 15, 94]
  | 20 => [0, 3, 4, 5, 6, 7, 8, 9, 15, 102]
  | 21 => [2]
  | 22 => [0, 3, 4, 5, 6, 7, 8, 9, 15, 17, 18]
  | 23 => [0, 3, 4, 5, 6, 7, 8, 9, 15, 137]
  | 24 => [2]
  | 25 => [0, 3, 4, 5, 6, 7, 8, 9, 167]
  | 26 => [2]
  | 27 => [0, 3, 4, 5, 6, 7, 8]
  | 55 => [0, 3, 4, 5, 6, 293]
  | 56 => [2]
  | 8 => [0, 3, 4, 5, 6]
  | 57 => [2]
  | _ => []
theorem L7x0 : L7 0 = [0] := (rfl)
theorem L7x1 : L7 1 = [0, 25] := (rfl)
theorem L7x2 : L7 2 = [2] := (rfl)
theorem L7x3 : L7 3 = [0, 3] := (rfl)
theorem L7x4 : L7 4 = [0, 3, 4] := (rfl)
theorem L7x5 : L7 5 = [0, 3, 4, 5] := (rfl)
theorem L7x6 : L7 6 = [0, 3, 4, 5, 6] := (rfl)
theorem L7x7 : L7 7 = [0, 3, 4, 5, 6, 32] := (rfl)
theorem L7x9 : L7 9 = [0, 3, 4, 5, 6, 7] := (rfl)
theorem L7x10 : L7 10 = [0, 3, 4, 5, 6, 7, 8] := (rfl)
theorem L7x11 : L7 11 = [0, 3, 4, 5, 6, 7, 8, 9] := (rfl)
theorem L7x12 : L7 12 = [0, 3, 4, 5, 6, 7, 8, 9, 51] := (rfl)
theorem L7x13 : L7 13 = [0, 3, 4, 5, 6, 7, 8, 9] := (rfl)
theorem L7x14 : L7 14 = [0, 3, 4, 5, 6, 7, 8, 9, 68] := (rfl)
theorem L7x28 : L7 28 = [0, 3, 4, 5, 6, 7, 8, 9, 68, 177] := (rfl)
theorem L7x29 : L7 29 = [0, 3, 4, 5, 6, 7, 8, 9, 68, 177] := (rfl)
theorem L7x30 : L7 30 = [0, 3, 4, 5, 6, 7, 8, 9, 68, 177] := (rfl)
theorem L7x31 : L7 31 = [0, 3, 4, 5, 6, 7, 8, 10] := (rfl)
theorem L7x32 : L7 32 = [0, 3, 4, 5, 6, 7, 8, 10, 11] := (rfl)
theorem L7x33 : L7 33 = [0, 3, 4, 5, 6, 7, 8, 10, 198] := (rfl)
theorem L7x34 : L7 34 = [2] := (rfl)
theorem L7x35 : L7 35 = [0, 3, 4, 5, 6, 7, 8, 10, 201] := (rfl)
theorem L7x36 : L7 36 = [0, 3, 4, 5, 6, 7, 8, 10] := (rfl)
theorem L7x37 : L7 37 = [0, 3, 4, 5, 6, 7, 8] := (rfl)
theorem L7x38 : L7 38 = [0, 3, 4, 5, 6, 7, 8, 9, 68, 212] := (rfl)
theorem L7x39 : L7 39 = [0, 3, 4, 5, 6, 7, 8, 9, 68, 212] := (rfl)
theorem L7x40 : L7 40 = [0, 3, 4, 5, 6, 7, 8, 12] := (rfl)
theorem L7x41 : L7 41 = [0, 3, 4, 5, 6, 7, 8, 12, 13] := (rfl)
theorem L7x42 : L7 42 = [0, 3, 4, 5, 6, 7, 8, 12, 13, 216] := (rfl)
theorem L7x44 : L7 44 = [0, 3, 4, 5, 6, 7, 8, 12, 13, 223] := (rfl)
theorem L7x45 : L7 45 = [0, 3, 4, 5, 6, 7, 8, 12, 13] := (rfl)
theorem L7x46 : L7 46 = [0, 3, 4, 5, 6, 7, 8, 12, 13] := (rfl)
theorem L7x43 : L7 43 = [0, 3, 4, 5, 6, 7, 8, 12, 13] := (rfl)
theorem L7x47 : L7 47 = [0, 3, 4, 5, 6, 7, 8, 242] := (rfl)
theorem L7x48 : L7 48 = [2] := (rfl)
theorem L7x49 : L7 49 = [0, 3, 4, 5, 6, 7, 8, 9, 243] := (rfl)
theorem L7x50 : L7 50 = [0, 3, 4, 5, 6, 7, 8, 9, 14] := (rfl)
theorem L7x51 : L7 51 = [0, 3, 4, 5, 6, 7, 8, 9, 265] := (rfl)
theorem L7x52 : L7 52 = [2] := (rfl)
theorem L7x53 : L7 53 = [0, 3, 4, 5, 6, 7, 8, 9, 268] := (rfl)
theorem L7x54 : L7 54 = [0, 3, 4, 5, 6, 7, 8] := (rfl)
theorem L7x15 : L7 15 = [0, 3, 4, 5, 6, 7, 8, 9, 15, 16] := (rfl)
theorem L7x16 : L7 16 = [0, 3, 4, 5, 6, 7, 8, 9, 15, 84] := (rfl)
theorem L7x17 : L7 17 = [2] := (rfl)
theorem L7x18 : L7 18 = [0, 3, 4, 5, 6, 7, 8, 9, 15, 87] := (rfl)
theorem L7x19 : L7 19 = [0, 3, 4, 5, 6, 7, 8, 9, 15, 94] := (rfl)
theorem L7x20 : L7 20 = [0, 3, 4, 5, 6, 7, 8, 9, 15, 102] := (rfl)
theorem L7x21 : L7 21 = [2] := (rfl)
theorem L7x22 : L7 22 = [0, 3, 4, 5, 6, 7, 8, 9, 15, 17, 18] := (rfl)
theorem L7x23 : L7 23 = [0, 3, 4, 5, 6, 7, 8, 9, 15, 137] := (rfl)
theorem L7x24 : L7 24 = [2] := (rfl)
theorem L7x25 : L7 25 = [0, 3, 4, 5, 6, 7, 8, 9, 167] := (rfl)
theorem L7x26 : L7 26 = [2] := (rfl)
theorem L7x27 : L7 27 = [0, 3, 4, 5, 6, 7, 8] := (rfl)
theorem L7x55 : L7 55 = [0, 3, 4, 5, 6, 293] := (rfl)
theorem L7x56 : L7 56 = [2] := (rfl)
theorem L7x8 : L7 8 = [0, 3, 4, 5, 6] := (rfl)
theorem L7x57 : L7 57 = [2] := (rfl)
def ordT7x54 : Ord := .fork [0, 2, 3, 4, 5] 1 (.run [6, 7, 8]) 6 (.run [1, 7, 8])
def ord7x25 : List Nat := [0, 1, 2, 3, 4, 5, 6, 7, 8, 9, 10, 11, 12, 13, 14, 15, 16, 17, 18, 19, 20, 21, 22, 23, 24, 25, 26, 27, 28, 29]
def ord7x27 : List Nat := [0, 1, 2, 4, 5, 6, 7, 3, 8, 9]
def ord7x55 : List Nat := [0, 2, 3, 1, 4, 5, 6, 7, 8, 10, 11, 12, 13, 14, 9, 15, 16]
theorem fnOk7 : fnOk Try.prog 7 = true := by kernel_rfl
theorem rq7 {R : Value → AH → Nat → Prop} {env : Env} {H : AH} {nx : Nat} : retQ Try.prog Try.f7 R .ret env H nx = onV (eg env 2) R H nx := retQ_one rfl (of_decide_eq_true (by kernel_rfl))

theorem len64 (H : AH) (ty : TypeId) (a : Option Addr) (n c : Nat) : lenV Try.prog H #[64] ty #[.slice a n c] = some (.int .i64 n) := lenV_slice 64 68 ty 4 a n c (by kernel_rfl)
noncomputable def z66 : Value := (zeroT Try.prog 66).getD undef
theorem zero66 : zeroT Try.prog 66 = some z66 := by kernel_rfl
theorem al66 (lo : Nat) (K : Value → AH → Nat → Prop) (H : AH) (nx : Nat) : allocQ Try.prog lo 66 K H nx = newQ 66 (z66 : Value).cells K H nx := alloc_new zero66
theorem ia64 (H : AH) (n b o c : Nat) (kk : IntKind) (i : Int) (h0 : 0 ≤ i) (h1 : i < n) : indexAV Try.prog H 64 (.slice (some ⟨b, o, none⟩) n c) (.int kk i) = some (.pointer (some ⟨b, o + i.toNat * 4, none⟩)) := indexAV_slice 64 68 n 4 b o c kk i (by kernel_rfl) h0 h1
theorem fa68x1 (H : AH) (b o : Nat) : fieldAV Try.prog H 68 1 (.pointer (some ⟨b, o, none⟩)) = some (.pointer (some ⟨b, o + 1, none⟩)) := fieldAV_eq 68 1 b o false 0 1 (by kernel_rfl)
theorem fa68x2 (H : AH) (b o : Nat) : fieldAV Try.prog H 68 2 (.pointer (some ⟨b, o, none⟩)) = some (.pointer (some ⟨b, o + 2, none⟩)) := fieldAV_eq 68 2 b o false 0 2 (by kernel_rfl)
theorem len27 (H : AH) (ty : TypeId) (a : Option Addr) (n c : Nat) : lenV Try.prog H #[27] ty #[.slice a n c] = some (.int .i64 n) := lenV_slice 27 36 ty 3 a n c (by kernel_rfl)
theorem fa68x3 (H : AH) (b o : Nat) : fieldAV Try.prog H 68 3 (.pointer (some ⟨b, o, none⟩)) = some (.pointer (some ⟨b, o + 3, none⟩)) := fieldAV_eq 68 3 b o false 0 3 (by kernel_rfl)
theorem cv3x52 (lo : Nat) (k' : IntKind) (n : Int) (K : Value → AH → Nat → Prop) (H : AH) (nx : Nat) : convQ Try.prog lo 3 52 (.int k' n) K H nx = K (.int .u64 (IntKind.wrap .u64 n)) H nx := convQ_int (by kernel_rfl) (by kernel_rfl)
theorem cx3x52 (k' : IntKind) (n : Int) (H : AH) : convV Try.prog H 3 52 (.int k' n) = some (.int .u64 (IntKind.wrap .u64 n)) := convV_int (by kernel_rfl) (by kernel_rfl)
theorem cv52x3 (lo : Nat) (k' : IntKind) (n : Int) (K : Value → AH → Nat → Prop) (H : AH) (nx : Nat) : convQ Try.prog lo 52 3 (.int k' n) K H nx = K (.int .i64 (IntKind.wrap .i64 n)) H nx := convQ_int (by kernel_rfl) (by kernel_rfl)
theorem cx52x3 (k' : IntKind) (n : Int) (H : AH) : convV Try.prog H 52 3 (.int k' n) = some (.int .i64 (IntKind.wrap .i64 n)) := convV_int (by kernel_rfl) (by kernel_rfl)
theorem fa68x0 (H : AH) (b o : Nat) : fieldAV Try.prog H 68 0 (.pointer (some ⟨b, o, none⟩)) = some (.pointer (some ⟨b, o + 0, none⟩)) := fieldAV_eq 68 0 b o false 0 0 (by kernel_rfl)
theorem ia66 (H : AH) (b o : Nat) (kk : IntKind) (i : Int) (h0 : 0 ≤ i) (h1 : i < 5) : indexAV Try.prog H 66 (.pointer (some ⟨b, o, none⟩)) (.int kk i) = some (.pointer (some ⟨b, o + i.toNat * 5, none⟩)) := indexAV_array 66 5 5 b o true kk i (by kernel_rfl) h0 h1
theorem ia65 (H : AH) (b o : Nat) (kk : IntKind) (i : Int) (h0 : 0 ≤ i) (h1 : i < 5) : indexAV Try.prog H 65 (.pointer (some ⟨b, o, none⟩)) (.int kk i) = some (.pointer (some ⟨b, o + i.toNat * 1, none⟩)) := indexAV_array 65 5 1 b o false kk i (by kernel_rfl) h0 h1
theorem st4 (lo : Nat) (b o : Nat) (v : Value) (K : AH → Nat → Prop) (H : AH) (nx : Nat) (hv : v.oneCell' = true) : storeQ Try.prog lo 4 (.pointer (some ⟨b, o, none⟩)) v K H nx = stQ lo b o v K H nx := store_one (by kernel_rfl) hv
theorem stc4 (lo : Nat) (b o : Nat) (x : Bool) (K : AH → Nat → Prop) (H : AH) (nx : Nat) : storeQ Try.prog lo 4 (.pointer (some ⟨b, o, none⟩)) (.bool x) K H nx = stQ lo b o (.bool x) K H nx := store_one (by kernel_rfl) rfl
theorem ld4 (H : AH) (b o : Nat) : loadV Try.prog H 4 (.pointer (some ⟨b, o, none⟩)) = H.c b o := load_one (by kernel_rfl)
theorem bd3x36 (H : AH) (a b c : Value) (ha : a.oneCell' = true) (hb : b.oneCell' = true) (hc : c.oneCell' = true) : buildV Try.prog H 36 #[(0, a), (1, b), (2, c)] = some (.agg #[a, b, c]) := build3 (by kernel_rfl) zero36 rfl ha hb hc
theorem sl27 : slT Try.prog 27 = some (36, 3) := by kernel_rfl
theorem by36 : bytesT Try.prog 36 = some 40 := by kernel_rfl
theorem ia27 (H : AH) (n b o c : Nat) (kk : IntKind) (i : Int) (h0 : 0 ≤ i) (h1 : i < n) : indexAV Try.prog H 27 (.slice (some ⟨b, o, none⟩) n c) (.int kk i) = some (.pointer (some ⟨b, o + i.toNat * 3, none⟩)) := indexAV_slice 27 36 n 3 b o c kk i (by kernel_rfl) h0 h1
theorem ld36 (H : AH) (b o : Nat) : loadV Try.prog H 36 (.pointer (some ⟨b, o, none⟩)) = (loadN H b o 3).map fun l => .agg l.toArray := load_agg (by kernel_rfl) (by kernel_rfl)
theorem eqt9 (H : AH) (x y : Operand) (a b : ByteArray) : binV Try.prog H .eql 9 x y (.string a) (.string b) = some (.bool (decide (a.data.toList = b.data.toList))) := eq_str
theorem net9 (H : AH) (x y : Operand) (a b : ByteArray) : binV Try.prog H .neq 9 x y (.string a) (.string b) = some (.bool (!(decide (a.data.toList = b.data.toList)))) := ne_str
/-! 8: milestone/milestonelaw19.EtherBounds · code of 189 operations -/
def L8 : Nat → List Nat
  | 0 => [0, 1, 2, 3]
  | 1 => [0, 1, 2, 3, 33]
  | 2 => [8]
  | 3 => [0, 1, 2, 3, 9]
  | 4 => [0, 1, 2, 3, 9, 10]
  | 5 => [0, 1, 2, 3, 9, 10, 11]
  | 6 => [0, 1, 2, 3, 9, 10, 11, 12]
  | 7 => [0, 1, 2, 3, 9, 10, 11, 12, 13]
  | 8 => [0, 1, 2, 3, 9, 10, 11, 13]
  | 9 => [0, 1, 2, 3, 9, 10, 11, 13, 14]
  | 10 => [0, 1, 2, 3, 9, 10, 11, 13, 14, 80]
  | 11 => [0, 1, 2, 3, 9, 10, 11, 13, 14]
  | 12 => [0, 1, 2, 3, 9, 10, 11, 13, 14, 16]
  | 13 => [0, 1, 2, 3, 9, 10, 11, 13, 14, 16, 17]
  | 14 => [0, 1, 2, 3, 9, 10, 11, 13, 14, 16, 17, 19]
  | 15 => [0, 1, 2, 3, 9, 10, 11, 13, 14, 16, 17, 19, 21]
  | 16 => [8]
  | _ => []
theorem L8x0 : L8 0 = [0, 1, 2, 3] := (rfl)
theorem L8x1 : L8 1 = [0, 1, 2, 3, 33] := (rfl)
theorem L8x2 : L8 2 = [8] := (rfl)
theorem L8x3 : L8 3 = [0, 1, 2, 3, 9] := (rfl)
theorem L8x4 : L8 4 = [0, 1, 2, 3, 9, 10] := (rfl)
theorem L8x5 : L8 5 = [0, 1, 2, 3, 9, 10, 11] := (rfl)
theorem L8x6 : L8 6 = [0, 1, 2, 3, 9, 10, 11, 12] := (rfl)
theorem L8x7 : L8 7 = [0, 1, 2, 3, 9, 10, 11, 12, 13] := (rfl)
theorem L8x8 : L8 8 = [0, 1, 2, 3, 9, 10, 11, 13] := (rfl)
theorem L8x9 : L8 9 = [0, 1, 2, 3, 9, 10, 11, 13, 14] := (rfl)
theorem L8x10 : L8 10 = [0, 1, 2, 3, 9, 10, 11, 13, 14, 80] := (rfl)
theorem L8x11 : L8 11 = [0, 1, 2, 3, 9, 10, 11, 13, 14] := (rfl)
theorem L8x12 : L8 12 = [0, 1, 2, 3, 9, 10, 11, 13, 14, 16] := (rfl)
theorem L8x13 : L8 13 = [0, 1, 2, 3, 9, 10, 11, 13, 14, 16, 17] := (rfl)
theorem L8x14 : L8 14 = [0, 1, 2, 3, 9, 10, 11, 13, 14, 16, 17, 19] := (rfl)
theorem L8x15 : L8 15 = [0, 1, 2, 3, 9, 10, 11, 13, 14, 16, 17, 19, 21] := (rfl)
theorem L8x16 : L8 16 = [8] := (rfl)
theorem fnOk8 : fnOk Try.prog 8 = true := by kernel_rfl
theorem rq8 {R : Value → AH → Nat → Prop} {env : Env} {H : AH} {nx : Nat} : retQ Try.prog Try.f8 R .ret env H nx = onV (eg env 8) R H nx := retQ_one rfl (of_decide_eq_true (by kernel_rfl))

theorem len34 (H : AH) (ty : TypeId) (a : Option Addr) (n c : Nat) : lenV Try.prog H #[34] ty #[.slice a n c] = some (.int .i64 n) := lenV_slice 34 5 ty 1 a n c (by kernel_rfl)
theorem by5 : bytesT Try.prog 5 = some 1 := by kernel_rfl
theorem st5 (lo : Nat) (b o : Nat) (v : Value) (K : AH → Nat → Prop) (H : AH) (nx : Nat) (hv : v.oneCell' = true) : storeQ Try.prog lo 5 (.pointer (some ⟨b, o, none⟩)) v K H nx = stQ lo b o v K H nx := store_one (by kernel_rfl) hv
theorem stc5 (lo : Nat) (b o : Nat) (k : IntKind) (n : Int) (K : AH → Nat → Prop) (H : AH) (nx : Nat) : storeQ Try.prog lo 5 (.pointer (some ⟨b, o, none⟩)) (.int k n) K H nx = stQ lo b o (.int k n) K H nx := store_one (by kernel_rfl) rfl
/-! 9: milestone/milestonelaw19.awake · code of 21 operations -/
def L9 : Nat → List Nat
  | 0 => []
  | 1 => [1]
  | 2 => [1, 2]
  | 3 => [0]
  | _ => []
theorem L9x0 : L9 0 = [] := (rfl)
theorem L9x1 : L9 1 = [1] := (rfl)
theorem L9x2 : L9 2 = [1, 2] := (rfl)
theorem L9x3 : L9 3 = [0] := (rfl)
theorem fnOk9 : fnOk Try.prog 9 = true := by kernel_rfl
theorem rq9 {R : Value → AH → Nat → Prop} {env : Env} {H : AH} {nx : Nat} : retQ Try.prog Try.f9 R .ret env H nx = onV (eg env 0) R H nx := retQ_one rfl (of_decide_eq_true (by kernel_rfl))

/-! 10: (*milestone/ether.Ether).Join · code of 39 operations -/
def L10 : Nat → List Nat
  | 0 => [0, 1, 2, 3]
  | 1 => [0, 1, 2, 3, 9]
  | 2 => [8]
  | 3 => [0, 1, 2, 3, 12]
  | 4 => [8]
  | 5 => []
  | 6 => [8]
  | _ => []
theorem L10x0 : L10 0 = [0, 1, 2, 3] := (rfl)
theorem L10x1 : L10 1 = [0, 1, 2, 3, 9] := (rfl)
theorem L10x2 : L10 2 = [8] := (rfl)
theorem L10x3 : L10 3 = [0, 1, 2, 3, 12] := (rfl)
theorem L10x4 : L10 4 = [8] := (rfl)
theorem L10x5 : L10 5 = [] := (rfl)
theorem L10x6 : L10 6 = [8] := (rfl)
def ord10x5 : List Nat := [0, 1, 2, 3, 4, 5, 6, 7, 8, 9, 10, 11, 13, 14, 15, 12, 16, 17]
theorem fnOk10 : fnOk Try.prog 10 = true := by kernel_rfl
theorem rq10 {R : Value → AH → Nat → Prop} {env : Env} {H : AH} {nx : Nat} : retQ Try.prog Try.f10 R .ret env H nx = onV (eg env 8) R H nx := retQ_one rfl (of_decide_eq_true (by kernel_rfl))

theorem eqp24 (H : AH) (x y : Operand) (a : Option Addr) : binV Try.prog H .eql 24 x y (.pointer a) (.pointer none) = some (.bool a.isNone) := eq_ptr (by kernel_rfl)
theorem nep24 (H : AH) (x y : Operand) (a : Option Addr) : binV Try.prog H .neq 24 x y (.pointer a) (.pointer none) = some (.bool a.isSome) := ne_ptr (by kernel_rfl)
theorem fa29x0 (H : AH) (b o : Nat) : fieldAV Try.prog H 29 0 (.pointer (some ⟨b, o, none⟩)) = some (.pointer (some ⟨b, o + 0, none⟩)) := fieldAV_eq 29 0 b o true 255 0 (by kernel_rfl)
theorem ia26 (H : AH) (b o : Nat) (kk : IntKind) (i : Int) (h0 : 0 ≤ i) (h1 : i < 16) : indexAV Try.prog H 26 (.pointer (some ⟨b, o, none⟩)) (.int kk i) = some (.pointer (some ⟨b, o + i.toNat * 16, none⟩)) := indexAV_array 26 16 16 b o true kk i (by kernel_rfl) h0 h1
theorem ia25 (H : AH) (b o : Nat) (kk : IntKind) (i : Int) (h0 : 0 ≤ i) (h1 : i < 16) : indexAV Try.prog H 25 (.pointer (some ⟨b, o, none⟩)) (.int kk i) = some (.pointer (some ⟨b, o + i.toNat * 1, none⟩)) := indexAV_array 25 16 1 b o false kk i (by kernel_rfl) h0 h1
/-! 11: (*milestone/ether.Ether).Send · code of 64 operations -/
def L11 : Nat → List Nat
  | 0 => [0, 1, 2]
  | 1 => [0, 1, 2, 17]
  | 2 => [6]
  | 3 => [0, 1, 2, 7]
  | 4 => [0, 1, 2, 7, 23, 24]
  | 5 => [0, 1, 2, 7, 23, 24, 25]
  | 6 => [0, 1, 2, 7, 8, 9, 23, 24]
  | 7 => [0, 1, 2, 7, 8, 23, 24, 28]
  | 8 => [0, 1, 2, 7, 23, 24]
  | 9 => [0, 1, 2, 7, 23, 24]
  | 10 => [0, 1, 2, 7, 23, 24]
  | 11 => [0, 7, 10]
  | 12 => [0, 7, 10, 53]
  | 13 => [7]
  | 14 => [6]
  | _ => []
theorem L11x0 : L11 0 = [0, 1, 2] := (rfl)
theorem L11x1 : L11 1 = [0, 1, 2, 17] := (rfl)
theorem L11x2 : L11 2 = [6] := (rfl)
theorem L11x3 : L11 3 = [0, 1, 2, 7] := (rfl)
theorem L11x4 : L11 4 = [0, 1, 2, 7, 23, 24] := (rfl)
theorem L11x5 : L11 5 = [0, 1, 2, 7, 23, 24, 25] := (rfl)
theorem L11x6 : L11 6 = [0, 1, 2, 7, 8, 9, 23, 24] := (rfl)
theorem L11x7 : L11 7 = [0, 1, 2, 7, 8, 23, 24, 28] := (rfl)
theorem L11x8 : L11 8 = [0, 1, 2, 7, 23, 24] := (rfl)
theorem L11x9 : L11 9 = [0, 1, 2, 7, 23, 24] := (rfl)
theorem L11x10 : L11 10 = [0, 1, 2, 7, 23, 24] := (rfl)
theorem L11x11 : L11 11 = [0, 7, 10] := (rfl)
theorem L11x12 : L11 12 = [0, 7, 10, 53] := (rfl)
theorem L11x13 : L11 13 = [7] := (rfl)
theorem L11x14 : L11 14 = [6] := (rfl)
def ord11x8 : List Nat := [0, 1, 2, 3, 4, 5, 6, 7, 8, 9, 10, 11, 12, 13, 14]
theorem fnOk11 : fnOk Try.prog 11 = true := by kernel_rfl
theorem rq11 {R : Value → AH → Nat → Prop} {env : Env} {H : AH} {nx : Nat} : retQ Try.prog Try.f11 R .ret env H nx = onV (eg env 6) R H nx := retQ_one rfl (of_decide_eq_true (by kernel_rfl))

theorem ld25 (H : AH) (b o : Nat) : loadV Try.prog H 25 (.pointer (some ⟨b, o, none⟩)) = (loadN H b o 16).map fun l => .agg l.toArray := load_agg (by kernel_rfl) (by kernel_rfl)
theorem ix25 (H : AH) (cs : Array Value) (kk : IntKind) (i : Int) (h0 : 0 ≤ i) (h1 : i < 16) : indexV Try.prog H 25 (.agg cs) (.int kk i) = cs[i.toNat]? := index_arr (by kernel_rfl) h0 h1
theorem fa29x1 (H : AH) (b o : Nat) : fieldAV Try.prog H 29 1 (.pointer (some ⟨b, o, none⟩)) = some (.pointer (some ⟨b, o + 256, none⟩)) := fieldAV_eq 29 1 b o false 0 256 (by kernel_rfl)
theorem ld27 (H : AH) (b o : Nat) : loadV Try.prog H 27 (.pointer (some ⟨b, o, none⟩)) = H.c b o := load_one (by kernel_rfl)
theorem st27 (lo : Nat) (b o : Nat) (v : Value) (K : AH → Nat → Prop) (H : AH) (nx : Nat) (hv : v.oneCell' = true) : storeQ Try.prog lo 27 (.pointer (some ⟨b, o, none⟩)) v K H nx = stQ lo b o v K H nx := store_one (by kernel_rfl) hv
theorem stc27 (lo : Nat) (b o : Nat) (a : Option Addr) (n c : Nat) (K : AH → Nat → Prop) (H : AH) (nx : Nat) : storeQ Try.prog lo 27 (.pointer (some ⟨b, o, none⟩)) (.slice a n c) K H nx = stQ lo b o (.slice a n c) K H nx := store_one (by kernel_rfl) rfl
/-! 12: (*milestone/ether.Ether).Peek · code of 32 operations -/
def L12 : Nat → List Nat
  | 0 => [0, 1, 4]
  | 1 => [0, 4, 6, 7]
  | 2 => [0, 4, 6, 16]
  | 3 => [4, 5]
  | 4 => [4, 8]
  | 5 => [4, 8]
  | 6 => [4, 5]
  | _ => []
theorem L12x0 : L12 0 = [0, 1, 4] := (rfl)
theorem L12x1 : L12 1 = [0, 4, 6, 7] := (rfl)
theorem L12x2 : L12 2 = [0, 4, 6, 16] := (rfl)
theorem L12x3 : L12 3 = [4, 5] := (rfl)
theorem L12x4 : L12 4 = [4, 8] := (rfl)
theorem L12x5 : L12 5 = [4, 8] := (rfl)
theorem L12x6 : L12 6 = [4, 5] := (rfl)
theorem fnOk12 : fnOk Try.prog 12 = true := by kernel_rfl
theorem rq12 {R : Value → AH → Nat → Prop} {env : Env} {H : AH} {nx : Nat} : retQ Try.prog Try.f12 R .ret env H nx = onA (eg env 4) (fun a => onA (loadV Try.prog H 36 a) fun v => onA (eg env 5) fun u => R (.tuple #[v, u]) H nx) := retQ_cell_tmp rfl (of_decide_eq_true (by kernel_rfl)) (of_decide_eq_true (by kernel_rfl))

theorem bd0x36 (H : AH) : buildV Try.prog H 36 #[] = some (.agg #[(.int .i64 0), (.int .i64 0), (.slice none 0 0)]) := build_zero (by kernel_rfl) zero36
theorem st34 (lo : Nat) (b o : Nat) (v : Value) (K : AH → Nat → Prop) (H : AH) (nx : Nat) (hv : v.oneCell' = true) : storeQ Try.prog lo 34 (.pointer (some ⟨b, o, none⟩)) v K H nx = stQ lo b o v K H nx := store_one (by kernel_rfl) hv
theorem stc34 (lo : Nat) (b o : Nat) (a : Option Addr) (n c : Nat) (K : AH → Nat → Prop) (H : AH) (nx : Nat) : storeQ Try.prog lo 34 (.pointer (some ⟨b, o, none⟩)) (.slice a n c) K H nx = stQ lo b o (.slice a n c) K H nx := store_one (by kernel_rfl) rfl
/-! 13: (*milestone/ether.Ether).Len · code of 10 operations -/
def L13 : Nat → List Nat
  | 0 => [0]
  | 1 => [0, 4]
  | 2 => [2]
  | 3 => [2]
  | _ => []
theorem L13x0 : L13 0 = [0] := (rfl)
theorem L13x1 : L13 1 = [0, 4] := (rfl)
theorem L13x2 : L13 2 = [2] := (rfl)
theorem L13x3 : L13 3 = [2] := (rfl)
theorem fnOk13 : fnOk Try.prog 13 = true := by kernel_rfl
theorem rq13 {R : Value → AH → Nat → Prop} {env : Env} {H : AH} {nx : Nat} : retQ Try.prog Try.f13 R .ret env H nx = onV (eg env 2) R H nx := retQ_one rfl (of_decide_eq_true (by kernel_rfl))

/-! 14: (*milestone/ether.Ether).Hears · code of 22 operations -/
def L14 : Nat → List Nat
  | 0 => [0, 1, 2]
  | 1 => [6]
  | _ => []
theorem L14x0 : L14 0 = [0, 1, 2] := (rfl)
theorem L14x1 : L14 1 = [6] := (rfl)
theorem fnOk14 : fnOk Try.prog 14 = true := by kernel_rfl
theorem rq14 {R : Value → AH → Nat → Prop} {env : Env} {H : AH} {nx : Nat} : retQ Try.prog Try.f14 R .ret env H nx = onV (eg env 6) R H nx := retQ_one rfl (of_decide_eq_true (by kernel_rfl))

/-! 15: (*milestone/ether.Ether).Take · code of 37 operations -/
def L15 : Nat → List Nat
  | 0 => [0, 1, 4]
  | 1 => [0, 1, 4, 6, 7]
  | 2 => [0, 1, 4, 6, 7, 17]
  | 3 => [0, 4, 6, 7, 8]
  | 4 => [4, 6, 7]
  | 5 => [4, 5]
  | _ => []
theorem L15x0 : L15 0 = [0, 1, 4] := (rfl)
theorem L15x1 : L15 1 = [0, 1, 4, 6, 7] := (rfl)
theorem L15x2 : L15 2 = [0, 1, 4, 6, 7, 17] := (rfl)
theorem L15x3 : L15 3 = [0, 4, 6, 7, 8] := (rfl)
theorem L15x4 : L15 4 = [4, 6, 7] := (rfl)
theorem L15x5 : L15 5 = [4, 5] := (rfl)
theorem fnOk15 : fnOk Try.prog 15 = true := by kernel_rfl
theorem rq15 {R : Value → AH → Nat → Prop} {env : Env} {H : AH} {nx : Nat} : retQ Try.prog Try.f15 R .ret env H nx = onA (eg env 4) (fun a => onA (loadV Try.prog H 36 a) fun v => onA (eg env 5) fun u => R (.tuple #[v, u]) H nx) := retQ_cell_tmp rfl (of_decide_eq_true (by kernel_rfl)) (of_decide_eq_true (by kernel_rfl))

/-! 16: milestone/milestonelaw20.awake · code of 26 operations -/
def L16 : Nat → List Nat
  | 0 => []
  | 1 => [1]
  | 2 => [1, 8]
  | 3 => [0]
  | 4 => [1]
  | 5 => [0]
  | _ => []
theorem L16x0 : L16 0 = [] := (rfl)
theorem L16x1 : L16 1 = [1] := (rfl)
theorem L16x2 : L16 2 = [1, 8] := (rfl)
theorem L16x3 : L16 3 = [0] := (rfl)
theorem L16x4 : L16 4 = [1] := (rfl)
theorem L16x5 : L16 5 = [0] := (rfl)
theorem fnOk16 : fnOk Try.prog 16 = true := by kernel_rfl
theorem rq16 {R : Value → AH → Nat → Prop} {env : Env} {H : AH} {nx : Nat} : retQ Try.prog Try.f16 R .ret env H nx = onV (eg env 0) R H nx := retQ_one rfl (of_decide_eq_true (by kernel_rfl))

theorem zero55 : zeroT Try.prog 55 = some (.agg #[(.int .u32 0), (.int .u8 0)]) := by kernel_rfl
theorem bd55x0x1 (H : AH) (k0x0 : IntKind) (n0x0 : Int) (k1x0 : IntKind) (n1x0 : Int) : buildV Try.prog H 55 #[(0, .int k0x0 n0x0), (1, .int k1x0 n1x0)] = some (.agg #[.int k0x0 n0x0, .int k1x0 n1x0]) := build_by (pl := fun i => (#[(0, 1), (1, 1)] : Array (Nat × Nat))[i]?) (by kernel_rfl) zero55 (by simp [Instr.fill, cells_agg, cells_int, cells_bool, cells_slice, cells_ptr, cells_str])
theorem zero57 : zeroT Try.prog 57 = some (.agg #[(.int .u32 0), (.int .u8 0), (.int .i64 0), (.int .u16 0), (.int .u16 0)]) := by kernel_rfl
theorem bd57x0 (H : AH) (v0x0 : Value) (v0x1 : Value) : buildV Try.prog H 57 #[(0, .agg #[v0x0, v0x1])] = some (.agg #[v0x0, v0x1, (.int .i64 0), (.int .u16 0), (.int .u16 0)]) := build_by (pl := fun i => (#[(0, 2), (2, 1), (3, 1), (4, 1)] : Array (Nat × Nat))[i]?) (by kernel_rfl) zero57 (by simp [Instr.fill, cells_agg, cells_int, cells_bool, cells_slice, cells_ptr, cells_str])
theorem zero59 : zeroT Try.prog 59 = some (.agg #[(.int .u64 0), (.int .u64 0), (.bool false), (.int .u32 0), (.int .u8 0), (.int .i64 0), (.int .u16 0), (.int .u16 0)]) := by kernel_rfl
theorem bd59x0x3 (H : AH) (k0x0 : IntKind) (n0x0 : Int) (v3x0 : Value) (v3x1 : Value) (v3x2 : Value) (v3x3 : Value) (v3x4 : Value) : buildV Try.prog H 59 #[(0, .int k0x0 n0x0), (3, .agg #[v3x0, v3x1, v3x2, v3x3, v3x4])] = some (.agg #[.int k0x0 n0x0, (.int .u64 0), (.bool false), v3x0, v3x1, v3x2, v3x3, v3x4]) := build_by (pl := fun i => (#[(0, 1), (1, 1), (2, 1), (3, 5)] : Array (Nat × Nat))[i]?) (by kernel_rfl) zero59 (by simp [Instr.fill, cells_agg, cells_int, cells_bool, cells_slice, cells_ptr, cells_str])
/-! 17: milestone/milestoneref07.History · code of 91 operations -/
def L17 : Nat → List Nat
  | 0 => [0]
  | 1 => [0, 3]
  | 2 => [0, 3, 4]
  | 3 => [0, 3, 4, 5]
  | 4 => [0, 3, 4, 5, 18]
  | 6 => [0, 3, 4, 5, 6]
  | 7 => [0, 3, 4, 5, 6]
  | 8 => [0, 3, 4, 5, 6, 7]
  | 9 => [0, 3, 4, 5, 6, 7, 8]
  | 10 => [0, 3, 4, 5, 6, 7, 8, 9, 10]
  | 11 => [0, 3, 4, 5, 6, 7, 8, 56]
  | 12 => [0, 3, 4, 5, 7, 8]
  | 13 => [0, 3, 4, 5, 7]
  | 14 => [0, 3, 4, 5, 7]
  | 15 => [0, 3, 4, 5]
  | 5 => [0, 3, 4, 5]
  | 16 => [2]
  | _ => []
theorem L17x0 : L17 0 = [0] := (rfl)
theorem L17x1 : L17 1 = [0, 3] := (rfl)
theorem L17x2 : L17 2 = [0, 3, 4] := (rfl)
theorem L17x3 : L17 3 = [0, 3, 4, 5] := (rfl)
theorem L17x4 : L17 4 = [0, 3, 4, 5, 18] := (rfl)
theorem L17x6 : L17 6 = [0, 3, 4, 5, 6] := (rfl)
theorem L17x7 : L17 7 = [0, 3, 4, 5, 6] := (rfl)
theorem L17x8 : L17 8 = [0, 3, 4, 5, 6, 7] := (rfl)
theorem L17x9 : L17 9 = [0, 3, 4, 5, 6, 7, 8] := (rfl)
theorem L17x10 : L17 10 = [0, 3, 4, 5, 6, 7, 8, 9, 10] := (rfl)
theorem L17x11 : L17 11 = [0, 3, 4, 5, 6, 7, 8, 56] := (rfl)
theorem L17x12 : L17 12 = [0, 3, 4, 5, 7, 8] := (rfl)
theorem L17x13 : L17 13 = [0, 3, 4, 5, 7] := (rfl)
theorem L17x14 : L17 14 = [0, 3, 4, 5, 7] := (rfl)
theorem L17x15 : L17 15 = [0, 3, 4, 5] := (rfl)
theorem L17x5 : L17 5 = [0, 3, 4, 5] := (rfl)
theorem L17x16 : L17 16 = [2] := (rfl)
theorem fnOk17 : fnOk Try.prog 17 = true := by kernel_rfl
theorem rq17 {R : Value → AH → Nat → Prop} {env : Env} {H : AH} {nx : Nat} : retQ Try.prog Try.f17 R .ret env H nx = onV (eg env 2) R H nx := retQ_one rfl (of_decide_eq_true (by kernel_rfl))

theorem ia43 (H : AH) (n b o c : Nat) (kk : IntKind) (i : Int) (h0 : 0 ≤ i) (h1 : i < n) : indexAV Try.prog H 43 (.slice (some ⟨b, o, none⟩) n c) (.int kk i) = some (.pointer (some ⟨b, o + i.toNat * 5, none⟩)) := indexAV_slice 43 77 n 5 b o c kk i (by kernel_rfl) h0 h1
theorem ld77 (H : AH) (b o : Nat) : loadV Try.prog H 77 (.pointer (some ⟨b, o, none⟩)) = (loadN H b o 5).map fun l => .agg l.toArray := load_agg (by kernel_rfl) (by kernel_rfl)
theorem zero77 : zeroT Try.prog 77 = some (.agg #[(.int .u8 0), (.int .u8 0), (.int .u8 0), (.int .u8 0), (.int .u8 0)]) := by kernel_rfl
theorem al77 (lo : Nat) (K : Value → AH → Nat → Prop) (H : AH) (nx : Nat) : allocQ Try.prog lo 77 K H nx = newQ 77 ((.agg #[(.int .u8 0), (.int .u8 0), (.int .u8 0), (.int .u8 0), (.int .u8 0)]) : Value).cells K H nx := alloc_new zero77
theorem st77 (lo : Nat) (b o : Nat) (v0 v1 v2 v3 v4 : Value) (K : AH → Nat → Prop) (H : AH) (nx : Nat) : storeQ Try.prog lo 77 (.pointer (some ⟨b, o, none⟩)) (.agg #[v0, v1, v2, v3, v4]) K H nx = stsQ lo b o [v0, v1, v2, v3, v4] K H nx := store_agg (n := 5) (by kernel_rfl) (by decide) rfl
theorem fa77x4 (H : AH) (b o : Nat) : fieldAV Try.prog H 77 4 (.pointer (some ⟨b, o, none⟩)) = some (.pointer (some ⟨b, o + 4, none⟩)) := fieldAV_eq 77 4 b o false 0 4 (by kernel_rfl)
theorem cv5x52 (lo : Nat) (k' : IntKind) (n : Int) (K : Value → AH → Nat → Prop) (H : AH) (nx : Nat) : convQ Try.prog lo 5 52 (.int k' n) K H nx = K (.int .u64 (IntKind.wrap .u64 n)) H nx := convQ_int (by kernel_rfl) (by kernel_rfl)
theorem cx5x52 (k' : IntKind) (n : Int) (H : AH) : convV Try.prog H 5 52 (.int k' n) = some (.int .u64 (IntKind.wrap .u64 n)) := convV_int (by kernel_rfl) (by kernel_rfl)
theorem bd59x0x1 (H : AH) (k0x0 : IntKind) (n0x0 : Int) (k1x0 : IntKind) (n1x0 : Int) : buildV Try.prog H 59 #[(0, .int k0x0 n0x0), (1, .int k1x0 n1x0)] = some (.agg #[.int k0x0 n0x0, .int k1x0 n1x0, (.bool false), (.int .u32 0), (.int .u8 0), (.int .i64 0), (.int .u16 0), (.int .u16 0)]) := build_by (pl := fun i => (#[(0, 1), (1, 1), (2, 1), (3, 5)] : Array (Nat × Nat))[i]?) (by kernel_rfl) zero59 (by simp [Instr.fill, cells_agg, cells_int, cells_bool, cells_slice, cells_ptr, cells_str])
theorem al59 (lo : Nat) (K : Value → AH → Nat → Prop) (H : AH) (nx : Nat) : allocQ Try.prog lo 59 K H nx = newQ 59 ((.agg #[(.int .u64 0), (.int .u64 0), (.bool false), (.int .u32 0), (.int .u8 0), (.int .i64 0), (.int .u16 0), (.int .u16 0)]) : Value).cells K H nx := alloc_new zero59
theorem st59 (lo : Nat) (b o : Nat) (v0 v1 v2 v3 v4 v5 v6 v7 : Value) (K : AH → Nat → Prop) (H : AH) (nx : Nat) : storeQ Try.prog lo 59 (.pointer (some ⟨b, o, none⟩)) (.agg #[v0, v1, v2, v3, v4, v5, v6, v7]) K H nx = stsQ lo b o [v0, v1, v2, v3, v4, v5, v6, v7] K H nx := store_agg (n := 8) (by kernel_rfl) (by decide) rfl
theorem fa77x0 (H : AH) (b o : Nat) : fieldAV Try.prog H 77 0 (.pointer (some ⟨b, o, none⟩)) = some (.pointer (some ⟨b, o + 0, none⟩)) := fieldAV_eq 77 0 b o false 0 0 (by kernel_rfl)
theorem al55 (lo : Nat) (K : Value → AH → Nat → Prop) (H : AH) (nx : Nat) : allocQ Try.prog lo 55 K H nx = newQ 55 ((.agg #[(.int .u32 0), (.int .u8 0)]) : Value).cells K H nx := alloc_new zero55
theorem st55 (lo : Nat) (b o : Nat) (v0 v1 : Value) (K : AH → Nat → Prop) (H : AH) (nx : Nat) : storeQ Try.prog lo 55 (.pointer (some ⟨b, o, none⟩)) (.agg #[v0, v1]) K H nx = stsQ lo b o [v0, v1] K H nx := store_agg (n := 2) (by kernel_rfl) (by decide) rfl
theorem ld55 (H : AH) (b o : Nat) : loadV Try.prog H 55 (.pointer (some ⟨b, o, none⟩)) = (loadN H b o 2).map fun l => .agg l.toArray := load_agg (by kernel_rfl) (by kernel_rfl)
theorem zero82 : zeroT Try.prog 82 = some (.agg #[(.int .u32 0), (.int .u8 0), (.bool false), (.int .u32 0), (.int .u8 0), (.int .i64 0), (.int .u16 0), (.int .u16 0), (.int .u16 0), (.int .u16 0)]) := by kernel_rfl
theorem al82 (lo : Nat) (K : Value → AH → Nat → Prop) (H : AH) (nx : Nat) : allocQ Try.prog lo 82 K H nx = newQ 82 ((.agg #[(.int .u32 0), (.int .u8 0), (.bool false), (.int .u32 0), (.int .u8 0), (.int .i64 0), (.int .u16 0), (.int .u16 0), (.int .u16 0), (.int .u16 0)]) : Value).cells K H nx := alloc_new zero82
theorem st82 (lo : Nat) (b o : Nat) (v0 v1 v2 v3 v4 v5 v6 v7 v8 v9 : Value) (K : AH → Nat → Prop) (H : AH) (nx : Nat) : storeQ Try.prog lo 82 (.pointer (some ⟨b, o, none⟩)) (.agg #[v0, v1, v2, v3, v4, v5, v6, v7, v8, v9]) K H nx = stsQ lo b o [v0, v1, v2, v3, v4, v5, v6, v7, v8, v9] K H nx := store_agg (n := 10) (by kernel_rfl) (by decide) rfl
theorem fa82x1 (H : AH) (b o : Nat) : fieldAV Try.prog H 82 1 (.pointer (some ⟨b, o, none⟩)) = some (.pointer (some ⟨b, o + 2, none⟩)) := fieldAV_eq 82 1 b o false 0 2 (by kernel_rfl)
theorem fa77x1 (H : AH) (b o : Nat) : fieldAV Try.prog H 77 1 (.pointer (some ⟨b, o, none⟩)) = some (.pointer (some ⟨b, o + 1, none⟩)) := fieldAV_eq 77 1 b o false 0 1 (by kernel_rfl)
theorem fa59x2 (H : AH) (b o : Nat) : fieldAV Try.prog H 59 2 (.pointer (some ⟨b, o, none⟩)) = some (.pointer (some ⟨b, o + 2, none⟩)) := fieldAV_eq 59 2 b o false 0 2 (by kernel_rfl)
theorem fa59x3 (H : AH) (b o : Nat) : fieldAV Try.prog H 59 3 (.pointer (some ⟨b, o, none⟩)) = some (.pointer (some ⟨b, o + 3, none⟩)) := fieldAV_eq 59 3 b o true 4 3 (by kernel_rfl)
theorem st57 (lo : Nat) (b o : Nat) (v0 v1 v2 v3 v4 : Value) (K : AH → Nat → Prop) (H : AH) (nx : Nat) : storeQ Try.prog lo 57 (.pointer (some ⟨b, o, none⟩)) (.agg #[v0, v1, v2, v3, v4]) K H nx = stsQ lo b o [v0, v1, v2, v3, v4] K H nx := store_agg (n := 5) (by kernel_rfl) (by decide) rfl
theorem fa77x2 (H : AH) (b o : Nat) : fieldAV Try.prog H 77 2 (.pointer (some ⟨b, o, none⟩)) = some (.pointer (some ⟨b, o + 2, none⟩)) := fieldAV_eq 77 2 b o false 0 2 (by kernel_rfl)
theorem cv5x22 (lo : Nat) (k' : IntKind) (n : Int) (K : Value → AH → Nat → Prop) (H : AH) (nx : Nat) : convQ Try.prog lo 5 22 (.int k' n) K H nx = K (.int .u16 (IntKind.wrap .u16 n)) H nx := convQ_int (by kernel_rfl) (by kernel_rfl)
theorem cx5x22 (k' : IntKind) (n : Int) (H : AH) : convV Try.prog H 5 22 (.int k' n) = some (.int .u16 (IntKind.wrap .u16 n)) := convV_int (by kernel_rfl) (by kernel_rfl)
theorem fa77x3 (H : AH) (b o : Nat) : fieldAV Try.prog H 77 3 (.pointer (some ⟨b, o, none⟩)) = some (.pointer (some ⟨b, o + 3, none⟩)) := fieldAV_eq 77 3 b o false 0 3 (by kernel_rfl)
theorem bd57x0x1x2x3 (H : AH) (v0x0 : Value) (v0x1 : Value) (k1x0 : IntKind) (n1x0 : Int) (k2x0 : IntKind) (n2x0 : Int) (k3x0 : IntKind) (n3x0 : Int) : buildV Try.prog H 57 #[(0, .agg #[v0x0, v0x1]), (1, .int k1x0 n1x0), (2, .int k2x0 n2x0), (3, .int k3x0 n3x0)] = some (.agg #[v0x0, v0x1, .int k1x0 n1x0, .int k2x0 n2x0, .int k3x0 n3x0]) := build_by (pl := fun i => (#[(0, 2), (2, 1), (3, 1), (4, 1)] : Array (Nat × Nat))[i]?) (by kernel_rfl) zero57 (by simp [Instr.fill, cells_agg, cells_int, cells_bool, cells_slice, cells_ptr, cells_str])
theorem by59 : bytesT Try.prog 59 = some 48 := by kernel_rfl
/-! 18: milestone/milestonelaw20.of · code of 21 operations -/
def L18 : Nat → List Nat
  | 0 => [0]
  | 1 => [0, 3]
  | 2 => [0, 3, 4]
  | 3 => [0, 3, 4, 9]
  | 5 => [0, 3, 4, 18]
  | 6 => [2]
  | 4 => [0, 3, 4]
  | 7 => [2]
  | _ => []
theorem L18x0 : L18 0 = [0] := (rfl)
theorem L18x1 : L18 1 = [0, 3] := (rfl)
theorem L18x2 : L18 2 = [0, 3, 4] := (rfl)
theorem L18x3 : L18 3 = [0, 3, 4, 9] := (rfl)
theorem L18x5 : L18 5 = [0, 3, 4, 18] := (rfl)
theorem L18x6 : L18 6 = [2] := (rfl)
theorem L18x4 : L18 4 = [0, 3, 4] := (rfl)
theorem L18x7 : L18 7 = [2] := (rfl)
theorem fnOk18 : fnOk Try.prog 18 = true := by kernel_rfl
theorem rq18 {R : Value → AH → Nat → Prop} {env : Env} {H : AH} {nx : Nat} : retQ Try.prog Try.f18 R .ret env H nx = onV (eg env 2) R H nx := retQ_one rfl (of_decide_eq_true (by kernel_rfl))

/-! 19: (*milestone/ideal.Ideal).Fold · code of 30 operations -/
def L19 : Nat → List Nat
  | 0 => [0, 1]
  | 1 => [0, 1, 5]
  | 2 => [4]
  | 3 => [0, 1, 8]
  | 4 => [4]
  | 5 => [0]
  | 6 => []
  | 7 => [4]
  | _ => []
theorem L19x0 : L19 0 = [0, 1] := (rfl)
theorem L19x1 : L19 1 = [0, 1, 5] := (rfl)
theorem L19x2 : L19 2 = [4] := (rfl)
theorem L19x3 : L19 3 = [0, 1, 8] := (rfl)
theorem L19x4 : L19 4 = [4] := (rfl)
theorem L19x5 : L19 5 = [0] := (rfl)
theorem L19x6 : L19 6 = [] := (rfl)
theorem L19x7 : L19 7 = [4] := (rfl)
theorem fnOk19 : fnOk Try.prog 19 = true := by kernel_rfl
theorem rq19 {R : Value → AH → Nat → Prop} {env : Env} {H : AH} {nx : Nat} : retQ Try.prog Try.f19 R .ret env H nx = onV (eg env 4) R H nx := retQ_one rfl (of_decide_eq_true (by kernel_rfl))

theorem fa87x2 (H : AH) (b o : Nat) : fieldAV Try.prog H 87 2 (.pointer (some ⟨b, o, none⟩)) = some (.pointer (some ⟨b, o + 2, none⟩)) := fieldAV_eq 87 2 b o false 0 2 (by kernel_rfl)
theorem fa87x0 (H : AH) (b o : Nat) : fieldAV Try.prog H 87 0 (.pointer (some ⟨b, o, none⟩)) = some (.pointer (some ⟨b, o + 0, none⟩)) := fieldAV_eq 87 0 b o false 0 0 (by kernel_rfl)
theorem ld45 (H : AH) (b o : Nat) : loadV Try.prog H 45 (.pointer (some ⟨b, o, none⟩)) = H.c b o := load_one (by kernel_rfl)
theorem st3 (lo : Nat) (b o : Nat) (v : Value) (K : AH → Nat → Prop) (H : AH) (nx : Nat) (hv : v.oneCell' = true) : storeQ Try.prog lo 3 (.pointer (some ⟨b, o, none⟩)) v K H nx = stQ lo b o v K H nx := store_one (by kernel_rfl) hv
theorem stc3 (lo : Nat) (b o : Nat) (k : IntKind) (n : Int) (K : AH → Nat → Prop) (H : AH) (nx : Nat) : storeQ Try.prog lo 3 (.pointer (some ⟨b, o, none⟩)) (.int k n) K H nx = stQ lo b o (.int k n) K H nx := store_one (by kernel_rfl) rfl
/-! 20: (*milestone/ideal.Ideal).Cut · code of 9 operations -/
def L20 : Nat → List Nat
  | 0 => [0]
  | 1 => [0, 4]
  | 2 => [2]
  | 3 => [2]
  | _ => []
theorem L20x0 : L20 0 = [0] := (rfl)
theorem L20x1 : L20 1 = [0, 4] := (rfl)
theorem L20x2 : L20 2 = [2] := (rfl)
theorem L20x3 : L20 3 = [2] := (rfl)
theorem fnOk20 : fnOk Try.prog 20 = true := by kernel_rfl
theorem rq20 {R : Value → AH → Nat → Prop} {env : Env} {H : AH} {nx : Nat} : retQ Try.prog Try.f20 R .ret env H nx = onV (eg env 2) R H nx := retQ_one rfl (of_decide_eq_true (by kernel_rfl))

/-! 21: (*milestone/ideal.Ideal).Safe · code of 9 operations -/
def L21 : Nat → List Nat
  | 0 => [0]
  | 1 => [0, 4]
  | 2 => [2]
  | 3 => [2]
  | _ => []
theorem L21x0 : L21 0 = [0] := (rfl)
theorem L21x1 : L21 1 = [0, 4] := (rfl)
theorem L21x2 : L21 2 = [2] := (rfl)
theorem L21x3 : L21 3 = [2] := (rfl)
theorem fnOk21 : fnOk Try.prog 21 = true := by kernel_rfl
theorem rq21 {R : Value → AH → Nat → Prop} {env : Env} {H : AH} {nx : Nat} : retQ Try.prog Try.f21 R .ret env H nx = onV (eg env 2) R H nx := retQ_one rfl (of_decide_eq_true (by kernel_rfl))

theorem fa87x1 (H : AH) (b o : Nat) : fieldAV Try.prog H 87 1 (.pointer (some ⟨b, o, none⟩)) = some (.pointer (some ⟨b, o + 1, none⟩)) := fieldAV_eq 87 1 b o false 0 1 (by kernel_rfl)
/-! 22: (*milestone/ideal.Ideal).Sync · code of 11 operations -/
def L22 : Nat → List Nat
  | 0 => [0, 3]
  | 1 => []
  | _ => []
theorem L22x0 : L22 0 = [0, 3] := (rfl)
theorem L22x1 : L22 1 = [] := (rfl)
theorem fnOk22 : fnOk Try.prog 22 = true := by kernel_rfl
theorem rq22 {R : Value → AH → Nat → Prop} {env : Env} {H : AH} {nx : Nat} : retQ Try.prog Try.f22 R .ret env H nx = R (.tuple #[]) H nx := retQ_none rfl

/-! 23: (*milestone/ideal.Ideal).Add · code of 35 operations -/
def L23 : Nat → List Nat
  | 0 => [0, 3]
  | 1 => [0, 3, 5]
  | 2 => [4]
  | 3 => [0, 3, 8]
  | 4 => [4]
  | 5 => [0, 3, 12]
  | 6 => [4]
  | 7 => []
  | 8 => [4]
  | _ => []
theorem L23x0 : L23 0 = [0, 3] := (rfl)
theorem L23x1 : L23 1 = [0, 3, 5] := (rfl)
theorem L23x2 : L23 2 = [4] := (rfl)
theorem L23x3 : L23 3 = [0, 3, 8] := (rfl)
theorem L23x4 : L23 4 = [4] := (rfl)
theorem L23x5 : L23 5 = [0, 3, 12] := (rfl)
theorem L23x6 : L23 6 = [4] := (rfl)
theorem L23x7 : L23 7 = [] := (rfl)
theorem L23x8 : L23 8 = [4] := (rfl)
def ord23x5 : List Nat := [0, 1, 2, 3, 4, 5, 7, 6, 8, 9, 10]
def ord23x7 : List Nat := [0, 1, 2, 3, 4, 5, 6, 7, 8, 9, 10]
theorem fnOk23 : fnOk Try.prog 23 = true := by kernel_rfl
theorem rq23 {R : Value → AH → Nat → Prop} {env : Env} {H : AH} {nx : Nat} : retQ Try.prog Try.f23 R .ret env H nx = onV (eg env 4) R H nx := retQ_one rfl (of_decide_eq_true (by kernel_rfl))

theorem st45 (lo : Nat) (b o : Nat) (v : Value) (K : AH → Nat → Prop) (H : AH) (nx : Nat) (hv : v.oneCell' = true) : storeQ Try.prog lo 45 (.pointer (some ⟨b, o, none⟩)) v K H nx = stQ lo b o v K H nx := store_one (by kernel_rfl) hv
theorem stc45 (lo : Nat) (b o : Nat) (a : Option Addr) (n c : Nat) (K : AH → Nat → Prop) (H : AH) (nx : Nat) : storeQ Try.prog lo 45 (.pointer (some ⟨b, o, none⟩)) (.slice a n c) K H nx = stQ lo b o (.slice a n c) K H nx := store_one (by kernel_rfl) rfl
/-! 24: (*milestone/ideal.Ideal).Fell · code of 57 operations -/
def L24 : Nat → List Nat
  | 0 => [0, 1, 2]
  | 1 => [0, 1, 2, 7]
  | 2 => [6]
  | 3 => [0, 1, 2, 10]
  | 4 => [6]
  | 5 => []
  | 6 => [6]
  | _ => []
theorem L24x0 : L24 0 = [0, 1, 2] := (rfl)
theorem L24x1 : L24 1 = [0, 1, 2, 7] := (rfl)
theorem L24x2 : L24 2 = [6] := (rfl)
theorem L24x3 : L24 3 = [0, 1, 2, 10] := (rfl)
theorem L24x4 : L24 4 = [6] := (rfl)
theorem L24x5 : L24 5 = [] := (rfl)
theorem L24x6 : L24 6 = [6] := (rfl)
theorem fnOk24 : fnOk Try.prog 24 = true := by kernel_rfl
theorem rq24 {R : Value → AH → Nat → Prop} {env : Env} {H : AH} {nx : Nat} : retQ Try.prog Try.f24 R .ret env H nx = onV (eg env 6) R H nx := retQ_one rfl (of_decide_eq_true (by kernel_rfl))

/-! 25: (*milestone/ideal.Ideal).Len · code of 10 operations -/
def L25 : Nat → List Nat
  | 0 => [0]
  | 1 => [0, 4]
  | 2 => [2]
  | 3 => [2]
  | _ => []
theorem L25x0 : L25 0 = [0] := (rfl)
theorem L25x1 : L25 1 = [0, 4] := (rfl)
theorem L25x2 : L25 2 = [2] := (rfl)
theorem L25x3 : L25 3 = [2] := (rfl)
theorem fnOk25 : fnOk Try.prog 25 = true := by kernel_rfl
theorem rq25 {R : Value → AH → Nat → Prop} {env : Env} {H : AH} {nx : Nat} : retQ Try.prog Try.f25 R .ret env H nx = onV (eg env 2) R H nx := retQ_one rfl (of_decide_eq_true (by kernel_rfl))

/-! 26: milestone/milestoneref07.Same · code of 26 operations -/
def L26 : Nat → List Nat
  | 0 => [0, 1]
  | 1 => [0, 1, 10]
  | 2 => [4]
  | 3 => [0, 1, 5]
  | 4 => [0, 1, 5, 14]
  | 6 => [0, 1, 5, 25]
  | 7 => [4]
  | 5 => [0, 1, 5]
  | 8 => [4]
  | _ => []
theorem L26x0 : L26 0 = [0, 1] := (rfl)
theorem L26x1 : L26 1 = [0, 1, 10] := (rfl)
theorem L26x2 : L26 2 = [4] := (rfl)
theorem L26x3 : L26 3 = [0, 1, 5] := (rfl)
theorem L26x4 : L26 4 = [0, 1, 5, 14] := (rfl)
theorem L26x6 : L26 6 = [0, 1, 5, 25] := (rfl)
theorem L26x7 : L26 7 = [4] := (rfl)
theorem L26x5 : L26 5 = [0, 1, 5] := (rfl)
theorem L26x8 : L26 8 = [4] := (rfl)
def ord26x6 : List Nat := [0, 1, 2, 3, 4, 5, 6, 7, 8]
theorem fnOk26 : fnOk Try.prog 26 = true := by kernel_rfl
theorem rq26 {R : Value → AH → Nat → Prop} {env : Env} {H : AH} {nx : Nat} : retQ Try.prog Try.f26 R .ret env H nx = onV (eg env 4) R H nx := retQ_one rfl (of_decide_eq_true (by kernel_rfl))

theorem eqg59 (H : AH) (x y : Operand) (a0 b0 : Int) (a1 b1 : Int) (a2 b2 : Bool) (a3 b3 : Int) (a4 b4 : Int) (a5 b5 : Int) (a6 b6 : Int) (a7 b7 : Int) : binV Try.prog H .eql 59 x y (.agg #[.int .u64 a0, .int .u64 a1, .bool a2, .int .u32 a3, .int .u8 a4, .int .i64 a5, .int .u16 a6, .int .u16 a7]) (.agg #[.int .u64 b0, .int .u64 b1, .bool b2, .int .u32 b3, .int .u8 b4, .int .i64 b5, .int .u16 b6, .int .u16 b7]) = some (.bool (eqLs [.int .u64 a0, .int .u64 a1, .bool a2, .int .u32 a3, .int .u8 a4, .int .i64 a5, .int .u16 a6, .int .u16 a7] [.int .u64 b0, .int .u64 b1, .bool b2, .int .u32 b3, .int .u8 b4, .int .i64 b5, .int .u16 b6, .int .u16 b7])) := (bin_agg (xs := [.int .u64 a0, .int .u64 a1, .bool a2, .int .u32 a3, .int .u8 a4, .int .i64 a5, .int .u16 a6, .int .u16 a7]) (ys := [.int .u64 b0, .int .u64 b1, .bool b2, .int .u32 b3, .int .u8 b4, .int .i64 b5, .int .u16 b6, .int .u16 b7]) (ks := [some .u64, some .u64, none, some .u32, some .u8, some .i64, some .u16, some .u16]) (by kernel_rfl) (fitI (fitI (fitB (fitI (fitI (fitI (fitI (fitI fitN)))))))) (fitI (fitI (fitB (fitI (fitI (fitI (fitI (fitI fitN))))))))).1
theorem neg59 (H : AH) (x y : Operand) (a0 b0 : Int) (a1 b1 : Int) (a2 b2 : Bool) (a3 b3 : Int) (a4 b4 : Int) (a5 b5 : Int) (a6 b6 : Int) (a7 b7 : Int) : binV Try.prog H .neq 59 x y (.agg #[.int .u64 a0, .int .u64 a1, .bool a2, .int .u32 a3, .int .u8 a4, .int .i64 a5, .int .u16 a6, .int .u16 a7]) (.agg #[.int .u64 b0, .int .u64 b1, .bool b2, .int .u32 b3, .int .u8 b4, .int .i64 b5, .int .u16 b6, .int .u16 b7]) = some (.bool (!eqLs [.int .u64 a0, .int .u64 a1, .bool a2, .int .u32 a3, .int .u8 a4, .int .i64 a5, .int .u16 a6, .int .u16 a7] [.int .u64 b0, .int .u64 b1, .bool b2, .int .u32 b3, .int .u8 b4, .int .i64 b5, .int .u16 b6, .int .u16 b7])) := (bin_agg (xs := [.int .u64 a0, .int .u64 a1, .bool a2, .int .u32 a3, .int .u8 a4, .int .i64 a5, .int .u16 a6, .int .u16 a7]) (ys := [.int .u64 b0, .int .u64 b1, .bool b2, .int .u32 b3, .int .u8 b4, .int .i64 b5, .int .u16 b6, .int .u16 b7]) (ks := [some .u64, some .u64, none, some .u32, some .u8, some .i64, some .u16, some .u16]) (by kernel_rfl) (fitI (fitI (fitB (fitI (fitI (fitI (fitI (fitI fitN)))))))) (fitI (fitI (fitB (fitI (fitI (fitI (fitI (fitI fitN))))))))).2
/-! 27: (*milestone/ideal.Ideal).Changes · code of 15 operations -/
def L27 : Nat → List Nat
  | 0 => [0]
  | 1 => [0, 4]
  | 2 => [2]
  | 3 => [2]
  | _ => []
theorem L27x0 : L27 0 = [0] := (rfl)
theorem L27x1 : L27 1 = [0, 4] := (rfl)
theorem L27x2 : L27 2 = [2] := (rfl)
theorem L27x3 : L27 3 = [2] := (rfl)
def ord27x3 : List Nat := [0, 1, 2, 3, 4, 5, 6, 7, 8, 9, 10]
theorem fnOk27 : fnOk Try.prog 27 = true := by kernel_rfl
theorem rq27 {R : Value → AH → Nat → Prop} {env : Env} {H : AH} {nx : Nat} : retQ Try.prog Try.f27 R .ret env H nx = onV (eg env 2) R H nx := retQ_one rfl (of_decide_eq_true (by kernel_rfl))

/-! 28: (*milestone/ether.Ether).Double · code of 25 operations -/
def L28 : Nat → List Nat
  | 0 => [0, 1]
  | 1 => [0, 5, 6]
  | 2 => [0, 5, 6, 14]
  | 3 => [6]
  | 4 => [4]
  | _ => []
theorem L28x0 : L28 0 = [0, 1] := (rfl)
theorem L28x1 : L28 1 = [0, 5, 6] := (rfl)
theorem L28x2 : L28 2 = [0, 5, 6, 14] := (rfl)
theorem L28x3 : L28 3 = [6] := (rfl)
theorem L28x4 : L28 4 = [4] := (rfl)
def ord28x3 : List Nat := [0, 1, 2, 3, 4, 5, 6, 7, 8, 9, 10]
theorem fnOk28 : fnOk Try.prog 28 = true := by kernel_rfl
theorem rq28 {R : Value → AH → Nat → Prop} {env : Env} {H : AH} {nx : Nat} : retQ Try.prog Try.f28 R .ret env H nx = onV (eg env 4) R H nx := retQ_one rfl (of_decide_eq_true (by kernel_rfl))

/-! 29: (*milestone/ether.Ether).Lose · code of 12 operations -/
def L29 : Nat → List Nat
  | 0 => [0, 1]
  | 1 => [6]
  | 2 => [4]
  | _ => []
theorem L29x0 : L29 0 = [0, 1] := (rfl)
theorem L29x1 : L29 1 = [6] := (rfl)
theorem L29x2 : L29 2 = [4] := (rfl)
theorem fnOk29 : fnOk Try.prog 29 = true := by kernel_rfl
theorem rq29 {R : Value → AH → Nat → Prop} {env : Env} {H : AH} {nx : Nat} : retQ Try.prog Try.f29 R .ret env H nx = onV (eg env 4) R H nx := retQ_one rfl (of_decide_eq_true (by kernel_rfl))

/-! 30: milestone/ether.node · code of 8 operations -/
def L30 : Nat → List Nat
  | 0 => [0]
  | 1 => [2]
  | _ => []
theorem L30x0 : L30 0 = [0] := (rfl)
theorem L30x1 : L30 1 = [2] := (rfl)
theorem fnOk30 : fnOk Try.prog 30 = true := by kernel_rfl
theorem rq30 {R : Value → AH → Nat → Prop} {env : Env} {H : AH} {nx : Nat} : retQ Try.prog Try.f30 R .ret env H nx = onV (eg env 2) R H nx := retQ_one rfl (of_decide_eq_true (by kernel_rfl))

/-! 31: slices.Clone[[]byte,byte] · code of 8 operations -/
def L31 : Nat → List Nat
  | 0 => [0]
  | 1 => [0, 4]
  | 2 => [2]
  | 3 => [2]
  | _ => []
theorem L31x0 : L31 0 = [0] := (rfl)
theorem L31x1 : L31 1 = [0, 4] := (rfl)
theorem L31x2 : L31 2 = [2] := (rfl)
theorem L31x3 : L31 3 = [2] := (rfl)
theorem fnOk31 : fnOk Try.prog 31 = true := by kernel_rfl
theorem rq31 {R : Value → AH → Nat → Prop} {env : Env} {H : AH} {nx : Nat} : retQ Try.prog Try.f31 R .ret env H nx = onV (eg env 2) R H nx := retQ_one rfl (of_decide_eq_true (by kernel_rfl))

theorem eqs34 (H : AH) (x y : Operand) (a : Option Addr) (n c : Nat) : binV Try.prog H .eql 34 x y (.slice a n c) (.slice none 0 0) = some (.bool a.isNone) := eq_sl (by kernel_rfl)
theorem nes34 (H : AH) (x y : Operand) (a : Option Addr) (n c : Nat) : binV Try.prog H .neq 34 x y (.slice a n c) (.slice none 0 0) = some (.bool a.isSome) := ne_sl (by kernel_rfl)
/-! 32: slices.Delete[[]milestone/ether.Packet,milestone/ether.Packet] · code of 31 operations -/
def L32 : Nat → List Nat
  | 0 => [0, 1, 2]
  | 1 => [0, 1, 2]
  | 2 => [0, 1, 2, 16]
  | 3 => [6]
  | 4 => [0, 1, 2, 7]
  | 5 => [0, 7]
  | 6 => [0]
  | 7 => [6]
  | _ => []
theorem L32x0 : L32 0 = [0, 1, 2] := (rfl)
theorem L32x1 : L32 1 = [0, 1, 2] := (rfl)
theorem L32x2 : L32 2 = [0, 1, 2, 16] := (rfl)
theorem L32x3 : L32 3 = [6] := (rfl)
theorem L32x4 : L32 4 = [0, 1, 2, 7] := (rfl)
theorem L32x5 : L32 5 = [0, 7] := (rfl)
theorem L32x6 : L32 6 = [0] := (rfl)
theorem L32x7 : L32 7 = [6] := (rfl)
def ord32x5 : List Nat := [0, 1, 2, 3, 4, 5, 6, 7]
theorem fnOk32 : fnOk Try.prog 32 = true := by kernel_rfl
theorem rq32 {R : Value → AH → Nat → Prop} {env : Env} {H : AH} {nx : Nat} : retQ Try.prog Try.f32 R .ret env H nx = onV (eg env 6) R H nx := retQ_one rfl (of_decide_eq_true (by kernel_rfl))

-- builtin Go.Builtin.clear
/-! 33: (*milestone/ether.Ether).at · code of 26 operations -/
def L33 : Nat → List Nat
  | 0 => [0, 1]
  | 1 => [0, 1, 15]
  | 2 => [4, 5]
  | 3 => [4, 5]
  | _ => []
theorem L33x0 : L33 0 = [0, 1] := (rfl)
theorem L33x1 : L33 1 = [0, 1, 15] := (rfl)
theorem L33x2 : L33 2 = [4, 5] := (rfl)
theorem L33x3 : L33 3 = [4, 5] := (rfl)
theorem fnOk33 : fnOk Try.prog 33 = true := by kernel_rfl
theorem rq33 {R : Value → AH → Nat → Prop} {env : Env} {H : AH} {nx : Nat} : retQ Try.prog Try.f33 R .ret env H nx = onA (eg env 4) (fun v => onA (eg env 5) fun u => R (.tuple #[v, u]) H nx) := retQ_two rfl (of_decide_eq_true (by kernel_rfl)) (of_decide_eq_true (by kernel_rfl))

theorem cv3x33 (lo : Nat) (k' : IntKind) (n : Int) (K : Value → AH → Nat → Prop) (H : AH) (nx : Nat) : convQ Try.prog lo 3 33 (.int k' n) K H nx = K (.int .u64 (IntKind.wrap .u64 n)) H nx := convQ_int (by kernel_rfl) (by kernel_rfl)
theorem cx3x33 (k' : IntKind) (n : Int) (H : AH) : convV Try.prog H 3 33 (.int k' n) = some (.int .u64 (IntKind.wrap .u64 n)) := convV_int (by kernel_rfl) (by kernel_rfl)
theorem cv33x3 (lo : Nat) (k' : IntKind) (n : Int) (K : Value → AH → Nat → Prop) (H : AH) (nx : Nat) : convQ Try.prog lo 33 3 (.int k' n) K H nx = K (.int .i64 (IntKind.wrap .i64 n)) H nx := convQ_int (by kernel_rfl) (by kernel_rfl)
theorem cx33x3 (k' : IntKind) (n : Int) (H : AH) : convV Try.prog H 33 3 (.int k' n) = some (.int .i64 (IntKind.wrap .i64 n)) := convV_int (by kernel_rfl) (by kernel_rfl)
/-! 34: milestone/milestoneref07.Prefix · code of 19 operations -/
def L34 : Nat → List Nat
  | 0 => [0, 2]
  | 1 => [2]
  | _ => []
theorem L34x0 : L34 0 = [0, 2] := (rfl)
theorem L34x1 : L34 1 = [2] := (rfl)
theorem fnOk34 : fnOk Try.prog 34 = true := by kernel_rfl
theorem rq34 {R : Value → AH → Nat → Prop} {env : Env} {H : AH} {nx : Nat} : retQ Try.prog Try.f34 R .ret env H nx = onA (eg env 2) (fun a => onV (loadV Try.prog H 55 a) R H nx) := retQ_cell rfl (of_decide_eq_true (by kernel_rfl))

theorem cv5x53 (lo : Nat) (k' : IntKind) (n : Int) (K : Value → AH → Nat → Prop) (H : AH) (nx : Nat) : convQ Try.prog lo 5 53 (.int k' n) K H nx = K (.int .u32 (IntKind.wrap .u32 n)) H nx := convQ_int (by kernel_rfl) (by kernel_rfl)
theorem cx5x53 (k' : IntKind) (n : Int) (H : AH) : convV Try.prog H 5 53 (.int k' n) = some (.int .u32 (IntKind.wrap .u32 n)) := convV_int (by kernel_rfl) (by kernel_rfl)
theorem ld82 (H : AH) (b o : Nat) : loadV Try.prog H 82 (.pointer (some ⟨b, o, none⟩)) = (loadN H b o 10).map fun l => .agg l.toArray := load_agg (by kernel_rfl) (by kernel_rfl)
/-! 35: milestone/milestoneref07.Row · code of 63 operations -/
def L35 : Nat → List Nat
  | 0 => [0, 3, 4]
  | 1 => [0, 3, 4, 6]
  | 2 => [0, 3, 4, 6, 7]
  | 3 => [0, 3, 4, 6, 7, 8]
  | 4 => [0, 3, 4, 6, 7, 8, 16]
  | 6 => [0, 3, 4, 6, 7, 8, 9]
  | 7 => [0, 3, 4, 6, 7, 8, 9, 27]
  | 8 => [0, 3, 4, 6, 7, 8, 9]
  | 9 => [0, 3, 4, 6, 7, 8, 9]
  | 10 => [0, 3, 4, 6, 7, 8, 9, 36]
  | 11 => [0, 3, 4, 6, 7, 8, 10]
  | 12 => [0, 3, 4, 6, 8, 10, 51]
  | 13 => [0, 3, 4, 6, 8]
  | 14 => [0, 3, 4, 6, 7, 8]
  | 5 => [0, 3, 4, 6, 7, 8]
  | 15 => [4, 5]
  | _ => []
theorem L35x0 : L35 0 = [0, 3, 4] := (rfl)
theorem L35x1 : L35 1 = [0, 3, 4, 6] := (rfl)
theorem L35x2 : L35 2 = [0, 3, 4, 6, 7] := (rfl)
theorem L35x3 : L35 3 = [0, 3, 4, 6, 7, 8] := (rfl)
theorem L35x4 : L35 4 = [0, 3, 4, 6, 7, 8, 16] := (rfl)
theorem L35x6 : L35 6 = [0, 3, 4, 6, 7, 8, 9] := (rfl)
theorem L35x7 : L35 7 = [0, 3, 4, 6, 7, 8, 9, 27] := (rfl)
theorem L35x8 : L35 8 = [0, 3, 4, 6, 7, 8, 9] := (rfl)
theorem L35x9 : L35 9 = [0, 3, 4, 6, 7, 8, 9] := (rfl)
theorem L35x10 : L35 10 = [0, 3, 4, 6, 7, 8, 9, 36] := (rfl)
theorem L35x11 : L35 11 = [0, 3, 4, 6, 7, 8, 10] := (rfl)
theorem L35x12 : L35 12 = [0, 3, 4, 6, 8, 10, 51] := (rfl)
theorem L35x13 : L35 13 = [0, 3, 4, 6, 8] := (rfl)
theorem L35x14 : L35 14 = [0, 3, 4, 6, 7, 8] := (rfl)
theorem L35x5 : L35 5 = [0, 3, 4, 6, 7, 8] := (rfl)
theorem L35x15 : L35 15 = [4, 5] := (rfl)
theorem fnOk35 : fnOk Try.prog 35 = true := by kernel_rfl
theorem rq35 {R : Value → AH → Nat → Prop} {env : Env} {H : AH} {nx : Nat} : retQ Try.prog Try.f35 R .ret env H nx = onA (eg env 4) (fun a => onA (loadV Try.prog H 82 a) fun v => onA (eg env 5) fun u => R (.tuple #[v, u]) H nx) := retQ_cell_tmp rfl (of_decide_eq_true (by kernel_rfl)) (of_decide_eq_true (by kernel_rfl))

theorem bd82x0 (H : AH) (v0x0 : Value) (v0x1 : Value) : buildV Try.prog H 82 #[(0, .agg #[v0x0, v0x1])] = some (.agg #[v0x0, v0x1, (.bool false), (.int .u32 0), (.int .u8 0), (.int .i64 0), (.int .u16 0), (.int .u16 0), (.int .u16 0), (.int .u16 0)]) := build_by (pl := fun i => (#[(0, 2), (2, 1), (3, 5), (8, 2)] : Array (Nat × Nat))[i]?) (by kernel_rfl) zero82 (by simp [Instr.fill, cells_agg, cells_int, cells_bool, cells_slice, cells_ptr, cells_str])
theorem fa57x0 (H : AH) (b o : Nat) : fieldAV Try.prog H 57 0 (.pointer (some ⟨b, o, none⟩)) = some (.pointer (some ⟨b, o + 0, none⟩)) := fieldAV_eq 57 0 b o true 1 0 (by kernel_rfl)
theorem eqg55 (H : AH) (x y : Operand) (a0 b0 : Int) (a1 b1 : Int) : binV Try.prog H .eql 55 x y (.agg #[.int .u32 a0, .int .u8 a1]) (.agg #[.int .u32 b0, .int .u8 b1]) = some (.bool (eqLs [.int .u32 a0, .int .u8 a1] [.int .u32 b0, .int .u8 b1])) := (bin_agg (xs := [.int .u32 a0, .int .u8 a1]) (ys := [.int .u32 b0, .int .u8 b1]) (ks := [some .u32, some .u8]) (by kernel_rfl) (fitI (fitI fitN)) (fitI (fitI fitN))).1
theorem neg55 (H : AH) (x y : Operand) (a0 b0 : Int) (a1 b1 : Int) : binV Try.prog H .neq 55 x y (.agg #[.int .u32 a0, .int .u8 a1]) (.agg #[.int .u32 b0, .int .u8 b1]) = some (.bool (!eqLs [.int .u32 a0, .int .u8 a1] [.int .u32 b0, .int .u8 b1])) := (bin_agg (xs := [.int .u32 a0, .int .u8 a1]) (ys := [.int .u32 b0, .int .u8 b1]) (ks := [some .u32, some .u8]) (by kernel_rfl) (fitI (fitI fitN)) (fitI (fitI fitN))).2
theorem ld57 (H : AH) (b o : Nat) : loadV Try.prog H 57 (.pointer (some ⟨b, o, none⟩)) = (loadN H b o 5).map fun l => .agg l.toArray := load_agg (by kernel_rfl) (by kernel_rfl)
theorem fa82x2 (H : AH) (b o : Nat) : fieldAV Try.prog H 82 2 (.pointer (some ⟨b, o, none⟩)) = some (.pointer (some ⟨b, o + 3, none⟩)) := fieldAV_eq 82 2 b o true 4 3 (by kernel_rfl)
theorem fa57x3 (H : AH) (b o : Nat) : fieldAV Try.prog H 57 3 (.pointer (some ⟨b, o, none⟩)) = some (.pointer (some ⟨b, o + 4, none⟩)) := fieldAV_eq 57 3 b o false 0 4 (by kernel_rfl)
theorem ld22 (H : AH) (b o : Nat) : loadV Try.prog H 22 (.pointer (some ⟨b, o, none⟩)) = H.c b o := load_one (by kernel_rfl)
theorem fa57x2 (H : AH) (b o : Nat) : fieldAV Try.prog H 57 2 (.pointer (some ⟨b, o, none⟩)) = some (.pointer (some ⟨b, o + 3, none⟩)) := fieldAV_eq 57 2 b o false 0 3 (by kernel_rfl)
theorem zero80 : zeroT Try.prog 80 = some (.agg #[(.int .u16 0), (.int .u16 0)]) := by kernel_rfl
theorem bd80x0x1 (H : AH) (k0x0 : IntKind) (n0x0 : Int) (k1x0 : IntKind) (n1x0 : Int) : buildV Try.prog H 80 #[(0, .int k0x0 n0x0), (1, .int k1x0 n1x0)] = some (.agg #[.int k0x0 n0x0, .int k1x0 n1x0]) := build_by (pl := fun i => (#[(0, 1), (1, 1)] : Array (Nat × Nat))[i]?) (by kernel_rfl) zero80 (by simp [Instr.fill, cells_agg, cells_int, cells_bool, cells_slice, cells_ptr, cells_str])
theorem al80 (lo : Nat) (K : Value → AH → Nat → Prop) (H : AH) (nx : Nat) : allocQ Try.prog lo 80 K H nx = newQ 80 ((.agg #[(.int .u16 0), (.int .u16 0)]) : Value).cells K H nx := alloc_new zero80
theorem st80 (lo : Nat) (b o : Nat) (v0 v1 : Value) (K : AH → Nat → Prop) (H : AH) (nx : Nat) : storeQ Try.prog lo 80 (.pointer (some ⟨b, o, none⟩)) (.agg #[v0, v1]) K H nx = stsQ lo b o [v0, v1] K H nx := store_agg (n := 2) (by kernel_rfl) (by decide) rfl
theorem ld80 (H : AH) (b o : Nat) : loadV Try.prog H 80 (.pointer (some ⟨b, o, none⟩)) = (loadN H b o 2).map fun l => .agg l.toArray := load_agg (by kernel_rfl) (by kernel_rfl)
theorem fa82x3 (H : AH) (b o : Nat) : fieldAV Try.prog H 82 3 (.pointer (some ⟨b, o, none⟩)) = some (.pointer (some ⟨b, o + 8, none⟩)) := fieldAV_eq 82 3 b o true 1 8 (by kernel_rfl)
/-! 36: milestone/ideal.New · code of 4 operations -/
def L36 : Nat → List Nat
  | 0 => []
  | 1 => [0]
  | _ => []
theorem L36x0 : L36 0 = [] := (rfl)
theorem L36x1 : L36 1 = [0] := (rfl)
theorem fnOk36 : fnOk Try.prog 36 = true := by kernel_rfl
theorem rq36 {R : Value → AH → Nat → Prop} {env : Env} {H : AH} {nx : Nat} : retQ Try.prog Try.f36 R .ret env H nx = onV (eg env 0) R H nx := retQ_one rfl (of_decide_eq_true (by kernel_rfl))

theorem zero87 : zeroT Try.prog 87 = some (.agg #[(.slice none 0 0), (.int .i64 0), (.int .i64 0)]) := by kernel_rfl
theorem bd0x87 (H : AH) : buildV Try.prog H 87 #[] = some (.agg #[(.slice none 0 0), (.int .i64 0), (.int .i64 0)]) := build_zero (by kernel_rfl) zero87
/-! 37: milestone/change.Right · code of 42 operations -/
def L37 : Nat → List Nat
  | 0 => [1]
  | 1 => [1, 3]
  | 2 => [1, 3, 6]
  | 3 => [1, 3, 6]
  | 4 => [6]
  | 5 => [2]
  | 6 => [2]
  | _ => []
theorem L37x0 : L37 0 = [1] := (rfl)
theorem L37x1 : L37 1 = [1, 3] := (rfl)
theorem L37x2 : L37 2 = [1, 3, 6] := (rfl)
theorem L37x3 : L37 3 = [1, 3, 6] := (rfl)
theorem L37x4 : L37 4 = [6] := (rfl)
theorem L37x5 : L37 5 = [2] := (rfl)
theorem L37x6 : L37 6 = [2] := (rfl)
theorem fnOk37 : fnOk Try.prog 37 = true := by kernel_rfl
theorem rq37 {R : Value → AH → Nat → Prop} {env : Env} {H : AH} {nx : Nat} : retQ Try.prog Try.f37 R .ret env H nx = onV (eg env 2) R H nx := retQ_one rfl (of_decide_eq_true (by kernel_rfl))

theorem al57 (lo : Nat) (K : Value → AH → Nat → Prop) (H : AH) (nx : Nat) : allocQ Try.prog lo 57 K H nx = newQ 57 ((.agg #[(.int .u32 0), (.int .u8 0), (.int .i64 0), (.int .u16 0), (.int .u16 0)]) : Value).cells K H nx := alloc_new zero57
theorem eqg57 (H : AH) (x y : Operand) (a0 b0 : Int) (a1 b1 : Int) (a2 b2 : Int) (a3 b3 : Int) (a4 b4 : Int) : binV Try.prog H .eql 57 x y (.agg #[.int .u32 a0, .int .u8 a1, .int .i64 a2, .int .u16 a3, .int .u16 a4]) (.agg #[.int .u32 b0, .int .u8 b1, .int .i64 b2, .int .u16 b3, .int .u16 b4]) = some (.bool (eqLs [.int .u32 a0, .int .u8 a1, .int .i64 a2, .int .u16 a3, .int .u16 a4] [.int .u32 b0, .int .u8 b1, .int .i64 b2, .int .u16 b3, .int .u16 b4])) := (bin_agg (xs := [.int .u32 a0, .int .u8 a1, .int .i64 a2, .int .u16 a3, .int .u16 a4]) (ys := [.int .u32 b0, .int .u8 b1, .int .i64 b2, .int .u16 b3, .int .u16 b4]) (ks := [some .u32, some .u8, some .i64, some .u16, some .u16]) (by kernel_rfl) (fitI (fitI (fitI (fitI (fitI fitN))))) (fitI (fitI (fitI (fitI (fitI fitN)))))).1
theorem neg57 (H : AH) (x y : Operand) (a0 b0 : Int) (a1 b1 : Int) (a2 b2 : Int) (a3 b3 : Int) (a4 b4 : Int) : binV Try.prog H .neq 57 x y (.agg #[.int .u32 a0, .int .u8 a1, .int .i64 a2, .int .u16 a3, .int .u16 a4]) (.agg #[.int .u32 b0, .int .u8 b1, .int .i64 b2, .int .u16 b3, .int .u16 b4]) = some (.bool (!eqLs [.int .u32 a0, .int .u8 a1, .int .i64 a2, .int .u16 a3, .int .u16 a4] [.int .u32 b0, .int .u8 b1, .int .i64 b2, .int .u16 b3, .int .u16 b4])) := (bin_agg (xs := [.int .u32 a0, .int .u8 a1, .int .i64 a2, .int .u16 a3, .int .u16 a4]) (ys := [.int .u32 b0, .int .u8 b1, .int .i64 b2, .int .u16 b3, .int .u16 b4]) (ks := [some .u32, some .u8, some .i64, some .u16, some .u16]) (by kernel_rfl) (fitI (fitI (fitI (fitI (fitI fitN))))) (fitI (fitI (fitI (fitI (fitI fitN)))))).2
theorem fa57x1 (H : AH) (b o : Nat) : fieldAV Try.prog H 57 1 (.pointer (some ⟨b, o, none⟩)) = some (.pointer (some ⟨b, o + 2, none⟩)) := fieldAV_eq 57 1 b o false 0 2 (by kernel_rfl)
/-! 38: milestone/change.Follows · code of 17 operations -/
def L38 : Nat → List Nat
  | 0 => [2, 3]
  | 1 => [4]
  | _ => []
theorem L38x0 : L38 0 = [2, 3] := (rfl)
theorem L38x1 : L38 1 = [4] := (rfl)
theorem fnOk38 : fnOk Try.prog 38 = true := by kernel_rfl
theorem rq38 {R : Value → AH → Nat → Prop} {env : Env} {H : AH} {nx : Nat} : retQ Try.prog Try.f38 R .ret env H nx = onV (eg env 4) R H nx := retQ_one rfl (of_decide_eq_true (by kernel_rfl))

theorem fa59x0 (H : AH) (b o : Nat) : fieldAV Try.prog H 59 0 (.pointer (some ⟨b, o, none⟩)) = some (.pointer (some ⟨b, o + 0, none⟩)) := fieldAV_eq 59 0 b o false 0 0 (by kernel_rfl)
theorem ld52 (H : AH) (b o : Nat) : loadV Try.prog H 52 (.pointer (some ⟨b, o, none⟩)) = H.c b o := load_one (by kernel_rfl)
theorem fa59x1 (H : AH) (b o : Nat) : fieldAV Try.prog H 59 1 (.pointer (some ⟨b, o, none⟩)) = some (.pointer (some ⟨b, o + 1, none⟩)) := fieldAV_eq 59 1 b o false 0 1 (by kernel_rfl)
/-! 39: (*milestone/ideal.Ideal).last · code of 14 operations -/
def L39 : Nat → List Nat
  | 0 => [0, 1, 4]
  | 1 => [0, 1, 4, 6]
  | 2 => [4]
  | 3 => [4]
  | _ => []
theorem L39x0 : L39 0 = [0, 1, 4] := (rfl)
theorem L39x1 : L39 1 = [0, 1, 4, 6] := (rfl)
theorem L39x2 : L39 2 = [4] := (rfl)
theorem L39x3 : L39 3 = [4] := (rfl)
theorem fnOk39 : fnOk Try.prog 39 = true := by kernel_rfl
theorem rq39 {R : Value → AH → Nat → Prop} {env : Env} {H : AH} {nx : Nat} : retQ Try.prog Try.f39 R .ret env H nx = onA (eg env 4) (fun a => onV (loadV Try.prog H 59 a) R H nx) := retQ_cell rfl (of_decide_eq_true (by kernel_rfl))

theorem bd0x59 (H : AH) : buildV Try.prog H 59 #[] = some (.agg #[(.int .u64 0), (.int .u64 0), (.bool false), (.int .u32 0), (.int .u8 0), (.int .i64 0), (.int .u16 0), (.int .u16 0)]) := build_zero (by kernel_rfl) zero59
/-! 40: slices.Clone[[]milestone/api.Change,milestone/api.Change] · code of 8 operations -/
def L40 : Nat → List Nat
  | 0 => [0]
  | 1 => [0, 4]
  | 2 => [2]
  | 3 => [2]
  | _ => []
theorem L40x0 : L40 0 = [0] := (rfl)
theorem L40x1 : L40 1 = [0, 4] := (rfl)
theorem L40x2 : L40 2 = [2] := (rfl)
theorem L40x3 : L40 3 = [2] := (rfl)
theorem fnOk40 : fnOk Try.prog 40 = true := by kernel_rfl
theorem rq40 {R : Value → AH → Nat → Prop} {env : Env} {H : AH} {nx : Nat} : retQ Try.prog Try.f40 R .ret env H nx = onV (eg env 2) R H nx := retQ_one rfl (of_decide_eq_true (by kernel_rfl))

theorem eqs45 (H : AH) (x y : Operand) (a : Option Addr) (n c : Nat) : binV Try.prog H .eql 45 x y (.slice a n c) (.slice none 0 0) = some (.bool a.isNone) := eq_sl (by kernel_rfl)
theorem nes45 (H : AH) (x y : Operand) (a : Option Addr) (n c : Nat) : binV Try.prog H .neq 45 x y (.slice a n c) (.slice none 0 0) = some (.bool a.isSome) := ne_sl (by kernel_rfl)
/-! 41: milestone/milestoneref01.Of · code of 30 operations -/
def L41 : Nat → List Nat
  | 0 => [0, 1, 4]
  | 1 => [0, 1, 4, 8]
  | 2 => [0, 1, 4]
  | 3 => [0, 1, 4, 5]
  | 4 => [0, 1, 4, 5, 6]
  | 5 => [0, 1, 4, 5, 6, 10]
  | 7 => [0, 1, 4, 5, 6]
  | 8 => [0, 1, 4, 5, 6, 23]
  | 9 => [0, 1, 4, 5, 6]
  | 6 => [0, 1, 4, 5, 6]
  | 10 => [4]
  | _ => []
theorem L41x0 : L41 0 = [0, 1, 4] := (rfl)
theorem L41x1 : L41 1 = [0, 1, 4, 8] := (rfl)
theorem L41x2 : L41 2 = [0, 1, 4] := (rfl)
theorem L41x3 : L41 3 = [0, 1, 4, 5] := (rfl)
theorem L41x4 : L41 4 = [0, 1, 4, 5, 6] := (rfl)
theorem L41x5 : L41 5 = [0, 1, 4, 5, 6, 10] := (rfl)
theorem L41x7 : L41 7 = [0, 1, 4, 5, 6] := (rfl)
theorem L41x8 : L41 8 = [0, 1, 4, 5, 6, 23] := (rfl)
theorem L41x9 : L41 9 = [0, 1, 4, 5, 6] := (rfl)
theorem L41x6 : L41 6 = [0, 1, 4, 5, 6] := (rfl)
theorem L41x10 : L41 10 = [4] := (rfl)
theorem fnOk41 : fnOk Try.prog 41 = true := by kernel_rfl
theorem rq41 {R : Value → AH → Nat → Prop} {env : Env} {H : AH} {nx : Nat} : retQ Try.prog Try.f41 R .ret env H nx = onA (eg env 4) (fun a => onV (loadV Try.prog H 55 a) R H nx) := retQ_cell rfl (of_decide_eq_true (by kernel_rfl))

/-! 42: milestone/milestoneref01.Nearer · code of 20 operations -/
def L42 : Nat → List Nat
  | 0 => [2, 3]
  | 1 => [2, 3, 9]
  | 2 => [4]
  | 3 => [4]
  | _ => []
theorem L42x0 : L42 0 = [2, 3] := (rfl)
theorem L42x1 : L42 1 = [2, 3, 9] := (rfl)
theorem L42x2 : L42 2 = [4] := (rfl)
theorem L42x3 : L42 3 = [4] := (rfl)
theorem fnOk42 : fnOk Try.prog 42 = true := by kernel_rfl
theorem rq42 {R : Value → AH → Nat → Prop} {env : Env} {H : AH} {nx : Nat} : retQ Try.prog Try.f42 R .ret env H nx = onV (eg env 4) R H nx := retQ_one rfl (of_decide_eq_true (by kernel_rfl))

theorem fa80x0 (H : AH) (b o : Nat) : fieldAV Try.prog H 80 0 (.pointer (some ⟨b, o, none⟩)) = some (.pointer (some ⟨b, o + 0, none⟩)) := fieldAV_eq 80 0 b o false 0 0 (by kernel_rfl)
theorem fa80x1 (H : AH) (b o : Nat) : fieldAV Try.prog H 80 1 (.pointer (some ⟨b, o, none⟩)) = some (.pointer (some ⟨b, o + 1, none⟩)) := fieldAV_eq 80 1 b o false 0 1 (by kernel_rfl)
/-! 43: milestone/prefix.Right · code of 15 operations -/
def L43 : Nat → List Nat
  | 0 => [1]
  | 1 => [2]
  | _ => []
theorem L43x0 : L43 0 = [1] := (rfl)
theorem L43x1 : L43 1 = [2] := (rfl)
def ord43x1 : List Nat := [0, 1, 2, 3, 4, 5, 6, 7, 8, 9, 10, 11, 12]
theorem fnOk43 : fnOk Try.prog 43 = true := by kernel_rfl
theorem rq43 {R : Value → AH → Nat → Prop} {env : Env} {H : AH} {nx : Nat} : retQ Try.prog Try.f43 R .ret env H nx = onV (eg env 2) R H nx := retQ_one rfl (of_decide_eq_true (by kernel_rfl))

theorem fa55x1 (H : AH) (b o : Nat) : fieldAV Try.prog H 55 1 (.pointer (some ⟨b, o, none⟩)) = some (.pointer (some ⟨b, o + 1, none⟩)) := fieldAV_eq 55 1 b o false 0 1 (by kernel_rfl)
theorem fa55x0 (H : AH) (b o : Nat) : fieldAV Try.prog H 55 0 (.pointer (some ⟨b, o, none⟩)) = some (.pointer (some ⟨b, o + 0, none⟩)) := fieldAV_eq 55 0 b o false 0 0 (by kernel_rfl)
theorem ld53 (H : AH) (b o : Nat) : loadV Try.prog H 53 (.pointer (some ⟨b, o, none⟩)) = H.c b o := load_one (by kernel_rfl)
/-! 44: milestone/milestoneref01.Bit · code of 13 operations -/
def L44 : Nat → List Nat
  | 0 => [0, 1]
  | 1 => [0, 1, 6]
  | 3 => [0, 1]
  | 2 => [0, 1]
  | 4 => [4]
  | _ => []
theorem L44x0 : L44 0 = [0, 1] := (rfl)
theorem L44x1 : L44 1 = [0, 1, 6] := (rfl)
theorem L44x3 : L44 3 = [0, 1] := (rfl)
theorem L44x2 : L44 2 = [0, 1] := (rfl)
theorem L44x4 : L44 4 = [4] := (rfl)
theorem fnOk44 : fnOk Try.prog 44 = true := by kernel_rfl
theorem rq44 {R : Value → AH → Nat → Prop} {env : Env} {H : AH} {nx : Nat} : retQ Try.prog Try.f44 R .ret env H nx = onV (eg env 4) R H nx := retQ_one rfl (of_decide_eq_true (by kernel_rfl))

/-! 45: milestone/milestoneref01.Newer · code of 16 operations -/
def L45 : Nat → List Nat
  | 0 => [0, 1]
  | 1 => [5]
  | 2 => [4]
  | _ => []
theorem L45x0 : L45 0 = [0, 1] := (rfl)
theorem L45x1 : L45 1 = [5] := (rfl)
theorem L45x2 : L45 2 = [4] := (rfl)
theorem fnOk45 : fnOk Try.prog 45 = true := by kernel_rfl
theorem rq45 {R : Value → AH → Nat → Prop} {env : Env} {H : AH} {nx : Nat} : retQ Try.prog Try.f45 R .ret env H nx = onV (eg env 4) R H nx := retQ_one rfl (of_decide_eq_true (by kernel_rfl))

/-! 46: milestone/prefix.mask · code of 9 operations -/
def L46 : Nat → List Nat
  | 0 => [0]
  | 1 => [0, 4]
  | 2 => [2]
  | 3 => [2]
  | _ => []
theorem L46x0 : L46 0 = [0] := (rfl)
theorem L46x1 : L46 1 = [0, 4] := (rfl)
theorem L46x2 : L46 2 = [2] := (rfl)
theorem L46x3 : L46 3 = [2] := (rfl)
theorem fnOk46 : fnOk Try.prog 46 = true := by kernel_rfl
theorem rq46 {R : Value → AH → Nat → Prop} {env : Env} {H : AH} {nx : Nat} : retQ Try.prog Try.f46 R .ret env H nx = onV (eg env 2) R H nx := retQ_one rfl (of_decide_eq_true (by kernel_rfl))

attribute [go_sem] L3x0 L3x1 L3x2 L3x3 L3x4 L3x5 L3x6 L3x7 L3x9 L3x8 L3x10 L3x11 L3x12 L3x13 L3x14 fnOk3 rq3 bd0x29 cv22x3 cx22x3 cv3x5 cx3x5 al36 st36 fa36x2 ld34 ia34 ld5 cv5x3 cx5x3 L4x0 L4x1 L4x2 L4x3 L4x4 L4x5 L4x6 L4x7 L4x8 L4x10 L4x9 L4x11 L4x12 L4x13 L4x14 L4x15 L4x17 L4x18 L4x19 L4x16 L4x20 fnOk4 rq4 fa36x0 ld3 fa36x1 L5x0 L5x1 L5x2 L5x3 L5x4 L5x5 L5x6 L5x7 L5x8 L5x9 L5x10 L5x12 L5x13 L5x14 L5x15 L5x16 L5x17 L5x18 L5x19 L5x20 L5x21 L5x11 L5x22 fnOk5 rq5 len43 len44 eqp47 nep47 ia44 len45 eqb4 neb4 L6x0 L6x1 L6x2 L6x3 L6x4 L6x5 L6x6 L6x7 L6x8 L6x9 L6x10 L6x12 L6x11 L6x13 L6x14 L6x15 L6x16 L6x17 L6x18 L6x19 L6x20 L6x21 fnOk6 rq6 ia45 ld59 L7x0 L7x1 L7x2 L7x3 L7x4 L7x5 L7x6 L7x7 L7x9 L7x10 L7x11 L7x12 L7x13 L7x14 L7x28 L7x29 L7x30 L7x31 L7x32 L7x33 L7x34 L7x35 L7x36 L7x37 L7x38 L7x39 L7x40 L7x41 L7x42 L7x44 L7x45 L7x46 L7x43 L7x47 L7x48 L7x49 L7x50 L7x51 L7x52 L7x53 L7x54 L7x15 L7x16 L7x17 L7x18 L7x19 L7x20 L7x21 L7x22 L7x23 L7x24 L7x25 L7x26 L7x27 L7x55 L7x56 L7x8 L7x57 fnOk7 rq7 len64 al66 ia64 fa68x1 fa68x2 len27 fa68x3 cv3x52 cx3x52 cv52x3 cx52x3 fa68x0 ia66 ia65 st4 stc4 ld4 bd3x36 ia27 ld36 eqt9 net9 L8x0 L8x1 L8x2 L8x3 L8x4 L8x5 L8x6 L8x7 L8x8 L8x9 L8x10 L8x11 L8x12 L8x13 L8x14 L8x15 L8x16 fnOk8 rq8 len34 st5 stc5 L9x0 L9x1 L9x2 L9x3 fnOk9 rq9 L10x0 L10x1 L10x2 L10x3 L10x4 L10x5 L10x6 fnOk10 rq10 eqp24 nep24 fa29x0 ia26 ia25 L11x0 L11x1 L11x2 L11x3 L11x4 L11x5 L11x6 L11x7 L11x8 L11x9 L11x10 L11x11 L11x12 L11x13 L11x14 fnOk11 rq11 ld25 ix25 fa29x1 ld27 st27 stc27 L12x0 L12x1 L12x2 L12x3 L12x4 L12x5 L12x6 fnOk12 rq12 bd0x36 st34 stc34 L13x0 L13x1 L13x2 L13x3 fnOk13 rq13 L14x0 L14x1 fnOk14 rq14 L15x0 L15x1 L15x2 L15x3 L15x4 L15x5 fnOk15 rq15 L16x0 L16x1 L16x2 L16x3 L16x4 L16x5 fnOk16 rq16 bd55x0x1 bd57x0 bd59x0x3 L17x0 L17x1 L17x2 L17x3 L17x4 L17x6 L17x7 L17x8 L17x9 L17x10 L17x11 L17x12 L17x13 L17x14 L17x15 L17x5 L17x16 fnOk17 rq17 ia43 ld77 al77 st77 fa77x4 cv5x52 cx5x52 bd59x0x1 al59 st59 fa77x0 al55 st55 ld55 al82 st82 fa82x1 fa77x1 fa59x2 fa59x3 st57 fa77x2 cv5x22 cx5x22 fa77x3 bd57x0x1x2x3 L18x0 L18x1 L18x2 L18x3 L18x5 L18x6 L18x4 L18x7 fnOk18 rq18 L19x0 L19x1 L19x2 L19x3 L19x4 L19x5 L19x6 L19x7 fnOk19 rq19 fa87x2 fa87x0 ld45 st3 stc3 L20x0 L20x1 L20x2 L20x3 fnOk20 rq20 L21x0 L21x1 L21x2 L21x3 fnOk21 rq21 fa87x1 L22x0 L22x1 fnOk22 rq22 L23x0 L23x1 L23x2 L23x3 L23x4 L23x5 L23x6 L23x7 L23x8 fnOk23 rq23 st45 stc45 L24x0 L24x1 L24x2 L24x3 L24x4 L24x5 L24x6 fnOk24 rq24 L25x0 L25x1 L25x2 L25x3 fnOk25 rq25 L26x0 L26x1 L26x2 L26x3 L26x4 L26x6 L26x7 L26x5 L26x8 fnOk26 rq26 eqg59 neg59 L27x0 L27x1 L27x2 L27x3 fnOk27 rq27 L28x0 L28x1 L28x2 L28x3 L28x4 fnOk28 rq28 L29x0 L29x1 L29x2 fnOk29 rq29 L30x0 L30x1 fnOk30 rq30 L31x0 L31x1 L31x2 L31x3 fnOk31 rq31 eqs34 nes34 L32x0 L32x1 L32x2 L32x3 L32x4 L32x5 L32x6 L32x7 fnOk32 rq32 L33x0 L33x1 L33x2 L33x3 fnOk33 rq33 cv3x33 cx3x33 cv33x3 cx33x3 L34x0 L34x1 fnOk34 rq34 cv5x53 cx5x53 ld82 L35x0 L35x1 L35x2 L35x3 L35x4 L35x6 L35x7 L35x8 L35x9 L35x10 L35x11 L35x12 L35x13 L35x14 L35x5 L35x15 fnOk35 rq35 bd82x0 fa57x0 eqg55 neg55 ld57 fa82x2 fa57x3 ld22 fa57x2 bd80x0x1 al80 st80 ld80 fa82x3 L36x0 L36x1 fnOk36 rq36 bd0x87 L37x0 L37x1 L37x2 L37x3 L37x4 L37x5 L37x6 fnOk37 rq37 al57 eqg57 neg57 fa57x1 L38x0 L38x1 fnOk38 rq38 fa59x0 ld52 fa59x1 L39x0 L39x1 L39x2 L39x3 fnOk39 rq39 bd0x59 L40x0 L40x1 L40x2 L40x3 fnOk40 rq40 eqs45 nes45 L41x0 L41x1 L41x2 L41x3 L41x4 L41x5 L41x7 L41x8 L41x9 L41x6 L41x10 fnOk41 rq41 L42x0 L42x1 L42x2 L42x3 fnOk42 rq42 fa80x0 fa80x1 L43x0 L43x1 fnOk43 rq43 fa55x1 fa55x0 ld53 L44x0 L44x1 L44x3 L44x2 L44x4 fnOk44 rq44 L45x0 L45x1 L45x2 fnOk45 rq45 L46x0 L46x1 L46x2 L46x3 fnOk46 rq46
end Go.Proofs.Ytcdnjkogkibegaa
