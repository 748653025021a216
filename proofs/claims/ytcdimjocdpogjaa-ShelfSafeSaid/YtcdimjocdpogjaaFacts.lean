import Derived.Test.YtcdimjocdpogjaaL15
namespace Go.Proofs.Ytcdimjocdpogjaa
open Go.RowKit
set_option linter.unusedSimpArgs false
/-! 3: milestone/milestonelaw05.ShelfKeeps · code of 66 operations -/
def L3 : Nat → List Nat
  | 0 => [0, 1, 2]
  | 1 => [0, 1, 2, 22]
  | 2 => [6]
  | 3 => [0, 1, 2, 7]
  | 4 => [0, 1, 2, 7]
  | 5 => [0, 1, 2, 7]
  | 6 => [0, 1, 2, 7]
  | 7 => [0, 1, 2, 7]
  | 8 => [0, 1, 2, 7]
  | 9 => [0, 1, 2, 7]
  | 10 => [0, 1, 2, 8, 9]
  | 11 => [0, 1, 8, 9, 10]
  | 12 => [0, 1, 8, 9, 10, 47]
  | 13 => [0, 1, 8, 9, 10]
  | 14 => [0, 1, 8, 9, 10, 51]
  | 15 => [0, 1, 8, 9, 10]
  | 16 => [6]
  | _ => []
theorem L3x0 : L3 0 = [0, 1, 2] := (rfl)
theorem L3x1 : L3 1 = [0, 1, 2, 22] := (rfl)
theorem L3x2 : L3 2 = [6] := (rfl)
theorem L3x3 : L3 3 = [0, 1, 2, 7] := (rfl)
theorem L3x4 : L3 4 = [0, 1, 2, 7] := (rfl)
theorem L3x5 : L3 5 = [0, 1, 2, 7] := (rfl)
theorem L3x6 : L3 6 = [0, 1, 2, 7] := (rfl)
theorem L3x7 : L3 7 = [0, 1, 2, 7] := (rfl)
theorem L3x8 : L3 8 = [0, 1, 2, 7] := (rfl)
theorem L3x9 : L3 9 = [0, 1, 2, 7] := (rfl)
theorem L3x10 : L3 10 = [0, 1, 2, 8, 9] := (rfl)
theorem L3x11 : L3 11 = [0, 1, 8, 9, 10] := (rfl)
theorem L3x12 : L3 12 = [0, 1, 8, 9, 10, 47] := (rfl)
theorem L3x13 : L3 13 = [0, 1, 8, 9, 10] := (rfl)
theorem L3x14 : L3 14 = [0, 1, 8, 9, 10, 51] := (rfl)
theorem L3x15 : L3 15 = [0, 1, 8, 9, 10] := (rfl)
theorem L3x16 : L3 16 = [6] := (rfl)
def ord3x16 : List Nat := [0, 1, 2, 3, 4, 5, 6, 7, 8, 9, 10, 11, 12, 13, 14]
theorem fnOk3 : fnOk Try.prog 3 = true := by kernel_rfl
theorem rq3 {R : Value → AH → Nat → Prop} {env : Env} {H : AH} {nx : Nat} : retQ Try.prog Try.f3 R .ret env H nx = onV (eg env 6) R H nx := retQ_one rfl (of_decide_eq_true (by kernel_rfl))

theorem len22 (H : AH) (ty : TypeId) (a : Option Addr) (n c : Nat) : lenV Try.prog H #[22] ty #[.slice a n c] = some (.int .i64 n) := lenV_slice 22 5 ty 1 a n c (by kernel_rfl)
theorem sl22 : slT Try.prog 22 = some (5, 1) := by kernel_rfl
theorem eqt9 (H : AH) (x y : Operand) (a b : ByteArray) : binV Try.prog H .eql 9 x y (.string a) (.string b) = some (.bool (decide (a.data.toList = b.data.toList))) := eq_str
theorem net9 (H : AH) (x y : Operand) (a b : ByteArray) : binV Try.prog H .neq 9 x y (.string a) (.string b) = some (.bool (!(decide (a.data.toList = b.data.toList)))) := ne_str
/-! 4: milestone/milestonelaw05.ShelfRenames · code of 80 operations -/
def L4 : Nat → List Nat
  | 0 => [0, 1, 2]
  | 1 => [0, 1, 2, 24]
  | 2 => [6]
  | 3 => [0, 1, 2, 7]
  | 4 => [0, 1, 2, 7]
  | 5 => [0, 1, 2, 7]
  | 6 => [0, 1, 2, 7]
  | 7 => [0, 1, 2, 7]
  | 8 => [0, 1, 2, 7]
  | 9 => [0, 1, 2, 7]
  | 10 => [0, 1, 2, 7]
  | 11 => [0, 1, 2, 7]
  | 12 => [0, 1, 2, 7]
  | 13 => [0, 1, 2, 7, 8, 9]
  | 14 => [0, 1, 2, 8, 9, 11]
  | 15 => [1, 2, 8, 9, 11, 12]
  | 16 => [1, 2, 8, 9, 11, 12, 64]
  | 17 => [2, 8, 9, 11, 12]
  | 18 => [6]
  | _ => []
theorem L4x0 : L4 0 = [0, 1, 2] := (rfl)
theorem L4x1 : L4 1 = [0, 1, 2, 24] := (rfl)
theorem L4x2 : L4 2 = [6] := (rfl)
theorem L4x3 : L4 3 = [0, 1, 2, 7] := (rfl)
theorem L4x4 : L4 4 = [0, 1, 2, 7] := (rfl)
theorem L4x5 : L4 5 = [0, 1, 2, 7] := (rfl)
theorem L4x6 : L4 6 = [0, 1, 2, 7] := (rfl)
theorem L4x7 : L4 7 = [0, 1, 2, 7] := (rfl)
theorem L4x8 : L4 8 = [0, 1, 2, 7] := (rfl)
theorem L4x9 : L4 9 = [0, 1, 2, 7] := (rfl)
theorem L4x10 : L4 10 = [0, 1, 2, 7] := (rfl)
theorem L4x11 : L4 11 = [0, 1, 2, 7] := (rfl)
theorem L4x12 : L4 12 = [0, 1, 2, 7] := (rfl)
theorem L4x13 : L4 13 = [0, 1, 2, 7, 8, 9] := (rfl)
theorem L4x14 : L4 14 = [0, 1, 2, 8, 9, 11] := (rfl)
theorem L4x15 : L4 15 = [1, 2, 8, 9, 11, 12] := (rfl)
theorem L4x16 : L4 16 = [1, 2, 8, 9, 11, 12, 64] := (rfl)
theorem L4x17 : L4 17 = [2, 8, 9, 11, 12] := (rfl)
theorem L4x18 : L4 18 = [6] := (rfl)
theorem fnOk4 : fnOk Try.prog 4 = true := by kernel_rfl
theorem rq4 {R : Value → AH → Nat → Prop} {env : Env} {H : AH} {nx : Nat} : retQ Try.prog Try.f4 R .ret env H nx = onV (eg env 6) R H nx := retQ_one rfl (of_decide_eq_true (by kernel_rfl))

theorem cv5x3 (lo : Nat) (k' : IntKind) (n : Int) (K : Value → AH → Nat → Prop) (H : AH) (nx : Nat) : convQ Try.prog lo 5 3 (.int k' n) K H nx = K (.int .i64 (IntKind.wrap .i64 n)) H nx := convQ_int (by kernel_rfl) (by kernel_rfl)
theorem cx5x3 (k' : IntKind) (n : Int) (H : AH) : convV Try.prog H 5 3 (.int k' n) = some (.int .i64 (IntKind.wrap .i64 n)) := convV_int (by kernel_rfl) (by kernel_rfl)
theorem eqb4 (H : AH) (x y : Operand) (a b : Bool) : binV Try.prog H .eql 4 x y (.bool a) (.bool b) = some (.bool (a == b)) := eq_bool (by kernel_rfl)
theorem neb4 (H : AH) (x y : Operand) (a b : Bool) : binV Try.prog H .neq 4 x y (.bool a) (.bool b) = some (.bool (!(a == b))) := ne_bool (by kernel_rfl)
/-! 5: milestone/milestonelaw05.ShelfNames · code of 133 operations -/
def L5 : Nat → List Nat
  | 0 => [0, 1, 2]
  | 1 => [0, 1, 2, 32]
  | 2 => [6]
  | 3 => [0, 1, 2, 7]
  | 4 => [0, 1, 2, 7]
  | 5 => [0, 1, 2, 7, 8]
  | 6 => [0, 1, 2, 7, 8]
  | 7 => [0, 1, 2, 7]
  | 8 => [0, 1, 2, 7, 9]
  | 9 => [0, 1, 2, 7, 9, 54]
  | 10 => [6]
  | 11 => [0, 1, 2, 7]
  | 12 => [0, 1, 2, 7, 11]
  | 13 => [0, 1, 2, 7, 11, 13]
  | 14 => [0, 1, 2, 7, 11, 13]
  | 15 => [0, 1, 2, 7, 11, 13]
  | 16 => [0, 1, 7, 11, 13]
  | 17 => [0, 1, 7, 11, 13, 15]
  | 18 => [6]
  | _ => []
theorem L5x0 : L5 0 = [0, 1, 2] := (rfl)
theorem L5x1 : L5 1 = [0, 1, 2, 32] := (rfl)
theorem L5x2 : L5 2 = [6] := (rfl)
theorem L5x3 : L5 3 = [0, 1, 2, 7] := (rfl)
theorem L5x4 : L5 4 = [0, 1, 2, 7] := (rfl)
theorem L5x5 : L5 5 = [0, 1, 2, 7, 8] := (rfl)
theorem L5x6 : L5 6 = [0, 1, 2, 7, 8] := (rfl)
theorem L5x7 : L5 7 = [0, 1, 2, 7] := (rfl)
theorem L5x8 : L5 8 = [0, 1, 2, 7, 9] := (rfl)
theorem L5x9 : L5 9 = [0, 1, 2, 7, 9, 54] := (rfl)
theorem L5x10 : L5 10 = [6] := (rfl)
theorem L5x11 : L5 11 = [0, 1, 2, 7] := (rfl)
theorem L5x12 : L5 12 = [0, 1, 2, 7, 11] := (rfl)
theorem L5x13 : L5 13 = [0, 1, 2, 7, 11, 13] := (rfl)
theorem L5x14 : L5 14 = [0, 1, 2, 7, 11, 13] := (rfl)
theorem L5x15 : L5 15 = [0, 1, 2, 7, 11, 13] := (rfl)
theorem L5x16 : L5 16 = [0, 1, 7, 11, 13] := (rfl)
theorem L5x17 : L5 17 = [0, 1, 7, 11, 13, 15] := (rfl)
theorem L5x18 : L5 18 = [6] := (rfl)
theorem fnOk5 : fnOk Try.prog 5 = true := by kernel_rfl
theorem rq5 {R : Value → AH → Nat → Prop} {env : Env} {H : AH} {nx : Nat} : retQ Try.prog Try.f5 R .ret env H nx = onV (eg env 6) R H nx := retQ_one rfl (of_decide_eq_true (by kernel_rfl))

theorem len9 (H : AH) (ty : TypeId) (s : ByteArray) : lenV Try.prog H #[9] ty #[.string s] = some (.int .i64 s.size) := lenV_string 9 ty s (by kernel_rfl)
theorem zero5 : zeroT Try.prog 5 = some (.int .u8 0) := by kernel_rfl
theorem by5 : bytesT Try.prog 5 = some 1 := by kernel_rfl
theorem ia22 (H : AH) (n b o c : Nat) (kk : IntKind) (i : Int) (h0 : 0 ≤ i) (h1 : i < n) : indexAV Try.prog H 22 (.slice (some ⟨b, o, none⟩) n c) (.int kk i) = some (.pointer (some ⟨b, o + i.toNat * 1, none⟩)) := indexAV_slice 22 5 n 1 b o c kk i (by kernel_rfl) h0 h1
theorem ld5 (H : AH) (b o : Nat) : loadV Try.prog H 5 (.pointer (some ⟨b, o, none⟩)) = H.c b o := load_one (by kernel_rfl)
theorem st5 (lo : Nat) (b o : Nat) (v : Value) (K : AH → Nat → Prop) (H : AH) (nx : Nat) (hv : v.oneCell' = true) : storeQ Try.prog lo 5 (.pointer (some ⟨b, o, none⟩)) v K H nx = stQ lo b o v K H nx := store_one (by kernel_rfl) hv
theorem stc5 (lo : Nat) (b o : Nat) (k : IntKind) (n : Int) (K : AH → Nat → Prop) (H : AH) (nx : Nat) : storeQ Try.prog lo 5 (.pointer (some ⟨b, o, none⟩)) (.int k n) K H nx = stQ lo b o (.int k n) K H nx := store_one (by kernel_rfl) rfl
theorem len38 (H : AH) (ty : TypeId) (a : Option Addr) (n c : Nat) : lenV Try.prog H #[38] ty #[.slice a n c] = some (.int .i64 n) := lenV_slice 38 9 ty 1 a n c (by kernel_rfl)
/-! 6: milestone/milestonelaw05.ShelfSafe · code of 86 operations -/
def L6 : Nat → List Nat
  | 0 => [0, 1, 2, 3]
  | 1 => [0, 1, 2, 3, 25]
  | 2 => [8]
  | 3 => [0, 1, 2, 3, 9]
  | 4 => [0, 1, 2, 3, 9]
  | 5 => [0, 1, 2, 3, 9]
  | 6 => [0, 1, 2, 3, 9]
  | 7 => [0, 1, 2, 3, 9, 37]
  | 8 => [8]
  | 9 => [0, 1, 2, 3, 9, 10]
  | 10 => [0, 1, 2, 3, 9, 10, 11]
  | 11 => [0, 1, 2, 3, 9, 10, 11, 42]
  | 13 => [0, 1, 2, 3, 9, 10, 11, 51]
  | 14 => [8]
  | 15 => [0, 1, 2, 3, 9, 10, 11, 58]
  | 16 => [0, 1, 2, 3, 9, 10, 11]
  | 12 => [0, 1, 2, 3, 9, 10, 11]
  | 17 => [0, 9]
  | 18 => [0, 12, 13]
  | 19 => [8]
  | _ => []
theorem L6x0 : L6 0 = [0, 1, 2, 3] := (rfl)
theorem L6x1 : L6 1 = [0, 1, 2, 3, 25] := (rfl)
theorem L6x2 : L6 2 = [8] := (rfl)
theorem L6x3 : L6 3 = [0, 1, 2, 3, 9] := (rfl)
theorem L6x4 : L6 4 = [0, 1, 2, 3, 9] := (rfl)
theorem L6x5 : L6 5 = [0, 1, 2, 3, 9] := (rfl)
theorem L6x6 : L6 6 = [0, 1, 2, 3, 9] := (rfl)
theorem L6x7 : L6 7 = [0, 1, 2, 3, 9, 37] := (rfl)
theorem L6x8 : L6 8 = [8] := (rfl)
theorem L6x9 : L6 9 = [0, 1, 2, 3, 9, 10] := (rfl)
theorem L6x10 : L6 10 = [0, 1, 2, 3, 9, 10, 11] := (rfl)
theorem L6x11 : L6 11 = [0, 1, 2, 3, 9, 10, 11, 42] := (rfl)
theorem L6x13 : L6 13 = [0, 1, 2, 3, 9, 10, 11, 51] := (rfl)
theorem L6x14 : L6 14 = [8] := (rfl)
theorem L6x15 : L6 15 = [0, 1, 2, 3, 9, 10, 11, 58] := (rfl)
theorem L6x16 : L6 16 = [0, 1, 2, 3, 9, 10, 11] := (rfl)
theorem L6x12 : L6 12 = [0, 1, 2, 3, 9, 10, 11] := (rfl)
theorem L6x17 : L6 17 = [0, 9] := (rfl)
theorem L6x18 : L6 18 = [0, 12, 13] := (rfl)
theorem L6x19 : L6 19 = [8] := (rfl)
def ord6x16 : List Nat := [0, 1, 2, 3, 4, 5, 6, 7, 8, 9, 10]
theorem fnOk6 : fnOk Try.prog 6 = true := by kernel_rfl
theorem rq6 {R : Value → AH → Nat → Prop} {env : Env} {H : AH} {nx : Nat} : retQ Try.prog Try.f6 R .ret env H nx = onV (eg env 8) R H nx := retQ_one rfl (of_decide_eq_true (by kernel_rfl))

theorem len42 (H : AH) (ty : TypeId) (a : Option Addr) (n c : Nat) : lenV Try.prog H #[42] ty #[.slice a n c] = some (.int .i64 n) := lenV_slice 42 50 ty 5 a n c (by kernel_rfl)
theorem zero47 : zeroT Try.prog 47 = some (.agg #[(.slice none 0 0), (.slice none 0 0), (.slice none 0 0), (.int .i64 0), (.int .i64 0), (.bool false), (.int .i64 0)]) := by kernel_rfl
theorem al47 (lo : Nat) (K : Value → AH → Nat → Prop) (H : AH) (nx : Nat) : allocQ Try.prog lo 47 K H nx = newQ 47 ((.agg #[(.slice none 0 0), (.slice none 0 0), (.slice none 0 0), (.int .i64 0), (.int .i64 0), (.bool false), (.int .i64 0)]) : Value).cells K H nx := alloc_new zero47
theorem st47 (lo : Nat) (b o : Nat) (v0 v1 v2 v3 v4 v5 v6 : Value) (K : AH → Nat → Prop) (H : AH) (nx : Nat) : storeQ Try.prog lo 47 (.pointer (some ⟨b, o, none⟩)) (.agg #[v0, v1, v2, v3, v4, v5, v6]) K H nx = stsQ lo b o [v0, v1, v2, v3, v4, v5, v6] K H nx := store_agg (n := 7) (by kernel_rfl) (by decide) rfl
theorem ia42 (H : AH) (n b o c : Nat) (kk : IntKind) (i : Int) (h0 : 0 ≤ i) (h1 : i < n) : indexAV Try.prog H 42 (.slice (some ⟨b, o, none⟩) n c) (.int kk i) = some (.pointer (some ⟨b, o + i.toNat * 5, none⟩)) := indexAV_slice 42 50 n 5 b o c kk i (by kernel_rfl) h0 h1
theorem fa50x4 (H : AH) (b o : Nat) : fieldAV Try.prog H 50 4 (.pointer (some ⟨b, o, none⟩)) = some (.pointer (some ⟨b, o + 4, none⟩)) := fieldAV_eq 50 4 b o false 0 4 (by kernel_rfl)
theorem ld22 (H : AH) (b o : Nat) : loadV Try.prog H 22 (.pointer (some ⟨b, o, none⟩)) = H.c b o := load_one (by kernel_rfl)
theorem fa50x0 (H : AH) (b o : Nat) : fieldAV Try.prog H 50 0 (.pointer (some ⟨b, o, none⟩)) = some (.pointer (some ⟨b, o + 0, none⟩)) := fieldAV_eq 50 0 b o false 0 0 (by kernel_rfl)
theorem ld47 (H : AH) (b o : Nat) : loadV Try.prog H 47 (.pointer (some ⟨b, o, none⟩)) = (loadN H b o 7).map fun l => .agg l.toArray := load_agg (by kernel_rfl) (by kernel_rfl)
theorem ld50 (H : AH) (b o : Nat) : loadV Try.prog H 50 (.pointer (some ⟨b, o, none⟩)) = (loadN H b o 5).map fun l => .agg l.toArray := load_agg (by kernel_rfl) (by kernel_rfl)
/-! 7: milestone/milestonelaw05.ShelfRoom · code of 96 operations -/
def L7 : Nat → List Nat
  | 0 => [0, 1]
  | 1 => [0, 1, 17]
  | 2 => [4]
  | 3 => [0, 1, 5]
  | 4 => [0, 1, 5, 6]
  | 5 => [0, 1, 5, 6, 7]
  | 6 => [0, 1, 5, 6, 7, 28]
  | 8 => [0, 1, 5, 6, 7, 37]
  | 9 => [4]
  | 10 => [0, 1, 5, 6, 7, 8]
  | 11 => [0, 1, 5, 6, 7, 49]
  | 12 => [0, 1, 5, 6, 7]
  | 13 => [0, 1, 5, 6, 7, 64]
  | 14 => [4]
  | 7 => [0, 1, 5, 6, 7]
  | 15 => [5, 9]
  | 16 => [5, 9, 10]
  | 17 => [5, 9, 10, 70]
  | 19 => [5, 9, 10]
  | 18 => [5, 9, 10]
  | 20 => [4]
  | _ => []
theorem L7x0 : L7 0 = [0, 1] := (rfl)
theorem L7x1 : L7 1 = [0, 1, 17] := (rfl)
theorem L7x2 : L7 2 = [4] := (rfl)
theorem L7x3 : L7 3 = [0, 1, 5] := (rfl)
theorem L7x4 : L7 4 = [0, 1, 5, 6] := (rfl)
theorem L7x5 : L7 5 = [0, 1, 5, 6, 7] := (rfl)
theorem L7x6 : L7 6 = [0, 1, 5, 6, 7, 28] := (rfl)
theorem L7x8 : L7 8 = [0, 1, 5, 6, 7, 37] := (rfl)
theorem L7x9 : L7 9 = [4] := (rfl)
theorem L7x10 : L7 10 = [0, 1, 5, 6, 7, 8] := (rfl)
theorem L7x11 : L7 11 = [0, 1, 5, 6, 7, 49] := (rfl)
theorem L7x12 : L7 12 = [0, 1, 5, 6, 7] := (rfl)
theorem L7x13 : L7 13 = [0, 1, 5, 6, 7, 64] := (rfl)
theorem L7x14 : L7 14 = [4] := (rfl)
theorem L7x7 : L7 7 = [0, 1, 5, 6, 7] := (rfl)
theorem L7x15 : L7 15 = [5, 9] := (rfl)
theorem L7x16 : L7 16 = [5, 9, 10] := (rfl)
theorem L7x17 : L7 17 = [5, 9, 10, 70] := (rfl)
theorem L7x19 : L7 19 = [5, 9, 10] := (rfl)
theorem L7x18 : L7 18 = [5, 9, 10] := (rfl)
theorem L7x20 : L7 20 = [4] := (rfl)
def ord7x12 : List Nat := [0, 1, 2, 3, 4, 5, 6, 7, 8, 9, 10]
theorem fnOk7 : fnOk Try.prog 7 = true := by kernel_rfl
theorem rq7 {R : Value → AH → Nat → Prop} {env : Env} {H : AH} {nx : Nat} : retQ Try.prog Try.f7 R .ret env H nx = onV (eg env 4) R H nx := retQ_one rfl (of_decide_eq_true (by kernel_rfl))

theorem ia38 (H : AH) (n b o c : Nat) (kk : IntKind) (i : Int) (h0 : 0 ≤ i) (h1 : i < n) : indexAV Try.prog H 38 (.slice (some ⟨b, o, none⟩) n c) (.int kk i) = some (.pointer (some ⟨b, o + i.toNat * 1, none⟩)) := indexAV_slice 38 9 n 1 b o c kk i (by kernel_rfl) h0 h1
theorem ld9 (H : AH) (b o : Nat) : loadV Try.prog H 9 (.pointer (some ⟨b, o, none⟩)) = H.c b o := load_one (by kernel_rfl)
/-! 8: milestone/milestonelaw05.awake · code of 60 operations -/
def L8 : Nat → List Nat
  | 0 => []
  | 1 => [1]
  | 2 => [1, 2]
  | 3 => [1, 2, 3]
  | 4 => [1, 2, 3, 4]
  | 5 => [1, 2, 3, 4]
  | 6 => [1, 33]
  | 7 => [0]
  | 8 => [1]
  | 9 => [1]
  | 10 => [1]
  | 11 => [1]
  | 12 => [1]
  | 13 => [5, 6]
  | 14 => [0]
  | _ => []
theorem L8x0 : L8 0 = [] := (rfl)
theorem L8x1 : L8 1 = [1] := (rfl)
theorem L8x2 : L8 2 = [1, 2] := (rfl)
theorem L8x3 : L8 3 = [1, 2, 3] := (rfl)
theorem L8x4 : L8 4 = [1, 2, 3, 4] := (rfl)
theorem L8x5 : L8 5 = [1, 2, 3, 4] := (rfl)
theorem L8x6 : L8 6 = [1, 33] := (rfl)
theorem L8x7 : L8 7 = [0] := (rfl)
theorem L8x8 : L8 8 = [1] := (rfl)
theorem L8x9 : L8 9 = [1] := (rfl)
theorem L8x10 : L8 10 = [1] := (rfl)
theorem L8x11 : L8 11 = [1] := (rfl)
theorem L8x12 : L8 12 = [1] := (rfl)
theorem L8x13 : L8 13 = [5, 6] := (rfl)
theorem L8x14 : L8 14 = [0] := (rfl)
theorem fnOk8 : fnOk Try.prog 8 = true := by kernel_rfl
theorem rq8 {R : Value → AH → Nat → Prop} {env : Env} {H : AH} {nx : Nat} : retQ Try.prog Try.f8 R .ret env H nx = onV (eg env 0) R H nx := retQ_one rfl (of_decide_eq_true (by kernel_rfl))

/-! 9: milestone/shelf.New · code of 7 operations -/
def L9 : Nat → List Nat
  | 0 => [0]
  | 1 => [2]
  | _ => []
theorem L9x0 : L9 0 = [0] := (rfl)
theorem L9x1 : L9 1 = [2] := (rfl)
theorem fnOk9 : fnOk Try.prog 9 = true := by kernel_rfl
theorem rq9 {R : Value → AH → Nat → Prop} {env : Env} {H : AH} {nx : Nat} : retQ Try.prog Try.f9 R .ret env H nx = onV (eg env 2) R H nx := retQ_one rfl (of_decide_eq_true (by kernel_rfl))

theorem zero58 : zeroT Try.prog 58 = some (.agg #[(.map none), (.map none), (.slice none 0 0), (.int .i64 0), (.int .i64 0), (.bool false), (.int .i64 0)]) := by kernel_rfl
theorem bd58x0x1x3x4 (H : AH) (m0x0 : Option Nat) (m1x0 : Option Nat) (k3x0 : IntKind) (n3x0 : Int) (k4x0 : IntKind) (n4x0 : Int) : buildV Try.prog H 58 #[(0, .map m0x0), (1, .map m1x0), (3, .int k3x0 n3x0), (4, .int k4x0 n4x0)] = some (.agg #[.map m0x0, .map m1x0, (.slice none 0 0), .int k3x0 n3x0, .int k4x0 n4x0, (.bool false), (.int .i64 0)]) := build_by (pl := fun i => (#[(0, 1), (1, 1), (2, 1), (3, 1), (4, 1), (5, 1), (6, 1)] : Array (Nat × Nat))[i]?) (by kernel_rfl) zero58 (by simp [Instr.fill, cells_agg, cells_int, cells_bool, cells_slice, cells_ptr, cells_str, cells_map])
/-! 10: (*milestone/shelf.Shelf).Create · code of 26 operations -/
def L10 : Nat → List Nat
  | 0 => [0, 1]
  | 1 => [0, 1, 8]
  | 2 => [4]
  | 3 => [0, 1, 5]
  | 4 => [0, 1, 5, 12]
  | 5 => [4]
  | 6 => [0, 1, 20]
  | 7 => [4]
  | 8 => []
  | 9 => [4]
  | _ => []
theorem L10x0 : L10 0 = [0, 1] := (rfl)
theorem L10x1 : L10 1 = [0, 1, 8] := (rfl)
theorem L10x2 : L10 2 = [4] := (rfl)
theorem L10x3 : L10 3 = [0, 1, 5] := (rfl)
theorem L10x4 : L10 4 = [0, 1, 5, 12] := (rfl)
theorem L10x5 : L10 5 = [4] := (rfl)
theorem L10x6 : L10 6 = [0, 1, 20] := (rfl)
theorem L10x7 : L10 7 = [4] := (rfl)
theorem L10x8 : L10 8 = [] := (rfl)
theorem L10x9 : L10 9 = [4] := (rfl)
theorem fnOk10 : fnOk Try.prog 10 = true := by kernel_rfl
theorem rq10 {R : Value → AH → Nat → Prop} {env : Env} {H : AH} {nx : Nat} : retQ Try.prog Try.f10 R .ret env H nx = onV (eg env 4) R H nx := retQ_one rfl (of_decide_eq_true (by kernel_rfl))

theorem fa58x0 (H : AH) (b o : Nat) : fieldAV Try.prog H 58 0 (.pointer (some ⟨b, o, none⟩)) = some (.pointer (some ⟨b, o + 0, none⟩)) := fieldAV_eq 58 0 b o false 0 0 (by kernel_rfl)
theorem ld55 (H : AH) (b o : Nat) : loadV Try.prog H 55 (.pointer (some ⟨b, o, none⟩)) = H.c b o := load_one (by kernel_rfl)
theorem eqp59 (H : AH) (x y : Operand) (a : Option Addr) : binV Try.prog H .eql 59 x y (.pointer a) (.pointer none) = some (.bool a.isNone) := eq_ptr (by kernel_rfl)
theorem nep59 (H : AH) (x y : Operand) (a : Option Addr) : binV Try.prog H .neq 59 x y (.pointer a) (.pointer none) = some (.bool a.isSome) := ne_ptr (by kernel_rfl)
theorem zero62 : zeroT Try.prog 62 = some (.agg #[(.slice none 0 0), (.int .i64 0)]) := by kernel_rfl
theorem bd0x62 (H : AH) : buildV Try.prog H 62 #[] = some (.agg #[(.slice none 0 0), (.int .i64 0)]) := build_zero (by kernel_rfl) zero62
/-! 11: (*milestone/shelf.Shelf).Append · code of 42 operations -/
def L11 : Nat → List Nat
  | 0 => [0, 1, 2]
  | 1 => [0, 1, 2, 7]
  | 2 => [0, 1, 2, 7, 12]
  | 3 => [6]
  | 4 => [0, 2, 8]
  | 5 => [0, 2, 8, 20]
  | 6 => [6]
  | 7 => [2, 8, 23]
  | 8 => [6]
  | 9 => []
  | 10 => [6]
  | _ => []
theorem L11x0 : L11 0 = [0, 1, 2] := (rfl)
theorem L11x1 : L11 1 = [0, 1, 2, 7] := (rfl)
theorem L11x2 : L11 2 = [0, 1, 2, 7, 12] := (rfl)
theorem L11x3 : L11 3 = [6] := (rfl)
theorem L11x4 : L11 4 = [0, 2, 8] := (rfl)
theorem L11x5 : L11 5 = [0, 2, 8, 20] := (rfl)
theorem L11x6 : L11 6 = [6] := (rfl)
theorem L11x7 : L11 7 = [2, 8, 23] := (rfl)
theorem L11x8 : L11 8 = [6] := (rfl)
theorem L11x9 : L11 9 = [] := (rfl)
theorem L11x10 : L11 10 = [6] := (rfl)
def ord11x7 : List Nat := [0, 1, 2, 3, 4, 5, 6, 7, 8, 9, 10]
theorem fnOk11 : fnOk Try.prog 11 = true := by kernel_rfl
theorem rq11 {R : Value → AH → Nat → Prop} {env : Env} {H : AH} {nx : Nat} : retQ Try.prog Try.f11 R .ret env H nx = onV (eg env 6) R H nx := retQ_one rfl (of_decide_eq_true (by kernel_rfl))

theorem fa58x3 (H : AH) (b o : Nat) : fieldAV Try.prog H 58 3 (.pointer (some ⟨b, o, none⟩)) = some (.pointer (some ⟨b, o + 3, none⟩)) := fieldAV_eq 58 3 b o false 0 3 (by kernel_rfl)
theorem ld3 (H : AH) (b o : Nat) : loadV Try.prog H 3 (.pointer (some ⟨b, o, none⟩)) = H.c b o := load_one (by kernel_rfl)
theorem fa62x0 (H : AH) (b o : Nat) : fieldAV Try.prog H 62 0 (.pointer (some ⟨b, o, none⟩)) = some (.pointer (some ⟨b, o + 0, none⟩)) := fieldAV_eq 62 0 b o false 0 0 (by kernel_rfl)
theorem st22 (lo : Nat) (b o : Nat) (v : Value) (K : AH → Nat → Prop) (H : AH) (nx : Nat) (hv : v.oneCell' = true) : storeQ Try.prog lo 22 (.pointer (some ⟨b, o, none⟩)) v K H nx = stQ lo b o v K H nx := store_one (by kernel_rfl) hv
theorem stc22 (lo : Nat) (b o : Nat) (a : Option Addr) (n c : Nat) (K : AH → Nat → Prop) (H : AH) (nx : Nat) : storeQ Try.prog lo 22 (.pointer (some ⟨b, o, none⟩)) (.slice a n c) K H nx = stQ lo b o (.slice a n c) K H nx := store_one (by kernel_rfl) rfl
/-! 12: (*milestone/shelf.Shelf).Sync · code of 28 operations -/
def L12 : Nat → List Nat
  | 0 => [0, 1]
  | 1 => [0, 1, 5]
  | 2 => [0, 1, 5, 10]
  | 3 => [4]
  | 4 => [6]
  | 5 => [6, 19]
  | 6 => [4]
  | 7 => []
  | 8 => [4]
  | _ => []
theorem L12x0 : L12 0 = [0, 1] := (rfl)
theorem L12x1 : L12 1 = [0, 1, 5] := (rfl)
theorem L12x2 : L12 2 = [0, 1, 5, 10] := (rfl)
theorem L12x3 : L12 3 = [4] := (rfl)
theorem L12x4 : L12 4 = [6] := (rfl)
theorem L12x5 : L12 5 = [6, 19] := (rfl)
theorem L12x6 : L12 6 = [4] := (rfl)
theorem L12x7 : L12 7 = [] := (rfl)
theorem L12x8 : L12 8 = [4] := (rfl)
theorem fnOk12 : fnOk Try.prog 12 = true := by kernel_rfl
theorem rq12 {R : Value → AH → Nat → Prop} {env : Env} {H : AH} {nx : Nat} : retQ Try.prog Try.f12 R .ret env H nx = onV (eg env 4) R H nx := retQ_one rfl (of_decide_eq_true (by kernel_rfl))

theorem fa62x1 (H : AH) (b o : Nat) : fieldAV Try.prog H 62 1 (.pointer (some ⟨b, o, none⟩)) = some (.pointer (some ⟨b, o + 1, none⟩)) := fieldAV_eq 62 1 b o false 0 1 (by kernel_rfl)
theorem st3 (lo : Nat) (b o : Nat) (v : Value) (K : AH → Nat → Prop) (H : AH) (nx : Nat) (hv : v.oneCell' = true) : storeQ Try.prog lo 3 (.pointer (some ⟨b, o, none⟩)) v K H nx = stQ lo b o v K H nx := store_one (by kernel_rfl) hv
theorem stc3 (lo : Nat) (b o : Nat) (k : IntKind) (n : Int) (K : AH → Nat → Prop) (H : AH) (nx : Nat) : storeQ Try.prog lo 3 (.pointer (some ⟨b, o, none⟩)) (.int k n) K H nx = stQ lo b o (.int k n) K H nx := store_one (by kernel_rfl) rfl
/-! 13: (*milestone/shelf.Shelf).Names · code of 22 operations -/
def L13 : Nat → List Nat
  | 0 => [0]
  | 1 => [0, 3]
  | 2 => [0, 3, 7]
  | 3 => [2]
  | 4 => []
  | 5 => [2]
  | _ => []
theorem L13x0 : L13 0 = [0] := (rfl)
theorem L13x1 : L13 1 = [0, 3] := (rfl)
theorem L13x2 : L13 2 = [0, 3, 7] := (rfl)
theorem L13x3 : L13 3 = [2] := (rfl)
theorem L13x4 : L13 4 = [] := (rfl)
theorem L13x5 : L13 5 = [2] := (rfl)
theorem fnOk13 : fnOk Try.prog 13 = true := by kernel_rfl
theorem rq13 {R : Value → AH → Nat → Prop} {env : Env} {H : AH} {nx : Nat} : retQ Try.prog Try.f13 R .ret env H nx = onV (eg env 2) R H nx := retQ_one rfl (of_decide_eq_true (by kernel_rfl))

theorem fa58x1 (H : AH) (b o : Nat) : fieldAV Try.prog H 58 1 (.pointer (some ⟨b, o, none⟩)) = some (.pointer (some ⟨b, o + 1, none⟩)) := fieldAV_eq 58 1 b o false 0 1 (by kernel_rfl)
theorem st55 (lo : Nat) (b o : Nat) (v : Value) (K : AH → Nat → Prop) (H : AH) (nx : Nat) (hv : v.oneCell' = true) : storeQ Try.prog lo 55 (.pointer (some ⟨b, o, none⟩)) v K H nx = stQ lo b o v K H nx := store_one (by kernel_rfl) hv
theorem stc55 (lo : Nat) (b o : Nat) (m : Option Nat) (K : AH → Nat → Prop) (H : AH) (nx : Nat) : storeQ Try.prog lo 55 (.pointer (some ⟨b, o, none⟩)) (.map m) K H nx = stQ lo b o (.map m) K H nx := store_one (by kernel_rfl) rfl
theorem fa58x2 (H : AH) (b o : Nat) : fieldAV Try.prog H 58 2 (.pointer (some ⟨b, o, none⟩)) = some (.pointer (some ⟨b, o + 2, none⟩)) := fieldAV_eq 58 2 b o false 0 2 (by kernel_rfl)
theorem st56 (lo : Nat) (b o : Nat) (v : Value) (K : AH → Nat → Prop) (H : AH) (nx : Nat) (hv : v.oneCell' = true) : storeQ Try.prog lo 56 (.pointer (some ⟨b, o, none⟩)) v K H nx = stQ lo b o v K H nx := store_one (by kernel_rfl) hv
theorem stc56 (lo : Nat) (b o : Nat) (a : Option Addr) (n c : Nat) (K : AH → Nat → Prop) (H : AH) (nx : Nat) : storeQ Try.prog lo 56 (.pointer (some ⟨b, o, none⟩)) (.slice a n c) K H nx = stQ lo b o (.slice a n c) K H nx := store_one (by kernel_rfl) rfl
/-! 14: (*milestone/shelf.Shelf).Fall · code of 113 operations -/
def L14 : Nat → List Nat
  | 0 => [0, 1, 2, 13]
  | 1 => [0, 1, 2, 6]
  | 2 => [0, 2, 6, 31, 32, 33]
  | 3 => [0, 2, 6, 31, 32, 33, 34]
  | 4 => [0, 2, 6, 8, 31, 32, 33]
  | 5 => [0, 2, 6, 8, 31, 32, 33, 39]
  | 6 => [0, 2, 6, 8, 31, 32, 33]
  | 7 => [0, 2, 6, 8, 31, 32, 33]
  | 8 => [0, 2, 6, 31, 32, 33]
  | 9 => [0, 2, 6, 31, 32, 33]
  | 10 => [0, 2, 6, 53]
  | 11 => [0, 2, 6, 53, 55]
  | 12 => [0, 2, 6, 10, 53]
  | 13 => [0, 2, 6, 10, 11, 53]
  | 14 => [0, 2, 6, 53]
  | 15 => [0]
  | 16 => []
  | _ => []
theorem L14x0 : L14 0 = [0, 1, 2, 13] := (rfl)
theorem L14x1 : L14 1 = [0, 1, 2, 6] := (rfl)
theorem L14x2 : L14 2 = [0, 2, 6, 31, 32, 33] := (rfl)
theorem L14x3 : L14 3 = [0, 2, 6, 31, 32, 33, 34] := (rfl)
theorem L14x4 : L14 4 = [0, 2, 6, 8, 31, 32, 33] := (rfl)
theorem L14x5 : L14 5 = [0, 2, 6, 8, 31, 32, 33, 39] := (rfl)
theorem L14x6 : L14 6 = [0, 2, 6, 8, 31, 32, 33] := (rfl)
theorem L14x7 : L14 7 = [0, 2, 6, 8, 31, 32, 33] := (rfl)
theorem L14x8 : L14 8 = [0, 2, 6, 31, 32, 33] := (rfl)
theorem L14x9 : L14 9 = [0, 2, 6, 31, 32, 33] := (rfl)
theorem L14x10 : L14 10 = [0, 2, 6, 53] := (rfl)
theorem L14x11 : L14 11 = [0, 2, 6, 53, 55] := (rfl)
theorem L14x12 : L14 12 = [0, 2, 6, 10, 53] := (rfl)
theorem L14x13 : L14 13 = [0, 2, 6, 10, 11, 53] := (rfl)
theorem L14x14 : L14 14 = [0, 2, 6, 53] := (rfl)
theorem L14x15 : L14 15 = [0] := (rfl)
theorem L14x16 : L14 16 = [] := (rfl)
def ord14x2 : List Nat := [0, 1, 2, 3, 4, 5, 6, 7, 8, 9, 10, 11, 12, 13, 14]
def ord14x13 : List Nat := [0, 1, 2, 3, 4, 5, 6, 7, 8, 9, 10, 11, 12, 13, 14, 15, 16, 17, 18, 19]
theorem fnOk14 : fnOk Try.prog 14 = true := by kernel_rfl
theorem rq14 {R : Value → AH → Nat → Prop} {env : Env} {H : AH} {nx : Nat} : retQ Try.prog Try.f14 R .ret env H nx = R (.tuple #[]) H nx := retQ_none rfl

theorem eqp24 (H : AH) (x y : Operand) (a : Option Addr) : binV Try.prog H .eql 24 x y (.pointer a) (.pointer none) = some (.bool a.isNone) := eq_ptr (by kernel_rfl)
theorem nep24 (H : AH) (x y : Operand) (a : Option Addr) : binV Try.prog H .neq 24 x y (.pointer a) (.pointer none) = some (.bool a.isSome) := ne_ptr (by kernel_rfl)
theorem ld56 (H : AH) (b o : Nat) : loadV Try.prog H 56 (.pointer (some ⟨b, o, none⟩)) = H.c b o := load_one (by kernel_rfl)
-- builtin Go.Builtin.max
theorem len56 (H : AH) (ty : TypeId) (a : Option Addr) (n c : Nat) : lenV Try.prog H #[56] ty #[.slice a n c] = some (.int .i64 n) := lenV_slice 56 65 ty 3 a n c (by kernel_rfl)
-- builtin Go.Builtin.min
theorem sl56 : slT Try.prog 56 = some (65, 3) := by kernel_rfl
theorem ia56 (H : AH) (n b o c : Nat) (kk : IntKind) (i : Int) (h0 : 0 ≤ i) (h1 : i < n) : indexAV Try.prog H 56 (.slice (some ⟨b, o, none⟩) n c) (.int kk i) = some (.pointer (some ⟨b, o + i.toNat * 3, none⟩)) := indexAV_slice 56 65 n 3 b o c kk i (by kernel_rfl) h0 h1
theorem ld65 (H : AH) (b o : Nat) : loadV Try.prog H 65 (.pointer (some ⟨b, o, none⟩)) = (loadN H b o 3).map fun l => .agg l.toArray := load_agg (by kernel_rfl) (by kernel_rfl)
theorem zero65 : zeroT Try.prog 65 = some (.agg #[(.string .empty), (.pointer none), (.string .empty)]) := by kernel_rfl
theorem al65 (lo : Nat) (K : Value → AH → Nat → Prop) (H : AH) (nx : Nat) : allocQ Try.prog lo 65 K H nx = newQ 65 ((.agg #[(.string .empty), (.pointer none), (.string .empty)]) : Value).cells K H nx := alloc_new zero65
theorem st65 (lo : Nat) (b o : Nat) (v0 v1 v2 : Value) (K : AH → Nat → Prop) (H : AH) (nx : Nat) : storeQ Try.prog lo 65 (.pointer (some ⟨b, o, none⟩)) (.agg #[v0, v1, v2]) K H nx = stsQ lo b o [v0, v1, v2] K H nx := store_agg (n := 3) (by kernel_rfl) (by decide) rfl
theorem fa65x1 (H : AH) (b o : Nat) : fieldAV Try.prog H 65 1 (.pointer (some ⟨b, o, none⟩)) = some (.pointer (some ⟨b, o + 1, none⟩)) := fieldAV_eq 65 1 b o false 0 1 (by kernel_rfl)
theorem ld59 (H : AH) (b o : Nat) : loadV Try.prog H 59 (.pointer (some ⟨b, o, none⟩)) = H.c b o := load_one (by kernel_rfl)
theorem fa65x0 (H : AH) (b o : Nat) : fieldAV Try.prog H 65 0 (.pointer (some ⟨b, o, none⟩)) = some (.pointer (some ⟨b, o + 0, none⟩)) := fieldAV_eq 65 0 b o false 0 0 (by kernel_rfl)
-- builtin Go.Builtin.delete
theorem fa65x2 (H : AH) (b o : Nat) : fieldAV Try.prog H 65 2 (.pointer (some ⟨b, o, none⟩)) = some (.pointer (some ⟨b, o + 2, none⟩)) := fieldAV_eq 65 2 b o false 0 2 (by kernel_rfl)
theorem fa58x5 (H : AH) (b o : Nat) : fieldAV Try.prog H 58 5 (.pointer (some ⟨b, o, none⟩)) = some (.pointer (some ⟨b, o + 5, none⟩)) := fieldAV_eq 58 5 b o false 0 5 (by kernel_rfl)
theorem st4 (lo : Nat) (b o : Nat) (v : Value) (K : AH → Nat → Prop) (H : AH) (nx : Nat) (hv : v.oneCell' = true) : storeQ Try.prog lo 4 (.pointer (some ⟨b, o, none⟩)) v K H nx = stQ lo b o v K H nx := store_one (by kernel_rfl) hv
theorem stc4 (lo : Nat) (b o : Nat) (x : Bool) (K : AH → Nat → Prop) (H : AH) (nx : Nat) : storeQ Try.prog lo 4 (.pointer (some ⟨b, o, none⟩)) (.bool x) K H nx = stQ lo b o (.bool x) K H nx := store_one (by kernel_rfl) rfl
theorem fa58x4 (H : AH) (b o : Nat) : fieldAV Try.prog H 58 4 (.pointer (some ⟨b, o, none⟩)) = some (.pointer (some ⟨b, o + 4, none⟩)) := fieldAV_eq 58 4 b o false 0 4 (by kernel_rfl)
/-! 15: (*milestone/shelf.Shelf).Read · code of 35 operations -/
def L15 : Nat → List Nat
  | 0 => [0, 1]
  | 1 => [0, 1, 6]
  | 2 => [4, 5]
  | 3 => [0, 1, 15]
  | 4 => [4, 5]
  | 5 => [4, 5]
  | _ => []
theorem L15x0 : L15 0 = [0, 1] := (rfl)
theorem L15x1 : L15 1 = [0, 1, 6] := (rfl)
theorem L15x2 : L15 2 = [4, 5] := (rfl)
theorem L15x3 : L15 3 = [0, 1, 15] := (rfl)
theorem L15x4 : L15 4 = [4, 5] := (rfl)
theorem L15x5 : L15 5 = [4, 5] := (rfl)
theorem fnOk15 : fnOk Try.prog 15 = true := by kernel_rfl
theorem rq15 {R : Value → AH → Nat → Prop} {env : Env} {H : AH} {nx : Nat} : retQ Try.prog Try.f15 R .ret env H nx = onA (eg env 4) (fun v => onA (eg env 5) fun u => R (.tuple #[v, u]) H nx) := retQ_two rfl (of_decide_eq_true (by kernel_rfl)) (of_decide_eq_true (by kernel_rfl))

theorem ld4 (H : AH) (b o : Nat) : loadV Try.prog H 4 (.pointer (some ⟨b, o, none⟩)) = H.c b o := load_one (by kernel_rfl)
/-! 16: (*milestone/shelf.Shelf).Rename · code of 53 operations -/
def L16 : Nat → List Nat
  | 0 => [0, 1, 2]
  | 1 => [0, 1, 2, 11]
  | 2 => [6]
  | 3 => [0, 1, 2, 7]
  | 4 => [0, 1, 2, 7, 15]
  | 5 => [6]
  | 6 => [0, 1, 2, 8]
  | 7 => [0, 1, 2, 8, 24]
  | 8 => [6]
  | 9 => [0, 1, 2, 8, 27]
  | 10 => [0, 1, 2, 8]
  | 11 => [0, 1, 2, 8]
  | 12 => []
  | 13 => [6]
  | _ => []
theorem L16x0 : L16 0 = [0, 1, 2] := (rfl)
theorem L16x1 : L16 1 = [0, 1, 2, 11] := (rfl)
theorem L16x2 : L16 2 = [6] := (rfl)
theorem L16x3 : L16 3 = [0, 1, 2, 7] := (rfl)
theorem L16x4 : L16 4 = [0, 1, 2, 7, 15] := (rfl)
theorem L16x5 : L16 5 = [6] := (rfl)
theorem L16x6 : L16 6 = [0, 1, 2, 8] := (rfl)
theorem L16x7 : L16 7 = [0, 1, 2, 8, 24] := (rfl)
theorem L16x8 : L16 8 = [6] := (rfl)
theorem L16x9 : L16 9 = [0, 1, 2, 8, 27] := (rfl)
theorem L16x10 : L16 10 = [0, 1, 2, 8] := (rfl)
theorem L16x11 : L16 11 = [0, 1, 2, 8] := (rfl)
theorem L16x12 : L16 12 = [] := (rfl)
theorem L16x13 : L16 13 = [6] := (rfl)
theorem fnOk16 : fnOk Try.prog 16 = true := by kernel_rfl
theorem rq16 {R : Value → AH → Nat → Prop} {env : Env} {H : AH} {nx : Nat} : retQ Try.prog Try.f16 R .ret env H nx = onV (eg env 6) R H nx := retQ_one rfl (of_decide_eq_true (by kernel_rfl))

theorem bd3x65 (H : AH) (a b c : Value) (ha : a.oneCell' = true) (hb : b.oneCell' = true) (hc : c.oneCell' = true) : buildV Try.prog H 65 #[(0, a), (1, b), (2, c)] = some (.agg #[a, b, c]) := build3 (by kernel_rfl) zero65 rfl ha hb hc
theorem by65 : bytesT Try.prog 65 = some 40 := by kernel_rfl
/-! 17: (*milestone/shelf.Shelf).Arm · code of 8 operations -/
def L17 : Nat → List Nat
  | 0 => [0, 1, 5]
  | 1 => []
  | _ => []
theorem L17x0 : L17 0 = [0, 1, 5] := (rfl)
theorem L17x1 : L17 1 = [] := (rfl)
theorem fnOk17 : fnOk Try.prog 17 = true := by kernel_rfl
theorem rq17 {R : Value → AH → Nat → Prop} {env : Env} {H : AH} {nx : Nat} : retQ Try.prog Try.f17 R .ret env H nx = R (.tuple #[]) H nx := retQ_none rfl

/-! 18: (*milestone/shelf.Shelf).Room · code of 7 operations -/
def L18 : Nat → List Nat
  | 0 => [0, 1, 5]
  | 1 => []
  | _ => []
theorem L18x0 : L18 0 = [0, 1, 5] := (rfl)
theorem L18x1 : L18 1 = [] := (rfl)
theorem fnOk18 : fnOk Try.prog 18 = true := by kernel_rfl
theorem rq18 {R : Value → AH → Nat → Prop} {env : Env} {H : AH} {nx : Nat} : retQ Try.prog Try.f18 R .ret env H nx = R (.tuple #[]) H nx := retQ_none rfl

/-! 19: milestone/shelf.Name · code of 16 operations -/
def L19 : Nat → List Nat
  | 0 => [0]
  | 1 => [0, 3]
  | 2 => [2]
  | _ => []
theorem L19x0 : L19 0 = [0] := (rfl)
theorem L19x1 : L19 1 = [0, 3] := (rfl)
theorem L19x2 : L19 2 = [2] := (rfl)
theorem fnOk19 : fnOk Try.prog 19 = true := by kernel_rfl
theorem rq19 {R : Value → AH → Nat → Prop} {env : Env} {H : AH} {nx : Nat} : retQ Try.prog Try.f19 R .ret env H nx = onV (eg env 2) R H nx := retQ_one rfl (of_decide_eq_true (by kernel_rfl))

/-! 20: milestone/milestoneref05.Right · code of 48 operations -/
def L20 : Nat → List Nat
  | 0 => [0]
  | 1 => [0, 3]
  | 2 => [0, 3, 7]
  | 4 => [0, 3, 38]
  | 5 => [2]
  | 3 => [0, 3]
  | 6 => [2]
  | _ => []
theorem L20x0 : L20 0 = [0] := (rfl)
theorem L20x1 : L20 1 = [0, 3] := (rfl)
theorem L20x2 : L20 2 = [0, 3, 7] := (rfl)
theorem L20x4 : L20 4 = [0, 3, 38] := (rfl)
theorem L20x5 : L20 5 = [2] := (rfl)
theorem L20x3 : L20 3 = [0, 3] := (rfl)
theorem L20x6 : L20 6 = [2] := (rfl)
theorem fnOk20 : fnOk Try.prog 20 = true := by kernel_rfl
theorem rq20 {R : Value → AH → Nat → Prop} {env : Env} {H : AH} {nx : Nat} : retQ Try.prog Try.f20 R .ret env H nx = onV (eg env 2) R H nx := retQ_one rfl (of_decide_eq_true (by kernel_rfl))

theorem ix9 (H : AH) (s : ByteArray) (kk : IntKind) (i : Int) (h0 : 0 ≤ i) (h1 : i < s.size) : indexV Try.prog H 9 (.string s) (.int kk i) = some (.int .u8 (s.data[i.toNat]!).toNat) := index_str (by kernel_rfl) h0 h1
/-! 21: (*milestone/shelf.Shelf).List · code of 17 operations -/
def L21 : Nat → List Nat
  | 0 => [0]
  | 1 => [0, 10]
  | 2 => [2]
  | 3 => [2]
  | _ => []
theorem L21x0 : L21 0 = [0] := (rfl)
theorem L21x1 : L21 1 = [0, 10] := (rfl)
theorem L21x2 : L21 2 = [2] := (rfl)
theorem L21x3 : L21 3 = [2] := (rfl)
theorem fnOk21 : fnOk Try.prog 21 = true := by kernel_rfl
theorem rq21 {R : Value → AH → Nat → Prop} {env : Env} {H : AH} {nx : Nat} : retQ Try.prog Try.f21 R .ret env H nx = onV (eg env 2) R H nx := retQ_one rfl (of_decide_eq_true (by kernel_rfl))

/-! 22: (*milestone/shelf.Shelf).Used · code of 45 operations -/
def L22 : Nat → List Nat
  | 0 => [0]
  | 1 => [0, 11]
  | 2 => [2]
  | 3 => [0, 3]
  | 4 => [0, 3, 4]
  | 5 => [0, 4, 5]
  | 6 => [0, 4, 5, 19]
  | 7 => [0, 4, 5, 19, 21]
  | 8 => [0, 4, 5, 7, 19]
  | 9 => [0, 4, 5, 19]
  | 10 => [4, 5, 30, 31, 32]
  | 11 => [4, 5, 30, 31, 32, 33]
  | 12 => [4, 5, 9, 30, 31, 32]
  | 13 => [4, 5, 30, 31, 32]
  | 14 => [4, 5, 30, 31, 32]
  | 15 => [2]
  | _ => []
theorem L22x0 : L22 0 = [0] := (rfl)
theorem L22x1 : L22 1 = [0, 11] := (rfl)
theorem L22x2 : L22 2 = [2] := (rfl)
theorem L22x3 : L22 3 = [0, 3] := (rfl)
theorem L22x4 : L22 4 = [0, 3, 4] := (rfl)
theorem L22x5 : L22 5 = [0, 4, 5] := (rfl)
theorem L22x6 : L22 6 = [0, 4, 5, 19] := (rfl)
theorem L22x7 : L22 7 = [0, 4, 5, 19, 21] := (rfl)
theorem L22x8 : L22 8 = [0, 4, 5, 7, 19] := (rfl)
theorem L22x9 : L22 9 = [0, 4, 5, 19] := (rfl)
theorem L22x10 : L22 10 = [4, 5, 30, 31, 32] := (rfl)
theorem L22x11 : L22 11 = [4, 5, 30, 31, 32, 33] := (rfl)
theorem L22x12 : L22 12 = [4, 5, 9, 30, 31, 32] := (rfl)
theorem L22x13 : L22 13 = [4, 5, 30, 31, 32] := (rfl)
theorem L22x14 : L22 14 = [4, 5, 30, 31, 32] := (rfl)
theorem L22x15 : L22 15 = [2] := (rfl)
theorem fnOk22 : fnOk Try.prog 22 = true := by kernel_rfl
theorem rq22 {R : Value → AH → Nat → Prop} {env : Env} {H : AH} {nx : Nat} : retQ Try.prog Try.f22 R .ret env H nx = onV (eg env 2) R H nx := retQ_one rfl (of_decide_eq_true (by kernel_rfl))

theorem zero73 : zeroT Try.prog 73 = some (.map none) := by kernel_rfl
theorem al73 (lo : Nat) (K : Value → AH → Nat → Prop) (H : AH) (nx : Nat) : allocQ Try.prog lo 73 K H nx = newQ 73 ((.map none) : Value).cells K H nx := alloc_new zero73
theorem st73 (lo : Nat) (b o : Nat) (v : Value) (K : AH → Nat → Prop) (H : AH) (nx : Nat) (hv : v.oneCell' = true) : storeQ Try.prog lo 73 (.pointer (some ⟨b, o, none⟩)) v K H nx = stQ lo b o v K H nx := store_one (by kernel_rfl) hv
theorem stc73 (lo : Nat) (b o : Nat) (m : Option Nat) (K : AH → Nat → Prop) (H : AH) (nx : Nat) : storeQ Try.prog lo 73 (.pointer (some ⟨b, o, none⟩)) (.map m) K H nx = stQ lo b o (.map m) K H nx := store_one (by kernel_rfl) rfl
theorem zero3 : zeroT Try.prog 3 = some (.int .i64 0) := by kernel_rfl
theorem al3 (lo : Nat) (K : Value → AH → Nat → Prop) (H : AH) (nx : Nat) : allocQ Try.prog lo 3 K H nx = newQ 3 ((.int .i64 0) : Value).cells K H nx := alloc_new zero3
/-! 23: (*milestone/shelf.Shelf).Done · code of 9 operations -/
def L23 : Nat → List Nat
  | 0 => [0]
  | 1 => [0, 4]
  | 2 => [2]
  | 3 => [2]
  | _ => []
theorem L23x0 : L23 0 = [0] := (rfl)
theorem L23x1 : L23 1 = [0, 4] := (rfl)
theorem L23x2 : L23 2 = [2] := (rfl)
theorem L23x3 : L23 3 = [2] := (rfl)
theorem fnOk23 : fnOk Try.prog 23 = true := by kernel_rfl
theorem rq23 {R : Value → AH → Nat → Prop} {env : Env} {H : AH} {nx : Nat} : retQ Try.prog Try.f23 R .ret env H nx = onV (eg env 2) R H nx := retQ_one rfl (of_decide_eq_true (by kernel_rfl))

theorem fa58x6 (H : AH) (b o : Nat) : fieldAV Try.prog H 58 6 (.pointer (some ⟨b, o, none⟩)) = some (.pointer (some ⟨b, o + 6, none⟩)) := fieldAV_eq 58 6 b o false 0 6 (by kernel_rfl)
/-! 24: (*milestone/shelf.Shelf).Moves · code of 10 operations -/
def L24 : Nat → List Nat
  | 0 => [0]
  | 1 => [0, 4]
  | 2 => [2]
  | 3 => [2]
  | _ => []
theorem L24x0 : L24 0 = [0] := (rfl)
theorem L24x1 : L24 1 = [0, 4] := (rfl)
theorem L24x2 : L24 2 = [2] := (rfl)
theorem L24x3 : L24 3 = [2] := (rfl)
theorem fnOk24 : fnOk Try.prog 24 = true := by kernel_rfl
theorem rq24 {R : Value → AH → Nat → Prop} {env : Env} {H : AH} {nx : Nat} : retQ Try.prog Try.f24 R .ret env H nx = onV (eg env 2) R H nx := retQ_one rfl (of_decide_eq_true (by kernel_rfl))

/-! 25: (*milestone/shelf.Shelf).On · code of 11 operations -/
def L25 : Nat → List Nat
  | 0 => [0]
  | 1 => [2]
  | _ => []
theorem L25x0 : L25 0 = [0] := (rfl)
theorem L25x1 : L25 1 = [2] := (rfl)
theorem fnOk25 : fnOk Try.prog 25 = true := by kernel_rfl
theorem rq25 {R : Value → AH → Nat → Prop} {env : Env} {H : AH} {nx : Nat} : retQ Try.prog Try.f25 R .ret env H nx = onV (eg env 2) R H nx := retQ_one rfl (of_decide_eq_true (by kernel_rfl))

/-! 26: milestone/milestoneref05.New · code of 5 operations -/
def L26 : Nat → List Nat
  | 0 => [0, 2]
  | 1 => [2]
  | _ => []
theorem L26x0 : L26 0 = [0, 2] := (rfl)
theorem L26x1 : L26 1 = [2] := (rfl)
theorem fnOk26 : fnOk Try.prog 26 = true := by kernel_rfl
theorem rq26 {R : Value → AH → Nat → Prop} {env : Env} {H : AH} {nx : Nat} : retQ Try.prog Try.f26 R .ret env H nx = onA (eg env 2) (fun a => onV (loadV Try.prog H 47 a) R H nx) := retQ_cell rfl (of_decide_eq_true (by kernel_rfl))

theorem zero44 : zeroT Try.prog 44 = some (.slice none 0 0) := by kernel_rfl
theorem sl45 : slT Try.prog 45 = some (44, 1) := by kernel_rfl
theorem bd47x3x4x2 (H : AH) (k3x0 : IntKind) (n3x0 : Int) (k4x0 : IntKind) (n4x0 : Int) (a2x0 : Option Addr) (n2x0 c2x0 : Nat) : buildV Try.prog H 47 #[(3, .int k3x0 n3x0), (4, .int k4x0 n4x0), (2, .slice a2x0 n2x0 c2x0)] = some (.agg #[(.slice none 0 0), (.slice none 0 0), .slice a2x0 n2x0 c2x0, .int k3x0 n3x0, .int k4x0 n4x0, (.bool false), (.int .i64 0)]) := build_by (pl := fun i => (#[(0, 1), (1, 1), (2, 1), (3, 1), (4, 1), (5, 1), (6, 1)] : Array (Nat × Nat))[i]?) (by kernel_rfl) zero47 (by simp [Instr.fill, cells_agg, cells_int, cells_bool, cells_slice, cells_ptr, cells_str, cells_map])
/-! 27: milestone/milestonelaw05.do · code of 197 operations -/
def L27 : Nat → List Nat
  | 0 => [0, 4, 5, 6]
  | 1 => [0, 4, 5, 6, 8]
  | 2 => [0, 4, 5, 6, 8, 9]
  | 3 => [0, 4, 5, 6, 8, 9, 12]
  | 6 => [0, 4, 5, 6, 8, 9, 12, 27]
  | 7 => [0, 4, 5, 6, 8, 9, 12, 27]
  | 8 => [4, 5, 6, 8]
  | 9 => [4, 6, 8, 9]
  | 10 => [0, 4, 5, 6, 8, 9, 12, 43]
  | 11 => [0, 4, 5, 6, 8, 9, 12, 43]
  | 12 => [4, 5, 6, 8]
  | 13 => [4, 6, 8, 9]
  | 14 => [0, 4, 5, 6, 8, 9, 12, 63]
  | 15 => [4, 5, 6, 8]
  | 16 => [4, 6, 8, 9]
  | 17 => [0, 4, 5, 6, 8, 9, 12, 78]
  | 18 => [4, 6, 8]
  | 19 => [4, 6, 8, 9]
  | 20 => [0, 4, 5, 6, 8, 9, 12, 87]
  | 21 => [4, 5, 6, 8]
  | 22 => [4, 6, 8, 9]
  | 23 => [0, 4, 5, 6, 8, 9, 12, 108]
  | 24 => [4, 5, 6, 8]
  | 25 => [4, 6, 8, 9]
  | 26 => [0, 4, 5, 6, 8, 9, 12, 123]
  | 27 => [4, 5, 6, 8]
  | 28 => [4, 6, 8, 9]
  | 29 => [0, 4, 5, 6, 8, 9, 12, 142]
  | 30 => [4, 5, 6, 8, 9]
  | 31 => [4, 6, 8, 9]
  | 32 => [4, 6, 8, 9, 155]
  | 33 => [4, 6, 8, 9]
  | 34 => [0, 4, 5, 6, 8, 9, 157]
  | 35 => [4, 5, 6, 8, 9]
  | 36 => [4, 6, 8, 9]
  | 4 => [4, 5, 6, 8, 9]
  | 5 => [4, 6, 8, 9]
  | 37 => [6, 7]
  | _ => []
theorem L27x0 : L27 0 = [0, 4, 5, 6] := (rfl)
theorem L27x1 : L27 1 = [0, 4, 5, 6, 8] := (rfl)
theorem L27x2 : L27 2 = [0, 4, 5, 6, 8, 9] := (rfl)
theorem L27x3 : L27 3 = [0, 4, 5, 6, 8, 9, 12] := (rfl)
theorem L27x6 : L27 6 = [0, 4, 5, 6, 8, 9, 12, 27] := (rfl)
theorem L27x7 : L27 7 = [0, 4, 5, 6, 8, 9, 12, 27] := (rfl)
theorem L27x8 : L27 8 = [4, 5, 6, 8] := (rfl)
theorem L27x9 : L27 9 = [4, 6, 8, 9] := (rfl)
theorem L27x10 : L27 10 = [0, 4, 5, 6, 8, 9, 12, 43] := (rfl)
theorem L27x11 : L27 11 = [0, 4, 5, 6, 8, 9, 12, 43] := (rfl)
theorem L27x12 : L27 12 = [4, 5, 6, 8] := (rfl)
theorem L27x13 : L27 13 = [4, 6, 8, 9] := (rfl)
theorem L27x14 : L27 14 = [0, 4, 5, 6, 8, 9, 12, 63] := (rfl)
theorem L27x15 : L27 15 = [4, 5, 6, 8] := (rfl)
theorem L27x16 : L27 16 = [4, 6, 8, 9] := (rfl)
theorem L27x17 : L27 17 = [0, 4, 5, 6, 8, 9, 12, 78] := (rfl)
theorem L27x18 : L27 18 = [4, 6, 8] := (rfl)
theorem L27x19 : L27 19 = [4, 6, 8, 9] := (rfl)
theorem L27x20 : L27 20 = [0, 4, 5, 6, 8, 9, 12, 87] := (rfl)
theorem L27x21 : L27 21 = [4, 5, 6, 8] := (rfl)
theorem L27x22 : L27 22 = [4, 6, 8, 9] := (rfl)
theorem L27x23 : L27 23 = [0, 4, 5, 6, 8, 9, 12, 108] := (rfl)
theorem L27x24 : L27 24 = [4, 5, 6, 8] := (rfl)
theorem L27x25 : L27 25 = [4, 6, 8, 9] := (rfl)
theorem L27x26 : L27 26 = [0, 4, 5, 6, 8, 9, 12, 123] := (rfl)
theorem L27x27 : L27 27 = [4, 5, 6, 8] := (rfl)
theorem L27x28 : L27 28 = [4, 6, 8, 9] := (rfl)
theorem L27x29 : L27 29 = [0, 4, 5, 6, 8, 9, 12, 142] := (rfl)
theorem L27x30 : L27 30 = [4, 5, 6, 8, 9] := (rfl)
theorem L27x31 : L27 31 = [4, 6, 8, 9] := (rfl)
theorem L27x32 : L27 32 = [4, 6, 8, 9, 155] := (rfl)
theorem L27x33 : L27 33 = [4, 6, 8, 9] := (rfl)
theorem L27x34 : L27 34 = [0, 4, 5, 6, 8, 9, 157] := (rfl)
theorem L27x35 : L27 35 = [4, 5, 6, 8, 9] := (rfl)
theorem L27x36 : L27 36 = [4, 6, 8, 9] := (rfl)
theorem L27x4 : L27 4 = [4, 5, 6, 8, 9] := (rfl)
theorem L27x5 : L27 5 = [4, 6, 8, 9] := (rfl)
theorem L27x37 : L27 37 = [6, 7] := (rfl)
def ord27x9 : List Nat := [0, 1, 2, 3, 4, 5, 6, 7, 8, 9]
def ord27x12 : List Nat := [0, 1, 2, 4, 5, 3, 6, 7]
def ord27x13 : List Nat := [0, 1, 2, 4, 5, 3, 6, 7, 8, 9, 10, 11]
def ord27x16 : List Nat := [0, 1, 2, 3, 4, 5, 6, 7, 8, 9]
def ord27x21 : List Nat := [0, 1, 2, 4, 5, 3, 6, 7, 8]
def ord27x22 : List Nat := [0, 1, 2, 4, 5, 3, 6, 7, 8, 9, 10, 11, 12]
def ord27x25 : List Nat := [0, 1, 2, 3, 4, 5, 6, 7, 8, 9]
def ord27x27 : List Nat := [0, 1, 2, 4, 5, 3, 6, 7]
def ord27x28 : List Nat := [0, 1, 2, 4, 5, 3, 6, 7, 8, 9, 10, 11]
theorem fnOk27 : fnOk Try.prog 27 = true := by kernel_rfl
theorem rq27 {R : Value → AH → Nat → Prop} {env : Env} {H : AH} {nx : Nat} : retQ Try.prog Try.f27 R .ret env H nx = onA (eg env 6) (fun a => onA (loadV Try.prog H 47 a) fun v => onA (eg env 7) fun u => R (.tuple #[v, u]) H nx) := retQ_cell_tmp rfl (of_decide_eq_true (by kernel_rfl)) (of_decide_eq_true (by kernel_rfl))

theorem fa50x1 (H : AH) (b o : Nat) : fieldAV Try.prog H 50 1 (.pointer (some ⟨b, o, none⟩)) = some (.pointer (some ⟨b, o + 1, none⟩)) := fieldAV_eq 50 1 b o false 0 1 (by kernel_rfl)
theorem fa50x2 (H : AH) (b o : Nat) : fieldAV Try.prog H 50 2 (.pointer (some ⟨b, o, none⟩)) = some (.pointer (some ⟨b, o + 2, none⟩)) := fieldAV_eq 50 2 b o false 0 2 (by kernel_rfl)
theorem fa50x3 (H : AH) (b o : Nat) : fieldAV Try.prog H 50 3 (.pointer (some ⟨b, o, none⟩)) = some (.pointer (some ⟨b, o + 3, none⟩)) := fieldAV_eq 50 3 b o false 0 3 (by kernel_rfl)
theorem fa47x4 (H : AH) (b o : Nat) : fieldAV Try.prog H 47 4 (.pointer (some ⟨b, o, none⟩)) = some (.pointer (some ⟨b, o + 4, none⟩)) := fieldAV_eq 47 4 b o false 0 4 (by kernel_rfl)
theorem fa47x3 (H : AH) (b o : Nat) : fieldAV Try.prog H 47 3 (.pointer (some ⟨b, o, none⟩)) = some (.pointer (some ⟨b, o + 3, none⟩)) := fieldAV_eq 47 3 b o false 0 3 (by kernel_rfl)
/-! 28: (*milestone/shelf.Shelf).Delete · code of 20 operations -/
def L28 : Nat → List Nat
  | 0 => [0, 1]
  | 1 => [0, 1, 5]
  | 2 => [0, 1, 5, 9]
  | 3 => [4]
  | 4 => [0, 1, 17]
  | 5 => [4]
  | 6 => []
  | 7 => [4]
  | _ => []
theorem L28x0 : L28 0 = [0, 1] := (rfl)
theorem L28x1 : L28 1 = [0, 1, 5] := (rfl)
theorem L28x2 : L28 2 = [0, 1, 5, 9] := (rfl)
theorem L28x3 : L28 3 = [4] := (rfl)
theorem L28x4 : L28 4 = [0, 1, 17] := (rfl)
theorem L28x5 : L28 5 = [4] := (rfl)
theorem L28x6 : L28 6 = [] := (rfl)
theorem L28x7 : L28 7 = [4] := (rfl)
theorem fnOk28 : fnOk Try.prog 28 = true := by kernel_rfl
theorem rq28 {R : Value → AH → Nat → Prop} {env : Env} {H : AH} {nx : Nat} : retQ Try.prog Try.f28 R .ret env H nx = onV (eg env 4) R H nx := retQ_one rfl (of_decide_eq_true (by kernel_rfl))

/-! 29: (*milestone/shelf.Shelf).act · code of 41 operations -/
def L29 : Nat → List Nat
  | 0 => [0]
  | 1 => [0, 3]
  | 2 => [2]
  | 3 => [0, 12]
  | 4 => []
  | 5 => [2]
  | 6 => [0]
  | 7 => []
  | 8 => [2]
  | _ => []
theorem L29x0 : L29 0 = [0] := (rfl)
theorem L29x1 : L29 1 = [0, 3] := (rfl)
theorem L29x2 : L29 2 = [2] := (rfl)
theorem L29x3 : L29 3 = [0, 12] := (rfl)
theorem L29x4 : L29 4 = [] := (rfl)
theorem L29x5 : L29 5 = [2] := (rfl)
theorem L29x6 : L29 6 = [0] := (rfl)
theorem L29x7 : L29 7 = [] := (rfl)
theorem L29x8 : L29 8 = [2] := (rfl)
theorem fnOk29 : fnOk Try.prog 29 = true := by kernel_rfl
theorem rq29 {R : Value → AH → Nat → Prop} {env : Env} {H : AH} {nx : Nat} : retQ Try.prog Try.f29 R .ret env H nx = onV (eg env 2) R H nx := retQ_one rfl (of_decide_eq_true (by kernel_rfl))

/-! 30: (*milestone/shelf.Shelf).set · code of 28 operations -/
def L30 : Nat → List Nat
  | 0 => [0, 1, 2]
  | 1 => [0, 1, 2, 19]
  | 2 => []
  | 3 => []
  | _ => []
theorem L30x0 : L30 0 = [0, 1, 2] := (rfl)
theorem L30x1 : L30 1 = [0, 1, 2, 19] := (rfl)
theorem L30x2 : L30 2 = [] := (rfl)
theorem L30x3 : L30 3 = [] := (rfl)
theorem fnOk30 : fnOk Try.prog 30 = true := by kernel_rfl
theorem rq30 {R : Value → AH → Nat → Prop} {env : Env} {H : AH} {nx : Nat} : retQ Try.prog Try.f30 R .ret env H nx = R (.tuple #[]) H nx := retQ_none rfl

theorem bd65x0x1 (H : AH) (s0x0 : ByteArray) (a1x0 : Option Addr) : buildV Try.prog H 65 #[(0, .string s0x0), (1, .pointer a1x0)] = some (.agg #[.string s0x0, .pointer a1x0, (.string .empty)]) := build_by (pl := fun i => (#[(0, 1), (1, 1), (2, 1)] : Array (Nat × Nat))[i]?) (by kernel_rfl) zero65 (by simp [Instr.fill, cells_agg, cells_int, cells_bool, cells_slice, cells_ptr, cells_str, cells_map])
/-! 31: maps.Clone[map[string]*milestone/shelf.book,string,*milestone/shelf.book] · code of 9 operations -/
def L31 : Nat → List Nat
  | 0 => [0]
  | 1 => [0, 4]
  | 2 => [2]
  | 3 => [2]
  | _ => []
theorem L31x0 : L31 0 = [0] := (rfl)
theorem L31x1 : L31 1 = [0, 4] := (rfl)
theorem L31x2 : L31 2 = [2] := (rfl)
theorem L31x3 : L31 3 = [2] := (rfl)
theorem fnOk31 : fnOk Try.prog 31 = true := by kernel_rfl
theorem rq31 {R : Value → AH → Nat → Prop} {env : Env} {H : AH} {nx : Nat} : retQ Try.prog Try.f31 R .ret env H nx = onV (eg env 2) R H nx := retQ_one rfl (of_decide_eq_true (by kernel_rfl))

/-! 32: slices.Clone[[]byte,byte] · code of 8 operations -/
def L32 : Nat → List Nat
  | 0 => [0]
  | 1 => [0, 4]
  | 2 => [2]
  | 3 => [2]
  | _ => []
theorem L32x0 : L32 0 = [0] := (rfl)
theorem L32x1 : L32 1 = [0, 4] := (rfl)
theorem L32x2 : L32 2 = [2] := (rfl)
theorem L32x3 : L32 3 = [2] := (rfl)
theorem fnOk32 : fnOk Try.prog 32 = true := by kernel_rfl
theorem rq32 {R : Value → AH → Nat → Prop} {env : Env} {H : AH} {nx : Nat} : retQ Try.prog Try.f32 R .ret env H nx = onV (eg env 2) R H nx := retQ_one rfl (of_decide_eq_true (by kernel_rfl))

theorem eqs22 (H : AH) (x y : Operand) (a : Option Addr) (n c : Nat) : binV Try.prog H .eql 22 x y (.slice a n c) (.slice none 0 0) = some (.bool a.isNone) := eq_sl (by kernel_rfl)
theorem nes22 (H : AH) (x y : Operand) (a : Option Addr) (n c : Nat) : binV Try.prog H .neq 22 x y (.slice a n c) (.slice none 0 0) = some (.bool a.isSome) := ne_sl (by kernel_rfl)
/-! 33: milestone/shelf.Name$1 · code of 21 operations -/
def L33 : Nat → List Nat
  | 0 => [0]
  | 1 => [2]
  | _ => []
theorem L33x0 : L33 0 = [0] := (rfl)
theorem L33x1 : L33 1 = [2] := (rfl)
theorem fnOk33 : fnOk Try.prog 33 = true := by kernel_rfl
theorem rq33 {R : Value → AH → Nat → Prop} {env : Env} {H : AH} {nx : Nat} : retQ Try.prog Try.f33 R .ret env H nx = onV (eg env 2) R H nx := retQ_one rfl (of_decide_eq_true (by kernel_rfl))

/-! 34: strings.ContainsFunc · code of 6 operations -/
def L34 : Nat → List Nat
  | 0 => [0, 1]
  | 1 => [4]
  | _ => []
theorem L34x0 : L34 0 = [0, 1] := (rfl)
theorem L34x1 : L34 1 = [4] := (rfl)
theorem fnOk34 : fnOk Try.prog 34 = true := by kernel_rfl
theorem rq34 {R : Value → AH → Nat → Prop} {env : Env} {H : AH} {nx : Nat} : retQ Try.prog Try.f34 R .ret env H nx = onV (eg env 4) R H nx := retQ_one rfl (of_decide_eq_true (by kernel_rfl))

/-! 35: slices.Sorted[string] · code of 8 operations -/
def L35 : Nat → List Nat
  | 0 => [0]
  | 1 => [3]
  | 2 => [3]
  | 3 => [2]
  | _ => []
theorem L35x0 : L35 0 = [0] := (rfl)
theorem L35x1 : L35 1 = [3] := (rfl)
theorem L35x2 : L35 2 = [3] := (rfl)
theorem L35x3 : L35 3 = [2] := (rfl)
theorem fnOk35 : fnOk Try.prog 35 = true := by kernel_rfl
theorem rq35 {R : Value → AH → Nat → Prop} {env : Env} {H : AH} {nx : Nat} : retQ Try.prog Try.f35 R .ret env H nx = onV (eg env 2) R H nx := retQ_one rfl (of_decide_eq_true (by kernel_rfl))

/-! 36: maps.Keys[map[string]*milestone/shelf.book,string,*milestone/shelf.book] · code of 4 operations -/
def L36 : Nat → List Nat
  | 0 => [1]
  | 1 => [2]
  | _ => []
theorem L36x0 : L36 0 = [1] := (rfl)
theorem L36x1 : L36 1 = [2] := (rfl)
theorem fnOk36 : fnOk Try.prog 36 = true := by kernel_rfl
theorem rq36 {R : Value → AH → Nat → Prop} {env : Env} {H : AH} {nx : Nat} : retQ Try.prog Try.f36 R .ret env H nx = onV (eg env 2) R H nx := retQ_one rfl (of_decide_eq_true (by kernel_rfl))

/-! 37: (*milestone/shelf.Shelf).Used$1 · code of 15 operations -/
def L37 : Nat → List Nat
  | 0 => [0, 1, 2, 7]
  | 1 => [0, 2]
  | 2 => []
  | _ => []
theorem L37x0 : L37 0 = [0, 1, 2, 7] := (rfl)
theorem L37x1 : L37 1 = [0, 2] := (rfl)
theorem L37x2 : L37 2 = [] := (rfl)
def ord37x2 : List Nat := [0, 1, 2, 3, 4, 5, 6, 7]
theorem fnOk37 : fnOk Try.prog 37 = true := by kernel_rfl
theorem rq37 {R : Value → AH → Nat → Prop} {env : Env} {H : AH} {nx : Nat} : retQ Try.prog Try.f37 R .ret env H nx = R (.tuple #[]) H nx := retQ_none rfl

theorem ld73 (H : AH) (b o : Nat) : loadV Try.prog H 73 (.pointer (some ⟨b, o, none⟩)) = H.c b o := load_one (by kernel_rfl)
/-! 38: milestone/milestonelaw05.name · code of 7 operations -/
def L38 : Nat → List Nat
  | 0 => [0]
  | 1 => [2]
  | _ => []
theorem L38x0 : L38 0 = [0] := (rfl)
theorem L38x1 : L38 1 = [2] := (rfl)
theorem fnOk38 : fnOk Try.prog 38 = true := by kernel_rfl
theorem rq38 {R : Value → AH → Nat → Prop} {env : Env} {H : AH} {nx : Nat} : retQ Try.prog Try.f38 R .ret env H nx = onV (eg env 2) R H nx := retQ_one rfl (of_decide_eq_true (by kernel_rfl))

theorem zero9 : zeroT Try.prog 9 = some (.string .empty) := by kernel_rfl
theorem sl38 : slT Try.prog 38 = some (9, 1) := by kernel_rfl
/-! 39: milestone/milestoneref05.Create · code of 53 operations -/
def L39 : Nat → List Nat
  | 0 => [1, 2, 4]
  | 1 => [1, 2, 4, 10]
  | 2 => [4, 5]
  | 3 => [1, 2, 4, 6]
  | 4 => [1, 2, 4, 18]
  | 5 => [4, 5]
  | 6 => [1, 2, 4, 24]
  | 7 => [4, 5]
  | 8 => [1, 2, 4, 7]
  | 9 => [1, 2, 4, 7]
  | 10 => [1, 2, 4]
  | 11 => [4, 5]
  | _ => []
theorem L39x0 : L39 0 = [1, 2, 4] := (rfl)
theorem L39x1 : L39 1 = [1, 2, 4, 10] := (rfl)
theorem L39x2 : L39 2 = [4, 5] := (rfl)
theorem L39x3 : L39 3 = [1, 2, 4, 6] := (rfl)
theorem L39x4 : L39 4 = [1, 2, 4, 18] := (rfl)
theorem L39x5 : L39 5 = [4, 5] := (rfl)
theorem L39x6 : L39 6 = [1, 2, 4, 24] := (rfl)
theorem L39x7 : L39 7 = [4, 5] := (rfl)
theorem L39x8 : L39 8 = [1, 2, 4, 7] := (rfl)
theorem L39x9 : L39 9 = [1, 2, 4, 7] := (rfl)
theorem L39x10 : L39 10 = [1, 2, 4] := (rfl)
theorem L39x11 : L39 11 = [4, 5] := (rfl)
def ord39x11 : List Nat := [0, 1, 2, 3, 4, 5, 6, 7, 8, 9, 10, 11]
theorem fnOk39 : fnOk Try.prog 39 = true := by kernel_rfl
theorem rq39 {R : Value → AH → Nat → Prop} {env : Env} {H : AH} {nx : Nat} : retQ Try.prog Try.f39 R .ret env H nx = onA (eg env 4) (fun a => onA (loadV Try.prog H 47 a) fun v => onA (eg env 5) fun u => R (.tuple #[v, u]) H nx) := retQ_cell_tmp rfl (of_decide_eq_true (by kernel_rfl)) (of_decide_eq_true (by kernel_rfl))

theorem fa47x1 (H : AH) (b o : Nat) : fieldAV Try.prog H 47 1 (.pointer (some ⟨b, o, none⟩)) = some (.pointer (some ⟨b, o + 1, none⟩)) := fieldAV_eq 47 1 b o false 0 1 (by kernel_rfl)
theorem ld44 (H : AH) (b o : Nat) : loadV Try.prog H 44 (.pointer (some ⟨b, o, none⟩)) = H.c b o := load_one (by kernel_rfl)
theorem fa47x0 (H : AH) (b o : Nat) : fieldAV Try.prog H 47 0 (.pointer (some ⟨b, o, none⟩)) = some (.pointer (some ⟨b, o + 0, none⟩)) := fieldAV_eq 47 0 b o false 0 0 (by kernel_rfl)
theorem ld43 (H : AH) (b o : Nat) : loadV Try.prog H 43 (.pointer (some ⟨b, o, none⟩)) = H.c b o := load_one (by kernel_rfl)
theorem zero90 : zeroT Try.prog 90 = some (.agg #[(.slice none 0 0), (.int .i64 0)]) := by kernel_rfl
theorem sl43 : slT Try.prog 43 = some (90, 2) := by kernel_rfl
theorem by90 : bytesT Try.prog 90 = some 32 := by kernel_rfl
theorem bd0x90 (H : AH) : buildV Try.prog H 90 #[] = some (.agg #[(.slice none 0 0), (.int .i64 0)]) := build_zero (by kernel_rfl) zero90
theorem st43 (lo : Nat) (b o : Nat) (v : Value) (K : AH → Nat → Prop) (H : AH) (nx : Nat) (hv : v.oneCell' = true) : storeQ Try.prog lo 43 (.pointer (some ⟨b, o, none⟩)) v K H nx = stQ lo b o v K H nx := store_one (by kernel_rfl) hv
theorem stc43 (lo : Nat) (b o : Nat) (a : Option Addr) (n c : Nat) (K : AH → Nat → Prop) (H : AH) (nx : Nat) : storeQ Try.prog lo 43 (.pointer (some ⟨b, o, none⟩)) (.slice a n c) K H nx = stQ lo b o (.slice a n c) K H nx := store_one (by kernel_rfl) rfl
theorem len43 (H : AH) (ty : TypeId) (a : Option Addr) (n c : Nat) : lenV Try.prog H #[43] ty #[.slice a n c] = some (.int .i64 n) := lenV_slice 43 90 ty 2 a n c (by kernel_rfl)
/-! 40: milestone/milestoneref05.Append · code of 60 operations -/
def L40 : Nat → List Nat
  | 0 => [1, 2, 3, 6]
  | 1 => [1, 2, 3, 6, 8]
  | 2 => [1, 2, 3, 6, 18]
  | 3 => [6, 7]
  | 4 => [2, 3, 6, 9]
  | 5 => [2, 3, 6, 9, 25]
  | 6 => [6, 7]
  | 7 => [2, 3, 6, 9, 34]
  | 8 => [6, 7]
  | 9 => [2, 3, 6, 9, 10]
  | 10 => [2, 3, 6, 9, 10, 11]
  | 11 => [2, 3, 6, 9, 10, 11]
  | 12 => [3, 6, 9, 10]
  | 13 => [6, 7]
  | _ => []
theorem L40x0 : L40 0 = [1, 2, 3, 6] := (rfl)
theorem L40x1 : L40 1 = [1, 2, 3, 6, 8] := (rfl)
theorem L40x2 : L40 2 = [1, 2, 3, 6, 18] := (rfl)
theorem L40x3 : L40 3 = [6, 7] := (rfl)
theorem L40x4 : L40 4 = [2, 3, 6, 9] := (rfl)
theorem L40x5 : L40 5 = [2, 3, 6, 9, 25] := (rfl)
theorem L40x6 : L40 6 = [6, 7] := (rfl)
theorem L40x7 : L40 7 = [2, 3, 6, 9, 34] := (rfl)
theorem L40x8 : L40 8 = [6, 7] := (rfl)
theorem L40x9 : L40 9 = [2, 3, 6, 9, 10] := (rfl)
theorem L40x10 : L40 10 = [2, 3, 6, 9, 10, 11] := (rfl)
theorem L40x11 : L40 11 = [2, 3, 6, 9, 10, 11] := (rfl)
theorem L40x12 : L40 12 = [3, 6, 9, 10] := (rfl)
theorem L40x13 : L40 13 = [6, 7] := (rfl)
def ord40x7 : List Nat := [0, 2, 3, 5, 6, 1, 4, 7]
theorem fnOk40 : fnOk Try.prog 40 = true := by kernel_rfl
theorem rq40 {R : Value → AH → Nat → Prop} {env : Env} {H : AH} {nx : Nat} : retQ Try.prog Try.f40 R .ret env H nx = onA (eg env 6) (fun a => onA (loadV Try.prog H 47 a) fun v => onA (eg env 7) fun u => R (.tuple #[v, u]) H nx) := retQ_cell_tmp rfl (of_decide_eq_true (by kernel_rfl)) (of_decide_eq_true (by kernel_rfl))

theorem ia43 (H : AH) (n b o c : Nat) (kk : IntKind) (i : Int) (h0 : 0 ≤ i) (h1 : i < n) : indexAV Try.prog H 43 (.slice (some ⟨b, o, none⟩) n c) (.int kk i) = some (.pointer (some ⟨b, o + i.toNat * 2, none⟩)) := indexAV_slice 43 90 n 2 b o c kk i (by kernel_rfl) h0 h1
theorem ld90 (H : AH) (b o : Nat) : loadV Try.prog H 90 (.pointer (some ⟨b, o, none⟩)) = (loadN H b o 2).map fun l => .agg l.toArray := load_agg (by kernel_rfl) (by kernel_rfl)
theorem al90 (lo : Nat) (K : Value → AH → Nat → Prop) (H : AH) (nx : Nat) : allocQ Try.prog lo 90 K H nx = newQ 90 ((.agg #[(.slice none 0 0), (.int .i64 0)]) : Value).cells K H nx := alloc_new zero90
theorem st90 (lo : Nat) (b o : Nat) (v0 v1 : Value) (K : AH → Nat → Prop) (H : AH) (nx : Nat) : storeQ Try.prog lo 90 (.pointer (some ⟨b, o, none⟩)) (.agg #[v0, v1]) K H nx = stsQ lo b o [v0, v1] K H nx := store_agg (n := 2) (by kernel_rfl) (by decide) rfl
theorem fa90x0 (H : AH) (b o : Nat) : fieldAV Try.prog H 90 0 (.pointer (some ⟨b, o, none⟩)) = some (.pointer (some ⟨b, o + 0, none⟩)) := fieldAV_eq 90 0 b o false 0 0 (by kernel_rfl)
/-! 41: milestone/milestoneref05.Sync · code of 43 operations -/
def L41 : Nat → List Nat
  | 0 => [1, 2, 4]
  | 1 => [1, 2, 4, 6]
  | 2 => [1, 2, 4, 15]
  | 3 => [4, 5]
  | 4 => [2, 4, 7]
  | 5 => [2, 4, 7, 22]
  | 6 => [4, 5]
  | 7 => [2, 4, 7, 8]
  | 8 => [2, 4, 7, 8]
  | 9 => [4, 5]
  | _ => []
theorem L41x0 : L41 0 = [1, 2, 4] := (rfl)
theorem L41x1 : L41 1 = [1, 2, 4, 6] := (rfl)
theorem L41x2 : L41 2 = [1, 2, 4, 15] := (rfl)
theorem L41x3 : L41 3 = [4, 5] := (rfl)
theorem L41x4 : L41 4 = [2, 4, 7] := (rfl)
theorem L41x5 : L41 5 = [2, 4, 7, 22] := (rfl)
theorem L41x6 : L41 6 = [4, 5] := (rfl)
theorem L41x7 : L41 7 = [2, 4, 7, 8] := (rfl)
theorem L41x8 : L41 8 = [2, 4, 7, 8] := (rfl)
theorem L41x9 : L41 9 = [4, 5] := (rfl)
theorem fnOk41 : fnOk Try.prog 41 = true := by kernel_rfl
theorem rq41 {R : Value → AH → Nat → Prop} {env : Env} {H : AH} {nx : Nat} : retQ Try.prog Try.f41 R .ret env H nx = onA (eg env 4) (fun a => onA (loadV Try.prog H 47 a) fun v => onA (eg env 5) fun u => R (.tuple #[v, u]) H nx) := retQ_cell_tmp rfl (of_decide_eq_true (by kernel_rfl)) (of_decide_eq_true (by kernel_rfl))

theorem fa90x1 (H : AH) (b o : Nat) : fieldAV Try.prog H 90 1 (.pointer (some ⟨b, o, none⟩)) = some (.pointer (some ⟨b, o + 1, none⟩)) := fieldAV_eq 90 1 b o false 0 1 (by kernel_rfl)
/-! 42: milestone/milestoneref05.Names · code of 23 operations -/
def L42 : Nat → List Nat
  | 0 => [1, 2]
  | 1 => [1, 2, 4]
  | 2 => [1, 2, 11]
  | 3 => [2, 3]
  | 4 => [1, 2]
  | 5 => [2, 3]
  | _ => []
theorem L42x0 : L42 0 = [1, 2] := (rfl)
theorem L42x1 : L42 1 = [1, 2, 4] := (rfl)
theorem L42x2 : L42 2 = [1, 2, 11] := (rfl)
theorem L42x3 : L42 3 = [2, 3] := (rfl)
theorem L42x4 : L42 4 = [1, 2] := (rfl)
theorem L42x5 : L42 5 = [2, 3] := (rfl)
theorem fnOk42 : fnOk Try.prog 42 = true := by kernel_rfl
theorem rq42 {R : Value → AH → Nat → Prop} {env : Env} {H : AH} {nx : Nat} : retQ Try.prog Try.f42 R .ret env H nx = onA (eg env 2) (fun a => onA (loadV Try.prog H 47 a) fun v => onA (eg env 3) fun u => R (.tuple #[v, u]) H nx) := retQ_cell_tmp rfl (of_decide_eq_true (by kernel_rfl)) (of_decide_eq_true (by kernel_rfl))

theorem fa47x2 (H : AH) (b o : Nat) : fieldAV Try.prog H 47 2 (.pointer (some ⟨b, o, none⟩)) = some (.pointer (some ⟨b, o + 2, none⟩)) := fieldAV_eq 47 2 b o false 0 2 (by kernel_rfl)
theorem st45 (lo : Nat) (b o : Nat) (v : Value) (K : AH → Nat → Prop) (H : AH) (nx : Nat) (hv : v.oneCell' = true) : storeQ Try.prog lo 45 (.pointer (some ⟨b, o, none⟩)) v K H nx = stQ lo b o v K H nx := store_one (by kernel_rfl) hv
theorem stc45 (lo : Nat) (b o : Nat) (a : Option Addr) (n c : Nat) (K : AH → Nat → Prop) (H : AH) (nx : Nat) : storeQ Try.prog lo 45 (.pointer (some ⟨b, o, none⟩)) (.slice a n c) K H nx = stQ lo b o (.slice a n c) K H nx := store_one (by kernel_rfl) rfl
/-! 43: milestone/milestoneref05.Rename · code of 48 operations -/
def L43 : Nat → List Nat
  | 0 => [1, 2, 3, 6]
  | 1 => [1, 2, 3, 6, 12]
  | 2 => [6, 7]
  | 3 => [1, 2, 3, 6, 8]
  | 4 => [1, 2, 3, 6, 20]
  | 5 => [6, 7]
  | 6 => [1, 2, 3, 6, 9]
  | 7 => [1, 2, 3, 6, 9, 27]
  | 8 => [6, 7]
  | 9 => [1, 2, 3, 6, 9, 31]
  | 10 => [6, 7]
  | 11 => [6, 7]
  | _ => []
theorem L43x0 : L43 0 = [1, 2, 3, 6] := (rfl)
theorem L43x1 : L43 1 = [1, 2, 3, 6, 12] := (rfl)
theorem L43x2 : L43 2 = [6, 7] := (rfl)
theorem L43x3 : L43 3 = [1, 2, 3, 6, 8] := (rfl)
theorem L43x4 : L43 4 = [1, 2, 3, 6, 20] := (rfl)
theorem L43x5 : L43 5 = [6, 7] := (rfl)
theorem L43x6 : L43 6 = [1, 2, 3, 6, 9] := (rfl)
theorem L43x7 : L43 7 = [1, 2, 3, 6, 9, 27] := (rfl)
theorem L43x8 : L43 8 = [6, 7] := (rfl)
theorem L43x9 : L43 9 = [1, 2, 3, 6, 9, 31] := (rfl)
theorem L43x10 : L43 10 = [6, 7] := (rfl)
theorem L43x11 : L43 11 = [6, 7] := (rfl)
def ord43x11 : List Nat := [0, 1, 2, 3, 5, 6, 4, 7, 8, 9, 10]
theorem fnOk43 : fnOk Try.prog 43 = true := by kernel_rfl
theorem rq43 {R : Value → AH → Nat → Prop} {env : Env} {H : AH} {nx : Nat} : retQ Try.prog Try.f43 R .ret env H nx = onA (eg env 6) (fun a => onA (loadV Try.prog H 47 a) fun v => onA (eg env 7) fun u => R (.tuple #[v, u]) H nx) := retQ_cell_tmp rfl (of_decide_eq_true (by kernel_rfl)) (of_decide_eq_true (by kernel_rfl))

/-! 44: milestone/milestoneref05.Delete · code of 31 operations -/
def L44 : Nat → List Nat
  | 0 => [1, 2, 4]
  | 1 => [1, 2, 4, 6]
  | 2 => [1, 2, 4, 13]
  | 3 => [4, 5]
  | 4 => [1, 2, 4, 19]
  | 5 => [4, 5]
  | 6 => [4, 5]
  | _ => []
theorem L44x0 : L44 0 = [1, 2, 4] := (rfl)
theorem L44x1 : L44 1 = [1, 2, 4, 6] := (rfl)
theorem L44x2 : L44 2 = [1, 2, 4, 13] := (rfl)
theorem L44x3 : L44 3 = [4, 5] := (rfl)
theorem L44x4 : L44 4 = [1, 2, 4, 19] := (rfl)
theorem L44x5 : L44 5 = [4, 5] := (rfl)
theorem L44x6 : L44 6 = [4, 5] := (rfl)
def ord44x6 : List Nat := [0, 1, 2, 3, 4, 5, 6, 7]
theorem fnOk44 : fnOk Try.prog 44 = true := by kernel_rfl
theorem rq44 {R : Value → AH → Nat → Prop} {env : Env} {H : AH} {nx : Nat} : retQ Try.prog Try.f44 R .ret env H nx = onA (eg env 4) (fun a => onA (loadV Try.prog H 47 a) fun v => onA (eg env 5) fun u => R (.tuple #[v, u]) H nx) := retQ_cell_tmp rfl (of_decide_eq_true (by kernel_rfl)) (of_decide_eq_true (by kernel_rfl))

/-! 45: (*milestone/shelf.Shelf).Cut · code of 49 operations -/
def L45 : Nat → List Nat
  | 0 => [0, 1, 2]
  | 1 => [0, 1, 2, 7]
  | 2 => [0, 1, 2, 7, 12]
  | 3 => [6]
  | 4 => [2, 8]
  | 5 => [2, 8, 20]
  | 6 => [6]
  | 7 => [2, 8, 23]
  | 8 => [6]
  | 9 => []
  | 10 => [6]
  | _ => []
theorem L45x0 : L45 0 = [0, 1, 2] := (rfl)
theorem L45x1 : L45 1 = [0, 1, 2, 7] := (rfl)
theorem L45x2 : L45 2 = [0, 1, 2, 7, 12] := (rfl)
theorem L45x3 : L45 3 = [6] := (rfl)
theorem L45x4 : L45 4 = [2, 8] := (rfl)
theorem L45x5 : L45 5 = [2, 8, 20] := (rfl)
theorem L45x6 : L45 6 = [6] := (rfl)
theorem L45x7 : L45 7 = [2, 8, 23] := (rfl)
theorem L45x8 : L45 8 = [6] := (rfl)
theorem L45x9 : L45 9 = [] := (rfl)
theorem L45x10 : L45 10 = [6] := (rfl)
theorem fnOk45 : fnOk Try.prog 45 = true := by kernel_rfl
theorem rq45 {R : Value → AH → Nat → Prop} {env : Env} {H : AH} {nx : Nat} : retQ Try.prog Try.f45 R .ret env H nx = onV (eg env 6) R H nx := retQ_one rfl (of_decide_eq_true (by kernel_rfl))

/-! 46: milestone/milestoneref05.Cut · code of 57 operations -/
def L46 : Nat → List Nat
  | 0 => [1, 2, 3, 6]
  | 1 => [1, 2, 3, 6, 8]
  | 2 => [1, 2, 3, 6, 16]
  | 3 => [6, 7]
  | 4 => [2, 3, 6, 9]
  | 5 => [2, 3, 6, 9, 23]
  | 6 => [6, 7]
  | 7 => [2, 3, 6, 9, 37]
  | 8 => [6, 7]
  | 9 => [6, 7]
  | _ => []
theorem L46x0 : L46 0 = [1, 2, 3, 6] := (rfl)
theorem L46x1 : L46 1 = [1, 2, 3, 6, 8] := (rfl)
theorem L46x2 : L46 2 = [1, 2, 3, 6, 16] := (rfl)
theorem L46x3 : L46 3 = [6, 7] := (rfl)
theorem L46x4 : L46 4 = [2, 3, 6, 9] := (rfl)
theorem L46x5 : L46 5 = [2, 3, 6, 9, 23] := (rfl)
theorem L46x6 : L46 6 = [6, 7] := (rfl)
theorem L46x7 : L46 7 = [2, 3, 6, 9, 37] := (rfl)
theorem L46x8 : L46 8 = [6, 7] := (rfl)
theorem L46x9 : L46 9 = [6, 7] := (rfl)
def ord46x9 : List Nat := [0, 1, 2, 3, 4, 5, 6, 7, 8, 9, 10, 11, 12, 13, 14, 15]
theorem fnOk46 : fnOk Try.prog 46 = true := by kernel_rfl
theorem rq46 {R : Value → AH → Nat → Prop} {env : Env} {H : AH} {nx : Nat} : retQ Try.prog Try.f46 R .ret env H nx = onA (eg env 6) (fun a => onA (loadV Try.prog H 47 a) fun v => onA (eg env 7) fun u => R (.tuple #[v, u]) H nx) := retQ_cell_tmp rfl (of_decide_eq_true (by kernel_rfl)) (of_decide_eq_true (by kernel_rfl))

theorem bd90x0x1 (H : AH) (a0x0 : Option Addr) (n0x0 c0x0 : Nat) (k1x0 : IntKind) (n1x0 : Int) : buildV Try.prog H 90 #[(0, .slice a0x0 n0x0 c0x0), (1, .int k1x0 n1x0)] = some (.agg #[.slice a0x0 n0x0 c0x0, .int k1x0 n1x0]) := build_by (pl := fun i => (#[(0, 1), (1, 1)] : Array (Nat × Nat))[i]?) (by kernel_rfl) zero90 (by simp [Instr.fill, cells_agg, cells_int, cells_bool, cells_slice, cells_ptr, cells_str, cells_map])
/-! 47: milestone/milestoneref05.Fall · code of 87 operations -/
def L47 : Nat → List Nat
  | 0 => [1, 2, 3, 6]
  | 1 => [1, 2, 3, 6, 12]
  | 2 => [1, 2, 3, 6]
  | 3 => [1, 2, 3, 6, 18]
  | 4 => [1, 2, 3, 6]
  | 5 => [1, 2, 3, 6, 24]
  | 6 => [1, 2, 3, 6]
  | 7 => [2, 3, 6, 7]
  | 8 => [2, 3, 6, 7, 8]
  | 9 => [2, 3, 6, 7, 8, 33]
  | 11 => [2, 3, 6, 7, 8, 9]
  | 12 => [2, 3, 6, 7, 8, 9, 10]
  | 13 => [2, 3, 6, 7, 8, 9, 10, 53]
  | 14 => [2, 3, 6, 7, 8, 9, 10]
  | 15 => [2, 3, 6, 7, 8]
  | 10 => [2, 3, 6, 7, 8]
  | 16 => [3, 6, 7]
  | 17 => [3, 6]
  | 18 => [3, 6]
  | 19 => [3, 6]
  | 20 => [6]
  | _ => []
theorem L47x0 : L47 0 = [1, 2, 3, 6] := (rfl)
theorem L47x1 : L47 1 = [1, 2, 3, 6, 12] := (rfl)
theorem L47x2 : L47 2 = [1, 2, 3, 6] := (rfl)
theorem L47x3 : L47 3 = [1, 2, 3, 6, 18] := (rfl)
theorem L47x4 : L47 4 = [1, 2, 3, 6] := (rfl)
theorem L47x5 : L47 5 = [1, 2, 3, 6, 24] := (rfl)
theorem L47x6 : L47 6 = [1, 2, 3, 6] := (rfl)
theorem L47x7 : L47 7 = [2, 3, 6, 7] := (rfl)
theorem L47x8 : L47 8 = [2, 3, 6, 7, 8] := (rfl)
theorem L47x9 : L47 9 = [2, 3, 6, 7, 8, 33] := (rfl)
theorem L47x11 : L47 11 = [2, 3, 6, 7, 8, 9] := (rfl)
theorem L47x12 : L47 12 = [2, 3, 6, 7, 8, 9, 10] := (rfl)
theorem L47x13 : L47 13 = [2, 3, 6, 7, 8, 9, 10, 53] := (rfl)
theorem L47x14 : L47 14 = [2, 3, 6, 7, 8, 9, 10] := (rfl)
theorem L47x15 : L47 15 = [2, 3, 6, 7, 8] := (rfl)
theorem L47x10 : L47 10 = [2, 3, 6, 7, 8] := (rfl)
theorem L47x16 : L47 16 = [3, 6, 7] := (rfl)
theorem L47x17 : L47 17 = [3, 6] := (rfl)
theorem L47x18 : L47 18 = [3, 6] := (rfl)
theorem L47x19 : L47 19 = [3, 6] := (rfl)
theorem L47x20 : L47 20 = [6] := (rfl)
def ord47x11 : List Nat := [0, 1, 2, 3, 4, 5, 6, 7, 8, 9, 10]
def ord47x15 : List Nat := [0, 1, 2, 3, 4, 5, 6, 7, 8, 9, 10, 11, 12, 13, 14]
theorem fnOk47 : fnOk Try.prog 47 = true := by kernel_rfl
theorem rq47 {R : Value → AH → Nat → Prop} {env : Env} {H : AH} {nx : Nat} : retQ Try.prog Try.f47 R .ret env H nx = onA (eg env 6) (fun a => onV (loadV Try.prog H 47 a) R H nx) := retQ_cell rfl (of_decide_eq_true (by kernel_rfl))

theorem ld45 (H : AH) (b o : Nat) : loadV Try.prog H 45 (.pointer (some ⟨b, o, none⟩)) = H.c b o := load_one (by kernel_rfl)
theorem len45 (H : AH) (ty : TypeId) (a : Option Addr) (n c : Nat) : lenV Try.prog H #[45] ty #[.slice a n c] = some (.int .i64 n) := lenV_slice 45 44 ty 1 a n c (by kernel_rfl)
theorem ia45 (H : AH) (n b o c : Nat) (kk : IntKind) (i : Int) (h0 : 0 ≤ i) (h1 : i < n) : indexAV Try.prog H 45 (.slice (some ⟨b, o, none⟩) n c) (.int kk i) = some (.pointer (some ⟨b, o + i.toNat * 1, none⟩)) := indexAV_slice 45 44 n 1 b o c kk i (by kernel_rfl) h0 h1
theorem len44 (H : AH) (ty : TypeId) (a : Option Addr) (n c : Nat) : lenV Try.prog H #[44] ty #[.slice a n c] = some (.int .i64 n) := lenV_slice 44 97 ty 2 a n c (by kernel_rfl)
theorem ia44 (H : AH) (n b o c : Nat) (kk : IntKind) (i : Int) (h0 : 0 ≤ i) (h1 : i < n) : indexAV Try.prog H 44 (.slice (some ⟨b, o, none⟩) n c) (.int kk i) = some (.pointer (some ⟨b, o + i.toNat * 2, none⟩)) := indexAV_slice 44 97 n 2 b o c kk i (by kernel_rfl) h0 h1
theorem fa97x1 (H : AH) (b o : Nat) : fieldAV Try.prog H 97 1 (.pointer (some ⟨b, o, none⟩)) = some (.pointer (some ⟨b, o + 1, none⟩)) := fieldAV_eq 97 1 b o false 0 1 (by kernel_rfl)
theorem st44 (lo : Nat) (b o : Nat) (v : Value) (K : AH → Nat → Prop) (H : AH) (nx : Nat) (hv : v.oneCell' = true) : storeQ Try.prog lo 44 (.pointer (some ⟨b, o, none⟩)) v K H nx = stQ lo b o v K H nx := store_one (by kernel_rfl) hv
theorem stc44 (lo : Nat) (b o : Nat) (a : Option Addr) (n c : Nat) (K : AH → Nat → Prop) (H : AH) (nx : Nat) : storeQ Try.prog lo 44 (.pointer (some ⟨b, o, none⟩)) (.slice a n c) K H nx = stQ lo b o (.slice a n c) K H nx := store_one (by kernel_rfl) rfl
theorem fa47x5 (H : AH) (b o : Nat) : fieldAV Try.prog H 47 5 (.pointer (some ⟨b, o, none⟩)) = some (.pointer (some ⟨b, o + 5, none⟩)) := fieldAV_eq 47 5 b o false 0 5 (by kernel_rfl)
/-! 49: strings.IndexFunc · code of 5 operations -/
def L49 : Nat → List Nat
  | 0 => [0, 1]
  | 1 => [4]
  | _ => []
theorem L49x0 : L49 0 = [0, 1] := (rfl)
theorem L49x1 : L49 1 = [4] := (rfl)
theorem fnOk49 : fnOk Try.prog 49 = true := by kernel_rfl
theorem rq49 {R : Value → AH → Nat → Prop} {env : Env} {H : AH} {nx : Nat} : retQ Try.prog Try.f49 R .ret env H nx = onV (eg env 4) R H nx := retQ_one rfl (of_decide_eq_true (by kernel_rfl))

/-! 50: slices.Collect[string] · code of 4 operations -/
def L50 : Nat → List Nat
  | 0 => [0]
  | 1 => [2]
  | _ => []
theorem L50x0 : L50 0 = [0] := (rfl)
theorem L50x1 : L50 1 = [2] := (rfl)
theorem fnOk50 : fnOk Try.prog 50 = true := by kernel_rfl
theorem rq50 {R : Value → AH → Nat → Prop} {env : Env} {H : AH} {nx : Nat} : retQ Try.prog Try.f50 R .ret env H nx = onV (eg env 2) R H nx := retQ_one rfl (of_decide_eq_true (by kernel_rfl))

/-! 51: slices.Sort[[]string,string] · code of 9 operations -/
def L51 : Nat → List Nat
  | 0 => [0, 2]
  | 1 => []
  | _ => []
theorem L51x0 : L51 0 = [0, 2] := (rfl)
theorem L51x1 : L51 1 = [] := (rfl)
theorem fnOk51 : fnOk Try.prog 51 = true := by kernel_rfl
theorem rq51 {R : Value → AH → Nat → Prop} {env : Env} {H : AH} {nx : Nat} : retQ Try.prog Try.f51 R .ret env H nx = R (.tuple #[]) H nx := retQ_none rfl

theorem cv3x102 (lo : Nat) (k' : IntKind) (n : Int) (K : Value → AH → Nat → Prop) (H : AH) (nx : Nat) : convQ Try.prog lo 3 102 (.int k' n) K H nx = K (.int .u64 (IntKind.wrap .u64 n)) H nx := convQ_int (by kernel_rfl) (by kernel_rfl)
theorem cx3x102 (k' : IntKind) (n : Int) (H : AH) : convV Try.prog H 3 102 (.int k' n) = some (.int .u64 (IntKind.wrap .u64 n)) := convV_int (by kernel_rfl) (by kernel_rfl)
/-! 52: maps.Keys[map[string]*milestone/shelf.book,string,*milestone/shelf.book]$1 · code of 11 operations -/
def L52 : Nat → List Nat
  | 0 => [0, 5]
  | 1 => [0, 5, 7]
  | 2 => [0, 3, 5]
  | 3 => [0, 5, 13]
  | _ => []
theorem L52x0 : L52 0 = [0, 5] := (rfl)
theorem L52x1 : L52 1 = [0, 5, 7] := (rfl)
theorem L52x2 : L52 2 = [0, 3, 5] := (rfl)
theorem L52x3 : L52 3 = [0, 5, 13] := (rfl)
theorem fnOk52 : fnOk Try.prog 52 = true := by kernel_rfl
theorem rq52 {R : Value → AH → Nat → Prop} {env : Env} {H : AH} {nx : Nat} : retQ Try.prog Try.f52 R .ret env H nx = R (.tuple #[]) H nx := retQ_none rfl

/-! 53: milestone/milestoneref05.Act · code of 31 operations -/
def L53 : Nat → List Nat
  | 0 => [1, 2]
  | 1 => [1, 2, 10]
  | 2 => [1, 2]
  | 3 => [2, 3]
  | 4 => [1, 2, 15]
  | 5 => [1, 2]
  | 6 => [1, 2]
  | 7 => [2, 3]
  | _ => []
theorem L53x0 : L53 0 = [1, 2] := (rfl)
theorem L53x1 : L53 1 = [1, 2, 10] := (rfl)
theorem L53x2 : L53 2 = [1, 2] := (rfl)
theorem L53x3 : L53 3 = [2, 3] := (rfl)
theorem L53x4 : L53 4 = [1, 2, 15] := (rfl)
theorem L53x5 : L53 5 = [1, 2] := (rfl)
theorem L53x6 : L53 6 = [1, 2] := (rfl)
theorem L53x7 : L53 7 = [2, 3] := (rfl)
theorem fnOk53 : fnOk Try.prog 53 = true := by kernel_rfl
theorem rq53 {R : Value → AH → Nat → Prop} {env : Env} {H : AH} {nx : Nat} : retQ Try.prog Try.f53 R .ret env H nx = onA (eg env 2) (fun a => onA (loadV Try.prog H 47 a) fun v => onA (eg env 3) fun u => R (.tuple #[v, u]) H nx) := retQ_cell_tmp rfl (of_decide_eq_true (by kernel_rfl)) (of_decide_eq_true (by kernel_rfl))

theorem fa47x6 (H : AH) (b o : Nat) : fieldAV Try.prog H 47 6 (.pointer (some ⟨b, o, none⟩)) = some (.pointer (some ⟨b, o + 6, none⟩)) := fieldAV_eq 47 6 b o false 0 6 (by kernel_rfl)
/-! 54: milestone/milestoneref05.Find · code of 23 operations -/
def L54 : Nat → List Nat
  | 0 => [0, 1]
  | 1 => [0, 1, 5]
  | 2 => [0, 1, 5, 9]
  | 4 => [0, 1, 5, 18]
  | 5 => [4]
  | 3 => [0, 1, 5]
  | 6 => [4]
  | _ => []
theorem L54x0 : L54 0 = [0, 1] := (rfl)
theorem L54x1 : L54 1 = [0, 1, 5] := (rfl)
theorem L54x2 : L54 2 = [0, 1, 5, 9] := (rfl)
theorem L54x4 : L54 4 = [0, 1, 5, 18] := (rfl)
theorem L54x5 : L54 5 = [4] := (rfl)
theorem L54x3 : L54 3 = [0, 1, 5] := (rfl)
theorem L54x6 : L54 6 = [4] := (rfl)
theorem fnOk54 : fnOk Try.prog 54 = true := by kernel_rfl
theorem rq54 {R : Value → AH → Nat → Prop} {env : Env} {H : AH} {nx : Nat} : retQ Try.prog Try.f54 R .ret env H nx = onV (eg env 4) R H nx := retQ_one rfl (of_decide_eq_true (by kernel_rfl))

theorem fa97x0 (H : AH) (b o : Nat) : fieldAV Try.prog H 97 0 (.pointer (some ⟨b, o, none⟩)) = some (.pointer (some ⟨b, o + 0, none⟩)) := fieldAV_eq 97 0 b o false 0 0 (by kernel_rfl)
/-! 55: milestone/milestoneref05.moved · code of 19 operations -/
def L55 : Nat → List Nat
  | 0 => [1, 2, 4]
  | 1 => [1, 2, 4]
  | 2 => [1, 2, 4, 5]
  | 3 => [1, 2, 4, 5]
  | 4 => [2, 4]
  | 5 => [4]
  | _ => []
theorem L55x0 : L55 0 = [1, 2, 4] := (rfl)
theorem L55x1 : L55 1 = [1, 2, 4] := (rfl)
theorem L55x2 : L55 2 = [1, 2, 4, 5] := (rfl)
theorem L55x3 : L55 3 = [1, 2, 4, 5] := (rfl)
theorem L55x4 : L55 4 = [2, 4] := (rfl)
theorem L55x5 : L55 5 = [4] := (rfl)
theorem fnOk55 : fnOk Try.prog 55 = true := by kernel_rfl
theorem rq55 {R : Value → AH → Nat → Prop} {env : Env} {H : AH} {nx : Nat} : retQ Try.prog Try.f55 R .ret env H nx = onA (eg env 4) (fun a => onV (loadV Try.prog H 47 a) R H nx) := retQ_cell rfl (of_decide_eq_true (by kernel_rfl))

theorem by44 : bytesT Try.prog 44 = some 24 := by kernel_rfl
/-! 56: milestone/milestoneref05.with · code of 10 operations -/
def L56 : Nat → List Nat
  | 0 => [0, 1, 2]
  | 1 => [6]
  | _ => []
theorem L56x0 : L56 0 = [0, 1, 2] := (rfl)
theorem L56x1 : L56 1 = [6] := (rfl)
theorem fnOk56 : fnOk Try.prog 56 = true := by kernel_rfl
theorem rq56 {R : Value → AH → Nat → Prop} {env : Env} {H : AH} {nx : Nat} : retQ Try.prog Try.f56 R .ret env H nx = onV (eg env 6) R H nx := retQ_one rfl (of_decide_eq_true (by kernel_rfl))

theorem zero97 : zeroT Try.prog 97 = some (.agg #[(.string .empty), (.int .i64 0)]) := by kernel_rfl
theorem bd97x0x1 (H : AH) (s0x0 : ByteArray) (k1x0 : IntKind) (n1x0 : Int) : buildV Try.prog H 97 #[(0, .string s0x0), (1, .int k1x0 n1x0)] = some (.agg #[.string s0x0, .int k1x0 n1x0]) := build_by (pl := fun i => (#[(0, 1), (1, 1)] : Array (Nat × Nat))[i]?) (by kernel_rfl) zero97 (by simp [Instr.fill, cells_agg, cells_int, cells_bool, cells_slice, cells_ptr, cells_str, cells_map])
theorem sl44 : slT Try.prog 44 = some (97, 2) := by kernel_rfl
theorem by97 : bytesT Try.prog 97 = some 24 := by kernel_rfl
/-! 57: milestone/milestoneref05.Used · code of 62 operations -/
def L57 : Nat → List Nat
  | 0 => [1]
  | 1 => [1, 3]
  | 2 => [1, 3, 4]
  | 3 => [1, 3, 4, 12]
  | 5 => [1, 3, 4, 5]
  | 6 => [1, 3, 4, 5, 6]
  | 7 => [1, 3, 4, 5, 6, 19]
  | 9 => [1, 3, 4, 5, 6, 7]
  | 10 => [1, 3, 4, 5, 6, 7, 29]
  | 12 => [1, 3, 4, 5, 6, 7]
  | 11 => [1, 3, 4, 5, 6, 7]
  | 8 => [1, 3, 4, 5, 6]
  | 13 => [1, 3, 4, 46]
  | 14 => [1, 3, 4]
  | 4 => [1, 3, 4]
  | 15 => [2]
  | _ => []
theorem L57x0 : L57 0 = [1] := (rfl)
theorem L57x1 : L57 1 = [1, 3] := (rfl)
theorem L57x2 : L57 2 = [1, 3, 4] := (rfl)
theorem L57x3 : L57 3 = [1, 3, 4, 12] := (rfl)
theorem L57x5 : L57 5 = [1, 3, 4, 5] := (rfl)
theorem L57x6 : L57 6 = [1, 3, 4, 5, 6] := (rfl)
theorem L57x7 : L57 7 = [1, 3, 4, 5, 6, 19] := (rfl)
theorem L57x9 : L57 9 = [1, 3, 4, 5, 6, 7] := (rfl)
theorem L57x10 : L57 10 = [1, 3, 4, 5, 6, 7, 29] := (rfl)
theorem L57x12 : L57 12 = [1, 3, 4, 5, 6, 7] := (rfl)
theorem L57x11 : L57 11 = [1, 3, 4, 5, 6, 7] := (rfl)
theorem L57x8 : L57 8 = [1, 3, 4, 5, 6] := (rfl)
theorem L57x13 : L57 13 = [1, 3, 4, 46] := (rfl)
theorem L57x14 : L57 14 = [1, 3, 4] := (rfl)
theorem L57x4 : L57 4 = [1, 3, 4] := (rfl)
theorem L57x15 : L57 15 = [2] := (rfl)
theorem fnOk57 : fnOk Try.prog 57 = true := by kernel_rfl
theorem rq57 {R : Value → AH → Nat → Prop} {env : Env} {H : AH} {nx : Nat} : retQ Try.prog Try.f57 R .ret env H nx = onV (eg env 2) R H nx := retQ_one rfl (of_decide_eq_true (by kernel_rfl))

/-! 58: milestone/milestoneref05.changed · code of 19 operations -/
def L58 : Nat → List Nat
  | 0 => [1, 3, 5, 6]
  | 1 => [1, 3, 5, 6, 7]
  | 2 => [1, 3, 5, 6, 7]
  | 3 => [3, 6, 7]
  | 4 => [3, 6]
  | 5 => [6]
  | _ => []
theorem L58x0 : L58 0 = [1, 3, 5, 6] := (rfl)
theorem L58x1 : L58 1 = [1, 3, 5, 6, 7] := (rfl)
theorem L58x2 : L58 2 = [1, 3, 5, 6, 7] := (rfl)
theorem L58x3 : L58 3 = [3, 6, 7] := (rfl)
theorem L58x4 : L58 4 = [3, 6] := (rfl)
theorem L58x5 : L58 5 = [6] := (rfl)
theorem fnOk58 : fnOk Try.prog 58 = true := by kernel_rfl
theorem rq58 {R : Value → AH → Nat → Prop} {env : Env} {H : AH} {nx : Nat} : retQ Try.prog Try.f58 R .ret env H nx = onA (eg env 6) (fun a => onV (loadV Try.prog H 47 a) R H nx) := retQ_cell rfl (of_decide_eq_true (by kernel_rfl))

/-! 59: milestone/milestoneref05.without · code of 27 operations -/
def L59 : Nat → List Nat
  | 0 => [0, 1]
  | 1 => [0, 1, 5]
  | 2 => [0, 1, 5, 6]
  | 3 => [0, 1, 5, 6, 10]
  | 5 => [0, 1, 5, 6, 19]
  | 6 => [0, 1, 5, 6]
  | 4 => [0, 1, 5, 6]
  | 7 => [4]
  | _ => []
theorem L59x0 : L59 0 = [0, 1] := (rfl)
theorem L59x1 : L59 1 = [0, 1, 5] := (rfl)
theorem L59x2 : L59 2 = [0, 1, 5, 6] := (rfl)
theorem L59x3 : L59 3 = [0, 1, 5, 6, 10] := (rfl)
theorem L59x5 : L59 5 = [0, 1, 5, 6, 19] := (rfl)
theorem L59x6 : L59 6 = [0, 1, 5, 6] := (rfl)
theorem L59x4 : L59 4 = [0, 1, 5, 6] := (rfl)
theorem L59x7 : L59 7 = [4] := (rfl)
theorem fnOk59 : fnOk Try.prog 59 = true := by kernel_rfl
theorem rq59 {R : Value → AH → Nat → Prop} {env : Env} {H : AH} {nx : Nat} : retQ Try.prog Try.f59 R .ret env H nx = onV (eg env 4) R H nx := retQ_one rfl (of_decide_eq_true (by kernel_rfl))

theorem ld97 (H : AH) (b o : Nat) : loadV Try.prog H 97 (.pointer (some ⟨b, o, none⟩)) = (loadN H b o 2).map fun l => .agg l.toArray := load_agg (by kernel_rfl) (by kernel_rfl)
/-! 60: strings.indexFunc · code of 17 operations -/
def L60 : Nat → List Nat
  | 0 => [0, 1, 2]
  | 1 => [1, 2, 10]
  | 2 => [1, 2, 10, 11, 12]
  | 3 => [1, 2, 7, 8, 10]
  | 4 => [1, 2, 7, 10, 19]
  | 5 => [6]
  | 6 => [6]
  | _ => []
theorem L60x0 : L60 0 = [0, 1, 2] := (rfl)
theorem L60x1 : L60 1 = [1, 2, 10] := (rfl)
theorem L60x2 : L60 2 = [1, 2, 10, 11, 12] := (rfl)
theorem L60x3 : L60 3 = [1, 2, 7, 8, 10] := (rfl)
theorem L60x4 : L60 4 = [1, 2, 7, 10, 19] := (rfl)
theorem L60x5 : L60 5 = [6] := (rfl)
theorem L60x6 : L60 6 = [6] := (rfl)
theorem fnOk60 : fnOk Try.prog 60 = true := by kernel_rfl
theorem rq60 {R : Value → AH → Nat → Prop} {env : Env} {H : AH} {nx : Nat} : retQ Try.prog Try.f60 R .ret env H nx = onV (eg env 6) R H nx := retQ_one rfl (of_decide_eq_true (by kernel_rfl))

/-! 61: slices.AppendSeq[[]string,string] · code of 5 operations · ODD [rangeFunc] -/
def L61 : Nat → List Nat
  | 0 => [1, 2]
  | 1 => [2]
  | 4 => [4]
  | _ => []
theorem L61x0 : L61 0 = [1, 2] := (rfl)
theorem L61x1 : L61 1 = [2] := (rfl)
theorem L61x4 : L61 4 = [4] := (rfl)
theorem fnOk61 : fnOk Try.prog 61 = true := by kernel_rfl
theorem rq61 {R : Value → AH → Nat → Prop} {env : Env} {H : AH} {nx : Nat} : retQ Try.prog Try.f61 R .ret env H nx = onV (eg env 4) R H nx := retQ_one rfl (of_decide_eq_true (by kernel_rfl))

theorem ld38 (H : AH) (b o : Nat) : loadV Try.prog H 38 (.pointer (some ⟨b, o, none⟩)) = H.c b o := load_one (by kernel_rfl)
/-! 62: slices.pdqsortOrdered[string] · code of 135 operations -/
def L62 : Nat → List Nat
  | 0 => [0, 1, 2, 3, 8]
  | 1 => [0, 1, 2, 3, 8, 9]
  | 2 => [0, 1, 2, 3, 8, 9, 10]
  | 3 => [0, 1, 2, 3, 8, 9, 10, 23]
  | 4 => []
  | 5 => [0, 1, 2, 3, 8, 9, 10, 29]
  | 6 => []
  | 7 => [0, 1, 2, 3, 8, 9, 10, 35]
  | 8 => [0, 1, 2, 3, 8, 9, 10]
  | 9 => [0, 1, 2, 3, 8, 9, 10]
  | 10 => [0, 1, 2, 3, 8, 9, 10, 11, 12]
  | 11 => [0, 1, 2, 3, 8, 9, 10, 11, 12, 50]
  | 12 => [0, 1, 2, 3, 8, 9, 10, 11]
  | 13 => [0, 1, 2, 3, 8, 9, 10, 11]
  | 14 => [0, 1, 2, 3, 8, 9, 10, 11, 12]
  | 15 => [0, 1, 2, 3, 8, 9, 10, 11, 68]
  | 16 => [0, 1, 2, 3, 8, 9, 10, 11, 72]
  | 17 => [0, 1, 2, 3, 8, 9, 10, 11, 87]
  | 18 => [0, 2, 3, 8, 9, 13]
  | 19 => [0, 1, 2, 3, 8, 9]
  | 20 => [0, 1, 2, 3, 10, 14, 15]
  | 21 => [0, 1, 2, 3, 9, 10, 14]
  | 22 => [0, 1, 2, 3, 9, 10, 14, 16, 17]
  | 23 => [0, 1, 2, 3, 9, 14, 16, 17, 18]
  | 24 => [0, 1, 2, 3, 9, 14, 16, 17, 18, 113]
  | 25 => [0, 1, 2, 3, 8, 9, 14]
  | 26 => [0, 2, 3, 8, 9, 14]
  | 27 => [0, 1, 2, 3, 8, 9]
  | 28 => [0, 1, 2, 3, 8, 9, 14]
  | 29 => [0, 1, 3, 8, 9, 14]
  | 30 => [0, 1, 2, 3, 8, 9]
  | _ => []
theorem L62x0 : L62 0 = [0, 1, 2, 3, 8] := (rfl)
theorem L62x1 : L62 1 = [0, 1, 2, 3, 8, 9] := (rfl)
theorem L62x2 : L62 2 = [0, 1, 2, 3, 8, 9, 10] := (rfl)
theorem L62x3 : L62 3 = [0, 1, 2, 3, 8, 9, 10, 23] := (rfl)
theorem L62x4 : L62 4 = [] := (rfl)
theorem L62x5 : L62 5 = [0, 1, 2, 3, 8, 9, 10, 29] := (rfl)
theorem L62x6 : L62 6 = [] := (rfl)
theorem L62x7 : L62 7 = [0, 1, 2, 3, 8, 9, 10, 35] := (rfl)
theorem L62x8 : L62 8 = [0, 1, 2, 3, 8, 9, 10] := (rfl)
theorem L62x9 : L62 9 = [0, 1, 2, 3, 8, 9, 10] := (rfl)
theorem L62x10 : L62 10 = [0, 1, 2, 3, 8, 9, 10, 11, 12] := (rfl)
theorem L62x11 : L62 11 = [0, 1, 2, 3, 8, 9, 10, 11, 12, 50] := (rfl)
theorem L62x12 : L62 12 = [0, 1, 2, 3, 8, 9, 10, 11] := (rfl)
theorem L62x13 : L62 13 = [0, 1, 2, 3, 8, 9, 10, 11] := (rfl)
theorem L62x14 : L62 14 = [0, 1, 2, 3, 8, 9, 10, 11, 12] := (rfl)
theorem L62x15 : L62 15 = [0, 1, 2, 3, 8, 9, 10, 11, 68] := (rfl)
theorem L62x16 : L62 16 = [0, 1, 2, 3, 8, 9, 10, 11, 72] := (rfl)
theorem L62x17 : L62 17 = [0, 1, 2, 3, 8, 9, 10, 11, 87] := (rfl)
theorem L62x18 : L62 18 = [0, 2, 3, 8, 9, 13] := (rfl)
theorem L62x19 : L62 19 = [0, 1, 2, 3, 8, 9] := (rfl)
theorem L62x20 : L62 20 = [0, 1, 2, 3, 10, 14, 15] := (rfl)
theorem L62x21 : L62 21 = [0, 1, 2, 3, 9, 10, 14] := (rfl)
theorem L62x22 : L62 22 = [0, 1, 2, 3, 9, 10, 14, 16, 17] := (rfl)
theorem L62x23 : L62 23 = [0, 1, 2, 3, 9, 14, 16, 17, 18] := (rfl)
theorem L62x24 : L62 24 = [0, 1, 2, 3, 9, 14, 16, 17, 18, 113] := (rfl)
theorem L62x25 : L62 25 = [0, 1, 2, 3, 8, 9, 14] := (rfl)
theorem L62x26 : L62 26 = [0, 2, 3, 8, 9, 14] := (rfl)
theorem L62x27 : L62 27 = [0, 1, 2, 3, 8, 9] := (rfl)
theorem L62x28 : L62 28 = [0, 1, 2, 3, 8, 9, 14] := (rfl)
theorem L62x29 : L62 29 = [0, 1, 3, 8, 9, 14] := (rfl)
theorem L62x30 : L62 30 = [0, 1, 2, 3, 8, 9] := (rfl)
def ord62x17 : List Nat := [0, 1, 2, 3, 4, 5, 6, 7, 8, 9, 10, 11, 12, 13, 14]
theorem fnOk62 : fnOk Try.prog 62 = true := by kernel_rfl
theorem rq62 {R : Value → AH → Nat → Prop} {env : Env} {H : AH} {nx : Nat} : retQ Try.prog Try.f62 R .ret env H nx = R (.tuple #[]) H nx := retQ_none rfl

/-! 63: math/bits.Len · code of 8 operations -/
def L63 : Nat → List Nat
  | 0 => [0]
  | 1 => [2]
  | 2 => [2]
  | _ => []
theorem L63x0 : L63 0 = [0] := (rfl)
theorem L63x1 : L63 1 = [2] := (rfl)
theorem L63x2 : L63 2 = [2] := (rfl)
theorem fnOk63 : fnOk Try.prog 63 = true := by kernel_rfl
theorem rq63 {R : Value → AH → Nat → Prop} {env : Env} {H : AH} {nx : Nat} : retQ Try.prog Try.f63 R .ret env H nx = onV (eg env 2) R H nx := retQ_one rfl (of_decide_eq_true (by kernel_rfl))

theorem cv102x113 (lo : Nat) (k' : IntKind) (n : Int) (K : Value → AH → Nat → Prop) (H : AH) (nx : Nat) : convQ Try.prog lo 102 113 (.int k' n) K H nx = K (.int .u32 (IntKind.wrap .u32 n)) H nx := convQ_int (by kernel_rfl) (by kernel_rfl)
theorem cx102x113 (k' : IntKind) (n : Int) (H : AH) : convV Try.prog H 102 113 (.int k' n) = some (.int .u32 (IntKind.wrap .u32 n)) := convV_int (by kernel_rfl) (by kernel_rfl)
/-! 64: slices.insertionSortOrdered[string] · code of 47 operations -/
def L64 : Nat → List Nat
  | 0 => [0, 1, 2, 6]
  | 1 => [0, 1, 2, 6, 12]
  | 3 => [0, 1, 2, 6, 7]
  | 4 => [0, 1, 2, 6, 7, 30]
  | 6 => [0, 1, 2, 6, 7]
  | 5 => [0, 1, 2, 6, 7]
  | 2 => [0, 1, 2, 6]
  | _ => []
theorem L64x0 : L64 0 = [0, 1, 2, 6] := (rfl)
theorem L64x1 : L64 1 = [0, 1, 2, 6, 12] := (rfl)
theorem L64x3 : L64 3 = [0, 1, 2, 6, 7] := (rfl)
theorem L64x4 : L64 4 = [0, 1, 2, 6, 7, 30] := (rfl)
theorem L64x6 : L64 6 = [0, 1, 2, 6, 7] := (rfl)
theorem L64x5 : L64 5 = [0, 1, 2, 6, 7] := (rfl)
theorem L64x2 : L64 2 = [0, 1, 2, 6] := (rfl)
def ord64x4 : List Nat := [0, 1, 2, 3, 4, 5, 6, 7, 8, 9, 10, 11, 12, 13, 14]
def ord64x6 : List Nat := [0, 1, 2, 3, 4, 5, 6, 7, 8, 9, 10, 11, 12, 13, 14, 15, 16, 17]
theorem fnOk64 : fnOk Try.prog 64 = true := by kernel_rfl
theorem rq64 {R : Value → AH → Nat → Prop} {env : Env} {H : AH} {nx : Nat} : retQ Try.prog Try.f64 R .ret env H nx = R (.tuple #[]) H nx := retQ_none rfl

theorem st9 (lo : Nat) (b o : Nat) (v : Value) (K : AH → Nat → Prop) (H : AH) (nx : Nat) (hv : v.oneCell' = true) : storeQ Try.prog lo 9 (.pointer (some ⟨b, o, none⟩)) v K H nx = stQ lo b o v K H nx := store_one (by kernel_rfl) hv
theorem stc9 (lo : Nat) (b o : Nat) (s : ByteArray) (K : AH → Nat → Prop) (H : AH) (nx : Nat) : storeQ Try.prog lo 9 (.pointer (some ⟨b, o, none⟩)) (.string s) K H nx = stQ lo b o (.string s) K H nx := store_one (by kernel_rfl) rfl
/-! 65: slices.heapSortOrdered[string] · code of 54 operations -/
def L65 : Nat → List Nat
  | 0 => [0, 1, 2, 6]
  | 1 => [0, 1, 2, 6, 7]
  | 2 => [0, 6, 7, 8]
  | 3 => [0, 6, 7, 8, 9]
  | 4 => [0, 6, 7, 8, 9, 19]
  | 6 => [0, 6, 7, 8, 9]
  | 5 => [0, 6, 7, 8, 9]
  | 7 => [0, 6, 7, 10]
  | 8 => [0, 6, 7, 10, 30]
  | 10 => [0, 6, 7, 10]
  | 11 => [0, 6, 7, 10]
  | 9 => [0, 6, 7, 10]
  | _ => []
theorem L65x0 : L65 0 = [0, 1, 2, 6] := (rfl)
theorem L65x1 : L65 1 = [0, 1, 2, 6, 7] := (rfl)
theorem L65x2 : L65 2 = [0, 6, 7, 8] := (rfl)
theorem L65x3 : L65 3 = [0, 6, 7, 8, 9] := (rfl)
theorem L65x4 : L65 4 = [0, 6, 7, 8, 9, 19] := (rfl)
theorem L65x6 : L65 6 = [0, 6, 7, 8, 9] := (rfl)
theorem L65x5 : L65 5 = [0, 6, 7, 8, 9] := (rfl)
theorem L65x7 : L65 7 = [0, 6, 7, 10] := (rfl)
theorem L65x8 : L65 8 = [0, 6, 7, 10, 30] := (rfl)
theorem L65x10 : L65 10 = [0, 6, 7, 10] := (rfl)
theorem L65x11 : L65 11 = [0, 6, 7, 10] := (rfl)
theorem L65x9 : L65 9 = [0, 6, 7, 10] := (rfl)
def ord65x10 : List Nat := [0, 1, 2, 3, 4, 5, 6, 7, 8, 9, 10, 11, 12, 13, 14, 15, 16, 17, 18, 19]
theorem fnOk65 : fnOk Try.prog 65 = true := by kernel_rfl
theorem rq65 {R : Value → AH → Nat → Prop} {env : Env} {H : AH} {nx : Nat} : retQ Try.prog Try.f65 R .ret env H nx = R (.tuple #[]) H nx := retQ_none rfl

/-! 66: slices.breakPatternsOrdered[string] · code of 64 operations -/
def L66 : Nat → List Nat
  | 0 => [0, 1, 6]
  | 1 => [0, 1, 6, 15]
  | 2 => [0, 1, 6, 7]
  | 3 => [0, 1, 6, 7, 8]
  | 4 => [0, 1, 6, 7, 8, 9]
  | 5 => [0, 1, 6, 7, 8, 9, 33]
  | 7 => [0, 1, 6, 7, 8, 9, 10]
  | 8 => [0, 1, 6, 7, 8, 9, 10, 43]
  | 9 => [0, 1, 6, 7, 8, 9, 10]
  | 10 => [0, 1, 6, 7, 8, 9]
  | 6 => [0, 1, 6, 7, 8, 9]
  | _ => []
theorem L66x0 : L66 0 = [0, 1, 6] := (rfl)
theorem L66x1 : L66 1 = [0, 1, 6, 15] := (rfl)
theorem L66x2 : L66 2 = [0, 1, 6, 7] := (rfl)
theorem L66x3 : L66 3 = [0, 1, 6, 7, 8] := (rfl)
theorem L66x4 : L66 4 = [0, 1, 6, 7, 8, 9] := (rfl)
theorem L66x5 : L66 5 = [0, 1, 6, 7, 8, 9, 33] := (rfl)
theorem L66x7 : L66 7 = [0, 1, 6, 7, 8, 9, 10] := (rfl)
theorem L66x8 : L66 8 = [0, 1, 6, 7, 8, 9, 10, 43] := (rfl)
theorem L66x9 : L66 9 = [0, 1, 6, 7, 8, 9, 10] := (rfl)
theorem L66x10 : L66 10 = [0, 1, 6, 7, 8, 9] := (rfl)
theorem L66x6 : L66 6 = [0, 1, 6, 7, 8, 9] := (rfl)
def ord66x10 : List Nat := [0, 1, 2, 3, 4, 5, 6, 7, 8, 9, 10, 11, 12, 13, 14, 15, 16, 17, 18, 19]
theorem fnOk66 : fnOk Try.prog 66 = true := by kernel_rfl
theorem rq66 {R : Value → AH → Nat → Prop} {env : Env} {H : AH} {nx : Nat} : retQ Try.prog Try.f66 R .ret env H nx = R (.tuple #[]) H nx := retQ_none rfl

theorem cv3x116 (lo : Nat) (k' : IntKind) (n : Int) (K : Value → AH → Nat → Prop) (H : AH) (nx : Nat) : convQ Try.prog lo 3 116 (.int k' n) K H nx = K (.int .u64 (IntKind.wrap .u64 n)) H nx := convQ_int (by kernel_rfl) (by kernel_rfl)
theorem cx3x116 (k' : IntKind) (n : Int) (H : AH) : convV Try.prog H 3 116 (.int k' n) = some (.int .u64 (IntKind.wrap .u64 n)) := convV_int (by kernel_rfl) (by kernel_rfl)
theorem zero116 : zeroT Try.prog 116 = some (.int .u64 0) := by kernel_rfl
theorem al116 (lo : Nat) (K : Value → AH → Nat → Prop) (H : AH) (nx : Nat) : allocQ Try.prog lo 116 K H nx = newQ 116 ((.int .u64 0) : Value).cells K H nx := alloc_new zero116
theorem st116 (lo : Nat) (b o : Nat) (v : Value) (K : AH → Nat → Prop) (H : AH) (nx : Nat) (hv : v.oneCell' = true) : storeQ Try.prog lo 116 (.pointer (some ⟨b, o, none⟩)) v K H nx = stQ lo b o v K H nx := store_one (by kernel_rfl) hv
theorem stc116 (lo : Nat) (b o : Nat) (k : IntKind) (n : Int) (K : AH → Nat → Prop) (H : AH) (nx : Nat) : storeQ Try.prog lo 116 (.pointer (some ⟨b, o, none⟩)) (.int k n) K H nx = stQ lo b o (.int k n) K H nx := store_one (by kernel_rfl) rfl
theorem cv102x3 (lo : Nat) (k' : IntKind) (n : Int) (K : Value → AH → Nat → Prop) (H : AH) (nx : Nat) : convQ Try.prog lo 102 3 (.int k' n) K H nx = K (.int .i64 (IntKind.wrap .i64 n)) H nx := convQ_int (by kernel_rfl) (by kernel_rfl)
theorem cx102x3 (k' : IntKind) (n : Int) (H : AH) : convV Try.prog H 102 3 (.int k' n) = some (.int .i64 (IntKind.wrap .i64 n)) := convV_int (by kernel_rfl) (by kernel_rfl)
/-! 67: slices.choosePivotOrdered[string] · code of 61 operations -/
def L67 : Nat → List Nat
  | 0 => [0, 1, 2]
  | 1 => [0, 1, 8]
  | 2 => [0, 1, 8, 9]
  | 3 => [0, 1, 8, 9, 10]
  | 4 => [0, 1, 8, 9, 10, 11]
  | 5 => [0, 8, 9, 10, 11, 12]
  | 6 => [0, 8, 9, 10, 11, 12, 32]
  | 7 => [0, 9, 10, 11, 12, 34]
  | 8 => [0, 9, 10, 11, 12]
  | 9 => [0, 9, 10, 11, 12]
  | 10 => [0, 9, 10, 11, 12]
  | 11 => [9, 11]
  | 12 => [11, 49]
  | 14 => [11, 49, 51]
  | 15 => [6, 7]
  | 16 => [11, 54]
  | 17 => [6, 7]
  | 13 => [6, 7]
  | _ => []
theorem L67x0 : L67 0 = [0, 1, 2] := (rfl)
theorem L67x1 : L67 1 = [0, 1, 8] := (rfl)
theorem L67x2 : L67 2 = [0, 1, 8, 9] := (rfl)
theorem L67x3 : L67 3 = [0, 1, 8, 9, 10] := (rfl)
theorem L67x4 : L67 4 = [0, 1, 8, 9, 10, 11] := (rfl)
theorem L67x5 : L67 5 = [0, 8, 9, 10, 11, 12] := (rfl)
theorem L67x6 : L67 6 = [0, 8, 9, 10, 11, 12, 32] := (rfl)
theorem L67x7 : L67 7 = [0, 9, 10, 11, 12, 34] := (rfl)
theorem L67x8 : L67 8 = [0, 9, 10, 11, 12] := (rfl)
theorem L67x9 : L67 9 = [0, 9, 10, 11, 12] := (rfl)
theorem L67x10 : L67 10 = [0, 9, 10, 11, 12] := (rfl)
theorem L67x11 : L67 11 = [9, 11] := (rfl)
theorem L67x12 : L67 12 = [11, 49] := (rfl)
theorem L67x14 : L67 14 = [11, 49, 51] := (rfl)
theorem L67x15 : L67 15 = [6, 7] := (rfl)
theorem L67x16 : L67 16 = [11, 54] := (rfl)
theorem L67x17 : L67 17 = [6, 7] := (rfl)
theorem L67x13 : L67 13 = [6, 7] := (rfl)
theorem fnOk67 : fnOk Try.prog 67 = true := by kernel_rfl
theorem rq67 {R : Value → AH → Nat → Prop} {env : Env} {H : AH} {nx : Nat} : retQ Try.prog Try.f67 R .ret env H nx = onA (eg env 6) (fun v => onA (eg env 7) fun u => R (.tuple #[v, u]) H nx) := retQ_two rfl (of_decide_eq_true (by kernel_rfl)) (of_decide_eq_true (by kernel_rfl))

/-! 68: slices.reverseRangeOrdered[string] · code of 30 operations -/
def L68 : Nat → List Nat
  | 0 => [0, 2, 6]
  | 1 => [0, 6, 7]
  | 2 => [0, 6, 7, 13]
  | 3 => [0, 6, 7]
  | 4 => [0, 6, 7]
  | 5 => [0, 6, 7]
  | _ => []
theorem L68x0 : L68 0 = [0, 2, 6] := (rfl)
theorem L68x1 : L68 1 = [0, 6, 7] := (rfl)
theorem L68x2 : L68 2 = [0, 6, 7, 13] := (rfl)
theorem L68x3 : L68 3 = [0, 6, 7] := (rfl)
theorem L68x4 : L68 4 = [0, 6, 7] := (rfl)
theorem L68x5 : L68 5 = [0, 6, 7] := (rfl)
def ord68x3 : List Nat := [0, 1, 2, 3, 4, 5, 6, 7, 8, 9, 10, 11, 12, 13, 14, 15]
theorem fnOk68 : fnOk Try.prog 68 = true := by kernel_rfl
theorem rq68 {R : Value → AH → Nat → Prop} {env : Env} {H : AH} {nx : Nat} : retQ Try.prog Try.f68 R .ret env H nx = R (.tuple #[]) H nx := retQ_none rfl

/-! 69: slices.partialInsertionSortOrdered[string] · code of 140 operations -/
def L69 : Nat → List Nat
  | 0 => [0, 1, 2]
  | 1 => [0, 1, 2, 7]
  | 2 => [0, 1, 2, 7, 8]
  | 3 => [0, 1, 2, 7, 8, 14]
  | 5 => [0, 1, 2, 7, 8, 32]
  | 6 => [0, 1, 2, 7, 8]
  | 7 => [0, 1, 2, 7, 8, 37]
  | 8 => [6]
  | 9 => [0, 1, 2, 7, 8, 41]
  | 10 => [6]
  | 11 => [0, 1, 2, 7, 8]
  | 12 => [0, 1, 2, 7, 8, 61]
  | 13 => [0, 1, 2, 7, 8, 9]
  | 14 => [0, 1, 2, 7, 8, 9, 65]
  | 16 => [0, 1, 2, 7, 8, 9, 78]
  | 17 => [0, 1, 2, 7, 8, 9]
  | 15 => [0, 1, 2, 7, 8, 9]
  | 18 => [0, 1, 2, 7, 8, 98]
  | 19 => [0, 1, 2, 7, 8, 10]
  | 20 => [0, 1, 2, 7, 8, 10, 103]
  | 22 => [0, 1, 2, 7, 8, 10, 116]
  | 23 => [0, 1, 2, 7, 8, 10]
  | 21 => [0, 1, 2, 7, 8, 10]
  | 4 => [0, 1, 2, 7, 8]
  | 24 => [6]
  | _ => []
theorem L69x0 : L69 0 = [0, 1, 2] := (rfl)
theorem L69x1 : L69 1 = [0, 1, 2, 7] := (rfl)
theorem L69x2 : L69 2 = [0, 1, 2, 7, 8] := (rfl)
theorem L69x3 : L69 3 = [0, 1, 2, 7, 8, 14] := (rfl)
theorem L69x5 : L69 5 = [0, 1, 2, 7, 8, 32] := (rfl)
theorem L69x6 : L69 6 = [0, 1, 2, 7, 8] := (rfl)
theorem L69x7 : L69 7 = [0, 1, 2, 7, 8, 37] := (rfl)
theorem L69x8 : L69 8 = [6] := (rfl)
theorem L69x9 : L69 9 = [0, 1, 2, 7, 8, 41] := (rfl)
theorem L69x10 : L69 10 = [6] := (rfl)
theorem L69x11 : L69 11 = [0, 1, 2, 7, 8] := (rfl)
theorem L69x12 : L69 12 = [0, 1, 2, 7, 8, 61] := (rfl)
theorem L69x13 : L69 13 = [0, 1, 2, 7, 8, 9] := (rfl)
theorem L69x14 : L69 14 = [0, 1, 2, 7, 8, 9, 65] := (rfl)
theorem L69x16 : L69 16 = [0, 1, 2, 7, 8, 9, 78] := (rfl)
theorem L69x17 : L69 17 = [0, 1, 2, 7, 8, 9] := (rfl)
theorem L69x15 : L69 15 = [0, 1, 2, 7, 8, 9] := (rfl)
theorem L69x18 : L69 18 = [0, 1, 2, 7, 8, 98] := (rfl)
theorem L69x19 : L69 19 = [0, 1, 2, 7, 8, 10] := (rfl)
theorem L69x20 : L69 20 = [0, 1, 2, 7, 8, 10, 103] := (rfl)
theorem L69x22 : L69 22 = [0, 1, 2, 7, 8, 10, 116] := (rfl)
theorem L69x23 : L69 23 = [0, 1, 2, 7, 8, 10] := (rfl)
theorem L69x21 : L69 21 = [0, 1, 2, 7, 8, 10] := (rfl)
theorem L69x4 : L69 4 = [0, 1, 2, 7, 8] := (rfl)
theorem L69x24 : L69 24 = [6] := (rfl)
def ord69x5 : List Nat := [0, 1, 2, 3, 4, 5, 6, 7, 8, 9, 10, 11, 12, 13, 14, 15]
def ord69x11 : List Nat := [0, 1, 2, 3, 4, 5, 6, 7, 8, 9, 10, 11, 12, 13, 14, 15, 16, 17]
def ord69x16 : List Nat := [0, 1, 2, 3, 4, 5, 6, 7, 8, 9, 10]
def ord69x17 : List Nat := [0, 1, 2, 3, 4, 5, 6, 7, 8, 9, 10, 11, 12, 13, 14, 15, 16, 17]
def ord69x22 : List Nat := [0, 1, 2, 3, 4, 5, 6, 7, 8, 9, 10]
def ord69x23 : List Nat := [0, 1, 2, 3, 4, 5, 6, 7, 8, 9, 10, 11, 12, 13, 14, 15, 16, 17]
theorem fnOk69 : fnOk Try.prog 69 = true := by kernel_rfl
theorem rq69 {R : Value → AH → Nat → Prop} {env : Env} {H : AH} {nx : Nat} : retQ Try.prog Try.f69 R .ret env H nx = onV (eg env 6) R H nx := retQ_one rfl (of_decide_eq_true (by kernel_rfl))

/-! 70: cmp.Less[string] · code of 14 operations -/
def L70 : Nat → List Nat
  | 0 => [0, 1]
  | 1 => [4]
  | _ => []
theorem L70x0 : L70 0 = [0, 1] := (rfl)
theorem L70x1 : L70 1 = [4] := (rfl)
theorem fnOk70 : fnOk Try.prog 70 = true := by kernel_rfl
theorem rq70 {R : Value → AH → Nat → Prop} {env : Env} {H : AH} {nx : Nat} : retQ Try.prog Try.f70 R .ret env H nx = onV (eg env 4) R H nx := retQ_one rfl (of_decide_eq_true (by kernel_rfl))

/-! 71: slices.partitionEqualOrdered[string] · code of 85 operations -/
def L71 : Nat → List Nat
  | 0 => [0, 1, 2, 3]
  | 1 => [0, 1, 2]
  | 2 => [0, 1, 9, 10]
  | 3 => [0, 1, 9, 10, 43]
  | 4 => [0, 1, 9, 10]
  | 5 => [0, 1, 9, 10, 59]
  | 6 => [0, 1, 9, 10]
  | 7 => [0, 1, 9, 10, 64]
  | 8 => [0, 1, 9, 10]
  | 9 => [0, 1, 9, 10]
  | 10 => [0, 1, 9, 10]
  | 11 => [8]
  | _ => []
theorem L71x0 : L71 0 = [0, 1, 2, 3] := (rfl)
theorem L71x1 : L71 1 = [0, 1, 2] := (rfl)
theorem L71x2 : L71 2 = [0, 1, 9, 10] := (rfl)
theorem L71x3 : L71 3 = [0, 1, 9, 10, 43] := (rfl)
theorem L71x4 : L71 4 = [0, 1, 9, 10] := (rfl)
theorem L71x5 : L71 5 = [0, 1, 9, 10, 59] := (rfl)
theorem L71x6 : L71 6 = [0, 1, 9, 10] := (rfl)
theorem L71x7 : L71 7 = [0, 1, 9, 10, 64] := (rfl)
theorem L71x8 : L71 8 = [0, 1, 9, 10] := (rfl)
theorem L71x9 : L71 9 = [0, 1, 9, 10] := (rfl)
theorem L71x10 : L71 10 = [0, 1, 9, 10] := (rfl)
theorem L71x11 : L71 11 = [8] := (rfl)
def ord71x1 : List Nat := [0, 1, 2, 3, 4, 5, 6, 7, 8, 9, 10, 11, 12, 13, 14, 15]
def ord71x3 : List Nat := [0, 1, 2, 3, 4, 5, 6, 7, 8, 9, 10, 11, 12, 13, 14]
def ord71x5 : List Nat := [0, 1, 2, 3, 4, 5, 6, 7, 8, 9, 10, 11, 12, 13]
def ord71x8 : List Nat := [0, 1, 2, 3, 4, 5, 6, 7, 8, 9, 10, 11, 12, 13, 14, 15]
theorem fnOk71 : fnOk Try.prog 71 = true := by kernel_rfl
theorem rq71 {R : Value → AH → Nat → Prop} {env : Env} {H : AH} {nx : Nat} : retQ Try.prog Try.f71 R .ret env H nx = onV (eg env 8) R H nx := retQ_one rfl (of_decide_eq_true (by kernel_rfl))

/-! 72: slices.partitionOrdered[string] · code of 182 operations -/
def L72 : Nat → List Nat
  | 0 => [0, 1, 2, 3]
  | 1 => [0, 1, 2]
  | 2 => [0, 1, 10, 11]
  | 3 => [0, 1, 10, 11, 43]
  | 4 => [0, 1, 10, 11]
  | 5 => [0, 1, 10, 11, 60]
  | 6 => [0, 1, 10, 11]
  | 7 => [0, 1, 10, 11, 65]
  | 8 => [11]
  | 9 => [8, 9]
  | 10 => [0, 1, 10, 11]
  | 11 => [0, 1, 10, 11]
  | 12 => [0, 1, 10, 11]
  | 13 => [0, 1, 10, 11, 112]
  | 14 => [0, 1, 10, 11]
  | 15 => [0, 1, 10, 11, 129]
  | 16 => [0, 1, 10, 11]
  | 17 => [0, 1, 10, 11, 134]
  | 18 => [0, 1, 10, 11]
  | 19 => [0, 1, 10, 11]
  | 20 => [0, 1, 10, 11]
  | 21 => [11]
  | 22 => [8, 9]
  | _ => []
theorem L72x0 : L72 0 = [0, 1, 2, 3] := (rfl)
theorem L72x1 : L72 1 = [0, 1, 2] := (rfl)
theorem L72x2 : L72 2 = [0, 1, 10, 11] := (rfl)
theorem L72x3 : L72 3 = [0, 1, 10, 11, 43] := (rfl)
theorem L72x4 : L72 4 = [0, 1, 10, 11] := (rfl)
theorem L72x5 : L72 5 = [0, 1, 10, 11, 60] := (rfl)
theorem L72x6 : L72 6 = [0, 1, 10, 11] := (rfl)
theorem L72x7 : L72 7 = [0, 1, 10, 11, 65] := (rfl)
theorem L72x8 : L72 8 = [11] := (rfl)
theorem L72x9 : L72 9 = [8, 9] := (rfl)
theorem L72x10 : L72 10 = [0, 1, 10, 11] := (rfl)
theorem L72x11 : L72 11 = [0, 1, 10, 11] := (rfl)
theorem L72x12 : L72 12 = [0, 1, 10, 11] := (rfl)
theorem L72x13 : L72 13 = [0, 1, 10, 11, 112] := (rfl)
theorem L72x14 : L72 14 = [0, 1, 10, 11] := (rfl)
theorem L72x15 : L72 15 = [0, 1, 10, 11, 129] := (rfl)
theorem L72x16 : L72 16 = [0, 1, 10, 11] := (rfl)
theorem L72x17 : L72 17 = [0, 1, 10, 11, 134] := (rfl)
theorem L72x18 : L72 18 = [0, 1, 10, 11] := (rfl)
theorem L72x19 : L72 19 = [0, 1, 10, 11] := (rfl)
theorem L72x20 : L72 20 = [0, 1, 10, 11] := (rfl)
theorem L72x21 : L72 21 = [11] := (rfl)
theorem L72x22 : L72 22 = [8, 9] := (rfl)
def ord72x1 : List Nat := [0, 1, 2, 3, 4, 5, 6, 7, 8, 9, 10, 11, 12, 13, 14, 15]
def ord72x3 : List Nat := [0, 1, 2, 3, 4, 5, 6, 7, 8, 9, 10, 11, 12, 13]
def ord72x5 : List Nat := [0, 1, 2, 3, 4, 5, 6, 7, 8, 9, 10, 11, 12, 13, 14]
def ord72x8 : List Nat := [0, 1, 2, 3, 4, 5, 6, 7, 8, 9, 10, 11, 12, 13, 14, 15]
def ord72x10 : List Nat := [0, 1, 2, 3, 4, 5, 6, 7, 8, 9, 10, 11, 12, 13, 14, 15]
def ord72x13 : List Nat := [0, 1, 2, 3, 4, 5, 6, 7, 8, 9, 10, 11, 12, 13]
def ord72x15 : List Nat := [0, 1, 2, 3, 4, 5, 6, 7, 8, 9, 10, 11, 12, 13, 14]
def ord72x18 : List Nat := [0, 1, 2, 3, 4, 5, 6, 7, 8, 9, 10, 11, 12, 13, 14, 15]
def ord72x21 : List Nat := [0, 1, 2, 3, 4, 5, 6, 7, 8, 9, 10, 11, 12, 13, 14, 15]
theorem fnOk72 : fnOk Try.prog 72 = true := by kernel_rfl
theorem rq72 {R : Value → AH → Nat → Prop} {env : Env} {H : AH} {nx : Nat} : retQ Try.prog Try.f72 R .ret env H nx = onA (eg env 8) (fun v => onA (eg env 9) fun u => R (.tuple #[v, u]) H nx) := retQ_two rfl (of_decide_eq_true (by kernel_rfl)) (of_decide_eq_true (by kernel_rfl))

/-! 73: math/bits.Len32 · code of 22 operations -/
def L73 : Nat → List Nat
  | 0 => [0, 2]
  | 1 => [0, 2, 4]
  | 2 => [0]
  | 3 => [0, 2]
  | 4 => [0, 2, 8]
  | 5 => [0, 2]
  | 6 => [0, 2]
  | 7 => [2]
  | _ => []
theorem L73x0 : L73 0 = [0, 2] := (rfl)
theorem L73x1 : L73 1 = [0, 2, 4] := (rfl)
theorem L73x2 : L73 2 = [0] := (rfl)
theorem L73x3 : L73 3 = [0, 2] := (rfl)
theorem L73x4 : L73 4 = [0, 2, 8] := (rfl)
theorem L73x5 : L73 5 = [0, 2] := (rfl)
theorem L73x6 : L73 6 = [0, 2] := (rfl)
theorem L73x7 : L73 7 = [2] := (rfl)
theorem fnOk73 : fnOk Try.prog 73 = true := by kernel_rfl
theorem rq73 {R : Value → AH → Nat → Prop} {env : Env} {H : AH} {nx : Nat} : retQ Try.prog Try.f73 R .ret env H nx = onV (eg env 2) R H nx := retQ_one rfl (of_decide_eq_true (by kernel_rfl))

theorem cv113x5 (lo : Nat) (k' : IntKind) (n : Int) (K : Value → AH → Nat → Prop) (H : AH) (nx : Nat) : convQ Try.prog lo 113 5 (.int k' n) K H nx = K (.int .u8 (IntKind.wrap .u8 n)) H nx := convQ_int (by kernel_rfl) (by kernel_rfl)
theorem cx113x5 (k' : IntKind) (n : Int) (H : AH) : convV Try.prog H 113 5 (.int k' n) = some (.int .u8 (IntKind.wrap .u8 n)) := convV_int (by kernel_rfl) (by kernel_rfl)
/-! 74: math/bits.Len64 · code of 30 operations -/
def L74 : Nat → List Nat
  | 0 => [0, 2]
  | 1 => [0, 2, 4]
  | 2 => [0]
  | 3 => [0, 2]
  | 4 => [0, 2, 8]
  | 5 => [0, 2]
  | 6 => [0, 2]
  | 7 => [0, 2, 14]
  | 8 => [0, 2]
  | 9 => [0, 2]
  | 10 => [2]
  | _ => []
theorem L74x0 : L74 0 = [0, 2] := (rfl)
theorem L74x1 : L74 1 = [0, 2, 4] := (rfl)
theorem L74x2 : L74 2 = [0] := (rfl)
theorem L74x3 : L74 3 = [0, 2] := (rfl)
theorem L74x4 : L74 4 = [0, 2, 8] := (rfl)
theorem L74x5 : L74 5 = [0, 2] := (rfl)
theorem L74x6 : L74 6 = [0, 2] := (rfl)
theorem L74x7 : L74 7 = [0, 2, 14] := (rfl)
theorem L74x8 : L74 8 = [0, 2] := (rfl)
theorem L74x9 : L74 9 = [0, 2] := (rfl)
theorem L74x10 : L74 10 = [2] := (rfl)
theorem fnOk74 : fnOk Try.prog 74 = true := by kernel_rfl
theorem rq74 {R : Value → AH → Nat → Prop} {env : Env} {H : AH} {nx : Nat} : retQ Try.prog Try.f74 R .ret env H nx = onV (eg env 2) R H nx := retQ_one rfl (of_decide_eq_true (by kernel_rfl))

theorem cv115x5 (lo : Nat) (k' : IntKind) (n : Int) (K : Value → AH → Nat → Prop) (H : AH) (nx : Nat) : convQ Try.prog lo 115 5 (.int k' n) K H nx = K (.int .u8 (IntKind.wrap .u8 n)) H nx := convQ_int (by kernel_rfl) (by kernel_rfl)
theorem cx115x5 (k' : IntKind) (n : Int) (H : AH) : convV Try.prog H 115 5 (.int k' n) = some (.int .u8 (IntKind.wrap .u8 n)) := convV_int (by kernel_rfl) (by kernel_rfl)
/-! 75: slices.siftDownOrdered[string] · code of 72 operations -/
def L75 : Nat → List Nat
  | 0 => [0, 2, 3, 8]
  | 1 => [0, 2, 3, 8, 9]
  | 2 => [0, 2, 3, 8, 9, 16]
  | 3 => [0, 2, 3, 8, 9, 36]
  | 4 => [0, 2, 3, 8, 9]
  | 5 => [0, 2, 3, 8, 9, 52]
  | 6 => [0, 2, 3, 9]
  | 7 => [0, 2, 3, 8]
  | _ => []
theorem L75x0 : L75 0 = [0, 2, 3, 8] := (rfl)
theorem L75x1 : L75 1 = [0, 2, 3, 8, 9] := (rfl)
theorem L75x2 : L75 2 = [0, 2, 3, 8, 9, 16] := (rfl)
theorem L75x3 : L75 3 = [0, 2, 3, 8, 9, 36] := (rfl)
theorem L75x4 : L75 4 = [0, 2, 3, 8, 9] := (rfl)
theorem L75x5 : L75 5 = [0, 2, 3, 8, 9, 52] := (rfl)
theorem L75x6 : L75 6 = [0, 2, 3, 9] := (rfl)
theorem L75x7 : L75 7 = [0, 2, 3, 8] := (rfl)
def ord75x3 : List Nat := [0, 1, 2, 3, 4, 5, 6, 7, 8, 9, 10, 11, 12, 13, 14, 15, 16, 17, 18, 19]
def ord75x5 : List Nat := [0, 1, 2, 3, 4, 5, 6, 7, 8, 9, 10, 11, 12, 13]
def ord75x6 : List Nat := [0, 1, 2, 3, 4, 5, 6, 7, 8, 9, 10, 11, 12, 13, 14, 15, 16, 17, 18, 19, 20, 21, 22, 23]
theorem fnOk75 : fnOk Try.prog 75 = true := by kernel_rfl
theorem rq75 {R : Value → AH → Nat → Prop} {env : Env} {H : AH} {nx : Nat} : retQ Try.prog Try.f75 R .ret env H nx = R (.tuple #[]) H nx := retQ_none rfl

/-! 76: slices.nextPowerOfTwo · code of 6 operations -/
def L76 : Nat → List Nat
  | 0 => [0]
  | 1 => [2]
  | _ => []
theorem L76x0 : L76 0 = [0] := (rfl)
theorem L76x1 : L76 1 = [2] := (rfl)
theorem fnOk76 : fnOk Try.prog 76 = true := by kernel_rfl
theorem rq76 {R : Value → AH → Nat → Prop} {env : Env} {H : AH} {nx : Nat} : retQ Try.prog Try.f76 R .ret env H nx = onV (eg env 2) R H nx := retQ_one rfl (of_decide_eq_true (by kernel_rfl))

/-! 77: (*slices.xorshift).Next · code of 35 operations -/
def L77 : Nat → List Nat
  | 0 => [0]
  | 1 => [0]
  | 2 => [0]
  | 3 => [0]
  | 4 => [2]
  | _ => []
theorem L77x0 : L77 0 = [0] := (rfl)
theorem L77x1 : L77 1 = [0] := (rfl)
theorem L77x2 : L77 2 = [0] := (rfl)
theorem L77x3 : L77 3 = [0] := (rfl)
theorem L77x4 : L77 4 = [2] := (rfl)
def ord77x1 : List Nat := [0, 1, 2, 3, 4, 5, 6, 7, 8, 9]
def ord77x2 : List Nat := [0, 1, 2, 3, 4, 5, 6, 7, 8, 9]
def ord77x3 : List Nat := [0, 1, 2, 3, 4, 5, 6, 7, 8, 9]
theorem fnOk77 : fnOk Try.prog 77 = true := by kernel_rfl
theorem rq77 {R : Value → AH → Nat → Prop} {env : Env} {H : AH} {nx : Nat} : retQ Try.prog Try.f77 R .ret env H nx = onV (eg env 2) R H nx := retQ_one rfl (of_decide_eq_true (by kernel_rfl))

theorem ld116 (H : AH) (b o : Nat) : loadV Try.prog H 116 (.pointer (some ⟨b, o, none⟩)) = H.c b o := load_one (by kernel_rfl)
/-! 78: slices.medianAdjacentOrdered[string] · code of 10 operations -/
def L78 : Nat → List Nat
  | 0 => [0, 1, 2]
  | 1 => [6]
  | _ => []
theorem L78x0 : L78 0 = [0, 1, 2] := (rfl)
theorem L78x1 : L78 1 = [6] := (rfl)
theorem fnOk78 : fnOk Try.prog 78 = true := by kernel_rfl
theorem rq78 {R : Value → AH → Nat → Prop} {env : Env} {H : AH} {nx : Nat} : retQ Try.prog Try.f78 R .ret env H nx = onV (eg env 6) R H nx := retQ_one rfl (of_decide_eq_true (by kernel_rfl))

/-! 79: slices.medianOrdered[string] · code of 33 operations -/
def L79 : Nat → List Nat
  | 0 => [0, 1, 2, 3, 4]
  | 1 => [0, 1, 2, 3, 4]
  | 2 => [0, 1, 2, 4]
  | 3 => [2]
  | 4 => [10]
  | _ => []
theorem L79x0 : L79 0 = [0, 1, 2, 3, 4] := (rfl)
theorem L79x1 : L79 1 = [0, 1, 2, 3, 4] := (rfl)
theorem L79x2 : L79 2 = [0, 1, 2, 4] := (rfl)
theorem L79x3 : L79 3 = [2] := (rfl)
theorem L79x4 : L79 4 = [10] := (rfl)
theorem fnOk79 : fnOk Try.prog 79 = true := by kernel_rfl
theorem rq79 {R : Value → AH → Nat → Prop} {env : Env} {H : AH} {nx : Nat} : retQ Try.prog Try.f79 R .ret env H nx = onV (eg env 10) R H nx := retQ_one rfl (of_decide_eq_true (by kernel_rfl))

/-! 80: cmp.isNaN[string] · code of 5 operations -/
def L80 : Nat → List Nat
  | 0 => [0]
  | 1 => [2]
  | _ => []
theorem L80x0 : L80 0 = [0] := (rfl)
theorem L80x1 : L80 1 = [2] := (rfl)
theorem fnOk80 : fnOk Try.prog 80 = true := by kernel_rfl
theorem rq80 {R : Value → AH → Nat → Prop} {env : Env} {H : AH} {nx : Nat} : retQ Try.prog Try.f80 R .ret env H nx = onV (eg env 2) R H nx := retQ_one rfl (of_decide_eq_true (by kernel_rfl))

/-! 81: slices.order2Ordered[string] · code of 25 operations -/
def L81 : Nat → List Nat
  | 0 => [0, 1, 2, 3]
  | 1 => [1, 2, 3, 18]
  | 2 => [1, 2]
  | 3 => [8, 9]
  | 4 => [8, 9]
  | _ => []
theorem L81x0 : L81 0 = [0, 1, 2, 3] := (rfl)
theorem L81x1 : L81 1 = [1, 2, 3, 18] := (rfl)
theorem L81x2 : L81 2 = [1, 2] := (rfl)
theorem L81x3 : L81 3 = [8, 9] := (rfl)
theorem L81x4 : L81 4 = [8, 9] := (rfl)
def ord81x1 : List Nat := [0, 1, 2, 3, 4, 5, 6, 7, 8]
theorem fnOk81 : fnOk Try.prog 81 = true := by kernel_rfl
theorem rq81 {R : Value → AH → Nat → Prop} {env : Env} {H : AH} {nx : Nat} : retQ Try.prog Try.f81 R .ret env H nx = onA (eg env 8) (fun v => onA (eg env 9) fun u => R (.tuple #[v, u]) H nx) := retQ_two rfl (of_decide_eq_true (by kernel_rfl)) (of_decide_eq_true (by kernel_rfl))

attribute [go_sem] L3x0 L3x1 L3x2 L3x3 L3x4 L3x5 L3x6 L3x7 L3x8 L3x9 L3x10 L3x11 L3x12 L3x13 L3x14 L3x15 L3x16 fnOk3 rq3 len22 eqt9 net9 L4x0 L4x1 L4x2 L4x3 L4x4 L4x5 L4x6 L4x7 L4x8 L4x9 L4x10 L4x11 L4x12 L4x13 L4x14 L4x15 L4x16 L4x17 L4x18 fnOk4 rq4 cv5x3 cx5x3 eqb4 neb4 L5x0 L5x1 L5x2 L5x3 L5x4 L5x5 L5x6 L5x7 L5x8 L5x9 L5x10 L5x11 L5x12 L5x13 L5x14 L5x15 L5x16 L5x17 L5x18 fnOk5 rq5 len9 ia22 ld5 st5 stc5 len38 L6x0 L6x1 L6x2 L6x3 L6x4 L6x5 L6x6 L6x7 L6x8 L6x9 L6x10 L6x11 L6x13 L6x14 L6x15 L6x16 L6x12 L6x17 L6x18 L6x19 fnOk6 rq6 len42 al47 st47 ia42 fa50x4 ld22 fa50x0 ld47 ld50 L7x0 L7x1 L7x2 L7x3 L7x4 L7x5 L7x6 L7x8 L7x9 L7x10 L7x11 L7x12 L7x13 L7x14 L7x7 L7x15 L7x16 L7x17 L7x19 L7x18 L7x20 fnOk7 rq7 ia38 ld9 L8x0 L8x1 L8x2 L8x3 L8x4 L8x5 L8x6 L8x7 L8x8 L8x9 L8x10 L8x11 L8x12 L8x13 L8x14 fnOk8 rq8 L9x0 L9x1 fnOk9 rq9 bd58x0x1x3x4 L10x0 L10x1 L10x2 L10x3 L10x4 L10x5 L10x6 L10x7 L10x8 L10x9 fnOk10 rq10 fa58x0 ld55 eqp59 nep59 bd0x62 L11x0 L11x1 L11x2 L11x3 L11x4 L11x5 L11x6 L11x7 L11x8 L11x9 L11x10 fnOk11 rq11 fa58x3 ld3 fa62x0 st22 stc22 L12x0 L12x1 L12x2 L12x3 L12x4 L12x5 L12x6 L12x7 L12x8 fnOk12 rq12 fa62x1 st3 stc3 L13x0 L13x1 L13x2 L13x3 L13x4 L13x5 fnOk13 rq13 fa58x1 st55 stc55 fa58x2 st56 stc56 L14x0 L14x1 L14x2 L14x3 L14x4 L14x5 L14x6 L14x7 L14x8 L14x9 L14x10 L14x11 L14x12 L14x13 L14x14 L14x15 L14x16 fnOk14 rq14 eqp24 nep24 ld56 len56 ia56 ld65 al65 st65 fa65x1 ld59 fa65x0 fa65x2 fa58x5 st4 stc4 fa58x4 L15x0 L15x1 L15x2 L15x3 L15x4 L15x5 fnOk15 rq15 ld4 L16x0 L16x1 L16x2 L16x3 L16x4 L16x5 L16x6 L16x7 L16x8 L16x9 L16x10 L16x11 L16x12 L16x13 fnOk16 rq16 bd3x65 L17x0 L17x1 fnOk17 rq17 L18x0 L18x1 fnOk18 rq18 L19x0 L19x1 L19x2 fnOk19 rq19 L20x0 L20x1 L20x2 L20x4 L20x5 L20x3 L20x6 fnOk20 rq20 ix9 L21x0 L21x1 L21x2 L21x3 fnOk21 rq21 L22x0 L22x1 L22x2 L22x3 L22x4 L22x5 L22x6 L22x7 L22x8 L22x9 L22x10 L22x11 L22x12 L22x13 L22x14 L22x15 fnOk22 rq22 al73 st73 stc73 al3 L23x0 L23x1 L23x2 L23x3 fnOk23 rq23 fa58x6 L24x0 L24x1 L24x2 L24x3 fnOk24 rq24 L25x0 L25x1 fnOk25 rq25 L26x0 L26x1 fnOk26 rq26 bd47x3x4x2 L27x0 L27x1 L27x2 L27x3 L27x6 L27x7 L27x8 L27x9 L27x10 L27x11 L27x12 L27x13 L27x14 L27x15 L27x16 L27x17 L27x18 L27x19 L27x20 L27x21 L27x22 L27x23 L27x24 L27x25 L27x26 L27x27 L27x28 L27x29 L27x30 L27x31 L27x32 L27x33 L27x34 L27x35 L27x36 L27x4 L27x5 L27x37 fnOk27 rq27 fa50x1 fa50x2 fa50x3 fa47x4 fa47x3 L28x0 L28x1 L28x2 L28x3 L28x4 L28x5 L28x6 L28x7 fnOk28 rq28 L29x0 L29x1 L29x2 L29x3 L29x4 L29x5 L29x6 L29x7 L29x8 fnOk29 rq29 L30x0 L30x1 L30x2 L30x3 fnOk30 rq30 bd65x0x1 L31x0 L31x1 L31x2 L31x3 fnOk31 rq31 L32x0 L32x1 L32x2 L32x3 fnOk32 rq32 eqs22 nes22 L33x0 L33x1 fnOk33 rq33 L34x0 L34x1 fnOk34 rq34 L35x0 L35x1 L35x2 L35x3 fnOk35 rq35 L36x0 L36x1 fnOk36 rq36 L37x0 L37x1 L37x2 fnOk37 rq37 ld73 L38x0 L38x1 fnOk38 rq38 L39x0 L39x1 L39x2 L39x3 L39x4 L39x5 L39x6 L39x7 L39x8 L39x9 L39x10 L39x11 fnOk39 rq39 fa47x1 ld44 fa47x0 ld43 bd0x90 st43 stc43 len43 L40x0 L40x1 L40x2 L40x3 L40x4 L40x5 L40x6 L40x7 L40x8 L40x9 L40x10 L40x11 L40x12 L40x13 fnOk40 rq40 ia43 ld90 al90 st90 fa90x0 L41x0 L41x1 L41x2 L41x3 L41x4 L41x5 L41x6 L41x7 L41x8 L41x9 fnOk41 rq41 fa90x1 L42x0 L42x1 L42x2 L42x3 L42x4 L42x5 fnOk42 rq42 fa47x2 st45 stc45 L43x0 L43x1 L43x2 L43x3 L43x4 L43x5 L43x6 L43x7 L43x8 L43x9 L43x10 L43x11 fnOk43 rq43 L44x0 L44x1 L44x2 L44x3 L44x4 L44x5 L44x6 fnOk44 rq44 L45x0 L45x1 L45x2 L45x3 L45x4 L45x5 L45x6 L45x7 L45x8 L45x9 L45x10 fnOk45 rq45 L46x0 L46x1 L46x2 L46x3 L46x4 L46x5 L46x6 L46x7 L46x8 L46x9 fnOk46 rq46 bd90x0x1 L47x0 L47x1 L47x2 L47x3 L47x4 L47x5 L47x6 L47x7 L47x8 L47x9 L47x11 L47x12 L47x13 L47x14 L47x15 L47x10 L47x16 L47x17 L47x18 L47x19 L47x20 fnOk47 rq47 ld45 len45 ia45 len44 ia44 fa97x1 st44 stc44 fa47x5 L49x0 L49x1 fnOk49 rq49 L50x0 L50x1 fnOk50 rq50 L51x0 L51x1 fnOk51 rq51 cv3x102 cx3x102 L52x0 L52x1 L52x2 L52x3 fnOk52 rq52 L53x0 L53x1 L53x2 L53x3 L53x4 L53x5 L53x6 L53x7 fnOk53 rq53 fa47x6 L54x0 L54x1 L54x2 L54x4 L54x5 L54x3 L54x6 fnOk54 rq54 fa97x0 L55x0 L55x1 L55x2 L55x3 L55x4 L55x5 fnOk55 rq55 L56x0 L56x1 fnOk56 rq56 bd97x0x1 L57x0 L57x1 L57x2 L57x3 L57x5 L57x6 L57x7 L57x9 L57x10 L57x12 L57x11 L57x8 L57x13 L57x14 L57x4 L57x15 fnOk57 rq57 L58x0 L58x1 L58x2 L58x3 L58x4 L58x5 fnOk58 rq58 L59x0 L59x1 L59x2 L59x3 L59x5 L59x6 L59x4 L59x7 fnOk59 rq59 ld97 L60x0 L60x1 L60x2 L60x3 L60x4 L60x5 L60x6 fnOk60 rq60 L61x0 L61x1 L61x4 fnOk61 rq61 ld38 L62x0 L62x1 L62x2 L62x3 L62x4 L62x5 L62x6 L62x7 L62x8 L62x9 L62x10 L62x11 L62x12 L62x13 L62x14 L62x15 L62x16 L62x17 L62x18 L62x19 L62x20 L62x21 L62x22 L62x23 L62x24 L62x25 L62x26 L62x27 L62x28 L62x29 L62x30 fnOk62 rq62 L63x0 L63x1 L63x2 fnOk63 rq63 cv102x113 cx102x113 L64x0 L64x1 L64x3 L64x4 L64x6 L64x5 L64x2 fnOk64 rq64 st9 stc9 L65x0 L65x1 L65x2 L65x3 L65x4 L65x6 L65x5 L65x7 L65x8 L65x10 L65x11 L65x9 fnOk65 rq65 L66x0 L66x1 L66x2 L66x3 L66x4 L66x5 L66x7 L66x8 L66x9 L66x10 L66x6 fnOk66 rq66 cv3x116 cx3x116 al116 st116 stc116 cv102x3 cx102x3 L67x0 L67x1 L67x2 L67x3 L67x4 L67x5 L67x6 L67x7 L67x8 L67x9 L67x10 L67x11 L67x12 L67x14 L67x15 L67x16 L67x17 L67x13 fnOk67 rq67 L68x0 L68x1 L68x2 L68x3 L68x4 L68x5 fnOk68 rq68 L69x0 L69x1 L69x2 L69x3 L69x5 L69x6 L69x7 L69x8 L69x9 L69x10 L69x11 L69x12 L69x13 L69x14 L69x16 L69x17 L69x15 L69x18 L69x19 L69x20 L69x22 L69x23 L69x21 L69x4 L69x24 fnOk69 rq69 L70x0 L70x1 fnOk70 rq70 L71x0 L71x1 L71x2 L71x3 L71x4 L71x5 L71x6 L71x7 L71x8 L71x9 L71x10 L71x11 fnOk71 rq71 L72x0 L72x1 L72x2 L72x3 L72x4 L72x5 L72x6 L72x7 L72x8 L72x9 L72x10 L72x11 L72x12 L72x13 L72x14 L72x15 L72x16 L72x17 L72x18 L72x19 L72x20 L72x21 L72x22 fnOk72 rq72 L73x0 L73x1 L73x2 L73x3 L73x4 L73x5 L73x6 L73x7 fnOk73 rq73 cv113x5 cx113x5 L74x0 L74x1 L74x2 L74x3 L74x4 L74x5 L74x6 L74x7 L74x8 L74x9 L74x10 fnOk74 rq74 cv115x5 cx115x5 L75x0 L75x1 L75x2 L75x3 L75x4 L75x5 L75x6 L75x7 fnOk75 rq75 L76x0 L76x1 fnOk76 rq76 L77x0 L77x1 L77x2 L77x3 L77x4 fnOk77 rq77 ld116 L78x0 L78x1 fnOk78 rq78 L79x0 L79x1 L79x2 L79x3 L79x4 fnOk79 rq79 L80x0 L80x1 fnOk80 rq80 L81x0 L81x1 L81x2 L81x3 L81x4 fnOk81 rq81
end Go.Proofs.Ytcdimjocdpogjaa
