import Derived.Test.YtgopmklcggoliaaL15
namespace Go.Proofs.Ytgopmklcggoliaa
open Go.RowKit
set_option linter.unusedSimpArgs false
/-! 3: milestone/milestonelaw16.RoutesTell · code of 133 operations -/
def L3 : Nat → List Nat
  | 0 => [0]
  | 1 => [0, 16]
  | 2 => [2]
  | 3 => [0, 3]
  | 4 => [0, 3, 4]
  | 5 => [0, 3, 4, 5]
  | 6 => [0, 3, 4, 5, 23]
  | 8 => [0, 3, 4, 5]
  | 9 => [0, 3, 4, 5, 6]
  | 10 => [0, 3, 4, 5, 37]
  | 11 => [2]
  | 7 => [0, 3, 4, 5]
  | 12 => [4, 7]
  | 13 => [4, 7, 45]
  | 14 => [2]
  | 15 => [4, 7, 8]
  | 16 => [4, 7, 8, 49]
  | 18 => [4, 7, 8, 9]
  | 19 => [4, 7, 8, 124]
  | 20 => [2]
  | 17 => [4, 7, 8]
  | 21 => [2]
  | _ => []
theorem L3x0 : L3 0 = [0] := (rfl)
theorem L3x1 : L3 1 = [0, 16] := (rfl)
theorem L3x2 : L3 2 = [2] := (rfl)
theorem L3x3 : L3 3 = [0, 3] := (rfl)
theorem L3x4 : L3 4 = [0, 3, 4] := (rfl)
theorem L3x5 : L3 5 = [0, 3, 4, 5] := (rfl)
theorem L3x6 : L3 6 = [0, 3, 4, 5, 23] := (rfl)
theorem L3x8 : L3 8 = [0, 3, 4, 5] := (rfl)
theorem L3x9 : L3 9 = [0, 3, 4, 5, 6] := (rfl)
theorem L3x10 : L3 10 = [0, 3, 4, 5, 37] := (rfl)
theorem L3x11 : L3 11 = [2] := (rfl)
theorem L3x7 : L3 7 = [0, 3, 4, 5] := (rfl)
theorem L3x12 : L3 12 = [4, 7] := (rfl)
theorem L3x13 : L3 13 = [4, 7, 45] := (rfl)
theorem L3x14 : L3 14 = [2] := (rfl)
theorem L3x15 : L3 15 = [4, 7, 8] := (rfl)
theorem L3x16 : L3 16 = [4, 7, 8, 49] := (rfl)
theorem L3x18 : L3 18 = [4, 7, 8, 9] := (rfl)
theorem L3x19 : L3 19 = [4, 7, 8, 124] := (rfl)
theorem L3x20 : L3 20 = [2] := (rfl)
theorem L3x17 : L3 17 = [4, 7, 8] := (rfl)
theorem L3x21 : L3 21 = [2] := (rfl)
def ord3x9 : List Nat := [0, 1, 2, 3, 4, 5, 6, 7, 8, 9, 10, 11]
def ord3x18 : List Nat := [0, 1, 2, 3, 4, 5, 6, 7, 8, 9, 10, 11, 12]
def ord3x19 : List Nat := [0, 1, 2, 3, 4, 5, 6, 7, 8, 9, 10, 11, 12, 13, 14, 15, 16, 17, 18, 19, 20, 21, 22, 23, 24, 25, 26, 27, 28, 29, 30, 31, 32, 33, 34, 35, 36, 37, 38, 39, 40, 41, 42, 43, 44, 45, 46, 47, 48, 49, 50, 51, 52, 53, 54, 55, 56, 57, 58, 59, 60]
theorem fnOk3 : fnOk Try.prog 3 = true := by kernel_rfl
theorem rq3 {R : Value → AH → Nat → Prop} {env : Env} {H : AH} {nx : Nat} : retQ Try.prog Try.f3 R .ret env H nx = onV (eg env 2) R H nx := retQ_one rfl (of_decide_eq_true (by kernel_rfl))

theorem len22 (H : AH) (ty : TypeId) (a : Option Addr) (n c : Nat) : lenV Try.prog H #[22] ty #[.slice a n c] = some (.int .i64 n) := lenV_slice 22 34 ty 5 a n c (by kernel_rfl)
theorem zero29 : zeroT Try.prog 29 = some (.agg #[(.slice none 0 0), (.int .u64 0)]) := by kernel_rfl
theorem bd0x29 (H : AH) : buildV Try.prog H 29 #[] = some (.agg #[(.slice none 0 0), (.int .u64 0)]) := build_zero (by kernel_rfl) zero29
theorem al29 (lo : Nat) (K : Value → AH → Nat → Prop) (H : AH) (nx : Nat) : allocQ Try.prog lo 29 K H nx = newQ 29 ((.agg #[(.slice none 0 0), (.int .u64 0)]) : Value).cells K H nx := alloc_new zero29
theorem st29 (lo : Nat) (b o : Nat) (v0 v1 : Value) (K : AH → Nat → Prop) (H : AH) (nx : Nat) : storeQ Try.prog lo 29 (.pointer (some ⟨b, o, none⟩)) (.agg #[v0, v1]) K H nx = stsQ lo b o [v0, v1] K H nx := store_agg (n := 2) (by kernel_rfl) (by decide) rfl
theorem ld29 (H : AH) (b o : Nat) : loadV Try.prog H 29 (.pointer (some ⟨b, o, none⟩)) = (loadN H b o 2).map fun l => .agg l.toArray := load_agg (by kernel_rfl) (by kernel_rfl)
theorem ia22 (H : AH) (n b o c : Nat) (kk : IntKind) (i : Int) (h0 : 0 ≤ i) (h1 : i < n) : indexAV Try.prog H 22 (.slice (some ⟨b, o, none⟩) n c) (.int kk i) = some (.pointer (some ⟨b, o + i.toNat * 5, none⟩)) := indexAV_slice 22 34 n 5 b o c kk i (by kernel_rfl) h0 h1
theorem ld34 (H : AH) (b o : Nat) : loadV Try.prog H 34 (.pointer (some ⟨b, o, none⟩)) = (loadN H b o 5).map fun l => .agg l.toArray := load_agg (by kernel_rfl) (by kernel_rfl)
theorem len26 (H : AH) (ty : TypeId) (a : Option Addr) (n c : Nat) : lenV Try.prog H #[26] ty #[.slice a n c] = some (.int .i64 n) := lenV_slice 26 43 ty 7 a n c (by kernel_rfl)
theorem fa29x0 (H : AH) (b o : Nat) : fieldAV Try.prog H 29 0 (.pointer (some ⟨b, o, none⟩)) = some (.pointer (some ⟨b, o + 0, none⟩)) := fieldAV_eq 29 0 b o false 0 0 (by kernel_rfl)
theorem ld26 (H : AH) (b o : Nat) : loadV Try.prog H 26 (.pointer (some ⟨b, o, none⟩)) = H.c b o := load_one (by kernel_rfl)
theorem ia26 (H : AH) (n b o c : Nat) (kk : IntKind) (i : Int) (h0 : 0 ≤ i) (h1 : i < n) : indexAV Try.prog H 26 (.slice (some ⟨b, o, none⟩) n c) (.int kk i) = some (.pointer (some ⟨b, o + i.toNat * 7, none⟩)) := indexAV_slice 26 43 n 7 b o c kk i (by kernel_rfl) h0 h1
theorem fa43x0 (H : AH) (b o : Nat) : fieldAV Try.prog H 43 0 (.pointer (some ⟨b, o, none⟩)) = some (.pointer (some ⟨b, o + 0, none⟩)) := fieldAV_eq 43 0 b o true 1 0 (by kernel_rfl)
theorem ld39 (H : AH) (b o : Nat) : loadV Try.prog H 39 (.pointer (some ⟨b, o, none⟩)) = (loadN H b o 2).map fun l => .agg l.toArray := load_agg (by kernel_rfl) (by kernel_rfl)
theorem fa43x1 (H : AH) (b o : Nat) : fieldAV Try.prog H 43 1 (.pointer (some ⟨b, o, none⟩)) = some (.pointer (some ⟨b, o + 2, none⟩)) := fieldAV_eq 43 1 b o false 0 2 (by kernel_rfl)
theorem ld3 (H : AH) (b o : Nat) : loadV Try.prog H 3 (.pointer (some ⟨b, o, none⟩)) = H.c b o := load_one (by kernel_rfl)
theorem ld43 (H : AH) (b o : Nat) : loadV Try.prog H 43 (.pointer (some ⟨b, o, none⟩)) = (loadN H b o 7).map fun l => .agg l.toArray := load_agg (by kernel_rfl) (by kernel_rfl)
theorem eqg43 (H : AH) (x y : Operand) (a0 b0 : Int) (a1 b1 : Int) (a2 b2 : Int) (a3 b3 : Int) (a4 b4 : Int) (a5 b5 : Int) (a6 b6 : Int) : binV Try.prog H .eql 43 x y (.agg #[.int .u32 a0, .int .u8 a1, .int .i64 a2, .int .i64 a3, .int .u16 a4, .int .u16 a5, .int .u64 a6]) (.agg #[.int .u32 b0, .int .u8 b1, .int .i64 b2, .int .i64 b3, .int .u16 b4, .int .u16 b5, .int .u64 b6]) = some (.bool (eqLs [.int .u32 a0, .int .u8 a1, .int .i64 a2, .int .i64 a3, .int .u16 a4, .int .u16 a5, .int .u64 a6] [.int .u32 b0, .int .u8 b1, .int .i64 b2, .int .i64 b3, .int .u16 b4, .int .u16 b5, .int .u64 b6])) := (bin_agg (xs := [.int .u32 a0, .int .u8 a1, .int .i64 a2, .int .i64 a3, .int .u16 a4, .int .u16 a5, .int .u64 a6]) (ys := [.int .u32 b0, .int .u8 b1, .int .i64 b2, .int .i64 b3, .int .u16 b4, .int .u16 b5, .int .u64 b6]) (ks := [some .u32, some .u8, some .i64, some .i64, some .u16, some .u16, some .u64]) (by kernel_rfl) (fitI (fitI (fitI (fitI (fitI (fitI (fitI fitN))))))) (fitI (fitI (fitI (fitI (fitI (fitI (fitI fitN)))))))).1
theorem neg43 (H : AH) (x y : Operand) (a0 b0 : Int) (a1 b1 : Int) (a2 b2 : Int) (a3 b3 : Int) (a4 b4 : Int) (a5 b5 : Int) (a6 b6 : Int) : binV Try.prog H .neq 43 x y (.agg #[.int .u32 a0, .int .u8 a1, .int .i64 a2, .int .i64 a3, .int .u16 a4, .int .u16 a5, .int .u64 a6]) (.agg #[.int .u32 b0, .int .u8 b1, .int .i64 b2, .int .i64 b3, .int .u16 b4, .int .u16 b5, .int .u64 b6]) = some (.bool (!eqLs [.int .u32 a0, .int .u8 a1, .int .i64 a2, .int .i64 a3, .int .u16 a4, .int .u16 a5, .int .u64 a6] [.int .u32 b0, .int .u8 b1, .int .i64 b2, .int .i64 b3, .int .u16 b4, .int .u16 b5, .int .u64 b6])) := (bin_agg (xs := [.int .u32 a0, .int .u8 a1, .int .i64 a2, .int .i64 a3, .int .u16 a4, .int .u16 a5, .int .u64 a6]) (ys := [.int .u32 b0, .int .u8 b1, .int .i64 b2, .int .i64 b3, .int .u16 b4, .int .u16 b5, .int .u64 b6]) (ks := [some .u32, some .u8, some .i64, some .i64, some .u16, some .u16, some .u64]) (by kernel_rfl) (fitI (fitI (fitI (fitI (fitI (fitI (fitI fitN))))))) (fitI (fitI (fitI (fitI (fitI (fitI (fitI fitN)))))))).2
theorem eqg39 (H : AH) (x y : Operand) (a0 b0 : Int) (a1 b1 : Int) : binV Try.prog H .eql 39 x y (.agg #[.int .u32 a0, .int .u8 a1]) (.agg #[.int .u32 b0, .int .u8 b1]) = some (.bool (eqLs [.int .u32 a0, .int .u8 a1] [.int .u32 b0, .int .u8 b1])) := (bin_agg (xs := [.int .u32 a0, .int .u8 a1]) (ys := [.int .u32 b0, .int .u8 b1]) (ks := [some .u32, some .u8]) (by kernel_rfl) (fitI (fitI fitN)) (fitI (fitI fitN))).1
theorem neg39 (H : AH) (x y : Operand) (a0 b0 : Int) (a1 b1 : Int) : binV Try.prog H .neq 39 x y (.agg #[.int .u32 a0, .int .u8 a1]) (.agg #[.int .u32 b0, .int .u8 b1]) = some (.bool (!eqLs [.int .u32 a0, .int .u8 a1] [.int .u32 b0, .int .u8 b1])) := (bin_agg (xs := [.int .u32 a0, .int .u8 a1]) (ys := [.int .u32 b0, .int .u8 b1]) (ks := [some .u32, some .u8]) (by kernel_rfl) (fitI (fitI fitN)) (fitI (fitI fitN))).2
/-! 4: milestone/milestonelaw16.RoutesSelect · code of 200 operations -/
def L4 : Nat → List Nat
  | 0 => [0, 1]
  | 1 => [0, 1, 32]
  | 2 => [4]
  | 3 => [0, 1, 5]
  | 4 => [0, 1, 5, 6]
  | 5 => [0, 1, 5, 6, 7]
  | 6 => [0, 1, 5, 6, 7, 39]
  | 8 => [0, 1, 5, 6, 7]
  | 7 => [0, 1, 5, 6, 7]
  | 9 => [5, 6, 8]
  | 10 => [6, 8, 9]
  | 11 => [6, 8, 9, 10]
  | 12 => [6, 8, 9, 10, 11]
  | 13 => [6, 8, 9, 10, 11, 59]
  | 15 => [6, 8, 9, 10, 11, 12]
  | 16 => [6, 8, 9, 10, 11, 12, 13]
  | 17 => [6, 8, 9, 10, 11, 12, 13, 14]
  | 18 => [6, 8, 9, 10, 11, 12, 13, 14, 68]
  | 19 => [6, 8, 9, 10, 11, 12, 13, 14, 15]
  | 20 => [6, 8, 9, 10, 11, 12, 13, 14, 15, 70]
  | 22 => [6, 8, 9, 10, 11, 12, 13, 14, 15, 16]
  | 23 => [6, 8, 9, 10, 11, 12, 13, 14, 15, 16, 95]
  | 24 => [6, 8, 9, 10, 11, 12, 13, 14, 15, 16, 17]
  | 25 => [6, 8, 9, 10, 11, 12, 13, 14, 15, 16, 17, 120]
  | 26 => [6, 8, 9, 10, 11, 12, 14, 15]
  | 27 => [6, 8, 9, 10, 11, 12, 13, 14, 15]
  | 21 => [6, 8, 9, 10, 11, 12, 13, 14, 15]
  | 28 => [6, 8, 9, 10, 11, 12, 13, 14, 18]
  | 29 => [6, 8, 9, 10, 11, 12, 13, 14, 18, 19]
  | 30 => [6, 8, 9, 10, 11, 12, 13, 14, 18, 19, 136]
  | 32 => [6, 8, 9, 10, 11, 12, 13, 14, 18, 19, 145]
  | 33 => [6, 8, 9, 10, 11, 12, 13, 14, 18, 19]
  | 31 => [6, 8, 9, 10, 11, 12, 13, 14, 18, 19]
  | 34 => [6, 8, 9, 10, 11, 13, 161]
  | 35 => [4]
  | 36 => [6, 8, 9, 10, 11, 162]
  | 37 => [6, 8, 9, 10, 11]
  | 14 => [6, 8, 9, 10, 11]
  | 38 => [9, 10, 20]
  | 39 => [9, 10, 20, 168]
  | 41 => [9, 10, 20, 183]
  | 42 => [4]
  | 40 => [9, 10, 20]
  | 43 => [4]
  | _ => []
theorem L4x0 : L4 0 = [0, 1] := (rfl)
theorem L4x1 : L4 1 = [0, 1, 32] := (rfl)
theorem L4x2 : L4 2 = [4] := (rfl)
theorem L4x3 : L4 3 = [0, 1, 5] := (rfl)
theorem L4x4 : L4 4 = [0, 1, 5, 6] := (rfl)
theorem L4x5 : L4 5 = [0, 1, 5, 6, 7] := (rfl)
theorem L4x6 : L4 6 = [0, 1, 5, 6, 7, 39] := (rfl)
theorem L4x8 : L4 8 = [0, 1, 5, 6, 7] := (rfl)
theorem L4x7 : L4 7 = [0, 1, 5, 6, 7] := (rfl)
theorem L4x9 : L4 9 = [5, 6, 8] := (rfl)
theorem L4x10 : L4 10 = [6, 8, 9] := (rfl)
theorem L4x11 : L4 11 = [6, 8, 9, 10] := (rfl)
theorem L4x12 : L4 12 = [6, 8, 9, 10, 11] := (rfl)
theorem L4x13 : L4 13 = [6, 8, 9, 10, 11, 59] := (rfl)
theorem L4x15 : L4 15 = [6, 8, 9, 10, 11, 12] := (rfl)
theorem L4x16 : L4 16 = [6, 8, 9, 10, 11, 12, 13] := (rfl)
theorem L4x17 : L4 17 = [6, 8, 9, 10, 11, 12, 13, 14] := (rfl)
theorem L4x18 : L4 18 = [6, 8, 9, 10, 11, 12, 13, 14, 68] := (rfl)
theorem L4x19 : L4 19 = [6, 8, 9, 10, 11, 12, 13, 14, 15] := (rfl)
theorem L4x20 : L4 20 = [6, 8, 9, 10, 11, 12, 13, 14, 15, 70] := (rfl)
theorem L4x22 : L4 22 = [6, 8, 9, 10, 11, 12, 13, 14, 15, 16] := (rfl)
theorem L4x23 : L4 23 = [6, 8, 9, 10, 11, 12, 13, 14, 15, 16, 95] := (rfl)
theorem L4x24 : L4 24 = [6, 8, 9, 10, 11, 12, 13, 14, 15, 16, 17] := (rfl)
theorem L4x25 : L4 25 = [6, 8, 9, 10, 11, 12, 13, 14, 15, 16, 17, 120] := (rfl)
theorem L4x26 : L4 26 = [6, 8, 9, 10, 11, 12, 14, 15] := (rfl)
theorem L4x27 : L4 27 = [6, 8, 9, 10, 11, 12, 13, 14, 15] := (rfl)
theorem L4x21 : L4 21 = [6, 8, 9, 10, 11, 12, 13, 14, 15] := (rfl)
theorem L4x28 : L4 28 = [6, 8, 9, 10, 11, 12, 13, 14, 18] := (rfl)
theorem L4x29 : L4 29 = [6, 8, 9, 10, 11, 12, 13, 14, 18, 19] := (rfl)
theorem L4x30 : L4 30 = [6, 8, 9, 10, 11, 12, 13, 14, 18, 19, 136] := (rfl)
theorem L4x32 : L4 32 = [6, 8, 9, 10, 11, 12, 13, 14, 18, 19, 145] := (rfl)
theorem L4x33 : L4 33 = [6, 8, 9, 10, 11, 12, 13, 14, 18, 19] := (rfl)
theorem L4x31 : L4 31 = [6, 8, 9, 10, 11, 12, 13, 14, 18, 19] := (rfl)
theorem L4x34 : L4 34 = [6, 8, 9, 10, 11, 13, 161] := (rfl)
theorem L4x35 : L4 35 = [4] := (rfl)
theorem L4x36 : L4 36 = [6, 8, 9, 10, 11, 162] := (rfl)
theorem L4x37 : L4 37 = [6, 8, 9, 10, 11] := (rfl)
theorem L4x14 : L4 14 = [6, 8, 9, 10, 11] := (rfl)
theorem L4x38 : L4 38 = [9, 10, 20] := (rfl)
theorem L4x39 : L4 39 = [9, 10, 20, 168] := (rfl)
theorem L4x41 : L4 41 = [9, 10, 20, 183] := (rfl)
theorem L4x42 : L4 42 = [4] := (rfl)
theorem L4x40 : L4 40 = [9, 10, 20] := (rfl)
theorem L4x43 : L4 43 = [4] := (rfl)
def ord4x8 : List Nat := [0, 1, 2, 3, 4, 5, 6, 7, 8, 9, 10]
def ord4x23 : List Nat := [0, 1, 2, 3, 4, 5, 6, 7, 8, 9, 10, 11, 12, 13, 14, 15, 16, 17, 18]
def ord4x24 : List Nat := [0, 1, 2, 3, 4, 5, 6, 7, 8, 9, 10, 11, 12]
def ord4x26 : List Nat := [0, 1, 2, 3, 4, 5, 6, 7, 8, 9, 10, 11, 12]
def ord4x32 : List Nat := [0, 1, 2, 3, 4, 5, 6]
def ord4x34 : List Nat := [0, 1, 2, 3, 4, 5, 6, 7, 8, 9, 10, 11, 12, 13, 14]
def ord4x41 : List Nat := [0, 1, 2, 3, 4, 5, 6, 7, 8, 9, 10, 11, 12]
theorem fnOk4 : fnOk Try.prog 4 = true := by kernel_rfl
theorem rq4 {R : Value → AH → Nat → Prop} {env : Env} {H : AH} {nx : Nat} : retQ Try.prog Try.f4 R .ret env H nx = onV (eg env 4) R H nx := retQ_one rfl (of_decide_eq_true (by kernel_rfl))

theorem zero53 : zeroT Try.prog 53 = some (.agg #[(.int .u32 0), (.int .u8 0), (.int .i64 0), (.int .u16 0), (.int .u16 0)]) := by kernel_rfl
theorem al53 (lo : Nat) (K : Value → AH → Nat → Prop) (H : AH) (nx : Nat) : allocQ Try.prog lo 53 K H nx = newQ 53 ((.agg #[(.int .u32 0), (.int .u8 0), (.int .i64 0), (.int .u16 0), (.int .u16 0)]) : Value).cells K H nx := alloc_new zero53
theorem cv3x5 (lo : Nat) (k' : IntKind) (n : Int) (K : Value → AH → Nat → Prop) (H : AH) (nx : Nat) : convQ Try.prog lo 3 5 (.int k' n) K H nx = K (.int .u8 (IntKind.wrap .u8 n)) H nx := convQ_int (by kernel_rfl) (by kernel_rfl)
theorem cx3x5 (k' : IntKind) (n : Int) (H : AH) : convV Try.prog H 3 5 (.int k' n) = some (.int .u8 (IntKind.wrap .u8 n)) := convV_int (by kernel_rfl) (by kernel_rfl)
theorem zero39 : zeroT Try.prog 39 = some (.agg #[(.int .u32 0), (.int .u8 0)]) := by kernel_rfl
theorem al39 (lo : Nat) (K : Value → AH → Nat → Prop) (H : AH) (nx : Nat) : allocQ Try.prog lo 39 K H nx = newQ 39 ((.agg #[(.int .u32 0), (.int .u8 0)]) : Value).cells K H nx := alloc_new zero39
theorem st39 (lo : Nat) (b o : Nat) (v0 v1 : Value) (K : AH → Nat → Prop) (H : AH) (nx : Nat) : storeQ Try.prog lo 39 (.pointer (some ⟨b, o, none⟩)) (.agg #[v0, v1]) K H nx = stsQ lo b o [v0, v1] K H nx := store_agg (n := 2) (by kernel_rfl) (by decide) rfl
theorem fa43x3 (H : AH) (b o : Nat) : fieldAV Try.prog H 43 3 (.pointer (some ⟨b, o, none⟩)) = some (.pointer (some ⟨b, o + 4, none⟩)) := fieldAV_eq 43 3 b o true 1 4 (by kernel_rfl)
theorem ld41 (H : AH) (b o : Nat) : loadV Try.prog H 41 (.pointer (some ⟨b, o, none⟩)) = (loadN H b o 2).map fun l => .agg l.toArray := load_agg (by kernel_rfl) (by kernel_rfl)
theorem fa41x1 (H : AH) (b o : Nat) : fieldAV Try.prog H 41 1 (.pointer (some ⟨b, o, none⟩)) = some (.pointer (some ⟨b, o + 1, none⟩)) := fieldAV_eq 41 1 b o false 0 1 (by kernel_rfl)
theorem ld32 (H : AH) (b o : Nat) : loadV Try.prog H 32 (.pointer (some ⟨b, o, none⟩)) = H.c b o := load_one (by kernel_rfl)
theorem cv32x3 (lo : Nat) (k' : IntKind) (n : Int) (K : Value → AH → Nat → Prop) (H : AH) (nx : Nat) : convQ Try.prog lo 32 3 (.int k' n) K H nx = K (.int .i64 (IntKind.wrap .i64 n)) H nx := convQ_int (by kernel_rfl) (by kernel_rfl)
theorem cx32x3 (k' : IntKind) (n : Int) (H : AH) : convV Try.prog H 32 3 (.int k' n) = some (.int .i64 (IntKind.wrap .i64 n)) := convV_int (by kernel_rfl) (by kernel_rfl)
theorem fa53x2 (H : AH) (b o : Nat) : fieldAV Try.prog H 53 2 (.pointer (some ⟨b, o, none⟩)) = some (.pointer (some ⟨b, o + 3, none⟩)) := fieldAV_eq 53 2 b o false 0 3 (by kernel_rfl)
theorem cv3x32 (lo : Nat) (k' : IntKind) (n : Int) (K : Value → AH → Nat → Prop) (H : AH) (nx : Nat) : convQ Try.prog lo 3 32 (.int k' n) K H nx = K (.int .u16 (IntKind.wrap .u16 n)) H nx := convQ_int (by kernel_rfl) (by kernel_rfl)
theorem cx3x32 (k' : IntKind) (n : Int) (H : AH) : convV Try.prog H 3 32 (.int k' n) = some (.int .u16 (IntKind.wrap .u16 n)) := convV_int (by kernel_rfl) (by kernel_rfl)
theorem fa41x0 (H : AH) (b o : Nat) : fieldAV Try.prog H 41 0 (.pointer (some ⟨b, o, none⟩)) = some (.pointer (some ⟨b, o + 0, none⟩)) := fieldAV_eq 41 0 b o false 0 0 (by kernel_rfl)
theorem bd53x0x1x2x3 (H : AH) (v0x0 : Value) (v0x1 : Value) (k1x0 : IntKind) (n1x0 : Int) (k2x0 : IntKind) (n2x0 : Int) (k3x0 : IntKind) (n3x0 : Int) : buildV Try.prog H 53 #[(0, .agg #[v0x0, v0x1]), (1, .int k1x0 n1x0), (2, .int k2x0 n2x0), (3, .int k3x0 n3x0)] = some (.agg #[v0x0, v0x1, .int k1x0 n1x0, .int k2x0 n2x0, .int k3x0 n3x0]) := build_by (pl := fun i => (#[(0, 2), (2, 1), (3, 1), (4, 1)] : Array (Nat × Nat))[i]?) (by kernel_rfl) zero53 (by simp [Instr.fill, cells_agg, cells_int, cells_bool, cells_slice, cells_ptr, cells_str])
theorem st53 (lo : Nat) (b o : Nat) (v0 v1 v2 v3 v4 : Value) (K : AH → Nat → Prop) (H : AH) (nx : Nat) : storeQ Try.prog lo 53 (.pointer (some ⟨b, o, none⟩)) (.agg #[v0, v1, v2, v3, v4]) K H nx = stsQ lo b o [v0, v1, v2, v3, v4] K H nx := store_agg (n := 5) (by kernel_rfl) (by decide) rfl
theorem len48 (H : AH) (ty : TypeId) (a : Option Addr) (n c : Nat) : lenV Try.prog H #[48] ty #[.slice a n c] = some (.int .i64 n) := lenV_slice 48 53 ty 5 a n c (by kernel_rfl)
theorem ia48 (H : AH) (n b o c : Nat) (kk : IntKind) (i : Int) (h0 : 0 ≤ i) (h1 : i < n) : indexAV Try.prog H 48 (.slice (some ⟨b, o, none⟩) n c) (.int kk i) = some (.pointer (some ⟨b, o + i.toNat * 5, none⟩)) := indexAV_slice 48 53 n 5 b o c kk i (by kernel_rfl) h0 h1
theorem fa53x0 (H : AH) (b o : Nat) : fieldAV Try.prog H 53 0 (.pointer (some ⟨b, o, none⟩)) = some (.pointer (some ⟨b, o + 0, none⟩)) := fieldAV_eq 53 0 b o true 1 0 (by kernel_rfl)
theorem eqb4 (H : AH) (x y : Operand) (a b : Bool) : binV Try.prog H .eql 4 x y (.bool a) (.bool b) = some (.bool (a == b)) := eq_bool (by kernel_rfl)
theorem neb4 (H : AH) (x y : Operand) (a b : Bool) : binV Try.prog H .neq 4 x y (.bool a) (.bool b) = some (.bool (!(a == b))) := ne_bool (by kernel_rfl)
theorem ld53 (H : AH) (b o : Nat) : loadV Try.prog H 53 (.pointer (some ⟨b, o, none⟩)) = (loadN H b o 5).map fun l => .agg l.toArray := load_agg (by kernel_rfl) (by kernel_rfl)
theorem eqg53 (H : AH) (x y : Operand) (a0 b0 : Int) (a1 b1 : Int) (a2 b2 : Int) (a3 b3 : Int) (a4 b4 : Int) : binV Try.prog H .eql 53 x y (.agg #[.int .u32 a0, .int .u8 a1, .int .i64 a2, .int .u16 a3, .int .u16 a4]) (.agg #[.int .u32 b0, .int .u8 b1, .int .i64 b2, .int .u16 b3, .int .u16 b4]) = some (.bool (eqLs [.int .u32 a0, .int .u8 a1, .int .i64 a2, .int .u16 a3, .int .u16 a4] [.int .u32 b0, .int .u8 b1, .int .i64 b2, .int .u16 b3, .int .u16 b4])) := (bin_agg (xs := [.int .u32 a0, .int .u8 a1, .int .i64 a2, .int .u16 a3, .int .u16 a4]) (ys := [.int .u32 b0, .int .u8 b1, .int .i64 b2, .int .u16 b3, .int .u16 b4]) (ks := [some .u32, some .u8, some .i64, some .u16, some .u16]) (by kernel_rfl) (fitI (fitI (fitI (fitI (fitI fitN))))) (fitI (fitI (fitI (fitI (fitI fitN)))))).1
theorem neg53 (H : AH) (x y : Operand) (a0 b0 : Int) (a1 b1 : Int) (a2 b2 : Int) (a3 b3 : Int) (a4 b4 : Int) : binV Try.prog H .neq 53 x y (.agg #[.int .u32 a0, .int .u8 a1, .int .i64 a2, .int .u16 a3, .int .u16 a4]) (.agg #[.int .u32 b0, .int .u8 b1, .int .i64 b2, .int .u16 b3, .int .u16 b4]) = some (.bool (!eqLs [.int .u32 a0, .int .u8 a1, .int .i64 a2, .int .u16 a3, .int .u16 a4] [.int .u32 b0, .int .u8 b1, .int .i64 b2, .int .u16 b3, .int .u16 b4])) := (bin_agg (xs := [.int .u32 a0, .int .u8 a1, .int .i64 a2, .int .u16 a3, .int .u16 a4]) (ys := [.int .u32 b0, .int .u8 b1, .int .i64 b2, .int .u16 b3, .int .u16 b4]) (ks := [some .u32, some .u8, some .i64, some .u16, some .u16]) (by kernel_rfl) (fitI (fitI (fitI (fitI (fitI fitN))))) (fitI (fitI (fitI (fitI (fitI fitN)))))).2
/-! 5: milestone/milestonelaw16.RoutesNearer · code of 143 operations -/
def L5 : Nat → List Nat
  | 0 => [0, 1]
  | 1 => [0, 1, 26]
  | 2 => [4]
  | 3 => [0, 1, 5]
  | 4 => [0, 1, 5, 6]
  | 5 => [0, 1, 5, 6, 7]
  | 6 => [0, 1, 5, 6, 7, 33]
  | 8 => [0, 1, 5, 6, 7]
  | 7 => [0, 1, 5, 6, 7]
  | 9 => [5, 6, 8]
  | 10 => [5, 6, 8, 9]
  | 11 => [5, 6, 8, 9, 10]
  | 12 => [5, 6, 8, 9, 10, 55]
  | 14 => [5, 6, 8, 9, 10, 11]
  | 15 => [5, 6, 8, 9, 10, 11, 71]
  | 16 => [4]
  | 17 => [5, 6, 8, 9, 10, 11, 90]
  | 18 => [4]
  | 19 => [5, 6, 8, 9, 10, 11, 12, 13]
  | 20 => [5, 6, 8, 9, 10, 129]
  | 21 => [4]
  | 13 => [5, 6, 8, 9, 10]
  | 22 => [9, 14]
  | 23 => [4]
  | _ => []
theorem L5x0 : L5 0 = [0, 1] := (rfl)
theorem L5x1 : L5 1 = [0, 1, 26] := (rfl)
theorem L5x2 : L5 2 = [4] := (rfl)
theorem L5x3 : L5 3 = [0, 1, 5] := (rfl)
theorem L5x4 : L5 4 = [0, 1, 5, 6] := (rfl)
theorem L5x5 : L5 5 = [0, 1, 5, 6, 7] := (rfl)
theorem L5x6 : L5 6 = [0, 1, 5, 6, 7, 33] := (rfl)
theorem L5x8 : L5 8 = [0, 1, 5, 6, 7] := (rfl)
theorem L5x7 : L5 7 = [0, 1, 5, 6, 7] := (rfl)
theorem L5x9 : L5 9 = [5, 6, 8] := (rfl)
theorem L5x10 : L5 10 = [5, 6, 8, 9] := (rfl)
theorem L5x11 : L5 11 = [5, 6, 8, 9, 10] := (rfl)
theorem L5x12 : L5 12 = [5, 6, 8, 9, 10, 55] := (rfl)
theorem L5x14 : L5 14 = [5, 6, 8, 9, 10, 11] := (rfl)
theorem L5x15 : L5 15 = [5, 6, 8, 9, 10, 11, 71] := (rfl)
theorem L5x16 : L5 16 = [4] := (rfl)
theorem L5x17 : L5 17 = [5, 6, 8, 9, 10, 11, 90] := (rfl)
theorem L5x18 : L5 18 = [4] := (rfl)
theorem L5x19 : L5 19 = [5, 6, 8, 9, 10, 11, 12, 13] := (rfl)
theorem L5x20 : L5 20 = [5, 6, 8, 9, 10, 129] := (rfl)
theorem L5x21 : L5 21 = [4] := (rfl)
theorem L5x13 : L5 13 = [5, 6, 8, 9, 10] := (rfl)
theorem L5x22 : L5 22 = [9, 14] := (rfl)
theorem L5x23 : L5 23 = [4] := (rfl)
def ord5x8 : List Nat := [0, 1, 2, 3, 4, 5, 6, 7, 8, 9, 10]
def ord5x14 : List Nat := [0, 1, 2, 3, 4, 5, 6, 7, 8, 9, 10, 11, 12]
def ord5x17 : List Nat := [0, 1, 2, 3, 4, 5, 6, 7, 8, 9, 10, 11, 12, 13, 14, 15, 16, 17, 18]
def ord5x20 : List Nat := [0, 1, 2, 3, 4, 5, 6, 7, 8, 9, 10, 11, 12, 13, 14, 15, 16, 17, 18, 19, 20, 21, 22, 23, 24, 25, 26, 27, 28]
theorem fnOk5 : fnOk Try.prog 5 = true := by kernel_rfl
theorem rq5 {R : Value → AH → Nat → Prop} {env : Env} {H : AH} {nx : Nat} : retQ Try.prog Try.f5 R .ret env H nx = onV (eg env 4) R H nx := retQ_one rfl (of_decide_eq_true (by kernel_rfl))

theorem fa53x1 (H : AH) (b o : Nat) : fieldAV Try.prog H 53 1 (.pointer (some ⟨b, o, none⟩)) = some (.pointer (some ⟨b, o + 2, none⟩)) := fieldAV_eq 53 1 b o false 0 2 (by kernel_rfl)
theorem fa53x3 (H : AH) (b o : Nat) : fieldAV Try.prog H 53 3 (.pointer (some ⟨b, o, none⟩)) = some (.pointer (some ⟨b, o + 4, none⟩)) := fieldAV_eq 53 3 b o false 0 4 (by kernel_rfl)
theorem zero41 : zeroT Try.prog 41 = some (.agg #[(.int .u16 0), (.int .u16 0)]) := by kernel_rfl
theorem bd41x0x1 (H : AH) (k0x0 : IntKind) (n0x0 : Int) (k1x0 : IntKind) (n1x0 : Int) : buildV Try.prog H 41 #[(0, .int k0x0 n0x0), (1, .int k1x0 n1x0)] = some (.agg #[.int k0x0 n0x0, .int k1x0 n1x0]) := build_by (pl := fun i => (#[(0, 1), (1, 1)] : Array (Nat × Nat))[i]?) (by kernel_rfl) zero41 (by simp [Instr.fill, cells_agg, cells_int, cells_bool, cells_slice, cells_ptr, cells_str])
theorem al41 (lo : Nat) (K : Value → AH → Nat → Prop) (H : AH) (nx : Nat) : allocQ Try.prog lo 41 K H nx = newQ 41 ((.agg #[(.int .u16 0), (.int .u16 0)]) : Value).cells K H nx := alloc_new zero41
theorem st41 (lo : Nat) (b o : Nat) (v0 v1 : Value) (K : AH → Nat → Prop) (H : AH) (nx : Nat) : storeQ Try.prog lo 41 (.pointer (some ⟨b, o, none⟩)) (.agg #[v0, v1]) K H nx = stsQ lo b o [v0, v1] K H nx := store_agg (n := 2) (by kernel_rfl) (by decide) rfl
/-! 6: milestone/milestonelaw16.RoutesBlocked · code of 127 operations -/
def L6 : Nat → List Nat
  | 0 => [0, 1]
  | 1 => [0, 1, 30]
  | 2 => [4]
  | 3 => [0, 1, 5]
  | 4 => [0, 1, 5, 6]
  | 5 => [0, 1, 5, 6, 7]
  | 6 => [0, 1, 5, 6, 7, 37]
  | 8 => [0, 1, 5, 6, 7]
  | 7 => [0, 1, 5, 6, 7]
  | 9 => [5, 6, 8]
  | 10 => [6, 8, 9]
  | 11 => [6, 8, 9, 10]
  | 12 => [6, 8, 9, 10, 11]
  | 13 => [6, 8, 9, 10, 11, 56]
  | 15 => [6, 8, 9, 10, 11, 12]
  | 16 => [6, 8, 9, 10, 11, 12, 65]
  | 17 => [6, 8, 9, 10, 11, 12, 13]
  | 18 => [6, 8, 9, 10, 11, 12, 13, 14]
  | 19 => [6, 8, 9, 10, 11, 12, 13, 14, 15]
  | 20 => [6, 8, 9, 10, 11, 12, 13, 14, 15, 67]
  | 22 => [6, 8, 9, 10, 11, 12, 13, 14, 15, 16]
  | 23 => [6, 8, 9, 10, 11, 12, 13, 14, 15, 16, 75]
  | 24 => [6, 8, 9, 10, 11, 12, 13, 14, 15, 16]
  | 25 => [6, 8, 9, 10, 11, 12, 13, 14, 15]
  | 21 => [6, 8, 9, 10, 11, 12, 13, 14, 15]
  | 26 => [6, 8, 9, 10, 11, 12, 13, 14, 17]
  | 27 => [6, 8, 9, 10, 11, 12, 13, 14, 17, 18]
  | 28 => [6, 8, 9, 10, 11, 12, 13, 14, 17, 18, 91]
  | 30 => [6, 8, 9, 10, 11, 12, 13, 14, 17, 18]
  | 29 => [6, 8, 9, 10, 11, 12, 13, 14, 17, 18]
  | 31 => [6, 8, 9, 10, 11, 17, 109]
  | 32 => [4]
  | 33 => [6, 8, 9, 10, 11, 110]
  | 34 => [6, 8, 9, 10, 11]
  | 14 => [6, 8, 9, 10, 11]
  | 35 => [4]
  | _ => []
theorem L6x0 : L6 0 = [0, 1] := (rfl)
theorem L6x1 : L6 1 = [0, 1, 30] := (rfl)
theorem L6x2 : L6 2 = [4] := (rfl)
theorem L6x3 : L6 3 = [0, 1, 5] := (rfl)
theorem L6x4 : L6 4 = [0, 1, 5, 6] := (rfl)
theorem L6x5 : L6 5 = [0, 1, 5, 6, 7] := (rfl)
theorem L6x6 : L6 6 = [0, 1, 5, 6, 7, 37] := (rfl)
theorem L6x8 : L6 8 = [0, 1, 5, 6, 7] := (rfl)
theorem L6x7 : L6 7 = [0, 1, 5, 6, 7] := (rfl)
theorem L6x9 : L6 9 = [5, 6, 8] := (rfl)
theorem L6x10 : L6 10 = [6, 8, 9] := (rfl)
theorem L6x11 : L6 11 = [6, 8, 9, 10] := (rfl)
theorem L6x12 : L6 12 = [6, 8, 9, 10, 11] := (rfl)
theorem L6x13 : L6 13 = [6, 8, 9, 10, 11, 56] := (rfl)
theorem L6x15 : L6 15 = [6, 8, 9, 10, 11, 12] := (rfl)
theorem L6x16 : L6 16 = [6, 8, 9, 10, 11, 12, 65] := (rfl)
theorem L6x17 : L6 17 = [6, 8, 9, 10, 11, 12, 13] := (rfl)
theorem L6x18 : L6 18 = [6, 8, 9, 10, 11, 12, 13, 14] := (rfl)
theorem L6x19 : L6 19 = [6, 8, 9, 10, 11, 12, 13, 14, 15] := (rfl)
theorem L6x20 : L6 20 = [6, 8, 9, 10, 11, 12, 13, 14, 15, 67] := (rfl)
theorem L6x22 : L6 22 = [6, 8, 9, 10, 11, 12, 13, 14, 15, 16] := (rfl)
theorem L6x23 : L6 23 = [6, 8, 9, 10, 11, 12, 13, 14, 15, 16, 75] := (rfl)
theorem L6x24 : L6 24 = [6, 8, 9, 10, 11, 12, 13, 14, 15, 16] := (rfl)
theorem L6x25 : L6 25 = [6, 8, 9, 10, 11, 12, 13, 14, 15] := (rfl)
theorem L6x21 : L6 21 = [6, 8, 9, 10, 11, 12, 13, 14, 15] := (rfl)
theorem L6x26 : L6 26 = [6, 8, 9, 10, 11, 12, 13, 14, 17] := (rfl)
theorem L6x27 : L6 27 = [6, 8, 9, 10, 11, 12, 13, 14, 17, 18] := (rfl)
theorem L6x28 : L6 28 = [6, 8, 9, 10, 11, 12, 13, 14, 17, 18, 91] := (rfl)
theorem L6x30 : L6 30 = [6, 8, 9, 10, 11, 12, 13, 14, 17, 18] := (rfl)
theorem L6x29 : L6 29 = [6, 8, 9, 10, 11, 12, 13, 14, 17, 18] := (rfl)
theorem L6x31 : L6 31 = [6, 8, 9, 10, 11, 17, 109] := (rfl)
theorem L6x32 : L6 32 = [4] := (rfl)
theorem L6x33 : L6 33 = [6, 8, 9, 10, 11, 110] := (rfl)
theorem L6x34 : L6 34 = [6, 8, 9, 10, 11] := (rfl)
theorem L6x14 : L6 14 = [6, 8, 9, 10, 11] := (rfl)
theorem L6x35 : L6 35 = [4] := (rfl)
def ord6x8 : List Nat := [0, 1, 2, 3, 4, 5, 6, 7, 8, 9, 10]
def ord6x25 : List Nat := [0, 1, 2, 3, 4, 5, 6, 7, 8, 9, 10, 11, 12]
def ord6x30 : List Nat := [0, 1, 2, 3, 4, 5, 6, 7, 8, 9]
theorem fnOk6 : fnOk Try.prog 6 = true := by kernel_rfl
theorem rq6 {R : Value → AH → Nat → Prop} {env : Env} {H : AH} {nx : Nat} : retQ Try.prog Try.f6 R .ret env H nx = onV (eg env 4) R H nx := retQ_one rfl (of_decide_eq_true (by kernel_rfl))

theorem len65 (H : AH) (ty : TypeId) (a : Option Addr) (n c : Nat) : lenV Try.prog H #[65] ty #[.slice a n c] = some (.int .i64 n) := lenV_slice 65 39 ty 2 a n c (by kernel_rfl)
theorem ia65 (H : AH) (n b o c : Nat) (kk : IntKind) (i : Int) (h0 : 0 ≤ i) (h1 : i < n) : indexAV Try.prog H 65 (.slice (some ⟨b, o, none⟩) n c) (.int kk i) = some (.pointer (some ⟨b, o + i.toNat * 2, none⟩)) := indexAV_slice 65 39 n 2 b o c kk i (by kernel_rfl) h0 h1
/-! 7: milestone/milestonelaw16.awake · code of 47 operations -/
def L7 : Nat → List Nat
  | 0 => []
  | 1 => [1]
  | 2 => [1, 2]
  | 3 => [1, 2, 3]
  | 4 => [1, 3, 4]
  | 5 => [3, 4, 5]
  | 6 => [0]
  | _ => []
theorem L7x0 : L7 0 = [] := (rfl)
theorem L7x1 : L7 1 = [1] := (rfl)
theorem L7x2 : L7 2 = [1, 2] := (rfl)
theorem L7x3 : L7 3 = [1, 2, 3] := (rfl)
theorem L7x4 : L7 4 = [1, 3, 4] := (rfl)
theorem L7x5 : L7 5 = [3, 4, 5] := (rfl)
theorem L7x6 : L7 6 = [0] := (rfl)
theorem fnOk7 : fnOk Try.prog 7 = true := by kernel_rfl
theorem rq7 {R : Value → AH → Nat → Prop} {env : Env} {H : AH} {nx : Nat} : retQ Try.prog Try.f7 R .ret env H nx = onV (eg env 0) R H nx := retQ_one rfl (of_decide_eq_true (by kernel_rfl))

theorem bd39x0x1 (H : AH) (k0x0 : IntKind) (n0x0 : Int) (k1x0 : IntKind) (n1x0 : Int) : buildV Try.prog H 39 #[(0, .int k0x0 n0x0), (1, .int k1x0 n1x0)] = some (.agg #[.int k0x0 n0x0, .int k1x0 n1x0]) := build_by (pl := fun i => (#[(0, 1), (1, 1)] : Array (Nat × Nat))[i]?) (by kernel_rfl) zero39 (by simp [Instr.fill, cells_agg, cells_int, cells_bool, cells_slice, cells_ptr, cells_str])
/-! 8: milestone/routes.New · code of 4 operations -/
def L8 : Nat → List Nat
  | 0 => []
  | 1 => [0]
  | _ => []
theorem L8x0 : L8 0 = [] := (rfl)
theorem L8x1 : L8 1 = [0] := (rfl)
theorem fnOk8 : fnOk Try.prog 8 = true := by kernel_rfl
theorem rq8 {R : Value → AH → Nat → Prop} {env : Env} {H : AH} {nx : Nat} : retQ Try.prog Try.f8 R .ret env H nx = onV (eg env 0) R H nx := retQ_one rfl (of_decide_eq_true (by kernel_rfl))

theorem zero70 : zeroT Try.prog 70 = some (.agg #[(.slice none 0 0)]) := by kernel_rfl
theorem bd0x70 (H : AH) : buildV Try.prog H 70 #[] = some (.agg #[(.slice none 0 0)]) := build_zero (by kernel_rfl) zero70
/-! 9: milestone/milestonelaw16.do · code of 148 operations -/
def L9 : Nat → List Nat
  | 0 => [0, 4, 5, 6]
  | 1 => [0, 4, 5, 6, 8]
  | 2 => [0, 4, 5, 6, 8, 9]
  | 3 => [0, 4, 5, 6, 8, 9, 10]
  | 11 => [0, 4, 5, 6, 8, 9, 10, 57]
  | 12 => [0, 4, 5, 6, 8, 9, 10, 11]
  | 13 => [0, 4, 5, 6, 8, 9, 11, 68]
  | 14 => [0, 4, 5, 6, 8, 9, 11]
  | 15 => [4, 5, 6, 8, 9, 11, 81]
  | 16 => [6, 7]
  | 17 => [4, 5, 6, 8, 9, 11, 12]
  | 18 => [4, 5, 6, 8, 9, 11, 12, 88]
  | 19 => [4, 5, 6, 8, 9, 11]
  | 20 => [4, 5, 6, 8, 9, 11, 94]
  | 21 => [4, 6]
  | 22 => [0, 4, 5, 6, 8, 112]
  | 23 => [4, 6, 8]
  | 24 => [4, 6, 8, 13]
  | 25 => [4, 6, 8, 13, 123]
  | 27 => [4, 6, 8, 13, 133]
  | 28 => [4, 6, 8, 13]
  | 26 => [4, 6, 8, 13]
  | 4 => [0, 4, 6]
  | 5 => [4, 6]
  | 6 => [4, 6, 14]
  | 7 => [4, 6, 14, 42]
  | 9 => [4, 6, 14, 53]
  | 10 => [4, 6, 14]
  | 8 => [4, 6, 14]
  | 29 => [6, 7]
  | _ => []
theorem L9x0 : L9 0 = [0, 4, 5, 6] := (rfl)
theorem L9x1 : L9 1 = [0, 4, 5, 6, 8] := (rfl)
theorem L9x2 : L9 2 = [0, 4, 5, 6, 8, 9] := (rfl)
theorem L9x3 : L9 3 = [0, 4, 5, 6, 8, 9, 10] := (rfl)
theorem L9x11 : L9 11 = [0, 4, 5, 6, 8, 9, 10, 57] := (rfl)
theorem L9x12 : L9 12 = [0, 4, 5, 6, 8, 9, 10, 11] := (rfl)
theorem L9x13 : L9 13 = [0, 4, 5, 6, 8, 9, 11, 68] := (rfl)
theorem L9x14 : L9 14 = [0, 4, 5, 6, 8, 9, 11] := (rfl)
theorem L9x15 : L9 15 = [4, 5, 6, 8, 9, 11, 81] := (rfl)
theorem L9x16 : L9 16 = [6, 7] := (rfl)
theorem L9x17 : L9 17 = [4, 5, 6, 8, 9, 11, 12] := (rfl)
theorem L9x18 : L9 18 = [4, 5, 6, 8, 9, 11, 12, 88] := (rfl)
theorem L9x19 : L9 19 = [4, 5, 6, 8, 9, 11] := (rfl)
theorem L9x20 : L9 20 = [4, 5, 6, 8, 9, 11, 94] := (rfl)
theorem L9x21 : L9 21 = [4, 6] := (rfl)
theorem L9x22 : L9 22 = [0, 4, 5, 6, 8, 112] := (rfl)
theorem L9x23 : L9 23 = [4, 6, 8] := (rfl)
theorem L9x24 : L9 24 = [4, 6, 8, 13] := (rfl)
theorem L9x25 : L9 25 = [4, 6, 8, 13, 123] := (rfl)
theorem L9x27 : L9 27 = [4, 6, 8, 13, 133] := (rfl)
theorem L9x28 : L9 28 = [4, 6, 8, 13] := (rfl)
theorem L9x26 : L9 26 = [4, 6, 8, 13] := (rfl)
theorem L9x4 : L9 4 = [0, 4, 6] := (rfl)
theorem L9x5 : L9 5 = [4, 6] := (rfl)
theorem L9x6 : L9 6 = [4, 6, 14] := (rfl)
theorem L9x7 : L9 7 = [4, 6, 14, 42] := (rfl)
theorem L9x9 : L9 9 = [4, 6, 14, 53] := (rfl)
theorem L9x10 : L9 10 = [4, 6, 14] := (rfl)
theorem L9x8 : L9 8 = [4, 6, 14] := (rfl)
theorem L9x29 : L9 29 = [6, 7] := (rfl)
def ordT9x21 : Ord := .fork [0, 1, 3, 4, 5, 6, 7, 8, 9, 10, 11, 12, 13] 2 (.run [14, 15, 16, 17]) 14 (.run [2, 15, 16, 17])
def ord9x9 : List Nat := [0, 1, 2, 3, 4, 5, 6, 7, 8]
theorem fnOk9 : fnOk Try.prog 9 = true := by kernel_rfl
theorem rq9 {R : Value → AH → Nat → Prop} {env : Env} {H : AH} {nx : Nat} : retQ Try.prog Try.f9 R .ret env H nx = onA (eg env 6) (fun a => onA (loadV Try.prog H 29 a) fun v => onA (eg env 7) fun u => R (.tuple #[v, u]) H nx) := retQ_cell_tmp rfl (of_decide_eq_true (by kernel_rfl)) (of_decide_eq_true (by kernel_rfl))

theorem fa34x1 (H : AH) (b o : Nat) : fieldAV Try.prog H 34 1 (.pointer (some ⟨b, o, none⟩)) = some (.pointer (some ⟨b, o + 1, none⟩)) := fieldAV_eq 34 1 b o false 0 1 (by kernel_rfl)
theorem ld5 (H : AH) (b o : Nat) : loadV Try.prog H 5 (.pointer (some ⟨b, o, none⟩)) = H.c b o := load_one (by kernel_rfl)
theorem cv5x3 (lo : Nat) (k' : IntKind) (n : Int) (K : Value → AH → Nat → Prop) (H : AH) (nx : Nat) : convQ Try.prog lo 5 3 (.int k' n) K H nx = K (.int .i64 (IntKind.wrap .i64 n)) H nx := convQ_int (by kernel_rfl) (by kernel_rfl)
theorem cx5x3 (k' : IntKind) (n : Int) (H : AH) : convV Try.prog H 5 3 (.int k' n) = some (.int .i64 (IntKind.wrap .i64 n)) := convV_int (by kernel_rfl) (by kernel_rfl)
theorem fa34x2 (H : AH) (b o : Nat) : fieldAV Try.prog H 34 2 (.pointer (some ⟨b, o, none⟩)) = some (.pointer (some ⟨b, o + 2, none⟩)) := fieldAV_eq 34 2 b o false 0 2 (by kernel_rfl)
theorem fa34x0 (H : AH) (b o : Nat) : fieldAV Try.prog H 34 0 (.pointer (some ⟨b, o, none⟩)) = some (.pointer (some ⟨b, o + 0, none⟩)) := fieldAV_eq 34 0 b o false 0 0 (by kernel_rfl)
theorem fa34x3 (H : AH) (b o : Nat) : fieldAV Try.prog H 34 3 (.pointer (some ⟨b, o, none⟩)) = some (.pointer (some ⟨b, o + 3, none⟩)) := fieldAV_eq 34 3 b o false 0 3 (by kernel_rfl)
theorem cv5x32 (lo : Nat) (k' : IntKind) (n : Int) (K : Value → AH → Nat → Prop) (H : AH) (nx : Nat) : convQ Try.prog lo 5 32 (.int k' n) K H nx = K (.int .u16 (IntKind.wrap .u16 n)) H nx := convQ_int (by kernel_rfl) (by kernel_rfl)
theorem cx5x32 (k' : IntKind) (n : Int) (H : AH) : convV Try.prog H 5 32 (.int k' n) = some (.int .u16 (IntKind.wrap .u16 n)) := convV_int (by kernel_rfl) (by kernel_rfl)
theorem fa34x4 (H : AH) (b o : Nat) : fieldAV Try.prog H 34 4 (.pointer (some ⟨b, o, none⟩)) = some (.pointer (some ⟨b, o + 4, none⟩)) := fieldAV_eq 34 4 b o false 0 4 (by kernel_rfl)
theorem st32 (lo : Nat) (b o : Nat) (v : Value) (K : AH → Nat → Prop) (H : AH) (nx : Nat) (hv : v.oneCell' = true) : storeQ Try.prog lo 32 (.pointer (some ⟨b, o, none⟩)) v K H nx = stQ lo b o v K H nx := store_one (by kernel_rfl) hv
theorem stc32 (lo : Nat) (b o : Nat) (k : IntKind) (n : Int) (K : AH → Nat → Prop) (H : AH) (nx : Nat) : storeQ Try.prog lo 32 (.pointer (some ⟨b, o, none⟩)) (.int k n) K H nx = stQ lo b o (.int k n) K H nx := store_one (by kernel_rfl) rfl
theorem fa29x1 (H : AH) (b o : Nat) : fieldAV Try.prog H 29 1 (.pointer (some ⟨b, o, none⟩)) = some (.pointer (some ⟨b, o + 1, none⟩)) := fieldAV_eq 29 1 b o false 0 1 (by kernel_rfl)
theorem ld27 (H : AH) (b o : Nat) : loadV Try.prog H 27 (.pointer (some ⟨b, o, none⟩)) = H.c b o := load_one (by kernel_rfl)
theorem zero43 : zeroT Try.prog 43 = some (.agg #[(.int .u32 0), (.int .u8 0), (.int .i64 0), (.int .i64 0), (.int .u16 0), (.int .u16 0), (.int .u64 0)]) := by kernel_rfl
theorem sl26 : slT Try.prog 26 = some (43, 7) := by kernel_rfl
theorem by43 : bytesT Try.prog 43 = some 40 := by kernel_rfl
theorem bd43x0x1x2x3x4 (H : AH) (v0x0 : Value) (v0x1 : Value) (k1x0 : IntKind) (n1x0 : Int) (k2x0 : IntKind) (n2x0 : Int) (v3x0 : Value) (v3x1 : Value) (k4x0 : IntKind) (n4x0 : Int) : buildV Try.prog H 43 #[(0, .agg #[v0x0, v0x1]), (1, .int k1x0 n1x0), (2, .int k2x0 n2x0), (3, .agg #[v3x0, v3x1]), (4, .int k4x0 n4x0)] = some (.agg #[v0x0, v0x1, .int k1x0 n1x0, .int k2x0 n2x0, v3x0, v3x1, .int k4x0 n4x0]) := build_by (pl := fun i => (#[(0, 2), (2, 1), (3, 1), (4, 2), (6, 1)] : Array (Nat × Nat))[i]?) (by kernel_rfl) zero43 (by simp [Instr.fill, cells_agg, cells_int, cells_bool, cells_slice, cells_ptr, cells_str])
theorem st26 (lo : Nat) (b o : Nat) (v : Value) (K : AH → Nat → Prop) (H : AH) (nx : Nat) (hv : v.oneCell' = true) : storeQ Try.prog lo 26 (.pointer (some ⟨b, o, none⟩)) v K H nx = stQ lo b o v K H nx := store_one (by kernel_rfl) hv
theorem stc26 (lo : Nat) (b o : Nat) (a : Option Addr) (n c : Nat) (K : AH → Nat → Prop) (H : AH) (nx : Nat) : storeQ Try.prog lo 26 (.pointer (some ⟨b, o, none⟩)) (.slice a n c) K H nx = stQ lo b o (.slice a n c) K H nx := store_one (by kernel_rfl) rfl
theorem cv5x27 (lo : Nat) (k' : IntKind) (n : Int) (K : Value → AH → Nat → Prop) (H : AH) (nx : Nat) : convQ Try.prog lo 5 27 (.int k' n) K H nx = K (.int .u64 (IntKind.wrap .u64 n)) H nx := convQ_int (by kernel_rfl) (by kernel_rfl)
theorem cx5x27 (k' : IntKind) (n : Int) (H : AH) : convV Try.prog H 5 27 (.int k' n) = some (.int .u64 (IntKind.wrap .u64 n)) := convV_int (by kernel_rfl) (by kernel_rfl)
theorem st27 (lo : Nat) (b o : Nat) (v : Value) (K : AH → Nat → Prop) (H : AH) (nx : Nat) (hv : v.oneCell' = true) : storeQ Try.prog lo 27 (.pointer (some ⟨b, o, none⟩)) v K H nx = stQ lo b o v K H nx := store_one (by kernel_rfl) hv
theorem stc27 (lo : Nat) (b o : Nat) (k : IntKind) (n : Int) (K : AH → Nat → Prop) (H : AH) (nx : Nat) : storeQ Try.prog lo 27 (.pointer (some ⟨b, o, none⟩)) (.int k n) K H nx = stQ lo b o (.int k n) K H nx := store_one (by kernel_rfl) rfl
theorem fa43x4 (H : AH) (b o : Nat) : fieldAV Try.prog H 43 4 (.pointer (some ⟨b, o, none⟩)) = some (.pointer (some ⟨b, o + 6, none⟩)) := fieldAV_eq 43 4 b o false 0 6 (by kernel_rfl)
/-! 10: (*milestone/routes.Routes).All · code of 14 operations -/
def L10 : Nat → List Nat
  | 0 => [0]
  | 1 => [0, 5]
  | 2 => [2]
  | 3 => [3]
  | 4 => [3]
  | 5 => [2]
  | _ => []
theorem L10x0 : L10 0 = [0] := (rfl)
theorem L10x1 : L10 1 = [0, 5] := (rfl)
theorem L10x2 : L10 2 = [2] := (rfl)
theorem L10x3 : L10 3 = [3] := (rfl)
theorem L10x4 : L10 4 = [3] := (rfl)
theorem L10x5 : L10 5 = [2] := (rfl)
theorem fnOk10 : fnOk Try.prog 10 = true := by kernel_rfl
theorem rq10 {R : Value → AH → Nat → Prop} {env : Env} {H : AH} {nx : Nat} : retQ Try.prog Try.f10 R .ret env H nx = onV (eg env 2) R H nx := retQ_one rfl (of_decide_eq_true (by kernel_rfl))

theorem eqp24 (H : AH) (x y : Operand) (a : Option Addr) : binV Try.prog H .eql 24 x y (.pointer a) (.pointer none) = some (.bool a.isNone) := eq_ptr (by kernel_rfl)
theorem nep24 (H : AH) (x y : Operand) (a : Option Addr) : binV Try.prog H .neq 24 x y (.pointer a) (.pointer none) = some (.bool a.isSome) := ne_ptr (by kernel_rfl)
theorem fa70x0 (H : AH) (b o : Nat) : fieldAV Try.prog H 70 0 (.pointer (some ⟨b, o, none⟩)) = some (.pointer (some ⟨b, o + 0, none⟩)) := fieldAV_eq 70 0 b o false 0 0 (by kernel_rfl)
/-! 11: (milestone/milestonelaw16.told).find · code of 33 operations -/
def L11 : Nat → List Nat
  | 0 => [2, 3, 4]
  | 1 => [2, 3, 4, 7]
  | 2 => [2, 3, 4, 7, 12]
  | 4 => [2, 3, 4, 7, 32]
  | 5 => [6]
  | 3 => [2, 3, 4, 7]
  | 6 => [6]
  | _ => []
theorem L11x0 : L11 0 = [2, 3, 4] := (rfl)
theorem L11x1 : L11 1 = [2, 3, 4, 7] := (rfl)
theorem L11x2 : L11 2 = [2, 3, 4, 7, 12] := (rfl)
theorem L11x4 : L11 4 = [2, 3, 4, 7, 32] := (rfl)
theorem L11x5 : L11 5 = [6] := (rfl)
theorem L11x3 : L11 3 = [2, 3, 4, 7] := (rfl)
theorem L11x6 : L11 6 = [6] := (rfl)
def ord11x4 : List Nat := [0, 1, 2, 3, 4, 5, 6, 7, 8, 9, 10, 11, 12, 13, 14, 15, 16, 17]
theorem fnOk11 : fnOk Try.prog 11 = true := by kernel_rfl
theorem rq11 {R : Value → AH → Nat → Prop} {env : Env} {H : AH} {nx : Nat} : retQ Try.prog Try.f11 R .ret env H nx = onV (eg env 6) R H nx := retQ_one rfl (of_decide_eq_true (by kernel_rfl))

/-! 12: milestone/milestoneref01.Ahead · code of 23 operations -/
def L12 : Nat → List Nat
  | 0 => [2, 3]
  | 1 => [4]
  | _ => []
theorem L12x0 : L12 0 = [2, 3] := (rfl)
theorem L12x1 : L12 1 = [4] := (rfl)
theorem fnOk12 : fnOk Try.prog 12 = true := by kernel_rfl
theorem rq12 {R : Value → AH → Nat → Prop} {env : Env} {H : AH} {nx : Nat} : retQ Try.prog Try.f12 R .ret env H nx = onV (eg env 4) R H nx := retQ_one rfl (of_decide_eq_true (by kernel_rfl))

theorem fa39x0 (H : AH) (b o : Nat) : fieldAV Try.prog H 39 0 (.pointer (some ⟨b, o, none⟩)) = some (.pointer (some ⟨b, o + 0, none⟩)) := fieldAV_eq 39 0 b o false 0 0 (by kernel_rfl)
theorem ld37 (H : AH) (b o : Nat) : loadV Try.prog H 37 (.pointer (some ⟨b, o, none⟩)) = H.c b o := load_one (by kernel_rfl)
theorem fa39x1 (H : AH) (b o : Nat) : fieldAV Try.prog H 39 1 (.pointer (some ⟨b, o, none⟩)) = some (.pointer (some ⟨b, o + 1, none⟩)) := fieldAV_eq 39 1 b o false 0 1 (by kernel_rfl)
/-! 13: milestone/milestonelaw16.lowered · code of 34 operations -/
def L13 : Nat → List Nat
  | 0 => [0]
  | 1 => [0, 3]
  | 2 => [0, 3, 4]
  | 3 => [0, 3, 4, 9]
  | 5 => [0, 3, 4]
  | 4 => [0, 3, 4]
  | 6 => [2]
  | _ => []
theorem L13x0 : L13 0 = [0] := (rfl)
theorem L13x1 : L13 1 = [0, 3] := (rfl)
theorem L13x2 : L13 2 = [0, 3, 4] := (rfl)
theorem L13x3 : L13 3 = [0, 3, 4, 9] := (rfl)
theorem L13x5 : L13 5 = [0, 3, 4] := (rfl)
theorem L13x4 : L13 4 = [0, 3, 4] := (rfl)
theorem L13x6 : L13 6 = [2] := (rfl)
def ord13x5 : List Nat := [0, 1, 2, 3, 4, 5, 7, 8, 9, 10, 11, 12, 13, 14, 15, 16, 17, 18, 19, 6, 20]
theorem fnOk13 : fnOk Try.prog 13 = true := by kernel_rfl
theorem rq13 {R : Value → AH → Nat → Prop} {env : Env} {H : AH} {nx : Nat} : retQ Try.prog Try.f13 R .ret env H nx = onV (eg env 2) R H nx := retQ_one rfl (of_decide_eq_true (by kernel_rfl))

/-! 14: (*milestone/routes.Routes).Select · code of 98 operations -/
def L14 : Nat → List Nat
  | 0 => [0, 1, 2]
  | 1 => [0, 1, 2, 7]
  | 2 => [1, 2, 7, 15, 16, 17]
  | 3 => [1, 2, 7, 15, 16, 17, 18]
  | 4 => [1, 2, 7, 9, 15, 16, 17]
  | 5 => [1, 2, 7, 9, 10, 15, 16, 17]
  | 6 => [1, 2, 7, 9, 10, 15, 16, 17, 25]
  | 7 => [1, 2, 7, 9, 10, 15, 16, 17]
  | 8 => [1, 2, 7, 9, 10, 11, 15, 16, 17]
  | 9 => [1, 2, 7, 9, 11, 15, 16, 17, 52]
  | 10 => [1, 2, 7, 9, 12, 15, 16, 17]
  | 11 => [1, 2, 7, 9, 12, 13, 15, 16, 17]
  | 12 => [1, 2, 7, 12, 13, 15, 16, 17, 77]
  | 13 => [1, 2, 7, 15, 16, 17]
  | 14 => [1, 2, 7, 12, 13, 15, 16, 17, 90]
  | 15 => [1, 2, 7, 15, 16, 17]
  | 16 => [1, 2, 7, 15, 16, 17]
  | 17 => [6]
  | _ => []
theorem L14x0 : L14 0 = [0, 1, 2] := (rfl)
theorem L14x1 : L14 1 = [0, 1, 2, 7] := (rfl)
theorem L14x2 : L14 2 = [1, 2, 7, 15, 16, 17] := (rfl)
theorem L14x3 : L14 3 = [1, 2, 7, 15, 16, 17, 18] := (rfl)
theorem L14x4 : L14 4 = [1, 2, 7, 9, 15, 16, 17] := (rfl)
theorem L14x5 : L14 5 = [1, 2, 7, 9, 10, 15, 16, 17] := (rfl)
theorem L14x6 : L14 6 = [1, 2, 7, 9, 10, 15, 16, 17, 25] := (rfl)
theorem L14x7 : L14 7 = [1, 2, 7, 9, 10, 15, 16, 17] := (rfl)
theorem L14x8 : L14 8 = [1, 2, 7, 9, 10, 11, 15, 16, 17] := (rfl)
theorem L14x9 : L14 9 = [1, 2, 7, 9, 11, 15, 16, 17, 52] := (rfl)
theorem L14x10 : L14 10 = [1, 2, 7, 9, 12, 15, 16, 17] := (rfl)
theorem L14x11 : L14 11 = [1, 2, 7, 9, 12, 13, 15, 16, 17] := (rfl)
theorem L14x12 : L14 12 = [1, 2, 7, 12, 13, 15, 16, 17, 77] := (rfl)
theorem L14x13 : L14 13 = [1, 2, 7, 15, 16, 17] := (rfl)
theorem L14x14 : L14 14 = [1, 2, 7, 12, 13, 15, 16, 17, 90] := (rfl)
theorem L14x15 : L14 15 = [1, 2, 7, 15, 16, 17] := (rfl)
theorem L14x16 : L14 16 = [1, 2, 7, 15, 16, 17] := (rfl)
theorem L14x17 : L14 17 = [6] := (rfl)
def ord14x12 : List Nat := [0, 1, 2, 3, 4, 5, 6, 7, 8, 9, 10, 11, 12]
def ord14x14 : List Nat := [0, 1, 2, 3, 4, 5, 6, 7, 8]
theorem fnOk14 : fnOk Try.prog 14 = true := by kernel_rfl
theorem rq14 {R : Value → AH → Nat → Prop} {env : Env} {H : AH} {nx : Nat} : retQ Try.prog Try.f14 R .ret env H nx = onV (eg env 6) R H nx := retQ_one rfl (of_decide_eq_true (by kernel_rfl))

theorem al43 (lo : Nat) (K : Value → AH → Nat → Prop) (H : AH) (nx : Nat) : allocQ Try.prog lo 43 K H nx = newQ 43 ((.agg #[(.int .u32 0), (.int .u8 0), (.int .i64 0), (.int .i64 0), (.int .u16 0), (.int .u16 0), (.int .u64 0)]) : Value).cells K H nx := alloc_new zero43
theorem st43 (lo : Nat) (b o : Nat) (v0 v1 v2 v3 v4 v5 v6 : Value) (K : AH → Nat → Prop) (H : AH) (nx : Nat) : storeQ Try.prog lo 43 (.pointer (some ⟨b, o, none⟩)) (.agg #[v0, v1, v2, v3, v4, v5, v6]) K H nx = stsQ lo b o [v0, v1, v2, v3, v4, v5, v6] K H nx := store_agg (n := 7) (by kernel_rfl) (by decide) rfl
theorem len50 (H : AH) (ty : TypeId) (a : Option Addr) (n c : Nat) : lenV Try.prog H #[50] ty #[.slice a n c] = some (.int .i64 n) := lenV_slice 50 32 ty 1 a n c (by kernel_rfl)
theorem ia50 (H : AH) (n b o c : Nat) (kk : IntKind) (i : Int) (h0 : 0 ≤ i) (h1 : i < n) : indexAV Try.prog H 50 (.slice (some ⟨b, o, none⟩) n c) (.int kk i) = some (.pointer (some ⟨b, o + i.toNat * 1, none⟩)) := indexAV_slice 50 32 n 1 b o c kk i (by kernel_rfl) h0 h1
theorem cv32x37 (lo : Nat) (k' : IntKind) (n : Int) (K : Value → AH → Nat → Prop) (H : AH) (nx : Nat) : convQ Try.prog lo 32 37 (.int k' n) K H nx = K (.int .u32 (IntKind.wrap .u32 n)) H nx := convQ_int (by kernel_rfl) (by kernel_rfl)
theorem cx32x37 (k' : IntKind) (n : Int) (H : AH) : convV Try.prog H 32 37 (.int k' n) = some (.int .u32 (IntKind.wrap .u32 n)) := convV_int (by kernel_rfl) (by kernel_rfl)
theorem cv37x32 (lo : Nat) (k' : IntKind) (n : Int) (K : Value → AH → Nat → Prop) (H : AH) (nx : Nat) : convQ Try.prog lo 37 32 (.int k' n) K H nx = K (.int .u16 (IntKind.wrap .u16 n)) H nx := convQ_int (by kernel_rfl) (by kernel_rfl)
theorem cx37x32 (k' : IntKind) (n : Int) (H : AH) : convV Try.prog H 37 32 (.int k' n) = some (.int .u16 (IntKind.wrap .u16 n)) := convV_int (by kernel_rfl) (by kernel_rfl)
theorem sl48 : slT Try.prog 48 = some (53, 5) := by kernel_rfl
theorem by53 : bytesT Try.prog 53 = some 24 := by kernel_rfl
/-! 15: milestone/milestonelaw16.costs · code of 3 operations -/
def L15 : Nat → List Nat
  | 0 => []
  | 1 => [0]
  | _ => []
theorem L15x0 : L15 0 = [] := (rfl)
theorem L15x1 : L15 1 = [0] := (rfl)
theorem fnOk15 : fnOk Try.prog 15 = true := by kernel_rfl
theorem rq15 {R : Value → AH → Nat → Prop} {env : Env} {H : AH} {nx : Nat} : retQ Try.prog Try.f15 R .ret env H nx = onV (eg env 0) R H nx := retQ_one rfl (of_decide_eq_true (by kernel_rfl))

theorem zero32 : zeroT Try.prog 32 = some (.int .u16 0) := by kernel_rfl
theorem sl50 : slT Try.prog 50 = some (32, 1) := by kernel_rfl
/-! 16: milestone/milestoneref07.Prefix · code of 19 operations -/
def L16 : Nat → List Nat
  | 0 => [0, 2]
  | 1 => [2]
  | _ => []
theorem L16x0 : L16 0 = [0, 2] := (rfl)
theorem L16x1 : L16 1 = [2] := (rfl)
theorem fnOk16 : fnOk Try.prog 16 = true := by kernel_rfl
theorem rq16 {R : Value → AH → Nat → Prop} {env : Env} {H : AH} {nx : Nat} : retQ Try.prog Try.f16 R .ret env H nx = onA (eg env 2) (fun a => onV (loadV Try.prog H 39 a) R H nx) := retQ_cell rfl (of_decide_eq_true (by kernel_rfl))

theorem cv5x37 (lo : Nat) (k' : IntKind) (n : Int) (K : Value → AH → Nat → Prop) (H : AH) (nx : Nat) : convQ Try.prog lo 5 37 (.int k' n) K H nx = K (.int .u32 (IntKind.wrap .u32 n)) H nx := convQ_int (by kernel_rfl) (by kernel_rfl)
theorem cx5x37 (k' : IntKind) (n : Int) (H : AH) : convV Try.prog H 5 37 (.int k' n) = some (.int .u32 (IntKind.wrap .u32 n)) := convV_int (by kernel_rfl) (by kernel_rfl)
/-! 17: milestone/milestonelaw16.first · code of 16 operations -/
def L17 : Nat → List Nat
  | 0 => [1]
  | 1 => [1, 3]
  | 2 => [1, 3, 5]
  | 4 => [1, 3, 12]
  | 5 => [2]
  | 3 => [1, 3]
  | 6 => [2]
  | _ => []
theorem L17x0 : L17 0 = [1] := (rfl)
theorem L17x1 : L17 1 = [1, 3] := (rfl)
theorem L17x2 : L17 2 = [1, 3, 5] := (rfl)
theorem L17x4 : L17 4 = [1, 3, 12] := (rfl)
theorem L17x5 : L17 5 = [2] := (rfl)
theorem L17x3 : L17 3 = [1, 3] := (rfl)
theorem L17x6 : L17 6 = [2] := (rfl)
def ord17x4 : List Nat := [0, 1, 3, 2, 4]
theorem fnOk17 : fnOk Try.prog 17 = true := by kernel_rfl
theorem rq17 {R : Value → AH → Nat → Prop} {env : Env} {H : AH} {nx : Nat} : retQ Try.prog Try.f17 R .ret env H nx = onV (eg env 2) R H nx := retQ_one rfl (of_decide_eq_true (by kernel_rfl))

/-! 18: milestone/milestonelaw16.cost · code of 9 operations -/
def L18 : Nat → List Nat
  | 0 => [0]
  | 1 => [0, 4]
  | 2 => [2]
  | 3 => [2]
  | _ => []
theorem L18x0 : L18 0 = [0] := (rfl)
theorem L18x1 : L18 1 = [0, 4] := (rfl)
theorem L18x2 : L18 2 = [2] := (rfl)
theorem L18x3 : L18 3 = [2] := (rfl)
theorem fnOk18 : fnOk Try.prog 18 = true := by kernel_rfl
theorem rq18 {R : Value → AH → Nat → Prop} {env : Env} {H : AH} {nx : Nat} : retQ Try.prog Try.f18 R .ret env H nx = onV (eg env 2) R H nx := retQ_one rfl (of_decide_eq_true (by kernel_rfl))

/-! 19: (*milestone/source.Source).Feasible · code of 25 operations -/
def L19 : Nat → List Nat
  | 0 => [0, 4, 5]
  | 1 => [5, 7, 8]
  | 2 => [6]
  | _ => []
theorem L19x0 : L19 0 = [0, 4, 5] := (rfl)
theorem L19x1 : L19 1 = [5, 7, 8] := (rfl)
theorem L19x2 : L19 2 = [6] := (rfl)
theorem fnOk19 : fnOk Try.prog 19 = true := by kernel_rfl
theorem rq19 {R : Value → AH → Nat → Prop} {env : Env} {H : AH} {nx : Nat} : retQ Try.prog Try.f19 R .ret env H nx = onV (eg env 6) R H nx := retQ_one rfl (of_decide_eq_true (by kernel_rfl))

/-! 20: (*milestone/source.Source).Lower · code of 68 operations -/
def L20 : Nat → List Nat
  | 0 => [0, 4, 5]
  | 1 => [0, 4, 5, 9]
  | 2 => [6]
  | 3 => [0, 4, 5, 12]
  | 4 => [6]
  | 5 => [0, 4, 5, 7, 8]
  | 7 => [0, 4, 5, 7, 40]
  | 8 => []
  | 9 => [0, 4, 5, 7, 59]
  | 10 => [6]
  | 6 => []
  | 11 => [6]
  | _ => []
theorem L20x0 : L20 0 = [0, 4, 5] := (rfl)
theorem L20x1 : L20 1 = [0, 4, 5, 9] := (rfl)
theorem L20x2 : L20 2 = [6] := (rfl)
theorem L20x3 : L20 3 = [0, 4, 5, 12] := (rfl)
theorem L20x4 : L20 4 = [6] := (rfl)
theorem L20x5 : L20 5 = [0, 4, 5, 7, 8] := (rfl)
theorem L20x7 : L20 7 = [0, 4, 5, 7, 40] := (rfl)
theorem L20x8 : L20 8 = [] := (rfl)
theorem L20x9 : L20 9 = [0, 4, 5, 7, 59] := (rfl)
theorem L20x10 : L20 10 = [6] := (rfl)
theorem L20x6 : L20 6 = [] := (rfl)
theorem L20x11 : L20 11 = [6] := (rfl)
def ord20x8 : List Nat := [0, 1, 2, 3, 4, 5, 6, 7, 8, 9, 10, 11, 12, 13, 14, 15, 16, 17]
def ord20x6 : List Nat := [0, 1, 2, 3, 4, 5, 6, 7, 8, 9, 10, 11, 12, 13]
theorem fnOk20 : fnOk Try.prog 20 = true := by kernel_rfl
theorem rq20 {R : Value → AH → Nat → Prop} {env : Env} {H : AH} {nx : Nat} : retQ Try.prog Try.f20 R .ret env H nx = onV (eg env 6) R H nx := retQ_one rfl (of_decide_eq_true (by kernel_rfl))

theorem eqp46 (H : AH) (x y : Operand) (a : Option Addr) : binV Try.prog H .eql 46 x y (.pointer a) (.pointer none) = some (.bool a.isNone) := eq_ptr (by kernel_rfl)
theorem nep46 (H : AH) (x y : Operand) (a : Option Addr) : binV Try.prog H .neq 46 x y (.pointer a) (.pointer none) = some (.bool a.isSome) := ne_ptr (by kernel_rfl)
theorem fa88x0 (H : AH) (b o : Nat) : fieldAV Try.prog H 88 0 (.pointer (some ⟨b, o, none⟩)) = some (.pointer (some ⟨b, o + 0, none⟩)) := fieldAV_eq 88 0 b o false 0 0 (by kernel_rfl)
theorem ld86 (H : AH) (b o : Nat) : loadV Try.prog H 86 (.pointer (some ⟨b, o, none⟩)) = H.c b o := load_one (by kernel_rfl)
theorem ia86 (H : AH) (n b o c : Nat) (kk : IntKind) (i : Int) (h0 : 0 ≤ i) (h1 : i < n) : indexAV Try.prog H 86 (.slice (some ⟨b, o, none⟩) n c) (.int kk i) = some (.pointer (some ⟨b, o + i.toNat * 4, none⟩)) := indexAV_slice 86 85 n 4 b o c kk i (by kernel_rfl) h0 h1
theorem fa85x1 (H : AH) (b o : Nat) : fieldAV Try.prog H 85 1 (.pointer (some ⟨b, o, none⟩)) = some (.pointer (some ⟨b, o + 2, none⟩)) := fieldAV_eq 85 1 b o true 1 2 (by kernel_rfl)
theorem len86 (H : AH) (ty : TypeId) (a : Option Addr) (n c : Nat) : lenV Try.prog H #[86] ty #[.slice a n c] = some (.int .i64 n) := lenV_slice 86 85 ty 4 a n c (by kernel_rfl)
theorem zero85 : zeroT Try.prog 85 = some (.agg #[(.int .u32 0), (.int .u8 0), (.int .u16 0), (.int .u16 0)]) := by kernel_rfl
theorem bd85x0x1 (H : AH) (v0x0 : Value) (v0x1 : Value) (v1x0 : Value) (v1x1 : Value) : buildV Try.prog H 85 #[(0, .agg #[v0x0, v0x1]), (1, .agg #[v1x0, v1x1])] = some (.agg #[v0x0, v0x1, v1x0, v1x1]) := build_by (pl := fun i => (#[(0, 2), (2, 2)] : Array (Nat × Nat))[i]?) (by kernel_rfl) zero85 (by simp [Instr.fill, cells_agg, cells_int, cells_bool, cells_slice, cells_ptr, cells_str])
theorem sl86 : slT Try.prog 86 = some (85, 4) := by kernel_rfl
theorem st86 (lo : Nat) (b o : Nat) (v : Value) (K : AH → Nat → Prop) (H : AH) (nx : Nat) (hv : v.oneCell' = true) : storeQ Try.prog lo 86 (.pointer (some ⟨b, o, none⟩)) v K H nx = stQ lo b o v K H nx := store_one (by kernel_rfl) hv
theorem stc86 (lo : Nat) (b o : Nat) (a : Option Addr) (n c : Nat) (K : AH → Nat → Prop) (H : AH) (nx : Nat) : storeQ Try.prog lo 86 (.pointer (some ⟨b, o, none⟩)) (.slice a n c) K H nx = stQ lo b o (.slice a n c) K H nx := store_one (by kernel_rfl) rfl
/-! 21: (*milestone/source.Source).Mark · code of 31 operations -/
def L21 : Nat → List Nat
  | 0 => [0, 3, 4]
  | 1 => [0, 3, 4, 9]
  | 2 => [4, 5]
  | 3 => [0, 4, 6, 7]
  | 4 => [0, 4, 6, 18]
  | 5 => [4, 5]
  | 6 => [4, 5]
  | _ => []
theorem L21x0 : L21 0 = [0, 3, 4] := (rfl)
theorem L21x1 : L21 1 = [0, 3, 4, 9] := (rfl)
theorem L21x2 : L21 2 = [4, 5] := (rfl)
theorem L21x3 : L21 3 = [0, 4, 6, 7] := (rfl)
theorem L21x4 : L21 4 = [0, 4, 6, 18] := (rfl)
theorem L21x5 : L21 5 = [4, 5] := (rfl)
theorem L21x6 : L21 6 = [4, 5] := (rfl)
theorem fnOk21 : fnOk Try.prog 21 = true := by kernel_rfl
theorem rq21 {R : Value → AH → Nat → Prop} {env : Env} {H : AH} {nx : Nat} : retQ Try.prog Try.f21 R .ret env H nx = onA (eg env 4) (fun a => onA (loadV Try.prog H 41 a) fun v => onA (eg env 5) fun u => R (.tuple #[v, u]) H nx) := retQ_cell_tmp rfl (of_decide_eq_true (by kernel_rfl)) (of_decide_eq_true (by kernel_rfl))

theorem bd0x41 (H : AH) : buildV Try.prog H 41 #[] = some (.agg #[(.int .u16 0), (.int .u16 0)]) := build_zero (by kernel_rfl) zero41
/-! 22: milestone/milestoneref01.Nearer · code of 20 operations -/
def L22 : Nat → List Nat
  | 0 => [2, 3]
  | 1 => [2, 3, 9]
  | 2 => [4]
  | 3 => [4]
  | _ => []
theorem L22x0 : L22 0 = [2, 3] := (rfl)
theorem L22x1 : L22 1 = [2, 3, 9] := (rfl)
theorem L22x2 : L22 2 = [4] := (rfl)
theorem L22x3 : L22 3 = [4] := (rfl)
theorem fnOk22 : fnOk Try.prog 22 = true := by kernel_rfl
theorem rq22 {R : Value → AH → Nat → Prop} {env : Env} {H : AH} {nx : Nat} : retQ Try.prog Try.f22 R .ret env H nx = onV (eg env 4) R H nx := retQ_one rfl (of_decide_eq_true (by kernel_rfl))

/-! 23: milestone/milestoneref07.SameRoutes · code of 26 operations -/
def L23 : Nat → List Nat
  | 0 => [0, 1]
  | 1 => [0, 1, 10]
  | 2 => [4]
  | 3 => [0, 1, 5]
  | 4 => [0, 1, 5, 14]
  | 6 => [0, 1, 5, 25]
  | 7 => [4]
  | 5 => [0, 1, 5]
  | 8 => [4]
  | _ => []
theorem L23x0 : L23 0 = [0, 1] := (rfl)
theorem L23x1 : L23 1 = [0, 1, 10] := (rfl)
theorem L23x2 : L23 2 = [4] := (rfl)
theorem L23x3 : L23 3 = [0, 1, 5] := (rfl)
theorem L23x4 : L23 4 = [0, 1, 5, 14] := (rfl)
theorem L23x6 : L23 6 = [0, 1, 5, 25] := (rfl)
theorem L23x7 : L23 7 = [4] := (rfl)
theorem L23x5 : L23 5 = [0, 1, 5] := (rfl)
theorem L23x8 : L23 8 = [4] := (rfl)
def ord23x6 : List Nat := [0, 1, 2, 3, 4, 5, 6, 7, 8]
theorem fnOk23 : fnOk Try.prog 23 = true := by kernel_rfl
theorem rq23 {R : Value → AH → Nat → Prop} {env : Env} {H : AH} {nx : Nat} : retQ Try.prog Try.f23 R .ret env H nx = onV (eg env 4) R H nx := retQ_one rfl (of_decide_eq_true (by kernel_rfl))

/-! 24: (*milestone/routes.Routes).Blocked · code of 71 operations -/
def L24 : Nat → List Nat
  | 0 => [0, 1]
  | 1 => [0, 1, 5]
  | 2 => [0, 1, 5, 6]
  | 3 => [0, 1, 5, 6, 13, 14, 15]
  | 4 => [0, 1, 5, 6, 13, 14, 15, 16]
  | 5 => [0, 1, 5, 6, 8, 13, 14, 15]
  | 6 => [0, 1, 5, 6, 13, 14, 15]
  | 7 => [0, 1, 5, 6, 13, 14, 15]
  | 8 => [5, 6, 36, 37, 38]
  | 9 => [5, 6, 36, 37, 38, 39]
  | 10 => [5, 6, 10, 36, 37, 38]
  | 11 => [5, 6, 10, 36, 37, 38, 62]
  | 12 => [5, 6, 36, 37, 38]
  | 13 => [5, 6, 36, 37, 38]
  | 14 => [4]
  | _ => []
theorem L24x0 : L24 0 = [0, 1] := (rfl)
theorem L24x1 : L24 1 = [0, 1, 5] := (rfl)
theorem L24x2 : L24 2 = [0, 1, 5, 6] := (rfl)
theorem L24x3 : L24 3 = [0, 1, 5, 6, 13, 14, 15] := (rfl)
theorem L24x4 : L24 4 = [0, 1, 5, 6, 13, 14, 15, 16] := (rfl)
theorem L24x5 : L24 5 = [0, 1, 5, 6, 8, 13, 14, 15] := (rfl)
theorem L24x6 : L24 6 = [0, 1, 5, 6, 13, 14, 15] := (rfl)
theorem L24x7 : L24 7 = [0, 1, 5, 6, 13, 14, 15] := (rfl)
theorem L24x8 : L24 8 = [5, 6, 36, 37, 38] := (rfl)
theorem L24x9 : L24 9 = [5, 6, 36, 37, 38, 39] := (rfl)
theorem L24x10 : L24 10 = [5, 6, 10, 36, 37, 38] := (rfl)
theorem L24x11 : L24 11 = [5, 6, 10, 36, 37, 38, 62] := (rfl)
theorem L24x12 : L24 12 = [5, 6, 36, 37, 38] := (rfl)
theorem L24x13 : L24 13 = [5, 6, 36, 37, 38] := (rfl)
theorem L24x14 : L24 14 = [4] := (rfl)
def ord24x6 : List Nat := [0, 1, 2, 3, 4, 5, 6, 7, 8, 9, 10, 11, 12, 13, 14, 15]
def ord24x11 : List Nat := [0, 1, 2, 3, 4, 5, 6, 7, 8, 9, 10, 11, 12, 13, 14, 15, 16, 17, 18, 19, 20]
theorem fnOk24 : fnOk Try.prog 24 = true := by kernel_rfl
theorem rq24 {R : Value → AH → Nat → Prop} {env : Env} {H : AH} {nx : Nat} : retQ Try.prog Try.f24 R .ret env H nx = onV (eg env 4) R H nx := retQ_one rfl (of_decide_eq_true (by kernel_rfl))

theorem sl65 : slT Try.prog 65 = some (39, 2) := by kernel_rfl
theorem by39 : bytesT Try.prog 39 = some 8 := by kernel_rfl
/-! 25: (*milestone/routes.Routes).Tell · code of 97 operations -/
def L25 : Nat → List Nat
  | 0 => [0, 1, 3, 5, 8, 10]
  | 1 => [0, 1, 3, 5, 8, 10, 15]
  | 2 => [12]
  | 3 => [0, 1, 3, 5, 8, 10, 18]
  | 4 => [12]
  | 5 => [0, 1, 3, 5, 8, 10, 13]
  | 6 => [0, 10, 13, 14]
  | 8 => [0, 10, 13, 14, 59]
  | 9 => []
  | 10 => [0, 13, 14, 78]
  | 11 => [0, 13, 14, 82]
  | 12 => []
  | 13 => [0, 14, 92]
  | 14 => [12]
  | 7 => []
  | 15 => [12]
  | _ => []
theorem L25x0 : L25 0 = [0, 1, 3, 5, 8, 10] := (rfl)
theorem L25x1 : L25 1 = [0, 1, 3, 5, 8, 10, 15] := (rfl)
theorem L25x2 : L25 2 = [12] := (rfl)
theorem L25x3 : L25 3 = [0, 1, 3, 5, 8, 10, 18] := (rfl)
theorem L25x4 : L25 4 = [12] := (rfl)
theorem L25x5 : L25 5 = [0, 1, 3, 5, 8, 10, 13] := (rfl)
theorem L25x6 : L25 6 = [0, 10, 13, 14] := (rfl)
theorem L25x8 : L25 8 = [0, 10, 13, 14, 59] := (rfl)
theorem L25x9 : L25 9 = [] := (rfl)
theorem L25x10 : L25 10 = [0, 13, 14, 78] := (rfl)
theorem L25x11 : L25 11 = [0, 13, 14, 82] := (rfl)
theorem L25x12 : L25 12 = [] := (rfl)
theorem L25x13 : L25 13 = [0, 14, 92] := (rfl)
theorem L25x14 : L25 14 = [12] := (rfl)
theorem L25x7 : L25 7 = [] := (rfl)
theorem L25x15 : L25 15 = [12] := (rfl)
def ord25x12 : List Nat := [0, 1, 2, 3, 4, 5, 6, 7]
def ord25x7 : List Nat := [0, 1, 2, 3, 4, 5, 6, 7, 8, 9, 10]
theorem fnOk25 : fnOk Try.prog 25 = true := by kernel_rfl
theorem rq25 {R : Value → AH → Nat → Prop} {env : Env} {H : AH} {nx : Nat} : retQ Try.prog Try.f25 R .ret env H nx = onV (eg env 12) R H nx := retQ_one rfl (of_decide_eq_true (by kernel_rfl))

/-! 26: milestone/source.New · code of 4 operations -/
def L26 : Nat → List Nat
  | 0 => []
  | 1 => [0]
  | _ => []
theorem L26x0 : L26 0 = [] := (rfl)
theorem L26x1 : L26 1 = [0] := (rfl)
theorem fnOk26 : fnOk Try.prog 26 = true := by kernel_rfl
theorem rq26 {R : Value → AH → Nat → Prop} {env : Env} {H : AH} {nx : Nat} : retQ Try.prog Try.f26 R .ret env H nx = onV (eg env 0) R H nx := retQ_one rfl (of_decide_eq_true (by kernel_rfl))

theorem zero88 : zeroT Try.prog 88 = some (.agg #[(.slice none 0 0)]) := by kernel_rfl
theorem bd0x88 (H : AH) : buildV Try.prog H 88 #[] = some (.agg #[(.slice none 0 0)]) := build_zero (by kernel_rfl) zero88
/-! 27: milestone/milestonelaw16.good · code of 3 operations -/
def L27 : Nat → List Nat
  | 0 => []
  | 1 => [0]
  | _ => []
theorem L27x0 : L27 0 = [] := (rfl)
theorem L27x1 : L27 1 = [0] := (rfl)
theorem fnOk27 : fnOk Try.prog 27 = true := by kernel_rfl
theorem rq27 {R : Value → AH → Nat → Prop} {env : Env} {H : AH} {nx : Nat} : retQ Try.prog Try.f27 R .ret env H nx = onV (eg env 0) R H nx := retQ_one rfl (of_decide_eq_true (by kernel_rfl))

/-! 28: (milestone/milestonelaw16.told).without · code of 29 operations -/
def L28 : Nat → List Nat
  | 0 => [1, 2, 4]
  | 1 => [1, 2, 4, 5]
  | 2 => [1, 2, 4, 5, 6]
  | 3 => [1, 2, 4, 5, 6, 11]
  | 5 => [1, 2, 4, 5, 6, 16]
  | 6 => [1, 2, 4, 5, 6]
  | 4 => [1, 2, 4, 5, 6]
  | 7 => [2, 4]
  | 8 => [4]
  | _ => []
theorem L28x0 : L28 0 = [1, 2, 4] := (rfl)
theorem L28x1 : L28 1 = [1, 2, 4, 5] := (rfl)
theorem L28x2 : L28 2 = [1, 2, 4, 5, 6] := (rfl)
theorem L28x3 : L28 3 = [1, 2, 4, 5, 6, 11] := (rfl)
theorem L28x5 : L28 5 = [1, 2, 4, 5, 6, 16] := (rfl)
theorem L28x6 : L28 6 = [1, 2, 4, 5, 6] := (rfl)
theorem L28x4 : L28 4 = [1, 2, 4, 5, 6] := (rfl)
theorem L28x7 : L28 7 = [2, 4] := (rfl)
theorem L28x8 : L28 8 = [4] := (rfl)
theorem fnOk28 : fnOk Try.prog 28 = true := by kernel_rfl
theorem rq28 {R : Value → AH → Nat → Prop} {env : Env} {H : AH} {nx : Nat} : retQ Try.prog Try.f28 R .ret env H nx = onA (eg env 4) (fun a => onV (loadV Try.prog H 29 a) R H nx) := retQ_cell rfl (of_decide_eq_true (by kernel_rfl))

/-! 29: (*milestone/routes.Routes).Drop · code of 13 operations -/
def L29 : Nat → List Nat
  | 0 => [0, 3]
  | 1 => [0, 3, 5]
  | 2 => []
  | _ => []
theorem L29x0 : L29 0 = [0, 3] := (rfl)
theorem L29x1 : L29 1 = [0, 3, 5] := (rfl)
theorem L29x2 : L29 2 = [] := (rfl)
theorem fnOk29 : fnOk Try.prog 29 = true := by kernel_rfl
theorem rq29 {R : Value → AH → Nat → Prop} {env : Env} {H : AH} {nx : Nat} : retQ Try.prog Try.f29 R .ret env H nx = R (.tuple #[]) H nx := retQ_none rfl

/-! 30: (*milestone/routes.Routes).Tick · code of 13 operations -/
def L30 : Nat → List Nat
  | 0 => [0, 3]
  | 1 => [0, 3, 5]
  | 2 => []
  | _ => []
theorem L30x0 : L30 0 = [0, 3] := (rfl)
theorem L30x1 : L30 1 = [0, 3, 5] := (rfl)
theorem L30x2 : L30 2 = [] := (rfl)
theorem fnOk30 : fnOk Try.prog 30 = true := by kernel_rfl
theorem rq30 {R : Value → AH → Nat → Prop} {env : Env} {H : AH} {nx : Nat} : retQ Try.prog Try.f30 R .ret env H nx = R (.tuple #[]) H nx := retQ_none rfl

/-! 31: slices.Clone[[]milestone/routes.Told,milestone/routes.Told] · code of 8 operations -/
def L31 : Nat → List Nat
  | 0 => [0]
  | 1 => [0, 4]
  | 2 => [2]
  | 3 => [2]
  | _ => []
theorem L31x0 : L31 0 = [0] := (rfl)
theorem L31x1 : L31 1 = [0, 4] := (rfl)
theorem L31x2 : L31 2 = [2] := (rfl)
theorem L31x3 : L31 3 = [2] := (rfl)
theorem fnOk31 : fnOk Try.prog 31 = true := by kernel_rfl
theorem rq31 {R : Value → AH → Nat → Prop} {env : Env} {H : AH} {nx : Nat} : retQ Try.prog Try.f31 R .ret env H nx = onV (eg env 2) R H nx := retQ_one rfl (of_decide_eq_true (by kernel_rfl))

theorem eqs26 (H : AH) (x y : Operand) (a : Option Addr) (n c : Nat) : binV Try.prog H .eql 26 x y (.slice a n c) (.slice none 0 0) = some (.bool a.isNone) := eq_sl (by kernel_rfl)
theorem nes26 (H : AH) (x y : Operand) (a : Option Addr) (n c : Nat) : binV Try.prog H .neq 26 x y (.slice a n c) (.slice none 0 0) = some (.bool a.isSome) := ne_sl (by kernel_rfl)
/-! 32: slices.SortFunc[[]milestone/routes.Told,milestone/routes.Told] · code of 10 operations -/
def L32 : Nat → List Nat
  | 0 => [0, 1, 4]
  | 1 => []
  | _ => []
theorem L32x0 : L32 0 = [0, 1, 4] := (rfl)
theorem L32x1 : L32 1 = [] := (rfl)
theorem fnOk32 : fnOk Try.prog 32 = true := by kernel_rfl
theorem rq32 {R : Value → AH → Nat → Prop} {env : Env} {H : AH} {nx : Nat} : retQ Try.prog Try.f32 R .ret env H nx = R (.tuple #[]) H nx := retQ_none rfl

theorem cv3x79 (lo : Nat) (k' : IntKind) (n : Int) (K : Value → AH → Nat → Prop) (H : AH) (nx : Nat) : convQ Try.prog lo 3 79 (.int k' n) K H nx = K (.int .u64 (IntKind.wrap .u64 n)) H nx := convQ_int (by kernel_rfl) (by kernel_rfl)
theorem cx3x79 (k' : IntKind) (n : Int) (H : AH) : convV Try.prog H 3 79 (.int k' n) = some (.int .u64 (IntKind.wrap .u64 n)) := convV_int (by kernel_rfl) (by kernel_rfl)
/-! 33: (*milestone/routes.Routes).All$1 · code of 19 operations -/
def L33 : Nat → List Nat
  | 0 => [2, 3]
  | 1 => [2, 3, 5]
  | 2 => [2, 3, 5, 12]
  | 3 => [4]
  | 4 => [4]
  | _ => []
theorem L33x0 : L33 0 = [2, 3] := (rfl)
theorem L33x1 : L33 1 = [2, 3, 5] := (rfl)
theorem L33x2 : L33 2 = [2, 3, 5, 12] := (rfl)
theorem L33x3 : L33 3 = [4] := (rfl)
theorem L33x4 : L33 4 = [4] := (rfl)
theorem fnOk33 : fnOk Try.prog 33 = true := by kernel_rfl
theorem rq33 {R : Value → AH → Nat → Prop} {env : Env} {H : AH} {nx : Nat} : retQ Try.prog Try.f33 R .ret env H nx = onV (eg env 4) R H nx := retQ_one rfl (of_decide_eq_true (by kernel_rfl))

/-! 34: milestone/prefix.Compare · code of 16 operations -/
def L34 : Nat → List Nat
  | 0 => [2, 3]
  | 1 => [4]
  | _ => []
theorem L34x0 : L34 0 = [2, 3] := (rfl)
theorem L34x1 : L34 1 = [4] := (rfl)
def ord34x1 : List Nat := [0, 1, 2, 3, 5, 6, 7, 8, 4, 9, 10, 11, 12]
theorem fnOk34 : fnOk Try.prog 34 = true := by kernel_rfl
theorem rq34 {R : Value → AH → Nat → Prop} {env : Env} {H : AH} {nx : Nat} : retQ Try.prog Try.f34 R .ret env H nx = onV (eg env 4) R H nx := retQ_one rfl (of_decide_eq_true (by kernel_rfl))

theorem zero3 : zeroT Try.prog 3 = some (.int .i64 0) := by kernel_rfl
theorem sl116 : slT Try.prog 116 = some (3, 1) := by kernel_rfl
/-! 35: milestone/milestoneref01.Of · code of 30 operations -/
def L35 : Nat → List Nat
  | 0 => [0, 1, 4]
  | 1 => [0, 1, 4, 8]
  | 2 => [0, 1, 4]
  | 3 => [0, 1, 4, 5]
  | 4 => [0, 1, 4, 5, 6]
  | 5 => [0, 1, 4, 5, 6, 10]
  | 7 => [0, 1, 4, 5, 6]
  | 8 => [0, 1, 4, 5, 6, 23]
  | 9 => [0, 1, 4, 5, 6]
  | 6 => [0, 1, 4, 5, 6]
  | 10 => [4]
  | _ => []
theorem L35x0 : L35 0 = [0, 1, 4] := (rfl)
theorem L35x1 : L35 1 = [0, 1, 4, 8] := (rfl)
theorem L35x2 : L35 2 = [0, 1, 4] := (rfl)
theorem L35x3 : L35 3 = [0, 1, 4, 5] := (rfl)
theorem L35x4 : L35 4 = [0, 1, 4, 5, 6] := (rfl)
theorem L35x5 : L35 5 = [0, 1, 4, 5, 6, 10] := (rfl)
theorem L35x7 : L35 7 = [0, 1, 4, 5, 6] := (rfl)
theorem L35x8 : L35 8 = [0, 1, 4, 5, 6, 23] := (rfl)
theorem L35x9 : L35 9 = [0, 1, 4, 5, 6] := (rfl)
theorem L35x6 : L35 6 = [0, 1, 4, 5, 6] := (rfl)
theorem L35x10 : L35 10 = [4] := (rfl)
theorem fnOk35 : fnOk Try.prog 35 = true := by kernel_rfl
theorem rq35 {R : Value → AH → Nat → Prop} {env : Env} {H : AH} {nx : Nat} : retQ Try.prog Try.f35 R .ret env H nx = onA (eg env 4) (fun a => onV (loadV Try.prog H 39 a) R H nx) := retQ_cell rfl (of_decide_eq_true (by kernel_rfl))

/-! 36: milestone/serial.Nearer · code of 23 operations -/
def L36 : Nat → List Nat
  | 0 => [2, 3]
  | 1 => [4]
  | _ => []
theorem L36x0 : L36 0 = [2, 3] := (rfl)
theorem L36x1 : L36 1 = [4] := (rfl)
theorem fnOk36 : fnOk Try.prog 36 = true := by kernel_rfl
theorem rq36 {R : Value → AH → Nat → Prop} {env : Env} {H : AH} {nx : Nat} : retQ Try.prog Try.f36 R .ret env H nx = onV (eg env 4) R H nx := retQ_one rfl (of_decide_eq_true (by kernel_rfl))

/-! 37: milestone/prefix.Right · code of 15 operations -/
def L37 : Nat → List Nat
  | 0 => [1]
  | 1 => [2]
  | _ => []
theorem L37x0 : L37 0 = [1] := (rfl)
theorem L37x1 : L37 1 = [2] := (rfl)
def ord37x1 : List Nat := [0, 1, 2, 3, 4, 5, 6, 7, 8, 9, 10, 11, 12]
theorem fnOk37 : fnOk Try.prog 37 = true := by kernel_rfl
theorem rq37 {R : Value → AH → Nat → Prop} {env : Env} {H : AH} {nx : Nat} : retQ Try.prog Try.f37 R .ret env H nx = onV (eg env 2) R H nx := retQ_one rfl (of_decide_eq_true (by kernel_rfl))

/-! 38: (*milestone/source.Source).find · code of 13 operations -/
def L38 : Nat → List Nat
  | 0 => [0, 3]
  | 1 => [4, 5]
  | _ => []
theorem L38x0 : L38 0 = [0, 3] := (rfl)
theorem L38x1 : L38 1 = [4, 5] := (rfl)
def ord38x1 : List Nat := [0, 1, 2, 3, 4, 5, 6, 7, 8, 9]
theorem fnOk38 : fnOk Try.prog 38 = true := by kernel_rfl
theorem rq38 {R : Value → AH → Nat → Prop} {env : Env} {H : AH} {nx : Nat} : retQ Try.prog Try.f38 R .ret env H nx = onA (eg env 4) (fun v => onA (eg env 5) fun u => R (.tuple #[v, u]) H nx) := retQ_two rfl (of_decide_eq_true (by kernel_rfl)) (of_decide_eq_true (by kernel_rfl))

/-! 39: milestone/serial.Best · code of 10 operations -/
def L39 : Nat → List Nat
  | 0 => [2, 3, 4]
  | 1 => [2, 3, 4, 7]
  | 2 => [4]
  | 3 => [4]
  | _ => []
theorem L39x0 : L39 0 = [2, 3, 4] := (rfl)
theorem L39x1 : L39 1 = [2, 3, 4, 7] := (rfl)
theorem L39x2 : L39 2 = [4] := (rfl)
theorem L39x3 : L39 3 = [4] := (rfl)
theorem fnOk39 : fnOk Try.prog 39 = true := by kernel_rfl
theorem rq39 {R : Value → AH → Nat → Prop} {env : Env} {H : AH} {nx : Nat} : retQ Try.prog Try.f39 R .ret env H nx = onA (eg env 4) (fun a => onV (loadV Try.prog H 41 a) R H nx) := retQ_cell rfl (of_decide_eq_true (by kernel_rfl))

/-! 40: slices.Insert[[]milestone/source.entry,milestone/source.entry] · code of 95 operations -/
def L40 : Nat → List Nat
  | 0 => [0, 1, 2]
  | 1 => [0, 1, 2]
  | 2 => [0, 1, 2, 7]
  | 3 => [0, 1, 2, 7, 16]
  | 4 => [6]
  | 5 => [0, 1, 2, 7, 8]
  | 6 => [0, 1, 2, 7, 8, 22]
  | 7 => [6]
  | 8 => [0, 1, 2, 7, 8, 31]
  | 9 => [0, 1, 2, 7, 9]
  | 10 => [0, 1, 7, 9]
  | 11 => [9]
  | 12 => [6]
  | 13 => [0, 1, 2, 7, 8]
  | 14 => [0, 1, 2, 7, 8, 68]
  | 15 => [0, 1, 2]
  | 16 => [0]
  | 17 => [6]
  | 18 => [0, 1, 7]
  | 19 => [0]
  | 20 => [6]
  | _ => []
theorem L40x0 : L40 0 = [0, 1, 2] := (rfl)
theorem L40x1 : L40 1 = [0, 1, 2] := (rfl)
theorem L40x2 : L40 2 = [0, 1, 2, 7] := (rfl)
theorem L40x3 : L40 3 = [0, 1, 2, 7, 16] := (rfl)
theorem L40x4 : L40 4 = [6] := (rfl)
theorem L40x5 : L40 5 = [0, 1, 2, 7, 8] := (rfl)
theorem L40x6 : L40 6 = [0, 1, 2, 7, 8, 22] := (rfl)
theorem L40x7 : L40 7 = [6] := (rfl)
theorem L40x8 : L40 8 = [0, 1, 2, 7, 8, 31] := (rfl)
theorem L40x9 : L40 9 = [0, 1, 2, 7, 9] := (rfl)
theorem L40x10 : L40 10 = [0, 1, 7, 9] := (rfl)
theorem L40x11 : L40 11 = [9] := (rfl)
theorem L40x12 : L40 12 = [6] := (rfl)
theorem L40x13 : L40 13 = [0, 1, 2, 7, 8] := (rfl)
theorem L40x14 : L40 14 = [0, 1, 2, 7, 8, 68] := (rfl)
theorem L40x15 : L40 15 = [0, 1, 2] := (rfl)
theorem L40x16 : L40 16 = [0] := (rfl)
theorem L40x17 : L40 17 = [6] := (rfl)
theorem L40x18 : L40 18 = [0, 1, 7] := (rfl)
theorem L40x19 : L40 19 = [0] := (rfl)
theorem L40x20 : L40 20 = [6] := (rfl)
def ord40x11 : List Nat := [0, 1, 2, 3, 4, 5, 6, 7, 8]
def ord40x15 : List Nat := [0, 1, 2, 3, 4, 5, 6, 7, 8]
theorem fnOk40 : fnOk Try.prog 40 = true := by kernel_rfl
theorem rq40 {R : Value → AH → Nat → Prop} {env : Env} {H : AH} {nx : Nat} : retQ Try.prog Try.f40 R .ret env H nx = onV (eg env 6) R H nx := retQ_one rfl (of_decide_eq_true (by kernel_rfl))

theorem by85 : bytesT Try.prog 85 = some 12 := by kernel_rfl
-- builtin Go.Builtin.cap
-- builtin Go.Builtin.copy
/-! 41: milestone/milestoneref01.Newer · code of 16 operations -/
def L41 : Nat → List Nat
  | 0 => [0, 1]
  | 1 => [5]
  | 2 => [4]
  | _ => []
theorem L41x0 : L41 0 = [0, 1] := (rfl)
theorem L41x1 : L41 1 = [5] := (rfl)
theorem L41x2 : L41 2 = [4] := (rfl)
theorem fnOk41 : fnOk Try.prog 41 = true := by kernel_rfl
theorem rq41 {R : Value → AH → Nat → Prop} {env : Env} {H : AH} {nx : Nat} : retQ Try.prog Try.f41 R .ret env H nx = onV (eg env 4) R H nx := retQ_one rfl (of_decide_eq_true (by kernel_rfl))

/-! 42: (*milestone/routes.Routes).find · code of 10 operations -/
def L42 : Nat → List Nat
  | 0 => [0, 4, 5]
  | 1 => [6]
  | _ => []
theorem L42x0 : L42 0 = [0, 4, 5] := (rfl)
theorem L42x1 : L42 1 = [6] := (rfl)
theorem fnOk42 : fnOk Try.prog 42 = true := by kernel_rfl
theorem rq42 {R : Value → AH → Nat → Prop} {env : Env} {H : AH} {nx : Nat} : retQ Try.prog Try.f42 R .ret env H nx = onV (eg env 6) R H nx := retQ_one rfl (of_decide_eq_true (by kernel_rfl))

/-! 43: slices.Delete[[]milestone/routes.Told,milestone/routes.Told] · code of 31 operations -/
def L43 : Nat → List Nat
  | 0 => [0, 1, 2]
  | 1 => [0, 1, 2]
  | 2 => [0, 1, 2, 16]
  | 3 => [6]
  | 4 => [0, 1, 2, 7]
  | 5 => [0, 7]
  | 6 => [0]
  | 7 => [6]
  | _ => []
theorem L43x0 : L43 0 = [0, 1, 2] := (rfl)
theorem L43x1 : L43 1 = [0, 1, 2] := (rfl)
theorem L43x2 : L43 2 = [0, 1, 2, 16] := (rfl)
theorem L43x3 : L43 3 = [6] := (rfl)
theorem L43x4 : L43 4 = [0, 1, 2, 7] := (rfl)
theorem L43x5 : L43 5 = [0, 7] := (rfl)
theorem L43x6 : L43 6 = [0] := (rfl)
theorem L43x7 : L43 7 = [6] := (rfl)
def ord43x5 : List Nat := [0, 1, 2, 3, 4, 5, 6, 7]
theorem fnOk43 : fnOk Try.prog 43 = true := by kernel_rfl
theorem rq43 {R : Value → AH → Nat → Prop} {env : Env} {H : AH} {nx : Nat} : retQ Try.prog Try.f43 R .ret env H nx = onV (eg env 6) R H nx := retQ_one rfl (of_decide_eq_true (by kernel_rfl))

-- builtin Go.Builtin.clear
/-! 44: slices.DeleteFunc[[]milestone/routes.Told,milestone/routes.Told] · code of 45 operations -/
def L44 : Nat → List Nat
  | 0 => [0, 1]
  | 1 => [0, 1, 5]
  | 2 => [0, 1, 5, 12]
  | 3 => [4]
  | 4 => [0, 1, 5, 6]
  | 5 => [0, 1, 5, 6, 19]
  | 7 => [0, 1, 5, 6, 7]
  | 8 => [0, 1, 5, 6, 7, 29]
  | 9 => [0, 1, 5, 6]
  | 10 => [0, 1, 5, 6]
  | 6 => [0, 1, 5, 6]
  | 11 => [0, 5]
  | 12 => [4]
  | _ => []
theorem L44x0 : L44 0 = [0, 1] := (rfl)
theorem L44x1 : L44 1 = [0, 1, 5] := (rfl)
theorem L44x2 : L44 2 = [0, 1, 5, 12] := (rfl)
theorem L44x3 : L44 3 = [4] := (rfl)
theorem L44x4 : L44 4 = [0, 1, 5, 6] := (rfl)
theorem L44x5 : L44 5 = [0, 1, 5, 6, 19] := (rfl)
theorem L44x7 : L44 7 = [0, 1, 5, 6, 7] := (rfl)
theorem L44x8 : L44 8 = [0, 1, 5, 6, 7, 29] := (rfl)
theorem L44x9 : L44 9 = [0, 1, 5, 6] := (rfl)
theorem L44x10 : L44 10 = [0, 1, 5, 6] := (rfl)
theorem L44x6 : L44 6 = [0, 1, 5, 6] := (rfl)
theorem L44x11 : L44 11 = [0, 5] := (rfl)
theorem L44x12 : L44 12 = [4] := (rfl)
theorem fnOk44 : fnOk Try.prog 44 = true := by kernel_rfl
theorem rq44 {R : Value → AH → Nat → Prop} {env : Env} {H : AH} {nx : Nat} : retQ Try.prog Try.f44 R .ret env H nx = onV (eg env 4) R H nx := retQ_one rfl (of_decide_eq_true (by kernel_rfl))

/-! 45: (*milestone/routes.Routes).Drop$1 · code of 7 operations -/
def L45 : Nat → List Nat
  | 0 => [1, 2]
  | 1 => [3]
  | _ => []
theorem L45x0 : L45 0 = [1, 2] := (rfl)
theorem L45x1 : L45 1 = [3] := (rfl)
theorem fnOk45 : fnOk Try.prog 45 = true := by kernel_rfl
theorem rq45 {R : Value → AH → Nat → Prop} {env : Env} {H : AH} {nx : Nat} : retQ Try.prog Try.f45 R .ret env H nx = onV (eg env 3) R H nx := retQ_one rfl (of_decide_eq_true (by kernel_rfl))

/-! 46: (*milestone/routes.Routes).Tick$1 · code of 7 operations -/
def L46 : Nat → List Nat
  | 0 => [1, 2]
  | 1 => [3]
  | _ => []
theorem L46x0 : L46 0 = [1, 2] := (rfl)
theorem L46x1 : L46 1 = [3] := (rfl)
theorem fnOk46 : fnOk Try.prog 46 = true := by kernel_rfl
theorem rq46 {R : Value → AH → Nat → Prop} {env : Env} {H : AH} {nx : Nat} : retQ Try.prog Try.f46 R .ret env H nx = onV (eg env 3) R H nx := retQ_one rfl (of_decide_eq_true (by kernel_rfl))

/-! 47: slices.pdqsortCmpFunc[milestone/routes.Told] · code of 147 operations -/
def L47 : Nat → List Nat
  | 0 => [0, 1, 2, 3, 4, 10]
  | 1 => [0, 1, 2, 3, 4, 10, 11]
  | 2 => [0, 1, 2, 3, 4, 10, 11, 12]
  | 3 => [0, 1, 2, 3, 4, 10, 11, 12, 25]
  | 4 => []
  | 5 => [0, 1, 2, 3, 4, 10, 11, 12, 32]
  | 6 => []
  | 7 => [0, 1, 2, 3, 4, 10, 11, 12, 39]
  | 8 => [0, 1, 2, 3, 4, 10, 11, 12]
  | 9 => [0, 1, 2, 3, 4, 10, 11, 12]
  | 10 => [0, 1, 2, 3, 4, 10, 11, 12, 13, 14]
  | 11 => [0, 1, 2, 3, 4, 10, 11, 12, 13, 14, 56]
  | 12 => [0, 1, 2, 3, 4, 10, 11, 12, 13]
  | 13 => [0, 1, 2, 3, 4, 10, 11, 12, 13]
  | 14 => [0, 1, 2, 3, 4, 10, 11, 12, 13, 14]
  | 15 => [0, 1, 2, 3, 4, 10, 11, 12, 13, 75]
  | 16 => [0, 1, 2, 3, 4, 10, 11, 12, 13, 80]
  | 17 => [0, 1, 2, 3, 4, 10, 11, 12, 13, 97]
  | 18 => [0, 2, 3, 4, 10, 11, 15]
  | 19 => [0, 1, 2, 3, 4, 10, 11]
  | 20 => [0, 1, 2, 3, 4, 12, 16, 17]
  | 21 => [0, 1, 2, 3, 4, 11, 12, 16]
  | 22 => [0, 1, 2, 3, 4, 11, 12, 16, 18, 19]
  | 23 => [0, 1, 2, 3, 4, 11, 16, 18, 19, 20]
  | 24 => [0, 1, 2, 3, 4, 11, 16, 18, 19, 20, 125]
  | 25 => [0, 1, 2, 3, 4, 10, 11, 16]
  | 26 => [0, 2, 3, 4, 10, 11, 16]
  | 27 => [0, 1, 2, 3, 4, 10, 11]
  | 28 => [0, 1, 2, 3, 4, 10, 11, 16]
  | 29 => [0, 1, 3, 4, 10, 11, 16]
  | 30 => [0, 1, 2, 3, 4, 10, 11]
  | _ => []
theorem L47x0 : L47 0 = [0, 1, 2, 3, 4, 10] := (rfl)
theorem L47x1 : L47 1 = [0, 1, 2, 3, 4, 10, 11] := (rfl)
theorem L47x2 : L47 2 = [0, 1, 2, 3, 4, 10, 11, 12] := (rfl)
theorem L47x3 : L47 3 = [0, 1, 2, 3, 4, 10, 11, 12, 25] := (rfl)
theorem L47x4 : L47 4 = [] := (rfl)
theorem L47x5 : L47 5 = [0, 1, 2, 3, 4, 10, 11, 12, 32] := (rfl)
theorem L47x6 : L47 6 = [] := (rfl)
theorem L47x7 : L47 7 = [0, 1, 2, 3, 4, 10, 11, 12, 39] := (rfl)
theorem L47x8 : L47 8 = [0, 1, 2, 3, 4, 10, 11, 12] := (rfl)
theorem L47x9 : L47 9 = [0, 1, 2, 3, 4, 10, 11, 12] := (rfl)
theorem L47x10 : L47 10 = [0, 1, 2, 3, 4, 10, 11, 12, 13, 14] := (rfl)
theorem L47x11 : L47 11 = [0, 1, 2, 3, 4, 10, 11, 12, 13, 14, 56] := (rfl)
theorem L47x12 : L47 12 = [0, 1, 2, 3, 4, 10, 11, 12, 13] := (rfl)
theorem L47x13 : L47 13 = [0, 1, 2, 3, 4, 10, 11, 12, 13] := (rfl)
theorem L47x14 : L47 14 = [0, 1, 2, 3, 4, 10, 11, 12, 13, 14] := (rfl)
theorem L47x15 : L47 15 = [0, 1, 2, 3, 4, 10, 11, 12, 13, 75] := (rfl)
theorem L47x16 : L47 16 = [0, 1, 2, 3, 4, 10, 11, 12, 13, 80] := (rfl)
theorem L47x17 : L47 17 = [0, 1, 2, 3, 4, 10, 11, 12, 13, 97] := (rfl)
theorem L47x18 : L47 18 = [0, 2, 3, 4, 10, 11, 15] := (rfl)
theorem L47x19 : L47 19 = [0, 1, 2, 3, 4, 10, 11] := (rfl)
theorem L47x20 : L47 20 = [0, 1, 2, 3, 4, 12, 16, 17] := (rfl)
theorem L47x21 : L47 21 = [0, 1, 2, 3, 4, 11, 12, 16] := (rfl)
theorem L47x22 : L47 22 = [0, 1, 2, 3, 4, 11, 12, 16, 18, 19] := (rfl)
theorem L47x23 : L47 23 = [0, 1, 2, 3, 4, 11, 16, 18, 19, 20] := (rfl)
theorem L47x24 : L47 24 = [0, 1, 2, 3, 4, 11, 16, 18, 19, 20, 125] := (rfl)
theorem L47x25 : L47 25 = [0, 1, 2, 3, 4, 10, 11, 16] := (rfl)
theorem L47x26 : L47 26 = [0, 2, 3, 4, 10, 11, 16] := (rfl)
theorem L47x27 : L47 27 = [0, 1, 2, 3, 4, 10, 11] := (rfl)
theorem L47x28 : L47 28 = [0, 1, 2, 3, 4, 10, 11, 16] := (rfl)
theorem L47x29 : L47 29 = [0, 1, 3, 4, 10, 11, 16] := (rfl)
theorem L47x30 : L47 30 = [0, 1, 2, 3, 4, 10, 11] := (rfl)
def ord47x17 : List Nat := [0, 1, 2, 3, 4, 5, 6, 7, 8, 9, 10, 11, 12, 13, 14, 15, 16]
theorem fnOk47 : fnOk Try.prog 47 = true := by kernel_rfl
theorem rq47 {R : Value → AH → Nat → Prop} {env : Env} {H : AH} {nx : Nat} : retQ Try.prog Try.f47 R .ret env H nx = R (.tuple #[]) H nx := retQ_none rfl

/-! 48: math/bits.Len · code of 8 operations -/
def L48 : Nat → List Nat
  | 0 => [0]
  | 1 => [2]
  | 2 => [2]
  | _ => []
theorem L48x0 : L48 0 = [0] := (rfl)
theorem L48x1 : L48 1 = [2] := (rfl)
theorem L48x2 : L48 2 = [2] := (rfl)
theorem fnOk48 : fnOk Try.prog 48 = true := by kernel_rfl
theorem rq48 {R : Value → AH → Nat → Prop} {env : Env} {H : AH} {nx : Nat} : retQ Try.prog Try.f48 R .ret env H nx = onV (eg env 2) R H nx := retQ_one rfl (of_decide_eq_true (by kernel_rfl))

theorem cv79x37 (lo : Nat) (k' : IntKind) (n : Int) (K : Value → AH → Nat → Prop) (H : AH) (nx : Nat) : convQ Try.prog lo 79 37 (.int k' n) K H nx = K (.int .u32 (IntKind.wrap .u32 n)) H nx := convQ_int (by kernel_rfl) (by kernel_rfl)
theorem cx79x37 (k' : IntKind) (n : Int) (H : AH) : convV Try.prog H 79 37 (.int k' n) = some (.int .u32 (IntKind.wrap .u32 n)) := convV_int (by kernel_rfl) (by kernel_rfl)
/-! 49: cmp.Or[int] · code of 18 operations -/
def L49 : Nat → List Nat
  | 0 => [0]
  | 1 => [0, 3]
  | 2 => [3, 6, 7, 8]
  | 3 => [3, 6, 7, 8, 9]
  | 4 => [3, 5, 6, 7, 8]
  | 5 => [3, 5, 6, 7, 8, 14]
  | 6 => [2]
  | 7 => [3, 6, 7, 8]
  | 8 => [2]
  | _ => []
theorem L49x0 : L49 0 = [0] := (rfl)
theorem L49x1 : L49 1 = [0, 3] := (rfl)
theorem L49x2 : L49 2 = [3, 6, 7, 8] := (rfl)
theorem L49x3 : L49 3 = [3, 6, 7, 8, 9] := (rfl)
theorem L49x4 : L49 4 = [3, 5, 6, 7, 8] := (rfl)
theorem L49x5 : L49 5 = [3, 5, 6, 7, 8, 14] := (rfl)
theorem L49x6 : L49 6 = [2] := (rfl)
theorem L49x7 : L49 7 = [3, 6, 7, 8] := (rfl)
theorem L49x8 : L49 8 = [2] := (rfl)
theorem fnOk49 : fnOk Try.prog 49 = true := by kernel_rfl
theorem rq49 {R : Value → AH → Nat → Prop} {env : Env} {H : AH} {nx : Nat} : retQ Try.prog Try.f49 R .ret env H nx = onV (eg env 2) R H nx := retQ_one rfl (of_decide_eq_true (by kernel_rfl))

theorem len116 (H : AH) (ty : TypeId) (a : Option Addr) (n c : Nat) : lenV Try.prog H #[116] ty #[.slice a n c] = some (.int .i64 n) := lenV_slice 116 3 ty 1 a n c (by kernel_rfl)
theorem ia116 (H : AH) (n b o c : Nat) (kk : IntKind) (i : Int) (h0 : 0 ≤ i) (h1 : i < n) : indexAV Try.prog H 116 (.slice (some ⟨b, o, none⟩) n c) (.int kk i) = some (.pointer (some ⟨b, o + i.toNat * 1, none⟩)) := indexAV_slice 116 3 n 1 b o c kk i (by kernel_rfl) h0 h1
/-! 50: cmp.Compare[uint32] · code of 22 operations -/
def L50 : Nat → List Nat
  | 0 => [0, 1]
  | 1 => [0, 1, 5]
  | 2 => [0, 1, 5, 6]
  | 3 => [0, 1, 6, 11]
  | 4 => [12]
  | 5 => [4]
  | 6 => [4]
  | 7 => [0, 1, 13]
  | 8 => [4]
  | 9 => [0, 1, 16]
  | 10 => [4]
  | 11 => [19]
  | 12 => [4]
  | 13 => [4]
  | _ => []
theorem L50x0 : L50 0 = [0, 1] := (rfl)
theorem L50x1 : L50 1 = [0, 1, 5] := (rfl)
theorem L50x2 : L50 2 = [0, 1, 5, 6] := (rfl)
theorem L50x3 : L50 3 = [0, 1, 6, 11] := (rfl)
theorem L50x4 : L50 4 = [12] := (rfl)
theorem L50x5 : L50 5 = [4] := (rfl)
theorem L50x6 : L50 6 = [4] := (rfl)
theorem L50x7 : L50 7 = [0, 1, 13] := (rfl)
theorem L50x8 : L50 8 = [4] := (rfl)
theorem L50x9 : L50 9 = [0, 1, 16] := (rfl)
theorem L50x10 : L50 10 = [4] := (rfl)
theorem L50x11 : L50 11 = [19] := (rfl)
theorem L50x12 : L50 12 = [4] := (rfl)
theorem L50x13 : L50 13 = [4] := (rfl)
theorem fnOk50 : fnOk Try.prog 50 = true := by kernel_rfl
theorem rq50 {R : Value → AH → Nat → Prop} {env : Env} {H : AH} {nx : Nat} : retQ Try.prog Try.f50 R .ret env H nx = onV (eg env 4) R H nx := retQ_one rfl (of_decide_eq_true (by kernel_rfl))

/-! 51: cmp.Compare[uint8] · code of 22 operations -/
def L51 : Nat → List Nat
  | 0 => [0, 1]
  | 1 => [0, 1, 5]
  | 2 => [0, 1, 5, 6]
  | 3 => [0, 1, 6, 11]
  | 4 => [12]
  | 5 => [4]
  | 6 => [4]
  | 7 => [0, 1, 13]
  | 8 => [4]
  | 9 => [0, 1, 16]
  | 10 => [4]
  | 11 => [19]
  | 12 => [4]
  | 13 => [4]
  | _ => []
theorem L51x0 : L51 0 = [0, 1] := (rfl)
theorem L51x1 : L51 1 = [0, 1, 5] := (rfl)
theorem L51x2 : L51 2 = [0, 1, 5, 6] := (rfl)
theorem L51x3 : L51 3 = [0, 1, 6, 11] := (rfl)
theorem L51x4 : L51 4 = [12] := (rfl)
theorem L51x5 : L51 5 = [4] := (rfl)
theorem L51x6 : L51 6 = [4] := (rfl)
theorem L51x7 : L51 7 = [0, 1, 13] := (rfl)
theorem L51x8 : L51 8 = [4] := (rfl)
theorem L51x9 : L51 9 = [0, 1, 16] := (rfl)
theorem L51x10 : L51 10 = [4] := (rfl)
theorem L51x11 : L51 11 = [19] := (rfl)
theorem L51x12 : L51 12 = [4] := (rfl)
theorem L51x13 : L51 13 = [4] := (rfl)
theorem fnOk51 : fnOk Try.prog 51 = true := by kernel_rfl
theorem rq51 {R : Value → AH → Nat → Prop} {env : Env} {H : AH} {nx : Nat} : retQ Try.prog Try.f51 R .ret env H nx = onV (eg env 4) R H nx := retQ_one rfl (of_decide_eq_true (by kernel_rfl))

/-! 52: milestone/milestoneref01.Bit · code of 13 operations -/
def L52 : Nat → List Nat
  | 0 => [0, 1]
  | 1 => [0, 1, 6]
  | 3 => [0, 1]
  | 2 => [0, 1]
  | 4 => [4]
  | _ => []
theorem L52x0 : L52 0 = [0, 1] := (rfl)
theorem L52x1 : L52 1 = [0, 1, 6] := (rfl)
theorem L52x3 : L52 3 = [0, 1] := (rfl)
theorem L52x2 : L52 2 = [0, 1] := (rfl)
theorem L52x4 : L52 4 = [4] := (rfl)
theorem fnOk52 : fnOk Try.prog 52 = true := by kernel_rfl
theorem rq52 {R : Value → AH → Nat → Prop} {env : Env} {H : AH} {nx : Nat} : retQ Try.prog Try.f52 R .ret env H nx = onV (eg env 4) R H nx := retQ_one rfl (of_decide_eq_true (by kernel_rfl))

/-! 53: milestone/serial.Newer · code of 11 operations -/
def L53 : Nat → List Nat
  | 0 => [0, 1]
  | 1 => [4]
  | _ => []
theorem L53x0 : L53 0 = [0, 1] := (rfl)
theorem L53x1 : L53 1 = [4] := (rfl)
theorem fnOk53 : fnOk Try.prog 53 = true := by kernel_rfl
theorem rq53 {R : Value → AH → Nat → Prop} {env : Env} {H : AH} {nx : Nat} : retQ Try.prog Try.f53 R .ret env H nx = onV (eg env 4) R H nx := retQ_one rfl (of_decide_eq_true (by kernel_rfl))

/-! 54: milestone/prefix.mask · code of 9 operations -/
def L54 : Nat → List Nat
  | 0 => [0]
  | 1 => [0, 4]
  | 2 => [2]
  | 3 => [2]
  | _ => []
theorem L54x0 : L54 0 = [0] := (rfl)
theorem L54x1 : L54 1 = [0, 4] := (rfl)
theorem L54x2 : L54 2 = [2] := (rfl)
theorem L54x3 : L54 3 = [2] := (rfl)
theorem fnOk54 : fnOk Try.prog 54 = true := by kernel_rfl
theorem rq54 {R : Value → AH → Nat → Prop} {env : Env} {H : AH} {nx : Nat} : retQ Try.prog Try.f54 R .ret env H nx = onV (eg env 2) R H nx := retQ_one rfl (of_decide_eq_true (by kernel_rfl))

/-! 55: slices.BinarySearchFunc[[]milestone/source.entry,milestone/source.entry,milestone/api.Prefix] · code of 48 operations -/
def L55 : Nat → List Nat
  | 0 => [0, 2, 4]
  | 1 => [0, 2, 4, 8]
  | 2 => [0, 2, 4, 8, 9, 10]
  | 3 => [0, 2, 4, 8, 9, 10, 17]
  | 4 => [0, 2, 4, 8, 9, 10, 11]
  | 5 => [0, 2, 4, 8, 9, 10, 11, 31]
  | 6 => [0, 2, 4, 8, 9, 10]
  | 7 => [0, 2, 4, 8, 9, 10]
  | 8 => [6, 7]
  | _ => []
theorem L55x0 : L55 0 = [0, 2, 4] := (rfl)
theorem L55x1 : L55 1 = [0, 2, 4, 8] := (rfl)
theorem L55x2 : L55 2 = [0, 2, 4, 8, 9, 10] := (rfl)
theorem L55x3 : L55 3 = [0, 2, 4, 8, 9, 10, 17] := (rfl)
theorem L55x4 : L55 4 = [0, 2, 4, 8, 9, 10, 11] := (rfl)
theorem L55x5 : L55 5 = [0, 2, 4, 8, 9, 10, 11, 31] := (rfl)
theorem L55x6 : L55 6 = [0, 2, 4, 8, 9, 10] := (rfl)
theorem L55x7 : L55 7 = [0, 2, 4, 8, 9, 10] := (rfl)
theorem L55x8 : L55 8 = [6, 7] := (rfl)
def ord55x5 : List Nat := [0, 1, 2, 3, 4, 5, 6, 7]
def ord55x8 : List Nat := [0, 1, 2, 3, 4, 5, 6, 7, 8, 9, 10, 11, 12, 13, 14, 15]
theorem fnOk55 : fnOk Try.prog 55 = true := by kernel_rfl
theorem rq55 {R : Value → AH → Nat → Prop} {env : Env} {H : AH} {nx : Nat} : retQ Try.prog Try.f55 R .ret env H nx = onA (eg env 6) (fun v => onA (eg env 7) fun u => R (.tuple #[v, u]) H nx) := retQ_two rfl (of_decide_eq_true (by kernel_rfl)) (of_decide_eq_true (by kernel_rfl))

theorem cv79x3 (lo : Nat) (k' : IntKind) (n : Int) (K : Value → AH → Nat → Prop) (H : AH) (nx : Nat) : convQ Try.prog lo 79 3 (.int k' n) K H nx = K (.int .i64 (IntKind.wrap .i64 n)) H nx := convQ_int (by kernel_rfl) (by kernel_rfl)
theorem cx79x3 (k' : IntKind) (n : Int) (H : AH) : convV Try.prog H 79 3 (.int k' n) = some (.int .i64 (IntKind.wrap .i64 n)) := convV_int (by kernel_rfl) (by kernel_rfl)
theorem ld85 (H : AH) (b o : Nat) : loadV Try.prog H 85 (.pointer (some ⟨b, o, none⟩)) = (loadN H b o 4).map fun l => .agg l.toArray := load_agg (by kernel_rfl) (by kernel_rfl)
/-! 56: (*milestone/source.Source).find$1 · code of 8 operations -/
def L56 : Nat → List Nat
  | 0 => [2, 3]
  | 1 => [4]
  | _ => []
theorem L56x0 : L56 0 = [2, 3] := (rfl)
theorem L56x1 : L56 1 = [4] := (rfl)
theorem fnOk56 : fnOk Try.prog 56 = true := by kernel_rfl
theorem rq56 {R : Value → AH → Nat → Prop} {env : Env} {H : AH} {nx : Nat} : retQ Try.prog Try.f56 R .ret env H nx = onV (eg env 4) R H nx := retQ_one rfl (of_decide_eq_true (by kernel_rfl))

theorem fa85x0 (H : AH) (b o : Nat) : fieldAV Try.prog H 85 0 (.pointer (some ⟨b, o, none⟩)) = some (.pointer (some ⟨b, o + 0, none⟩)) := fieldAV_eq 85 0 b o true 1 0 (by kernel_rfl)
/-! 58: slices.rotateRight[milestone/source.entry] · code of 6 operations -/
def L58 : Nat → List Nat
  | 0 => []
  | _ => []
theorem L58x0 : L58 0 = [] := (rfl)
theorem fnOk58 : fnOk Try.prog 58 = true := by kernel_rfl
theorem rq58 {R : Value → AH → Nat → Prop} {env : Env} {H : AH} {nx : Nat} : retQ Try.prog Try.f58 R .ret env H nx = R (.tuple #[]) H nx := retQ_none rfl

/-! 59: slices.IndexFunc[[]milestone/routes.Told,milestone/routes.Told] · code of 18 operations -/
def L59 : Nat → List Nat
  | 0 => [0, 1]
  | 1 => [0, 1, 7, 8]
  | 2 => [0, 1, 7, 8, 9]
  | 3 => [0, 1, 5, 7, 8]
  | 4 => [0, 1, 5, 7, 8, 16]
  | 5 => [4]
  | 6 => [0, 1, 7, 8]
  | 7 => [4]
  | _ => []
theorem L59x0 : L59 0 = [0, 1] := (rfl)
theorem L59x1 : L59 1 = [0, 1, 7, 8] := (rfl)
theorem L59x2 : L59 2 = [0, 1, 7, 8, 9] := (rfl)
theorem L59x3 : L59 3 = [0, 1, 5, 7, 8] := (rfl)
theorem L59x4 : L59 4 = [0, 1, 5, 7, 8, 16] := (rfl)
theorem L59x5 : L59 5 = [4] := (rfl)
theorem L59x6 : L59 6 = [0, 1, 7, 8] := (rfl)
theorem L59x7 : L59 7 = [4] := (rfl)
theorem fnOk59 : fnOk Try.prog 59 = true := by kernel_rfl
theorem rq59 {R : Value → AH → Nat → Prop} {env : Env} {H : AH} {nx : Nat} : retQ Try.prog Try.f59 R .ret env H nx = onV (eg env 4) R H nx := retQ_one rfl (of_decide_eq_true (by kernel_rfl))

/-! 60: (*milestone/routes.Routes).find$1 · code of 13 operations -/
def L60 : Nat → List Nat
  | 0 => [1, 2, 3]
  | 1 => [4]
  | _ => []
theorem L60x0 : L60 0 = [1, 2, 3] := (rfl)
theorem L60x1 : L60 1 = [4] := (rfl)
theorem fnOk60 : fnOk Try.prog 60 = true := by kernel_rfl
theorem rq60 {R : Value → AH → Nat → Prop} {env : Env} {H : AH} {nx : Nat} : retQ Try.prog Try.f60 R .ret env H nx = onV (eg env 4) R H nx := retQ_one rfl (of_decide_eq_true (by kernel_rfl))

/-! 61: slices.insertionSortCmpFunc[milestone/routes.Told] · code of 49 operations -/
def L61 : Nat → List Nat
  | 0 => [0, 1, 2, 3, 8]
  | 1 => [0, 1, 2, 3, 8, 14]
  | 3 => [0, 1, 2, 3, 8, 9]
  | 4 => [0, 1, 2, 3, 8, 9, 34]
  | 6 => [0, 1, 2, 3, 8, 9]
  | 5 => [0, 1, 2, 3, 8, 9]
  | 2 => [0, 1, 2, 3, 8]
  | _ => []
theorem L61x0 : L61 0 = [0, 1, 2, 3, 8] := (rfl)
theorem L61x1 : L61 1 = [0, 1, 2, 3, 8, 14] := (rfl)
theorem L61x3 : L61 3 = [0, 1, 2, 3, 8, 9] := (rfl)
theorem L61x4 : L61 4 = [0, 1, 2, 3, 8, 9, 34] := (rfl)
theorem L61x6 : L61 6 = [0, 1, 2, 3, 8, 9] := (rfl)
theorem L61x5 : L61 5 = [0, 1, 2, 3, 8, 9] := (rfl)
theorem L61x2 : L61 2 = [0, 1, 2, 3, 8] := (rfl)
def ord61x4 : List Nat := [0, 1, 2, 3, 4, 5, 6, 7, 8, 9, 10, 11, 12, 13, 14, 15, 16]
def ord61x6 : List Nat := [0, 1, 2, 3, 4, 5, 6, 7, 8, 9, 10, 11, 12, 13, 14, 15, 16, 17]
theorem fnOk61 : fnOk Try.prog 61 = true := by kernel_rfl
theorem rq61 {R : Value → AH → Nat → Prop} {env : Env} {H : AH} {nx : Nat} : retQ Try.prog Try.f61 R .ret env H nx = R (.tuple #[]) H nx := retQ_none rfl

/-! 62: slices.heapSortCmpFunc[milestone/routes.Told] · code of 56 operations -/
def L62 : Nat → List Nat
  | 0 => [0, 1, 2, 3, 8]
  | 1 => [0, 1, 2, 3, 8, 9]
  | 2 => [0, 3, 8, 9, 10]
  | 3 => [0, 3, 8, 9, 10, 11]
  | 4 => [0, 3, 8, 9, 10, 11, 21]
  | 6 => [0, 3, 8, 9, 10, 11]
  | 5 => [0, 3, 8, 9, 10, 11]
  | 7 => [0, 3, 8, 9, 12]
  | 8 => [0, 3, 8, 9, 12, 33]
  | 10 => [0, 3, 8, 9, 12]
  | 11 => [0, 3, 8, 9, 12]
  | 9 => [0, 3, 8, 9, 12]
  | _ => []
theorem L62x0 : L62 0 = [0, 1, 2, 3, 8] := (rfl)
theorem L62x1 : L62 1 = [0, 1, 2, 3, 8, 9] := (rfl)
theorem L62x2 : L62 2 = [0, 3, 8, 9, 10] := (rfl)
theorem L62x3 : L62 3 = [0, 3, 8, 9, 10, 11] := (rfl)
theorem L62x4 : L62 4 = [0, 3, 8, 9, 10, 11, 21] := (rfl)
theorem L62x6 : L62 6 = [0, 3, 8, 9, 10, 11] := (rfl)
theorem L62x5 : L62 5 = [0, 3, 8, 9, 10, 11] := (rfl)
theorem L62x7 : L62 7 = [0, 3, 8, 9, 12] := (rfl)
theorem L62x8 : L62 8 = [0, 3, 8, 9, 12, 33] := (rfl)
theorem L62x10 : L62 10 = [0, 3, 8, 9, 12] := (rfl)
theorem L62x11 : L62 11 = [0, 3, 8, 9, 12] := (rfl)
theorem L62x9 : L62 9 = [0, 3, 8, 9, 12] := (rfl)
def ord62x10 : List Nat := [0, 1, 2, 3, 4, 5, 6, 7, 8, 9, 10, 11, 12, 13, 14, 15, 16, 17, 18, 19]
theorem fnOk62 : fnOk Try.prog 62 = true := by kernel_rfl
theorem rq62 {R : Value → AH → Nat → Prop} {env : Env} {H : AH} {nx : Nat} : retQ Try.prog Try.f62 R .ret env H nx = R (.tuple #[]) H nx := retQ_none rfl

/-! 63: slices.breakPatternsCmpFunc[milestone/routes.Told] · code of 64 operations -/
def L63 : Nat → List Nat
  | 0 => [0, 1, 8]
  | 1 => [0, 1, 8, 17]
  | 2 => [0, 1, 8, 9]
  | 3 => [0, 1, 8, 9, 10]
  | 4 => [0, 1, 8, 9, 10, 11]
  | 5 => [0, 1, 8, 9, 10, 11, 35]
  | 7 => [0, 1, 8, 9, 10, 11, 12]
  | 8 => [0, 1, 8, 9, 10, 11, 12, 45]
  | 9 => [0, 1, 8, 9, 10, 11, 12]
  | 10 => [0, 1, 8, 9, 10, 11]
  | 6 => [0, 1, 8, 9, 10, 11]
  | _ => []
theorem L63x0 : L63 0 = [0, 1, 8] := (rfl)
theorem L63x1 : L63 1 = [0, 1, 8, 17] := (rfl)
theorem L63x2 : L63 2 = [0, 1, 8, 9] := (rfl)
theorem L63x3 : L63 3 = [0, 1, 8, 9, 10] := (rfl)
theorem L63x4 : L63 4 = [0, 1, 8, 9, 10, 11] := (rfl)
theorem L63x5 : L63 5 = [0, 1, 8, 9, 10, 11, 35] := (rfl)
theorem L63x7 : L63 7 = [0, 1, 8, 9, 10, 11, 12] := (rfl)
theorem L63x8 : L63 8 = [0, 1, 8, 9, 10, 11, 12, 45] := (rfl)
theorem L63x9 : L63 9 = [0, 1, 8, 9, 10, 11, 12] := (rfl)
theorem L63x10 : L63 10 = [0, 1, 8, 9, 10, 11] := (rfl)
theorem L63x6 : L63 6 = [0, 1, 8, 9, 10, 11] := (rfl)
def ord63x10 : List Nat := [0, 1, 2, 3, 4, 5, 6, 7, 8, 9, 10, 11, 12, 13, 14, 15, 16, 17, 18, 19]
theorem fnOk63 : fnOk Try.prog 63 = true := by kernel_rfl
theorem rq63 {R : Value → AH → Nat → Prop} {env : Env} {H : AH} {nx : Nat} : retQ Try.prog Try.f63 R .ret env H nx = R (.tuple #[]) H nx := retQ_none rfl

theorem cv3x119 (lo : Nat) (k' : IntKind) (n : Int) (K : Value → AH → Nat → Prop) (H : AH) (nx : Nat) : convQ Try.prog lo 3 119 (.int k' n) K H nx = K (.int .u64 (IntKind.wrap .u64 n)) H nx := convQ_int (by kernel_rfl) (by kernel_rfl)
theorem cx3x119 (k' : IntKind) (n : Int) (H : AH) : convV Try.prog H 3 119 (.int k' n) = some (.int .u64 (IntKind.wrap .u64 n)) := convV_int (by kernel_rfl) (by kernel_rfl)
theorem zero119 : zeroT Try.prog 119 = some (.int .u64 0) := by kernel_rfl
theorem al119 (lo : Nat) (K : Value → AH → Nat → Prop) (H : AH) (nx : Nat) : allocQ Try.prog lo 119 K H nx = newQ 119 ((.int .u64 0) : Value).cells K H nx := alloc_new zero119
theorem st119 (lo : Nat) (b o : Nat) (v : Value) (K : AH → Nat → Prop) (H : AH) (nx : Nat) (hv : v.oneCell' = true) : storeQ Try.prog lo 119 (.pointer (some ⟨b, o, none⟩)) v K H nx = stQ lo b o v K H nx := store_one (by kernel_rfl) hv
theorem stc119 (lo : Nat) (b o : Nat) (k : IntKind) (n : Int) (K : AH → Nat → Prop) (H : AH) (nx : Nat) : storeQ Try.prog lo 119 (.pointer (some ⟨b, o, none⟩)) (.int k n) K H nx = stQ lo b o (.int k n) K H nx := store_one (by kernel_rfl) rfl
/-! 64: slices.choosePivotCmpFunc[milestone/routes.Told] · code of 65 operations -/
def L64 : Nat → List Nat
  | 0 => [0, 1, 2, 3]
  | 1 => [0, 1, 3, 10]
  | 2 => [0, 1, 3, 10, 11]
  | 3 => [0, 1, 3, 10, 11, 12]
  | 4 => [0, 1, 3, 10, 11, 12, 13]
  | 5 => [0, 3, 10, 11, 12, 13, 14]
  | 6 => [0, 3, 10, 11, 12, 13, 14, 34]
  | 7 => [0, 3, 11, 12, 13, 14, 36]
  | 8 => [0, 3, 11, 12, 13, 14]
  | 9 => [0, 3, 11, 12, 13, 14]
  | 10 => [0, 3, 11, 12, 13, 14]
  | 11 => [11, 13]
  | 12 => [13, 55]
  | 14 => [13, 55, 57]
  | 15 => [8, 9]
  | 16 => [13, 60]
  | 17 => [8, 9]
  | 13 => [8, 9]
  | _ => []
theorem L64x0 : L64 0 = [0, 1, 2, 3] := (rfl)
theorem L64x1 : L64 1 = [0, 1, 3, 10] := (rfl)
theorem L64x2 : L64 2 = [0, 1, 3, 10, 11] := (rfl)
theorem L64x3 : L64 3 = [0, 1, 3, 10, 11, 12] := (rfl)
theorem L64x4 : L64 4 = [0, 1, 3, 10, 11, 12, 13] := (rfl)
theorem L64x5 : L64 5 = [0, 3, 10, 11, 12, 13, 14] := (rfl)
theorem L64x6 : L64 6 = [0, 3, 10, 11, 12, 13, 14, 34] := (rfl)
theorem L64x7 : L64 7 = [0, 3, 11, 12, 13, 14, 36] := (rfl)
theorem L64x8 : L64 8 = [0, 3, 11, 12, 13, 14] := (rfl)
theorem L64x9 : L64 9 = [0, 3, 11, 12, 13, 14] := (rfl)
theorem L64x10 : L64 10 = [0, 3, 11, 12, 13, 14] := (rfl)
theorem L64x11 : L64 11 = [11, 13] := (rfl)
theorem L64x12 : L64 12 = [13, 55] := (rfl)
theorem L64x14 : L64 14 = [13, 55, 57] := (rfl)
theorem L64x15 : L64 15 = [8, 9] := (rfl)
theorem L64x16 : L64 16 = [13, 60] := (rfl)
theorem L64x17 : L64 17 = [8, 9] := (rfl)
theorem L64x13 : L64 13 = [8, 9] := (rfl)
theorem fnOk64 : fnOk Try.prog 64 = true := by kernel_rfl
theorem rq64 {R : Value → AH → Nat → Prop} {env : Env} {H : AH} {nx : Nat} : retQ Try.prog Try.f64 R .ret env H nx = onA (eg env 8) (fun v => onA (eg env 9) fun u => R (.tuple #[v, u]) H nx) := retQ_two rfl (of_decide_eq_true (by kernel_rfl)) (of_decide_eq_true (by kernel_rfl))

theorem al3 (lo : Nat) (K : Value → AH → Nat → Prop) (H : AH) (nx : Nat) : allocQ Try.prog lo 3 K H nx = newQ 3 ((.int .i64 0) : Value).cells K H nx := alloc_new zero3
/-! 65: slices.reverseRangeCmpFunc[milestone/routes.Told] · code of 30 operations -/
def L65 : Nat → List Nat
  | 0 => [0, 2, 8]
  | 1 => [0, 8, 9]
  | 2 => [0, 8, 9, 15]
  | 3 => [0, 8, 9]
  | 4 => [0, 8, 9]
  | 5 => [0, 8, 9]
  | _ => []
theorem L65x0 : L65 0 = [0, 2, 8] := (rfl)
theorem L65x1 : L65 1 = [0, 8, 9] := (rfl)
theorem L65x2 : L65 2 = [0, 8, 9, 15] := (rfl)
theorem L65x3 : L65 3 = [0, 8, 9] := (rfl)
theorem L65x4 : L65 4 = [0, 8, 9] := (rfl)
theorem L65x5 : L65 5 = [0, 8, 9] := (rfl)
def ord65x3 : List Nat := [0, 1, 2, 3, 4, 5, 6, 7, 8, 9, 10, 11, 12, 13, 14, 15]
theorem fnOk65 : fnOk Try.prog 65 = true := by kernel_rfl
theorem rq65 {R : Value → AH → Nat → Prop} {env : Env} {H : AH} {nx : Nat} : retQ Try.prog Try.f65 R .ret env H nx = R (.tuple #[]) H nx := retQ_none rfl

/-! 66: slices.partialInsertionSortCmpFunc[milestone/routes.Told] · code of 146 operations -/
def L66 : Nat → List Nat
  | 0 => [0, 1, 2, 3]
  | 1 => [0, 1, 2, 3, 9]
  | 2 => [0, 1, 2, 3, 9, 10]
  | 3 => [0, 1, 2, 3, 9, 10, 16]
  | 5 => [0, 1, 2, 3, 9, 10, 36]
  | 6 => [0, 1, 2, 3, 9, 10]
  | 7 => [0, 1, 2, 3, 9, 10, 41]
  | 8 => [8]
  | 9 => [0, 1, 2, 3, 9, 10, 45]
  | 10 => [8]
  | 11 => [0, 1, 2, 3, 9, 10]
  | 12 => [0, 1, 2, 3, 9, 10, 65]
  | 13 => [0, 1, 2, 3, 9, 10, 11]
  | 14 => [0, 1, 2, 3, 9, 10, 11, 69]
  | 16 => [0, 1, 2, 3, 9, 10, 11, 84]
  | 17 => [0, 1, 2, 3, 9, 10, 11]
  | 15 => [0, 1, 2, 3, 9, 10, 11]
  | 18 => [0, 1, 2, 3, 9, 10, 104]
  | 19 => [0, 1, 2, 3, 9, 10, 12]
  | 20 => [0, 1, 2, 3, 9, 10, 12, 109]
  | 22 => [0, 1, 2, 3, 9, 10, 12, 124]
  | 23 => [0, 1, 2, 3, 9, 10, 12]
  | 21 => [0, 1, 2, 3, 9, 10, 12]
  | 4 => [0, 1, 2, 3, 9, 10]
  | 24 => [8]
  | _ => []
theorem L66x0 : L66 0 = [0, 1, 2, 3] := (rfl)
theorem L66x1 : L66 1 = [0, 1, 2, 3, 9] := (rfl)
theorem L66x2 : L66 2 = [0, 1, 2, 3, 9, 10] := (rfl)
theorem L66x3 : L66 3 = [0, 1, 2, 3, 9, 10, 16] := (rfl)
theorem L66x5 : L66 5 = [0, 1, 2, 3, 9, 10, 36] := (rfl)
theorem L66x6 : L66 6 = [0, 1, 2, 3, 9, 10] := (rfl)
theorem L66x7 : L66 7 = [0, 1, 2, 3, 9, 10, 41] := (rfl)
theorem L66x8 : L66 8 = [8] := (rfl)
theorem L66x9 : L66 9 = [0, 1, 2, 3, 9, 10, 45] := (rfl)
theorem L66x10 : L66 10 = [8] := (rfl)
theorem L66x11 : L66 11 = [0, 1, 2, 3, 9, 10] := (rfl)
theorem L66x12 : L66 12 = [0, 1, 2, 3, 9, 10, 65] := (rfl)
theorem L66x13 : L66 13 = [0, 1, 2, 3, 9, 10, 11] := (rfl)
theorem L66x14 : L66 14 = [0, 1, 2, 3, 9, 10, 11, 69] := (rfl)
theorem L66x16 : L66 16 = [0, 1, 2, 3, 9, 10, 11, 84] := (rfl)
theorem L66x17 : L66 17 = [0, 1, 2, 3, 9, 10, 11] := (rfl)
theorem L66x15 : L66 15 = [0, 1, 2, 3, 9, 10, 11] := (rfl)
theorem L66x18 : L66 18 = [0, 1, 2, 3, 9, 10, 104] := (rfl)
theorem L66x19 : L66 19 = [0, 1, 2, 3, 9, 10, 12] := (rfl)
theorem L66x20 : L66 20 = [0, 1, 2, 3, 9, 10, 12, 109] := (rfl)
theorem L66x22 : L66 22 = [0, 1, 2, 3, 9, 10, 12, 124] := (rfl)
theorem L66x23 : L66 23 = [0, 1, 2, 3, 9, 10, 12] := (rfl)
theorem L66x21 : L66 21 = [0, 1, 2, 3, 9, 10, 12] := (rfl)
theorem L66x4 : L66 4 = [0, 1, 2, 3, 9, 10] := (rfl)
theorem L66x24 : L66 24 = [8] := (rfl)
def ord66x5 : List Nat := [0, 1, 2, 3, 4, 5, 6, 7, 8, 9, 10, 11, 12, 13, 14, 15, 16, 17]
def ord66x11 : List Nat := [0, 1, 2, 3, 4, 5, 6, 7, 8, 9, 10, 11, 12, 13, 14, 15, 16, 17]
def ord66x16 : List Nat := [0, 1, 2, 3, 4, 5, 6, 7, 8, 9, 10, 11, 12]
def ord66x17 : List Nat := [0, 1, 2, 3, 4, 5, 6, 7, 8, 9, 10, 11, 12, 13, 14, 15, 16, 17]
def ord66x22 : List Nat := [0, 1, 2, 3, 4, 5, 6, 7, 8, 9, 10, 11, 12]
def ord66x23 : List Nat := [0, 1, 2, 3, 4, 5, 6, 7, 8, 9, 10, 11, 12, 13, 14, 15, 16, 17]
theorem fnOk66 : fnOk Try.prog 66 = true := by kernel_rfl
theorem rq66 {R : Value → AH → Nat → Prop} {env : Env} {H : AH} {nx : Nat} : retQ Try.prog Try.f66 R .ret env H nx = onV (eg env 8) R H nx := retQ_one rfl (of_decide_eq_true (by kernel_rfl))

/-! 67: slices.partitionEqualCmpFunc[milestone/routes.Told] · code of 89 operations -/
def L67 : Nat → List Nat
  | 0 => [0, 1, 2, 3, 4]
  | 1 => [0, 1, 2, 4]
  | 2 => [0, 1, 4, 11, 12]
  | 3 => [0, 1, 4, 11, 12, 47]
  | 4 => [0, 1, 4, 11, 12]
  | 5 => [0, 1, 4, 11, 12, 65]
  | 6 => [0, 1, 4, 11, 12]
  | 7 => [0, 1, 4, 11, 12, 70]
  | 8 => [0, 1, 4, 11, 12]
  | 9 => [0, 1, 4, 11, 12]
  | 10 => [0, 1, 4, 11, 12]
  | 11 => [10]
  | _ => []
theorem L67x0 : L67 0 = [0, 1, 2, 3, 4] := (rfl)
theorem L67x1 : L67 1 = [0, 1, 2, 4] := (rfl)
theorem L67x2 : L67 2 = [0, 1, 4, 11, 12] := (rfl)
theorem L67x3 : L67 3 = [0, 1, 4, 11, 12, 47] := (rfl)
theorem L67x4 : L67 4 = [0, 1, 4, 11, 12] := (rfl)
theorem L67x5 : L67 5 = [0, 1, 4, 11, 12, 65] := (rfl)
theorem L67x6 : L67 6 = [0, 1, 4, 11, 12] := (rfl)
theorem L67x7 : L67 7 = [0, 1, 4, 11, 12, 70] := (rfl)
theorem L67x8 : L67 8 = [0, 1, 4, 11, 12] := (rfl)
theorem L67x9 : L67 9 = [0, 1, 4, 11, 12] := (rfl)
theorem L67x10 : L67 10 = [0, 1, 4, 11, 12] := (rfl)
theorem L67x11 : L67 11 = [10] := (rfl)
def ord67x1 : List Nat := [0, 1, 2, 3, 4, 5, 6, 7, 8, 9, 10, 11, 12, 13, 14, 15]
def ord67x3 : List Nat := [0, 1, 2, 3, 4, 5, 6, 7, 8, 9, 10, 11, 12, 13, 14, 15, 16]
def ord67x5 : List Nat := [0, 1, 2, 3, 4, 5, 6, 7, 8, 9, 10, 11, 12, 13, 14, 15]
def ord67x8 : List Nat := [0, 1, 2, 3, 4, 5, 6, 7, 8, 9, 10, 11, 12, 13, 14, 15]
theorem fnOk67 : fnOk Try.prog 67 = true := by kernel_rfl
theorem rq67 {R : Value → AH → Nat → Prop} {env : Env} {H : AH} {nx : Nat} : retQ Try.prog Try.f67 R .ret env H nx = onV (eg env 10) R H nx := retQ_one rfl (of_decide_eq_true (by kernel_rfl))

/-! 68: slices.partitionCmpFunc[milestone/routes.Told] · code of 190 operations -/
def L68 : Nat → List Nat
  | 0 => [0, 1, 2, 3, 4]
  | 1 => [0, 1, 2, 4]
  | 2 => [0, 1, 4, 12, 13]
  | 3 => [0, 1, 4, 12, 13, 47]
  | 4 => [0, 1, 4, 12, 13]
  | 5 => [0, 1, 4, 12, 13, 66]
  | 6 => [0, 1, 4, 12, 13]
  | 7 => [0, 1, 4, 12, 13, 71]
  | 8 => [13]
  | 9 => [10, 11]
  | 10 => [0, 1, 4, 12, 13]
  | 11 => [0, 1, 4, 12, 13]
  | 12 => [0, 1, 4, 12, 13]
  | 13 => [0, 1, 4, 12, 13, 120]
  | 14 => [0, 1, 4, 12, 13]
  | 15 => [0, 1, 4, 12, 13, 139]
  | 16 => [0, 1, 4, 12, 13]
  | 17 => [0, 1, 4, 12, 13, 144]
  | 18 => [0, 1, 4, 12, 13]
  | 19 => [0, 1, 4, 12, 13]
  | 20 => [0, 1, 4, 12, 13]
  | 21 => [13]
  | 22 => [10, 11]
  | _ => []
theorem L68x0 : L68 0 = [0, 1, 2, 3, 4] := (rfl)
theorem L68x1 : L68 1 = [0, 1, 2, 4] := (rfl)
theorem L68x2 : L68 2 = [0, 1, 4, 12, 13] := (rfl)
theorem L68x3 : L68 3 = [0, 1, 4, 12, 13, 47] := (rfl)
theorem L68x4 : L68 4 = [0, 1, 4, 12, 13] := (rfl)
theorem L68x5 : L68 5 = [0, 1, 4, 12, 13, 66] := (rfl)
theorem L68x6 : L68 6 = [0, 1, 4, 12, 13] := (rfl)
theorem L68x7 : L68 7 = [0, 1, 4, 12, 13, 71] := (rfl)
theorem L68x8 : L68 8 = [13] := (rfl)
theorem L68x9 : L68 9 = [10, 11] := (rfl)
theorem L68x10 : L68 10 = [0, 1, 4, 12, 13] := (rfl)
theorem L68x11 : L68 11 = [0, 1, 4, 12, 13] := (rfl)
theorem L68x12 : L68 12 = [0, 1, 4, 12, 13] := (rfl)
theorem L68x13 : L68 13 = [0, 1, 4, 12, 13, 120] := (rfl)
theorem L68x14 : L68 14 = [0, 1, 4, 12, 13] := (rfl)
theorem L68x15 : L68 15 = [0, 1, 4, 12, 13, 139] := (rfl)
theorem L68x16 : L68 16 = [0, 1, 4, 12, 13] := (rfl)
theorem L68x17 : L68 17 = [0, 1, 4, 12, 13, 144] := (rfl)
theorem L68x18 : L68 18 = [0, 1, 4, 12, 13] := (rfl)
theorem L68x19 : L68 19 = [0, 1, 4, 12, 13] := (rfl)
theorem L68x20 : L68 20 = [0, 1, 4, 12, 13] := (rfl)
theorem L68x21 : L68 21 = [13] := (rfl)
theorem L68x22 : L68 22 = [10, 11] := (rfl)
def ord68x1 : List Nat := [0, 1, 2, 3, 4, 5, 6, 7, 8, 9, 10, 11, 12, 13, 14, 15]
def ord68x3 : List Nat := [0, 1, 2, 3, 4, 5, 6, 7, 8, 9, 10, 11, 12, 13, 14, 15]
def ord68x5 : List Nat := [0, 1, 2, 3, 4, 5, 6, 7, 8, 9, 10, 11, 12, 13, 14, 15, 16]
def ord68x8 : List Nat := [0, 1, 2, 3, 4, 5, 6, 7, 8, 9, 10, 11, 12, 13, 14, 15]
def ord68x10 : List Nat := [0, 1, 2, 3, 4, 5, 6, 7, 8, 9, 10, 11, 12, 13, 14, 15]
def ord68x13 : List Nat := [0, 1, 2, 3, 4, 5, 6, 7, 8, 9, 10, 11, 12, 13, 14, 15]
def ord68x15 : List Nat := [0, 1, 2, 3, 4, 5, 6, 7, 8, 9, 10, 11, 12, 13, 14, 15, 16]
def ord68x18 : List Nat := [0, 1, 2, 3, 4, 5, 6, 7, 8, 9, 10, 11, 12, 13, 14, 15]
def ord68x21 : List Nat := [0, 1, 2, 3, 4, 5, 6, 7, 8, 9, 10, 11, 12, 13, 14, 15]
theorem fnOk68 : fnOk Try.prog 68 = true := by kernel_rfl
theorem rq68 {R : Value → AH → Nat → Prop} {env : Env} {H : AH} {nx : Nat} : retQ Try.prog Try.f68 R .ret env H nx = onA (eg env 10) (fun v => onA (eg env 11) fun u => R (.tuple #[v, u]) H nx) := retQ_two rfl (of_decide_eq_true (by kernel_rfl)) (of_decide_eq_true (by kernel_rfl))

/-! 69: math/bits.Len32 · code of 22 operations -/
def L69 : Nat → List Nat
  | 0 => [0, 2]
  | 1 => [0, 2, 4]
  | 2 => [0]
  | 3 => [0, 2]
  | 4 => [0, 2, 8]
  | 5 => [0, 2]
  | 6 => [0, 2]
  | 7 => [2]
  | _ => []
theorem L69x0 : L69 0 = [0, 2] := (rfl)
theorem L69x1 : L69 1 = [0, 2, 4] := (rfl)
theorem L69x2 : L69 2 = [0] := (rfl)
theorem L69x3 : L69 3 = [0, 2] := (rfl)
theorem L69x4 : L69 4 = [0, 2, 8] := (rfl)
theorem L69x5 : L69 5 = [0, 2] := (rfl)
theorem L69x6 : L69 6 = [0, 2] := (rfl)
theorem L69x7 : L69 7 = [2] := (rfl)
theorem fnOk69 : fnOk Try.prog 69 = true := by kernel_rfl
theorem rq69 {R : Value → AH → Nat → Prop} {env : Env} {H : AH} {nx : Nat} : retQ Try.prog Try.f69 R .ret env H nx = onV (eg env 2) R H nx := retQ_one rfl (of_decide_eq_true (by kernel_rfl))

theorem cv37x5 (lo : Nat) (k' : IntKind) (n : Int) (K : Value → AH → Nat → Prop) (H : AH) (nx : Nat) : convQ Try.prog lo 37 5 (.int k' n) K H nx = K (.int .u8 (IntKind.wrap .u8 n)) H nx := convQ_int (by kernel_rfl) (by kernel_rfl)
theorem cx37x5 (k' : IntKind) (n : Int) (H : AH) : convV Try.prog H 37 5 (.int k' n) = some (.int .u8 (IntKind.wrap .u8 n)) := convV_int (by kernel_rfl) (by kernel_rfl)
theorem ix9 (H : AH) (s : ByteArray) (kk : IntKind) (i : Int) (h0 : 0 ≤ i) (h1 : i < s.size) : indexV Try.prog H 9 (.string s) (.int kk i) = some (.int .u8 (s.data[i.toNat]!).toNat) := index_str (by kernel_rfl) h0 h1
/-! 70: math/bits.Len64 · code of 30 operations -/
def L70 : Nat → List Nat
  | 0 => [0, 2]
  | 1 => [0, 2, 4]
  | 2 => [0]
  | 3 => [0, 2]
  | 4 => [0, 2, 8]
  | 5 => [0, 2]
  | 6 => [0, 2]
  | 7 => [0, 2, 14]
  | 8 => [0, 2]
  | 9 => [0, 2]
  | 10 => [2]
  | _ => []
theorem L70x0 : L70 0 = [0, 2] := (rfl)
theorem L70x1 : L70 1 = [0, 2, 4] := (rfl)
theorem L70x2 : L70 2 = [0] := (rfl)
theorem L70x3 : L70 3 = [0, 2] := (rfl)
theorem L70x4 : L70 4 = [0, 2, 8] := (rfl)
theorem L70x5 : L70 5 = [0, 2] := (rfl)
theorem L70x6 : L70 6 = [0, 2] := (rfl)
theorem L70x7 : L70 7 = [0, 2, 14] := (rfl)
theorem L70x8 : L70 8 = [0, 2] := (rfl)
theorem L70x9 : L70 9 = [0, 2] := (rfl)
theorem L70x10 : L70 10 = [2] := (rfl)
theorem fnOk70 : fnOk Try.prog 70 = true := by kernel_rfl
theorem rq70 {R : Value → AH → Nat → Prop} {env : Env} {H : AH} {nx : Nat} : retQ Try.prog Try.f70 R .ret env H nx = onV (eg env 2) R H nx := retQ_one rfl (of_decide_eq_true (by kernel_rfl))

theorem cv27x5 (lo : Nat) (k' : IntKind) (n : Int) (K : Value → AH → Nat → Prop) (H : AH) (nx : Nat) : convQ Try.prog lo 27 5 (.int k' n) K H nx = K (.int .u8 (IntKind.wrap .u8 n)) H nx := convQ_int (by kernel_rfl) (by kernel_rfl)
theorem cx27x5 (k' : IntKind) (n : Int) (H : AH) : convV Try.prog H 27 5 (.int k' n) = some (.int .u8 (IntKind.wrap .u8 n)) := convV_int (by kernel_rfl) (by kernel_rfl)
/-! 71: cmp.isNaN[uint32] · code of 5 operations -/
def L71 : Nat → List Nat
  | 0 => [0]
  | 1 => [2]
  | _ => []
theorem L71x0 : L71 0 = [0] := (rfl)
theorem L71x1 : L71 1 = [2] := (rfl)
theorem fnOk71 : fnOk Try.prog 71 = true := by kernel_rfl
theorem rq71 {R : Value → AH → Nat → Prop} {env : Env} {H : AH} {nx : Nat} : retQ Try.prog Try.f71 R .ret env H nx = onV (eg env 2) R H nx := retQ_one rfl (of_decide_eq_true (by kernel_rfl))

/-! 72: cmp.isNaN[uint8] · code of 5 operations -/
def L72 : Nat → List Nat
  | 0 => [0]
  | 1 => [2]
  | _ => []
theorem L72x0 : L72 0 = [0] := (rfl)
theorem L72x1 : L72 1 = [2] := (rfl)
theorem fnOk72 : fnOk Try.prog 72 = true := by kernel_rfl
theorem rq72 {R : Value → AH → Nat → Prop} {env : Env} {H : AH} {nx : Nat} : retQ Try.prog Try.f72 R .ret env H nx = onV (eg env 2) R H nx := retQ_one rfl (of_decide_eq_true (by kernel_rfl))

/-! 73: slices.rotateLeft[milestone/source.entry] · code of 10 operations -/
def L73 : Nat → List Nat
  | 0 => [0, 1]
  | 1 => [0]
  | 2 => []
  | _ => []
theorem L73x0 : L73 0 = [0, 1] := (rfl)
theorem L73x1 : L73 1 = [0] := (rfl)
theorem L73x2 : L73 2 = [] := (rfl)
theorem fnOk73 : fnOk Try.prog 73 = true := by kernel_rfl
theorem rq73 {R : Value → AH → Nat → Prop} {env : Env} {H : AH} {nx : Nat} : retQ Try.prog Try.f73 R .ret env H nx = R (.tuple #[]) H nx := retQ_none rfl

/-! 74: slices.siftDownCmpFunc[milestone/routes.Told] · code of 76 operations -/
def L74 : Nat → List Nat
  | 0 => [0, 2, 3, 4, 10]
  | 1 => [0, 2, 3, 4, 10, 11]
  | 2 => [0, 2, 3, 4, 10, 11, 18]
  | 3 => [0, 2, 3, 4, 10, 11, 40]
  | 4 => [0, 2, 3, 4, 10, 11]
  | 5 => [0, 2, 3, 4, 10, 11, 58]
  | 6 => [0, 2, 3, 4, 11]
  | 7 => [0, 2, 3, 4, 10]
  | _ => []
theorem L74x0 : L74 0 = [0, 2, 3, 4, 10] := (rfl)
theorem L74x1 : L74 1 = [0, 2, 3, 4, 10, 11] := (rfl)
theorem L74x2 : L74 2 = [0, 2, 3, 4, 10, 11, 18] := (rfl)
theorem L74x3 : L74 3 = [0, 2, 3, 4, 10, 11, 40] := (rfl)
theorem L74x4 : L74 4 = [0, 2, 3, 4, 10, 11] := (rfl)
theorem L74x5 : L74 5 = [0, 2, 3, 4, 10, 11, 58] := (rfl)
theorem L74x6 : L74 6 = [0, 2, 3, 4, 11] := (rfl)
theorem L74x7 : L74 7 = [0, 2, 3, 4, 10] := (rfl)
def ord74x3 : List Nat := [0, 1, 2, 3, 4, 5, 6, 7, 8, 9, 10, 11, 12, 13, 14, 15, 16, 17, 18, 19, 20, 21]
def ord74x5 : List Nat := [0, 1, 2, 3, 4, 5, 6, 7, 8, 9, 10, 11, 12, 13, 14, 15]
def ord74x6 : List Nat := [0, 1, 2, 3, 4, 5, 6, 7, 8, 9, 10, 11, 12, 13, 14, 15, 16, 17, 18, 19, 20, 21, 22, 23]
theorem fnOk74 : fnOk Try.prog 74 = true := by kernel_rfl
theorem rq74 {R : Value → AH → Nat → Prop} {env : Env} {H : AH} {nx : Nat} : retQ Try.prog Try.f74 R .ret env H nx = R (.tuple #[]) H nx := retQ_none rfl

/-! 75: slices.nextPowerOfTwo · code of 6 operations -/
def L75 : Nat → List Nat
  | 0 => [0]
  | 1 => [2]
  | _ => []
theorem L75x0 : L75 0 = [0] := (rfl)
theorem L75x1 : L75 1 = [2] := (rfl)
theorem fnOk75 : fnOk Try.prog 75 = true := by kernel_rfl
theorem rq75 {R : Value → AH → Nat → Prop} {env : Env} {H : AH} {nx : Nat} : retQ Try.prog Try.f75 R .ret env H nx = onV (eg env 2) R H nx := retQ_one rfl (of_decide_eq_true (by kernel_rfl))

/-! 76: (*slices.xorshift).Next · code of 35 operations -/
def L76 : Nat → List Nat
  | 0 => [0]
  | 1 => [0]
  | 2 => [0]
  | 3 => [0]
  | 4 => [2]
  | _ => []
theorem L76x0 : L76 0 = [0] := (rfl)
theorem L76x1 : L76 1 = [0] := (rfl)
theorem L76x2 : L76 2 = [0] := (rfl)
theorem L76x3 : L76 3 = [0] := (rfl)
theorem L76x4 : L76 4 = [2] := (rfl)
def ord76x1 : List Nat := [0, 1, 2, 3, 4, 5, 6, 7, 8, 9]
def ord76x2 : List Nat := [0, 1, 2, 3, 4, 5, 6, 7, 8, 9]
def ord76x3 : List Nat := [0, 1, 2, 3, 4, 5, 6, 7, 8, 9]
theorem fnOk76 : fnOk Try.prog 76 = true := by kernel_rfl
theorem rq76 {R : Value → AH → Nat → Prop} {env : Env} {H : AH} {nx : Nat} : retQ Try.prog Try.f76 R .ret env H nx = onV (eg env 2) R H nx := retQ_one rfl (of_decide_eq_true (by kernel_rfl))

theorem ld119 (H : AH) (b o : Nat) : loadV Try.prog H 119 (.pointer (some ⟨b, o, none⟩)) = H.c b o := load_one (by kernel_rfl)
/-! 77: slices.medianAdjacentCmpFunc[milestone/routes.Told] · code of 11 operations -/
def L77 : Nat → List Nat
  | 0 => [0, 1, 2, 3]
  | 1 => [8]
  | _ => []
theorem L77x0 : L77 0 = [0, 1, 2, 3] := (rfl)
theorem L77x1 : L77 1 = [8] := (rfl)
theorem fnOk77 : fnOk Try.prog 77 = true := by kernel_rfl
theorem rq77 {R : Value → AH → Nat → Prop} {env : Env} {H : AH} {nx : Nat} : retQ Try.prog Try.f77 R .ret env H nx = onV (eg env 8) R H nx := retQ_one rfl (of_decide_eq_true (by kernel_rfl))

/-! 78: slices.medianCmpFunc[milestone/routes.Told] · code of 36 operations -/
def L78 : Nat → List Nat
  | 0 => [0, 1, 2, 3, 4, 5]
  | 1 => [0, 1, 2, 3, 4, 5]
  | 2 => [0, 1, 2, 4, 5]
  | 3 => [2]
  | 4 => [12]
  | _ => []
theorem L78x0 : L78 0 = [0, 1, 2, 3, 4, 5] := (rfl)
theorem L78x1 : L78 1 = [0, 1, 2, 3, 4, 5] := (rfl)
theorem L78x2 : L78 2 = [0, 1, 2, 4, 5] := (rfl)
theorem L78x3 : L78 3 = [2] := (rfl)
theorem L78x4 : L78 4 = [12] := (rfl)
theorem fnOk78 : fnOk Try.prog 78 = true := by kernel_rfl
theorem rq78 {R : Value → AH → Nat → Prop} {env : Env} {H : AH} {nx : Nat} : retQ Try.prog Try.f78 R .ret env H nx = onV (eg env 12) R H nx := retQ_one rfl (of_decide_eq_true (by kernel_rfl))

/-! 79: slices.Reverse[[]milestone/source.entry,milestone/source.entry] · code of 30 operations -/
def L79 : Nat → List Nat
  | 0 => [0, 2, 3]
  | 1 => [0, 2, 3, 9]
  | 3 => [0, 2, 3]
  | 2 => [0, 2, 3]
  | _ => []
theorem L79x0 : L79 0 = [0, 2, 3] := (rfl)
theorem L79x1 : L79 1 = [0, 2, 3, 9] := (rfl)
theorem L79x3 : L79 3 = [0, 2, 3] := (rfl)
theorem L79x2 : L79 2 = [0, 2, 3] := (rfl)
def ord79x3 : List Nat := [0, 1, 2, 3, 4, 5, 6, 7, 8, 9, 10, 11, 12, 13, 14, 15]
theorem fnOk79 : fnOk Try.prog 79 = true := by kernel_rfl
theorem rq79 {R : Value → AH → Nat → Prop} {env : Env} {H : AH} {nx : Nat} : retQ Try.prog Try.f79 R .ret env H nx = R (.tuple #[]) H nx := retQ_none rfl

theorem st85 (lo : Nat) (b o : Nat) (v0 v1 v2 v3 : Value) (K : AH → Nat → Prop) (H : AH) (nx : Nat) : storeQ Try.prog lo 85 (.pointer (some ⟨b, o, none⟩)) (.agg #[v0, v1, v2, v3]) K H nx = stsQ lo b o [v0, v1, v2, v3] K H nx := store_agg (n := 4) (by kernel_rfl) (by decide) rfl
/-! 80: slices.order2CmpFunc[milestone/routes.Told] · code of 27 operations -/
def L80 : Nat → List Nat
  | 0 => [0, 1, 2, 3, 4]
  | 1 => [1, 2, 3, 22]
  | 2 => [1, 2]
  | 3 => [10, 11]
  | 4 => [10, 11]
  | _ => []
theorem L80x0 : L80 0 = [0, 1, 2, 3, 4] := (rfl)
theorem L80x1 : L80 1 = [1, 2, 3, 22] := (rfl)
theorem L80x2 : L80 2 = [1, 2] := (rfl)
theorem L80x3 : L80 3 = [10, 11] := (rfl)
theorem L80x4 : L80 4 = [10, 11] := (rfl)
def ord80x1 : List Nat := [0, 1, 2, 3, 4, 5, 6, 7, 8, 9, 10]
theorem fnOk80 : fnOk Try.prog 80 = true := by kernel_rfl
theorem rq80 {R : Value → AH → Nat → Prop} {env : Env} {H : AH} {nx : Nat} : retQ Try.prog Try.f80 R .ret env H nx = onA (eg env 10) (fun v => onA (eg env 11) fun u => R (.tuple #[v, u]) H nx) := retQ_two rfl (of_decide_eq_true (by kernel_rfl)) (of_decide_eq_true (by kernel_rfl))

theorem st3 (lo : Nat) (b o : Nat) (v : Value) (K : AH → Nat → Prop) (H : AH) (nx : Nat) (hv : v.oneCell' = true) : storeQ Try.prog lo 3 (.pointer (some ⟨b, o, none⟩)) v K H nx = stQ lo b o v K H nx := store_one (by kernel_rfl) hv
theorem stc3 (lo : Nat) (b o : Nat) (k : IntKind) (n : Int) (K : AH → Nat → Prop) (H : AH) (nx : Nat) : storeQ Try.prog lo 3 (.pointer (some ⟨b, o, none⟩)) (.int k n) K H nx = stQ lo b o (.int k n) K H nx := store_one (by kernel_rfl) rfl
attribute [go_sem] L3x0 L3x1 L3x2 L3x3 L3x4 L3x5 L3x6 L3x8 L3x9 L3x10 L3x11 L3x7 L3x12 L3x13 L3x14 L3x15 L3x16 L3x18 L3x19 L3x20 L3x17 L3x21 fnOk3 rq3 len22 bd0x29 al29 st29 ld29 ia22 ld34 len26 fa29x0 ld26 ia26 fa43x0 ld39 fa43x1 ld3 ld43 eqg43 neg43 eqg39 neg39 L4x0 L4x1 L4x2 L4x3 L4x4 L4x5 L4x6 L4x8 L4x7 L4x9 L4x10 L4x11 L4x12 L4x13 L4x15 L4x16 L4x17 L4x18 L4x19 L4x20 L4x22 L4x23 L4x24 L4x25 L4x26 L4x27 L4x21 L4x28 L4x29 L4x30 L4x32 L4x33 L4x31 L4x34 L4x35 L4x36 L4x37 L4x14 L4x38 L4x39 L4x41 L4x42 L4x40 L4x43 fnOk4 rq4 al53 cv3x5 cx3x5 al39 st39 fa43x3 ld41 fa41x1 ld32 cv32x3 cx32x3 fa53x2 cv3x32 cx3x32 fa41x0 bd53x0x1x2x3 st53 len48 ia48 fa53x0 eqb4 neb4 ld53 eqg53 neg53 L5x0 L5x1 L5x2 L5x3 L5x4 L5x5 L5x6 L5x8 L5x7 L5x9 L5x10 L5x11 L5x12 L5x14 L5x15 L5x16 L5x17 L5x18 L5x19 L5x20 L5x21 L5x13 L5x22 L5x23 fnOk5 rq5 fa53x1 fa53x3 bd41x0x1 al41 st41 L6x0 L6x1 L6x2 L6x3 L6x4 L6x5 L6x6 L6x8 L6x7 L6x9 L6x10 L6x11 L6x12 L6x13 L6x15 L6x16 L6x17 L6x18 L6x19 L6x20 L6x22 L6x23 L6x24 L6x25 L6x21 L6x26 L6x27 L6x28 L6x30 L6x29 L6x31 L6x32 L6x33 L6x34 L6x14 L6x35 fnOk6 rq6 len65 ia65 L7x0 L7x1 L7x2 L7x3 L7x4 L7x5 L7x6 fnOk7 rq7 bd39x0x1 L8x0 L8x1 fnOk8 rq8 bd0x70 L9x0 L9x1 L9x2 L9x3 L9x11 L9x12 L9x13 L9x14 L9x15 L9x16 L9x17 L9x18 L9x19 L9x20 L9x21 L9x22 L9x23 L9x24 L9x25 L9x27 L9x28 L9x26 L9x4 L9x5 L9x6 L9x7 L9x9 L9x10 L9x8 L9x29 fnOk9 rq9 fa34x1 ld5 cv5x3 cx5x3 fa34x2 fa34x0 fa34x3 cv5x32 cx5x32 fa34x4 st32 stc32 fa29x1 ld27 bd43x0x1x2x3x4 st26 stc26 cv5x27 cx5x27 st27 stc27 fa43x4 L10x0 L10x1 L10x2 L10x3 L10x4 L10x5 fnOk10 rq10 eqp24 nep24 fa70x0 L11x0 L11x1 L11x2 L11x4 L11x5 L11x3 L11x6 fnOk11 rq11 L12x0 L12x1 fnOk12 rq12 fa39x0 ld37 fa39x1 L13x0 L13x1 L13x2 L13x3 L13x5 L13x4 L13x6 fnOk13 rq13 L14x0 L14x1 L14x2 L14x3 L14x4 L14x5 L14x6 L14x7 L14x8 L14x9 L14x10 L14x11 L14x12 L14x13 L14x14 L14x15 L14x16 L14x17 fnOk14 rq14 al43 st43 len50 ia50 cv32x37 cx32x37 cv37x32 cx37x32 L15x0 L15x1 fnOk15 rq15 L16x0 L16x1 fnOk16 rq16 cv5x37 cx5x37 L17x0 L17x1 L17x2 L17x4 L17x5 L17x3 L17x6 fnOk17 rq17 L18x0 L18x1 L18x2 L18x3 fnOk18 rq18 L19x0 L19x1 L19x2 fnOk19 rq19 L20x0 L20x1 L20x2 L20x3 L20x4 L20x5 L20x7 L20x8 L20x9 L20x10 L20x6 L20x11 fnOk20 rq20 eqp46 nep46 fa88x0 ld86 ia86 fa85x1 len86 bd85x0x1 st86 stc86 L21x0 L21x1 L21x2 L21x3 L21x4 L21x5 L21x6 fnOk21 rq21 bd0x41 L22x0 L22x1 L22x2 L22x3 fnOk22 rq22 L23x0 L23x1 L23x2 L23x3 L23x4 L23x6 L23x7 L23x5 L23x8 fnOk23 rq23 L24x0 L24x1 L24x2 L24x3 L24x4 L24x5 L24x6 L24x7 L24x8 L24x9 L24x10 L24x11 L24x12 L24x13 L24x14 fnOk24 rq24 L25x0 L25x1 L25x2 L25x3 L25x4 L25x5 L25x6 L25x8 L25x9 L25x10 L25x11 L25x12 L25x13 L25x14 L25x7 L25x15 fnOk25 rq25 L26x0 L26x1 fnOk26 rq26 bd0x88 L27x0 L27x1 fnOk27 rq27 L28x0 L28x1 L28x2 L28x3 L28x5 L28x6 L28x4 L28x7 L28x8 fnOk28 rq28 L29x0 L29x1 L29x2 fnOk29 rq29 L30x0 L30x1 L30x2 fnOk30 rq30 L31x0 L31x1 L31x2 L31x3 fnOk31 rq31 eqs26 nes26 L32x0 L32x1 fnOk32 rq32 cv3x79 cx3x79 L33x0 L33x1 L33x2 L33x3 L33x4 fnOk33 rq33 L34x0 L34x1 fnOk34 rq34 L35x0 L35x1 L35x2 L35x3 L35x4 L35x5 L35x7 L35x8 L35x9 L35x6 L35x10 fnOk35 rq35 L36x0 L36x1 fnOk36 rq36 L37x0 L37x1 fnOk37 rq37 L38x0 L38x1 fnOk38 rq38 L39x0 L39x1 L39x2 L39x3 fnOk39 rq39 L40x0 L40x1 L40x2 L40x3 L40x4 L40x5 L40x6 L40x7 L40x8 L40x9 L40x10 L40x11 L40x12 L40x13 L40x14 L40x15 L40x16 L40x17 L40x18 L40x19 L40x20 fnOk40 rq40 L41x0 L41x1 L41x2 fnOk41 rq41 L42x0 L42x1 fnOk42 rq42 L43x0 L43x1 L43x2 L43x3 L43x4 L43x5 L43x6 L43x7 fnOk43 rq43 L44x0 L44x1 L44x2 L44x3 L44x4 L44x5 L44x7 L44x8 L44x9 L44x10 L44x6 L44x11 L44x12 fnOk44 rq44 L45x0 L45x1 fnOk45 rq45 L46x0 L46x1 fnOk46 rq46 L47x0 L47x1 L47x2 L47x3 L47x4 L47x5 L47x6 L47x7 L47x8 L47x9 L47x10 L47x11 L47x12 L47x13 L47x14 L47x15 L47x16 L47x17 L47x18 L47x19 L47x20 L47x21 L47x22 L47x23 L47x24 L47x25 L47x26 L47x27 L47x28 L47x29 L47x30 fnOk47 rq47 L48x0 L48x1 L48x2 fnOk48 rq48 cv79x37 cx79x37 L49x0 L49x1 L49x2 L49x3 L49x4 L49x5 L49x6 L49x7 L49x8 fnOk49 rq49 len116 ia116 L50x0 L50x1 L50x2 L50x3 L50x4 L50x5 L50x6 L50x7 L50x8 L50x9 L50x10 L50x11 L50x12 L50x13 fnOk50 rq50 L51x0 L51x1 L51x2 L51x3 L51x4 L51x5 L51x6 L51x7 L51x8 L51x9 L51x10 L51x11 L51x12 L51x13 fnOk51 rq51 L52x0 L52x1 L52x3 L52x2 L52x4 fnOk52 rq52 L53x0 L53x1 fnOk53 rq53 L54x0 L54x1 L54x2 L54x3 fnOk54 rq54 L55x0 L55x1 L55x2 L55x3 L55x4 L55x5 L55x6 L55x7 L55x8 fnOk55 rq55 cv79x3 cx79x3 ld85 L56x0 L56x1 fnOk56 rq56 fa85x0 L58x0 fnOk58 rq58 L59x0 L59x1 L59x2 L59x3 L59x4 L59x5 L59x6 L59x7 fnOk59 rq59 L60x0 L60x1 fnOk60 rq60 L61x0 L61x1 L61x3 L61x4 L61x6 L61x5 L61x2 fnOk61 rq61 L62x0 L62x1 L62x2 L62x3 L62x4 L62x6 L62x5 L62x7 L62x8 L62x10 L62x11 L62x9 fnOk62 rq62 L63x0 L63x1 L63x2 L63x3 L63x4 L63x5 L63x7 L63x8 L63x9 L63x10 L63x6 fnOk63 rq63 cv3x119 cx3x119 al119 st119 stc119 L64x0 L64x1 L64x2 L64x3 L64x4 L64x5 L64x6 L64x7 L64x8 L64x9 L64x10 L64x11 L64x12 L64x14 L64x15 L64x16 L64x17 L64x13 fnOk64 rq64 al3 L65x0 L65x1 L65x2 L65x3 L65x4 L65x5 fnOk65 rq65 L66x0 L66x1 L66x2 L66x3 L66x5 L66x6 L66x7 L66x8 L66x9 L66x10 L66x11 L66x12 L66x13 L66x14 L66x16 L66x17 L66x15 L66x18 L66x19 L66x20 L66x22 L66x23 L66x21 L66x4 L66x24 fnOk66 rq66 L67x0 L67x1 L67x2 L67x3 L67x4 L67x5 L67x6 L67x7 L67x8 L67x9 L67x10 L67x11 fnOk67 rq67 L68x0 L68x1 L68x2 L68x3 L68x4 L68x5 L68x6 L68x7 L68x8 L68x9 L68x10 L68x11 L68x12 L68x13 L68x14 L68x15 L68x16 L68x17 L68x18 L68x19 L68x20 L68x21 L68x22 fnOk68 rq68 L69x0 L69x1 L69x2 L69x3 L69x4 L69x5 L69x6 L69x7 fnOk69 rq69 cv37x5 cx37x5 ix9 L70x0 L70x1 L70x2 L70x3 L70x4 L70x5 L70x6 L70x7 L70x8 L70x9 L70x10 fnOk70 rq70 cv27x5 cx27x5 L71x0 L71x1 fnOk71 rq71 L72x0 L72x1 fnOk72 rq72 L73x0 L73x1 L73x2 fnOk73 rq73 L74x0 L74x1 L74x2 L74x3 L74x4 L74x5 L74x6 L74x7 fnOk74 rq74 L75x0 L75x1 fnOk75 rq75 L76x0 L76x1 L76x2 L76x3 L76x4 fnOk76 rq76 ld119 L77x0 L77x1 fnOk77 rq77 L78x0 L78x1 L78x2 L78x3 L78x4 fnOk78 rq78 L79x0 L79x1 L79x3 L79x2 fnOk79 rq79 st85 L80x0 L80x1 L80x2 L80x3 L80x4 fnOk80 rq80 st3 stc3
end Go.Proofs.Ytgopmklcggoliaa
