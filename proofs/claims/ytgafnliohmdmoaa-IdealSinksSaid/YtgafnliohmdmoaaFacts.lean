import Derived.Test.YtgafnliohmdmoaaL15
namespace Go.Proofs.Ytgafnliohmdmoaa
open Go.RowKit
set_option linter.unusedSimpArgs false
/-! 3: milestone/milestonelaw20.IdealSinks · code of 109 operations -/
def L3 : Nat → List Nat
  | 0 => [0, 1]
  | 1 => [0, 1, 24]
  | 2 => [4]
  | 3 => [1, 5]
  | 4 => [1, 6]
  | 5 => [1, 6, 31]
  | 6 => [4]
  | 7 => [1, 6, 7]
  | 8 => [1, 6, 7, 8]
  | 9 => [1, 6, 7, 8, 9]
  | 10 => [1, 6, 7, 8, 9, 35]
  | 12 => [1, 6, 7, 8, 9, 10]
  | 13 => [1, 6, 7, 8, 9, 10, 48]
  | 15 => [1, 6, 7, 8, 9, 10, 48, 54]
  | 16 => [1, 6, 7, 8, 9, 10, 48, 54]
  | 17 => [1, 6, 7, 8, 9]
  | 18 => [1, 6, 7, 8, 9, 10, 60]
  | 19 => [1, 6, 7, 8, 9]
  | 14 => [1, 6, 7, 8, 9]
  | 20 => [1, 6, 9, 91]
  | 21 => [4]
  | 22 => [1, 6, 7, 9]
  | 23 => [1, 6, 7, 8, 9]
  | 24 => [1, 6, 7, 8, 9, 12]
  | 25 => [1, 6, 7, 8, 9, 103]
  | 26 => [4]
  | 11 => [1, 6, 7, 8, 9]
  | 27 => [4]
  | _ => []
theorem L3x0 : L3 0 = [0, 1] := (rfl)
theorem L3x1 : L3 1 = [0, 1, 24] := (rfl)
theorem L3x2 : L3 2 = [4] := (rfl)
theorem L3x3 : L3 3 = [1, 5] := (rfl)
theorem L3x4 : L3 4 = [1, 6] := (rfl)
theorem L3x5 : L3 5 = [1, 6, 31] := (rfl)
theorem L3x6 : L3 6 = [4] := (rfl)
theorem L3x7 : L3 7 = [1, 6, 7] := (rfl)
theorem L3x8 : L3 8 = [1, 6, 7, 8] := (rfl)
theorem L3x9 : L3 9 = [1, 6, 7, 8, 9] := (rfl)
theorem L3x10 : L3 10 = [1, 6, 7, 8, 9, 35] := (rfl)
theorem L3x12 : L3 12 = [1, 6, 7, 8, 9, 10] := (rfl)
theorem L3x13 : L3 13 = [1, 6, 7, 8, 9, 10, 48] := (rfl)
theorem L3x15 : L3 15 = [1, 6, 7, 8, 9, 10, 48, 54] := (rfl)
theorem L3x16 : L3 16 = [1, 6, 7, 8, 9, 10, 48, 54] := (rfl)
theorem L3x17 : L3 17 = [1, 6, 7, 8, 9] := (rfl)
theorem L3x18 : L3 18 = [1, 6, 7, 8, 9, 10, 60] := (rfl)
theorem L3x19 : L3 19 = [1, 6, 7, 8, 9] := (rfl)
theorem L3x14 : L3 14 = [1, 6, 7, 8, 9] := (rfl)
theorem L3x20 : L3 20 = [1, 6, 9, 91] := (rfl)
theorem L3x21 : L3 21 = [4] := (rfl)
theorem L3x22 : L3 22 = [1, 6, 7, 9] := (rfl)
theorem L3x23 : L3 23 = [1, 6, 7, 8, 9] := (rfl)
theorem L3x24 : L3 24 = [1, 6, 7, 8, 9, 12] := (rfl)
theorem L3x25 : L3 25 = [1, 6, 7, 8, 9, 103] := (rfl)
theorem L3x26 : L3 26 = [4] := (rfl)
theorem L3x11 : L3 11 = [1, 6, 7, 8, 9] := (rfl)
theorem L3x27 : L3 27 = [4] := (rfl)
theorem fnOk3 : fnOk Try.prog 3 = true := by kernel_rfl
theorem rq3 {R : Value → AH → Nat → Prop} {env : Env} {H : AH} {nx : Nat} : retQ Try.prog Try.f3 R .ret env H nx = onV (eg env 4) R H nx := retQ_one rfl (of_decide_eq_true (by kernel_rfl))

theorem len22 (H : AH) (ty : TypeId) (a : Option Addr) (n c : Nat) : lenV Try.prog H #[22] ty #[.slice a n c] = some (.int .i64 n) := lenV_slice 22 49 ty 5 a n c (by kernel_rfl)
theorem len23 (H : AH) (ty : TypeId) (a : Option Addr) (n c : Nat) : lenV Try.prog H #[23] ty #[.slice a n c] = some (.int .i64 n) := lenV_slice 23 5 ty 1 a n c (by kernel_rfl)
theorem eqp27 (H : AH) (x y : Operand) (a : Option Addr) : binV Try.prog H .eql 27 x y (.pointer a) (.pointer none) = some (.bool a.isNone) := eq_ptr (by kernel_rfl)
theorem nep27 (H : AH) (x y : Operand) (a : Option Addr) : binV Try.prog H .neq 27 x y (.pointer a) (.pointer none) = some (.bool a.isSome) := ne_ptr (by kernel_rfl)
theorem ia23 (H : AH) (n b o c : Nat) (kk : IntKind) (i : Int) (h0 : 0 ≤ i) (h1 : i < n) : indexAV Try.prog H 23 (.slice (some ⟨b, o, none⟩) n c) (.int kk i) = some (.pointer (some ⟨b, o + i.toNat * 1, none⟩)) := indexAV_slice 23 5 n 1 b o c kk i (by kernel_rfl) h0 h1
theorem ld5 (H : AH) (b o : Nat) : loadV Try.prog H 5 (.pointer (some ⟨b, o, none⟩)) = H.c b o := load_one (by kernel_rfl)
theorem cv5x3 (lo : Nat) (k' : IntKind) (n : Int) (K : Value → AH → Nat → Prop) (H : AH) (nx : Nat) : convQ Try.prog lo 5 3 (.int k' n) K H nx = K (.int .i64 (IntKind.wrap .i64 n)) H nx := convQ_int (by kernel_rfl) (by kernel_rfl)
theorem cx5x3 (k' : IntKind) (n : Int) (H : AH) : convV Try.prog H 5 3 (.int k' n) = some (.int .i64 (IntKind.wrap .i64 n)) := convV_int (by kernel_rfl) (by kernel_rfl)
theorem len25 (H : AH) (ty : TypeId) (a : Option Addr) (n c : Nat) : lenV Try.prog H #[25] ty #[.slice a n c] = some (.int .i64 n) := lenV_slice 25 47 ty 8 a n c (by kernel_rfl)
/-! 4: milestone/milestonelaw20.awake · code of 26 operations -/
def L4 : Nat → List Nat
  | 0 => []
  | 1 => [1]
  | 2 => [1, 8]
  | 3 => [0]
  | 4 => [1]
  | 5 => [0]
  | _ => []
theorem L4x0 : L4 0 = [] := (rfl)
theorem L4x1 : L4 1 = [1] := (rfl)
theorem L4x2 : L4 2 = [1, 8] := (rfl)
theorem L4x3 : L4 3 = [0] := (rfl)
theorem L4x4 : L4 4 = [1] := (rfl)
theorem L4x5 : L4 5 = [0] := (rfl)
theorem fnOk4 : fnOk Try.prog 4 = true := by kernel_rfl
theorem rq4 {R : Value → AH → Nat → Prop} {env : Env} {H : AH} {nx : Nat} : retQ Try.prog Try.f4 R .ret env H nx = onV (eg env 0) R H nx := retQ_one rfl (of_decide_eq_true (by kernel_rfl))

theorem zero42 : zeroT Try.prog 42 = some (.agg #[(.int .u32 0), (.int .u8 0)]) := by kernel_rfl
theorem bd42x0x1 (H : AH) (k0x0 : IntKind) (n0x0 : Int) (k1x0 : IntKind) (n1x0 : Int) : buildV Try.prog H 42 #[(0, .int k0x0 n0x0), (1, .int k1x0 n1x0)] = some (.agg #[.int k0x0 n0x0, .int k1x0 n1x0]) := build_by (pl := fun i => (#[(0, 1), (1, 1)] : Array (Nat × Nat))[i]?) (by kernel_rfl) zero42 (by simp [Instr.fill, cells_agg, cells_int, cells_bool, cells_slice, cells_ptr, cells_str, cells_map])
theorem zero45 : zeroT Try.prog 45 = some (.agg #[(.int .u32 0), (.int .u8 0), (.int .i64 0), (.int .u16 0), (.int .u16 0)]) := by kernel_rfl
theorem bd45x0 (H : AH) (v0x0 : Value) (v0x1 : Value) : buildV Try.prog H 45 #[(0, .agg #[v0x0, v0x1])] = some (.agg #[v0x0, v0x1, (.int .i64 0), (.int .u16 0), (.int .u16 0)]) := build_by (pl := fun i => (#[(0, 2), (2, 1), (3, 1), (4, 1)] : Array (Nat × Nat))[i]?) (by kernel_rfl) zero45 (by simp [Instr.fill, cells_agg, cells_int, cells_bool, cells_slice, cells_ptr, cells_str, cells_map])
theorem zero47 : zeroT Try.prog 47 = some (.agg #[(.int .u64 0), (.int .u64 0), (.bool false), (.int .u32 0), (.int .u8 0), (.int .i64 0), (.int .u16 0), (.int .u16 0)]) := by kernel_rfl
theorem bd47x0x3 (H : AH) (k0x0 : IntKind) (n0x0 : Int) (v3x0 : Value) (v3x1 : Value) (v3x2 : Value) (v3x3 : Value) (v3x4 : Value) : buildV Try.prog H 47 #[(0, .int k0x0 n0x0), (3, .agg #[v3x0, v3x1, v3x2, v3x3, v3x4])] = some (.agg #[.int k0x0 n0x0, (.int .u64 0), (.bool false), v3x0, v3x1, v3x2, v3x3, v3x4]) := build_by (pl := fun i => (#[(0, 1), (1, 1), (2, 1), (3, 5)] : Array (Nat × Nat))[i]?) (by kernel_rfl) zero47 (by simp [Instr.fill, cells_agg, cells_int, cells_bool, cells_slice, cells_ptr, cells_str, cells_map])
theorem sl25 : slT Try.prog 25 = some (47, 8) := by kernel_rfl
/-! 5: milestone/milestoneref07.History · code of 91 operations -/
def L5 : Nat → List Nat
  | 0 => [0]
  | 1 => [0, 3]
  | 2 => [0, 3, 4]
  | 3 => [0, 3, 4, 5]
  | 4 => [0, 3, 4, 5, 18]
  | 6 => [0, 3, 4, 5, 6]
  | 7 => [0, 3, 4, 5, 6]
  | 8 => [0, 3, 4, 5, 6, 7]
  | 9 => [0, 3, 4, 5, 6, 7, 8]
  | 10 => [0, 3, 4, 5, 6, 7, 8, 9, 10]
  | 11 => [0, 3, 4, 5, 6, 7, 8, 56]
  | 12 => [0, 3, 4, 5, 7, 8]
  | 13 => [0, 3, 4, 5, 7]
  | 14 => [0, 3, 4, 5, 7]
  | 15 => [0, 3, 4, 5]
  | 5 => [0, 3, 4, 5]
  | 16 => [2]
  | _ => []
theorem L5x0 : L5 0 = [0] := (rfl)
theorem L5x1 : L5 1 = [0, 3] := (rfl)
theorem L5x2 : L5 2 = [0, 3, 4] := (rfl)
theorem L5x3 : L5 3 = [0, 3, 4, 5] := (rfl)
theorem L5x4 : L5 4 = [0, 3, 4, 5, 18] := (rfl)
theorem L5x6 : L5 6 = [0, 3, 4, 5, 6] := (rfl)
theorem L5x7 : L5 7 = [0, 3, 4, 5, 6] := (rfl)
theorem L5x8 : L5 8 = [0, 3, 4, 5, 6, 7] := (rfl)
theorem L5x9 : L5 9 = [0, 3, 4, 5, 6, 7, 8] := (rfl)
theorem L5x10 : L5 10 = [0, 3, 4, 5, 6, 7, 8, 9, 10] := (rfl)
theorem L5x11 : L5 11 = [0, 3, 4, 5, 6, 7, 8, 56] := (rfl)
theorem L5x12 : L5 12 = [0, 3, 4, 5, 7, 8] := (rfl)
theorem L5x13 : L5 13 = [0, 3, 4, 5, 7] := (rfl)
theorem L5x14 : L5 14 = [0, 3, 4, 5, 7] := (rfl)
theorem L5x15 : L5 15 = [0, 3, 4, 5] := (rfl)
theorem L5x5 : L5 5 = [0, 3, 4, 5] := (rfl)
theorem L5x16 : L5 16 = [2] := (rfl)
theorem fnOk5 : fnOk Try.prog 5 = true := by kernel_rfl
theorem rq5 {R : Value → AH → Nat → Prop} {env : Env} {H : AH} {nx : Nat} : retQ Try.prog Try.f5 R .ret env H nx = onV (eg env 2) R H nx := retQ_one rfl (of_decide_eq_true (by kernel_rfl))

theorem ia22 (H : AH) (n b o c : Nat) (kk : IntKind) (i : Int) (h0 : 0 ≤ i) (h1 : i < n) : indexAV Try.prog H 22 (.slice (some ⟨b, o, none⟩) n c) (.int kk i) = some (.pointer (some ⟨b, o + i.toNat * 5, none⟩)) := indexAV_slice 22 49 n 5 b o c kk i (by kernel_rfl) h0 h1
theorem ld49 (H : AH) (b o : Nat) : loadV Try.prog H 49 (.pointer (some ⟨b, o, none⟩)) = (loadN H b o 5).map fun l => .agg l.toArray := load_agg (by kernel_rfl) (by kernel_rfl)
theorem zero49 : zeroT Try.prog 49 = some (.agg #[(.int .u8 0), (.int .u8 0), (.int .u8 0), (.int .u8 0), (.int .u8 0)]) := by kernel_rfl
theorem al49 (lo : Nat) (K : Value → AH → Nat → Prop) (H : AH) (nx : Nat) : allocQ Try.prog lo 49 K H nx = newQ 49 ((.agg #[(.int .u8 0), (.int .u8 0), (.int .u8 0), (.int .u8 0), (.int .u8 0)]) : Value).cells K H nx := alloc_new zero49
theorem st49 (lo : Nat) (b o : Nat) (v0 v1 v2 v3 v4 : Value) (K : AH → Nat → Prop) (H : AH) (nx : Nat) : storeQ Try.prog lo 49 (.pointer (some ⟨b, o, none⟩)) (.agg #[v0, v1, v2, v3, v4]) K H nx = stsQ lo b o [v0, v1, v2, v3, v4] K H nx := store_agg (n := 5) (by kernel_rfl) (by decide) rfl
theorem fa49x4 (H : AH) (b o : Nat) : fieldAV Try.prog H 49 4 (.pointer (some ⟨b, o, none⟩)) = some (.pointer (some ⟨b, o + 4, none⟩)) := fieldAV_eq 49 4 b o false 0 4 (by kernel_rfl)
theorem cv5x29 (lo : Nat) (k' : IntKind) (n : Int) (K : Value → AH → Nat → Prop) (H : AH) (nx : Nat) : convQ Try.prog lo 5 29 (.int k' n) K H nx = K (.int .u64 (IntKind.wrap .u64 n)) H nx := convQ_int (by kernel_rfl) (by kernel_rfl)
theorem cx5x29 (k' : IntKind) (n : Int) (H : AH) : convV Try.prog H 5 29 (.int k' n) = some (.int .u64 (IntKind.wrap .u64 n)) := convV_int (by kernel_rfl) (by kernel_rfl)
theorem cv3x29 (lo : Nat) (k' : IntKind) (n : Int) (K : Value → AH → Nat → Prop) (H : AH) (nx : Nat) : convQ Try.prog lo 3 29 (.int k' n) K H nx = K (.int .u64 (IntKind.wrap .u64 n)) H nx := convQ_int (by kernel_rfl) (by kernel_rfl)
theorem cx3x29 (k' : IntKind) (n : Int) (H : AH) : convV Try.prog H 3 29 (.int k' n) = some (.int .u64 (IntKind.wrap .u64 n)) := convV_int (by kernel_rfl) (by kernel_rfl)
theorem bd47x0x1 (H : AH) (k0x0 : IntKind) (n0x0 : Int) (k1x0 : IntKind) (n1x0 : Int) : buildV Try.prog H 47 #[(0, .int k0x0 n0x0), (1, .int k1x0 n1x0)] = some (.agg #[.int k0x0 n0x0, .int k1x0 n1x0, (.bool false), (.int .u32 0), (.int .u8 0), (.int .i64 0), (.int .u16 0), (.int .u16 0)]) := build_by (pl := fun i => (#[(0, 1), (1, 1), (2, 1), (3, 5)] : Array (Nat × Nat))[i]?) (by kernel_rfl) zero47 (by simp [Instr.fill, cells_agg, cells_int, cells_bool, cells_slice, cells_ptr, cells_str, cells_map])
theorem al47 (lo : Nat) (K : Value → AH → Nat → Prop) (H : AH) (nx : Nat) : allocQ Try.prog lo 47 K H nx = newQ 47 ((.agg #[(.int .u64 0), (.int .u64 0), (.bool false), (.int .u32 0), (.int .u8 0), (.int .i64 0), (.int .u16 0), (.int .u16 0)]) : Value).cells K H nx := alloc_new zero47
theorem st47 (lo : Nat) (b o : Nat) (v0 v1 v2 v3 v4 v5 v6 v7 : Value) (K : AH → Nat → Prop) (H : AH) (nx : Nat) : storeQ Try.prog lo 47 (.pointer (some ⟨b, o, none⟩)) (.agg #[v0, v1, v2, v3, v4, v5, v6, v7]) K H nx = stsQ lo b o [v0, v1, v2, v3, v4, v5, v6, v7] K H nx := store_agg (n := 8) (by kernel_rfl) (by decide) rfl
theorem fa49x0 (H : AH) (b o : Nat) : fieldAV Try.prog H 49 0 (.pointer (some ⟨b, o, none⟩)) = some (.pointer (some ⟨b, o + 0, none⟩)) := fieldAV_eq 49 0 b o false 0 0 (by kernel_rfl)
theorem al42 (lo : Nat) (K : Value → AH → Nat → Prop) (H : AH) (nx : Nat) : allocQ Try.prog lo 42 K H nx = newQ 42 ((.agg #[(.int .u32 0), (.int .u8 0)]) : Value).cells K H nx := alloc_new zero42
theorem st42 (lo : Nat) (b o : Nat) (v0 v1 : Value) (K : AH → Nat → Prop) (H : AH) (nx : Nat) : storeQ Try.prog lo 42 (.pointer (some ⟨b, o, none⟩)) (.agg #[v0, v1]) K H nx = stsQ lo b o [v0, v1] K H nx := store_agg (n := 2) (by kernel_rfl) (by decide) rfl
theorem ld42 (H : AH) (b o : Nat) : loadV Try.prog H 42 (.pointer (some ⟨b, o, none⟩)) = (loadN H b o 2).map fun l => .agg l.toArray := load_agg (by kernel_rfl) (by kernel_rfl)
theorem zero54 : zeroT Try.prog 54 = some (.agg #[(.int .u32 0), (.int .u8 0), (.bool false), (.int .u32 0), (.int .u8 0), (.int .i64 0), (.int .u16 0), (.int .u16 0), (.int .u16 0), (.int .u16 0)]) := by kernel_rfl
theorem al54 (lo : Nat) (K : Value → AH → Nat → Prop) (H : AH) (nx : Nat) : allocQ Try.prog lo 54 K H nx = newQ 54 ((.agg #[(.int .u32 0), (.int .u8 0), (.bool false), (.int .u32 0), (.int .u8 0), (.int .i64 0), (.int .u16 0), (.int .u16 0), (.int .u16 0), (.int .u16 0)]) : Value).cells K H nx := alloc_new zero54
theorem st54 (lo : Nat) (b o : Nat) (v0 v1 v2 v3 v4 v5 v6 v7 v8 v9 : Value) (K : AH → Nat → Prop) (H : AH) (nx : Nat) : storeQ Try.prog lo 54 (.pointer (some ⟨b, o, none⟩)) (.agg #[v0, v1, v2, v3, v4, v5, v6, v7, v8, v9]) K H nx = stsQ lo b o [v0, v1, v2, v3, v4, v5, v6, v7, v8, v9] K H nx := store_agg (n := 10) (by kernel_rfl) (by decide) rfl
theorem fa54x1 (H : AH) (b o : Nat) : fieldAV Try.prog H 54 1 (.pointer (some ⟨b, o, none⟩)) = some (.pointer (some ⟨b, o + 2, none⟩)) := fieldAV_eq 54 1 b o false 0 2 (by kernel_rfl)
theorem ld4 (H : AH) (b o : Nat) : loadV Try.prog H 4 (.pointer (some ⟨b, o, none⟩)) = H.c b o := load_one (by kernel_rfl)
theorem fa49x1 (H : AH) (b o : Nat) : fieldAV Try.prog H 49 1 (.pointer (some ⟨b, o, none⟩)) = some (.pointer (some ⟨b, o + 1, none⟩)) := fieldAV_eq 49 1 b o false 0 1 (by kernel_rfl)
theorem fa47x2 (H : AH) (b o : Nat) : fieldAV Try.prog H 47 2 (.pointer (some ⟨b, o, none⟩)) = some (.pointer (some ⟨b, o + 2, none⟩)) := fieldAV_eq 47 2 b o false 0 2 (by kernel_rfl)
theorem st4 (lo : Nat) (b o : Nat) (v : Value) (K : AH → Nat → Prop) (H : AH) (nx : Nat) (hv : v.oneCell' = true) : storeQ Try.prog lo 4 (.pointer (some ⟨b, o, none⟩)) v K H nx = stQ lo b o v K H nx := store_one (by kernel_rfl) hv
theorem stc4 (lo : Nat) (b o : Nat) (x : Bool) (K : AH → Nat → Prop) (H : AH) (nx : Nat) : storeQ Try.prog lo 4 (.pointer (some ⟨b, o, none⟩)) (.bool x) K H nx = stQ lo b o (.bool x) K H nx := store_one (by kernel_rfl) rfl
theorem fa47x3 (H : AH) (b o : Nat) : fieldAV Try.prog H 47 3 (.pointer (some ⟨b, o, none⟩)) = some (.pointer (some ⟨b, o + 3, none⟩)) := fieldAV_eq 47 3 b o true 4 3 (by kernel_rfl)
theorem st45 (lo : Nat) (b o : Nat) (v0 v1 v2 v3 v4 : Value) (K : AH → Nat → Prop) (H : AH) (nx : Nat) : storeQ Try.prog lo 45 (.pointer (some ⟨b, o, none⟩)) (.agg #[v0, v1, v2, v3, v4]) K H nx = stsQ lo b o [v0, v1, v2, v3, v4] K H nx := store_agg (n := 5) (by kernel_rfl) (by decide) rfl
theorem fa49x2 (H : AH) (b o : Nat) : fieldAV Try.prog H 49 2 (.pointer (some ⟨b, o, none⟩)) = some (.pointer (some ⟨b, o + 2, none⟩)) := fieldAV_eq 49 2 b o false 0 2 (by kernel_rfl)
theorem cv5x43 (lo : Nat) (k' : IntKind) (n : Int) (K : Value → AH → Nat → Prop) (H : AH) (nx : Nat) : convQ Try.prog lo 5 43 (.int k' n) K H nx = K (.int .u16 (IntKind.wrap .u16 n)) H nx := convQ_int (by kernel_rfl) (by kernel_rfl)
theorem cx5x43 (k' : IntKind) (n : Int) (H : AH) : convV Try.prog H 5 43 (.int k' n) = some (.int .u16 (IntKind.wrap .u16 n)) := convV_int (by kernel_rfl) (by kernel_rfl)
theorem fa49x3 (H : AH) (b o : Nat) : fieldAV Try.prog H 49 3 (.pointer (some ⟨b, o, none⟩)) = some (.pointer (some ⟨b, o + 3, none⟩)) := fieldAV_eq 49 3 b o false 0 3 (by kernel_rfl)
theorem bd45x0x1x2x3 (H : AH) (v0x0 : Value) (v0x1 : Value) (k1x0 : IntKind) (n1x0 : Int) (k2x0 : IntKind) (n2x0 : Int) (k3x0 : IntKind) (n3x0 : Int) : buildV Try.prog H 45 #[(0, .agg #[v0x0, v0x1]), (1, .int k1x0 n1x0), (2, .int k2x0 n2x0), (3, .int k3x0 n3x0)] = some (.agg #[v0x0, v0x1, .int k1x0 n1x0, .int k2x0 n2x0, .int k3x0 n3x0]) := build_by (pl := fun i => (#[(0, 2), (2, 1), (3, 1), (4, 1)] : Array (Nat × Nat))[i]?) (by kernel_rfl) zero45 (by simp [Instr.fill, cells_agg, cells_int, cells_bool, cells_slice, cells_ptr, cells_str, cells_map])
theorem ld47 (H : AH) (b o : Nat) : loadV Try.prog H 47 (.pointer (some ⟨b, o, none⟩)) = (loadN H b o 8).map fun l => .agg l.toArray := load_agg (by kernel_rfl) (by kernel_rfl)
theorem by47 : bytesT Try.prog 47 = some 48 := by kernel_rfl
/-! 6: milestone/milestonelaw20.of · code of 21 operations -/
def L6 : Nat → List Nat
  | 0 => [0]
  | 1 => [0, 3]
  | 2 => [0, 3, 4]
  | 3 => [0, 3, 4, 9]
  | 5 => [0, 3, 4, 18]
  | 6 => [2]
  | 4 => [0, 3, 4]
  | 7 => [2]
  | _ => []
theorem L6x0 : L6 0 = [0] := (rfl)
theorem L6x1 : L6 1 = [0, 3] := (rfl)
theorem L6x2 : L6 2 = [0, 3, 4] := (rfl)
theorem L6x3 : L6 3 = [0, 3, 4, 9] := (rfl)
theorem L6x5 : L6 5 = [0, 3, 4, 18] := (rfl)
theorem L6x6 : L6 6 = [2] := (rfl)
theorem L6x4 : L6 4 = [0, 3, 4] := (rfl)
theorem L6x7 : L6 7 = [2] := (rfl)
theorem fnOk6 : fnOk Try.prog 6 = true := by kernel_rfl
theorem rq6 {R : Value → AH → Nat → Prop} {env : Env} {H : AH} {nx : Nat} : retQ Try.prog Try.f6 R .ret env H nx = onV (eg env 2) R H nx := retQ_one rfl (of_decide_eq_true (by kernel_rfl))

theorem ia25 (H : AH) (n b o c : Nat) (kk : IntKind) (i : Int) (h0 : 0 ≤ i) (h1 : i < n) : indexAV Try.prog H 25 (.slice (some ⟨b, o, none⟩) n c) (.int kk i) = some (.pointer (some ⟨b, o + i.toNat * 8, none⟩)) := indexAV_slice 25 47 n 8 b o c kk i (by kernel_rfl) h0 h1
/-! 7: (*milestone/ideal.Ideal).Fold · code of 30 operations -/
def L7 : Nat → List Nat
  | 0 => [0, 1]
  | 1 => [0, 1, 5]
  | 2 => [4]
  | 3 => [0, 1, 8]
  | 4 => [4]
  | 5 => [0]
  | 6 => []
  | 7 => [4]
  | _ => []
theorem L7x0 : L7 0 = [0, 1] := (rfl)
theorem L7x1 : L7 1 = [0, 1, 5] := (rfl)
theorem L7x2 : L7 2 = [4] := (rfl)
theorem L7x3 : L7 3 = [0, 1, 8] := (rfl)
theorem L7x4 : L7 4 = [4] := (rfl)
theorem L7x5 : L7 5 = [0] := (rfl)
theorem L7x6 : L7 6 = [] := (rfl)
theorem L7x7 : L7 7 = [4] := (rfl)
theorem fnOk7 : fnOk Try.prog 7 = true := by kernel_rfl
theorem rq7 {R : Value → AH → Nat → Prop} {env : Env} {H : AH} {nx : Nat} : retQ Try.prog Try.f7 R .ret env H nx = onV (eg env 4) R H nx := retQ_one rfl (of_decide_eq_true (by kernel_rfl))

theorem fa60x2 (H : AH) (b o : Nat) : fieldAV Try.prog H 60 2 (.pointer (some ⟨b, o, none⟩)) = some (.pointer (some ⟨b, o + 2, none⟩)) := fieldAV_eq 60 2 b o false 0 2 (by kernel_rfl)
theorem ld3 (H : AH) (b o : Nat) : loadV Try.prog H 3 (.pointer (some ⟨b, o, none⟩)) = H.c b o := load_one (by kernel_rfl)
theorem fa60x0 (H : AH) (b o : Nat) : fieldAV Try.prog H 60 0 (.pointer (some ⟨b, o, none⟩)) = some (.pointer (some ⟨b, o + 0, none⟩)) := fieldAV_eq 60 0 b o false 0 0 (by kernel_rfl)
theorem ld25 (H : AH) (b o : Nat) : loadV Try.prog H 25 (.pointer (some ⟨b, o, none⟩)) = H.c b o := load_one (by kernel_rfl)
theorem st3 (lo : Nat) (b o : Nat) (v : Value) (K : AH → Nat → Prop) (H : AH) (nx : Nat) (hv : v.oneCell' = true) : storeQ Try.prog lo 3 (.pointer (some ⟨b, o, none⟩)) v K H nx = stQ lo b o v K H nx := store_one (by kernel_rfl) hv
theorem stc3 (lo : Nat) (b o : Nat) (k : IntKind) (n : Int) (K : AH → Nat → Prop) (H : AH) (nx : Nat) : storeQ Try.prog lo 3 (.pointer (some ⟨b, o, none⟩)) (.int k n) K H nx = stQ lo b o (.int k n) K H nx := store_one (by kernel_rfl) rfl
/-! 8: (*milestone/ideal.Ideal).Sync · code of 11 operations -/
def L8 : Nat → List Nat
  | 0 => [0, 3]
  | 1 => []
  | _ => []
theorem L8x0 : L8 0 = [0, 3] := (rfl)
theorem L8x1 : L8 1 = [] := (rfl)
theorem fnOk8 : fnOk Try.prog 8 = true := by kernel_rfl
theorem rq8 {R : Value → AH → Nat → Prop} {env : Env} {H : AH} {nx : Nat} : retQ Try.prog Try.f8 R .ret env H nx = R (.tuple #[]) H nx := retQ_none rfl

theorem fa60x1 (H : AH) (b o : Nat) : fieldAV Try.prog H 60 1 (.pointer (some ⟨b, o, none⟩)) = some (.pointer (some ⟨b, o + 1, none⟩)) := fieldAV_eq 60 1 b o false 0 1 (by kernel_rfl)
/-! 9: (*milestone/ideal.Ideal).Fell · code of 57 operations -/
def L9 : Nat → List Nat
  | 0 => [0, 1, 2]
  | 1 => [0, 1, 2, 7]
  | 2 => [6]
  | 3 => [0, 1, 2, 10]
  | 4 => [6]
  | 5 => []
  | 6 => [6]
  | _ => []
theorem L9x0 : L9 0 = [0, 1, 2] := (rfl)
theorem L9x1 : L9 1 = [0, 1, 2, 7] := (rfl)
theorem L9x2 : L9 2 = [6] := (rfl)
theorem L9x3 : L9 3 = [0, 1, 2, 10] := (rfl)
theorem L9x4 : L9 4 = [6] := (rfl)
theorem L9x5 : L9 5 = [] := (rfl)
theorem L9x6 : L9 6 = [6] := (rfl)
theorem fnOk9 : fnOk Try.prog 9 = true := by kernel_rfl
theorem rq9 {R : Value → AH → Nat → Prop} {env : Env} {H : AH} {nx : Nat} : retQ Try.prog Try.f9 R .ret env H nx = onV (eg env 6) R H nx := retQ_one rfl (of_decide_eq_true (by kernel_rfl))

theorem st25 (lo : Nat) (b o : Nat) (v : Value) (K : AH → Nat → Prop) (H : AH) (nx : Nat) (hv : v.oneCell' = true) : storeQ Try.prog lo 25 (.pointer (some ⟨b, o, none⟩)) v K H nx = stQ lo b o v K H nx := store_one (by kernel_rfl) hv
theorem stc25 (lo : Nat) (b o : Nat) (a : Option Addr) (n c : Nat) (K : AH → Nat → Prop) (H : AH) (nx : Nat) : storeQ Try.prog lo 25 (.pointer (some ⟨b, o, none⟩)) (.slice a n c) K H nx = stQ lo b o (.slice a n c) K H nx := store_one (by kernel_rfl) rfl
/-! 10: (*milestone/ideal.Ideal).Len · code of 10 operations -/
def L10 : Nat → List Nat
  | 0 => [0]
  | 1 => [0, 4]
  | 2 => [2]
  | 3 => [2]
  | _ => []
theorem L10x0 : L10 0 = [0] := (rfl)
theorem L10x1 : L10 1 = [0, 4] := (rfl)
theorem L10x2 : L10 2 = [2] := (rfl)
theorem L10x3 : L10 3 = [2] := (rfl)
theorem fnOk10 : fnOk Try.prog 10 = true := by kernel_rfl
theorem rq10 {R : Value → AH → Nat → Prop} {env : Env} {H : AH} {nx : Nat} : retQ Try.prog Try.f10 R .ret env H nx = onV (eg env 2) R H nx := retQ_one rfl (of_decide_eq_true (by kernel_rfl))

/-! 11: (*milestone/ideal.Ideal).Horizon · code of 12 operations -/
def L11 : Nat → List Nat
  | 0 => [0]
  | 1 => [0, 4]
  | 2 => [2]
  | 3 => [2]
  | _ => []
theorem L11x0 : L11 0 = [0] := (rfl)
theorem L11x1 : L11 1 = [0, 4] := (rfl)
theorem L11x2 : L11 2 = [2] := (rfl)
theorem L11x3 : L11 3 = [2] := (rfl)
theorem fnOk11 : fnOk Try.prog 11 = true := by kernel_rfl
theorem rq11 {R : Value → AH → Nat → Prop} {env : Env} {H : AH} {nx : Nat} : retQ Try.prog Try.f11 R .ret env H nx = onV (eg env 2) R H nx := retQ_one rfl (of_decide_eq_true (by kernel_rfl))

theorem fi47x1 (H : AH) (cs : Array Value) : fieldV Try.prog H 47 1 (.agg cs) = cs[1]? := field_one (by kernel_rfl)
/-! 12: (*milestone/ideal.Ideal).Cut · code of 9 operations -/
def L12 : Nat → List Nat
  | 0 => [0]
  | 1 => [0, 4]
  | 2 => [2]
  | 3 => [2]
  | _ => []
theorem L12x0 : L12 0 = [0] := (rfl)
theorem L12x1 : L12 1 = [0, 4] := (rfl)
theorem L12x2 : L12 2 = [2] := (rfl)
theorem L12x3 : L12 3 = [2] := (rfl)
theorem fnOk12 : fnOk Try.prog 12 = true := by kernel_rfl
theorem rq12 {R : Value → AH → Nat → Prop} {env : Env} {H : AH} {nx : Nat} : retQ Try.prog Try.f12 R .ret env H nx = onV (eg env 2) R H nx := retQ_one rfl (of_decide_eq_true (by kernel_rfl))

/-! 13: (*milestone/ideal.Ideal).Changes · code of 15 operations -/
def L13 : Nat → List Nat
  | 0 => [0]
  | 1 => [0, 4]
  | 2 => [2]
  | 3 => [2]
  | _ => []
theorem L13x0 : L13 0 = [0] := (rfl)
theorem L13x1 : L13 1 = [0, 4] := (rfl)
theorem L13x2 : L13 2 = [2] := (rfl)
theorem L13x3 : L13 3 = [2] := (rfl)
def ord13x3 : List Nat := [0, 1, 2, 3, 4, 5, 6, 7, 8, 9, 10]
theorem fnOk13 : fnOk Try.prog 13 = true := by kernel_rfl
theorem rq13 {R : Value → AH → Nat → Prop} {env : Env} {H : AH} {nx : Nat} : retQ Try.prog Try.f13 R .ret env H nx = onV (eg env 2) R H nx := retQ_one rfl (of_decide_eq_true (by kernel_rfl))

/-! 14: (*milestone/ideal.Ideal).Safe · code of 9 operations -/
def L14 : Nat → List Nat
  | 0 => [0]
  | 1 => [0, 4]
  | 2 => [2]
  | 3 => [2]
  | _ => []
theorem L14x0 : L14 0 = [0] := (rfl)
theorem L14x1 : L14 1 = [0, 4] := (rfl)
theorem L14x2 : L14 2 = [2] := (rfl)
theorem L14x3 : L14 3 = [2] := (rfl)
theorem fnOk14 : fnOk Try.prog 14 = true := by kernel_rfl
theorem rq14 {R : Value → AH → Nat → Prop} {env : Env} {H : AH} {nx : Nat} : retQ Try.prog Try.f14 R .ret env H nx = onV (eg env 2) R H nx := retQ_one rfl (of_decide_eq_true (by kernel_rfl))

/-! 15: (*milestone/ideal.Ideal).At · code of 61 operations -/
def L15 : Nat → List Nat
  | 0 => [0, 1]
  | 1 => [0, 1, 10]
  | 2 => [4, 5]
  | 3 => [0, 1, 13]
  | 4 => [4, 5]
  | 5 => [0, 1, 6]
  | 6 => [0, 1, 6, 36]
  | 7 => [0, 1, 6]
  | 8 => [0, 6, 7]
  | 9 => [7, 41, 42, 43]
  | 10 => [7, 41, 42, 43, 44]
  | 11 => [7, 9, 41, 42, 43]
  | 12 => [7, 9, 41, 42, 43, 48]
  | 13 => [7, 41, 42, 43]
  | 14 => [7, 41, 42, 43]
  | 15 => [4, 5]
  | _ => []
theorem L15x0 : L15 0 = [0, 1] := (rfl)
theorem L15x1 : L15 1 = [0, 1, 10] := (rfl)
theorem L15x2 : L15 2 = [4, 5] := (rfl)
theorem L15x3 : L15 3 = [0, 1, 13] := (rfl)
theorem L15x4 : L15 4 = [4, 5] := (rfl)
theorem L15x5 : L15 5 = [0, 1, 6] := (rfl)
theorem L15x6 : L15 6 = [0, 1, 6, 36] := (rfl)
theorem L15x7 : L15 7 = [0, 1, 6] := (rfl)
theorem L15x8 : L15 8 = [0, 6, 7] := (rfl)
theorem L15x9 : L15 9 = [7, 41, 42, 43] := (rfl)
theorem L15x10 : L15 10 = [7, 41, 42, 43, 44] := (rfl)
theorem L15x11 : L15 11 = [7, 9, 41, 42, 43] := (rfl)
theorem L15x12 : L15 12 = [7, 9, 41, 42, 43, 48] := (rfl)
theorem L15x13 : L15 13 = [7, 41, 42, 43] := (rfl)
theorem L15x14 : L15 14 = [7, 41, 42, 43] := (rfl)
theorem L15x15 : L15 15 = [4, 5] := (rfl)
theorem fnOk15 : fnOk Try.prog 15 = true := by kernel_rfl
theorem rq15 {R : Value → AH → Nat → Prop} {env : Env} {H : AH} {nx : Nat} : retQ Try.prog Try.f15 R .ret env H nx = onA (eg env 4) (fun v => onA (eg env 5) fun u => R (.tuple #[v, u]) H nx) := retQ_two rfl (of_decide_eq_true (by kernel_rfl)) (of_decide_eq_true (by kernel_rfl))

theorem fa47x1 (H : AH) (b o : Nat) : fieldAV Try.prog H 47 1 (.pointer (some ⟨b, o, none⟩)) = some (.pointer (some ⟨b, o + 1, none⟩)) := fieldAV_eq 47 1 b o false 0 1 (by kernel_rfl)
theorem ld29 (H : AH) (b o : Nat) : loadV Try.prog H 29 (.pointer (some ⟨b, o, none⟩)) = H.c b o := load_one (by kernel_rfl)
theorem len63 (H : AH) (ty : TypeId) (a : Option Addr) (n c : Nat) : lenV Try.prog H #[63] ty #[.slice a n c] = some (.int .i64 n) := lenV_slice 63 54 ty 10 a n c (by kernel_rfl)
theorem ia63 (H : AH) (n b o c : Nat) (kk : IntKind) (i : Int) (h0 : 0 ≤ i) (h1 : i < n) : indexAV Try.prog H 63 (.slice (some ⟨b, o, none⟩) n c) (.int kk i) = some (.pointer (some ⟨b, o + i.toNat * 10, none⟩)) := indexAV_slice 63 54 n 10 b o c kk i (by kernel_rfl) h0 h1
theorem ld54 (H : AH) (b o : Nat) : loadV Try.prog H 54 (.pointer (some ⟨b, o, none⟩)) = (loadN H b o 10).map fun l => .agg l.toArray := load_agg (by kernel_rfl) (by kernel_rfl)
theorem fa54x2 (H : AH) (b o : Nat) : fieldAV Try.prog H 54 2 (.pointer (some ⟨b, o, none⟩)) = some (.pointer (some ⟨b, o + 3, none⟩)) := fieldAV_eq 54 2 b o true 4 3 (by kernel_rfl)
theorem ld45 (H : AH) (b o : Nat) : loadV Try.prog H 45 (.pointer (some ⟨b, o, none⟩)) = (loadN H b o 5).map fun l => .agg l.toArray := load_agg (by kernel_rfl) (by kernel_rfl)
theorem sl36 : slT Try.prog 36 = some (45, 5) := by kernel_rfl
theorem by45 : bytesT Try.prog 45 = some 24 := by kernel_rfl
/-! 16: milestone/milestoneref07.Prefix · code of 19 operations -/
def L16 : Nat → List Nat
  | 0 => [0, 2]
  | 1 => [2]
  | _ => []
theorem L16x0 : L16 0 = [0, 2] := (rfl)
theorem L16x1 : L16 1 = [2] := (rfl)
theorem fnOk16 : fnOk Try.prog 16 = true := by kernel_rfl
theorem rq16 {R : Value → AH → Nat → Prop} {env : Env} {H : AH} {nx : Nat} : retQ Try.prog Try.f16 R .ret env H nx = onA (eg env 2) (fun a => onV (loadV Try.prog H 42 a) R H nx) := retQ_cell rfl (of_decide_eq_true (by kernel_rfl))

theorem cv5x40 (lo : Nat) (k' : IntKind) (n : Int) (K : Value → AH → Nat → Prop) (H : AH) (nx : Nat) : convQ Try.prog lo 5 40 (.int k' n) K H nx = K (.int .u32 (IntKind.wrap .u32 n)) H nx := convQ_int (by kernel_rfl) (by kernel_rfl)
theorem cx5x40 (k' : IntKind) (n : Int) (H : AH) : convV Try.prog H 5 40 (.int k' n) = some (.int .u32 (IntKind.wrap .u32 n)) := convV_int (by kernel_rfl) (by kernel_rfl)
/-! 17: milestone/milestoneref07.Row · code of 63 operations -/
def L17 : Nat → List Nat
  | 0 => [0, 3, 4]
  | 1 => [0, 3, 4, 6]
  | 2 => [0, 3, 4, 6, 7]
  | 3 => [0, 3, 4, 6, 7, 8]
  | 4 => [0, 3, 4, 6, 7, 8, 16]
  | 6 => [0, 3, 4, 6, 7, 8, 9]
  | 7 => [0, 3, 4, 6, 7, 8, 9, 27]
  | 8 => [0, 3, 4, 6, 7, 8, 9]
  | 9 => [0, 3, 4, 6, 7, 8, 9]
  | 10 => [0, 3, 4, 6, 7, 8, 9, 36]
  | 11 => [0, 3, 4, 6, 7, 8, 10]
  | 12 => [0, 3, 4, 6, 8, 10, 51]
  | 13 => [0, 3, 4, 6, 8]
  | 14 => [0, 3, 4, 6, 7, 8]
  | 5 => [0, 3, 4, 6, 7, 8]
  | 15 => [4, 5]
  | _ => []
theorem L17x0 : L17 0 = [0, 3, 4] := (rfl)
theorem L17x1 : L17 1 = [0, 3, 4, 6] := (rfl)
theorem L17x2 : L17 2 = [0, 3, 4, 6, 7] := (rfl)
theorem L17x3 : L17 3 = [0, 3, 4, 6, 7, 8] := (rfl)
theorem L17x4 : L17 4 = [0, 3, 4, 6, 7, 8, 16] := (rfl)
theorem L17x6 : L17 6 = [0, 3, 4, 6, 7, 8, 9] := (rfl)
theorem L17x7 : L17 7 = [0, 3, 4, 6, 7, 8, 9, 27] := (rfl)
theorem L17x8 : L17 8 = [0, 3, 4, 6, 7, 8, 9] := (rfl)
theorem L17x9 : L17 9 = [0, 3, 4, 6, 7, 8, 9] := (rfl)
theorem L17x10 : L17 10 = [0, 3, 4, 6, 7, 8, 9, 36] := (rfl)
theorem L17x11 : L17 11 = [0, 3, 4, 6, 7, 8, 10] := (rfl)
theorem L17x12 : L17 12 = [0, 3, 4, 6, 8, 10, 51] := (rfl)
theorem L17x13 : L17 13 = [0, 3, 4, 6, 8] := (rfl)
theorem L17x14 : L17 14 = [0, 3, 4, 6, 7, 8] := (rfl)
theorem L17x5 : L17 5 = [0, 3, 4, 6, 7, 8] := (rfl)
theorem L17x15 : L17 15 = [4, 5] := (rfl)
theorem fnOk17 : fnOk Try.prog 17 = true := by kernel_rfl
theorem rq17 {R : Value → AH → Nat → Prop} {env : Env} {H : AH} {nx : Nat} : retQ Try.prog Try.f17 R .ret env H nx = onA (eg env 4) (fun a => onA (loadV Try.prog H 54 a) fun v => onA (eg env 5) fun u => R (.tuple #[v, u]) H nx) := retQ_cell_tmp rfl (of_decide_eq_true (by kernel_rfl)) (of_decide_eq_true (by kernel_rfl))

theorem bd54x0 (H : AH) (v0x0 : Value) (v0x1 : Value) : buildV Try.prog H 54 #[(0, .agg #[v0x0, v0x1])] = some (.agg #[v0x0, v0x1, (.bool false), (.int .u32 0), (.int .u8 0), (.int .i64 0), (.int .u16 0), (.int .u16 0), (.int .u16 0), (.int .u16 0)]) := build_by (pl := fun i => (#[(0, 2), (2, 1), (3, 5), (8, 2)] : Array (Nat × Nat))[i]?) (by kernel_rfl) zero54 (by simp [Instr.fill, cells_agg, cells_int, cells_bool, cells_slice, cells_ptr, cells_str, cells_map])
theorem fa45x0 (H : AH) (b o : Nat) : fieldAV Try.prog H 45 0 (.pointer (some ⟨b, o, none⟩)) = some (.pointer (some ⟨b, o + 0, none⟩)) := fieldAV_eq 45 0 b o true 1 0 (by kernel_rfl)
theorem eqg42 (H : AH) (x y : Operand) (a0 b0 : Int) (a1 b1 : Int) : binV Try.prog H .eql 42 x y (.agg #[.int .u32 a0, .int .u8 a1]) (.agg #[.int .u32 b0, .int .u8 b1]) = some (.bool (eqLs [.int .u32 a0, .int .u8 a1] [.int .u32 b0, .int .u8 b1])) := (bin_agg (xs := [.int .u32 a0, .int .u8 a1]) (ys := [.int .u32 b0, .int .u8 b1]) (ks := [some .u32, some .u8]) (by kernel_rfl) (fitI (fitI fitN)) (fitI (fitI fitN))).1
theorem neg42 (H : AH) (x y : Operand) (a0 b0 : Int) (a1 b1 : Int) : binV Try.prog H .neq 42 x y (.agg #[.int .u32 a0, .int .u8 a1]) (.agg #[.int .u32 b0, .int .u8 b1]) = some (.bool (!eqLs [.int .u32 a0, .int .u8 a1] [.int .u32 b0, .int .u8 b1])) := (bin_agg (xs := [.int .u32 a0, .int .u8 a1]) (ys := [.int .u32 b0, .int .u8 b1]) (ks := [some .u32, some .u8]) (by kernel_rfl) (fitI (fitI fitN)) (fitI (fitI fitN))).2
theorem fa45x3 (H : AH) (b o : Nat) : fieldAV Try.prog H 45 3 (.pointer (some ⟨b, o, none⟩)) = some (.pointer (some ⟨b, o + 4, none⟩)) := fieldAV_eq 45 3 b o false 0 4 (by kernel_rfl)
theorem ld43 (H : AH) (b o : Nat) : loadV Try.prog H 43 (.pointer (some ⟨b, o, none⟩)) = H.c b o := load_one (by kernel_rfl)
theorem fa45x2 (H : AH) (b o : Nat) : fieldAV Try.prog H 45 2 (.pointer (some ⟨b, o, none⟩)) = some (.pointer (some ⟨b, o + 3, none⟩)) := fieldAV_eq 45 2 b o false 0 3 (by kernel_rfl)
theorem zero52 : zeroT Try.prog 52 = some (.agg #[(.int .u16 0), (.int .u16 0)]) := by kernel_rfl
theorem bd52x0x1 (H : AH) (k0x0 : IntKind) (n0x0 : Int) (k1x0 : IntKind) (n1x0 : Int) : buildV Try.prog H 52 #[(0, .int k0x0 n0x0), (1, .int k1x0 n1x0)] = some (.agg #[.int k0x0 n0x0, .int k1x0 n1x0]) := build_by (pl := fun i => (#[(0, 1), (1, 1)] : Array (Nat × Nat))[i]?) (by kernel_rfl) zero52 (by simp [Instr.fill, cells_agg, cells_int, cells_bool, cells_slice, cells_ptr, cells_str, cells_map])
theorem al52 (lo : Nat) (K : Value → AH → Nat → Prop) (H : AH) (nx : Nat) : allocQ Try.prog lo 52 K H nx = newQ 52 ((.agg #[(.int .u16 0), (.int .u16 0)]) : Value).cells K H nx := alloc_new zero52
theorem st52 (lo : Nat) (b o : Nat) (v0 v1 : Value) (K : AH → Nat → Prop) (H : AH) (nx : Nat) : storeQ Try.prog lo 52 (.pointer (some ⟨b, o, none⟩)) (.agg #[v0, v1]) K H nx = stsQ lo b o [v0, v1] K H nx := store_agg (n := 2) (by kernel_rfl) (by decide) rfl
theorem ld52 (H : AH) (b o : Nat) : loadV Try.prog H 52 (.pointer (some ⟨b, o, none⟩)) = (loadN H b o 2).map fun l => .agg l.toArray := load_agg (by kernel_rfl) (by kernel_rfl)
theorem fa54x3 (H : AH) (b o : Nat) : fieldAV Try.prog H 54 3 (.pointer (some ⟨b, o, none⟩)) = some (.pointer (some ⟨b, o + 8, none⟩)) := fieldAV_eq 54 3 b o true 1 8 (by kernel_rfl)
/-! 18: milestone/ideal.New · code of 4 operations -/
def L18 : Nat → List Nat
  | 0 => []
  | 1 => [0]
  | _ => []
theorem L18x0 : L18 0 = [] := (rfl)
theorem L18x1 : L18 1 = [0] := (rfl)
theorem fnOk18 : fnOk Try.prog 18 = true := by kernel_rfl
theorem rq18 {R : Value → AH → Nat → Prop} {env : Env} {H : AH} {nx : Nat} : retQ Try.prog Try.f18 R .ret env H nx = onV (eg env 0) R H nx := retQ_one rfl (of_decide_eq_true (by kernel_rfl))

theorem zero60 : zeroT Try.prog 60 = some (.agg #[(.slice none 0 0), (.int .i64 0), (.int .i64 0)]) := by kernel_rfl
theorem bd0x60 (H : AH) : buildV Try.prog H 60 #[] = some (.agg #[(.slice none 0 0), (.int .i64 0), (.int .i64 0)]) := build_zero (by kernel_rfl) zero60
/-! 19: (*milestone/ideal.Ideal).Add · code of 35 operations -/
def L19 : Nat → List Nat
  | 0 => [0, 3]
  | 1 => [0, 3, 5]
  | 2 => [4]
  | 3 => [0, 3, 8]
  | 4 => [4]
  | 5 => [0, 3, 12]
  | 6 => [4]
  | 7 => []
  | 8 => [4]
  | _ => []
theorem L19x0 : L19 0 = [0, 3] := (rfl)
theorem L19x1 : L19 1 = [0, 3, 5] := (rfl)
theorem L19x2 : L19 2 = [4] := (rfl)
theorem L19x3 : L19 3 = [0, 3, 8] := (rfl)
theorem L19x4 : L19 4 = [4] := (rfl)
theorem L19x5 : L19 5 = [0, 3, 12] := (rfl)
theorem L19x6 : L19 6 = [4] := (rfl)
theorem L19x7 : L19 7 = [] := (rfl)
theorem L19x8 : L19 8 = [4] := (rfl)
def ord19x5 : List Nat := [0, 1, 2, 3, 4, 5, 7, 6, 8, 9, 10]
def ord19x7 : List Nat := [0, 1, 2, 3, 4, 5, 6, 7, 8, 9, 10]
theorem fnOk19 : fnOk Try.prog 19 = true := by kernel_rfl
theorem rq19 {R : Value → AH → Nat → Prop} {env : Env} {H : AH} {nx : Nat} : retQ Try.prog Try.f19 R .ret env H nx = onV (eg env 4) R H nx := retQ_one rfl (of_decide_eq_true (by kernel_rfl))

/-! 20: (*milestone/ideal.Ideal).last · code of 14 operations -/
def L20 : Nat → List Nat
  | 0 => [0, 1, 4]
  | 1 => [0, 1, 4, 6]
  | 2 => [4]
  | 3 => [4]
  | _ => []
theorem L20x0 : L20 0 = [0, 1, 4] := (rfl)
theorem L20x1 : L20 1 = [0, 1, 4, 6] := (rfl)
theorem L20x2 : L20 2 = [4] := (rfl)
theorem L20x3 : L20 3 = [4] := (rfl)
theorem fnOk20 : fnOk Try.prog 20 = true := by kernel_rfl
theorem rq20 {R : Value → AH → Nat → Prop} {env : Env} {H : AH} {nx : Nat} : retQ Try.prog Try.f20 R .ret env H nx = onA (eg env 4) (fun a => onV (loadV Try.prog H 47 a) R H nx) := retQ_cell rfl (of_decide_eq_true (by kernel_rfl))

theorem bd0x47 (H : AH) : buildV Try.prog H 47 #[] = some (.agg #[(.int .u64 0), (.int .u64 0), (.bool false), (.int .u32 0), (.int .u8 0), (.int .i64 0), (.int .u16 0), (.int .u16 0)]) := build_zero (by kernel_rfl) zero47
/-! 21: slices.Clone[[]milestone/api.Change,milestone/api.Change] · code of 8 operations -/
def L21 : Nat → List Nat
  | 0 => [0]
  | 1 => [0, 4]
  | 2 => [2]
  | 3 => [2]
  | _ => []
theorem L21x0 : L21 0 = [0] := (rfl)
theorem L21x1 : L21 1 = [0, 4] := (rfl)
theorem L21x2 : L21 2 = [2] := (rfl)
theorem L21x3 : L21 3 = [2] := (rfl)
theorem fnOk21 : fnOk Try.prog 21 = true := by kernel_rfl
theorem rq21 {R : Value → AH → Nat → Prop} {env : Env} {H : AH} {nx : Nat} : retQ Try.prog Try.f21 R .ret env H nx = onV (eg env 2) R H nx := retQ_one rfl (of_decide_eq_true (by kernel_rfl))

theorem eqs25 (H : AH) (x y : Operand) (a : Option Addr) (n c : Nat) : binV Try.prog H .eql 25 x y (.slice a n c) (.slice none 0 0) = some (.bool a.isNone) := eq_sl (by kernel_rfl)
theorem nes25 (H : AH) (x y : Operand) (a : Option Addr) (n c : Nat) : binV Try.prog H .neq 25 x y (.slice a n c) (.slice none 0 0) = some (.bool a.isSome) := ne_sl (by kernel_rfl)
/-! 22: (*milestone/ideal.Ideal).Rows · code of 104 operations -/
def L22 : Nat → List Nat
  | 0 => [0, 1]
  | 1 => [0, 1, 5]
  | 2 => [0, 1, 5, 16]
  | 3 => [4]
  | 4 => [5, 29, 30, 31]
  | 5 => [5, 29, 30, 31, 32]
  | 6 => [5, 7, 29, 30, 31]
  | 7 => [5, 7, 8, 9, 29, 30, 31]
  | 8 => [5, 7, 8, 9, 10, 29, 30, 31]
  | 10 => [5, 7, 8, 9, 10, 29, 30, 31, 57]
  | 11 => [5, 7, 8, 29, 30, 31]
  | 12 => [5, 7, 8, 10, 29, 30, 31, 66]
  | 13 => [5, 7, 8, 29, 30, 31]
  | 9 => [5, 7, 8, 29, 30, 31]
  | 14 => [5, 29, 30, 31]
  | 15 => [5, 29, 30, 31]
  | 16 => [5, 11]
  | 17 => [11, 85]
  | 18 => [11, 85, 87]
  | 19 => [11, 13, 85]
  | 20 => [11, 85]
  | 21 => [11]
  | 22 => [4]
  | _ => []
theorem L22x0 : L22 0 = [0, 1] := (rfl)
theorem L22x1 : L22 1 = [0, 1, 5] := (rfl)
theorem L22x2 : L22 2 = [0, 1, 5, 16] := (rfl)
theorem L22x3 : L22 3 = [4] := (rfl)
theorem L22x4 : L22 4 = [5, 29, 30, 31] := (rfl)
theorem L22x5 : L22 5 = [5, 29, 30, 31, 32] := (rfl)
theorem L22x6 : L22 6 = [5, 7, 29, 30, 31] := (rfl)
theorem L22x7 : L22 7 = [5, 7, 8, 9, 29, 30, 31] := (rfl)
theorem L22x8 : L22 8 = [5, 7, 8, 9, 10, 29, 30, 31] := (rfl)
theorem L22x10 : L22 10 = [5, 7, 8, 9, 10, 29, 30, 31, 57] := (rfl)
theorem L22x11 : L22 11 = [5, 7, 8, 29, 30, 31] := (rfl)
theorem L22x12 : L22 12 = [5, 7, 8, 10, 29, 30, 31, 66] := (rfl)
theorem L22x13 : L22 13 = [5, 7, 8, 29, 30, 31] := (rfl)
theorem L22x9 : L22 9 = [5, 7, 8, 29, 30, 31] := (rfl)
theorem L22x14 : L22 14 = [5, 29, 30, 31] := (rfl)
theorem L22x15 : L22 15 = [5, 29, 30, 31] := (rfl)
theorem L22x16 : L22 16 = [5, 11] := (rfl)
theorem L22x17 : L22 17 = [11, 85] := (rfl)
theorem L22x18 : L22 18 = [11, 85, 87] := (rfl)
theorem L22x19 : L22 19 = [11, 13, 85] := (rfl)
theorem L22x20 : L22 20 = [11, 85] := (rfl)
theorem L22x21 : L22 21 = [11] := (rfl)
theorem L22x22 : L22 22 = [4] := (rfl)
def ord22x4 : List Nat := [0, 1, 2, 3, 4, 5, 6, 7, 8, 9, 10, 11, 12, 13, 14]
def ord22x11 : List Nat := [0, 1, 2, 3, 4, 5, 6, 7]
def ord22x13 : List Nat := [0, 1, 2, 3, 4, 5, 6, 7, 8, 9, 10]
theorem fnOk22 : fnOk Try.prog 22 = true := by kernel_rfl
theorem rq22 {R : Value → AH → Nat → Prop} {env : Env} {H : AH} {nx : Nat} : retQ Try.prog Try.f22 R .ret env H nx = onV (eg env 4) R H nx := retQ_one rfl (of_decide_eq_true (by kernel_rfl))

-- builtin Go.Builtin.max
-- builtin Go.Builtin.min
theorem bd54x0x1x2x3 (H : AH) (v0x0 : Value) (v0x1 : Value) (b1x0 : Bool) (v2x0 : Value) (v2x1 : Value) (v2x2 : Value) (v2x3 : Value) (v2x4 : Value) (v3x0 : Value) (v3x1 : Value) : buildV Try.prog H 54 #[(0, .agg #[v0x0, v0x1]), (1, .bool b1x0), (2, .agg #[v2x0, v2x1, v2x2, v2x3, v2x4]), (3, .agg #[v3x0, v3x1])] = some (.agg #[v0x0, v0x1, .bool b1x0, v2x0, v2x1, v2x2, v2x3, v2x4, v3x0, v3x1]) := build_by (pl := fun i => (#[(0, 2), (2, 1), (3, 5), (8, 2)] : Array (Nat × Nat))[i]?) (by kernel_rfl) zero54 (by simp [Instr.fill, cells_agg, cells_int, cells_bool, cells_slice, cells_ptr, cells_str, cells_map])
theorem sl63 : slT Try.prog 63 = some (54, 10) := by kernel_rfl
theorem by54 : bytesT Try.prog 54 = some 48 := by kernel_rfl
/-! 23: milestone/milestoneref01.Of · code of 30 operations -/
def L23 : Nat → List Nat
  | 0 => [0, 1, 4]
  | 1 => [0, 1, 4, 8]
  | 2 => [0, 1, 4]
  | 3 => [0, 1, 4, 5]
  | 4 => [0, 1, 4, 5, 6]
  | 5 => [0, 1, 4, 5, 6, 10]
  | 7 => [0, 1, 4, 5, 6]
  | 8 => [0, 1, 4, 5, 6, 23]
  | 9 => [0, 1, 4, 5, 6]
  | 6 => [0, 1, 4, 5, 6]
  | 10 => [4]
  | _ => []
theorem L23x0 : L23 0 = [0, 1, 4] := (rfl)
theorem L23x1 : L23 1 = [0, 1, 4, 8] := (rfl)
theorem L23x2 : L23 2 = [0, 1, 4] := (rfl)
theorem L23x3 : L23 3 = [0, 1, 4, 5] := (rfl)
theorem L23x4 : L23 4 = [0, 1, 4, 5, 6] := (rfl)
theorem L23x5 : L23 5 = [0, 1, 4, 5, 6, 10] := (rfl)
theorem L23x7 : L23 7 = [0, 1, 4, 5, 6] := (rfl)
theorem L23x8 : L23 8 = [0, 1, 4, 5, 6, 23] := (rfl)
theorem L23x9 : L23 9 = [0, 1, 4, 5, 6] := (rfl)
theorem L23x6 : L23 6 = [0, 1, 4, 5, 6] := (rfl)
theorem L23x10 : L23 10 = [4] := (rfl)
theorem fnOk23 : fnOk Try.prog 23 = true := by kernel_rfl
theorem rq23 {R : Value → AH → Nat → Prop} {env : Env} {H : AH} {nx : Nat} : retQ Try.prog Try.f23 R .ret env H nx = onA (eg env 4) (fun a => onV (loadV Try.prog H 42 a) R H nx) := retQ_cell rfl (of_decide_eq_true (by kernel_rfl))

/-! 24: milestone/milestoneref01.Nearer · code of 20 operations -/
def L24 : Nat → List Nat
  | 0 => [2, 3]
  | 1 => [2, 3, 9]
  | 2 => [4]
  | 3 => [4]
  | _ => []
theorem L24x0 : L24 0 = [2, 3] := (rfl)
theorem L24x1 : L24 1 = [2, 3, 9] := (rfl)
theorem L24x2 : L24 2 = [4] := (rfl)
theorem L24x3 : L24 3 = [4] := (rfl)
theorem fnOk24 : fnOk Try.prog 24 = true := by kernel_rfl
theorem rq24 {R : Value → AH → Nat → Prop} {env : Env} {H : AH} {nx : Nat} : retQ Try.prog Try.f24 R .ret env H nx = onV (eg env 4) R H nx := retQ_one rfl (of_decide_eq_true (by kernel_rfl))

theorem fa52x0 (H : AH) (b o : Nat) : fieldAV Try.prog H 52 0 (.pointer (some ⟨b, o, none⟩)) = some (.pointer (some ⟨b, o + 0, none⟩)) := fieldAV_eq 52 0 b o false 0 0 (by kernel_rfl)
theorem fa52x1 (H : AH) (b o : Nat) : fieldAV Try.prog H 52 1 (.pointer (some ⟨b, o, none⟩)) = some (.pointer (some ⟨b, o + 1, none⟩)) := fieldAV_eq 52 1 b o false 0 1 (by kernel_rfl)
/-! 25: milestone/change.Right · code of 42 operations -/
def L25 : Nat → List Nat
  | 0 => [1]
  | 1 => [1, 3]
  | 2 => [1, 3, 6]
  | 3 => [1, 3, 6]
  | 4 => [6]
  | 5 => [2]
  | 6 => [2]
  | _ => []
theorem L25x0 : L25 0 = [1] := (rfl)
theorem L25x1 : L25 1 = [1, 3] := (rfl)
theorem L25x2 : L25 2 = [1, 3, 6] := (rfl)
theorem L25x3 : L25 3 = [1, 3, 6] := (rfl)
theorem L25x4 : L25 4 = [6] := (rfl)
theorem L25x5 : L25 5 = [2] := (rfl)
theorem L25x6 : L25 6 = [2] := (rfl)
theorem fnOk25 : fnOk Try.prog 25 = true := by kernel_rfl
theorem rq25 {R : Value → AH → Nat → Prop} {env : Env} {H : AH} {nx : Nat} : retQ Try.prog Try.f25 R .ret env H nx = onV (eg env 2) R H nx := retQ_one rfl (of_decide_eq_true (by kernel_rfl))

theorem al45 (lo : Nat) (K : Value → AH → Nat → Prop) (H : AH) (nx : Nat) : allocQ Try.prog lo 45 K H nx = newQ 45 ((.agg #[(.int .u32 0), (.int .u8 0), (.int .i64 0), (.int .u16 0), (.int .u16 0)]) : Value).cells K H nx := alloc_new zero45
theorem eqg45 (H : AH) (x y : Operand) (a0 b0 : Int) (a1 b1 : Int) (a2 b2 : Int) (a3 b3 : Int) (a4 b4 : Int) : binV Try.prog H .eql 45 x y (.agg #[.int .u32 a0, .int .u8 a1, .int .i64 a2, .int .u16 a3, .int .u16 a4]) (.agg #[.int .u32 b0, .int .u8 b1, .int .i64 b2, .int .u16 b3, .int .u16 b4]) = some (.bool (eqLs [.int .u32 a0, .int .u8 a1, .int .i64 a2, .int .u16 a3, .int .u16 a4] [.int .u32 b0, .int .u8 b1, .int .i64 b2, .int .u16 b3, .int .u16 b4])) := (bin_agg (xs := [.int .u32 a0, .int .u8 a1, .int .i64 a2, .int .u16 a3, .int .u16 a4]) (ys := [.int .u32 b0, .int .u8 b1, .int .i64 b2, .int .u16 b3, .int .u16 b4]) (ks := [some .u32, some .u8, some .i64, some .u16, some .u16]) (by kernel_rfl) (fitI (fitI (fitI (fitI (fitI fitN))))) (fitI (fitI (fitI (fitI (fitI fitN)))))).1
theorem neg45 (H : AH) (x y : Operand) (a0 b0 : Int) (a1 b1 : Int) (a2 b2 : Int) (a3 b3 : Int) (a4 b4 : Int) : binV Try.prog H .neq 45 x y (.agg #[.int .u32 a0, .int .u8 a1, .int .i64 a2, .int .u16 a3, .int .u16 a4]) (.agg #[.int .u32 b0, .int .u8 b1, .int .i64 b2, .int .u16 b3, .int .u16 b4]) = some (.bool (!eqLs [.int .u32 a0, .int .u8 a1, .int .i64 a2, .int .u16 a3, .int .u16 a4] [.int .u32 b0, .int .u8 b1, .int .i64 b2, .int .u16 b3, .int .u16 b4])) := (bin_agg (xs := [.int .u32 a0, .int .u8 a1, .int .i64 a2, .int .u16 a3, .int .u16 a4]) (ys := [.int .u32 b0, .int .u8 b1, .int .i64 b2, .int .u16 b3, .int .u16 b4]) (ks := [some .u32, some .u8, some .i64, some .u16, some .u16]) (by kernel_rfl) (fitI (fitI (fitI (fitI (fitI fitN))))) (fitI (fitI (fitI (fitI (fitI fitN)))))).2
theorem fa45x1 (H : AH) (b o : Nat) : fieldAV Try.prog H 45 1 (.pointer (some ⟨b, o, none⟩)) = some (.pointer (some ⟨b, o + 2, none⟩)) := fieldAV_eq 45 1 b o false 0 2 (by kernel_rfl)
/-! 26: milestone/change.Follows · code of 17 operations -/
def L26 : Nat → List Nat
  | 0 => [2, 3]
  | 1 => [4]
  | _ => []
theorem L26x0 : L26 0 = [2, 3] := (rfl)
theorem L26x1 : L26 1 = [4] := (rfl)
theorem fnOk26 : fnOk Try.prog 26 = true := by kernel_rfl
theorem rq26 {R : Value → AH → Nat → Prop} {env : Env} {H : AH} {nx : Nat} : retQ Try.prog Try.f26 R .ret env H nx = onV (eg env 4) R H nx := retQ_one rfl (of_decide_eq_true (by kernel_rfl))

theorem fa47x0 (H : AH) (b o : Nat) : fieldAV Try.prog H 47 0 (.pointer (some ⟨b, o, none⟩)) = some (.pointer (some ⟨b, o + 0, none⟩)) := fieldAV_eq 47 0 b o false 0 0 (by kernel_rfl)
/-! 27: milestone/serial.Best · code of 10 operations -/
def L27 : Nat → List Nat
  | 0 => [2, 3, 4]
  | 1 => [2, 3, 4, 7]
  | 2 => [4]
  | 3 => [4]
  | _ => []
theorem L27x0 : L27 0 = [2, 3, 4] := (rfl)
theorem L27x1 : L27 1 = [2, 3, 4, 7] := (rfl)
theorem L27x2 : L27 2 = [4] := (rfl)
theorem L27x3 : L27 3 = [4] := (rfl)
theorem fnOk27 : fnOk Try.prog 27 = true := by kernel_rfl
theorem rq27 {R : Value → AH → Nat → Prop} {env : Env} {H : AH} {nx : Nat} : retQ Try.prog Try.f27 R .ret env H nx = onA (eg env 4) (fun a => onV (loadV Try.prog H 52 a) R H nx) := retQ_cell rfl (of_decide_eq_true (by kernel_rfl))

/-! 28: slices.SortFunc[[]milestone/api.Row,milestone/api.Row] · code of 10 operations -/
def L28 : Nat → List Nat
  | 0 => [0, 1, 4]
  | 1 => []
  | _ => []
theorem L28x0 : L28 0 = [0, 1, 4] := (rfl)
theorem L28x1 : L28 1 = [] := (rfl)
theorem fnOk28 : fnOk Try.prog 28 = true := by kernel_rfl
theorem rq28 {R : Value → AH → Nat → Prop} {env : Env} {H : AH} {nx : Nat} : retQ Try.prog Try.f28 R .ret env H nx = R (.tuple #[]) H nx := retQ_none rfl

theorem cv3x66 (lo : Nat) (k' : IntKind) (n : Int) (K : Value → AH → Nat → Prop) (H : AH) (nx : Nat) : convQ Try.prog lo 3 66 (.int k' n) K H nx = K (.int .u64 (IntKind.wrap .u64 n)) H nx := convQ_int (by kernel_rfl) (by kernel_rfl)
theorem cx3x66 (k' : IntKind) (n : Int) (H : AH) : convV Try.prog H 3 66 (.int k' n) = some (.int .u64 (IntKind.wrap .u64 n)) := convV_int (by kernel_rfl) (by kernel_rfl)
/-! 29: (*milestone/ideal.Ideal).Rows$1 · code of 9 operations -/
def L29 : Nat → List Nat
  | 0 => [2, 3]
  | 1 => [4]
  | _ => []
theorem L29x0 : L29 0 = [2, 3] := (rfl)
theorem L29x1 : L29 1 = [4] := (rfl)
theorem fnOk29 : fnOk Try.prog 29 = true := by kernel_rfl
theorem rq29 {R : Value → AH → Nat → Prop} {env : Env} {H : AH} {nx : Nat} : retQ Try.prog Try.f29 R .ret env H nx = onV (eg env 4) R H nx := retQ_one rfl (of_decide_eq_true (by kernel_rfl))

theorem fa54x0 (H : AH) (b o : Nat) : fieldAV Try.prog H 54 0 (.pointer (some ⟨b, o, none⟩)) = some (.pointer (some ⟨b, o + 0, none⟩)) := fieldAV_eq 54 0 b o true 1 0 (by kernel_rfl)
/-! 30: milestone/prefix.Compare · code of 16 operations -/
def L30 : Nat → List Nat
  | 0 => [2, 3]
  | 1 => [4]
  | _ => []
theorem L30x0 : L30 0 = [2, 3] := (rfl)
theorem L30x1 : L30 1 = [4] := (rfl)
def ord30x1 : List Nat := [0, 1, 2, 3, 5, 6, 7, 8, 4, 9, 10, 11, 12]
theorem fnOk30 : fnOk Try.prog 30 = true := by kernel_rfl
theorem rq30 {R : Value → AH → Nat → Prop} {env : Env} {H : AH} {nx : Nat} : retQ Try.prog Try.f30 R .ret env H nx = onV (eg env 4) R H nx := retQ_one rfl (of_decide_eq_true (by kernel_rfl))

theorem fa42x0 (H : AH) (b o : Nat) : fieldAV Try.prog H 42 0 (.pointer (some ⟨b, o, none⟩)) = some (.pointer (some ⟨b, o + 0, none⟩)) := fieldAV_eq 42 0 b o false 0 0 (by kernel_rfl)
theorem ld40 (H : AH) (b o : Nat) : loadV Try.prog H 40 (.pointer (some ⟨b, o, none⟩)) = H.c b o := load_one (by kernel_rfl)
theorem fa42x1 (H : AH) (b o : Nat) : fieldAV Try.prog H 42 1 (.pointer (some ⟨b, o, none⟩)) = some (.pointer (some ⟨b, o + 1, none⟩)) := fieldAV_eq 42 1 b o false 0 1 (by kernel_rfl)
theorem zero3 : zeroT Try.prog 3 = some (.int .i64 0) := by kernel_rfl
theorem sl93 : slT Try.prog 93 = some (3, 1) := by kernel_rfl
/-! 31: milestone/milestoneref01.Bit · code of 13 operations -/
def L31 : Nat → List Nat
  | 0 => [0, 1]
  | 1 => [0, 1, 6]
  | 3 => [0, 1]
  | 2 => [0, 1]
  | 4 => [4]
  | _ => []
theorem L31x0 : L31 0 = [0, 1] := (rfl)
theorem L31x1 : L31 1 = [0, 1, 6] := (rfl)
theorem L31x3 : L31 3 = [0, 1] := (rfl)
theorem L31x2 : L31 2 = [0, 1] := (rfl)
theorem L31x4 : L31 4 = [4] := (rfl)
theorem fnOk31 : fnOk Try.prog 31 = true := by kernel_rfl
theorem rq31 {R : Value → AH → Nat → Prop} {env : Env} {H : AH} {nx : Nat} : retQ Try.prog Try.f31 R .ret env H nx = onV (eg env 4) R H nx := retQ_one rfl (of_decide_eq_true (by kernel_rfl))

/-! 32: milestone/milestoneref01.Newer · code of 16 operations -/
def L32 : Nat → List Nat
  | 0 => [0, 1]
  | 1 => [5]
  | 2 => [4]
  | _ => []
theorem L32x0 : L32 0 = [0, 1] := (rfl)
theorem L32x1 : L32 1 = [5] := (rfl)
theorem L32x2 : L32 2 = [4] := (rfl)
theorem fnOk32 : fnOk Try.prog 32 = true := by kernel_rfl
theorem rq32 {R : Value → AH → Nat → Prop} {env : Env} {H : AH} {nx : Nat} : retQ Try.prog Try.f32 R .ret env H nx = onV (eg env 4) R H nx := retQ_one rfl (of_decide_eq_true (by kernel_rfl))

theorem cv43x3 (lo : Nat) (k' : IntKind) (n : Int) (K : Value → AH → Nat → Prop) (H : AH) (nx : Nat) : convQ Try.prog lo 43 3 (.int k' n) K H nx = K (.int .i64 (IntKind.wrap .i64 n)) H nx := convQ_int (by kernel_rfl) (by kernel_rfl)
theorem cx43x3 (k' : IntKind) (n : Int) (H : AH) : convV Try.prog H 43 3 (.int k' n) = some (.int .i64 (IntKind.wrap .i64 n)) := convV_int (by kernel_rfl) (by kernel_rfl)
/-! 33: milestone/prefix.Right · code of 15 operations -/
def L33 : Nat → List Nat
  | 0 => [1]
  | 1 => [2]
  | _ => []
theorem L33x0 : L33 0 = [1] := (rfl)
theorem L33x1 : L33 1 = [2] := (rfl)
def ord33x1 : List Nat := [0, 1, 2, 3, 4, 5, 6, 7, 8, 9, 10, 11, 12]
theorem fnOk33 : fnOk Try.prog 33 = true := by kernel_rfl
theorem rq33 {R : Value → AH → Nat → Prop} {env : Env} {H : AH} {nx : Nat} : retQ Try.prog Try.f33 R .ret env H nx = onV (eg env 2) R H nx := retQ_one rfl (of_decide_eq_true (by kernel_rfl))

/-! 34: milestone/serial.Nearer · code of 23 operations -/
def L34 : Nat → List Nat
  | 0 => [2, 3]
  | 1 => [4]
  | _ => []
theorem L34x0 : L34 0 = [2, 3] := (rfl)
theorem L34x1 : L34 1 = [4] := (rfl)
theorem fnOk34 : fnOk Try.prog 34 = true := by kernel_rfl
theorem rq34 {R : Value → AH → Nat → Prop} {env : Env} {H : AH} {nx : Nat} : retQ Try.prog Try.f34 R .ret env H nx = onV (eg env 4) R H nx := retQ_one rfl (of_decide_eq_true (by kernel_rfl))

/-! 35: slices.pdqsortCmpFunc[milestone/api.Row] · code of 147 operations -/
def L35 : Nat → List Nat
  | 0 => [0, 1, 2, 3, 4, 10]
  | 1 => [0, 1, 2, 3, 4, 10, 11]
  | 2 => [0, 1, 2, 3, 4, 10, 11, 12]
  | 3 => [0, 1, 2, 3, 4, 10, 11, 12, 25]
  | 4 => []
  | 5 => [0, 1, 2, 3, 4, 10, 11, 12, 32]
  | 6 => []
  | 7 => [0, 1, 2, 3, 4, 10, 11, 12, 39]
  | 8 => [0, 1, 2, 3, 4, 10, 11, 12]
  | 9 => [0, 1, 2, 3, 4, 10, 11, 12]
  | 10 => [0, 1, 2, 3, 4, 10, 11, 12, 13, 14]
  | 11 => [0, 1, 2, 3, 4, 10, 11, 12, 13, 14, 56]
  | 12 => [0, 1, 2, 3, 4, 10, 11, 12, 13]
  | 13 => [0, 1, 2, 3, 4, 10, 11, 12, 13]
  | 14 => [0, 1, 2, 3, 4, 10, 11, 12, 13, 14]
  | 15 => [0, 1, 2, 3, 4, 10, 11, 12, 13, 75]
  | 16 => [0, 1, 2, 3, 4, 10, 11, 12, 13, 80]
  | 17 => [0, 1, 2, 3, 4, 10, 11, 12, 13, 97]
  | 18 => [0, 2, 3, 4, 10, 11, 15]
  | 19 => [0, 1, 2, 3, 4, 10, 11]
  | 20 => [0, 1, 2, 3, 4, 12, 16, 17]
  | 21 => [0, 1, 2, 3, 4, 11, 12, 16]
  | 22 => [0, 1, 2, 3, 4, 11, 12, 16, 18, 19]
  | 23 => [0, 1, 2, 3, 4, 11, 16, 18, 19, 20]
  | 24 => [0, 1, 2, 3, 4, 11, 16, 18, 19, 20, 125]
  | 25 => [0, 1, 2, 3, 4, 10, 11, 16]
  | 26 => [0, 2, 3, 4, 10, 11, 16]
  | 27 => [0, 1, 2, 3, 4, 10, 11]
  | 28 => [0, 1, 2, 3, 4, 10, 11, 16]
  | 29 => [0, 1, 3, 4, 10, 11, 16]
  | 30 => [0, 1, 2, 3, 4, 10, 11]
  | _ => []
theorem L35x0 : L35 0 = [0, 1, 2, 3, 4, 10] := (rfl)
theorem L35x1 : L35 1 = [0, 1, 2, 3, 4, 10, 11] := (rfl)
theorem L35x2 : L35 2 = [0, 1, 2, 3, 4, 10, 11, 12] := (rfl)
theorem L35x3 : L35 3 = [0, 1, 2, 3, 4, 10, 11, 12, 25] := (rfl)
theorem L35x4 : L35 4 = [] := (rfl)
theorem L35x5 : L35 5 = [0, 1, 2, 3, 4, 10, 11, 12, 32] := (rfl)
theorem L35x6 : L35 6 = [] := (rfl)
theorem L35x7 : L35 7 = [0, 1, 2, 3, 4, 10, 11, 12, 39] := (rfl)
theorem L35x8 : L35 8 = [0, 1, 2, 3, 4, 10, 11, 12] := (rfl)
theorem L35x9 : L35 9 = [0, 1, 2, 3, 4, 10, 11, 12] := (rfl)
theorem L35x10 : L35 10 = [0, 1, 2, 3, 4, 10, 11, 12, 13, 14] := (rfl)
theorem L35x11 : L35 11 = [0, 1, 2, 3, 4, 10, 11, 12, 13, 14, 56] := (rfl)
theorem L35x12 : L35 12 = [0, 1, 2, 3, 4, 10, 11, 12, 13] := (rfl)
theorem L35x13 : L35 13 = [0, 1, 2, 3, 4, 10, 11, 12, 13] := (rfl)
theorem L35x14 : L35 14 = [0, 1, 2, 3, 4, 10, 11, 12, 13, 14] := (rfl)
theorem L35x15 : L35 15 = [0, 1, 2, 3, 4, 10, 11, 12, 13, 75] := (rfl)
theorem L35x16 : L35 16 = [0, 1, 2, 3, 4, 10, 11, 12, 13, 80] := (rfl)
theorem L35x17 : L35 17 = [0, 1, 2, 3, 4, 10, 11, 12, 13, 97] := (rfl)
theorem L35x18 : L35 18 = [0, 2, 3, 4, 10, 11, 15] := (rfl)
theorem L35x19 : L35 19 = [0, 1, 2, 3, 4, 10, 11] := (rfl)
theorem L35x20 : L35 20 = [0, 1, 2, 3, 4, 12, 16, 17] := (rfl)
theorem L35x21 : L35 21 = [0, 1, 2, 3, 4, 11, 12, 16] := (rfl)
theorem L35x22 : L35 22 = [0, 1, 2, 3, 4, 11, 12, 16, 18, 19] := (rfl)
theorem L35x23 : L35 23 = [0, 1, 2, 3, 4, 11, 16, 18, 19, 20] := (rfl)
theorem L35x24 : L35 24 = [0, 1, 2, 3, 4, 11, 16, 18, 19, 20, 125] := (rfl)
theorem L35x25 : L35 25 = [0, 1, 2, 3, 4, 10, 11, 16] := (rfl)
theorem L35x26 : L35 26 = [0, 2, 3, 4, 10, 11, 16] := (rfl)
theorem L35x27 : L35 27 = [0, 1, 2, 3, 4, 10, 11] := (rfl)
theorem L35x28 : L35 28 = [0, 1, 2, 3, 4, 10, 11, 16] := (rfl)
theorem L35x29 : L35 29 = [0, 1, 3, 4, 10, 11, 16] := (rfl)
theorem L35x30 : L35 30 = [0, 1, 2, 3, 4, 10, 11] := (rfl)
def ord35x17 : List Nat := [0, 1, 2, 3, 4, 5, 6, 7, 8, 9, 10, 11, 12, 13, 14, 15, 16]
theorem fnOk35 : fnOk Try.prog 35 = true := by kernel_rfl
theorem rq35 {R : Value → AH → Nat → Prop} {env : Env} {H : AH} {nx : Nat} : retQ Try.prog Try.f35 R .ret env H nx = R (.tuple #[]) H nx := retQ_none rfl

/-! 36: math/bits.Len · code of 8 operations -/
def L36 : Nat → List Nat
  | 0 => [0]
  | 1 => [2]
  | 2 => [2]
  | _ => []
theorem L36x0 : L36 0 = [0] := (rfl)
theorem L36x1 : L36 1 = [2] := (rfl)
theorem L36x2 : L36 2 = [2] := (rfl)
theorem fnOk36 : fnOk Try.prog 36 = true := by kernel_rfl
theorem rq36 {R : Value → AH → Nat → Prop} {env : Env} {H : AH} {nx : Nat} : retQ Try.prog Try.f36 R .ret env H nx = onV (eg env 2) R H nx := retQ_one rfl (of_decide_eq_true (by kernel_rfl))

theorem cv66x40 (lo : Nat) (k' : IntKind) (n : Int) (K : Value → AH → Nat → Prop) (H : AH) (nx : Nat) : convQ Try.prog lo 66 40 (.int k' n) K H nx = K (.int .u32 (IntKind.wrap .u32 n)) H nx := convQ_int (by kernel_rfl) (by kernel_rfl)
theorem cx66x40 (k' : IntKind) (n : Int) (H : AH) : convV Try.prog H 66 40 (.int k' n) = some (.int .u32 (IntKind.wrap .u32 n)) := convV_int (by kernel_rfl) (by kernel_rfl)
/-! 37: cmp.Or[int] · code of 18 operations -/
def L37 : Nat → List Nat
  | 0 => [0]
  | 1 => [0, 3]
  | 2 => [3, 6, 7, 8]
  | 3 => [3, 6, 7, 8, 9]
  | 4 => [3, 5, 6, 7, 8]
  | 5 => [3, 5, 6, 7, 8, 14]
  | 6 => [2]
  | 7 => [3, 6, 7, 8]
  | 8 => [2]
  | _ => []
theorem L37x0 : L37 0 = [0] := (rfl)
theorem L37x1 : L37 1 = [0, 3] := (rfl)
theorem L37x2 : L37 2 = [3, 6, 7, 8] := (rfl)
theorem L37x3 : L37 3 = [3, 6, 7, 8, 9] := (rfl)
theorem L37x4 : L37 4 = [3, 5, 6, 7, 8] := (rfl)
theorem L37x5 : L37 5 = [3, 5, 6, 7, 8, 14] := (rfl)
theorem L37x6 : L37 6 = [2] := (rfl)
theorem L37x7 : L37 7 = [3, 6, 7, 8] := (rfl)
theorem L37x8 : L37 8 = [2] := (rfl)
theorem fnOk37 : fnOk Try.prog 37 = true := by kernel_rfl
theorem rq37 {R : Value → AH → Nat → Prop} {env : Env} {H : AH} {nx : Nat} : retQ Try.prog Try.f37 R .ret env H nx = onV (eg env 2) R H nx := retQ_one rfl (of_decide_eq_true (by kernel_rfl))

theorem len93 (H : AH) (ty : TypeId) (a : Option Addr) (n c : Nat) : lenV Try.prog H #[93] ty #[.slice a n c] = some (.int .i64 n) := lenV_slice 93 3 ty 1 a n c (by kernel_rfl)
theorem ia93 (H : AH) (n b o c : Nat) (kk : IntKind) (i : Int) (h0 : 0 ≤ i) (h1 : i < n) : indexAV Try.prog H 93 (.slice (some ⟨b, o, none⟩) n c) (.int kk i) = some (.pointer (some ⟨b, o + i.toNat * 1, none⟩)) := indexAV_slice 93 3 n 1 b o c kk i (by kernel_rfl) h0 h1
/-! 38: cmp.Compare[uint32] · code of 22 operations -/
def L38 : Nat → List Nat
  | 0 => [0, 1]
  | 1 => [0, 1, 5]
  | 2 => [0, 1, 5, 6]
  | 3 => [0, 1, 6, 11]
  | 4 => [12]
  | 5 => [4]
  | 6 => [4]
  | 7 => [0, 1, 13]
  | 8 => [4]
  | 9 => [0, 1, 16]
  | 10 => [4]
  | 11 => [19]
  | 12 => [4]
  | 13 => [4]
  | _ => []
theorem L38x0 : L38 0 = [0, 1] := (rfl)
theorem L38x1 : L38 1 = [0, 1, 5] := (rfl)
theorem L38x2 : L38 2 = [0, 1, 5, 6] := (rfl)
theorem L38x3 : L38 3 = [0, 1, 6, 11] := (rfl)
theorem L38x4 : L38 4 = [12] := (rfl)
theorem L38x5 : L38 5 = [4] := (rfl)
theorem L38x6 : L38 6 = [4] := (rfl)
theorem L38x7 : L38 7 = [0, 1, 13] := (rfl)
theorem L38x8 : L38 8 = [4] := (rfl)
theorem L38x9 : L38 9 = [0, 1, 16] := (rfl)
theorem L38x10 : L38 10 = [4] := (rfl)
theorem L38x11 : L38 11 = [19] := (rfl)
theorem L38x12 : L38 12 = [4] := (rfl)
theorem L38x13 : L38 13 = [4] := (rfl)
theorem fnOk38 : fnOk Try.prog 38 = true := by kernel_rfl
theorem rq38 {R : Value → AH → Nat → Prop} {env : Env} {H : AH} {nx : Nat} : retQ Try.prog Try.f38 R .ret env H nx = onV (eg env 4) R H nx := retQ_one rfl (of_decide_eq_true (by kernel_rfl))

/-! 39: cmp.Compare[uint8] · code of 22 operations -/
def L39 : Nat → List Nat
  | 0 => [0, 1]
  | 1 => [0, 1, 5]
  | 2 => [0, 1, 5, 6]
  | 3 => [0, 1, 6, 11]
  | 4 => [12]
  | 5 => [4]
  | 6 => [4]
  | 7 => [0, 1, 13]
  | 8 => [4]
  | 9 => [0, 1, 16]
  | 10 => [4]
  | 11 => [19]
  | 12 => [4]
  | 13 => [4]
  | _ => []
theorem L39x0 : L39 0 = [0, 1] := (rfl)
theorem L39x1 : L39 1 = [0, 1, 5] := (rfl)
theorem L39x2 : L39 2 = [0, 1, 5, 6] := (rfl)
theorem L39x3 : L39 3 = [0, 1, 6, 11] := (rfl)
theorem L39x4 : L39 4 = [12] := (rfl)
theorem L39x5 : L39 5 = [4] := (rfl)
theorem L39x6 : L39 6 = [4] := (rfl)
theorem L39x7 : L39 7 = [0, 1, 13] := (rfl)
theorem L39x8 : L39 8 = [4] := (rfl)
theorem L39x9 : L39 9 = [0, 1, 16] := (rfl)
theorem L39x10 : L39 10 = [4] := (rfl)
theorem L39x11 : L39 11 = [19] := (rfl)
theorem L39x12 : L39 12 = [4] := (rfl)
theorem L39x13 : L39 13 = [4] := (rfl)
theorem fnOk39 : fnOk Try.prog 39 = true := by kernel_rfl
theorem rq39 {R : Value → AH → Nat → Prop} {env : Env} {H : AH} {nx : Nat} : retQ Try.prog Try.f39 R .ret env H nx = onV (eg env 4) R H nx := retQ_one rfl (of_decide_eq_true (by kernel_rfl))

/-! 40: milestone/prefix.mask · code of 9 operations -/
def L40 : Nat → List Nat
  | 0 => [0]
  | 1 => [0, 4]
  | 2 => [2]
  | 3 => [2]
  | _ => []
theorem L40x0 : L40 0 = [0] := (rfl)
theorem L40x1 : L40 1 = [0, 4] := (rfl)
theorem L40x2 : L40 2 = [2] := (rfl)
theorem L40x3 : L40 3 = [2] := (rfl)
theorem fnOk40 : fnOk Try.prog 40 = true := by kernel_rfl
theorem rq40 {R : Value → AH → Nat → Prop} {env : Env} {H : AH} {nx : Nat} : retQ Try.prog Try.f40 R .ret env H nx = onV (eg env 2) R H nx := retQ_one rfl (of_decide_eq_true (by kernel_rfl))

/-! 41: milestone/serial.Newer · code of 11 operations -/
def L41 : Nat → List Nat
  | 0 => [0, 1]
  | 1 => [4]
  | _ => []
theorem L41x0 : L41 0 = [0, 1] := (rfl)
theorem L41x1 : L41 1 = [4] := (rfl)
theorem fnOk41 : fnOk Try.prog 41 = true := by kernel_rfl
theorem rq41 {R : Value → AH → Nat → Prop} {env : Env} {H : AH} {nx : Nat} : retQ Try.prog Try.f41 R .ret env H nx = onV (eg env 4) R H nx := retQ_one rfl (of_decide_eq_true (by kernel_rfl))

/-! 42: slices.insertionSortCmpFunc[milestone/api.Row] · code of 49 operations -/
def L42 : Nat → List Nat
  | 0 => [0, 1, 2, 3, 8]
  | 1 => [0, 1, 2, 3, 8, 14]
  | 3 => [0, 1, 2, 3, 8, 9]
  | 4 => [0, 1, 2, 3, 8, 9, 34]
  | 6 => [0, 1, 2, 3, 8, 9]
  | 5 => [0, 1, 2, 3, 8, 9]
  | 2 => [0, 1, 2, 3, 8]
  | _ => []
theorem L42x0 : L42 0 = [0, 1, 2, 3, 8] := (rfl)
theorem L42x1 : L42 1 = [0, 1, 2, 3, 8, 14] := (rfl)
theorem L42x3 : L42 3 = [0, 1, 2, 3, 8, 9] := (rfl)
theorem L42x4 : L42 4 = [0, 1, 2, 3, 8, 9, 34] := (rfl)
theorem L42x6 : L42 6 = [0, 1, 2, 3, 8, 9] := (rfl)
theorem L42x5 : L42 5 = [0, 1, 2, 3, 8, 9] := (rfl)
theorem L42x2 : L42 2 = [0, 1, 2, 3, 8] := (rfl)
def ord42x4 : List Nat := [0, 1, 2, 3, 4, 5, 6, 7, 8, 9, 10, 11, 12, 13, 14, 15, 16]
def ord42x6 : List Nat := [0, 1, 2, 3, 4, 5, 6, 7, 8, 9, 10, 11, 12, 13, 14, 15, 16, 17]
theorem fnOk42 : fnOk Try.prog 42 = true := by kernel_rfl
theorem rq42 {R : Value → AH → Nat → Prop} {env : Env} {H : AH} {nx : Nat} : retQ Try.prog Try.f42 R .ret env H nx = R (.tuple #[]) H nx := retQ_none rfl

/-! 43: slices.heapSortCmpFunc[milestone/api.Row] · code of 56 operations -/
def L43 : Nat → List Nat
  | 0 => [0, 1, 2, 3, 8]
  | 1 => [0, 1, 2, 3, 8, 9]
  | 2 => [0, 3, 8, 9, 10]
  | 3 => [0, 3, 8, 9, 10, 11]
  | 4 => [0, 3, 8, 9, 10, 11, 21]
  | 6 => [0, 3, 8, 9, 10, 11]
  | 5 => [0, 3, 8, 9, 10, 11]
  | 7 => [0, 3, 8, 9, 12]
  | 8 => [0, 3, 8, 9, 12, 33]
  | 10 => [0, 3, 8, 9, 12]
  | 11 => [0, 3, 8, 9, 12]
  | 9 => [0, 3, 8, 9, 12]
  | _ => []
theorem L43x0 : L43 0 = [0, 1, 2, 3, 8] := (rfl)
theorem L43x1 : L43 1 = [0, 1, 2, 3, 8, 9] := (rfl)
theorem L43x2 : L43 2 = [0, 3, 8, 9, 10] := (rfl)
theorem L43x3 : L43 3 = [0, 3, 8, 9, 10, 11] := (rfl)
theorem L43x4 : L43 4 = [0, 3, 8, 9, 10, 11, 21] := (rfl)
theorem L43x6 : L43 6 = [0, 3, 8, 9, 10, 11] := (rfl)
theorem L43x5 : L43 5 = [0, 3, 8, 9, 10, 11] := (rfl)
theorem L43x7 : L43 7 = [0, 3, 8, 9, 12] := (rfl)
theorem L43x8 : L43 8 = [0, 3, 8, 9, 12, 33] := (rfl)
theorem L43x10 : L43 10 = [0, 3, 8, 9, 12] := (rfl)
theorem L43x11 : L43 11 = [0, 3, 8, 9, 12] := (rfl)
theorem L43x9 : L43 9 = [0, 3, 8, 9, 12] := (rfl)
def ord43x10 : List Nat := [0, 1, 2, 3, 4, 5, 6, 7, 8, 9, 10, 11, 12, 13, 14, 15, 16, 17, 18, 19]
theorem fnOk43 : fnOk Try.prog 43 = true := by kernel_rfl
theorem rq43 {R : Value → AH → Nat → Prop} {env : Env} {H : AH} {nx : Nat} : retQ Try.prog Try.f43 R .ret env H nx = R (.tuple #[]) H nx := retQ_none rfl

/-! 44: slices.breakPatternsCmpFunc[milestone/api.Row] · code of 64 operations -/
def L44 : Nat → List Nat
  | 0 => [0, 1, 8]
  | 1 => [0, 1, 8, 17]
  | 2 => [0, 1, 8, 9]
  | 3 => [0, 1, 8, 9, 10]
  | 4 => [0, 1, 8, 9, 10, 11]
  | 5 => [0, 1, 8, 9, 10, 11, 35]
  | 7 => [0, 1, 8, 9, 10, 11, 12]
  | 8 => [0, 1, 8, 9, 10, 11, 12, 45]
  | 9 => [0, 1, 8, 9, 10, 11, 12]
  | 10 => [0, 1, 8, 9, 10, 11]
  | 6 => [0, 1, 8, 9, 10, 11]
  | _ => []
theorem L44x0 : L44 0 = [0, 1, 8] := (rfl)
theorem L44x1 : L44 1 = [0, 1, 8, 17] := (rfl)
theorem L44x2 : L44 2 = [0, 1, 8, 9] := (rfl)
theorem L44x3 : L44 3 = [0, 1, 8, 9, 10] := (rfl)
theorem L44x4 : L44 4 = [0, 1, 8, 9, 10, 11] := (rfl)
theorem L44x5 : L44 5 = [0, 1, 8, 9, 10, 11, 35] := (rfl)
theorem L44x7 : L44 7 = [0, 1, 8, 9, 10, 11, 12] := (rfl)
theorem L44x8 : L44 8 = [0, 1, 8, 9, 10, 11, 12, 45] := (rfl)
theorem L44x9 : L44 9 = [0, 1, 8, 9, 10, 11, 12] := (rfl)
theorem L44x10 : L44 10 = [0, 1, 8, 9, 10, 11] := (rfl)
theorem L44x6 : L44 6 = [0, 1, 8, 9, 10, 11] := (rfl)
def ord44x10 : List Nat := [0, 1, 2, 3, 4, 5, 6, 7, 8, 9, 10, 11, 12, 13, 14, 15, 16, 17, 18, 19]
theorem fnOk44 : fnOk Try.prog 44 = true := by kernel_rfl
theorem rq44 {R : Value → AH → Nat → Prop} {env : Env} {H : AH} {nx : Nat} : retQ Try.prog Try.f44 R .ret env H nx = R (.tuple #[]) H nx := retQ_none rfl

theorem cv3x96 (lo : Nat) (k' : IntKind) (n : Int) (K : Value → AH → Nat → Prop) (H : AH) (nx : Nat) : convQ Try.prog lo 3 96 (.int k' n) K H nx = K (.int .u64 (IntKind.wrap .u64 n)) H nx := convQ_int (by kernel_rfl) (by kernel_rfl)
theorem cx3x96 (k' : IntKind) (n : Int) (H : AH) : convV Try.prog H 3 96 (.int k' n) = some (.int .u64 (IntKind.wrap .u64 n)) := convV_int (by kernel_rfl) (by kernel_rfl)
theorem zero96 : zeroT Try.prog 96 = some (.int .u64 0) := by kernel_rfl
theorem al96 (lo : Nat) (K : Value → AH → Nat → Prop) (H : AH) (nx : Nat) : allocQ Try.prog lo 96 K H nx = newQ 96 ((.int .u64 0) : Value).cells K H nx := alloc_new zero96
theorem st96 (lo : Nat) (b o : Nat) (v : Value) (K : AH → Nat → Prop) (H : AH) (nx : Nat) (hv : v.oneCell' = true) : storeQ Try.prog lo 96 (.pointer (some ⟨b, o, none⟩)) v K H nx = stQ lo b o v K H nx := store_one (by kernel_rfl) hv
theorem stc96 (lo : Nat) (b o : Nat) (k : IntKind) (n : Int) (K : AH → Nat → Prop) (H : AH) (nx : Nat) : storeQ Try.prog lo 96 (.pointer (some ⟨b, o, none⟩)) (.int k n) K H nx = stQ lo b o (.int k n) K H nx := store_one (by kernel_rfl) rfl
theorem cv66x3 (lo : Nat) (k' : IntKind) (n : Int) (K : Value → AH → Nat → Prop) (H : AH) (nx : Nat) : convQ Try.prog lo 66 3 (.int k' n) K H nx = K (.int .i64 (IntKind.wrap .i64 n)) H nx := convQ_int (by kernel_rfl) (by kernel_rfl)
theorem cx66x3 (k' : IntKind) (n : Int) (H : AH) : convV Try.prog H 66 3 (.int k' n) = some (.int .i64 (IntKind.wrap .i64 n)) := convV_int (by kernel_rfl) (by kernel_rfl)
/-! 45: slices.choosePivotCmpFunc[milestone/api.Row] · code of 65 operations -/
def L45 : Nat → List Nat
  | 0 => [0, 1, 2, 3]
  | 1 => [0, 1, 3, 10]
  | 2 => [0, 1, 3, 10, 11]
  | 3 => [0, 1, 3, 10, 11, 12]
  | 4 => [0, 1, 3, 10, 11, 12, 13]
  | 5 => [0, 3, 10, 11, 12, 13, 14]
  | 6 => [0, 3, 10, 11, 12, 13, 14, 34]
  | 7 => [0, 3, 11, 12, 13, 14, 36]
  | 8 => [0, 3, 11, 12, 13, 14]
  | 9 => [0, 3, 11, 12, 13, 14]
  | 10 => [0, 3, 11, 12, 13, 14]
  | 11 => [11, 13]
  | 12 => [13, 55]
  | 14 => [13, 55, 57]
  | 15 => [8, 9]
  | 16 => [13, 60]
  | 17 => [8, 9]
  | 13 => [8, 9]
  | _ => []
theorem L45x0 : L45 0 = [0, 1, 2, 3] := (rfl)
theorem L45x1 : L45 1 = [0, 1, 3, 10] := (rfl)
theorem L45x2 : L45 2 = [0, 1, 3, 10, 11] := (rfl)
theorem L45x3 : L45 3 = [0, 1, 3, 10, 11, 12] := (rfl)
theorem L45x4 : L45 4 = [0, 1, 3, 10, 11, 12, 13] := (rfl)
theorem L45x5 : L45 5 = [0, 3, 10, 11, 12, 13, 14] := (rfl)
theorem L45x6 : L45 6 = [0, 3, 10, 11, 12, 13, 14, 34] := (rfl)
theorem L45x7 : L45 7 = [0, 3, 11, 12, 13, 14, 36] := (rfl)
theorem L45x8 : L45 8 = [0, 3, 11, 12, 13, 14] := (rfl)
theorem L45x9 : L45 9 = [0, 3, 11, 12, 13, 14] := (rfl)
theorem L45x10 : L45 10 = [0, 3, 11, 12, 13, 14] := (rfl)
theorem L45x11 : L45 11 = [11, 13] := (rfl)
theorem L45x12 : L45 12 = [13, 55] := (rfl)
theorem L45x14 : L45 14 = [13, 55, 57] := (rfl)
theorem L45x15 : L45 15 = [8, 9] := (rfl)
theorem L45x16 : L45 16 = [13, 60] := (rfl)
theorem L45x17 : L45 17 = [8, 9] := (rfl)
theorem L45x13 : L45 13 = [8, 9] := (rfl)
theorem fnOk45 : fnOk Try.prog 45 = true := by kernel_rfl
theorem rq45 {R : Value → AH → Nat → Prop} {env : Env} {H : AH} {nx : Nat} : retQ Try.prog Try.f45 R .ret env H nx = onA (eg env 8) (fun v => onA (eg env 9) fun u => R (.tuple #[v, u]) H nx) := retQ_two rfl (of_decide_eq_true (by kernel_rfl)) (of_decide_eq_true (by kernel_rfl))

theorem al3 (lo : Nat) (K : Value → AH → Nat → Prop) (H : AH) (nx : Nat) : allocQ Try.prog lo 3 K H nx = newQ 3 ((.int .i64 0) : Value).cells K H nx := alloc_new zero3
/-! 46: slices.reverseRangeCmpFunc[milestone/api.Row] · code of 30 operations -/
def L46 : Nat → List Nat
  | 0 => [0, 2, 8]
  | 1 => [0, 8, 9]
  | 2 => [0, 8, 9, 15]
  | 3 => [0, 8, 9]
  | 4 => [0, 8, 9]
  | 5 => [0, 8, 9]
  | _ => []
theorem L46x0 : L46 0 = [0, 2, 8] := (rfl)
theorem L46x1 : L46 1 = [0, 8, 9] := (rfl)
theorem L46x2 : L46 2 = [0, 8, 9, 15] := (rfl)
theorem L46x3 : L46 3 = [0, 8, 9] := (rfl)
theorem L46x4 : L46 4 = [0, 8, 9] := (rfl)
theorem L46x5 : L46 5 = [0, 8, 9] := (rfl)
def ord46x3 : List Nat := [0, 1, 2, 3, 4, 5, 6, 7, 8, 9, 10, 11, 12, 13, 14, 15]
theorem fnOk46 : fnOk Try.prog 46 = true := by kernel_rfl
theorem rq46 {R : Value → AH → Nat → Prop} {env : Env} {H : AH} {nx : Nat} : retQ Try.prog Try.f46 R .ret env H nx = R (.tuple #[]) H nx := retQ_none rfl

/-! 47: slices.partialInsertionSortCmpFunc[milestone/api.Row] · code of 146 operations -/
def L47 : Nat → List Nat
  | 0 => [0, 1, 2, 3]
  | 1 => [0, 1, 2, 3, 9]
  | 2 => [0, 1, 2, 3, 9, 10]
  | 3 => [0, 1, 2, 3, 9, 10, 16]
  | 5 => [0, 1, 2, 3, 9, 10, 36]
  | 6 => [0, 1, 2, 3, 9, 10]
  | 7 => [0, 1, 2, 3, 9, 10, 41]
  | 8 => [8]
  | 9 => [0, 1, 2, 3, 9, 10, 45]
  | 10 => [8]
  | 11 => [0, 1, 2, 3, 9, 10]
  | 12 => [0, 1, 2, 3, 9, 10, 65]
  | 13 => [0, 1, 2, 3, 9, 10, 11]
  | 14 => [0, 1, 2, 3, 9, 10, 11, 69]
  | 16 => [0, 1, 2, 3, 9, 10, 11, 84]
  | 17 => [0, 1, 2, 3, 9, 10, 11]
  | 15 => [0, 1, 2, 3, 9, 10, 11]
  | 18 => [0, 1, 2, 3, 9, 10, 104]
  | 19 => [0, 1, 2, 3, 9, 10, 12]
  | 20 => [0, 1, 2, 3, 9, 10, 12, 109]
  | 22 => [0, 1, 2, 3, 9, 10, 12, 124]
  | 23 => [0, 1, 2, 3, 9, 10, 12]
  | 21 => [0, 1, 2, 3, 9, 10, 12]
  | 4 => [0, 1, 2, 3, 9, 10]
  | 24 => [8]
  | _ => []
theorem L47x0 : L47 0 = [0, 1, 2, 3] := (rfl)
theorem L47x1 : L47 1 = [0, 1, 2, 3, 9] := (rfl)
theorem L47x2 : L47 2 = [0, 1, 2, 3, 9, 10] := (rfl)
theorem L47x3 : L47 3 = [0, 1, 2, 3, 9, 10, 16] := (rfl)
theorem L47x5 : L47 5 = [0, 1, 2, 3, 9, 10, 36] := (rfl)
theorem L47x6 : L47 6 = [0, 1, 2, 3, 9, 10] := (rfl)
theorem L47x7 : L47 7 = [0, 1, 2, 3, 9, 10, 41] := (rfl)
theorem L47x8 : L47 8 = [8] := (rfl)
theorem L47x9 : L47 9 = [0, 1, 2, 3, 9, 10, 45] := (rfl)
theorem L47x10 : L47 10 = [8] := (rfl)
theorem L47x11 : L47 11 = [0, 1, 2, 3, 9, 10] := (rfl)
theorem L47x12 : L47 12 = [0, 1, 2, 3, 9, 10, 65] := (rfl)
theorem L47x13 : L47 13 = [0, 1, 2, 3, 9, 10, 11] := (rfl)
theorem L47x14 : L47 14 = [0, 1, 2, 3, 9, 10, 11, 69] := (rfl)
theorem L47x16 : L47 16 = [0, 1, 2, 3, 9, 10, 11, 84] := (rfl)
theorem L47x17 : L47 17 = [0, 1, 2, 3, 9, 10, 11] := (rfl)
theorem L47x15 : L47 15 = [0, 1, 2, 3, 9, 10, 11] := (rfl)
theorem L47x18 : L47 18 = [0, 1, 2, 3, 9, 10, 104] := (rfl)
theorem L47x19 : L47 19 = [0, 1, 2, 3, 9, 10, 12] := (rfl)
theorem L47x20 : L47 20 = [0, 1, 2, 3, 9, 10, 12, 109] := (rfl)
theorem L47x22 : L47 22 = [0, 1, 2, 3, 9, 10, 12, 124] := (rfl)
theorem L47x23 : L47 23 = [0, 1, 2, 3, 9, 10, 12] := (rfl)
theorem L47x21 : L47 21 = [0, 1, 2, 3, 9, 10, 12] := (rfl)
theorem L47x4 : L47 4 = [0, 1, 2, 3, 9, 10] := (rfl)
theorem L47x24 : L47 24 = [8] := (rfl)
def ord47x5 : List Nat := [0, 1, 2, 3, 4, 5, 6, 7, 8, 9, 10, 11, 12, 13, 14, 15, 16, 17]
def ord47x11 : List Nat := [0, 1, 2, 3, 4, 5, 6, 7, 8, 9, 10, 11, 12, 13, 14, 15, 16, 17]
def ord47x16 : List Nat := [0, 1, 2, 3, 4, 5, 6, 7, 8, 9, 10, 11, 12]
def ord47x17 : List Nat := [0, 1, 2, 3, 4, 5, 6, 7, 8, 9, 10, 11, 12, 13, 14, 15, 16, 17]
def ord47x22 : List Nat := [0, 1, 2, 3, 4, 5, 6, 7, 8, 9, 10, 11, 12]
def ord47x23 : List Nat := [0, 1, 2, 3, 4, 5, 6, 7, 8, 9, 10, 11, 12, 13, 14, 15, 16, 17]
theorem fnOk47 : fnOk Try.prog 47 = true := by kernel_rfl
theorem rq47 {R : Value → AH → Nat → Prop} {env : Env} {H : AH} {nx : Nat} : retQ Try.prog Try.f47 R .ret env H nx = onV (eg env 8) R H nx := retQ_one rfl (of_decide_eq_true (by kernel_rfl))

/-! 48: slices.partitionEqualCmpFunc[milestone/api.Row] · code of 89 operations -/
def L48 : Nat → List Nat
  | 0 => [0, 1, 2, 3, 4]
  | 1 => [0, 1, 2, 4]
  | 2 => [0, 1, 4, 11, 12]
  | 3 => [0, 1, 4, 11, 12, 47]
  | 4 => [0, 1, 4, 11, 12]
  | 5 => [0, 1, 4, 11, 12, 65]
  | 6 => [0, 1, 4, 11, 12]
  | 7 => [0, 1, 4, 11, 12, 70]
  | 8 => [0, 1, 4, 11, 12]
  | 9 => [0, 1, 4, 11, 12]
  | 10 => [0, 1, 4, 11, 12]
  | 11 => [10]
  | _ => []
theorem L48x0 : L48 0 = [0, 1, 2, 3, 4] := (rfl)
theorem L48x1 : L48 1 = [0, 1, 2, 4] := (rfl)
theorem L48x2 : L48 2 = [0, 1, 4, 11, 12] := (rfl)
theorem L48x3 : L48 3 = [0, 1, 4, 11, 12, 47] := (rfl)
theorem L48x4 : L48 4 = [0, 1, 4, 11, 12] := (rfl)
theorem L48x5 : L48 5 = [0, 1, 4, 11, 12, 65] := (rfl)
theorem L48x6 : L48 6 = [0, 1, 4, 11, 12] := (rfl)
theorem L48x7 : L48 7 = [0, 1, 4, 11, 12, 70] := (rfl)
theorem L48x8 : L48 8 = [0, 1, 4, 11, 12] := (rfl)
theorem L48x9 : L48 9 = [0, 1, 4, 11, 12] := (rfl)
theorem L48x10 : L48 10 = [0, 1, 4, 11, 12] := (rfl)
theorem L48x11 : L48 11 = [10] := (rfl)
def ord48x1 : List Nat := [0, 1, 2, 3, 4, 5, 6, 7, 8, 9, 10, 11, 12, 13, 14, 15]
def ord48x3 : List Nat := [0, 1, 2, 3, 4, 5, 6, 7, 8, 9, 10, 11, 12, 13, 14, 15, 16]
def ord48x5 : List Nat := [0, 1, 2, 3, 4, 5, 6, 7, 8, 9, 10, 11, 12, 13, 14, 15]
def ord48x8 : List Nat := [0, 1, 2, 3, 4, 5, 6, 7, 8, 9, 10, 11, 12, 13, 14, 15]
theorem fnOk48 : fnOk Try.prog 48 = true := by kernel_rfl
theorem rq48 {R : Value → AH → Nat → Prop} {env : Env} {H : AH} {nx : Nat} : retQ Try.prog Try.f48 R .ret env H nx = onV (eg env 10) R H nx := retQ_one rfl (of_decide_eq_true (by kernel_rfl))

/-! 49: slices.partitionCmpFunc[milestone/api.Row] · code of 190 operations -/
def L49 : Nat → List Nat
  | 0 => [0, 1, 2, 3, 4]
  | 1 => [0, 1, 2, 4]
  | 2 => [0, 1, 4, 12, 13]
  | 3 => [0, 1, 4, 12, 13, 47]
  | 4 => [0, 1, 4, 12, 13]
  | 5 => [0, 1, 4, 12, 13, 66]
  | 6 => [0, 1, 4, 12, 13]
  | 7 => [0, 1, 4, 12, 13, 71]
  | 8 => [13]
  | 9 => [10, 11]
  | 10 => [0, 1, 4, 12, 13]
  | 11 => [0, 1, 4, 12, 13]
  | 12 => [0, 1, 4, 12, 13]
  | 13 => [0, 1, 4, 12, 13, 120]
  | 14 => [0, 1, 4, 12, 13]
  | 15 => [0, 1, 4, 12, 13, 139]
  | 16 => [0, 1, 4, 12, 13]
  | 17 => [0, 1, 4, 12, 13, 144]
  | 18 => [0, 1, 4, 12, 13]
  | 19 => [0, 1, 4, 12, 13]
  | 20 => [0, 1, 4, 12, 13]
  | 21 => [13]
  | 22 => [10, 11]
  | _ => []
theorem L49x0 : L49 0 = [0, 1, 2, 3, 4] := (rfl)
theorem L49x1 : L49 1 = [0, 1, 2, 4] := (rfl)
theorem L49x2 : L49 2 = [0, 1, 4, 12, 13] := (rfl)
theorem L49x3 : L49 3 = [0, 1, 4, 12, 13, 47] := (rfl)
theorem L49x4 : L49 4 = [0, 1, 4, 12, 13] := (rfl)
theorem L49x5 : L49 5 = [0, 1, 4, 12, 13, 66] := (rfl)
theorem L49x6 : L49 6 = [0, 1, 4, 12, 13] := (rfl)
theorem L49x7 : L49 7 = [0, 1, 4, 12, 13, 71] := (rfl)
theorem L49x8 : L49 8 = [13] := (rfl)
theorem L49x9 : L49 9 = [10, 11] := (rfl)
theorem L49x10 : L49 10 = [0, 1, 4, 12, 13] := (rfl)
theorem L49x11 : L49 11 = [0, 1, 4, 12, 13] := (rfl)
theorem L49x12 : L49 12 = [0, 1, 4, 12, 13] := (rfl)
theorem L49x13 : L49 13 = [0, 1, 4, 12, 13, 120] := (rfl)
theorem L49x14 : L49 14 = [0, 1, 4, 12, 13] := (rfl)
theorem L49x15 : L49 15 = [0, 1, 4, 12, 13, 139] := (rfl)
theorem L49x16 : L49 16 = [0, 1, 4, 12, 13] := (rfl)
theorem L49x17 : L49 17 = [0, 1, 4, 12, 13, 144] := (rfl)
theorem L49x18 : L49 18 = [0, 1, 4, 12, 13] := (rfl)
theorem L49x19 : L49 19 = [0, 1, 4, 12, 13] := (rfl)
theorem L49x20 : L49 20 = [0, 1, 4, 12, 13] := (rfl)
theorem L49x21 : L49 21 = [13] := (rfl)
theorem L49x22 : L49 22 = [10, 11] := (rfl)
def ord49x1 : List Nat := [0, 1, 2, 3, 4, 5, 6, 7, 8, 9, 10, 11, 12, 13, 14, 15]
def ord49x3 : List Nat := [0, 1, 2, 3, 4, 5, 6, 7, 8, 9, 10, 11, 12, 13, 14, 15]
def ord49x5 : List Nat := [0, 1, 2, 3, 4, 5, 6, 7, 8, 9, 10, 11, 12, 13, 14, 15, 16]
def ord49x8 : List Nat := [0, 1, 2, 3, 4, 5, 6, 7, 8, 9, 10, 11, 12, 13, 14, 15]
def ord49x10 : List Nat := [0, 1, 2, 3, 4, 5, 6, 7, 8, 9, 10, 11, 12, 13, 14, 15]
def ord49x13 : List Nat := [0, 1, 2, 3, 4, 5, 6, 7, 8, 9, 10, 11, 12, 13, 14, 15]
def ord49x15 : List Nat := [0, 1, 2, 3, 4, 5, 6, 7, 8, 9, 10, 11, 12, 13, 14, 15, 16]
def ord49x18 : List Nat := [0, 1, 2, 3, 4, 5, 6, 7, 8, 9, 10, 11, 12, 13, 14, 15]
def ord49x21 : List Nat := [0, 1, 2, 3, 4, 5, 6, 7, 8, 9, 10, 11, 12, 13, 14, 15]
theorem fnOk49 : fnOk Try.prog 49 = true := by kernel_rfl
theorem rq49 {R : Value → AH → Nat → Prop} {env : Env} {H : AH} {nx : Nat} : retQ Try.prog Try.f49 R .ret env H nx = onA (eg env 10) (fun v => onA (eg env 11) fun u => R (.tuple #[v, u]) H nx) := retQ_two rfl (of_decide_eq_true (by kernel_rfl)) (of_decide_eq_true (by kernel_rfl))

/-! 50: math/bits.Len32 · code of 22 operations -/
def L50 : Nat → List Nat
  | 0 => [0, 2]
  | 1 => [0, 2, 4]
  | 2 => [0]
  | 3 => [0, 2]
  | 4 => [0, 2, 8]
  | 5 => [0, 2]
  | 6 => [0, 2]
  | 7 => [2]
  | _ => []
theorem L50x0 : L50 0 = [0, 2] := (rfl)
theorem L50x1 : L50 1 = [0, 2, 4] := (rfl)
theorem L50x2 : L50 2 = [0] := (rfl)
theorem L50x3 : L50 3 = [0, 2] := (rfl)
theorem L50x4 : L50 4 = [0, 2, 8] := (rfl)
theorem L50x5 : L50 5 = [0, 2] := (rfl)
theorem L50x6 : L50 6 = [0, 2] := (rfl)
theorem L50x7 : L50 7 = [2] := (rfl)
theorem fnOk50 : fnOk Try.prog 50 = true := by kernel_rfl
theorem rq50 {R : Value → AH → Nat → Prop} {env : Env} {H : AH} {nx : Nat} : retQ Try.prog Try.f50 R .ret env H nx = onV (eg env 2) R H nx := retQ_one rfl (of_decide_eq_true (by kernel_rfl))

theorem cv40x5 (lo : Nat) (k' : IntKind) (n : Int) (K : Value → AH → Nat → Prop) (H : AH) (nx : Nat) : convQ Try.prog lo 40 5 (.int k' n) K H nx = K (.int .u8 (IntKind.wrap .u8 n)) H nx := convQ_int (by kernel_rfl) (by kernel_rfl)
theorem cx40x5 (k' : IntKind) (n : Int) (H : AH) : convV Try.prog H 40 5 (.int k' n) = some (.int .u8 (IntKind.wrap .u8 n)) := convV_int (by kernel_rfl) (by kernel_rfl)
theorem ix9 (H : AH) (s : ByteArray) (kk : IntKind) (i : Int) (h0 : 0 ≤ i) (h1 : i < s.size) : indexV Try.prog H 9 (.string s) (.int kk i) = some (.int .u8 (s.data[i.toNat]!).toNat) := index_str (by kernel_rfl) h0 h1
/-! 51: math/bits.Len64 · code of 30 operations -/
def L51 : Nat → List Nat
  | 0 => [0, 2]
  | 1 => [0, 2, 4]
  | 2 => [0]
  | 3 => [0, 2]
  | 4 => [0, 2, 8]
  | 5 => [0, 2]
  | 6 => [0, 2]
  | 7 => [0, 2, 14]
  | 8 => [0, 2]
  | 9 => [0, 2]
  | 10 => [2]
  | _ => []
theorem L51x0 : L51 0 = [0, 2] := (rfl)
theorem L51x1 : L51 1 = [0, 2, 4] := (rfl)
theorem L51x2 : L51 2 = [0] := (rfl)
theorem L51x3 : L51 3 = [0, 2] := (rfl)
theorem L51x4 : L51 4 = [0, 2, 8] := (rfl)
theorem L51x5 : L51 5 = [0, 2] := (rfl)
theorem L51x6 : L51 6 = [0, 2] := (rfl)
theorem L51x7 : L51 7 = [0, 2, 14] := (rfl)
theorem L51x8 : L51 8 = [0, 2] := (rfl)
theorem L51x9 : L51 9 = [0, 2] := (rfl)
theorem L51x10 : L51 10 = [2] := (rfl)
theorem fnOk51 : fnOk Try.prog 51 = true := by kernel_rfl
theorem rq51 {R : Value → AH → Nat → Prop} {env : Env} {H : AH} {nx : Nat} : retQ Try.prog Try.f51 R .ret env H nx = onV (eg env 2) R H nx := retQ_one rfl (of_decide_eq_true (by kernel_rfl))

theorem cv29x5 (lo : Nat) (k' : IntKind) (n : Int) (K : Value → AH → Nat → Prop) (H : AH) (nx : Nat) : convQ Try.prog lo 29 5 (.int k' n) K H nx = K (.int .u8 (IntKind.wrap .u8 n)) H nx := convQ_int (by kernel_rfl) (by kernel_rfl)
theorem cx29x5 (k' : IntKind) (n : Int) (H : AH) : convV Try.prog H 29 5 (.int k' n) = some (.int .u8 (IntKind.wrap .u8 n)) := convV_int (by kernel_rfl) (by kernel_rfl)
/-! 52: cmp.isNaN[uint32] · code of 5 operations -/
def L52 : Nat → List Nat
  | 0 => [0]
  | 1 => [2]
  | _ => []
theorem L52x0 : L52 0 = [0] := (rfl)
theorem L52x1 : L52 1 = [2] := (rfl)
theorem fnOk52 : fnOk Try.prog 52 = true := by kernel_rfl
theorem rq52 {R : Value → AH → Nat → Prop} {env : Env} {H : AH} {nx : Nat} : retQ Try.prog Try.f52 R .ret env H nx = onV (eg env 2) R H nx := retQ_one rfl (of_decide_eq_true (by kernel_rfl))

/-! 53: cmp.isNaN[uint8] · code of 5 operations -/
def L53 : Nat → List Nat
  | 0 => [0]
  | 1 => [2]
  | _ => []
theorem L53x0 : L53 0 = [0] := (rfl)
theorem L53x1 : L53 1 = [2] := (rfl)
theorem fnOk53 : fnOk Try.prog 53 = true := by kernel_rfl
theorem rq53 {R : Value → AH → Nat → Prop} {env : Env} {H : AH} {nx : Nat} : retQ Try.prog Try.f53 R .ret env H nx = onV (eg env 2) R H nx := retQ_one rfl (of_decide_eq_true (by kernel_rfl))

/-! 54: slices.siftDownCmpFunc[milestone/api.Row] · code of 76 operations -/
def L54 : Nat → List Nat
  | 0 => [0, 2, 3, 4, 10]
  | 1 => [0, 2, 3, 4, 10, 11]
  | 2 => [0, 2, 3, 4, 10, 11, 18]
  | 3 => [0, 2, 3, 4, 10, 11, 40]
  | 4 => [0, 2, 3, 4, 10, 11]
  | 5 => [0, 2, 3, 4, 10, 11, 58]
  | 6 => [0, 2, 3, 4, 11]
  | 7 => [0, 2, 3, 4, 10]
  | _ => []
theorem L54x0 : L54 0 = [0, 2, 3, 4, 10] := (rfl)
theorem L54x1 : L54 1 = [0, 2, 3, 4, 10, 11] := (rfl)
theorem L54x2 : L54 2 = [0, 2, 3, 4, 10, 11, 18] := (rfl)
theorem L54x3 : L54 3 = [0, 2, 3, 4, 10, 11, 40] := (rfl)
theorem L54x4 : L54 4 = [0, 2, 3, 4, 10, 11] := (rfl)
theorem L54x5 : L54 5 = [0, 2, 3, 4, 10, 11, 58] := (rfl)
theorem L54x6 : L54 6 = [0, 2, 3, 4, 11] := (rfl)
theorem L54x7 : L54 7 = [0, 2, 3, 4, 10] := (rfl)
def ord54x3 : List Nat := [0, 1, 2, 3, 4, 5, 6, 7, 8, 9, 10, 11, 12, 13, 14, 15, 16, 17, 18, 19, 20, 21]
def ord54x5 : List Nat := [0, 1, 2, 3, 4, 5, 6, 7, 8, 9, 10, 11, 12, 13, 14, 15]
def ord54x6 : List Nat := [0, 1, 2, 3, 4, 5, 6, 7, 8, 9, 10, 11, 12, 13, 14, 15, 16, 17, 18, 19, 20, 21, 22, 23]
theorem fnOk54 : fnOk Try.prog 54 = true := by kernel_rfl
theorem rq54 {R : Value → AH → Nat → Prop} {env : Env} {H : AH} {nx : Nat} : retQ Try.prog Try.f54 R .ret env H nx = R (.tuple #[]) H nx := retQ_none rfl

/-! 55: slices.nextPowerOfTwo · code of 6 operations -/
def L55 : Nat → List Nat
  | 0 => [0]
  | 1 => [2]
  | _ => []
theorem L55x0 : L55 0 = [0] := (rfl)
theorem L55x1 : L55 1 = [2] := (rfl)
theorem fnOk55 : fnOk Try.prog 55 = true := by kernel_rfl
theorem rq55 {R : Value → AH → Nat → Prop} {env : Env} {H : AH} {nx : Nat} : retQ Try.prog Try.f55 R .ret env H nx = onV (eg env 2) R H nx := retQ_one rfl (of_decide_eq_true (by kernel_rfl))

/-! 56: (*slices.xorshift).Next · code of 35 operations -/
def L56 : Nat → List Nat
  | 0 => [0]
  | 1 => [0]
  | 2 => [0]
  | 3 => [0]
  | 4 => [2]
  | _ => []
theorem L56x0 : L56 0 = [0] := (rfl)
theorem L56x1 : L56 1 = [0] := (rfl)
theorem L56x2 : L56 2 = [0] := (rfl)
theorem L56x3 : L56 3 = [0] := (rfl)
theorem L56x4 : L56 4 = [2] := (rfl)
def ord56x1 : List Nat := [0, 1, 2, 3, 4, 5, 6, 7, 8, 9]
def ord56x2 : List Nat := [0, 1, 2, 3, 4, 5, 6, 7, 8, 9]
def ord56x3 : List Nat := [0, 1, 2, 3, 4, 5, 6, 7, 8, 9]
theorem fnOk56 : fnOk Try.prog 56 = true := by kernel_rfl
theorem rq56 {R : Value → AH → Nat → Prop} {env : Env} {H : AH} {nx : Nat} : retQ Try.prog Try.f56 R .ret env H nx = onV (eg env 2) R H nx := retQ_one rfl (of_decide_eq_true (by kernel_rfl))

theorem ld96 (H : AH) (b o : Nat) : loadV Try.prog H 96 (.pointer (some ⟨b, o, none⟩)) = H.c b o := load_one (by kernel_rfl)
/-! 57: slices.medianAdjacentCmpFunc[milestone/api.Row] · code of 11 operations -/
def L57 : Nat → List Nat
  | 0 => [0, 1, 2, 3]
  | 1 => [8]
  | _ => []
theorem L57x0 : L57 0 = [0, 1, 2, 3] := (rfl)
theorem L57x1 : L57 1 = [8] := (rfl)
theorem fnOk57 : fnOk Try.prog 57 = true := by kernel_rfl
theorem rq57 {R : Value → AH → Nat → Prop} {env : Env} {H : AH} {nx : Nat} : retQ Try.prog Try.f57 R .ret env H nx = onV (eg env 8) R H nx := retQ_one rfl (of_decide_eq_true (by kernel_rfl))

/-! 58: slices.medianCmpFunc[milestone/api.Row] · code of 36 operations -/
def L58 : Nat → List Nat
  | 0 => [0, 1, 2, 3, 4, 5]
  | 1 => [0, 1, 2, 3, 4, 5]
  | 2 => [0, 1, 2, 4, 5]
  | 3 => [2]
  | 4 => [12]
  | _ => []
theorem L58x0 : L58 0 = [0, 1, 2, 3, 4, 5] := (rfl)
theorem L58x1 : L58 1 = [0, 1, 2, 3, 4, 5] := (rfl)
theorem L58x2 : L58 2 = [0, 1, 2, 4, 5] := (rfl)
theorem L58x3 : L58 3 = [2] := (rfl)
theorem L58x4 : L58 4 = [12] := (rfl)
theorem fnOk58 : fnOk Try.prog 58 = true := by kernel_rfl
theorem rq58 {R : Value → AH → Nat → Prop} {env : Env} {H : AH} {nx : Nat} : retQ Try.prog Try.f58 R .ret env H nx = onV (eg env 12) R H nx := retQ_one rfl (of_decide_eq_true (by kernel_rfl))

/-! 59: slices.order2CmpFunc[milestone/api.Row] · code of 27 operations -/
def L59 : Nat → List Nat
  | 0 => [0, 1, 2, 3, 4]
  | 1 => [1, 2, 3, 22]
  | 2 => [1, 2]
  | 3 => [10, 11]
  | 4 => [10, 11]
  | _ => []
theorem L59x0 : L59 0 = [0, 1, 2, 3, 4] := (rfl)
theorem L59x1 : L59 1 = [1, 2, 3, 22] := (rfl)
theorem L59x2 : L59 2 = [1, 2] := (rfl)
theorem L59x3 : L59 3 = [10, 11] := (rfl)
theorem L59x4 : L59 4 = [10, 11] := (rfl)
def ord59x1 : List Nat := [0, 1, 2, 3, 4, 5, 6, 7, 8, 9, 10]
theorem fnOk59 : fnOk Try.prog 59 = true := by kernel_rfl
theorem rq59 {R : Value → AH → Nat → Prop} {env : Env} {H : AH} {nx : Nat} : retQ Try.prog Try.f59 R .ret env H nx = onA (eg env 10) (fun v => onA (eg env 11) fun u => R (.tuple #[v, u]) H nx) := retQ_two rfl (of_decide_eq_true (by kernel_rfl)) (of_decide_eq_true (by kernel_rfl))

attribute [go_sem] L3x0 L3x1 L3x2 L3x3 L3x4 L3x5 L3x6 L3x7 L3x8 L3x9 L3x10 L3x12 L3x13 L3x15 L3x16 L3x17 L3x18 L3x19 L3x14 L3x20 L3x21 L3x22 L3x23 L3x24 L3x25 L3x26 L3x11 L3x27 fnOk3 rq3 len22 len23 eqp27 nep27 ia23 ld5 cv5x3 cx5x3 len25 L4x0 L4x1 L4x2 L4x3 L4x4 L4x5 fnOk4 rq4 bd42x0x1 bd45x0 bd47x0x3 L5x0 L5x1 L5x2 L5x3 L5x4 L5x6 L5x7 L5x8 L5x9 L5x10 L5x11 L5x12 L5x13 L5x14 L5x15 L5x5 L5x16 fnOk5 rq5 ia22 ld49 al49 st49 fa49x4 cv5x29 cx5x29 cv3x29 cx3x29 bd47x0x1 al47 st47 fa49x0 al42 st42 ld42 al54 st54 fa54x1 ld4 fa49x1 fa47x2 st4 stc4 fa47x3 st45 fa49x2 cv5x43 cx5x43 fa49x3 bd45x0x1x2x3 ld47 L6x0 L6x1 L6x2 L6x3 L6x5 L6x6 L6x4 L6x7 fnOk6 rq6 ia25 L7x0 L7x1 L7x2 L7x3 L7x4 L7x5 L7x6 L7x7 fnOk7 rq7 fa60x2 ld3 fa60x0 ld25 st3 stc3 L8x0 L8x1 fnOk8 rq8 fa60x1 L9x0 L9x1 L9x2 L9x3 L9x4 L9x5 L9x6 fnOk9 rq9 st25 stc25 L10x0 L10x1 L10x2 L10x3 fnOk10 rq10 L11x0 L11x1 L11x2 L11x3 fnOk11 rq11 fi47x1 L12x0 L12x1 L12x2 L12x3 fnOk12 rq12 L13x0 L13x1 L13x2 L13x3 fnOk13 rq13 L14x0 L14x1 L14x2 L14x3 fnOk14 rq14 L15x0 L15x1 L15x2 L15x3 L15x4 L15x5 L15x6 L15x7 L15x8 L15x9 L15x10 L15x11 L15x12 L15x13 L15x14 L15x15 fnOk15 rq15 fa47x1 ld29 len63 ia63 ld54 fa54x2 ld45 L16x0 L16x1 fnOk16 rq16 cv5x40 cx5x40 L17x0 L17x1 L17x2 L17x3 L17x4 L17x6 L17x7 L17x8 L17x9 L17x10 L17x11 L17x12 L17x13 L17x14 L17x5 L17x15 fnOk17 rq17 bd54x0 fa45x0 eqg42 neg42 fa45x3 ld43 fa45x2 bd52x0x1 al52 st52 ld52 fa54x3 L18x0 L18x1 fnOk18 rq18 bd0x60 L19x0 L19x1 L19x2 L19x3 L19x4 L19x5 L19x6 L19x7 L19x8 fnOk19 rq19 L20x0 L20x1 L20x2 L20x3 fnOk20 rq20 bd0x47 L21x0 L21x1 L21x2 L21x3 fnOk21 rq21 eqs25 nes25 L22x0 L22x1 L22x2 L22x3 L22x4 L22x5 L22x6 L22x7 L22x8 L22x10 L22x11 L22x12 L22x13 L22x9 L22x14 L22x15 L22x16 L22x17 L22x18 L22x19 L22x20 L22x21 L22x22 fnOk22 rq22 bd54x0x1x2x3 L23x0 L23x1 L23x2 L23x3 L23x4 L23x5 L23x7 L23x8 L23x9 L23x6 L23x10 fnOk23 rq23 L24x0 L24x1 L24x2 L24x3 fnOk24 rq24 fa52x0 fa52x1 L25x0 L25x1 L25x2 L25x3 L25x4 L25x5 L25x6 fnOk25 rq25 al45 eqg45 neg45 fa45x1 L26x0 L26x1 fnOk26 rq26 fa47x0 L27x0 L27x1 L27x2 L27x3 fnOk27 rq27 L28x0 L28x1 fnOk28 rq28 cv3x66 cx3x66 L29x0 L29x1 fnOk29 rq29 fa54x0 L30x0 L30x1 fnOk30 rq30 fa42x0 ld40 fa42x1 L31x0 L31x1 L31x3 L31x2 L31x4 fnOk31 rq31 L32x0 L32x1 L32x2 fnOk32 rq32 cv43x3 cx43x3 L33x0 L33x1 fnOk33 rq33 L34x0 L34x1 fnOk34 rq34 L35x0 L35x1 L35x2 L35x3 L35x4 L35x5 L35x6 L35x7 L35x8 L35x9 L35x10 L35x11 L35x12 L35x13 L35x14 L35x15 L35x16 L35x17 L35x18 L35x19 L35x20 L35x21 L35x22 L35x23 L35x24 L35x25 L35x26 L35x27 L35x28 L35x29 L35x30 fnOk35 rq35 L36x0 L36x1 L36x2 fnOk36 rq36 cv66x40 cx66x40 L37x0 L37x1 L37x2 L37x3 L37x4 L37x5 L37x6 L37x7 L37x8 fnOk37 rq37 len93 ia93 L38x0 L38x1 L38x2 L38x3 L38x4 L38x5 L38x6 L38x7 L38x8 L38x9 L38x10 L38x11 L38x12 L38x13 fnOk38 rq38 L39x0 L39x1 L39x2 L39x3 L39x4 L39x5 L39x6 L39x7 L39x8 L39x9 L39x10 L39x11 L39x12 L39x13 fnOk39 rq39 L40x0 L40x1 L40x2 L40x3 fnOk40 rq40 L41x0 L41x1 fnOk41 rq41 L42x0 L42x1 L42x3 L42x4 L42x6 L42x5 L42x2 fnOk42 rq42 L43x0 L43x1 L43x2 L43x3 L43x4 L43x6 L43x5 L43x7 L43x8 L43x10 L43x11 L43x9 fnOk43 rq43 L44x0 L44x1 L44x2 L44x3 L44x4 L44x5 L44x7 L44x8 L44x9 L44x10 L44x6 fnOk44 rq44 cv3x96 cx3x96 al96 st96 stc96 cv66x3 cx66x3 L45x0 L45x1 L45x2 L45x3 L45x4 L45x5 L45x6 L45x7 L45x8 L45x9 L45x10 L45x11 L45x12 L45x14 L45x15 L45x16 L45x17 L45x13 fnOk45 rq45 al3 L46x0 L46x1 L46x2 L46x3 L46x4 L46x5 fnOk46 rq46 L47x0 L47x1 L47x2 L47x3 L47x5 L47x6 L47x7 L47x8 L47x9 L47x10 L47x11 L47x12 L47x13 L47x14 L47x16 L47x17 L47x15 L47x18 L47x19 L47x20 L47x22 L47x23 L47x21 L47x4 L47x24 fnOk47 rq47 L48x0 L48x1 L48x2 L48x3 L48x4 L48x5 L48x6 L48x7 L48x8 L48x9 L48x10 L48x11 fnOk48 rq48 L49x0 L49x1 L49x2 L49x3 L49x4 L49x5 L49x6 L49x7 L49x8 L49x9 L49x10 L49x11 L49x12 L49x13 L49x14 L49x15 L49x16 L49x17 L49x18 L49x19 L49x20 L49x21 L49x22 fnOk49 rq49 L50x0 L50x1 L50x2 L50x3 L50x4 L50x5 L50x6 L50x7 fnOk50 rq50 cv40x5 cx40x5 ix9 L51x0 L51x1 L51x2 L51x3 L51x4 L51x5 L51x6 L51x7 L51x8 L51x9 L51x10 fnOk51 rq51 cv29x5 cx29x5 L52x0 L52x1 fnOk52 rq52 L53x0 L53x1 fnOk53 rq53 L54x0 L54x1 L54x2 L54x3 L54x4 L54x5 L54x6 L54x7 fnOk54 rq54 L55x0 L55x1 fnOk55 rq55 L56x0 L56x1 L56x2 L56x3 L56x4 fnOk56 rq56 ld96 L57x0 L57x1 fnOk57 rq57 L58x0 L58x1 L58x2 L58x3 L58x4 fnOk58 rq58 L59x0 L59x1 L59x2 L59x3 L59x4 fnOk59 rq59
end Go.Proofs.Ytgafnliohmdmoaa
