import Derived.Test.YtidchkmpfkknbaaL15
namespace Go.Proofs.Ytidchkmpfkknbaa
open Go.RowKit
set_option linter.unusedSimpArgs false
/-! 3: milestone/milestonelaw16.RoutesLast · code of 68 operations -/
def L3 : Nat → List Nat
  | 0 => [0, 1, 3, 6]
  | 1 => [0, 1, 3, 6, 19]
  | 2 => [8]
  | 3 => [0, 1, 3, 6, 9]
  | 4 => [1, 3, 6, 9, 10]
  | 5 => [1, 3, 6, 9, 10]
  | 6 => [1, 3, 6, 9, 10]
  | 7 => [1, 3, 6, 9, 10, 11]
  | 8 => [3, 9, 11]
  | 9 => [9, 11]
  | 10 => [9, 11, 12]
  | 11 => [9, 11, 12]
  | 12 => [8]
  | _ => []
theorem L3x0 : L3 0 = [0, 1, 3, 6] := (rfl)
theorem L3x1 : L3 1 = [0, 1, 3, 6, 19] := (rfl)
theorem L3x2 : L3 2 = [8] := (rfl)
theorem L3x3 : L3 3 = [0, 1, 3, 6, 9] := (rfl)
theorem L3x4 : L3 4 = [1, 3, 6, 9, 10] := (rfl)
theorem L3x5 : L3 5 = [1, 3, 6, 9, 10] := (rfl)
theorem L3x6 : L3 6 = [1, 3, 6, 9, 10] := (rfl)
theorem L3x7 : L3 7 = [1, 3, 6, 9, 10, 11] := (rfl)
theorem L3x8 : L3 8 = [3, 9, 11] := (rfl)
theorem L3x9 : L3 9 = [9, 11] := (rfl)
theorem L3x10 : L3 10 = [9, 11, 12] := (rfl)
theorem L3x11 : L3 11 = [9, 11, 12] := (rfl)
theorem L3x12 : L3 12 = [8] := (rfl)
def ord3x5 : List Nat := [0, 1, 2, 4, 3, 5]
def ord3x8 : List Nat := [0, 1, 2, 4, 3, 5]
theorem fnOk3 : fnOk Try.prog 3 = true := by kernel_rfl
theorem rq3 {R : Value → AH → Nat → Prop} {env : Env} {H : AH} {nx : Nat} : retQ Try.prog Try.f3 R .ret env H nx = onV (eg env 8) R H nx := retQ_one rfl (of_decide_eq_true (by kernel_rfl))

theorem fa24x1 (H : AH) (b o : Nat) : fieldAV Try.prog H 24 1 (.pointer (some ⟨b, o, none⟩)) = some (.pointer (some ⟨b, o + 1, none⟩)) := fieldAV_eq 24 1 b o false 0 1 (by kernel_rfl)
theorem ld22 (H : AH) (b o : Nat) : loadV Try.prog H 22 (.pointer (some ⟨b, o, none⟩)) = H.c b o := load_one (by kernel_rfl)
theorem cv5x3 (lo : Nat) (k' : IntKind) (n : Int) (K : Value → AH → Nat → Prop) (H : AH) (nx : Nat) : convQ Try.prog lo 5 3 (.int k' n) K H nx = K (.int .i64 (IntKind.wrap .i64 n)) H nx := convQ_int (by kernel_rfl) (by kernel_rfl)
theorem cx5x3 (k' : IntKind) (n : Int) (H : AH) : convV Try.prog H 5 3 (.int k' n) = some (.int .i64 (IntKind.wrap .i64 n)) := convV_int (by kernel_rfl) (by kernel_rfl)
theorem ld24 (H : AH) (b o : Nat) : loadV Try.prog H 24 (.pointer (some ⟨b, o, none⟩)) = (loadN H b o 2).map fun l => .agg l.toArray := load_agg (by kernel_rfl) (by kernel_rfl)
theorem len36 (H : AH) (ty : TypeId) (a : Option Addr) (n c : Nat) : lenV Try.prog H #[36] ty #[.slice a n c] = some (.int .i64 n) := lenV_slice 36 52 ty 7 a n c (by kernel_rfl)
theorem cv5x34 (lo : Nat) (k' : IntKind) (n : Int) (K : Value → AH → Nat → Prop) (H : AH) (nx : Nat) : convQ Try.prog lo 5 34 (.int k' n) K H nx = K (.int .u64 (IntKind.wrap .u64 n)) H nx := convQ_int (by kernel_rfl) (by kernel_rfl)
theorem cx5x34 (k' : IntKind) (n : Int) (H : AH) : convV Try.prog H 5 34 (.int k' n) = some (.int .u64 (IntKind.wrap .u64 n)) := convV_int (by kernel_rfl) (by kernel_rfl)
theorem len38 (H : AH) (ty : TypeId) (a : Option Addr) (n c : Nat) : lenV Try.prog H #[38] ty #[.slice a n c] = some (.int .i64 n) := lenV_slice 38 46 ty 5 a n c (by kernel_rfl)
/-! 4: milestone/milestonelaw16.awake · code of 47 operations -/
def L4 : Nat → List Nat
  | 0 => []
  | 1 => [1]
  | 2 => [1, 2]
  | 3 => [1, 2, 3]
  | 4 => [1, 3, 4]
  | 5 => [3, 4, 5]
  | 6 => [0]
  | _ => []
theorem L4x0 : L4 0 = [] := (rfl)
theorem L4x1 : L4 1 = [1] := (rfl)
theorem L4x2 : L4 2 = [1, 2] := (rfl)
theorem L4x3 : L4 3 = [1, 2, 3] := (rfl)
theorem L4x4 : L4 4 = [1, 3, 4] := (rfl)
theorem L4x5 : L4 5 = [3, 4, 5] := (rfl)
theorem L4x6 : L4 6 = [0] := (rfl)
theorem fnOk4 : fnOk Try.prog 4 = true := by kernel_rfl
theorem rq4 {R : Value → AH → Nat → Prop} {env : Env} {H : AH} {nx : Nat} : retQ Try.prog Try.f4 R .ret env H nx = onV (eg env 0) R H nx := retQ_one rfl (of_decide_eq_true (by kernel_rfl))

theorem zero32 : zeroT Try.prog 32 = some (.agg #[(.int .u32 0), (.int .u8 0)]) := by kernel_rfl
theorem bd32x0x1 (H : AH) (k0x0 : IntKind) (n0x0 : Int) (k1x0 : IntKind) (n1x0 : Int) : buildV Try.prog H 32 #[(0, .int k0x0 n0x0), (1, .int k1x0 n1x0)] = some (.agg #[.int k0x0 n0x0, .int k1x0 n1x0]) := build_by (pl := fun i => (#[(0, 1), (1, 1)] : Array (Nat × Nat))[i]?) (by kernel_rfl) zero32 (by simp [Instr.fill, cells_agg, cells_int, cells_bool, cells_slice, cells_ptr, cells_str])
theorem al32 (lo : Nat) (K : Value → AH → Nat → Prop) (H : AH) (nx : Nat) : allocQ Try.prog lo 32 K H nx = newQ 32 ((.agg #[(.int .u32 0), (.int .u8 0)]) : Value).cells K H nx := alloc_new zero32
theorem st32 (lo : Nat) (b o : Nat) (v0 v1 : Value) (K : AH → Nat → Prop) (H : AH) (nx : Nat) : storeQ Try.prog lo 32 (.pointer (some ⟨b, o, none⟩)) (.agg #[v0, v1]) K H nx = stsQ lo b o [v0, v1] K H nx := store_agg (n := 2) (by kernel_rfl) (by decide) rfl
theorem ld32 (H : AH) (b o : Nat) : loadV Try.prog H 32 (.pointer (some ⟨b, o, none⟩)) = (loadN H b o 2).map fun l => .agg l.toArray := load_agg (by kernel_rfl) (by kernel_rfl)
theorem zero24 : zeroT Try.prog 24 = some (.agg #[(.int .u16 0), (.int .u16 0)]) := by kernel_rfl
theorem bd24x0x1 (H : AH) (k0x0 : IntKind) (n0x0 : Int) (k1x0 : IntKind) (n1x0 : Int) : buildV Try.prog H 24 #[(0, .int k0x0 n0x0), (1, .int k1x0 n1x0)] = some (.agg #[.int k0x0 n0x0, .int k1x0 n1x0]) := build_by (pl := fun i => (#[(0, 1), (1, 1)] : Array (Nat × Nat))[i]?) (by kernel_rfl) zero24 (by simp [Instr.fill, cells_agg, cells_int, cells_bool, cells_slice, cells_ptr, cells_str])
theorem ia38 (H : AH) (n b o c : Nat) (kk : IntKind) (i : Int) (h0 : 0 ≤ i) (h1 : i < n) : indexAV Try.prog H 38 (.slice (some ⟨b, o, none⟩) n c) (.int kk i) = some (.pointer (some ⟨b, o + i.toNat * 5, none⟩)) := indexAV_slice 38 46 n 5 b o c kk i (by kernel_rfl) h0 h1
theorem fa46x1 (H : AH) (b o : Nat) : fieldAV Try.prog H 46 1 (.pointer (some ⟨b, o, none⟩)) = some (.pointer (some ⟨b, o + 2, none⟩)) := fieldAV_eq 46 1 b o false 0 2 (by kernel_rfl)
theorem ld3 (H : AH) (b o : Nat) : loadV Try.prog H 3 (.pointer (some ⟨b, o, none⟩)) = H.c b o := load_one (by kernel_rfl)
theorem fa46x2 (H : AH) (b o : Nat) : fieldAV Try.prog H 46 2 (.pointer (some ⟨b, o, none⟩)) = some (.pointer (some ⟨b, o + 3, none⟩)) := fieldAV_eq 46 2 b o false 0 3 (by kernel_rfl)
/-! 5: milestone/routes.New · code of 4 operations -/
def L5 : Nat → List Nat
  | 0 => []
  | 1 => [0]
  | _ => []
theorem L5x0 : L5 0 = [] := (rfl)
theorem L5x1 : L5 1 = [0] := (rfl)
theorem fnOk5 : fnOk Try.prog 5 = true := by kernel_rfl
theorem rq5 {R : Value → AH → Nat → Prop} {env : Env} {H : AH} {nx : Nat} : retQ Try.prog Try.f5 R .ret env H nx = onV (eg env 0) R H nx := retQ_one rfl (of_decide_eq_true (by kernel_rfl))

theorem zero48 : zeroT Try.prog 48 = some (.agg #[(.slice none 0 0)]) := by kernel_rfl
theorem bd0x48 (H : AH) : buildV Try.prog H 48 #[] = some (.agg #[(.slice none 0 0)]) := build_zero (by kernel_rfl) zero48
/-! 6: (*milestone/routes.Routes).Tell · code of 97 operations -/
def L6 : Nat → List Nat
  | 0 => [0, 1, 3, 5, 8, 10]
  | 1 => [0, 1, 3, 5, 8, 10, 15]
  | 2 => [12]
  | 3 => [0, 1, 3, 5, 8, 10, 18]
  | 4 => [12]
  | 5 => [0, 1, 3, 5, 8, 10, 13]
  | 6 => [0, 10, 13, 14]
  | 8 => [0, 10, 13, 14, 59]
  | 9 => []
  | 10 => [0, 13, 14, 78]
  | 11 => [0, 13, 14, 82]
  | 12 => []
  | 13 => [0, 14, 92]
  | 14 => [12]
  | 7 => []
  | 15 => [12]
  | _ => []
theorem L6x0 : L6 0 = [0, 1, 3, 5, 8, 10] := (rfl)
theorem L6x1 : L6 1 = [0, 1, 3, 5, 8, 10, 15] := (rfl)
theorem L6x2 : L6 2 = [12] := (rfl)
theorem L6x3 : L6 3 = [0, 1, 3, 5, 8, 10, 18] := (rfl)
theorem L6x4 : L6 4 = [12] := (rfl)
theorem L6x5 : L6 5 = [0, 1, 3, 5, 8, 10, 13] := (rfl)
theorem L6x6 : L6 6 = [0, 10, 13, 14] := (rfl)
theorem L6x8 : L6 8 = [0, 10, 13, 14, 59] := (rfl)
theorem L6x9 : L6 9 = [] := (rfl)
theorem L6x10 : L6 10 = [0, 13, 14, 78] := (rfl)
theorem L6x11 : L6 11 = [0, 13, 14, 82] := (rfl)
theorem L6x12 : L6 12 = [] := (rfl)
theorem L6x13 : L6 13 = [0, 14, 92] := (rfl)
theorem L6x14 : L6 14 = [12] := (rfl)
theorem L6x7 : L6 7 = [] := (rfl)
theorem L6x15 : L6 15 = [12] := (rfl)
def ord6x12 : List Nat := [0, 1, 2, 3, 4, 5, 6, 7]
def ord6x7 : List Nat := [0, 1, 2, 3, 4, 5, 6, 7, 8, 9, 10]
theorem fnOk6 : fnOk Try.prog 6 = true := by kernel_rfl
theorem rq6 {R : Value → AH → Nat → Prop} {env : Env} {H : AH} {nx : Nat} : retQ Try.prog Try.f6 R .ret env H nx = onV (eg env 12) R H nx := retQ_one rfl (of_decide_eq_true (by kernel_rfl))

theorem eqp26 (H : AH) (x y : Operand) (a : Option Addr) : binV Try.prog H .eql 26 x y (.pointer a) (.pointer none) = some (.bool a.isNone) := eq_ptr (by kernel_rfl)
theorem nep26 (H : AH) (x y : Operand) (a : Option Addr) : binV Try.prog H .neq 26 x y (.pointer a) (.pointer none) = some (.bool a.isSome) := ne_ptr (by kernel_rfl)
theorem zero52 : zeroT Try.prog 52 = some (.agg #[(.int .u32 0), (.int .u8 0), (.int .i64 0), (.int .i64 0), (.int .u16 0), (.int .u16 0), (.int .u64 0)]) := by kernel_rfl
theorem bd52x0x1x2x3x4 (H : AH) (v0x0 : Value) (v0x1 : Value) (k1x0 : IntKind) (n1x0 : Int) (k2x0 : IntKind) (n2x0 : Int) (v3x0 : Value) (v3x1 : Value) (k4x0 : IntKind) (n4x0 : Int) : buildV Try.prog H 52 #[(0, .agg #[v0x0, v0x1]), (1, .int k1x0 n1x0), (2, .int k2x0 n2x0), (3, .agg #[v3x0, v3x1]), (4, .int k4x0 n4x0)] = some (.agg #[v0x0, v0x1, .int k1x0 n1x0, .int k2x0 n2x0, v3x0, v3x1, .int k4x0 n4x0]) := build_by (pl := fun i => (#[(0, 2), (2, 1), (3, 1), (4, 2), (6, 1)] : Array (Nat × Nat))[i]?) (by kernel_rfl) zero52 (by simp [Instr.fill, cells_agg, cells_int, cells_bool, cells_slice, cells_ptr, cells_str])
theorem al52 (lo : Nat) (K : Value → AH → Nat → Prop) (H : AH) (nx : Nat) : allocQ Try.prog lo 52 K H nx = newQ 52 ((.agg #[(.int .u32 0), (.int .u8 0), (.int .i64 0), (.int .i64 0), (.int .u16 0), (.int .u16 0), (.int .u64 0)]) : Value).cells K H nx := alloc_new zero52
theorem st52 (lo : Nat) (b o : Nat) (v0 v1 v2 v3 v4 v5 v6 : Value) (K : AH → Nat → Prop) (H : AH) (nx : Nat) : storeQ Try.prog lo 52 (.pointer (some ⟨b, o, none⟩)) (.agg #[v0, v1, v2, v3, v4, v5, v6]) K H nx = stsQ lo b o [v0, v1, v2, v3, v4, v5, v6] K H nx := store_agg (n := 7) (by kernel_rfl) (by decide) rfl
theorem fa48x0 (H : AH) (b o : Nat) : fieldAV Try.prog H 48 0 (.pointer (some ⟨b, o, none⟩)) = some (.pointer (some ⟨b, o + 0, none⟩)) := fieldAV_eq 48 0 b o false 0 0 (by kernel_rfl)
theorem ld36 (H : AH) (b o : Nat) : loadV Try.prog H 36 (.pointer (some ⟨b, o, none⟩)) = H.c b o := load_one (by kernel_rfl)
theorem st36 (lo : Nat) (b o : Nat) (v : Value) (K : AH → Nat → Prop) (H : AH) (nx : Nat) (hv : v.oneCell' = true) : storeQ Try.prog lo 36 (.pointer (some ⟨b, o, none⟩)) v K H nx = stQ lo b o v K H nx := store_one (by kernel_rfl) hv
theorem stc36 (lo : Nat) (b o : Nat) (a : Option Addr) (n c : Nat) (K : AH → Nat → Prop) (H : AH) (nx : Nat) : storeQ Try.prog lo 36 (.pointer (some ⟨b, o, none⟩)) (.slice a n c) K H nx = stQ lo b o (.slice a n c) K H nx := store_one (by kernel_rfl) rfl
theorem ld52 (H : AH) (b o : Nat) : loadV Try.prog H 52 (.pointer (some ⟨b, o, none⟩)) = (loadN H b o 7).map fun l => .agg l.toArray := load_agg (by kernel_rfl) (by kernel_rfl)
theorem ia36 (H : AH) (n b o c : Nat) (kk : IntKind) (i : Int) (h0 : 0 ≤ i) (h1 : i < n) : indexAV Try.prog H 36 (.slice (some ⟨b, o, none⟩) n c) (.int kk i) = some (.pointer (some ⟨b, o + i.toNat * 7, none⟩)) := indexAV_slice 36 52 n 7 b o c kk i (by kernel_rfl) h0 h1
theorem sl36 : slT Try.prog 36 = some (52, 7) := by kernel_rfl
theorem by52 : bytesT Try.prog 52 = some 40 := by kernel_rfl
/-! 7: milestone/milestoneref07.Prefix · code of 19 operations -/
def L7 : Nat → List Nat
  | 0 => [0, 2]
  | 1 => [2]
  | _ => []
theorem L7x0 : L7 0 = [0, 2] := (rfl)
theorem L7x1 : L7 1 = [2] := (rfl)
theorem fnOk7 : fnOk Try.prog 7 = true := by kernel_rfl
theorem rq7 {R : Value → AH → Nat → Prop} {env : Env} {H : AH} {nx : Nat} : retQ Try.prog Try.f7 R .ret env H nx = onA (eg env 2) (fun a => onV (loadV Try.prog H 32 a) R H nx) := retQ_cell rfl (of_decide_eq_true (by kernel_rfl))

theorem cv5x30 (lo : Nat) (k' : IntKind) (n : Int) (K : Value → AH → Nat → Prop) (H : AH) (nx : Nat) : convQ Try.prog lo 5 30 (.int k' n) K H nx = K (.int .u32 (IntKind.wrap .u32 n)) H nx := convQ_int (by kernel_rfl) (by kernel_rfl)
theorem cx5x30 (k' : IntKind) (n : Int) (H : AH) : convV Try.prog H 5 30 (.int k' n) = some (.int .u32 (IntKind.wrap .u32 n)) := convV_int (by kernel_rfl) (by kernel_rfl)
/-! 8: (*milestone/routes.Routes).Tick · code of 13 operations -/
def L8 : Nat → List Nat
  | 0 => [0, 3]
  | 1 => [0, 3, 5]
  | 2 => []
  | _ => []
theorem L8x0 : L8 0 = [0, 3] := (rfl)
theorem L8x1 : L8 1 = [0, 3, 5] := (rfl)
theorem L8x2 : L8 2 = [] := (rfl)
theorem fnOk8 : fnOk Try.prog 8 = true := by kernel_rfl
theorem rq8 {R : Value → AH → Nat → Prop} {env : Env} {H : AH} {nx : Nat} : retQ Try.prog Try.f8 R .ret env H nx = R (.tuple #[]) H nx := retQ_none rfl

/-! 9: (*milestone/routes.Routes).All · code of 14 operations -/
def L9 : Nat → List Nat
  | 0 => [0]
  | 1 => [0, 5]
  | 2 => [2]
  | 3 => [3]
  | 4 => [3]
  | 5 => [2]
  | _ => []
theorem L9x0 : L9 0 = [0] := (rfl)
theorem L9x1 : L9 1 = [0, 5] := (rfl)
theorem L9x2 : L9 2 = [2] := (rfl)
theorem L9x3 : L9 3 = [3] := (rfl)
theorem L9x4 : L9 4 = [3] := (rfl)
theorem L9x5 : L9 5 = [2] := (rfl)
theorem fnOk9 : fnOk Try.prog 9 = true := by kernel_rfl
theorem rq9 {R : Value → AH → Nat → Prop} {env : Env} {H : AH} {nx : Nat} : retQ Try.prog Try.f9 R .ret env H nx = onV (eg env 2) R H nx := retQ_one rfl (of_decide_eq_true (by kernel_rfl))

/-! 10: (*milestone/routes.Routes).Select · code of 98 operations -/
def L10 : Nat → List Nat
  | 0 => [0, 1, 2]
  | 1 => [0, 1, 2, 7]
  | 2 => [1, 2, 7, 15, 16, 17]
  | 3 => [1, 2, 7, 15, 16, 17, 18]
  | 4 => [1, 2, 7, 9, 15, 16, 17]
  | 5 => [1, 2, 7, 9, 10, 15, 16, 17]
  | 6 => [1, 2, 7, 9, 10, 15, 16, 17, 25]
  | 7 => [1, 2, 7, 9, 10, 15, 16, 17]
  | 8 => [1, 2, 7, 9, 10, 11, 15, 16, 17]
  | 9 => [1, 2, 7, 9, 11, 15, 16, 17, 52]
  | 10 => [1, 2, 7, 9, 12, 15, 16, 17]
  | 11 => [1, 2, 7, 9, 12, 13, 15, 16, 17]
  | 12 => [1, 2, 7, 12, 13, 15, 16, 17, 77]
  | 13 => [1, 2, 7, 15, 16, 17]
  | 14 => [1, 2, 7, 12, 13, 15, 16, 17, 90]
  | 15 => [1, 2, 7, 15, 16, 17]
  | 16 => [1, 2, 7, 15, 16, 17]
  | 17 => [6]
  | _ => []
theorem L10x0 : L10 0 = [0, 1, 2] := (rfl)
theorem L10x1 : L10 1 = [0, 1, 2, 7] := (rfl)
theorem L10x2 : L10 2 = [1, 2, 7, 15, 16, 17] := (rfl)
theorem L10x3 : L10 3 = [1, 2, 7, 15, 16, 17, 18] := (rfl)
theorem L10x4 : L10 4 = [1, 2, 7, 9, 15, 16, 17] := (rfl)
theorem L10x5 : L10 5 = [1, 2, 7, 9, 10, 15, 16, 17] := (rfl)
theorem L10x6 : L10 6 = [1, 2, 7, 9, 10, 15, 16, 17, 25] := (rfl)
theorem L10x7 : L10 7 = [1, 2, 7, 9, 10, 15, 16, 17] := (rfl)
theorem L10x8 : L10 8 = [1, 2, 7, 9, 10, 11, 15, 16, 17] := (rfl)
theorem L10x9 : L10 9 = [1, 2, 7, 9, 11, 15, 16, 17, 52] := (rfl)
theorem L10x10 : L10 10 = [1, 2, 7, 9, 12, 15, 16, 17] := (rfl)
theorem L10x11 : L10 11 = [1, 2, 7, 9, 12, 13, 15, 16, 17] := (rfl)
theorem L10x12 : L10 12 = [1, 2, 7, 12, 13, 15, 16, 17, 77] := (rfl)
theorem L10x13 : L10 13 = [1, 2, 7, 15, 16, 17] := (rfl)
theorem L10x14 : L10 14 = [1, 2, 7, 12, 13, 15, 16, 17, 90] := (rfl)
theorem L10x15 : L10 15 = [1, 2, 7, 15, 16, 17] := (rfl)
theorem L10x16 : L10 16 = [1, 2, 7, 15, 16, 17] := (rfl)
theorem L10x17 : L10 17 = [6] := (rfl)
def ord10x12 : List Nat := [0, 1, 2, 3, 4, 5, 6, 7, 8, 9, 10, 11, 12]
def ord10x14 : List Nat := [0, 1, 2, 3, 4, 5, 6, 7, 8]
theorem fnOk10 : fnOk Try.prog 10 = true := by kernel_rfl
theorem rq10 {R : Value → AH → Nat → Prop} {env : Env} {H : AH} {nx : Nat} : retQ Try.prog Try.f10 R .ret env H nx = onV (eg env 6) R H nx := retQ_one rfl (of_decide_eq_true (by kernel_rfl))

theorem fa52x1 (H : AH) (b o : Nat) : fieldAV Try.prog H 52 1 (.pointer (some ⟨b, o, none⟩)) = some (.pointer (some ⟨b, o + 2, none⟩)) := fieldAV_eq 52 1 b o false 0 2 (by kernel_rfl)
theorem len42 (H : AH) (ty : TypeId) (a : Option Addr) (n c : Nat) : lenV Try.prog H #[42] ty #[.slice a n c] = some (.int .i64 n) := lenV_slice 42 22 ty 1 a n c (by kernel_rfl)
theorem ia42 (H : AH) (n b o c : Nat) (kk : IntKind) (i : Int) (h0 : 0 ≤ i) (h1 : i < n) : indexAV Try.prog H 42 (.slice (some ⟨b, o, none⟩) n c) (.int kk i) = some (.pointer (some ⟨b, o + i.toNat * 1, none⟩)) := indexAV_slice 42 22 n 1 b o c kk i (by kernel_rfl) h0 h1
theorem fa52x3 (H : AH) (b o : Nat) : fieldAV Try.prog H 52 3 (.pointer (some ⟨b, o, none⟩)) = some (.pointer (some ⟨b, o + 4, none⟩)) := fieldAV_eq 52 3 b o true 1 4 (by kernel_rfl)
theorem cv22x30 (lo : Nat) (k' : IntKind) (n : Int) (K : Value → AH → Nat → Prop) (H : AH) (nx : Nat) : convQ Try.prog lo 22 30 (.int k' n) K H nx = K (.int .u32 (IntKind.wrap .u32 n)) H nx := convQ_int (by kernel_rfl) (by kernel_rfl)
theorem cx22x30 (k' : IntKind) (n : Int) (H : AH) : convV Try.prog H 22 30 (.int k' n) = some (.int .u32 (IntKind.wrap .u32 n)) := convV_int (by kernel_rfl) (by kernel_rfl)
theorem fa52x0 (H : AH) (b o : Nat) : fieldAV Try.prog H 52 0 (.pointer (some ⟨b, o, none⟩)) = some (.pointer (some ⟨b, o + 0, none⟩)) := fieldAV_eq 52 0 b o true 1 0 (by kernel_rfl)
theorem cv30x22 (lo : Nat) (k' : IntKind) (n : Int) (K : Value → AH → Nat → Prop) (H : AH) (nx : Nat) : convQ Try.prog lo 30 22 (.int k' n) K H nx = K (.int .u16 (IntKind.wrap .u16 n)) H nx := convQ_int (by kernel_rfl) (by kernel_rfl)
theorem cx30x22 (k' : IntKind) (n : Int) (H : AH) : convV Try.prog H 30 22 (.int k' n) = some (.int .u16 (IntKind.wrap .u16 n)) := convV_int (by kernel_rfl) (by kernel_rfl)
theorem fa24x0 (H : AH) (b o : Nat) : fieldAV Try.prog H 24 0 (.pointer (some ⟨b, o, none⟩)) = some (.pointer (some ⟨b, o + 0, none⟩)) := fieldAV_eq 24 0 b o false 0 0 (by kernel_rfl)
theorem zero46 : zeroT Try.prog 46 = some (.agg #[(.int .u32 0), (.int .u8 0), (.int .i64 0), (.int .u16 0), (.int .u16 0)]) := by kernel_rfl
theorem bd46x0x1x2x3 (H : AH) (v0x0 : Value) (v0x1 : Value) (k1x0 : IntKind) (n1x0 : Int) (k2x0 : IntKind) (n2x0 : Int) (k3x0 : IntKind) (n3x0 : Int) : buildV Try.prog H 46 #[(0, .agg #[v0x0, v0x1]), (1, .int k1x0 n1x0), (2, .int k2x0 n2x0), (3, .int k3x0 n3x0)] = some (.agg #[v0x0, v0x1, .int k1x0 n1x0, .int k2x0 n2x0, .int k3x0 n3x0]) := build_by (pl := fun i => (#[(0, 2), (2, 1), (3, 1), (4, 1)] : Array (Nat × Nat))[i]?) (by kernel_rfl) zero46 (by simp [Instr.fill, cells_agg, cells_int, cells_bool, cells_slice, cells_ptr, cells_str])
theorem al46 (lo : Nat) (K : Value → AH → Nat → Prop) (H : AH) (nx : Nat) : allocQ Try.prog lo 46 K H nx = newQ 46 ((.agg #[(.int .u32 0), (.int .u8 0), (.int .i64 0), (.int .u16 0), (.int .u16 0)]) : Value).cells K H nx := alloc_new zero46
theorem st46 (lo : Nat) (b o : Nat) (v0 v1 v2 v3 v4 : Value) (K : AH → Nat → Prop) (H : AH) (nx : Nat) : storeQ Try.prog lo 46 (.pointer (some ⟨b, o, none⟩)) (.agg #[v0, v1, v2, v3, v4]) K H nx = stsQ lo b o [v0, v1, v2, v3, v4] K H nx := store_agg (n := 5) (by kernel_rfl) (by decide) rfl
theorem fa46x0 (H : AH) (b o : Nat) : fieldAV Try.prog H 46 0 (.pointer (some ⟨b, o, none⟩)) = some (.pointer (some ⟨b, o + 0, none⟩)) := fieldAV_eq 46 0 b o true 1 0 (by kernel_rfl)
theorem eqg32 (H : AH) (x y : Operand) (a0 b0 : Int) (a1 b1 : Int) : binV Try.prog H .eql 32 x y (.agg #[.int .u32 a0, .int .u8 a1]) (.agg #[.int .u32 b0, .int .u8 b1]) = some (.bool (eqLs [.int .u32 a0, .int .u8 a1] [.int .u32 b0, .int .u8 b1])) := (bin_agg (xs := [.int .u32 a0, .int .u8 a1]) (ys := [.int .u32 b0, .int .u8 b1]) (ks := [some .u32, some .u8]) (by kernel_rfl) (fitI (fitI fitN)) (fitI (fitI fitN))).1
theorem neg32 (H : AH) (x y : Operand) (a0 b0 : Int) (a1 b1 : Int) : binV Try.prog H .neq 32 x y (.agg #[.int .u32 a0, .int .u8 a1]) (.agg #[.int .u32 b0, .int .u8 b1]) = some (.bool (!eqLs [.int .u32 a0, .int .u8 a1] [.int .u32 b0, .int .u8 b1])) := (bin_agg (xs := [.int .u32 a0, .int .u8 a1]) (ys := [.int .u32 b0, .int .u8 b1]) (ks := [some .u32, some .u8]) (by kernel_rfl) (fitI (fitI fitN)) (fitI (fitI fitN))).2
theorem ld46 (H : AH) (b o : Nat) : loadV Try.prog H 46 (.pointer (some ⟨b, o, none⟩)) = (loadN H b o 5).map fun l => .agg l.toArray := load_agg (by kernel_rfl) (by kernel_rfl)
theorem sl38 : slT Try.prog 38 = some (46, 5) := by kernel_rfl
theorem by46 : bytesT Try.prog 46 = some 24 := by kernel_rfl
/-! 11: milestone/source.New · code of 4 operations -/
def L11 : Nat → List Nat
  | 0 => []
  | 1 => [0]
  | _ => []
theorem L11x0 : L11 0 = [] := (rfl)
theorem L11x1 : L11 1 = [0] := (rfl)
theorem fnOk11 : fnOk Try.prog 11 = true := by kernel_rfl
theorem rq11 {R : Value → AH → Nat → Prop} {env : Env} {H : AH} {nx : Nat} : retQ Try.prog Try.f11 R .ret env H nx = onV (eg env 0) R H nx := retQ_one rfl (of_decide_eq_true (by kernel_rfl))

theorem zero65 : zeroT Try.prog 65 = some (.agg #[(.slice none 0 0)]) := by kernel_rfl
theorem bd0x65 (H : AH) : buildV Try.prog H 65 #[] = some (.agg #[(.slice none 0 0)]) := build_zero (by kernel_rfl) zero65
/-! 12: milestone/milestonelaw16.good · code of 3 operations -/
def L12 : Nat → List Nat
  | 0 => []
  | 1 => [0]
  | _ => []
theorem L12x0 : L12 0 = [] := (rfl)
theorem L12x1 : L12 1 = [0] := (rfl)
theorem fnOk12 : fnOk Try.prog 12 = true := by kernel_rfl
theorem rq12 {R : Value → AH → Nat → Prop} {env : Env} {H : AH} {nx : Nat} : retQ Try.prog Try.f12 R .ret env H nx = onV (eg env 0) R H nx := retQ_one rfl (of_decide_eq_true (by kernel_rfl))

theorem zero22 : zeroT Try.prog 22 = some (.int .u16 0) := by kernel_rfl
theorem sl42 : slT Try.prog 42 = some (22, 1) := by kernel_rfl
/-! 13: milestone/prefix.Right · code of 15 operations -/
def L13 : Nat → List Nat
  | 0 => [1]
  | 1 => [2]
  | _ => []
theorem L13x0 : L13 0 = [1] := (rfl)
theorem L13x1 : L13 1 = [2] := (rfl)
def ord13x1 : List Nat := [0, 1, 2, 3, 4, 5, 6, 7, 8, 9, 10, 11, 12]
theorem fnOk13 : fnOk Try.prog 13 = true := by kernel_rfl
theorem rq13 {R : Value → AH → Nat → Prop} {env : Env} {H : AH} {nx : Nat} : retQ Try.prog Try.f13 R .ret env H nx = onV (eg env 2) R H nx := retQ_one rfl (of_decide_eq_true (by kernel_rfl))

theorem fa32x1 (H : AH) (b o : Nat) : fieldAV Try.prog H 32 1 (.pointer (some ⟨b, o, none⟩)) = some (.pointer (some ⟨b, o + 1, none⟩)) := fieldAV_eq 32 1 b o false 0 1 (by kernel_rfl)
theorem ld5 (H : AH) (b o : Nat) : loadV Try.prog H 5 (.pointer (some ⟨b, o, none⟩)) = H.c b o := load_one (by kernel_rfl)
theorem fa32x0 (H : AH) (b o : Nat) : fieldAV Try.prog H 32 0 (.pointer (some ⟨b, o, none⟩)) = some (.pointer (some ⟨b, o + 0, none⟩)) := fieldAV_eq 32 0 b o false 0 0 (by kernel_rfl)
theorem ld30 (H : AH) (b o : Nat) : loadV Try.prog H 30 (.pointer (some ⟨b, o, none⟩)) = H.c b o := load_one (by kernel_rfl)
/-! 14: (*milestone/routes.Routes).find · code of 10 operations -/
def L14 : Nat → List Nat
  | 0 => [0, 4, 5]
  | 1 => [6]
  | _ => []
theorem L14x0 : L14 0 = [0, 4, 5] := (rfl)
theorem L14x1 : L14 1 = [6] := (rfl)
theorem fnOk14 : fnOk Try.prog 14 = true := by kernel_rfl
theorem rq14 {R : Value → AH → Nat → Prop} {env : Env} {H : AH} {nx : Nat} : retQ Try.prog Try.f14 R .ret env H nx = onV (eg env 6) R H nx := retQ_one rfl (of_decide_eq_true (by kernel_rfl))

/-! 15: slices.Delete[[]milestone/routes.Told,milestone/routes.Told] · code of 31 operations -/
def L15 : Nat → List Nat
  | 0 => [0, 1, 2]
  | 1 => [0, 1, 2]
  | 2 => [0, 1, 2, 16]
  | 3 => [6]
  | 4 => [0, 1, 2, 7]
  | 5 => [0, 7]
  | 6 => [0]
  | 7 => [6]
  | _ => []
theorem L15x0 : L15 0 = [0, 1, 2] := (rfl)
theorem L15x1 : L15 1 = [0, 1, 2] := (rfl)
theorem L15x2 : L15 2 = [0, 1, 2, 16] := (rfl)
theorem L15x3 : L15 3 = [6] := (rfl)
theorem L15x4 : L15 4 = [0, 1, 2, 7] := (rfl)
theorem L15x5 : L15 5 = [0, 7] := (rfl)
theorem L15x6 : L15 6 = [0] := (rfl)
theorem L15x7 : L15 7 = [6] := (rfl)
def ord15x5 : List Nat := [0, 1, 2, 3, 4, 5, 6, 7]
theorem fnOk15 : fnOk Try.prog 15 = true := by kernel_rfl
theorem rq15 {R : Value → AH → Nat → Prop} {env : Env} {H : AH} {nx : Nat} : retQ Try.prog Try.f15 R .ret env H nx = onV (eg env 6) R H nx := retQ_one rfl (of_decide_eq_true (by kernel_rfl))

-- builtin Go.Builtin.clear
/-! 16: milestone/milestoneref01.Of · code of 30 operations -/
def L16 : Nat → List Nat
  | 0 => [0, 1, 4]
  | 1 => [0, 1, 4, 8]
  | 2 => [0, 1, 4]
  | 3 => [0, 1, 4, 5]
  | 4 => [0, 1, 4, 5, 6]
  | 5 => [0, 1, 4, 5, 6, 10]
  | 7 => [0, 1, 4, 5, 6]
  | 8 => [0, 1, 4, 5, 6, 23]
  | 9 => [0, 1, 4, 5, 6]
  | 6 => [0, 1, 4, 5, 6]
  | 10 => [4]
  | _ => []
theorem L16x0 : L16 0 = [0, 1, 4] := (rfl)
theorem L16x1 : L16 1 = [0, 1, 4, 8] := (rfl)
theorem L16x2 : L16 2 = [0, 1, 4] := (rfl)
theorem L16x3 : L16 3 = [0, 1, 4, 5] := (rfl)
theorem L16x4 : L16 4 = [0, 1, 4, 5, 6] := (rfl)
theorem L16x5 : L16 5 = [0, 1, 4, 5, 6, 10] := (rfl)
theorem L16x7 : L16 7 = [0, 1, 4, 5, 6] := (rfl)
theorem L16x8 : L16 8 = [0, 1, 4, 5, 6, 23] := (rfl)
theorem L16x9 : L16 9 = [0, 1, 4, 5, 6] := (rfl)
theorem L16x6 : L16 6 = [0, 1, 4, 5, 6] := (rfl)
theorem L16x10 : L16 10 = [4] := (rfl)
theorem fnOk16 : fnOk Try.prog 16 = true := by kernel_rfl
theorem rq16 {R : Value → AH → Nat → Prop} {env : Env} {H : AH} {nx : Nat} : retQ Try.prog Try.f16 R .ret env H nx = onA (eg env 4) (fun a => onV (loadV Try.prog H 32 a) R H nx) := retQ_cell rfl (of_decide_eq_true (by kernel_rfl))

/-! 17: slices.DeleteFunc[[]milestone/routes.Told,milestone/routes.Told] · code of 45 operations -/
def L17 : Nat → List Nat
  | 0 => [0, 1]
  | 1 => [0, 1, 5]
  | 2 => [0, 1, 5, 12]
  | 3 => [4]
  | 4 => [0, 1, 5, 6]
  | 5 => [0, 1, 5, 6, 19]
  | 7 => [0, 1, 5, 6, 7]
  | 8 => [0, 1, 5, 6, 7, 29]
  | 9 => [0, 1, 5, 6]
  | 10 => [0, 1, 5, 6]
  | 6 => [0, 1, 5, 6]
  | 11 => [0, 5]
  | 12 => [4]
  | _ => []
theorem L17x0 : L17 0 = [0, 1] := (rfl)
theorem L17x1 : L17 1 = [0, 1, 5] := (rfl)
theorem L17x2 : L17 2 = [0, 1, 5, 12] := (rfl)
theorem L17x3 : L17 3 = [4] := (rfl)
theorem L17x4 : L17 4 = [0, 1, 5, 6] := (rfl)
theorem L17x5 : L17 5 = [0, 1, 5, 6, 19] := (rfl)
theorem L17x7 : L17 7 = [0, 1, 5, 6, 7] := (rfl)
theorem L17x8 : L17 8 = [0, 1, 5, 6, 7, 29] := (rfl)
theorem L17x9 : L17 9 = [0, 1, 5, 6] := (rfl)
theorem L17x10 : L17 10 = [0, 1, 5, 6] := (rfl)
theorem L17x6 : L17 6 = [0, 1, 5, 6] := (rfl)
theorem L17x11 : L17 11 = [0, 5] := (rfl)
theorem L17x12 : L17 12 = [4] := (rfl)
theorem fnOk17 : fnOk Try.prog 17 = true := by kernel_rfl
theorem rq17 {R : Value → AH → Nat → Prop} {env : Env} {H : AH} {nx : Nat} : retQ Try.prog Try.f17 R .ret env H nx = onV (eg env 4) R H nx := retQ_one rfl (of_decide_eq_true (by kernel_rfl))

/-! 18: (*milestone/routes.Routes).Tick$1 · code of 7 operations -/
def L18 : Nat → List Nat
  | 0 => [1, 2]
  | 1 => [3]
  | _ => []
theorem L18x0 : L18 0 = [1, 2] := (rfl)
theorem L18x1 : L18 1 = [3] := (rfl)
theorem fnOk18 : fnOk Try.prog 18 = true := by kernel_rfl
theorem rq18 {R : Value → AH → Nat → Prop} {env : Env} {H : AH} {nx : Nat} : retQ Try.prog Try.f18 R .ret env H nx = onV (eg env 3) R H nx := retQ_one rfl (of_decide_eq_true (by kernel_rfl))

theorem ld34 (H : AH) (b o : Nat) : loadV Try.prog H 34 (.pointer (some ⟨b, o, none⟩)) = H.c b o := load_one (by kernel_rfl)
theorem fa52x4 (H : AH) (b o : Nat) : fieldAV Try.prog H 52 4 (.pointer (some ⟨b, o, none⟩)) = some (.pointer (some ⟨b, o + 6, none⟩)) := fieldAV_eq 52 4 b o false 0 6 (by kernel_rfl)
/-! 19: slices.Clone[[]milestone/routes.Told,milestone/routes.Told] · code of 8 operations -/
def L19 : Nat → List Nat
  | 0 => [0]
  | 1 => [0, 4]
  | 2 => [2]
  | 3 => [2]
  | _ => []
theorem L19x0 : L19 0 = [0] := (rfl)
theorem L19x1 : L19 1 = [0, 4] := (rfl)
theorem L19x2 : L19 2 = [2] := (rfl)
theorem L19x3 : L19 3 = [2] := (rfl)
theorem fnOk19 : fnOk Try.prog 19 = true := by kernel_rfl
theorem rq19 {R : Value → AH → Nat → Prop} {env : Env} {H : AH} {nx : Nat} : retQ Try.prog Try.f19 R .ret env H nx = onV (eg env 2) R H nx := retQ_one rfl (of_decide_eq_true (by kernel_rfl))

theorem eqs36 (H : AH) (x y : Operand) (a : Option Addr) (n c : Nat) : binV Try.prog H .eql 36 x y (.slice a n c) (.slice none 0 0) = some (.bool a.isNone) := eq_sl (by kernel_rfl)
theorem nes36 (H : AH) (x y : Operand) (a : Option Addr) (n c : Nat) : binV Try.prog H .neq 36 x y (.slice a n c) (.slice none 0 0) = some (.bool a.isSome) := ne_sl (by kernel_rfl)
/-! 20: slices.SortFunc[[]milestone/routes.Told,milestone/routes.Told] · code of 10 operations -/
def L20 : Nat → List Nat
  | 0 => [0, 1, 4]
  | 1 => []
  | _ => []
theorem L20x0 : L20 0 = [0, 1, 4] := (rfl)
theorem L20x1 : L20 1 = [] := (rfl)
theorem fnOk20 : fnOk Try.prog 20 = true := by kernel_rfl
theorem rq20 {R : Value → AH → Nat → Prop} {env : Env} {H : AH} {nx : Nat} : retQ Try.prog Try.f20 R .ret env H nx = R (.tuple #[]) H nx := retQ_none rfl

theorem cv3x55 (lo : Nat) (k' : IntKind) (n : Int) (K : Value → AH → Nat → Prop) (H : AH) (nx : Nat) : convQ Try.prog lo 3 55 (.int k' n) K H nx = K (.int .u64 (IntKind.wrap .u64 n)) H nx := convQ_int (by kernel_rfl) (by kernel_rfl)
theorem cx3x55 (k' : IntKind) (n : Int) (H : AH) : convV Try.prog H 3 55 (.int k' n) = some (.int .u64 (IntKind.wrap .u64 n)) := convV_int (by kernel_rfl) (by kernel_rfl)
/-! 21: (*milestone/routes.Routes).All$1 · code of 19 operations -/
def L21 : Nat → List Nat
  | 0 => [2, 3]
  | 1 => [2, 3, 5]
  | 2 => [2, 3, 5, 12]
  | 3 => [4]
  | 4 => [4]
  | _ => []
theorem L21x0 : L21 0 = [2, 3] := (rfl)
theorem L21x1 : L21 1 = [2, 3, 5] := (rfl)
theorem L21x2 : L21 2 = [2, 3, 5, 12] := (rfl)
theorem L21x3 : L21 3 = [4] := (rfl)
theorem L21x4 : L21 4 = [4] := (rfl)
theorem fnOk21 : fnOk Try.prog 21 = true := by kernel_rfl
theorem rq21 {R : Value → AH → Nat → Prop} {env : Env} {H : AH} {nx : Nat} : retQ Try.prog Try.f21 R .ret env H nx = onV (eg env 4) R H nx := retQ_one rfl (of_decide_eq_true (by kernel_rfl))

/-! 22: milestone/prefix.Compare · code of 16 operations -/
def L22 : Nat → List Nat
  | 0 => [2, 3]
  | 1 => [4]
  | _ => []
theorem L22x0 : L22 0 = [2, 3] := (rfl)
theorem L22x1 : L22 1 = [4] := (rfl)
def ord22x1 : List Nat := [0, 1, 2, 3, 5, 6, 7, 8, 4, 9, 10, 11, 12]
theorem fnOk22 : fnOk Try.prog 22 = true := by kernel_rfl
theorem rq22 {R : Value → AH → Nat → Prop} {env : Env} {H : AH} {nx : Nat} : retQ Try.prog Try.f22 R .ret env H nx = onV (eg env 4) R H nx := retQ_one rfl (of_decide_eq_true (by kernel_rfl))

theorem zero3 : zeroT Try.prog 3 = some (.int .i64 0) := by kernel_rfl
theorem sl87 : slT Try.prog 87 = some (3, 1) := by kernel_rfl
/-! 23: (*milestone/source.Source).Feasible · code of 25 operations -/
def L23 : Nat → List Nat
  | 0 => [0, 4, 5]
  | 1 => [5, 7, 8]
  | 2 => [6]
  | _ => []
theorem L23x0 : L23 0 = [0, 4, 5] := (rfl)
theorem L23x1 : L23 1 = [5, 7, 8] := (rfl)
theorem L23x2 : L23 2 = [6] := (rfl)
theorem fnOk23 : fnOk Try.prog 23 = true := by kernel_rfl
theorem rq23 {R : Value → AH → Nat → Prop} {env : Env} {H : AH} {nx : Nat} : retQ Try.prog Try.f23 R .ret env H nx = onV (eg env 6) R H nx := retQ_one rfl (of_decide_eq_true (by kernel_rfl))

theorem al24 (lo : Nat) (K : Value → AH → Nat → Prop) (H : AH) (nx : Nat) : allocQ Try.prog lo 24 K H nx = newQ 24 ((.agg #[(.int .u16 0), (.int .u16 0)]) : Value).cells K H nx := alloc_new zero24
theorem st24 (lo : Nat) (b o : Nat) (v0 v1 : Value) (K : AH → Nat → Prop) (H : AH) (nx : Nat) : storeQ Try.prog lo 24 (.pointer (some ⟨b, o, none⟩)) (.agg #[v0, v1]) K H nx = stsQ lo b o [v0, v1] K H nx := store_agg (n := 2) (by kernel_rfl) (by decide) rfl
/-! 24: milestone/prefix.mask · code of 9 operations -/
def L24 : Nat → List Nat
  | 0 => [0]
  | 1 => [0, 4]
  | 2 => [2]
  | 3 => [2]
  | _ => []
theorem L24x0 : L24 0 = [0] := (rfl)
theorem L24x1 : L24 1 = [0, 4] := (rfl)
theorem L24x2 : L24 2 = [2] := (rfl)
theorem L24x3 : L24 3 = [2] := (rfl)
theorem fnOk24 : fnOk Try.prog 24 = true := by kernel_rfl
theorem rq24 {R : Value → AH → Nat → Prop} {env : Env} {H : AH} {nx : Nat} : retQ Try.prog Try.f24 R .ret env H nx = onV (eg env 2) R H nx := retQ_one rfl (of_decide_eq_true (by kernel_rfl))

/-! 25: slices.IndexFunc[[]milestone/routes.Told,milestone/routes.Told] · code of 18 operations -/
def L25 : Nat → List Nat
  | 0 => [0, 1]
  | 1 => [0, 1, 7, 8]
  | 2 => [0, 1, 7, 8, 9]
  | 3 => [0, 1, 5, 7, 8]
  | 4 => [0, 1, 5, 7, 8, 16]
  | 5 => [4]
  | 6 => [0, 1, 7, 8]
  | 7 => [4]
  | _ => []
theorem L25x0 : L25 0 = [0, 1] := (rfl)
theorem L25x1 : L25 1 = [0, 1, 7, 8] := (rfl)
theorem L25x2 : L25 2 = [0, 1, 7, 8, 9] := (rfl)
theorem L25x3 : L25 3 = [0, 1, 5, 7, 8] := (rfl)
theorem L25x4 : L25 4 = [0, 1, 5, 7, 8, 16] := (rfl)
theorem L25x5 : L25 5 = [4] := (rfl)
theorem L25x6 : L25 6 = [0, 1, 7, 8] := (rfl)
theorem L25x7 : L25 7 = [4] := (rfl)
theorem fnOk25 : fnOk Try.prog 25 = true := by kernel_rfl
theorem rq25 {R : Value → AH → Nat → Prop} {env : Env} {H : AH} {nx : Nat} : retQ Try.prog Try.f25 R .ret env H nx = onV (eg env 4) R H nx := retQ_one rfl (of_decide_eq_true (by kernel_rfl))

/-! 26: (*milestone/routes.Routes).find$1 · code of 13 operations -/
def L26 : Nat → List Nat
  | 0 => [1, 2, 3]
  | 1 => [4]
  | _ => []
theorem L26x0 : L26 0 = [1, 2, 3] := (rfl)
theorem L26x1 : L26 1 = [4] := (rfl)
theorem fnOk26 : fnOk Try.prog 26 = true := by kernel_rfl
theorem rq26 {R : Value → AH → Nat → Prop} {env : Env} {H : AH} {nx : Nat} : retQ Try.prog Try.f26 R .ret env H nx = onV (eg env 4) R H nx := retQ_one rfl (of_decide_eq_true (by kernel_rfl))

/-! 27: milestone/milestoneref01.Bit · code of 13 operations -/
def L27 : Nat → List Nat
  | 0 => [0, 1]
  | 1 => [0, 1, 6]
  | 3 => [0, 1]
  | 2 => [0, 1]
  | 4 => [4]
  | _ => []
theorem L27x0 : L27 0 = [0, 1] := (rfl)
theorem L27x1 : L27 1 = [0, 1, 6] := (rfl)
theorem L27x3 : L27 3 = [0, 1] := (rfl)
theorem L27x2 : L27 2 = [0, 1] := (rfl)
theorem L27x4 : L27 4 = [4] := (rfl)
theorem fnOk27 : fnOk Try.prog 27 = true := by kernel_rfl
theorem rq27 {R : Value → AH → Nat → Prop} {env : Env} {H : AH} {nx : Nat} : retQ Try.prog Try.f27 R .ret env H nx = onV (eg env 4) R H nx := retQ_one rfl (of_decide_eq_true (by kernel_rfl))

/-! 28: slices.pdqsortCmpFunc[milestone/routes.Told] · code of 147 operations -/
def L28 : Nat → List Nat
  | 0 => [0, 1, 2, 3, 4, 10]
  | 1 => [0, 1, 2, 3, 4, 10, 11]
  | 2 => [0, 1, 2, 3, 4, 10, 11, 12]
  | 3 => [0, 1, 2, 3, 4, 10, 11, 12, 25]
  | 4 => []
  | 5 => [0, 1, 2, 3, 4, 10, 11, 12, 32]
  | 6 => []
  | 7 => [0, 1, 2, 3, 4, 10, 11, 12, 39]
  | 8 => [0, 1, 2, 3, 4, 10, 11, 12]
  | 9 => [0, 1, 2, 3, 4, 10, 11, 12]
  | 10 => [0, 1, 2, 3, 4, 10, 11, 12, 13, 14]
  | 11 => [0, 1, 2, 3, 4, 10, 11, 12, 13, 14, 56]
  | 12 => [0, 1, 2, 3, 4, 10, 11, 12, 13]
  | 13 => [0, 1, 2, 3, 4, 10, 11, 12, 13]
  | 14 => [0, 1, 2, 3, 4, 10, 11, 12, 13, 14]
  | 15 => [0, 1, 2, 3, 4, 10, 11, 12, 13, 75]
  | 16 => [0, 1, 2, 3, 4, 10, 11, 12, 13, 80]
  | 17 => [0, 1, 2, 3, 4, 10, 11, 12, 13, 97]
  | 18 => [0, 2, 3, 4, 10, 11, 15]
  | 19 => [0, 1, 2, 3, 4, 10, 11]
  | 20 => [0, 1, 2, 3, 4, 12, 16, 17]
  | 21 => [0, 1, 2, 3, 4, 11, 12, 16]
  | 22 => [0, 1, 2, 3, 4, 11, 12, 16, 18, 19]
  | 23 => [0, 1, 2, 3, 4, 11, 16, 18, 19, 20]
  | 24 => [0, 1, 2, 3, 4, 11, 16, 18, 19, 20, 125]
  | 25 => [0, 1, 2, 3, 4, 10, 11, 16]
  | 26 => [0, 2, 3, 4, 10, 11, 16]
  | 27 => [0, 1, 2, 3, 4, 10, 11]
  | 28 => [0, 1, 2, 3, 4, 10, 11, 16]
  | 29 => [0, 1, 3, 4, 10, 11, 16]
  | 30 => [0, 1, 2, 3, 4, 10, 11]
  | _ => []
theorem L28x0 : L28 0 = [0, 1, 2, 3, 4, 10] := (rfl)
theorem L28x1 : L28 1 = [0, 1, 2, 3, 4, 10, 11] := (rfl)
theorem L28x2 : L28 2 = [0, 1, 2, 3, 4, 10, 11, 12] := (rfl)
theorem L28x3 : L28 3 = [0, 1, 2, 3, 4, 10, 11, 12, 25] := (rfl)
theorem L28x4 : L28 4 = [] := (rfl)
theorem L28x5 : L28 5 = [0, 1, 2, 3, 4, 10, 11, 12, 32] := (rfl)
theorem L28x6 : L28 6 = [] := (rfl)
theorem L28x7 : L28 7 = [0, 1, 2, 3, 4, 10, 11, 12, 39] := (rfl)
theorem L28x8 : L28 8 = [0, 1, 2, 3, 4, 10, 11, 12] := (rfl)
theorem L28x9 : L28 9 = [0, 1, 2, 3, 4, 10, 11, 12] := (rfl)
theorem L28x10 : L28 10 = [0, 1, 2, 3, 4, 10, 11, 12, 13, 14] := (rfl)
theorem L28x11 : L28 11 = [0, 1, 2, 3, 4, 10, 11, 12, 13, 14, 56] := (rfl)
theorem L28x12 : L28 12 = [0, 1, 2, 3, 4, 10, 11, 12, 13] := (rfl)
theorem L28x13 : L28 13 = [0, 1, 2, 3, 4, 10, 11, 12, 13] := (rfl)
theorem L28x14 : L28 14 = [0, 1, 2, 3, 4, 10, 11, 12, 13, 14] := (rfl)
theorem L28x15 : L28 15 = [0, 1, 2, 3, 4, 10, 11, 12, 13, 75] := (rfl)
theorem L28x16 : L28 16 = [0, 1, 2, 3, 4, 10, 11, 12, 13, 80] := (rfl)
theorem L28x17 : L28 17 = [0, 1, 2, 3, 4, 10, 11, 12, 13, 97] := (rfl)
theorem L28x18 : L28 18 = [0, 2, 3, 4, 10, 11, 15] := (rfl)
theorem L28x19 : L28 19 = [0, 1, 2, 3, 4, 10, 11] := (rfl)
theorem L28x20 : L28 20 = [0, 1, 2, 3, 4, 12, 16, 17] := (rfl)
theorem L28x21 : L28 21 = [0, 1, 2, 3, 4, 11, 12, 16] := (rfl)
theorem L28x22 : L28 22 = [0, 1, 2, 3, 4, 11, 12, 16, 18, 19] := (rfl)
theorem L28x23 : L28 23 = [0, 1, 2, 3, 4, 11, 16, 18, 19, 20] := (rfl)
theorem L28x24 : L28 24 = [0, 1, 2, 3, 4, 11, 16, 18, 19, 20, 125] := (rfl)
theorem L28x25 : L28 25 = [0, 1, 2, 3, 4, 10, 11, 16] := (rfl)
theorem L28x26 : L28 26 = [0, 2, 3, 4, 10, 11, 16] := (rfl)
theorem L28x27 : L28 27 = [0, 1, 2, 3, 4, 10, 11] := (rfl)
theorem L28x28 : L28 28 = [0, 1, 2, 3, 4, 10, 11, 16] := (rfl)
theorem L28x29 : L28 29 = [0, 1, 3, 4, 10, 11, 16] := (rfl)
theorem L28x30 : L28 30 = [0, 1, 2, 3, 4, 10, 11] := (rfl)
def ord28x17 : List Nat := [0, 1, 2, 3, 4, 5, 6, 7, 8, 9, 10, 11, 12, 13, 14, 15, 16]
theorem fnOk28 : fnOk Try.prog 28 = true := by kernel_rfl
theorem rq28 {R : Value → AH → Nat → Prop} {env : Env} {H : AH} {nx : Nat} : retQ Try.prog Try.f28 R .ret env H nx = R (.tuple #[]) H nx := retQ_none rfl

/-! 29: math/bits.Len · code of 8 operations -/
def L29 : Nat → List Nat
  | 0 => [0]
  | 1 => [2]
  | 2 => [2]
  | _ => []
theorem L29x0 : L29 0 = [0] := (rfl)
theorem L29x1 : L29 1 = [2] := (rfl)
theorem L29x2 : L29 2 = [2] := (rfl)
theorem fnOk29 : fnOk Try.prog 29 = true := by kernel_rfl
theorem rq29 {R : Value → AH → Nat → Prop} {env : Env} {H : AH} {nx : Nat} : retQ Try.prog Try.f29 R .ret env H nx = onV (eg env 2) R H nx := retQ_one rfl (of_decide_eq_true (by kernel_rfl))

theorem cv55x30 (lo : Nat) (k' : IntKind) (n : Int) (K : Value → AH → Nat → Prop) (H : AH) (nx : Nat) : convQ Try.prog lo 55 30 (.int k' n) K H nx = K (.int .u32 (IntKind.wrap .u32 n)) H nx := convQ_int (by kernel_rfl) (by kernel_rfl)
theorem cx55x30 (k' : IntKind) (n : Int) (H : AH) : convV Try.prog H 55 30 (.int k' n) = some (.int .u32 (IntKind.wrap .u32 n)) := convV_int (by kernel_rfl) (by kernel_rfl)
/-! 30: cmp.Or[int] · code of 18 operations -/
def L30 : Nat → List Nat
  | 0 => [0]
  | 1 => [0, 3]
  | 2 => [3, 6, 7, 8]
  | 3 => [3, 6, 7, 8, 9]
  | 4 => [3, 5, 6, 7, 8]
  | 5 => [3, 5, 6, 7, 8, 14]
  | 6 => [2]
  | 7 => [3, 6, 7, 8]
  | 8 => [2]
  | _ => []
theorem L30x0 : L30 0 = [0] := (rfl)
theorem L30x1 : L30 1 = [0, 3] := (rfl)
theorem L30x2 : L30 2 = [3, 6, 7, 8] := (rfl)
theorem L30x3 : L30 3 = [3, 6, 7, 8, 9] := (rfl)
theorem L30x4 : L30 4 = [3, 5, 6, 7, 8] := (rfl)
theorem L30x5 : L30 5 = [3, 5, 6, 7, 8, 14] := (rfl)
theorem L30x6 : L30 6 = [2] := (rfl)
theorem L30x7 : L30 7 = [3, 6, 7, 8] := (rfl)
theorem L30x8 : L30 8 = [2] := (rfl)
theorem fnOk30 : fnOk Try.prog 30 = true := by kernel_rfl
theorem rq30 {R : Value → AH → Nat → Prop} {env : Env} {H : AH} {nx : Nat} : retQ Try.prog Try.f30 R .ret env H nx = onV (eg env 2) R H nx := retQ_one rfl (of_decide_eq_true (by kernel_rfl))

theorem len87 (H : AH) (ty : TypeId) (a : Option Addr) (n c : Nat) : lenV Try.prog H #[87] ty #[.slice a n c] = some (.int .i64 n) := lenV_slice 87 3 ty 1 a n c (by kernel_rfl)
theorem ia87 (H : AH) (n b o c : Nat) (kk : IntKind) (i : Int) (h0 : 0 ≤ i) (h1 : i < n) : indexAV Try.prog H 87 (.slice (some ⟨b, o, none⟩) n c) (.int kk i) = some (.pointer (some ⟨b, o + i.toNat * 1, none⟩)) := indexAV_slice 87 3 n 1 b o c kk i (by kernel_rfl) h0 h1
/-! 31: cmp.Compare[uint32] · code of 22 operations -/
def L31 : Nat → List Nat
  | 0 => [0, 1]
  | 1 => [0, 1, 5]
  | 2 => [0, 1, 5, 6]
  | 3 => [0, 1, 6, 11]
  | 4 => [12]
  | 5 => [4]
  | 6 => [4]
  | 7 => [0, 1, 13]
  | 8 => [4]
  | 9 => [0, 1, 16]
  | 10 => [4]
  | 11 => [19]
  | 12 => [4]
  | 13 => [4]
  | _ => []
theorem L31x0 : L31 0 = [0, 1] := (rfl)
theorem L31x1 : L31 1 = [0, 1, 5] := (rfl)
theorem L31x2 : L31 2 = [0, 1, 5, 6] := (rfl)
theorem L31x3 : L31 3 = [0, 1, 6, 11] := (rfl)
theorem L31x4 : L31 4 = [12] := (rfl)
theorem L31x5 : L31 5 = [4] := (rfl)
theorem L31x6 : L31 6 = [4] := (rfl)
theorem L31x7 : L31 7 = [0, 1, 13] := (rfl)
theorem L31x8 : L31 8 = [4] := (rfl)
theorem L31x9 : L31 9 = [0, 1, 16] := (rfl)
theorem L31x10 : L31 10 = [4] := (rfl)
theorem L31x11 : L31 11 = [19] := (rfl)
theorem L31x12 : L31 12 = [4] := (rfl)
theorem L31x13 : L31 13 = [4] := (rfl)
theorem fnOk31 : fnOk Try.prog 31 = true := by kernel_rfl
theorem rq31 {R : Value → AH → Nat → Prop} {env : Env} {H : AH} {nx : Nat} : retQ Try.prog Try.f31 R .ret env H nx = onV (eg env 4) R H nx := retQ_one rfl (of_decide_eq_true (by kernel_rfl))

/-! 32: cmp.Compare[uint8] · code of 22 operations -/
def L32 : Nat → List Nat
  | 0 => [0, 1]
  | 1 => [0, 1, 5]
  | 2 => [0, 1, 5, 6]
  | 3 => [0, 1, 6, 11]
  | 4 => [12]
  | 5 => [4]
  | 6 => [4]
  | 7 => [0, 1, 13]
  | 8 => [4]
  | 9 => [0, 1, 16]
  | 10 => [4]
  | 11 => [19]
  | 12 => [4]
  | 13 => [4]
  | _ => []
theorem L32x0 : L32 0 = [0, 1] := (rfl)
theorem L32x1 : L32 1 = [0, 1, 5] := (rfl)
theorem L32x2 : L32 2 = [0, 1, 5, 6] := (rfl)
theorem L32x3 : L32 3 = [0, 1, 6, 11] := (rfl)
theorem L32x4 : L32 4 = [12] := (rfl)
theorem L32x5 : L32 5 = [4] := (rfl)
theorem L32x6 : L32 6 = [4] := (rfl)
theorem L32x7 : L32 7 = [0, 1, 13] := (rfl)
theorem L32x8 : L32 8 = [4] := (rfl)
theorem L32x9 : L32 9 = [0, 1, 16] := (rfl)
theorem L32x10 : L32 10 = [4] := (rfl)
theorem L32x11 : L32 11 = [19] := (rfl)
theorem L32x12 : L32 12 = [4] := (rfl)
theorem L32x13 : L32 13 = [4] := (rfl)
theorem fnOk32 : fnOk Try.prog 32 = true := by kernel_rfl
theorem rq32 {R : Value → AH → Nat → Prop} {env : Env} {H : AH} {nx : Nat} : retQ Try.prog Try.f32 R .ret env H nx = onV (eg env 4) R H nx := retQ_one rfl (of_decide_eq_true (by kernel_rfl))

/-! 33: (*milestone/source.Source).Mark · code of 31 operations -/
def L33 : Nat → List Nat
  | 0 => [0, 3, 4]
  | 1 => [0, 3, 4, 9]
  | 2 => [4, 5]
  | 3 => [0, 4, 6, 7]
  | 4 => [0, 4, 6, 18]
  | 5 => [4, 5]
  | 6 => [4, 5]
  | _ => []
theorem L33x0 : L33 0 = [0, 3, 4] := (rfl)
theorem L33x1 : L33 1 = [0, 3, 4, 9] := (rfl)
theorem L33x2 : L33 2 = [4, 5] := (rfl)
theorem L33x3 : L33 3 = [0, 4, 6, 7] := (rfl)
theorem L33x4 : L33 4 = [0, 4, 6, 18] := (rfl)
theorem L33x5 : L33 5 = [4, 5] := (rfl)
theorem L33x6 : L33 6 = [4, 5] := (rfl)
theorem fnOk33 : fnOk Try.prog 33 = true := by kernel_rfl
theorem rq33 {R : Value → AH → Nat → Prop} {env : Env} {H : AH} {nx : Nat} : retQ Try.prog Try.f33 R .ret env H nx = onA (eg env 4) (fun a => onA (loadV Try.prog H 24 a) fun v => onA (eg env 5) fun u => R (.tuple #[v, u]) H nx) := retQ_cell_tmp rfl (of_decide_eq_true (by kernel_rfl)) (of_decide_eq_true (by kernel_rfl))

theorem eqp40 (H : AH) (x y : Operand) (a : Option Addr) : binV Try.prog H .eql 40 x y (.pointer a) (.pointer none) = some (.bool a.isNone) := eq_ptr (by kernel_rfl)
theorem nep40 (H : AH) (x y : Operand) (a : Option Addr) : binV Try.prog H .neq 40 x y (.pointer a) (.pointer none) = some (.bool a.isSome) := ne_ptr (by kernel_rfl)
theorem bd0x24 (H : AH) : buildV Try.prog H 24 #[] = some (.agg #[(.int .u16 0), (.int .u16 0)]) := build_zero (by kernel_rfl) zero24
theorem fa65x0 (H : AH) (b o : Nat) : fieldAV Try.prog H 65 0 (.pointer (some ⟨b, o, none⟩)) = some (.pointer (some ⟨b, o + 0, none⟩)) := fieldAV_eq 65 0 b o false 0 0 (by kernel_rfl)
theorem ld63 (H : AH) (b o : Nat) : loadV Try.prog H 63 (.pointer (some ⟨b, o, none⟩)) = H.c b o := load_one (by kernel_rfl)
theorem ia63 (H : AH) (n b o c : Nat) (kk : IntKind) (i : Int) (h0 : 0 ≤ i) (h1 : i < n) : indexAV Try.prog H 63 (.slice (some ⟨b, o, none⟩) n c) (.int kk i) = some (.pointer (some ⟨b, o + i.toNat * 4, none⟩)) := indexAV_slice 63 92 n 4 b o c kk i (by kernel_rfl) h0 h1
theorem fa92x1 (H : AH) (b o : Nat) : fieldAV Try.prog H 92 1 (.pointer (some ⟨b, o, none⟩)) = some (.pointer (some ⟨b, o + 2, none⟩)) := fieldAV_eq 92 1 b o true 1 2 (by kernel_rfl)
/-! 34: milestone/serial.Nearer · code of 23 operations -/
def L34 : Nat → List Nat
  | 0 => [2, 3]
  | 1 => [4]
  | _ => []
theorem L34x0 : L34 0 = [2, 3] := (rfl)
theorem L34x1 : L34 1 = [4] := (rfl)
theorem fnOk34 : fnOk Try.prog 34 = true := by kernel_rfl
theorem rq34 {R : Value → AH → Nat → Prop} {env : Env} {H : AH} {nx : Nat} : retQ Try.prog Try.f34 R .ret env H nx = onV (eg env 4) R H nx := retQ_one rfl (of_decide_eq_true (by kernel_rfl))

/-! 35: slices.insertionSortCmpFunc[milestone/routes.Told] · code of 49 operations -/
def L35 : Nat → List Nat
  | 0 => [0, 1, 2, 3, 8]
  | 1 => [0, 1, 2, 3, 8, 14]
  | 3 => [0, 1, 2, 3, 8, 9]
  | 4 => [0, 1, 2, 3, 8, 9, 34]
  | 6 => [0, 1, 2, 3, 8, 9]
  | 5 => [0, 1, 2, 3, 8, 9]
  | 2 => [0, 1, 2, 3, 8]
  | _ => []
theorem L35x0 : L35 0 = [0, 1, 2, 3, 8] := (rfl)
theorem L35x1 : L35 1 = [0, 1, 2, 3, 8, 14] := (rfl)
theorem L35x3 : L35 3 = [0, 1, 2, 3, 8, 9] := (rfl)
theorem L35x4 : L35 4 = [0, 1, 2, 3, 8, 9, 34] := (rfl)
theorem L35x6 : L35 6 = [0, 1, 2, 3, 8, 9] := (rfl)
theorem L35x5 : L35 5 = [0, 1, 2, 3, 8, 9] := (rfl)
theorem L35x2 : L35 2 = [0, 1, 2, 3, 8] := (rfl)
def ord35x4 : List Nat := [0, 1, 2, 3, 4, 5, 6, 7, 8, 9, 10, 11, 12, 13, 14, 15, 16]
def ord35x6 : List Nat := [0, 1, 2, 3, 4, 5, 6, 7, 8, 9, 10, 11, 12, 13, 14, 15, 16, 17]
theorem fnOk35 : fnOk Try.prog 35 = true := by kernel_rfl
theorem rq35 {R : Value → AH → Nat → Prop} {env : Env} {H : AH} {nx : Nat} : retQ Try.prog Try.f35 R .ret env H nx = R (.tuple #[]) H nx := retQ_none rfl

/-! 36: slices.heapSortCmpFunc[milestone/routes.Told] · code of 56 operations -/
def L36 : Nat → List Nat
  | 0 => [0, 1, 2, 3, 8]
  | 1 => [0, 1, 2, 3, 8, 9]
  | 2 => [0, 3, 8, 9, 10]
  | 3 => [0, 3, 8, 9, 10, 11]
  | 4 => [0, 3, 8, 9, 10, 11, 21]
  | 6 => [0, 3, 8, 9, 10, 11]
  | 5 => [0, 3, 8, 9, 10, 11]
  | 7 => [0, 3, 8, 9, 12]
  | 8 => [0, 3, 8, 9, 12, 33]
  | 10 => [0, 3, 8, 9, 12]
  | 11 => [0, 3, 8, 9, 12]
  | 9 => [0, 3, 8, 9, 12]
  | _ => []
theorem L36x0 : L36 0 = [0, 1, 2, 3, 8] := (rfl)
theorem L36x1 : L36 1 = [0, 1, 2, 3, 8, 9] := (rfl)
theorem L36x2 : L36 2 = [0, 3, 8, 9, 10] := (rfl)
theorem L36x3 : L36 3 = [0, 3, 8, 9, 10, 11] := (rfl)
theorem L36x4 : L36 4 = [0, 3, 8, 9, 10, 11, 21] := (rfl)
theorem L36x6 : L36 6 = [0, 3, 8, 9, 10, 11] := (rfl)
theorem L36x5 : L36 5 = [0, 3, 8, 9, 10, 11] := (rfl)
theorem L36x7 : L36 7 = [0, 3, 8, 9, 12] := (rfl)
theorem L36x8 : L36 8 = [0, 3, 8, 9, 12, 33] := (rfl)
theorem L36x10 : L36 10 = [0, 3, 8, 9, 12] := (rfl)
theorem L36x11 : L36 11 = [0, 3, 8, 9, 12] := (rfl)
theorem L36x9 : L36 9 = [0, 3, 8, 9, 12] := (rfl)
def ord36x10 : List Nat := [0, 1, 2, 3, 4, 5, 6, 7, 8, 9, 10, 11, 12, 13, 14, 15, 16, 17, 18, 19]
theorem fnOk36 : fnOk Try.prog 36 = true := by kernel_rfl
theorem rq36 {R : Value → AH → Nat → Prop} {env : Env} {H : AH} {nx : Nat} : retQ Try.prog Try.f36 R .ret env H nx = R (.tuple #[]) H nx := retQ_none rfl

/-! 37: slices.breakPatternsCmpFunc[milestone/routes.Told] · code of 64 operations -/
def L37 : Nat → List Nat
  | 0 => [0, 1, 8]
  | 1 => [0, 1, 8, 17]
  | 2 => [0, 1, 8, 9]
  | 3 => [0, 1, 8, 9, 10]
  | 4 => [0, 1, 8, 9, 10, 11]
  | 5 => [0, 1, 8, 9, 10, 11, 35]
  | 7 => [0, 1, 8, 9, 10, 11, 12]
  | 8 => [0, 1, 8, 9, 10, 11, 12, 45]
  | 9 => [0, 1, 8, 9, 10, 11, 12]
  | 10 => [0, 1, 8, 9, 10, 11]
  | 6 => [0, 1, 8, 9, 10, 11]
  | _ => []
theorem L37x0 : L37 0 = [0, 1, 8] := (rfl)
theorem L37x1 : L37 1 = [0, 1, 8, 17] := (rfl)
theorem L37x2 : L37 2 = [0, 1, 8, 9] := (rfl)
theorem L37x3 : L37 3 = [0, 1, 8, 9, 10] := (rfl)
theorem L37x4 : L37 4 = [0, 1, 8, 9, 10, 11] := (rfl)
theorem L37x5 : L37 5 = [0, 1, 8, 9, 10, 11, 35] := (rfl)
theorem L37x7 : L37 7 = [0, 1, 8, 9, 10, 11, 12] := (rfl)
theorem L37x8 : L37 8 = [0, 1, 8, 9, 10, 11, 12, 45] := (rfl)
theorem L37x9 : L37 9 = [0, 1, 8, 9, 10, 11, 12] := (rfl)
theorem L37x10 : L37 10 = [0, 1, 8, 9, 10, 11] := (rfl)
theorem L37x6 : L37 6 = [0, 1, 8, 9, 10, 11] := (rfl)
def ord37x10 : List Nat := [0, 1, 2, 3, 4, 5, 6, 7, 8, 9, 10, 11, 12, 13, 14, 15, 16, 17, 18, 19]
theorem fnOk37 : fnOk Try.prog 37 = true := by kernel_rfl
theorem rq37 {R : Value → AH → Nat → Prop} {env : Env} {H : AH} {nx : Nat} : retQ Try.prog Try.f37 R .ret env H nx = R (.tuple #[]) H nx := retQ_none rfl

theorem cv3x94 (lo : Nat) (k' : IntKind) (n : Int) (K : Value → AH → Nat → Prop) (H : AH) (nx : Nat) : convQ Try.prog lo 3 94 (.int k' n) K H nx = K (.int .u64 (IntKind.wrap .u64 n)) H nx := convQ_int (by kernel_rfl) (by kernel_rfl)
theorem cx3x94 (k' : IntKind) (n : Int) (H : AH) : convV Try.prog H 3 94 (.int k' n) = some (.int .u64 (IntKind.wrap .u64 n)) := convV_int (by kernel_rfl) (by kernel_rfl)
theorem zero94 : zeroT Try.prog 94 = some (.int .u64 0) := by kernel_rfl
theorem al94 (lo : Nat) (K : Value → AH → Nat → Prop) (H : AH) (nx : Nat) : allocQ Try.prog lo 94 K H nx = newQ 94 ((.int .u64 0) : Value).cells K H nx := alloc_new zero94
theorem st94 (lo : Nat) (b o : Nat) (v : Value) (K : AH → Nat → Prop) (H : AH) (nx : Nat) (hv : v.oneCell' = true) : storeQ Try.prog lo 94 (.pointer (some ⟨b, o, none⟩)) v K H nx = stQ lo b o v K H nx := store_one (by kernel_rfl) hv
theorem stc94 (lo : Nat) (b o : Nat) (k : IntKind) (n : Int) (K : AH → Nat → Prop) (H : AH) (nx : Nat) : storeQ Try.prog lo 94 (.pointer (some ⟨b, o, none⟩)) (.int k n) K H nx = stQ lo b o (.int k n) K H nx := store_one (by kernel_rfl) rfl
theorem cv55x3 (lo : Nat) (k' : IntKind) (n : Int) (K : Value → AH → Nat → Prop) (H : AH) (nx : Nat) : convQ Try.prog lo 55 3 (.int k' n) K H nx = K (.int .i64 (IntKind.wrap .i64 n)) H nx := convQ_int (by kernel_rfl) (by kernel_rfl)
theorem cx55x3 (k' : IntKind) (n : Int) (H : AH) : convV Try.prog H 55 3 (.int k' n) = some (.int .i64 (IntKind.wrap .i64 n)) := convV_int (by kernel_rfl) (by kernel_rfl)
/-! 38: slices.choosePivotCmpFunc[milestone/routes.Told] · code of 65 operations -/
def L38 : Nat → List Nat
  | 0 => [0, 1, 2, 3]
  | 1 => [0, 1, 3, 10]
  | 2 => [0, 1, 3, 10, 11]
  | 3 => [0, 1, 3, 10, 11, 12]
  | 4 => [0, 1, 3, 10, 11, 12, 13]
  | 5 => [0, 3, 10, 11, 12, 13, 14]
  | 6 => [0, 3, 10, 11, 12, 13, 14, 34]
  | 7 => [0, 3, 11, 12, 13, 14, 36]
  | 8 => [0, 3, 11, 12, 13, 14]
  | 9 => [0, 3, 11, 12, 13, 14]
  | 10 => [0, 3, 11, 12, 13, 14]
  | 11 => [11, 13]
  | 12 => [13, 55]
  | 14 => [13, 55, 57]
  | 15 => [8, 9]
  | 16 => [13, 60]
  | 17 => [8, 9]
  | 13 => [8, 9]
  | _ => []
theorem L38x0 : L38 0 = [0, 1, 2, 3] := (rfl)
theorem L38x1 : L38 1 = [0, 1, 3, 10] := (rfl)
theorem L38x2 : L38 2 = [0, 1, 3, 10, 11] := (rfl)
theorem L38x3 : L38 3 = [0, 1, 3, 10, 11, 12] := (rfl)
theorem L38x4 : L38 4 = [0, 1, 3, 10, 11, 12, 13] := (rfl)
theorem L38x5 : L38 5 = [0, 3, 10, 11, 12, 13, 14] := (rfl)
theorem L38x6 : L38 6 = [0, 3, 10, 11, 12, 13, 14, 34] := (rfl)
theorem L38x7 : L38 7 = [0, 3, 11, 12, 13, 14, 36] := (rfl)
theorem L38x8 : L38 8 = [0, 3, 11, 12, 13, 14] := (rfl)
theorem L38x9 : L38 9 = [0, 3, 11, 12, 13, 14] := (rfl)
theorem L38x10 : L38 10 = [0, 3, 11, 12, 13, 14] := (rfl)
theorem L38x11 : L38 11 = [11, 13] := (rfl)
theorem L38x12 : L38 12 = [13, 55] := (rfl)
theorem L38x14 : L38 14 = [13, 55, 57] := (rfl)
theorem L38x15 : L38 15 = [8, 9] := (rfl)
theorem L38x16 : L38 16 = [13, 60] := (rfl)
theorem L38x17 : L38 17 = [8, 9] := (rfl)
theorem L38x13 : L38 13 = [8, 9] := (rfl)
theorem fnOk38 : fnOk Try.prog 38 = true := by kernel_rfl
theorem rq38 {R : Value → AH → Nat → Prop} {env : Env} {H : AH} {nx : Nat} : retQ Try.prog Try.f38 R .ret env H nx = onA (eg env 8) (fun v => onA (eg env 9) fun u => R (.tuple #[v, u]) H nx) := retQ_two rfl (of_decide_eq_true (by kernel_rfl)) (of_decide_eq_true (by kernel_rfl))

theorem al3 (lo : Nat) (K : Value → AH → Nat → Prop) (H : AH) (nx : Nat) : allocQ Try.prog lo 3 K H nx = newQ 3 ((.int .i64 0) : Value).cells K H nx := alloc_new zero3
/-! 39: slices.reverseRangeCmpFunc[milestone/routes.Told] · code of 30 operations -/
def L39 : Nat → List Nat
  | 0 => [0, 2, 8]
  | 1 => [0, 8, 9]
  | 2 => [0, 8, 9, 15]
  | 3 => [0, 8, 9]
  | 4 => [0, 8, 9]
  | 5 => [0, 8, 9]
  | _ => []
theorem L39x0 : L39 0 = [0, 2, 8] := (rfl)
theorem L39x1 : L39 1 = [0, 8, 9] := (rfl)
theorem L39x2 : L39 2 = [0, 8, 9, 15] := (rfl)
theorem L39x3 : L39 3 = [0, 8, 9] := (rfl)
theorem L39x4 : L39 4 = [0, 8, 9] := (rfl)
theorem L39x5 : L39 5 = [0, 8, 9] := (rfl)
def ord39x3 : List Nat := [0, 1, 2, 3, 4, 5, 6, 7, 8, 9, 10, 11, 12, 13, 14, 15]
theorem fnOk39 : fnOk Try.prog 39 = true := by kernel_rfl
theorem rq39 {R : Value → AH → Nat → Prop} {env : Env} {H : AH} {nx : Nat} : retQ Try.prog Try.f39 R .ret env H nx = R (.tuple #[]) H nx := retQ_none rfl

/-! 40: slices.partialInsertionSortCmpFunc[milestone/routes.Told] · code of 146 operations -/
def L40 : Nat → List Nat
  | 0 => [0, 1, 2, 3]
  | 1 => [0, 1, 2, 3, 9]
  | 2 => [0, 1, 2, 3, 9, 10]
  | 3 => [0, 1, 2, 3, 9, 10, 16]
  | 5 => [0, 1, 2, 3, 9, 10, 36]
  | 6 => [0, 1, 2, 3, 9, 10]
  | 7 => [0, 1, 2, 3, 9, 10, 41]
  | 8 => [8]
  | 9 => [0, 1, 2, 3, 9, 10, 45]
  | 10 => [8]
  | 11 => [0, 1, 2, 3, 9, 10]
  | 12 => [0, 1, 2, 3, 9, 10, 65]
  | 13 => [0, 1, 2, 3, 9, 10, 11]
  | 14 => [0, 1, 2, 3, 9, 10, 11, 69]
  | 16 => [0, 1, 2, 3, 9, 10, 11, 84]
  | 17 => [0, 1, 2, 3, 9, 10, 11]
  | 15 => [0, 1, 2, 3, 9, 10, 11]
  | 18 => [0, 1, 2, 3, 9, 10, 104]
  | 19 => [0, 1, 2, 3, 9, 10, 12]
  | 20 => [0, 1, 2, 3, 9, 10, 12, 109]
  | 22 => [0, 1, 2, 3, 9, 10, 12, 124]
  | 23 => [0, 1, 2, 3, 9, 10, 12]
  | 21 => [0, 1, 2, 3, 9, 10, 12]
  | 4 => [0, 1, 2, 3, 9, 10]
  | 24 => [8]
  | _ => []
theorem L40x0 : L40 0 = [0, 1, 2, 3] := (rfl)
theorem L40x1 : L40 1 = [0, 1, 2, 3, 9] := (rfl)
theorem L40x2 : L40 2 = [0, 1, 2, 3, 9, 10] := (rfl)
theorem L40x3 : L40 3 = [0, 1, 2, 3, 9, 10, 16] := (rfl)
theorem L40x5 : L40 5 = [0, 1, 2, 3, 9, 10, 36] := (rfl)
theorem L40x6 : L40 6 = [0, 1, 2, 3, 9, 10] := (rfl)
theorem L40x7 : L40 7 = [0, 1, 2, 3, 9, 10, 41] := (rfl)
theorem L40x8 : L40 8 = [8] := (rfl)
theorem L40x9 : L40 9 = [0, 1, 2, 3, 9, 10, 45] := (rfl)
theorem L40x10 : L40 10 = [8] := (rfl)
theorem L40x11 : L40 11 = [0, 1, 2, 3, 9, 10] := (rfl)
theorem L40x12 : L40 12 = [0, 1, 2, 3, 9, 10, 65] := (rfl)
theorem L40x13 : L40 13 = [0, 1, 2, 3, 9, 10, 11] := (rfl)
theorem L40x14 : L40 14 = [0, 1, 2, 3, 9, 10, 11, 69] := (rfl)
theorem L40x16 : L40 16 = [0, 1, 2, 3, 9, 10, 11, 84] := (rfl)
theorem L40x17 : L40 17 = [0, 1, 2, 3, 9, 10, 11] := (rfl)
theorem L40x15 : L40 15 = [0, 1, 2, 3, 9, 10, 11] := (rfl)
theorem L40x18 : L40 18 = [0, 1, 2, 3, 9, 10, 104] := (rfl)
theorem L40x19 : L40 19 = [0, 1, 2, 3, 9, 10, 12] := (rfl)
theorem L40x20 : L40 20 = [0, 1, 2, 3, 9, 10, 12, 109] := (rfl)
theorem L40x22 : L40 22 = [0, 1, 2, 3, 9, 10, 12, 124] := (rfl)
theorem L40x23 : L40 23 = [0, 1, 2, 3, 9, 10, 12] := (rfl)
theorem L40x21 : L40 21 = [0, 1, 2, 3, 9, 10, 12] := (rfl)
theorem L40x4 : L40 4 = [0, 1, 2, 3, 9, 10] := (rfl)
theorem L40x24 : L40 24 = [8] := (rfl)
def ord40x5 : List Nat := [0, 1, 2, 3, 4, 5, 6, 7, 8, 9, 10, 11, 12, 13, 14, 15, 16, 17]
def ord40x11 : List Nat := [0, 1, 2, 3, 4, 5, 6, 7, 8, 9, 10, 11, 12, 13, 14, 15, 16, 17]
def ord40x16 : List Nat := [0, 1, 2, 3, 4, 5, 6, 7, 8, 9, 10, 11, 12]
def ord40x17 : List Nat := [0, 1, 2, 3, 4, 5, 6, 7, 8, 9, 10, 11, 12, 13, 14, 15, 16, 17]
def ord40x22 : List Nat := [0, 1, 2, 3, 4, 5, 6, 7, 8, 9, 10, 11, 12]
def ord40x23 : List Nat := [0, 1, 2, 3, 4, 5, 6, 7, 8, 9, 10, 11, 12, 13, 14, 15, 16, 17]
theorem fnOk40 : fnOk Try.prog 40 = true := by kernel_rfl
theorem rq40 {R : Value → AH → Nat → Prop} {env : Env} {H : AH} {nx : Nat} : retQ Try.prog Try.f40 R .ret env H nx = onV (eg env 8) R H nx := retQ_one rfl (of_decide_eq_true (by kernel_rfl))

/-! 41: slices.partitionEqualCmpFunc[milestone/routes.Told] · code of 89 operations -/
def L41 : Nat → List Nat
  | 0 => [0, 1, 2, 3, 4]
  | 1 => [0, 1, 2, 4]
  | 2 => [0, 1, 4, 11, 12]
  | 3 => [0, 1, 4, 11, 12, 47]
  | 4 => [0, 1, 4, 11, 12]
  | 5 => [0, 1, 4, 11, 12, 65]
  | 6 => [0, 1, 4, 11, 12]
  | 7 => [0, 1, 4, 11, 12, 70]
  | 8 => [0, 1, 4, 11, 12]
  | 9 => [0, 1, 4, 11, 12]
  | 10 => [0, 1, 4, 11, 12]
  | 11 => [10]
  | _ => []
theorem L41x0 : L41 0 = [0, 1, 2, 3, 4] := (rfl)
theorem L41x1 : L41 1 = [0, 1, 2, 4] := (rfl)
theorem L41x2 : L41 2 = [0, 1, 4, 11, 12] := (rfl)
theorem L41x3 : L41 3 = [0, 1, 4, 11, 12, 47] := (rfl)
theorem L41x4 : L41 4 = [0, 1, 4, 11, 12] := (rfl)
theorem L41x5 : L41 5 = [0, 1, 4, 11, 12, 65] := (rfl)
theorem L41x6 : L41 6 = [0, 1, 4, 11, 12] := (rfl)
theorem L41x7 : L41 7 = [0, 1, 4, 11, 12, 70] := (rfl)
theorem L41x8 : L41 8 = [0, 1, 4, 11, 12] := (rfl)
theorem L41x9 : L41 9 = [0, 1, 4, 11, 12] := (rfl)
theorem L41x10 : L41 10 = [0, 1, 4, 11, 12] := (rfl)
theorem L41x11 : L41 11 = [10] := (rfl)
def ord41x1 : List Nat := [0, 1, 2, 3, 4, 5, 6, 7, 8, 9, 10, 11, 12, 13, 14, 15]
def ord41x3 : List Nat := [0, 1, 2, 3, 4, 5, 6, 7, 8, 9, 10, 11, 12, 13, 14, 15, 16]
def ord41x5 : List Nat := [0, 1, 2, 3, 4, 5, 6, 7, 8, 9, 10, 11, 12, 13, 14, 15]
def ord41x8 : List Nat := [0, 1, 2, 3, 4, 5, 6, 7, 8, 9, 10, 11, 12, 13, 14, 15]
theorem fnOk41 : fnOk Try.prog 41 = true := by kernel_rfl
theorem rq41 {R : Value → AH → Nat → Prop} {env : Env} {H : AH} {nx : Nat} : retQ Try.prog Try.f41 R .ret env H nx = onV (eg env 10) R H nx := retQ_one rfl (of_decide_eq_true (by kernel_rfl))

/-! 42: slices.partitionCmpFunc[milestone/routes.Told] · code of 190 operations -/
def L42 : Nat → List Nat
  | 0 => [0, 1, 2, 3, 4]
  | 1 => [0, 1, 2, 4]
  | 2 => [0, 1, 4, 12, 13]
  | 3 => [0, 1, 4, 12, 13, 47]
  | 4 => [0, 1, 4, 12, 13]
  | 5 => [0, 1, 4, 12, 13, 66]
  | 6 => [0, 1, 4, 12, 13]
  | 7 => [0, 1, 4, 12, 13, 71]
  | 8 => [13]
  | 9 => [10, 11]
  | 10 => [0, 1, 4, 12, 13]
  | 11 => [0, 1, 4, 12, 13]
  | 12 => [0, 1, 4, 12, 13]
  | 13 => [0, 1, 4, 12, 13, 120]
  | 14 => [0, 1, 4, 12, 13]
  | 15 => [0, 1, 4, 12, 13, 139]
  | 16 => [0, 1, 4, 12, 13]
  | 17 => [0, 1, 4, 12, 13, 144]
  | 18 => [0, 1, 4, 12, 13]
  | 19 => [0, 1, 4, 12, 13]
  | 20 => [0, 1, 4, 12, 13]
  | 21 => [13]
  | 22 => [10, 11]
  | _ => []
theorem L42x0 : L42 0 = [0, 1, 2, 3, 4] := (rfl)
theorem L42x1 : L42 1 = [0, 1, 2, 4] := (rfl)
theorem L42x2 : L42 2 = [0, 1, 4, 12, 13] := (rfl)
theorem L42x3 : L42 3 = [0, 1, 4, 12, 13, 47] := (rfl)
theorem L42x4 : L42 4 = [0, 1, 4, 12, 13] := (rfl)
theorem L42x5 : L42 5 = [0, 1, 4, 12, 13, 66] := (rfl)
theorem L42x6 : L42 6 = [0, 1, 4, 12, 13] := (rfl)
theorem L42x7 : L42 7 = [0, 1, 4, 12, 13, 71] := (rfl)
theorem L42x8 : L42 8 = [13] := (rfl)
theorem L42x9 : L42 9 = [10, 11] := (rfl)
theorem L42x10 : L42 10 = [0, 1, 4, 12, 13] := (rfl)
theorem L42x11 : L42 11 = [0, 1, 4, 12, 13] := (rfl)
theorem L42x12 : L42 12 = [0, 1, 4, 12, 13] := (rfl)
theorem L42x13 : L42 13 = [0, 1, 4, 12, 13, 120] := (rfl)
theorem L42x14 : L42 14 = [0, 1, 4, 12, 13] := (rfl)
theorem L42x15 : L42 15 = [0, 1, 4, 12, 13, 139] := (rfl)
theorem L42x16 : L42 16 = [0, 1, 4, 12, 13] := (rfl)
theorem L42x17 : L42 17 = [0, 1, 4, 12, 13, 144] := (rfl)
theorem L42x18 : L42 18 = [0, 1, 4, 12, 13] := (rfl)
theorem L42x19 : L42 19 = [0, 1, 4, 12, 13] := (rfl)
theorem L42x20 : L42 20 = [0, 1, 4, 12, 13] := (rfl)
theorem L42x21 : L42 21 = [13] := (rfl)
theorem L42x22 : L42 22 = [10, 11] := (rfl)
def ord42x1 : List Nat := [0, 1, 2, 3, 4, 5, 6, 7, 8, 9, 10, 11, 12, 13, 14, 15]
def ord42x3 : List Nat := [0, 1, 2, 3, 4, 5, 6, 7, 8, 9, 10, 11, 12, 13, 14, 15]
def ord42x5 : List Nat := [0, 1, 2, 3, 4, 5, 6, 7, 8, 9, 10, 11, 12, 13, 14, 15, 16]
def ord42x8 : List Nat := [0, 1, 2, 3, 4, 5, 6, 7, 8, 9, 10, 11, 12, 13, 14, 15]
def ord42x10 : List Nat := [0, 1, 2, 3, 4, 5, 6, 7, 8, 9, 10, 11, 12, 13, 14, 15]
def ord42x13 : List Nat := [0, 1, 2, 3, 4, 5, 6, 7, 8, 9, 10, 11, 12, 13, 14, 15]
def ord42x15 : List Nat := [0, 1, 2, 3, 4, 5, 6, 7, 8, 9, 10, 11, 12, 13, 14, 15, 16]
def ord42x18 : List Nat := [0, 1, 2, 3, 4, 5, 6, 7, 8, 9, 10, 11, 12, 13, 14, 15]
def ord42x21 : List Nat := [0, 1, 2, 3, 4, 5, 6, 7, 8, 9, 10, 11, 12, 13, 14, 15]
theorem fnOk42 : fnOk Try.prog 42 = true := by kernel_rfl
theorem rq42 {R : Value → AH → Nat → Prop} {env : Env} {H : AH} {nx : Nat} : retQ Try.prog Try.f42 R .ret env H nx = onA (eg env 10) (fun v => onA (eg env 11) fun u => R (.tuple #[v, u]) H nx) := retQ_two rfl (of_decide_eq_true (by kernel_rfl)) (of_decide_eq_true (by kernel_rfl))

/-! 43: math/bits.Len32 · code of 22 operations -/
def L43 : Nat → List Nat
  | 0 => [0, 2]
  | 1 => [0, 2, 4]
  | 2 => [0]
  | 3 => [0, 2]
  | 4 => [0, 2, 8]
  | 5 => [0, 2]
  | 6 => [0, 2]
  | 7 => [2]
  | _ => []
theorem L43x0 : L43 0 = [0, 2] := (rfl)
theorem L43x1 : L43 1 = [0, 2, 4] := (rfl)
theorem L43x2 : L43 2 = [0] := (rfl)
theorem L43x3 : L43 3 = [0, 2] := (rfl)
theorem L43x4 : L43 4 = [0, 2, 8] := (rfl)
theorem L43x5 : L43 5 = [0, 2] := (rfl)
theorem L43x6 : L43 6 = [0, 2] := (rfl)
theorem L43x7 : L43 7 = [2] := (rfl)
theorem fnOk43 : fnOk Try.prog 43 = true := by kernel_rfl
theorem rq43 {R : Value → AH → Nat → Prop} {env : Env} {H : AH} {nx : Nat} : retQ Try.prog Try.f43 R .ret env H nx = onV (eg env 2) R H nx := retQ_one rfl (of_decide_eq_true (by kernel_rfl))

theorem cv30x5 (lo : Nat) (k' : IntKind) (n : Int) (K : Value → AH → Nat → Prop) (H : AH) (nx : Nat) : convQ Try.prog lo 30 5 (.int k' n) K H nx = K (.int .u8 (IntKind.wrap .u8 n)) H nx := convQ_int (by kernel_rfl) (by kernel_rfl)
theorem cx30x5 (k' : IntKind) (n : Int) (H : AH) : convV Try.prog H 30 5 (.int k' n) = some (.int .u8 (IntKind.wrap .u8 n)) := convV_int (by kernel_rfl) (by kernel_rfl)
theorem ix9 (H : AH) (s : ByteArray) (kk : IntKind) (i : Int) (h0 : 0 ≤ i) (h1 : i < s.size) : indexV Try.prog H 9 (.string s) (.int kk i) = some (.int .u8 (s.data[i.toNat]!).toNat) := index_str (by kernel_rfl) h0 h1
/-! 44: math/bits.Len64 · code of 30 operations -/
def L44 : Nat → List Nat
  | 0 => [0, 2]
  | 1 => [0, 2, 4]
  | 2 => [0]
  | 3 => [0, 2]
  | 4 => [0, 2, 8]
  | 5 => [0, 2]
  | 6 => [0, 2]
  | 7 => [0, 2, 14]
  | 8 => [0, 2]
  | 9 => [0, 2]
  | 10 => [2]
  | _ => []
theorem L44x0 : L44 0 = [0, 2] := (rfl)
theorem L44x1 : L44 1 = [0, 2, 4] := (rfl)
theorem L44x2 : L44 2 = [0] := (rfl)
theorem L44x3 : L44 3 = [0, 2] := (rfl)
theorem L44x4 : L44 4 = [0, 2, 8] := (rfl)
theorem L44x5 : L44 5 = [0, 2] := (rfl)
theorem L44x6 : L44 6 = [0, 2] := (rfl)
theorem L44x7 : L44 7 = [0, 2, 14] := (rfl)
theorem L44x8 : L44 8 = [0, 2] := (rfl)
theorem L44x9 : L44 9 = [0, 2] := (rfl)
theorem L44x10 : L44 10 = [2] := (rfl)
theorem fnOk44 : fnOk Try.prog 44 = true := by kernel_rfl
theorem rq44 {R : Value → AH → Nat → Prop} {env : Env} {H : AH} {nx : Nat} : retQ Try.prog Try.f44 R .ret env H nx = onV (eg env 2) R H nx := retQ_one rfl (of_decide_eq_true (by kernel_rfl))

theorem cv34x5 (lo : Nat) (k' : IntKind) (n : Int) (K : Value → AH → Nat → Prop) (H : AH) (nx : Nat) : convQ Try.prog lo 34 5 (.int k' n) K H nx = K (.int .u8 (IntKind.wrap .u8 n)) H nx := convQ_int (by kernel_rfl) (by kernel_rfl)
theorem cx34x5 (k' : IntKind) (n : Int) (H : AH) : convV Try.prog H 34 5 (.int k' n) = some (.int .u8 (IntKind.wrap .u8 n)) := convV_int (by kernel_rfl) (by kernel_rfl)
/-! 45: cmp.isNaN[uint32] · code of 5 operations -/
def L45 : Nat → List Nat
  | 0 => [0]
  | 1 => [2]
  | _ => []
theorem L45x0 : L45 0 = [0] := (rfl)
theorem L45x1 : L45 1 = [2] := (rfl)
theorem fnOk45 : fnOk Try.prog 45 = true := by kernel_rfl
theorem rq45 {R : Value → AH → Nat → Prop} {env : Env} {H : AH} {nx : Nat} : retQ Try.prog Try.f45 R .ret env H nx = onV (eg env 2) R H nx := retQ_one rfl (of_decide_eq_true (by kernel_rfl))

/-! 46: cmp.isNaN[uint8] · code of 5 operations -/
def L46 : Nat → List Nat
  | 0 => [0]
  | 1 => [2]
  | _ => []
theorem L46x0 : L46 0 = [0] := (rfl)
theorem L46x1 : L46 1 = [2] := (rfl)
theorem fnOk46 : fnOk Try.prog 46 = true := by kernel_rfl
theorem rq46 {R : Value → AH → Nat → Prop} {env : Env} {H : AH} {nx : Nat} : retQ Try.prog Try.f46 R .ret env H nx = onV (eg env 2) R H nx := retQ_one rfl (of_decide_eq_true (by kernel_rfl))

/-! 47: (*milestone/source.Source).find · code of 13 operations -/
def L47 : Nat → List Nat
  | 0 => [0, 3]
  | 1 => [4, 5]
  | _ => []
theorem L47x0 : L47 0 = [0, 3] := (rfl)
theorem L47x1 : L47 1 = [4, 5] := (rfl)
def ord47x1 : List Nat := [0, 1, 2, 3, 4, 5, 6, 7, 8, 9]
theorem fnOk47 : fnOk Try.prog 47 = true := by kernel_rfl
theorem rq47 {R : Value → AH → Nat → Prop} {env : Env} {H : AH} {nx : Nat} : retQ Try.prog Try.f47 R .ret env H nx = onA (eg env 4) (fun v => onA (eg env 5) fun u => R (.tuple #[v, u]) H nx) := retQ_two rfl (of_decide_eq_true (by kernel_rfl)) (of_decide_eq_true (by kernel_rfl))

/-! 48: milestone/serial.Newer · code of 11 operations -/
def L48 : Nat → List Nat
  | 0 => [0, 1]
  | 1 => [4]
  | _ => []
theorem L48x0 : L48 0 = [0, 1] := (rfl)
theorem L48x1 : L48 1 = [4] := (rfl)
theorem fnOk48 : fnOk Try.prog 48 = true := by kernel_rfl
theorem rq48 {R : Value → AH → Nat → Prop} {env : Env} {H : AH} {nx : Nat} : retQ Try.prog Try.f48 R .ret env H nx = onV (eg env 4) R H nx := retQ_one rfl (of_decide_eq_true (by kernel_rfl))

/-! 49: slices.siftDownCmpFunc[milestone/routes.Told] · code of 76 operations -/
def L49 : Nat → List Nat
  | 0 => [0, 2, 3, 4, 10]
  | 1 => [0, 2, 3, 4, 10, 11]
  | 2 => [0, 2, 3, 4, 10, 11, 18]
  | 3 => [0, 2, 3, 4, 10, 11, 40]
  | 4 => [0, 2, 3, 4, 10, 11]
  | 5 => [0, 2, 3, 4, 10, 11, 58]
  | 6 => [0, 2, 3, 4, 11]
  | 7 => [0, 2, 3, 4, 10]
  | _ => []
theorem L49x0 : L49 0 = [0, 2, 3, 4, 10] := (rfl)
theorem L49x1 : L49 1 = [0, 2, 3, 4, 10, 11] := (rfl)
theorem L49x2 : L49 2 = [0, 2, 3, 4, 10, 11, 18] := (rfl)
theorem L49x3 : L49 3 = [0, 2, 3, 4, 10, 11, 40] := (rfl)
theorem L49x4 : L49 4 = [0, 2, 3, 4, 10, 11] := (rfl)
theorem L49x5 : L49 5 = [0, 2, 3, 4, 10, 11, 58] := (rfl)
theorem L49x6 : L49 6 = [0, 2, 3, 4, 11] := (rfl)
theorem L49x7 : L49 7 = [0, 2, 3, 4, 10] := (rfl)
def ord49x3 : List Nat := [0, 1, 2, 3, 4, 5, 6, 7, 8, 9, 10, 11, 12, 13, 14, 15, 16, 17, 18, 19, 20, 21]
def ord49x5 : List Nat := [0, 1, 2, 3, 4, 5, 6, 7, 8, 9, 10, 11, 12, 13, 14, 15]
def ord49x6 : List Nat := [0, 1, 2, 3, 4, 5, 6, 7, 8, 9, 10, 11, 12, 13, 14, 15, 16, 17, 18, 19, 20, 21, 22, 23]
theorem fnOk49 : fnOk Try.prog 49 = true := by kernel_rfl
theorem rq49 {R : Value → AH → Nat → Prop} {env : Env} {H : AH} {nx : Nat} : retQ Try.prog Try.f49 R .ret env H nx = R (.tuple #[]) H nx := retQ_none rfl

/-! 50: slices.nextPowerOfTwo · code of 6 operations -/
def L50 : Nat → List Nat
  | 0 => [0]
  | 1 => [2]
  | _ => []
theorem L50x0 : L50 0 = [0] := (rfl)
theorem L50x1 : L50 1 = [2] := (rfl)
theorem fnOk50 : fnOk Try.prog 50 = true := by kernel_rfl
theorem rq50 {R : Value → AH → Nat → Prop} {env : Env} {H : AH} {nx : Nat} : retQ Try.prog Try.f50 R .ret env H nx = onV (eg env 2) R H nx := retQ_one rfl (of_decide_eq_true (by kernel_rfl))

/-! 51: (*slices.xorshift).Next · code of 35 operations -/
def L51 : Nat → List Nat
  | 0 => [0]
  | 1 => [0]
  | 2 => [0]
  | 3 => [0]
  | 4 => [2]
  | _ => []
theorem L51x0 : L51 0 = [0] := (rfl)
theorem L51x1 : L51 1 = [0] := (rfl)
theorem L51x2 : L51 2 = [0] := (rfl)
theorem L51x3 : L51 3 = [0] := (rfl)
theorem L51x4 : L51 4 = [2] := (rfl)
def ord51x1 : List Nat := [0, 1, 2, 3, 4, 5, 6, 7, 8, 9]
def ord51x2 : List Nat := [0, 1, 2, 3, 4, 5, 6, 7, 8, 9]
def ord51x3 : List Nat := [0, 1, 2, 3, 4, 5, 6, 7, 8, 9]
theorem fnOk51 : fnOk Try.prog 51 = true := by kernel_rfl
theorem rq51 {R : Value → AH → Nat → Prop} {env : Env} {H : AH} {nx : Nat} : retQ Try.prog Try.f51 R .ret env H nx = onV (eg env 2) R H nx := retQ_one rfl (of_decide_eq_true (by kernel_rfl))

theorem ld94 (H : AH) (b o : Nat) : loadV Try.prog H 94 (.pointer (some ⟨b, o, none⟩)) = H.c b o := load_one (by kernel_rfl)
/-! 52: slices.medianAdjacentCmpFunc[milestone/routes.Told] · code of 11 operations -/
def L52 : Nat → List Nat
  | 0 => [0, 1, 2, 3]
  | 1 => [8]
  | _ => []
theorem L52x0 : L52 0 = [0, 1, 2, 3] := (rfl)
theorem L52x1 : L52 1 = [8] := (rfl)
theorem fnOk52 : fnOk Try.prog 52 = true := by kernel_rfl
theorem rq52 {R : Value → AH → Nat → Prop} {env : Env} {H : AH} {nx : Nat} : retQ Try.prog Try.f52 R .ret env H nx = onV (eg env 8) R H nx := retQ_one rfl (of_decide_eq_true (by kernel_rfl))

/-! 53: slices.medianCmpFunc[milestone/routes.Told] · code of 36 operations -/
def L53 : Nat → List Nat
  | 0 => [0, 1, 2, 3, 4, 5]
  | 1 => [0, 1, 2, 3, 4, 5]
  | 2 => [0, 1, 2, 4, 5]
  | 3 => [2]
  | 4 => [12]
  | _ => []
theorem L53x0 : L53 0 = [0, 1, 2, 3, 4, 5] := (rfl)
theorem L53x1 : L53 1 = [0, 1, 2, 3, 4, 5] := (rfl)
theorem L53x2 : L53 2 = [0, 1, 2, 4, 5] := (rfl)
theorem L53x3 : L53 3 = [2] := (rfl)
theorem L53x4 : L53 4 = [12] := (rfl)
theorem fnOk53 : fnOk Try.prog 53 = true := by kernel_rfl
theorem rq53 {R : Value → AH → Nat → Prop} {env : Env} {H : AH} {nx : Nat} : retQ Try.prog Try.f53 R .ret env H nx = onV (eg env 12) R H nx := retQ_one rfl (of_decide_eq_true (by kernel_rfl))

/-! 54: slices.BinarySearchFunc[[]milestone/source.entry,milestone/source.entry,milestone/api.Prefix] · code of 48 operations -/
def L54 : Nat → List Nat
  | 0 => [0, 2, 4]
  | 1 => [0, 2, 4, 8]
  | 2 => [0, 2, 4, 8, 9, 10]
  | 3 => [0, 2, 4, 8, 9, 10, 17]
  | 4 => [0, 2, 4, 8, 9, 10, 11]
  | 5 => [0, 2, 4, 8, 9, 10, 11, 31]
  | 6 => [0, 2, 4, 8, 9, 10]
  | 7 => [0, 2, 4, 8, 9, 10]
  | 8 => [6, 7]
  | _ => []
theorem L54x0 : L54 0 = [0, 2, 4] := (rfl)
theorem L54x1 : L54 1 = [0, 2, 4, 8] := (rfl)
theorem L54x2 : L54 2 = [0, 2, 4, 8, 9, 10] := (rfl)
theorem L54x3 : L54 3 = [0, 2, 4, 8, 9, 10, 17] := (rfl)
theorem L54x4 : L54 4 = [0, 2, 4, 8, 9, 10, 11] := (rfl)
theorem L54x5 : L54 5 = [0, 2, 4, 8, 9, 10, 11, 31] := (rfl)
theorem L54x6 : L54 6 = [0, 2, 4, 8, 9, 10] := (rfl)
theorem L54x7 : L54 7 = [0, 2, 4, 8, 9, 10] := (rfl)
theorem L54x8 : L54 8 = [6, 7] := (rfl)
def ord54x5 : List Nat := [0, 1, 2, 3, 4, 5, 6, 7]
def ord54x8 : List Nat := [0, 1, 2, 3, 4, 5, 6, 7, 8, 9, 10, 11, 12, 13, 14, 15]
theorem fnOk54 : fnOk Try.prog 54 = true := by kernel_rfl
theorem rq54 {R : Value → AH → Nat → Prop} {env : Env} {H : AH} {nx : Nat} : retQ Try.prog Try.f54 R .ret env H nx = onA (eg env 6) (fun v => onA (eg env 7) fun u => R (.tuple #[v, u]) H nx) := retQ_two rfl (of_decide_eq_true (by kernel_rfl)) (of_decide_eq_true (by kernel_rfl))

theorem len63 (H : AH) (ty : TypeId) (a : Option Addr) (n c : Nat) : lenV Try.prog H #[63] ty #[.slice a n c] = some (.int .i64 n) := lenV_slice 63 92 ty 4 a n c (by kernel_rfl)
theorem ld92 (H : AH) (b o : Nat) : loadV Try.prog H 92 (.pointer (some ⟨b, o, none⟩)) = (loadN H b o 4).map fun l => .agg l.toArray := load_agg (by kernel_rfl) (by kernel_rfl)
/-! 55: (*milestone/source.Source).find$1 · code of 8 operations -/
def L55 : Nat → List Nat
  | 0 => [2, 3]
  | 1 => [4]
  | _ => []
theorem L55x0 : L55 0 = [2, 3] := (rfl)
theorem L55x1 : L55 1 = [4] := (rfl)
theorem fnOk55 : fnOk Try.prog 55 = true := by kernel_rfl
theorem rq55 {R : Value → AH → Nat → Prop} {env : Env} {H : AH} {nx : Nat} : retQ Try.prog Try.f55 R .ret env H nx = onV (eg env 4) R H nx := retQ_one rfl (of_decide_eq_true (by kernel_rfl))

theorem fa92x0 (H : AH) (b o : Nat) : fieldAV Try.prog H 92 0 (.pointer (some ⟨b, o, none⟩)) = some (.pointer (some ⟨b, o + 0, none⟩)) := fieldAV_eq 92 0 b o true 1 0 (by kernel_rfl)
/-! 56: slices.order2CmpFunc[milestone/routes.Told] · code of 27 operations -/
def L56 : Nat → List Nat
  | 0 => [0, 1, 2, 3, 4]
  | 1 => [1, 2, 3, 22]
  | 2 => [1, 2]
  | 3 => [10, 11]
  | 4 => [10, 11]
  | _ => []
theorem L56x0 : L56 0 = [0, 1, 2, 3, 4] := (rfl)
theorem L56x1 : L56 1 = [1, 2, 3, 22] := (rfl)
theorem L56x2 : L56 2 = [1, 2] := (rfl)
theorem L56x3 : L56 3 = [10, 11] := (rfl)
theorem L56x4 : L56 4 = [10, 11] := (rfl)
def ord56x1 : List Nat := [0, 1, 2, 3, 4, 5, 6, 7, 8, 9, 10]
theorem fnOk56 : fnOk Try.prog 56 = true := by kernel_rfl
theorem rq56 {R : Value → AH → Nat → Prop} {env : Env} {H : AH} {nx : Nat} : retQ Try.prog Try.f56 R .ret env H nx = onA (eg env 10) (fun v => onA (eg env 11) fun u => R (.tuple #[v, u]) H nx) := retQ_two rfl (of_decide_eq_true (by kernel_rfl)) (of_decide_eq_true (by kernel_rfl))

theorem st3 (lo : Nat) (b o : Nat) (v : Value) (K : AH → Nat → Prop) (H : AH) (nx : Nat) (hv : v.oneCell' = true) : storeQ Try.prog lo 3 (.pointer (some ⟨b, o, none⟩)) v K H nx = stQ lo b o v K H nx := store_one (by kernel_rfl) hv
theorem stc3 (lo : Nat) (b o : Nat) (k : IntKind) (n : Int) (K : AH → Nat → Prop) (H : AH) (nx : Nat) : storeQ Try.prog lo 3 (.pointer (some ⟨b, o, none⟩)) (.int k n) K H nx = stQ lo b o (.int k n) K H nx := store_one (by kernel_rfl) rfl
attribute [go_sem] L3x0 L3x1 L3x2 L3x3 L3x4 L3x5 L3x6 L3x7 L3x8 L3x9 L3x10 L3x11 L3x12 fnOk3 rq3 fa24x1 ld22 cv5x3 cx5x3 ld24 len36 cv5x34 cx5x34 len38 L4x0 L4x1 L4x2 L4x3 L4x4 L4x5 L4x6 fnOk4 rq4 bd32x0x1 al32 st32 ld32 bd24x0x1 ia38 fa46x1 ld3 fa46x2 L5x0 L5x1 fnOk5 rq5 bd0x48 L6x0 L6x1 L6x2 L6x3 L6x4 L6x5 L6x6 L6x8 L6x9 L6x10 L6x11 L6x12 L6x13 L6x14 L6x7 L6x15 fnOk6 rq6 eqp26 nep26 bd52x0x1x2x3x4 al52 st52 fa48x0 ld36 st36 stc36 ld52 ia36 L7x0 L7x1 fnOk7 rq7 cv5x30 cx5x30 L8x0 L8x1 L8x2 fnOk8 rq8 L9x0 L9x1 L9x2 L9x3 L9x4 L9x5 fnOk9 rq9 L10x0 L10x1 L10x2 L10x3 L10x4 L10x5 L10x6 L10x7 L10x8 L10x9 L10x10 L10x11 L10x12 L10x13 L10x14 L10x15 L10x16 L10x17 fnOk10 rq10 fa52x1 len42 ia42 fa52x3 cv22x30 cx22x30 fa52x0 cv30x22 cx30x22 fa24x0 bd46x0x1x2x3 al46 st46 fa46x0 eqg32 neg32 ld46 L11x0 L11x1 fnOk11 rq11 bd0x65 L12x0 L12x1 fnOk12 rq12 L13x0 L13x1 fnOk13 rq13 fa32x1 ld5 fa32x0 ld30 L14x0 L14x1 fnOk14 rq14 L15x0 L15x1 L15x2 L15x3 L15x4 L15x5 L15x6 L15x7 fnOk15 rq15 L16x0 L16x1 L16x2 L16x3 L16x4 L16x5 L16x7 L16x8 L16x9 L16x6 L16x10 fnOk16 rq16 L17x0 L17x1 L17x2 L17x3 L17x4 L17x5 L17x7 L17x8 L17x9 L17x10 L17x6 L17x11 L17x12 fnOk17 rq17 L18x0 L18x1 fnOk18 rq18 ld34 fa52x4 L19x0 L19x1 L19x2 L19x3 fnOk19 rq19 eqs36 nes36 L20x0 L20x1 fnOk20 rq20 cv3x55 cx3x55 L21x0 L21x1 L21x2 L21x3 L21x4 fnOk21 rq21 L22x0 L22x1 fnOk22 rq22 L23x0 L23x1 L23x2 fnOk23 rq23 al24 st24 L24x0 L24x1 L24x2 L24x3 fnOk24 rq24 L25x0 L25x1 L25x2 L25x3 L25x4 L25x5 L25x6 L25x7 fnOk25 rq25 L26x0 L26x1 fnOk26 rq26 L27x0 L27x1 L27x3 L27x2 L27x4 fnOk27 rq27 L28x0 L28x1 L28x2 L28x3 L28x4 L28x5 L28x6 L28x7 L28x8 L28x9 L28x10 L28x11 L28x12 L28x13 L28x14 L28x15 L28x16 L28x17 L28x18 L28x19 L28x20 L28x21 L28x22 L28x23 L28x24 L28x25 L28x26 L28x27 L28x28 L28x29 L28x30 fnOk28 rq28 L29x0 L29x1 L29x2 fnOk29 rq29 cv55x30 cx55x30 L30x0 L30x1 L30x2 L30x3 L30x4 L30x5 L30x6 L30x7 L30x8 fnOk30 rq30 len87 ia87 L31x0 L31x1 L31x2 L31x3 L31x4 L31x5 L31x6 L31x7 L31x8 L31x9 L31x10 L31x11 L31x12 L31x13 fnOk31 rq31 L32x0 L32x1 L32x2 L32x3 L32x4 L32x5 L32x6 L32x7 L32x8 L32x9 L32x10 L32x11 L32x12 L32x13 fnOk32 rq32 L33x0 L33x1 L33x2 L33x3 L33x4 L33x5 L33x6 fnOk33 rq33 eqp40 nep40 bd0x24 fa65x0 ld63 ia63 fa92x1 L34x0 L34x1 fnOk34 rq34 L35x0 L35x1 L35x3 L35x4 L35x6 L35x5 L35x2 fnOk35 rq35 L36x0 L36x1 L36x2 L36x3 L36x4 L36x6 L36x5 L36x7 L36x8 L36x10 L36x11 L36x9 fnOk36 rq36 L37x0 L37x1 L37x2 L37x3 L37x4 L37x5 L37x7 L37x8 L37x9 L37x10 L37x6 fnOk37 rq37 cv3x94 cx3x94 al94 st94 stc94 cv55x3 cx55x3 L38x0 L38x1 L38x2 L38x3 L38x4 L38x5 L38x6 L38x7 L38x8 L38x9 L38x10 L38x11 L38x12 L38x14 L38x15 L38x16 L38x17 L38x13 fnOk38 rq38 al3 L39x0 L39x1 L39x2 L39x3 L39x4 L39x5 fnOk39 rq39 L40x0 L40x1 L40x2 L40x3 L40x5 L40x6 L40x7 L40x8 L40x9 L40x10 L40x11 L40x12 L40x13 L40x14 L40x16 L40x17 L40x15 L40x18 L40x19 L40x20 L40x22 L40x23 L40x21 L40x4 L40x24 fnOk40 rq40 L41x0 L41x1 L41x2 L41x3 L41x4 L41x5 L41x6 L41x7 L41x8 L41x9 L41x10 L41x11 fnOk41 rq41 L42x0 L42x1 L42x2 L42x3 L42x4 L42x5 L42x6 L42x7 L42x8 L42x9 L42x10 L42x11 L42x12 L42x13 L42x14 L42x15 L42x16 L42x17 L42x18 L42x19 L42x20 L42x21 L42x22 fnOk42 rq42 L43x0 L43x1 L43x2 L43x3 L43x4 L43x5 L43x6 L43x7 fnOk43 rq43 cv30x5 cx30x5 ix9 L44x0 L44x1 L44x2 L44x3 L44x4 L44x5 L44x6 L44x7 L44x8 L44x9 L44x10 fnOk44 rq44 cv34x5 cx34x5 L45x0 L45x1 fnOk45 rq45 L46x0 L46x1 fnOk46 rq46 L47x0 L47x1 fnOk47 rq47 L48x0 L48x1 fnOk48 rq48 L49x0 L49x1 L49x2 L49x3 L49x4 L49x5 L49x6 L49x7 fnOk49 rq49 L50x0 L50x1 fnOk50 rq50 L51x0 L51x1 L51x2 L51x3 L51x4 fnOk51 rq51 ld94 L52x0 L52x1 fnOk52 rq52 L53x0 L53x1 L53x2 L53x3 L53x4 fnOk53 rq53 L54x0 L54x1 L54x2 L54x3 L54x4 L54x5 L54x6 L54x7 L54x8 fnOk54 rq54 len63 ld92 L55x0 L55x1 fnOk55 rq55 fa92x0 L56x0 L56x1 L56x2 L56x3 L56x4 fnOk56 rq56 st3 stc3
end Go.Proofs.Ytidchkmpfkknbaa
