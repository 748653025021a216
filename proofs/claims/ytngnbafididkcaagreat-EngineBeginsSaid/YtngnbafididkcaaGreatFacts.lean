import Derived.Test.YtngnbafididkcaaGreatL15
namespace Go.Proofs.YtngnbafididkcaaGreat
open Go.RowKit
set_option linter.unusedSimpArgs false
/-! 3: milestone/milestonelaw17.EngineChooses · code of 103 operations -/
def L3 : Nat → List Nat
  | 0 => [0, 1, 2, 3, 4, 5]
  | 1 => [0, 1, 2, 3, 4, 5, 22]
  | 2 => [12]
  | 3 => [0, 1, 2, 3, 4, 5, 13]
  | 4 => [0, 1, 2, 3, 4, 5, 13]
  | 5 => [0, 1, 2, 3, 4, 5, 13]
  | 6 => [0, 1, 2, 3, 4, 5, 13]
  | 7 => [0, 1, 2, 3, 4, 5, 14, 15]
  | 8 => [1, 2, 3, 4, 5, 14, 15, 16]
  | 9 => [2, 3, 4, 5, 14, 15, 16, 17]
  | 10 => [2, 3, 4, 5, 14, 15, 16, 17, 18]
  | 11 => [2, 3, 4, 5, 14, 15, 16, 17, 18, 19]
  | 12 => [3, 4, 5, 14, 15, 17, 18, 19, 72]
  | 13 => [3, 4, 5, 14, 15, 17, 18, 19]
  | 14 => [4, 5, 14, 15, 18, 19, 82]
  | 15 => [4, 5, 14, 15, 18, 19]
  | 16 => [4, 5, 14, 15, 18, 19, 88]
  | 17 => [12]
  | 18 => [4, 5, 14, 15, 18, 19, 20]
  | 19 => [4, 5, 14, 15, 18, 19, 20, 93]
  | 20 => [4, 5, 14, 15, 19, 20]
  | 21 => [4, 5, 14, 15, 18, 20]
  | 22 => [12]
  | _ => []
theorem L3x0 : L3 0 = [0, 1, 2, 3, 4, 5] := (rfl)
theorem L3x1 : L3 1 = [0, 1, 2, 3, 4, 5, 22] := (rfl)
theorem L3x2 : L3 2 = [12] := (rfl)
theorem L3x3 : L3 3 = [0, 1, 2, 3, 4, 5, 13] := (rfl)
theorem L3x4 : L3 4 = [0, 1, 2, 3, 4, 5, 13] := (rfl)
theorem L3x5 : L3 5 = [0, 1, 2, 3, 4, 5, 13] := (rfl)
theorem L3x6 : L3 6 = [0, 1, 2, 3, 4, 5, 13] := (rfl)
theorem L3x7 : L3 7 = [0, 1, 2, 3, 4, 5, 14, 15] := (rfl)
theorem L3x8 : L3 8 = [1, 2, 3, 4, 5, 14, 15, 16] := (rfl)
theorem L3x9 : L3 9 = [2, 3, 4, 5, 14, 15, 16, 17] := (rfl)
theorem L3x10 : L3 10 = [2, 3, 4, 5, 14, 15, 16, 17, 18] := (rfl)
theorem L3x11 : L3 11 = [2, 3, 4, 5, 14, 15, 16, 17, 18, 19] := (rfl)
theorem L3x12 : L3 12 = [3, 4, 5, 14, 15, 17, 18, 19, 72] := (rfl)
theorem L3x13 : L3 13 = [3, 4, 5, 14, 15, 17, 18, 19] := (rfl)
theorem L3x14 : L3 14 = [4, 5, 14, 15, 18, 19, 82] := (rfl)
theorem L3x15 : L3 15 = [4, 5, 14, 15, 18, 19] := (rfl)
theorem L3x16 : L3 16 = [4, 5, 14, 15, 18, 19, 88] := (rfl)
theorem L3x17 : L3 17 = [12] := (rfl)
theorem L3x18 : L3 18 = [4, 5, 14, 15, 18, 19, 20] := (rfl)
theorem L3x19 : L3 19 = [4, 5, 14, 15, 18, 19, 20, 93] := (rfl)
theorem L3x20 : L3 20 = [4, 5, 14, 15, 19, 20] := (rfl)
theorem L3x21 : L3 21 = [4, 5, 14, 15, 18, 20] := (rfl)
theorem L3x22 : L3 22 = [12] := (rfl)
def ord3x22 : List Nat := [0, 1, 2, 3, 5, 6, 7, 8, 4, 9, 10, 11, 12]
theorem fnOk3 : fnOk Tryz.prog 3 = true := by kernel_rfl
theorem rq3 {R : Value → AH → Nat → Prop} {env : Env} {H : AH} {nx : Nat} : retQ Tryz.prog Tryz.f3 R .ret env H nx = onV (eg env 12) R H nx := retQ_one rfl (of_decide_eq_true (by kernel_rfl))

theorem zero32 : zeroT Tryz.prog 32 = some (.agg #[(.int .u8 0), (.int .u64 0), (.int .i64 0), (.int .u32 0), (.int .u8 0), (.int .u16 0), (.int .u16 0)]) := by kernel_rfl
theorem sl34 : slT Tryz.prog 34 = some (32, 7) := by kernel_rfl
theorem zero36 : zeroT Tryz.prog 36 = some (.agg #[(.int .i64 0), (.slice none 0 0)]) := by kernel_rfl
theorem bd36x0x1 (H : AH) (k0x0 : IntKind) (n0x0 : Int) (a1x0 : Option Addr) (n1x0 c1x0 : Nat) : buildV Tryz.prog H 36 #[(0, .int k0x0 n0x0), (1, .slice a1x0 n1x0 c1x0)] = some (.agg #[.int k0x0 n0x0, .slice a1x0 n1x0 c1x0]) := build_by (pl := fun i => (#[(0, 1), (1, 1)] : Array (Nat × Nat))[i]?) (by kernel_rfl) zero36 (by simp [Instr.fill, cells_agg, cells_int, cells_bool, cells_slice, cells_ptr, cells_str, cells_map])
theorem zero40 : zeroT Tryz.prog 40 = some (.agg #[(.int .u32 0), (.int .u8 0), (.int .i64 0), (.int .u16 0), (.int .u16 0)]) := by kernel_rfl
theorem al40 (lo : Nat) (K : Value → AH → Nat → Prop) (H : AH) (nx : Nat) : allocQ Tryz.prog lo 40 K H nx = newQ 40 ((.agg #[(.int .u32 0), (.int .u8 0), (.int .i64 0), (.int .u16 0), (.int .u16 0)]) : Value).cells K H nx := alloc_new zero40
theorem st40 (lo : Nat) (b o : Nat) (v0 v1 v2 v3 v4 : Value) (K : AH → Nat → Prop) (H : AH) (nx : Nat) : storeQ Tryz.prog lo 40 (.pointer (some ⟨b, o, none⟩)) (.agg #[v0, v1, v2, v3, v4]) K H nx = stsQ lo b o [v0, v1, v2, v3, v4] K H nx := store_agg (n := 5) (by kernel_rfl) (by decide) rfl
theorem cv22x3 (lo : Nat) (k' : IntKind) (n : Int) (K : Value → AH → Nat → Prop) (H : AH) (nx : Nat) : convQ Tryz.prog lo 22 3 (.int k' n) K H nx = K (.int .i64 (IntKind.wrap .i64 n)) H nx := convQ_int (by kernel_rfl) (by kernel_rfl)
theorem cx22x3 (k' : IntKind) (n : Int) (H : AH) : convV Tryz.prog H 22 3 (.int k' n) = some (.int .i64 (IntKind.wrap .i64 n)) := convV_int (by kernel_rfl) (by kernel_rfl)
theorem ld40 (H : AH) (b o : Nat) : loadV Tryz.prog H 40 (.pointer (some ⟨b, o, none⟩)) = (loadN H b o 5).map fun l => .agg l.toArray := load_agg (by kernel_rfl) (by kernel_rfl)
theorem cv3x22 (lo : Nat) (k' : IntKind) (n : Int) (K : Value → AH → Nat → Prop) (H : AH) (nx : Nat) : convQ Tryz.prog lo 3 22 (.int k' n) K H nx = K (.int .u16 (IntKind.wrap .u16 n)) H nx := convQ_int (by kernel_rfl) (by kernel_rfl)
theorem cx3x22 (k' : IntKind) (n : Int) (H : AH) : convV Tryz.prog H 3 22 (.int k' n) = some (.int .u16 (IntKind.wrap .u16 n)) := convV_int (by kernel_rfl) (by kernel_rfl)
theorem bd40x0x1x2x3 (H : AH) (v0x0 : Value) (v0x1 : Value) (k1x0 : IntKind) (n1x0 : Int) (k2x0 : IntKind) (n2x0 : Int) (k3x0 : IntKind) (n3x0 : Int) : buildV Tryz.prog H 40 #[(0, .agg #[v0x0, v0x1]), (1, .int k1x0 n1x0), (2, .int k2x0 n2x0), (3, .int k3x0 n3x0)] = some (.agg #[v0x0, v0x1, .int k1x0 n1x0, .int k2x0 n2x0, .int k3x0 n3x0]) := build_by (pl := fun i => (#[(0, 2), (2, 1), (3, 1), (4, 1)] : Array (Nat × Nat))[i]?) (by kernel_rfl) zero40 (by simp [Instr.fill, cells_agg, cells_int, cells_bool, cells_slice, cells_ptr, cells_str, cells_map])
theorem eqg40 (H : AH) (x y : Operand) (a0 b0 : Int) (a1 b1 : Int) (a2 b2 : Int) (a3 b3 : Int) (a4 b4 : Int) : binV Tryz.prog H .eql 40 x y (.agg #[.int .u32 a0, .int .u8 a1, .int .i64 a2, .int .u16 a3, .int .u16 a4]) (.agg #[.int .u32 b0, .int .u8 b1, .int .i64 b2, .int .u16 b3, .int .u16 b4]) = some (.bool (eqLs [.int .u32 a0, .int .u8 a1, .int .i64 a2, .int .u16 a3, .int .u16 a4] [.int .u32 b0, .int .u8 b1, .int .i64 b2, .int .u16 b3, .int .u16 b4])) := (bin_agg (xs := [.int .u32 a0, .int .u8 a1, .int .i64 a2, .int .u16 a3, .int .u16 a4]) (ys := [.int .u32 b0, .int .u8 b1, .int .i64 b2, .int .u16 b3, .int .u16 b4]) (ks := [some .u32, some .u8, some .i64, some .u16, some .u16]) (by kernel_rfl) (fitI (fitI (fitI (fitI (fitI fitN))))) (fitI (fitI (fitI (fitI (fitI fitN)))))).1
theorem neg40 (H : AH) (x y : Operand) (a0 b0 : Int) (a1 b1 : Int) (a2 b2 : Int) (a3 b3 : Int) (a4 b4 : Int) : binV Tryz.prog H .neq 40 x y (.agg #[.int .u32 a0, .int .u8 a1, .int .i64 a2, .int .u16 a3, .int .u16 a4]) (.agg #[.int .u32 b0, .int .u8 b1, .int .i64 b2, .int .u16 b3, .int .u16 b4]) = some (.bool (!eqLs [.int .u32 a0, .int .u8 a1, .int .i64 a2, .int .u16 a3, .int .u16 a4] [.int .u32 b0, .int .u8 b1, .int .i64 b2, .int .u16 b3, .int .u16 b4])) := (bin_agg (xs := [.int .u32 a0, .int .u8 a1, .int .i64 a2, .int .u16 a3, .int .u16 a4]) (ys := [.int .u32 b0, .int .u8 b1, .int .i64 b2, .int .u16 b3, .int .u16 b4]) (ks := [some .u32, some .u8, some .i64, some .u16, some .u16]) (by kernel_rfl) (fitI (fitI (fitI (fitI (fitI fitN))))) (fitI (fitI (fitI (fitI (fitI fitN)))))).2
/-! 4: milestone/milestonelaw17.EngineKeeps · code of 37 operations -/
def L4 : Nat → List Nat
  | 0 => [0, 1, 2]
  | 1 => [0, 1, 2, 10]
  | 2 => [6]
  | 3 => [0, 1, 2, 7]
  | 4 => [7]
  | 5 => [8]
  | 6 => [6]
  | _ => []
theorem L4x0 : L4 0 = [0, 1, 2] := (rfl)
theorem L4x1 : L4 1 = [0, 1, 2, 10] := (rfl)
theorem L4x2 : L4 2 = [6] := (rfl)
theorem L4x3 : L4 3 = [0, 1, 2, 7] := (rfl)
theorem L4x4 : L4 4 = [7] := (rfl)
theorem L4x5 : L4 5 = [8] := (rfl)
theorem L4x6 : L4 6 = [6] := (rfl)
def ord4x6 : List Nat := [0, 1, 2, 3, 4, 5, 6, 7, 8, 9, 10, 11, 12, 13]
theorem fnOk4 : fnOk Tryz.prog 4 = true := by kernel_rfl
theorem rq4 {R : Value → AH → Nat → Prop} {env : Env} {H : AH} {nx : Nat} : retQ Tryz.prog Tryz.f4 R .ret env H nx = onV (eg env 6) R H nx := retQ_one rfl (of_decide_eq_true (by kernel_rfl))

theorem cv5x3 (lo : Nat) (k' : IntKind) (n : Int) (K : Value → AH → Nat → Prop) (H : AH) (nx : Nat) : convQ Tryz.prog lo 5 3 (.int k' n) K H nx = K (.int .i64 (IntKind.wrap .i64 n)) H nx := convQ_int (by kernel_rfl) (by kernel_rfl)
theorem cx5x3 (k' : IntKind) (n : Int) (H : AH) : convV Tryz.prog H 5 3 (.int k' n) = some (.int .i64 (IntKind.wrap .i64 n)) := convV_int (by kernel_rfl) (by kernel_rfl)
theorem ia46 (H : AH) (n b o c : Nat) (kk : IntKind) (i : Int) (h0 : 0 ≤ i) (h1 : i < n) : indexAV Tryz.prog H 46 (.slice (some ⟨b, o, none⟩) n c) (.int kk i) = some (.pointer (some ⟨b, o + i.toNat * 2, none⟩)) := indexAV_slice 46 30 n 2 b o c kk i (by kernel_rfl) h0 h1
theorem ld30 (H : AH) (b o : Nat) : loadV Tryz.prog H 30 (.pointer (some ⟨b, o, none⟩)) = (loadN H b o 2).map fun l => .agg l.toArray := load_agg (by kernel_rfl) (by kernel_rfl)
theorem bd32x0x3x4x5 (H : AH) (k0x0 : IntKind) (n0x0 : Int) (v3x0 : Value) (v3x1 : Value) (k4x0 : IntKind) (n4x0 : Int) (k5x0 : IntKind) (n5x0 : Int) : buildV Tryz.prog H 32 #[(0, .int k0x0 n0x0), (3, .agg #[v3x0, v3x1]), (4, .int k4x0 n4x0), (5, .int k5x0 n5x0)] = some (.agg #[.int k0x0 n0x0, (.int .u64 0), (.int .i64 0), v3x0, v3x1, .int k4x0 n4x0, .int k5x0 n5x0]) := build_by (pl := fun i => (#[(0, 1), (1, 1), (2, 1), (3, 2), (5, 1), (6, 1)] : Array (Nat × Nat))[i]?) (by kernel_rfl) zero32 (by simp [Instr.fill, cells_agg, cells_int, cells_bool, cells_slice, cells_ptr, cells_str, cells_map])
theorem len37 (H : AH) (ty : TypeId) (a : Option Addr) (n c : Nat) : lenV Tryz.prog H #[37] ty #[.slice a n c] = some (.int .i64 n) := lenV_slice 37 40 ty 5 a n c (by kernel_rfl)
theorem ia37 (H : AH) (n b o c : Nat) (kk : IntKind) (i : Int) (h0 : 0 ≤ i) (h1 : i < n) : indexAV Tryz.prog H 37 (.slice (some ⟨b, o, none⟩) n c) (.int kk i) = some (.pointer (some ⟨b, o + i.toNat * 5, none⟩)) := indexAV_slice 37 40 n 5 b o c kk i (by kernel_rfl) h0 h1
/-! 5: milestone/milestonelaw17.EngineSwitches · code of 135 operations -/
def L5 : Nat → List Nat
  | 0 => [0, 1, 2, 3]
  | 1 => [0, 1, 2, 3, 23]
  | 2 => [8]
  | 3 => [0, 1, 2, 3]
  | 4 => [0, 1, 2, 3, 9]
  | 5 => [0, 1, 2, 3, 9]
  | 6 => [0, 1, 2, 3, 9]
  | 7 => [0, 1, 2, 3, 9, 10]
  | 8 => [0, 1, 2, 3, 9, 10]
  | 9 => [0, 1, 2, 3, 9, 10]
  | 10 => [0, 1, 2, 3, 9, 10, 12]
  | 11 => [0, 1, 2, 9, 10, 12]
  | 12 => [0, 1, 2, 9, 10, 12]
  | 13 => [1, 2, 10, 12, 14, 15]
  | 14 => [1, 2, 10, 12, 14, 15, 16]
  | 15 => [1, 2, 10, 12, 14, 15, 16, 82]
  | 16 => [1, 2, 10, 12, 14, 15, 16]
  | 17 => [1, 2, 10, 12, 14, 15, 16, 17]
  | 18 => [8]
  | _ => []
theorem L5x0 : L5 0 = [0, 1, 2, 3] := (rfl)
theorem L5x1 : L5 1 = [0, 1, 2, 3, 23] := (rfl)
theorem L5x2 : L5 2 = [8] := (rfl)
theorem L5x3 : L5 3 = [0, 1, 2, 3] := (rfl)
theorem L5x4 : L5 4 = [0, 1, 2, 3, 9] := (rfl)
theorem L5x5 : L5 5 = [0, 1, 2, 3, 9] := (rfl)
theorem L5x6 : L5 6 = [0, 1, 2, 3, 9] := (rfl)
theorem L5x7 : L5 7 = [0, 1, 2, 3, 9, 10] := (rfl)
theorem L5x8 : L5 8 = [0, 1, 2, 3, 9, 10] := (rfl)
theorem L5x9 : L5 9 = [0, 1, 2, 3, 9, 10] := (rfl)
theorem L5x10 : L5 10 = [0, 1, 2, 3, 9, 10, 12] := (rfl)
theorem L5x11 : L5 11 = [0, 1, 2, 9, 10, 12] := (rfl)
theorem L5x12 : L5 12 = [0, 1, 2, 9, 10, 12] := (rfl)
theorem L5x13 : L5 13 = [1, 2, 10, 12, 14, 15] := (rfl)
theorem L5x14 : L5 14 = [1, 2, 10, 12, 14, 15, 16] := (rfl)
theorem L5x15 : L5 15 = [1, 2, 10, 12, 14, 15, 16, 82] := (rfl)
theorem L5x16 : L5 16 = [1, 2, 10, 12, 14, 15, 16] := (rfl)
theorem L5x17 : L5 17 = [1, 2, 10, 12, 14, 15, 16, 17] := (rfl)
theorem L5x18 : L5 18 = [8] := (rfl)
theorem fnOk5 : fnOk Tryz.prog 5 = true := by kernel_rfl
theorem rq5 {R : Value → AH → Nat → Prop} {env : Env} {H : AH} {nx : Nat} : retQ Tryz.prog Tryz.f5 R .ret env H nx = onV (eg env 8) R H nx := retQ_one rfl (of_decide_eq_true (by kernel_rfl))

theorem fa40x1 (H : AH) (b o : Nat) : fieldAV Tryz.prog H 40 1 (.pointer (some ⟨b, o, none⟩)) = some (.pointer (some ⟨b, o + 2, none⟩)) := fieldAV_eq 40 1 b o false 0 2 (by kernel_rfl)
theorem ld3 (H : AH) (b o : Nat) : loadV Tryz.prog H 3 (.pointer (some ⟨b, o, none⟩)) = H.c b o := load_one (by kernel_rfl)
theorem fa40x2 (H : AH) (b o : Nat) : fieldAV Tryz.prog H 40 2 (.pointer (some ⟨b, o, none⟩)) = some (.pointer (some ⟨b, o + 3, none⟩)) := fieldAV_eq 40 2 b o false 0 3 (by kernel_rfl)
theorem ld22 (H : AH) (b o : Nat) : loadV Tryz.prog H 22 (.pointer (some ⟨b, o, none⟩)) = H.c b o := load_one (by kernel_rfl)
theorem eqb4 (H : AH) (x y : Operand) (a b : Bool) : binV Tryz.prog H .eql 4 x y (.bool a) (.bool b) = some (.bool (a == b)) := eq_bool (by kernel_rfl)
theorem neb4 (H : AH) (x y : Operand) (a b : Bool) : binV Tryz.prog H .neq 4 x y (.bool a) (.bool b) = some (.bool (!(a == b))) := ne_bool (by kernel_rfl)
/-! 6: milestone/milestonelaw17.EngineSinks · code of 205 operations -/
def L6 : Nat → List Nat
  | 0 => [0]
  | 1 => [0, 26]
  | 2 => [2]
  | 3 => [0, 3]
  | 4 => [0, 3, 4]
  | 5 => [0, 3, 4, 5]
  | 6 => [0, 3, 4, 5, 6]
  | 7 => [0, 3, 4, 5, 6, 7]
  | 8 => [0, 3, 4, 5, 6, 7, 32]
  | 10 => [0, 3, 4, 5, 6, 7, 8]
  | 11 => [0, 3, 4, 5, 6, 7, 8, 9]
  | 12 => [0, 3, 4, 5, 6, 7, 8, 9, 10]
  | 13 => [0, 3, 4, 5, 6, 7, 8, 9, 10, 11]
  | 14 => [0, 3, 4, 5, 6, 7, 8, 9, 10, 11, 60]
  | 15 => [0, 3, 4, 5, 6, 7, 8, 9, 10, 11]
  | 16 => [0, 3, 4, 5, 6, 7, 8, 10, 11]
  | 17 => [0, 3, 4, 5, 6, 7]
  | 18 => [0, 3, 4, 5, 6, 7, 12]
  | 19 => [0, 3, 4, 5, 6, 7, 12, 13]
  | 20 => [0, 3, 4, 5, 6, 7, 12, 13, 85]
  | 22 => [0, 3, 4, 5, 6, 7, 12, 13, 14]
  | 23 => [0, 3, 4, 5, 6, 7, 12, 13, 14, 95]
  | 24 => [0, 3, 4, 5, 6, 7, 12, 13, 14, 15, 16]
  | 25 => [0, 3, 4, 5, 6, 7, 12, 13, 153]
  | 26 => [2]
  | 21 => [0, 3, 4, 5, 6, 7, 12, 13]
  | 27 => [0, 3, 4, 5, 6, 7, 17]
  | 28 => [0, 3, 4, 5, 6, 7, 17, 155]
  | 30 => [0, 3, 4, 5, 6, 7, 17, 18, 19]
  | 31 => [0, 3, 4, 5, 6, 7, 17, 18, 19, 171]
  | 32 => [0, 3, 4, 5, 6, 7, 17, 18, 19, 185]
  | 33 => [2]
  | 34 => [0, 3, 4, 5, 6, 7, 17, 19]
  | 35 => [0, 3, 4, 5, 6, 7, 17]
  | 29 => [0, 3, 4, 5, 6, 7, 17]
  | 9 => [0, 3, 4, 5, 6, 7]
  | 36 => [2]
  | _ => []
theorem L6x0 : L6 0 = [0] := (rfl)
theorem L6x1 : L6 1 = [0, 26] := (rfl)
theorem L6x2 : L6 2 = [2] := (rfl)
theorem L6x3 : L6 3 = [0, 3] := (rfl)
theorem L6x4 : L6 4 = [0, 3, 4] := (rfl)
theorem L6x5 : L6 5 = [0, 3, 4, 5] := (rfl)
theorem L6x6 : L6 6 = [0, 3, 4, 5, 6] := (rfl)
theorem L6x7 : L6 7 = [0, 3, 4, 5, 6, 7] := (rfl)
theorem L6x8 : L6 8 = [0, 3, 4, 5, 6, 7, 32] := (rfl)
theorem L6x10 : L6 10 = [0, 3, 4, 5, 6, 7, 8] := (rfl)
theorem L6x11 : L6 11 = [0, 3, 4, 5, 6, 7, 8, 9] := (rfl)
theorem L6x12 : L6 12 = [0, 3, 4, 5, 6, 7, 8, 9, 10] := (rfl)
theorem L6x13 : L6 13 = [0, 3, 4, 5, 6, 7, 8, 9, 10, 11] := (rfl)
theorem L6x14 : L6 14 = [0, 3, 4, 5, 6, 7, 8, 9, 10, 11, 60] := (rfl)
theorem L6x15 : L6 15 = [0, 3, 4, 5, 6, 7, 8, 9, 10, 11] := (rfl)
theorem L6x16 : L6 16 = [0, 3, 4, 5, 6, 7, 8, 10, 11] := (rfl)
theorem L6x17 : L6 17 = [0, 3, 4, 5, 6, 7] := (rfl)
theorem L6x18 : L6 18 = [0, 3, 4, 5, 6, 7, 12] := (rfl)
theorem L6x19 : L6 19 = [0, 3, 4, 5, 6, 7, 12, 13] := (rfl)
theorem L6x20 : L6 20 = [0, 3, 4, 5, 6, 7, 12, 13, 85] := (rfl)
theorem L6x22 : L6 22 = [0, 3, 4, 5, 6, 7, 12, 13, 14] := (rfl)
theorem L6x23 : L6 23 = [0, 3, 4, 5, 6, 7, 12, 13, 14, 95] := (rfl)
theorem L6x24 : L6 24 = [0, 3, 4, 5, 6, 7, 12, 13, 14, 15, 16] := (rfl)
theorem L6x25 : L6 25 = [0, 3, 4, 5, 6, 7, 12, 13, 153] := (rfl)
theorem L6x26 : L6 26 = [2] := (rfl)
theorem L6x21 : L6 21 = [0, 3, 4, 5, 6, 7, 12, 13] := (rfl)
theorem L6x27 : L6 27 = [0, 3, 4, 5, 6, 7, 17] := (rfl)
theorem L6x28 : L6 28 = [0, 3, 4, 5, 6, 7, 17, 155] := (rfl)
theorem L6x30 : L6 30 = [0, 3, 4, 5, 6, 7, 17, 18, 19] := (rfl)
theorem L6x31 : L6 31 = [0, 3, 4, 5, 6, 7, 17, 18, 19, 171] := (rfl)
theorem L6x32 : L6 32 = [0, 3, 4, 5, 6, 7, 17, 18, 19, 185] := (rfl)
theorem L6x33 : L6 33 = [2] := (rfl)
theorem L6x34 : L6 34 = [0, 3, 4, 5, 6, 7, 17, 19] := (rfl)
theorem L6x35 : L6 35 = [0, 3, 4, 5, 6, 7, 17] := (rfl)
theorem L6x29 : L6 29 = [0, 3, 4, 5, 6, 7, 17] := (rfl)
theorem L6x9 : L6 9 = [0, 3, 4, 5, 6, 7] := (rfl)
theorem L6x36 : L6 36 = [2] := (rfl)
def ord6x16 : List Nat := [0, 1, 2, 3, 4, 5]
def ord6x25 : List Nat := [0, 1, 2, 3, 4, 5, 6, 7, 8, 9, 10, 11, 12, 13, 14, 15, 16, 17, 18, 19, 20, 21, 22, 23, 24, 25, 26, 27, 28, 29, 30, 31, 32, 33, 34, 35, 36, 37, 38, 39, 40, 41, 42, 43, 44, 45, 46, 47]
def ord6x32 : List Nat := [0, 1, 2, 3, 4, 5, 6, 7, 8, 9, 10, 11, 12, 13]
theorem fnOk6 : fnOk Tryz.prog 6 = true := by kernel_rfl
theorem rq6 {R : Value → AH → Nat → Prop} {env : Env} {H : AH} {nx : Nat} : retQ Tryz.prog Tryz.f6 R .ret env H nx = onV (eg env 2) R H nx := retQ_one rfl (of_decide_eq_true (by kernel_rfl))

theorem len50 (H : AH) (ty : TypeId) (a : Option Addr) (n c : Nat) : lenV Tryz.prog H #[50] ty #[.slice a n c] = some (.int .i64 n) := lenV_slice 50 57 ty 5 a n c (by kernel_rfl)
noncomputable def z53 : Value := (zeroT Tryz.prog 53).getD undef
theorem zero53 : zeroT Tryz.prog 53 = some z53 := by kernel_rfl
theorem al53 (lo : Nat) (K : Value → AH → Nat → Prop) (H : AH) (nx : Nat) : allocQ Tryz.prog lo 53 K H nx = newQ 53 (z53 : Value).cells K H nx := alloc_new zero53
noncomputable def z54 : Value := (zeroT Tryz.prog 54).getD undef
theorem zero54 : zeroT Tryz.prog 54 = some z54 := by kernel_rfl
theorem al54 (lo : Nat) (K : Value → AH → Nat → Prop) (H : AH) (nx : Nat) : allocQ Tryz.prog lo 54 K H nx = newQ 54 (z54 : Value).cells K H nx := alloc_new zero54
noncomputable def z55 : Value := (zeroT Tryz.prog 55).getD undef
theorem zero55 : zeroT Tryz.prog 55 = some z55 := by kernel_rfl
theorem al55 (lo : Nat) (K : Value → AH → Nat → Prop) (H : AH) (nx : Nat) : allocQ Tryz.prog lo 55 K H nx = newQ 55 (z55 : Value).cells K H nx := alloc_new zero55
theorem ia50 (H : AH) (n b o c : Nat) (kk : IntKind) (i : Int) (h0 : 0 ≤ i) (h1 : i < n) : indexAV Tryz.prog H 50 (.slice (some ⟨b, o, none⟩) n c) (.int kk i) = some (.pointer (some ⟨b, o + i.toNat * 5, none⟩)) := indexAV_slice 50 57 n 5 b o c kk i (by kernel_rfl) h0 h1
theorem ld57 (H : AH) (b o : Nat) : loadV Tryz.prog H 57 (.pointer (some ⟨b, o, none⟩)) = (loadN H b o 5).map fun l => .agg l.toArray := load_agg (by kernel_rfl) (by kernel_rfl)
theorem zero57 : zeroT Tryz.prog 57 = some (.agg #[(.int .u8 0), (.int .u8 0), (.int .u8 0), (.int .u8 0), (.int .u8 0)]) := by kernel_rfl
theorem al57 (lo : Nat) (K : Value → AH → Nat → Prop) (H : AH) (nx : Nat) : allocQ Tryz.prog lo 57 K H nx = newQ 57 ((.agg #[(.int .u8 0), (.int .u8 0), (.int .u8 0), (.int .u8 0), (.int .u8 0)]) : Value).cells K H nx := alloc_new zero57
theorem st57 (lo : Nat) (b o : Nat) (v0 v1 v2 v3 v4 : Value) (K : AH → Nat → Prop) (H : AH) (nx : Nat) : storeQ Tryz.prog lo 57 (.pointer (some ⟨b, o, none⟩)) (.agg #[v0, v1, v2, v3, v4]) K H nx = stsQ lo b o [v0, v1, v2, v3, v4] K H nx := store_agg (n := 5) (by kernel_rfl) (by decide) rfl
theorem fa57x0 (H : AH) (b o : Nat) : fieldAV Tryz.prog H 57 0 (.pointer (some ⟨b, o, none⟩)) = some (.pointer (some ⟨b, o + 0, none⟩)) := fieldAV_eq 57 0 b o false 0 0 (by kernel_rfl)
theorem ld5 (H : AH) (b o : Nat) : loadV Tryz.prog H 5 (.pointer (some ⟨b, o, none⟩)) = H.c b o := load_one (by kernel_rfl)
theorem fa57x1 (H : AH) (b o : Nat) : fieldAV Tryz.prog H 57 1 (.pointer (some ⟨b, o, none⟩)) = some (.pointer (some ⟨b, o + 1, none⟩)) := fieldAV_eq 57 1 b o false 0 1 (by kernel_rfl)
theorem fa57x3 (H : AH) (b o : Nat) : fieldAV Tryz.prog H 57 3 (.pointer (some ⟨b, o, none⟩)) = some (.pointer (some ⟨b, o + 3, none⟩)) := fieldAV_eq 57 3 b o false 0 3 (by kernel_rfl)
theorem cv5x22 (lo : Nat) (k' : IntKind) (n : Int) (K : Value → AH → Nat → Prop) (H : AH) (nx : Nat) : convQ Tryz.prog lo 5 22 (.int k' n) K H nx = K (.int .u16 (IntKind.wrap .u16 n)) H nx := convQ_int (by kernel_rfl) (by kernel_rfl)
theorem cx5x22 (k' : IntKind) (n : Int) (H : AH) : convV Tryz.prog H 5 22 (.int k' n) = some (.int .u16 (IntKind.wrap .u16 n)) := convV_int (by kernel_rfl) (by kernel_rfl)
theorem fa57x2 (H : AH) (b o : Nat) : fieldAV Tryz.prog H 57 2 (.pointer (some ⟨b, o, none⟩)) = some (.pointer (some ⟨b, o + 2, none⟩)) := fieldAV_eq 57 2 b o false 0 2 (by kernel_rfl)
theorem zero52 : zeroT Tryz.prog 52 = some (.agg #[(.int .u16 0), (.int .u16 0)]) := by kernel_rfl
theorem bd52x0x1 (H : AH) (k0x0 : IntKind) (n0x0 : Int) (k1x0 : IntKind) (n1x0 : Int) : buildV Tryz.prog H 52 #[(0, .int k0x0 n0x0), (1, .int k1x0 n1x0)] = some (.agg #[.int k0x0 n0x0, .int k1x0 n1x0]) := build_by (pl := fun i => (#[(0, 1), (1, 1)] : Array (Nat × Nat))[i]?) (by kernel_rfl) zero52 (by simp [Instr.fill, cells_agg, cells_int, cells_bool, cells_slice, cells_ptr, cells_str, cells_map])
theorem al52 (lo : Nat) (K : Value → AH → Nat → Prop) (H : AH) (nx : Nat) : allocQ Tryz.prog lo 52 K H nx = newQ 52 ((.agg #[(.int .u16 0), (.int .u16 0)]) : Value).cells K H nx := alloc_new zero52
theorem st52 (lo : Nat) (b o : Nat) (v0 v1 : Value) (K : AH → Nat → Prop) (H : AH) (nx : Nat) : storeQ Tryz.prog lo 52 (.pointer (some ⟨b, o, none⟩)) (.agg #[v0, v1]) K H nx = stsQ lo b o [v0, v1] K H nx := store_agg (n := 2) (by kernel_rfl) (by decide) rfl
theorem fa57x4 (H : AH) (b o : Nat) : fieldAV Tryz.prog H 57 4 (.pointer (some ⟨b, o, none⟩)) = some (.pointer (some ⟨b, o + 4, none⟩)) := fieldAV_eq 57 4 b o false 0 4 (by kernel_rfl)
theorem fa52x1 (H : AH) (b o : Nat) : fieldAV Tryz.prog H 52 1 (.pointer (some ⟨b, o, none⟩)) = some (.pointer (some ⟨b, o + 1, none⟩)) := fieldAV_eq 52 1 b o false 0 1 (by kernel_rfl)
theorem st22 (lo : Nat) (b o : Nat) (v : Value) (K : AH → Nat → Prop) (H : AH) (nx : Nat) (hv : v.oneCell' = true) : storeQ Tryz.prog lo 22 (.pointer (some ⟨b, o, none⟩)) v K H nx = stQ lo b o v K H nx := store_one (by kernel_rfl) hv
theorem stc22 (lo : Nat) (b o : Nat) (k : IntKind) (n : Int) (K : AH → Nat → Prop) (H : AH) (nx : Nat) : storeQ Tryz.prog lo 22 (.pointer (some ⟨b, o, none⟩)) (.int k n) K H nx = stQ lo b o (.int k n) K H nx := store_one (by kernel_rfl) rfl
theorem ld52 (H : AH) (b o : Nat) : loadV Tryz.prog H 52 (.pointer (some ⟨b, o, none⟩)) = (loadN H b o 2).map fun l => .agg l.toArray := load_agg (by kernel_rfl) (by kernel_rfl)
theorem ia55 (H : AH) (b o : Nat) (kk : IntKind) (i : Int) (h0 : 0 ≤ i) (h1 : i < 2) : indexAV Tryz.prog H 55 (.pointer (some ⟨b, o, none⟩)) (.int kk i) = some (.pointer (some ⟨b, o + i.toNat * 36, none⟩)) := indexAV_array 55 2 36 b o true kk i (by kernel_rfl) h0 h1
theorem ia53 (H : AH) (b o : Nat) (kk : IntKind) (i : Int) (h0 : 0 ≤ i) (h1 : i < 18) : indexAV Tryz.prog H 53 (.pointer (some ⟨b, o, none⟩)) (.int kk i) = some (.pointer (some ⟨b, o + i.toNat * 2, none⟩)) := indexAV_array 53 18 2 b o true kk i (by kernel_rfl) h0 h1
theorem fa52x0 (H : AH) (b o : Nat) : fieldAV Tryz.prog H 52 0 (.pointer (some ⟨b, o, none⟩)) = some (.pointer (some ⟨b, o + 0, none⟩)) := fieldAV_eq 52 0 b o false 0 0 (by kernel_rfl)
theorem fa40x0 (H : AH) (b o : Nat) : fieldAV Tryz.prog H 40 0 (.pointer (some ⟨b, o, none⟩)) = some (.pointer (some ⟨b, o + 0, none⟩)) := fieldAV_eq 40 0 b o true 1 0 (by kernel_rfl)
theorem fa40x3 (H : AH) (b o : Nat) : fieldAV Tryz.prog H 40 3 (.pointer (some ⟨b, o, none⟩)) = some (.pointer (some ⟨b, o + 4, none⟩)) := fieldAV_eq 40 3 b o false 0 4 (by kernel_rfl)
theorem cv3x5 (lo : Nat) (k' : IntKind) (n : Int) (K : Value → AH → Nat → Prop) (H : AH) (nx : Nat) : convQ Tryz.prog lo 3 5 (.int k' n) K H nx = K (.int .u8 (IntKind.wrap .u8 n)) H nx := convQ_int (by kernel_rfl) (by kernel_rfl)
theorem cx3x5 (k' : IntKind) (n : Int) (H : AH) : convV Tryz.prog H 3 5 (.int k' n) = some (.int .u8 (IntKind.wrap .u8 n)) := convV_int (by kernel_rfl) (by kernel_rfl)
theorem ia54 (H : AH) (b o : Nat) (kk : IntKind) (i : Int) (h0 : 0 ≤ i) (h1 : i < 18) : indexAV Tryz.prog H 54 (.pointer (some ⟨b, o, none⟩)) (.int kk i) = some (.pointer (some ⟨b, o + i.toNat * 1, none⟩)) := indexAV_array 54 18 1 b o false kk i (by kernel_rfl) h0 h1
theorem ld4 (H : AH) (b o : Nat) : loadV Tryz.prog H 4 (.pointer (some ⟨b, o, none⟩)) = H.c b o := load_one (by kernel_rfl)
theorem st4 (lo : Nat) (b o : Nat) (v : Value) (K : AH → Nat → Prop) (H : AH) (nx : Nat) (hv : v.oneCell' = true) : storeQ Tryz.prog lo 4 (.pointer (some ⟨b, o, none⟩)) v K H nx = stQ lo b o v K H nx := store_one (by kernel_rfl) hv
theorem stc4 (lo : Nat) (b o : Nat) (x : Bool) (K : AH → Nat → Prop) (H : AH) (nx : Nat) : storeQ Tryz.prog lo 4 (.pointer (some ⟨b, o, none⟩)) (.bool x) K H nx = stQ lo b o (.bool x) K H nx := store_one (by kernel_rfl) rfl
/-! 7: milestone/milestonelaw17.EngineCounts · code of 76 operations -/
def L7 : Nat → List Nat
  | 0 => [0, 1, 2]
  | 1 => [0, 1, 2, 17]
  | 2 => [6]
  | 3 => [0, 1, 2, 7]
  | 4 => [0, 1, 2, 7, 8]
  | 5 => [0, 1, 2, 7, 8, 23]
  | 7 => [0, 1, 2, 7, 8]
  | 6 => [0, 1, 2, 7, 8]
  | 8 => [0, 1, 7, 9]
  | 9 => [0, 1, 7, 9]
  | 10 => [0, 1, 7, 9, 10]
  | 11 => [0, 1, 7, 9, 10, 53]
  | 13 => [0, 1, 7, 9, 10]
  | 12 => [0, 1, 7, 9, 10]
  | 14 => [0, 1, 7, 9]
  | 15 => [6]
  | _ => []
theorem L7x0 : L7 0 = [0, 1, 2] := (rfl)
theorem L7x1 : L7 1 = [0, 1, 2, 17] := (rfl)
theorem L7x2 : L7 2 = [6] := (rfl)
theorem L7x3 : L7 3 = [0, 1, 2, 7] := (rfl)
theorem L7x4 : L7 4 = [0, 1, 2, 7, 8] := (rfl)
theorem L7x5 : L7 5 = [0, 1, 2, 7, 8, 23] := (rfl)
theorem L7x7 : L7 7 = [0, 1, 2, 7, 8] := (rfl)
theorem L7x6 : L7 6 = [0, 1, 2, 7, 8] := (rfl)
theorem L7x8 : L7 8 = [0, 1, 7, 9] := (rfl)
theorem L7x9 : L7 9 = [0, 1, 7, 9] := (rfl)
theorem L7x10 : L7 10 = [0, 1, 7, 9, 10] := (rfl)
theorem L7x11 : L7 11 = [0, 1, 7, 9, 10, 53] := (rfl)
theorem L7x13 : L7 13 = [0, 1, 7, 9, 10] := (rfl)
theorem L7x12 : L7 12 = [0, 1, 7, 9, 10] := (rfl)
theorem L7x14 : L7 14 = [0, 1, 7, 9] := (rfl)
theorem L7x15 : L7 15 = [6] := (rfl)
def ord7x7 : List Nat := [0, 1, 2, 3, 4, 5, 6, 7, 8, 9, 10, 11, 12, 13, 14, 15]
theorem fnOk7 : fnOk Tryz.prog 7 = true := by kernel_rfl
theorem rq7 {R : Value → AH → Nat → Prop} {env : Env} {H : AH} {nx : Nat} : retQ Tryz.prog Tryz.f7 R .ret env H nx = onV (eg env 6) R H nx := retQ_one rfl (of_decide_eq_true (by kernel_rfl))

theorem bd36x0 (H : AH) (k0x0 : IntKind) (n0x0 : Int) : buildV Tryz.prog H 36 #[(0, .int k0x0 n0x0)] = some (.agg #[.int k0x0 n0x0, (.slice none 0 0)]) := build_by (pl := fun i => (#[(0, 1), (1, 1)] : Array (Nat × Nat))[i]?) (by kernel_rfl) zero36 (by simp [Instr.fill, cells_agg, cells_int, cells_bool, cells_slice, cells_ptr, cells_str, cells_map])
theorem zero65 : zeroT Tryz.prog 65 = some (.agg #[(.int .i64 0), (.int .i64 0), (.int .i64 0), (.int .i64 0)]) := by kernel_rfl
theorem bd65x0x1 (H : AH) (k0x0 : IntKind) (n0x0 : Int) (k1x0 : IntKind) (n1x0 : Int) : buildV Tryz.prog H 65 #[(0, .int k0x0 n0x0), (1, .int k1x0 n1x0)] = some (.agg #[.int k0x0 n0x0, .int k1x0 n1x0, (.int .i64 0), (.int .i64 0)]) := build_by (pl := fun i => (#[(0, 1), (1, 1), (2, 1), (3, 1)] : Array (Nat × Nat))[i]?) (by kernel_rfl) zero65 (by simp [Instr.fill, cells_agg, cells_int, cells_bool, cells_slice, cells_ptr, cells_str, cells_map])
theorem eqg65 (H : AH) (x y : Operand) (a0 b0 : Int) (a1 b1 : Int) (a2 b2 : Int) (a3 b3 : Int) : binV Tryz.prog H .eql 65 x y (.agg #[.int .i64 a0, .int .i64 a1, .int .i64 a2, .int .i64 a3]) (.agg #[.int .i64 b0, .int .i64 b1, .int .i64 b2, .int .i64 b3]) = some (.bool (eqLs [.int .i64 a0, .int .i64 a1, .int .i64 a2, .int .i64 a3] [.int .i64 b0, .int .i64 b1, .int .i64 b2, .int .i64 b3])) := (bin_agg (xs := [.int .i64 a0, .int .i64 a1, .int .i64 a2, .int .i64 a3]) (ys := [.int .i64 b0, .int .i64 b1, .int .i64 b2, .int .i64 b3]) (ks := [some .i64, some .i64, some .i64, some .i64]) (by kernel_rfl) (fitI (fitI (fitI (fitI fitN)))) (fitI (fitI (fitI (fitI fitN))))).1
theorem neg65 (H : AH) (x y : Operand) (a0 b0 : Int) (a1 b1 : Int) (a2 b2 : Int) (a3 b3 : Int) : binV Tryz.prog H .neq 65 x y (.agg #[.int .i64 a0, .int .i64 a1, .int .i64 a2, .int .i64 a3]) (.agg #[.int .i64 b0, .int .i64 b1, .int .i64 b2, .int .i64 b3]) = some (.bool (!eqLs [.int .i64 a0, .int .i64 a1, .int .i64 a2, .int .i64 a3] [.int .i64 b0, .int .i64 b1, .int .i64 b2, .int .i64 b3])) := (bin_agg (xs := [.int .i64 a0, .int .i64 a1, .int .i64 a2, .int .i64 a3]) (ys := [.int .i64 b0, .int .i64 b1, .int .i64 b2, .int .i64 b3]) (ks := [some .i64, some .i64, some .i64, some .i64]) (by kernel_rfl) (fitI (fitI (fitI (fitI fitN)))) (fitI (fitI (fitI (fitI fitN))))).2
/-! 8: milestone/milestonelaw17.EngineTells · code of 171 operations -/
def L8 : Nat → List Nat
  | 0 => [0, 1, 2, 3, 4, 5]
  | 1 => [0, 1, 2, 3, 4, 5, 27]
  | 2 => [12]
  | 3 => [0, 1, 2, 3, 4, 5, 13]
  | 4 => [0, 1, 2, 3, 4, 5, 13]
  | 5 => [0, 1, 2, 3, 4, 5, 13]
  | 6 => [0, 1, 2, 3, 4, 5, 13]
  | 7 => [0, 1, 2, 3, 4, 5, 13]
  | 8 => [0, 1, 2, 3, 4, 5, 13, 44]
  | 9 => [0, 1, 2, 3, 4, 5, 13]
  | 10 => [0, 1, 2, 3, 4, 5, 13]
  | 11 => [0, 1, 2, 3, 4, 5, 13]
  | 12 => [0, 1, 2, 3, 4, 5, 13, 14]
  | 13 => [0, 1, 2, 3, 4, 5, 13, 14, 64]
  | 14 => [0, 1, 2, 3, 4, 5, 13, 14]
  | 15 => [0, 1, 2, 3, 4, 5, 15, 16]
  | 16 => [0, 1, 2, 3, 4, 5, 15, 16, 17]
  | 17 => [0, 1, 2, 3, 4, 15, 16, 17, 81]
  | 18 => [0, 1, 2, 3, 4, 15, 16, 109]
  | 19 => [12]
  | 20 => [0, 1, 2, 3, 4, 15, 16, 17]
  | 21 => [0, 1, 2, 3, 4, 15, 17, 116]
  | 22 => [12]
  | 23 => [0, 1, 2, 3, 4, 15, 17, 18]
  | 24 => [2, 3, 4, 15, 17, 18, 19]
  | 25 => [2, 4, 15, 17, 18, 19, 128]
  | 26 => [2, 4, 15, 17, 18, 19]
  | 27 => [2, 15, 17, 18, 19, 130]
  | 28 => [15, 17, 18, 19]
  | 29 => [15, 17, 18, 19, 20]
  | 30 => [15, 17, 18, 19, 20, 21]
  | 31 => [15, 17, 18, 19, 20, 21, 139]
  | 33 => [15, 17, 18, 19, 20, 21, 157]
  | 34 => [15, 17, 18, 19, 20, 21]
  | 32 => [15, 17, 18, 19, 20, 21]
  | 35 => [12]
  | _ => []
theorem L8x0 : L8 0 = [0, 1, 2, 3, 4, 5] := (rfl)
theorem L8x1 : L8 1 = [0, 1, 2, 3, 4, 5, 27] := (rfl)
theorem L8x2 : L8 2 = [12] := (rfl)
theorem L8x3 : L8 3 = [0, 1, 2, 3, 4, 5, 13] := (rfl)
theorem L8x4 : L8 4 = [0, 1, 2, 3, 4, 5, 13] := (rfl)
theorem L8x5 : L8 5 = [0, 1, 2, 3, 4, 5, 13] := (rfl)
theorem L8x6 : L8 6 = [0, 1, 2, 3, 4, 5, 13] := (rfl)
theorem L8x7 : L8 7 = [0, 1, 2, 3, 4, 5, 13] := (rfl)
theorem L8x8 : L8 8 = [0, 1, 2, 3, 4, 5, 13, 44] := (rfl)
theorem L8x9 : L8 9 = [0, 1, 2, 3, 4, 5, 13] := (rfl)
theorem L8x10 : L8 10 = [0, 1, 2, 3, 4, 5, 13] := (rfl)
theorem L8x11 : L8 11 = [0, 1, 2, 3, 4, 5, 13] := (rfl)
theorem L8x12 : L8 12 = [0, 1, 2, 3, 4, 5, 13, 14] := (rfl)
theorem L8x13 : L8 13 = [0, 1, 2, 3, 4, 5, 13, 14, 64] := (rfl)
theorem L8x14 : L8 14 = [0, 1, 2, 3, 4, 5, 13, 14] := (rfl)
theorem L8x15 : L8 15 = [0, 1, 2, 3, 4, 5, 15, 16] := (rfl)
theorem L8x16 : L8 16 = [0, 1, 2, 3, 4, 5, 15, 16, 17] := (rfl)
theorem L8x17 : L8 17 = [0, 1, 2, 3, 4, 15, 16, 17, 81] := (rfl)
theorem L8x18 : L8 18 = [0, 1, 2, 3, 4, 15, 16, 109] := (rfl)
theorem L8x19 : L8 19 = [12] := (rfl)
theorem L8x20 : L8 20 = [0, 1, 2, 3, 4, 15, 16, 17] := (rfl)
theorem L8x21 : L8 21 = [0, 1, 2, 3, 4, 15, 17, 116] := (rfl)
theorem L8x22 : L8 22 = [12] := (rfl)
theorem L8x23 : L8 23 = [0, 1, 2, 3, 4, 15, 17, 18] := (rfl)
theorem L8x24 : L8 24 = [2, 3, 4, 15, 17, 18, 19] := (rfl)
theorem L8x25 : L8 25 = [2, 4, 15, 17, 18, 19, 128] := (rfl)
theorem L8x26 : L8 26 = [2, 4, 15, 17, 18, 19] := (rfl)
theorem L8x27 : L8 27 = [2, 15, 17, 18, 19, 130] := (rfl)
theorem L8x28 : L8 28 = [15, 17, 18, 19] := (rfl)
theorem L8x29 : L8 29 = [15, 17, 18, 19, 20] := (rfl)
theorem L8x30 : L8 30 = [15, 17, 18, 19, 20, 21] := (rfl)
theorem L8x31 : L8 31 = [15, 17, 18, 19, 20, 21, 139] := (rfl)
theorem L8x33 : L8 33 = [15, 17, 18, 19, 20, 21, 157] := (rfl)
theorem L8x34 : L8 34 = [15, 17, 18, 19, 20, 21] := (rfl)
theorem L8x32 : L8 32 = [15, 17, 18, 19, 20, 21] := (rfl)
theorem L8x35 : L8 35 = [12] := (rfl)
def ord8x33 : List Nat := [0, 1, 2, 3, 4, 5, 6, 7, 8, 9, 10, 11, 12, 13, 14, 15]
theorem fnOk8 : fnOk Tryz.prog 8 = true := by kernel_rfl
theorem rq8 {R : Value → AH → Nat → Prop} {env : Env} {H : AH} {nx : Nat} : retQ Tryz.prog Tryz.f8 R .ret env H nx = onV (eg env 12) R H nx := retQ_one rfl (of_decide_eq_true (by kernel_rfl))

theorem zero71 : zeroT Tryz.prog 71 = some (.agg #[(.int .u32 0), (.int .u8 0), (.bool false), (.int .u32 0), (.int .u8 0), (.int .i64 0), (.int .u16 0), (.int .u16 0), (.int .u16 0), (.int .u16 0)]) := by kernel_rfl
theorem bd71x0x3 (H : AH) (v0x0 : Value) (v0x1 : Value) (v3x0 : Value) (v3x1 : Value) : buildV Tryz.prog H 71 #[(0, .agg #[v0x0, v0x1]), (3, .agg #[v3x0, v3x1])] = some (.agg #[v0x0, v0x1, (.bool false), (.int .u32 0), (.int .u8 0), (.int .i64 0), (.int .u16 0), (.int .u16 0), v3x0, v3x1]) := build_by (pl := fun i => (#[(0, 2), (2, 1), (3, 5), (8, 2)] : Array (Nat × Nat))[i]?) (by kernel_rfl) zero71 (by simp [Instr.fill, cells_agg, cells_int, cells_bool, cells_slice, cells_ptr, cells_str, cells_map])
theorem sl72 : slT Tryz.prog 72 = some (71, 10) := by kernel_rfl
theorem ia72 (H : AH) (n b o c : Nat) (kk : IntKind) (i : Int) (h0 : 0 ≤ i) (h1 : i < n) : indexAV Tryz.prog H 72 (.slice (some ⟨b, o, none⟩) n c) (.int kk i) = some (.pointer (some ⟨b, o + i.toNat * 10, none⟩)) := indexAV_slice 72 71 n 10 b o c kk i (by kernel_rfl) h0 h1
theorem fa71x3 (H : AH) (b o : Nat) : fieldAV Tryz.prog H 71 3 (.pointer (some ⟨b, o, none⟩)) = some (.pointer (some ⟨b, o + 8, none⟩)) := fieldAV_eq 71 3 b o true 1 8 (by kernel_rfl)
theorem cv5x27 (lo : Nat) (k' : IntKind) (n : Int) (K : Value → AH → Nat → Prop) (H : AH) (nx : Nat) : convQ Tryz.prog lo 5 27 (.int k' n) K H nx = K (.int .u64 (IntKind.wrap .u64 n)) H nx := convQ_int (by kernel_rfl) (by kernel_rfl)
theorem cx5x27 (k' : IntKind) (n : Int) (H : AH) : convV Tryz.prog H 5 27 (.int k' n) = some (.int .u64 (IntKind.wrap .u64 n)) := convV_int (by kernel_rfl) (by kernel_rfl)
theorem al36 (lo : Nat) (K : Value → AH → Nat → Prop) (H : AH) (nx : Nat) : allocQ Tryz.prog lo 36 K H nx = newQ 36 ((.agg #[(.int .i64 0), (.slice none 0 0)]) : Value).cells K H nx := alloc_new zero36
theorem st36 (lo : Nat) (b o : Nat) (v0 v1 : Value) (K : AH → Nat → Prop) (H : AH) (nx : Nat) : storeQ Tryz.prog lo 36 (.pointer (some ⟨b, o, none⟩)) (.agg #[v0, v1]) K H nx = stsQ lo b o [v0, v1] K H nx := store_agg (n := 2) (by kernel_rfl) (by decide) rfl
theorem fa36x1 (H : AH) (b o : Nat) : fieldAV Tryz.prog H 36 1 (.pointer (some ⟨b, o, none⟩)) = some (.pointer (some ⟨b, o + 1, none⟩)) := fieldAV_eq 36 1 b o false 0 1 (by kernel_rfl)
theorem ld34 (H : AH) (b o : Nat) : loadV Tryz.prog H 34 (.pointer (some ⟨b, o, none⟩)) = H.c b o := load_one (by kernel_rfl)
theorem len34 (H : AH) (ty : TypeId) (a : Option Addr) (n c : Nat) : lenV Tryz.prog H #[34] ty #[.slice a n c] = some (.int .i64 n) := lenV_slice 34 32 ty 7 a n c (by kernel_rfl)
theorem ia34 (H : AH) (n b o c : Nat) (kk : IntKind) (i : Int) (h0 : 0 ≤ i) (h1 : i < n) : indexAV Tryz.prog H 34 (.slice (some ⟨b, o, none⟩) n c) (.int kk i) = some (.pointer (some ⟨b, o + i.toNat * 7, none⟩)) := indexAV_slice 34 32 n 7 b o c kk i (by kernel_rfl) h0 h1
theorem fa32x0 (H : AH) (b o : Nat) : fieldAV Tryz.prog H 32 0 (.pointer (some ⟨b, o, none⟩)) = some (.pointer (some ⟨b, o + 0, none⟩)) := fieldAV_eq 32 0 b o false 0 0 (by kernel_rfl)
theorem ld32 (H : AH) (b o : Nat) : loadV Tryz.prog H 32 (.pointer (some ⟨b, o, none⟩)) = (loadN H b o 7).map fun l => .agg l.toArray := load_agg (by kernel_rfl) (by kernel_rfl)
theorem bd32x0x2x5 (H : AH) (k0x0 : IntKind) (n0x0 : Int) (k2x0 : IntKind) (n2x0 : Int) (k5x0 : IntKind) (n5x0 : Int) : buildV Tryz.prog H 32 #[(0, .int k0x0 n0x0), (2, .int k2x0 n2x0), (5, .int k5x0 n5x0)] = some (.agg #[.int k0x0 n0x0, (.int .u64 0), .int k2x0 n2x0, (.int .u32 0), (.int .u8 0), (.int .u16 0), .int k5x0 n5x0]) := build_by (pl := fun i => (#[(0, 1), (1, 1), (2, 1), (3, 2), (5, 1), (6, 1)] : Array (Nat × Nat))[i]?) (by kernel_rfl) zero32 (by simp [Instr.fill, cells_agg, cells_int, cells_bool, cells_slice, cells_ptr, cells_str, cells_map])
theorem eqg32 (H : AH) (x y : Operand) (a0 b0 : Int) (a1 b1 : Int) (a2 b2 : Int) (a3 b3 : Int) (a4 b4 : Int) (a5 b5 : Int) (a6 b6 : Int) : binV Tryz.prog H .eql 32 x y (.agg #[.int .u8 a0, .int .u64 a1, .int .i64 a2, .int .u32 a3, .int .u8 a4, .int .u16 a5, .int .u16 a6]) (.agg #[.int .u8 b0, .int .u64 b1, .int .i64 b2, .int .u32 b3, .int .u8 b4, .int .u16 b5, .int .u16 b6]) = some (.bool (eqLs [.int .u8 a0, .int .u64 a1, .int .i64 a2, .int .u32 a3, .int .u8 a4, .int .u16 a5, .int .u16 a6] [.int .u8 b0, .int .u64 b1, .int .i64 b2, .int .u32 b3, .int .u8 b4, .int .u16 b5, .int .u16 b6])) := (bin_agg (xs := [.int .u8 a0, .int .u64 a1, .int .i64 a2, .int .u32 a3, .int .u8 a4, .int .u16 a5, .int .u16 a6]) (ys := [.int .u8 b0, .int .u64 b1, .int .i64 b2, .int .u32 b3, .int .u8 b4, .int .u16 b5, .int .u16 b6]) (ks := [some .u8, some .u64, some .i64, some .u32, some .u8, some .u16, some .u16]) (by kernel_rfl) (fitI (fitI (fitI (fitI (fitI (fitI (fitI fitN))))))) (fitI (fitI (fitI (fitI (fitI (fitI (fitI fitN)))))))).1
theorem neg32 (H : AH) (x y : Operand) (a0 b0 : Int) (a1 b1 : Int) (a2 b2 : Int) (a3 b3 : Int) (a4 b4 : Int) (a5 b5 : Int) (a6 b6 : Int) : binV Tryz.prog H .neq 32 x y (.agg #[.int .u8 a0, .int .u64 a1, .int .i64 a2, .int .u32 a3, .int .u8 a4, .int .u16 a5, .int .u16 a6]) (.agg #[.int .u8 b0, .int .u64 b1, .int .i64 b2, .int .u32 b3, .int .u8 b4, .int .u16 b5, .int .u16 b6]) = some (.bool (!eqLs [.int .u8 a0, .int .u64 a1, .int .i64 a2, .int .u32 a3, .int .u8 a4, .int .u16 a5, .int .u16 a6] [.int .u8 b0, .int .u64 b1, .int .i64 b2, .int .u32 b3, .int .u8 b4, .int .u16 b5, .int .u16 b6])) := (bin_agg (xs := [.int .u8 a0, .int .u64 a1, .int .i64 a2, .int .u32 a3, .int .u8 a4, .int .u16 a5, .int .u16 a6]) (ys := [.int .u8 b0, .int .u64 b1, .int .i64 b2, .int .u32 b3, .int .u8 b4, .int .u16 b5, .int .u16 b6]) (ks := [some .u8, some .u64, some .i64, some .u32, some .u8, some .u16, some .u16]) (by kernel_rfl) (fitI (fitI (fitI (fitI (fitI (fitI (fitI fitN))))))) (fitI (fitI (fitI (fitI (fitI (fitI (fitI fitN)))))))).2
theorem fa36x0 (H : AH) (b o : Nat) : fieldAV Tryz.prog H 36 0 (.pointer (some ⟨b, o, none⟩)) = some (.pointer (some ⟨b, o + 0, none⟩)) := fieldAV_eq 36 0 b o false 0 0 (by kernel_rfl)
theorem al32 (lo : Nat) (K : Value → AH → Nat → Prop) (H : AH) (nx : Nat) : allocQ Tryz.prog lo 32 K H nx = newQ 32 ((.agg #[(.int .u8 0), (.int .u64 0), (.int .i64 0), (.int .u32 0), (.int .u8 0), (.int .u16 0), (.int .u16 0)]) : Value).cells K H nx := alloc_new zero32
theorem st32 (lo : Nat) (b o : Nat) (v0 v1 v2 v3 v4 v5 v6 : Value) (K : AH → Nat → Prop) (H : AH) (nx : Nat) : storeQ Tryz.prog lo 32 (.pointer (some ⟨b, o, none⟩)) (.agg #[v0, v1, v2, v3, v4, v5, v6]) K H nx = stsQ lo b o [v0, v1, v2, v3, v4, v5, v6] K H nx := store_agg (n := 7) (by kernel_rfl) (by decide) rfl
theorem fa32x5 (H : AH) (b o : Nat) : fieldAV Tryz.prog H 32 5 (.pointer (some ⟨b, o, none⟩)) = some (.pointer (some ⟨b, o + 6, none⟩)) := fieldAV_eq 32 5 b o false 0 6 (by kernel_rfl)
theorem bd32x0x3x5 (H : AH) (k0x0 : IntKind) (n0x0 : Int) (v3x0 : Value) (v3x1 : Value) (k5x0 : IntKind) (n5x0 : Int) : buildV Tryz.prog H 32 #[(0, .int k0x0 n0x0), (3, .agg #[v3x0, v3x1]), (5, .int k5x0 n5x0)] = some (.agg #[.int k0x0 n0x0, (.int .u64 0), (.int .i64 0), v3x0, v3x1, (.int .u16 0), .int k5x0 n5x0]) := build_by (pl := fun i => (#[(0, 1), (1, 1), (2, 1), (3, 2), (5, 1), (6, 1)] : Array (Nat × Nat))[i]?) (by kernel_rfl) zero32 (by simp [Instr.fill, cells_agg, cells_int, cells_bool, cells_slice, cells_ptr, cells_str, cells_map])
/-! 9: milestone/milestonelaw17.EngineAsks · code of 155 operations -/
def L9 : Nat → List Nat
  | 0 => [0, 1, 2, 3]
  | 1 => [0, 1, 2, 3, 26]
  | 2 => [8]
  | 3 => [0, 1, 2, 3, 9]
  | 4 => [0, 1, 2, 3, 9]
  | 5 => [0, 1, 2, 3, 9]
  | 6 => [0, 1, 2, 3, 9]
  | 7 => [0, 1, 2, 3, 9]
  | 8 => [0, 1, 2, 3, 9, 11]
  | 9 => [0, 1, 2, 3, 9, 11, 12]
  | 10 => [0, 1, 2, 3, 9, 11, 12, 14]
  | 11 => [0, 1, 2, 3, 9, 11, 12, 14, 15]
  | 12 => [0, 1, 2, 3, 9, 11, 12, 14, 15, 66]
  | 14 => [0, 1, 2, 3, 9, 11, 12, 14, 15]
  | 13 => [0, 1, 2, 3, 9, 11, 12, 14, 15]
  | 15 => [0, 1, 2, 3, 9, 11, 14]
  | 16 => [0, 1, 2, 3, 9, 11, 14]
  | 17 => [0, 1, 2, 3, 9, 11, 14, 16, 17]
  | 18 => [0, 1, 2, 3, 9, 11, 14, 16, 17, 18]
  | 19 => [0, 1, 2, 9, 11, 14, 16, 17, 18, 103]
  | 20 => [0, 1, 2, 9, 11, 14, 16, 17, 18]
  | 21 => [0, 1, 2, 9, 11, 14, 16, 17, 18]
  | 22 => [0, 1, 2, 9, 11, 14, 16, 17, 18]
  | 23 => [0, 1, 11, 14, 16, 17, 18, 19, 20]
  | 24 => [8]
  | _ => []
theorem L9x0 : L9 0 = [0, 1, 2, 3] := (rfl)
theorem L9x1 : L9 1 = [0, 1, 2, 3, 26] := (rfl)
theorem L9x2 : L9 2 = [8] := (rfl)
theorem L9x3 : L9 3 = [0, 1, 2, 3, 9] := (rfl)
theorem L9x4 : L9 4 = [0, 1, 2, 3, 9] := (rfl)
theorem L9x5 : L9 5 = [0, 1, 2, 3, 9] := (rfl)
theorem L9x6 : L9 6 = [0, 1, 2, 3, 9] := (rfl)
theorem L9x7 : L9 7 = [0, 1, 2, 3, 9] := (rfl)
theorem L9x8 : L9 8 = [0, 1, 2, 3, 9, 11] := (rfl)
theorem L9x9 : L9 9 = [0, 1, 2, 3, 9, 11, 12] := (rfl)
theorem L9x10 : L9 10 = [0, 1, 2, 3, 9, 11, 12, 14] := (rfl)
theorem L9x11 : L9 11 = [0, 1, 2, 3, 9, 11, 12, 14, 15] := (rfl)
theorem L9x12 : L9 12 = [0, 1, 2, 3, 9, 11, 12, 14, 15, 66] := (rfl)
theorem L9x14 : L9 14 = [0, 1, 2, 3, 9, 11, 12, 14, 15] := (rfl)
theorem L9x13 : L9 13 = [0, 1, 2, 3, 9, 11, 12, 14, 15] := (rfl)
theorem L9x15 : L9 15 = [0, 1, 2, 3, 9, 11, 14] := (rfl)
theorem L9x16 : L9 16 = [0, 1, 2, 3, 9, 11, 14] := (rfl)
theorem L9x17 : L9 17 = [0, 1, 2, 3, 9, 11, 14, 16, 17] := (rfl)
theorem L9x18 : L9 18 = [0, 1, 2, 3, 9, 11, 14, 16, 17, 18] := (rfl)
theorem L9x19 : L9 19 = [0, 1, 2, 9, 11, 14, 16, 17, 18, 103] := (rfl)
theorem L9x20 : L9 20 = [0, 1, 2, 9, 11, 14, 16, 17, 18] := (rfl)
theorem L9x21 : L9 21 = [0, 1, 2, 9, 11, 14, 16, 17, 18] := (rfl)
theorem L9x22 : L9 22 = [0, 1, 2, 9, 11, 14, 16, 17, 18] := (rfl)
theorem L9x23 : L9 23 = [0, 1, 11, 14, 16, 17, 18, 19, 20] := (rfl)
theorem L9x24 : L9 24 = [8] := (rfl)
def ord9x14 : List Nat := [0, 1, 2, 3, 4, 5, 6, 7, 9, 10, 8, 11, 12, 13, 14]
theorem fnOk9 : fnOk Tryz.prog 9 = true := by kernel_rfl
theorem rq9 {R : Value → AH → Nat → Prop} {env : Env} {H : AH} {nx : Nat} : retQ Tryz.prog Tryz.f9 R .ret env H nx = onV (eg env 8) R H nx := retQ_one rfl (of_decide_eq_true (by kernel_rfl))

theorem bd32x0x3x4x1 (H : AH) (k0x0 : IntKind) (n0x0 : Int) (v3x0 : Value) (v3x1 : Value) (k4x0 : IntKind) (n4x0 : Int) (k1x0 : IntKind) (n1x0 : Int) : buildV Tryz.prog H 32 #[(0, .int k0x0 n0x0), (3, .agg #[v3x0, v3x1]), (4, .int k4x0 n4x0), (1, .int k1x0 n1x0)] = some (.agg #[.int k0x0 n0x0, .int k1x0 n1x0, (.int .i64 0), v3x0, v3x1, .int k4x0 n4x0, (.int .u16 0)]) := build_by (pl := fun i => (#[(0, 1), (1, 1), (2, 1), (3, 2), (5, 1), (6, 1)] : Array (Nat × Nat))[i]?) (by kernel_rfl) zero32 (by simp [Instr.fill, cells_agg, cells_int, cells_bool, cells_slice, cells_ptr, cells_str, cells_map])
theorem bd32x0x3x4 (H : AH) (k0x0 : IntKind) (n0x0 : Int) (v3x0 : Value) (v3x1 : Value) (k4x0 : IntKind) (n4x0 : Int) : buildV Tryz.prog H 32 #[(0, .int k0x0 n0x0), (3, .agg #[v3x0, v3x1]), (4, .int k4x0 n4x0)] = some (.agg #[.int k0x0 n0x0, (.int .u64 0), (.int .i64 0), v3x0, v3x1, .int k4x0 n4x0, (.int .u16 0)]) := build_by (pl := fun i => (#[(0, 1), (1, 1), (2, 1), (3, 2), (5, 1), (6, 1)] : Array (Nat × Nat))[i]?) (by kernel_rfl) zero32 (by simp [Instr.fill, cells_agg, cells_int, cells_bool, cells_slice, cells_ptr, cells_str, cells_map])
/-! 10: milestone/milestonelaw17.EngineHops · code of 66 operations -/
def L10 : Nat → List Nat
  | 0 => [0, 1, 2]
  | 1 => [0, 1, 2, 11]
  | 2 => [6]
  | 3 => [0, 1, 2, 7]
  | 4 => [0, 1, 2, 7]
  | 5 => [0, 1, 2, 7]
  | 6 => [0, 1, 2, 7]
  | 7 => [0, 1, 2, 8, 9]
  | 8 => [0, 1, 2, 8, 9, 35]
  | 9 => [6]
  | 10 => [6]
  | _ => []
theorem L10x0 : L10 0 = [0, 1, 2] := (rfl)
theorem L10x1 : L10 1 = [0, 1, 2, 11] := (rfl)
theorem L10x2 : L10 2 = [6] := (rfl)
theorem L10x3 : L10 3 = [0, 1, 2, 7] := (rfl)
theorem L10x4 : L10 4 = [0, 1, 2, 7] := (rfl)
theorem L10x5 : L10 5 = [0, 1, 2, 7] := (rfl)
theorem L10x6 : L10 6 = [0, 1, 2, 7] := (rfl)
theorem L10x7 : L10 7 = [0, 1, 2, 8, 9] := (rfl)
theorem L10x8 : L10 8 = [0, 1, 2, 8, 9, 35] := (rfl)
theorem L10x9 : L10 9 = [6] := (rfl)
theorem L10x10 : L10 10 = [6] := (rfl)
def ord10x10 : List Nat := [0, 1, 2, 3, 4, 5, 6, 7, 8, 9, 10, 11, 12, 14, 15, 16, 17, 18, 13, 19, 20, 21, 22, 23, 24]
theorem fnOk10 : fnOk Tryz.prog 10 = true := by kernel_rfl
theorem rq10 {R : Value → AH → Nat → Prop} {env : Env} {H : AH} {nx : Nat} : retQ Tryz.prog Tryz.f10 R .ret env H nx = onV (eg env 6) R H nx := retQ_one rfl (of_decide_eq_true (by kernel_rfl))

/-! 11: milestone/milestonelaw17.EngineForgets · code of 110 operations -/
def L11 : Nat → List Nat
  | 0 => [0, 1, 2]
  | 1 => [0, 1, 2, 20]
  | 2 => [6]
  | 3 => [0, 1, 2, 7]
  | 4 => [1, 2, 7]
  | 5 => [1, 2, 7]
  | 6 => [1, 2, 7, 9]
  | 7 => [1, 2, 7, 9, 10]
  | 8 => [1, 2, 7, 9, 10, 40]
  | 10 => [1, 2, 7, 9, 10, 48]
  | 11 => [1, 2, 7, 9, 10]
  | 12 => [1, 2, 7, 9, 10]
  | 13 => [1, 2, 7, 9, 10]
  | 9 => [1, 2, 7, 9, 10]
  | 14 => [2, 7, 9, 12]
  | 15 => [2, 9, 12, 13]
  | 16 => [2, 9, 12, 13, 14]
  | 17 => [9, 12, 13, 14, 70]
  | 18 => [9, 12, 13, 14]
  | 19 => [6]
  | _ => []
theorem L11x0 : L11 0 = [0, 1, 2] := (rfl)
theorem L11x1 : L11 1 = [0, 1, 2, 20] := (rfl)
theorem L11x2 : L11 2 = [6] := (rfl)
theorem L11x3 : L11 3 = [0, 1, 2, 7] := (rfl)
theorem L11x4 : L11 4 = [1, 2, 7] := (rfl)
theorem L11x5 : L11 5 = [1, 2, 7] := (rfl)
theorem L11x6 : L11 6 = [1, 2, 7, 9] := (rfl)
theorem L11x7 : L11 7 = [1, 2, 7, 9, 10] := (rfl)
theorem L11x8 : L11 8 = [1, 2, 7, 9, 10, 40] := (rfl)
theorem L11x10 : L11 10 = [1, 2, 7, 9, 10, 48] := (rfl)
theorem L11x11 : L11 11 = [1, 2, 7, 9, 10] := (rfl)
theorem L11x12 : L11 12 = [1, 2, 7, 9, 10] := (rfl)
theorem L11x13 : L11 13 = [1, 2, 7, 9, 10] := (rfl)
theorem L11x9 : L11 9 = [1, 2, 7, 9, 10] := (rfl)
theorem L11x14 : L11 14 = [2, 7, 9, 12] := (rfl)
theorem L11x15 : L11 15 = [2, 9, 12, 13] := (rfl)
theorem L11x16 : L11 16 = [2, 9, 12, 13, 14] := (rfl)
theorem L11x17 : L11 17 = [9, 12, 13, 14, 70] := (rfl)
theorem L11x18 : L11 18 = [9, 12, 13, 14] := (rfl)
theorem L11x19 : L11 19 = [6] := (rfl)
theorem fnOk11 : fnOk Tryz.prog 11 = true := by kernel_rfl
theorem rq11 {R : Value → AH → Nat → Prop} {env : Env} {H : AH} {nx : Nat} : retQ Tryz.prog Tryz.f11 R .ret env H nx = onV (eg env 6) R H nx := retQ_one rfl (of_decide_eq_true (by kernel_rfl))

theorem fa32x2 (H : AH) (b o : Nat) : fieldAV Tryz.prog H 32 2 (.pointer (some ⟨b, o, none⟩)) = some (.pointer (some ⟨b, o + 2, none⟩)) := fieldAV_eq 32 2 b o false 0 2 (by kernel_rfl)
/-! 12: milestone/milestonelaw17.EngineBegins · code of 255 operations -/
def L12 : Nat → List Nat
  | 0 => [0, 1, 2, 7]
  | 1 => [0, 1, 2, 7, 46]
  | 2 => [8]
  | 3 => [0, 2, 7, 9]
  | 4 => [0, 2, 7, 9, 10]
  | 5 => [0, 2, 7, 9, 10, 11]
  | 6 => [0, 2, 7, 9, 10, 11, 58]
  | 8 => [0, 2, 7, 9, 10, 11]
  | 7 => [0, 2, 7, 9, 10, 11]
  | 9 => [2, 7, 9, 10]
  | 10 => [2, 7, 9, 10, 12]
  | 11 => [2, 7, 9, 10, 12, 13]
  | 12 => [2, 7, 9, 10, 12, 13, 14]
  | 13 => [2, 7, 9, 10, 12, 13, 14, 15]
  | 14 => [2, 7, 9, 10, 12, 13, 14, 15, 85]
  | 16 => [2, 7, 9, 10, 12, 13, 14, 15, 16]
  | 17 => [2, 7, 9, 10, 12, 13, 14, 15, 16, 17]
  | 18 => [2, 7, 9, 10, 12, 13, 14, 15, 16, 17, 90]
  | 20 => [2, 7, 9, 10, 12, 13, 14, 15, 16, 17]
  | 19 => [2, 7, 9, 10, 12, 13, 14, 15, 16, 17]
  | 21 => [2, 7, 9, 10, 12, 13, 14, 15, 113]
  | 22 => [2, 7, 9, 10, 12, 13, 14, 15]
  | 23 => [2, 7, 9, 10, 12, 13, 14, 15, 18]
  | 24 => [2, 7, 9, 10, 12, 13, 14, 15, 18, 19]
  | 25 => [2, 7, 9, 10, 12, 13, 14, 15, 18, 19, 119]
  | 27 => [2, 7, 9, 10, 12, 13, 14, 15, 18, 19, 131]
  | 28 => [2, 7, 9, 10, 12, 13, 14, 15, 18, 19]
  | 26 => [2, 7, 9, 10, 12, 13, 14, 15, 18, 19]
  | 29 => [2, 7, 9, 10, 12, 13, 14, 15, 18, 20, 21]
  | 30 => [2, 7, 9, 10, 12, 13, 14, 15, 168]
  | 31 => [8]
  | 15 => [2, 7, 9, 10, 12, 13, 14, 15]
  | 32 => [2, 7, 12, 13, 14, 22]
  | 33 => [2, 12, 13, 14, 22]
  | 34 => [2, 12, 13, 14, 22]
  | 35 => [2, 12, 13, 14, 22]
  | 36 => [2, 12, 13, 14, 22, 24]
  | 37 => [2, 12, 13, 14, 22, 24, 26]
  | 38 => [2, 12, 13, 14, 22, 24, 26, 28]
  | 39 => [8]
  | _ => []
theorem L12x0 : L12 0 = [0, 1, 2, 7] := (rfl)
theorem L12x1 : L12 1 = [0, 1, 2, 7, 46] := (rfl)
theorem L12x2 : L12 2 = [8] := (rfl)
theorem L12x3 : L12 3 = [0, 2, 7, 9] := (rfl)
theorem L12x4 : L12 4 = [0, 2, 7, 9, 10] := (rfl)
theorem L12x5 : L12 5 = [0, 2, 7, 9, 10, 11] := (rfl)
theorem L12x6 : L12 6 = [0, 2, 7, 9, 10, 11, 58] := (rfl)
theorem L12x8 : L12 8 = [0, 2, 7, 9, 10, 11] := (rfl)
theorem L12x7 : L12 7 = [0, 2, 7, 9, 10, 11] := (rfl)
theorem L12x9 : L12 9 = [2, 7, 9, 10] := (rfl)
theorem L12x10 : L12 10 = [2, 7, 9, 10, 12] := (rfl)
theorem L12x11 : L12 11 = [2, 7, 9, 10, 12, 13] := (rfl)
theorem L12x12 : L12 12 = [2, 7, 9, 10, 12, 13, 14] := (rfl)
theorem L12x13 : L12 13 = [2, 7, 9, 10, 12, 13, 14, 15] := (rfl)
theorem L12x14 : L12 14 = [2, 7, 9, 10, 12, 13, 14, 15, 85] := (rfl)
theorem L12x16 : L12 16 = [2, 7, 9, 10, 12, 13, 14, 15, 16] := (rfl)
theorem L12x17 : L12 17 = [2, 7, 9, 10, 12, 13, 14, 15, 16, 17] := (rfl)
theorem L12x18 : L12 18 = [2, 7, 9, 10, 12, 13, 14, 15, 16, 17, 90] := (rfl)
theorem L12x20 : L12 20 = [2, 7, 9, 10, 12, 13, 14, 15, 16, 17] := (rfl)
theorem L12x19 : L12 19 = [2, 7, 9, 10, 12, 13, 14, 15, 16, 17] := (rfl)
theorem L12x21 : L12 21 = [2, 7, 9, 10, 12, 13, 14, 15, 113] := (rfl)
theorem L12x22 : L12 22 = [2, 7, 9, 10, 12, 13, 14, 15] := (rfl)
theorem L12x23 : L12 23 = [2, 7, 9, 10, 12, 13, 14, 15, 18] := (rfl)
theorem L12x24 : L12 24 = [2, 7, 9, 10, 12, 13, 14, 15, 18, 19] := (rfl)
theorem L12x25 : L12 25 = [2, 7, 9, 10, 12, 13, 14, 15, 18, 19, 119] := (rfl)
theorem L12x27 : L12 27 = [2, 7, 9, 10, 12, 13, 14, 15, 18, 19, 131] := (rfl)
theorem L12x28 : L12 28 = [2, 7, 9, 10, 12, 13, 14, 15, 18, 19] := (rfl)
theorem L12x26 : L12 26 = [2, 7, 9, 10, 12, 13, 14, 15, 18, 19] := (rfl)
theorem L12x29 : L12 29 = [2, 7, 9, 10, 12, 13, 14, 15, 18, 20, 21] := (rfl)
theorem L12x30 : L12 30 = [2, 7, 9, 10, 12, 13, 14, 15, 168] := (rfl)
theorem L12x31 : L12 31 = [8] := (rfl)
theorem L12x15 : L12 15 = [2, 7, 9, 10, 12, 13, 14, 15] := (rfl)
theorem L12x32 : L12 32 = [2, 7, 12, 13, 14, 22] := (rfl)
theorem L12x33 : L12 33 = [2, 12, 13, 14, 22] := (rfl)
theorem L12x34 : L12 34 = [2, 12, 13, 14, 22] := (rfl)
theorem L12x35 : L12 35 = [2, 12, 13, 14, 22] := (rfl)
theorem L12x36 : L12 36 = [2, 12, 13, 14, 22, 24] := (rfl)
theorem L12x37 : L12 37 = [2, 12, 13, 14, 22, 24, 26] := (rfl)
theorem L12x38 : L12 38 = [2, 12, 13, 14, 22, 24, 26, 28] := (rfl)
theorem L12x39 : L12 39 = [8] := (rfl)
def ord12x20 : List Nat := [0, 1, 2, 3, 4, 5, 6, 7, 8, 9, 10, 11, 12]
def ord12x27 : List Nat := [0, 1, 2, 3, 4, 5, 6, 7, 8, 9]
theorem fnOk12 : fnOk Tryz.prog 12 = true := by kernel_rfl
theorem rq12 {R : Value → AH → Nat → Prop} {env : Env} {H : AH} {nx : Nat} : retQ Tryz.prog Tryz.f12 R .ret env H nx = onV (eg env 8) R H nx := retQ_one rfl (of_decide_eq_true (by kernel_rfl))

theorem len46 (H : AH) (ty : TypeId) (a : Option Addr) (n c : Nat) : lenV Tryz.prog H #[46] ty #[.slice a n c] = some (.int .i64 n) := lenV_slice 46 30 ty 2 a n c (by kernel_rfl)
theorem fa30x0 (H : AH) (b o : Nat) : fieldAV Tryz.prog H 30 0 (.pointer (some ⟨b, o, none⟩)) = some (.pointer (some ⟨b, o + 0, none⟩)) := fieldAV_eq 30 0 b o false 0 0 (by kernel_rfl)
theorem ld28 (H : AH) (b o : Nat) : loadV Tryz.prog H 28 (.pointer (some ⟨b, o, none⟩)) = H.c b o := load_one (by kernel_rfl)
theorem cv28x5 (lo : Nat) (k' : IntKind) (n : Int) (K : Value → AH → Nat → Prop) (H : AH) (nx : Nat) : convQ Tryz.prog lo 28 5 (.int k' n) K H nx = K (.int .u8 (IntKind.wrap .u8 n)) H nx := convQ_int (by kernel_rfl) (by kernel_rfl)
theorem cx28x5 (k' : IntKind) (n : Int) (H : AH) : convV Tryz.prog H 28 5 (.int k' n) = some (.int .u8 (IntKind.wrap .u8 n)) := convV_int (by kernel_rfl) (by kernel_rfl)
theorem zero30 : zeroT Tryz.prog 30 = some (.agg #[(.int .u32 0), (.int .u8 0)]) := by kernel_rfl
theorem sl46 : slT Tryz.prog 46 = some (30, 2) := by kernel_rfl
theorem by30 : bytesT Tryz.prog 30 = some 8 := by kernel_rfl
theorem eqg30 (H : AH) (x y : Operand) (a0 b0 : Int) (a1 b1 : Int) : binV Tryz.prog H .eql 30 x y (.agg #[.int .u32 a0, .int .u8 a1]) (.agg #[.int .u32 b0, .int .u8 b1]) = some (.bool (eqLs [.int .u32 a0, .int .u8 a1] [.int .u32 b0, .int .u8 b1])) := (bin_agg (xs := [.int .u32 a0, .int .u8 a1]) (ys := [.int .u32 b0, .int .u8 b1]) (ks := [some .u32, some .u8]) (by kernel_rfl) (fitI (fitI fitN)) (fitI (fitI fitN))).1
theorem neg30 (H : AH) (x y : Operand) (a0 b0 : Int) (a1 b1 : Int) : binV Tryz.prog H .neq 30 x y (.agg #[.int .u32 a0, .int .u8 a1]) (.agg #[.int .u32 b0, .int .u8 b1]) = some (.bool (!eqLs [.int .u32 a0, .int .u8 a1] [.int .u32 b0, .int .u8 b1])) := (bin_agg (xs := [.int .u32 a0, .int .u8 a1]) (ys := [.int .u32 b0, .int .u8 b1]) (ks := [some .u32, some .u8]) (by kernel_rfl) (fitI (fitI fitN)) (fitI (fitI fitN))).2
theorem len72 (H : AH) (ty : TypeId) (a : Option Addr) (n c : Nat) : lenV Tryz.prog H #[72] ty #[.slice a n c] = some (.int .i64 n) := lenV_slice 72 71 ty 10 a n c (by kernel_rfl)
theorem fa71x0 (H : AH) (b o : Nat) : fieldAV Tryz.prog H 71 0 (.pointer (some ⟨b, o, none⟩)) = some (.pointer (some ⟨b, o + 0, none⟩)) := fieldAV_eq 71 0 b o true 1 0 (by kernel_rfl)
theorem ld36 (H : AH) (b o : Nat) : loadV Tryz.prog H 36 (.pointer (some ⟨b, o, none⟩)) = (loadN H b o 2).map fun l => .agg l.toArray := load_agg (by kernel_rfl) (by kernel_rfl)
theorem bd0x65 (H : AH) : buildV Tryz.prog H 65 #[] = some (.agg #[(.int .i64 0), (.int .i64 0), (.int .i64 0), (.int .i64 0)]) := build_zero (by kernel_rfl) zero65
/-! 13: milestone/milestonelaw17.awake · code of 21 operations -/
def L13 : Nat → List Nat
  | 0 => []
  | 1 => [1]
  | 2 => [2]
  | 3 => [0]
  | _ => []
theorem L13x0 : L13 0 = [] := (rfl)
theorem L13x1 : L13 1 = [1] := (rfl)
theorem L13x2 : L13 2 = [2] := (rfl)
theorem L13x3 : L13 3 = [0] := (rfl)
def ord13x3 : List Nat := [0, 1, 2, 3, 4, 5, 6, 7, 8, 9, 10, 11, 12, 13]
theorem fnOk13 : fnOk Tryz.prog 13 = true := by kernel_rfl
theorem rq13 {R : Value → AH → Nat → Prop} {env : Env} {H : AH} {nx : Nat} : retQ Tryz.prog Tryz.f13 R .ret env H nx = onV (eg env 0) R H nx := retQ_one rfl (of_decide_eq_true (by kernel_rfl))

/-! 14: milestone/milestonelaw17.met · code of 22 operations -/
def L14 : Nat → List Nat
  | 0 => [0, 1]
  | 1 => [0, 1, 5]
  | 2 => [0, 1, 5, 6]
  | 3 => [0, 1, 5, 6, 10]
  | 5 => [0, 1, 5, 6]
  | 6 => [0, 1, 5, 6]
  | 4 => [0, 1, 5, 6]
  | 7 => [4]
  | _ => []
theorem L14x0 : L14 0 = [0, 1] := (rfl)
theorem L14x1 : L14 1 = [0, 1, 5] := (rfl)
theorem L14x2 : L14 2 = [0, 1, 5, 6] := (rfl)
theorem L14x3 : L14 3 = [0, 1, 5, 6, 10] := (rfl)
theorem L14x5 : L14 5 = [0, 1, 5, 6] := (rfl)
theorem L14x6 : L14 6 = [0, 1, 5, 6] := (rfl)
theorem L14x4 : L14 4 = [0, 1, 5, 6] := (rfl)
theorem L14x7 : L14 7 = [4] := (rfl)
theorem fnOk14 : fnOk Tryz.prog 14 = true := by kernel_rfl
theorem rq14 {R : Value → AH → Nat → Prop} {env : Env} {H : AH} {nx : Nat} : retQ Tryz.prog Tryz.f14 R .ret env H nx = onV (eg env 4) R H nx := retQ_one rfl (of_decide_eq_true (by kernel_rfl))

/-! 15: (*milestone/engine.Engine).Hear · code of 129 operations -/
def L15 : Nat → List Nat
  | 0 => [0, 2, 3, 5]
  | 1 => [0, 2, 3, 5, 23]
  | 2 => [0, 3, 5]
  | 3 => [0, 3, 5, 8]
  | 4 => [0, 3, 5, 8, 42]
  | 5 => [0, 3, 5, 8]
  | 6 => [0, 3, 5, 8]
  | 7 => [0, 3, 5, 8, 53, 54, 55]
  | 8 => [0, 3, 5, 8, 53, 54, 55, 56]
  | 9 => [0, 3, 5, 8, 10, 53, 54, 55]
  | 10 => [0, 3, 5, 8, 10, 53, 54, 55, 60]
  | 11 => [0, 3, 5, 8, 10, 53, 54, 55, 60, 61]
  | 12 => [0, 3, 5, 8, 53, 54, 55]
  | 13 => [0, 3, 5, 8, 10, 53, 54, 55, 60, 68]
  | 14 => [0, 3, 5, 8, 10, 53, 54, 55, 76]
  | 15 => [0, 3, 5, 8, 53, 54, 55]
  | 16 => [0, 3, 5, 8, 10, 53, 54, 55, 60, 82]
  | 17 => [0, 3, 5, 8, 10, 12, 53, 54, 55]
  | 18 => [0, 3, 5, 8, 53, 54, 55, 115]
  | 19 => [0, 3, 5, 8, 53, 54, 55]
  | 20 => [0, 3, 5, 8, 10, 53, 54, 55, 125]
  | 21 => [0, 3, 5, 8, 53, 54, 55]
  | 22 => [0, 3, 5, 8, 53, 54, 55]
  | _ => []
theorem L15x0 : L15 0 = [0, 2, 3, 5] := (rfl)
theorem L15x1 : L15 1 = [0, 2, 3, 5, 23] := (rfl)
theorem L15x2 : L15 2 = [0, 3, 5] := (rfl)
theorem L15x3 : L15 3 = [0, 3, 5, 8] := (rfl)
theorem L15x4 : L15 4 = [0, 3, 5, 8, 42] := (rfl)
theorem L15x5 : L15 5 = [0, 3, 5, 8] := (rfl)
theorem L15x6 : L15 6 = [0, 3, 5, 8] := (rfl)
theorem L15x7 : L15 7 = [0, 3, 5, 8, 53, 54, 55] := (rfl)
theorem L15x8 : L15 8 = [0, 3, 5, 8, 53, 54, 55, 56] := (rfl)
theorem L15x9 : L15 9 = [0, 3, 5, 8, 10, 53, 54, 55] := (rfl)
theorem L15x10 : L15 10 = [0, 3, 5, 8, 10, 53, 54, 55, 60] := (rfl)
theorem L15x11 : L15 11 = [0, 3, 5, 8, 10, 53, 54, 55, 60, 61] := (rfl)
theorem L15x12 : L15 12 = [0, 3, 5, 8, 53, 54, 55] := (rfl)
theorem L15x13 : L15 13 = [0, 3, 5, 8, 10, 53, 54, 55, 60, 68] := (rfl)
theorem L15x14 : L15 14 = [0, 3, 5, 8, 10, 53, 54, 55, 76] := (rfl)
theorem L15x15 : L15 15 = [0, 3, 5, 8, 53, 54, 55] := (rfl)
theorem L15x16 : L15 16 = [0, 3, 5, 8, 10, 53, 54, 55, 60, 82] := (rfl)
theorem L15x17 : L15 17 = [0, 3, 5, 8, 10, 12, 53, 54, 55] := (rfl)
theorem L15x18 : L15 18 = [0, 3, 5, 8, 53, 54, 55, 115] := (rfl)
theorem L15x19 : L15 19 = [0, 3, 5, 8, 53, 54, 55] := (rfl)
theorem L15x20 : L15 20 = [0, 3, 5, 8, 10, 53, 54, 55, 125] := (rfl)
theorem L15x21 : L15 21 = [0, 3, 5, 8, 53, 54, 55] := (rfl)
theorem L15x22 : L15 22 = [0, 3, 5, 8, 53, 54, 55] := (rfl)
def ord15x1 : List Nat := [0, 1, 2, 3, 4, 5, 6, 7, 8, 9, 10]
def ord15x3 : List Nat := [0, 1, 2, 3, 4, 5, 6, 7]
def ord15x6 : List Nat := [0, 1, 2, 3, 4, 5, 6, 7]
def ord15x14 : List Nat := [0, 1, 2, 3, 4, 5, 6]
def ord15x17 : List Nat := [0, 1, 2, 3, 4, 5, 6, 7, 8, 9, 10, 11]
def ord15x18 : List Nat := [0, 1, 2, 3, 4, 5, 6, 7, 8, 9, 10, 11, 12, 13, 14, 15, 16, 17, 18, 19, 20, 21]
theorem fnOk15 : fnOk Tryz.prog 15 = true := by kernel_rfl
theorem rq15 {R : Value → AH → Nat → Prop} {env : Env} {H : AH} {nx : Nat} : retQ Tryz.prog Tryz.f15 R .ret env H nx = R (.tuple #[]) H nx := retQ_none rfl

theorem eqp24 (H : AH) (x y : Operand) (a : Option Addr) : binV Tryz.prog H .eql 24 x y (.pointer a) (.pointer none) = some (.bool a.isNone) := eq_ptr (by kernel_rfl)
theorem nep24 (H : AH) (x y : Operand) (a : Option Addr) : binV Tryz.prog H .neq 24 x y (.pointer a) (.pointer none) = some (.bool a.isSome) := ne_ptr (by kernel_rfl)
theorem fa95x0 (H : AH) (b o : Nat) : fieldAV Tryz.prog H 95 0 (.pointer (some ⟨b, o, none⟩)) = some (.pointer (some ⟨b, o + 0, none⟩)) := fieldAV_eq 95 0 b o false 0 0 (by kernel_rfl)
theorem fa95x8 (H : AH) (b o : Nat) : fieldAV Tryz.prog H 95 8 (.pointer (some ⟨b, o, none⟩)) = some (.pointer (some ⟨b, o + 10, none⟩)) := fieldAV_eq 95 8 b o true 3 10 (by kernel_rfl)
theorem fa65x1 (H : AH) (b o : Nat) : fieldAV Tryz.prog H 65 1 (.pointer (some ⟨b, o, none⟩)) = some (.pointer (some ⟨b, o + 1, none⟩)) := fieldAV_eq 65 1 b o false 0 1 (by kernel_rfl)
theorem st3 (lo : Nat) (b o : Nat) (v : Value) (K : AH → Nat → Prop) (H : AH) (nx : Nat) (hv : v.oneCell' = true) : storeQ Tryz.prog lo 3 (.pointer (some ⟨b, o, none⟩)) v K H nx = stQ lo b o v K H nx := store_one (by kernel_rfl) hv
theorem stc3 (lo : Nat) (b o : Nat) (k : IntKind) (n : Int) (K : AH → Nat → Prop) (H : AH) (nx : Nat) : storeQ Tryz.prog lo 3 (.pointer (some ⟨b, o, none⟩)) (.int k n) K H nx = stQ lo b o (.int k n) K H nx := store_one (by kernel_rfl) rfl
theorem fa95x1 (H : AH) (b o : Nat) : fieldAV Tryz.prog H 95 1 (.pointer (some ⟨b, o, none⟩)) = some (.pointer (some ⟨b, o + 1, none⟩)) := fieldAV_eq 95 1 b o false 0 1 (by kernel_rfl)
theorem ld88 (H : AH) (b o : Nat) : loadV Tryz.prog H 88 (.pointer (some ⟨b, o, none⟩)) = H.c b o := load_one (by kernel_rfl)
theorem eqp96 (H : AH) (x y : Operand) (a : Option Addr) : binV Tryz.prog H .eql 96 x y (.pointer a) (.pointer none) = some (.bool a.isNone) := eq_ptr (by kernel_rfl)
theorem nep96 (H : AH) (x y : Operand) (a : Option Addr) : binV Tryz.prog H .neq 96 x y (.pointer a) (.pointer none) = some (.bool a.isSome) := ne_ptr (by kernel_rfl)
theorem fa32x1 (H : AH) (b o : Nat) : fieldAV Tryz.prog H 32 1 (.pointer (some ⟨b, o, none⟩)) = some (.pointer (some ⟨b, o + 1, none⟩)) := fieldAV_eq 32 1 b o false 0 1 (by kernel_rfl)
theorem ld27 (H : AH) (b o : Nat) : loadV Tryz.prog H 27 (.pointer (some ⟨b, o, none⟩)) = H.c b o := load_one (by kernel_rfl)
theorem fa95x4 (H : AH) (b o : Nat) : fieldAV Tryz.prog H 95 4 (.pointer (some ⟨b, o, none⟩)) = some (.pointer (some ⟨b, o + 4, none⟩)) := fieldAV_eq 95 4 b o false 0 4 (by kernel_rfl)
theorem ld91 (H : AH) (b o : Nat) : loadV Tryz.prog H 91 (.pointer (some ⟨b, o, none⟩)) = H.c b o := load_one (by kernel_rfl)
theorem fa32x3 (H : AH) (b o : Nat) : fieldAV Tryz.prog H 32 3 (.pointer (some ⟨b, o, none⟩)) = some (.pointer (some ⟨b, o + 3, none⟩)) := fieldAV_eq 32 3 b o true 1 3 (by kernel_rfl)
theorem fa95x2 (H : AH) (b o : Nat) : fieldAV Tryz.prog H 95 2 (.pointer (some ⟨b, o, none⟩)) = some (.pointer (some ⟨b, o + 2, none⟩)) := fieldAV_eq 95 2 b o false 0 2 (by kernel_rfl)
theorem ld89 (H : AH) (b o : Nat) : loadV Tryz.prog H 89 (.pointer (some ⟨b, o, none⟩)) = H.c b o := load_one (by kernel_rfl)
theorem fa32x4 (H : AH) (b o : Nat) : fieldAV Tryz.prog H 32 4 (.pointer (some ⟨b, o, none⟩)) = some (.pointer (some ⟨b, o + 5, none⟩)) := fieldAV_eq 32 4 b o false 0 5 (by kernel_rfl)
theorem fa65x2 (H : AH) (b o : Nat) : fieldAV Tryz.prog H 65 2 (.pointer (some ⟨b, o, none⟩)) = some (.pointer (some ⟨b, o + 2, none⟩)) := fieldAV_eq 65 2 b o false 0 2 (by kernel_rfl)
/-! 16: milestone/milestonelaw17.update · code of 7 operations -/
def L16 : Nat → List Nat
  | 0 => [0, 1, 2, 6]
  | 1 => [6]
  | _ => []
theorem L16x0 : L16 0 = [0, 1, 2, 6] := (rfl)
theorem L16x1 : L16 1 = [6] := (rfl)
theorem fnOk16 : fnOk Tryz.prog 16 = true := by kernel_rfl
theorem rq16 {R : Value → AH → Nat → Prop} {env : Env} {H : AH} {nx : Nat} : retQ Tryz.prog Tryz.f16 R .ret env H nx = onA (eg env 6) (fun a => onV (loadV Tryz.prog H 32 a) R H nx) := retQ_cell rfl (of_decide_eq_true (by kernel_rfl))

theorem bd32x0x2x3x4x5 (H : AH) (k0x0 : IntKind) (n0x0 : Int) (k2x0 : IntKind) (n2x0 : Int) (v3x0 : Value) (v3x1 : Value) (k4x0 : IntKind) (n4x0 : Int) (k5x0 : IntKind) (n5x0 : Int) : buildV Tryz.prog H 32 #[(0, .int k0x0 n0x0), (2, .int k2x0 n2x0), (3, .agg #[v3x0, v3x1]), (4, .int k4x0 n4x0), (5, .int k5x0 n5x0)] = some (.agg #[.int k0x0 n0x0, (.int .u64 0), .int k2x0 n2x0, v3x0, v3x1, .int k4x0 n4x0, .int k5x0 n5x0]) := build_by (pl := fun i => (#[(0, 1), (1, 1), (2, 1), (3, 2), (5, 1), (6, 1)] : Array (Nat × Nat))[i]?) (by kernel_rfl) zero32 (by simp [Instr.fill, cells_agg, cells_int, cells_bool, cells_slice, cells_ptr, cells_str, cells_map])
/-! 17: (*milestone/engine.Engine).Select · code of 171 operations -/
def L17 : Nat → List Nat
  | 0 => [1]
  | 1 => [1, 18]
  | 2 => [2]
  | 3 => [1, 3]
  | 4 => [1, 3, 4]
  | 5 => [1, 3, 4, 25, 26, 27]
  | 6 => [1, 3, 4, 25, 26, 27, 28]
  | 7 => [1, 3, 4, 6, 25, 26, 27]
  | 8 => [1, 3, 4, 25, 26, 27]
  | 9 => [1, 3, 4, 25, 26, 27]
  | 10 => [1, 3, 4, 7]
  | 11 => [1, 3, 4, 7, 48, 49]
  | 12 => [1, 3, 4, 7, 48, 49, 50]
  | 13 => [1, 3, 4, 7, 8, 48, 49]
  | 14 => [1, 3, 4, 7, 48, 49]
  | 15 => [1, 3, 4, 7, 48, 49]
  | 16 => [1, 3, 4, 68, 69, 70]
  | 17 => [1, 3, 4, 68, 69, 70, 71]
  | 18 => [1, 3, 4, 10, 68, 69, 70]
  | 19 => [1, 3, 4, 68, 69, 70]
  | 20 => [1, 3, 4, 68, 69, 70]
  | 21 => [1, 3]
  | 22 => [1, 3, 86]
  | 23 => [1, 3]
  | 24 => [1, 3, 94, 95, 96]
  | 25 => [1, 3, 94, 95, 96, 97]
  | 26 => [1, 3, 12, 94, 95, 96]
  | 27 => [1, 3, 12, 94, 95, 96, 104]
  | 28 => [1, 3, 94, 95, 96]
  | 29 => [1, 3, 94, 95, 96]
  | 30 => [1, 3]
  | 31 => [1, 3, 131, 132, 133]
  | 32 => [1, 3, 131, 132, 133, 134]
  | 33 => [1, 3, 14, 131, 132, 133]
  | 34 => [1, 3, 14, 15, 16, 131, 132, 133]
  | 35 => [1, 3, 14, 15, 131, 132, 133, 152]
  | 36 => [1, 3, 131, 132, 133]
  | 37 => [1, 3, 131, 132, 133]
  | 38 => [2]
  | _ => []
theorem L17x0 : L17 0 = [1] := (rfl)
theorem L17x1 : L17 1 = [1, 18] := (rfl)
theorem L17x2 : L17 2 = [2] := (rfl)
theorem L17x3 : L17 3 = [1, 3] := (rfl)
theorem L17x4 : L17 4 = [1, 3, 4] := (rfl)
theorem L17x5 : L17 5 = [1, 3, 4, 25, 26, 27] := (rfl)
theorem L17x6 : L17 6 = [1, 3, 4, 25, 26, 27, 28] := (rfl)
theorem L17x7 : L17 7 = [1, 3, 4, 6, 25, 26, 27] := (rfl)
theorem L17x8 : L17 8 = [1, 3, 4, 25, 26, 27] := (rfl)
theorem L17x9 : L17 9 = [1, 3, 4, 25, 26, 27] := (rfl)
theorem L17x10 : L17 10 = [1, 3, 4, 7] := (rfl)
theorem L17x11 : L17 11 = [1, 3, 4, 7, 48, 49] := (rfl)
theorem L17x12 : L17 12 = [1, 3, 4, 7, 48, 49, 50] := (rfl)
theorem L17x13 : L17 13 = [1, 3, 4, 7, 8, 48, 49] := (rfl)
theorem L17x14 : L17 14 = [1, 3, 4, 7, 48, 49] := (rfl)
theorem L17x15 : L17 15 = [1, 3, 4, 7, 48, 49] := (rfl)
theorem L17x16 : L17 16 = [1, 3, 4, 68, 69, 70] := (rfl)
theorem L17x17 : L17 17 = [1, 3, 4, 68, 69, 70, 71] := (rfl)
theorem L17x18 : L17 18 = [1, 3, 4, 10, 68, 69, 70] := (rfl)
theorem L17x19 : L17 19 = [1, 3, 4, 68, 69, 70] := (rfl)
theorem L17x20 : L17 20 = [1, 3, 4, 68, 69, 70] := (rfl)
theorem L17x21 : L17 21 = [1, 3] := (rfl)
theorem L17x22 : L17 22 = [1, 3, 86] := (rfl)
theorem L17x23 : L17 23 = [1, 3] := (rfl)
theorem L17x24 : L17 24 = [1, 3, 94, 95, 96] := (rfl)
theorem L17x25 : L17 25 = [1, 3, 94, 95, 96, 97] := (rfl)
theorem L17x26 : L17 26 = [1, 3, 12, 94, 95, 96] := (rfl)
theorem L17x27 : L17 27 = [1, 3, 12, 94, 95, 96, 104] := (rfl)
theorem L17x28 : L17 28 = [1, 3, 94, 95, 96] := (rfl)
theorem L17x29 : L17 29 = [1, 3, 94, 95, 96] := (rfl)
theorem L17x30 : L17 30 = [1, 3] := (rfl)
theorem L17x31 : L17 31 = [1, 3, 131, 132, 133] := (rfl)
theorem L17x32 : L17 32 = [1, 3, 131, 132, 133, 134] := (rfl)
theorem L17x33 : L17 33 = [1, 3, 14, 131, 132, 133] := (rfl)
theorem L17x34 : L17 34 = [1, 3, 14, 15, 16, 131, 132, 133] := (rfl)
theorem L17x35 : L17 35 = [1, 3, 14, 15, 131, 132, 133, 152] := (rfl)
theorem L17x36 : L17 36 = [1, 3, 131, 132, 133] := (rfl)
theorem L17x37 : L17 37 = [1, 3, 131, 132, 133] := (rfl)
theorem L17x38 : L17 38 = [2] := (rfl)
def ord17x8 : List Nat := [0, 1, 2, 3, 4, 5, 6, 7, 8, 9, 10, 11, 12, 13]
def ord17x16 : List Nat := [0, 1, 2, 3, 4, 5, 6, 7, 8, 11, 9, 10]
def ord17x22 : List Nat := [0, 1, 2, 3, 4, 5, 6]
def ord17x28 : List Nat := [0, 1, 2, 3, 4, 5, 6, 7, 8, 9, 10, 11, 12, 13]
def ord17x31 : List Nat := [0, 1, 2, 3, 4, 5, 6, 7, 10, 8, 9]
def ord17x34 : List Nat := [0, 1, 2, 3, 4, 5, 6, 7, 8, 9, 10]
theorem fnOk17 : fnOk Tryz.prog 17 = true := by kernel_rfl
theorem rq17 {R : Value → AH → Nat → Prop} {env : Env} {H : AH} {nx : Nat} : retQ Tryz.prog Tryz.f17 R .ret env H nx = onV (eg env 2) R H nx := retQ_one rfl (of_decide_eq_true (by kernel_rfl))

theorem ld24 (H : AH) (b o : Nat) : loadV Tryz.prog H 24 (.pointer (some ⟨b, o, none⟩)) = H.c b o := load_one (by kernel_rfl)
theorem zero37 : zeroT Tryz.prog 37 = some (.slice none 0 0) := by kernel_rfl
theorem al37 (lo : Nat) (K : Value → AH → Nat → Prop) (H : AH) (nx : Nat) : allocQ Tryz.prog lo 37 K H nx = newQ 37 ((.slice none 0 0) : Value).cells K H nx := alloc_new zero37
theorem al30 (lo : Nat) (K : Value → AH → Nat → Prop) (H : AH) (nx : Nat) : allocQ Tryz.prog lo 30 K H nx = newQ 30 ((.agg #[(.int .u32 0), (.int .u8 0)]) : Value).cells K H nx := alloc_new zero30
theorem st30 (lo : Nat) (b o : Nat) (v0 v1 : Value) (K : AH → Nat → Prop) (H : AH) (nx : Nat) : storeQ Tryz.prog lo 30 (.pointer (some ⟨b, o, none⟩)) (.agg #[v0, v1]) K H nx = stsQ lo b o [v0, v1] K H nx := store_agg (n := 2) (by kernel_rfl) (by decide) rfl
theorem bd40x0x1x3 (H : AH) (v0x0 : Value) (v0x1 : Value) (k1x0 : IntKind) (n1x0 : Int) (k3x0 : IntKind) (n3x0 : Int) : buildV Tryz.prog H 40 #[(0, .agg #[v0x0, v0x1]), (1, .int k1x0 n1x0), (3, .int k3x0 n3x0)] = some (.agg #[v0x0, v0x1, .int k1x0 n1x0, (.int .u16 0), .int k3x0 n3x0]) := build_by (pl := fun i => (#[(0, 2), (2, 1), (3, 1), (4, 1)] : Array (Nat × Nat))[i]?) (by kernel_rfl) zero40 (by simp [Instr.fill, cells_agg, cells_int, cells_bool, cells_slice, cells_ptr, cells_str, cells_map])
theorem len111 (H : AH) (ty : TypeId) (a : Option Addr) (n c : Nat) : lenV Tryz.prog H #[111] ty #[.slice a n c] = some (.int .i64 n) := lenV_slice 111 22 ty 1 a n c (by kernel_rfl)
theorem ia111 (H : AH) (n b o c : Nat) (kk : IntKind) (i : Int) (h0 : 0 ≤ i) (h1 : i < n) : indexAV Tryz.prog H 111 (.slice (some ⟨b, o, none⟩) n c) (.int kk i) = some (.pointer (some ⟨b, o + i.toNat * 1, none⟩)) := indexAV_slice 111 22 n 1 b o c kk i (by kernel_rfl) h0 h1
theorem fa95x3 (H : AH) (b o : Nat) : fieldAV Tryz.prog H 95 3 (.pointer (some ⟨b, o, none⟩)) = some (.pointer (some ⟨b, o + 3, none⟩)) := fieldAV_eq 95 3 b o false 0 3 (by kernel_rfl)
theorem ld90 (H : AH) (b o : Nat) : loadV Tryz.prog H 90 (.pointer (some ⟨b, o, none⟩)) = H.c b o := load_one (by kernel_rfl)
theorem ld37 (H : AH) (b o : Nat) : loadV Tryz.prog H 37 (.pointer (some ⟨b, o, none⟩)) = H.c b o := load_one (by kernel_rfl)
theorem fa95x5 (H : AH) (b o : Nat) : fieldAV Tryz.prog H 95 5 (.pointer (some ⟨b, o, none⟩)) = some (.pointer (some ⟨b, o + 5, none⟩)) := fieldAV_eq 95 5 b o false 0 5 (by kernel_rfl)
theorem fa95x7 (H : AH) (b o : Nat) : fieldAV Tryz.prog H 95 7 (.pointer (some ⟨b, o, none⟩)) = some (.pointer (some ⟨b, o + 7, none⟩)) := fieldAV_eq 95 7 b o true 2 7 (by kernel_rfl)
theorem fa93x2 (H : AH) (b o : Nat) : fieldAV Tryz.prog H 93 2 (.pointer (some ⟨b, o, none⟩)) = some (.pointer (some ⟨b, o + 2, none⟩)) := fieldAV_eq 93 2 b o false 0 2 (by kernel_rfl)
theorem fa93x0 (H : AH) (b o : Nat) : fieldAV Tryz.prog H 93 0 (.pointer (some ⟨b, o, none⟩)) = some (.pointer (some ⟨b, o + 0, none⟩)) := fieldAV_eq 93 0 b o false 0 0 (by kernel_rfl)
theorem ld46 (H : AH) (b o : Nat) : loadV Tryz.prog H 46 (.pointer (some ⟨b, o, none⟩)) = H.c b o := load_one (by kernel_rfl)
theorem st46 (lo : Nat) (b o : Nat) (v : Value) (K : AH → Nat → Prop) (H : AH) (nx : Nat) (hv : v.oneCell' = true) : storeQ Tryz.prog lo 46 (.pointer (some ⟨b, o, none⟩)) v K H nx = stQ lo b o v K H nx := store_one (by kernel_rfl) hv
theorem stc46 (lo : Nat) (b o : Nat) (a : Option Addr) (n c : Nat) (K : AH → Nat → Prop) (H : AH) (nx : Nat) : storeQ Tryz.prog lo 46 (.pointer (some ⟨b, o, none⟩)) (.slice a n c) K H nx = stQ lo b o (.slice a n c) K H nx := store_one (by kernel_rfl) rfl
theorem st37 (lo : Nat) (b o : Nat) (v : Value) (K : AH → Nat → Prop) (H : AH) (nx : Nat) (hv : v.oneCell' = true) : storeQ Tryz.prog lo 37 (.pointer (some ⟨b, o, none⟩)) v K H nx = stQ lo b o v K H nx := store_one (by kernel_rfl) hv
theorem stc37 (lo : Nat) (b o : Nat) (a : Option Addr) (n c : Nat) (K : AH → Nat → Prop) (H : AH) (nx : Nat) : storeQ Tryz.prog lo 37 (.pointer (some ⟨b, o, none⟩)) (.slice a n c) K H nx = stQ lo b o (.slice a n c) K H nx := store_one (by kernel_rfl) rfl
/-! 18: (*milestone/engine.Engine).Route · code of 24 operations -/
def L18 : Nat → List Nat
  | 0 => [0, 3, 4]
  | 1 => [3, 4, 9, 10, 11]
  | 2 => [3, 4, 9, 10, 11, 12]
  | 3 => [3, 4, 7, 9, 10, 11]
  | 4 => [3, 4, 7, 9, 10, 11, 18]
  | 5 => [4, 5]
  | 6 => [3, 4, 9, 10, 11]
  | 7 => [4, 5]
  | _ => []
theorem L18x0 : L18 0 = [0, 3, 4] := (rfl)
theorem L18x1 : L18 1 = [3, 4, 9, 10, 11] := (rfl)
theorem L18x2 : L18 2 = [3, 4, 9, 10, 11, 12] := (rfl)
theorem L18x3 : L18 3 = [3, 4, 7, 9, 10, 11] := (rfl)
theorem L18x4 : L18 4 = [3, 4, 7, 9, 10, 11, 18] := (rfl)
theorem L18x5 : L18 5 = [4, 5] := (rfl)
theorem L18x6 : L18 6 = [3, 4, 9, 10, 11] := (rfl)
theorem L18x7 : L18 7 = [4, 5] := (rfl)
theorem fnOk18 : fnOk Tryz.prog 18 = true := by kernel_rfl
theorem rq18 {R : Value → AH → Nat → Prop} {env : Env} {H : AH} {nx : Nat} : retQ Tryz.prog Tryz.f18 R .ret env H nx = onA (eg env 4) (fun a => onA (loadV Tryz.prog H 40 a) fun v => onA (eg env 5) fun u => R (.tuple #[v, u]) H nx) := retQ_cell_tmp rfl (of_decide_eq_true (by kernel_rfl)) (of_decide_eq_true (by kernel_rfl))

theorem bd0x40 (H : AH) : buildV Tryz.prog H 40 #[] = some (.agg #[(.int .u32 0), (.int .u8 0), (.int .i64 0), (.int .u16 0), (.int .u16 0)]) := build_zero (by kernel_rfl) zero40
/-! 19: milestone/milestoneref07.Prefix · code of 19 operations -/
def L19 : Nat → List Nat
  | 0 => [0, 2]
  | 1 => [2]
  | _ => []
theorem L19x0 : L19 0 = [0, 2] := (rfl)
theorem L19x1 : L19 1 = [2] := (rfl)
theorem fnOk19 : fnOk Tryz.prog 19 = true := by kernel_rfl
theorem rq19 {R : Value → AH → Nat → Prop} {env : Env} {H : AH} {nx : Nat} : retQ Tryz.prog Tryz.f19 R .ret env H nx = onA (eg env 2) (fun a => onV (loadV Tryz.prog H 30 a) R H nx) := retQ_cell rfl (of_decide_eq_true (by kernel_rfl))

theorem cv5x28 (lo : Nat) (k' : IntKind) (n : Int) (K : Value → AH → Nat → Prop) (H : AH) (nx : Nat) : convQ Tryz.prog lo 5 28 (.int k' n) K H nx = K (.int .u32 (IntKind.wrap .u32 n)) H nx := convQ_int (by kernel_rfl) (by kernel_rfl)
theorem cx5x28 (k' : IntKind) (n : Int) (H : AH) : convV Tryz.prog H 5 28 (.int k' n) = some (.int .u32 (IntKind.wrap .u32 n)) := convV_int (by kernel_rfl) (by kernel_rfl)
/-! 20: milestone/milestonelaw17.priced · code of 7 operations -/
def L20 : Nat → List Nat
  | 0 => [0]
  | 1 => [0, 4]
  | 2 => [2]
  | 3 => [2]
  | _ => []
theorem L20x0 : L20 0 = [0] := (rfl)
theorem L20x1 : L20 1 = [0, 4] := (rfl)
theorem L20x2 : L20 2 = [2] := (rfl)
theorem L20x3 : L20 3 = [2] := (rfl)
theorem fnOk20 : fnOk Tryz.prog 20 = true := by kernel_rfl
theorem rq20 {R : Value → AH → Nat → Prop} {env : Env} {H : AH} {nx : Nat} : retQ Tryz.prog Tryz.f20 R .ret env H nx = onV (eg env 2) R H nx := retQ_one rfl (of_decide_eq_true (by kernel_rfl))

/-! 21: milestone/milestonelaw17.own · code of 4 operations -/
def L21 : Nat → List Nat
  | 0 => []
  | 1 => [0]
  | _ => []
theorem L21x0 : L21 0 = [] := (rfl)
theorem L21x1 : L21 1 = [0] := (rfl)
theorem fnOk21 : fnOk Tryz.prog 21 = true := by kernel_rfl
theorem rq21 {R : Value → AH → Nat → Prop} {env : Env} {H : AH} {nx : Nat} : retQ Tryz.prog Tryz.f21 R .ret env H nx = onV (eg env 0) R H nx := retQ_one rfl (of_decide_eq_true (by kernel_rfl))

theorem bd30x0x1 (H : AH) (k0x0 : IntKind) (n0x0 : Int) (k1x0 : IntKind) (n1x0 : Int) : buildV Tryz.prog H 30 #[(0, .int k0x0 n0x0), (1, .int k1x0 n1x0)] = some (.agg #[.int k0x0 n0x0, .int k1x0 n1x0]) := build_by (pl := fun i => (#[(0, 1), (1, 1)] : Array (Nat × Nat))[i]?) (by kernel_rfl) zero30 (by simp [Instr.fill, cells_agg, cells_int, cells_bool, cells_slice, cells_ptr, cells_str, cells_map])
/-! 22: milestone/milestoneref07.First · code of 16 operations -/
def L22 : Nat → List Nat
  | 0 => [1]
  | 1 => [1, 3]
  | 2 => [1, 3, 5]
  | 4 => [1, 3, 12]
  | 5 => [2]
  | 3 => [1, 3]
  | 6 => [2]
  | _ => []
theorem L22x0 : L22 0 = [1] := (rfl)
theorem L22x1 : L22 1 = [1, 3] := (rfl)
theorem L22x2 : L22 2 = [1, 3, 5] := (rfl)
theorem L22x4 : L22 4 = [1, 3, 12] := (rfl)
theorem L22x5 : L22 5 = [2] := (rfl)
theorem L22x3 : L22 3 = [1, 3] := (rfl)
theorem L22x6 : L22 6 = [2] := (rfl)
def ord22x4 : List Nat := [0, 1, 3, 2, 4]
theorem fnOk22 : fnOk Tryz.prog 22 = true := by kernel_rfl
theorem rq22 {R : Value → AH → Nat → Prop} {env : Env} {H : AH} {nx : Nat} : retQ Tryz.prog Tryz.f22 R .ret env H nx = onV (eg env 2) R H nx := retQ_one rfl (of_decide_eq_true (by kernel_rfl))

/-! 23: (*milestone/engine.Engine).Mark · code of 18 operations -/
def L23 : Nat → List Nat
  | 0 => [0, 3, 4]
  | 1 => [0, 3, 4, 7]
  | 2 => [4, 5]
  | 3 => [4, 5]
  | _ => []
theorem L23x0 : L23 0 = [0, 3, 4] := (rfl)
theorem L23x1 : L23 1 = [0, 3, 4, 7] := (rfl)
theorem L23x2 : L23 2 = [4, 5] := (rfl)
theorem L23x3 : L23 3 = [4, 5] := (rfl)
def ord23x3 : List Nat := [0, 1, 2, 3, 4, 5, 6, 7, 8, 9]
theorem fnOk23 : fnOk Tryz.prog 23 = true := by kernel_rfl
theorem rq23 {R : Value → AH → Nat → Prop} {env : Env} {H : AH} {nx : Nat} : retQ Tryz.prog Tryz.f23 R .ret env H nx = onA (eg env 4) (fun a => onA (loadV Tryz.prog H 52 a) fun v => onA (eg env 5) fun u => R (.tuple #[v, u]) H nx) := retQ_cell_tmp rfl (of_decide_eq_true (by kernel_rfl)) (of_decide_eq_true (by kernel_rfl))

theorem bd0x52 (H : AH) : buildV Tryz.prog H 52 #[] = some (.agg #[(.int .u16 0), (.int .u16 0)]) := build_zero (by kernel_rfl) zero52
/-! 24: milestone/milestoneref01.Nearer · code of 20 operations -/
def L24 : Nat → List Nat
  | 0 => [2, 3]
  | 1 => [2, 3, 9]
  | 2 => [4]
  | 3 => [4]
  | _ => []
theorem L24x0 : L24 0 = [2, 3] := (rfl)
theorem L24x1 : L24 1 = [2, 3, 9] := (rfl)
theorem L24x2 : L24 2 = [4] := (rfl)
theorem L24x3 : L24 3 = [4] := (rfl)
theorem fnOk24 : fnOk Tryz.prog 24 = true := by kernel_rfl
theorem rq24 {R : Value → AH → Nat → Prop} {env : Env} {H : AH} {nx : Nat} : retQ Tryz.prog Tryz.f24 R .ret env H nx = onV (eg env 4) R H nx := retQ_one rfl (of_decide_eq_true (by kernel_rfl))

/-! 25: (*milestone/engine.Engine).Bad · code of 12 operations -/
def L25 : Nat → List Nat
  | 0 => [0, 3]
  | 1 => []
  | _ => []
theorem L25x0 : L25 0 = [0, 3] := (rfl)
theorem L25x1 : L25 1 = [] := (rfl)
theorem fnOk25 : fnOk Tryz.prog 25 = true := by kernel_rfl
theorem rq25 {R : Value → AH → Nat → Prop} {env : Env} {H : AH} {nx : Nat} : retQ Tryz.prog Tryz.f25 R .ret env H nx = R (.tuple #[]) H nx := retQ_none rfl

theorem fa65x0 (H : AH) (b o : Nat) : fieldAV Tryz.prog H 65 0 (.pointer (some ⟨b, o, none⟩)) = some (.pointer (some ⟨b, o + 0, none⟩)) := fieldAV_eq 65 0 b o false 0 0 (by kernel_rfl)
/-! 26: milestone/milestoneref07.SameRoutes · code of 26 operations -/
def L26 : Nat → List Nat
  | 0 => [0, 1]
  | 1 => [0, 1, 10]
  | 2 => [4]
  | 3 => [0, 1, 5]
  | 4 => [0, 1, 5, 14]
  | 6 => [0, 1, 5, 25]
  | 7 => [4]
  | 5 => [0, 1, 5]
  | 8 => [4]
  | _ => []
theorem L26x0 : L26 0 = [0, 1] := (rfl)
theorem L26x1 : L26 1 = [0, 1, 10] := (rfl)
theorem L26x2 : L26 2 = [4] := (rfl)
theorem L26x3 : L26 3 = [0, 1, 5] := (rfl)
theorem L26x4 : L26 4 = [0, 1, 5, 14] := (rfl)
theorem L26x6 : L26 6 = [0, 1, 5, 25] := (rfl)
theorem L26x7 : L26 7 = [4] := (rfl)
theorem L26x5 : L26 5 = [0, 1, 5] := (rfl)
theorem L26x8 : L26 8 = [4] := (rfl)
def ord26x6 : List Nat := [0, 1, 2, 3, 4, 5, 6, 7, 8]
theorem fnOk26 : fnOk Tryz.prog 26 = true := by kernel_rfl
theorem rq26 {R : Value → AH → Nat → Prop} {env : Env} {H : AH} {nx : Nat} : retQ Tryz.prog Tryz.f26 R .ret env H nx = onV (eg env 4) R H nx := retQ_one rfl (of_decide_eq_true (by kernel_rfl))

theorem ld65 (H : AH) (b o : Nat) : loadV Tryz.prog H 65 (.pointer (some ⟨b, o, none⟩)) = (loadN H b o 4).map fun l => .agg l.toArray := load_agg (by kernel_rfl) (by kernel_rfl)
/-! 27: (*milestone/engine.Engine).Counts · code of 10 operations -/
def L27 : Nat → List Nat
  | 0 => [0, 2]
  | 1 => [0, 2, 4]
  | 2 => [2]
  | 3 => [2]
  | _ => []
theorem L27x0 : L27 0 = [0, 2] := (rfl)
theorem L27x1 : L27 1 = [0, 2, 4] := (rfl)
theorem L27x2 : L27 2 = [2] := (rfl)
theorem L27x3 : L27 3 = [2] := (rfl)
theorem fnOk27 : fnOk Tryz.prog 27 = true := by kernel_rfl
theorem rq27 {R : Value → AH → Nat → Prop} {env : Env} {H : AH} {nx : Nat} : retQ Tryz.prog Tryz.f27 R .ret env H nx = onA (eg env 2) (fun a => onV (loadV Tryz.prog H 65 a) R H nx) := retQ_cell rfl (of_decide_eq_true (by kernel_rfl))

theorem al65 (lo : Nat) (K : Value → AH → Nat → Prop) (H : AH) (nx : Nat) : allocQ Tryz.prog lo 65 K H nx = newQ 65 ((.agg #[(.int .i64 0), (.int .i64 0), (.int .i64 0), (.int .i64 0)]) : Value).cells K H nx := alloc_new zero65
theorem st65 (lo : Nat) (b o : Nat) (v0 v1 v2 v3 : Value) (K : AH → Nat → Prop) (H : AH) (nx : Nat) : storeQ Tryz.prog lo 65 (.pointer (some ⟨b, o, none⟩)) (.agg #[v0, v1, v2, v3]) K H nx = stsQ lo b o [v0, v1, v2, v3] K H nx := store_agg (n := 4) (by kernel_rfl) (by decide) rfl
/-! 28: (*milestone/engine.Engine).Tell · code of 177 operations -/
def L28 : Nat → List Nat
  | 0 => [0, 1, 2, 6]
  | 1 => [0, 1, 2, 6, 17]
  | 2 => [6, 7]
  | 3 => [0, 1, 2, 6, 8]
  | 4 => [0, 1, 2, 6, 8, 26]
  | 5 => [0, 1, 2, 6, 8]
  | 6 => [0, 1, 2, 6, 8]
  | 7 => [0, 1, 2, 6, 8, 49, 50, 51]
  | 8 => [0, 1, 2, 6, 8, 49, 50, 51, 52]
  | 9 => [0, 1, 2, 6, 8, 10, 49, 50, 51]
  | 10 => [0, 1, 2, 6, 8, 49, 50, 51]
  | 11 => [0, 1, 2, 6, 8, 49, 50, 51]
  | 12 => [0, 2, 6, 8, 79]
  | 13 => [0, 2, 6, 8, 84, 85, 86]
  | 14 => [0, 2, 6, 8, 84, 85, 86, 87]
  | 15 => [0, 2, 6, 8, 12, 84, 85, 86]
  | 16 => [0, 2, 6, 8, 12, 84, 85, 86, 96]
  | 17 => [0, 2, 6, 8, 84, 85, 86]
  | 18 => [0, 2, 6, 8, 84, 85, 86]
  | 19 => [0, 2, 6, 8, 112, 113, 114]
  | 20 => [0, 2, 6, 8, 112, 113, 114, 115]
  | 21 => [0, 2, 6, 8, 14, 112, 113, 114]
  | 22 => [0, 2, 6, 8, 14, 15, 112, 113, 114]
  | 23 => [0, 2, 6, 8, 14, 15, 112, 113, 114, 123]
  | 24 => [0, 2, 6, 8, 14, 15, 112, 113, 114]
  | 25 => [0, 2, 6, 8, 112, 113, 114]
  | 26 => [0, 2, 6, 8, 112, 113, 114]
  | 27 => [0, 6, 8]
  | 28 => [6, 8]
  | 29 => [6, 7]
  | _ => []
theorem L28x0 : L28 0 = [0, 1, 2, 6] := (rfl)
theorem L28x1 : L28 1 = [0, 1, 2, 6, 17] := (rfl)
theorem L28x2 : L28 2 = [6, 7] := (rfl)
theorem L28x3 : L28 3 = [0, 1, 2, 6, 8] := (rfl)
theorem L28x4 : L28 4 = [0, 1, 2, 6, 8, 26] := (rfl)
theorem L28x5 : L28 5 = [0, 1, 2, 6, 8] := (rfl)
theorem L28x6 : L28 6 = [0, 1, 2, 6, 8] := (rfl)
theorem L28x7 : L28 7 = [0, 1, 2, 6, 8, 49, 50, 51] := (rfl)
theorem L28x8 : L28 8 = [0, 1, 2, 6, 8, 49, 50, 51, 52] := (rfl)
theorem L28x9 : L28 9 = [0, 1, 2, 6, 8, 10, 49, 50, 51] := (rfl)
theorem L28x10 : L28 10 = [0, 1, 2, 6, 8, 49, 50, 51] := (rfl)
theorem L28x11 : L28 11 = [0, 1, 2, 6, 8, 49, 50, 51] := (rfl)
theorem L28x12 : L28 12 = [0, 2, 6, 8, 79] := (rfl)
theorem L28x13 : L28 13 = [0, 2, 6, 8, 84, 85, 86] := (rfl)
theorem L28x14 : L28 14 = [0, 2, 6, 8, 84, 85, 86, 87] := (rfl)
theorem L28x15 : L28 15 = [0, 2, 6, 8, 12, 84, 85, 86] := (rfl)
theorem L28x16 : L28 16 = [0, 2, 6, 8, 12, 84, 85, 86, 96] := (rfl)
theorem L28x17 : L28 17 = [0, 2, 6, 8, 84, 85, 86] := (rfl)
theorem L28x18 : L28 18 = [0, 2, 6, 8, 84, 85, 86] := (rfl)
theorem L28x19 : L28 19 = [0, 2, 6, 8, 112, 113, 114] := (rfl)
theorem L28x20 : L28 20 = [0, 2, 6, 8, 112, 113, 114, 115] := (rfl)
theorem L28x21 : L28 21 = [0, 2, 6, 8, 14, 112, 113, 114] := (rfl)
theorem L28x22 : L28 22 = [0, 2, 6, 8, 14, 15, 112, 113, 114] := (rfl)
theorem L28x23 : L28 23 = [0, 2, 6, 8, 14, 15, 112, 113, 114, 123] := (rfl)
theorem L28x24 : L28 24 = [0, 2, 6, 8, 14, 15, 112, 113, 114] := (rfl)
theorem L28x25 : L28 25 = [0, 2, 6, 8, 112, 113, 114] := (rfl)
theorem L28x26 : L28 26 = [0, 2, 6, 8, 112, 113, 114] := (rfl)
theorem L28x27 : L28 27 = [0, 6, 8] := (rfl)
theorem L28x28 : L28 28 = [6, 8] := (rfl)
theorem L28x29 : L28 29 = [6, 7] := (rfl)
def ord28x5 : List Nat := [0, 1, 2, 3, 4, 5, 6, 7, 8, 9, 10]
def ord28x10 : List Nat := [0, 1, 2, 3, 4, 5, 6, 7, 8, 9, 10, 11, 12, 13, 14]
def ord28x16 : List Nat := [0, 1, 2, 3, 4, 5, 6]
def ord28x17 : List Nat := [0, 1, 2, 3, 4, 5, 6, 7, 8, 9, 10, 11]
def ord28x25 : List Nat := [0, 1, 2, 3, 4, 5, 6, 7, 8, 9, 10, 11, 12, 13, 14, 15]
def ord28x28 : List Nat := [0, 1, 2, 3, 4, 5, 6, 7, 8, 9, 10, 11, 12, 13, 14]
def ord28x29 : List Nat := [0, 1, 2, 3, 4, 5, 6]
theorem fnOk28 : fnOk Tryz.prog 28 = true := by kernel_rfl
theorem rq28 {R : Value → AH → Nat → Prop} {env : Env} {H : AH} {nx : Nat} : retQ Tryz.prog Tryz.f28 R .ret env H nx = onA (eg env 6) (fun a => onA (loadV Tryz.prog H 36 a) fun v => onA (eg env 7) fun u => R (.tuple #[v, u]) H nx) := retQ_cell_tmp rfl (of_decide_eq_true (by kernel_rfl)) (of_decide_eq_true (by kernel_rfl))

theorem bd0x36 (H : AH) : buildV Tryz.prog H 36 #[] = some (.agg #[(.int .i64 0), (.slice none 0 0)]) := build_zero (by kernel_rfl) zero36
theorem fa95x6 (H : AH) (b o : Nat) : fieldAV Tryz.prog H 95 6 (.pointer (some ⟨b, o, none⟩)) = some (.pointer (some ⟨b, o + 6, none⟩)) := fieldAV_eq 95 6 b o false 0 6 (by kernel_rfl)
theorem bd32x0x1 (H : AH) (k0x0 : IntKind) (n0x0 : Int) (k1x0 : IntKind) (n1x0 : Int) : buildV Tryz.prog H 32 #[(0, .int k0x0 n0x0), (1, .int k1x0 n1x0)] = some (.agg #[.int k0x0 n0x0, .int k1x0 n1x0, (.int .i64 0), (.int .u32 0), (.int .u8 0), (.int .u16 0), (.int .u16 0)]) := build_by (pl := fun i => (#[(0, 1), (1, 1), (2, 1), (3, 2), (5, 1), (6, 1)] : Array (Nat × Nat))[i]?) (by kernel_rfl) zero32 (by simp [Instr.fill, cells_agg, cells_int, cells_bool, cells_slice, cells_ptr, cells_str, cells_map])
theorem by32 : bytesT Tryz.prog 32 = some 40 := by kernel_rfl
theorem st34 (lo : Nat) (b o : Nat) (v : Value) (K : AH → Nat → Prop) (H : AH) (nx : Nat) (hv : v.oneCell' = true) : storeQ Tryz.prog lo 34 (.pointer (some ⟨b, o, none⟩)) v K H nx = stQ lo b o v K H nx := store_one (by kernel_rfl) hv
theorem stc34 (lo : Nat) (b o : Nat) (a : Option Addr) (n c : Nat) (K : AH → Nat → Prop) (H : AH) (nx : Nat) : storeQ Tryz.prog lo 34 (.pointer (some ⟨b, o, none⟩)) (.slice a n c) K H nx = stQ lo b o (.slice a n c) K H nx := store_one (by kernel_rfl) rfl
theorem st27 (lo : Nat) (b o : Nat) (v : Value) (K : AH → Nat → Prop) (H : AH) (nx : Nat) (hv : v.oneCell' = true) : storeQ Tryz.prog lo 27 (.pointer (some ⟨b, o, none⟩)) v K H nx = stQ lo b o v K H nx := store_one (by kernel_rfl) hv
theorem stc27 (lo : Nat) (b o : Nat) (k : IntKind) (n : Int) (K : AH → Nat → Prop) (H : AH) (nx : Nat) : storeQ Tryz.prog lo 27 (.pointer (some ⟨b, o, none⟩)) (.int k n) K H nx = stQ lo b o (.int k n) K H nx := store_one (by kernel_rfl) rfl
theorem len122 (H : AH) (ty : TypeId) (a : Option Addr) (n c : Nat) : lenV Tryz.prog H #[122] ty #[.slice a n c] = some (.int .i64 n) := lenV_slice 122 3 ty 1 a n c (by kernel_rfl)
theorem ia122 (H : AH) (n b o c : Nat) (kk : IntKind) (i : Int) (h0 : 0 ≤ i) (h1 : i < n) : indexAV Tryz.prog H 122 (.slice (some ⟨b, o, none⟩) n c) (.int kk i) = some (.pointer (some ⟨b, o + i.toNat * 1, none⟩)) := indexAV_slice 122 3 n 1 b o c kk i (by kernel_rfl) h0 h1
theorem bd32x0x2x3x5 (H : AH) (k0x0 : IntKind) (n0x0 : Int) (k2x0 : IntKind) (n2x0 : Int) (v3x0 : Value) (v3x1 : Value) (k5x0 : IntKind) (n5x0 : Int) : buildV Tryz.prog H 32 #[(0, .int k0x0 n0x0), (2, .int k2x0 n2x0), (3, .agg #[v3x0, v3x1]), (5, .int k5x0 n5x0)] = some (.agg #[.int k0x0 n0x0, (.int .u64 0), .int k2x0 n2x0, v3x0, v3x1, (.int .u16 0), .int k5x0 n5x0]) := build_by (pl := fun i => (#[(0, 1), (1, 1), (2, 1), (3, 2), (5, 1), (6, 1)] : Array (Nat × Nat))[i]?) (by kernel_rfl) zero32 (by simp [Instr.fill, cells_agg, cells_int, cells_bool, cells_slice, cells_ptr, cells_str, cells_map])
theorem fa93x1 (H : AH) (b o : Nat) : fieldAV Tryz.prog H 93 1 (.pointer (some ⟨b, o, none⟩)) = some (.pointer (some ⟨b, o + 1, none⟩)) := fieldAV_eq 93 1 b o false 0 1 (by kernel_rfl)
/-! 29: milestone/milestoneref01.Newer · code of 16 operations -/
def L29 : Nat → List Nat
  | 0 => [0, 1]
  | 1 => [5]
  | 2 => [4]
  | _ => []
theorem L29x0 : L29 0 = [0, 1] := (rfl)
theorem L29x1 : L29 1 = [5] := (rfl)
theorem L29x2 : L29 2 = [4] := (rfl)
theorem fnOk29 : fnOk Tryz.prog 29 = true := by kernel_rfl
theorem rq29 {R : Value → AH → Nat → Prop} {env : Env} {H : AH} {nx : Nat} : retQ Tryz.prog Tryz.f29 R .ret env H nx = onV (eg env 4) R H nx := retQ_one rfl (of_decide_eq_true (by kernel_rfl))

/-! 30: milestone/milestonelaw17.hello · code of 11 operations -/
def L30 : Nat → List Nat
  | 0 => [0, 1, 2, 3, 8]
  | 1 => [8]
  | _ => []
theorem L30x0 : L30 0 = [0, 1, 2, 3, 8] := (rfl)
theorem L30x1 : L30 1 = [8] := (rfl)
theorem fnOk30 : fnOk Tryz.prog 30 = true := by kernel_rfl
theorem rq30 {R : Value → AH → Nat → Prop} {env : Env} {H : AH} {nx : Nat} : retQ Tryz.prog Tryz.f30 R .ret env H nx = onA (eg env 8) (fun a => onV (loadV Tryz.prog H 36 a) R H nx) := retQ_cell rfl (of_decide_eq_true (by kernel_rfl))

/-! 31: (*milestone/engine.Engine).Tick · code of 41 operations -/
def L31 : Nat → List Nat
  | 0 => [0, 1, 8]
  | 1 => [0, 1, 14, 15, 16]
  | 2 => [0, 1, 14, 15, 16, 17]
  | 3 => [0, 1, 5, 14, 15, 16]
  | 4 => [0, 1, 5, 6, 14, 15, 16]
  | 5 => [0, 1, 5, 6, 14, 15, 16]
  | 6 => [0, 1, 5, 14, 15, 16, 31]
  | 7 => [0, 1, 14, 15, 16]
  | 8 => [0, 1, 14, 15, 16]
  | 9 => []
  | _ => []
theorem L31x0 : L31 0 = [0, 1, 8] := (rfl)
theorem L31x1 : L31 1 = [0, 1, 14, 15, 16] := (rfl)
theorem L31x2 : L31 2 = [0, 1, 14, 15, 16, 17] := (rfl)
theorem L31x3 : L31 3 = [0, 1, 5, 14, 15, 16] := (rfl)
theorem L31x4 : L31 4 = [0, 1, 5, 6, 14, 15, 16] := (rfl)
theorem L31x5 : L31 5 = [0, 1, 5, 6, 14, 15, 16] := (rfl)
theorem L31x6 : L31 6 = [0, 1, 5, 14, 15, 16, 31] := (rfl)
theorem L31x7 : L31 7 = [0, 1, 14, 15, 16] := (rfl)
theorem L31x8 : L31 8 = [0, 1, 14, 15, 16] := (rfl)
theorem L31x9 : L31 9 = [] := (rfl)
theorem fnOk31 : fnOk Tryz.prog 31 = true := by kernel_rfl
theorem rq31 {R : Value → AH → Nat → Prop} {env : Env} {H : AH} {nx : Nat} : retQ Tryz.prog Tryz.f31 R .ret env H nx = R (.tuple #[]) H nx := retQ_none rfl

/-! 32: (*milestone/engine.Engine).Links · code of 31 operations -/
def L32 : Nat → List Nat
  | 0 => [0]
  | 1 => [0, 3]
  | 2 => [0, 3, 7]
  | 3 => [2]
  | 4 => [0, 3, 14, 15, 16]
  | 5 => [0, 3, 14, 15, 16, 17]
  | 6 => [0, 3, 5, 14, 15, 16]
  | 7 => [0, 3, 14, 15, 16]
  | 8 => [0, 3, 14, 15, 16]
  | 9 => [2]
  | _ => []
theorem L32x0 : L32 0 = [0] := (rfl)
theorem L32x1 : L32 1 = [0, 3] := (rfl)
theorem L32x2 : L32 2 = [0, 3, 7] := (rfl)
theorem L32x3 : L32 3 = [2] := (rfl)
theorem L32x4 : L32 4 = [0, 3, 14, 15, 16] := (rfl)
theorem L32x5 : L32 5 = [0, 3, 14, 15, 16, 17] := (rfl)
theorem L32x6 : L32 6 = [0, 3, 5, 14, 15, 16] := (rfl)
theorem L32x7 : L32 7 = [0, 3, 14, 15, 16] := (rfl)
theorem L32x8 : L32 8 = [0, 3, 14, 15, 16] := (rfl)
theorem L32x9 : L32 9 = [2] := (rfl)
theorem fnOk32 : fnOk Tryz.prog 32 = true := by kernel_rfl
theorem rq32 {R : Value → AH → Nat → Prop} {env : Env} {H : AH} {nx : Nat} : retQ Tryz.prog Tryz.f32 R .ret env H nx = onV (eg env 2) R H nx := retQ_one rfl (of_decide_eq_true (by kernel_rfl))

/-! 33: milestone/milestoneref07.Rows · code of 33 operations -/
def L33 : Nat → List Nat
  | 0 => [0]
  | 1 => [0, 3]
  | 2 => [0, 3, 4]
  | 3 => [0, 3, 4, 5]
  | 4 => [0, 3, 4, 5, 13]
  | 6 => [0, 3, 4, 5, 6, 7]
  | 7 => [0, 3, 4, 5, 6, 25]
  | 8 => [0, 3, 4, 5]
  | 5 => [0, 3, 4, 5]
  | 9 => [2]
  | _ => []
theorem L33x0 : L33 0 = [0] := (rfl)
theorem L33x1 : L33 1 = [0, 3] := (rfl)
theorem L33x2 : L33 2 = [0, 3, 4] := (rfl)
theorem L33x3 : L33 3 = [0, 3, 4, 5] := (rfl)
theorem L33x4 : L33 4 = [0, 3, 4, 5, 13] := (rfl)
theorem L33x6 : L33 6 = [0, 3, 4, 5, 6, 7] := (rfl)
theorem L33x7 : L33 7 = [0, 3, 4, 5, 6, 25] := (rfl)
theorem L33x8 : L33 8 = [0, 3, 4, 5] := (rfl)
theorem L33x5 : L33 5 = [0, 3, 4, 5] := (rfl)
theorem L33x9 : L33 9 = [2] := (rfl)
theorem fnOk33 : fnOk Tryz.prog 33 = true := by kernel_rfl
theorem rq33 {R : Value → AH → Nat → Prop} {env : Env} {H : AH} {nx : Nat} : retQ Tryz.prog Tryz.f33 R .ret env H nx = onV (eg env 2) R H nx := retQ_one rfl (of_decide_eq_true (by kernel_rfl))

theorem al71 (lo : Nat) (K : Value → AH → Nat → Prop) (H : AH) (nx : Nat) : allocQ Tryz.prog lo 71 K H nx = newQ 71 ((.agg #[(.int .u32 0), (.int .u8 0), (.bool false), (.int .u32 0), (.int .u8 0), (.int .i64 0), (.int .u16 0), (.int .u16 0), (.int .u16 0), (.int .u16 0)]) : Value).cells K H nx := alloc_new zero71
theorem st71 (lo : Nat) (b o : Nat) (v0 v1 v2 v3 v4 v5 v6 v7 v8 v9 : Value) (K : AH → Nat → Prop) (H : AH) (nx : Nat) : storeQ Tryz.prog lo 71 (.pointer (some ⟨b, o, none⟩)) (.agg #[v0, v1, v2, v3, v4, v5, v6, v7, v8, v9]) K H nx = stsQ lo b o [v0, v1, v2, v3, v4, v5, v6, v7, v8, v9] K H nx := store_agg (n := 10) (by kernel_rfl) (by decide) rfl
theorem ld71 (H : AH) (b o : Nat) : loadV Tryz.prog H 71 (.pointer (some ⟨b, o, none⟩)) = (loadN H b o 10).map fun l => .agg l.toArray := load_agg (by kernel_rfl) (by kernel_rfl)
theorem by71 : bytesT Tryz.prog 71 = some 48 := by kernel_rfl
/-! 34: milestone/milestoneref07.History · code of 91 operations -/
def L34 : Nat → List Nat
  | 0 => [0]
  | 1 => [0, 3]
  | 2 => [0, 3, 4]
  | 3 => [0, 3, 4, 5]
  | 4 => [0, 3, 4, 5, 18]
  | 6 => [0, 3, 4, 5, 6]
  | 7 => [0, 3, 4, 5, 6]
  | 8 => [0, 3, 4, 5, 6, 7]
  | 9 => [0, 3, 4, 5, 6, 7, 8]
  | 10 => [0, 3, 4, 5, 6, 7, 8, 9, 10]
  | 11 => [0, 3, 4, 5, 6, 7, 8, 56]
  | 12 => [0, 3, 4, 5, 7, 8]
  | 13 => [0, 3, 4, 5, 7]
  | 14 => [0, 3, 4, 5, 7]
  | 15 => [0, 3, 4, 5]
  | 5 => [0, 3, 4, 5]
  | 16 => [2]
  | _ => []
theorem L34x0 : L34 0 = [0] := (rfl)
theorem L34x1 : L34 1 = [0, 3] := (rfl)
theorem L34x2 : L34 2 = [0, 3, 4] := (rfl)
theorem L34x3 : L34 3 = [0, 3, 4, 5] := (rfl)
theorem L34x4 : L34 4 = [0, 3, 4, 5, 18] := (rfl)
theorem L34x6 : L34 6 = [0, 3, 4, 5, 6] := (rfl)
theorem L34x7 : L34 7 = [0, 3, 4, 5, 6] := (rfl)
theorem L34x8 : L34 8 = [0, 3, 4, 5, 6, 7] := (rfl)
theorem L34x9 : L34 9 = [0, 3, 4, 5, 6, 7, 8] := (rfl)
theorem L34x10 : L34 10 = [0, 3, 4, 5, 6, 7, 8, 9, 10] := (rfl)
theorem L34x11 : L34 11 = [0, 3, 4, 5, 6, 7, 8, 56] := (rfl)
theorem L34x12 : L34 12 = [0, 3, 4, 5, 7, 8] := (rfl)
theorem L34x13 : L34 13 = [0, 3, 4, 5, 7] := (rfl)
theorem L34x14 : L34 14 = [0, 3, 4, 5, 7] := (rfl)
theorem L34x15 : L34 15 = [0, 3, 4, 5] := (rfl)
theorem L34x5 : L34 5 = [0, 3, 4, 5] := (rfl)
theorem L34x16 : L34 16 = [2] := (rfl)
theorem fnOk34 : fnOk Tryz.prog 34 = true := by kernel_rfl
theorem rq34 {R : Value → AH → Nat → Prop} {env : Env} {H : AH} {nx : Nat} : retQ Tryz.prog Tryz.f34 R .ret env H nx = onV (eg env 2) R H nx := retQ_one rfl (of_decide_eq_true (by kernel_rfl))

theorem len82 (H : AH) (ty : TypeId) (a : Option Addr) (n c : Nat) : lenV Tryz.prog H #[82] ty #[.slice a n c] = some (.int .i64 n) := lenV_slice 82 134 ty 8 a n c (by kernel_rfl)
theorem cv3x27 (lo : Nat) (k' : IntKind) (n : Int) (K : Value → AH → Nat → Prop) (H : AH) (nx : Nat) : convQ Tryz.prog lo 3 27 (.int k' n) K H nx = K (.int .u64 (IntKind.wrap .u64 n)) H nx := convQ_int (by kernel_rfl) (by kernel_rfl)
theorem cx3x27 (k' : IntKind) (n : Int) (H : AH) : convV Tryz.prog H 3 27 (.int k' n) = some (.int .u64 (IntKind.wrap .u64 n)) := convV_int (by kernel_rfl) (by kernel_rfl)
theorem zero134 : zeroT Tryz.prog 134 = some (.agg #[(.int .u64 0), (.int .u64 0), (.bool false), (.int .u32 0), (.int .u8 0), (.int .i64 0), (.int .u16 0), (.int .u16 0)]) := by kernel_rfl
theorem bd134x0x1 (H : AH) (k0x0 : IntKind) (n0x0 : Int) (k1x0 : IntKind) (n1x0 : Int) : buildV Tryz.prog H 134 #[(0, .int k0x0 n0x0), (1, .int k1x0 n1x0)] = some (.agg #[.int k0x0 n0x0, .int k1x0 n1x0, (.bool false), (.int .u32 0), (.int .u8 0), (.int .i64 0), (.int .u16 0), (.int .u16 0)]) := build_by (pl := fun i => (#[(0, 1), (1, 1), (2, 1), (3, 5)] : Array (Nat × Nat))[i]?) (by kernel_rfl) zero134 (by simp [Instr.fill, cells_agg, cells_int, cells_bool, cells_slice, cells_ptr, cells_str, cells_map])
theorem al134 (lo : Nat) (K : Value → AH → Nat → Prop) (H : AH) (nx : Nat) : allocQ Tryz.prog lo 134 K H nx = newQ 134 ((.agg #[(.int .u64 0), (.int .u64 0), (.bool false), (.int .u32 0), (.int .u8 0), (.int .i64 0), (.int .u16 0), (.int .u16 0)]) : Value).cells K H nx := alloc_new zero134
theorem st134 (lo : Nat) (b o : Nat) (v0 v1 v2 v3 v4 v5 v6 v7 : Value) (K : AH → Nat → Prop) (H : AH) (nx : Nat) : storeQ Tryz.prog lo 134 (.pointer (some ⟨b, o, none⟩)) (.agg #[v0, v1, v2, v3, v4, v5, v6, v7]) K H nx = stsQ lo b o [v0, v1, v2, v3, v4, v5, v6, v7] K H nx := store_agg (n := 8) (by kernel_rfl) (by decide) rfl
theorem fa71x1 (H : AH) (b o : Nat) : fieldAV Tryz.prog H 71 1 (.pointer (some ⟨b, o, none⟩)) = some (.pointer (some ⟨b, o + 2, none⟩)) := fieldAV_eq 71 1 b o false 0 2 (by kernel_rfl)
theorem fa134x2 (H : AH) (b o : Nat) : fieldAV Tryz.prog H 134 2 (.pointer (some ⟨b, o, none⟩)) = some (.pointer (some ⟨b, o + 2, none⟩)) := fieldAV_eq 134 2 b o false 0 2 (by kernel_rfl)
theorem bd40x0 (H : AH) (v0x0 : Value) (v0x1 : Value) : buildV Tryz.prog H 40 #[(0, .agg #[v0x0, v0x1])] = some (.agg #[v0x0, v0x1, (.int .i64 0), (.int .u16 0), (.int .u16 0)]) := build_by (pl := fun i => (#[(0, 2), (2, 1), (3, 1), (4, 1)] : Array (Nat × Nat))[i]?) (by kernel_rfl) zero40 (by simp [Instr.fill, cells_agg, cells_int, cells_bool, cells_slice, cells_ptr, cells_str, cells_map])
theorem fa134x3 (H : AH) (b o : Nat) : fieldAV Tryz.prog H 134 3 (.pointer (some ⟨b, o, none⟩)) = some (.pointer (some ⟨b, o + 3, none⟩)) := fieldAV_eq 134 3 b o true 4 3 (by kernel_rfl)
theorem ld134 (H : AH) (b o : Nat) : loadV Tryz.prog H 134 (.pointer (some ⟨b, o, none⟩)) = (loadN H b o 8).map fun l => .agg l.toArray := load_agg (by kernel_rfl) (by kernel_rfl)
theorem sl82 : slT Tryz.prog 82 = some (134, 8) := by kernel_rfl
theorem by134 : bytesT Tryz.prog 134 = some 48 := by kernel_rfl
/-! 35: milestone/engine.New · code of 69 operations -/
def L35 : Nat → List Nat
  | 0 => [0, 1, 2]
  | 1 => [1, 7]
  | 2 => [7, 23, 24, 25]
  | 3 => [7, 23, 24, 25, 26]
  | 4 => [7, 9, 23, 24, 25]
  | 5 => [7, 9, 11, 23, 24, 25]
  | 6 => [7, 9, 23, 24, 25, 51]
  | 7 => [7, 9, 12, 13, 23, 24, 25]
  | 8 => [7, 9, 12, 23, 24, 25, 62]
  | 9 => [7, 9, 12, 23, 24, 25]
  | 10 => [7, 23, 24, 25]
  | 11 => [7, 23, 24, 25]
  | 12 => [6]
  | _ => []
theorem L35x0 : L35 0 = [0, 1, 2] := (rfl)
theorem L35x1 : L35 1 = [1, 7] := (rfl)
theorem L35x2 : L35 2 = [7, 23, 24, 25] := (rfl)
theorem L35x3 : L35 3 = [7, 23, 24, 25, 26] := (rfl)
theorem L35x4 : L35 4 = [7, 9, 23, 24, 25] := (rfl)
theorem L35x5 : L35 5 = [7, 9, 11, 23, 24, 25] := (rfl)
theorem L35x6 : L35 6 = [7, 9, 23, 24, 25, 51] := (rfl)
theorem L35x7 : L35 7 = [7, 9, 12, 13, 23, 24, 25] := (rfl)
theorem L35x8 : L35 8 = [7, 9, 12, 23, 24, 25, 62] := (rfl)
theorem L35x9 : L35 9 = [7, 9, 12, 23, 24, 25] := (rfl)
theorem L35x10 : L35 10 = [7, 23, 24, 25] := (rfl)
theorem L35x11 : L35 11 = [7, 23, 24, 25] := (rfl)
theorem L35x12 : L35 12 = [6] := (rfl)
def ord35x5 : List Nat := [0, 1, 2, 3, 4, 5, 6, 7, 8, 9, 10]
def ord35x7 : List Nat := [0, 1, 2, 3, 4, 5, 6, 7, 8, 9, 10]
def ord35x10 : List Nat := [0, 1, 2, 3, 4, 5, 6]
theorem fnOk35 : fnOk Tryz.prog 35 = true := by kernel_rfl
theorem rq35 {R : Value → AH → Nat → Prop} {env : Env} {H : AH} {nx : Nat} : retQ Tryz.prog Tryz.f35 R .ret env H nx = onV (eg env 6) R H nx := retQ_one rfl (of_decide_eq_true (by kernel_rfl))

theorem zero93 : zeroT Tryz.prog 93 = some (.agg #[(.slice none 0 0), (.slice none 0 0), (.bool false)]) := by kernel_rfl
theorem bd93x2 (H : AH) (b2x0 : Bool) : buildV Tryz.prog H 93 #[(2, .bool b2x0)] = some (.agg #[(.slice none 0 0), (.slice none 0 0), .bool b2x0]) := build_by (pl := fun i => (#[(0, 1), (1, 1), (2, 1)] : Array (Nat × Nat))[i]?) (by kernel_rfl) zero93 (by simp [Instr.fill, cells_agg, cells_int, cells_bool, cells_slice, cells_ptr, cells_str, cells_map])
theorem zero95 : zeroT Tryz.prog 95 = some (.agg #[(.int .i64 0), (.map none), (.pointer none), (.pointer none), (.map none), (.slice none 0 0), (.int .u64 0), (.slice none 0 0), (.slice none 0 0), (.bool false), (.int .i64 0), (.int .i64 0), (.int .i64 0), (.int .i64 0)]) := by kernel_rfl
theorem bd95x0x1x2x3x4x7 (H : AH) (k0x0 : IntKind) (n0x0 : Int) (m1x0 : Option Nat) (a2x0 : Option Addr) (a3x0 : Option Addr) (m4x0 : Option Nat) (v7x0 : Value) (v7x1 : Value) (v7x2 : Value) : buildV Tryz.prog H 95 #[(0, .int k0x0 n0x0), (1, .map m1x0), (2, .pointer a2x0), (3, .pointer a3x0), (4, .map m4x0), (7, .agg #[v7x0, v7x1, v7x2])] = some (.agg #[.int k0x0 n0x0, .map m1x0, .pointer a2x0, .pointer a3x0, .map m4x0, (.slice none 0 0), (.int .u64 0), v7x0, v7x1, v7x2, (.int .i64 0), (.int .i64 0), (.int .i64 0), (.int .i64 0)]) := build_by (pl := fun i => (#[(0, 1), (1, 1), (2, 1), (3, 1), (4, 1), (5, 1), (6, 1), (7, 3), (10, 4)] : Array (Nat × Nat))[i]?) (by kernel_rfl) zero95 (by simp [Instr.fill, cells_agg, cells_int, cells_bool, cells_slice, cells_ptr, cells_str, cells_map])
-- len 91: odd
/-! 36: milestone/milestoneref01.Right · code of 21 operations -/
def L36 : Nat → List Nat
  | 0 => [1]
  | 1 => [1, 6]
  | 2 => [2]
  | 3 => [1, 3]
  | 4 => [1, 3, 11]
  | 6 => [1, 3, 17]
  | 7 => [2]
  | 5 => [1, 3]
  | 8 => [2]
  | _ => []
theorem L36x0 : L36 0 = [1] := (rfl)
theorem L36x1 : L36 1 = [1, 6] := (rfl)
theorem L36x2 : L36 2 = [2] := (rfl)
theorem L36x3 : L36 3 = [1, 3] := (rfl)
theorem L36x4 : L36 4 = [1, 3, 11] := (rfl)
theorem L36x6 : L36 6 = [1, 3, 17] := (rfl)
theorem L36x7 : L36 7 = [2] := (rfl)
theorem L36x5 : L36 5 = [1, 3] := (rfl)
theorem L36x8 : L36 8 = [2] := (rfl)
theorem fnOk36 : fnOk Tryz.prog 36 = true := by kernel_rfl
theorem rq36 {R : Value → AH → Nat → Prop} {env : Env} {H : AH} {nx : Nat} : retQ Tryz.prog Tryz.f36 R .ret env H nx = onV (eg env 2) R H nx := retQ_one rfl (of_decide_eq_true (by kernel_rfl))

theorem fa30x1 (H : AH) (b o : Nat) : fieldAV Tryz.prog H 30 1 (.pointer (some ⟨b, o, none⟩)) = some (.pointer (some ⟨b, o + 1, none⟩)) := fieldAV_eq 30 1 b o false 0 1 (by kernel_rfl)
/-! 37: (*milestone/engine.Engine).Id · code of 9 operations -/
def L37 : Nat → List Nat
  | 0 => [0]
  | 1 => [0, 4]
  | 2 => [2]
  | 3 => [2]
  | _ => []
theorem L37x0 : L37 0 = [0] := (rfl)
theorem L37x1 : L37 1 = [0, 4] := (rfl)
theorem L37x2 : L37 2 = [2] := (rfl)
theorem L37x3 : L37 3 = [2] := (rfl)
theorem fnOk37 : fnOk Tryz.prog 37 = true := by kernel_rfl
theorem rq37 {R : Value → AH → Nat → Prop} {env : Env} {H : AH} {nx : Nat} : retQ Tryz.prog Tryz.f37 R .ret env H nx = onV (eg env 2) R H nx := retQ_one rfl (of_decide_eq_true (by kernel_rfl))

/-! 38: (*milestone/engine.Engine).Chosen · code of 10 operations -/
def L38 : Nat → List Nat
  | 0 => [0]
  | 1 => [0, 4]
  | 2 => [2]
  | 3 => [2]
  | _ => []
theorem L38x0 : L38 0 = [0] := (rfl)
theorem L38x1 : L38 1 = [0, 4] := (rfl)
theorem L38x2 : L38 2 = [2] := (rfl)
theorem L38x3 : L38 3 = [2] := (rfl)
theorem fnOk38 : fnOk Tryz.prog 38 = true := by kernel_rfl
theorem rq38 {R : Value → AH → Nat → Prop} {env : Env} {H : AH} {nx : Nat} : retQ Tryz.prog Tryz.f38 R .ret env H nx = onV (eg env 2) R H nx := retQ_one rfl (of_decide_eq_true (by kernel_rfl))

/-! 39: milestone/link.New · code of 6 operations -/
def L39 : Nat → List Nat
  | 0 => [0]
  | 1 => [2]
  | _ => []
theorem L39x0 : L39 0 = [0] := (rfl)
theorem L39x1 : L39 1 = [2] := (rfl)
theorem fnOk39 : fnOk Tryz.prog 39 = true := by kernel_rfl
theorem rq39 {R : Value → AH → Nat → Prop} {env : Env} {H : AH} {nx : Nat} : retQ Tryz.prog Tryz.f39 R .ret env H nx = onV (eg env 2) R H nx := retQ_one rfl (of_decide_eq_true (by kernel_rfl))

theorem zero139 : zeroT Tryz.prog 139 = some (.agg #[(.int .u16 0), (.int .u64 0), (.int .u16 0), (.int .u64 0), (.int .u64 0)]) := by kernel_rfl
theorem bd139x2x4 (H : AH) (k2x0 : IntKind) (n2x0 : Int) (k4x0 : IntKind) (n4x0 : Int) : buildV Tryz.prog H 139 #[(2, .int k2x0 n2x0), (4, .int k4x0 n4x0)] = some (.agg #[(.int .u16 0), (.int .u64 0), .int k2x0 n2x0, (.int .u64 0), .int k4x0 n4x0]) := build_by (pl := fun i => (#[(0, 1), (1, 1), (2, 1), (3, 1), (4, 1)] : Array (Nat × Nat))[i]?) (by kernel_rfl) zero139 (by simp [Instr.fill, cells_agg, cells_int, cells_bool, cells_slice, cells_ptr, cells_str, cells_map])
/-! 40: (*milestone/link.Link).Hello · code of 55 operations -/
def L40 : Nat → List Nat
  | 0 => [0, 1, 2, 8]
  | 1 => [0, 1, 2, 6]
  | 3 => [0, 1, 2, 6, 26]
  | 4 => [0, 1, 2]
  | 2 => [0, 1, 2]
  | 5 => []
  | _ => []
theorem L40x0 : L40 0 = [0, 1, 2, 8] := (rfl)
theorem L40x1 : L40 1 = [0, 1, 2, 6] := (rfl)
theorem L40x3 : L40 3 = [0, 1, 2, 6, 26] := (rfl)
theorem L40x4 : L40 4 = [0, 1, 2] := (rfl)
theorem L40x2 : L40 2 = [0, 1, 2] := (rfl)
theorem L40x5 : L40 5 = [] := (rfl)
theorem fnOk40 : fnOk Tryz.prog 40 = true := by kernel_rfl
theorem rq40 {R : Value → AH → Nat → Prop} {env : Env} {H : AH} {nx : Nat} : retQ Tryz.prog Tryz.f40 R .ret env H nx = R (.tuple #[]) H nx := retQ_none rfl

theorem fa139x1 (H : AH) (b o : Nat) : fieldAV Tryz.prog H 139 1 (.pointer (some ⟨b, o, none⟩)) = some (.pointer (some ⟨b, o + 1, none⟩)) := fieldAV_eq 139 1 b o false 0 1 (by kernel_rfl)
theorem fa139x0 (H : AH) (b o : Nat) : fieldAV Tryz.prog H 139 0 (.pointer (some ⟨b, o, none⟩)) = some (.pointer (some ⟨b, o + 0, none⟩)) := fieldAV_eq 139 0 b o false 0 0 (by kernel_rfl)
theorem fa139x4 (H : AH) (b o : Nat) : fieldAV Tryz.prog H 139 4 (.pointer (some ⟨b, o, none⟩)) = some (.pointer (some ⟨b, o + 4, none⟩)) := fieldAV_eq 139 4 b o false 0 4 (by kernel_rfl)
/-! 41: (*milestone/link.Link).Heard · code of 14 operations -/
def L41 : Nat → List Nat
  | 0 => [0, 1, 2, 7]
  | 1 => []
  | _ => []
theorem L41x0 : L41 0 = [0, 1, 2, 7] := (rfl)
theorem L41x1 : L41 1 = [] := (rfl)
theorem fnOk41 : fnOk Tryz.prog 41 = true := by kernel_rfl
theorem rq41 {R : Value → AH → Nat → Prop} {env : Env} {H : AH} {nx : Nat} : retQ Tryz.prog Tryz.f41 R .ret env H nx = R (.tuple #[]) H nx := retQ_none rfl

-- builtin Go.Builtin.max
theorem fa139x2 (H : AH) (b o : Nat) : fieldAV Tryz.prog H 139 2 (.pointer (some ⟨b, o, none⟩)) = some (.pointer (some ⟨b, o + 2, none⟩)) := fieldAV_eq 139 2 b o false 0 2 (by kernel_rfl)
theorem fa139x3 (H : AH) (b o : Nat) : fieldAV Tryz.prog H 139 3 (.pointer (some ⟨b, o, none⟩)) = some (.pointer (some ⟨b, o + 3, none⟩)) := fieldAV_eq 139 3 b o false 0 3 (by kernel_rfl)
/-! 42: (*milestone/routes.Routes).Tell · code of 97 operations -/
def L42 : Nat → List Nat
  | 0 => [0, 1, 3, 5, 8, 10]
  | 1 => [0, 1, 3, 5, 8, 10, 15]
  | 2 => [12]
  | 3 => [0, 1, 3, 5, 8, 10, 18]
  | 4 => [12]
  | 5 => [0, 1, 3, 5, 8, 10, 13]
  | 6 => [0, 10, 13, 14]
  | 8 => [0, 10, 13, 14, 59]
  | 9 => []
  | 10 => [0, 13, 14, 78]
  | 11 => [0, 13, 14, 82]
  | 12 => []
  | 13 => [0, 14, 92]
  | 14 => [12]
  | 7 => []
  | 15 => [12]
  | _ => []
theorem L42x0 : L42 0 = [0, 1, 3, 5, 8, 10] := (rfl)
theorem L42x1 : L42 1 = [0, 1, 3, 5, 8, 10, 15] := (rfl)
theorem L42x2 : L42 2 = [12] := (rfl)
theorem L42x3 : L42 3 = [0, 1, 3, 5, 8, 10, 18] := (rfl)
theorem L42x4 : L42 4 = [12] := (rfl)
theorem L42x5 : L42 5 = [0, 1, 3, 5, 8, 10, 13] := (rfl)
theorem L42x6 : L42 6 = [0, 10, 13, 14] := (rfl)
theorem L42x8 : L42 8 = [0, 10, 13, 14, 59] := (rfl)
theorem L42x9 : L42 9 = [] := (rfl)
theorem L42x10 : L42 10 = [0, 13, 14, 78] := (rfl)
theorem L42x11 : L42 11 = [0, 13, 14, 82] := (rfl)
theorem L42x12 : L42 12 = [] := (rfl)
theorem L42x13 : L42 13 = [0, 14, 92] := (rfl)
theorem L42x14 : L42 14 = [12] := (rfl)
theorem L42x7 : L42 7 = [] := (rfl)
theorem L42x15 : L42 15 = [12] := (rfl)
def ord42x12 : List Nat := [0, 1, 2, 3, 4, 5, 6, 7]
def ord42x7 : List Nat := [0, 1, 2, 3, 4, 5, 6, 7, 8, 9, 10]
theorem fnOk42 : fnOk Tryz.prog 42 = true := by kernel_rfl
theorem rq42 {R : Value → AH → Nat → Prop} {env : Env} {H : AH} {nx : Nat} : retQ Tryz.prog Tryz.f42 R .ret env H nx = onV (eg env 12) R H nx := retQ_one rfl (of_decide_eq_true (by kernel_rfl))

theorem eqp89 (H : AH) (x y : Operand) (a : Option Addr) : binV Tryz.prog H .eql 89 x y (.pointer a) (.pointer none) = some (.bool a.isNone) := eq_ptr (by kernel_rfl)
theorem nep89 (H : AH) (x y : Operand) (a : Option Addr) : binV Tryz.prog H .neq 89 x y (.pointer a) (.pointer none) = some (.bool a.isSome) := ne_ptr (by kernel_rfl)
theorem zero142 : zeroT Tryz.prog 142 = some (.agg #[(.int .u32 0), (.int .u8 0), (.int .i64 0), (.int .i64 0), (.int .u16 0), (.int .u16 0), (.int .u64 0)]) := by kernel_rfl
theorem bd142x0x1x2x3x4 (H : AH) (v0x0 : Value) (v0x1 : Value) (k1x0 : IntKind) (n1x0 : Int) (k2x0 : IntKind) (n2x0 : Int) (v3x0 : Value) (v3x1 : Value) (k4x0 : IntKind) (n4x0 : Int) : buildV Tryz.prog H 142 #[(0, .agg #[v0x0, v0x1]), (1, .int k1x0 n1x0), (2, .int k2x0 n2x0), (3, .agg #[v3x0, v3x1]), (4, .int k4x0 n4x0)] = some (.agg #[v0x0, v0x1, .int k1x0 n1x0, .int k2x0 n2x0, v3x0, v3x1, .int k4x0 n4x0]) := build_by (pl := fun i => (#[(0, 2), (2, 1), (3, 1), (4, 2), (6, 1)] : Array (Nat × Nat))[i]?) (by kernel_rfl) zero142 (by simp [Instr.fill, cells_agg, cells_int, cells_bool, cells_slice, cells_ptr, cells_str, cells_map])
theorem al142 (lo : Nat) (K : Value → AH → Nat → Prop) (H : AH) (nx : Nat) : allocQ Tryz.prog lo 142 K H nx = newQ 142 ((.agg #[(.int .u32 0), (.int .u8 0), (.int .i64 0), (.int .i64 0), (.int .u16 0), (.int .u16 0), (.int .u64 0)]) : Value).cells K H nx := alloc_new zero142
theorem st142 (lo : Nat) (b o : Nat) (v0 v1 v2 v3 v4 v5 v6 : Value) (K : AH → Nat → Prop) (H : AH) (nx : Nat) : storeQ Tryz.prog lo 142 (.pointer (some ⟨b, o, none⟩)) (.agg #[v0, v1, v2, v3, v4, v5, v6]) K H nx = stsQ lo b o [v0, v1, v2, v3, v4, v5, v6] K H nx := store_agg (n := 7) (by kernel_rfl) (by decide) rfl
theorem fa146x0 (H : AH) (b o : Nat) : fieldAV Tryz.prog H 146 0 (.pointer (some ⟨b, o, none⟩)) = some (.pointer (some ⟨b, o + 0, none⟩)) := fieldAV_eq 146 0 b o false 0 0 (by kernel_rfl)
theorem ld143 (H : AH) (b o : Nat) : loadV Tryz.prog H 143 (.pointer (some ⟨b, o, none⟩)) = H.c b o := load_one (by kernel_rfl)
theorem st143 (lo : Nat) (b o : Nat) (v : Value) (K : AH → Nat → Prop) (H : AH) (nx : Nat) (hv : v.oneCell' = true) : storeQ Tryz.prog lo 143 (.pointer (some ⟨b, o, none⟩)) v K H nx = stQ lo b o v K H nx := store_one (by kernel_rfl) hv
theorem stc143 (lo : Nat) (b o : Nat) (a : Option Addr) (n c : Nat) (K : AH → Nat → Prop) (H : AH) (nx : Nat) : storeQ Tryz.prog lo 143 (.pointer (some ⟨b, o, none⟩)) (.slice a n c) K H nx = stQ lo b o (.slice a n c) K H nx := store_one (by kernel_rfl) rfl
theorem ld142 (H : AH) (b o : Nat) : loadV Tryz.prog H 142 (.pointer (some ⟨b, o, none⟩)) = (loadN H b o 7).map fun l => .agg l.toArray := load_agg (by kernel_rfl) (by kernel_rfl)
theorem ia143 (H : AH) (n b o c : Nat) (kk : IntKind) (i : Int) (h0 : 0 ≤ i) (h1 : i < n) : indexAV Tryz.prog H 143 (.slice (some ⟨b, o, none⟩) n c) (.int kk i) = some (.pointer (some ⟨b, o + i.toNat * 7, none⟩)) := indexAV_slice 143 142 n 7 b o c kk i (by kernel_rfl) h0 h1
theorem len143 (H : AH) (ty : TypeId) (a : Option Addr) (n c : Nat) : lenV Tryz.prog H #[143] ty #[.slice a n c] = some (.int .i64 n) := lenV_slice 143 142 ty 7 a n c (by kernel_rfl)
theorem sl143 : slT Tryz.prog 143 = some (142, 7) := by kernel_rfl
theorem by142 : bytesT Tryz.prog 142 = some 40 := by kernel_rfl
/-! 43: (*milestone/engine.Engine).request · code of 69 operations -/
def L43 : Nat → List Nat
  | 0 => [0, 3]
  | 1 => [0, 3, 4, 5]
  | 2 => [0, 3, 4, 18]
  | 3 => [0, 3, 4, 22]
  | 4 => [0]
  | 5 => []
  | 6 => [0, 3, 6, 7]
  | 7 => [0, 3, 42]
  | 8 => []
  | 9 => [0, 3, 56]
  | 10 => [0, 3]
  | 11 => []
  | _ => []
theorem L43x0 : L43 0 = [0, 3] := (rfl)
theorem L43x1 : L43 1 = [0, 3, 4, 5] := (rfl)
theorem L43x2 : L43 2 = [0, 3, 4, 18] := (rfl)
theorem L43x3 : L43 3 = [0, 3, 4, 22] := (rfl)
theorem L43x4 : L43 4 = [0] := (rfl)
theorem L43x5 : L43 5 = [] := (rfl)
theorem L43x6 : L43 6 = [0, 3, 6, 7] := (rfl)
theorem L43x7 : L43 7 = [0, 3, 42] := (rfl)
theorem L43x8 : L43 8 = [] := (rfl)
theorem L43x9 : L43 9 = [0, 3, 56] := (rfl)
theorem L43x10 : L43 10 = [0, 3] := (rfl)
theorem L43x11 : L43 11 = [] := (rfl)
def ord43x1 : List Nat := [0, 1, 2, 3, 4, 5, 6, 7, 8, 9, 10, 11]
def ord43x4 : List Nat := [0, 1, 2, 3, 4, 5, 6, 7, 8]
theorem fnOk43 : fnOk Tryz.prog 43 = true := by kernel_rfl
theorem rq43 {R : Value → AH → Nat → Prop} {env : Env} {H : AH} {nx : Nat} : retQ Tryz.prog Tryz.f43 R .ret env H nx = R (.tuple #[]) H nx := retQ_none rfl

/-! 44: (*milestone/engine.Engine).Select$1 · code of 29 operations -/
def L44 : Nat → List Nat
  | 0 => [1, 2, 3]
  | 1 => [1, 2, 3, 16]
  | 2 => []
  | 3 => []
  | _ => []
theorem L44x0 : L44 0 = [1, 2, 3] := (rfl)
theorem L44x1 : L44 1 = [1, 2, 3, 16] := (rfl)
theorem L44x2 : L44 2 = [] := (rfl)
theorem L44x3 : L44 3 = [] := (rfl)
def ord44x1 : List Nat := [0, 1, 2, 3, 4, 5, 6, 7, 8, 9, 10, 11, 12]
theorem fnOk44 : fnOk Tryz.prog 44 = true := by kernel_rfl
theorem rq44 {R : Value → AH → Nat → Prop} {env : Env} {H : AH} {nx : Nat} : retQ Tryz.prog Tryz.f44 R .ret env H nx = R (.tuple #[]) H nx := retQ_none rfl

theorem fa65x3 (H : AH) (b o : Nat) : fieldAV Tryz.prog H 65 3 (.pointer (some ⟨b, o, none⟩)) = some (.pointer (some ⟨b, o + 3, none⟩)) := fieldAV_eq 65 3 b o false 0 3 (by kernel_rfl)
theorem sl37 : slT Tryz.prog 37 = some (40, 5) := by kernel_rfl
theorem by40 : bytesT Tryz.prog 40 = some 24 := by kernel_rfl
/-! 45: (*milestone/source.Source).Lower · code of 68 operations -/
def L45 : Nat → List Nat
  | 0 => [0, 4, 5]
  | 1 => [0, 4, 5, 9]
  | 2 => [6]
  | 3 => [0, 4, 5, 12]
  | 4 => [6]
  | 5 => [0, 4, 5, 7, 8]
  | 7 => [0, 4, 5, 7, 40]
  | 8 => []
  | 9 => [0, 4, 5, 7, 59]
  | 10 => [6]
  | 6 => []
  | 11 => [6]
  | _ => []
theorem L45x0 : L45 0 = [0, 4, 5] := (rfl)
theorem L45x1 : L45 1 = [0, 4, 5, 9] := (rfl)
theorem L45x2 : L45 2 = [6] := (rfl)
theorem L45x3 : L45 3 = [0, 4, 5, 12] := (rfl)
theorem L45x4 : L45 4 = [6] := (rfl)
theorem L45x5 : L45 5 = [0, 4, 5, 7, 8] := (rfl)
theorem L45x7 : L45 7 = [0, 4, 5, 7, 40] := (rfl)
theorem L45x8 : L45 8 = [] := (rfl)
theorem L45x9 : L45 9 = [0, 4, 5, 7, 59] := (rfl)
theorem L45x10 : L45 10 = [6] := (rfl)
theorem L45x6 : L45 6 = [] := (rfl)
theorem L45x11 : L45 11 = [6] := (rfl)
def ord45x8 : List Nat := [0, 1, 2, 3, 4, 5, 6, 7, 8, 9, 10, 11, 12, 13, 14, 15, 16, 17]
def ord45x6 : List Nat := [0, 1, 2, 3, 4, 5, 6, 7, 8, 9, 10, 11, 12, 13]
theorem fnOk45 : fnOk Tryz.prog 45 = true := by kernel_rfl
theorem rq45 {R : Value → AH → Nat → Prop} {env : Env} {H : AH} {nx : Nat} : retQ Tryz.prog Tryz.f45 R .ret env H nx = onV (eg env 6) R H nx := retQ_one rfl (of_decide_eq_true (by kernel_rfl))

theorem eqp90 (H : AH) (x y : Operand) (a : Option Addr) : binV Tryz.prog H .eql 90 x y (.pointer a) (.pointer none) = some (.bool a.isNone) := eq_ptr (by kernel_rfl)
theorem nep90 (H : AH) (x y : Operand) (a : Option Addr) : binV Tryz.prog H .neq 90 x y (.pointer a) (.pointer none) = some (.bool a.isSome) := ne_ptr (by kernel_rfl)
theorem fa155x0 (H : AH) (b o : Nat) : fieldAV Tryz.prog H 155 0 (.pointer (some ⟨b, o, none⟩)) = some (.pointer (some ⟨b, o + 0, none⟩)) := fieldAV_eq 155 0 b o false 0 0 (by kernel_rfl)
theorem ld153 (H : AH) (b o : Nat) : loadV Tryz.prog H 153 (.pointer (some ⟨b, o, none⟩)) = H.c b o := load_one (by kernel_rfl)
theorem ia153 (H : AH) (n b o c : Nat) (kk : IntKind) (i : Int) (h0 : 0 ≤ i) (h1 : i < n) : indexAV Tryz.prog H 153 (.slice (some ⟨b, o, none⟩) n c) (.int kk i) = some (.pointer (some ⟨b, o + i.toNat * 4, none⟩)) := indexAV_slice 153 152 n 4 b o c kk i (by kernel_rfl) h0 h1
theorem fa152x1 (H : AH) (b o : Nat) : fieldAV Tryz.prog H 152 1 (.pointer (some ⟨b, o, none⟩)) = some (.pointer (some ⟨b, o + 2, none⟩)) := fieldAV_eq 152 1 b o true 1 2 (by kernel_rfl)
theorem len153 (H : AH) (ty : TypeId) (a : Option Addr) (n c : Nat) : lenV Tryz.prog H #[153] ty #[.slice a n c] = some (.int .i64 n) := lenV_slice 153 152 ty 4 a n c (by kernel_rfl)
theorem zero152 : zeroT Tryz.prog 152 = some (.agg #[(.int .u32 0), (.int .u8 0), (.int .u16 0), (.int .u16 0)]) := by kernel_rfl
theorem bd152x0x1 (H : AH) (v0x0 : Value) (v0x1 : Value) (v1x0 : Value) (v1x1 : Value) : buildV Tryz.prog H 152 #[(0, .agg #[v0x0, v0x1]), (1, .agg #[v1x0, v1x1])] = some (.agg #[v0x0, v0x1, v1x0, v1x1]) := build_by (pl := fun i => (#[(0, 2), (2, 2)] : Array (Nat × Nat))[i]?) (by kernel_rfl) zero152 (by simp [Instr.fill, cells_agg, cells_int, cells_bool, cells_slice, cells_ptr, cells_str, cells_map])
theorem sl153 : slT Tryz.prog 153 = some (152, 4) := by kernel_rfl
theorem st153 (lo : Nat) (b o : Nat) (v : Value) (K : AH → Nat → Prop) (H : AH) (nx : Nat) (hv : v.oneCell' = true) : storeQ Tryz.prog lo 153 (.pointer (some ⟨b, o, none⟩)) v K H nx = stQ lo b o v K H nx := store_one (by kernel_rfl) hv
theorem stc153 (lo : Nat) (b o : Nat) (a : Option Addr) (n c : Nat) (K : AH → Nat → Prop) (H : AH) (nx : Nat) : storeQ Tryz.prog lo 153 (.pointer (some ⟨b, o, none⟩)) (.slice a n c) K H nx = stQ lo b o (.slice a n c) K H nx := store_one (by kernel_rfl) rfl
/-! 46: slices.SortedFunc[milestone/api.Prefix] · code of 9 operations -/
def L46 : Nat → List Nat
  | 0 => [0, 1]
  | 1 => [1, 5]
  | 2 => [5]
  | 3 => [4]
  | _ => []
theorem L46x0 : L46 0 = [0, 1] := (rfl)
theorem L46x1 : L46 1 = [1, 5] := (rfl)
theorem L46x2 : L46 2 = [5] := (rfl)
theorem L46x3 : L46 3 = [4] := (rfl)
theorem fnOk46 : fnOk Tryz.prog 46 = true := by kernel_rfl
theorem rq46 {R : Value → AH → Nat → Prop} {env : Env} {H : AH} {nx : Nat} : retQ Tryz.prog Tryz.f46 R .ret env H nx = onV (eg env 4) R H nx := retQ_one rfl (of_decide_eq_true (by kernel_rfl))

/-! 47: maps.Keys[map[milestone/api.Prefix]uint16,milestone/api.Prefix,uint16] · code of 4 operations -/
def L47 : Nat → List Nat
  | 0 => [1]
  | 1 => [2]
  | _ => []
theorem L47x0 : L47 0 = [1] := (rfl)
theorem L47x1 : L47 1 = [2] := (rfl)
theorem fnOk47 : fnOk Tryz.prog 47 = true := by kernel_rfl
theorem rq47 {R : Value → AH → Nat → Prop} {env : Env} {H : AH} {nx : Nat} : retQ Tryz.prog Tryz.f47 R .ret env H nx = onV (eg env 2) R H nx := retQ_one rfl (of_decide_eq_true (by kernel_rfl))

/-! 48: milestone/prefix.Compare · code of 16 operations -/
def L48 : Nat → List Nat
  | 0 => [2, 3]
  | 1 => [4]
  | _ => []
theorem L48x0 : L48 0 = [2, 3] := (rfl)
theorem L48x1 : L48 1 = [4] := (rfl)
def ord48x1 : List Nat := [0, 1, 2, 3, 5, 6, 7, 8, 4, 9, 10, 11, 12]
theorem fnOk48 : fnOk Tryz.prog 48 = true := by kernel_rfl
theorem rq48 {R : Value → AH → Nat → Prop} {env : Env} {H : AH} {nx : Nat} : retQ Tryz.prog Tryz.f48 R .ret env H nx = onV (eg env 4) R H nx := retQ_one rfl (of_decide_eq_true (by kernel_rfl))

theorem zero3 : zeroT Tryz.prog 3 = some (.int .i64 0) := by kernel_rfl
theorem sl122 : slT Tryz.prog 122 = some (3, 1) := by kernel_rfl
/-! 49: (*milestone/engine.Engine).cost · code of 14 operations -/
def L49 : Nat → List Nat
  | 0 => [0, 1]
  | 1 => [5]
  | 2 => [5, 13]
  | 3 => [4]
  | 4 => [4]
  | _ => []
theorem L49x0 : L49 0 = [0, 1] := (rfl)
theorem L49x1 : L49 1 = [5] := (rfl)
theorem L49x2 : L49 2 = [5, 13] := (rfl)
theorem L49x3 : L49 3 = [4] := (rfl)
theorem L49x4 : L49 4 = [4] := (rfl)
theorem fnOk49 : fnOk Tryz.prog 49 = true := by kernel_rfl
theorem rq49 {R : Value → AH → Nat → Prop} {env : Env} {H : AH} {nx : Nat} : retQ Tryz.prog Tryz.f49 R .ret env H nx = onV (eg env 4) R H nx := retQ_one rfl (of_decide_eq_true (by kernel_rfl))

/-! 50: (*milestone/routes.Routes).Select · code of 98 operations -/
def L50 : Nat → List Nat
  | 0 => [0, 1, 2]
  | 1 => [0, 1, 2, 7]
  | 2 => [1, 2, 7, 15, 16, 17]
  | 3 => [1, 2, 7, 15, 16, 17, 18]
  | 4 => [1, 2, 7, 9, 15, 16, 17]
  | 5 => [1, 2, 7, 9, 10, 15, 16, 17]
  | 6 => [1, 2, 7, 9, 10, 15, 16, 17, 25]
  | 7 => [1, 2, 7, 9, 10, 15, 16, 17]
  | 8 => [1, 2, 7, 9, 10, 11, 15, 16, 17]
  | 9 => [1, 2, 7, 9, 11, 15, 16, 17, 52]
  | 10 => [1, 2, 7, 9, 12, 15, 16, 17]
  | 11 => [1, 2, 7, 9, 12, 13, 15, 16, 17]
  | 12 => [1, 2, 7, 12, 13, 15, 16, 17, 77]
  | 13 => [1, 2, 7, 15, 16, 17]
  | 14 => [1, 2, 7, 12, 13, 15, 16, 17, 90]
  | 15 => [1, 2, 7, 15, 16, 17]
  | 16 => [1, 2, 7, 15, 16, 17]
  | 17 => [6]
  | _ => []
theorem L50x0 : L50 0 = [0, 1, 2] := (rfl)
theorem L50x1 : L50 1 = [0, 1, 2, 7] := (rfl)
theorem L50x2 : L50 2 = [1, 2, 7, 15, 16, 17] := (rfl)
theorem L50x3 : L50 3 = [1, 2, 7, 15, 16, 17, 18] := (rfl)
theorem L50x4 : L50 4 = [1, 2, 7, 9, 15, 16, 17] := (rfl)
theorem L50x5 : L50 5 = [1, 2, 7, 9, 10, 15, 16, 17] := (rfl)
theorem L50x6 : L50 6 = [1, 2, 7, 9, 10, 15, 16, 17, 25] := (rfl)
theorem L50x7 : L50 7 = [1, 2, 7, 9, 10, 15, 16, 17] := (rfl)
theorem L50x8 : L50 8 = [1, 2, 7, 9, 10, 11, 15, 16, 17] := (rfl)
theorem L50x9 : L50 9 = [1, 2, 7, 9, 11, 15, 16, 17, 52] := (rfl)
theorem L50x10 : L50 10 = [1, 2, 7, 9, 12, 15, 16, 17] := (rfl)
theorem L50x11 : L50 11 = [1, 2, 7, 9, 12, 13, 15, 16, 17] := (rfl)
theorem L50x12 : L50 12 = [1, 2, 7, 12, 13, 15, 16, 17, 77] := (rfl)
theorem L50x13 : L50 13 = [1, 2, 7, 15, 16, 17] := (rfl)
theorem L50x14 : L50 14 = [1, 2, 7, 12, 13, 15, 16, 17, 90] := (rfl)
theorem L50x15 : L50 15 = [1, 2, 7, 15, 16, 17] := (rfl)
theorem L50x16 : L50 16 = [1, 2, 7, 15, 16, 17] := (rfl)
theorem L50x17 : L50 17 = [6] := (rfl)
def ord50x12 : List Nat := [0, 1, 2, 3, 4, 5, 6, 7, 8, 9, 10, 11, 12]
def ord50x14 : List Nat := [0, 1, 2, 3, 4, 5, 6, 7, 8]
theorem fnOk50 : fnOk Tryz.prog 50 = true := by kernel_rfl
theorem rq50 {R : Value → AH → Nat → Prop} {env : Env} {H : AH} {nx : Nat} : retQ Tryz.prog Tryz.f50 R .ret env H nx = onV (eg env 6) R H nx := retQ_one rfl (of_decide_eq_true (by kernel_rfl))

theorem fa142x1 (H : AH) (b o : Nat) : fieldAV Tryz.prog H 142 1 (.pointer (some ⟨b, o, none⟩)) = some (.pointer (some ⟨b, o + 2, none⟩)) := fieldAV_eq 142 1 b o false 0 2 (by kernel_rfl)
theorem fa142x3 (H : AH) (b o : Nat) : fieldAV Tryz.prog H 142 3 (.pointer (some ⟨b, o, none⟩)) = some (.pointer (some ⟨b, o + 4, none⟩)) := fieldAV_eq 142 3 b o true 1 4 (by kernel_rfl)
theorem cv22x28 (lo : Nat) (k' : IntKind) (n : Int) (K : Value → AH → Nat → Prop) (H : AH) (nx : Nat) : convQ Tryz.prog lo 22 28 (.int k' n) K H nx = K (.int .u32 (IntKind.wrap .u32 n)) H nx := convQ_int (by kernel_rfl) (by kernel_rfl)
theorem cx22x28 (k' : IntKind) (n : Int) (H : AH) : convV Tryz.prog H 22 28 (.int k' n) = some (.int .u32 (IntKind.wrap .u32 n)) := convV_int (by kernel_rfl) (by kernel_rfl)
theorem fa142x0 (H : AH) (b o : Nat) : fieldAV Tryz.prog H 142 0 (.pointer (some ⟨b, o, none⟩)) = some (.pointer (some ⟨b, o + 0, none⟩)) := fieldAV_eq 142 0 b o true 1 0 (by kernel_rfl)
theorem cv28x22 (lo : Nat) (k' : IntKind) (n : Int) (K : Value → AH → Nat → Prop) (H : AH) (nx : Nat) : convQ Tryz.prog lo 28 22 (.int k' n) K H nx = K (.int .u16 (IntKind.wrap .u16 n)) H nx := convQ_int (by kernel_rfl) (by kernel_rfl)
theorem cx28x22 (k' : IntKind) (n : Int) (H : AH) : convV Tryz.prog H 28 22 (.int k' n) = some (.int .u16 (IntKind.wrap .u16 n)) := convV_int (by kernel_rfl) (by kernel_rfl)
/-! 51: slices.SortFunc[[]milestone/api.Route,milestone/api.Route] · code of 10 operations -/
def L51 : Nat → List Nat
  | 0 => [0, 1, 4]
  | 1 => []
  | _ => []
theorem L51x0 : L51 0 = [0, 1, 4] := (rfl)
theorem L51x1 : L51 1 = [] := (rfl)
theorem fnOk51 : fnOk Tryz.prog 51 = true := by kernel_rfl
theorem rq51 {R : Value → AH → Nat → Prop} {env : Env} {H : AH} {nx : Nat} : retQ Tryz.prog Tryz.f51 R .ret env H nx = R (.tuple #[]) H nx := retQ_none rfl

theorem cv3x121 (lo : Nat) (k' : IntKind) (n : Int) (K : Value → AH → Nat → Prop) (H : AH) (nx : Nat) : convQ Tryz.prog lo 3 121 (.int k' n) K H nx = K (.int .u64 (IntKind.wrap .u64 n)) H nx := convQ_int (by kernel_rfl) (by kernel_rfl)
theorem cx3x121 (k' : IntKind) (n : Int) (H : AH) : convV Tryz.prog H 3 121 (.int k' n) = some (.int .u64 (IntKind.wrap .u64 n)) := convV_int (by kernel_rfl) (by kernel_rfl)
/-! 52: (*milestone/engine.Engine).Select$2 · code of 9 operations -/
def L52 : Nat → List Nat
  | 0 => [2, 3]
  | 1 => [4]
  | _ => []
theorem L52x0 : L52 0 = [2, 3] := (rfl)
theorem L52x1 : L52 1 = [4] := (rfl)
theorem fnOk52 : fnOk Tryz.prog 52 = true := by kernel_rfl
theorem rq52 {R : Value → AH → Nat → Prop} {env : Env} {H : AH} {nx : Nat} : retQ Tryz.prog Tryz.f52 R .ret env H nx = onV (eg env 4) R H nx := retQ_one rfl (of_decide_eq_true (by kernel_rfl))

/-! 53: slices.Equal[[]milestone/api.Route,milestone/api.Route] · code of 26 operations -/
def L53 : Nat → List Nat
  | 0 => [0, 1]
  | 1 => [0, 1, 10]
  | 2 => [4]
  | 3 => [0, 1, 12, 13]
  | 4 => [0, 1, 12, 13, 14]
  | 5 => [0, 1, 5, 12, 13]
  | 6 => [0, 1, 12, 13, 24]
  | 7 => [4]
  | 8 => [0, 1, 12, 13]
  | 9 => [4]
  | _ => []
theorem L53x0 : L53 0 = [0, 1] := (rfl)
theorem L53x1 : L53 1 = [0, 1, 10] := (rfl)
theorem L53x2 : L53 2 = [4] := (rfl)
theorem L53x3 : L53 3 = [0, 1, 12, 13] := (rfl)
theorem L53x4 : L53 4 = [0, 1, 12, 13, 14] := (rfl)
theorem L53x5 : L53 5 = [0, 1, 5, 12, 13] := (rfl)
theorem L53x6 : L53 6 = [0, 1, 12, 13, 24] := (rfl)
theorem L53x7 : L53 7 = [4] := (rfl)
theorem L53x8 : L53 8 = [0, 1, 12, 13] := (rfl)
theorem L53x9 : L53 9 = [4] := (rfl)
def ord53x6 : List Nat := [0, 1, 2, 3, 4, 5, 6, 7, 8]
theorem fnOk53 : fnOk Tryz.prog 53 = true := by kernel_rfl
theorem rq53 {R : Value → AH → Nat → Prop} {env : Env} {H : AH} {nx : Nat} : retQ Tryz.prog Tryz.f53 R .ret env H nx = onV (eg env 4) R H nx := retQ_one rfl (of_decide_eq_true (by kernel_rfl))

/-! 54: milestone/engine.has · code of 6 operations -/
def L54 : Nat → List Nat
  | 0 => [0, 3]
  | 1 => [4]
  | _ => []
theorem L54x0 : L54 0 = [0, 3] := (rfl)
theorem L54x1 : L54 1 = [4] := (rfl)
theorem fnOk54 : fnOk Tryz.prog 54 = true := by kernel_rfl
theorem rq54 {R : Value → AH → Nat → Prop} {env : Env} {H : AH} {nx : Nat} : retQ Tryz.prog Tryz.f54 R .ret env H nx = onV (eg env 4) R H nx := retQ_one rfl (of_decide_eq_true (by kernel_rfl))

/-! 55: (*milestone/routes.Routes).Blocked · code of 71 operations -/
def L55 : Nat → List Nat
  | 0 => [0, 1]
  | 1 => [0, 1, 5]
  | 2 => [0, 1, 5, 6]
  | 3 => [0, 1, 5, 6, 13, 14, 15]
  | 4 => [0, 1, 5, 6, 13, 14, 15, 16]
  | 5 => [0, 1, 5, 6, 8, 13, 14, 15]
  | 6 => [0, 1, 5, 6, 13, 14, 15]
  | 7 => [0, 1, 5, 6, 13, 14, 15]
  | 8 => [5, 6, 36, 37, 38]
  | 9 => [5, 6, 36, 37, 38, 39]
  | 10 => [5, 6, 10, 36, 37, 38]
  | 11 => [5, 6, 10, 36, 37, 38, 62]
  | 12 => [5, 6, 36, 37, 38]
  | 13 => [5, 6, 36, 37, 38]
  | 14 => [4]
  | _ => []
theorem L55x0 : L55 0 = [0, 1] := (rfl)
theorem L55x1 : L55 1 = [0, 1, 5] := (rfl)
theorem L55x2 : L55 2 = [0, 1, 5, 6] := (rfl)
theorem L55x3 : L55 3 = [0, 1, 5, 6, 13, 14, 15] := (rfl)
theorem L55x4 : L55 4 = [0, 1, 5, 6, 13, 14, 15, 16] := (rfl)
theorem L55x5 : L55 5 = [0, 1, 5, 6, 8, 13, 14, 15] := (rfl)
theorem L55x6 : L55 6 = [0, 1, 5, 6, 13, 14, 15] := (rfl)
theorem L55x7 : L55 7 = [0, 1, 5, 6, 13, 14, 15] := (rfl)
theorem L55x8 : L55 8 = [5, 6, 36, 37, 38] := (rfl)
theorem L55x9 : L55 9 = [5, 6, 36, 37, 38, 39] := (rfl)
theorem L55x10 : L55 10 = [5, 6, 10, 36, 37, 38] := (rfl)
theorem L55x11 : L55 11 = [5, 6, 10, 36, 37, 38, 62] := (rfl)
theorem L55x12 : L55 12 = [5, 6, 36, 37, 38] := (rfl)
theorem L55x13 : L55 13 = [5, 6, 36, 37, 38] := (rfl)
theorem L55x14 : L55 14 = [4] := (rfl)
def ord55x6 : List Nat := [0, 1, 2, 3, 4, 5, 6, 7, 8, 9, 10, 11, 12, 13, 14, 15]
def ord55x11 : List Nat := [0, 1, 2, 3, 4, 5, 6, 7, 8, 9, 10, 11, 12, 13, 14, 15, 16, 17, 18, 19, 20]
theorem fnOk55 : fnOk Tryz.prog 55 = true := by kernel_rfl
theorem rq55 {R : Value → AH → Nat → Prop} {env : Env} {H : AH} {nx : Nat} : retQ Tryz.prog Tryz.f55 R .ret env H nx = onV (eg env 4) R H nx := retQ_one rfl (of_decide_eq_true (by kernel_rfl))

/-! 56: (*milestone/source.Source).Wants · code of 21 operations -/
def L56 : Nat → List Nat
  | 0 => [0, 3]
  | 1 => [6, 7]
  | 2 => [6, 15]
  | 3 => [4, 5]
  | 4 => [4, 5]
  | _ => []
theorem L56x0 : L56 0 = [0, 3] := (rfl)
theorem L56x1 : L56 1 = [6, 7] := (rfl)
theorem L56x2 : L56 2 = [6, 15] := (rfl)
theorem L56x3 : L56 3 = [4, 5] := (rfl)
theorem L56x4 : L56 4 = [4, 5] := (rfl)
theorem fnOk56 : fnOk Tryz.prog 56 = true := by kernel_rfl
theorem rq56 {R : Value → AH → Nat → Prop} {env : Env} {H : AH} {nx : Nat} : retQ Tryz.prog Tryz.f56 R .ret env H nx = onA (eg env 4) (fun v => onA (eg env 5) fun u => R (.tuple #[v, u]) H nx) := retQ_two rfl (of_decide_eq_true (by kernel_rfl)) (of_decide_eq_true (by kernel_rfl))

/-! 57: (*milestone/engine.Engine).ask · code of 33 operations -/
def L57 : Nat → List Nat
  | 0 => [0, 3]
  | 1 => [0, 3, 4]
  | 2 => [0, 3, 22]
  | 3 => []
  | _ => []
theorem L57x0 : L57 0 = [0, 3] := (rfl)
theorem L57x1 : L57 1 = [0, 3, 4] := (rfl)
theorem L57x2 : L57 2 = [0, 3, 22] := (rfl)
theorem L57x3 : L57 3 = [] := (rfl)
def ord57x3 : List Nat := [0, 1, 2, 3, 4, 5, 6, 7, 8, 9, 10, 11, 12]
theorem fnOk57 : fnOk Tryz.prog 57 = true := by kernel_rfl
theorem rq57 {R : Value → AH → Nat → Prop} {env : Env} {H : AH} {nx : Nat} : retQ Tryz.prog Tryz.f57 R .ret env H nx = R (.tuple #[]) H nx := retQ_none rfl

/-! 58: slices.Clone[[]milestone/api.Route,milestone/api.Route] · code of 8 operations -/
def L58 : Nat → List Nat
  | 0 => [0]
  | 1 => [0, 4]
  | 2 => [2]
  | 3 => [2]
  | _ => []
theorem L58x0 : L58 0 = [0] := (rfl)
theorem L58x1 : L58 1 = [0, 4] := (rfl)
theorem L58x2 : L58 2 = [2] := (rfl)
theorem L58x3 : L58 3 = [2] := (rfl)
theorem fnOk58 : fnOk Tryz.prog 58 = true := by kernel_rfl
theorem rq58 {R : Value → AH → Nat → Prop} {env : Env} {H : AH} {nx : Nat} : retQ Tryz.prog Tryz.f58 R .ret env H nx = onV (eg env 2) R H nx := retQ_one rfl (of_decide_eq_true (by kernel_rfl))

theorem eqs37 (H : AH) (x y : Operand) (a : Option Addr) (n c : Nat) : binV Tryz.prog H .eql 37 x y (.slice a n c) (.slice none 0 0) = some (.bool a.isNone) := eq_sl (by kernel_rfl)
theorem nes37 (H : AH) (x y : Operand) (a : Option Addr) (n c : Nat) : binV Tryz.prog H .neq 37 x y (.slice a n c) (.slice none 0 0) = some (.bool a.isSome) := ne_sl (by kernel_rfl)
/-! 59: milestone/milestoneref01.Of · code of 30 operations -/
def L59 : Nat → List Nat
  | 0 => [0, 1, 4]
  | 1 => [0, 1, 4, 8]
  | 2 => [0, 1, 4]
  | 3 => [0, 1, 4, 5]
  | 4 => [0, 1, 4, 5, 6]
  | 5 => [0, 1, 4, 5, 6, 10]
  | 7 => [0, 1, 4, 5, 6]
  | 8 => [0, 1, 4, 5, 6, 23]
  | 9 => [0, 1, 4, 5, 6]
  | 6 => [0, 1, 4, 5, 6]
  | 10 => [4]
  | _ => []
theorem L59x0 : L59 0 = [0, 1, 4] := (rfl)
theorem L59x1 : L59 1 = [0, 1, 4, 8] := (rfl)
theorem L59x2 : L59 2 = [0, 1, 4] := (rfl)
theorem L59x3 : L59 3 = [0, 1, 4, 5] := (rfl)
theorem L59x4 : L59 4 = [0, 1, 4, 5, 6] := (rfl)
theorem L59x5 : L59 5 = [0, 1, 4, 5, 6, 10] := (rfl)
theorem L59x7 : L59 7 = [0, 1, 4, 5, 6] := (rfl)
theorem L59x8 : L59 8 = [0, 1, 4, 5, 6, 23] := (rfl)
theorem L59x9 : L59 9 = [0, 1, 4, 5, 6] := (rfl)
theorem L59x6 : L59 6 = [0, 1, 4, 5, 6] := (rfl)
theorem L59x10 : L59 10 = [4] := (rfl)
theorem fnOk59 : fnOk Tryz.prog 59 = true := by kernel_rfl
theorem rq59 {R : Value → AH → Nat → Prop} {env : Env} {H : AH} {nx : Nat} : retQ Tryz.prog Tryz.f59 R .ret env H nx = onA (eg env 4) (fun a => onV (loadV Tryz.prog H 30 a) R H nx) := retQ_cell rfl (of_decide_eq_true (by kernel_rfl))

/-! 60: (*milestone/source.Source).Mark · code of 31 operations -/
def L60 : Nat → List Nat
  | 0 => [0, 3, 4]
  | 1 => [0, 3, 4, 9]
  | 2 => [4, 5]
  | 3 => [0, 4, 6, 7]
  | 4 => [0, 4, 6, 18]
  | 5 => [4, 5]
  | 6 => [4, 5]
  | _ => []
theorem L60x0 : L60 0 = [0, 3, 4] := (rfl)
theorem L60x1 : L60 1 = [0, 3, 4, 9] := (rfl)
theorem L60x2 : L60 2 = [4, 5] := (rfl)
theorem L60x3 : L60 3 = [0, 4, 6, 7] := (rfl)
theorem L60x4 : L60 4 = [0, 4, 6, 18] := (rfl)
theorem L60x5 : L60 5 = [4, 5] := (rfl)
theorem L60x6 : L60 6 = [4, 5] := (rfl)
theorem fnOk60 : fnOk Tryz.prog 60 = true := by kernel_rfl
theorem rq60 {R : Value → AH → Nat → Prop} {env : Env} {H : AH} {nx : Nat} : retQ Tryz.prog Tryz.f60 R .ret env H nx = onA (eg env 4) (fun a => onA (loadV Tryz.prog H 52 a) fun v => onA (eg env 5) fun u => R (.tuple #[v, u]) H nx) := retQ_cell_tmp rfl (of_decide_eq_true (by kernel_rfl)) (of_decide_eq_true (by kernel_rfl))

/-! 61: slices.Sorted[int] · code of 8 operations -/
def L61 : Nat → List Nat
  | 0 => [0]
  | 1 => [3]
  | 2 => [3]
  | 3 => [2]
  | _ => []
theorem L61x0 : L61 0 = [0] := (rfl)
theorem L61x1 : L61 1 = [3] := (rfl)
theorem L61x2 : L61 2 = [3] := (rfl)
theorem L61x3 : L61 3 = [2] := (rfl)
theorem fnOk61 : fnOk Tryz.prog 61 = true := by kernel_rfl
theorem rq61 {R : Value → AH → Nat → Prop} {env : Env} {H : AH} {nx : Nat} : retQ Tryz.prog Tryz.f61 R .ret env H nx = onV (eg env 2) R H nx := retQ_one rfl (of_decide_eq_true (by kernel_rfl))

/-! 62: maps.Keys[map[int]*milestone/link.Link,int,*milestone/link.Link] · code of 4 operations -/
def L62 : Nat → List Nat
  | 0 => [1]
  | 1 => [2]
  | _ => []
theorem L62x0 : L62 0 = [1] := (rfl)
theorem L62x1 : L62 1 = [2] := (rfl)
theorem fnOk62 : fnOk Tryz.prog 62 = true := by kernel_rfl
theorem rq62 {R : Value → AH → Nat → Prop} {env : Env} {H : AH} {nx : Nat} : retQ Tryz.prog Tryz.f62 R .ret env H nx = onV (eg env 2) R H nx := retQ_one rfl (of_decide_eq_true (by kernel_rfl))

/-! 63: (*milestone/link.Link).Receives · code of 14 operations -/
def L63 : Nat → List Nat
  | 0 => [0]
  | 1 => [13]
  | 2 => [2]
  | 3 => [2]
  | _ => []
theorem L63x0 : L63 0 = [0] := (rfl)
theorem L63x1 : L63 1 = [13] := (rfl)
theorem L63x2 : L63 2 = [2] := (rfl)
theorem L63x3 : L63 3 = [2] := (rfl)
theorem fnOk63 : fnOk Tryz.prog 63 = true := by kernel_rfl
theorem rq63 {R : Value → AH → Nat → Prop} {env : Env} {H : AH} {nx : Nat} : retQ Tryz.prog Tryz.f63 R .ret env H nx = onV (eg env 2) R H nx := retQ_one rfl (of_decide_eq_true (by kernel_rfl))

/-! 64: milestone/engine.may · code of 6 operations -/
def L64 : Nat → List Nat
  | 0 => [1, 2]
  | 1 => [4]
  | _ => []
theorem L64x0 : L64 0 = [1, 2] := (rfl)
theorem L64x1 : L64 1 = [4] := (rfl)
theorem fnOk64 : fnOk Tryz.prog 64 = true := by kernel_rfl
theorem rq64 {R : Value → AH → Nat → Prop} {env : Env} {H : AH} {nx : Nat} : retQ Tryz.prog Tryz.f64 R .ret env H nx = onV (eg env 4) R H nx := retQ_one rfl (of_decide_eq_true (by kernel_rfl))

/-! 65: (*milestone/link.Link).Tick · code of 52 operations -/
def L65 : Nat → List Nat
  | 0 => [0, 1, 5]
  | 1 => [0, 1, 18]
  | 2 => [0, 1]
  | 3 => [0, 48]
  | 4 => []
  | _ => []
theorem L65x0 : L65 0 = [0, 1, 5] := (rfl)
theorem L65x1 : L65 1 = [0, 1, 18] := (rfl)
theorem L65x2 : L65 2 = [0, 1] := (rfl)
theorem L65x3 : L65 3 = [0, 48] := (rfl)
theorem L65x4 : L65 4 = [] := (rfl)
def ord65x2 : List Nat := [0, 1, 2, 3, 4, 5, 6, 7, 8, 9, 10, 11, 12, 13, 14, 15, 16, 17, 18, 19, 20, 21, 22, 23, 24, 25, 26]
theorem fnOk65 : fnOk Tryz.prog 65 = true := by kernel_rfl
theorem rq65 {R : Value → AH → Nat → Prop} {env : Env} {H : AH} {nx : Nat} : retQ Tryz.prog Tryz.f65 R .ret env H nx = R (.tuple #[]) H nx := retQ_none rfl

/-! 66: (*milestone/link.Link).Alive · code of 11 operations -/
def L66 : Nat → List Nat
  | 0 => [0]
  | 1 => [2]
  | _ => []
theorem L66x0 : L66 0 = [0] := (rfl)
theorem L66x1 : L66 1 = [2] := (rfl)
theorem fnOk66 : fnOk Tryz.prog 66 = true := by kernel_rfl
theorem rq66 {R : Value → AH → Nat → Prop} {env : Env} {H : AH} {nx : Nat} : retQ Tryz.prog Tryz.f66 R .ret env H nx = onV (eg env 2) R H nx := retQ_one rfl (of_decide_eq_true (by kernel_rfl))

/-! 67: (*milestone/routes.Routes).Drop · code of 13 operations -/
def L67 : Nat → List Nat
  | 0 => [0, 3]
  | 1 => [0, 3, 5]
  | 2 => []
  | _ => []
theorem L67x0 : L67 0 = [0, 3] := (rfl)
theorem L67x1 : L67 1 = [0, 3, 5] := (rfl)
theorem L67x2 : L67 2 = [] := (rfl)
theorem fnOk67 : fnOk Tryz.prog 67 = true := by kernel_rfl
theorem rq67 {R : Value → AH → Nat → Prop} {env : Env} {H : AH} {nx : Nat} : retQ Tryz.prog Tryz.f67 R .ret env H nx = R (.tuple #[]) H nx := retQ_none rfl

/-! 68: (*milestone/routes.Routes).Tick · code of 13 operations -/
def L68 : Nat → List Nat
  | 0 => [0, 3]
  | 1 => [0, 3, 5]
  | 2 => []
  | _ => []
theorem L68x0 : L68 0 = [0, 3] := (rfl)
theorem L68x1 : L68 1 = [0, 3, 5] := (rfl)
theorem L68x2 : L68 2 = [] := (rfl)
theorem fnOk68 : fnOk Tryz.prog 68 = true := by kernel_rfl
theorem rq68 {R : Value → AH → Nat → Prop} {env : Env} {H : AH} {nx : Nat} : retQ Tryz.prog Tryz.f68 R .ret env H nx = R (.tuple #[]) H nx := retQ_none rfl

/-! 69: milestone/milestoneref07.Prefixes · code of 66 operations -/
def L69 : Nat → List Nat
  | 0 => [0]
  | 1 => [0, 3]
  | 2 => [0, 3, 4]
  | 3 => [0, 3, 4, 11]
  | 5 => [0, 3, 4, 5]
  | 6 => [0, 3, 4, 5, 6]
  | 7 => [0, 3, 4, 5, 6, 31]
  | 8 => [0, 3, 4, 5, 6]
  | 9 => [0, 3, 4, 5, 6, 45]
  | 10 => [0, 3, 4, 5, 6, 7]
  | 11 => [0, 3, 4, 5, 6, 7]
  | 12 => [0, 3, 4, 6, 7]
  | 13 => [0, 3, 4]
  | 4 => [0, 3, 4]
  | 14 => [2]
  | _ => []
theorem L69x0 : L69 0 = [0] := (rfl)
theorem L69x1 : L69 1 = [0, 3] := (rfl)
theorem L69x2 : L69 2 = [0, 3, 4] := (rfl)
theorem L69x3 : L69 3 = [0, 3, 4, 11] := (rfl)
theorem L69x5 : L69 5 = [0, 3, 4, 5] := (rfl)
theorem L69x6 : L69 6 = [0, 3, 4, 5, 6] := (rfl)
theorem L69x7 : L69 7 = [0, 3, 4, 5, 6, 31] := (rfl)
theorem L69x8 : L69 8 = [0, 3, 4, 5, 6] := (rfl)
theorem L69x9 : L69 9 = [0, 3, 4, 5, 6, 45] := (rfl)
theorem L69x10 : L69 10 = [0, 3, 4, 5, 6, 7] := (rfl)
theorem L69x11 : L69 11 = [0, 3, 4, 5, 6, 7] := (rfl)
theorem L69x12 : L69 12 = [0, 3, 4, 6, 7] := (rfl)
theorem L69x13 : L69 13 = [0, 3, 4] := (rfl)
theorem L69x4 : L69 4 = [0, 3, 4] := (rfl)
theorem L69x14 : L69 14 = [2] := (rfl)
def ord69x7 : List Nat := [0, 1, 2, 3, 4, 5, 6, 7, 8, 9, 10, 11]
def ord69x9 : List Nat := [0, 1, 2, 3, 4, 5, 6, 7, 8, 9, 10, 11]
theorem fnOk69 : fnOk Tryz.prog 69 = true := by kernel_rfl
theorem rq69 {R : Value → AH → Nat → Prop} {env : Env} {H : AH} {nx : Nat} : retQ Tryz.prog Tryz.f69 R .ret env H nx = onV (eg env 2) R H nx := retQ_one rfl (of_decide_eq_true (by kernel_rfl))

theorem ia82 (H : AH) (n b o c : Nat) (kk : IntKind) (i : Int) (h0 : 0 ≤ i) (h1 : i < n) : indexAV Tryz.prog H 82 (.slice (some ⟨b, o, none⟩) n c) (.int kk i) = some (.pointer (some ⟨b, o + i.toNat * 8, none⟩)) := indexAV_slice 82 134 n 8 b o c kk i (by kernel_rfl) h0 h1
/-! 70: milestone/milestoneref07.Row · code of 63 operations -/
def L70 : Nat → List Nat
  | 0 => [0, 3, 4]
  | 1 => [0, 3, 4, 6]
  | 2 => [0, 3, 4, 6, 7]
  | 3 => [0, 3, 4, 6, 7, 8]
  | 4 => [0, 3, 4, 6, 7, 8, 16]
  | 6 => [0, 3, 4, 6, 7, 8, 9]
  | 7 => [0, 3, 4, 6, 7, 8, 9, 27]
  | 8 => [0, 3, 4, 6, 7, 8, 9]
  | 9 => [0, 3, 4, 6, 7, 8, 9]
  | 10 => [0, 3, 4, 6, 7, 8, 9, 36]
  | 11 => [0, 3, 4, 6, 7, 8, 10]
  | 12 => [0, 3, 4, 6, 8, 10, 51]
  | 13 => [0, 3, 4, 6, 8]
  | 14 => [0, 3, 4, 6, 7, 8]
  | 5 => [0, 3, 4, 6, 7, 8]
  | 15 => [4, 5]
  | _ => []
theorem L70x0 : L70 0 = [0, 3, 4] := (rfl)
theorem L70x1 : L70 1 = [0, 3, 4, 6] := (rfl)
theorem L70x2 : L70 2 = [0, 3, 4, 6, 7] := (rfl)
theorem L70x3 : L70 3 = [0, 3, 4, 6, 7, 8] := (rfl)
theorem L70x4 : L70 4 = [0, 3, 4, 6, 7, 8, 16] := (rfl)
theorem L70x6 : L70 6 = [0, 3, 4, 6, 7, 8, 9] := (rfl)
theorem L70x7 : L70 7 = [0, 3, 4, 6, 7, 8, 9, 27] := (rfl)
theorem L70x8 : L70 8 = [0, 3, 4, 6, 7, 8, 9] := (rfl)
theorem L70x9 : L70 9 = [0, 3, 4, 6, 7, 8, 9] := (rfl)
theorem L70x10 : L70 10 = [0, 3, 4, 6, 7, 8, 9, 36] := (rfl)
theorem L70x11 : L70 11 = [0, 3, 4, 6, 7, 8, 10] := (rfl)
theorem L70x12 : L70 12 = [0, 3, 4, 6, 8, 10, 51] := (rfl)
theorem L70x13 : L70 13 = [0, 3, 4, 6, 8] := (rfl)
theorem L70x14 : L70 14 = [0, 3, 4, 6, 7, 8] := (rfl)
theorem L70x5 : L70 5 = [0, 3, 4, 6, 7, 8] := (rfl)
theorem L70x15 : L70 15 = [4, 5] := (rfl)
theorem fnOk70 : fnOk Tryz.prog 70 = true := by kernel_rfl
theorem rq70 {R : Value → AH → Nat → Prop} {env : Env} {H : AH} {nx : Nat} : retQ Tryz.prog Tryz.f70 R .ret env H nx = onA (eg env 4) (fun a => onA (loadV Tryz.prog H 71 a) fun v => onA (eg env 5) fun u => R (.tuple #[v, u]) H nx) := retQ_cell_tmp rfl (of_decide_eq_true (by kernel_rfl)) (of_decide_eq_true (by kernel_rfl))

theorem bd71x0 (H : AH) (v0x0 : Value) (v0x1 : Value) : buildV Tryz.prog H 71 #[(0, .agg #[v0x0, v0x1])] = some (.agg #[v0x0, v0x1, (.bool false), (.int .u32 0), (.int .u8 0), (.int .i64 0), (.int .u16 0), (.int .u16 0), (.int .u16 0), (.int .u16 0)]) := build_by (pl := fun i => (#[(0, 2), (2, 1), (3, 5), (8, 2)] : Array (Nat × Nat))[i]?) (by kernel_rfl) zero71 (by simp [Instr.fill, cells_agg, cells_int, cells_bool, cells_slice, cells_ptr, cells_str, cells_map])
theorem fa71x2 (H : AH) (b o : Nat) : fieldAV Tryz.prog H 71 2 (.pointer (some ⟨b, o, none⟩)) = some (.pointer (some ⟨b, o + 3, none⟩)) := fieldAV_eq 71 2 b o true 4 3 (by kernel_rfl)
/-! 71: milestone/routes.New · code of 4 operations -/
def L71 : Nat → List Nat
  | 0 => []
  | 1 => [0]
  | _ => []
theorem L71x0 : L71 0 = [] := (rfl)
theorem L71x1 : L71 1 = [0] := (rfl)
theorem fnOk71 : fnOk Tryz.prog 71 = true := by kernel_rfl
theorem rq71 {R : Value → AH → Nat → Prop} {env : Env} {H : AH} {nx : Nat} : retQ Tryz.prog Tryz.f71 R .ret env H nx = onV (eg env 0) R H nx := retQ_one rfl (of_decide_eq_true (by kernel_rfl))

theorem zero146 : zeroT Tryz.prog 146 = some (.agg #[(.slice none 0 0)]) := by kernel_rfl
theorem bd0x146 (H : AH) : buildV Tryz.prog H 146 #[] = some (.agg #[(.slice none 0 0)]) := build_zero (by kernel_rfl) zero146
/-! 72: milestone/source.Of · code of 21 operations -/
def L72 : Nat → List Nat
  | 0 => [0]
  | 1 => [0, 3]
  | 2 => [3, 7, 8, 9]
  | 3 => [3, 7, 8, 9, 10]
  | 4 => [3, 5, 7, 8, 9]
  | 5 => [3, 7, 8, 9]
  | 6 => [3, 7, 8, 9]
  | 7 => [2]
  | _ => []
theorem L72x0 : L72 0 = [0] := (rfl)
theorem L72x1 : L72 1 = [0, 3] := (rfl)
theorem L72x2 : L72 2 = [3, 7, 8, 9] := (rfl)
theorem L72x3 : L72 3 = [3, 7, 8, 9, 10] := (rfl)
theorem L72x4 : L72 4 = [3, 5, 7, 8, 9] := (rfl)
theorem L72x5 : L72 5 = [3, 7, 8, 9] := (rfl)
theorem L72x6 : L72 6 = [3, 7, 8, 9] := (rfl)
theorem L72x7 : L72 7 = [2] := (rfl)
theorem fnOk72 : fnOk Tryz.prog 72 = true := by kernel_rfl
theorem rq72 {R : Value → AH → Nat → Prop} {env : Env} {H : AH} {nx : Nat} : retQ Tryz.prog Tryz.f72 R .ret env H nx = onV (eg env 2) R H nx := retQ_one rfl (of_decide_eq_true (by kernel_rfl))

/-! 73: milestone/prefix.Right · code of 15 operations -/
def L73 : Nat → List Nat
  | 0 => [1]
  | 1 => [2]
  | _ => []
theorem L73x0 : L73 0 = [1] := (rfl)
theorem L73x1 : L73 1 = [2] := (rfl)
def ord73x1 : List Nat := [0, 1, 2, 3, 4, 5, 6, 7, 8, 9, 10, 11, 12]
theorem fnOk73 : fnOk Tryz.prog 73 = true := by kernel_rfl
theorem rq73 {R : Value → AH → Nat → Prop} {env : Env} {H : AH} {nx : Nat} : retQ Tryz.prog Tryz.f73 R .ret env H nx = onV (eg env 2) R H nx := retQ_one rfl (of_decide_eq_true (by kernel_rfl))

/-! 74: milestone/milestoneref01.Bit · code of 13 operations -/
def L74 : Nat → List Nat
  | 0 => [0, 1]
  | 1 => [0, 1, 6]
  | 3 => [0, 1]
  | 2 => [0, 1]
  | 4 => [4]
  | _ => []
theorem L74x0 : L74 0 = [0, 1] := (rfl)
theorem L74x1 : L74 1 = [0, 1, 6] := (rfl)
theorem L74x3 : L74 3 = [0, 1] := (rfl)
theorem L74x2 : L74 2 = [0, 1] := (rfl)
theorem L74x4 : L74 4 = [4] := (rfl)
theorem fnOk74 : fnOk Tryz.prog 74 = true := by kernel_rfl
theorem rq74 {R : Value → AH → Nat → Prop} {env : Env} {H : AH} {nx : Nat} : retQ Tryz.prog Tryz.f74 R .ret env H nx = onV (eg env 4) R H nx := retQ_one rfl (of_decide_eq_true (by kernel_rfl))

/-! 75: (*milestone/routes.Routes).find · code of 10 operations -/
def L75 : Nat → List Nat
  | 0 => [0, 4, 5]
  | 1 => [6]
  | _ => []
theorem L75x0 : L75 0 = [0, 4, 5] := (rfl)
theorem L75x1 : L75 1 = [6] := (rfl)
theorem fnOk75 : fnOk Tryz.prog 75 = true := by kernel_rfl
theorem rq75 {R : Value → AH → Nat → Prop} {env : Env} {H : AH} {nx : Nat} : retQ Tryz.prog Tryz.f75 R .ret env H nx = onV (eg env 6) R H nx := retQ_one rfl (of_decide_eq_true (by kernel_rfl))

/-! 76: slices.Delete[[]milestone/routes.Told,milestone/routes.Told] · code of 31 operations -/
def L76 : Nat → List Nat
  | 0 => [0, 1, 2]
  | 1 => [0, 1, 2]
  | 2 => [0, 1, 2, 16]
  | 3 => [6]
  | 4 => [0, 1, 2, 7]
  | 5 => [0, 7]
  | 6 => [0]
  | 7 => [6]
  | _ => []
theorem L76x0 : L76 0 = [0, 1, 2] := (rfl)
theorem L76x1 : L76 1 = [0, 1, 2] := (rfl)
theorem L76x2 : L76 2 = [0, 1, 2, 16] := (rfl)
theorem L76x3 : L76 3 = [6] := (rfl)
theorem L76x4 : L76 4 = [0, 1, 2, 7] := (rfl)
theorem L76x5 : L76 5 = [0, 7] := (rfl)
theorem L76x6 : L76 6 = [0] := (rfl)
theorem L76x7 : L76 7 = [6] := (rfl)
def ord76x5 : List Nat := [0, 1, 2, 3, 4, 5, 6, 7]
theorem fnOk76 : fnOk Tryz.prog 76 = true := by kernel_rfl
theorem rq76 {R : Value → AH → Nat → Prop} {env : Env} {H : AH} {nx : Nat} : retQ Tryz.prog Tryz.f76 R .ret env H nx = onV (eg env 6) R H nx := retQ_one rfl (of_decide_eq_true (by kernel_rfl))

-- builtin Go.Builtin.clear
/-! 77: milestone/serial.Newer · code of 11 operations -/
def L77 : Nat → List Nat
  | 0 => [0, 1]
  | 1 => [4]
  | _ => []
theorem L77x0 : L77 0 = [0, 1] := (rfl)
theorem L77x1 : L77 1 = [4] := (rfl)
theorem fnOk77 : fnOk Tryz.prog 77 = true := by kernel_rfl
theorem rq77 {R : Value → AH → Nat → Prop} {env : Env} {H : AH} {nx : Nat} : retQ Tryz.prog Tryz.f77 R .ret env H nx = onV (eg env 4) R H nx := retQ_one rfl (of_decide_eq_true (by kernel_rfl))

/-! 78: milestone/serial.Next · code of 6 operations -/
def L78 : Nat → List Nat
  | 0 => [0, 1]
  | 1 => [4]
  | _ => []
theorem L78x0 : L78 0 = [0, 1] := (rfl)
theorem L78x1 : L78 1 = [4] := (rfl)
theorem fnOk78 : fnOk Tryz.prog 78 = true := by kernel_rfl
theorem rq78 {R : Value → AH → Nat → Prop} {env : Env} {H : AH} {nx : Nat} : retQ Tryz.prog Tryz.f78 R .ret env H nx = onV (eg env 4) R H nx := retQ_one rfl (of_decide_eq_true (by kernel_rfl))

/-! 79: (*milestone/source.Source).find · code of 13 operations -/
def L79 : Nat → List Nat
  | 0 => [0, 3]
  | 1 => [4, 5]
  | _ => []
theorem L79x0 : L79 0 = [0, 3] := (rfl)
theorem L79x1 : L79 1 = [4, 5] := (rfl)
def ord79x1 : List Nat := [0, 1, 2, 3, 4, 5, 6, 7, 8, 9]
theorem fnOk79 : fnOk Tryz.prog 79 = true := by kernel_rfl
theorem rq79 {R : Value → AH → Nat → Prop} {env : Env} {H : AH} {nx : Nat} : retQ Tryz.prog Tryz.f79 R .ret env H nx = onA (eg env 4) (fun v => onA (eg env 5) fun u => R (.tuple #[v, u]) H nx) := retQ_two rfl (of_decide_eq_true (by kernel_rfl)) (of_decide_eq_true (by kernel_rfl))

/-! 80: milestone/serial.Best · code of 10 operations -/
def L80 : Nat → List Nat
  | 0 => [2, 3, 4]
  | 1 => [2, 3, 4, 7]
  | 2 => [4]
  | 3 => [4]
  | _ => []
theorem L80x0 : L80 0 = [2, 3, 4] := (rfl)
theorem L80x1 : L80 1 = [2, 3, 4, 7] := (rfl)
theorem L80x2 : L80 2 = [4] := (rfl)
theorem L80x3 : L80 3 = [4] := (rfl)
theorem fnOk80 : fnOk Tryz.prog 80 = true := by kernel_rfl
theorem rq80 {R : Value → AH → Nat → Prop} {env : Env} {H : AH} {nx : Nat} : retQ Tryz.prog Tryz.f80 R .ret env H nx = onA (eg env 4) (fun a => onV (loadV Tryz.prog H 52 a) R H nx) := retQ_cell rfl (of_decide_eq_true (by kernel_rfl))

/-! 81: slices.Insert[[]milestone/source.entry,milestone/source.entry] · code of 95 operations -/
def L81 : Nat → List Nat
  | 0 => [0, 1, 2]
  | 1 => [0, 1, 2]
  | 2 => [0, 1, 2, 7]
  | 3 => [0, 1, 2, 7, 16]
  | 4 => [6]
  | 5 => [0, 1, 2, 7, 8]
  | 6 => [0, 1, 2, 7, 8, 22]
  | 7 => [6]
  | 8 => [0, 1, 2, 7, 8, 31]
  | 9 => [0, 1, 2, 7, 9]
  | 10 => [0, 1, 7, 9]
  | 11 => [9]
  | 12 => [6]
  | 13 => [0, 1, 2, 7, 8]
  | 14 => [0, 1, 2, 7, 8, 68]
  | 15 => [0, 1, 2]
  | 16 => [0]
  | 17 => [6]
  | 18 => [0, 1, 7]
  | 19 => [0]
  | 20 => [6]
  | _ => []
theorem L81x0 : L81 0 = [0, 1, 2] := (rfl)
theorem L81x1 : L81 1 = [0, 1, 2] := (rfl)
theorem L81x2 : L81 2 = [0, 1, 2, 7] := (rfl)
theorem L81x3 : L81 3 = [0, 1, 2, 7, 16] := (rfl)
theorem L81x4 : L81 4 = [6] := (rfl)
theorem L81x5 : L81 5 = [0, 1, 2, 7, 8] := (rfl)
theorem L81x6 : L81 6 = [0, 1, 2, 7, 8, 22] := (rfl)
theorem L81x7 : L81 7 = [6] := (rfl)
theorem L81x8 : L81 8 = [0, 1, 2, 7, 8, 31] := (rfl)
theorem L81x9 : L81 9 = [0, 1, 2, 7, 9] := (rfl)
theorem L81x10 : L81 10 = [0, 1, 7, 9] := (rfl)
theorem L81x11 : L81 11 = [9] := (rfl)
theorem L81x12 : L81 12 = [6] := (rfl)
theorem L81x13 : L81 13 = [0, 1, 2, 7, 8] := (rfl)
theorem L81x14 : L81 14 = [0, 1, 2, 7, 8, 68] := (rfl)
theorem L81x15 : L81 15 = [0, 1, 2] := (rfl)
theorem L81x16 : L81 16 = [0] := (rfl)
theorem L81x17 : L81 17 = [6] := (rfl)
theorem L81x18 : L81 18 = [0, 1, 7] := (rfl)
theorem L81x19 : L81 19 = [0] := (rfl)
theorem L81x20 : L81 20 = [6] := (rfl)
def ord81x11 : List Nat := [0, 1, 2, 3, 4, 5, 6, 7, 8]
def ord81x15 : List Nat := [0, 1, 2, 3, 4, 5, 6, 7, 8]
theorem fnOk81 : fnOk Tryz.prog 81 = true := by kernel_rfl
theorem rq81 {R : Value → AH → Nat → Prop} {env : Env} {H : AH} {nx : Nat} : retQ Tryz.prog Tryz.f81 R .ret env H nx = onV (eg env 6) R H nx := retQ_one rfl (of_decide_eq_true (by kernel_rfl))

theorem by152 : bytesT Tryz.prog 152 = some 12 := by kernel_rfl
-- builtin Go.Builtin.cap
-- builtin Go.Builtin.copy
/-! 82: slices.Collect[milestone/api.Prefix] · code of 4 operations -/
def L82 : Nat → List Nat
  | 0 => [0]
  | 1 => [2]
  | _ => []
theorem L82x0 : L82 0 = [0] := (rfl)
theorem L82x1 : L82 1 = [2] := (rfl)
theorem fnOk82 : fnOk Tryz.prog 82 = true := by kernel_rfl
theorem rq82 {R : Value → AH → Nat → Prop} {env : Env} {H : AH} {nx : Nat} : retQ Tryz.prog Tryz.f82 R .ret env H nx = onV (eg env 2) R H nx := retQ_one rfl (of_decide_eq_true (by kernel_rfl))

/-! 83: slices.SortFunc[[]milestone/api.Prefix,milestone/api.Prefix] · code of 10 operations -/
def L83 : Nat → List Nat
  | 0 => [0, 1, 4]
  | 1 => []
  | _ => []
theorem L83x0 : L83 0 = [0, 1, 4] := (rfl)
theorem L83x1 : L83 1 = [] := (rfl)
theorem fnOk83 : fnOk Tryz.prog 83 = true := by kernel_rfl
theorem rq83 {R : Value → AH → Nat → Prop} {env : Env} {H : AH} {nx : Nat} : retQ Tryz.prog Tryz.f83 R .ret env H nx = R (.tuple #[]) H nx := retQ_none rfl

/-! 84: maps.Keys[map[milestone/api.Prefix]uint16,milestone/api.Prefix,uint16]$1 · code of 12 operations -/
def L84 : Nat → List Nat
  | 0 => [0, 5]
  | 1 => [0, 5, 7]
  | 2 => [0, 3, 5]
  | 3 => [0, 5, 13]
  | _ => []
theorem L84x0 : L84 0 = [0, 5] := (rfl)
theorem L84x1 : L84 1 = [0, 5, 7] := (rfl)
theorem L84x2 : L84 2 = [0, 3, 5] := (rfl)
theorem L84x3 : L84 3 = [0, 5, 13] := (rfl)
theorem fnOk84 : fnOk Tryz.prog 84 = true := by kernel_rfl
theorem rq84 {R : Value → AH → Nat → Prop} {env : Env} {H : AH} {nx : Nat} : retQ Tryz.prog Tryz.f84 R .ret env H nx = R (.tuple #[]) H nx := retQ_none rfl

/-! 85: cmp.Or[int] · code of 18 operations -/
def L85 : Nat → List Nat
  | 0 => [0]
  | 1 => [0, 3]
  | 2 => [3, 6, 7, 8]
  | 3 => [3, 6, 7, 8, 9]
  | 4 => [3, 5, 6, 7, 8]
  | 5 => [3, 5, 6, 7, 8, 14]
  | 6 => [2]
  | 7 => [3, 6, 7, 8]
  | 8 => [2]
  | _ => []
theorem L85x0 : L85 0 = [0] := (rfl)
theorem L85x1 : L85 1 = [0, 3] := (rfl)
theorem L85x2 : L85 2 = [3, 6, 7, 8] := (rfl)
theorem L85x3 : L85 3 = [3, 6, 7, 8, 9] := (rfl)
theorem L85x4 : L85 4 = [3, 5, 6, 7, 8] := (rfl)
theorem L85x5 : L85 5 = [3, 5, 6, 7, 8, 14] := (rfl)
theorem L85x6 : L85 6 = [2] := (rfl)
theorem L85x7 : L85 7 = [3, 6, 7, 8] := (rfl)
theorem L85x8 : L85 8 = [2] := (rfl)
theorem fnOk85 : fnOk Tryz.prog 85 = true := by kernel_rfl
theorem rq85 {R : Value → AH → Nat → Prop} {env : Env} {H : AH} {nx : Nat} : retQ Tryz.prog Tryz.f85 R .ret env H nx = onV (eg env 2) R H nx := retQ_one rfl (of_decide_eq_true (by kernel_rfl))

/-! 86: cmp.Compare[uint32] · code of 22 operations -/
def L86 : Nat → List Nat
  | 0 => [0, 1]
  | 1 => [0, 1, 5]
  | 2 => [0, 1, 5, 6]
  | 3 => [0, 1, 6, 11]
  | 4 => [12]
  | 5 => [4]
  | 6 => [4]
  | 7 => [0, 1, 13]
  | 8 => [4]
  | 9 => [0, 1, 16]
  | 10 => [4]
  | 11 => [19]
  | 12 => [4]
  | 13 => [4]
  | _ => []
theorem L86x0 : L86 0 = [0, 1] := (rfl)
theorem L86x1 : L86 1 = [0, 1, 5] := (rfl)
theorem L86x2 : L86 2 = [0, 1, 5, 6] := (rfl)
theorem L86x3 : L86 3 = [0, 1, 6, 11] := (rfl)
theorem L86x4 : L86 4 = [12] := (rfl)
theorem L86x5 : L86 5 = [4] := (rfl)
theorem L86x6 : L86 6 = [4] := (rfl)
theorem L86x7 : L86 7 = [0, 1, 13] := (rfl)
theorem L86x8 : L86 8 = [4] := (rfl)
theorem L86x9 : L86 9 = [0, 1, 16] := (rfl)
theorem L86x10 : L86 10 = [4] := (rfl)
theorem L86x11 : L86 11 = [19] := (rfl)
theorem L86x12 : L86 12 = [4] := (rfl)
theorem L86x13 : L86 13 = [4] := (rfl)
theorem fnOk86 : fnOk Tryz.prog 86 = true := by kernel_rfl
theorem rq86 {R : Value → AH → Nat → Prop} {env : Env} {H : AH} {nx : Nat} : retQ Tryz.prog Tryz.f86 R .ret env H nx = onV (eg env 4) R H nx := retQ_one rfl (of_decide_eq_true (by kernel_rfl))

/-! 87: cmp.Compare[uint8] · code of 22 operations -/
def L87 : Nat → List Nat
  | 0 => [0, 1]
  | 1 => [0, 1, 5]
  | 2 => [0, 1, 5, 6]
  | 3 => [0, 1, 6, 11]
  | 4 => [12]
  | 5 => [4]
  | 6 => [4]
  | 7 => [0, 1, 13]
  | 8 => [4]
  | 9 => [0, 1, 16]
  | 10 => [4]
  | 11 => [19]
  | 12 => [4]
  | 13 => [4]
  | _ => []
theorem L87x0 : L87 0 = [0, 1] := (rfl)
theorem L87x1 : L87 1 = [0, 1, 5] := (rfl)
theorem L87x2 : L87 2 = [0, 1, 5, 6] := (rfl)
theorem L87x3 : L87 3 = [0, 1, 6, 11] := (rfl)
theorem L87x4 : L87 4 = [12] := (rfl)
theorem L87x5 : L87 5 = [4] := (rfl)
theorem L87x6 : L87 6 = [4] := (rfl)
theorem L87x7 : L87 7 = [0, 1, 13] := (rfl)
theorem L87x8 : L87 8 = [4] := (rfl)
theorem L87x9 : L87 9 = [0, 1, 16] := (rfl)
theorem L87x10 : L87 10 = [4] := (rfl)
theorem L87x11 : L87 11 = [19] := (rfl)
theorem L87x12 : L87 12 = [4] := (rfl)
theorem L87x13 : L87 13 = [4] := (rfl)
theorem fnOk87 : fnOk Tryz.prog 87 = true := by kernel_rfl
theorem rq87 {R : Value → AH → Nat → Prop} {env : Env} {H : AH} {nx : Nat} : retQ Tryz.prog Tryz.f87 R .ret env H nx = onV (eg env 4) R H nx := retQ_one rfl (of_decide_eq_true (by kernel_rfl))

/-! 88: (*milestone/link.Link).Cost · code of 14 operations -/
def L88 : Nat → List Nat
  | 0 => [0]
  | 1 => [0, 9]
  | 2 => [2]
  | 3 => [2]
  | _ => []
theorem L88x0 : L88 0 = [0] := (rfl)
theorem L88x1 : L88 1 = [0, 9] := (rfl)
theorem L88x2 : L88 2 = [2] := (rfl)
theorem L88x3 : L88 3 = [2] := (rfl)
theorem fnOk88 : fnOk Tryz.prog 88 = true := by kernel_rfl
theorem rq88 {R : Value → AH → Nat → Prop} {env : Env} {H : AH} {nx : Nat} : retQ Tryz.prog Tryz.f88 R .ret env H nx = onV (eg env 2) R H nx := retQ_one rfl (of_decide_eq_true (by kernel_rfl))

/-! 89: (*milestone/routes.Routes).All · code of 14 operations -/
def L89 : Nat → List Nat
  | 0 => [0]
  | 1 => [0, 5]
  | 2 => [2]
  | 3 => [3]
  | 4 => [3]
  | 5 => [2]
  | _ => []
theorem L89x0 : L89 0 = [0] := (rfl)
theorem L89x1 : L89 1 = [0, 5] := (rfl)
theorem L89x2 : L89 2 = [2] := (rfl)
theorem L89x3 : L89 3 = [3] := (rfl)
theorem L89x4 : L89 4 = [3] := (rfl)
theorem L89x5 : L89 5 = [2] := (rfl)
theorem fnOk89 : fnOk Tryz.prog 89 = true := by kernel_rfl
theorem rq89 {R : Value → AH → Nat → Prop} {env : Env} {H : AH} {nx : Nat} : retQ Tryz.prog Tryz.f89 R .ret env H nx = onV (eg env 2) R H nx := retQ_one rfl (of_decide_eq_true (by kernel_rfl))

/-! 90: (*milestone/source.Source).Feasible · code of 25 operations -/
def L90 : Nat → List Nat
  | 0 => [0, 4, 5]
  | 1 => [5, 7, 8]
  | 2 => [6]
  | _ => []
theorem L90x0 : L90 0 = [0, 4, 5] := (rfl)
theorem L90x1 : L90 1 = [5, 7, 8] := (rfl)
theorem L90x2 : L90 2 = [6] := (rfl)
theorem fnOk90 : fnOk Tryz.prog 90 = true := by kernel_rfl
theorem rq90 {R : Value → AH → Nat → Prop} {env : Env} {H : AH} {nx : Nat} : retQ Tryz.prog Tryz.f90 R .ret env H nx = onV (eg env 6) R H nx := retQ_one rfl (of_decide_eq_true (by kernel_rfl))

/-! 91: slices.pdqsortCmpFunc[milestone/api.Route] · code of 147 operations -/
def L91 : Nat → List Nat
  | 0 => [0, 1, 2, 3, 4, 10]
  | 1 => [0, 1, 2, 3, 4, 10, 11]
  | 2 => [0, 1, 2, 3, 4, 10, 11, 12]
  | 3 => [0, 1, 2, 3, 4, 10, 11, 12, 25]
  | 4 => []
  | 5 => [0, 1, 2, 3, 4, 10, 11, 12, 32]
  | 6 => []
  | 7 => [0, 1, 2, 3, 4, 10, 11, 12, 39]
  | 8 => [0, 1, 2, 3, 4, 10, 11, 12]
  | 9 => [0, 1, 2, 3, 4, 10, 11, 12]
  | 10 => [0, 1, 2, 3, 4, 10, 11, 12, 13, 14]
  | 11 => [0, 1, 2, 3, 4, 10, 11, 12, 13, 14, 56]
  | 12 => [0, 1, 2, 3, 4, 10, 11, 12, 13]
  | 13 => [0, 1, 2, 3, 4, 10, 11, 12, 13]
  | 14 => [0, 1, 2, 3, 4, 10, 11, 12, 13, 14]
  | 15 => [0, 1, 2, 3, 4, 10, 11, 12, 13, 75]
  | 16 => [0, 1, 2, 3, 4, 10, 11, 12, 13, 80]
  | 17 => [0, 1, 2, 3, 4, 10, 11, 12, 13, 97]
  | 18 => [0, 2, 3, 4, 10, 11, 15]
  | 19 => [0, 1, 2, 3, 4, 10, 11]
  | 20 => [0, 1, 2, 3, 4, 12, 16, 17]
  | 21 => [0, 1, 2, 3, 4, 11, 12, 16]
  | 22 => [0, 1, 2, 3, 4, 11, 12, 16, 18, 19]
  | 23 => [0, 1, 2, 3, 4, 11, 16, 18, 19, 20]
  | 24 => [0, 1, 2, 3, 4, 11, 16, 18, 19, 20, 125]
  | 25 => [0, 1, 2, 3, 4, 10, 11, 16]
  | 26 => [0, 2, 3, 4, 10, 11, 16]
  | 27 => [0, 1, 2, 3, 4, 10, 11]
  | 28 => [0, 1, 2, 3, 4, 10, 11, 16]
  | 29 => [0, 1, 3, 4, 10, 11, 16]
  | 30 => [0, 1, 2, 3, 4, 10, 11]
  | _ => []
theorem L91x0 : L91 0 = [0, 1, 2, 3, 4, 10] := (rfl)
theorem L91x1 : L91 1 = [0, 1, 2, 3, 4, 10, 11] := (rfl)
theorem L91x2 : L91 2 = [0, 1, 2, 3, 4, 10, 11, 12] := (rfl)
theorem L91x3 : L91 3 = [0, 1, 2, 3, 4, 10, 11, 12, 25] := (rfl)
theorem L91x4 : L91 4 = [] := (rfl)
theorem L91x5 : L91 5 = [0, 1, 2, 3, 4, 10, 11, 12, 32] := (rfl)
theorem L91x6 : L91 6 = [] := (rfl)
theorem L91x7 : L91 7 = [0, 1, 2, 3, 4, 10, 11, 12, 39] := (rfl)
theorem L91x8 : L91 8 = [0, 1, 2, 3, 4, 10, 11, 12] := (rfl)
theorem L91x9 : L91 9 = [0, 1, 2, 3, 4, 10, 11, 12] := (rfl)
theorem L91x10 : L91 10 = [0, 1, 2, 3, 4, 10, 11, 12, 13, 14] := (rfl)
theorem L91x11 : L91 11 = [0, 1, 2, 3, 4, 10, 11, 12, 13, 14, 56] := (rfl)
theorem L91x12 : L91 12 = [0, 1, 2, 3, 4, 10, 11, 12, 13] := (rfl)
theorem L91x13 : L91 13 = [0, 1, 2, 3, 4, 10, 11, 12, 13] := (rfl)
theorem L91x14 : L91 14 = [0, 1, 2, 3, 4, 10, 11, 12, 13, 14] := (rfl)
theorem L91x15 : L91 15 = [0, 1, 2, 3, 4, 10, 11, 12, 13, 75] := (rfl)
theorem L91x16 : L91 16 = [0, 1, 2, 3, 4, 10, 11, 12, 13, 80] := (rfl)
theorem L91x17 : L91 17 = [0, 1, 2, 3, 4, 10, 11, 12, 13, 97] := (rfl)
theorem L91x18 : L91 18 = [0, 2, 3, 4, 10, 11, 15] := (rfl)
theorem L91x19 : L91 19 = [0, 1, 2, 3, 4, 10, 11] := (rfl)
theorem L91x20 : L91 20 = [0, 1, 2, 3, 4, 12, 16, 17] := (rfl)
theorem L91x21 : L91 21 = [0, 1, 2, 3, 4, 11, 12, 16] := (rfl)
theorem L91x22 : L91 22 = [0, 1, 2, 3, 4, 11, 12, 16, 18, 19] := (rfl)
theorem L91x23 : L91 23 = [0, 1, 2, 3, 4, 11, 16, 18, 19, 20] := (rfl)
theorem L91x24 : L91 24 = [0, 1, 2, 3, 4, 11, 16, 18, 19, 20, 125] := (rfl)
theorem L91x25 : L91 25 = [0, 1, 2, 3, 4, 10, 11, 16] := (rfl)
theorem L91x26 : L91 26 = [0, 2, 3, 4, 10, 11, 16] := (rfl)
theorem L91x27 : L91 27 = [0, 1, 2, 3, 4, 10, 11] := (rfl)
theorem L91x28 : L91 28 = [0, 1, 2, 3, 4, 10, 11, 16] := (rfl)
theorem L91x29 : L91 29 = [0, 1, 3, 4, 10, 11, 16] := (rfl)
theorem L91x30 : L91 30 = [0, 1, 2, 3, 4, 10, 11] := (rfl)
def ord91x17 : List Nat := [0, 1, 2, 3, 4, 5, 6, 7, 8, 9, 10, 11, 12, 13, 14, 15, 16]
theorem fnOk91 : fnOk Tryz.prog 91 = true := by kernel_rfl
theorem rq91 {R : Value → AH → Nat → Prop} {env : Env} {H : AH} {nx : Nat} : retQ Tryz.prog Tryz.f91 R .ret env H nx = R (.tuple #[]) H nx := retQ_none rfl

/-! 92: math/bits.Len · code of 8 operations -/
def L92 : Nat → List Nat
  | 0 => [0]
  | 1 => [2]
  | 2 => [2]
  | _ => []
theorem L92x0 : L92 0 = [0] := (rfl)
theorem L92x1 : L92 1 = [2] := (rfl)
theorem L92x2 : L92 2 = [2] := (rfl)
theorem fnOk92 : fnOk Tryz.prog 92 = true := by kernel_rfl
theorem rq92 {R : Value → AH → Nat → Prop} {env : Env} {H : AH} {nx : Nat} : retQ Tryz.prog Tryz.f92 R .ret env H nx = onV (eg env 2) R H nx := retQ_one rfl (of_decide_eq_true (by kernel_rfl))

theorem cv121x28 (lo : Nat) (k' : IntKind) (n : Int) (K : Value → AH → Nat → Prop) (H : AH) (nx : Nat) : convQ Tryz.prog lo 121 28 (.int k' n) K H nx = K (.int .u32 (IntKind.wrap .u32 n)) H nx := convQ_int (by kernel_rfl) (by kernel_rfl)
theorem cx121x28 (k' : IntKind) (n : Int) (H : AH) : convV Tryz.prog H 121 28 (.int k' n) = some (.int .u32 (IntKind.wrap .u32 n)) := convV_int (by kernel_rfl) (by kernel_rfl)
/-! 93: slices.ContainsFunc[[]milestone/api.Route,milestone/api.Route] · code of 6 operations -/
def L93 : Nat → List Nat
  | 0 => [0, 1]
  | 1 => [4]
  | _ => []
theorem L93x0 : L93 0 = [0, 1] := (rfl)
theorem L93x1 : L93 1 = [4] := (rfl)
theorem fnOk93 : fnOk Tryz.prog 93 = true := by kernel_rfl
theorem rq93 {R : Value → AH → Nat → Prop} {env : Env} {H : AH} {nx : Nat} : retQ Tryz.prog Tryz.f93 R .ret env H nx = onV (eg env 4) R H nx := retQ_one rfl (of_decide_eq_true (by kernel_rfl))

/-! 94: milestone/engine.has$1 · code of 7 operations -/
def L94 : Nat → List Nat
  | 0 => [1, 2]
  | 1 => [3]
  | _ => []
theorem L94x0 : L94 0 = [1, 2] := (rfl)
theorem L94x1 : L94 1 = [3] := (rfl)
theorem fnOk94 : fnOk Tryz.prog 94 = true := by kernel_rfl
theorem rq94 {R : Value → AH → Nat → Prop} {env : Env} {H : AH} {nx : Nat} : retQ Tryz.prog Tryz.f94 R .ret env H nx = onV (eg env 3) R H nx := retQ_one rfl (of_decide_eq_true (by kernel_rfl))

/-! 95: (*milestone/engine.Engine).ask$1 · code of 8 operations -/
def L95 : Nat → List Nat
  | 0 => [1, 2]
  | 1 => [3]
  | _ => []
theorem L95x0 : L95 0 = [1, 2] := (rfl)
theorem L95x1 : L95 1 = [3] := (rfl)
theorem fnOk95 : fnOk Tryz.prog 95 = true := by kernel_rfl
theorem rq95 {R : Value → AH → Nat → Prop} {env : Env} {H : AH} {nx : Nat} : retQ Tryz.prog Tryz.f95 R .ret env H nx = onV (eg env 3) R H nx := retQ_one rfl (of_decide_eq_true (by kernel_rfl))

/-! 96: slices.ContainsFunc[[]milestone/message.Part,milestone/message.Part] · code of 6 operations -/
def L96 : Nat → List Nat
  | 0 => [0, 1]
  | 1 => [4]
  | _ => []
theorem L96x0 : L96 0 = [0, 1] := (rfl)
theorem L96x1 : L96 1 = [4] := (rfl)
theorem fnOk96 : fnOk Tryz.prog 96 = true := by kernel_rfl
theorem rq96 {R : Value → AH → Nat → Prop} {env : Env} {H : AH} {nx : Nat} : retQ Tryz.prog Tryz.f96 R .ret env H nx = onV (eg env 4) R H nx := retQ_one rfl (of_decide_eq_true (by kernel_rfl))

/-! 97: slices.Collect[int] · code of 4 operations -/
def L97 : Nat → List Nat
  | 0 => [0]
  | 1 => [2]
  | _ => []
theorem L97x0 : L97 0 = [0] := (rfl)
theorem L97x1 : L97 1 = [2] := (rfl)
theorem fnOk97 : fnOk Tryz.prog 97 = true := by kernel_rfl
theorem rq97 {R : Value → AH → Nat → Prop} {env : Env} {H : AH} {nx : Nat} : retQ Tryz.prog Tryz.f97 R .ret env H nx = onV (eg env 2) R H nx := retQ_one rfl (of_decide_eq_true (by kernel_rfl))

/-! 98: slices.Sort[[]int,int] · code of 9 operations -/
def L98 : Nat → List Nat
  | 0 => [0, 2]
  | 1 => []
  | _ => []
theorem L98x0 : L98 0 = [0, 2] := (rfl)
theorem L98x1 : L98 1 = [] := (rfl)
theorem fnOk98 : fnOk Tryz.prog 98 = true := by kernel_rfl
theorem rq98 {R : Value → AH → Nat → Prop} {env : Env} {H : AH} {nx : Nat} : retQ Tryz.prog Tryz.f98 R .ret env H nx = R (.tuple #[]) H nx := retQ_none rfl

/-! 99: maps.Keys[map[int]*milestone/link.Link,int,*milestone/link.Link]$1 · code of 11 operations -/
def L99 : Nat → List Nat
  | 0 => [0, 5]
  | 1 => [0, 5, 7]
  | 2 => [0, 3, 5]
  | 3 => [0, 5, 13]
  | _ => []
theorem L99x0 : L99 0 = [0, 5] := (rfl)
theorem L99x1 : L99 1 = [0, 5, 7] := (rfl)
theorem L99x2 : L99 2 = [0, 3, 5] := (rfl)
theorem L99x3 : L99 3 = [0, 5, 13] := (rfl)
theorem fnOk99 : fnOk Tryz.prog 99 = true := by kernel_rfl
theorem rq99 {R : Value → AH → Nat → Prop} {env : Env} {H : AH} {nx : Nat} : retQ Tryz.prog Tryz.f99 R .ret env H nx = R (.tuple #[]) H nx := retQ_none rfl

/-! 100: math/bits.OnesCount16 · code of 10 operations -/
def L100 : Nat → List Nat
  | 0 => [0]
  | 1 => [2]
  | _ => []
theorem L100x0 : L100 0 = [0] := (rfl)
theorem L100x1 : L100 1 = [2] := (rfl)
def ord100x1 : List Nat := [0, 1, 2, 3, 4, 5, 6, 7, 8]
theorem fnOk100 : fnOk Tryz.prog 100 = true := by kernel_rfl
theorem rq100 {R : Value → AH → Nat → Prop} {env : Env} {H : AH} {nx : Nat} : retQ Tryz.prog Tryz.f100 R .ret env H nx = onV (eg env 2) R H nx := retQ_one rfl (of_decide_eq_true (by kernel_rfl))

theorem ix9 (H : AH) (s : ByteArray) (kk : IntKind) (i : Int) (h0 : 0 ≤ i) (h1 : i < s.size) : indexV Tryz.prog H 9 (.string s) (.int kk i) = some (.int .u8 (s.data[i.toNat]!).toNat) := index_str (by kernel_rfl) h0 h1
/-! 101: slices.ContainsFunc[[]milestone/api.Row,milestone/api.Row] · code of 6 operations -/
def L101 : Nat → List Nat
  | 0 => [0, 1]
  | 1 => [4]
  | _ => []
theorem L101x0 : L101 0 = [0, 1] := (rfl)
theorem L101x1 : L101 1 = [4] := (rfl)
theorem fnOk101 : fnOk Tryz.prog 101 = true := by kernel_rfl
theorem rq101 {R : Value → AH → Nat → Prop} {env : Env} {H : AH} {nx : Nat} : retQ Tryz.prog Tryz.f101 R .ret env H nx = onV (eg env 4) R H nx := retQ_one rfl (of_decide_eq_true (by kernel_rfl))

/-! 102: milestone/engine.may$1 · code of 19 operations -/
def L102 : Nat → List Nat
  | 0 => [1, 2]
  | 1 => [3]
  | _ => []
theorem L102x0 : L102 0 = [1, 2] := (rfl)
theorem L102x1 : L102 1 = [3] := (rfl)
theorem fnOk102 : fnOk Tryz.prog 102 = true := by kernel_rfl
theorem rq102 {R : Value → AH → Nat → Prop} {env : Env} {H : AH} {nx : Nat} : retQ Tryz.prog Tryz.f102 R .ret env H nx = onV (eg env 3) R H nx := retQ_one rfl (of_decide_eq_true (by kernel_rfl))

/-! 103: milestone/serial.Nearer · code of 23 operations -/
def L103 : Nat → List Nat
  | 0 => [2, 3]
  | 1 => [4]
  | _ => []
theorem L103x0 : L103 0 = [2, 3] := (rfl)
theorem L103x1 : L103 1 = [4] := (rfl)
theorem fnOk103 : fnOk Tryz.prog 103 = true := by kernel_rfl
theorem rq103 {R : Value → AH → Nat → Prop} {env : Env} {H : AH} {nx : Nat} : retQ Tryz.prog Tryz.f103 R .ret env H nx = onV (eg env 4) R H nx := retQ_one rfl (of_decide_eq_true (by kernel_rfl))

/-! 104: slices.DeleteFunc[[]milestone/routes.Told,milestone/routes.Told] · code of 45 operations -/
def L104 : Nat → List Nat
  | 0 => [0, 1]
  | 1 => [0, 1, 5]
  | 2 => [0, 1, 5, 12]
  | 3 => [4]
  | 4 => [0, 1, 5, 6]
  | 5 => [0, 1, 5, 6, 19]
  | 7 => [0, 1, 5, 6, 7]
  | 8 => [0, 1, 5, 6, 7, 29]
  | 9 => [0, 1, 5, 6]
  | 10 => [0, 1, 5, 6]
  | 6 => [0, 1, 5, 6]
  | 11 => [0, 5]
  | 12 => [4]
  | _ => []
theorem L104x0 : L104 0 = [0, 1] := (rfl)
theorem L104x1 : L104 1 = [0, 1, 5] := (rfl)
theorem L104x2 : L104 2 = [0, 1, 5, 12] := (rfl)
theorem L104x3 : L104 3 = [4] := (rfl)
theorem L104x4 : L104 4 = [0, 1, 5, 6] := (rfl)
theorem L104x5 : L104 5 = [0, 1, 5, 6, 19] := (rfl)
theorem L104x7 : L104 7 = [0, 1, 5, 6, 7] := (rfl)
theorem L104x8 : L104 8 = [0, 1, 5, 6, 7, 29] := (rfl)
theorem L104x9 : L104 9 = [0, 1, 5, 6] := (rfl)
theorem L104x10 : L104 10 = [0, 1, 5, 6] := (rfl)
theorem L104x6 : L104 6 = [0, 1, 5, 6] := (rfl)
theorem L104x11 : L104 11 = [0, 5] := (rfl)
theorem L104x12 : L104 12 = [4] := (rfl)
theorem fnOk104 : fnOk Tryz.prog 104 = true := by kernel_rfl
theorem rq104 {R : Value → AH → Nat → Prop} {env : Env} {H : AH} {nx : Nat} : retQ Tryz.prog Tryz.f104 R .ret env H nx = onV (eg env 4) R H nx := retQ_one rfl (of_decide_eq_true (by kernel_rfl))

/-! 105: (*milestone/routes.Routes).Drop$1 · code of 7 operations -/
def L105 : Nat → List Nat
  | 0 => [1, 2]
  | 1 => [3]
  | _ => []
theorem L105x0 : L105 0 = [1, 2] := (rfl)
theorem L105x1 : L105 1 = [3] := (rfl)
theorem fnOk105 : fnOk Tryz.prog 105 = true := by kernel_rfl
theorem rq105 {R : Value → AH → Nat → Prop} {env : Env} {H : AH} {nx : Nat} : retQ Tryz.prog Tryz.f105 R .ret env H nx = onV (eg env 3) R H nx := retQ_one rfl (of_decide_eq_true (by kernel_rfl))

/-! 106: (*milestone/routes.Routes).Tick$1 · code of 7 operations -/
def L106 : Nat → List Nat
  | 0 => [1, 2]
  | 1 => [3]
  | _ => []
theorem L106x0 : L106 0 = [1, 2] := (rfl)
theorem L106x1 : L106 1 = [3] := (rfl)
theorem fnOk106 : fnOk Tryz.prog 106 = true := by kernel_rfl
theorem rq106 {R : Value → AH → Nat → Prop} {env : Env} {H : AH} {nx : Nat} : retQ Tryz.prog Tryz.f106 R .ret env H nx = onV (eg env 3) R H nx := retQ_one rfl (of_decide_eq_true (by kernel_rfl))

theorem fa142x4 (H : AH) (b o : Nat) : fieldAV Tryz.prog H 142 4 (.pointer (some ⟨b, o, none⟩)) = some (.pointer (some ⟨b, o + 6, none⟩)) := fieldAV_eq 142 4 b o false 0 6 (by kernel_rfl)
/-! 107: milestone/milestoneref01.Ahead · code of 23 operations -/
def L107 : Nat → List Nat
  | 0 => [2, 3]
  | 1 => [4]
  | _ => []
theorem L107x0 : L107 0 = [2, 3] := (rfl)
theorem L107x1 : L107 1 = [4] := (rfl)
theorem fnOk107 : fnOk Tryz.prog 107 = true := by kernel_rfl
theorem rq107 {R : Value → AH → Nat → Prop} {env : Env} {H : AH} {nx : Nat} : retQ Tryz.prog Tryz.f107 R .ret env H nx = onV (eg env 4) R H nx := retQ_one rfl (of_decide_eq_true (by kernel_rfl))

/-! 108: milestone/source.New · code of 4 operations -/
def L108 : Nat → List Nat
  | 0 => []
  | 1 => [0]
  | _ => []
theorem L108x0 : L108 0 = [] := (rfl)
theorem L108x1 : L108 1 = [0] := (rfl)
theorem fnOk108 : fnOk Tryz.prog 108 = true := by kernel_rfl
theorem rq108 {R : Value → AH → Nat → Prop} {env : Env} {H : AH} {nx : Nat} : retQ Tryz.prog Tryz.f108 R .ret env H nx = onV (eg env 0) R H nx := retQ_one rfl (of_decide_eq_true (by kernel_rfl))

theorem zero155 : zeroT Tryz.prog 155 = some (.agg #[(.slice none 0 0)]) := by kernel_rfl
theorem bd0x155 (H : AH) : buildV Tryz.prog H 155 #[] = some (.agg #[(.slice none 0 0)]) := build_zero (by kernel_rfl) zero155
/-! 109: milestone/prefix.mask · code of 9 operations -/
def L109 : Nat → List Nat
  | 0 => [0]
  | 1 => [0, 4]
  | 2 => [2]
  | 3 => [2]
  | _ => []
theorem L109x0 : L109 0 = [0] := (rfl)
theorem L109x1 : L109 1 = [0, 4] := (rfl)
theorem L109x2 : L109 2 = [2] := (rfl)
theorem L109x3 : L109 3 = [2] := (rfl)
theorem fnOk109 : fnOk Tryz.prog 109 = true := by kernel_rfl
theorem rq109 {R : Value → AH → Nat → Prop} {env : Env} {H : AH} {nx : Nat} : retQ Tryz.prog Tryz.f109 R .ret env H nx = onV (eg env 2) R H nx := retQ_one rfl (of_decide_eq_true (by kernel_rfl))

/-! 110: slices.IndexFunc[[]milestone/routes.Told,milestone/routes.Told] · code of 18 operations -/
def L110 : Nat → List Nat
  | 0 => [0, 1]
  | 1 => [0, 1, 7, 8]
  | 2 => [0, 1, 7, 8, 9]
  | 3 => [0, 1, 5, 7, 8]
  | 4 => [0, 1, 5, 7, 8, 16]
  | 5 => [4]
  | 6 => [0, 1, 7, 8]
  | 7 => [4]
  | _ => []
theorem L110x0 : L110 0 = [0, 1] := (rfl)
theorem L110x1 : L110 1 = [0, 1, 7, 8] := (rfl)
theorem L110x2 : L110 2 = [0, 1, 7, 8, 9] := (rfl)
theorem L110x3 : L110 3 = [0, 1, 5, 7, 8] := (rfl)
theorem L110x4 : L110 4 = [0, 1, 5, 7, 8, 16] := (rfl)
theorem L110x5 : L110 5 = [4] := (rfl)
theorem L110x6 : L110 6 = [0, 1, 7, 8] := (rfl)
theorem L110x7 : L110 7 = [4] := (rfl)
theorem fnOk110 : fnOk Tryz.prog 110 = true := by kernel_rfl
theorem rq110 {R : Value → AH → Nat → Prop} {env : Env} {H : AH} {nx : Nat} : retQ Tryz.prog Tryz.f110 R .ret env H nx = onV (eg env 4) R H nx := retQ_one rfl (of_decide_eq_true (by kernel_rfl))

/-! 111: (*milestone/routes.Routes).find$1 · code of 13 operations -/
def L111 : Nat → List Nat
  | 0 => [1, 2, 3]
  | 1 => [4]
  | _ => []
theorem L111x0 : L111 0 = [1, 2, 3] := (rfl)
theorem L111x1 : L111 1 = [4] := (rfl)
theorem fnOk111 : fnOk Tryz.prog 111 = true := by kernel_rfl
theorem rq111 {R : Value → AH → Nat → Prop} {env : Env} {H : AH} {nx : Nat} : retQ Tryz.prog Tryz.f111 R .ret env H nx = onV (eg env 4) R H nx := retQ_one rfl (of_decide_eq_true (by kernel_rfl))

/-! 112: slices.BinarySearchFunc[[]milestone/source.entry,milestone/source.entry,milestone/api.Prefix] · code of 48 operations -/
def L112 : Nat → List Nat
  | 0 => [0, 2, 4]
  | 1 => [0, 2, 4, 8]
  | 2 => [0, 2, 4, 8, 9, 10]
  | 3 => [0, 2, 4, 8, 9, 10, 17]
  | 4 => [0, 2, 4, 8, 9, 10, 11]
  | 5 => [0, 2, 4, 8, 9, 10, 11, 31]
  | 6 => [0, 2, 4, 8, 9, 10]
  | 7 => [0, 2, 4, 8, 9, 10]
  | 8 => [6, 7]
  | _ => []
theorem L112x0 : L112 0 = [0, 2, 4] := (rfl)
theorem L112x1 : L112 1 = [0, 2, 4, 8] := (rfl)
theorem L112x2 : L112 2 = [0, 2, 4, 8, 9, 10] := (rfl)
theorem L112x3 : L112 3 = [0, 2, 4, 8, 9, 10, 17] := (rfl)
theorem L112x4 : L112 4 = [0, 2, 4, 8, 9, 10, 11] := (rfl)
theorem L112x5 : L112 5 = [0, 2, 4, 8, 9, 10, 11, 31] := (rfl)
theorem L112x6 : L112 6 = [0, 2, 4, 8, 9, 10] := (rfl)
theorem L112x7 : L112 7 = [0, 2, 4, 8, 9, 10] := (rfl)
theorem L112x8 : L112 8 = [6, 7] := (rfl)
def ord112x5 : List Nat := [0, 1, 2, 3, 4, 5, 6, 7]
def ord112x8 : List Nat := [0, 1, 2, 3, 4, 5, 6, 7, 8, 9, 10, 11, 12, 13, 14, 15]
theorem fnOk112 : fnOk Tryz.prog 112 = true := by kernel_rfl
theorem rq112 {R : Value → AH → Nat → Prop} {env : Env} {H : AH} {nx : Nat} : retQ Tryz.prog Tryz.f112 R .ret env H nx = onA (eg env 6) (fun v => onA (eg env 7) fun u => R (.tuple #[v, u]) H nx) := retQ_two rfl (of_decide_eq_true (by kernel_rfl)) (of_decide_eq_true (by kernel_rfl))

theorem cv121x3 (lo : Nat) (k' : IntKind) (n : Int) (K : Value → AH → Nat → Prop) (H : AH) (nx : Nat) : convQ Tryz.prog lo 121 3 (.int k' n) K H nx = K (.int .i64 (IntKind.wrap .i64 n)) H nx := convQ_int (by kernel_rfl) (by kernel_rfl)
theorem cx121x3 (k' : IntKind) (n : Int) (H : AH) : convV Tryz.prog H 121 3 (.int k' n) = some (.int .i64 (IntKind.wrap .i64 n)) := convV_int (by kernel_rfl) (by kernel_rfl)
theorem ld152 (H : AH) (b o : Nat) : loadV Tryz.prog H 152 (.pointer (some ⟨b, o, none⟩)) = (loadN H b o 4).map fun l => .agg l.toArray := load_agg (by kernel_rfl) (by kernel_rfl)
/-! 113: (*milestone/source.Source).find$1 · code of 8 operations -/
def L113 : Nat → List Nat
  | 0 => [2, 3]
  | 1 => [4]
  | _ => []
theorem L113x0 : L113 0 = [2, 3] := (rfl)
theorem L113x1 : L113 1 = [4] := (rfl)
theorem fnOk113 : fnOk Tryz.prog 113 = true := by kernel_rfl
theorem rq113 {R : Value → AH → Nat → Prop} {env : Env} {H : AH} {nx : Nat} : retQ Tryz.prog Tryz.f113 R .ret env H nx = onV (eg env 4) R H nx := retQ_one rfl (of_decide_eq_true (by kernel_rfl))

theorem fa152x0 (H : AH) (b o : Nat) : fieldAV Tryz.prog H 152 0 (.pointer (some ⟨b, o, none⟩)) = some (.pointer (some ⟨b, o + 0, none⟩)) := fieldAV_eq 152 0 b o true 1 0 (by kernel_rfl)
/-! 115: slices.rotateRight[milestone/source.entry] · code of 6 operations -/
def L115 : Nat → List Nat
  | 0 => []
  | _ => []
theorem L115x0 : L115 0 = [] := (rfl)
theorem fnOk115 : fnOk Tryz.prog 115 = true := by kernel_rfl
theorem rq115 {R : Value → AH → Nat → Prop} {env : Env} {H : AH} {nx : Nat} : retQ Tryz.prog Tryz.f115 R .ret env H nx = R (.tuple #[]) H nx := retQ_none rfl

/-! 116: slices.AppendSeq[[]milestone/api.Prefix,milestone/api.Prefix] · code of 5 operations · ODD [rangeFunc] -/
def L116 : Nat → List Nat
  | 0 => [1, 2]
  | 1 => [2]
  | 4 => [4]
  | _ => []
theorem L116x0 : L116 0 = [1, 2] := (rfl)
theorem L116x1 : L116 1 = [2] := (rfl)
theorem L116x4 : L116 4 = [4] := (rfl)
theorem fnOk116 : fnOk Tryz.prog 116 = true := by kernel_rfl
theorem rq116 {R : Value → AH → Nat → Prop} {env : Env} {H : AH} {nx : Nat} : retQ Tryz.prog Tryz.f116 R .ret env H nx = onV (eg env 4) R H nx := retQ_one rfl (of_decide_eq_true (by kernel_rfl))

/-! 117: slices.pdqsortCmpFunc[milestone/api.Prefix] · code of 147 operations -/
def L117 : Nat → List Nat
  | 0 => [0, 1, 2, 3, 4, 10]
  | 1 => [0, 1, 2, 3, 4, 10, 11]
  | 2 => [0, 1, 2, 3, 4, 10, 11, 12]
  | 3 => [0, 1, 2, 3, 4, 10, 11, 12, 25]
  | 4 => []
  | 5 => [0, 1, 2, 3, 4, 10, 11, 12, 32]
  | 6 => []
  | 7 => [0, 1, 2, 3, 4, 10, 11, 12, 39]
  | 8 => [0, 1, 2, 3, 4, 10, 11, 12]
  | 9 => [0, 1, 2, 3, 4, 10, 11, 12]
  | 10 => [0, 1, 2, 3, 4, 10, 11, 12, 13, 14]
  | 11 => [0, 1, 2, 3, 4, 10, 11, 12, 13, 14, 56]
  | 12 => [0, 1, 2, 3, 4, 10, 11, 12, 13]
  | 13 => [0, 1, 2, 3, 4, 10, 11, 12, 13]
  | 14 => [0, 1, 2, 3, 4, 10, 11, 12, 13, 14]
  | 15 => [0, 1, 2, 3, 4, 10, 11, 12, 13, 75]
  | 16 => [0, 1, 2, 3, 4, 10, 11, 12, 13, 80]
  | 17 => [0, 1, 2, 3, 4, 10, 11, 12, 13, 97]
  | 18 => [0, 2, 3, 4, 10, 11, 15]
  | 19 => [0, 1, 2, 3, 4, 10, 11]
  | 20 => [0, 1, 2, 3, 4, 12, 16, 17]
  | 21 => [0, 1, 2, 3, 4, 11, 12, 16]
  | 22 => [0, 1, 2, 3, 4, 11, 12, 16, 18, 19]
  | 23 => [0, 1, 2, 3, 4, 11, 16, 18, 19, 20]
  | 24 => [0, 1, 2, 3, 4, 11, 16, 18, 19, 20, 125]
  | 25 => [0, 1, 2, 3, 4, 10, 11, 16]
  | 26 => [0, 2, 3, 4, 10, 11, 16]
  | 27 => [0, 1, 2, 3, 4, 10, 11]
  | 28 => [0, 1, 2, 3, 4, 10, 11, 16]
  | 29 => [0, 1, 3, 4, 10, 11, 16]
  | 30 => [0, 1, 2, 3, 4, 10, 11]
  | _ => []
theorem L117x0 : L117 0 = [0, 1, 2, 3, 4, 10] := (rfl)
theorem L117x1 : L117 1 = [0, 1, 2, 3, 4, 10, 11] := (rfl)
theorem L117x2 : L117 2 = [0, 1, 2, 3, 4, 10, 11, 12] := (rfl)
theorem L117x3 : L117 3 = [0, 1, 2, 3, 4, 10, 11, 12, 25] := (rfl)
theorem L117x4 : L117 4 = [] := (rfl)
theorem L117x5 : L117 5 = [0, 1, 2, 3, 4, 10, 11, 12, 32] := (rfl)
theorem L117x6 : L117 6 = [] := (rfl)
theorem L117x7 : L117 7 = [0, 1, 2, 3, 4, 10, 11, 12, 39] := (rfl)
theorem L117x8 : L117 8 = [0, 1, 2, 3, 4, 10, 11, 12] := (rfl)
theorem L117x9 : L117 9 = [0, 1, 2, 3, 4, 10, 11, 12] := (rfl)
theorem L117x10 : L117 10 = [0, 1, 2, 3, 4, 10, 11, 12, 13, 14] := (rfl)
theorem L117x11 : L117 11 = [0, 1, 2, 3, 4, 10, 11, 12, 13, 14, 56] := (rfl)
theorem L117x12 : L117 12 = [0, 1, 2, 3, 4, 10, 11, 12, 13] := (rfl)
theorem L117x13 : L117 13 = [0, 1, 2, 3, 4, 10, 11, 12, 13] := (rfl)
theorem L117x14 : L117 14 = [0, 1, 2, 3, 4, 10, 11, 12, 13, 14] := (rfl)
theorem L117x15 : L117 15 = [0, 1, 2, 3, 4, 10, 11, 12, 13, 75] := (rfl)
theorem L117x16 : L117 16 = [0, 1, 2, 3, 4, 10, 11, 12, 13, 80] := (rfl)
theorem L117x17 : L117 17 = [0, 1, 2, 3, 4, 10, 11, 12, 13, 97] := (rfl)
theorem L117x18 : L117 18 = [0, 2, 3, 4, 10, 11, 15] := (rfl)
theorem L117x19 : L117 19 = [0, 1, 2, 3, 4, 10, 11] := (rfl)
theorem L117x20 : L117 20 = [0, 1, 2, 3, 4, 12, 16, 17] := (rfl)
theorem L117x21 : L117 21 = [0, 1, 2, 3, 4, 11, 12, 16] := (rfl)
theorem L117x22 : L117 22 = [0, 1, 2, 3, 4, 11, 12, 16, 18, 19] := (rfl)
theorem L117x23 : L117 23 = [0, 1, 2, 3, 4, 11, 16, 18, 19, 20] := (rfl)
theorem L117x24 : L117 24 = [0, 1, 2, 3, 4, 11, 16, 18, 19, 20, 125] := (rfl)
theorem L117x25 : L117 25 = [0, 1, 2, 3, 4, 10, 11, 16] := (rfl)
theorem L117x26 : L117 26 = [0, 2, 3, 4, 10, 11, 16] := (rfl)
theorem L117x27 : L117 27 = [0, 1, 2, 3, 4, 10, 11] := (rfl)
theorem L117x28 : L117 28 = [0, 1, 2, 3, 4, 10, 11, 16] := (rfl)
theorem L117x29 : L117 29 = [0, 1, 3, 4, 10, 11, 16] := (rfl)
theorem L117x30 : L117 30 = [0, 1, 2, 3, 4, 10, 11] := (rfl)
def ord117x17 : List Nat := [0, 1, 2, 3, 4, 5, 6, 7, 8, 9, 10, 11, 12, 13, 14, 15, 16]
theorem fnOk117 : fnOk Tryz.prog 117 = true := by kernel_rfl
theorem rq117 {R : Value → AH → Nat → Prop} {env : Env} {H : AH} {nx : Nat} : retQ Tryz.prog Tryz.f117 R .ret env H nx = R (.tuple #[]) H nx := retQ_none rfl

/-! 118: cmp.isNaN[uint32] · code of 5 operations -/
def L118 : Nat → List Nat
  | 0 => [0]
  | 1 => [2]
  | _ => []
theorem L118x0 : L118 0 = [0] := (rfl)
theorem L118x1 : L118 1 = [2] := (rfl)
theorem fnOk118 : fnOk Tryz.prog 118 = true := by kernel_rfl
theorem rq118 {R : Value → AH → Nat → Prop} {env : Env} {H : AH} {nx : Nat} : retQ Tryz.prog Tryz.f118 R .ret env H nx = onV (eg env 2) R H nx := retQ_one rfl (of_decide_eq_true (by kernel_rfl))

/-! 119: cmp.isNaN[uint8] · code of 5 operations -/
def L119 : Nat → List Nat
  | 0 => [0]
  | 1 => [2]
  | _ => []
theorem L119x0 : L119 0 = [0] := (rfl)
theorem L119x1 : L119 1 = [2] := (rfl)
theorem fnOk119 : fnOk Tryz.prog 119 = true := by kernel_rfl
theorem rq119 {R : Value → AH → Nat → Prop} {env : Env} {H : AH} {nx : Nat} : retQ Tryz.prog Tryz.f119 R .ret env H nx = onV (eg env 2) R H nx := retQ_one rfl (of_decide_eq_true (by kernel_rfl))

/-! 120: slices.Clone[[]milestone/routes.Told,milestone/routes.Told] · code of 8 operations -/
def L120 : Nat → List Nat
  | 0 => [0]
  | 1 => [0, 4]
  | 2 => [2]
  | 3 => [2]
  | _ => []
theorem L120x0 : L120 0 = [0] := (rfl)
theorem L120x1 : L120 1 = [0, 4] := (rfl)
theorem L120x2 : L120 2 = [2] := (rfl)
theorem L120x3 : L120 3 = [2] := (rfl)
theorem fnOk120 : fnOk Tryz.prog 120 = true := by kernel_rfl
theorem rq120 {R : Value → AH → Nat → Prop} {env : Env} {H : AH} {nx : Nat} : retQ Tryz.prog Tryz.f120 R .ret env H nx = onV (eg env 2) R H nx := retQ_one rfl (of_decide_eq_true (by kernel_rfl))

theorem eqs143 (H : AH) (x y : Operand) (a : Option Addr) (n c : Nat) : binV Tryz.prog H .eql 143 x y (.slice a n c) (.slice none 0 0) = some (.bool a.isNone) := eq_sl (by kernel_rfl)
theorem nes143 (H : AH) (x y : Operand) (a : Option Addr) (n c : Nat) : binV Tryz.prog H .neq 143 x y (.slice a n c) (.slice none 0 0) = some (.bool a.isSome) := ne_sl (by kernel_rfl)
/-! 121: slices.SortFunc[[]milestone/routes.Told,milestone/routes.Told] · code of 10 operations -/
def L121 : Nat → List Nat
  | 0 => [0, 1, 4]
  | 1 => []
  | _ => []
theorem L121x0 : L121 0 = [0, 1, 4] := (rfl)
theorem L121x1 : L121 1 = [] := (rfl)
theorem fnOk121 : fnOk Tryz.prog 121 = true := by kernel_rfl
theorem rq121 {R : Value → AH → Nat → Prop} {env : Env} {H : AH} {nx : Nat} : retQ Tryz.prog Tryz.f121 R .ret env H nx = R (.tuple #[]) H nx := retQ_none rfl

/-! 122: (*milestone/routes.Routes).All$1 · code of 19 operations -/
def L122 : Nat → List Nat
  | 0 => [2, 3]
  | 1 => [2, 3, 5]
  | 2 => [2, 3, 5, 12]
  | 3 => [4]
  | 4 => [4]
  | _ => []
theorem L122x0 : L122 0 = [2, 3] := (rfl)
theorem L122x1 : L122 1 = [2, 3, 5] := (rfl)
theorem L122x2 : L122 2 = [2, 3, 5, 12] := (rfl)
theorem L122x3 : L122 3 = [4] := (rfl)
theorem L122x4 : L122 4 = [4] := (rfl)
theorem fnOk122 : fnOk Tryz.prog 122 = true := by kernel_rfl
theorem rq122 {R : Value → AH → Nat → Prop} {env : Env} {H : AH} {nx : Nat} : retQ Tryz.prog Tryz.f122 R .ret env H nx = onV (eg env 4) R H nx := retQ_one rfl (of_decide_eq_true (by kernel_rfl))

/-! 123: slices.insertionSortCmpFunc[milestone/api.Route] · code of 49 operations -/
def L123 : Nat → List Nat
  | 0 => [0, 1, 2, 3, 8]
  | 1 => [0, 1, 2, 3, 8, 14]
  | 3 => [0, 1, 2, 3, 8, 9]
  | 4 => [0, 1, 2, 3, 8, 9, 34]
  | 6 => [0, 1, 2, 3, 8, 9]
  | 5 => [0, 1, 2, 3, 8, 9]
  | 2 => [0, 1, 2, 3, 8]
  | _ => []
theorem L123x0 : L123 0 = [0, 1, 2, 3, 8] := (rfl)
theorem L123x1 : L123 1 = [0, 1, 2, 3, 8, 14] := (rfl)
theorem L123x3 : L123 3 = [0, 1, 2, 3, 8, 9] := (rfl)
theorem L123x4 : L123 4 = [0, 1, 2, 3, 8, 9, 34] := (rfl)
theorem L123x6 : L123 6 = [0, 1, 2, 3, 8, 9] := (rfl)
theorem L123x5 : L123 5 = [0, 1, 2, 3, 8, 9] := (rfl)
theorem L123x2 : L123 2 = [0, 1, 2, 3, 8] := (rfl)
def ord123x4 : List Nat := [0, 1, 2, 3, 4, 5, 6, 7, 8, 9, 10, 11, 12, 13, 14, 15, 16]
def ord123x6 : List Nat := [0, 1, 2, 3, 4, 5, 6, 7, 8, 9, 10, 11, 12, 13, 14, 15, 16, 17]
theorem fnOk123 : fnOk Tryz.prog 123 = true := by kernel_rfl
theorem rq123 {R : Value → AH → Nat → Prop} {env : Env} {H : AH} {nx : Nat} : retQ Tryz.prog Tryz.f123 R .ret env H nx = R (.tuple #[]) H nx := retQ_none rfl

/-! 124: slices.heapSortCmpFunc[milestone/api.Route] · code of 56 operations -/
def L124 : Nat → List Nat
  | 0 => [0, 1, 2, 3, 8]
  | 1 => [0, 1, 2, 3, 8, 9]
  | 2 => [0, 3, 8, 9, 10]
  | 3 => [0, 3, 8, 9, 10, 11]
  | 4 => [0, 3, 8, 9, 10, 11, 21]
  | 6 => [0, 3, 8, 9, 10, 11]
  | 5 => [0, 3, 8, 9, 10, 11]
  | 7 => [0, 3, 8, 9, 12]
  | 8 => [0, 3, 8, 9, 12, 33]
  | 10 => [0, 3, 8, 9, 12]
  | 11 => [0, 3, 8, 9, 12]
  | 9 => [0, 3, 8, 9, 12]
  | _ => []
theorem L124x0 : L124 0 = [0, 1, 2, 3, 8] := (rfl)
theorem L124x1 : L124 1 = [0, 1, 2, 3, 8, 9] := (rfl)
theorem L124x2 : L124 2 = [0, 3, 8, 9, 10] := (rfl)
theorem L124x3 : L124 3 = [0, 3, 8, 9, 10, 11] := (rfl)
theorem L124x4 : L124 4 = [0, 3, 8, 9, 10, 11, 21] := (rfl)
theorem L124x6 : L124 6 = [0, 3, 8, 9, 10, 11] := (rfl)
theorem L124x5 : L124 5 = [0, 3, 8, 9, 10, 11] := (rfl)
theorem L124x7 : L124 7 = [0, 3, 8, 9, 12] := (rfl)
theorem L124x8 : L124 8 = [0, 3, 8, 9, 12, 33] := (rfl)
theorem L124x10 : L124 10 = [0, 3, 8, 9, 12] := (rfl)
theorem L124x11 : L124 11 = [0, 3, 8, 9, 12] := (rfl)
theorem L124x9 : L124 9 = [0, 3, 8, 9, 12] := (rfl)
def ord124x10 : List Nat := [0, 1, 2, 3, 4, 5, 6, 7, 8, 9, 10, 11, 12, 13, 14, 15, 16, 17, 18, 19]
theorem fnOk124 : fnOk Tryz.prog 124 = true := by kernel_rfl
theorem rq124 {R : Value → AH → Nat → Prop} {env : Env} {H : AH} {nx : Nat} : retQ Tryz.prog Tryz.f124 R .ret env H nx = R (.tuple #[]) H nx := retQ_none rfl

/-! 125: slices.breakPatternsCmpFunc[milestone/api.Route] · code of 64 operations -/
def L125 : Nat → List Nat
  | 0 => [0, 1, 8]
  | 1 => [0, 1, 8, 17]
  | 2 => [0, 1, 8, 9]
  | 3 => [0, 1, 8, 9, 10]
  | 4 => [0, 1, 8, 9, 10, 11]
  | 5 => [0, 1, 8, 9, 10, 11, 35]
  | 7 => [0, 1, 8, 9, 10, 11, 12]
  | 8 => [0, 1, 8, 9, 10, 11, 12, 45]
  | 9 => [0, 1, 8, 9, 10, 11, 12]
  | 10 => [0, 1, 8, 9, 10, 11]
  | 6 => [0, 1, 8, 9, 10, 11]
  | _ => []
theorem L125x0 : L125 0 = [0, 1, 8] := (rfl)
theorem L125x1 : L125 1 = [0, 1, 8, 17] := (rfl)
theorem L125x2 : L125 2 = [0, 1, 8, 9] := (rfl)
theorem L125x3 : L125 3 = [0, 1, 8, 9, 10] := (rfl)
theorem L125x4 : L125 4 = [0, 1, 8, 9, 10, 11] := (rfl)
theorem L125x5 : L125 5 = [0, 1, 8, 9, 10, 11, 35] := (rfl)
theorem L125x7 : L125 7 = [0, 1, 8, 9, 10, 11, 12] := (rfl)
theorem L125x8 : L125 8 = [0, 1, 8, 9, 10, 11, 12, 45] := (rfl)
theorem L125x9 : L125 9 = [0, 1, 8, 9, 10, 11, 12] := (rfl)
theorem L125x10 : L125 10 = [0, 1, 8, 9, 10, 11] := (rfl)
theorem L125x6 : L125 6 = [0, 1, 8, 9, 10, 11] := (rfl)
def ord125x10 : List Nat := [0, 1, 2, 3, 4, 5, 6, 7, 8, 9, 10, 11, 12, 13, 14, 15, 16, 17, 18, 19]
theorem fnOk125 : fnOk Tryz.prog 125 = true := by kernel_rfl
theorem rq125 {R : Value → AH → Nat → Prop} {env : Env} {H : AH} {nx : Nat} : retQ Tryz.prog Tryz.f125 R .ret env H nx = R (.tuple #[]) H nx := retQ_none rfl

theorem cv3x212 (lo : Nat) (k' : IntKind) (n : Int) (K : Value → AH → Nat → Prop) (H : AH) (nx : Nat) : convQ Tryz.prog lo 3 212 (.int k' n) K H nx = K (.int .u64 (IntKind.wrap .u64 n)) H nx := convQ_int (by kernel_rfl) (by kernel_rfl)
theorem cx3x212 (k' : IntKind) (n : Int) (H : AH) : convV Tryz.prog H 3 212 (.int k' n) = some (.int .u64 (IntKind.wrap .u64 n)) := convV_int (by kernel_rfl) (by kernel_rfl)
theorem zero212 : zeroT Tryz.prog 212 = some (.int .u64 0) := by kernel_rfl
theorem al212 (lo : Nat) (K : Value → AH → Nat → Prop) (H : AH) (nx : Nat) : allocQ Tryz.prog lo 212 K H nx = newQ 212 ((.int .u64 0) : Value).cells K H nx := alloc_new zero212
theorem st212 (lo : Nat) (b o : Nat) (v : Value) (K : AH → Nat → Prop) (H : AH) (nx : Nat) (hv : v.oneCell' = true) : storeQ Tryz.prog lo 212 (.pointer (some ⟨b, o, none⟩)) v K H nx = stQ lo b o v K H nx := store_one (by kernel_rfl) hv
theorem stc212 (lo : Nat) (b o : Nat) (k : IntKind) (n : Int) (K : AH → Nat → Prop) (H : AH) (nx : Nat) : storeQ Tryz.prog lo 212 (.pointer (some ⟨b, o, none⟩)) (.int k n) K H nx = stQ lo b o (.int k n) K H nx := store_one (by kernel_rfl) rfl
/-! 126: slices.choosePivotCmpFunc[milestone/api.Route] · code of 65 operations -/
def L126 : Nat → List Nat
  | 0 => [0, 1, 2, 3]
  | 1 => [0, 1, 3, 10]
  | 2 => [0, 1, 3, 10, 11]
  | 3 => [0, 1, 3, 10, 11, 12]
  | 4 => [0, 1, 3, 10, 11, 12, 13]
  | 5 => [0, 3, 10, 11, 12, 13, 14]
  | 6 => [0, 3, 10, 11, 12, 13, 14, 34]
  | 7 => [0, 3, 11, 12, 13, 14, 36]
  | 8 => [0, 3, 11, 12, 13, 14]
  | 9 => [0, 3, 11, 12, 13, 14]
  | 10 => [0, 3, 11, 12, 13, 14]
  | 11 => [11, 13]
  | 12 => [13, 55]
  | 14 => [13, 55, 57]
  | 15 => [8, 9]
  | 16 => [13, 60]
  | 17 => [8, 9]
  | 13 => [8, 9]
  | _ => []
theorem L126x0 : L126 0 = [0, 1, 2, 3] := (rfl)
theorem L126x1 : L126 1 = [0, 1, 3, 10] := (rfl)
theorem L126x2 : L126 2 = [0, 1, 3, 10, 11] := (rfl)
theorem L126x3 : L126 3 = [0, 1, 3, 10, 11, 12] := (rfl)
theorem L126x4 : L126 4 = [0, 1, 3, 10, 11, 12, 13] := (rfl)
theorem L126x5 : L126 5 = [0, 3, 10, 11, 12, 13, 14] := (rfl)
theorem L126x6 : L126 6 = [0, 3, 10, 11, 12, 13, 14, 34] := (rfl)
theorem L126x7 : L126 7 = [0, 3, 11, 12, 13, 14, 36] := (rfl)
theorem L126x8 : L126 8 = [0, 3, 11, 12, 13, 14] := (rfl)
theorem L126x9 : L126 9 = [0, 3, 11, 12, 13, 14] := (rfl)
theorem L126x10 : L126 10 = [0, 3, 11, 12, 13, 14] := (rfl)
theorem L126x11 : L126 11 = [11, 13] := (rfl)
theorem L126x12 : L126 12 = [13, 55] := (rfl)
theorem L126x14 : L126 14 = [13, 55, 57] := (rfl)
theorem L126x15 : L126 15 = [8, 9] := (rfl)
theorem L126x16 : L126 16 = [13, 60] := (rfl)
theorem L126x17 : L126 17 = [8, 9] := (rfl)
theorem L126x13 : L126 13 = [8, 9] := (rfl)
theorem fnOk126 : fnOk Tryz.prog 126 = true := by kernel_rfl
theorem rq126 {R : Value → AH → Nat → Prop} {env : Env} {H : AH} {nx : Nat} : retQ Tryz.prog Tryz.f126 R .ret env H nx = onA (eg env 8) (fun v => onA (eg env 9) fun u => R (.tuple #[v, u]) H nx) := retQ_two rfl (of_decide_eq_true (by kernel_rfl)) (of_decide_eq_true (by kernel_rfl))

theorem al3 (lo : Nat) (K : Value → AH → Nat → Prop) (H : AH) (nx : Nat) : allocQ Tryz.prog lo 3 K H nx = newQ 3 ((.int .i64 0) : Value).cells K H nx := alloc_new zero3
/-! 127: slices.reverseRangeCmpFunc[milestone/api.Route] · code of 30 operations -/
def L127 : Nat → List Nat
  | 0 => [0, 2, 8]
  | 1 => [0, 8, 9]
  | 2 => [0, 8, 9, 15]
  | 3 => [0, 8, 9]
  | 4 => [0, 8, 9]
  | 5 => [0, 8, 9]
  | _ => []
theorem L127x0 : L127 0 = [0, 2, 8] := (rfl)
theorem L127x1 : L127 1 = [0, 8, 9] := (rfl)
theorem L127x2 : L127 2 = [0, 8, 9, 15] := (rfl)
theorem L127x3 : L127 3 = [0, 8, 9] := (rfl)
theorem L127x4 : L127 4 = [0, 8, 9] := (rfl)
theorem L127x5 : L127 5 = [0, 8, 9] := (rfl)
def ord127x3 : List Nat := [0, 1, 2, 3, 4, 5, 6, 7, 8, 9, 10, 11, 12, 13, 14, 15]
theorem fnOk127 : fnOk Tryz.prog 127 = true := by kernel_rfl
theorem rq127 {R : Value → AH → Nat → Prop} {env : Env} {H : AH} {nx : Nat} : retQ Tryz.prog Tryz.f127 R .ret env H nx = R (.tuple #[]) H nx := retQ_none rfl

/-! 128: slices.partialInsertionSortCmpFunc[milestone/api.Route] · code of 146 operations -/
def L128 : Nat → List Nat
  | 0 => [0, 1, 2, 3]
  | 1 => [0, 1, 2, 3, 9]
  | 2 => [0, 1, 2, 3, 9, 10]
  | 3 => [0, 1, 2, 3, 9, 10, 16]
  | 5 => [0, 1, 2, 3, 9, 10, 36]
  | 6 => [0, 1, 2, 3, 9, 10]
  | 7 => [0, 1, 2, 3, 9, 10, 41]
  | 8 => [8]
  | 9 => [0, 1, 2, 3, 9, 10, 45]
  | 10 => [8]
  | 11 => [0, 1, 2, 3, 9, 10]
  | 12 => [0, 1, 2, 3, 9, 10, 65]
  | 13 => [0, 1, 2, 3, 9, 10, 11]
  | 14 => [0, 1, 2, 3, 9, 10, 11, 69]
  | 16 => [0, 1, 2, 3, 9, 10, 11, 84]
  | 17 => [0, 1, 2, 3, 9, 10, 11]
  | 15 => [0, 1, 2, 3, 9, 10, 11]
  | 18 => [0, 1, 2, 3, 9, 10, 104]
  | 19 => [0, 1, 2, 3, 9, 10, 12]
  | 20 => [0, 1, 2, 3, 9, 10, 12, 109]
  | 22 => [0, 1, 2, 3, 9, 10, 12, 124]
  | 23 => [0, 1, 2, 3, 9, 10, 12]
  | 21 => [0, 1, 2, 3, 9, 10, 12]
  | 4 => [0, 1, 2, 3, 9, 10]
  | 24 => [8]
  | _ => []
theorem L128x0 : L128 0 = [0, 1, 2, 3] := (rfl)
theorem L128x1 : L128 1 = [0, 1, 2, 3, 9] := (rfl)
theorem L128x2 : L128 2 = [0, 1, 2, 3, 9, 10] := (rfl)
theorem L128x3 : L128 3 = [0, 1, 2, 3, 9, 10, 16] := (rfl)
theorem L128x5 : L128 5 = [0, 1, 2, 3, 9, 10, 36] := (rfl)
theorem L128x6 : L128 6 = [0, 1, 2, 3, 9, 10] := (rfl)
theorem L128x7 : L128 7 = [0, 1, 2, 3, 9, 10, 41] := (rfl)
theorem L128x8 : L128 8 = [8] := (rfl)
theorem L128x9 : L128 9 = [0, 1, 2, 3, 9, 10, 45] := (rfl)
theorem L128x10 : L128 10 = [8] := (rfl)
theorem L128x11 : L128 11 = [0, 1, 2, 3, 9, 10] := (rfl)
theorem L128x12 : L128 12 = [0, 1, 2, 3, 9, 10, 65] := (rfl)
theorem L128x13 : L128 13 = [0, 1, 2, 3, 9, 10, 11] := (rfl)
theorem L128x14 : L128 14 = [0, 1, 2, 3, 9, 10, 11, 69] := (rfl)
theorem L128x16 : L128 16 = [0, 1, 2, 3, 9, 10, 11, 84] := (rfl)
theorem L128x17 : L128 17 = [0, 1, 2, 3, 9, 10, 11] := (rfl)
theorem L128x15 : L128 15 = [0, 1, 2, 3, 9, 10, 11] := (rfl)
theorem L128x18 : L128 18 = [0, 1, 2, 3, 9, 10, 104] := (rfl)
theorem L128x19 : L128 19 = [0, 1, 2, 3, 9, 10, 12] := (rfl)
theorem L128x20 : L128 20 = [0, 1, 2, 3, 9, 10, 12, 109] := (rfl)
theorem L128x22 : L128 22 = [0, 1, 2, 3, 9, 10, 12, 124] := (rfl)
theorem L128x23 : L128 23 = [0, 1, 2, 3, 9, 10, 12] := (rfl)
theorem L128x21 : L128 21 = [0, 1, 2, 3, 9, 10, 12] := (rfl)
theorem L128x4 : L128 4 = [0, 1, 2, 3, 9, 10] := (rfl)
theorem L128x24 : L128 24 = [8] := (rfl)
def ord128x5 : List Nat := [0, 1, 2, 3, 4, 5, 6, 7, 8, 9, 10, 11, 12, 13, 14, 15, 16, 17]
def ord128x11 : List Nat := [0, 1, 2, 3, 4, 5, 6, 7, 8, 9, 10, 11, 12, 13, 14, 15, 16, 17]
def ord128x16 : List Nat := [0, 1, 2, 3, 4, 5, 6, 7, 8, 9, 10, 11, 12]
def ord128x17 : List Nat := [0, 1, 2, 3, 4, 5, 6, 7, 8, 9, 10, 11, 12, 13, 14, 15, 16, 17]
def ord128x22 : List Nat := [0, 1, 2, 3, 4, 5, 6, 7, 8, 9, 10, 11, 12]
def ord128x23 : List Nat := [0, 1, 2, 3, 4, 5, 6, 7, 8, 9, 10, 11, 12, 13, 14, 15, 16, 17]
theorem fnOk128 : fnOk Tryz.prog 128 = true := by kernel_rfl
theorem rq128 {R : Value → AH → Nat → Prop} {env : Env} {H : AH} {nx : Nat} : retQ Tryz.prog Tryz.f128 R .ret env H nx = onV (eg env 8) R H nx := retQ_one rfl (of_decide_eq_true (by kernel_rfl))

/-! 129: slices.partitionEqualCmpFunc[milestone/api.Route] · code of 89 operations -/
def L129 : Nat → List Nat
  | 0 => [0, 1, 2, 3, 4]
  | 1 => [0, 1, 2, 4]
  | 2 => [0, 1, 4, 11, 12]
  | 3 => [0, 1, 4, 11, 12, 47]
  | 4 => [0, 1, 4, 11, 12]
  | 5 => [0, 1, 4, 11, 12, 65]
  | 6 => [0, 1, 4, 11, 12]
  | 7 => [0, 1, 4, 11, 12, 70]
  | 8 => [0, 1, 4, 11, 12]
  | 9 => [0, 1, 4, 11, 12]
  | 10 => [0, 1, 4, 11, 12]
  | 11 => [10]
  | _ => []
theorem L129x0 : L129 0 = [0, 1, 2, 3, 4] := (rfl)
theorem L129x1 : L129 1 = [0, 1, 2, 4] := (rfl)
theorem L129x2 : L129 2 = [0, 1, 4, 11, 12] := (rfl)
theorem L129x3 : L129 3 = [0, 1, 4, 11, 12, 47] := (rfl)
theorem L129x4 : L129 4 = [0, 1, 4, 11, 12] := (rfl)
theorem L129x5 : L129 5 = [0, 1, 4, 11, 12, 65] := (rfl)
theorem L129x6 : L129 6 = [0, 1, 4, 11, 12] := (rfl)
theorem L129x7 : L129 7 = [0, 1, 4, 11, 12, 70] := (rfl)
theorem L129x8 : L129 8 = [0, 1, 4, 11, 12] := (rfl)
theorem L129x9 : L129 9 = [0, 1, 4, 11, 12] := (rfl)
theorem L129x10 : L129 10 = [0, 1, 4, 11, 12] := (rfl)
theorem L129x11 : L129 11 = [10] := (rfl)
def ord129x1 : List Nat := [0, 1, 2, 3, 4, 5, 6, 7, 8, 9, 10, 11, 12, 13, 14, 15]
def ord129x3 : List Nat := [0, 1, 2, 3, 4, 5, 6, 7, 8, 9, 10, 11, 12, 13, 14, 15, 16]
def ord129x5 : List Nat := [0, 1, 2, 3, 4, 5, 6, 7, 8, 9, 10, 11, 12, 13, 14, 15]
def ord129x8 : List Nat := [0, 1, 2, 3, 4, 5, 6, 7, 8, 9, 10, 11, 12, 13, 14, 15]
theorem fnOk129 : fnOk Tryz.prog 129 = true := by kernel_rfl
theorem rq129 {R : Value → AH → Nat → Prop} {env : Env} {H : AH} {nx : Nat} : retQ Tryz.prog Tryz.f129 R .ret env H nx = onV (eg env 10) R H nx := retQ_one rfl (of_decide_eq_true (by kernel_rfl))

/-! 130: slices.partitionCmpFunc[milestone/api.Route] · code of 190 operations -/
def L130 : Nat → List Nat
  | 0 => [0, 1, 2, 3, 4]
  | 1 => [0, 1, 2, 4]
  | 2 => [0, 1, 4, 12, 13]
  | 3 => [0, 1, 4, 12, 13, 47]
  | 4 => [0, 1, 4, 12, 13]
  | 5 => [0, 1, 4, 12, 13, 66]
  | 6 => [0, 1, 4, 12, 13]
  | 7 => [0, 1, 4, 12, 13, 71]
  | 8 => [13]
  | 9 => [10, 11]
  | 10 => [0, 1, 4, 12, 13]
  | 11 => [0, 1, 4, 12, 13]
  | 12 => [0, 1, 4, 12, 13]
  | 13 => [0, 1, 4, 12, 13, 120]
  | 14 => [0, 1, 4, 12, 13]
  | 15 => [0, 1, 4, 12, 13, 139]
  | 16 => [0, 1, 4, 12, 13]
  | 17 => [0, 1, 4, 12, 13, 144]
  | 18 => [0, 1, 4, 12, 13]
  | 19 => [0, 1, 4, 12, 13]
  | 20 => [0, 1, 4, 12, 13]
  | 21 => [13]
  | 22 => [10, 11]
  | _ => []
theorem L130x0 : L130 0 = [0, 1, 2, 3, 4] := (rfl)
theorem L130x1 : L130 1 = [0, 1, 2, 4] := (rfl)
theorem L130x2 : L130 2 = [0, 1, 4, 12, 13] := (rfl)
theorem L130x3 : L130 3 = [0, 1, 4, 12, 13, 47] := (rfl)
theorem L130x4 : L130 4 = [0, 1, 4, 12, 13] := (rfl)
theorem L130x5 : L130 5 = [0, 1, 4, 12, 13, 66] := (rfl)
theorem L130x6 : L130 6 = [0, 1, 4, 12, 13] := (rfl)
theorem L130x7 : L130 7 = [0, 1, 4, 12, 13, 71] := (rfl)
theorem L130x8 : L130 8 = [13] := (rfl)
theorem L130x9 : L130 9 = [10, 11] := (rfl)
theorem L130x10 : L130 10 = [0, 1, 4, 12, 13] := (rfl)
theorem L130x11 : L130 11 = [0, 1, 4, 12, 13] := (rfl)
theorem L130x12 : L130 12 = [0, 1, 4, 12, 13] := (rfl)
theorem L130x13 : L130 13 = [0, 1, 4, 12, 13, 120] := (rfl)
theorem L130x14 : L130 14 = [0, 1, 4, 12, 13] := (rfl)
theorem L130x15 : L130 15 = [0, 1, 4, 12, 13, 139] := (rfl)
theorem L130x16 : L130 16 = [0, 1, 4, 12, 13] := (rfl)
theorem L130x17 : L130 17 = [0, 1, 4, 12, 13, 144] := (rfl)
theorem L130x18 : L130 18 = [0, 1, 4, 12, 13] := (rfl)
theorem L130x19 : L130 19 = [0, 1, 4, 12, 13] := (rfl)
theorem L130x20 : L130 20 = [0, 1, 4, 12, 13] := (rfl)
theorem L130x21 : L130 21 = [13] := (rfl)
theorem L130x22 : L130 22 = [10, 11] := (rfl)
def ord130x1 : List Nat := [0, 1, 2, 3, 4, 5, 6, 7, 8, 9, 10, 11, 12, 13, 14, 15]
def ord130x3 : List Nat := [0, 1, 2, 3, 4, 5, 6, 7, 8, 9, 10, 11, 12, 13, 14, 15]
def ord130x5 : List Nat := [0, 1, 2, 3, 4, 5, 6, 7, 8, 9, 10, 11, 12, 13, 14, 15, 16]
def ord130x8 : List Nat := [0, 1, 2, 3, 4, 5, 6, 7, 8, 9, 10, 11, 12, 13, 14, 15]
def ord130x10 : List Nat := [0, 1, 2, 3, 4, 5, 6, 7, 8, 9, 10, 11, 12, 13, 14, 15]
def ord130x13 : List Nat := [0, 1, 2, 3, 4, 5, 6, 7, 8, 9, 10, 11, 12, 13, 14, 15]
def ord130x15 : List Nat := [0, 1, 2, 3, 4, 5, 6, 7, 8, 9, 10, 11, 12, 13, 14, 15, 16]
def ord130x18 : List Nat := [0, 1, 2, 3, 4, 5, 6, 7, 8, 9, 10, 11, 12, 13, 14, 15]
def ord130x21 : List Nat := [0, 1, 2, 3, 4, 5, 6, 7, 8, 9, 10, 11, 12, 13, 14, 15]
theorem fnOk130 : fnOk Tryz.prog 130 = true := by kernel_rfl
theorem rq130 {R : Value → AH → Nat → Prop} {env : Env} {H : AH} {nx : Nat} : retQ Tryz.prog Tryz.f130 R .ret env H nx = onA (eg env 10) (fun v => onA (eg env 11) fun u => R (.tuple #[v, u]) H nx) := retQ_two rfl (of_decide_eq_true (by kernel_rfl)) (of_decide_eq_true (by kernel_rfl))

/-! 131: math/bits.Len32 · code of 22 operations -/
def L131 : Nat → List Nat
  | 0 => [0, 2]
  | 1 => [0, 2, 4]
  | 2 => [0]
  | 3 => [0, 2]
  | 4 => [0, 2, 8]
  | 5 => [0, 2]
  | 6 => [0, 2]
  | 7 => [2]
  | _ => []
theorem L131x0 : L131 0 = [0, 2] := (rfl)
theorem L131x1 : L131 1 = [0, 2, 4] := (rfl)
theorem L131x2 : L131 2 = [0] := (rfl)
theorem L131x3 : L131 3 = [0, 2] := (rfl)
theorem L131x4 : L131 4 = [0, 2, 8] := (rfl)
theorem L131x5 : L131 5 = [0, 2] := (rfl)
theorem L131x6 : L131 6 = [0, 2] := (rfl)
theorem L131x7 : L131 7 = [2] := (rfl)
theorem fnOk131 : fnOk Tryz.prog 131 = true := by kernel_rfl
theorem rq131 {R : Value → AH → Nat → Prop} {env : Env} {H : AH} {nx : Nat} : retQ Tryz.prog Tryz.f131 R .ret env H nx = onV (eg env 2) R H nx := retQ_one rfl (of_decide_eq_true (by kernel_rfl))

/-! 132: math/bits.Len64 · code of 30 operations -/
def L132 : Nat → List Nat
  | 0 => [0, 2]
  | 1 => [0, 2, 4]
  | 2 => [0]
  | 3 => [0, 2]
  | 4 => [0, 2, 8]
  | 5 => [0, 2]
  | 6 => [0, 2]
  | 7 => [0, 2, 14]
  | 8 => [0, 2]
  | 9 => [0, 2]
  | 10 => [2]
  | _ => []
theorem L132x0 : L132 0 = [0, 2] := (rfl)
theorem L132x1 : L132 1 = [0, 2, 4] := (rfl)
theorem L132x2 : L132 2 = [0] := (rfl)
theorem L132x3 : L132 3 = [0, 2] := (rfl)
theorem L132x4 : L132 4 = [0, 2, 8] := (rfl)
theorem L132x5 : L132 5 = [0, 2] := (rfl)
theorem L132x6 : L132 6 = [0, 2] := (rfl)
theorem L132x7 : L132 7 = [0, 2, 14] := (rfl)
theorem L132x8 : L132 8 = [0, 2] := (rfl)
theorem L132x9 : L132 9 = [0, 2] := (rfl)
theorem L132x10 : L132 10 = [2] := (rfl)
theorem fnOk132 : fnOk Tryz.prog 132 = true := by kernel_rfl
theorem rq132 {R : Value → AH → Nat → Prop} {env : Env} {H : AH} {nx : Nat} : retQ Tryz.prog Tryz.f132 R .ret env H nx = onV (eg env 2) R H nx := retQ_one rfl (of_decide_eq_true (by kernel_rfl))

theorem cv27x5 (lo : Nat) (k' : IntKind) (n : Int) (K : Value → AH → Nat → Prop) (H : AH) (nx : Nat) : convQ Tryz.prog lo 27 5 (.int k' n) K H nx = K (.int .u8 (IntKind.wrap .u8 n)) H nx := convQ_int (by kernel_rfl) (by kernel_rfl)
theorem cx27x5 (k' : IntKind) (n : Int) (H : AH) : convV Tryz.prog H 27 5 (.int k' n) = some (.int .u8 (IntKind.wrap .u8 n)) := convV_int (by kernel_rfl) (by kernel_rfl)
/-! 133: slices.IndexFunc[[]milestone/api.Route,milestone/api.Route] · code of 18 operations -/
def L133 : Nat → List Nat
  | 0 => [0, 1]
  | 1 => [0, 1, 7, 8]
  | 2 => [0, 1, 7, 8, 9]
  | 3 => [0, 1, 5, 7, 8]
  | 4 => [0, 1, 5, 7, 8, 16]
  | 5 => [4]
  | 6 => [0, 1, 7, 8]
  | 7 => [4]
  | _ => []
theorem L133x0 : L133 0 = [0, 1] := (rfl)
theorem L133x1 : L133 1 = [0, 1, 7, 8] := (rfl)
theorem L133x2 : L133 2 = [0, 1, 7, 8, 9] := (rfl)
theorem L133x3 : L133 3 = [0, 1, 5, 7, 8] := (rfl)
theorem L133x4 : L133 4 = [0, 1, 5, 7, 8, 16] := (rfl)
theorem L133x5 : L133 5 = [4] := (rfl)
theorem L133x6 : L133 6 = [0, 1, 7, 8] := (rfl)
theorem L133x7 : L133 7 = [4] := (rfl)
theorem fnOk133 : fnOk Tryz.prog 133 = true := by kernel_rfl
theorem rq133 {R : Value → AH → Nat → Prop} {env : Env} {H : AH} {nx : Nat} : retQ Tryz.prog Tryz.f133 R .ret env H nx = onV (eg env 4) R H nx := retQ_one rfl (of_decide_eq_true (by kernel_rfl))

/-! 134: slices.IndexFunc[[]milestone/message.Part,milestone/message.Part] · code of 18 operations -/
def L134 : Nat → List Nat
  | 0 => [0, 1]
  | 1 => [0, 1, 7, 8]
  | 2 => [0, 1, 7, 8, 9]
  | 3 => [0, 1, 5, 7, 8]
  | 4 => [0, 1, 5, 7, 8, 16]
  | 5 => [4]
  | 6 => [0, 1, 7, 8]
  | 7 => [4]
  | _ => []
theorem L134x0 : L134 0 = [0, 1] := (rfl)
theorem L134x1 : L134 1 = [0, 1, 7, 8] := (rfl)
theorem L134x2 : L134 2 = [0, 1, 7, 8, 9] := (rfl)
theorem L134x3 : L134 3 = [0, 1, 5, 7, 8] := (rfl)
theorem L134x4 : L134 4 = [0, 1, 5, 7, 8, 16] := (rfl)
theorem L134x5 : L134 5 = [4] := (rfl)
theorem L134x6 : L134 6 = [0, 1, 7, 8] := (rfl)
theorem L134x7 : L134 7 = [4] := (rfl)
theorem fnOk134 : fnOk Tryz.prog 134 = true := by kernel_rfl
theorem rq134 {R : Value → AH → Nat → Prop} {env : Env} {H : AH} {nx : Nat} : retQ Tryz.prog Tryz.f134 R .ret env H nx = onV (eg env 4) R H nx := retQ_one rfl (of_decide_eq_true (by kernel_rfl))

/-! 135: slices.AppendSeq[[]int,int] · code of 5 operations · ODD [rangeFunc] -/
def L135 : Nat → List Nat
  | 0 => [1, 2]
  | 1 => [2]
  | 4 => [4]
  | _ => []
theorem L135x0 : L135 0 = [1, 2] := (rfl)
theorem L135x1 : L135 1 = [2] := (rfl)
theorem L135x4 : L135 4 = [4] := (rfl)
theorem fnOk135 : fnOk Tryz.prog 135 = true := by kernel_rfl
theorem rq135 {R : Value → AH → Nat → Prop} {env : Env} {H : AH} {nx : Nat} : retQ Tryz.prog Tryz.f135 R .ret env H nx = onV (eg env 4) R H nx := retQ_one rfl (of_decide_eq_true (by kernel_rfl))

theorem ld122 (H : AH) (b o : Nat) : loadV Tryz.prog H 122 (.pointer (some ⟨b, o, none⟩)) = H.c b o := load_one (by kernel_rfl)
/-! 136: slices.pdqsortOrdered[int] · code of 135 operations -/
def L136 : Nat → List Nat
  | 0 => [0, 1, 2, 3, 8]
  | 1 => [0, 1, 2, 3, 8, 9]
  | 2 => [0, 1, 2, 3, 8, 9, 10]
  | 3 => [0, 1, 2, 3, 8, 9, 10, 23]
  | 4 => []
  | 5 => [0, 1, 2, 3, 8, 9, 10, 29]
  | 6 => []
  | 7 => [0, 1, 2, 3, 8, 9, 10, 35]
  | 8 => [0, 1, 2, 3, 8, 9, 10]
  | 9 => [0, 1, 2, 3, 8, 9, 10]
  | 10 => [0, 1, 2, 3, 8, 9, 10, 11, 12]
  | 11 => [0, 1, 2, 3, 8, 9, 10, 11, 12, 50]
  | 12 => [0, 1, 2, 3, 8, 9, 10, 11]
  | 13 => [0, 1, 2, 3, 8, 9, 10, 11]
  | 14 => [0, 1, 2, 3, 8, 9, 10, 11, 12]
  | 15 => [0, 1, 2, 3, 8, 9, 10, 11, 68]
  | 16 => [0, 1, 2, 3, 8, 9, 10, 11, 72]
  | 17 => [0, 1, 2, 3, 8, 9, 10, 11, 87]
  | 18 => [0, 2, 3, 8, 9, 13]
  | 19 => [0, 1, 2, 3, 8, 9]
  | 20 => [0, 1, 2, 3, 10, 14, 15]
  | 21 => [0, 1, 2, 3, 9, 10, 14]
  | 22 => [0, 1, 2, 3, 9, 10, 14, 16, 17]
  | 23 => [0, 1, 2, 3, 9, 14, 16, 17, 18]
  | 24 => [0, 1, 2, 3, 9, 14, 16, 17, 18, 113]
  | 25 => [0, 1, 2, 3, 8, 9, 14]
  | 26 => [0, 2, 3, 8, 9, 14]
  | 27 => [0, 1, 2, 3, 8, 9]
  | 28 => [0, 1, 2, 3, 8, 9, 14]
  | 29 => [0, 1, 3, 8, 9, 14]
  | 30 => [0, 1, 2, 3, 8, 9]
  | _ => []
theorem L136x0 : L136 0 = [0, 1, 2, 3, 8] := (rfl)
theorem L136x1 : L136 1 = [0, 1, 2, 3, 8, 9] := (rfl)
theorem L136x2 : L136 2 = [0, 1, 2, 3, 8, 9, 10] := (rfl)
theorem L136x3 : L136 3 = [0, 1, 2, 3, 8, 9, 10, 23] := (rfl)
theorem L136x4 : L136 4 = [] := (rfl)
theorem L136x5 : L136 5 = [0, 1, 2, 3, 8, 9, 10, 29] := (rfl)
theorem L136x6 : L136 6 = [] := (rfl)
theorem L136x7 : L136 7 = [0, 1, 2, 3, 8, 9, 10, 35] := (rfl)
theorem L136x8 : L136 8 = [0, 1, 2, 3, 8, 9, 10] := (rfl)
theorem L136x9 : L136 9 = [0, 1, 2, 3, 8, 9, 10] := (rfl)
theorem L136x10 : L136 10 = [0, 1, 2, 3, 8, 9, 10, 11, 12] := (rfl)
theorem L136x11 : L136 11 = [0, 1, 2, 3, 8, 9, 10, 11, 12, 50] := (rfl)
theorem L136x12 : L136 12 = [0, 1, 2, 3, 8, 9, 10, 11] := (rfl)
theorem L136x13 : L136 13 = [0, 1, 2, 3, 8, 9, 10, 11] := (rfl)
theorem L136x14 : L136 14 = [0, 1, 2, 3, 8, 9, 10, 11, 12] := (rfl)
theorem L136x15 : L136 15 = [0, 1, 2, 3, 8, 9, 10, 11, 68] := (rfl)
theorem L136x16 : L136 16 = [0, 1, 2, 3, 8, 9, 10, 11, 72] := (rfl)
theorem L136x17 : L136 17 = [0, 1, 2, 3, 8, 9, 10, 11, 87] := (rfl)
theorem L136x18 : L136 18 = [0, 2, 3, 8, 9, 13] := (rfl)
theorem L136x19 : L136 19 = [0, 1, 2, 3, 8, 9] := (rfl)
theorem L136x20 : L136 20 = [0, 1, 2, 3, 10, 14, 15] := (rfl)
theorem L136x21 : L136 21 = [0, 1, 2, 3, 9, 10, 14] := (rfl)
theorem L136x22 : L136 22 = [0, 1, 2, 3, 9, 10, 14, 16, 17] := (rfl)
theorem L136x23 : L136 23 = [0, 1, 2, 3, 9, 14, 16, 17, 18] := (rfl)
theorem L136x24 : L136 24 = [0, 1, 2, 3, 9, 14, 16, 17, 18, 113] := (rfl)
theorem L136x25 : L136 25 = [0, 1, 2, 3, 8, 9, 14] := (rfl)
theorem L136x26 : L136 26 = [0, 2, 3, 8, 9, 14] := (rfl)
theorem L136x27 : L136 27 = [0, 1, 2, 3, 8, 9] := (rfl)
theorem L136x28 : L136 28 = [0, 1, 2, 3, 8, 9, 14] := (rfl)
theorem L136x29 : L136 29 = [0, 1, 3, 8, 9, 14] := (rfl)
theorem L136x30 : L136 30 = [0, 1, 2, 3, 8, 9] := (rfl)
def ord136x17 : List Nat := [0, 1, 2, 3, 4, 5, 6, 7, 8, 9, 10, 11, 12, 13, 14]
theorem fnOk136 : fnOk Tryz.prog 136 = true := by kernel_rfl
theorem rq136 {R : Value → AH → Nat → Prop} {env : Env} {H : AH} {nx : Nat} : retQ Tryz.prog Tryz.f136 R .ret env H nx = R (.tuple #[]) H nx := retQ_none rfl

/-! 137: slices.IndexFunc[[]milestone/api.Row,milestone/api.Row] · code of 18 operations -/
def L137 : Nat → List Nat
  | 0 => [0, 1]
  | 1 => [0, 1, 7, 8]
  | 2 => [0, 1, 7, 8, 9]
  | 3 => [0, 1, 5, 7, 8]
  | 4 => [0, 1, 5, 7, 8, 16]
  | 5 => [4]
  | 6 => [0, 1, 7, 8]
  | 7 => [4]
  | _ => []
theorem L137x0 : L137 0 = [0, 1] := (rfl)
theorem L137x1 : L137 1 = [0, 1, 7, 8] := (rfl)
theorem L137x2 : L137 2 = [0, 1, 7, 8, 9] := (rfl)
theorem L137x3 : L137 3 = [0, 1, 5, 7, 8] := (rfl)
theorem L137x4 : L137 4 = [0, 1, 5, 7, 8, 16] := (rfl)
theorem L137x5 : L137 5 = [4] := (rfl)
theorem L137x6 : L137 6 = [0, 1, 7, 8] := (rfl)
theorem L137x7 : L137 7 = [4] := (rfl)
theorem fnOk137 : fnOk Tryz.prog 137 = true := by kernel_rfl
theorem rq137 {R : Value → AH → Nat → Prop} {env : Env} {H : AH} {nx : Nat} : retQ Tryz.prog Tryz.f137 R .ret env H nx = onV (eg env 4) R H nx := retQ_one rfl (of_decide_eq_true (by kernel_rfl))

/-! 138: slices.rotateLeft[milestone/source.entry] · code of 10 operations -/
def L138 : Nat → List Nat
  | 0 => [0, 1]
  | 1 => [0]
  | 2 => []
  | _ => []
theorem L138x0 : L138 0 = [0, 1] := (rfl)
theorem L138x1 : L138 1 = [0] := (rfl)
theorem L138x2 : L138 2 = [] := (rfl)
theorem fnOk138 : fnOk Tryz.prog 138 = true := by kernel_rfl
theorem rq138 {R : Value → AH → Nat → Prop} {env : Env} {H : AH} {nx : Nat} : retQ Tryz.prog Tryz.f138 R .ret env H nx = R (.tuple #[]) H nx := retQ_none rfl

/-! 139: slices.insertionSortCmpFunc[milestone/api.Prefix] · code of 49 operations -/
def L139 : Nat → List Nat
  | 0 => [0, 1, 2, 3, 8]
  | 1 => [0, 1, 2, 3, 8, 14]
  | 3 => [0, 1, 2, 3, 8, 9]
  | 4 => [0, 1, 2, 3, 8, 9, 34]
  | 6 => [0, 1, 2, 3, 8, 9]
  | 5 => [0, 1, 2, 3, 8, 9]
  | 2 => [0, 1, 2, 3, 8]
  | _ => []
theorem L139x0 : L139 0 = [0, 1, 2, 3, 8] := (rfl)
theorem L139x1 : L139 1 = [0, 1, 2, 3, 8, 14] := (rfl)
theorem L139x3 : L139 3 = [0, 1, 2, 3, 8, 9] := (rfl)
theorem L139x4 : L139 4 = [0, 1, 2, 3, 8, 9, 34] := (rfl)
theorem L139x6 : L139 6 = [0, 1, 2, 3, 8, 9] := (rfl)
theorem L139x5 : L139 5 = [0, 1, 2, 3, 8, 9] := (rfl)
theorem L139x2 : L139 2 = [0, 1, 2, 3, 8] := (rfl)
def ord139x4 : List Nat := [0, 1, 2, 3, 4, 5, 6, 7, 8, 9, 10, 11, 12, 13, 14, 15, 16]
def ord139x6 : List Nat := [0, 1, 2, 3, 4, 5, 6, 7, 8, 9, 10, 11, 12, 13, 14, 15, 16, 17]
theorem fnOk139 : fnOk Tryz.prog 139 = true := by kernel_rfl
theorem rq139 {R : Value → AH → Nat → Prop} {env : Env} {H : AH} {nx : Nat} : retQ Tryz.prog Tryz.f139 R .ret env H nx = R (.tuple #[]) H nx := retQ_none rfl

/-! 140: slices.heapSortCmpFunc[milestone/api.Prefix] · code of 56 operations -/
def L140 : Nat → List Nat
  | 0 => [0, 1, 2, 3, 8]
  | 1 => [0, 1, 2, 3, 8, 9]
  | 2 => [0, 3, 8, 9, 10]
  | 3 => [0, 3, 8, 9, 10, 11]
  | 4 => [0, 3, 8, 9, 10, 11, 21]
  | 6 => [0, 3, 8, 9, 10, 11]
  | 5 => [0, 3, 8, 9, 10, 11]
  | 7 => [0, 3, 8, 9, 12]
  | 8 => [0, 3, 8, 9, 12, 33]
  | 10 => [0, 3, 8, 9, 12]
  | 11 => [0, 3, 8, 9, 12]
  | 9 => [0, 3, 8, 9, 12]
  | _ => []
theorem L140x0 : L140 0 = [0, 1, 2, 3, 8] := (rfl)
theorem L140x1 : L140 1 = [0, 1, 2, 3, 8, 9] := (rfl)
theorem L140x2 : L140 2 = [0, 3, 8, 9, 10] := (rfl)
theorem L140x3 : L140 3 = [0, 3, 8, 9, 10, 11] := (rfl)
theorem L140x4 : L140 4 = [0, 3, 8, 9, 10, 11, 21] := (rfl)
theorem L140x6 : L140 6 = [0, 3, 8, 9, 10, 11] := (rfl)
theorem L140x5 : L140 5 = [0, 3, 8, 9, 10, 11] := (rfl)
theorem L140x7 : L140 7 = [0, 3, 8, 9, 12] := (rfl)
theorem L140x8 : L140 8 = [0, 3, 8, 9, 12, 33] := (rfl)
theorem L140x10 : L140 10 = [0, 3, 8, 9, 12] := (rfl)
theorem L140x11 : L140 11 = [0, 3, 8, 9, 12] := (rfl)
theorem L140x9 : L140 9 = [0, 3, 8, 9, 12] := (rfl)
def ord140x10 : List Nat := [0, 1, 2, 3, 4, 5, 6, 7, 8, 9, 10, 11, 12, 13, 14, 15, 16, 17, 18, 19]
theorem fnOk140 : fnOk Tryz.prog 140 = true := by kernel_rfl
theorem rq140 {R : Value → AH → Nat → Prop} {env : Env} {H : AH} {nx : Nat} : retQ Tryz.prog Tryz.f140 R .ret env H nx = R (.tuple #[]) H nx := retQ_none rfl

/-! 141: slices.breakPatternsCmpFunc[milestone/api.Prefix] · code of 64 operations -/
def L141 : Nat → List Nat
  | 0 => [0, 1, 8]
  | 1 => [0, 1, 8, 17]
  | 2 => [0, 1, 8, 9]
  | 3 => [0, 1, 8, 9, 10]
  | 4 => [0, 1, 8, 9, 10, 11]
  | 5 => [0, 1, 8, 9, 10, 11, 35]
  | 7 => [0, 1, 8, 9, 10, 11, 12]
  | 8 => [0, 1, 8, 9, 10, 11, 12, 45]
  | 9 => [0, 1, 8, 9, 10, 11, 12]
  | 10 => [0, 1, 8, 9, 10, 11]
  | 6 => [0, 1, 8, 9, 10, 11]
  | _ => []
theorem L141x0 : L141 0 = [0, 1, 8] := (rfl)
theorem L141x1 : L141 1 = [0, 1, 8, 17] := (rfl)
theorem L141x2 : L141 2 = [0, 1, 8, 9] := (rfl)
theorem L141x3 : L141 3 = [0, 1, 8, 9, 10] := (rfl)
theorem L141x4 : L141 4 = [0, 1, 8, 9, 10, 11] := (rfl)
theorem L141x5 : L141 5 = [0, 1, 8, 9, 10, 11, 35] := (rfl)
theorem L141x7 : L141 7 = [0, 1, 8, 9, 10, 11, 12] := (rfl)
theorem L141x8 : L141 8 = [0, 1, 8, 9, 10, 11, 12, 45] := (rfl)
theorem L141x9 : L141 9 = [0, 1, 8, 9, 10, 11, 12] := (rfl)
theorem L141x10 : L141 10 = [0, 1, 8, 9, 10, 11] := (rfl)
theorem L141x6 : L141 6 = [0, 1, 8, 9, 10, 11] := (rfl)
def ord141x10 : List Nat := [0, 1, 2, 3, 4, 5, 6, 7, 8, 9, 10, 11, 12, 13, 14, 15, 16, 17, 18, 19]
theorem fnOk141 : fnOk Tryz.prog 141 = true := by kernel_rfl
theorem rq141 {R : Value → AH → Nat → Prop} {env : Env} {H : AH} {nx : Nat} : retQ Tryz.prog Tryz.f141 R .ret env H nx = R (.tuple #[]) H nx := retQ_none rfl

/-! 142: slices.choosePivotCmpFunc[milestone/api.Prefix] · code of 65 operations -/
def L142 : Nat → List Nat
  | 0 => [0, 1, 2, 3]
  | 1 => [0, 1, 3, 10]
  | 2 => [0, 1, 3, 10, 11]
  | 3 => [0, 1, 3, 10, 11, 12]
  | 4 => [0, 1, 3, 10, 11, 12, 13]
  | 5 => [0, 3, 10, 11, 12, 13, 14]
  | 6 => [0, 3, 10, 11, 12, 13, 14, 34]
  | 7 => [0, 3, 11, 12, 13, 14, 36]
  | 8 => [0, 3, 11, 12, 13, 14]
  | 9 => [0, 3, 11, 12, 13, 14]
  | 10 => [0, 3, 11, 12, 13, 14]
  | 11 => [11, 13]
  | 12 => [13, 55]
  | 14 => [13, 55, 57]
  | 15 => [8, 9]
  | 16 => [13, 60]
  | 17 => [8, 9]
  | 13 => [8, 9]
  | _ => []
theorem L142x0 : L142 0 = [0, 1, 2, 3] := (rfl)
theorem L142x1 : L142 1 = [0, 1, 3, 10] := (rfl)
theorem L142x2 : L142 2 = [0, 1, 3, 10, 11] := (rfl)
theorem L142x3 : L142 3 = [0, 1, 3, 10, 11, 12] := (rfl)
theorem L142x4 : L142 4 = [0, 1, 3, 10, 11, 12, 13] := (rfl)
theorem L142x5 : L142 5 = [0, 3, 10, 11, 12, 13, 14] := (rfl)
theorem L142x6 : L142 6 = [0, 3, 10, 11, 12, 13, 14, 34] := (rfl)
theorem L142x7 : L142 7 = [0, 3, 11, 12, 13, 14, 36] := (rfl)
theorem L142x8 : L142 8 = [0, 3, 11, 12, 13, 14] := (rfl)
theorem L142x9 : L142 9 = [0, 3, 11, 12, 13, 14] := (rfl)
theorem L142x10 : L142 10 = [0, 3, 11, 12, 13, 14] := (rfl)
theorem L142x11 : L142 11 = [11, 13] := (rfl)
theorem L142x12 : L142 12 = [13, 55] := (rfl)
theorem L142x14 : L142 14 = [13, 55, 57] := (rfl)
theorem L142x15 : L142 15 = [8, 9] := (rfl)
theorem L142x16 : L142 16 = [13, 60] := (rfl)
theorem L142x17 : L142 17 = [8, 9] := (rfl)
theorem L142x13 : L142 13 = [8, 9] := (rfl)
theorem fnOk142 : fnOk Tryz.prog 142 = true := by kernel_rfl
theorem rq142 {R : Value → AH → Nat → Prop} {env : Env} {H : AH} {nx : Nat} : retQ Tryz.prog Tryz.f142 R .ret env H nx = onA (eg env 8) (fun v => onA (eg env 9) fun u => R (.tuple #[v, u]) H nx) := retQ_two rfl (of_decide_eq_true (by kernel_rfl)) (of_decide_eq_true (by kernel_rfl))

/-! 143: slices.reverseRangeCmpFunc[milestone/api.Prefix] · code of 30 operations -/
def L143 : Nat → List Nat
  | 0 => [0, 2, 8]
  | 1 => [0, 8, 9]
  | 2 => [0, 8, 9, 15]
  | 3 => [0, 8, 9]
  | 4 => [0, 8, 9]
  | 5 => [0, 8, 9]
  | _ => []
theorem L143x0 : L143 0 = [0, 2, 8] := (rfl)
theorem L143x1 : L143 1 = [0, 8, 9] := (rfl)
theorem L143x2 : L143 2 = [0, 8, 9, 15] := (rfl)
theorem L143x3 : L143 3 = [0, 8, 9] := (rfl)
theorem L143x4 : L143 4 = [0, 8, 9] := (rfl)
theorem L143x5 : L143 5 = [0, 8, 9] := (rfl)
def ord143x3 : List Nat := [0, 1, 2, 3, 4, 5, 6, 7, 8, 9, 10, 11, 12, 13, 14, 15]
theorem fnOk143 : fnOk Tryz.prog 143 = true := by kernel_rfl
theorem rq143 {R : Value → AH → Nat → Prop} {env : Env} {H : AH} {nx : Nat} : retQ Tryz.prog Tryz.f143 R .ret env H nx = R (.tuple #[]) H nx := retQ_none rfl

/-! 144: slices.partialInsertionSortCmpFunc[milestone/api.Prefix] · code of 146 operations -/
def L144 : Nat → List Nat
  | 0 => [0, 1, 2, 3]
  | 1 => [0, 1, 2, 3, 9]
  | 2 => [0, 1, 2, 3, 9, 10]
  | 3 => [0, 1, 2, 3, 9, 10, 16]
  | 5 => [0, 1, 2, 3, 9, 10, 36]
  | 6 => [0, 1, 2, 3, 9, 10]
  | 7 => [0, 1, 2, 3, 9, 10, 41]
  | 8 => [8]
  | 9 => [0, 1, 2, 3, 9, 10, 45]
  | 10 => [8]
  | 11 => [0, 1, 2, 3, 9, 10]
  | 12 => [0, 1, 2, 3, 9, 10, 65]
  | 13 => [0, 1, 2, 3, 9, 10, 11]
  | 14 => [0, 1, 2, 3, 9, 10, 11, 69]
  | 16 => [0, 1, 2, 3, 9, 10, 11, 84]
  | 17 => [0, 1, 2, 3, 9, 10, 11]
  | 15 => [0, 1, 2, 3, 9, 10, 11]
  | 18 => [0, 1, 2, 3, 9, 10, 104]
  | 19 => [0, 1, 2, 3, 9, 10, 12]
  | 20 => [0, 1, 2, 3, 9, 10, 12, 109]
  | 22 => [0, 1, 2, 3, 9, 10, 12, 124]
  | 23 => [0, 1, 2, 3, 9, 10, 12]
  | 21 => [0, 1, 2, 3, 9, 10, 12]
  | 4 => [0, 1, 2, 3, 9, 10]
  | 24 => [8]
  | _ => []
theorem L144x0 : L144 0 = [0, 1, 2, 3] := (rfl)
theorem L144x1 : L144 1 = [0, 1, 2, 3, 9] := (rfl)
theorem L144x2 : L144 2 = [0, 1, 2, 3, 9, 10] := (rfl)
theorem L144x3 : L144 3 = [0, 1, 2, 3, 9, 10, 16] := (rfl)
theorem L144x5 : L144 5 = [0, 1, 2, 3, 9, 10, 36] := (rfl)
theorem L144x6 : L144 6 = [0, 1, 2, 3, 9, 10] := (rfl)
theorem L144x7 : L144 7 = [0, 1, 2, 3, 9, 10, 41] := (rfl)
theorem L144x8 : L144 8 = [8] := (rfl)
theorem L144x9 : L144 9 = [0, 1, 2, 3, 9, 10, 45] := (rfl)
theorem L144x10 : L144 10 = [8] := (rfl)
theorem L144x11 : L144 11 = [0, 1, 2, 3, 9, 10] := (rfl)
theorem L144x12 : L144 12 = [0, 1, 2, 3, 9, 10, 65] := (rfl)
theorem L144x13 : L144 13 = [0, 1, 2, 3, 9, 10, 11] := (rfl)
theorem L144x14 : L144 14 = [0, 1, 2, 3, 9, 10, 11, 69] := (rfl)
theorem L144x16 : L144 16 = [0, 1, 2, 3, 9, 10, 11, 84] := (rfl)
theorem L144x17 : L144 17 = [0, 1, 2, 3, 9, 10, 11] := (rfl)
theorem L144x15 : L144 15 = [0, 1, 2, 3, 9, 10, 11] := (rfl)
theorem L144x18 : L144 18 = [0, 1, 2, 3, 9, 10, 104] := (rfl)
theorem L144x19 : L144 19 = [0, 1, 2, 3, 9, 10, 12] := (rfl)
theorem L144x20 : L144 20 = [0, 1, 2, 3, 9, 10, 12, 109] := (rfl)
theorem L144x22 : L144 22 = [0, 1, 2, 3, 9, 10, 12, 124] := (rfl)
theorem L144x23 : L144 23 = [0, 1, 2, 3, 9, 10, 12] := (rfl)
theorem L144x21 : L144 21 = [0, 1, 2, 3, 9, 10, 12] := (rfl)
theorem L144x4 : L144 4 = [0, 1, 2, 3, 9, 10] := (rfl)
theorem L144x24 : L144 24 = [8] := (rfl)
def ord144x5 : List Nat := [0, 1, 2, 3, 4, 5, 6, 7, 8, 9, 10, 11, 12, 13, 14, 15, 16, 17]
def ord144x11 : List Nat := [0, 1, 2, 3, 4, 5, 6, 7, 8, 9, 10, 11, 12, 13, 14, 15, 16, 17]
def ord144x16 : List Nat := [0, 1, 2, 3, 4, 5, 6, 7, 8, 9, 10, 11, 12]
def ord144x17 : List Nat := [0, 1, 2, 3, 4, 5, 6, 7, 8, 9, 10, 11, 12, 13, 14, 15, 16, 17]
def ord144x22 : List Nat := [0, 1, 2, 3, 4, 5, 6, 7, 8, 9, 10, 11, 12]
def ord144x23 : List Nat := [0, 1, 2, 3, 4, 5, 6, 7, 8, 9, 10, 11, 12, 13, 14, 15, 16, 17]
theorem fnOk144 : fnOk Tryz.prog 144 = true := by kernel_rfl
theorem rq144 {R : Value → AH → Nat → Prop} {env : Env} {H : AH} {nx : Nat} : retQ Tryz.prog Tryz.f144 R .ret env H nx = onV (eg env 8) R H nx := retQ_one rfl (of_decide_eq_true (by kernel_rfl))

/-! 145: slices.partitionEqualCmpFunc[milestone/api.Prefix] · code of 89 operations -/
def L145 : Nat → List Nat
  | 0 => [0, 1, 2, 3, 4]
  | 1 => [0, 1, 2, 4]
  | 2 => [0, 1, 4, 11, 12]
  | 3 => [0, 1, 4, 11, 12, 47]
  | 4 => [0, 1, 4, 11, 12]
  | 5 => [0, 1, 4, 11, 12, 65]
  | 6 => [0, 1, 4, 11, 12]
  | 7 => [0, 1, 4, 11, 12, 70]
  | 8 => [0, 1, 4, 11, 12]
  | 9 => [0, 1, 4, 11, 12]
  | 10 => [0, 1, 4, 11, 12]
  | 11 => [10]
  | _ => []
theorem L145x0 : L145 0 = [0, 1, 2, 3, 4] := (rfl)
theorem L145x1 : L145 1 = [0, 1, 2, 4] := (rfl)
theorem L145x2 : L145 2 = [0, 1, 4, 11, 12] := (rfl)
theorem L145x3 : L145 3 = [0, 1, 4, 11, 12, 47] := (rfl)
theorem L145x4 : L145 4 = [0, 1, 4, 11, 12] := (rfl)
theorem L145x5 : L145 5 = [0, 1, 4, 11, 12, 65] := (rfl)
theorem L145x6 : L145 6 = [0, 1, 4, 11, 12] := (rfl)
theorem L145x7 : L145 7 = [0, 1, 4, 11, 12, 70] := (rfl)
theorem L145x8 : L145 8 = [0, 1, 4, 11, 12] := (rfl)
theorem L145x9 : L145 9 = [0, 1, 4, 11, 12] := (rfl)
theorem L145x10 : L145 10 = [0, 1, 4, 11, 12] := (rfl)
theorem L145x11 : L145 11 = [10] := (rfl)
def ord145x1 : List Nat := [0, 1, 2, 3, 4, 5, 6, 7, 8, 9, 10, 11, 12, 13, 14, 15]
def ord145x3 : List Nat := [0, 1, 2, 3, 4, 5, 6, 7, 8, 9, 10, 11, 12, 13, 14, 15, 16]
def ord145x5 : List Nat := [0, 1, 2, 3, 4, 5, 6, 7, 8, 9, 10, 11, 12, 13, 14, 15]
def ord145x8 : List Nat := [0, 1, 2, 3, 4, 5, 6, 7, 8, 9, 10, 11, 12, 13, 14, 15]
theorem fnOk145 : fnOk Tryz.prog 145 = true := by kernel_rfl
theorem rq145 {R : Value → AH → Nat → Prop} {env : Env} {H : AH} {nx : Nat} : retQ Tryz.prog Tryz.f145 R .ret env H nx = onV (eg env 10) R H nx := retQ_one rfl (of_decide_eq_true (by kernel_rfl))

/-! 146: slices.partitionCmpFunc[milestone/api.Prefix] · code of 190 operations -/
def L146 : Nat → List Nat
  | 0 => [0, 1, 2, 3, 4]
  | 1 => [0, 1, 2, 4]
  | 2 => [0, 1, 4, 12, 13]
  | 3 => [0, 1, 4, 12, 13, 47]
  | 4 => [0, 1, 4, 12, 13]
  | 5 => [0, 1, 4, 12, 13, 66]
  | 6 => [0, 1, 4, 12, 13]
  | 7 => [0, 1, 4, 12, 13, 71]
  | 8 => [13]
  | 9 => [10, 11]
  | 10 => [0, 1, 4, 12, 13]
  | 11 => [0, 1, 4, 12, 13]
  | 12 => [0, 1, 4, 12, 13]
  | 13 => [0, 1, 4, 12, 13, 120]
  | 14 => [0, 1, 4, 12, 13]
  | 15 => [0, 1, 4, 12, 13, 139]
  | 16 => [0, 1, 4, 12, 13]
  | 17 => [0, 1, 4, 12, 13, 144]
  | 18 => [0, 1, 4, 12, 13]
  | 19 => [0, 1, 4, 12, 13]
  | 20 => [0, 1, 4, 12, 13]
  | 21 => [13]
  | 22 => [10, 11]
  | _ => []
theorem L146x0 : L146 0 = [0, 1, 2, 3, 4] := (rfl)
theorem L146x1 : L146 1 = [0, 1, 2, 4] := (rfl)
theorem L146x2 : L146 2 = [0, 1, 4, 12, 13] := (rfl)
theorem L146x3 : L146 3 = [0, 1, 4, 12, 13, 47] := (rfl)
theorem L146x4 : L146 4 = [0, 1, 4, 12, 13] := (rfl)
theorem L146x5 : L146 5 = [0, 1, 4, 12, 13, 66] := (rfl)
theorem L146x6 : L146 6 = [0, 1, 4, 12, 13] := (rfl)
theorem L146x7 : L146 7 = [0, 1, 4, 12, 13, 71] := (rfl)
theorem L146x8 : L146 8 = [13] := (rfl)
theorem L146x9 : L146 9 = [10, 11] := (rfl)
theorem L146x10 : L146 10 = [0, 1, 4, 12, 13] := (rfl)
theorem L146x11 : L146 11 = [0, 1, 4, 12, 13] := (rfl)
theorem L146x12 : L146 12 = [0, 1, 4, 12, 13] := (rfl)
theorem L146x13 : L146 13 = [0, 1, 4, 12, 13, 120] := (rfl)
theorem L146x14 : L146 14 = [0, 1, 4, 12, 13] := (rfl)
theorem L146x15 : L146 15 = [0, 1, 4, 12, 13, 139] := (rfl)
theorem L146x16 : L146 16 = [0, 1, 4, 12, 13] := (rfl)
theorem L146x17 : L146 17 = [0, 1, 4, 12, 13, 144] := (rfl)
theorem L146x18 : L146 18 = [0, 1, 4, 12, 13] := (rfl)
theorem L146x19 : L146 19 = [0, 1, 4, 12, 13] := (rfl)
theorem L146x20 : L146 20 = [0, 1, 4, 12, 13] := (rfl)
theorem L146x21 : L146 21 = [13] := (rfl)
theorem L146x22 : L146 22 = [10, 11] := (rfl)
def ord146x1 : List Nat := [0, 1, 2, 3, 4, 5, 6, 7, 8, 9, 10, 11, 12, 13, 14, 15]
def ord146x3 : List Nat := [0, 1, 2, 3, 4, 5, 6, 7, 8, 9, 10, 11, 12, 13, 14, 15]
def ord146x5 : List Nat := [0, 1, 2, 3, 4, 5, 6, 7, 8, 9, 10, 11, 12, 13, 14, 15, 16]
def ord146x8 : List Nat := [0, 1, 2, 3, 4, 5, 6, 7, 8, 9, 10, 11, 12, 13, 14, 15]
def ord146x10 : List Nat := [0, 1, 2, 3, 4, 5, 6, 7, 8, 9, 10, 11, 12, 13, 14, 15]
def ord146x13 : List Nat := [0, 1, 2, 3, 4, 5, 6, 7, 8, 9, 10, 11, 12, 13, 14, 15]
def ord146x15 : List Nat := [0, 1, 2, 3, 4, 5, 6, 7, 8, 9, 10, 11, 12, 13, 14, 15, 16]
def ord146x18 : List Nat := [0, 1, 2, 3, 4, 5, 6, 7, 8, 9, 10, 11, 12, 13, 14, 15]
def ord146x21 : List Nat := [0, 1, 2, 3, 4, 5, 6, 7, 8, 9, 10, 11, 12, 13, 14, 15]
theorem fnOk146 : fnOk Tryz.prog 146 = true := by kernel_rfl
theorem rq146 {R : Value → AH → Nat → Prop} {env : Env} {H : AH} {nx : Nat} : retQ Tryz.prog Tryz.f146 R .ret env H nx = onA (eg env 10) (fun v => onA (eg env 11) fun u => R (.tuple #[v, u]) H nx) := retQ_two rfl (of_decide_eq_true (by kernel_rfl)) (of_decide_eq_true (by kernel_rfl))

/-! 147: slices.pdqsortCmpFunc[milestone/routes.Told] · code of 147 operations -/
def L147 : Nat → List Nat
  | 0 => [0, 1, 2, 3, 4, 10]
  | 1 => [0, 1, 2, 3, 4, 10, 11]
  | 2 => [0, 1, 2, 3, 4, 10, 11, 12]
  | 3 => [0, 1, 2, 3, 4, 10, 11, 12, 25]
  | 4 => []
  | 5 => [0, 1, 2, 3, 4, 10, 11, 12, 32]
  | 6 => []
  | 7 => [0, 1, 2, 3, 4, 10, 11, 12, 39]
  | 8 => [0, 1, 2, 3, 4, 10, 11, 12]
  | 9 => [0, 1, 2, 3, 4, 10, 11, 12]
  | 10 => [0, 1, 2, 3, 4, 10, 11, 12, 13, 14]
  | 11 => [0, 1, 2, 3, 4, 10, 11, 12, 13, 14, 56]
  | 12 => [0, 1, 2, 3, 4, 10, 11, 12, 13]
  | 13 => [0, 1, 2, 3, 4, 10, 11, 12, 13]
  | 14 => [0, 1, 2, 3, 4, 10, 11, 12, 13, 14]
  | 15 => [0, 1, 2, 3, 4, 10, 11, 12, 13, 75]
  | 16 => [0, 1, 2, 3, 4, 10, 11, 12, 13, 80]
  | 17 => [0, 1, 2, 3, 4, 10, 11, 12, 13, 97]
  | 18 => [0, 2, 3, 4, 10, 11, 15]
  | 19 => [0, 1, 2, 3, 4, 10, 11]
  | 20 => [0, 1, 2, 3, 4, 12, 16, 17]
  | 21 => [0, 1, 2, 3, 4, 11, 12, 16]
  | 22 => [0, 1, 2, 3, 4, 11, 12, 16, 18, 19]
  | 23 => [0, 1, 2, 3, 4, 11, 16, 18, 19, 20]
  | 24 => [0, 1, 2, 3, 4, 11, 16, 18, 19, 20, 125]
  | 25 => [0, 1, 2, 3, 4, 10, 11, 16]
  | 26 => [0, 2, 3, 4, 10, 11, 16]
  | 27 => [0, 1, 2, 3, 4, 10, 11]
  | 28 => [0, 1, 2, 3, 4, 10, 11, 16]
  | 29 => [0, 1, 3, 4, 10, 11, 16]
  | 30 => [0, 1, 2, 3, 4, 10, 11]
  | _ => []
theorem L147x0 : L147 0 = [0, 1, 2, 3, 4, 10] := (rfl)
theorem L147x1 : L147 1 = [0, 1, 2, 3, 4, 10, 11] := (rfl)
theorem L147x2 : L147 2 = [0, 1, 2, 3, 4, 10, 11, 12] := (rfl)
theorem L147x3 : L147 3 = [0, 1, 2, 3, 4, 10, 11, 12, 25] := (rfl)
theorem L147x4 : L147 4 = [] := (rfl)
theorem L147x5 : L147 5 = [0, 1, 2, 3, 4, 10, 11, 12, 32] := (rfl)
theorem L147x6 : L147 6 = [] := (rfl)
theorem L147x7 : L147 7 = [0, 1, 2, 3, 4, 10, 11, 12, 39] := (rfl)
theorem L147x8 : L147 8 = [0, 1, 2, 3, 4, 10, 11, 12] := (rfl)
theorem L147x9 : L147 9 = [0, 1, 2, 3, 4, 10, 11, 12] := (rfl)
theorem L147x10 : L147 10 = [0, 1, 2, 3, 4, 10, 11, 12, 13, 14] := (rfl)
theorem L147x11 : L147 11 = [0, 1, 2, 3, 4, 10, 11, 12, 13, 14, 56] := (rfl)
theorem L147x12 : L147 12 = [0, 1, 2, 3, 4, 10, 11, 12, 13] := (rfl)
theorem L147x13 : L147 13 = [0, 1, 2, 3, 4, 10, 11, 12, 13] := (rfl)
theorem L147x14 : L147 14 = [0, 1, 2, 3, 4, 10, 11, 12, 13, 14] := (rfl)
theorem L147x15 : L147 15 = [0, 1, 2, 3, 4, 10, 11, 12, 13, 75] := (rfl)
theorem L147x16 : L147 16 = [0, 1, 2, 3, 4, 10, 11, 12, 13, 80] := (rfl)
theorem L147x17 : L147 17 = [0, 1, 2, 3, 4, 10, 11, 12, 13, 97] := (rfl)
theorem L147x18 : L147 18 = [0, 2, 3, 4, 10, 11, 15] := (rfl)
theorem L147x19 : L147 19 = [0, 1, 2, 3, 4, 10, 11] := (rfl)
theorem L147x20 : L147 20 = [0, 1, 2, 3, 4, 12, 16, 17] := (rfl)
theorem L147x21 : L147 21 = [0, 1, 2, 3, 4, 11, 12, 16] := (rfl)
theorem L147x22 : L147 22 = [0, 1, 2, 3, 4, 11, 12, 16, 18, 19] := (rfl)
theorem L147x23 : L147 23 = [0, 1, 2, 3, 4, 11, 16, 18, 19, 20] := (rfl)
theorem L147x24 : L147 24 = [0, 1, 2, 3, 4, 11, 16, 18, 19, 20, 125] := (rfl)
theorem L147x25 : L147 25 = [0, 1, 2, 3, 4, 10, 11, 16] := (rfl)
theorem L147x26 : L147 26 = [0, 2, 3, 4, 10, 11, 16] := (rfl)
theorem L147x27 : L147 27 = [0, 1, 2, 3, 4, 10, 11] := (rfl)
theorem L147x28 : L147 28 = [0, 1, 2, 3, 4, 10, 11, 16] := (rfl)
theorem L147x29 : L147 29 = [0, 1, 3, 4, 10, 11, 16] := (rfl)
theorem L147x30 : L147 30 = [0, 1, 2, 3, 4, 10, 11] := (rfl)
def ord147x17 : List Nat := [0, 1, 2, 3, 4, 5, 6, 7, 8, 9, 10, 11, 12, 13, 14, 15, 16]
theorem fnOk147 : fnOk Tryz.prog 147 = true := by kernel_rfl
theorem rq147 {R : Value → AH → Nat → Prop} {env : Env} {H : AH} {nx : Nat} : retQ Tryz.prog Tryz.f147 R .ret env H nx = R (.tuple #[]) H nx := retQ_none rfl

/-! 148: slices.siftDownCmpFunc[milestone/api.Route] · code of 76 operations -/
def L148 : Nat → List Nat
  | 0 => [0, 2, 3, 4, 10]
  | 1 => [0, 2, 3, 4, 10, 11]
  | 2 => [0, 2, 3, 4, 10, 11, 18]
  | 3 => [0, 2, 3, 4, 10, 11, 40]
  | 4 => [0, 2, 3, 4, 10, 11]
  | 5 => [0, 2, 3, 4, 10, 11, 58]
  | 6 => [0, 2, 3, 4, 11]
  | 7 => [0, 2, 3, 4, 10]
  | _ => []
theorem L148x0 : L148 0 = [0, 2, 3, 4, 10] := (rfl)
theorem L148x1 : L148 1 = [0, 2, 3, 4, 10, 11] := (rfl)
theorem L148x2 : L148 2 = [0, 2, 3, 4, 10, 11, 18] := (rfl)
theorem L148x3 : L148 3 = [0, 2, 3, 4, 10, 11, 40] := (rfl)
theorem L148x4 : L148 4 = [0, 2, 3, 4, 10, 11] := (rfl)
theorem L148x5 : L148 5 = [0, 2, 3, 4, 10, 11, 58] := (rfl)
theorem L148x6 : L148 6 = [0, 2, 3, 4, 11] := (rfl)
theorem L148x7 : L148 7 = [0, 2, 3, 4, 10] := (rfl)
def ord148x3 : List Nat := [0, 1, 2, 3, 4, 5, 6, 7, 8, 9, 10, 11, 12, 13, 14, 15, 16, 17, 18, 19, 20, 21]
def ord148x5 : List Nat := [0, 1, 2, 3, 4, 5, 6, 7, 8, 9, 10, 11, 12, 13, 14, 15]
def ord148x6 : List Nat := [0, 1, 2, 3, 4, 5, 6, 7, 8, 9, 10, 11, 12, 13, 14, 15, 16, 17, 18, 19, 20, 21, 22, 23]
theorem fnOk148 : fnOk Tryz.prog 148 = true := by kernel_rfl
theorem rq148 {R : Value → AH → Nat → Prop} {env : Env} {H : AH} {nx : Nat} : retQ Tryz.prog Tryz.f148 R .ret env H nx = R (.tuple #[]) H nx := retQ_none rfl

/-! 149: slices.nextPowerOfTwo · code of 6 operations -/
def L149 : Nat → List Nat
  | 0 => [0]
  | 1 => [2]
  | _ => []
theorem L149x0 : L149 0 = [0] := (rfl)
theorem L149x1 : L149 1 = [2] := (rfl)
theorem fnOk149 : fnOk Tryz.prog 149 = true := by kernel_rfl
theorem rq149 {R : Value → AH → Nat → Prop} {env : Env} {H : AH} {nx : Nat} : retQ Tryz.prog Tryz.f149 R .ret env H nx = onV (eg env 2) R H nx := retQ_one rfl (of_decide_eq_true (by kernel_rfl))

/-! 150: (*slices.xorshift).Next · code of 35 operations -/
def L150 : Nat → List Nat
  | 0 => [0]
  | 1 => [0]
  | 2 => [0]
  | 3 => [0]
  | 4 => [2]
  | _ => []
theorem L150x0 : L150 0 = [0] := (rfl)
theorem L150x1 : L150 1 = [0] := (rfl)
theorem L150x2 : L150 2 = [0] := (rfl)
theorem L150x3 : L150 3 = [0] := (rfl)
theorem L150x4 : L150 4 = [2] := (rfl)
def ord150x1 : List Nat := [0, 1, 2, 3, 4, 5, 6, 7, 8, 9]
def ord150x2 : List Nat := [0, 1, 2, 3, 4, 5, 6, 7, 8, 9]
def ord150x3 : List Nat := [0, 1, 2, 3, 4, 5, 6, 7, 8, 9]
theorem fnOk150 : fnOk Tryz.prog 150 = true := by kernel_rfl
theorem rq150 {R : Value → AH → Nat → Prop} {env : Env} {H : AH} {nx : Nat} : retQ Tryz.prog Tryz.f150 R .ret env H nx = onV (eg env 2) R H nx := retQ_one rfl (of_decide_eq_true (by kernel_rfl))

theorem ld212 (H : AH) (b o : Nat) : loadV Tryz.prog H 212 (.pointer (some ⟨b, o, none⟩)) = H.c b o := load_one (by kernel_rfl)
/-! 151: slices.medianAdjacentCmpFunc[milestone/api.Route] · code of 11 operations -/
def L151 : Nat → List Nat
  | 0 => [0, 1, 2, 3]
  | 1 => [8]
  | _ => []
theorem L151x0 : L151 0 = [0, 1, 2, 3] := (rfl)
theorem L151x1 : L151 1 = [8] := (rfl)
theorem fnOk151 : fnOk Tryz.prog 151 = true := by kernel_rfl
theorem rq151 {R : Value → AH → Nat → Prop} {env : Env} {H : AH} {nx : Nat} : retQ Tryz.prog Tryz.f151 R .ret env H nx = onV (eg env 8) R H nx := retQ_one rfl (of_decide_eq_true (by kernel_rfl))

/-! 152: slices.medianCmpFunc[milestone/api.Route] · code of 36 operations -/
def L152 : Nat → List Nat
  | 0 => [0, 1, 2, 3, 4, 5]
  | 1 => [0, 1, 2, 3, 4, 5]
  | 2 => [0, 1, 2, 4, 5]
  | 3 => [2]
  | 4 => [12]
  | _ => []
theorem L152x0 : L152 0 = [0, 1, 2, 3, 4, 5] := (rfl)
theorem L152x1 : L152 1 = [0, 1, 2, 3, 4, 5] := (rfl)
theorem L152x2 : L152 2 = [0, 1, 2, 4, 5] := (rfl)
theorem L152x3 : L152 3 = [2] := (rfl)
theorem L152x4 : L152 4 = [12] := (rfl)
theorem fnOk152 : fnOk Tryz.prog 152 = true := by kernel_rfl
theorem rq152 {R : Value → AH → Nat → Prop} {env : Env} {H : AH} {nx : Nat} : retQ Tryz.prog Tryz.f152 R .ret env H nx = onV (eg env 12) R H nx := retQ_one rfl (of_decide_eq_true (by kernel_rfl))

/-! 153: slices.insertionSortOrdered[int] · code of 47 operations -/
def L153 : Nat → List Nat
  | 0 => [0, 1, 2, 6]
  | 1 => [0, 1, 2, 6, 12]
  | 3 => [0, 1, 2, 6, 7]
  | 4 => [0, 1, 2, 6, 7, 30]
  | 6 => [0, 1, 2, 6, 7]
  | 5 => [0, 1, 2, 6, 7]
  | 2 => [0, 1, 2, 6]
  | _ => []
theorem L153x0 : L153 0 = [0, 1, 2, 6] := (rfl)
theorem L153x1 : L153 1 = [0, 1, 2, 6, 12] := (rfl)
theorem L153x3 : L153 3 = [0, 1, 2, 6, 7] := (rfl)
theorem L153x4 : L153 4 = [0, 1, 2, 6, 7, 30] := (rfl)
theorem L153x6 : L153 6 = [0, 1, 2, 6, 7] := (rfl)
theorem L153x5 : L153 5 = [0, 1, 2, 6, 7] := (rfl)
theorem L153x2 : L153 2 = [0, 1, 2, 6] := (rfl)
def ord153x4 : List Nat := [0, 1, 2, 3, 4, 5, 6, 7, 8, 9, 10, 11, 12, 13, 14]
def ord153x6 : List Nat := [0, 1, 2, 3, 4, 5, 6, 7, 8, 9, 10, 11, 12, 13, 14, 15, 16, 17]
theorem fnOk153 : fnOk Tryz.prog 153 = true := by kernel_rfl
theorem rq153 {R : Value → AH → Nat → Prop} {env : Env} {H : AH} {nx : Nat} : retQ Tryz.prog Tryz.f153 R .ret env H nx = R (.tuple #[]) H nx := retQ_none rfl

/-! 154: slices.heapSortOrdered[int] · code of 54 operations -/
def L154 : Nat → List Nat
  | 0 => [0, 1, 2, 6]
  | 1 => [0, 1, 2, 6, 7]
  | 2 => [0, 6, 7, 8]
  | 3 => [0, 6, 7, 8, 9]
  | 4 => [0, 6, 7, 8, 9, 19]
  | 6 => [0, 6, 7, 8, 9]
  | 5 => [0, 6, 7, 8, 9]
  | 7 => [0, 6, 7, 10]
  | 8 => [0, 6, 7, 10, 30]
  | 10 => [0, 6, 7, 10]
  | 11 => [0, 6, 7, 10]
  | 9 => [0, 6, 7, 10]
  | _ => []
theorem L154x0 : L154 0 = [0, 1, 2, 6] := (rfl)
theorem L154x1 : L154 1 = [0, 1, 2, 6, 7] := (rfl)
theorem L154x2 : L154 2 = [0, 6, 7, 8] := (rfl)
theorem L154x3 : L154 3 = [0, 6, 7, 8, 9] := (rfl)
theorem L154x4 : L154 4 = [0, 6, 7, 8, 9, 19] := (rfl)
theorem L154x6 : L154 6 = [0, 6, 7, 8, 9] := (rfl)
theorem L154x5 : L154 5 = [0, 6, 7, 8, 9] := (rfl)
theorem L154x7 : L154 7 = [0, 6, 7, 10] := (rfl)
theorem L154x8 : L154 8 = [0, 6, 7, 10, 30] := (rfl)
theorem L154x10 : L154 10 = [0, 6, 7, 10] := (rfl)
theorem L154x11 : L154 11 = [0, 6, 7, 10] := (rfl)
theorem L154x9 : L154 9 = [0, 6, 7, 10] := (rfl)
def ord154x10 : List Nat := [0, 1, 2, 3, 4, 5, 6, 7, 8, 9, 10, 11, 12, 13, 14, 15, 16, 17, 18, 19]
theorem fnOk154 : fnOk Tryz.prog 154 = true := by kernel_rfl
theorem rq154 {R : Value → AH → Nat → Prop} {env : Env} {H : AH} {nx : Nat} : retQ Tryz.prog Tryz.f154 R .ret env H nx = R (.tuple #[]) H nx := retQ_none rfl

/-! 155: slices.breakPatternsOrdered[int] · code of 64 operations -/
def L155 : Nat → List Nat
  | 0 => [0, 1, 6]
  | 1 => [0, 1, 6, 15]
  | 2 => [0, 1, 6, 7]
  | 3 => [0, 1, 6, 7, 8]
  | 4 => [0, 1, 6, 7, 8, 9]
  | 5 => [0, 1, 6, 7, 8, 9, 33]
  | 7 => [0, 1, 6, 7, 8, 9, 10]
  | 8 => [0, 1, 6, 7, 8, 9, 10, 43]
  | 9 => [0, 1, 6, 7, 8, 9, 10]
  | 10 => [0, 1, 6, 7, 8, 9]
  | 6 => [0, 1, 6, 7, 8, 9]
  | _ => []
theorem L155x0 : L155 0 = [0, 1, 6] := (rfl)
theorem L155x1 : L155 1 = [0, 1, 6, 15] := (rfl)
theorem L155x2 : L155 2 = [0, 1, 6, 7] := (rfl)
theorem L155x3 : L155 3 = [0, 1, 6, 7, 8] := (rfl)
theorem L155x4 : L155 4 = [0, 1, 6, 7, 8, 9] := (rfl)
theorem L155x5 : L155 5 = [0, 1, 6, 7, 8, 9, 33] := (rfl)
theorem L155x7 : L155 7 = [0, 1, 6, 7, 8, 9, 10] := (rfl)
theorem L155x8 : L155 8 = [0, 1, 6, 7, 8, 9, 10, 43] := (rfl)
theorem L155x9 : L155 9 = [0, 1, 6, 7, 8, 9, 10] := (rfl)
theorem L155x10 : L155 10 = [0, 1, 6, 7, 8, 9] := (rfl)
theorem L155x6 : L155 6 = [0, 1, 6, 7, 8, 9] := (rfl)
def ord155x10 : List Nat := [0, 1, 2, 3, 4, 5, 6, 7, 8, 9, 10, 11, 12, 13, 14, 15, 16, 17, 18, 19]
theorem fnOk155 : fnOk Tryz.prog 155 = true := by kernel_rfl
theorem rq155 {R : Value → AH → Nat → Prop} {env : Env} {H : AH} {nx : Nat} : retQ Tryz.prog Tryz.f155 R .ret env H nx = R (.tuple #[]) H nx := retQ_none rfl

/-! 156: slices.choosePivotOrdered[int] · code of 61 operations -/
def L156 : Nat → List Nat
  | 0 => [0, 1, 2]
  | 1 => [0, 1, 8]
  | 2 => [0, 1, 8, 9]
  | 3 => [0, 1, 8, 9, 10]
  | 4 => [0, 1, 8, 9, 10, 11]
  | 5 => [0, 8, 9, 10, 11, 12]
  | 6 => [0, 8, 9, 10, 11, 12, 32]
  | 7 => [0, 9, 10, 11, 12, 34]
  | 8 => [0, 9, 10, 11, 12]
  | 9 => [0, 9, 10, 11, 12]
  | 10 => [0, 9, 10, 11, 12]
  | 11 => [9, 11]
  | 12 => [11, 49]
  | 14 => [11, 49, 51]
  | 15 => [6, 7]
  | 16 => [11, 54]
  | 17 => [6, 7]
  | 13 => [6, 7]
  | _ => []
theorem L156x0 : L156 0 = [0, 1, 2] := (rfl)
theorem L156x1 : L156 1 = [0, 1, 8] := (rfl)
theorem L156x2 : L156 2 = [0, 1, 8, 9] := (rfl)
theorem L156x3 : L156 3 = [0, 1, 8, 9, 10] := (rfl)
theorem L156x4 : L156 4 = [0, 1, 8, 9, 10, 11] := (rfl)
theorem L156x5 : L156 5 = [0, 8, 9, 10, 11, 12] := (rfl)
theorem L156x6 : L156 6 = [0, 8, 9, 10, 11, 12, 32] := (rfl)
theorem L156x7 : L156 7 = [0, 9, 10, 11, 12, 34] := (rfl)
theorem L156x8 : L156 8 = [0, 9, 10, 11, 12] := (rfl)
theorem L156x9 : L156 9 = [0, 9, 10, 11, 12] := (rfl)
theorem L156x10 : L156 10 = [0, 9, 10, 11, 12] := (rfl)
theorem L156x11 : L156 11 = [9, 11] := (rfl)
theorem L156x12 : L156 12 = [11, 49] := (rfl)
theorem L156x14 : L156 14 = [11, 49, 51] := (rfl)
theorem L156x15 : L156 15 = [6, 7] := (rfl)
theorem L156x16 : L156 16 = [11, 54] := (rfl)
theorem L156x17 : L156 17 = [6, 7] := (rfl)
theorem L156x13 : L156 13 = [6, 7] := (rfl)
theorem fnOk156 : fnOk Tryz.prog 156 = true := by kernel_rfl
theorem rq156 {R : Value → AH → Nat → Prop} {env : Env} {H : AH} {nx : Nat} : retQ Tryz.prog Tryz.f156 R .ret env H nx = onA (eg env 6) (fun v => onA (eg env 7) fun u => R (.tuple #[v, u]) H nx) := retQ_two rfl (of_decide_eq_true (by kernel_rfl)) (of_decide_eq_true (by kernel_rfl))

/-! 157: slices.reverseRangeOrdered[int] · code of 30 operations -/
def L157 : Nat → List Nat
  | 0 => [0, 2, 6]
  | 1 => [0, 6, 7]
  | 2 => [0, 6, 7, 13]
  | 3 => [0, 6, 7]
  | 4 => [0, 6, 7]
  | 5 => [0, 6, 7]
  | _ => []
theorem L157x0 : L157 0 = [0, 2, 6] := (rfl)
theorem L157x1 : L157 1 = [0, 6, 7] := (rfl)
theorem L157x2 : L157 2 = [0, 6, 7, 13] := (rfl)
theorem L157x3 : L157 3 = [0, 6, 7] := (rfl)
theorem L157x4 : L157 4 = [0, 6, 7] := (rfl)
theorem L157x5 : L157 5 = [0, 6, 7] := (rfl)
def ord157x3 : List Nat := [0, 1, 2, 3, 4, 5, 6, 7, 8, 9, 10, 11, 12, 13, 14, 15]
theorem fnOk157 : fnOk Tryz.prog 157 = true := by kernel_rfl
theorem rq157 {R : Value → AH → Nat → Prop} {env : Env} {H : AH} {nx : Nat} : retQ Tryz.prog Tryz.f157 R .ret env H nx = R (.tuple #[]) H nx := retQ_none rfl

/-! 158: slices.partialInsertionSortOrdered[int] · code of 140 operations -/
def L158 : Nat → List Nat
  | 0 => [0, 1, 2]
  | 1 => [0, 1, 2, 7]
  | 2 => [0, 1, 2, 7, 8]
  | 3 => [0, 1, 2, 7, 8, 14]
  | 5 => [0, 1, 2, 7, 8, 32]
  | 6 => [0, 1, 2, 7, 8]
  | 7 => [0, 1, 2, 7, 8, 37]
  | 8 => [6]
  | 9 => [0, 1, 2, 7, 8, 41]
  | 10 => [6]
  | 11 => [0, 1, 2, 7, 8]
  | 12 => [0, 1, 2, 7, 8, 61]
  | 13 => [0, 1, 2, 7, 8, 9]
  | 14 => [0, 1, 2, 7, 8, 9, 65]
  | 16 => [0, 1, 2, 7, 8, 9, 78]
  | 17 => [0, 1, 2, 7, 8, 9]
  | 15 => [0, 1, 2, 7, 8, 9]
  | 18 => [0, 1, 2, 7, 8, 98]
  | 19 => [0, 1, 2, 7, 8, 10]
  | 20 => [0, 1, 2, 7, 8, 10, 103]
  | 22 => [0, 1, 2, 7, 8, 10, 116]
  | 23 => [0, 1, 2, 7, 8, 10]
  | 21 => [0, 1, 2, 7, 8, 10]
  | 4 => [0, 1, 2, 7, 8]
  | 24 => [6]
  | _ => []
theorem L158x0 : L158 0 = [0, 1, 2] := (rfl)
theorem L158x1 : L158 1 = [0, 1, 2, 7] := (rfl)
theorem L158x2 : L158 2 = [0, 1, 2, 7, 8] := (rfl)
theorem L158x3 : L158 3 = [0, 1, 2, 7, 8, 14] := (rfl)
theorem L158x5 : L158 5 = [0, 1, 2, 7, 8, 32] := (rfl)
theorem L158x6 : L158 6 = [0, 1, 2, 7, 8] := (rfl)
theorem L158x7 : L158 7 = [0, 1, 2, 7, 8, 37] := (rfl)
theorem L158x8 : L158 8 = [6] := (rfl)
theorem L158x9 : L158 9 = [0, 1, 2, 7, 8, 41] := (rfl)
theorem L158x10 : L158 10 = [6] := (rfl)
theorem L158x11 : L158 11 = [0, 1, 2, 7, 8] := (rfl)
theorem L158x12 : L158 12 = [0, 1, 2, 7, 8, 61] := (rfl)
theorem L158x13 : L158 13 = [0, 1, 2, 7, 8, 9] := (rfl)
theorem L158x14 : L158 14 = [0, 1, 2, 7, 8, 9, 65] := (rfl)
theorem L158x16 : L158 16 = [0, 1, 2, 7, 8, 9, 78] := (rfl)
theorem L158x17 : L158 17 = [0, 1, 2, 7, 8, 9] := (rfl)
theorem L158x15 : L158 15 = [0, 1, 2, 7, 8, 9] := (rfl)
theorem L158x18 : L158 18 = [0, 1, 2, 7, 8, 98] := (rfl)
theorem L158x19 : L158 19 = [0, 1, 2, 7, 8, 10] := (rfl)
theorem L158x20 : L158 20 = [0, 1, 2, 7, 8, 10, 103] := (rfl)
theorem L158x22 : L158 22 = [0, 1, 2, 7, 8, 10, 116] := (rfl)
theorem L158x23 : L158 23 = [0, 1, 2, 7, 8, 10] := (rfl)
theorem L158x21 : L158 21 = [0, 1, 2, 7, 8, 10] := (rfl)
theorem L158x4 : L158 4 = [0, 1, 2, 7, 8] := (rfl)
theorem L158x24 : L158 24 = [6] := (rfl)
def ord158x5 : List Nat := [0, 1, 2, 3, 4, 5, 6, 7, 8, 9, 10, 11, 12, 13, 14, 15]
def ord158x11 : List Nat := [0, 1, 2, 3, 4, 5, 6, 7, 8, 9, 10, 11, 12, 13, 14, 15, 16, 17]
def ord158x16 : List Nat := [0, 1, 2, 3, 4, 5, 6, 7, 8, 9, 10]
def ord158x17 : List Nat := [0, 1, 2, 3, 4, 5, 6, 7, 8, 9, 10, 11, 12, 13, 14, 15, 16, 17]
def ord158x22 : List Nat := [0, 1, 2, 3, 4, 5, 6, 7, 8, 9, 10]
def ord158x23 : List Nat := [0, 1, 2, 3, 4, 5, 6, 7, 8, 9, 10, 11, 12, 13, 14, 15, 16, 17]
theorem fnOk158 : fnOk Tryz.prog 158 = true := by kernel_rfl
theorem rq158 {R : Value → AH → Nat → Prop} {env : Env} {H : AH} {nx : Nat} : retQ Tryz.prog Tryz.f158 R .ret env H nx = onV (eg env 6) R H nx := retQ_one rfl (of_decide_eq_true (by kernel_rfl))

/-! 159: cmp.Less[int] · code of 14 operations -/
def L159 : Nat → List Nat
  | 0 => [0, 1]
  | 1 => [4]
  | _ => []
theorem L159x0 : L159 0 = [0, 1] := (rfl)
theorem L159x1 : L159 1 = [4] := (rfl)
theorem fnOk159 : fnOk Tryz.prog 159 = true := by kernel_rfl
theorem rq159 {R : Value → AH → Nat → Prop} {env : Env} {H : AH} {nx : Nat} : retQ Tryz.prog Tryz.f159 R .ret env H nx = onV (eg env 4) R H nx := retQ_one rfl (of_decide_eq_true (by kernel_rfl))

/-! 160: slices.partitionEqualOrdered[int] · code of 85 operations -/
def L160 : Nat → List Nat
  | 0 => [0, 1, 2, 3]
  | 1 => [0, 1, 2]
  | 2 => [0, 1, 9, 10]
  | 3 => [0, 1, 9, 10, 43]
  | 4 => [0, 1, 9, 10]
  | 5 => [0, 1, 9, 10, 59]
  | 6 => [0, 1, 9, 10]
  | 7 => [0, 1, 9, 10, 64]
  | 8 => [0, 1, 9, 10]
  | 9 => [0, 1, 9, 10]
  | 10 => [0, 1, 9, 10]
  | 11 => [8]
  | _ => []
theorem L160x0 : L160 0 = [0, 1, 2, 3] := (rfl)
theorem L160x1 : L160 1 = [0, 1, 2] := (rfl)
theorem L160x2 : L160 2 = [0, 1, 9, 10] := (rfl)
theorem L160x3 : L160 3 = [0, 1, 9, 10, 43] := (rfl)
theorem L160x4 : L160 4 = [0, 1, 9, 10] := (rfl)
theorem L160x5 : L160 5 = [0, 1, 9, 10, 59] := (rfl)
theorem L160x6 : L160 6 = [0, 1, 9, 10] := (rfl)
theorem L160x7 : L160 7 = [0, 1, 9, 10, 64] := (rfl)
theorem L160x8 : L160 8 = [0, 1, 9, 10] := (rfl)
theorem L160x9 : L160 9 = [0, 1, 9, 10] := (rfl)
theorem L160x10 : L160 10 = [0, 1, 9, 10] := (rfl)
theorem L160x11 : L160 11 = [8] := (rfl)
def ord160x1 : List Nat := [0, 1, 2, 3, 4, 5, 6, 7, 8, 9, 10, 11, 12, 13, 14, 15]
def ord160x3 : List Nat := [0, 1, 2, 3, 4, 5, 6, 7, 8, 9, 10, 11, 12, 13, 14]
def ord160x5 : List Nat := [0, 1, 2, 3, 4, 5, 6, 7, 8, 9, 10, 11, 12, 13]
def ord160x8 : List Nat := [0, 1, 2, 3, 4, 5, 6, 7, 8, 9, 10, 11, 12, 13, 14, 15]
theorem fnOk160 : fnOk Tryz.prog 160 = true := by kernel_rfl
theorem rq160 {R : Value → AH → Nat → Prop} {env : Env} {H : AH} {nx : Nat} : retQ Tryz.prog Tryz.f160 R .ret env H nx = onV (eg env 8) R H nx := retQ_one rfl (of_decide_eq_true (by kernel_rfl))

/-! 161: slices.partitionOrdered[int] · code of 182 operations -/
def L161 : Nat → List Nat
  | 0 => [0, 1, 2, 3]
  | 1 => [0, 1, 2]
  | 2 => [0, 1, 10, 11]
  | 3 => [0, 1, 10, 11, 43]
  | 4 => [0, 1, 10, 11]
  | 5 => [0, 1, 10, 11, 60]
  | 6 => [0, 1, 10, 11]
  | 7 => [0, 1, 10, 11, 65]
  | 8 => [11]
  | 9 => [8, 9]
  | 10 => [0, 1, 10, 11]
  | 11 => [0, 1, 10, 11]
  | 12 => [0, 1, 10, 11]
  | 13 => [0, 1, 10, 11, 112]
  | 14 => [0, 1, 10, 11]
  | 15 => [0, 1, 10, 11, 129]
  | 16 => [0, 1, 10, 11]
  | 17 => [0, 1, 10, 11, 134]
  | 18 => [0, 1, 10, 11]
  | 19 => [0, 1, 10, 11]
  | 20 => [0, 1, 10, 11]
  | 21 => [11]
  | 22 => [8, 9]
  | _ => []
theorem L161x0 : L161 0 = [0, 1, 2, 3] := (rfl)
theorem L161x1 : L161 1 = [0, 1, 2] := (rfl)
theorem L161x2 : L161 2 = [0, 1, 10, 11] := (rfl)
theorem L161x3 : L161 3 = [0, 1, 10, 11, 43] := (rfl)
theorem L161x4 : L161 4 = [0, 1, 10, 11] := (rfl)
theorem L161x5 : L161 5 = [0, 1, 10, 11, 60] := (rfl)
theorem L161x6 : L161 6 = [0, 1, 10, 11] := (rfl)
theorem L161x7 : L161 7 = [0, 1, 10, 11, 65] := (rfl)
theorem L161x8 : L161 8 = [11] := (rfl)
theorem L161x9 : L161 9 = [8, 9] := (rfl)
theorem L161x10 : L161 10 = [0, 1, 10, 11] := (rfl)
theorem L161x11 : L161 11 = [0, 1, 10, 11] := (rfl)
theorem L161x12 : L161 12 = [0, 1, 10, 11] := (rfl)
theorem L161x13 : L161 13 = [0, 1, 10, 11, 112] := (rfl)
theorem L161x14 : L161 14 = [0, 1, 10, 11] := (rfl)
theorem L161x15 : L161 15 = [0, 1, 10, 11, 129] := (rfl)
theorem L161x16 : L161 16 = [0, 1, 10, 11] := (rfl)
theorem L161x17 : L161 17 = [0, 1, 10, 11, 134] := (rfl)
theorem L161x18 : L161 18 = [0, 1, 10, 11] := (rfl)
theorem L161x19 : L161 19 = [0, 1, 10, 11] := (rfl)
theorem L161x20 : L161 20 = [0, 1, 10, 11] := (rfl)
theorem L161x21 : L161 21 = [11] := (rfl)
theorem L161x22 : L161 22 = [8, 9] := (rfl)
def ord161x1 : List Nat := [0, 1, 2, 3, 4, 5, 6, 7, 8, 9, 10, 11, 12, 13, 14, 15]
def ord161x3 : List Nat := [0, 1, 2, 3, 4, 5, 6, 7, 8, 9, 10, 11, 12, 13]
def ord161x5 : List Nat := [0, 1, 2, 3, 4, 5, 6, 7, 8, 9, 10, 11, 12, 13, 14]
def ord161x8 : List Nat := [0, 1, 2, 3, 4, 5, 6, 7, 8, 9, 10, 11, 12, 13, 14, 15]
def ord161x10 : List Nat := [0, 1, 2, 3, 4, 5, 6, 7, 8, 9, 10, 11, 12, 13, 14, 15]
def ord161x13 : List Nat := [0, 1, 2, 3, 4, 5, 6, 7, 8, 9, 10, 11, 12, 13]
def ord161x15 : List Nat := [0, 1, 2, 3, 4, 5, 6, 7, 8, 9, 10, 11, 12, 13, 14]
def ord161x18 : List Nat := [0, 1, 2, 3, 4, 5, 6, 7, 8, 9, 10, 11, 12, 13, 14, 15]
def ord161x21 : List Nat := [0, 1, 2, 3, 4, 5, 6, 7, 8, 9, 10, 11, 12, 13, 14, 15]
theorem fnOk161 : fnOk Tryz.prog 161 = true := by kernel_rfl
theorem rq161 {R : Value → AH → Nat → Prop} {env : Env} {H : AH} {nx : Nat} : retQ Tryz.prog Tryz.f161 R .ret env H nx = onA (eg env 8) (fun v => onA (eg env 9) fun u => R (.tuple #[v, u]) H nx) := retQ_two rfl (of_decide_eq_true (by kernel_rfl)) (of_decide_eq_true (by kernel_rfl))

/-! 162: slices.Reverse[[]milestone/source.entry,milestone/source.entry] · code of 30 operations -/
def L162 : Nat → List Nat
  | 0 => [0, 2, 3]
  | 1 => [0, 2, 3, 9]
  | 3 => [0, 2, 3]
  | 2 => [0, 2, 3]
  | _ => []
theorem L162x0 : L162 0 = [0, 2, 3] := (rfl)
theorem L162x1 : L162 1 = [0, 2, 3, 9] := (rfl)
theorem L162x3 : L162 3 = [0, 2, 3] := (rfl)
theorem L162x2 : L162 2 = [0, 2, 3] := (rfl)
def ord162x3 : List Nat := [0, 1, 2, 3, 4, 5, 6, 7, 8, 9, 10, 11, 12, 13, 14, 15]
theorem fnOk162 : fnOk Tryz.prog 162 = true := by kernel_rfl
theorem rq162 {R : Value → AH → Nat → Prop} {env : Env} {H : AH} {nx : Nat} : retQ Tryz.prog Tryz.f162 R .ret env H nx = R (.tuple #[]) H nx := retQ_none rfl

theorem st152 (lo : Nat) (b o : Nat) (v0 v1 v2 v3 : Value) (K : AH → Nat → Prop) (H : AH) (nx : Nat) : storeQ Tryz.prog lo 152 (.pointer (some ⟨b, o, none⟩)) (.agg #[v0, v1, v2, v3]) K H nx = stsQ lo b o [v0, v1, v2, v3] K H nx := store_agg (n := 4) (by kernel_rfl) (by decide) rfl
/-! 163: slices.siftDownCmpFunc[milestone/api.Prefix] · code of 76 operations -/
def L163 : Nat → List Nat
  | 0 => [0, 2, 3, 4, 10]
  | 1 => [0, 2, 3, 4, 10, 11]
  | 2 => [0, 2, 3, 4, 10, 11, 18]
  | 3 => [0, 2, 3, 4, 10, 11, 40]
  | 4 => [0, 2, 3, 4, 10, 11]
  | 5 => [0, 2, 3, 4, 10, 11, 58]
  | 6 => [0, 2, 3, 4, 11]
  | 7 => [0, 2, 3, 4, 10]
  | _ => []
theorem L163x0 : L163 0 = [0, 2, 3, 4, 10] := (rfl)
theorem L163x1 : L163 1 = [0, 2, 3, 4, 10, 11] := (rfl)
theorem L163x2 : L163 2 = [0, 2, 3, 4, 10, 11, 18] := (rfl)
theorem L163x3 : L163 3 = [0, 2, 3, 4, 10, 11, 40] := (rfl)
theorem L163x4 : L163 4 = [0, 2, 3, 4, 10, 11] := (rfl)
theorem L163x5 : L163 5 = [0, 2, 3, 4, 10, 11, 58] := (rfl)
theorem L163x6 : L163 6 = [0, 2, 3, 4, 11] := (rfl)
theorem L163x7 : L163 7 = [0, 2, 3, 4, 10] := (rfl)
def ord163x3 : List Nat := [0, 1, 2, 3, 4, 5, 6, 7, 8, 9, 10, 11, 12, 13, 14, 15, 16, 17, 18, 19, 20, 21]
def ord163x5 : List Nat := [0, 1, 2, 3, 4, 5, 6, 7, 8, 9, 10, 11, 12, 13, 14, 15]
def ord163x6 : List Nat := [0, 1, 2, 3, 4, 5, 6, 7, 8, 9, 10, 11, 12, 13, 14, 15, 16, 17, 18, 19, 20, 21, 22, 23]
theorem fnOk163 : fnOk Tryz.prog 163 = true := by kernel_rfl
theorem rq163 {R : Value → AH → Nat → Prop} {env : Env} {H : AH} {nx : Nat} : retQ Tryz.prog Tryz.f163 R .ret env H nx = R (.tuple #[]) H nx := retQ_none rfl

/-! 164: slices.medianAdjacentCmpFunc[milestone/api.Prefix] · code of 11 operations -/
def L164 : Nat → List Nat
  | 0 => [0, 1, 2, 3]
  | 1 => [8]
  | _ => []
theorem L164x0 : L164 0 = [0, 1, 2, 3] := (rfl)
theorem L164x1 : L164 1 = [8] := (rfl)
theorem fnOk164 : fnOk Tryz.prog 164 = true := by kernel_rfl
theorem rq164 {R : Value → AH → Nat → Prop} {env : Env} {H : AH} {nx : Nat} : retQ Tryz.prog Tryz.f164 R .ret env H nx = onV (eg env 8) R H nx := retQ_one rfl (of_decide_eq_true (by kernel_rfl))

/-! 165: slices.medianCmpFunc[milestone/api.Prefix] · code of 36 operations -/
def L165 : Nat → List Nat
  | 0 => [0, 1, 2, 3, 4, 5]
  | 1 => [0, 1, 2, 3, 4, 5]
  | 2 => [0, 1, 2, 4, 5]
  | 3 => [2]
  | 4 => [12]
  | _ => []
theorem L165x0 : L165 0 = [0, 1, 2, 3, 4, 5] := (rfl)
theorem L165x1 : L165 1 = [0, 1, 2, 3, 4, 5] := (rfl)
theorem L165x2 : L165 2 = [0, 1, 2, 4, 5] := (rfl)
theorem L165x3 : L165 3 = [2] := (rfl)
theorem L165x4 : L165 4 = [12] := (rfl)
theorem fnOk165 : fnOk Tryz.prog 165 = true := by kernel_rfl
theorem rq165 {R : Value → AH → Nat → Prop} {env : Env} {H : AH} {nx : Nat} : retQ Tryz.prog Tryz.f165 R .ret env H nx = onV (eg env 12) R H nx := retQ_one rfl (of_decide_eq_true (by kernel_rfl))

/-! 166: slices.insertionSortCmpFunc[milestone/routes.Told] · code of 49 operations -/
def L166 : Nat → List Nat
  | 0 => [0, 1, 2, 3, 8]
  | 1 => [0, 1, 2, 3, 8, 14]
  | 3 => [0, 1, 2, 3, 8, 9]
  | 4 => [0, 1, 2, 3, 8, 9, 34]
  | 6 => [0, 1, 2, 3, 8, 9]
  | 5 => [0, 1, 2, 3, 8, 9]
  | 2 => [0, 1, 2, 3, 8]
  | _ => []
theorem L166x0 : L166 0 = [0, 1, 2, 3, 8] := (rfl)
theorem L166x1 : L166 1 = [0, 1, 2, 3, 8, 14] := (rfl)
theorem L166x3 : L166 3 = [0, 1, 2, 3, 8, 9] := (rfl)
theorem L166x4 : L166 4 = [0, 1, 2, 3, 8, 9, 34] := (rfl)
theorem L166x6 : L166 6 = [0, 1, 2, 3, 8, 9] := (rfl)
theorem L166x5 : L166 5 = [0, 1, 2, 3, 8, 9] := (rfl)
theorem L166x2 : L166 2 = [0, 1, 2, 3, 8] := (rfl)
def ord166x4 : List Nat := [0, 1, 2, 3, 4, 5, 6, 7, 8, 9, 10, 11, 12, 13, 14, 15, 16]
def ord166x6 : List Nat := [0, 1, 2, 3, 4, 5, 6, 7, 8, 9, 10, 11, 12, 13, 14, 15, 16, 17]
theorem fnOk166 : fnOk Tryz.prog 166 = true := by kernel_rfl
theorem rq166 {R : Value → AH → Nat → Prop} {env : Env} {H : AH} {nx : Nat} : retQ Tryz.prog Tryz.f166 R .ret env H nx = R (.tuple #[]) H nx := retQ_none rfl

/-! 167: slices.heapSortCmpFunc[milestone/routes.Told] · code of 56 operations -/
def L167 : Nat → List Nat
  | 0 => [0, 1, 2, 3, 8]
  | 1 => [0, 1, 2, 3, 8, 9]
  | 2 => [0, 3, 8, 9, 10]
  | 3 => [0, 3, 8, 9, 10, 11]
  | 4 => [0, 3, 8, 9, 10, 11, 21]
  | 6 => [0, 3, 8, 9, 10, 11]
  | 5 => [0, 3, 8, 9, 10, 11]
  | 7 => [0, 3, 8, 9, 12]
  | 8 => [0, 3, 8, 9, 12, 33]
  | 10 => [0, 3, 8, 9, 12]
  | 11 => [0, 3, 8, 9, 12]
  | 9 => [0, 3, 8, 9, 12]
  | _ => []
theorem L167x0 : L167 0 = [0, 1, 2, 3, 8] := (rfl)
theorem L167x1 : L167 1 = [0, 1, 2, 3, 8, 9] := (rfl)
theorem L167x2 : L167 2 = [0, 3, 8, 9, 10] := (rfl)
theorem L167x3 : L167 3 = [0, 3, 8, 9, 10, 11] := (rfl)
theorem L167x4 : L167 4 = [0, 3, 8, 9, 10, 11, 21] := (rfl)
theorem L167x6 : L167 6 = [0, 3, 8, 9, 10, 11] := (rfl)
theorem L167x5 : L167 5 = [0, 3, 8, 9, 10, 11] := (rfl)
theorem L167x7 : L167 7 = [0, 3, 8, 9, 12] := (rfl)
theorem L167x8 : L167 8 = [0, 3, 8, 9, 12, 33] := (rfl)
theorem L167x10 : L167 10 = [0, 3, 8, 9, 12] := (rfl)
theorem L167x11 : L167 11 = [0, 3, 8, 9, 12] := (rfl)
theorem L167x9 : L167 9 = [0, 3, 8, 9, 12] := (rfl)
def ord167x10 : List Nat := [0, 1, 2, 3, 4, 5, 6, 7, 8, 9, 10, 11, 12, 13, 14, 15, 16, 17, 18, 19]
theorem fnOk167 : fnOk Tryz.prog 167 = true := by kernel_rfl
theorem rq167 {R : Value → AH → Nat → Prop} {env : Env} {H : AH} {nx : Nat} : retQ Tryz.prog Tryz.f167 R .ret env H nx = R (.tuple #[]) H nx := retQ_none rfl

/-! 168: slices.breakPatternsCmpFunc[milestone/routes.Told] · code of 64 operations -/
def L168 : Nat → List Nat
  | 0 => [0, 1, 8]
  | 1 => [0, 1, 8, 17]
  | 2 => [0, 1, 8, 9]
  | 3 => [0, 1, 8, 9, 10]
  | 4 => [0, 1, 8, 9, 10, 11]
  | 5 => [0, 1, 8, 9, 10, 11, 35]
  | 7 => [0, 1, 8, 9, 10, 11, 12]
  | 8 => [0, 1, 8, 9, 10, 11, 12, 45]
  | 9 => [0, 1, 8, 9, 10, 11, 12]
  | 10 => [0, 1, 8, 9, 10, 11]
  | 6 => [0, 1, 8, 9, 10, 11]
  | _ => []
theorem L168x0 : L168 0 = [0, 1, 8] := (rfl)
theorem L168x1 : L168 1 = [0, 1, 8, 17] := (rfl)
theorem L168x2 : L168 2 = [0, 1, 8, 9] := (rfl)
theorem L168x3 : L168 3 = [0, 1, 8, 9, 10] := (rfl)
theorem L168x4 : L168 4 = [0, 1, 8, 9, 10, 11] := (rfl)
theorem L168x5 : L168 5 = [0, 1, 8, 9, 10, 11, 35] := (rfl)
theorem L168x7 : L168 7 = [0, 1, 8, 9, 10, 11, 12] := (rfl)
theorem L168x8 : L168 8 = [0, 1, 8, 9, 10, 11, 12, 45] := (rfl)
theorem L168x9 : L168 9 = [0, 1, 8, 9, 10, 11, 12] := (rfl)
theorem L168x10 : L168 10 = [0, 1, 8, 9, 10, 11] := (rfl)
theorem L168x6 : L168 6 = [0, 1, 8, 9, 10, 11] := (rfl)
def ord168x10 : List Nat := [0, 1, 2, 3, 4, 5, 6, 7, 8, 9, 10, 11, 12, 13, 14, 15, 16, 17, 18, 19]
theorem fnOk168 : fnOk Tryz.prog 168 = true := by kernel_rfl
theorem rq168 {R : Value → AH → Nat → Prop} {env : Env} {H : AH} {nx : Nat} : retQ Tryz.prog Tryz.f168 R .ret env H nx = R (.tuple #[]) H nx := retQ_none rfl

/-! 169: slices.choosePivotCmpFunc[milestone/routes.Told] · code of 65 operations -/
def L169 : Nat → List Nat
  | 0 => [0, 1, 2, 3]
  | 1 => [0, 1, 3, 10]
  | 2 => [0, 1, 3, 10, 11]
  | 3 => [0, 1, 3, 10, 11, 12]
  | 4 => [0, 1, 3, 10, 11, 12, 13]
  | 5 => [0, 3, 10, 11, 12, 13, 14]
  | 6 => [0, 3, 10, 11, 12, 13, 14, 34]
  | 7 => [0, 3, 11, 12, 13, 14, 36]
  | 8 => [0, 3, 11, 12, 13, 14]
  | 9 => [0, 3, 11, 12, 13, 14]
  | 10 => [0, 3, 11, 12, 13, 14]
  | 11 => [11, 13]
  | 12 => [13, 55]
  | 14 => [13, 55, 57]
  | 15 => [8, 9]
  | 16 => [13, 60]
  | 17 => [8, 9]
  | 13 => [8, 9]
  | _ => []
theorem L169x0 : L169 0 = [0, 1, 2, 3] := (rfl)
theorem L169x1 : L169 1 = [0, 1, 3, 10] := (rfl)
theorem L169x2 : L169 2 = [0, 1, 3, 10, 11] := (rfl)
theorem L169x3 : L169 3 = [0, 1, 3, 10, 11, 12] := (rfl)
theorem L169x4 : L169 4 = [0, 1, 3, 10, 11, 12, 13] := (rfl)
theorem L169x5 : L169 5 = [0, 3, 10, 11, 12, 13, 14] := (rfl)
theorem L169x6 : L169 6 = [0, 3, 10, 11, 12, 13, 14, 34] := (rfl)
theorem L169x7 : L169 7 = [0, 3, 11, 12, 13, 14, 36] := (rfl)
theorem L169x8 : L169 8 = [0, 3, 11, 12, 13, 14] := (rfl)
theorem L169x9 : L169 9 = [0, 3, 11, 12, 13, 14] := (rfl)
theorem L169x10 : L169 10 = [0, 3, 11, 12, 13, 14] := (rfl)
theorem L169x11 : L169 11 = [11, 13] := (rfl)
theorem L169x12 : L169 12 = [13, 55] := (rfl)
theorem L169x14 : L169 14 = [13, 55, 57] := (rfl)
theorem L169x15 : L169 15 = [8, 9] := (rfl)
theorem L169x16 : L169 16 = [13, 60] := (rfl)
theorem L169x17 : L169 17 = [8, 9] := (rfl)
theorem L169x13 : L169 13 = [8, 9] := (rfl)
theorem fnOk169 : fnOk Tryz.prog 169 = true := by kernel_rfl
theorem rq169 {R : Value → AH → Nat → Prop} {env : Env} {H : AH} {nx : Nat} : retQ Tryz.prog Tryz.f169 R .ret env H nx = onA (eg env 8) (fun v => onA (eg env 9) fun u => R (.tuple #[v, u]) H nx) := retQ_two rfl (of_decide_eq_true (by kernel_rfl)) (of_decide_eq_true (by kernel_rfl))

/-! 170: slices.reverseRangeCmpFunc[milestone/routes.Told] · code of 30 operations -/
def L170 : Nat → List Nat
  | 0 => [0, 2, 8]
  | 1 => [0, 8, 9]
  | 2 => [0, 8, 9, 15]
  | 3 => [0, 8, 9]
  | 4 => [0, 8, 9]
  | 5 => [0, 8, 9]
  | _ => []
theorem L170x0 : L170 0 = [0, 2, 8] := (rfl)
theorem L170x1 : L170 1 = [0, 8, 9] := (rfl)
theorem L170x2 : L170 2 = [0, 8, 9, 15] := (rfl)
theorem L170x3 : L170 3 = [0, 8, 9] := (rfl)
theorem L170x4 : L170 4 = [0, 8, 9] := (rfl)
theorem L170x5 : L170 5 = [0, 8, 9] := (rfl)
def ord170x3 : List Nat := [0, 1, 2, 3, 4, 5, 6, 7, 8, 9, 10, 11, 12, 13, 14, 15]
theorem fnOk170 : fnOk Tryz.prog 170 = true := by kernel_rfl
theorem rq170 {R : Value → AH → Nat → Prop} {env : Env} {H : AH} {nx : Nat} : retQ Tryz.prog Tryz.f170 R .ret env H nx = R (.tuple #[]) H nx := retQ_none rfl

/-! 171: slices.partialInsertionSortCmpFunc[milestone/routes.Told] · code of 146 operations -/
def L171 : Nat → List Nat
  | 0 => [0, 1, 2, 3]
  | 1 => [0, 1, 2, 3, 9]
  | 2 => [0, 1, 2, 3, 9, 10]
  | 3 => [0, 1, 2, 3, 9, 10, 16]
  | 5 => [0, 1, 2, 3, 9, 10, 36]
  | 6 => [0, 1, 2, 3, 9, 10]
  | 7 => [0, 1, 2, 3, 9, 10, 41]
  | 8 => [8]
  | 9 => [0, 1, 2, 3, 9, 10, 45]
  | 10 => [8]
  | 11 => [0, 1, 2, 3, 9, 10]
  | 12 => [0, 1, 2, 3, 9, 10, 65]
  | 13 => [0, 1, 2, 3, 9, 10, 11]
  | 14 => [0, 1, 2, 3, 9, 10, 11, 69]
  | 16 => [0, 1, 2, 3, 9, 10, 11, 84]
  | 17 => [0, 1, 2, 3, 9, 10, 11]
  | 15 => [0, 1, 2, 3, 9, 10, 11]
  | 18 => [0, 1, 2, 3, 9, 10, 104]
  | 19 => [0, 1, 2, 3, 9, 10, 12]
  | 20 => [0, 1, 2, 3, 9, 10, 12, 109]
  | 22 => [0, 1, 2, 3, 9, 10, 12, 124]
  | 23 => [0, 1, 2, 3, 9, 10, 12]
  | 21 => [0, 1, 2, 3, 9, 10, 12]
  | 4 => [0, 1, 2, 3, 9, 10]
  | 24 => [8]
  | _ => []
theorem L171x0 : L171 0 = [0, 1, 2, 3] := (rfl)
theorem L171x1 : L171 1 = [0, 1, 2, 3, 9] := (rfl)
theorem L171x2 : L171 2 = [0, 1, 2, 3, 9, 10] := (rfl)
theorem L171x3 : L171 3 = [0, 1, 2, 3, 9, 10, 16] := (rfl)
theorem L171x5 : L171 5 = [0, 1, 2, 3, 9, 10, 36] := (rfl)
theorem L171x6 : L171 6 = [0, 1, 2, 3, 9, 10] := (rfl)
theorem L171x7 : L171 7 = [0, 1, 2, 3, 9, 10, 41] := (rfl)
theorem L171x8 : L171 8 = [8] := (rfl)
theorem L171x9 : L171 9 = [0, 1, 2, 3, 9, 10, 45] := (rfl)
theorem L171x10 : L171 10 = [8] := (rfl)
theorem L171x11 : L171 11 = [0, 1, 2, 3, 9, 10] := (rfl)
theorem L171x12 : L171 12 = [0, 1, 2, 3, 9, 10, 65] := (rfl)
theorem L171x13 : L171 13 = [0, 1, 2, 3, 9, 10, 11] := (rfl)
theorem L171x14 : L171 14 = [0, 1, 2, 3, 9, 10, 11, 69] := (rfl)
theorem L171x16 : L171 16 = [0, 1, 2, 3, 9, 10, 11, 84] := (rfl)
theorem L171x17 : L171 17 = [0, 1, 2, 3, 9, 10, 11] := (rfl)
theorem L171x15 : L171 15 = [0, 1, 2, 3, 9, 10, 11] := (rfl)
theorem L171x18 : L171 18 = [0, 1, 2, 3, 9, 10, 104] := (rfl)
theorem L171x19 : L171 19 = [0, 1, 2, 3, 9, 10, 12] := (rfl)
theorem L171x20 : L171 20 = [0, 1, 2, 3, 9, 10, 12, 109] := (rfl)
theorem L171x22 : L171 22 = [0, 1, 2, 3, 9, 10, 12, 124] := (rfl)
theorem L171x23 : L171 23 = [0, 1, 2, 3, 9, 10, 12] := (rfl)
theorem L171x21 : L171 21 = [0, 1, 2, 3, 9, 10, 12] := (rfl)
theorem L171x4 : L171 4 = [0, 1, 2, 3, 9, 10] := (rfl)
theorem L171x24 : L171 24 = [8] := (rfl)
def ord171x5 : List Nat := [0, 1, 2, 3, 4, 5, 6, 7, 8, 9, 10, 11, 12, 13, 14, 15, 16, 17]
def ord171x11 : List Nat := [0, 1, 2, 3, 4, 5, 6, 7, 8, 9, 10, 11, 12, 13, 14, 15, 16, 17]
def ord171x16 : List Nat := [0, 1, 2, 3, 4, 5, 6, 7, 8, 9, 10, 11, 12]
def ord171x17 : List Nat := [0, 1, 2, 3, 4, 5, 6, 7, 8, 9, 10, 11, 12, 13, 14, 15, 16, 17]
def ord171x22 : List Nat := [0, 1, 2, 3, 4, 5, 6, 7, 8, 9, 10, 11, 12]
def ord171x23 : List Nat := [0, 1, 2, 3, 4, 5, 6, 7, 8, 9, 10, 11, 12, 13, 14, 15, 16, 17]
theorem fnOk171 : fnOk Tryz.prog 171 = true := by kernel_rfl
theorem rq171 {R : Value → AH → Nat → Prop} {env : Env} {H : AH} {nx : Nat} : retQ Tryz.prog Tryz.f171 R .ret env H nx = onV (eg env 8) R H nx := retQ_one rfl (of_decide_eq_true (by kernel_rfl))

/-! 172: slices.partitionEqualCmpFunc[milestone/routes.Told] · code of 89 operations -/
def L172 : Nat → List Nat
  | 0 => [0, 1, 2, 3, 4]
  | 1 => [0, 1, 2, 4]
  | 2 => [0, 1, 4, 11, 12]
  | 3 => [0, 1, 4, 11, 12, 47]
  | 4 => [0, 1, 4, 11, 12]
  | 5 => [0, 1, 4, 11, 12, 65]
  | 6 => [0, 1, 4, 11, 12]
  | 7 => [0, 1, 4, 11, 12, 70]
  | 8 => [0, 1, 4, 11, 12]
  | 9 => [0, 1, 4, 11, 12]
  | 10 => [0, 1, 4, 11, 12]
  | 11 => [10]
  | _ => []
theorem L172x0 : L172 0 = [0, 1, 2, 3, 4] := (rfl)
theorem L172x1 : L172 1 = [0, 1, 2, 4] := (rfl)
theorem L172x2 : L172 2 = [0, 1, 4, 11, 12] := (rfl)
theorem L172x3 : L172 3 = [0, 1, 4, 11, 12, 47] := (rfl)
theorem L172x4 : L172 4 = [0, 1, 4, 11, 12] := (rfl)
theorem L172x5 : L172 5 = [0, 1, 4, 11, 12, 65] := (rfl)
theorem L172x6 : L172 6 = [0, 1, 4, 11, 12] := (rfl)
theorem L172x7 : L172 7 = [0, 1, 4, 11, 12, 70] := (rfl)
theorem L172x8 : L172 8 = [0, 1, 4, 11, 12] := (rfl)
theorem L172x9 : L172 9 = [0, 1, 4, 11, 12] := (rfl)
theorem L172x10 : L172 10 = [0, 1, 4, 11, 12] := (rfl)
theorem L172x11 : L172 11 = [10] := (rfl)
def ord172x1 : List Nat := [0, 1, 2, 3, 4, 5, 6, 7, 8, 9, 10, 11, 12, 13, 14, 15]
def ord172x3 : List Nat := [0, 1, 2, 3, 4, 5, 6, 7, 8, 9, 10, 11, 12, 13, 14, 15, 16]
def ord172x5 : List Nat := [0, 1, 2, 3, 4, 5, 6, 7, 8, 9, 10, 11, 12, 13, 14, 15]
def ord172x8 : List Nat := [0, 1, 2, 3, 4, 5, 6, 7, 8, 9, 10, 11, 12, 13, 14, 15]
theorem fnOk172 : fnOk Tryz.prog 172 = true := by kernel_rfl
theorem rq172 {R : Value → AH → Nat → Prop} {env : Env} {H : AH} {nx : Nat} : retQ Tryz.prog Tryz.f172 R .ret env H nx = onV (eg env 10) R H nx := retQ_one rfl (of_decide_eq_true (by kernel_rfl))

/-! 173: slices.partitionCmpFunc[milestone/routes.Told] · code of 190 operations -/
def L173 : Nat → List Nat
  | 0 => [0, 1, 2, 3, 4]
  | 1 => [0, 1, 2, 4]
  | 2 => [0, 1, 4, 12, 13]
  | 3 => [0, 1, 4, 12, 13, 47]
  | 4 => [0, 1, 4, 12, 13]
  | 5 => [0, 1, 4, 12, 13, 66]
  | 6 => [0, 1, 4, 12, 13]
  | 7 => [0, 1, 4, 12, 13, 71]
  | 8 => [13]
  | 9 => [10, 11]
  | 10 => [0, 1, 4, 12, 13]
  | 11 => [0, 1, 4, 12, 13]
  | 12 => [0, 1, 4, 12, 13]
  | 13 => [0, 1, 4, 12, 13, 120]
  | 14 => [0, 1, 4, 12, 13]
  | 15 => [0, 1, 4, 12, 13, 139]
  | 16 => [0, 1, 4, 12, 13]
  | 17 => [0, 1, 4, 12, 13, 144]
  | 18 => [0, 1, 4, 12, 13]
  | 19 => [0, 1, 4, 12, 13]
  | 20 => [0, 1, 4, 12, 13]
  | 21 => [13]
  | 22 => [10, 11]
  | _ => []
theorem L173x0 : L173 0 = [0, 1, 2, 3, 4] := (rfl)
theorem L173x1 : L173 1 = [0, 1, 2, 4] := (rfl)
theorem L173x2 : L173 2 = [0, 1, 4, 12, 13] := (rfl)
theorem L173x3 : L173 3 = [0, 1, 4, 12, 13, 47] := (rfl)
theorem L173x4 : L173 4 = [0, 1, 4, 12, 13] := (rfl)
theorem L173x5 : L173 5 = [0, 1, 4, 12, 13, 66] := (rfl)
theorem L173x6 : L173 6 = [0, 1, 4, 12, 13] := (rfl)
theorem L173x7 : L173 7 = [0, 1, 4, 12, 13, 71] := (rfl)
theorem L173x8 : L173 8 = [13] := (rfl)
theorem L173x9 : L173 9 = [10, 11] := (rfl)
theorem L173x10 : L173 10 = [0, 1, 4, 12, 13] := (rfl)
theorem L173x11 : L173 11 = [0, 1, 4, 12, 13] := (rfl)
theorem L173x12 : L173 12 = [0, 1, 4, 12, 13] := (rfl)
theorem L173x13 : L173 13 = [0, 1, 4, 12, 13, 120] := (rfl)
theorem L173x14 : L173 14 = [0, 1, 4, 12, 13] := (rfl)
theorem L173x15 : L173 15 = [0, 1, 4, 12, 13, 139] := (rfl)
theorem L173x16 : L173 16 = [0, 1, 4, 12, 13] := (rfl)
theorem L173x17 : L173 17 = [0, 1, 4, 12, 13, 144] := (rfl)
theorem L173x18 : L173 18 = [0, 1, 4, 12, 13] := (rfl)
theorem L173x19 : L173 19 = [0, 1, 4, 12, 13] := (rfl)
theorem L173x20 : L173 20 = [0, 1, 4, 12, 13] := (rfl)
theorem L173x21 : L173 21 = [13] := (rfl)
theorem L173x22 : L173 22 = [10, 11] := (rfl)
def ord173x1 : List Nat := [0, 1, 2, 3, 4, 5, 6, 7, 8, 9, 10, 11, 12, 13, 14, 15]
def ord173x3 : List Nat := [0, 1, 2, 3, 4, 5, 6, 7, 8, 9, 10, 11, 12, 13, 14, 15]
def ord173x5 : List Nat := [0, 1, 2, 3, 4, 5, 6, 7, 8, 9, 10, 11, 12, 13, 14, 15, 16]
def ord173x8 : List Nat := [0, 1, 2, 3, 4, 5, 6, 7, 8, 9, 10, 11, 12, 13, 14, 15]
def ord173x10 : List Nat := [0, 1, 2, 3, 4, 5, 6, 7, 8, 9, 10, 11, 12, 13, 14, 15]
def ord173x13 : List Nat := [0, 1, 2, 3, 4, 5, 6, 7, 8, 9, 10, 11, 12, 13, 14, 15]
def ord173x15 : List Nat := [0, 1, 2, 3, 4, 5, 6, 7, 8, 9, 10, 11, 12, 13, 14, 15, 16]
def ord173x18 : List Nat := [0, 1, 2, 3, 4, 5, 6, 7, 8, 9, 10, 11, 12, 13, 14, 15]
def ord173x21 : List Nat := [0, 1, 2, 3, 4, 5, 6, 7, 8, 9, 10, 11, 12, 13, 14, 15]
theorem fnOk173 : fnOk Tryz.prog 173 = true := by kernel_rfl
theorem rq173 {R : Value → AH → Nat → Prop} {env : Env} {H : AH} {nx : Nat} : retQ Tryz.prog Tryz.f173 R .ret env H nx = onA (eg env 10) (fun v => onA (eg env 11) fun u => R (.tuple #[v, u]) H nx) := retQ_two rfl (of_decide_eq_true (by kernel_rfl)) (of_decide_eq_true (by kernel_rfl))

/-! 174: slices.order2CmpFunc[milestone/api.Route] · code of 27 operations -/
def L174 : Nat → List Nat
  | 0 => [0, 1, 2, 3, 4]
  | 1 => [1, 2, 3, 22]
  | 2 => [1, 2]
  | 3 => [10, 11]
  | 4 => [10, 11]
  | _ => []
theorem L174x0 : L174 0 = [0, 1, 2, 3, 4] := (rfl)
theorem L174x1 : L174 1 = [1, 2, 3, 22] := (rfl)
theorem L174x2 : L174 2 = [1, 2] := (rfl)
theorem L174x3 : L174 3 = [10, 11] := (rfl)
theorem L174x4 : L174 4 = [10, 11] := (rfl)
def ord174x1 : List Nat := [0, 1, 2, 3, 4, 5, 6, 7, 8, 9, 10]
theorem fnOk174 : fnOk Tryz.prog 174 = true := by kernel_rfl
theorem rq174 {R : Value → AH → Nat → Prop} {env : Env} {H : AH} {nx : Nat} : retQ Tryz.prog Tryz.f174 R .ret env H nx = onA (eg env 10) (fun v => onA (eg env 11) fun u => R (.tuple #[v, u]) H nx) := retQ_two rfl (of_decide_eq_true (by kernel_rfl)) (of_decide_eq_true (by kernel_rfl))

/-! 175: slices.siftDownOrdered[int] · code of 72 operations -/
def L175 : Nat → List Nat
  | 0 => [0, 2, 3, 8]
  | 1 => [0, 2, 3, 8, 9]
  | 2 => [0, 2, 3, 8, 9, 16]
  | 3 => [0, 2, 3, 8, 9, 36]
  | 4 => [0, 2, 3, 8, 9]
  | 5 => [0, 2, 3, 8, 9, 52]
  | 6 => [0, 2, 3, 9]
  | 7 => [0, 2, 3, 8]
  | _ => []
theorem L175x0 : L175 0 = [0, 2, 3, 8] := (rfl)
theorem L175x1 : L175 1 = [0, 2, 3, 8, 9] := (rfl)
theorem L175x2 : L175 2 = [0, 2, 3, 8, 9, 16] := (rfl)
theorem L175x3 : L175 3 = [0, 2, 3, 8, 9, 36] := (rfl)
theorem L175x4 : L175 4 = [0, 2, 3, 8, 9] := (rfl)
theorem L175x5 : L175 5 = [0, 2, 3, 8, 9, 52] := (rfl)
theorem L175x6 : L175 6 = [0, 2, 3, 9] := (rfl)
theorem L175x7 : L175 7 = [0, 2, 3, 8] := (rfl)
def ord175x3 : List Nat := [0, 1, 2, 3, 4, 5, 6, 7, 8, 9, 10, 11, 12, 13, 14, 15, 16, 17, 18, 19]
def ord175x5 : List Nat := [0, 1, 2, 3, 4, 5, 6, 7, 8, 9, 10, 11, 12, 13]
def ord175x6 : List Nat := [0, 1, 2, 3, 4, 5, 6, 7, 8, 9, 10, 11, 12, 13, 14, 15, 16, 17, 18, 19, 20, 21, 22, 23]
theorem fnOk175 : fnOk Tryz.prog 175 = true := by kernel_rfl
theorem rq175 {R : Value → AH → Nat → Prop} {env : Env} {H : AH} {nx : Nat} : retQ Tryz.prog Tryz.f175 R .ret env H nx = R (.tuple #[]) H nx := retQ_none rfl

/-! 176: slices.medianAdjacentOrdered[int] · code of 10 operations -/
def L176 : Nat → List Nat
  | 0 => [0, 1, 2]
  | 1 => [6]
  | _ => []
theorem L176x0 : L176 0 = [0, 1, 2] := (rfl)
theorem L176x1 : L176 1 = [6] := (rfl)
theorem fnOk176 : fnOk Tryz.prog 176 = true := by kernel_rfl
theorem rq176 {R : Value → AH → Nat → Prop} {env : Env} {H : AH} {nx : Nat} : retQ Tryz.prog Tryz.f176 R .ret env H nx = onV (eg env 6) R H nx := retQ_one rfl (of_decide_eq_true (by kernel_rfl))

/-! 177: slices.medianOrdered[int] · code of 33 operations -/
def L177 : Nat → List Nat
  | 0 => [0, 1, 2, 3, 4]
  | 1 => [0, 1, 2, 3, 4]
  | 2 => [0, 1, 2, 4]
  | 3 => [2]
  | 4 => [10]
  | _ => []
theorem L177x0 : L177 0 = [0, 1, 2, 3, 4] := (rfl)
theorem L177x1 : L177 1 = [0, 1, 2, 3, 4] := (rfl)
theorem L177x2 : L177 2 = [0, 1, 2, 4] := (rfl)
theorem L177x3 : L177 3 = [2] := (rfl)
theorem L177x4 : L177 4 = [10] := (rfl)
theorem fnOk177 : fnOk Tryz.prog 177 = true := by kernel_rfl
theorem rq177 {R : Value → AH → Nat → Prop} {env : Env} {H : AH} {nx : Nat} : retQ Tryz.prog Tryz.f177 R .ret env H nx = onV (eg env 10) R H nx := retQ_one rfl (of_decide_eq_true (by kernel_rfl))

/-! 178: cmp.isNaN[int] · code of 5 operations -/
def L178 : Nat → List Nat
  | 0 => [0]
  | 1 => [2]
  | _ => []
theorem L178x0 : L178 0 = [0] := (rfl)
theorem L178x1 : L178 1 = [2] := (rfl)
theorem fnOk178 : fnOk Tryz.prog 178 = true := by kernel_rfl
theorem rq178 {R : Value → AH → Nat → Prop} {env : Env} {H : AH} {nx : Nat} : retQ Tryz.prog Tryz.f178 R .ret env H nx = onV (eg env 2) R H nx := retQ_one rfl (of_decide_eq_true (by kernel_rfl))

/-! 179: slices.order2CmpFunc[milestone/api.Prefix] · code of 27 operations -/
def L179 : Nat → List Nat
  | 0 => [0, 1, 2, 3, 4]
  | 1 => [1, 2, 3, 22]
  | 2 => [1, 2]
  | 3 => [10, 11]
  | 4 => [10, 11]
  | _ => []
theorem L179x0 : L179 0 = [0, 1, 2, 3, 4] := (rfl)
theorem L179x1 : L179 1 = [1, 2, 3, 22] := (rfl)
theorem L179x2 : L179 2 = [1, 2] := (rfl)
theorem L179x3 : L179 3 = [10, 11] := (rfl)
theorem L179x4 : L179 4 = [10, 11] := (rfl)
def ord179x1 : List Nat := [0, 1, 2, 3, 4, 5, 6, 7, 8, 9, 10]
theorem fnOk179 : fnOk Tryz.prog 179 = true := by kernel_rfl
theorem rq179 {R : Value → AH → Nat → Prop} {env : Env} {H : AH} {nx : Nat} : retQ Tryz.prog Tryz.f179 R .ret env H nx = onA (eg env 10) (fun v => onA (eg env 11) fun u => R (.tuple #[v, u]) H nx) := retQ_two rfl (of_decide_eq_true (by kernel_rfl)) (of_decide_eq_true (by kernel_rfl))

/-! 180: slices.siftDownCmpFunc[milestone/routes.Told] · code of 76 operations -/
def L180 : Nat → List Nat
  | 0 => [0, 2, 3, 4, 10]
  | 1 => [0, 2, 3, 4, 10, 11]
  | 2 => [0, 2, 3, 4, 10, 11, 18]
  | 3 => [0, 2, 3, 4, 10, 11, 40]
  | 4 => [0, 2, 3, 4, 10, 11]
  | 5 => [0, 2, 3, 4, 10, 11, 58]
  | 6 => [0, 2, 3, 4, 11]
  | 7 => [0, 2, 3, 4, 10]
  | _ => []
theorem L180x0 : L180 0 = [0, 2, 3, 4, 10] := (rfl)
theorem L180x1 : L180 1 = [0, 2, 3, 4, 10, 11] := (rfl)
theorem L180x2 : L180 2 = [0, 2, 3, 4, 10, 11, 18] := (rfl)
theorem L180x3 : L180 3 = [0, 2, 3, 4, 10, 11, 40] := (rfl)
theorem L180x4 : L180 4 = [0, 2, 3, 4, 10, 11] := (rfl)
theorem L180x5 : L180 5 = [0, 2, 3, 4, 10, 11, 58] := (rfl)
theorem L180x6 : L180 6 = [0, 2, 3, 4, 11] := (rfl)
theorem L180x7 : L180 7 = [0, 2, 3, 4, 10] := (rfl)
def ord180x3 : List Nat := [0, 1, 2, 3, 4, 5, 6, 7, 8, 9, 10, 11, 12, 13, 14, 15, 16, 17, 18, 19, 20, 21]
def ord180x5 : List Nat := [0, 1, 2, 3, 4, 5, 6, 7, 8, 9, 10, 11, 12, 13, 14, 15]
def ord180x6 : List Nat := [0, 1, 2, 3, 4, 5, 6, 7, 8, 9, 10, 11, 12, 13, 14, 15, 16, 17, 18, 19, 20, 21, 22, 23]
theorem fnOk180 : fnOk Tryz.prog 180 = true := by kernel_rfl
theorem rq180 {R : Value → AH → Nat → Prop} {env : Env} {H : AH} {nx : Nat} : retQ Tryz.prog Tryz.f180 R .ret env H nx = R (.tuple #[]) H nx := retQ_none rfl

/-! 181: slices.medianAdjacentCmpFunc[milestone/routes.Told] · code of 11 operations -/
def L181 : Nat → List Nat
  | 0 => [0, 1, 2, 3]
  | 1 => [8]
  | _ => []
theorem L181x0 : L181 0 = [0, 1, 2, 3] := (rfl)
theorem L181x1 : L181 1 = [8] := (rfl)
theorem fnOk181 : fnOk Tryz.prog 181 = true := by kernel_rfl
theorem rq181 {R : Value → AH → Nat → Prop} {env : Env} {H : AH} {nx : Nat} : retQ Tryz.prog Tryz.f181 R .ret env H nx = onV (eg env 8) R H nx := retQ_one rfl (of_decide_eq_true (by kernel_rfl))

/-! 182: slices.medianCmpFunc[milestone/routes.Told] · code of 36 operations -/
def L182 : Nat → List Nat
  | 0 => [0, 1, 2, 3, 4, 5]
  | 1 => [0, 1, 2, 3, 4, 5]
  | 2 => [0, 1, 2, 4, 5]
  | 3 => [2]
  | 4 => [12]
  | _ => []
theorem L182x0 : L182 0 = [0, 1, 2, 3, 4, 5] := (rfl)
theorem L182x1 : L182 1 = [0, 1, 2, 3, 4, 5] := (rfl)
theorem L182x2 : L182 2 = [0, 1, 2, 4, 5] := (rfl)
theorem L182x3 : L182 3 = [2] := (rfl)
theorem L182x4 : L182 4 = [12] := (rfl)
theorem fnOk182 : fnOk Tryz.prog 182 = true := by kernel_rfl
theorem rq182 {R : Value → AH → Nat → Prop} {env : Env} {H : AH} {nx : Nat} : retQ Tryz.prog Tryz.f182 R .ret env H nx = onV (eg env 12) R H nx := retQ_one rfl (of_decide_eq_true (by kernel_rfl))

/-! 183: slices.order2Ordered[int] · code of 25 operations -/
def L183 : Nat → List Nat
  | 0 => [0, 1, 2, 3]
  | 1 => [1, 2, 3, 18]
  | 2 => [1, 2]
  | 3 => [8, 9]
  | 4 => [8, 9]
  | _ => []
theorem L183x0 : L183 0 = [0, 1, 2, 3] := (rfl)
theorem L183x1 : L183 1 = [1, 2, 3, 18] := (rfl)
theorem L183x2 : L183 2 = [1, 2] := (rfl)
theorem L183x3 : L183 3 = [8, 9] := (rfl)
theorem L183x4 : L183 4 = [8, 9] := (rfl)
def ord183x1 : List Nat := [0, 1, 2, 3, 4, 5, 6, 7, 8]
theorem fnOk183 : fnOk Tryz.prog 183 = true := by kernel_rfl
theorem rq183 {R : Value → AH → Nat → Prop} {env : Env} {H : AH} {nx : Nat} : retQ Tryz.prog Tryz.f183 R .ret env H nx = onA (eg env 8) (fun v => onA (eg env 9) fun u => R (.tuple #[v, u]) H nx) := retQ_two rfl (of_decide_eq_true (by kernel_rfl)) (of_decide_eq_true (by kernel_rfl))

/-! 184: slices.order2CmpFunc[milestone/routes.Told] · code of 27 operations -/
def L184 : Nat → List Nat
  | 0 => [0, 1, 2, 3, 4]
  | 1 => [1, 2, 3, 22]
  | 2 => [1, 2]
  | 3 => [10, 11]
  | 4 => [10, 11]
  | _ => []
theorem L184x0 : L184 0 = [0, 1, 2, 3, 4] := (rfl)
theorem L184x1 : L184 1 = [1, 2, 3, 22] := (rfl)
theorem L184x2 : L184 2 = [1, 2] := (rfl)
theorem L184x3 : L184 3 = [10, 11] := (rfl)
theorem L184x4 : L184 4 = [10, 11] := (rfl)
def ord184x1 : List Nat := [0, 1, 2, 3, 4, 5, 6, 7, 8, 9, 10]
theorem fnOk184 : fnOk Tryz.prog 184 = true := by kernel_rfl
theorem rq184 {R : Value → AH → Nat → Prop} {env : Env} {H : AH} {nx : Nat} : retQ Tryz.prog Tryz.f184 R .ret env H nx = onA (eg env 10) (fun v => onA (eg env 11) fun u => R (.tuple #[v, u]) H nx) := retQ_two rfl (of_decide_eq_true (by kernel_rfl)) (of_decide_eq_true (by kernel_rfl))

attribute [go_sem] L3x0 L3x1 L3x2 L3x3 L3x4 L3x5 L3x6 L3x7 L3x8 L3x9 L3x10 L3x11 L3x12 L3x13 L3x14 L3x15 L3x16 L3x17 L3x18 L3x19 L3x20 L3x21 L3x22 fnOk3 rq3 bd36x0x1 al40 st40 cv22x3 cx22x3 ld40 cv3x22 cx3x22 bd40x0x1x2x3 eqg40 neg40 L4x0 L4x1 L4x2 L4x3 L4x4 L4x5 L4x6 fnOk4 rq4 cv5x3 cx5x3 ia46 ld30 bd32x0x3x4x5 len37 ia37 L5x0 L5x1 L5x2 L5x3 L5x4 L5x5 L5x6 L5x7 L5x8 L5x9 L5x10 L5x11 L5x12 L5x13 L5x14 L5x15 L5x16 L5x17 L5x18 fnOk5 rq5 fa40x1 ld3 fa40x2 ld22 eqb4 neb4 L6x0 L6x1 L6x2 L6x3 L6x4 L6x5 L6x6 L6x7 L6x8 L6x10 L6x11 L6x12 L6x13 L6x14 L6x15 L6x16 L6x17 L6x18 L6x19 L6x20 L6x22 L6x23 L6x24 L6x25 L6x26 L6x21 L6x27 L6x28 L6x30 L6x31 L6x32 L6x33 L6x34 L6x35 L6x29 L6x9 L6x36 fnOk6 rq6 len50 al53 al54 al55 ia50 ld57 al57 st57 fa57x0 ld5 fa57x1 fa57x3 cv5x22 cx5x22 fa57x2 bd52x0x1 al52 st52 fa57x4 fa52x1 st22 stc22 ld52 ia55 ia53 fa52x0 fa40x0 fa40x3 cv3x5 cx3x5 ia54 ld4 st4 stc4 L7x0 L7x1 L7x2 L7x3 L7x4 L7x5 L7x7 L7x6 L7x8 L7x9 L7x10 L7x11 L7x13 L7x12 L7x14 L7x15 fnOk7 rq7 bd36x0 bd65x0x1 eqg65 neg65 L8x0 L8x1 L8x2 L8x3 L8x4 L8x5 L8x6 L8x7 L8x8 L8x9 L8x10 L8x11 L8x12 L8x13 L8x14 L8x15 L8x16 L8x17 L8x18 L8x19 L8x20 L8x21 L8x22 L8x23 L8x24 L8x25 L8x26 L8x27 L8x28 L8x29 L8x30 L8x31 L8x33 L8x34 L8x32 L8x35 fnOk8 rq8 bd71x0x3 ia72 fa71x3 cv5x27 cx5x27 al36 st36 fa36x1 ld34 len34 ia34 fa32x0 ld32 bd32x0x2x5 eqg32 neg32 fa36x0 al32 st32 fa32x5 bd32x0x3x5 L9x0 L9x1 L9x2 L9x3 L9x4 L9x5 L9x6 L9x7 L9x8 L9x9 L9x10 L9x11 L9x12 L9x14 L9x13 L9x15 L9x16 L9x17 L9x18 L9x19 L9x20 L9x21 L9x22 L9x23 L9x24 fnOk9 rq9 bd32x0x3x4x1 bd32x0x3x4 L10x0 L10x1 L10x2 L10x3 L10x4 L10x5 L10x6 L10x7 L10x8 L10x9 L10x10 fnOk10 rq10 L11x0 L11x1 L11x2 L11x3 L11x4 L11x5 L11x6 L11x7 L11x8 L11x10 L11x11 L11x12 L11x13 L11x9 L11x14 L11x15 L11x16 L11x17 L11x18 L11x19 fnOk11 rq11 fa32x2 L12x0 L12x1 L12x2 L12x3 L12x4 L12x5 L12x6 L12x8 L12x7 L12x9 L12x10 L12x11 L12x12 L12x13 L12x14 L12x16 L12x17 L12x18 L12x20 L12x19 L12x21 L12x22 L12x23 L12x24 L12x25 L12x27 L12x28 L12x26 L12x29 L12x30 L12x31 L12x15 L12x32 L12x33 L12x34 L12x35 L12x36 L12x37 L12x38 L12x39 fnOk12 rq12 len46 fa30x0 ld28 cv28x5 cx28x5 eqg30 neg30 len72 fa71x0 ld36 bd0x65 L13x0 L13x1 L13x2 L13x3 fnOk13 rq13 L14x0 L14x1 L14x2 L14x3 L14x5 L14x6 L14x4 L14x7 fnOk14 rq14 L15x0 L15x1 L15x2 L15x3 L15x4 L15x5 L15x6 L15x7 L15x8 L15x9 L15x10 L15x11 L15x12 L15x13 L15x14 L15x15 L15x16 L15x17 L15x18 L15x19 L15x20 L15x21 L15x22 fnOk15 rq15 eqp24 nep24 fa95x0 fa95x8 fa65x1 st3 stc3 fa95x1 ld88 eqp96 nep96 fa32x1 ld27 fa95x4 ld91 fa32x3 fa95x2 ld89 fa32x4 fa65x2 L16x0 L16x1 fnOk16 rq16 bd32x0x2x3x4x5 L17x0 L17x1 L17x2 L17x3 L17x4 L17x5 L17x6 L17x7 L17x8 L17x9 L17x10 L17x11 L17x12 L17x13 L17x14 L17x15 L17x16 L17x17 L17x18 L17x19 L17x20 L17x21 L17x22 L17x23 L17x24 L17x25 L17x26 L17x27 L17x28 L17x29 L17x30 L17x31 L17x32 L17x33 L17x34 L17x35 L17x36 L17x37 L17x38 fnOk17 rq17 ld24 al37 al30 st30 bd40x0x1x3 len111 ia111 fa95x3 ld90 ld37 fa95x5 fa95x7 fa93x2 fa93x0 ld46 st46 stc46 st37 stc37 L18x0 L18x1 L18x2 L18x3 L18x4 L18x5 L18x6 L18x7 fnOk18 rq18 bd0x40 L19x0 L19x1 fnOk19 rq19 cv5x28 cx5x28 L20x0 L20x1 L20x2 L20x3 fnOk20 rq20 L21x0 L21x1 fnOk21 rq21 bd30x0x1 L22x0 L22x1 L22x2 L22x4 L22x5 L22x3 L22x6 fnOk22 rq22 L23x0 L23x1 L23x2 L23x3 fnOk23 rq23 bd0x52 L24x0 L24x1 L24x2 L24x3 fnOk24 rq24 L25x0 L25x1 fnOk25 rq25 fa65x0 L26x0 L26x1 L26x2 L26x3 L26x4 L26x6 L26x7 L26x5 L26x8 fnOk26 rq26 ld65 L27x0 L27x1 L27x2 L27x3 fnOk27 rq27 al65 st65 L28x0 L28x1 L28x2 L28x3 L28x4 L28x5 L28x6 L28x7 L28x8 L28x9 L28x10 L28x11 L28x12 L28x13 L28x14 L28x15 L28x16 L28x17 L28x18 L28x19 L28x20 L28x21 L28x22 L28x23 L28x24 L28x25 L28x26 L28x27 L28x28 L28x29 fnOk28 rq28 bd0x36 fa95x6 bd32x0x1 st34 stc34 st27 stc27 len122 ia122 bd32x0x2x3x5 fa93x1 L29x0 L29x1 L29x2 fnOk29 rq29 L30x0 L30x1 fnOk30 rq30 L31x0 L31x1 L31x2 L31x3 L31x4 L31x5 L31x6 L31x7 L31x8 L31x9 fnOk31 rq31 L32x0 L32x1 L32x2 L32x3 L32x4 L32x5 L32x6 L32x7 L32x8 L32x9 fnOk32 rq32 L33x0 L33x1 L33x2 L33x3 L33x4 L33x6 L33x7 L33x8 L33x5 L33x9 fnOk33 rq33 al71 st71 ld71 L34x0 L34x1 L34x2 L34x3 L34x4 L34x6 L34x7 L34x8 L34x9 L34x10 L34x11 L34x12 L34x13 L34x14 L34x15 L34x5 L34x16 fnOk34 rq34 len82 cv3x27 cx3x27 bd134x0x1 al134 st134 fa71x1 fa134x2 bd40x0 fa134x3 ld134 L35x0 L35x1 L35x2 L35x3 L35x4 L35x5 L35x6 L35x7 L35x8 L35x9 L35x10 L35x11 L35x12 fnOk35 rq35 bd93x2 bd95x0x1x2x3x4x7 L36x0 L36x1 L36x2 L36x3 L36x4 L36x6 L36x7 L36x5 L36x8 fnOk36 rq36 fa30x1 L37x0 L37x1 L37x2 L37x3 fnOk37 rq37 L38x0 L38x1 L38x2 L38x3 fnOk38 rq38 L39x0 L39x1 fnOk39 rq39 bd139x2x4 L40x0 L40x1 L40x3 L40x4 L40x2 L40x5 fnOk40 rq40 fa139x1 fa139x0 fa139x4 L41x0 L41x1 fnOk41 rq41 fa139x2 fa139x3 L42x0 L42x1 L42x2 L42x3 L42x4 L42x5 L42x6 L42x8 L42x9 L42x10 L42x11 L42x12 L42x13 L42x14 L42x7 L42x15 fnOk42 rq42 eqp89 nep89 bd142x0x1x2x3x4 al142 st142 fa146x0 ld143 st143 stc143 ld142 ia143 len143 L43x0 L43x1 L43x2 L43x3 L43x4 L43x5 L43x6 L43x7 L43x8 L43x9 L43x10 L43x11 fnOk43 rq43 L44x0 L44x1 L44x2 L44x3 fnOk44 rq44 fa65x3 L45x0 L45x1 L45x2 L45x3 L45x4 L45x5 L45x7 L45x8 L45x9 L45x10 L45x6 L45x11 fnOk45 rq45 eqp90 nep90 fa155x0 ld153 ia153 fa152x1 len153 bd152x0x1 st153 stc153 L46x0 L46x1 L46x2 L46x3 fnOk46 rq46 L47x0 L47x1 fnOk47 rq47 L48x0 L48x1 fnOk48 rq48 L49x0 L49x1 L49x2 L49x3 L49x4 fnOk49 rq49 L50x0 L50x1 L50x2 L50x3 L50x4 L50x5 L50x6 L50x7 L50x8 L50x9 L50x10 L50x11 L50x12 L50x13 L50x14 L50x15 L50x16 L50x17 fnOk50 rq50 fa142x1 fa142x3 cv22x28 cx22x28 fa142x0 cv28x22 cx28x22 L51x0 L51x1 fnOk51 rq51 cv3x121 cx3x121 L52x0 L52x1 fnOk52 rq52 L53x0 L53x1 L53x2 L53x3 L53x4 L53x5 L53x6 L53x7 L53x8 L53x9 fnOk53 rq53 L54x0 L54x1 fnOk54 rq54 L55x0 L55x1 L55x2 L55x3 L55x4 L55x5 L55x6 L55x7 L55x8 L55x9 L55x10 L55x11 L55x12 L55x13 L55x14 fnOk55 rq55 L56x0 L56x1 L56x2 L56x3 L56x4 fnOk56 rq56 L57x0 L57x1 L57x2 L57x3 fnOk57 rq57 L58x0 L58x1 L58x2 L58x3 fnOk58 rq58 eqs37 nes37 L59x0 L59x1 L59x2 L59x3 L59x4 L59x5 L59x7 L59x8 L59x9 L59x6 L59x10 fnOk59 rq59 L60x0 L60x1 L60x2 L60x3 L60x4 L60x5 L60x6 fnOk60 rq60 L61x0 L61x1 L61x2 L61x3 fnOk61 rq61 L62x0 L62x1 fnOk62 rq62 L63x0 L63x1 L63x2 L63x3 fnOk63 rq63 L64x0 L64x1 fnOk64 rq64 L65x0 L65x1 L65x2 L65x3 L65x4 fnOk65 rq65 L66x0 L66x1 fnOk66 rq66 L67x0 L67x1 L67x2 fnOk67 rq67 L68x0 L68x1 L68x2 fnOk68 rq68 L69x0 L69x1 L69x2 L69x3 L69x5 L69x6 L69x7 L69x8 L69x9 L69x10 L69x11 L69x12 L69x13 L69x4 L69x14 fnOk69 rq69 ia82 L70x0 L70x1 L70x2 L70x3 L70x4 L70x6 L70x7 L70x8 L70x9 L70x10 L70x11 L70x12 L70x13 L70x14 L70x5 L70x15 fnOk70 rq70 bd71x0 fa71x2 L71x0 L71x1 fnOk71 rq71 bd0x146 L72x0 L72x1 L72x2 L72x3 L72x4 L72x5 L72x6 L72x7 fnOk72 rq72 L73x0 L73x1 fnOk73 rq73 L74x0 L74x1 L74x3 L74x2 L74x4 fnOk74 rq74 L75x0 L75x1 fnOk75 rq75 L76x0 L76x1 L76x2 L76x3 L76x4 L76x5 L76x6 L76x7 fnOk76 rq76 L77x0 L77x1 fnOk77 rq77 L78x0 L78x1 fnOk78 rq78 L79x0 L79x1 fnOk79 rq79 L80x0 L80x1 L80x2 L80x3 fnOk80 rq80 L81x0 L81x1 L81x2 L81x3 L81x4 L81x5 L81x6 L81x7 L81x8 L81x9 L81x10 L81x11 L81x12 L81x13 L81x14 L81x15 L81x16 L81x17 L81x18 L81x19 L81x20 fnOk81 rq81 L82x0 L82x1 fnOk82 rq82 L83x0 L83x1 fnOk83 rq83 L84x0 L84x1 L84x2 L84x3 fnOk84 rq84 L85x0 L85x1 L85x2 L85x3 L85x4 L85x5 L85x6 L85x7 L85x8 fnOk85 rq85 L86x0 L86x1 L86x2 L86x3 L86x4 L86x5 L86x6 L86x7 L86x8 L86x9 L86x10 L86x11 L86x12 L86x13 fnOk86 rq86 L87x0 L87x1 L87x2 L87x3 L87x4 L87x5 L87x6 L87x7 L87x8 L87x9 L87x10 L87x11 L87x12 L87x13 fnOk87 rq87 L88x0 L88x1 L88x2 L88x3 fnOk88 rq88 L89x0 L89x1 L89x2 L89x3 L89x4 L89x5 fnOk89 rq89 L90x0 L90x1 L90x2 fnOk90 rq90 L91x0 L91x1 L91x2 L91x3 L91x4 L91x5 L91x6 L91x7 L91x8 L91x9 L91x10 L91x11 L91x12 L91x13 L91x14 L91x15 L91x16 L91x17 L91x18 L91x19 L91x20 L91x21 L91x22 L91x23 L91x24 L91x25 L91x26 L91x27 L91x28 L91x29 L91x30 fnOk91 rq91 L92x0 L92x1 L92x2 fnOk92 rq92 cv121x28 cx121x28 L93x0 L93x1 fnOk93 rq93 L94x0 L94x1 fnOk94 rq94 L95x0 L95x1 fnOk95 rq95 L96x0 L96x1 fnOk96 rq96 L97x0 L97x1 fnOk97 rq97 L98x0 L98x1 fnOk98 rq98 L99x0 L99x1 L99x2 L99x3 fnOk99 rq99 L100x0 L100x1 fnOk100 rq100 ix9 L101x0 L101x1 fnOk101 rq101 L102x0 L102x1 fnOk102 rq102 L103x0 L103x1 fnOk103 rq103 L104x0 L104x1 L104x2 L104x3 L104x4 L104x5 L104x7 L104x8 L104x9 L104x10 L104x6 L104x11 L104x12 fnOk104 rq104 L105x0 L105x1 fnOk105 rq105 L106x0 L106x1 fnOk106 rq106 fa142x4 L107x0 L107x1 fnOk107 rq107 L108x0 L108x1 fnOk108 rq108 bd0x155 L109x0 L109x1 L109x2 L109x3 fnOk109 rq109 L110x0 L110x1 L110x2 L110x3 L110x4 L110x5 L110x6 L110x7 fnOk110 rq110 L111x0 L111x1 fnOk111 rq111 L112x0 L112x1 L112x2 L112x3 L112x4 L112x5 L112x6 L112x7 L112x8 fnOk112 rq112 cv121x3 cx121x3 ld152 L113x0 L113x1 fnOk113 rq113 fa152x0 L115x0 fnOk115 rq115 L116x0 L116x1 L116x4 fnOk116 rq116 L117x0 L117x1 L117x2 L117x3 L117x4 L117x5 L117x6 L117x7 L117x8 L117x9 L117x10 L117x11 L117x12 L117x13 L117x14 L117x15 L117x16 L117x17 L117x18 L117x19 L117x20 L117x21 L117x22 L117x23 L117x24 L117x25 L117x26 L117x27 L117x28 L117x29 L117x30 fnOk117 rq117 L118x0 L118x1 fnOk118 rq118 L119x0 L119x1 fnOk119 rq119 L120x0 L120x1 L120x2 L120x3 fnOk120 rq120 eqs143 nes143 L121x0 L121x1 fnOk121 rq121 L122x0 L122x1 L122x2 L122x3 L122x4 fnOk122 rq122 L123x0 L123x1 L123x3 L123x4 L123x6 L123x5 L123x2 fnOk123 rq123 L124x0 L124x1 L124x2 L124x3 L124x4 L124x6 L124x5 L124x7 L124x8 L124x10 L124x11 L124x9 fnOk124 rq124 L125x0 L125x1 L125x2 L125x3 L125x4 L125x5 L125x7 L125x8 L125x9 L125x10 L125x6 fnOk125 rq125 cv3x212 cx3x212 al212 st212 stc212 L126x0 L126x1 L126x2 L126x3 L126x4 L126x5 L126x6 L126x7 L126x8 L126x9 L126x10 L126x11 L126x12 L126x14 L126x15 L126x16 L126x17 L126x13 fnOk126 rq126 al3 L127x0 L127x1 L127x2 L127x3 L127x4 L127x5 fnOk127 rq127 L128x0 L128x1 L128x2 L128x3 L128x5 L128x6 L128x7 L128x8 L128x9 L128x10 L128x11 L128x12 L128x13 L128x14 L128x16 L128x17 L128x15 L128x18 L128x19 L128x20 L128x22 L128x23 L128x21 L128x4 L128x24 fnOk128 rq128 L129x0 L129x1 L129x2 L129x3 L129x4 L129x5 L129x6 L129x7 L129x8 L129x9 L129x10 L129x11 fnOk129 rq129 L130x0 L130x1 L130x2 L130x3 L130x4 L130x5 L130x6 L130x7 L130x8 L130x9 L130x10 L130x11 L130x12 L130x13 L130x14 L130x15 L130x16 L130x17 L130x18 L130x19 L130x20 L130x21 L130x22 fnOk130 rq130 L131x0 L131x1 L131x2 L131x3 L131x4 L131x5 L131x6 L131x7 fnOk131 rq131 L132x0 L132x1 L132x2 L132x3 L132x4 L132x5 L132x6 L132x7 L132x8 L132x9 L132x10 fnOk132 rq132 cv27x5 cx27x5 L133x0 L133x1 L133x2 L133x3 L133x4 L133x5 L133x6 L133x7 fnOk133 rq133 L134x0 L134x1 L134x2 L134x3 L134x4 L134x5 L134x6 L134x7 fnOk134 rq134 L135x0 L135x1 L135x4 fnOk135 rq135 ld122 L136x0 L136x1 L136x2 L136x3 L136x4 L136x5 L136x6 L136x7 L136x8 L136x9 L136x10 L136x11 L136x12 L136x13 L136x14 L136x15 L136x16 L136x17 L136x18 L136x19 L136x20 L136x21 L136x22 L136x23 L136x24 L136x25 L136x26 L136x27 L136x28 L136x29 L136x30 fnOk136 rq136 L137x0 L137x1 L137x2 L137x3 L137x4 L137x5 L137x6 L137x7 fnOk137 rq137 L138x0 L138x1 L138x2 fnOk138 rq138 L139x0 L139x1 L139x3 L139x4 L139x6 L139x5 L139x2 fnOk139 rq139 L140x0 L140x1 L140x2 L140x3 L140x4 L140x6 L140x5 L140x7 L140x8 L140x10 L140x11 L140x9 fnOk140 rq140 L141x0 L141x1 L141x2 L141x3 L141x4 L141x5 L141x7 L141x8 L141x9 L141x10 L141x6 fnOk141 rq141 L142x0 L142x1 L142x2 L142x3 L142x4 L142x5 L142x6 L142x7 L142x8 L142x9 L142x10 L142x11 L142x12 L142x14 L142x15 L142x16 L142x17 L142x13 fnOk142 rq142 L143x0 L143x1 L143x2 L143x3 L143x4 L143x5 fnOk143 rq143 L144x0 L144x1 L144x2 L144x3 L144x5 L144x6 L144x7 L144x8 L144x9 L144x10 L144x11 L144x12 L144x13 L144x14 L144x16 L144x17 L144x15 L144x18 L144x19 L144x20 L144x22 L144x23 L144x21 L144x4 L144x24 fnOk144 rq144 L145x0 L145x1 L145x2 L145x3 L145x4 L145x5 L145x6 L145x7 L145x8 L145x9 L145x10 L145x11 fnOk145 rq145 L146x0 L146x1 L146x2 L146x3 L146x4 L146x5 L146x6 L146x7 L146x8 L146x9 L146x10 L146x11 L146x12 L146x13 L146x14 L146x15 L146x16 L146x17 L146x18 L146x19 L146x20 L146x21 L146x22 fnOk146 rq146 L147x0 L147x1 L147x2 L147x3 L147x4 L147x5 L147x6 L147x7 L147x8 L147x9 L147x10 L147x11 L147x12 L147x13 L147x14 L147x15 L147x16 L147x17 L147x18 L147x19 L147x20 L147x21 L147x22 L147x23 L147x24 L147x25 L147x26 L147x27 L147x28 L147x29 L147x30 fnOk147 rq147 L148x0 L148x1 L148x2 L148x3 L148x4 L148x5 L148x6 L148x7 fnOk148 rq148 L149x0 L149x1 fnOk149 rq149 L150x0 L150x1 L150x2 L150x3 L150x4 fnOk150 rq150 ld212 L151x0 L151x1 fnOk151 rq151 L152x0 L152x1 L152x2 L152x3 L152x4 fnOk152 rq152 L153x0 L153x1 L153x3 L153x4 L153x6 L153x5 L153x2 fnOk153 rq153 L154x0 L154x1 L154x2 L154x3 L154x4 L154x6 L154x5 L154x7 L154x8 L154x10 L154x11 L154x9 fnOk154 rq154 L155x0 L155x1 L155x2 L155x3 L155x4 L155x5 L155x7 L155x8 L155x9 L155x10 L155x6 fnOk155 rq155 L156x0 L156x1 L156x2 L156x3 L156x4 L156x5 L156x6 L156x7 L156x8 L156x9 L156x10 L156x11 L156x12 L156x14 L156x15 L156x16 L156x17 L156x13 fnOk156 rq156 L157x0 L157x1 L157x2 L157x3 L157x4 L157x5 fnOk157 rq157 L158x0 L158x1 L158x2 L158x3 L158x5 L158x6 L158x7 L158x8 L158x9 L158x10 L158x11 L158x12 L158x13 L158x14 L158x16 L158x17 L158x15 L158x18 L158x19 L158x20 L158x22 L158x23 L158x21 L158x4 L158x24 fnOk158 rq158 L159x0 L159x1 fnOk159 rq159 L160x0 L160x1 L160x2 L160x3 L160x4 L160x5 L160x6 L160x7 L160x8 L160x9 L160x10 L160x11 fnOk160 rq160 L161x0 L161x1 L161x2 L161x3 L161x4 L161x5 L161x6 L161x7 L161x8 L161x9 L161x10 L161x11 L161x12 L161x13 L161x14 L161x15 L161x16 L161x17 L161x18 L161x19 L161x20 L161x21 L161x22 fnOk161 rq161 L162x0 L162x1 L162x3 L162x2 fnOk162 rq162 st152 L163x0 L163x1 L163x2 L163x3 L163x4 L163x5 L163x6 L163x7 fnOk163 rq163 L164x0 L164x1 fnOk164 rq164 L165x0 L165x1 L165x2 L165x3 L165x4 fnOk165 rq165 L166x0 L166x1 L166x3 L166x4 L166x6 L166x5 L166x2 fnOk166 rq166 L167x0 L167x1 L167x2 L167x3 L167x4 L167x6 L167x5 L167x7 L167x8 L167x10 L167x11 L167x9 fnOk167 rq167 L168x0 L168x1 L168x2 L168x3 L168x4 L168x5 L168x7 L168x8 L168x9 L168x10 L168x6 fnOk168 rq168 L169x0 L169x1 L169x2 L169x3 L169x4 L169x5 L169x6 L169x7 L169x8 L169x9 L169x10 L169x11 L169x12 L169x14 L169x15 L169x16 L169x17 L169x13 fnOk169 rq169 L170x0 L170x1 L170x2 L170x3 L170x4 L170x5 fnOk170 rq170 L171x0 L171x1 L171x2 L171x3 L171x5 L171x6 L171x7 L171x8 L171x9 L171x10 L171x11 L171x12 L171x13 L171x14 L171x16 L171x17 L171x15 L171x18 L171x19 L171x20 L171x22 L171x23 L171x21 L171x4 L171x24 fnOk171 rq171 L172x0 L172x1 L172x2 L172x3 L172x4 L172x5 L172x6 L172x7 L172x8 L172x9 L172x10 L172x11 fnOk172 rq172 L173x0 L173x1 L173x2 L173x3 L173x4 L173x5 L173x6 L173x7 L173x8 L173x9 L173x10 L173x11 L173x12 L173x13 L173x14 L173x15 L173x16 L173x17 L173x18 L173x19 L173x20 L173x21 L173x22 fnOk173 rq173 L174x0 L174x1 L174x2 L174x3 L174x4 fnOk174 rq174 L175x0 L175x1 L175x2 L175x3 L175x4 L175x5 L175x6 L175x7 fnOk175 rq175 L176x0 L176x1 fnOk176 rq176 L177x0 L177x1 L177x2 L177x3 L177x4 fnOk177 rq177 L178x0 L178x1 fnOk178 rq178 L179x0 L179x1 L179x2 L179x3 L179x4 fnOk179 rq179 L180x0 L180x1 L180x2 L180x3 L180x4 L180x5 L180x6 L180x7 fnOk180 rq180 L181x0 L181x1 fnOk181 rq181 L182x0 L182x1 L182x2 L182x3 L182x4 fnOk182 rq182 L183x0 L183x1 L183x2 L183x3 L183x4 fnOk183 rq183 L184x0 L184x1 L184x2 L184x3 L184x4 fnOk184 rq184
end Go.Proofs.YtngnbafididkcaaGreat
