/- OUR OWN LOGIC OVER THE KIT'S. 13: numbers that fit stay as they are. Nothing of the program stands here. OUR OWN LOGIC OVER THE KIT'S. 14: bytes to a string; equality of booleans; what a call's start knows of the world. Nothing of the program stands here. -/
import Derived.Test.YtngnbafididkcaaGreatL12
import Derived.Great.FillDense
section
namespace Go.Proofs.YtngnbafididkcaaGreat
open Go.RowKit

theorem wrap_i64 {n : Int} (h0 : -9223372036854775808 ≤ n) (h1 : n ≤ 9223372036854775807) : IntKind.i64.wrap n = n := by
  have e : IntKind.i64.wrap n = if n % 18446744073709551616 ≥ 9223372036854775808 then n % 18446744073709551616 - 18446744073709551616 else n % 18446744073709551616 := by
    simp [IntKind.wrap, IntKind.bits, IntKind.signed]
  rw [e]
  by_cases h : n % 18446744073709551616 ≥ 9223372036854775808
  · rw [if_pos h]; omega
  · rw [if_neg h]; omega
theorem wrap_u64 {n : Int} (h0 : 0 ≤ n) (h1 : n ≤ 18446744073709551615) : IntKind.u64.wrap n = n := by
  simp only [IntKind.wrap, IntKind.bits, IntKind.signed]
  simp; omega
theorem wrap_u32 {n : Int} (h0 : 0 ≤ n) (h1 : n ≤ 4294967295) : IntKind.u32.wrap n = n := by
  simp only [IntKind.wrap, IntKind.bits, IntKind.signed]
  simp; omega
theorem wrap_u16 {n : Int} (h0 : 0 ≤ n) (h1 : n ≤ 65535) : IntKind.u16.wrap n = n := by
  simp only [IntKind.wrap, IntKind.bits, IntKind.signed]
  simp; omega
theorem wrap_u8 {n : Int} (h0 : 0 ≤ n) (h1 : n ≤ 255) : IntKind.u8.wrap n = n := by
  simp only [IntKind.wrap, IntKind.bits, IntKind.signed]
  simp; omega
theorem wrap_i32 {n : Int} (h0 : -2147483648 ≤ n) (h1 : n ≤ 2147483647) : IntKind.i32.wrap n = n := by
  have e : IntKind.i32.wrap n = if n % 4294967296 ≥ 2147483648 then n % 4294967296 - 4294967296 else n % 4294967296 := by
    simp [IntKind.wrap, IntKind.bits, IntKind.signed]
  rw [e]
  by_cases h : n % 4294967296 ≥ 2147483648
  · rw [if_pos h]; omega
  · rw [if_neg h]; omega
theorem wrap_u8_range (n : Int) : 0 ≤ IntKind.u8.wrap n ∧ IntKind.u8.wrap n ≤ 255 := by
  simp only [IntKind.wrap, IntKind.bits, IntKind.signed]
  simp; omega
theorem wrap_u64_range (n : Int) : 0 ≤ IntKind.u64.wrap n ∧ IntKind.u64.wrap n ≤ 18446744073709551615 := by
  simp only [IntKind.wrap, IntKind.bits, IntKind.signed]
  simp; omega
theorem wrap_u8_eq (n : Int) : IntKind.u8.wrap n = n % 256 := by
  simp [IntKind.wrap, IntKind.bits, IntKind.signed]
theorem tmod_pos {a b : Int} (h0 : 0 ≤ a) : a.tmod b = a % b := Int.tmod_eq_emod_of_nonneg h0
theorem tdiv_pos {a b : Int} (h0 : 0 ≤ a) : a.tdiv b = a / b := Int.tdiv_eq_ediv_of_nonneg h0

theorem bin_int' {P : Program} {H : AH} {op : BinOp} {t : TypeId} {x y : Operand} {k k' : IntKind} {a b : Int} : binV P H op t x y (.int k a) (.int k' b) = peek P H (binOp op t (.int k a) (.int k' b)) := by
  unfold binV valOf
  rw [peek_then]
  have : peek P H (eqGuard op t x y (.int k a) (.int k' b)) = some () := by
    unfold eqGuard
    cases op <;> rfl
  rw [this]; rfl

/-- Three cells, each a field. -/
theorem build3 {P : Program} {H : AH} {t : TypeId} {z a b c : Value} (hp : (match placesT P t with | some pl => pl 0 == some (0, 1) && pl 1 == some (1, 1) && pl 2 == some (2, 1) | none => false) = true) (hz : zeroT P t = some z) (hzs : z.cells.size = 3)
    (ha : a.oneCell' = true) (hb : b.oneCell' = true) (hc : c.oneCell' = true) : buildV P H t #[(0, a), (1, b), (2, c)] = some (.agg #[a, b, c]) := by
  cases hpl : placesT P t with
  | none => rw [hpl] at hp; cases hp
  | some pl =>
    rw [hpl] at hp
    simp only [Bool.and_eq_true, beq_iff_eq] at hp
    obtain ⟨⟨h0, h1⟩, h2⟩ := hp
    rw [build_eq hpl hz]
    obtain ⟨x, y, w, hx⟩ : ∃ x y w, z.cells = #[x, y, w] := by
      match hh : z.cells, hzs with
      | ⟨[x, y, w]⟩, _ => exact ⟨x, y, w, rfl⟩
    simp [Instr.fill, h0, h1, h2, cells_one ha, cells_one hb, cells_one hc, hx]

/-- A slice literal with all its elements told. -/
theorem buildSQ_all {P : Program} {lo : Nat} {H : AH} {nx : Nat} {t e : TypeId} {n k : Nat} {z : Value} {K : Value → AH → Nat → Prop} (vs : List Value) (ht : slT P t = some (e, k)) (hz : zeroT P e = some z) (hpos : 0 < n * k) (hmax : n * k ≤ 2 ^ 24)
    (hn : vs.length = n) (h1 : ∀ v ∈ vs, v.cells.size = k)
    (hk : ∀ m, nx ≤ m → K (.slice (some ⟨m, 0, none⟩) n n) (H.new m (vs.flatMap fun v => v.cells.toList).toArray e) (m + 1)) : buildSQ P lo t n ((vs.zipIdx 0).map fun x => (x.2, x.1)).toArray K H nx :=
  buildSQ_of ht hz (by omega) hmax (Great.fill_whole (Nat.pos_of_mul_pos_left hpos) vs _ h1 (by simp [hn])) hk

theorem buildSQ_cs {P : Program} {lo : Nat} {H : AH} {nx : Nat} {t e : TypeId} {n k : Nat} {z : Value} {K : Value → AH → Nat → Prop} (vs cs : List Value) (ht : slT P t = some (e, k)) (hz : zeroT P e = some z) (hpos : 0 < n * k) (hmax : n * k ≤ 2 ^ 24)
    (hn : vs.length = n) (h1 : ∀ v ∈ vs, v.cells.size = k) (hcs : (vs.flatMap fun v => v.cells.toList) = cs)
    (hk : ∀ m, nx ≤ m → K (.slice (some ⟨m, 0, none⟩) n n) (H.new m cs.toArray e) (m + 1)) : buildSQ P lo t n ((vs.zipIdx 0).map fun x => (x.2, x.1)).toArray K H nx :=
  buildSQ_all vs ht hz hpos hmax hn h1 (by rw [hcs]; exact hk)

/-! ### Shifts -/
theorem binV_shr64 {P : Program} {H : AH} {t : TypeId} {x y : Operand} {k' : IntKind} {a b : Int} (h0 : 0 ≤ b) (h1 : b ≤ 64) : binV P H .shr t x y (.int .i64 a) (.int k' b) = some (.int .i64 (a / 2 ^ b.toNat)) := by
  rw [bin_int']
  simp only [binOp, Op.shift]
  rw [if_neg (by omega), show min b.toNat IntKind.i64.bits = b.toNat from Nat.min_eq_left (by show b.toNat ≤ 64; omega)]
  rw [peek_pure, Int.fdiv_eq_ediv_of_nonneg _ (Int.le_of_lt (Int.pow_pos (by decide)))]
theorem binV_shl64 {P : Program} {H : AH} {t : TypeId} {x y : Operand} {k' : IntKind} {a b : Int} (h0 : 0 ≤ b) (h1 : b ≤ 64) : binV P H .shl t x y (.int .i64 a) (.int k' b) = some (.int .i64 (IntKind.i64.wrap (a * 2 ^ b.toNat))) := by
  rw [bin_int']
  simp only [binOp, Op.shift]
  rw [if_neg (by omega), show min b.toNat IntKind.i64.bits = b.toNat from Nat.min_eq_left (by show b.toNat ≤ 64; omega)]
  rfl

theorem pow8 : (2 ^ Int.toNat 8 : Int) = 256 := by decide

/-! ### A conversion that marks -/
theorem dropT_c (H : AH) (n b o : Nat) : (H.dropT n).c b o = H.c b o := (rfl)
theorem dropT_o (H : AH) (n b : Nat) : (H.dropT n).o b = H.o b := (rfl)
theorem dropT_t (H : AH) (n b : Nat) (h : b ≠ n) : (H.dropT n).t b = H.t b := by simp [AH.dropT, h]
theorem Kp.dropT {S : Nat → Prop} {nx : Nat} {H H' : AH} (h : Kp S nx H H') {n : Nat} (hb : nx ≤ n ∨ S n) : Kp S nx H (H'.dropT n) := fun b hlt hu => by
  obtain ⟨a1, a2, a3⟩ := h b hlt hu
  have : b ≠ n := fun e => by subst e; rcases hb with hb | hb; omega; exact hu hb
  exact ⟨a1, a2, by rw [dropT_t _ _ _ this]; exact a3⟩
theorem SlA.dropT {nx : Nat} {H : AH} {size : Nat} {v : Value} {n : Nat} {xs : List Value} {own k : Nat} (h : SlA nx H size v n xs own) : SlA nx (H.dropT k) size v n xs own := h.kept h.le fun _ _ _ => rfl

theorem convQ_same {P : Program} {lo : Nat} {s e : TypeId} {b o n c m : Nat} {te : TypeId} {H : AH} {nx : Nat} {K : Value → AH → Nat → Prop} (ht : slT P s = some (e, 1)) (hu : P.underlying e = some (.int .u8)) (hb : H.t b = some (te, m)) (hk : K (.slice (some ⟨b, o, none⟩) n c) (H.dropT b) nx) :
    convQ P lo s s (.slice (some ⟨b, o, none⟩) n c) K H nx := by
  unfold slT at ht
  cases hus : P.underlying s with
  | none => rw [hus] at ht; cases ht
  | some d =>
  rw [hus] at ht
  cases d <;> simp only [reduceCtorEq] at ht
  rename_i e'
  simp only [Option.map_eq_some_iff, Prod.mk.injEq] at ht
  obtain ⟨k', hk', rfl, rfl⟩ := ht
  unfold convQ convert
  rw [aw_then, aw_eq (by rw [peek_underlying, hus])]
  rw [aw_then, aw_eq (by rw [peek_underlying, hus])]
  simp only [beq_self_eq_true]
  rw [aw_then, aw_eq (by rw [peek_underlying, hu])]
  simp only
  rw [aw_then]
  unfold markStringish
  rw [aw_then]
  simp only [shape, aw]
  refine .inl ⟨_, hb, ?_⟩
  simp only [freeze, aw]
  exact ⟨⟨te, m, hb, Nat.le_refl _⟩, hk⟩

theorem ACalls.withLo {P : Program} {lo : Nat} {f : FuncId} {args : Array Value} {H : AH} {nx : Nat} {R : Value → AH → Nat → Prop} (h : lo ≤ nx → ACalls P lo f args H nx R) : ACalls P lo f args H nx R := fun w hw => h hw.lo_nx w hw

theorem SlA.room {nx : Nat} {H : AH} {size g off n c : Nat} {xs : List Value} {own : Nat} (hs : SlA nx H size (.slice (some ⟨g, off, none⟩) n c) n xs own) {m : Nat} {news : List Value} (hl : news.length = m * size) (hroom : n + m ≤ c) :
    SlA nx (H.puts g (off + n * size) news) size (.slice (some ⟨g, off, none⟩) (n + m) c) (n + m) (xs ++ news) own := by
  obtain ⟨hc, ho, hn, hm, hsp⟩ := hs.cells
  have hmul : (n + m) * size ≤ c * size := Nat.mul_le_mul_right _ hroom
  rw [Nat.add_mul] at hmul
  refine ⟨by rw [List.length_append, hs.1, hl, Nat.add_mul], hs.le, .inr ⟨g, off, c, rfl, ho, hroom, hm, fun j hj => ?_, fun j hj => ?_⟩⟩
  · by_cases hjn : j < n * size
    · rw [puts_other _ _ _ _ _ _ (by omega), List.getElem?_append_left (by rw [hs.1]; exact hjn)]
      have hx : j < xs.length := by rw [hs.1]; exact hjn
      rw [List.getElem?_eq_getElem hx]
      exact hc j _ (List.getElem?_eq_getElem hx)
    · rw [show off + j = off + n * size + (j - n * size) by omega, puts_same _ _ _ _ _ (by rw [hl]; rw [Nat.add_mul] at hj; omega), List.getElem?_append_right (by rw [hs.1]; omega), hs.1]
  · by_cases hjn : j < n * size ∨ off + n * size + news.length ≤ off + j
    · rw [puts_other _ _ _ _ _ _ (by omega)]; exact hsp j hj
    · rw [show off + j = off + n * size + (j - n * size) by omega, puts_same _ _ _ _ _ (by omega), List.getElem?_eq_getElem (by omega)]; rfl
theorem zeroCells_one {zc : Array Value} (h0 : 0 < zc.size) (h : zc.all Value.oneCell' = true) (n : Nat) : ∀ v ∈ (Builtin.zeroCells zc n).toList, v.oneCell' = true := by
  intro v hv
  simp only [Builtin.zeroCells, Array.toList_map, List.mem_map] at hv
  obtain ⟨i, _, rfl⟩ := hv
  have hl := Nat.mod_lt i h0
  rw [getElem!_pos zc (i % zc.size) hl]
  exact Array.all_eq_true_iff_forall_mem.1 h _ (Array.getElem_mem hl)
/-- What is written behind its elements does not touch it. -/
theorem SlA.beyond {nx : Nat} {H : AH} {size g off n c : Nat} {xs : List Value} {own : Nat} (hs : SlA nx H size (.slice (some ⟨g, off, none⟩) n c) n xs own) {o : Nat} {vs : List Value} (ho : off + n * size ≤ o) :
    SlA nx (H.puts g o vs) size (.slice (some ⟨g, off, none⟩) n c) n xs own := by
  obtain ⟨hc, hw, hn, hm, hsp⟩ := hs.cells
  refine ⟨hs.1, hs.le, .inr ⟨g, off, c, rfl, hw, hn, hm, fun j hj => ?_, fun j hj => ?_⟩⟩
  · rw [puts_other _ _ _ _ _ _ (by omega)]
    have hx : j < xs.length := by rw [hs.1]; exact hj
    rw [List.getElem?_eq_getElem hx]
    exact hc j _ (List.getElem?_eq_getElem hx)
  · by_cases hjn : off + j < o ∨ o + vs.length ≤ off + j
    · rw [puts_other _ _ _ _ _ _ (by omega)]; exact hsp j hj
    · rw [show off + j = o + (off + j - o) by omega, puts_same _ _ _ _ _ (by omega), List.getElem?_eq_getElem (by omega)]; rfl
/-- Fewer of its elements. -/
theorem SlA.less {nx : Nat} {H : AH} {size g off n c : Nat} {xs : List Value} {own : Nat} (hs : SlA nx H size (.slice (some ⟨g, off, none⟩) n c) n xs own) {i : Nat} (hi : i ≤ n) : SlA nx H size (.slice (some ⟨g, off, none⟩) i c) i (xs.take (i * size)) own := by
  obtain ⟨hc, hw, hn, hm, hsp⟩ := hs.cells
  have hmul : i * size ≤ n * size := Nat.mul_le_mul_right _ hi
  refine ⟨by rw [List.length_take, hs.1]; omega, hs.le, .inr ⟨g, off, c, rfl, hw, by omega, hm, fun j hj => ?_, hsp⟩⟩
  rw [List.getElem?_take, if_pos hj]
  have hx : j < xs.length := by rw [hs.1]; omega
  rw [List.getElem?_eq_getElem hx]
  exact hc j _ (List.getElem?_eq_getElem hx)
theorem AH.puts_kp {S : Nat → Prop} {nx : Nat} {H H' : AH} (h : Kp S nx H H') {b o : Nat} {vs : List Value} (hb : nx ≤ b ∨ S b) : Kp S nx H (H'.puts b o vs) := Kp.puts hb vs o H' h
theorem cutS_lt {b o k c l h : Nat} (hl : l < c) : cutS (some ⟨b, o, none⟩) k c l h = .slice (some ⟨b, o + l * k, none⟩) (h - l) (c - l) := by
  unfold cutS
  rw [if_neg (by omega)]
  simp [add_none]
theorem cutS_one {a : Option Addr} {k c l h : Nat} : (cutS a k c l h).oneCell' = true := rfl
theorem appendQ_two {P : Program} {lo : Nat} {ts : Array TypeId} {ty : TypeId} {s x : Value} {K : Value → AH → Nat → Prop} {H : AH} {nx : Nat} (h : aw P lo (Builtin.append_ ts ty #[s, x]) K H nx) : appendQ P lo ts ty [s, x] K H nx := h
theorem clearQ_one {P : Program} {lo : Nat} {ts : Array TypeId} {ty : TypeId} {s : Value} {K : Value → AH → Nat → Prop} {H : AH} {nx : Nat} (h : aw P lo (Builtin.clear_ ts ty #[s]) K H nx) : clearQ P lo ts ty [s] K H nx := h
theorem Kp.trans0 {S : Nat → Prop} {nx nx' : Nat} {H H' H'' : AH} (h : Kp S nx H H') (h' : Kp (fun _ => False) nx' H' H'') (hn : nx ≤ nx') : Kp S nx H H'' := h.trans h' hn (fun _ _ x => x) (fun _ _ x => x.elim)
theorem Kp.transS {S T : Nat → Prop} {nx nx' : Nat} {H H' H'' : AH} (h : Kp S nx H H') (h' : Kp T nx' H' H'') (hn : nx ≤ nx') (ht : ∀ b, b < nx → T b → S b) : Kp S nx H H'' := h.trans h' hn (fun _ _ x => x) ht
theorem Kp.cell {S : Nat → Prop} {nx : Nat} {H H' : AH} (h : Kp S nx H H') : ∀ b o, b < nx → ¬ S b → H'.c b o = H.c b o := fun b o hb hs => (h b hb hs).1 o
theorem Kp.cell0 {nx : Nat} {H H' : AH} (h : Kp (fun _ => False) nx H H') : ∀ b o, b < nx → H'.c b o = H.c b o := fun b o hb => (h b hb (by simp)).1 o

attribute [go_sem] pow8 binV_shr64 binV_shl64 dropT_c dropT_o dropT_t decide_true decide_false cutS_lt Nat.zero_mul Nat.sub_zero Int.toNat_natCast wrap_i64 wrap_u64 wrap_u32 wrap_u16 wrap_u8 wrap_i32 tmod_pos tdiv_pos

end Go.Proofs.YtngnbafididkcaaGreat
end
section
namespace Go.Proofs.YtngnbafididkcaaGreat
open Go.RowKit

/-- All of the world's cells. -/
def AH.ofWorld (w : World) : AH := ⟨fun b o => w.cell? ⟨b, o, none⟩, fun _ => none, fun _ => none, none⟩
theorem Rel.ofWorld (w : World) : Rel w.heap.size (AH.ofWorld w) w.heap.size w :=
  ⟨Nat.le_refl _, Nat.le_refl _, fun b o v h => by
    have hb : b < w.heap.size := World.block_lt_of_cell? w ⟨b, o, none⟩ h
    exact ⟨hb, h, fun hl => by omega⟩, fun b ob h => by simp [AH.ofWorld] at h, fun b e n h => by simp [AH.ofWorld] at h, fun k h => by simp [AH.ofWorld] at h⟩

/-- What comes behind is shown once, whatever the roads before it. -/
theorem awp_cut {P : Program} {lo : Nat} {L : Nat → List Nat} {a b : Code} {Q : Exit → Env → AH → Nat → Prop} {env env' : Env} {H H' : AH} {nx nx' : Nat} (hb : awp P lo L b Q env' H' nx')
    (ha : ∀ K : Env → AH → Nat → Prop, K env' H' nx' → awp P lo L a (thenQ K Q) env H nx) : awp P lo L (.seq a b) Q env H nx := ha _ hb

section
variable {P : Program} {lo : Nat} {H : AH} {nx : Nat}

theorem eq_bool {t : TypeId} {x y : Operand} {a b : Bool} (h : P.underlying t = some .bool) : binV P H .eql t x y (.bool a) (.bool b) = some (.bool (a == b)) := by
  rw [bin_eq (by simp) (by simp)]
  show peek P H (do let r ← Op.equal t (.bool a) (.bool b); pure (Value.bool r)) = _
  rw [peek_then, show Op.equal t (.bool a) (.bool b) = Op.equalIn (9999 + 1) t (.bool a) (.bool b) from rfl, Op.equalIn, peek_then, peek_underlying, h]
  rfl
theorem ne_bool {t : TypeId} {x y : Operand} {a b : Bool} (h : P.underlying t = some .bool) : binV P H .neq t x y (.bool a) (.bool b) = some (.bool (!(a == b))) := by
  rw [bin_eq (by simp) (by simp)]
  show peek P H (do let r ← Op.equal t (.bool a) (.bool b); pure (Value.bool !r)) = _
  rw [peek_then, show Op.equal t (.bool a) (.bool b) = Op.equalIn (9999 + 1) t (.bool a) (.bool b) from rfl, Op.equalIn, peek_then, peek_underlying, h]
  rfl

/-- Bytes as a string. -/
def byteS (bs : List Int) : ByteArray := ⟨(bs.map fun x => UInt8.ofNat x.toNat).toArray⟩

theorem peek_bytes_loop {f : Value → ByteArray → Sem (ForInStep ByteArray)} (hf : ∀ b s, f (.int .u8 b) s = pure (.yield (s.push (UInt8.ofNat b.toNat)))) : ∀ (bs : List Int) (s : ByteArray),
    peek P H (forIn (bs.map (Value.int .u8)) s f) = some ⟨s.data ++ (bs.map fun x => UInt8.ofNat x.toNat).toArray⟩
  | [], s => by simp [peek_pure]
  | b :: r, s => by
    rw [List.map_cons, List.forIn_cons, hf]
    rw [peek_then, peek_pure]
    simp only [Option.bind_some]
    rw [peek_bytes_loop hf r]
    simp [ByteArray.push]

theorem convQ_bytes {s d e : TypeId} {v : Value} {bs : List Int} {own : Nat} {K : Value → AH → Nat → Prop} (ht : slT P s = some (e, 1)) (hu : P.underlying e = some (.int .u8)) (hd : P.underlying d = some .string)
    (hs : SlA nx H 1 v bs.length (bs.map (Value.int .u8)) own) : convQ P lo s d v K H nx = K (.string (byteS bs)) H nx := by
  unfold slT at ht
  cases hus : P.underlying s with
  | none => rw [hus] at ht; cases ht
  | some dd =>
  rw [hus] at ht
  cases dd <;> simp only [reduceCtorEq] at ht
  rename_i e'
  simp only [Option.map_eq_some_iff, Prod.mk.injEq] at ht
  obtain ⟨k', hk', rfl, rfl⟩ := ht
  obtain ⟨a, c, rfl⟩ := hs.form
  have h : peek P H (convert s d (.slice a bs.length c)) = some (.string (byteS bs)) := by
    unfold convert
    rw [peek_then, peek_underlying, hus]
    simp only [Option.bind_some]
    rw [peek_then, peek_underlying, hd]
    simp only [Option.bind_some]
    rw [peek_then, peek_underlying, hu]
    simp only [Option.bind_some]
    unfold Conv.bytesToString
    cases a with
    | none =>
      rcases hs.2.2 with ⟨h1, h2, _⟩ | ⟨g, off, cap, h1, _⟩
      · have : bs = [] := List.eq_nil_of_length_eq_zero h2
        subst this
        rfl
      · simp at h1
    | some a =>
      have hf := hs.first (P := P)
      simp only [Builtin.firstCells, Nat.mul_one] at hf
      simp only
      rw [peek_then, hf]
      simp only [Option.bind_some]
      rw [peek_then]
      rw [← Array.forIn_toList, List.toList_toArray, peek_bytes_loop (fun _ _ => rfl) bs ByteArray.empty]
      simp only [Option.bind_some, peek_pure, byteS]
      congr 3
      rw [show ByteArray.empty.data = #[] from rfl, Array.empty_append]
  unfold convQ
  exact aw_eq h
end

theorem SlA.ofWorld {W : World} {a : Addr} {len cap : Nat} {bs : List Int} {zs : List Int} (hz : zs.length = cap) (hl : len ≤ cap) (hm : cap ≤ Go.maxLen) (hpos : 0 < cap) (hcell : ∀ i, i < cap → W.cell? (a.add i) = some (.int .u8 (zs.getD i 0))) (hb : bs = zs.take len) :
    SlA W.heap.size (AH.ofWorld W) 1 (.slice (some a) len cap) len (bs.map (Value.int .u8)) (a.block + 1) := by
  obtain ⟨g, off, sp⟩ := a
  have h0 := hcell 0 hpos
  have hlt : g < W.heap.size := by
    have := World.block_lt_of_cell? _ _ h0
    cases sp <;> simpa [Addr.add] using this
  have hsp : sp = none := by
    cases sp with
    | none => rfl
    | some x =>
      exfalso
      unfold World.cell? at h0
      split at h0
      · simp [Addr.add] at h0
      · cases h0
  subst hsp
  subst hb
  have hlen : ((zs.take len).map (Value.int .u8)).length = len * 1 := by simp; omega
  refine ⟨hlen, hlt, .inr ⟨g, off, cap, rfl, rfl, hl, hm, fun j hj => ?_, fun j hj => ?_⟩⟩
  · have := hcell j (by omega)
    rw [add_none] at this
    show W.cell? ⟨g, off + j, none⟩ = _
    rw [this]
    have hj2 : j < zs.length := by omega
    simp [List.getD, hj2, show j < len by omega]
  · have := hcell j (by omega)
    rw [add_none] at this
    show (W.cell? ⟨g, off + j, none⟩).isSome = true
    rw [this]; rfl

end Go.Proofs.YtngnbafididkcaaGreat
end
