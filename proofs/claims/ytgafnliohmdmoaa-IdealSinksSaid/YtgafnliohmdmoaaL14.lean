/- OUR OWN LOGIC OVER THE KIT'S. 14: bytes to a string; equality of booleans; what a call's start knows of the world. Nothing of the program stands here. -/
import Derived.Test.YtgafnliohmdmoaaL13
namespace Go.Proofs.Ytgafnliohmdmoaa
open Go.RowKit

/-- All of the world's cells. -/
def AH.ofWorld (w : World) : AH := ⟨fun b o => w.cell? ⟨b, o, none⟩, fun _ => none, fun _ => none, none⟩
theorem Rel.ofWorld (w : World) : Rel w.heap.size (AH.ofWorld w) w.heap.size w :=
  ⟨Nat.le_refl _, Nat.le_refl _, fun b o v h => by
    have hb : b < w.heap.size := World.block_lt_of_cell? w ⟨b, o, none⟩ h
    exact ⟨hb, h, fun hl => by omega⟩, fun b ob h => by simp [AH.ofWorld] at h, fun b e n h => by simp [AH.ofWorld] at h, fun k h => by simp [AH.ofWorld] at h⟩

/-- What comes behind is shown once, whatever the roads before it. -/
theorem awp_cut {P : Program} {lo : Nat} {L : Nat → List Nat} {a b : Code} {Q : Exit → Env → AH → Nat → Prop} {env env' : Env} {H H' : AH} {nx nx' : Nat} (hb : awp P lo L b Q env' H' nx')
    (ha : ∀ K : Env → AH → Nat → Prop, K env' H' nx' → awp P lo L a (thenQ K Q) env H nx) : awp P lo L (.seq a b) Q env H nx := ha _ hb

section
variable {P : Program} {lo : Nat} {H : AH} {nx : Nat}

theorem eq_bool {t : TypeId} {x y : Operand} {a b : Bool} (h : P.underlying t = some .bool) : binV P H .eql t x y (.bool a) (.bool b) = some (.bool (a == b)) := by
  rw [bin_eq (by simp) (by simp)]
  show peek P H (do let r ← Op.equal t (.bool a) (.bool b); pure (Value.bool r)) = _
  rw [peek_then, show Op.equal t (.bool a) (.bool b) = Op.equalIn (9999 + 1) t (.bool a) (.bool b) from rfl, Op.equalIn, peek_then, peek_underlying, h]
  rfl
theorem ne_bool {t : TypeId} {x y : Operand} {a b : Bool} (h : P.underlying t = some .bool) : binV P H .neq t x y (.bool a) (.bool b) = some (.bool (!(a == b))) := by
  rw [bin_eq (by simp) (by simp)]
  show peek P H (do let r ← Op.equal t (.bool a) (.bool b); pure (Value.bool !r)) = _
  rw [peek_then, show Op.equal t (.bool a) (.bool b) = Op.equalIn (9999 + 1) t (.bool a) (.bool b) from rfl, Op.equalIn, peek_then, peek_underlying, h]
  rfl

/-- Bytes as a string. -/
def byteS (bs : List Int) : ByteArray := ⟨(bs.map fun x => UInt8.ofNat x.toNat).toArray⟩

theorem peek_bytes_loop {f : Value → ByteArray → Sem (ForInStep ByteArray)} (hf : ∀ b s, f (.int .u8 b) s = pure (.yield (s.push (UInt8.ofNat b.toNat)))) : ∀ (bs : List Int) (s : ByteArray),
    peek P H (forIn (bs.map (Value.int .u8)) s f) = some ⟨s.data ++ (bs.map fun x => UInt8.ofNat x.toNat).toArray⟩
  | [], s => by simp [peek_pure]
  | b :: r, s => by
    rw [List.map_cons, List.forIn_cons, hf]
    rw [peek_then, peek_pure]
    simp only [Option.bind_some]
    rw [peek_bytes_loop hf r]
    simp [ByteArray.push]

theorem convQ_bytes {s d e : TypeId} {v : Value} {bs : List Int} {own : Nat} {K : Value → AH → Nat → Prop} (ht : slT P s = some (e, 1)) (hu : P.underlying e = some (.int .u8)) (hd : P.underlying d = some .string)
    (hs : SlA nx H 1 v bs.length (bs.map (Value.int .u8)) own) : convQ P lo s d v K H nx = K (.string (byteS bs)) H nx := by
  unfold slT at ht
  cases hus : P.underlying s with
  | none => rw [hus] at ht; cases ht
  | some dd =>
  rw [hus] at ht
  cases dd <;> simp only [reduceCtorEq] at ht
  rename_i e'
  simp only [Option.map_eq_some_iff, Prod.mk.injEq] at ht
  obtain ⟨k', hk', rfl, rfl⟩ := ht
  obtain ⟨a, c, rfl⟩ := hs.form
  have h : peek P H (convert s d (.slice a bs.length c)) = some (.string (byteS bs)) := by
    unfold convert
    rw [peek_then, peek_underlying, hus]
    simp only [Option.bind_some]
    rw [peek_then, peek_underlying, hd]
    simp only [Option.bind_some]
    rw [peek_then, peek_underlying, hu]
    simp only [Option.bind_some]
    unfold Conv.bytesToString
    cases a with
    | none =>
      rcases hs.2.2 with ⟨h1, h2, _⟩ | ⟨g, off, cap, h1, _⟩
      · have : bs = [] := List.eq_nil_of_length_eq_zero h2
        subst this
        rfl
      · simp at h1
    | some a =>
      have hf := hs.first (P := P)
      simp only [Builtin.firstCells, Nat.mul_one] at hf
      simp only
      rw [peek_then, hf]
      simp only [Option.bind_some]
      rw [peek_then]
      rw [← Array.forIn_toList, List.toList_toArray, peek_bytes_loop (fun _ _ => rfl) bs ByteArray.empty]
      simp only [Option.bind_some, peek_pure, byteS]
      congr 3
      rw [show ByteArray.empty.data = #[] from rfl, Array.empty_append]
  unfold convQ
  exact aw_eq h
end

theorem SlA.ofWorld {W : World} {a : Addr} {len cap : Nat} {bs : List Int} {zs : List Int} (hz : zs.length = cap) (hl : len ≤ cap) (hm : cap ≤ Go.maxLen) (hpos : 0 < cap) (hcell : ∀ i, i < cap → W.cell? (a.add i) = some (.int .u8 (zs.getD i 0))) (hb : bs = zs.take len) :
    SlA W.heap.size (AH.ofWorld W) 1 (.slice (some a) len cap) len (bs.map (Value.int .u8)) (a.block + 1) := by
  obtain ⟨g, off, sp⟩ := a
  have h0 := hcell 0 hpos
  have hlt : g < W.heap.size := by
    have := World.block_lt_of_cell? _ _ h0
    cases sp <;> simpa [Addr.add] using this
  have hsp : sp = none := by
    cases sp with
    | none => rfl
    | some x =>
      exfalso
      unfold World.cell? at h0
      split at h0
      · simp [Addr.add] at h0
      · cases h0
  subst hsp
  subst hb
  have hlen : ((zs.take len).map (Value.int .u8)).length = len * 1 := by simp; omega
  refine ⟨hlen, hlt, .inr ⟨g, off, cap, rfl, rfl, hl, hm, fun j hj => ?_, fun j hj => ?_⟩⟩
  · have := hcell j (by omega)
    rw [add_none] at this
    show W.cell? ⟨g, off + j, none⟩ = _
    rw [this]
    have hj2 : j < zs.length := by omega
    simp [List.getD, hj2, show j < len by omega]
  · have := hcell j (by omega)
    rw [add_none] at this
    show (W.cell? ⟨g, off + j, none⟩).isSome = true
    rw [this]; rfl

end Go.Proofs.Ytgafnliohmdmoaa
