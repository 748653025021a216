/- OUR OWN LOGIC OVER THE KIT'S. 19: 'copy'; 'append' of so many zero values; slices.overlaps (what the model says of it). Nothing of the program stands here. -/
import Derived.Test.YtngnbafididkcaaGreatL17
import Derived.Laws.Externs
namespace Go.Proofs.YtngnbafididkcaaGreat
open Go.RowKit
set_option linter.unusedSimpArgs false

section
variable {P : Program} {lo : Nat} {H : AH} {nx : Nat} {K : Value → AH → Nat → Prop}

theorem externQ_of {n : Nat} {fn : Func} {args : Array Value} {e : Array Value → Sem Value} (hf : P.funcs[n]? = some fn) (hname : (fn.name == "runtime.NumGoroutine") = false) (hb : fn.body.isNone = true) (hn : Extern.findNext fn = none) (he : Extern.find fn = some e)
    (h : aw P lo (e args) K H nx) : externQ P lo n args K H nx := by
  unfold externQ callFunc
  show aw P lo (Sem.program fun p => _) _ H nx
  simp only [aw, Sem.bind, hf, hname, hb, Bool.false_eq_true, if_false, if_true, aw_then, mark, hn, he]
  exact h

theorem aw_frozenT {a : Addr} {K : Bool → AH → Nat → Prop} (h : (H.t a.block).isSome = true) (hk : K false H nx) : aw P lo (frozen a) K H nx := .inl ⟨h, hk⟩
theorem aw_frozenA {a : Addr} {K : Bool → AH → Nat → Prop} (hk : ∀ t, K t H nx) : aw P lo (frozen a) K H nx := .inr hk
theorem aw_shapeT {r : Nat} {x : TypeId × Nat} {K : Option (TypeId × Nat) → AH → Nat → Prop} (h : H.t r = some x) (hk : K (some x) H nx) : aw P lo (shape r) K H nx := .inl ⟨x, h, hk⟩
theorem aw_shapeA {r o : Nat} {K : Option (TypeId × Nat) → AH → Nat → Prop} (hc : (H.c r o).isSome = true) (hk : ∀ e n, (H.t r = none → 0 < n) → K (some (e, n)) H nx) : aw P lo (shape r) K H nx := by
  cases ht : H.t r with
  | none => exact .inr ⟨ht, ⟨o, hc⟩, fun e n hn => hk e n fun _ => hn⟩
  | some x => exact .inl ⟨x, ht, hk x.1 x.2 fun h => by rw [ht] at h; cases h⟩
theorem aw_noView {a : Addr} {o : Nat} {K : Unit → AH → Nat → Prop} (hc : (H.t a.block).isSome = true ∨ (H.c a.block o).isSome = true) (hk : K () H nx) : aw P lo (noView a) K H nx := by
  unfold noView viewAt
  simp only [aw_then]
  rcases hc with hc | hc
  · obtain ⟨x, hx⟩ := Option.isSome_iff_exists.1 hc
    refine aw_shapeT hx ?_
    simp only [Option.isSome_some, if_true, aw_pure, Option.isSome_none, Bool.false_eq_true, if_false]
    exact hk
  · refine aw_shapeA hc fun e n _ => ?_
    simp only [Option.isSome_some, if_true, aw_pure, Option.isSome_none, Bool.false_eq_true, if_false]
    exact hk
theorem aw_stringishT {a : Addr} {K : Bool → AH → Nat → Prop} (hc : (H.t a.block).isSome = true) (hk : K false H nx) : aw P lo (stringish a) K H nx := by
  obtain ⟨x, hx⟩ := Option.isSome_iff_exists.1 hc
  unfold stringish
  simp only [aw_then]
  refine aw_frozenT hc ?_
  simp only [Bool.false_eq_true, if_false, aw_then]
  refine aw_shapeT hx ?_
  exact aw_frozenT hc hk
theorem aw_stringishA {a : Addr} {o : Nat} {K : Bool → AH → Nat → Prop} (hc : (H.c a.block o).isSome = true) (hk : ∀ t, (t = true → H.t a.block = none) → K t H nx) : aw P lo (stringish a) K H nx := by
  cases ht : H.t a.block with
  | some x => exact aw_stringishT (by rw [ht]; rfl) (hk false (by simp))
  | none =>
    unfold stringish
    simp only [aw_then]
    refine aw_frozenA fun t => ?_
    cases t with
    | true => simp only [if_true, aw_pure]; exact hk true fun _ => ht
    | false =>
      simp only [Bool.false_eq_true, if_false, aw_then]
      refine aw_shapeA hc fun e n _ => ?_
      exact aw_frozenA fun t => hk t fun _ => ht
theorem aw_mayBeOne {a b : Addr} {o : Nat} {K : Bool → AH → Nat → Prop} (ha : (H.t a.block).isSome = true) (hb : (H.c b.block o).isSome = true) (hk : K false H nx) : aw P lo (mayBeOne a b) K H nx := by
  obtain ⟨x, hx⟩ := Option.isSome_iff_exists.1 ha
  unfold mayBeOne
  simp only [aw_then]
  refine aw_stringishT ha ?_
  refine aw_stringishA hb fun sb hsb => ?_
  refine aw_shapeT hx ?_
  simp only [aw_pure]
  refine aw_shapeA hb fun e n hn => ?_
  simp only [aw_pure, Bool.false_and, Bool.false_or]
  cases sb with
  | false => exact hk
  | true =>
    have h := hn (hsb rfl)
    obtain ⟨n', rfl⟩ : ∃ n', n = n' + 1 := ⟨n - 1, by omega⟩
    exact hk

theorem aw_overlaps {tS tR e : TypeId} {k : Nat} (ht : slT P tS = some (e, k)) {a b oa ob o la lb ca cb ea na : Nat} (ha : H.t a = some (ea, na)) (hb : (H.c b o).isSome = true) (hne : a ≠ b) (hk : K (.bool false) H nx) :
    aw P lo (Extern.SlicesOverlaps.overlaps #[tS, tS] #[tR] #[.slice (some ⟨a, oa, none⟩) la ca, .slice (some ⟨b, ob, none⟩) lb cb]) K H nx := by
  unfold slT at ht
  cases hu : P.underlying tS with
  | none => rw [hu] at ht; cases ht
  | some dd =>
  rw [hu] at ht
  cases dd <;> simp only [reduceCtorEq] at ht
  rename_i e'
  simp only [Option.map_eq_some_iff, Prod.mk.injEq] at ht
  obtain ⟨k', hk', rfl, rfl⟩ := ht
  change aw P lo (α := Value) (do
    let .slice elem ← underlying tS | stuck "slices.overlaps: slice type expected"
    let size ← sizeOf elem
    if la = 0 ∨ lb = 0 ∨ size = 0 then pure (Value.bool false)
    else if a != b && (← frozen ⟨a, oa, none⟩) && (← frozen ⟨b, ob, none⟩) then unsupported .addressObserved
    else do
      if a != b then do
        noView ⟨a, oa, none⟩; noView ⟨b, ob, none⟩
        if ← mayBeOne ⟨a, oa, none⟩ ⟨b, ob, none⟩ then return Value.bool ((← choose (.extern "sameAddr.stringBytes" 2)) == 1)
      pure (Value.bool (a == b && oa < ob + lb * size && ob < oa + la * size))) K H nx
  rw [aw_then]
  refine aw_of_peek (by rw [peek_underlying, hu]) _ ?_
  rw [aw_then]
  refine aw_of_peek (by rw [peek_sizeOf, hk']) _ ?_
  split
  · simp only [aw_pure]; exact hk
  · have hnb : (a != b) = true := by simpa using hne
    have hnb' : (a == b) = false := by simpa using hne
    have hta : (H.t a).isSome = true := by rw [ha]; rfl
    simp only [hnb, hnb', Bool.true_and, Bool.false_and, if_true, aw_then]
    refine aw_frozenT hta ?_
    simp only [Bool.false_and, Bool.false_eq_true, if_false, aw_then, aw_pure]
    refine aw_frozenA fun t => ?_
    refine aw_noView (o := 0) (.inl hta) ?_
    refine aw_noView (.inr hb) ?_
    refine aw_mayBeOne hta hb ?_
    simp only [Bool.false_eq_true, if_false, aw_pure]
    exact hk

theorem aw_copy {t tx ty e : TypeId} {size g off dn dc sn sc n : Nat} {sa : Option Addr} {news : List Value} (ht : slT P t = some (e, size)) (hn : Nat.min sn dn = n) (hsrc : peek P H (Builtin.firstCells size n (.slice sa sn sc)) = some news.toArray) (hone : ∀ v ∈ news, v.oneCell' = true) (hlo : lo ≤ g)
    (hsp : ∀ j, j < news.length → (H.c g (off + j)).isSome = true) (hk : ∀ u, K u (H.puts g off news) nx) : aw P lo (Builtin.copy_ #[t, tx] ty #[.slice (some ⟨g, off, none⟩) dn dc, .slice sa sn sc]) K H nx := by
  unfold slT at ht
  cases hu : P.underlying t with
  | none => rw [hu] at ht; cases ht
  | some dd =>
  rw [hu] at ht
  cases dd <;> simp only [reduceCtorEq] at ht
  rename_i e'
  simp only [Option.map_eq_some_iff, Prod.mk.injEq] at ht
  obtain ⟨k', hk', rfl, rfl⟩ := ht
  unfold Builtin.copy_
  simp only [List.getElem?_toArray, List.getElem?_cons_zero, List.getElem?_cons_succ]
  rw [aw_then]
  refine aw_of_peek (by rw [peek_underlying, hu]) _ ?_
  simp only
  rw [aw_then]
  refine aw_of_peek (a := sn) rfl _ ?_
  rw [aw_then]
  refine aw_of_peek (by rw [peek_sizeOf, hk']) _ ?_
  rw [aw_then, hn]
  refine aw_of_peek hsrc _ ?_
  simp only [aw_then]
  refine aw_storeCells hlo _ _ 0 _ (by simpa using hone) (fun j hj => ?_) ?_
  · simp only [Nat.add_zero]
    exact hsp j (by simpa using hj)
  · simp only [aw_pure, Nat.add_zero]
    exact hk _

theorem copyQ_two {ts : Array TypeId} {ty : TypeId} {s x : Value} (h : aw P lo (Builtin.copy_ ts ty #[s, x]) K H nx) : copyQ P lo ts ty [s, x] K H nx := h

/-- 'append' of so many zero values where there is no room. -/
theorem aw_append_zeros {t tx ty e : TypeId} {kk ki : IntKind} {size bytes : Nat} {z : Value} {n m c : Nat} {a : Option Addr} {xs : List Value} {own : Nat}
    (ht : slT P t = some (e, size)) (htx : P.underlying tx = some (.int ki)) (hz : zeroT P e = some z) (hzs : z.cells.size = size) (hby : bytesT P e = some bytes)
    (hs : SlA nx H size (.slice a n c) n xs own) (hroom : c < n + m) (hm : m ≤ 1000000) (hpos : 0 < m * size) (h63 : n + m ≤ maxLen) (hb : (n + m) * bytes ≤ 140737488355328)
    (hk : ∀ g cap', nx ≤ g → SlA (g + 1) (H.new g (xs.toArray ++ Builtin.zeroCells z.cells m ++ Builtin.zeroCells z.cells (cap' - (n + m))) e) size (.slice (some ⟨g, 0, none⟩) (n + m) cap') (n + m) (xs ++ (Builtin.zeroCells z.cells m).toList) (g + 1) → K (.slice (some ⟨g, 0, none⟩) (n + m) cap') (H.new g (xs.toArray ++ Builtin.zeroCells z.cells m ++ Builtin.zeroCells z.cells (cap' - (n + m))) e) (g + 1)) :
    aw P lo (Builtin.append_ #[t, tx] ty #[.slice a n c, .int kk m]) K H nx := by
  unfold slT at ht
  cases hu : P.underlying t with
  | none => rw [hu] at ht; cases ht
  | some dd =>
  rw [hu] at ht
  cases dd <;> simp only [reduceCtorEq] at ht
  rename_i e'
  simp only [Option.map_eq_some_iff, Prod.mk.injEq] at ht
  obtain ⟨k', hk', rfl, rfl⟩ := ht
  obtain ⟨i, hi, hib⟩ : ∃ i, P.info? e' = some i ∧ i.bytes = bytes := by
    unfold bytesT at hby
    cases h : P.info? e' with
    | none => rw [h] at hby; cases hby
    | some i => rw [h] at hby; exact ⟨i, rfl, by simpa using hby⟩
  have hty : peek P H (typeInfo e') = some i := by rw [peek_typeInfo, hi]
  have hzl : (Builtin.zeroCells z.cells m).toList.length = m * k' := by simp [size_zeroCells, hzs]
  have hlen : (xs ++ (Builtin.zeroCells z.cells m).toList).length = (n + m) * k' := by rw [List.length_append, hs.1, hzl, Nat.add_mul]
  have hwr : IntKind.i64.wrap (m : Int) = m := wrap_i64 (by omega) (by omega)
  have hmb : m * i.bytes ≤ (n + m) * i.bytes := Nat.mul_le_mul_right _ (by omega)
  unfold Builtin.append_
  simp only [List.getElem?_toArray, List.getElem?_cons_zero, List.getElem?_cons_succ]
  rw [aw_then]
  refine aw_of_peek (by rw [peek_underlying, hu]) _ ?_
  simp only
  rw [aw_then]
  refine aw_of_peek (by rw [peek_sizeOf, hk']) _ ?_
  rw [aw_then]
  refine aw_of_peek (by rw [peek_underlying, htx]) _ ?_
  rw [aw_then, aw_pure]
  simp only [if_true, Bool.not_true, Bool.false_eq_true, if_false, aw_then]
  refine aw_of_peek (a := (m : Int)) rfl _ ?_
  rw [hwr, if_neg (by omega)]
  rw [aw_then]
  refine aw_of_peek hty _ ?_
  have hmi : ¬ (m : Int) * (i.bytes : Int) > 2 ^ 48 := by
    rw [hib] at hmb ⊢
    have e : (2 : Int) ^ 48 = 281474976710656 := by decide
    rw [← Int.natCast_mul, e]
    omega
  rw [if_neg hmi]
  simp only [aw_then, aw_pure, Int.toNat_natCast]
  rw [if_neg (by omega)]
  have hfit := growslice_fits (bytes := i.bytes) (need := n + m) hroom (by rw [hib]; exact hb)
  have h64 : ¬ ((n + m : Nat) : Int) > IntKind.i64.max := by
    have h' := h63; simp only [maxLen] at h'
    have : IntKind.i64.max = 9223372036854775807 := rfl
    omega
  rw [aw_then]
  refine aw_of_peek hty _ ?_
  rw [if_neg (fun hh => h64 hh.1)]
  rw [aw_then]
  refine aw_of_peek hty _ ?_
  rw [if_neg (by omega)]
  have hch : ∀ t0, aw P lo (α := Value) (do
      askRoom (Question.cut (.appendCap (n + m) c e') t0 * (← typeInfo e').bytes)
      let old ← Builtin.firstCells k' n (.slice a n c)
      let new ← (if m * k' = 0 then pure #[] else do pure (Builtin.zeroCells (← zeroValue e').cells m))
      let rest := Builtin.zeroCells (← zeroValue e').cells (Question.cut (.appendCap (n + m) c e') t0 - (n + m))
      pure (.slice (some (← newRow e' (old ++ new ++ rest))) (n + m) (Question.cut (.appendCap (n + m) c e') t0))) K H nx := fun t0 => by
    have hge : n + m ≤ Question.cut (.appendCap (n + m) c e') t0 := by simp [Question.cut]
    have hcm : Question.cut (.appendCap (n + m) c e') t0 ≤ maxLen := by
      have hlt := Nat.mod_lt t0 (show 0 < 2 ^ 63 - (n + m) by simp only [maxLen] at h63; omega)
      simp only [Question.cut, maxLen] at h63 ⊢
      omega
    generalize Question.cut (.appendCap (n + m) c e') t0 = cap' at hge hcm ⊢
    simp only [aw_then]
    refine aw_of_peek hty _ ?_
    refine aw_of_peek (a := ()) (by unfold askRoom; split <;> rfl) _ ?_
    refine aw_of_peek hs.first _ ?_
    rw [if_neg (by omega)]
    simp only [aw_then]
    refine aw_of_peek (by rw [peek_zeroValue, hz]) _ ?_
    simp only [aw_pure]
    refine aw_of_peek (by rw [peek_zeroValue, hz]) _ ?_
    refine aw_newRow (K := fun b H nx => K (.slice (some b) (n + m) cap') H nx) fun g hg => ?_
    refine hk g cap' hg (SlA.ofNew hlen hge hcm ?_ ?_)
    · simp only [Array.size_append, List.size_toArray, size_zeroCells, hzs, hs.1]
      rw [← Nat.add_mul, ← Nat.add_mul]
      exact Nat.mul_le_mul_right _ (by omega)
    · intro j hj
      have hz2 : xs.toArray ++ Builtin.zeroCells z.cells m = (xs ++ (Builtin.zeroCells z.cells m).toList).toArray := by
        apply Array.ext'; simp
      rw [hz2, Array.getElem?_append_left (by simp only [List.size_toArray, hlen]; exact hj)]
      simp
  simp only [choose, aw, aw_then] at hch ⊢
  exact ⟨fun hf => by simp [Question.forced] at hf, fun _ t0 => hch t0⟩

def capQ (P : Program) (lo : Nat) (ts : Array TypeId) (ty : TypeId) (l : List Value) (K : Value → AH → Nat → Prop) (H : AH) (nx : Nat) : Prop := aw P lo (Builtin.cap_ ts ty l.toArray) K H nx
theorem builtQ_cap (ts : Array TypeId) (ty : TypeId) (cs : Array Bool) (l : List Value) : builtQ P lo .cap ts ty cs l K H nx = capQ P lo ts ty l K H nx := by
  unfold builtQ builtin capQ
  simp only [aw_then, aw_pure]
  rfl
theorem bop_cap {dst : Option Tmp} {type : TypeId} {pos : String} {after : Array Edge} {guard : Option (Nat × Bool)} {env : Env} (args : Array Operand) (ts : Array TypeId) : bop P lo { dst, op := .call { callee := .builtin .cap, args, argTypes := ts }, type, pos, after, guard } env H nx K =
    onA (evs env args.toList) (fun l => builtQ P lo .cap ts type (args.map fun | .const _ => true | _ => false) l K H nx) := ex_onA
theorem capQ_sl {t e ty : TypeId} {k n c : Nat} {a : Option Addr} (ht : slT P t = some (e, k)) (hk : K (.int .i64 c) H nx) : capQ P lo #[t] ty [.slice a n c] K H nx := by
  unfold slT at ht
  cases hu : P.underlying t with
  | none => rw [hu] at ht; cases ht
  | some dd =>
  rw [hu] at ht
  cases dd <;> simp only [reduceCtorEq] at ht
  unfold capQ Builtin.cap_
  simp only [List.getElem?_toArray, List.getElem?_cons_zero]
  rw [aw_then]
  refine aw_of_peek (by rw [peek_underlying, hu]) _ ?_
  exact hk

/-- One place more of its room. -/
theorem SlA.grow1 {size g off n c : Nat} {xs : List Value} {own : Nat} (hs : SlA nx H size (.slice (some ⟨g, off, none⟩) n c) n xs own) (hr : n + 1 ≤ c) : ∃ ys : List Value, ys.length = size ∧ SlA nx H size (.slice (some ⟨g, off, none⟩) (n + 1) c) (n + 1) (xs ++ ys) own := by
  obtain ⟨hc, ho, hn, hm, hsp⟩ := hs.cells
  have hmul : (n + 1) * size ≤ c * size := Nat.mul_le_mul_right _ hr
  rw [Nat.add_mul, Nat.one_mul] at hmul
  refine ⟨(List.range size).map fun j => (H.c g (off + (n * size + j))).getD undef, by simp, by simp [hs.1, Nat.add_mul], hs.le, .inr ⟨g, off, c, rfl, ho, hr, hm, fun j hj => ?_, hsp⟩⟩
  rw [Nat.add_mul, Nat.one_mul] at hj
  by_cases hjn : j < n * size
  · have hx : j < xs.length := by rw [hs.1]; exact hjn
    rw [List.getElem?_append_left hx, List.getElem?_eq_getElem hx]
    exact hc j _ (List.getElem?_eq_getElem hx)
  · rw [List.getElem?_append_right (by rw [hs.1]; omega), hs.1]
    obtain ⟨v, hv⟩ := Option.isSome_iff_exists.1 (hsp j (by omega))
    rw [List.getElem?_map, List.getElem?_range (by omega), Option.map_some, show n * size + (j - n * size) = j by omega, hv]
    rfl

section
variable {ops : Array Oper} {H0 : AH} {nx0 i : Nat} {rest : List Nat} {env : Env} {dst : Option Tmp} {type : TypeId} {pos : String} {after : Array Edge} {g : Option (Nat × Bool)} {K2 : Env → AH → Nat → Prop}
theorem dGo_copy (args : Array Operand) (ts : Array TypeId) : dGo P lo ops H0 nx0 i rest { dst, op := .call { callee := .builtin .copy, args, argTypes := ts }, type, pos, after, guard := g } env H nx K2 = bop P lo { dst, op := .call { callee := .builtin .copy, args, argTypes := ts }, type, pos, after, guard := g } env H nx (drawE P lo ops H0 nx0 i rest env dst K2) := (rfl)
end
end
attribute [go_sem] bop_cap builtQ_cap dGo_copy
end Go.Proofs.YtngnbafididkcaaGreat
