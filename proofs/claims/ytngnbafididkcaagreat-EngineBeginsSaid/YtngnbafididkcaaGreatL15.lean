/- OUR OWN LOGIC OVER THE KIT'S. 15: structs compared, structs built, bits. Nothing of the program stands here. -/
import Derived.Test.YtngnbafididkcaaGreatL14
namespace Go.Proofs.YtngnbafididkcaaGreat
open Go.RowKit

/-! ### Structs compared -/
def flatFs (P : Program) (g : TypeId → Option (List (Option IntKind))) : List Field → Nat → Option (List (Option IntKind))
  | [], _ => some []
  | f :: r, o => match g f.type, isAggT P f.type, szT P f.type with
    | some ks, some a, some n => if (f.name != "_" && f.offset == o && n == ks.length && (a || n == 1)) = true then (flatFs P g r (o + n)).map (ks ++ ·) else none
    | _, _, _ => none
/-- The leaves of a type that is compared part by part: numbers and truth values alone. -/
def flatT (P : Program) : Nat → TypeId → Option (List (Option IntKind))
  | 0, _ => none
  | d + 1, t => match P.underlying t with
    | some .bool => some [none]
    | some (.int k) => some [some k]
    | some (.struct fs) => if P.stoodInHeld t = true then none else flatFs P (flatT P d) fs.toList 0
    | _ => none

def fitL : List (Option IntKind) → List Value → Prop
  | [], vs => vs = []
  | some k :: r, vs => ∃ n w, vs = .int k n :: w ∧ fitL r w
  | none :: r, vs => ∃ b w, vs = .bool b :: w ∧ fitL r w
theorem fitN : fitL [] [] := rfl
theorem fitI {k : IntKind} {n : Int} {r : List (Option IntKind)} {w : List Value} (h : fitL r w) : fitL (some k :: r) (.int k n :: w) := ⟨n, w, rfl, h⟩
theorem fitB {b : Bool} {r : List (Option IntKind)} {w : List Value} (h : fitL r w) : fitL (none :: r) (.bool b :: w) := ⟨b, w, rfl, h⟩
def vOf (a : Bool) (xs : List Value) : Value := if a = true then .agg xs.toArray else xs.headD undef

def eqLeaf : Value → Value → Bool
  | .int _ a, .int _ b => a == b
  | .bool a, .bool b => a == b
  | _, _ => false
def eqLs : List Value → List Value → Bool
  | [], [] => true
  | x :: r, y :: s => eqLeaf x y && eqLs r s
  | _, _ => false

theorem fitL_length : ∀ (ks : List (Option IntKind)) (vs : List Value), fitL ks vs → vs.length = ks.length
  | [], _, h => by rw [h]; rfl
  | some k :: r, _, ⟨n, w, h, hw⟩ => by rw [h]; simp [fitL_length r w hw]
  | none :: r, _, ⟨n, w, h, hw⟩ => by rw [h]; simp [fitL_length r w hw]
theorem fitL_app : ∀ (ks rs : List (Option IntKind)) (vs : List Value), fitL (ks ++ rs) vs → fitL ks (vs.take ks.length) ∧ fitL rs (vs.drop ks.length)
  | [], _, _, h => ⟨by simp [fitL], by simpa using h⟩
  | some k :: r, rs, _, ⟨n, w, h, hw⟩ => by
    obtain ⟨h1, h2⟩ := fitL_app r rs w hw
    rw [h]
    exact ⟨⟨n, _, by simp, h1⟩, by simpa using h2⟩
  | none :: r, rs, _, ⟨n, w, h, hw⟩ => by
    obtain ⟨h1, h2⟩ := fitL_app r rs w hw
    rw [h]
    exact ⟨⟨n, _, by simp, h1⟩, by simpa using h2⟩

section
variable {P : Program} {lo : Nat} {H : AH} {nx : Nat}

theorem peek_forIn_all {α σ : Type} {g : α → σ → Sem (ForInStep σ)} {s t : σ} {good : α → Bool} : ∀ (l : List α), (∀ x ∈ l, peek P H (g x s) = some (if good x = true then .yield s else .done t)) → peek P H (forIn l s g) = some (if l.all good = true then s else t)
  | [], _ => by simp [peek_pure]
  | x :: r, h => by
    rw [List.forIn_cons, peek_then, h x (by simp)]
    simp only [Option.bind_some]
    cases hx : good x with
    | true =>
      simp only [if_true]
      rw [peek_forIn_all r fun y hy => h y (by simp [hy])]
      simp [hx]
    | false => simp [hx, peek_pure]

theorem eqLs_split : ∀ (n : Nat) (xs ys : List Value), xs.length = ys.length → eqLs xs ys = (eqLs (xs.take n) (ys.take n) && eqLs (xs.drop n) (ys.drop n))
  | 0, xs, ys, _ => by simp [eqLs]
  | n + 1, [], ys, h => by
    have : ys = [] := List.eq_nil_of_length_eq_zero (by simpa using h.symm)
    subst this; simp [eqLs]
  | n + 1, x :: r, [], h => by simp at h
  | n + 1, x :: r, y :: s, h => by
    simp only [eqLs, List.take_succ_cons, List.drop_succ_cons]
    rw [eqLs_split n r s (by simpa using h), Bool.and_assoc]

def goodF (P : Program) (xs ys : List Value) (f : Field) : Bool := eqLs ((xs.drop f.offset).take ((szT P f.type).getD 0)) ((ys.drop f.offset).take ((szT P f.type).getD 0))
theorem flatFs_mem {g : TypeId → Option (List (Option IntKind))} : ∀ (fs : List Field) (o : Nat) (ks : List (Option IntKind)) (xs ys : List Value), flatFs P g fs o = some ks → fitL ks (xs.drop o) → fitL ks (ys.drop o) → xs.length = ys.length → o ≤ xs.length →
    (∀ f ∈ fs, ∃ sk a n, g f.type = some sk ∧ isAggT P f.type = some a ∧ szT P f.type = some n ∧ (a = true ∨ n = 1) ∧ f.name ≠ "_" ∧ f.offset + n ≤ xs.length ∧
      fitL sk ((xs.drop f.offset).take n) ∧ fitL sk ((ys.drop f.offset).take n)) ∧ fs.all (goodF P xs ys) = eqLs (xs.drop o) (ys.drop o)
  | [], o, ks, xs, ys, h, hx, hy, hl, ho => by
    simp only [flatFs, Option.some.injEq] at h
    subst h
    simp only [fitL] at hx hy
    exact ⟨by simp, by rw [hx, hy]; rfl⟩
  | f :: r, o, ks, xs, ys, h, hx, hy, hl, ho => by
    simp only [flatFs] at h
    split at h
    · rename_i sk a n h1 h2 h3
      split at h
      · rename_i hc
        simp only [Bool.and_eq_true, bne_iff_ne, beq_iff_eq, Bool.or_eq_true] at hc
        obtain ⟨⟨⟨c1, rfl⟩, rfl⟩, c4⟩ := hc
        simp only [Option.map_eq_some_iff] at h
        obtain ⟨rs, hr, rfl⟩ := h
        obtain ⟨x1, x2⟩ := fitL_app _ _ _ hx
        obtain ⟨y1, y2⟩ := fitL_app _ _ _ hy
        rw [List.drop_drop] at x2 y2
        have hlen := fitL_length _ _ hx
        simp only [List.length_drop, List.length_append] at hlen
        obtain ⟨g1, g2⟩ := flatFs_mem r _ rs xs ys hr x2 y2 hl (by omega)
        refine ⟨fun f' hf' => ?_, ?_⟩
        · rcases List.mem_cons.1 hf' with rfl | hf'
          · exact ⟨sk, a, _, h1, h2, h3, c4, c1, by omega, x1, y1⟩
          · exact g1 f' hf'
        · rw [eqLs_split sk.length (xs.drop f.offset) (ys.drop f.offset) (by simp [hl]), List.drop_drop, List.drop_drop, ← g2]
          simp only [List.all_cons, goodF, h3, Option.getD_some]
      · cases h
    · cases h

theorem peek_part_list {t : TypeId} {xs : List Value} {k n : Nat} {a : Bool} (ha : isAggT P t = some a) (hn : szT P t = some n) (h1 : a = true ∨ n = 1) (hk : k + n ≤ xs.length) : peek P H (part t xs.toArray k) = some (vOf a ((xs.drop k).take n)) := by
  rw [peek_part, ha, hn]
  cases a with
  | true =>
    simp only [Option.map_some, vOf, if_true, Option.some.injEq, Value.agg.injEq]
    apply Array.ext'
    simp
  | false =>
    have : n = 1 := by simpa using h1
    subst this
    have hlt : k < xs.length := by omega
    obtain ⟨y, r, hy⟩ : ∃ y r, xs.drop k = y :: r := ⟨_, _, List.drop_eq_getElem_cons hlt⟩
    have hg : xs[k]? = some y := by rw [← List.head?_drop, hy]; rfl
    rw [hy]
    simp [vOf, hg]

theorem flat_eq : ∀ (d : Nat) (t : TypeId) (ks : List (Option IntKind)) (a : Bool), flatT P d t = some ks → isAggT P t = some a → ∀ (n : Nat) (xs ys : List Value), d ≤ n → fitL ks xs → fitL ks ys → peek P H (Op.equalIn n t (vOf a xs) (vOf a ys)) = some (eqLs xs ys)
  | 0, _, _, _, h, _, _, _, _, _, _, _ => by simp [flatT] at h
  | d + 1, t, ks, a, h, ha, n, xs, ys, hn, hx, hy => by
    obtain ⟨n, rfl⟩ : ∃ m, n = m + 1 := ⟨n - 1, by omega⟩
    unfold flatT at h
    unfold isAggT at ha
    rw [Op.equalIn, peek_then, peek_underlying]
    cases hu : P.underlying t with
    | none => rw [hu] at h; cases h
    | some u =>
      rw [hu] at h ha
      simp only [Option.bind_some]
      cases u <;> simp only [reduceCtorEq, Option.map_some, Option.some.injEq] at h ha
      · subst h; subst ha
        obtain ⟨x, w, rfl, hw⟩ := hx
        obtain ⟨y, w', rfl, hw'⟩ := hy
        simp only [fitL] at hw hw'
        subst hw; subst hw'
        simp [vOf, eqLs, eqLeaf, peek_pure]
      · subst h; subst ha
        obtain ⟨x, w, rfl, hw⟩ := hx
        obtain ⟨y, w', rfl, hw'⟩ := hy
        simp only [fitL] at hw hw'
        subst hw; subst hw'
        simp [vOf, eqLs, eqLeaf, peek_pure]
      · rename_i fs
        subst ha
        split at h
        · cases h
        rename_i hst
        simp only [vOf, if_true]
        rw [peek_then]
        show (some P).bind _ = _
        simp only [Option.bind_some, if_neg hst]
        have hl : xs.length = ys.length := by rw [fitL_length _ _ hx, fitL_length _ _ hy]
        obtain ⟨g1, g2⟩ := flatFs_mem fs.toList 0 ks xs ys h (by simpa using hx) (by simpa using hy) hl (Nat.zero_le _)
        rw [peek_then, ← Array.forIn_toList, peek_forIn_all (t := (some false, ())) (good := goodF P xs ys) fs.toList (fun f hf => ?_)]
        · simp only [Option.bind_some, g2, List.drop_zero]
          cases eqLs xs ys <;> rfl
        · obtain ⟨sk, a, m, q1, q2, q3, q4, q5, q6, q7, q8⟩ := g1 f hf
          simp only [q5, ne_eq, not_false_eq_true, if_true]
          rw [peek_then, peek_part_list q2 q3 q4 q6]
          simp only [Option.bind_some]
          rw [peek_then, peek_part_list q2 q3 q4 (by omega)]
          simp only [Option.bind_some]
          rw [peek_then, flat_eq d f.type sk a q1 q2 n _ _ (by omega) q7 q8]
          simp only [Option.bind_some, goodF, q3, Option.getD_some]
          cases eqLs ((xs.drop f.offset).take m) ((ys.drop f.offset).take m) <;> rfl

theorem bin_agg {t : TypeId} {x y : Operand} {xs ys : List Value} {ks : List (Option IntKind)} (h : (flatT P 8 t == some ks && isAggT P t == some true && !P.eqGuardType P.depth t) = true) (hx : fitL ks xs) (hy : fitL ks ys) :
    binV P H .eql t x y (.agg xs.toArray) (.agg ys.toArray) = some (.bool (eqLs xs ys)) ∧ binV P H .neq t x y (.agg xs.toArray) (.agg ys.toArray) = some (.bool (!eqLs xs ys)) := by
  simp only [Bool.and_eq_true, beq_iff_eq, Bool.not_eq_true'] at h
  obtain ⟨⟨h1, h2⟩, h3⟩ := h
  have e : peek P H (Op.equal t (.agg xs.toArray) (.agg ys.toArray)) = some (eqLs xs ys) := flat_eq 8 t ks true h1 h2 10000 xs ys (by omega) hx hy
  have eg : ∀ op : BinOp, peek P H (eqGuard op t x y (.agg xs.toArray) (.agg ys.toArray)) = some () := fun op => by
    unfold eqGuard
    cases op <;> first | rfl | skip
    all_goals
      simp only [Bool.not_true, Bool.false_eq_true, if_false]
      rw [peek_then]
      show (some P).bind _ = _
      simp only [Option.bind_some]
      rw [peek_then]
      show (some P).bind _ = _
      simp only [Option.bind_some, h3]
      rfl
  constructor
  · unfold binV valOf
    rw [peek_then, eg]
    show peek P H (do let r ← Op.equal t (.agg xs.toArray) (.agg ys.toArray); pure (Value.bool r)) = _
    rw [peek_then, e]; rfl
  · unfold binV valOf
    rw [peek_then, eg]
    show peek P H (do let r ← Op.equal t (.agg xs.toArray) (.agg ys.toArray); pure (Value.bool !r)) = _
    rw [peek_then, e]; rfl

/-! ### Bits -/
def andI (k : IntKind) (a b : Int) : Int := k.wrap ((BitVec.ofInt k.bits a &&& BitVec.ofInt k.bits b).toNat)
def orI (k : IntKind) (a b : Int) : Int := k.wrap ((BitVec.ofInt k.bits a ||| BitVec.ofInt k.bits b).toNat)
def xorI (k : IntKind) (a b : Int) : Int := k.wrap ((BitVec.ofInt k.bits a ^^^ BitVec.ofInt k.bits b).toNat)
def andNotI (k : IntKind) (a b : Int) : Int := k.wrap ((BitVec.ofInt k.bits a &&& ~~~(BitVec.ofInt k.bits b)).toNat)
/-- A struct literal, by its parts' places. -/
theorem build_by {t : TypeId} {z : Value} {pl : Nat → Option (Nat × Nat)} {ps : Array (Nat × Value)} {r : Array Value} (hk : placesT P t = some pl) (hz : zeroT P t = some z) (hf : Instr.fill pl z.cells ps.toList = some r) : buildV P H t ps = some (.agg r) := by
  rw [build_eq hk hz, hf]; rfl

theorem binV_and {t : TypeId} {x y : Operand} {k : IntKind} {a b : Int} : binV P H .and t x y (.int k a) (.int k b) = some (.int k (andI k a b)) := by
  rw [bin_int']; simp only [binOp, ne_eq, not_true_eq_false, if_false]; rfl
theorem binV_or {t : TypeId} {x y : Operand} {k : IntKind} {a b : Int} : binV P H .or t x y (.int k a) (.int k b) = some (.int k (orI k a b)) := by
  rw [bin_int']; simp only [binOp, ne_eq, not_true_eq_false, if_false]; rfl
theorem binV_xor {t : TypeId} {x y : Operand} {k : IntKind} {a b : Int} : binV P H .xor t x y (.int k a) (.int k b) = some (.int k (xorI k a b)) := by
  rw [bin_int']; simp only [binOp, ne_eq, not_true_eq_false, if_false]; rfl
theorem binV_andNot {t : TypeId} {x y : Operand} {k : IntKind} {a b : Int} : binV P H .andNot t x y (.int k a) (.int k b) = some (.int k (andNotI k a b)) := by
  rw [bin_int']; simp only [binOp, ne_eq, not_true_eq_false, if_false]; rfl
theorem binV_shrK {t : TypeId} {x y : Operand} {k k' : IntKind} {a b : Int} (h0 : 0 ≤ b) : binV P H .shr t x y (.int k a) (.int k' b) = some (.int k (a / 2 ^ min b.toNat k.bits)) := by
  rw [bin_int']
  simp only [binOp, Op.shift]
  rw [if_neg (by omega), peek_pure, Int.fdiv_eq_ediv_of_nonneg _ (Int.le_of_lt (Int.pow_pos (by decide)))]
theorem binV_shlK {t : TypeId} {x y : Operand} {k k' : IntKind} {a b : Int} (h0 : 0 ≤ b) : binV P H .shl t x y (.int k a) (.int k' b) = some (.int k (k.wrap (a * 2 ^ min b.toNat k.bits))) := by
  rw [bin_int']
  simp only [binOp, Op.shift]
  rw [if_neg (by omega)]
  rfl
theorem binV_shr32 {t : TypeId} {x y : Operand} {k' : IntKind} {a b : Int} (h0 : 0 ≤ b) (h1 : b ≤ 32) : binV P H .shr t x y (.int .u32 a) (.int k' b) = some (.int .u32 (a / 2 ^ b.toNat)) := by
  rw [binV_shrK h0, show min b.toNat IntKind.u32.bits = b.toNat from Nat.min_eq_left (by show b.toNat ≤ 32; omega)]
theorem binV_shl32 {t : TypeId} {x y : Operand} {k' : IntKind} {a b : Int} (h0 : 0 ≤ b) (h1 : b ≤ 32) : binV P H .shl t x y (.int .u32 a) (.int k' b) = some (.int .u32 (IntKind.u32.wrap (a * 2 ^ b.toNat))) := by
  rw [binV_shlK h0, show min b.toNat IntKind.u32.bits = b.toNat from Nat.min_eq_left (by show b.toNat ≤ 32; omega)]
theorem binV_shrU64 {t : TypeId} {x y : Operand} {k' : IntKind} {a b : Int} (h0 : 0 ≤ b) (h1 : b ≤ 64) : binV P H .shr t x y (.int .u64 a) (.int k' b) = some (.int .u64 (a / 2 ^ b.toNat)) := by
  rw [binV_shrK h0, show min b.toNat IntKind.u64.bits = b.toNat from Nat.min_eq_left (by show b.toNat ≤ 64; omega)]
theorem binV_shlU64 {t : TypeId} {x y : Operand} {k' : IntKind} {a b : Int} (h0 : 0 ≤ b) (h1 : b ≤ 64) : binV P H .shl t x y (.int .u64 a) (.int k' b) = some (.int .u64 (IntKind.u64.wrap (a * 2 ^ b.toNat))) := by
  rw [binV_shlK h0, show min b.toNat IntKind.u64.bits = b.toNat from Nat.min_eq_left (by show b.toNat ≤ 64; omega)]
end

/-- The memory under a name. -/
theorem awp_name {P : Program} {lo : Nat} {L : Nat → List Nat} {c : Code} {Q : Exit → Env → AH → Nat → Prop} {env : Env} {H : AH} {nx : Nat} (h : ∀ Hs, Hs = H → awp P lo L c Q env Hs nx) : awp P lo L c Q env H nx := h H rfl

/-- What comes behind is shown once, from what is known there. -/
theorem awp_cutE {P : Program} {lo : Nat} {L : Nat → List Nat} {a b : Code} {Q : Exit → Env → AH → Nat → Prop} {env : Env} {H : AH} {nx : Nat} (R : Env → AH → Nat → Prop) (ha : ∀ K : Env → AH → Nat → Prop, (∀ env' H' nx', R env' H' nx' → K env' H' nx') → awp P lo L a (thenQ K Q) env H nx)
    (hb : ∀ env' H' nx', R env' H' nx' → awp P lo L b Q env' H' nx') : awp P lo L (.seq a b) Q env H nx := ha _ hb

/-- A loop in a block; what comes behind is shown once, from what is known there. -/
theorem awp_loopX {P : Program} {lo : Nat} {L : Nat → List Nat} {body : Code} {id : Nat} {K0 : Env → AH → Nat → Prop} {Q : Exit → Env → AH → Nat → Prop} {env : Env} {H : AH} {nx : Nat} (I : Nat → Env → AH → Nat → Prop) (m : Nat) (h0 : I m env H nx) (R : Env → AH → Nat → Prop)
    (hb : ∀ K : Env → AH → Nat → Prop, (∀ env H nx, R env H nx → K env H nx) → ∀ m env' H' nx', I m env' H' nx' → nx ≤ nx' → awp P lo L body (thenQ (fun env'' H'' nx'' => ∃ m', m' < m ∧ I m' env'' H'' nx'') (blockQ id (thenQ K Q))) env' H' nx')
    (hr : ∀ env H nx, R env H nx → K0 env H nx) : awp P lo L (.loop body) (blockQ id (thenQ K0 Q)) env H nx :=
  awp_loop I m h0 (fun m env' H' nx' hI hn => hb K0 hr m env' H' nx' hI hn)

theorem slice_hm {P : Program} {H : AH} {t e : TypeId} {k n c : Nat} {a : Option Addr} {kh km : IntKind} {h m : Int} (ht : slT P t = some (e, k)) (h1 : 0 ≤ h) (h2 : h ≤ m) (h3 : m ≤ c) :
    sliceV P H t (.slice a n c) none (some (.int kh h)) (some (.int km m)) = some (cutS a k m.toNat 0 h.toNat) := by
  refine slice_any ht ?_
  unfold Instr.sliceBounds
  simp only [peek_then, if_true, peek_sliceBound (show (0 : Int) ≤ m by omega) h3, Option.bind_some, peek_sliceBound h1 (show h ≤ (m.toNat : Int) by omega), peek_pure]

/-- Rows of equal length, laid one behind the other. -/
theorem flat_get {α : Type} {f : α → List Value} {n : Nat} (hf : ∀ x, (f x).length = n) : ∀ (l : List α) (i : Nat) (c : α), l[i]? = some c → ∀ j, j < n → (l.flatMap f)[n * i + j]? = (f c)[j]?
  | [], i, c, h, _, _ => by simp at h
  | x :: r, 0, c, h, j, hj => by
    simp only [List.getElem?_cons_zero, Option.some.injEq] at h
    subst h
    rw [List.flatMap_cons, Nat.mul_zero, Nat.zero_add, List.getElem?_append_left (by rw [hf]; exact hj)]
  | x :: r, i + 1, c, h, j, hj => by
    have e : n * (i + 1) + j = n + (n * i + j) := by rw [Nat.mul_add, Nat.mul_one]; omega
    rw [List.flatMap_cons, List.getElem?_append_right (by rw [hf, e]; omega), hf, show n * (i + 1) + j - n = n * i + j by omega]
    exact flat_get hf r i c (by simpa using h) j hj
theorem flat_load {α : Type} {f : α → List Value} {k : Nat} (hf : ∀ x, (f x).length = k) {nx : Nat} {H : AH} {g off c n own : Nat} {l : List α} (hs : SlA nx H k (.slice (some ⟨g, off, none⟩) n c) n (l.flatMap f) own) {i : Nat} {x : α} (hi : l[i]? = some x) : loadN H g (off + i * k) k = some (f x) := by
  have h := loadN_list (H := H) g (f x) (off + i * k) (fun j hj => by
    rw [hf] at hj
    have := hs.cells.1 (k * i + j)
    rw [flat_get hf l i x hi j hj] at this
    rw [Nat.mul_comm, Nat.add_assoc]
    rw [List.getElem?_eq_getElem (by rw [hf]; exact hj)] at this ⊢
    exact this _ rfl)
  rwa [hf] at h

theorem wrap_u32_range (n : Int) : 0 ≤ IntKind.u32.wrap n ∧ IntKind.u32.wrap n ≤ 4294967295 := by
  simp only [IntKind.wrap, IntKind.bits, IntKind.signed]
  simp; omega
theorem wrap_u16_range (n : Int) : 0 ≤ IntKind.u16.wrap n ∧ IntKind.u16.wrap n ≤ 65535 := by
  simp only [IntKind.wrap, IntKind.bits, IntKind.signed]
  simp; omega
theorem wrap_u32_eq (n : Int) : IntKind.u32.wrap n = n % 4294967296 := by simp [IntKind.wrap, IntKind.bits, IntKind.signed]
theorem wrap_u16_eq (n : Int) : IntKind.u16.wrap n = n % 65536 := by simp [IntKind.wrap, IntKind.bits, IntKind.signed]
theorem wrap_u64_eq (n : Int) : IntKind.u64.wrap n = n % 18446744073709551616 := by simp [IntKind.wrap, IntKind.bits, IntKind.signed]

/-! ### Operations that are passed over in a region that draws -/
theorem keeps_same (nx : Nat) (H : AH) : Keeps nx H H = True := eq_true ⟨fun _ _ _ _ h => h, fun _ _ _ h => h, fun _ _ _ h => h⟩
theorem dkeep_same_eq (ops : Array Oper) (i nx : Nat) (H : AH) : dkeep ops i nx H H = True := eq_true dkeep_same
theorem pu_move (x : Operand) : pureOp (.move x) = true := (rfl)
theorem pu_assign (x : Operand) : pureOp (.assign x) = true := (rfl)
theorem pu_pick (a b c : Operand) : pureOp (.pick a b c) = true := (rfl)
theorem pu_nilCheck (a : Operand) : pureOp (.nilCheck a) = true := (rfl)
theorem pu_binOp (o : BinOp) (t : TypeId) (a b : Operand) (u : TypeId) : pureOp (.binOp o t a b u) = true := (rfl)
theorem pu_unOp (o : UnOp) (t : TypeId) (a : Operand) : pureOp (.unOp o t a) = true := (rfl)
theorem re_convert (s d : TypeId) (a : Operand) : readOp (.convert s d a) = true := (rfl)
theorem pu_fieldAddr (s : TypeId) (a : Operand) (i : Nat) : pureOp (.fieldAddr s a i) = true := (rfl)
theorem pu_field (s : TypeId) (a : Operand) (i : Nat) : pureOp (.field s a i) = true := (rfl)
theorem pu_indexAddr (s : TypeId) (a b : Operand) : pureOp (.indexAddr s a b) = true := (rfl)
theorem pu_index (s : TypeId) (a b : Operand) : pureOp (.index s a b) = true := (rfl)
theorem pu_build (s : TypeId) (ps : Array (Nat × Operand)) : pureOp (.build s ps) = true := (rfl)
theorem re_load (s : TypeId) (a : Operand) : readOp (.load s a) = true := (rfl)

theorem eqLs_nil : eqLs [] [] = true := (rfl)
theorem eqLs_int (k k' : IntKind) (a b : Int) (r s : List Value) : eqLs (.int k a :: r) (.int k' b :: s) = (decide (a = b) && eqLs r s) := (rfl)
theorem eqLs_bool (a b : Bool) (r s : List Value) : eqLs (.bool a :: r) (.bool b :: s) = (a == b && eqLs r s) := (rfl)

attribute [go_sem] keeps_same dkeep_same_eq pu_move pu_assign pu_pick pu_nilCheck pu_binOp pu_unOp re_convert pu_fieldAddr pu_field pu_indexAddr pu_index pu_build re_load true_or or_true Bool.and_true Bool.true_and Bool.and_false Bool.false_and beq_self_eq_true eqLs_nil eqLs_int eqLs_bool binV_and binV_or binV_xor binV_andNot binV_shr32 binV_shl32 binV_shrU64 binV_shlU64
theorem cells_map (m : Option Nat) : (Value.map m).cells = #[.map m] := (rfl)
theorem one_map (m : Option Nat) : (Value.map m).oneCell' = true := (rfl)
attribute [go_sem] cells_map one_map
end Go.Proofs.YtngnbafididkcaaGreat
