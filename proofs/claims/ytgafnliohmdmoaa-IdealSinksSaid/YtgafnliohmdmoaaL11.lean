/- OUR OWN LOGIC OVER THE KIT'S. 11: the equations that a seat's printed facts are instances of. Nothing of the program stands here. -/
import Derived.Test.YtgafnliohmdmoaaL10
namespace Go.Proofs.Ytgafnliohmdmoaa
open Go.RowKit

/-- What is needed, where 'omega' shows it. -/
def need (p : Prop) : Prop := p
theorem need_and {p q : Prop} (h : p) : (need p ∧ q) = q := by simp [need, h]
theorem need_intro {p q : Prop} (h : p) (hq : q) : need p ∧ q := ⟨h, hq⟩

def stQ (lo b o : Nat) (v : Value) (K : AH → Nat → Prop) (H : AH) (nx : Nat) : Prop := need (lo ≤ b) ∧ v.oneCell' = true ∧ (H.c b o).isSome = true ∧ K (H.put b o v) nx
def okCells (H : AH) (b : Nat) : Nat → List Value → Prop
  | _, [] => True
  | o, v :: r => v.oneCell' = true ∧ (H.c b o).isSome = true ∧ okCells H b (o + 1) r
def stsQ (lo b o : Nat) (vs : List Value) (K : AH → Nat → Prop) (H : AH) (nx : Nat) : Prop := need (lo ≤ b) ∧ okCells H b o vs ∧ K (H.puts b o vs) nx
def newQ (t : TypeId) (cs : Array Value) (K : Value → AH → Nat → Prop) (H : AH) (nx : Nat) : Prop := ∀ n, nx ≤ n → K (.pointer (some ⟨n, 0, none⟩)) (H.new n cs t) (n + 1)
theorem newQ_intro {t : TypeId} {cs : Array Value} {K : Value → AH → Nat → Prop} {H : AH} {nx : Nat} (h : ∀ n, nx ≤ n → K (.pointer (some ⟨n, 0, none⟩)) (H.new n cs t) (n + 1)) : newQ t cs K H nx := h

theorem stQ_eq (lo b o : Nat) (v : Value) (K : AH → Nat → Prop) (H : AH) (nx : Nat) : stQ lo b o v K H nx = (need (lo ≤ b) ∧ v.oneCell' = true ∧ (H.c b o).isSome = true ∧ K (H.put b o v) nx) := (rfl)
theorem stsQ_eq (lo b o : Nat) (vs : List Value) (K : AH → Nat → Prop) (H : AH) (nx : Nat) : stsQ lo b o vs K H nx = (need (lo ≤ b) ∧ okCells H b o vs ∧ K (H.puts b o vs) nx) := (rfl)
theorem okCells_nil (H : AH) (b o : Nat) : okCells H b o [] = True := (rfl)
theorem okCells_cons (H : AH) (b o : Nat) (v : Value) (r : List Value) : okCells H b o (v :: r) = (v.oneCell' = true ∧ (H.c b o).isSome = true ∧ okCells H b (o + 1) r) := (rfl)
theorem okCells_list {H : AH} {b : Nat} : ∀ (vs : List Value) (o : Nat), (∀ v ∈ vs, v.oneCell' = true) → (∀ j, j < vs.length → (H.c b (o + j)).isSome = true) → okCells H b o vs
  | [], _, _, _ => trivial
  | v :: r, o, h1, h2 => ⟨h1 v (by simp), by simpa using h2 0 (by simp), okCells_list r (o + 1) (fun u hu => h1 u (by simp [hu])) fun j hj => by
    have := h2 (j + 1) (by simpa using hj)
    rwa [show o + (j + 1) = o + 1 + j by omega] at this⟩
theorem okCells_spec {H : AH} {b : Nat} : ∀ (vs : List Value) (o : Nat), okCells H b o vs → (∀ v ∈ vs, v.oneCell' = true) ∧ (∀ j, j < vs.length → (H.c b (o + j)).isSome = true)
  | [], _, _ => by simp
  | v :: r, o, ⟨h1, h2, h3⟩ => by
    obtain ⟨g1, g2⟩ := okCells_spec r (o + 1) h3
    refine ⟨fun u hu => ?_, fun j hj => ?_⟩
    · rcases List.mem_cons.1 hu with rfl | hu
      · exact h1
      · exact g1 u hu
    · cases j with
      | zero => exact h2
      | succ j =>
        have := g2 j (by simpa using hj)
        rwa [show o + 1 + j = o + (j + 1) by omega] at this

theorem one_int (k : IntKind) (n : Int) : (Value.int k n).oneCell' = true := (rfl)
theorem one_bool (b : Bool) : (Value.bool b).oneCell' = true := (rfl)
theorem one_slice (a : Option Addr) (n c : Nat) : (Value.slice a n c).oneCell' = true := (rfl)
theorem one_ptr (a : Option Addr) : (Value.pointer a).oneCell' = true := (rfl)
theorem one_str (s : ByteArray) : (Value.string s).oneCell' = true := (rfl)
theorem cells_int (k : IntKind) (n : Int) : (Value.int k n).cells = #[.int k n] := (rfl)
theorem cells_bool (b : Bool) : (Value.bool b).cells = #[.bool b] := (rfl)
theorem cells_slice (a : Option Addr) (n c : Nat) : (Value.slice a n c).cells = #[.slice a n c] := (rfl)
theorem cells_ptr (a : Option Addr) : (Value.pointer a).cells = #[.pointer a] := (rfl)
theorem cells_str (s : ByteArray) : (Value.string s).cells = #[.string s] := (rfl)
theorem cells_agg (cs : Array Value) : (Value.agg cs).cells = cs := (rfl)
theorem cells_one {v : Value} (h : v.oneCell' = true) : v.cells = #[v] := by cases v <;> first | rfl | simp [Value.oneCell'] at h

section
variable {P : Program} {lo : Nat} {H : AH} {nx : Nat}

theorem load_one {t : TypeId} {b o : Nat} (h : isAggT P t = some false) : loadV P H t (.pointer (some ⟨b, o, none⟩)) = H.c b o := by rw [loadV_eq, h]
theorem load_agg {t : TypeId} {b o n : Nat} (h : isAggT P t = some true) (hn : szT P t = some n) : loadV P H t (.pointer (some ⟨b, o, none⟩)) = (loadN H b o n).map fun l => .agg l.toArray := by rw [loadV_eq, h, hn]; rfl

theorem peek_part (t : TypeId) (cs : Array Value) (k : Nat) : peek P H (part t cs k) = match isAggT P t with
    | some false => cs[k]?
    | some true => (szT P t).map fun n => .agg (cs.extract k (k + n))
    | none => none := by
  unfold part
  rw [peek_then, peek_isAgg]
  cases isAggT P t with
  | none => rfl
  | some a =>
    cases a with
    | false =>
      simp only [Option.bind_some, Bool.false_eq_true, if_false]
      cases cs[k]? <;> rfl
    | true =>
      simp only [Option.bind_some, if_true]
      rw [peek_then, peek_sizeOf]
      cases szT P t <;> rfl

theorem field_any {s : TypeId} {i : Nat} {a : Bool} {n k : Nat} {cs : Array Value} (h : fldT P s i = some (a, n, k)) : fieldV P H s i (.agg cs) = match a with
    | false => cs[k]?
    | true => some (.agg (cs.extract k (k + n))) := by
  unfold fldT at h
  cases hu : P.underlying s with
  | none => rw [hu] at h; cases h
  | some d =>
    rw [hu] at h
    cases d <;> simp only [reduceCtorEq] at h
    rename_i fs
    cases hf : fs[i]? with
    | none => rw [hf] at h; cases h
    | some fd =>
      rw [hf] at h
      simp only at h
      split at h
      · rename_i a' n' ha hn
        simp only [Option.some.injEq, Prod.mk.injEq] at h
        obtain ⟨rfl, rfl, rfl⟩ := h
        unfold fieldV valOf Instr.field
        rw [peek_then, peek_underlying, hu]
        simp only [Option.bind_some, hf]
        rw [peek_then]
        simp only [asAgg, peek_pure, Option.bind_some]
        rw [peek_part, ha, hn]
        cases a' <;> rfl
      · cases h
theorem field_one {s : TypeId} {i k : Nat} {cs : Array Value} (h : fldT P s i = some (false, 1, k)) : fieldV P H s i (.agg cs) = cs[k]? := field_any h
theorem field_agg {s : TypeId} {i n k : Nat} {cs : Array Value} (h : fldT P s i = some (true, n, k)) : fieldV P H s i (.agg cs) = some (.agg (cs.extract k (k + n))) := field_any h

theorem index_str {t : TypeId} {s : ByteArray} {kk : IntKind} {i : Int} (h : strT P t = true) (h0 : 0 ≤ i) (h1 : i < s.size) : indexV P H t (.string s) (.int kk i) = some (.int .u8 (s.data[i.toNat]!).toNat) := by
  unfold strT at h
  cases hu : P.underlying t with
  | none => rw [hu] at h; cases h
  | some d =>
    rw [hu] at h
    cases d <;> simp only [reduceCtorEq] at h
    unfold indexV valOf Instr.index
    have hlt : i.toNat < s.data.size := by have : s.size = s.data.size := rfl; omega
    have e : s[i.toNat]? = some s.data[i.toNat] := by
      have h2 : i.toNat < s.size := hlt
      rw [getElem?_pos s i.toNat h2]; rfl
    simp only [peek_then, asIntOf, peek_pure, peek_underlying, hu, Option.bind_some, h0, if_true, e]
    rw [getElem!_pos s.data i.toNat hlt]

theorem index_arr {t : TypeId} {n : Nat} {cs : Array Value} {kk : IntKind} {i : Int} (h : arrT P t = some (n, false, 1)) (h0 : 0 ≤ i) (h1 : i < n) : indexV P H t (.agg cs) (.int kk i) = cs[i.toNat]? := by
  unfold arrT at h
  cases hu : P.underlying t with
  | none => rw [hu] at h; cases h
  | some d =>
    rw [hu] at h
    cases d <;> simp only [reduceCtorEq] at h
    rename_i n' e'
    split at h
    · rename_i a' k' ha hk
      simp only [Option.some.injEq, Prod.mk.injEq] at h
      obtain ⟨rfl, rfl, rfl⟩ := h
      unfold indexV valOf Instr.index
      simp only [peek_then, asIntOf, peek_pure, peek_underlying, hu, Option.bind_some, h0, h1, and_self, if_true, peek_sizeOf, hk, peek_part, ha, Nat.mul_one]
    · cases h

theorem aw_store_eq (b o : Nat) (v : Value) (K : Unit → AH → Nat → Prop) : aw P lo (store ⟨b, o, none⟩ v) K H nx = (lo ≤ b ∧ v.oneCell' = true ∧ (H.c b o).isSome = true ∧ K () (H.put b o v) nx) := by
  simp only [store, aw, true_and]

theorem storeCells_eq (b : Nat) (K : Unit → AH → Nat → Prop) : ∀ (vs : List Value) (o i : Nat) (H : AH), lo ≤ b → aw P lo (storeCells ⟨b, o, none⟩ vs i) K H nx = (okCells H b (o + i) vs ∧ K () (H.puts b (o + i) vs) nx)
  | [], o, i, H, _ => by simp [storeCells, okCells, puts_nil, aw_pure]
  | v :: r, o, i, H, hlo => by
    unfold storeCells
    rw [aw_then, add_none, aw_store_eq, storeCells_eq b K r o (i + 1) _ hlo, okCells_cons, puts_cons, show o + (i + 1) = o + i + 1 by omega]
    have : okCells (H.put b (o + i) v) b (o + i + 1) r = okCells H b (o + i + 1) r := by
      have go : ∀ (r : List Value) (o' : Nat), o + i < o' → okCells (H.put b (o + i) v) b o' r = okCells H b o' r := fun r => by
        induction r with
        | nil => intro o' _; rfl
        | cons u r ih => intro o' ho; rw [okCells_cons, okCells_cons, put_other _ _ _ _ _ (by omega), ih _ (by omega)]
      exact go r _ (by omega)
    rw [this]
    simp [hlo, and_assoc]

theorem aw_eq {α : Type} {s : Sem α} {a : α} {K : α → AH → Nat → Prop} (h : peek P H s = some a) : aw P lo s K H nx = K a H nx := propext ⟨fun hh => aw_unpeek h hh, fun hh => aw_of_peek h _ hh⟩

theorem store_any {t : TypeId} {b o : Nat} {v : Value} {K : AH → Nat → Prop} (ht : szT P t = some v.cells.size) : storeQ P lo t (.pointer (some ⟨b, o, none⟩)) v K H nx = aw P lo (storeCells ⟨b, o, none⟩ v.cells.toList 0) (fun _ => K) H nx := by
  unfold storeQ Instr.storeAt
  rw [aw_then]
  simp only [Instr.sureAddr, aw_pure]
  unfold storeVar
  rw [aw_then, aw_eq (by rw [peek_sizeOf, ht])]
  simp only [ne_eq, not_true_eq_false, if_false]

theorem storeCells_lo {b : Nat} {K : Unit → AH → Nat → Prop} {o i : Nat} {v : Value} {r : List Value} (h : aw P lo (storeCells ⟨b, o, none⟩ (v :: r) i) K H nx) : lo ≤ b := by
  unfold storeCells at h
  rw [aw_then, add_none, aw_store_eq] at h
  exact h.1

theorem store_agg {t : TypeId} {b o n : Nat} {cs : List Value} {K : AH → Nat → Prop} (ht : szT P t = some n) (h0 : 0 < n) (hn : cs.length = n) : storeQ P lo t (.pointer (some ⟨b, o, none⟩)) (.agg cs.toArray) K H nx = stsQ lo b o cs K H nx := by
  rw [store_any (by simp [cells_agg, ht, hn])]
  simp only [cells_agg]
  obtain ⟨v, r, rfl⟩ : ∃ v r, cs = v :: r := by cases cs with | nil => simp at hn; omega | cons v r => exact ⟨v, r, rfl⟩
  apply propext
  constructor
  · intro h
    have hlo := storeCells_lo h
    rw [storeCells_eq _ _ _ _ _ _ hlo, Nat.add_zero] at h
    exact ⟨hlo, h⟩
  · rintro ⟨hlo, h⟩
    rw [storeCells_eq _ _ _ _ _ _ hlo, Nat.add_zero]
    exact h

theorem store_one {t : TypeId} {b o : Nat} {v : Value} {K : AH → Nat → Prop} (ht : szT P t = some 1) (hv : v.oneCell' = true) : storeQ P lo t (.pointer (some ⟨b, o, none⟩)) v K H nx = stQ lo b o v K H nx := by
  rw [store_any (by rw [cells_one hv, ht]; rfl), cells_one hv]
  apply propext
  constructor
  · intro h
    have hlo := storeCells_lo h
    rw [storeCells_eq _ _ _ _ _ _ hlo, Nat.add_zero] at h
    exact ⟨hlo, hv, h.1.2.1, h.2⟩
  · rintro ⟨hlo, h1, h2, h3⟩
    rw [storeCells_eq _ _ _ _ _ _ hlo, Nat.add_zero]
    exact ⟨⟨h1, h2, trivial⟩, h3⟩

theorem peek_list_mapM {α β : Type} {g : α → Sem β} {r : α → β} : ∀ (l : List α), (∀ x ∈ l, peek P H (g x) = some (r x)) → peek P H (l.mapM g) = some (l.map r)
  | [], _ => rfl
  | x :: l, h => by
    simp only [List.mapM_cons]
    rw [peek_then, h x (by simp)]
    simp only [Option.bind_some]
    rw [peek_then, peek_list_mapM l (fun y hy => h y (by simp [hy]))]
    rfl

theorem peek_mapM {α β : Type} {g : α → Sem β} {r : α → β} (l : Array α) (h : ∀ x ∈ l, peek P H (g x) = some (r x)) : peek P H (l.mapM g) = some (l.map r) := by
  rw [Array.mapM_eq_mapM_toList, peek_fmap, peek_list_mapM (r := r) l.toList (fun x hx => h x (by simpa using hx))]
  simp only [Option.map_some, Option.some.injEq]
  apply Array.ext'
  simp

theorem alloc_new {t : TypeId} {z : Value} {K : Value → AH → Nat → Prop} (hz : zeroT P t = some z) : allocQ P lo t K H nx = newQ t z.cells K H nx := by
  unfold allocQ Instr.alloc
  rw [aw_then]
  have : ∀ (F : Value → AH → Nat → Prop), aw P lo (zeroValue t) F H nx = F z H nx := fun F => propext ⟨fun h => aw_unpeek (by rw [peek_zeroValue, hz]) h, fun h => aw_of_peek (by rw [peek_zeroValue, hz]) _ h⟩
  rw [this]
  simp only [newVar, newRow, aw_then, newObj, aw, aw_pure]
  rfl

theorem box_new {t : TypeId} {v : Value} {K : Value → AH → Nat → Prop} : boxQ P lo t v K H nx = newQ t v.cells K H nx := by
  unfold boxQ Instr.box
  simp only [newVar, newRow, aw_then, newObj, aw, aw_pure]
  rfl

theorem build_zero {t : TypeId} {z : Value} (hk : (match P.underlying t with | some (.struct fs) => fs.all fun f => (szT P f.type).isSome | some (.array _ e) => (szT P e).isSome | _ => false) = true) (hz : zeroT P t = some z) : buildV P H t #[] = some (.agg z.cells) := by
  unfold buildV valOf Instr.build
  rw [peek_then, peek_zeroValue, hz]
  simp only [Option.bind_some]
  rw [peek_then, peek_underlying]
  cases hu : P.underlying t with
  | none => rw [hu] at hk; cases hk
  | some d =>
    rw [hu] at hk
    cases d <;> simp only [Bool.false_eq_true] at hk
    rotate_left
    · rename_i fs
      simp only [Option.bind_some]
      rw [peek_then, peek_mapM (r := fun f => (f.offset, (szT P f.type).getD 0)) fs (fun f hf => by
        rw [peek_then, peek_sizeOf]
        obtain ⟨n, hn⟩ := Option.isSome_iff_exists.1 (Array.all_eq_true_iff_forall_mem.1 hk f hf)
        rw [hn]; rfl)]
      rfl
    · simp only [Option.bind_some]
      rw [peek_then, peek_sizeOf]
      obtain ⟨n, hn⟩ := Option.isSome_iff_exists.1 hk
      rw [hn]; rfl

/-- What a literal yields: its zero value, parts laid in. -/
def placesT (P : Program) (t : TypeId) : Option (Nat → Option (Nat × Nat)) := match P.underlying t with
  | some (.struct fs) => if (fs.all fun f => (szT P f.type).isSome) = true then some fun i => (fs.map fun f => (f.offset, (szT P f.type).getD 0))[i]? else none
  | some (.array _ e) => (szT P e).map fun n i => some (i * n, n)
  | _ => none
theorem build_eq {t : TypeId} {z : Value} {pl : Nat → Option (Nat × Nat)} {ps : Array (Nat × Value)} (hk : placesT P t = some pl) (hz : zeroT P t = some z) : buildV P H t ps = (Instr.fill pl z.cells ps.toList).map .agg := by
  unfold buildV valOf Instr.build
  rw [peek_then, peek_zeroValue, hz]
  simp only [Option.bind_some]
  rw [peek_then, peek_underlying]
  unfold placesT at hk
  cases hu : P.underlying t with
  | none => rw [hu] at hk; cases hk
  | some d =>
    rw [hu] at hk
    cases d <;> simp only [reduceCtorEq] at hk
    rotate_left
    · rename_i fs
      split at hk
      · rename_i hall
        simp only [Option.some.injEq] at hk
        subst hk
        simp only [Option.bind_some]
        rw [peek_then, peek_mapM (r := fun f => (f.offset, (szT P f.type).getD 0)) fs (fun f hf => by
          rw [peek_then, peek_sizeOf]
          obtain ⟨n, hn⟩ := Option.isSome_iff_exists.1 (Array.all_eq_true_iff_forall_mem.1 hall f hf)
          rw [hn]; rfl)]
        simp only [Option.bind_some]
        cases Instr.fill _ z.cells ps.toList <;> rfl
      · cases hk
    · simp only [Option.map_eq_some_iff] at hk
      obtain ⟨n, hn, rfl⟩ := hk
      simp only [Option.bind_some]
      rw [peek_then, peek_sizeOf, hn]
      simp only [Option.bind_some]
      cases Instr.fill _ z.cells ps.toList <;> rfl

theorem convV_int {s d : TypeId} {k k' : IntKind} {n : Int} (hs : (P.underlying s).isSome = true) (hd : intT P d = some k) : convV P H s d (.int k' n) = some (.int k (k.wrap n)) := by
  unfold convV valOf convert
  obtain ⟨us, hus⟩ := Option.isSome_iff_exists.1 hs
  unfold intT at hd
  cases hu : P.underlying d with
  | none => rw [hu] at hd; cases hd
  | some ud =>
    rw [hu] at hd
    cases ud <;> simp only [reduceCtorEq, Option.some.injEq] at hd
    subst hd
    rw [peek_then, peek_underlying, hus]
    simp only [Option.bind_some]
    rw [peek_then, peek_underlying, hu]
    simp only [Option.bind_some, Conv.intToInt, peek_pure]

/-! ### Equality of what is no number -/
def ptrT (P : Program) (t : TypeId) : Bool := match P.underlying t with | some (.pointer _) => true | _ => false
def slcT (P : Program) (t : TypeId) : Bool := match P.underlying t with | some (.slice _) => true | _ => false

theorem bin_eq {op : BinOp} {t : TypeId} {x y : Operand} {a b : Value} (h1 : ∀ cs, a ≠ .agg cs) (h2 : a ≠ .nilIface) : binV P H op t x y a b = peek P H (binOp op t a b) := by
  unfold binV valOf
  rw [peek_then]
  have : peek P H (eqGuard op t x y a b) = some () := by
    unfold eqGuard
    cases op <;> first | rfl | (cases a <;> first | rfl | exact absurd rfl (h1 _) | exact absurd rfl h2)
  rw [this]; rfl

theorem peek_equal {t : TypeId} {d : TypeDesc} {x y : Value} (hu : P.underlying t = some d) : peek P H (Op.equal t x y) = peek P H (do
    match d, x, y with
    | .pointer _, .pointer none, .pointer b => pure b.isNone
    | .pointer _, .pointer _, .pointer none => pure false
    | .slice _, .slice none _ _, .slice b _ _ => pure b.isNone
    | .slice _, .slice _ _ _, .slice none _ _ => pure false
    | _, _, _ => Op.equal t x y : Sem Bool) := by
  have e : Op.equal t x y = Op.equalIn (9999 + 1) t x y := rfl
  split
  · rw [e, Op.equalIn, peek_then, peek_underlying, hu]; rfl
  · rename_i h
    rw [e, Op.equalIn, peek_then, peek_underlying, hu]
    rename_i a
    cases a <;> first | rfl | simp at h
  · rw [e, Op.equalIn, peek_then, peek_underlying, hu]; rfl
  · rename_i a n c _ _ h
    rw [e, Op.equalIn, peek_then, peek_underlying, hu]
    cases a <;> first | rfl | simp at h
  · rfl
theorem eq_ptr {t : TypeId} {x y : Operand} {a : Option Addr} (h : ptrT P t = true) : binV P H .eql t x y (.pointer a) (.pointer none) = some (.bool a.isNone) := by
  rw [bin_eq (by simp) (by simp)]
  unfold ptrT at h
  cases hu : P.underlying t with
  | none => rw [hu] at h; cases h
  | some d =>
    rw [hu] at h
    cases d <;> simp only [Bool.false_eq_true] at h
    show peek P H (do let r ← Op.equal t (.pointer a) (.pointer none); pure (Value.bool r)) = _
    rw [peek_then, peek_equal hu]
    cases a <;> rfl
theorem ne_ptr {t : TypeId} {x y : Operand} {a : Option Addr} (h : ptrT P t = true) : binV P H .neq t x y (.pointer a) (.pointer none) = some (.bool a.isSome) := by
  rw [bin_eq (by simp) (by simp)]
  unfold ptrT at h
  cases hu : P.underlying t with
  | none => rw [hu] at h; cases h
  | some d =>
    rw [hu] at h
    cases d <;> simp only [Bool.false_eq_true] at h
    show peek P H (do let r ← Op.equal t (.pointer a) (.pointer none); pure (Value.bool !r)) = _
    rw [peek_then, peek_equal hu]
    cases a <;> rfl
theorem eq_sl {t : TypeId} {x y : Operand} {a : Option Addr} {n c : Nat} (h : slcT P t = true) : binV P H .eql t x y (.slice a n c) (.slice none 0 0) = some (.bool a.isNone) := by
  rw [bin_eq (by simp) (by simp)]
  unfold slcT at h
  cases hu : P.underlying t with
  | none => rw [hu] at h; cases h
  | some d =>
    rw [hu] at h
    cases d <;> simp only [Bool.false_eq_true] at h
    show peek P H (do let r ← Op.equal t (.slice a n c) (.slice none 0 0); pure (Value.bool r)) = _
    rw [peek_then, peek_equal hu]
    cases a <;> rfl
theorem ne_sl {t : TypeId} {x y : Operand} {a : Option Addr} {n c : Nat} (h : slcT P t = true) : binV P H .neq t x y (.slice a n c) (.slice none 0 0) = some (.bool a.isSome) := by
  rw [bin_eq (by simp) (by simp)]
  unfold slcT at h
  cases hu : P.underlying t with
  | none => rw [hu] at h; cases h
  | some d =>
    rw [hu] at h
    cases d <;> simp only [Bool.false_eq_true] at h
    show peek P H (do let r ← Op.equal t (.slice a n c) (.slice none 0 0); pure (Value.bool !r)) = _
    rw [peek_then, peek_equal hu]
    cases a <;> rfl
theorem eq_str {t : TypeId} {x y : Operand} {a b : ByteArray} : binV P H .eql t x y (.string a) (.string b) = some (.bool (decide (a.data.toList = b.data.toList))) := by
  rw [bin_eq (by simp) (by simp)]
  show some (Value.bool (a.toList == b.toList)) = _
  rw [ByteArray.toList_eq, ByteArray.toList_eq, show (a.data.toList == b.data.toList) = decide (a.data.toList = b.data.toList) by rw [Bool.eq_iff_iff]; simp]
theorem ne_str {t : TypeId} {x y : Operand} {a b : ByteArray} : binV P H .neq t x y (.string a) (.string b) = some (.bool (!(decide (a.data.toList = b.data.toList)))) := by
  rw [bin_eq (by simp) (by simp)]
  show some (Value.bool !(a.toList == b.toList)) = _
  rw [ByteArray.toList_eq, ByteArray.toList_eq, show (a.data.toList == b.data.toList) = decide (a.data.toList = b.data.toList) by rw [Bool.eq_iff_iff]; simp]
end

/-! ### Results that lie in cells -/
section
variable {P : Program} {fn : Func} {R : Value → AH → Nat → Prop} {env : Env} {H : AH} {nx : Nat}
theorem peek_loadVar {t : TypeId} {a : Value} : (peek P H (asAddr a)).bind (fun b => peek P H (loadVar t b)) = loadV P H t a := by
  unfold loadV valOf Instr.loadAt
  rw [peek_then]
  cases a <;> first | rfl | skip
  rename_i x
  cases x <;> rfl
theorem retQ_cell {d : Nat} {t : TypeId} (h : fn.results = #[.cell d t]) (hd : d < fn.ntmps) : retQ P fn R .ret env H nx = onA (eg env d) (fun a => onV (loadV P H t a) R H nx) := by
  simp only [← ex_onA, ← ex_onV]
  simp only [retQ, resKnown, results, h, eq_iff_iff]
  have t1 := envArr_get fn.ntmps env d hd
  simp only [Array.getD_eq_getD_getElem?] at t1
  constructor
  · rintro ⟨h1, v, h2, h3⟩
    simp at h1
    obtain ⟨u, hu⟩ := Option.isSome_iff_exists.1 h1
    refine ⟨u, hu, v, ?_, h3⟩
    rw [hu] at t1
    simp only [Option.getD_some] at t1
    rw [← peek_loadVar, ← h2]
    simp [peek_then, t1]
  · rintro ⟨u, hu, v, h2, h3⟩
    refine ⟨by simp [hu], v, ?_, h3⟩
    rw [hu] at t1
    simp only [Option.getD_some] at t1
    rw [← peek_loadVar] at h2
    rw [← h2]
    simp [peek_then, t1]
theorem retQ_cell_tmp {d e : Nat} {t : TypeId} (h : fn.results = #[.cell d t, .tmp e]) (hd : d < fn.ntmps) (he : e < fn.ntmps) : retQ P fn R .ret env H nx = onA (eg env d) (fun a => onA (loadV P H t a) fun v => onA (eg env e) fun u => R (.tuple #[v, u]) H nx) := by
  simp only [← ex_onA]
  simp only [retQ, resKnown, results, h, eq_iff_iff]
  have t1 := envArr_get fn.ntmps env d hd
  have t2 := envArr_get fn.ntmps env e he
  simp only [Array.getD_eq_getD_getElem?] at t1 t2
  constructor
  · rintro ⟨h1, v, h2, h3⟩
    simp at h1
    obtain ⟨u, hu⟩ := Option.isSome_iff_exists.1 h1.1
    obtain ⟨u', hu'⟩ := Option.isSome_iff_exists.1 h1.2
    rw [hu] at t1
    rw [hu'] at t2
    simp only [Option.getD_some] at t1 t2
    simp [peek_then, t1, t2, peek_fmap] at h2
    rw [Option.bind_eq_some_iff] at h2
    obtain ⟨x, hx, h2⟩ := h2
    simp only [Option.map_eq_some_iff] at h2
    obtain ⟨y, hy, rfl⟩ := h2
    exact ⟨u, hu, y, by rw [← peek_loadVar, hx]; exact hy, u', hu', h3⟩
  · rintro ⟨u, hu, v, h2, u', hu', h3⟩
    refine ⟨by simp [hu, hu'], _, ?_, h3⟩
    rw [hu] at t1
    rw [hu'] at t2
    simp only [Option.getD_some] at t1 t2
    rw [← peek_loadVar] at h2
    simp [peek_then, t1, t2, peek_fmap]
    obtain ⟨x, hx, hy⟩ := Option.bind_eq_some_iff.1 h2
    rw [hx]
    simp [hy]
end

end Go.Proofs.Ytgafnliohmdmoaa
