/- OUR OWN LOGIC OVER THE KIT'S. 20: maps whose keys are numbers, truth values or flat structs. Nothing of the program stands here. OUR OWN LOGIC OVER THE KIT'S. 29: slices made of a length. Nothing of the program stands here. -/
import Derived.Test.YtngnbafididkcaaGreatL15
section
namespace Go.Proofs.YtngnbafididkcaaGreat
open Go.RowKit

section
variable {P : Program} {lo : Nat} {H : AH} {nx : Nat}

theorem peek_forIn_unit {α : Type} {g : α → PUnit → Sem (ForInStep PUnit)} : ∀ (l : List α), (∀ x ∈ l, peek P H (g x ⟨⟩) = some (.yield ⟨⟩)) → peek P H (forIn l (⟨⟩ : PUnit) g) = some ⟨⟩
  | [], _ => by simp [peek_pure]
  | x :: r, h => by
    rw [List.forIn_cons, peek_then, h x (by simp)]
    simp only [Option.bind_some]
    exact peek_forIn_unit r fun y hy => h y (by simp [hy])

theorem flat_check : ∀ (d : Nat) (t : TypeId) (ks : List (Option IntKind)) (a : Bool), flatT P d t = some ks → isAggT P t = some a → ∀ (n : Nat) (xs : List Value) (emp : Bool), d ≤ n → fitL ks xs → peek P H (Instr.checkKey emp n t (vOf a xs)) = some ()
  | 0, _, _, _, h, _, _, _, _, _, _ => by simp [flatT] at h
  | d + 1, t, ks, a, h, ha, n, xs, emp, hn, hx => by
    obtain ⟨n, rfl⟩ : ∃ m, n = m + 1 := ⟨n - 1, by omega⟩
    unfold flatT at h
    unfold isAggT at ha
    rw [Instr.checkKey, peek_then, peek_underlying]
    cases hu : P.underlying t with
    | none => rw [hu] at h; cases h
    | some u =>
      rw [hu] at h ha
      simp only [Option.bind_some]
      cases u <;> simp only [reduceCtorEq, Option.map_some, Option.some.injEq] at h ha
      · subst h; subst ha
        obtain ⟨x, w, rfl, hw⟩ := hx
        simp [peek_pure]
      · subst h; subst ha
        obtain ⟨x, w, rfl, hw⟩ := hx
        simp [peek_pure]
      · rename_i fs
        subst ha
        split at h
        · cases h
        simp only [vOf, if_true]
        obtain ⟨g1, g2⟩ := flatFs_mem fs.toList 0 ks xs xs h (by simpa using hx) (by simpa using hx) rfl (Nat.zero_le _)
        rw [peek_then, ← Array.forIn_toList, peek_forIn_unit fs.toList (fun f hf => ?_)]
        · rfl
        obtain ⟨sk, a, m, q1, q2, q3, q4, q5, q6, q7, q8⟩ := g1 f hf
        simp only [q5, ne_eq, not_false_eq_true, if_true]
        rw [peek_then, peek_part_list q2 q3 q4 q6]
        simp only [Option.bind_some]
        rw [peek_then, flat_check d f.type sk a q1 q2 n _ emp (by omega) q7]
        rfl

/-- The first entry of a key, and where it lies. -/
def findM (xs : List Value) : List (List Value × Value) → Nat → Option (Nat × Value)
  | [], _ => none
  | p :: r, i => if eqLs xs p.1 = true then some (i, p.2) else findM xs r (i + 1)
def entL (a : Bool) (es : List MapEntry) (M : List (List Value × Value)) : Prop := es.map (fun e => (e.key, e.val)) = M.map (fun p => (vOf a p.1, p.2))

theorem findAsking_flat {kt : TypeId} {ks : List (Option IntKind)} {a : Bool} (hT : flatT P 8 kt = some ks) (ha : isAggT P kt = some a) {xs : List Value} (hx : fitL ks xs) : ∀ (es : List MapEntry) (M : List (List Value × Value)) (i : Nat), entL a es M → (∀ p ∈ M, fitL ks p.1) → peek P H (Instr.findAsking kt (vOf a xs) es i) = some (findM xs M i)
  | [], [], i, _, _ => rfl
  | [], p :: M, i, h, _ => by simp [entL] at h
  | e :: es, [], i, h, _ => by simp [entL] at h
  | e :: es, p :: M, i, h, hM => by
    simp only [entL, List.map_cons, List.cons.injEq, Prod.mk.injEq] at h
    obtain ⟨⟨h1, h2⟩, h3⟩ := h
    rw [Instr.findAsking, peek_then, h1]
    have e : peek P H (Op.equal kt (vOf a xs) (vOf a p.1)) = some (eqLs xs p.1) := flat_eq 8 kt ks a hT ha 10000 xs p.1 (by omega) hx (hM p (by simp))
    rw [e]
    simp only [Option.bind_some, findM]
    cases eqLs xs p.1 with
    | true => simp [peek_pure, h2]
    | false =>
      simp only [Bool.false_eq_true, if_false]
      exact findAsking_flat hT ha hx es M (i + 1) h3 fun q hq => hM q (by simp [hq])

theorem findNow_int {j : IntKind} {xs : List Value} {x : Int} (hx : xs = [.int j x]) : ∀ (es : List MapEntry) (M : List (List Value × Value)) (i : Nat), entL false es M → (∀ p ∈ M, fitL [some j] p.1) → Instr.findNow (.int j) (.int j x) es i = some (findM xs M i)
  | [], [], i, _, _ => rfl
  | [], p :: M, i, h, _ => by simp [entL] at h
  | e :: es, [], i, h, _ => by simp [entL] at h
  | e :: es, p :: M, i, h, hM => by
    simp only [entL, List.map_cons, List.cons.injEq, Prod.mk.injEq] at h
    obtain ⟨⟨h1, h2⟩, h3⟩ := h
    obtain ⟨y, w, hy, hw⟩ := hM p (by simp)
    simp only [fitL] at hw
    subst hw
    rw [hy] at h1
    simp only [vOf, Bool.false_eq_true, if_false, List.headD_cons] at h1
    have ih := findNow_int hx es M (i + 1) h3 fun q hq => hM q (by simp [hq])
    unfold Instr.findNow
    simp only [h1, Instr.sameNow, if_true, findM, hx, hy, eqLs, eqLeaf, Bool.and_true]
    cases x == y with
    | true => simp [h2]
    | false => rw [hx] at ih; simp [ih]
theorem findNow_bool {xs : List Value} {x : Bool} (hx : xs = [.bool x]) : ∀ (es : List MapEntry) (M : List (List Value × Value)) (i : Nat), entL false es M → (∀ p ∈ M, fitL [none] p.1) → Instr.findNow .bool (.bool x) es i = some (findM xs M i)
  | [], [], i, _, _ => rfl
  | [], p :: M, i, h, _ => by simp [entL] at h
  | e :: es, [], i, h, _ => by simp [entL] at h
  | e :: es, p :: M, i, h, hM => by
    simp only [entL, List.map_cons, List.cons.injEq, Prod.mk.injEq] at h
    obtain ⟨⟨h1, h2⟩, h3⟩ := h
    obtain ⟨y, w, hy, hw⟩ := hM p (by simp)
    simp only [fitL] at hw
    subst hw
    rw [hy] at h1
    simp only [vOf, Bool.false_eq_true, if_false, List.headD_cons] at h1
    have ih := findNow_bool hx es M (i + 1) h3 fun q hq => hM q (by simp [hq])
    unfold Instr.findNow
    simp only [h1, Instr.sameNow, findM, hx, hy, eqLs, eqLeaf, Bool.and_true]
    cases x == y with
    | true => simp [h2]
    | false => rw [hx] at ih; simp [ih]

theorem findKey_flat {kt : TypeId} {ks : List (Option IntKind)} {a : Bool} (hT : flatT P 8 kt = some ks) (ha : isAggT P kt = some a) {xs : List Value} (hx : fitL ks xs) {es : List MapEntry} {M : List (List Value × Value)} (h : entL a es M) (hM : ∀ p ∈ M, fitL ks p.1) : peek P H (Instr.findKey kt (vOf a xs) es) = some (findM xs M 0) := by
  have hA := findAsking_flat (H := H) hT ha hx es M 0 h hM
  have hT0 := hT
  have ha0 := ha
  unfold flatT at hT
  unfold isAggT at ha
  unfold Instr.findKey
  rw [peek_then, peek_underlying]
  cases hu : P.underlying kt with
  | none => rw [hu] at hT; cases hT
  | some u =>
    rw [hu] at hT ha
    simp only [Option.bind_some]
    cases u <;> simp only [reduceCtorEq, Option.map_some, Option.some.injEq] at hT ha
    · subst hT; subst ha
      obtain ⟨x, w, rfl, hw⟩ := hx
      simp only [fitL] at hw
      subst hw
      simp only [vOf, Bool.false_eq_true, if_false, List.headD_cons]
      rw [findNow_bool rfl es M 0 h hM]
      rfl
    · subst hT; subst ha
      obtain ⟨x, w, rfl, hw⟩ := hx
      simp only [fitL] at hw
      subst hw
      simp only [vOf, Bool.false_eq_true, if_false, List.headD_cons]
      rw [findNow_int rfl es M 0 h hM]
      rfl
    · subst ha
      cases es with
      | nil =>
        cases M with
        | nil => rfl
        | cons p M => simp [entL] at h
      | cons e es =>
        have : ∀ fs i, Instr.findNow (.struct fs) (vOf true xs) (e :: es) i = none := fun fs i => by
          unfold Instr.findNow
          simp [Instr.sameNow]
        rw [this]
        exact hA

/-! ### A map's contents -/
def mapIs (a : Bool) (ks : List (Option IntKind)) (ob : Obj) (M : List (List Value × Value)) : Prop := ∃ es clk, ob = .map es clk ∧ entL a es.toList M ∧ ∀ p ∈ M, fitL ks p.1
theorem mapIs_nil {a : Bool} {ks : List (Option IntKind)} : mapIs a ks (.map #[] 0) [] := ⟨#[], 0, rfl, rfl, by simp⟩
def lookM (xs : List Value) (M : List (List Value × Value)) : Option Value := (findM xs M 0).map (·.2)
def setM (xs : List Value) (v : Value) : List (List Value × Value) → List (List Value × Value)
  | [] => [(xs, v)]
  | p :: r => if eqLs xs p.1 = true then (xs, v) :: r else p :: setM xs v r

theorem eqLs_eq : ∀ (ks : List (Option IntKind)) (xs ys : List Value), fitL ks xs → fitL ks ys → eqLs xs ys = true → xs = ys
  | [], xs, ys, hx, hy, _ => by rw [hx, hy]
  | some k :: r, _, _, ⟨n, w, hx, hw⟩, ⟨n', w', hy, hw'⟩, h => by
    subst hx; subst hy
    simp only [eqLs, eqLeaf, Bool.and_eq_true, beq_iff_eq] at h
    rw [h.1, eqLs_eq r w w' hw hw' h.2]
  | none :: r, _, _, ⟨n, w, hx, hw⟩, ⟨n', w', hy, hw'⟩, h => by
    subst hx; subst hy
    simp only [eqLs, eqLeaf, Bool.and_eq_true, beq_iff_eq] at h
    rw [h.1, eqLs_eq r w w' hw hw' h.2]
theorem eqLs_refl : ∀ (ks : List (Option IntKind)) (xs : List Value), fitL ks xs → eqLs xs xs = true
  | [], _, hx => by rw [hx]; rfl
  | some k :: r, _, ⟨n, w, hx, hw⟩ => by subst hx; simp [eqLs, eqLeaf, eqLs_refl r w hw]
  | none :: r, _, ⟨n, w, hx, hw⟩ => by subst hx; simp [eqLs, eqLeaf, eqLs_refl r w hw]

theorem findM_lt {xs : List Value} : ∀ (M : List (List Value × Value)) (i j : Nat) (v : Value), findM xs M i = some (j, v) → i ≤ j ∧ ∃ p, M[j - i]? = some p ∧ eqLs xs p.1 = true ∧ p.2 = v
  | [], _, _, _, h => by simp [findM] at h
  | p :: r, i, j, v, h => by
    simp only [findM] at h
    split at h
    · rename_i he
      simp only [Option.some.injEq, Prod.mk.injEq] at h
      obtain ⟨rfl, rfl⟩ := h
      exact ⟨Nat.le_refl _, p, by simp, he, rfl⟩
    · obtain ⟨h1, q, h2, h3⟩ := findM_lt r (i + 1) j v h
      refine ⟨by omega, q, ?_, h3⟩
      rw [show j - i = (j - (i + 1)) + 1 by omega, List.getElem?_cons_succ]
      exact h2
theorem findM_none {xs : List Value} : ∀ (M : List (List Value × Value)) (i : Nat) (v : Value), findM xs M i = none → setM xs v M = M ++ [(xs, v)]
  | [], _, _, _ => rfl
  | p :: r, i, v, h => by
    simp only [findM] at h
    split at h
    · cases h
    · rename_i he
      rw [setM, if_neg he, findM_none r (i + 1) v h]
      rfl
theorem findM_modify {a : Bool} {xs : List Value} {v : Value} : ∀ (es : List MapEntry) (M : List (List Value × Value)) (i j : Nat) (w : Value), entL a es M → findM xs M i = some (j, w) → entL a (es.modify (j - i) fun e => { e with key := vOf a xs, val := v }) (setM xs v M)
  | es, [], i, j, w, _, h => by simp [findM] at h
  | [], p :: M, i, j, w, h, _ => by simp [entL] at h
  | e :: es, p :: M, i, j, w, h, hf => by
    have h0 := h
    simp only [entL, List.map_cons, List.cons.injEq, Prod.mk.injEq] at h
    obtain ⟨⟨h1, h2⟩, h3⟩ := h
    simp only [findM] at hf
    split at hf
    · rename_i he
      simp only [Option.some.injEq, Prod.mk.injEq] at hf
      obtain ⟨rfl, _⟩ := hf
      rw [setM, if_pos he, Nat.sub_self]
      simp only [entL, List.modify_zero_cons, List.map_cons, List.cons.injEq, true_and]
      exact h3
    · rename_i he
      have hl := (findM_lt M (i + 1) j w hf).1
      have ih := findM_modify (v := v) es M (i + 1) j w h3 hf
      rw [setM, if_neg he, show j - i = (j - (i + 1)) + 1 by omega]
      simp only [entL, List.modify_succ_cons, List.map_cons, List.cons.injEq, Prod.mk.injEq]
      exact ⟨⟨h1, h2⟩, ih⟩
theorem setM_fit {ks : List (Option IntKind)} {xs : List Value} {v : Value} (hx : fitL ks xs) : ∀ (M : List (List Value × Value)), (∀ p ∈ M, fitL ks p.1) → ∀ p ∈ setM xs v M, fitL ks p.1
  | [], _, p, hp => by simp only [setM, List.mem_singleton] at hp; subst hp; exact hx
  | q :: r, h, p, hp => by
    simp only [setM] at hp
    split at hp
    · rcases List.mem_cons.1 hp with rfl | hp
      · exact hx
      · exact h p (by simp [hp])
    · rcases List.mem_cons.1 hp with rfl | hp
      · exact h p (by simp)
      · exact setM_fit hx r (fun p hp => h p (by simp [hp])) p hp

theorem sameBits_leaf : ∀ (ks : List (Option IntKind)) (xs : List Value) (n : Nat), fitL ks xs → ∀ x ∈ xs, Instr.sameBits n x x = true
  | [], _, _, hx, x, h => by rw [hx] at h; simp at h
  | some k :: r, _, m, ⟨n, w, hx, hw⟩, x, h => by
    subst hx
    rcases List.mem_cons.1 h with rfl | h
    · simp [Instr.sameBits]
    · exact sameBits_leaf r w m hw x h
  | none :: r, _, m, ⟨n, w, hx, hw⟩, x, h => by
    subst hx
    rcases List.mem_cons.1 h with rfl | h
    · simp [Instr.sameBits]
    · exact sameBits_leaf r w m hw x h
theorem zip_self {f : Value → Value → Bool} : ∀ (l : List Value), (∀ x ∈ l, f x x = true) → ((l.zip l).all fun (x, y) => f x y) = true
  | [], _ => rfl
  | x :: r, h => by
    simp only [List.zip_cons_cons, List.all_cons, h x (by simp), Bool.true_and]
    exact zip_self r fun y hy => h y (by simp [hy])
theorem sameBits_flat {ks : List (Option IntKind)} {xs : List Value} {a : Bool} (hx : fitL ks xs) (ha : a = false → ks.length = 1) : Instr.sameBits 10000 (vOf a xs) (vOf a xs) = true := by
  cases a with
  | true =>
    simp only [vOf, if_true]
    unfold Instr.sameBits
    simp only [BEq.rfl, Bool.true_and]
    exact zip_self xs (sameBits_leaf ks xs 9999 hx)
  | false =>
    have hl := fitL_length ks xs hx
    rw [ha rfl] at hl
    match xs, hl with
    | [x], _ =>
      simp only [vOf, Bool.false_eq_true, if_false, List.headD_cons]
      exact sameBits_leaf ks [x] 10000 hx x (by simp)
theorem flat_one {d : Nat} {t : TypeId} {ks : List (Option IntKind)} (hT : flatT P d t = some ks) (ha : isAggT P t = some false) : ks.length = 1 := by
  cases d with
  | zero => simp [flatT] at hT
  | succ d =>
    unfold flatT at hT
    unfold isAggT at ha
    cases hu : P.underlying t with
    | none => rw [hu] at hT; cases hT
    | some u =>
      rw [hu] at hT ha
      cases u <;> simp only [reduceCtorEq, Option.map_some, Option.some.injEq] at hT ha
      · subst hT; rfl
      · subst hT; rfl

/-! ### Operations on maps -/
def mapT (P : Program) (t : TypeId) : Option (TypeId × TypeId) := match P.underlying t with
  | some (.map k e) => some (k, e)
  | _ => none
theorem lookupV_map {t kt et m : Nat} {ks : List (Option IntKind)} {a : Bool} {z : Value} {ob : Obj} {M : List (List Value × Value)} {xs : List Value} (ht : mapT P t = some (kt, et)) (hT : flatT P 8 kt = some ks) (ha : isAggT P kt = some a) (hz : zeroT P et = some z) (hm : H.o m = some ob) (hM : mapIs a ks ob M) (hx : fitL ks xs) :
    lookupV P H t (.map (some m)) (vOf a xs) false = some ((lookM xs M).getD z) := by
  obtain ⟨es, clk, rfl, he, hf⟩ := hM
  unfold mapT at ht
  unfold lookupV valOf Instr.lookup
  rw [peek_then, peek_underlying]
  cases hu : P.underlying t with
  | none => rw [hu] at ht; cases ht
  | some u =>
    rw [hu] at ht
    cases u <;> simp only [reduceCtorEq, Option.some.injEq, Prod.mk.injEq] at ht
    obtain ⟨rfl, rfl⟩ := ht
    simp only [Option.bind_some]
    rw [peek_then]
    have e1 : peek P H (getObj m) = some (.map es clk) := by
      simp only [getObj, peek, hm]
    rw [e1]
    simp only [Option.bind_some]
    rw [peek_then, peek_pure]
    simp only [Option.bind_some]
    rw [peek_then, flat_check 8 _ ks a hT ha 10000 xs _ (by omega) hx]
    simp only [Option.bind_some]
    rw [peek_then, findKey_flat hT ha hx he hf]
    simp only [Option.bind_some, lookM]
    cases findM xs M 0 with
    | none =>
      simp only [Option.map_none, Option.getD_none]
      rw [peek_then, peek_zeroValue, hz]
      rfl
    | some p => rfl

def mapSetQ (P : Program) (lo : Nat) (t : TypeId) (m k v : Value) (K : AH → Nat → Prop) (H : AH) (nx : Nat) : Prop := aw P lo (Instr.mapUpdate t m k v) (fun _ => K) H nx
theorem mapSetQ_flat {t kt et m : Nat} {ks : List (Option IntKind)} {a : Bool} {ob : Obj} {M : List (List Value × Value)} {xs : List Value} {v : Value} {K : AH → Nat → Prop} (ht : mapT P t = some (kt, et)) (hT : flatT P 8 kt = some ks) (ha : isAggT P kt = some a) (hlo : lo ≤ m) (hm : H.o m = some ob) (hM : mapIs a ks ob M) (hx : fitL ks xs)
    (hK : ∀ ob', mapIs a ks ob' (setM xs v M) → K (H.setO m ob') nx) : mapSetQ P lo t (.map (some m)) (vOf a xs) v K H nx := by
  obtain ⟨es, clk, rfl, he, hf⟩ := hM
  unfold mapT at ht
  unfold mapSetQ Instr.mapUpdate
  rw [aw_then]
  cases hu : P.underlying t with
  | none => rw [hu] at ht; cases ht
  | some u =>
    rw [hu] at ht
    refine aw_of_peek (a := u) (by rw [peek_underlying, hu]) _ ?_
    cases u <;> simp only [reduceCtorEq, Option.some.injEq, Prod.mk.injEq] at ht
    obtain ⟨rfl, rfl⟩ := ht
    simp only
    rw [aw_then]
    simp only [getObj, aw]
    refine ⟨_, hm, ?_⟩
    simp only
    rw [aw_then]
    refine aw_of_peek (flat_check 8 _ ks a hT ha 10000 xs _ (by omega) hx) _ ?_
    rw [aw_then]
    refine aw_of_peek (findKey_flat hT ha hx he hf) _ ?_
    cases h : findM xs M 0 with
    | none =>
      simp only [setObj, aw]
      refine ⟨hlo, by rw [hm]; rfl, rfl, hK _ ⟨_, _, rfl, ?_, setM_fit hx M hf⟩⟩
      rw [findM_none M 0 v h]
      simp only [entL, Array.toList_push, List.map_append, List.map_cons, List.map_nil]
      rw [he]
    | some p =>
      obtain ⟨i, w⟩ := p
      simp only
      obtain ⟨_, q, hq, heq, _⟩ := findM_lt M 0 i w h
      have hmem : q ∈ M := List.mem_of_getElem? hq
      have hxq : xs = q.1 := eqLs_eq ks xs q.1 hx (hf q hmem) heq
      have hkey : ((es[i]?).map (·.key)).getD (vOf a xs) = vOf a xs := by
        have h1 := congrArg (fun l => l[i]?) he
        simp only [List.getElem?_map, Nat.sub_zero] at h1 hq
        rw [hq] at h1
        rw [← Array.getElem?_toList]
        cases hes : es.toList[i]? with
        | none => rfl
        | some e =>
          rw [hes] at h1
          simp only [Option.map_some, Option.some.injEq, Prod.mk.injEq] at h1
          simp only [Option.map_some, Option.getD_some, h1.1, hxq]
      rw [hkey]
      rw [aw_then]
      refine aw_of_peek (a := vOf a xs) ?_ _ ?_
      · unfold Instr.keyThatStays
        rw [if_pos (sameBits_flat hx fun h => flat_one hT (by rw [ha, h]))]
        rfl
      simp only [setObj, aw]
      refine ⟨hlo, by rw [hm]; rfl, rfl, hK _ ⟨_, _, rfl, ?_, setM_fit hx M hf⟩⟩
      have := findM_modify (a := a) (v := v) es.toList M 0 i w he h
      simpa [Array.toList_modify] using this

def newMapQ (K : Value → AH → Nat → Prop) (H : AH) (nx : Nat) : Prop := ∀ n, nx ≤ n → K (.map (some n)) (H.newO n (.map #[] 0)) (n + 1)

variable {dst : Option Tmp} {type : TypeId} {pos : String} {after : Array Edge} {guard : Option (Nat × Bool)} {env : Env} {K : Value → AH → Nat → Prop}
theorem aop_value {o : Oper} {s : Sem Value} (h1 : known env o = true) (h2 : ∀ cs b, o.op ≠ .select cs b) (h3 : execOp (aev env) o = do let a ← s; pure (Next.value a)) : aop P lo o env H nx K = aw P lo s K H nx := by
  unfold aop
  rw [h3]
  simp only [h1, true_and]
  refine propext ⟨fun h => (aw_bind P lo s _ _ H nx).1 h.2, fun h => ⟨h2, (aw_bind P lo s _ _ H nx).2 h⟩⟩
theorem bop_makeMap (t : TypeId) : bop P lo { dst, op := .makeMap t none, type, pos, after, guard } env H nx K = newMapQ K H nx := by
  show aop P lo _ env H nx K = _
  rw [aop_value (s := Instr.makeMap t none) (by rw [known_iff]; simp [Op.operands]) (by simp) rfl]
  rfl
theorem bop_mapUpdate (t : TypeId) (m k v : Operand) : bop P lo { dst, op := .mapUpdate t m k v, type, pos, after, guard } env H nx K = onA (ev env m) (fun m => onA (ev env k) fun k => onA (ev env v) fun v => mapSetQ P lo t m k v (K undef) H nx) := by
  show aop P lo _ env H nx K = _
  simp only [← ex_onA]
  unfold aop
  refine propext ⟨fun ⟨h1, _, h3⟩ => ?_, fun ⟨a, ha, b, hb, c, hc, h⟩ => ⟨?_, by simp, ?_⟩⟩
  · rw [known_iff] at h1
    simp [Op.operands] at h1
    obtain ⟨a, ha⟩ := Option.isSome_iff_exists.1 h1.1
    obtain ⟨b, hb⟩ := Option.isSome_iff_exists.1 h1.2.1
    obtain ⟨c, hc⟩ := Option.isSome_iff_exists.1 h1.2.2
    refine ⟨a, ha, b, hb, c, hc, ?_⟩
    simp only [execOp, ev_aev ha, ev_aev hb, ev_aev hc] at h3
    exact (aw_bind P lo _ _ _ H nx).1 h3
  · rw [known_iff]; simp [Op.operands, ha, hb, hc]
  · simp only [execOp, ev_aev ha, ev_aev hb, ev_aev hc]
    exact (aw_bind P lo _ _ _ H nx).2 h
variable {ops : Array Oper} {H0 : AH} {nx0 i : Nat} {rest : List Nat} {g : Option (Nat × Bool)} {K2 : Env → AH → Nat → Prop}
theorem dGo_makeMap (t : TypeId) : dGo P lo ops H0 nx0 i rest { dst, op := .makeMap t none, type, pos, after, guard := g } env H nx K2 = bop P lo { dst, op := .makeMap t none, type, pos, after, guard := g } env H nx (drawE P lo ops H0 nx0 i rest env dst K2) := (rfl)
theorem dGo_mapUpdate (t : TypeId) (m k v : Operand) : dGo P lo ops H0 nx0 i rest { dst, op := .mapUpdate t m k v, type, pos, after, guard := g } env H nx K2 = bop P lo { dst, op := .mapUpdate t m k v, type, pos, after, guard := g } env H nx (drawE P lo ops H0 nx0 i rest env dst K2) := (rfl)
end

theorem newO_c (H : AH) (n : Nat) (ob : Obj) (b o : Nat) (h : b ≠ n) : (H.newO n ob).c b o = H.c b o := by simp only [AH.newO]; rw [if_neg h]
theorem newO_o (H : AH) (n : Nat) (ob : Obj) (b : Nat) (h : b ≠ n) : (H.newO n ob).o b = H.o b := by simp only [AH.newO]; rw [if_neg h]
theorem newO_same (H : AH) (n : Nat) (ob : Obj) : (H.newO n ob).o n = some ob := by simp [AH.newO]
theorem newO_t (H : AH) (n : Nat) (ob : Obj) (b : Nat) (h : b ≠ n) : (H.newO n ob).t b = H.t b := by simp only [AH.newO]; rw [if_neg h]
theorem setO_c (H : AH) (n : Nat) (ob : Obj) (b o : Nat) : (H.setO n ob).c b o = H.c b o := (rfl)
theorem setO_t (H : AH) (n : Nat) (ob : Obj) (b : Nat) : (H.setO n ob).t b = H.t b := (rfl)
theorem setO_o (H : AH) (n : Nat) (ob : Obj) (b : Nat) (h : b ≠ n) : (H.setO n ob).o b = H.o b := by simp only [AH.setO]; rw [if_neg h]
theorem setO_same (H : AH) (n : Nat) (ob : Obj) : (H.setO n ob).o n = some ob := by simp [AH.setO]

theorem Kp.newO {S : Nat → Prop} {nx : Nat} {H H' : AH} (h : Kp S nx H H') {n : Nat} {ob : Obj} (hb : nx ≤ n) : Kp S nx H (H'.newO n ob) := fun b hlt hu => by
  obtain ⟨h1, h2, h3⟩ := h b hlt hu
  exact ⟨fun o => by rw [newO_c _ _ _ _ _ (by omega)]; exact h1 o, by rw [newO_o _ _ _ _ (by omega)]; exact h2, by rw [newO_t _ _ _ _ (by omega)]; exact h3⟩
theorem Kp.setO {S : Nat → Prop} {nx : Nat} {H H' : AH} (h : Kp S nx H H') {n : Nat} {ob : Obj} (hb : nx ≤ n ∨ S n) : Kp S nx H (H'.setO n ob) := fun b hlt hu => by
  obtain ⟨h1, h2, h3⟩ := h b hlt hu
  have : b ≠ n := fun e => by subst e; rcases hb with hb | hb
                              · omega
                              · exact hu hb
  exact ⟨h1, by rw [setO_o _ _ _ _ this]; exact h2, h3⟩
theorem SlA.newO {nx : Nat} {H : AH} {size : Nat} {v : Value} {n : Nat} {xs : List Value} {own k : Nat} {ob : Obj} (h : SlA nx H size v n xs own) (hb : nx ≤ k) : SlA (k + 1) (H.newO k ob) size v n xs own :=
  h.kept (by have := h.le; omega) fun b o hbo => newO_c _ _ _ _ _ (by have := h.le; omega)
theorem SlA.setO {nx : Nat} {H : AH} {size : Nat} {v : Value} {n : Nat} {xs : List Value} {own k : Nat} {ob : Obj} (h : SlA nx H size v n xs own) : SlA nx (H.setO k ob) size v n xs own := h.kept h.le fun _ _ _ => rfl
attribute [go_sem] bop_makeMap bop_mapUpdate dGo_makeMap dGo_mapUpdate newO_c newO_o newO_same newO_t setO_c setO_t setO_o setO_same
end Go.Proofs.YtngnbafididkcaaGreat
end
section
namespace Go.Proofs.YtngnbafididkcaaGreat
open Go.RowKit
set_option linter.unusedSimpArgs false

section
variable {P : Program} {lo : Nat} {H : AH} {nx : Nat}
def mkSlQ (P : Program) (lo : Nat) (t : TypeId) (a b : Value) (K : Value → AH → Nat → Prop) (H : AH) (nx : Nat) : Prop := aw P lo (Instr.makeSlice t a b) K H nx
theorem mkSlQ_of {t e : TypeId} {k bytes n : Nat} {z : Value} {K : Value → AH → Nat → Prop} (ht : slT P t = some (e, k)) (hz : zeroT P e = some z) (hby : bytesT P e = some bytes) (hn : n * k ≠ 0) (hn1 : n < 1000000) (hb : n * bytes ≤ 1000000000)
    (hk : ∀ m, nx ≤ m → K (.slice (some ⟨m, 0, none⟩) n n) (H.new m ((Array.range (n * k)).map fun i => z.cells[i % z.cells.size]!) e) (m + 1)) : mkSlQ P lo t (.int .i64 n) (.int .i64 n) K H nx := by
  unfold slT at ht
  cases hu : P.underlying t with
  | none => rw [hu] at ht; cases ht
  | some d =>
    rw [hu] at ht
    cases d <;> simp only [reduceCtorEq] at ht
    rename_i e'
    simp only [Option.map_eq_some_iff, Prod.mk.injEq] at ht
    obtain ⟨k', hk', rfl, rfl⟩ := ht
    obtain ⟨i, hi, hib⟩ : ∃ i, P.info? e' = some i ∧ i.bytes = bytes := by
      unfold bytesT at hby
      cases h : P.info? e' with
      | none => rw [h] at hby; cases hby
      | some i => rw [h] at hby; exact ⟨i, rfl, by simpa using hby⟩
    unfold mkSlQ Instr.makeSlice
    rw [aw_then]
    refine aw_of_peek (by rw [peek_underlying, hu]) _ ?_
    rw [aw_then]
    refine aw_of_peek (a := (n : Int)) rfl _ ?_
    rw [aw_then]
    refine aw_of_peek (a := (n : Int)) rfl _ ?_
    rw [aw_then]
    refine aw_of_peek (by rw [peek_typeInfo, hi]) _ ?_
    have hw : IntKind.i64.wrap (n : Int) = n := wrap_i64 (by omega) (by omega)
    have h2 : ¬ ((i.bytes : Int) * n > 2 ^ 48) := by
      rw [hib]
      have : (n : Int) * bytes ≤ 1000000000 := by rw [← Int.natCast_mul]; exact Int.ofNat_le.2 hb
      rw [Int.mul_comm] at this
      omega
    have h0 : ¬ ((n : Int) < 0) := by omega
    simp only [hw]
    split
    · rename_i h
      simp only [Bool.or_eq_true, decide_eq_true_eq] at h
      omega
    simp only [Int.toNat_natCast]
    rw [aw_then]
    refine aw_of_peek (a := ()) (by unfold askRoom; split <;> rfl) _ ?_
    rw [aw_then]
    refine aw_of_peek (by rw [peek_sizeOf, hk']) _ ?_
    simp only [hn, if_false]
    rw [aw_then]
    refine aw_of_peek (a := z) ?_ _ ?_
    · unfold zeroValue
      rw [peek_then, peek_typeInfo]
      unfold zeroT at hz
      rw [hi] at hz ⊢
      simp only [Option.bind_some] at hz ⊢
      rw [hz]; rfl
    · rw [aw_then, aw_pure, aw_then]
      refine aw_newRow fun m hm => ?_
      rw [aw_pure]
      exact hk m hm
variable {dst : Option Tmp} {type : TypeId} {pos : String} {after : Array Edge} {guard : Option (Nat × Bool)} {env : Env} {K : Value → AH → Nat → Prop}
theorem bop_makeSlice (t : TypeId) (x z : Operand) : bop P lo { dst, op := .makeSlice t x z, type, pos, after, guard } env H nx K = onA (ev env x) (fun a => onA (ev env z) fun b => mkSlQ P lo t a b K H nx) := by
  show aop P lo _ env H nx K = _
  simp only [← ex_onA]
  unfold aop
  refine propext ⟨fun ⟨h1, _, h3⟩ => ?_, fun ⟨a, ha, b, hb, h⟩ => ⟨?_, by simp, ?_⟩⟩
  · rw [known_iff] at h1
    simp [Op.operands] at h1
    obtain ⟨a, ha⟩ := Option.isSome_iff_exists.1 h1.1
    obtain ⟨b, hb⟩ := Option.isSome_iff_exists.1 h1.2
    refine ⟨a, ha, b, hb, ?_⟩
    simp only [execOp, ev_aev ha, ev_aev hb] at h3
    exact (aw_bind P lo _ _ _ H nx).1 h3
  · rw [known_iff]; simp [Op.operands, ha, hb]
  · simp only [execOp, ev_aev ha, ev_aev hb]
    exact (aw_bind P lo _ _ _ H nx).2 h
end
attribute [go_sem] bop_makeSlice
end Go.Proofs.YtngnbafididkcaaGreat
end
