/- OUR OWN LOGIC OVER THE KIT'S. 21: maps in general (keys that are strings, numbers, pointers, flat structs), ranges over maps, 'delete'. Nothing of the program stands here. -/
import Derived.Test.YtngnbafididkcaaGreatL20
import Derived.Test.YtngnbafididkcaaGreatL19
namespace Go.Proofs.YtngnbafididkcaaGreat
open Go.RowKit
set_option linter.unusedSimpArgs false

/-! ### Lists of pairs -/
theorem map_eraseIdx' {α β : Type} (f : α → β) : ∀ (l : List α) (i : Nat), (l.eraseIdx i).map f = (l.map f).eraseIdx i
  | [], _ => by simp
  | x :: l, 0 => by simp
  | x :: l, i + 1 => by simp [map_eraseIdx' f l i]
def UqA {α β : Type} (l : List (α × β)) : Prop := l.Pairwise fun p q => p.1 ≠ q.1
theorem UqA.iff {α β : Type} (l : List (α × β)) : UqA l ↔ (l.map (·.1)).Nodup := by
  unfold UqA List.Nodup
  rw [List.pairwise_map]
section
variable {α β : Type} [DecidableEq α]
def getA (x : α) : List (α × β) → Option β
  | [] => none
  | p :: r => if p.1 = x then some p.2 else getA x r
def setA (x : α) (v : β) : List (α × β) → List (α × β)
  | [] => [(x, v)]
  | p :: r => if p.1 = x then (x, v) :: r else p :: setA x v r
def delA (x : α) (l : List (α × β)) : List (α × β) := l.filter fun p => !decide (p.1 = x)

theorem getA_set (x y : α) (v : β) : ∀ l : List (α × β), getA y (setA x v l) = if x = y then some v else getA y l
  | [] => rfl
  | p :: r => by
    simp only [setA]
    split
    · rename_i h
      simp only [getA]
      subst h
      split <;> rfl
    · rename_i h
      simp only [getA, getA_set x y v r]
      split
      · rename_i h2
        rw [if_neg (by subst h2; exact fun e => h e.symm)]
      · rfl
theorem getA_del (x y : α) : ∀ l : List (α × β), getA y (delA x l) = if x = y then none else getA y l
  | [] => by simp [delA, getA]
  | p :: r => by
    have ih := getA_del x y r
    unfold delA at ih ⊢
    rw [List.filter_cons]
    by_cases h : p.1 = x
    · simp only [h, decide_true, Bool.not_true, Bool.false_eq_true, if_false, ih, getA]
      split <;> rfl
    · simp only [h, decide_false, Bool.not_false, if_true, getA, ih]
      split
      · rename_i h2
        rw [if_neg (by subst h2; exact fun e => h e.symm)]
      · rfl
theorem getA_none {x : α} : ∀ {l : List (α × β)}, getA x l = none ↔ ∀ p ∈ l, p.1 ≠ x
  | [] => by simp [getA]
  | p :: r => by
    simp only [getA, List.mem_cons, forall_eq_or_imp]
    split
    · rename_i h; simp [h]
    · rename_i h; simp [h, getA_none]
theorem getA_mem {x : α} {v : β} : ∀ {l : List (α × β)}, getA x l = some v → (x, v) ∈ l
  | [], h => by simp [getA] at h
  | p :: r, h => by
    simp only [getA] at h
    split at h
    · rename_i e
      simp only [Option.some.injEq] at h
      subst e; subst h
      simp
    · simp [getA_mem h]
theorem mem_getA {x : α} {v : β} : ∀ {l : List (α × β)}, UqA l → (x, v) ∈ l → getA x l = some v
  | [], _, h => by simp at h
  | p :: r, hu, h => by
    unfold UqA at hu
    rw [List.pairwise_cons] at hu
    rcases List.mem_cons.1 h with rfl | h
    · simp [getA]
    · simp only [getA]
      rw [if_neg (hu.1 _ h)]
      exact mem_getA hu.2 h
theorem setA_fresh {x : α} {v : β} : ∀ {l : List (α × β)}, getA x l = none → setA x v l = l ++ [(x, v)]
  | [], _ => rfl
  | p :: r, h => by
    simp only [getA] at h
    split at h
    · cases h
    · rename_i e
      rw [setA, if_neg e, setA_fresh h]; rfl
theorem setA_keys {x : α} {v w : β} : ∀ {l : List (α × β)}, getA x l = some w → (setA x v l).map (·.1) = l.map (·.1)
  | [], h => by simp [getA] at h
  | p :: r, h => by
    simp only [getA] at h
    split at h
    · rename_i e; simp [setA, e]
    · rename_i e; simp [setA, e, setA_keys h]
theorem UqA.set {x : α} {v : β} {l : List (α × β)} (h : UqA l) : UqA (setA x v l) := by
  cases hg : getA x l with
  | none =>
    rw [setA_fresh hg]
    unfold UqA at *
    rw [List.pairwise_append]
    exact ⟨h, by simp, fun p hp q hq => by simp only [List.mem_singleton] at hq; subst hq; exact getA_none.1 hg p hp⟩
  | some w => rw [UqA.iff, setA_keys hg, ← UqA.iff]; exact h
theorem UqA.del {x : α} {l : List (α × β)} (h : UqA l) : UqA (delA x l) := h.filter _
theorem mem_setA {x : α} {v : β} : ∀ {l : List (α × β)} {p : α × β}, p ∈ setA x v l → p = (x, v) ∨ p ∈ l
  | [], p, h => by simp only [setA, List.mem_singleton] at h; exact .inl h
  | q :: r, p, h => by
    simp only [setA] at h
    split at h
    · rcases List.mem_cons.1 h with h | h
      · exact .inl h
      · exact .inr (by simp [h])
    · rcases List.mem_cons.1 h with h | h
      · exact .inr (by simp [h])
      · rcases mem_setA h with h | h
        · exact .inl h
        · exact .inr (by simp [h])
theorem mem_delA {x : α} {l : List (α × β)} {p : α × β} : p ∈ delA x l ↔ p ∈ l ∧ p.1 ≠ x := by simp [delA, List.mem_filter]

/-- An entry by its key: where it lies. -/
def findZ (x : α) : List α → List MapEntry → Nat → Option (Nat × Value)
  | k :: ks, e :: es, i => if k = x then some (i, e.val) else findZ x ks es (i + 1)
  | _, _, _ => none
end

/-- A key's type: how its keys are compared ('g': what is known of them). -/
structure KeyT {α : Type} [DecidableEq α] (P : Program) (kt : TypeId) (ek : α → Value) (g : AH → α → Prop) : Prop where
  chk : ∀ (H : AH) (x : α) (emp : Bool), peek P H (Instr.checkKey emp 10000 kt (ek x)) = some ()
  fnd : ∀ (H : AH) (x : α) (ks : List α) (es : List MapEntry), g H x → (∀ k ∈ ks, g H k) → es.map (·.key) = ks.map ek → peek P H (Instr.findKey kt (ek x) es) = some (findZ x ks es 0)
  bits : ∀ x, Instr.sameBits 10000 (ek x) (ek x) = true

/-- What a map holds; each entry with the number that it was born with. -/
structure MapZ {α β : Type} (ek : α → Value) (ev : β → Value) (ob : Obj) (clk : Nat) (z : List (Nat × α × β)) : Prop where
  q : ∃ es, ob = .map es clk ∧ es.toList.map (fun e => (e.born, e.key, e.val)) = z.map (fun t => (t.1, ek t.2.1, ev t.2.2))
  lt : ∀ t ∈ z, t.1 < clk
  inc : z.Pairwise fun s t => s.1 < t.1
def MapA {α β : Type} [DecidableEq α] (ek : α → Value) (ev : β → Value) (ob : Obj) (l : List (α × β)) : Prop := UqA l ∧ ∃ clk z, MapZ ek ev ob clk z ∧ z.map (·.2) = l
theorem MapA.nil {α β : Type} [DecidableEq α] (ek : α → Value) (ev : β → Value) : MapA ek ev (.map #[] 0) [] := ⟨List.Pairwise.nil, 0, [], ⟨⟨#[], rfl, rfl⟩, by simp, List.Pairwise.nil⟩, rfl⟩
theorem MapA.uq {α β : Type} [DecidableEq α] {ek : α → Value} {ev : β → Value} {ob : Obj} {l : List (α × β)} (h : MapA ek ev ob l) : UqA l := h.1

section
variable {α β : Type} [DecidableEq α] {ek : α → Value} {ev : β → Value}

theorem MapA.entries {ob : Obj} {l : List (α × β)} (h : MapA ek ev ob l) : ∃ es clk, ob = .map es clk ∧ es.toList.map (·.key) = l.map (fun p => ek p.1) ∧ es.toList.map (·.val) = l.map (fun p => ev p.2) := by
  obtain ⟨_, clk, z, ⟨⟨es, rfl, he⟩, _, _⟩, rfl⟩ := h
  refine ⟨es, clk, rfl, ?_, ?_⟩
  · have := congrArg (List.map (fun t : Nat × Value × Value => t.2.1)) he
    simpa [Function.comp_def] using this
  · have := congrArg (List.map (fun t : Nat × Value × Value => t.2.2)) he
    simpa [Function.comp_def] using this

theorem findZ_get (x : α) : ∀ (l : List (α × β)) (es : List MapEntry) (i : Nat), es.map (·.val) = l.map (fun p => ev p.2) → (findZ x (l.map (·.1)) es i).map (·.2) = (getA x l).map ev
  | [], es, i, _ => by simp [findZ, getA]
  | p :: l, [], i, h => by simp at h
  | p :: l, e :: es, i, h => by
    simp only [List.map_cons, List.cons.injEq] at h
    simp only [List.map_cons, findZ, getA]
    split
    · simp [h.1]
    · exact findZ_get x l es (i + 1) h.2
theorem findZ_lt {x : α} : ∀ (ks : List α) (es : List MapEntry) (i j : Nat) (v : Value), findZ x ks es i = some (j, v) → i ≤ j ∧ ks[j - i]? = some x ∧ (∀ m, m < j - i → ks[m]? ≠ some x)
  | [], _, _, _, _, h => by simp [findZ] at h
  | _ :: _, [], _, _, _, h => by simp [findZ] at h
  | k :: ks, e :: es, i, j, v, h => by
    simp only [findZ] at h
    split at h
    · rename_i hk
      simp only [Option.some.injEq, Prod.mk.injEq] at h
      obtain ⟨rfl, _⟩ := h
      simp [hk]
    · rename_i hk
      obtain ⟨h1, h2, h3⟩ := findZ_lt ks es (i + 1) j v h
      refine ⟨by omega, ?_, fun m hm => ?_⟩
      · rw [show j - i = (j - (i + 1)) + 1 by omega]; simpa using h2
      · cases m with
        | zero => simpa using hk
        | succ m => simpa using h3 m (by omega)
theorem findZ_none {x : α} : ∀ (l : List (α × β)) (es : List MapEntry) (i : Nat), es.length = l.length → findZ x (l.map (·.1)) es i = none → getA x l = none
  | [], _, _, _, _ => rfl
  | p :: l, [], _, h, _ => by simp at h
  | p :: l, e :: es, i, hl, h => by
    simp only [List.map_cons, findZ] at h
    split at h
    · cases h
    · rename_i hk
      simp only [getA]
      rw [if_neg hk]
      exact findZ_none l es (i + 1) (by simpa using hl) h

variable {P : Program} {lo : Nat} {H : AH} {nx : Nat}
theorem lookupV_mapA {t kt et m : Nat} {g : AH → α → Prop} {z : Value} {ob : Obj} {l : List (α × β)} {x : α} (hK : KeyT P kt ek g) (ht : mapT P t = some (kt, et)) (hz : zeroT P et = some z) (hm : H.o m = some ob) (hM : MapA ek ev ob l) (hx : g H x) (hg : ∀ p ∈ l, g H p.1) :
    lookupV P H t (.map (some m)) (ek x) false = some (((getA x l).map ev).getD z) := by
  obtain ⟨es, clk, rfl, hk, hv⟩ := hM.entries
  unfold mapT at ht
  unfold lookupV valOf Instr.lookup
  rw [peek_then, peek_underlying]
  cases hu : P.underlying t with
  | none => rw [hu] at ht; cases ht
  | some u =>
    rw [hu] at ht
    cases u <;> simp only [reduceCtorEq, Option.some.injEq, Prod.mk.injEq] at ht
    obtain ⟨rfl, rfl⟩ := ht
    simp only [Option.bind_some]
    rw [peek_then]
    have e1 : peek P H (getObj m) = some (.map es clk) := by
      simp only [getObj, peek, hm]
    rw [e1]
    simp only [Option.bind_some]
    rw [peek_then, peek_pure]
    simp only [Option.bind_some]
    rw [peek_then, hK.chk]
    simp only [Option.bind_some]
    rw [peek_then, hK.fnd H x (l.map (·.1)) es.toList hx (by simpa using fun a b hab => hg (a, b) hab) (by rw [hk]; simp)]
    have hget := findZ_get (ev := ev) x l es.toList 0 hv
    simp only [Option.bind_some]
    cases hf : findZ x (l.map (·.1)) es.toList 0 with
    | none =>
      rw [hf] at hget
      simp only [Option.map_none] at hget
      rw [← hget]
      simp only [Option.getD_none]
      rw [peek_then, peek_zeroValue, hz]
      rfl
    | some p =>
      rw [hf] at hget
      simp only [Option.map_some] at hget
      rw [← hget]
      rfl

theorem MapA.set {es : Array MapEntry} {clk : Nat} {l : List (α × β)} (h : MapA ek ev (.map es clk) l) (x : α) (v : β) :
    (∀ i w, findZ x (l.map (·.1)) es.toList 0 = some (i, w) → MapA ek ev (.map (es.modify i fun e => { e with key := ek x, val := ev v }) clk) (setA x v l)) ∧
    (findZ x (l.map (·.1)) es.toList 0 = none → MapA ek ev (.map (es.push { key := ek x, val := ev v, born := clk }) (clk + 1)) (setA x v l)) := by
  obtain ⟨hu, clk', z, ⟨⟨es', he, hz⟩, hlt, hinc⟩, rfl⟩ := h
  cases he
  constructor
  · intro i w hf
    obtain ⟨_, h2, h3⟩ := findZ_lt _ _ _ _ _ hf
    simp only [Nat.sub_zero] at h2 h3
    have key : ∀ (z : List (Nat × α × β)) (es : List MapEntry) (i : Nat), es.map (fun e => (e.born, e.key, e.val)) = z.map (fun t => (t.1, ek t.2.1, ev t.2.2)) → ((z.map (·.2)).map (·.1))[i]? = some x → (∀ m, m < i → ((z.map (·.2)).map (·.1))[m]? ≠ some x) →
        ∃ z' : List (Nat × α × β), (es.modify i fun e => { e with key := ek x, val := ev v }).map (fun e => (e.born, e.key, e.val)) = z'.map (fun t => (t.1, ek t.2.1, ev t.2.2)) ∧ z'.map (·.2) = setA x v (z.map (·.2)) ∧ z'.map (·.1) = z.map (·.1) := by
      intro z
      induction z with
      | nil => intro es i _ h2; simp at h2
      | cons t z ih =>
        intro es i he h2 h3
        cases es with
        | nil => simp at he
        | cons e es =>
          simp only [List.map_cons, List.cons.injEq] at he
          cases i with
          | zero =>
            simp only [List.map_cons, List.getElem?_cons_zero, Option.some.injEq] at h2
            refine ⟨(t.1, x, v) :: z, ?_, ?_, rfl⟩
            · simp only [List.modify_zero_cons, List.map_cons, List.cons.injEq, Prod.mk.injEq] at he ⊢
              exact ⟨⟨he.1.1, trivial⟩, he.2⟩
            · simp only [List.map_cons, setA, h2, if_true]
          | succ i =>
            have h0 := h3 0 (by omega)
            simp only [List.map_cons, List.getElem?_cons_zero, ne_eq, Option.some.injEq] at h0
            obtain ⟨z', g1, g2, g3⟩ := ih es i he.2 (by simpa using h2) (fun m hm => by simpa using h3 (m + 1) (by omega))
            refine ⟨t :: z', ?_, ?_, by simp [g3]⟩
            · simp only [List.modify_succ_cons, List.map_cons, List.cons.injEq]
              exact ⟨he.1, g1⟩
            · simp only [List.map_cons, setA]
              rw [if_neg h0, g2]
    obtain ⟨z', g1, g2, g3⟩ := key z es.toList i hz h2 h3
    refine ⟨hu.set, clk, z', ⟨⟨_, rfl, by rw [Array.toList_modify]; exact g1⟩, ?_, ?_⟩, g2⟩
    · intro t ht
      have : t.1 ∈ z'.map (·.1) := List.mem_map_of_mem ht
      rw [g3] at this
      obtain ⟨s, hs, hst⟩ := List.mem_map.1 this
      rw [← hst]; exact hlt s hs
    · have h : (z.map (·.1)).Pairwise (· < ·) := by rw [List.pairwise_map]; exact hinc
      rw [← g3, List.pairwise_map] at h
      exact h
  · intro hf
    have hlen : es.toList.length = (z.map (·.2)).length := by
      have := congrArg List.length hz
      simpa using this
    have hn := findZ_none _ _ _ hlen hf
    rw [setA_fresh hn]
    refine ⟨?_, clk + 1, z ++ [(clk, x, v)], ⟨⟨_, rfl, ?_⟩, ?_, ?_⟩, by simp⟩
    · rw [← setA_fresh hn]; exact hu.set
    · simp only [Array.toList_push, List.map_append, hz, List.map_cons, List.map_nil]
    · intro t ht
      rcases List.mem_append.1 ht with ht | ht
      · have := hlt t ht; omega
      · simp only [List.mem_singleton] at ht; subst ht; simp
    · rw [List.pairwise_append]
      exact ⟨hinc, by simp, fun s hs t ht => by simp only [List.mem_singleton] at ht; subst ht; exact hlt s hs⟩

theorem mapSetQ_A {t kt et m : Nat} {g : AH → α → Prop} {ob : Obj} {l : List (α × β)} {x : α} {v : β} {K : AH → Nat → Prop} (hK : KeyT P kt ek g) (ht : mapT P t = some (kt, et)) (hlo : lo ≤ m) (hm : H.o m = some ob) (hM : MapA ek ev ob l) (hx : g H x) (hg : ∀ p ∈ l, g H p.1)
    (hk : ∀ ob', MapA ek ev ob' (setA x v l) → K (H.setO m ob') nx) : mapSetQ P lo t (.map (some m)) (ek x) (ev v) K H nx := by
  obtain ⟨es, clk, rfl, hk0, hv0⟩ := hM.entries
  obtain ⟨hs1, hs2⟩ := hM.set x v
  unfold mapT at ht
  unfold mapSetQ Instr.mapUpdate
  rw [aw_then]
  cases hu : P.underlying t with
  | none => rw [hu] at ht; cases ht
  | some u =>
    rw [hu] at ht
    refine aw_of_peek (a := u) (by rw [peek_underlying, hu]) _ ?_
    cases u <;> simp only [reduceCtorEq, Option.some.injEq, Prod.mk.injEq] at ht
    obtain ⟨rfl, rfl⟩ := ht
    simp only
    rw [aw_then]
    simp only [getObj, aw]
    refine ⟨_, hm, ?_⟩
    simp only
    rw [aw_then]
    refine aw_of_peek (hK.chk H x _) _ ?_
    rw [aw_then]
    refine aw_of_peek (hK.fnd H x (l.map (·.1)) es.toList hx (by simpa using fun a b hab => hg (a, b) hab) (by rw [hk0]; simp)) _ ?_
    cases hf : findZ x (l.map (·.1)) es.toList 0 with
    | none =>
      simp only [setObj, aw]
      exact ⟨hlo, by rw [hm]; rfl, rfl, hk _ (hs2 hf)⟩
    | some p =>
      obtain ⟨i, w⟩ := p
      simp only
      obtain ⟨_, h2, _⟩ := findZ_lt _ _ _ _ _ hf
      have hkey : ((es[i]?).map (·.key)).getD (ek x) = ek x := by
        have h1 := congrArg (fun l => l[i]?) hk0
        simp only [List.getElem?_map, Nat.sub_zero] at h1 h2
        rw [← Array.getElem?_toList]
        cases hes : es.toList[i]? with
        | none => rfl
        | some e =>
          rw [hes] at h1
          cases hl : l[i]? with
          | none => rw [hl] at h2; cases h2
          | some p =>
            rw [hl] at h1 h2
            simp only [Option.map_some, Option.some.injEq] at h1 h2
            simp only [Option.map_some, Option.getD_some, h1, h2]
      rw [hkey]
      rw [aw_then]
      refine aw_of_peek (a := ek x) ?_ _ ?_
      · unfold Instr.keyThatStays
        rw [if_pos (hK.bits x)]
        rfl
      simp only [setObj, aw]
      exact ⟨hlo, by rw [hm]; rfl, rfl, hk _ (hs1 i w hf)⟩

/-! ### 'delete' -/
def delQ (P : Program) (lo : Nat) (ts : Array TypeId) (type : TypeId) (xs : List Value) (K : Value → AH → Nat → Prop) (H : AH) (nx : Nat) : Prop := aw P lo (Builtin.delete_ ts type xs.toArray) K H nx
theorem MapA.del {es : Array MapEntry} {clk : Nat} {l : List (α × β)} (h : MapA ek ev (.map es clk) l) (x : α) :
    (∀ i w, findZ x (l.map (·.1)) es.toList 0 = some (i, w) → MapA ek ev (.map (es.eraseIdxIfInBounds i) clk) (delA x l)) ∧
    (findZ x (l.map (·.1)) es.toList 0 = none → MapA ek ev (.map es clk) (delA x l)) := by
  have h0 := h
  obtain ⟨hu, clk', z, ⟨⟨es', he, hz⟩, hlt, hinc⟩, rfl⟩ := h
  cases he
  have hlen : es.toList.length = (z.map (·.2)).length := by
    have := congrArg List.length hz
    simpa using this
  constructor
  · intro i w hf
    obtain ⟨_, h2, _⟩ := findZ_lt _ _ _ _ _ hf
    simp only [Nat.sub_zero] at h2
    have hi : i < es.size := by
      have := (List.getElem?_eq_some_iff.1 h2).1
      simp only [List.length_map] at this hlen
      have h3 : es.toList.length = es.size := Array.length_toList
      omega
    have key : ∀ (l : List (α × β)) (i : Nat), UqA l → (l.map (·.1))[i]? = some x → l.eraseIdx i = delA x l := by
      intro l
      induction l with
      | nil => intro i _ h; simp at h
      | cons p r ih =>
        intro i hu h
        unfold UqA at hu
        rw [List.pairwise_cons] at hu
        cases i with
        | zero =>
          simp only [List.map_cons, List.getElem?_cons_zero, Option.some.injEq] at h
          subst h
          simp only [List.eraseIdx_cons_zero]
          unfold delA
          rw [List.filter_cons_of_neg (by simp)]
          rw [List.filter_eq_self.2]
          intro q hq
          have := hu.1 q hq
          simp only [Bool.not_eq_true', decide_eq_false_iff_not]
          exact fun e => this e.symm
        | succ i =>
          simp only [List.map_cons, List.getElem?_cons_succ] at h
          have hx : p.1 ≠ x := by
            have := List.mem_of_getElem? h
            obtain ⟨q, hq, hqx⟩ := List.mem_map.1 this
            rw [← hqx]
            exact hu.1 q hq
          simp only [List.eraseIdx_cons_succ]
          rw [ih i hu.2 h]
          unfold delA
          rw [List.filter_cons_of_pos (by simp [hx])]
    refine ⟨hu.del, clk, z.eraseIdx i, ⟨⟨_, rfl, ?_⟩, fun t ht => hlt t (List.mem_of_mem_eraseIdx ht), hinc.sublist (List.eraseIdx_sublist _ _)⟩, ?_⟩
    · have e : (es.eraseIdxIfInBounds i).toList = es.toList.eraseIdx i := by
        unfold Array.eraseIdxIfInBounds
        rw [dif_pos hi, Array.toList_eraseIdx]
      rw [e, map_eraseIdx', hz, map_eraseIdx']
    · rw [map_eraseIdx']
      exact key _ i hu h2
  · intro hf
    have hn := findZ_none _ _ _ hlen hf
    have : delA x (z.map (·.2)) = z.map (·.2) := by
      unfold delA
      rw [List.filter_eq_self]
      intro p hp
      have := getA_none.1 hn p hp
      simpa using this
    rw [this]
    exact h0
theorem delQ_A {ts : Array TypeId} {type t kt et m : Nat} {g : AH → α → Prop} {ob : Obj} {l : List (α × β)} {x : α} {K : Value → AH → Nat → Prop} (hK : KeyT P kt ek g) (hts : ts[0]? = some t) (ht : mapT P t = some (kt, et)) (hlo : lo ≤ m) (hm : H.o m = some ob) (hM : MapA ek ev ob l) (hx : g H x) (hg : ∀ p ∈ l, g H p.1)
    (hk : ∀ ob', MapA ek ev ob' (delA x l) → K (.tuple #[]) (H.setO m ob') nx) : delQ P lo ts type [.map (some m), ek x] K H nx := by
  obtain ⟨es, clk, rfl, hk0, hv0⟩ := hM.entries
  obtain ⟨hs1, hs2⟩ := hM.del x
  unfold mapT at ht
  unfold delQ Builtin.delete_
  simp only [hts, List.getElem?_toArray, List.getElem?_cons_zero, List.getElem?_cons_succ]
  rw [aw_then]
  cases hu : P.underlying t with
  | none => rw [hu] at ht; cases ht
  | some u =>
    rw [hu] at ht
    refine aw_of_peek (a := u) (by rw [peek_underlying, hu]) _ ?_
    cases u <;> simp only [reduceCtorEq, Option.some.injEq, Prod.mk.injEq] at ht
    obtain ⟨rfl, rfl⟩ := ht
    simp only
    rw [aw_then]
    simp only [getObj, aw]
    refine ⟨_, hm, ?_⟩
    simp only
    rw [aw_then]
    refine aw_of_peek (hK.chk H x _) _ ?_
    rw [aw_then]
    refine aw_of_peek (hK.fnd H x (l.map (·.1)) es.toList hx (by simpa using fun a b hab => hg (a, b) hab) (by rw [hk0]; simp)) _ ?_
    cases hf : findZ x (l.map (·.1)) es.toList 0 with
    | none =>
      simp only
      rw [aw_then]
      simp only [setObj, aw, aw_pure]
      exact ⟨hlo, by rw [hm]; rfl, rfl, hk _ (hs2 hf)⟩
    | some p =>
      obtain ⟨i, w⟩ := p
      simp only
      rw [aw_then]
      simp only [setObj, aw, aw_pure]
      exact ⟨hlo, by rw [hm]; rfl, rfl, hk _ (hs1 i w hf)⟩
end
end Go.Proofs.YtngnbafididkcaaGreat
