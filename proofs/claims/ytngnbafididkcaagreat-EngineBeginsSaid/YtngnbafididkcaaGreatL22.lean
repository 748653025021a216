/- OUR OWN LOGIC OVER THE KIT'S. 22: ranges over maps and strings; keys' types; interfaces that hold maps; the operations' rules. Nothing of the program stands here. -/
import Derived.Test.YtngnbafididkcaaGreatL21
namespace Go.Proofs.YtngnbafididkcaaGreat
open Go.RowKit
set_option linter.unusedSimpArgs false

/-! ### Keys' types -/
section
variable {P : Program}
def simpleK : TypeDesc → Bool
  | .interface _ | .array _ _ | .struct _ => false
  | _ => true
theorem check_simple {kt : TypeId} {u : TypeDesc} {H : AH} {v : Value} {emp : Bool} (hu : P.underlying kt = some u) (h : simpleK u = true) : peek P H (Instr.checkKey emp 10000 kt v) = some () := by
  rw [show (10000 : Nat) = 9999 + 1 from rfl, Instr.checkKey, peek_then, peek_underlying, hu]
  simp only [Option.bind_some]
  cases u <;> first | (simp [simpleK] at h; done) | (cases v <;> rfl)
theorem beq_bytes (a b : ByteArray) : (a == b) = decide (b = a) := by
  rw [Bool.eq_iff_iff, decide_eq_true_iff]
  obtain ⟨a⟩ := a
  obtain ⟨b⟩ := b
  show (a == b) = true ↔ _
  rw [beq_iff_eq, ByteArray.mk.injEq]
  exact ⟨fun h => h.symm, fun h => h.symm⟩
theorem findKey_now {α : Type} [DecidableEq α] {kt : TypeId} {u : TypeDesc} {ek : α → Value} {H : AH} (hu : P.underlying kt = some u) (hsn : ∀ x y, Instr.sameNow u (ek x) (ek y) = some (decide (y = x))) (x : α) (ks : List α) (es : List MapEntry) (h : es.map (·.key) = ks.map ek) : peek P H (Instr.findKey kt (ek x) es) = some (findZ x ks es 0) := by
  have key : ∀ (ks : List α) (es : List MapEntry) (i : Nat), es.map (·.key) = ks.map ek → Instr.findNow u (ek x) es i = some (findZ x ks es i) := by
    intro ks
    induction ks with
    | nil => intro es i h; cases es with
      | nil => rfl
      | cons e es => simp at h
    | cons k ks ih =>
      intro es i h
      cases es with
      | nil => simp at h
      | cons e es =>
        simp only [List.map_cons, List.cons.injEq] at h
        simp only [Instr.findNow, h.1, hsn, findZ]
        by_cases e0 : k = x
        · simp [e0]
        · simp only [e0, decide_false, if_false]; exact ih es (i + 1) h.2
  unfold Instr.findKey
  rw [peek_then, peek_underlying, hu]
  simp only [Option.bind_some]
  rw [key ks es 0 h]
  rfl

def ekS (s : ByteArray) : Value := .string s
theorem keyT_str {kt : TypeId} (hu : P.underlying kt = some .string) : KeyT P kt ekS (fun _ _ => True) where
  chk H x emp := check_simple hu rfl
  fnd H x ks es _ _ h := findKey_now hu (fun a b => by
    simp only [ekS, Instr.sameNow, Option.some.injEq]
    exact beq_bytes a b) x ks es h
  bits x := by
    simp only [ekS, Instr.sameBits]
    rw [beq_bytes]; simp
def ekI (j : IntKind) (n : Int) : Value := .int j n
theorem keyT_int {kt : TypeId} {j : IntKind} (hu : P.underlying kt = some (.int j)) : KeyT P kt (ekI j) (fun _ _ => True) where
  chk H x emp := check_simple hu rfl
  fnd H x ks es _ _ h := findKey_now hu (fun a b => by
    simp only [ekI, Instr.sameNow, if_true, Option.some.injEq]
    rw [Bool.eq_iff_iff, beq_iff_eq, decide_eq_true_iff]
    exact ⟨fun h => h.symm, fun h => h.symm⟩) x ks es h
  bits x := by simp [ekI, Instr.sameBits]
def ekP (x : Option Nat) : Value := .pointer (x.map fun b => ⟨b, 0, none⟩)
def gP (H : AH) (x : Option Nat) : Prop := ∀ b, x = some b → (H.t b).isSome = true
theorem peek_frozenT {H : AH} {a : Addr} (h : (H.t a.block).isSome = true) : peek P H (frozen a) = some false := by simp [frozen, peek, h]
theorem peek_shapeT {H : AH} {r : Nat} {x : TypeId × Nat} (h : H.t r = some x) : peek P H (shape r) = some (some x) := by simp [shape, peek, h]
theorem peek_noViewT {H : AH} {a : Addr} (h : (H.t a.block).isSome = true) : peek P H (noView a) = some () := by
  obtain ⟨x, hx⟩ := Option.isSome_iff_exists.1 h
  unfold noView viewAt
  rw [peek_then, peek_then, peek_shapeT hx]
  simp only [Option.bind_some, Option.isSome_some, if_true, peek_pure, Option.isSome_none, Bool.false_eq_true, if_false]
theorem peek_stringishT {H : AH} {a : Addr} (h : (H.t a.block).isSome = true) : peek P H (stringish a) = some false := by
  obtain ⟨x, hx⟩ := Option.isSome_iff_exists.1 h
  unfold stringish
  rw [peek_then, peek_frozenT h]
  simp only [Option.bind_some, Bool.false_eq_true, if_false]
  rw [peek_then, peek_shapeT hx]
  simp only [Option.bind_some]
  exact peek_frozenT h
theorem peek_sameAddr {H : AH} {a b : Nat} (ha : (H.t a).isSome = true) (hb : (H.t b).isSome = true) : peek P H (sameAddr ⟨a, 0, none⟩ ⟨b, 0, none⟩) = some (decide (b = a)) := by
  unfold sameAddr
  by_cases e : a = b
  · subst e
    simp only [BEq.rfl, if_true, decide_true]
    rfl
  · have e1 : (a == b) = false := by simpa using e
    have e2 : decide (b = a) = false := by simpa using fun h => e h.symm
    simp only [e1, Bool.false_eq_true, if_false, e2]
    rw [peek_then, peek_frozenT ha]
    simp only [Option.bind_some]
    rw [peek_then, peek_frozenT hb]
    simp only [Option.bind_some, Bool.and_self, Bool.false_eq_true, if_false]
    rw [peek_then, peek_noViewT (a := ⟨a, 0, none⟩) ha]
    simp only [Option.bind_some]
    rw [peek_then, peek_noViewT (a := ⟨b, 0, none⟩) hb]
    simp only [Option.bind_some]
    have hm : peek P H (mayBeOne ⟨a, 0, none⟩ ⟨b, 0, none⟩) = some false := by
      unfold mayBeOne
      obtain ⟨x, hx⟩ := Option.isSome_iff_exists.1 ha
      obtain ⟨y, hy⟩ := Option.isSome_iff_exists.1 hb
      simp only [peek_then, peek_stringishT (a := ⟨a, 0, none⟩) ha, peek_stringishT (a := ⟨b, 0, none⟩) hb, Option.bind_some, peek_shapeT (r := a) hx, peek_shapeT (r := b) hy, peek_pure, Bool.false_and, Bool.and_self, Bool.or_self]
    rw [peek_then, hm]
    simp only [Option.bind_some, Bool.false_eq_true, if_false]
    rfl
theorem keyT_ptr {kt el n : Nat} (hu : P.underlying kt = some (.pointer el)) (hsz : szT P el = some (n + 1)) : KeyT P kt ekP gP where
  chk H x emp := check_simple hu rfl
  bits x := by cases x <;> simp [ekP, Instr.sameBits]
  fnd H x ks es hg hgs h := by
    have heq : ∀ y : Option Nat, gP H x → gP H y → peek P H (Op.equal kt (ekP x) (ekP y)) = some (decide (y = x)) := by
      intro y hx hy
      rw [show Op.equal kt (ekP x) (ekP y) = Op.equalIn (9999 + 1) kt (ekP x) (ekP y) from rfl, Op.equalIn, peek_then, peek_underlying, hu]
      simp only [Option.bind_some]
      cases x with
      | none => cases y <;> rfl
      | some a =>
        cases y with
        | none => rfl
        | some b =>
          simp only [ekP, Option.map_some]
          rw [peek_then, peek_sizeOf, hsz]
          simp only [Option.bind_some, ne_eq, Nat.add_eq_zero_iff, Nat.succ_ne_self, and_false, not_false_eq_true, if_true, Nat.one_ne_zero]
          rw [peek_sameAddr (hx a rfl) (hy b rfl)]
          simp
    have hnow : ∀ (es : List MapEntry) (ks : List (Option Nat)) (i : Nat), es.map (·.key) = ks.map ekP → Instr.findNow (.pointer el) (ekP x) es i = none ∨ (es = [] ∧ Instr.findNow (.pointer el) (ekP x) es i = some none) := by
      intro es
      cases es with
      | nil => intro ks i _; exact .inr ⟨rfl, rfl⟩
      | cons e es =>
        intro ks i _
        left
        unfold Instr.findNow
        cases x <;> rfl
    have hask : ∀ (ks : List (Option Nat)) (es : List MapEntry) (i : Nat), (∀ k ∈ ks, gP H k) → es.map (·.key) = ks.map ekP → peek P H (Instr.findAsking kt (ekP x) es i) = some (findZ x ks es i) := by
      intro ks
      induction ks with
      | nil => intro es i _ h; cases es with
        | nil => rfl
        | cons e es => simp at h
      | cons k ks ih =>
        intro es i hk h
        cases es with
        | nil => simp at h
        | cons e es =>
          simp only [List.map_cons, List.cons.injEq] at h
          rw [Instr.findAsking, peek_then, h.1, heq k hg (hk k (by simp))]
          simp only [Option.bind_some, findZ]
          by_cases e0 : k = x
          · simp [e0, peek_pure]
          · simp only [e0, decide_false, Bool.false_eq_true, if_false]
            exact ih es (i + 1) (fun k hk' => hk k (by simp [hk'])) h.2
    unfold Instr.findKey
    rw [peek_then, peek_underlying, hu]
    simp only [Option.bind_some]
    rcases hnow es ks 0 h with h1 | ⟨rfl, h1⟩
    · rw [h1]; exact hask ks es 0 hgs h
    · rw [h1]
      cases ks with
      | nil => rfl
      | cons k ks => simp at h
end

/-! ### Ranges over maps -/
def rangeQ (P : Program) (lo : Nat) (t : TypeId) (a : Value) (K : Value → AH → Nat → Prop) (H : AH) (nx : Nat) : Prop := aw P lo (Instr.range t a) K H nx
def nextMQ (P : Program) (lo : Nat) (a : Value) (s : Bool) (ty : TypeId) (K : Value → AH → Nat → Prop) (H : AH) (nx : Nat) : Prop := aw P lo (Instr.next a s ty) K H nx
def entryQ (P : Program) (lo : Nat) (a : Value) (K : Value → AH → Nat → Prop) (H : AH) (nx : Nat) : Prop := aw P lo (Instr.entry a) K H nx
def mkIQ (P : Program) (lo : Nat) (t : TypeId) (a : Value) (K : Value → AH → Nat → Prop) (H : AH) (nx : Nat) : Prop := aw P lo (Instr.makeInterface t a) K H nx
def tAssQ (P : Program) (lo : Nat) (a : Value) (xt t : TypeId) (ok : Bool) (K : Value → AH → Nat → Prop) (H : AH) (nx : Nat) : Prop := aw P lo (Instr.typeAssert a xt t ok) K H nx

structure IterA {α β : Type} (H : AH) (r m clk : Nat) (z dz left : List (Nat × α × β)) : Prop where
  it : ∃ seen last, H.o r = some (.mapIter (some m) clk seen last) ∧ seen.toList = dz.map (·.1) ∧ (dz = [] ∨ last = clk)
  perm : z.Perm (dz ++ left)

section
variable {α β : Type} {ek : α → Value} {ev : β → Value} {P : Program} {lo : Nat} {H : AH} {nx : Nat}
theorem rangeQ_A {t kt et m clk : Nat} {ob : Obj} {z : List (Nat × α × β)} {K : Value → AH → Nat → Prop} (ht : mapT P t = some (kt, et)) (hm : H.o m = some ob) (hz : MapZ ek ev ob clk z) (hk : ∀ r, nx ≤ r → IterA (H.newO r (.mapIter (some m) clk #[] clk)) r m clk z [] z → K (.pointer (some ⟨r, 0, none⟩)) (H.newO r (.mapIter (some m) clk #[] clk)) (r + 1)) : rangeQ P lo t (.map (some m)) K H nx := by
  obtain ⟨⟨es, rfl, he⟩, hlt, hinc⟩ := hz
  unfold mapT at ht
  unfold rangeQ Instr.range
  simp only [aw_then]
  cases hu : P.underlying t with
  | none => rw [hu] at ht; cases ht
  | some u =>
    rw [hu] at ht
    refine aw_of_peek (a := u) (by rw [peek_underlying, hu]) _ ?_
    cases u <;> simp only [reduceCtorEq, Option.some.injEq, Prod.mk.injEq] at ht
    simp only [aw_then, getObj, aw]
    refine ⟨_, hm, ?_⟩
    simp only [aw_pure, aw_then, newObj, aw]
    intro r hr
    exact hk r hr ⟨⟨#[], clk, newO_same _ _ _, rfl, .inl rfl⟩, by simp⟩

theorem nextMQ_A {r m clk : Nat} {ob : Obj} {z dz left : List (Nat × α × β)} {ty : TypeId} {K : Value → AH → Nat → Prop} (hm : H.o m = some ob) (hz : MapZ ek ev ob clk z) (hI : IterA H r m clk z dz left) (hlo : lo ≤ r)
    (h1 : ∀ t left' ob2, t ∈ z → left'.length < left.length → IterA (H.setO r ob2) r m clk z (dz ++ [t]) left' → K (.tuple #[.bool true, ek t.2.1, ev t.2.2]) (H.setO r ob2) nx)
    (h0 : left = [] → K (.tuple #[.bool false]) H nx) : nextMQ P lo (.pointer (some ⟨r, 0, none⟩)) false ty K H nx := by
  obtain ⟨⟨es, rfl, he⟩, hlt, hinc⟩ := hz
  obtain ⟨⟨seen, last, hr, hseen, hlast⟩, hperm⟩ := hI
  have hes : ∀ e ∈ es.toList, ∃ t ∈ z, t.1 = e.born ∧ ek t.2.1 = e.key ∧ ev t.2.2 = e.val := fun e h => by
    have := List.mem_map_of_mem (f := fun e : MapEntry => (e.born, e.key, e.val)) h
    rw [he] at this
    obtain ⟨t, ht, h2⟩ := List.mem_map.1 this
    simp only [Prod.mk.injEq] at h2
    exact ⟨t, ht, h2⟩
  have hze : ∀ t ∈ z, ∃ e ∈ es.toList, t.1 = e.born ∧ ek t.2.1 = e.key ∧ ev t.2.2 = e.val := fun t h => by
    have := List.mem_map_of_mem (f := fun t : Nat × α × β => (t.1, ek t.2.1, ev t.2.2)) h
    rw [← he] at this
    obtain ⟨e, hee, h2⟩ := List.mem_map.1 this
    simp only [Prod.mk.injEq] at h2
    exact ⟨e, hee, h2.1.symm, h2.2.1.symm, h2.2.2.symm⟩
  have hnd : ((dz ++ left).map (·.1)).Nodup := by
    have h : (z.map (·.1)).Nodup := by
      unfold List.Nodup
      rw [List.pairwise_map]
      exact hinc.imp fun h => by omega
    exact (hperm.map (·.1)).nodup_iff.1 h
  unfold nextMQ Instr.next
  simp only [aw_then, getObj, aw]
  refine ⟨_, hr, ?_⟩
  simp only [aw_then, aw]
  refine ⟨_, hm, ?_⟩
  have hbad : (!seen.isEmpty && !es.isEmpty && es.all (fun e => decide (e.born ≥ last))) = false := by
    rcases hlast with rfl | rfl
    · have : seen = #[] := by simpa using hseen
      simp [this]
    · cases hes2 : es.toList with
      | nil =>
        have : es = #[] := by simpa using hes2
        simp [this]
      | cons e r' =>
        have hb : e.born < last := by
          obtain ⟨t, ht, h1, _⟩ := hes e (by rw [hes2]; simp)
          have := hlt t ht
          omega
        have : es.all (fun e => decide (e.born ≥ last)) = false := by
          rw [← Array.all_toList, hes2]
          simp only [List.all_cons, Bool.and_eq_false_iff]
          left
          simp; omega
        rw [this, Bool.and_false]
  simp only [hbad, Bool.false_eq_true, if_false]
  have hold : ∀ l : Array MapEntry, (∀ e ∈ l.toList, e ∈ es.toList) → l.filter (fun e => decide (e.born < clk)) = l ∧ l.filter (fun e => decide (e.born ≥ clk)) = #[] := fun l hl => by
    constructor
    · rw [Array.filter_eq_self]
      intro e he'
      obtain ⟨t, ht, h1, _⟩ := hes e (hl e (by simpa using he'))
      have := hlt t ht
      simp; omega
    · rw [Array.filter_eq_empty_iff]
      intro e he'
      obtain ⟨t, ht, h1, _⟩ := hes e (hl e (by simpa using he'))
      have := hlt t ht
      simp; omega
  generalize hL : es.filter (fun e => !seen.contains e.born) = L
  have hLm : ∀ e, e ∈ L.toList ↔ e ∈ es.toList ∧ e.born ∉ dz.map (·.1) := fun e => by
    rw [← hL]
    simp only [Array.toList_filter, List.mem_filter, ← hseen]
    simp
  obtain ⟨o1, o2⟩ := hold L (fun e h => ((hLm e).1 h).1)
  simp only [o1, o2, Array.append_empty]
  cases hLt : L.toList with
  | nil =>
    have hLe : L = #[] := by simpa using hLt
    have hleft : left = [] := by
      cases hl : left with
      | nil => rfl
      | cons t l' =>
        exfalso
        have htz : t ∈ z := hperm.mem_iff.2 (by rw [hl]; simp)
        obtain ⟨e, hee, hb, _⟩ := hze t htz
        have hne : t.1 ∉ dz.map (·.1) := by
          rw [List.map_append, List.nodup_append] at hnd
          intro hc
          exact hnd.2.2 _ hc _ (List.mem_map_of_mem (by rw [hl]; simp)) rfl
        have : e ∈ L.toList := (hLm e).2 ⟨hee, by rw [← hb]; exact hne⟩
        rw [hLt] at this
        cases this
    subst hLe
    simp only [Array.isEmpty_empty, if_true, Array.map_empty, Array.append_empty, List.size_toArray, List.length_cons, List.length_nil, Nat.zero_add, choose, aw]
    exact ⟨fun _ => h0 hleft, fun h => absurd h (by decide)⟩
  | cons e0 r0 =>
    have hLe : L.isEmpty = false := by
      cases hh : L.isEmpty with
      | false => rfl
      | true => simp only [Array.isEmpty_iff] at hh; rw [hh] at hLt; cases hLt
    simp only [hLe, Bool.false_eq_true, if_false, Array.empty_append, Array.size_map]
    have hpos : 0 < L.size := by rw [← Array.length_toList, hLt]; simp
    have go : ∀ i, i < L.size → aw P lo (match (L.map some)[i]? with
        | some (some e) => do
          setObj r (.mapIter (some m) clk (seen.push e.born) clk)
          pure (.tuple #[.bool true, e.key, e.val])
        | some none => pure (.tuple #[.bool false])
        | none => stuck "Next: no such candidate") K H nx := by
      intro i hi
      have hi2 : L[i]? = some L[i] := Array.getElem?_eq_getElem hi
      simp only [Array.getElem?_map, hi2, Option.map_some]
      have hmem : L[i] ∈ L.toList := by simp
      obtain ⟨hme, hnb⟩ := (hLm _).1 hmem
      obtain ⟨t, ht, g1, g2, g3⟩ := hes _ hme
      have htl : t ∈ left := by
        rcases List.mem_append.1 (hperm.mem_iff.1 ht) with h | h
        · exact absurd (List.mem_map_of_mem (f := (·.1)) h) (by rw [g1]; exact hnb)
        · exact h
      obtain ⟨l1, l2, hl⟩ := List.append_of_mem htl
      simp only [aw_then, setObj, aw, aw_pure]
      refine ⟨hlo, by rw [hr]; rfl, rfl, ?_⟩
      rw [← g2, ← g3]
      refine h1 t (l1 ++ l2) _ ht (by rw [hl]; simp) ⟨⟨_, clk, setO_same _ _ _, ?_, .inr rfl⟩, ?_⟩
      · simp [hseen, g1]
      · rw [hl] at hperm
        refine hperm.trans ?_
        rw [List.append_assoc]
        exact List.Perm.append_left dz (by simp)
    simp only [choose, aw, Question.forced, Question.cut]
    exact ⟨fun _ => go 0 hpos, fun _ t => go _ (Nat.mod_lt _ hpos)⟩

theorem entryQ_A {r m clk : Nat} {ob : Obj} {z dz left : List (Nat × α × β)} {t : Nat × α × β} {K : Value → AH → Nat → Prop} (hm : H.o m = some ob) (hz : MapZ ek ev ob clk z) (hI : IterA H r m clk z (dz ++ [t]) left) (hk : K (.tuple #[ek t.2.1, ev t.2.2]) H nx) : entryQ P lo (.pointer (some ⟨r, 0, none⟩)) K H nx := by
  obtain ⟨⟨es, rfl, he⟩, hlt, hinc⟩ := hz
  obtain ⟨⟨seen, last, hr, hseen, hlast⟩, hperm⟩ := hI
  have ht : t ∈ z := hperm.mem_iff.2 (by simp)
  unfold entryQ Instr.entry
  simp only [aw_then, getObj, aw]
  refine ⟨_, hr, ?_⟩
  have hb : seen.back? = some t.1 := by
    rw [← Array.getLast?_toList, hseen]; simp
  simp only [hb, aw_then, aw]
  refine ⟨_, hm, ?_⟩
  have hl : clk = last := by
    rcases hlast with h | h
    · simp at h
    · exact h.symm
  have key : ∀ (z : List (Nat × α × β)) (es : List MapEntry), es.map (fun e => (e.born, e.key, e.val)) = z.map (fun t => (t.1, ek t.2.1, ev t.2.2)) → z.Pairwise (fun s t => s.1 < t.1) → t ∈ z → ∃ e, es.find? (fun e => e.born == t.1) = some e ∧ e.key = ek t.2.1 ∧ e.val = ev t.2.2 := by
    intro z
    induction z with
    | nil => intro es _ _ h; simp at h
    | cons s z ih =>
      intro es he hinc ht
      cases es with
      | nil => simp at he
      | cons e es =>
        simp only [List.map_cons, List.cons.injEq, Prod.mk.injEq] at he
        rw [List.pairwise_cons] at hinc
        rcases List.mem_cons.1 ht with rfl | ht
        · refine ⟨e, ?_, he.1.2.1, he.1.2.2⟩
          rw [List.find?_cons_of_pos (by simp [he.1.1])]
        · have hne := hinc.1 t ht
          rw [List.find?_cons_of_neg (by simp [he.1.1]; omega)]
          exact ih es he.2 hinc.2 ht
  obtain ⟨e, h1, h2, h3⟩ := key z es.toList he hinc ht
  rw [Array.find?_toList] at h1
  simp only [hl, ne_eq, not_true_eq_false, if_false, h1, bne_self_eq_false, Bool.false_eq_true, aw_pure, aw_then, h2, h3]
  exact hk

/-! ### Ranges over strings -/
theorem rangeQ_str {t : TypeId} {s : ByteArray} {K : Value → AH → Nat → Prop} (ht : P.underlying t = some .string) (hk : ∀ r, nx ≤ r → K (.pointer (some ⟨r, 0, none⟩)) (H.newO r (.stringIter s 0)) (r + 1)) : rangeQ P lo t (.string s) K H nx := by
  unfold rangeQ Instr.range
  simp only [aw_then]
  refine aw_of_peek (a := .string) (by rw [peek_underlying, ht]) _ ?_
  simp only [aw_pure, aw_then, newObj, aw]
  intro r hr
  exact hk r hr
theorem nextMQ_str {r pos : Nat} {s : ByteArray} {ty : TypeId} {K : Value → AH → Nat → Prop} (hr : H.o r = some (.stringIter s pos)) (hlo : lo ≤ r)
    (h1 : pos < s.size → K (.tuple #[.bool true, .int .i64 pos, .int .i32 (Utf8.decode s pos).1]) (H.setO r (.stringIter s (pos + (Utf8.decode s pos).2))) nx) (h0 : s.size ≤ pos → K (.tuple #[.bool false]) H nx) : nextMQ P lo (.pointer (some ⟨r, 0, none⟩)) true ty K H nx := by
  unfold nextMQ Instr.next
  simp only [aw_then, getObj, aw]
  refine ⟨_, hr, ?_⟩
  simp only
  split
  · rename_i h
    simp only [aw_then, setObj, aw, aw_pure]
    exact ⟨hlo, by rw [hr]; rfl, rfl, h1 h⟩
  · rename_i h
    exact h0 (by omega)

/-! ### Interfaces that hold maps -/
theorem mkIQ_map {t k e : TypeId} {v : Value} {K : Value → AH → Nat → Prop} (ht : mapT P t = some (k, e)) (hk : K (.iface t v) H nx) : mkIQ P lo t v K H nx := by
  unfold mapT at ht
  unfold mkIQ Instr.makeInterface
  rw [aw_then]
  cases hu : P.underlying t with
  | none => rw [hu] at ht; cases ht
  | some u =>
    rw [hu] at ht
    refine aw_of_peek (a := u) (by rw [peek_underlying, hu]) _ ?_
    cases u <;> simp only [reduceCtorEq, Option.some.injEq, Prod.mk.injEq] at ht
    exact hk
theorem tAssQ_map {t k e xt : TypeId} {v : Value} {K : Value → AH → Nat → Prop} (ht : mapT P t = some (k, e)) (hk : K v H nx) : tAssQ P lo (.iface t v) xt t false K H nx := by
  unfold mapT at ht
  unfold tAssQ Instr.typeAssert
  simp only [aw_then]
  cases hu : P.underlying t with
  | none => rw [hu] at ht; cases ht
  | some u =>
    rw [hu] at ht
    refine aw_of_peek (a := u) (by rw [peek_underlying, hu]) _ ?_
    cases u <;> simp only [reduceCtorEq, Option.some.injEq, Prod.mk.injEq] at ht
    simp only [if_true, Bool.false_eq_true, if_false]
    exact hk
theorem eq_mapnil {t k e : TypeId} {x y : Operand} {m : Option Nat} (ht : mapT P t = some (k, e)) : binV P H .eql t x y (.map m) (.map none) = some (.bool m.isNone) := by
  rw [bin_eq (by simp) (by simp)]
  unfold mapT at ht
  cases hu : P.underlying t with
  | none => rw [hu] at ht; cases ht
  | some u =>
    rw [hu] at ht
    cases u <;> simp only [reduceCtorEq, Option.some.injEq, Prod.mk.injEq] at ht
    show peek P H (do let r ← Op.equal t (.map m) (.map none); pure (Value.bool r)) = _
    rw [peek_then, show Op.equal t (.map m) (.map none) = Op.equalIn (9999 + 1) t (.map m) (.map none) from rfl, Op.equalIn, peek_then, peek_underlying, hu]
    cases m <;> rfl
theorem clone_map {n t m : Nat} {fn : Func} {ob : Obj} {K : Value → AH → Nat → Prop} (hf : P.funcs[n]? = some fn) (hname : (fn.name == "runtime.NumGoroutine") = false) (hb : fn.body.isNone = true) (hn : Extern.findNext fn = none) (he : Extern.find fn = some Extern.MapsClone.clone)
    (hm : H.o m = some ob) (hob : ∃ es clk, ob = .map es clk) (hk : ∀ r, nx ≤ r → K (.iface t (.map (some r))) (H.newO r ob) (r + 1)) : externQ P lo n #[.iface t (.map (some m))] K H nx := by
  obtain ⟨es, clk, rfl⟩ := hob
  refine externQ_of hf hname hb hn he ?_
  have e : Extern.MapsClone.clone #[.iface t (.map (some m))] = (do
    let .map entries clock ← getObj m | stuck "maps.clone: a map expected"
    pure (.iface t (.map (some (← newObj (.map entries clock)))))) := rfl
  rw [e]
  simp only [aw_then, getObj, aw]
  refine ⟨_, hm, ?_⟩
  simp only [aw_then, newObj, aw, aw_pure]
  exact fun r hr => hk r hr

end

/-! ### The operations' rules -/
section
variable {P : Program} {lo : Nat} {H : AH} {nx : Nat}
variable {dst : Option Tmp} {type : TypeId} {pos : String} {after : Array Edge} {guard : Option (Nat × Bool)} {env : Env} {K : Value → AH → Nat → Prop}
theorem aop_one {o : Oper} {x : Operand} {f : Value → Sem Value} (h1 : o.op.operands = #[x]) (h2 : ∀ cs b, o.op ≠ .select cs b) (h3 : ∀ ρ, execOp ρ o = do let a ← f (ρ x); pure (Next.value a)) : aop P lo o env H nx K = onA (ev env x) (fun a => aw P lo (f a) K H nx) := by
  rw [← ex_onA]
  unfold aop
  rw [h3]
  refine propext ⟨fun ⟨g1, _, g3⟩ => ?_, fun ⟨a, ha, h⟩ => ⟨?_, h2, ?_⟩⟩
  · rw [known_iff, h1] at g1
    obtain ⟨a, ha⟩ := Option.isSome_iff_exists.1 (g1 x (by simp))
    rw [ev_aev ha] at g3
    exact ⟨a, ha, (aw_bind P lo _ _ _ H nx).1 g3⟩
  · rw [known_iff, h1]
    intro y hy
    simp only [List.mem_singleton] at hy
    subst hy
    rw [ha]; rfl
  · rw [ev_aev ha]
    exact (aw_bind P lo _ _ _ H nx).2 h
theorem bop_range (t : TypeId) (x : Operand) : bop P lo { dst, op := .range t x, type, pos, after, guard } env H nx K = onA (ev env x) (fun a => rangeQ P lo t a K H nx) := aop_one rfl (by simp) (fun _ => rfl)
theorem bop_next (x : Operand) (s : Bool) : bop P lo { dst, op := .next x s, type, pos, after, guard } env H nx K = onA (ev env x) (fun a => nextMQ P lo a s type K H nx) := aop_one rfl (by simp) (fun _ => rfl)
theorem bop_entry (x : Operand) : bop P lo { dst, op := .entry x, type, pos, after, guard } env H nx K = onA (ev env x) (fun a => entryQ P lo a K H nx) := aop_one rfl (by simp) (fun _ => rfl)
theorem bop_makeI (t : TypeId) (x : Operand) : bop P lo { dst, op := .makeInterface t x, type, pos, after, guard } env H nx K = onA (ev env x) (fun a => mkIQ P lo t a K H nx) := aop_one rfl (by simp) (fun _ => rfl)
theorem bop_tAss (x : Operand) (xt t : TypeId) (ok : Bool) : bop P lo { dst, op := .typeAssert x xt t ok, type, pos, after, guard } env H nx K = onA (ev env x) (fun a => tAssQ P lo a xt t ok K H nx) := aop_one rfl (by simp) (fun _ => rfl)
theorem bop_insert (t : TypeId) (m k v : Operand) : bop P lo { dst, op := .insert t m k v, type, pos, after, guard } env H nx K = onA (ev env m) (fun m => onA (ev env k) fun k => onA (ev env v) fun v => mapSetQ P lo t m k v (K undef) H nx) := by
  show aop P lo _ env H nx K = _
  simp only [← ex_onA]
  unfold aop
  refine propext ⟨fun ⟨h1, _, h3⟩ => ?_, fun ⟨a, ha, b, hb, c, hc, h⟩ => ⟨?_, by simp, ?_⟩⟩
  · rw [known_iff] at h1
    simp [Op.operands] at h1
    obtain ⟨a, ha⟩ := Option.isSome_iff_exists.1 h1.1
    obtain ⟨b, hb⟩ := Option.isSome_iff_exists.1 h1.2.1
    obtain ⟨c, hc⟩ := Option.isSome_iff_exists.1 h1.2.2
    refine ⟨a, ha, b, hb, c, hc, ?_⟩
    simp only [execOp, ev_aev ha, ev_aev hb, ev_aev hc] at h3
    exact (aw_bind P lo _ _ _ H nx).1 h3
  · rw [known_iff]; simp [Op.operands, ha, hb, hc]
  · simp only [execOp, ev_aev ha, ev_aev hb, ev_aev hc]
    exact (aw_bind P lo _ _ _ H nx).2 h
theorem builtQ_delete (ts : Array TypeId) (ty : TypeId) (cs : Array Bool) (l : List Value) : builtQ P lo .delete ts ty cs l K H nx = delQ P lo ts ty l K H nx := by
  unfold builtQ builtin delQ
  simp only [aw_then, aw_pure]
  rfl
theorem bop_delete (args : Array Operand) (ts : Array TypeId) : bop P lo { dst, op := .call { callee := .builtin .delete, args, argTypes := ts }, type, pos, after, guard } env H nx K =
    onA (evs env args.toList) (fun l => builtQ P lo .delete ts type (args.map fun | .const _ => true | _ => false) l K H nx) := ex_onA
end
attribute [go_sem] bop_range bop_next bop_entry bop_makeI bop_tAss bop_insert builtQ_delete bop_delete
end Go.Proofs.YtngnbafididkcaaGreat
