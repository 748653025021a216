/- General lemmas of our own on worlds: frames (which blocks may have turned) and slices (a slice value that reads as a list of cells). Nothing of the program stands here. General lemmas of our own: append onto a slice that reads as a list of cells, whichever arm it takes. Nothing of the program stands here. General lemmas of our own: one step of a region that draws its order: a call by its contract, an append. Nothing of the program stands here. -/
import Derived.Test.YtngnbafididkcaaGreatRows
import Derived.WalkKit
import Derived.WalkSpells
import Derived.WalkLawsBesides
import Derived.Deep.AppendSrc
import Derived.Lib.Hide
import Derived.Lib.LazyBuf
import Derived.BigRegion
import Derived.BigQuiet
import Derived.Deep.QuietTactic
import Derived.StillTailTactics
import Derived.Deep.RegionHeld3
import Derived.Deep.RegionWith
import Derived.Deep.DeepCutAuto
import Derived.Deep.DeepFit
import Derived.ProofKit
import Derived.Handy
import Derived.Deep.RegionLaw
section
namespace Go.Proofs.YtngnbafididkcaaGreat
open Go.RowKit

/-- What stood before stands as it was, but for the blocks in S. -/
structure Fr (S : Nat → Prop) (w w' : World) : Prop where
  os : w'.os = w.os
  tape : w'.tape = w.tape
  output : w'.output = w.output
  size : w.heap.size ≤ w'.heap.size
  block : ∀ k, k < w.heap.size → ¬ S k → w'.heap[k]? = w.heap[k]?

theorem Fr.refl (S : Nat → Prop) (w : World) : Fr S w w := ⟨rfl, rfl, rfl, Nat.le_refl _, fun _ _ _ => rfl⟩

theorem Fr.trans {S : Nat → Prop} {a b c : World} (h : Fr S a b) (k : Fr S b c) : Fr S a c :=
  ⟨k.os.trans h.os, k.tape.trans h.tape, k.output.trans h.output, Nat.le_trans h.size k.size,
    fun i hi hs => (k.block i (Nat.lt_of_lt_of_le hi h.size) hs).trans (h.block i hi hs)⟩

theorem Fr.mono {S S' : Nat → Prop} {a b : World} (h : Fr S a b) (hs : ∀ k, k < a.heap.size → S k → S' k) : Fr S' a b :=
  ⟨h.os, h.tape, h.output, h.size, fun i hi hn => h.block i hi (fun hk => hn (hs i hi hk))⟩

theorem Fr.drew {S : Nat → Prop} {a w : World} (h : Fr S a w) : Fr S a w.drew := ⟨h.os, h.tape, h.output, h.size, h.block⟩

theorem Fr.alloc {S : Nat → Prop} {a w : World} (h : Fr S a w) (o : Obj) : Fr S a (w.alloc o) :=
  ⟨h.os, h.tape, h.output, by simp; exact Nat.le_succ_of_le h.size, fun i hi hn => by
    rw [Below.heap_alloc _ _ _ (Nat.lt_of_lt_of_le hi h.size)]; exact h.block i hi hn⟩

theorem Fr.setCell {S : Nat → Prop} {a w : World} (h : Fr S a w) {p : Addr} (hp : p.block < a.heap.size → S p.block) (u : Value) : Fr S a (w.setCell p u) :=
  ⟨h.os, h.tape, h.output, by simpa using h.size, fun i hi hn => by
    rw [Below.heap_setCell _ _ _ _ (fun e => hn (by subst e; exact hp hi))]; exact h.block i hi hn⟩

theorem Fr.grown {S : Nat → Prop} {a w w' : World} {row : Option Nat} (h : Fr S a w) (hg : w.grownBy w' row) (hr : ∀ k, row = some k → k < a.heap.size → S k) : Fr S a w' :=
  ⟨hg.os.trans h.os, hg.tape.trans h.tape, hg.output.trans h.output, Nat.le_trans h.size hg.size,
    fun i hi hn => (hg.block i (Nat.lt_of_lt_of_le hi h.size) (fun e => hn (hr i e.symm hi))).trans (h.block i hi hn)⟩

/-- A second frame behind a first one: what the second may turn is of the first's, or new. -/
theorem Fr.next {S T : Nat → Prop} {a b c : World} (h : Fr S a b) (k : Fr T b c) (ht : ∀ i, i < a.heap.size → T i → S i) : Fr S a c :=
  ⟨k.os.trans h.os, k.tape.trans h.tape, k.output.trans h.output, Nat.le_trans h.size k.size,
    fun i hi hs => (k.block i (Nat.lt_of_lt_of_le hi h.size) (fun e => hs (ht i hi e))).trans (h.block i hi hs)⟩

theorem Fr.below {S : Nat → Prop} {a b : World} (h : Fr S a b) {B : Nat} (hB : B ≤ a.heap.size) (hs : ∀ k, S k → B ≤ k) : Below B a b :=
  ⟨h.os, h.tape, h.output, h.size, fun i hi => h.block i (Nat.lt_of_lt_of_le hi hB) (fun hk => by have := hs i hk; omega)⟩

theorem Fr.ofBelow {S : Nat → Prop} {a b : World} (h : Below a.heap.size a b) : Fr S a b := ⟨h.os, h.tape, h.output, h.size, fun i hi _ => h.block i hi⟩

theorem Fr.cell {S : Nat → Prop} {a b : World} (h : Fr S a b) {p : Addr} {v : Value} (hv : a.cell? p = some v) (hs : ¬ S p.block) : b.cell? p = some v :=
  (World.cell?_of_block (h.block p.block (World.block_lt_of_cell? a p hv) hs)).trans hv

theorem Fr.heap {S : Nat → Prop} {a b : World} (h : Fr S a b) {k : Nat} {o : Obj} (hk : a.heap[k]? = some o) (hs : ¬ S k) : b.heap[k]? = some o :=
  (h.block k (Array.getElem?_eq_some_iff.1 hk).1 hs).trans hk

/-- A slice value with n elements of type e (size cells each) reads as the cells xs; what it may grow into lies in its block. -/
def Sl (w : World) (e : TypeId) (size : Nat) (v : Value) (n : Nat) (xs : List Value) : Prop :=
  xs.length = n * size ∧
  ((v = .slice none 0 0 ∧ n = 0) ∨
   ∃ g off cap cur, v = .slice (some ⟨g, off, none⟩) n cap ∧ w.heap[g]? = some (.cells cur e (0, 0)) ∧ n ≤ cap ∧ cap ≤ maxLen ∧ off + cap * size ≤ cur.size ∧ ∀ j, j < n * size → cur[off + j]? = xs[j]?)

/-- The same, its block no other than k. -/
def ownedIn (v : Value) (S : Nat → Prop) : Prop := ∀ k, v.ownBlock = some k → S k

section
variable {w : World} {e : TypeId} {size : Nat} {v : Value} {n : Nat} {xs : List Value}

theorem Sl.nil (w : World) (e : TypeId) (size : Nat) : Sl w e size (.slice none 0 0) 0 [] := ⟨by simp, .inl ⟨rfl, rfl⟩⟩

theorem Sl.ofOwns {base : Nat} (h : w.ownsRow base e size v n xs) : Sl w e size v n xs := by
  refine ⟨h.1, ?_⟩
  rcases h.2 with h2 | ⟨g, cap, cur, hv, _, hg, hn, hm, hs, ht⟩
  · exact .inl h2
  · refine .inr ⟨g, 0, cap, cur, hv, hg, hn, hm, by omega, fun j hj => ?_⟩
    rw [← ht, List.getElem?_take, if_pos hj]
    simp

theorem Sl.len (h : Sl w e size v n xs) : ∃ a c, v = .slice a n c := by
  rcases h.2 with ⟨rfl, rfl⟩ | ⟨g, off, cap, cur, rfl, _⟩
  · exact ⟨_, _, rfl⟩
  · exact ⟨_, _, rfl⟩

theorem Sl.kept {w' : World} (h : Sl w e size v n xs) (hk : ∀ k, v.ownBlock = some k → w'.heap[k]? = w.heap[k]?) : Sl w' e size v n xs := by
  refine ⟨h.1, ?_⟩
  rcases h.2 with h2 | ⟨g, off, cap, cur, rfl, hg, rest⟩
  · exact .inl h2
  · exact .inr ⟨g, off, cap, cur, rfl, by rw [hk g rfl]; exact hg, rest⟩

theorem Sl.lt (h : Sl w e size v n xs) : ∀ k, v.ownBlock = some k → k < w.heap.size := by
  intro k hk
  rcases h.2 with ⟨rfl, _⟩ | ⟨g, off, cap, cur, rfl, hg, _⟩
  · simp [Value.ownBlock] at hk
  · simp [Value.ownBlock] at hk; subst hk; exact (Array.getElem?_eq_some_iff.1 hg).1

theorem Sl.fr {S : Nat → Prop} {w' : World} (h : Sl w e size v n xs) (hf : Fr S w w') (hs : ∀ k, v.ownBlock = some k → ¬ S k) : Sl w' e size v n xs :=
  h.kept fun k hk => hf.block k (h.lt k hk) (hs k hk)

/-- The element type of a block. -/
def ety (w : World) (k : Nat) : Option TypeId := match w.heap[k]? with | some (.cells _ e _) => some e | _ => none

theorem Sl.ety (h : Sl w e size v n xs) : ∀ k, v.ownBlock = some k → ety w k = some e := by
  intro k hk
  rcases h.2 with ⟨rfl, _⟩ | ⟨g, off, cap, cur, rfl, hg, _⟩
  · simp [Value.ownBlock] at hk
  · simp [Value.ownBlock] at hk; subst hk; simp [YtngnbafididkcaaGreat.ety, hg]

/-- Its cells, one by one. -/
theorem Sl.cells {g off cap : Nat} (h : Sl w e size (.slice (some ⟨g, off, none⟩) n cap) n xs) :
    (∀ j u, xs[j]? = some u → w.cell? ⟨g, off + j, none⟩ = some u) ∧ (∀ j, w.frozen? ⟨g, j, none⟩ = false) ∧ n ≤ cap ∧ cap ≤ maxLen := by
  rcases h.2 with ⟨h2, _⟩ | ⟨g', off', cap', cur, h2, hg, hn, hm, hs, hc⟩
  · simp at h2
  · simp only [Value.slice.injEq, Option.some.injEq, Addr.mk.injEq, and_true, true_and] at h2
    obtain ⟨⟨rfl, rfl⟩, rfl⟩ := h2
    refine ⟨fun j u hu => ?_, fun j => by simp [World.frozen?, hg], hn, hm⟩
    have hj : j < n * size := by rw [← h.1]; exact (List.getElem?_eq_some_iff.1 hu).1
    rw [cell_of_row w g (off + j) cur e (0, 0) hg, hc j hj, hu]

/-- Where it has elements it has an address. -/
theorem Sl.open (h : Sl w e size v n xs) (hn : 0 < n) : ∃ g off cap, v = .slice (some ⟨g, off, none⟩) n cap := by
  rcases h.2 with ⟨_, h2⟩ | ⟨g, off, cap, cur, hv, _⟩
  · omega
  · exact ⟨g, off, cap, hv⟩
end

end Go.Proofs.YtngnbafididkcaaGreat
end
section
namespace Go.Proofs.YtngnbafididkcaaGreat
open Go.RowKit

theorem heap_setCells_same (b : Nat) (e : TypeId) (fr : Nat × Nat) : ∀ (vs : List Value) (o : Nat) (w : World) (cur : Array Value), w.heap[b]? = some (.cells cur e fr) → o + vs.length ≤ cur.size →
    ∃ cur', (w.setCells b o vs).heap[b]? = some (.cells cur' e fr) ∧ cur'.size = cur.size ∧ (∀ j, j < vs.length → cur'[o + j]? = vs[j]?) ∧ (∀ j, (j < o ∨ o + vs.length ≤ j) → cur'[j]? = cur[j]?)
  | [], o, w, cur, h, _ => ⟨cur, h, rfl, fun j hj => by simp at hj, fun _ _ => rfl⟩
  | v :: r, o, w, cur, h, hl => by
    have hl' : o + (r.length + 1) ≤ cur.size := by simpa using hl
    have h1 : (w.setCell ⟨b, o, none⟩ v).heap[b]? = some (.cells (cur.setIfInBounds o v) e fr) := by
      simp only [World.setCell]
      rw [Array.getElem?_modify, if_pos rfl, h]
      rfl
    obtain ⟨cur', h2, h3, h4, h5⟩ := heap_setCells_same b e fr r (o + 1) (w.setCell ⟨b, o, none⟩ v) (cur.setIfInBounds o v) h1 (by simp; omega)
    refine ⟨cur', h2, by simpa using h3, fun j hj => ?_, fun j hj => ?_⟩
    · cases j with
      | zero =>
        have := h5 o (by omega)
        simp at this ⊢
        rw [this]
        simp [show o < cur.size by omega]
      | succ j =>
        have := h4 j (by simpa using hj)
        rw [show o + (j + 1) = o + 1 + j by omega, this]
        simp
    · rw [h5 j (by simp at hj; omega)]
      rw [Array.getElem?_setIfInBounds, if_neg (by simp at hj; omega)]

theorem heap_setCells_other (b : Nat) : ∀ (vs : List Value) (o : Nat) (w : World) (k : Nat), k ≠ b → (w.setCells b o vs).heap[k]? = w.heap[k]?
  | [], _, _, _, _ => rfl
  | v :: r, o, w, k, h => by rw [World.setCells, heap_setCells_other b r _ _ _ h, Below.heap_setCell _ _ _ _ h]

theorem setCells_size (b : Nat) : ∀ (vs : List Value) (o : Nat) (w : World), (w.setCells b o vs).heap.size = w.heap.size
  | [], _, _ => rfl
  | v :: r, o, w => by rw [World.setCells, setCells_size b r]; simp

theorem setCells_os (b : Nat) : ∀ (vs : List Value) (o : Nat) (w : World), (w.setCells b o vs).os = w.os ∧ (w.setCells b o vs).tape = w.tape ∧ (w.setCells b o vs).output = w.output
  | [], _, _ => ⟨rfl, rfl, rfl⟩
  | v :: r, o, w => by rw [World.setCells]; exact setCells_os b r _ _

theorem setCells_grown (b o : Nat) (vs : List Value) (w : World) : w.grownBy (w.setCells b o vs) (some b) :=
  ⟨(setCells_os b vs o w).1, (setCells_os b vs o w).2.1, (setCells_os b vs o w).2.2, by rw [setCells_size]; exact Nat.le_refl _, fun k _ hk => heap_setCells_other b vs o w k (fun e => hk (by rw [e]))⟩

/-- Where the old cells of a slice are: what 'append' reads of it. -/
theorem Sl.first {P : Program} {w : World} {e : TypeId} {size n : Nat} {a : Option Addr} {c : Nat} {xs : List Value} (h : Sl w e size (.slice a n c) n xs) :
    (Builtin.firstCells size n (.slice a n c)).run P w = .ok xs.toArray w := by
  rcases h.2 with ⟨h2, rfl⟩ | ⟨g, off, cap, cur, h2, hg, hn, hm, hs, hc⟩
  · simp only [Value.slice.injEq] at h2
    obtain ⟨rfl, _, rfl⟩ := h2
    have : xs = [] := List.eq_nil_of_length_eq_zero (by simpa using h.1)
    subst this
    exact run_firstCells_none w size 0 0 0
  · simp only [Value.slice.injEq] at h2
    obtain ⟨rfl, _, rfl⟩ := h2
    refine run_firstCells_some w size n _ n c xs h.1 (fun j u hu => ?_)
    have := (Sl.cells (w := w) (e := e) (size := size) ⟨h.1, .inr ⟨g, off, c, cur, rfl, hg, hn, hm, hs, hc⟩⟩).1 j u hu
    rw [Addr.add_lit]
    exact this

/-- 'append' in both arms. -/
theorem run_append_sl {P : Program} (w : World) (t tx ty e : TypeId) (i : TypeInfo) (z : Value) (size bytes : Nat) (ht : P.underlying t = some (.slice e)) (hi : P.info? e = some i) (hz : i.zero = some z)
    (hsize : i.size = size) (hby : i.bytes = bytes) (hzs : z.cells.size = size)
    (v : Value) (n : Nat) (xs : List Value) (h : Sl w e size v n xs) (x : Value) (m : Nat) (news : List Value) (hs : Src P size tx x m news w)
    (h63 : n + m ≤ maxLen) (hbytes : (n + m) * bytes ≤ 140737488355328) :
    ∃ v' w', (Builtin.append_ #[t, tx] ty #[v, x]).run P w = .ok v' w' ∧ Sl w' e size v' (n + m) (xs ++ news) ∧ w.grownBy w' v.ownBlock ∧
      (v' = .slice none 0 0 ↔ v = .slice none 0 0 ∧ m = 0) ∧ (v'.ownBlock = v.ownBlock ∨ ∃ k, v'.ownBlock = some k ∧ w.heap.size ≤ k) := by
  subst hsize
  subst hby
  have hlen : (xs ++ news).length = (n + m) * i.size := by rw [List.length_append, h.1, hs.newsLen, Nat.add_mul]
  -- the arm that grows
  have grow : ∀ (a : Option Addr) (cap : Nat), v = .slice a n cap → cap < n + m →
      ∃ v' w', (Builtin.append_ #[t, tx] ty #[v, x]).run P w = .ok v' w' ∧ Sl w' e i.size v' (n + m) (xs ++ news) ∧ w.grownBy w' v.ownBlock ∧
        (v' = .slice none 0 0 ↔ v = .slice none 0 0 ∧ m = 0) ∧ (v'.ownBlock = v.ownBlock ∨ ∃ k, v'.ownBlock = some k ∧ w.heap.size ≤ k) := by
    intro a cap hv hlt
    subst hv
    have hold : (Builtin.firstCells i.size n (.slice a n cap)).run P w.drew = .ok xs.toArray w.drew := (Sl.first (P := P) (w := w.drew) (e := e) h)
    have hr := run_append_grow_src (P := P) w t tx ty e i z ht hi hz a n cap xs hold x m news hs hlt (by have h' := h63; simp only [maxLen] at h'; omega) (growslice_fits hlt hbytes)
    have hge := grownCap_ge w (n + m) cap e
    have hcm : grownCap w (n + m) cap e ≤ maxLen := grownCap_le_maxLen w (n + m) cap e h63
    refine ⟨_, _, hr, ⟨hlen, .inr ⟨w.heap.size, 0, _, _, rfl, heap_alloc_new w.drew _, hge, hcm, ?_, ?_⟩⟩, ⟨rfl, rfl, rfl, by simp, fun k hk _ => Below.heap_alloc w.drew _ k hk⟩, ?_, .inr ⟨w.heap.size, rfl, Nat.le_refl _⟩⟩
    · simp only [Array.size_append, List.size_toArray, size_zeroCells, hzs, hlen, ← Nat.add_mul, Nat.zero_add]
      exact Nat.mul_le_mul_right _ (by omega)
    · intro j hj
      rw [Nat.zero_add, Array.getElem?_append_left (by rw [List.size_toArray, hlen]; exact hj)]
      simp
    · simp only [Value.slice.injEq, reduceCtorEq, false_and, false_iff]
      rintro ⟨⟨_, rfl, rfl⟩, rfl⟩
      simp at hlt
  rcases h.2 with ⟨rfl, rfl⟩ | ⟨g, off, cap, cur, rfl, hg, hnc, hcm, hcs, hcell⟩
  · have hx : xs = [] := List.eq_nil_of_length_eq_zero (by simpa using h.1)
    subst hx
    by_cases hm : m = 0
    · subst hm
      have hn : news = [] := List.eq_nil_of_length_eq_zero (by simpa using hs.newsLen)
      subst hn
      refine ⟨.slice none 0 0, w, ?_, Sl.nil w e i.size, World.grownBy.refl _ _, by simp, .inl rfl⟩
      rcases hs.kind with ⟨e', hk⟩ | hk <;> simp [Builtin.append_, run_underlying ht, run_underlying hk, sizeOf, typeInfo, hi, hs.len, hs.cells]
    · exact grow none 0 rfl (by omega)
  · by_cases hroom : n + m ≤ cap
    · have hmul : (n + m) * i.size ≤ cap * i.size := Nat.mul_le_mul_right _ hroom
      have hfit : off + n * i.size + news.length ≤ cur.size := by rw [hs.newsLen, Nat.add_assoc, ← Nat.add_mul]; omega
      have hr := run_append_room_src (P := P) w t tx ty e i ht hi g off n cap x m news hs hroom (fun j hj => by
        rw [cell_of_row w g _ cur e (0, 0) hg]; simp; omega) (fun j hj => by simp [World.frozen?, hg])
      obtain ⟨cur', k1, k2, k3, k4⟩ := heap_setCells_same g e (0, 0) news (off + n * i.size) w cur hg hfit
      refine ⟨_, _, hr, ⟨hlen, .inr ⟨g, off, cap, cur', rfl, k1, hroom, hcm, by omega, fun j hj => ?_⟩⟩, setCells_grown _ _ _ _, by simp, .inl rfl⟩
      by_cases hjn : j < n * i.size
      · rw [k4 _ (by omega), hcell j hjn, List.getElem?_append_left (by rw [h.1]; exact hjn)]
      · have hj2 : j - n * i.size < news.length := by rw [hs.newsLen]; rw [Nat.add_mul] at hj; omega
        have := k3 (j - n * i.size) hj2
        rw [show off + n * i.size + (j - n * i.size) = off + j by omega] at this
        rw [this, List.getElem?_append_right (by rw [h.1]; omega), h.1]
    · exact grow _ cap rfl (by omega)

theorem wp_append_sl {P : Program} (w : World) {o : Oper} {a : Act} {K : Act → World → Prop} {Q : Exit → Act → World → Prop} (s x : Operand) (t tx : TypeId)
    (ho : o.op = .call { callee := .builtin .append, args := #[s, x], argTypes := #[t, tx] })
    (e : TypeId) (i : TypeInfo) (z : Value) (size bytes : Nat) (ht : P.underlying t = some (.slice e)) (hi : P.info? e = some i) (hz : i.zero = some z)
    (hsize : i.size = size) (hby : i.bytes = bytes) (hzs : z.cells.size = size)
    (v : Value) (n : Nat) (xs : List Value) (hs : a.eval s = v) (h : Sl w e size v n xs) (xv : Value) (m : Nat) (news : List Value) (hx : a.eval x = xv) (hsrc : Src P size tx xv m news w)
    (h63 : n + m ≤ maxLen) (hbytes : (n + m) * bytes ≤ 140737488355328)
    (hk : ∀ v' w', Sl w' e size v' (n + m) (xs ++ news) → w.grownBy w' v.ownBlock → (v' = .slice none 0 0 ↔ v = .slice none 0 0 ∧ m = 0) → (v'.ownBlock = v.ownBlock ∨ ∃ k, v'.ownBlock = some k ∧ w.heap.size ≤ k) → K (a.put o.dst v') w') : o.wp P a w K Q := by
  obtain ⟨v', w', hr, h2, h3, h4, h5⟩ := run_append_sl (P := P) w t tx o.type e i z size bytes ht hi hz hsize hby hzs v n xs h xv m news hsrc h63 hbytes
  unfold Oper.wp execOp
  simp only [ho, resolve, invoke, builtin, Sem.run_bind, Sem.run_pure, Result.andThen_ok, List.map_toArray, List.map_cons, List.map_nil, hs, hx, hr]
  exact hk v' w' h2 h3 h4 h5

theorem wpList_append_sl {P : Program} (w : World) {ops : Array Oper} {rest : List Oper} {o : Oper} {a : Act} {Q : Exit → Act → World → Prop} (hgd : o.guard = none) (s x : Operand) (t tx : TypeId)
    (ho : o.op = .call { callee := .builtin .append, args := #[s, x], argTypes := #[t, tx] })
    (e : TypeId) (i : TypeInfo) (z : Value) (size bytes : Nat) (ht : P.underlying t = some (.slice e)) (hi : P.info? e = some i) (hz : i.zero = some z)
    (hsize : i.size = size) (hby : i.bytes = bytes) (hzs : z.cells.size = size)
    (v : Value) (n : Nat) (xs : List Value) (hs : a.eval s = v) (h : Sl w e size v n xs) (xv : Value) (m : Nat) (news : List Value) (hx : a.eval x = xv) (hsrc : Src P size tx xv m news w)
    (h63 : n + m ≤ maxLen) (hbytes : (n + m) * bytes ≤ 140737488355328)
    (hk : ∀ v' w', Sl w' e size v' (n + m) (xs ++ news) → w.grownBy w' v.ownBlock → (v' = .slice none 0 0 ↔ v = .slice none 0 0 ∧ m = 0) → (v'.ownBlock = v.ownBlock ∨ ∃ k, v'.ownBlock = some k ∧ w.heap.size ≤ k) → wpList P ops Q rest (a.put o.dst v') w') : wpList P ops Q (o :: rest) a w :=
  wpList_plain hgd fun _ hK => wp_append_sl w s x t tx ho e i z size bytes ht hi hz hsize hby hzs v n xs hs h xv m news hx hsrc h63 hbytes fun v' w' h2 h3 h4 h5 => hK _ _ (hk v' w' h2 h3 h4 h5)

/-- What a slice yields to append, or to a copy. -/
theorem Sl.src {P : Program} {w : World} {e tx : TypeId} {size n : Nat} {v : Value} {xs : List Value} (h : Sl w e size v n xs) (hk : P.underlying tx = some (.slice e)) (h1 : ∀ u ∈ xs, u.oneCell' = true) : Src P size tx v n xs w := by
  obtain ⟨a, c, rfl⟩ : ∃ a c, v = .slice a n c := by
    rcases h.2 with ⟨rfl, rfl⟩ | ⟨g, off, cap, cur, rfl, _⟩ <;> exact ⟨_, _, rfl⟩
  exact ⟨.inl ⟨e, hk⟩, fun _ => rfl, h.first, Sl.first (w := w.drew) (e := e) h, h.1, h1⟩

theorem Sl.alloc {w : World} {e : TypeId} {size n : Nat} {v : Value} {xs : List Value} (h : Sl w e size v n xs) (o : Obj) : Sl (w.alloc o) e size v n xs :=
  h.kept fun k hk => Below.heap_alloc _ _ _ (h.lt k hk)

theorem Sl.drew {w : World} {e : TypeId} {size n : Nat} {v : Value} {xs : List Value} (h : Sl w e size v n xs) : Sl w.drew e size v n xs := h

theorem Sl.setCell {w : World} {e : TypeId} {size n : Nat} {v : Value} {xs : List Value} (h : Sl w e size v n xs) {a : Addr} (ha : v.ownBlock ≠ some a.block) (u : Value) : Sl (w.setCell a u) e size v n xs :=
  h.kept fun k hk => Below.heap_setCell _ _ _ _ (fun e => ha (by rw [hk, e]))

theorem Sl.grown {w w' : World} {e : TypeId} {size n : Nat} {v : Value} {xs : List Value} {row : Option Nat} (h : Sl w e size v n xs) (hg : w.grownBy w' row) (hr : ∀ k, v.ownBlock = some k → some k ≠ row) : Sl w' e size v n xs :=
  h.kept fun k hk => hg.block k (h.lt k hk) (hr k hk)

theorem Sl.below {w w' : World} {e : TypeId} {size n : Nat} {v : Value} {xs : List Value} (h : Sl w e size v n xs) (hb : Below w.heap.size w w') : Sl w' e size v n xs :=
  h.kept fun k hk => hb.block k (h.lt k hk)

/-- A slice that a literal makes. -/
theorem Sl.lit (w : World) (e : TypeId) (size : Nat) (cs : Array Value) (n : Nat) (hm : n ≤ maxLen) (hs : cs.size = n * size) :
    Sl (w.alloc (.cells cs e)) e size (.slice (some ⟨w.heap.size, 0, none⟩) n n) n cs.toList :=
  ⟨by simpa using hs, .inr ⟨w.heap.size, 0, n, cs, rfl, heap_alloc_new w _, Nat.le_refl _, hm, by omega, fun j _ => by simp⟩⟩

end Go.Proofs.YtngnbafididkcaaGreat
end
section
namespace Go.Proofs.YtngnbafididkcaaGreat
open Go.RowKit

/-- A call of a Go function, as one step of a region. -/
theorem step_call {P : Program} {ops : Array Oper} {o : Oper} {a : Act} {w : World} {K : Act → World → Prop} {Q : Exit → Act → World → Prop} {E : Prop}
    (hg : o.guard = none) (f : FuncId) (xs : Array Operand) (ats : Array TypeId) (hop : o.op = Op.call { callee := Callee.value (.func f), args := xs, argTypes := ats })
    (fn : Func) (hf : P.funcs[f]? = some fn) (hb : fn.body.isNone = false) (hn : (fn.name == "runtime.NumGoroutine") = false)
    (vs : Array Value) (hv : xs.map a.eval = vs) (R : Ending → World → Prop) (hc : Calls P f vs w R)
    (hr : ∀ e w', R e w' → ∃ v, e = .returned v ∧ K (a.put o.dst v) w') :
    if Region.wanted o (yielded ops a.tmps) = true then Oper.wp P o a w K Q else E := by
  have hw : Region.wanted o (yielded ops a.tmps) = true := by simp [Region.wanted, hg]
  rw [if_pos hw]
  obtain ⟨dst, op, type, pos, after, guard⟩ := o
  simp only at hop
  subst hop
  subst hv
  have h1 : (execOp a.eval { dst, op := .call { callee := .value (.func f), args := xs, argTypes := ats }, type, pos, after, guard }).run P w = .ok (.enter f (xs.map a.eval)) w := by
    rw [execOp_call_go]
    show (callFunc f (#[] ++ xs.map a.eval ++ #[])).run P w = _
    simp only [callFunc, program, Sem.run_bind, Sem.run, Result.andThen_ok, hf, hn, hb, Bool.false_eq_true, if_false, Array.empty_append, Array.append_empty]
    rfl
  unfold Oper.wp
  rw [h1]
  refine hc.mono fun e w' he => ?_
  obtain ⟨v, rfl, hk⟩ := hr e w' he
  exact hk

theorem step_append_sl {P : Program} {ops : Array Oper} (w : World) {o : Oper} {a : Act} {K : Act → World → Prop} {Q : Exit → Act → World → Prop} {E : Prop} (hg : o.guard = none) (s x : Operand) (t tx : TypeId)
    (ho : o.op = .call { callee := .builtin .append, args := #[s, x], argTypes := #[t, tx] })
    (e : TypeId) (i : TypeInfo) (z : Value) (size bytes : Nat) (ht : P.underlying t = some (.slice e)) (hi : P.info? e = some i) (hz : i.zero = some z)
    (hsize : i.size = size) (hby : i.bytes = bytes) (hzs : z.cells.size = size)
    (v : Value) (n : Nat) (xs : List Value) (hs : a.eval s = v) (h : Sl w e size v n xs) (xv : Value) (m : Nat) (news : List Value) (hx : a.eval x = xv) (hsrc : Src P size tx xv m news w)
    (h63 : n + m ≤ maxLen) (hbytes : (n + m) * bytes ≤ 140737488355328)
    (hk : ∀ v' w', Sl w' e size v' (n + m) (xs ++ news) → w.grownBy w' v.ownBlock → (v' = .slice none 0 0 ↔ v = .slice none 0 0 ∧ m = 0) → (v'.ownBlock = v.ownBlock ∨ ∃ k, v'.ownBlock = some k ∧ w.heap.size ≤ k) → K (a.put o.dst v') w') :
    if Region.wanted o (yielded ops a.tmps) = true then Oper.wp P o a w K Q else E := by
  have hw : Region.wanted o (yielded ops a.tmps) = true := by simp [Region.wanted, hg]
  rw [if_pos hw]
  exact wp_append_sl w s x t tx ho e i z size bytes ht hi hz hsize hby hzs v n xs hs h xv m news hx hsrc h63 hbytes hk

/-- 'append' where there is room, whatever the slice. -/
theorem wp_append_room {P : Program} {o : Oper} {a : Act} {w : World} {K : Act → World → Prop} {Q : Exit → Act → World → Prop} (s x : Operand) (t tx : TypeId) (ho : o.op = .call { callee := .builtin .append, args := #[s, x], argTypes := #[t, tx] })
    (e : TypeId) (i : TypeInfo) (size : Nat) (ht : P.underlying t = some (.slice e)) (hi : P.info? e = some i) (hsize : i.size = size)
    (g off n cap : Nat) (cur : Array Value) (hs : a.eval s = .slice (some ⟨g, off, none⟩) n cap) (hg : w.heap[g]? = some (.cells cur e (0, 0)))
    (xv : Value) (m : Nat) (news : List Value) (hx : a.eval x = xv) (hsrc : Src P size tx xv m news w) (hroom : n + m ≤ cap) (hfit : off + n * size + news.length ≤ cur.size)
    (hk : K (a.put o.dst (.slice (some ⟨g, off, none⟩) (n + m) cap)) (w.setCells g (off + n * size) news)) : o.wp P a w K Q := by
  subst hsize
  have hr := run_append_room_src (P := P) w t tx o.type e i ht hi g off n cap xv m news hsrc hroom (fun j hj => by
        rw [cell_of_row w g _ cur e (0, 0) hg]; simp; omega) (fun j hj => by simp [World.frozen?, hg])
  unfold Oper.wp execOp
  simp only [ho, resolve, invoke, builtin, Sem.run_bind, Sem.run_pure, Result.andThen_ok, List.map_toArray, List.map_cons, List.map_nil, hs, hx, hr]
  exact hk

theorem step_append_roomS {P : Program} {ops : Array Oper} {o : Oper} {a : Act} {w : World} {K : Act → World → Prop} {Q : Exit → Act → World → Prop} {E : Prop} (hgd : o.guard = none) (s x : Operand) (t tx : TypeId) (ho : o.op = .call { callee := .builtin .append, args := #[s, x], argTypes := #[t, tx] })
    (e : TypeId) (i : TypeInfo) (size : Nat) (ht : P.underlying t = some (.slice e)) (hi : P.info? e = some i) (hsize : i.size = size)
    (g off n cap : Nat) (cur : Array Value) (hs : a.eval s = .slice (some ⟨g, off, none⟩) n cap) (hg : w.heap[g]? = some (.cells cur e (0, 0)))
    (xv : Value) (m : Nat) (news : List Value) (hx : a.eval x = xv) (hsrc : Src P size tx xv m news w) (hroom : n + m ≤ cap) (hfit : off + n * size + news.length ≤ cur.size)
    (hk : K (a.put o.dst (.slice (some ⟨g, off, none⟩) (n + m) cap)) (w.setCells g (off + n * size) news)) :
    if Region.wanted o (yielded ops a.tmps) = true then Oper.wp P o a w K Q else E := by
  have hw : Region.wanted o (yielded ops a.tmps) = true := by simp [Region.wanted, hgd]
  rw [if_pos hw]
  exact wp_append_room s x t tx ho e i size ht hi hsize g off n cap cur hs hg xv m news hx hsrc hroom hfit hk

/-- 'clear' of a slice. -/
theorem wp_clear_sl {P : Program} {o : Oper} {a : Act} {w : World} {K : Act → World → Prop} {Q : Exit → Act → World → Prop} (s : Operand) (t : TypeId) (ho : o.op = .call { callee := .builtin .clear, args := #[s], argTypes := #[t] })
    (e : TypeId) (i : TypeInfo) (z : Value) (ht : P.underlying t = some (.slice e)) (hi : P.info? e = some i) (hz : i.zero = some z)
    (g off n cap : Nat) (cur : Array Value) (hs : a.eval s = .slice (some ⟨g, off, none⟩) n cap) (hg : w.heap[g]? = some (.cells cur e (0, 0)))
    (hzc : ∀ v ∈ (Builtin.zeroCells z.cells n).toList, v.oneCell' = true) (hfit : off + (Builtin.zeroCells z.cells n).size ≤ cur.size) (hn : 0 < n)
    (hk : K (a.put o.dst (.tuple #[])) (w.setCells g off (Builtin.zeroCells z.cells n).toList)) : o.wp P a w K Q := by
  have hst := run_storeCells_cells (P := P) g off (Builtin.zeroCells z.cells n).toList 0 w (fun j hj => by
        rw [cell_of_row w g _ cur e (0, 0) hg]; simp at hj ⊢; omega) (fun j hj => by simp [World.frozen?, hg]) hzc
  have hr : (Builtin.clear_ #[t] o.type #[.slice (some ⟨g, off, none⟩) n cap]).run P w = .ok (.tuple #[]) (w.setCells g off (Builtin.zeroCells z.cells n).toList) := by
    obtain ⟨k, rfl⟩ : ∃ k, n = k + 1 := ⟨n - 1, by omega⟩
    simp only [Nat.add_zero] at hst
    simp [Builtin.clear_, run_underlying ht, typeInfo, zeroValue, hi, hz, hst]
  unfold Oper.wp execOp
  simp only [ho, resolve, invoke, builtin, Sem.run_bind, Sem.run_pure, Result.andThen_ok, List.map_toArray, List.map_cons, List.map_nil, hs, hr]
  exact hk

theorem wpList_clear_sl {P : Program} {ops : Array Oper} {rest : List Oper} {o : Oper} {a : Act} {w : World} {Q : Exit → Act → World → Prop} (hgd : o.guard = none) (s : Operand) (t : TypeId) (ho : o.op = .call { callee := .builtin .clear, args := #[s], argTypes := #[t] })
    (e : TypeId) (i : TypeInfo) (z : Value) (ht : P.underlying t = some (.slice e)) (hi : P.info? e = some i) (hz : i.zero = some z)
    (g off n cap : Nat) (cur : Array Value) (hs : a.eval s = .slice (some ⟨g, off, none⟩) n cap) (hg : w.heap[g]? = some (.cells cur e (0, 0)))
    (hzc : ∀ v ∈ (Builtin.zeroCells z.cells n).toList, v.oneCell' = true) (hfit : off + (Builtin.zeroCells z.cells n).size ≤ cur.size) (hn : 0 < n)
    (hk : wpList P ops Q rest (a.put o.dst (.tuple #[])) (w.setCells g off (Builtin.zeroCells z.cells n).toList)) : wpList P ops Q (o :: rest) a w :=
  wpList_plain hgd fun _ hK => wp_clear_sl s t ho e i z ht hi hz g off n cap cur hs hg hzc hfit hn (hK _ _ hk)

end Go.Proofs.YtngnbafididkcaaGreat
end
