/- General lemmas of our own: append onto a slice that reads as a list of cells, whichever arm it takes. Nothing of the program stands here. -/
import Derived.Test.YtgafnliohmdmoaaBase
namespace Go.Proofs.Ytgafnliohmdmoaa
open Go.RowKit

theorem heap_setCells_same (b : Nat) (e : TypeId) (fr : Nat × Nat) : ∀ (vs : List Value) (o : Nat) (w : World) (cur : Array Value), w.heap[b]? = some (.cells cur e fr) → o + vs.length ≤ cur.size →
    ∃ cur', (w.setCells b o vs).heap[b]? = some (.cells cur' e fr) ∧ cur'.size = cur.size ∧ (∀ j, j < vs.length → cur'[o + j]? = vs[j]?) ∧ (∀ j, (j < o ∨ o + vs.length ≤ j) → cur'[j]? = cur[j]?)
  | [], o, w, cur, h, _ => ⟨cur, h, rfl, fun j hj => by simp at hj, fun _ _ => rfl⟩
  | v :: r, o, w, cur, h, hl => by
    have hl' : o + (r.length + 1) ≤ cur.size := by simpa using hl
    have h1 : (w.setCell ⟨b, o, none⟩ v).heap[b]? = some (.cells (cur.setIfInBounds o v) e fr) := by
      simp only [World.setCell]
      rw [Array.getElem?_modify, if_pos rfl, h]
      rfl
    obtain ⟨cur', h2, h3, h4, h5⟩ := heap_setCells_same b e fr r (o + 1) (w.setCell ⟨b, o, none⟩ v) (cur.setIfInBounds o v) h1 (by simp; omega)
    refine ⟨cur', h2, by simpa using h3, fun j hj => ?_, fun j hj => ?_⟩
    · cases j with
      | zero =>
        have := h5 o (by omega)
        simp at this ⊢
        rw [this]
        simp [show o < cur.size by omega]
      | succ j =>
        have := h4 j (by simpa using hj)
        rw [show o + (j + 1) = o + 1 + j by omega, this]
        simp
    · rw [h5 j (by simp at hj; omega)]
      rw [Array.getElem?_setIfInBounds, if_neg (by simp at hj; omega)]

theorem heap_setCells_other (b : Nat) : ∀ (vs : List Value) (o : Nat) (w : World) (k : Nat), k ≠ b → (w.setCells b o vs).heap[k]? = w.heap[k]?
  | [], _, _, _, _ => rfl
  | v :: r, o, w, k, h => by rw [World.setCells, heap_setCells_other b r _ _ _ h, Below.heap_setCell _ _ _ _ h]

theorem setCells_size (b : Nat) : ∀ (vs : List Value) (o : Nat) (w : World), (w.setCells b o vs).heap.size = w.heap.size
  | [], _, _ => rfl
  | v :: r, o, w => by rw [World.setCells, setCells_size b r]; simp

theorem setCells_os (b : Nat) : ∀ (vs : List Value) (o : Nat) (w : World), (w.setCells b o vs).os = w.os ∧ (w.setCells b o vs).tape = w.tape ∧ (w.setCells b o vs).output = w.output
  | [], _, _ => ⟨rfl, rfl, rfl⟩
  | v :: r, o, w => by rw [World.setCells]; exact setCells_os b r _ _

theorem setCells_grown (b o : Nat) (vs : List Value) (w : World) : w.grownBy (w.setCells b o vs) (some b) :=
  ⟨(setCells_os b vs o w).1, (setCells_os b vs o w).2.1, (setCells_os b vs o w).2.2, by rw [setCells_size]; exact Nat.le_refl _, fun k _ hk => heap_setCells_other b vs o w k (fun e => hk (by rw [e]))⟩

/-- Where the old cells of a slice are: what 'append' reads of it. -/
theorem Sl.first {P : Program} {w : World} {e : TypeId} {size n : Nat} {a : Option Addr} {c : Nat} {xs : List Value} (h : Sl w e size (.slice a n c) n xs) :
    (Builtin.firstCells size n (.slice a n c)).run P w = .ok xs.toArray w := by
  rcases h.2 with ⟨h2, rfl⟩ | ⟨g, off, cap, cur, h2, hg, hn, hm, hs, hc⟩
  · simp only [Value.slice.injEq] at h2
    obtain ⟨rfl, _, rfl⟩ := h2
    have : xs = [] := List.eq_nil_of_length_eq_zero (by simpa using h.1)
    subst this
    exact run_firstCells_none w size 0 0 0
  · simp only [Value.slice.injEq] at h2
    obtain ⟨rfl, _, rfl⟩ := h2
    refine run_firstCells_some w size n _ n c xs h.1 (fun j u hu => ?_)
    have := (Sl.cells (w := w) (e := e) (size := size) ⟨h.1, .inr ⟨g, off, c, cur, rfl, hg, hn, hm, hs, hc⟩⟩).1 j u hu
    rw [Addr.add_lit]
    exact this

/-- 'append' in both arms. -/
theorem run_append_sl {P : Program} (w : World) (t tx ty e : TypeId) (i : TypeInfo) (z : Value) (size bytes : Nat) (ht : P.underlying t = some (.slice e)) (hi : P.info? e = some i) (hz : i.zero = some z)
    (hsize : i.size = size) (hby : i.bytes = bytes) (hzs : z.cells.size = size)
    (v : Value) (n : Nat) (xs : List Value) (h : Sl w e size v n xs) (x : Value) (m : Nat) (news : List Value) (hs : Src P size tx x m news w)
    (h63 : n + m ≤ maxLen) (hbytes : (n + m) * bytes ≤ 140737488355328) :
    ∃ v' w', (Builtin.append_ #[t, tx] ty #[v, x]).run P w = .ok v' w' ∧ Sl w' e size v' (n + m) (xs ++ news) ∧ w.grownBy w' v.ownBlock ∧
      (v' = .slice none 0 0 ↔ v = .slice none 0 0 ∧ m = 0) ∧ (v'.ownBlock = v.ownBlock ∨ ∃ k, v'.ownBlock = some k ∧ w.heap.size ≤ k) := by
  subst hsize
  subst hby
  have hlen : (xs ++ news).length = (n + m) * i.size := by rw [List.length_append, h.1, hs.newsLen, Nat.add_mul]
  -- the arm that grows
  have grow : ∀ (a : Option Addr) (cap : Nat), v = .slice a n cap → cap < n + m →
      ∃ v' w', (Builtin.append_ #[t, tx] ty #[v, x]).run P w = .ok v' w' ∧ Sl w' e i.size v' (n + m) (xs ++ news) ∧ w.grownBy w' v.ownBlock ∧
        (v' = .slice none 0 0 ↔ v = .slice none 0 0 ∧ m = 0) ∧ (v'.ownBlock = v.ownBlock ∨ ∃ k, v'.ownBlock = some k ∧ w.heap.size ≤ k) := by
    intro a cap hv hlt
    subst hv
    have hold : (Builtin.firstCells i.size n (.slice a n cap)).run P w.drew = .ok xs.toArray w.drew := (Sl.first (P := P) (w := w.drew) (e := e) h)
    have hr := run_append_grow_src (P := P) w t tx ty e i z ht hi hz a n cap xs hold x m news hs hlt (by have h' := h63; simp only [maxLen] at h'; omega) (growslice_fits hlt hbytes)
    have hge := grownCap_ge w (n + m) cap e
    have hcm : grownCap w (n + m) cap e ≤ maxLen := grownCap_le_maxLen w (n + m) cap e h63
    refine ⟨_, _, hr, ⟨hlen, .inr ⟨w.heap.size, 0, _, _, rfl, heap_alloc_new w.drew _, hge, hcm, ?_, ?_⟩⟩, ⟨rfl, rfl, rfl, by simp, fun k hk _ => Below.heap_alloc w.drew _ k hk⟩, ?_, .inr ⟨w.heap.size, rfl, Nat.le_refl _⟩⟩
    · simp only [Array.size_append, List.size_toArray, size_zeroCells, hzs, hlen, ← Nat.add_mul, Nat.zero_add]
      exact Nat.mul_le_mul_right _ (by omega)
    · intro j hj
      rw [Nat.zero_add, Array.getElem?_append_left (by rw [List.size_toArray, hlen]; exact hj)]
      simp
    · simp only [Value.slice.injEq, reduceCtorEq, false_and, false_iff]
      rintro ⟨⟨_, rfl, rfl⟩, rfl⟩
      simp at hlt
  rcases h.2 with ⟨rfl, rfl⟩ | ⟨g, off, cap, cur, rfl, hg, hnc, hcm, hcs, hcell⟩
  · have hx : xs = [] := List.eq_nil_of_length_eq_zero (by simpa using h.1)
    subst hx
    by_cases hm : m = 0
    · subst hm
      have hn : news = [] := List.eq_nil_of_length_eq_zero (by simpa using hs.newsLen)
      subst hn
      refine ⟨.slice none 0 0, w, ?_, Sl.nil w e i.size, World.grownBy.refl _ _, by simp, .inl rfl⟩
      rcases hs.kind with ⟨e', hk⟩ | hk <;> simp [Builtin.append_, run_underlying ht, run_underlying hk, sizeOf, typeInfo, hi, hs.len, hs.cells]
    · exact grow none 0 rfl (by omega)
  · by_cases hroom : n + m ≤ cap
    · have hmul : (n + m) * i.size ≤ cap * i.size := Nat.mul_le_mul_right _ hroom
      have hfit : off + n * i.size + news.length ≤ cur.size := by rw [hs.newsLen, Nat.add_assoc, ← Nat.add_mul]; omega
      have hr := run_append_room_src (P := P) w t tx ty e i ht hi g off n cap x m news hs hroom (fun j hj => by
        rw [cell_of_row w g _ cur e (0, 0) hg]; simp; omega) (fun j hj => by simp [World.frozen?, hg])
      obtain ⟨cur', k1, k2, k3, k4⟩ := heap_setCells_same g e (0, 0) news (off + n * i.size) w cur hg hfit
      refine ⟨_, _, hr, ⟨hlen, .inr ⟨g, off, cap, cur', rfl, k1, hroom, hcm, by omega, fun j hj => ?_⟩⟩, setCells_grown _ _ _ _, by simp, .inl rfl⟩
      by_cases hjn : j < n * i.size
      · rw [k4 _ (by omega), hcell j hjn, List.getElem?_append_left (by rw [h.1]; exact hjn)]
      · have hj2 : j - n * i.size < news.length := by rw [hs.newsLen]; rw [Nat.add_mul] at hj; omega
        have := k3 (j - n * i.size) hj2
        rw [show off + n * i.size + (j - n * i.size) = off + j by omega] at this
        rw [this, List.getElem?_append_right (by rw [h.1]; omega), h.1]
    · exact grow _ cap rfl (by omega)

theorem wp_append_sl {P : Program} (w : World) {o : Oper} {a : Act} {K : Act → World → Prop} {Q : Exit → Act → World → Prop} (s x : Operand) (t tx : TypeId)
    (ho : o.op = .call { callee := .builtin .append, args := #[s, x], argTypes := #[t, tx] })
    (e : TypeId) (i : TypeInfo) (z : Value) (size bytes : Nat) (ht : P.underlying t = some (.slice e)) (hi : P.info? e = some i) (hz : i.zero = some z)
    (hsize : i.size = size) (hby : i.bytes = bytes) (hzs : z.cells.size = size)
    (v : Value) (n : Nat) (xs : List Value) (hs : a.eval s = v) (h : Sl w e size v n xs) (xv : Value) (m : Nat) (news : List Value) (hx : a.eval x = xv) (hsrc : Src P size tx xv m news w)
    (h63 : n + m ≤ maxLen) (hbytes : (n + m) * bytes ≤ 140737488355328)
    (hk : ∀ v' w', Sl w' e size v' (n + m) (xs ++ news) → w.grownBy w' v.ownBlock → (v' = .slice none 0 0 ↔ v = .slice none 0 0 ∧ m = 0) → (v'.ownBlock = v.ownBlock ∨ ∃ k, v'.ownBlock = some k ∧ w.heap.size ≤ k) → K (a.put o.dst v') w') : o.wp P a w K Q := by
  obtain ⟨v', w', hr, h2, h3, h4, h5⟩ := run_append_sl (P := P) w t tx o.type e i z size bytes ht hi hz hsize hby hzs v n xs h xv m news hsrc h63 hbytes
  unfold Oper.wp execOp
  simp only [ho, resolve, invoke, builtin, Sem.run_bind, Sem.run_pure, Result.andThen_ok, List.map_toArray, List.map_cons, List.map_nil, hs, hx, hr]
  exact hk v' w' h2 h3 h4 h5

theorem wpList_append_sl {P : Program} (w : World) {ops : Array Oper} {rest : List Oper} {o : Oper} {a : Act} {Q : Exit → Act → World → Prop} (hgd : o.guard = none) (s x : Operand) (t tx : TypeId)
    (ho : o.op = .call { callee := .builtin .append, args := #[s, x], argTypes := #[t, tx] })
    (e : TypeId) (i : TypeInfo) (z : Value) (size bytes : Nat) (ht : P.underlying t = some (.slice e)) (hi : P.info? e = some i) (hz : i.zero = some z)
    (hsize : i.size = size) (hby : i.bytes = bytes) (hzs : z.cells.size = size)
    (v : Value) (n : Nat) (xs : List Value) (hs : a.eval s = v) (h : Sl w e size v n xs) (xv : Value) (m : Nat) (news : List Value) (hx : a.eval x = xv) (hsrc : Src P size tx xv m news w)
    (h63 : n + m ≤ maxLen) (hbytes : (n + m) * bytes ≤ 140737488355328)
    (hk : ∀ v' w', Sl w' e size v' (n + m) (xs ++ news) → w.grownBy w' v.ownBlock → (v' = .slice none 0 0 ↔ v = .slice none 0 0 ∧ m = 0) → (v'.ownBlock = v.ownBlock ∨ ∃ k, v'.ownBlock = some k ∧ w.heap.size ≤ k) → wpList P ops Q rest (a.put o.dst v') w') : wpList P ops Q (o :: rest) a w :=
  wpList_plain hgd fun _ hK => wp_append_sl w s x t tx ho e i z size bytes ht hi hz hsize hby hzs v n xs hs h xv m news hx hsrc h63 hbytes fun v' w' h2 h3 h4 h5 => hK _ _ (hk v' w' h2 h3 h4 h5)

/-- What a slice yields to append, or to a copy. -/
theorem Sl.src {P : Program} {w : World} {e tx : TypeId} {size n : Nat} {v : Value} {xs : List Value} (h : Sl w e size v n xs) (hk : P.underlying tx = some (.slice e)) (h1 : ∀ u ∈ xs, u.oneCell' = true) : Src P size tx v n xs w := by
  obtain ⟨a, c, rfl⟩ : ∃ a c, v = .slice a n c := by
    rcases h.2 with ⟨rfl, rfl⟩ | ⟨g, off, cap, cur, rfl, _⟩ <;> exact ⟨_, _, rfl⟩
  exact ⟨.inl ⟨e, hk⟩, fun _ => rfl, h.first, Sl.first (w := w.drew) (e := e) h, h.1, h1⟩

theorem Sl.alloc {w : World} {e : TypeId} {size n : Nat} {v : Value} {xs : List Value} (h : Sl w e size v n xs) (o : Obj) : Sl (w.alloc o) e size v n xs :=
  h.kept fun k hk => Below.heap_alloc _ _ _ (h.lt k hk)

theorem Sl.drew {w : World} {e : TypeId} {size n : Nat} {v : Value} {xs : List Value} (h : Sl w e size v n xs) : Sl w.drew e size v n xs := h

theorem Sl.setCell {w : World} {e : TypeId} {size n : Nat} {v : Value} {xs : List Value} (h : Sl w e size v n xs) {a : Addr} (ha : v.ownBlock ≠ some a.block) (u : Value) : Sl (w.setCell a u) e size v n xs :=
  h.kept fun k hk => Below.heap_setCell _ _ _ _ (fun e => ha (by rw [hk, e]))

theorem Sl.grown {w w' : World} {e : TypeId} {size n : Nat} {v : Value} {xs : List Value} {row : Option Nat} (h : Sl w e size v n xs) (hg : w.grownBy w' row) (hr : ∀ k, v.ownBlock = some k → some k ≠ row) : Sl w' e size v n xs :=
  h.kept fun k hk => hg.block k (h.lt k hk) (hr k hk)

theorem Sl.below {w w' : World} {e : TypeId} {size n : Nat} {v : Value} {xs : List Value} (h : Sl w e size v n xs) (hb : Below w.heap.size w w') : Sl w' e size v n xs :=
  h.kept fun k hk => hb.block k (h.lt k hk)

/-- A slice that a literal makes. -/
theorem Sl.lit (w : World) (e : TypeId) (size : Nat) (cs : Array Value) (n : Nat) (hm : n ≤ maxLen) (hs : cs.size = n * size) :
    Sl (w.alloc (.cells cs e)) e size (.slice (some ⟨w.heap.size, 0, none⟩) n n) n cs.toList :=
  ⟨by simpa using hs, .inr ⟨w.heap.size, 0, n, cs, rfl, heap_alloc_new w _, Nat.le_refl _, hm, by omega, fun j _ => by simp⟩⟩

end Go.Proofs.Ytgafnliohmdmoaa
