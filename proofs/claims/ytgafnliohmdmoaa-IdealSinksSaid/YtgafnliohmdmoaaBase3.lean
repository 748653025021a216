/- General lemmas of our own: one step of a region that draws its order: a call by its contract, an append. Nothing of the program stands here. -/
import Derived.Test.YtgafnliohmdmoaaBase2
import Derived.Deep.RegionLaw
namespace Go.Proofs.Ytgafnliohmdmoaa
open Go.RowKit

/-- A call of a Go function, as one step of a region. -/
theorem step_call {P : Program} {ops : Array Oper} {o : Oper} {a : Act} {w : World} {K : Act → World → Prop} {Q : Exit → Act → World → Prop} {E : Prop}
    (hg : o.guard = none) (f : FuncId) (xs : Array Operand) (ats : Array TypeId) (hop : o.op = Op.call { callee := Callee.value (.func f), args := xs, argTypes := ats })
    (fn : Func) (hf : P.funcs[f]? = some fn) (hb : fn.body.isNone = false) (hn : (fn.name == "runtime.NumGoroutine") = false)
    (vs : Array Value) (hv : xs.map a.eval = vs) (R : Ending → World → Prop) (hc : Calls P f vs w R)
    (hr : ∀ e w', R e w' → ∃ v, e = .returned v ∧ K (a.put o.dst v) w') :
    if Region.wanted o (yielded ops a.tmps) = true then Oper.wp P o a w K Q else E := by
  have hw : Region.wanted o (yielded ops a.tmps) = true := by simp [Region.wanted, hg]
  rw [if_pos hw]
  obtain ⟨dst, op, type, pos, after, guard⟩ := o
  simp only at hop
  subst hop
  subst hv
  have h1 : (execOp a.eval { dst, op := .call { callee := .value (.func f), args := xs, argTypes := ats }, type, pos, after, guard }).run P w = .ok (.enter f (xs.map a.eval)) w := by
    rw [execOp_call_go]
    show (callFunc f (#[] ++ xs.map a.eval ++ #[])).run P w = _
    simp only [callFunc, program, Sem.run_bind, Sem.run, Result.andThen_ok, hf, hn, hb, Bool.false_eq_true, if_false, Array.empty_append, Array.append_empty]
    rfl
  unfold Oper.wp
  rw [h1]
  refine hc.mono fun e w' he => ?_
  obtain ⟨v, rfl, hk⟩ := hr e w' he
  exact hk

theorem step_append_sl {P : Program} {ops : Array Oper} (w : World) {o : Oper} {a : Act} {K : Act → World → Prop} {Q : Exit → Act → World → Prop} {E : Prop} (hg : o.guard = none) (s x : Operand) (t tx : TypeId)
    (ho : o.op = .call { callee := .builtin .append, args := #[s, x], argTypes := #[t, tx] })
    (e : TypeId) (i : TypeInfo) (z : Value) (size bytes : Nat) (ht : P.underlying t = some (.slice e)) (hi : P.info? e = some i) (hz : i.zero = some z)
    (hsize : i.size = size) (hby : i.bytes = bytes) (hzs : z.cells.size = size)
    (v : Value) (n : Nat) (xs : List Value) (hs : a.eval s = v) (h : Sl w e size v n xs) (xv : Value) (m : Nat) (news : List Value) (hx : a.eval x = xv) (hsrc : Src P size tx xv m news w)
    (h63 : n + m ≤ maxLen) (hbytes : (n + m) * bytes ≤ 140737488355328)
    (hk : ∀ v' w', Sl w' e size v' (n + m) (xs ++ news) → w.grownBy w' v.ownBlock → (v' = .slice none 0 0 ↔ v = .slice none 0 0 ∧ m = 0) → (v'.ownBlock = v.ownBlock ∨ ∃ k, v'.ownBlock = some k ∧ w.heap.size ≤ k) → K (a.put o.dst v') w') :
    if Region.wanted o (yielded ops a.tmps) = true then Oper.wp P o a w K Q else E := by
  have hw : Region.wanted o (yielded ops a.tmps) = true := by simp [Region.wanted, hg]
  rw [if_pos hw]
  exact wp_append_sl w s x t tx ho e i z size bytes ht hi hz hsize hby hzs v n xs hs h xv m news hx hsrc h63 hbytes hk

/-- 'append' where there is room, whatever the slice. -/
theorem wp_append_room {P : Program} {o : Oper} {a : Act} {w : World} {K : Act → World → Prop} {Q : Exit → Act → World → Prop} (s x : Operand) (t tx : TypeId) (ho : o.op = .call { callee := .builtin .append, args := #[s, x], argTypes := #[t, tx] })
    (e : TypeId) (i : TypeInfo) (size : Nat) (ht : P.underlying t = some (.slice e)) (hi : P.info? e = some i) (hsize : i.size = size)
    (g off n cap : Nat) (cur : Array Value) (hs : a.eval s = .slice (some ⟨g, off, none⟩) n cap) (hg : w.heap[g]? = some (.cells cur e (0, 0)))
    (xv : Value) (m : Nat) (news : List Value) (hx : a.eval x = xv) (hsrc : Src P size tx xv m news w) (hroom : n + m ≤ cap) (hfit : off + n * size + news.length ≤ cur.size)
    (hk : K (a.put o.dst (.slice (some ⟨g, off, none⟩) (n + m) cap)) (w.setCells g (off + n * size) news)) : o.wp P a w K Q := by
  subst hsize
  have hr := run_append_room_src (P := P) w t tx o.type e i ht hi g off n cap xv m news hsrc hroom (fun j hj => by
        rw [cell_of_row w g _ cur e (0, 0) hg]; simp; omega) (fun j hj => by simp [World.frozen?, hg])
  unfold Oper.wp execOp
  simp only [ho, resolve, invoke, builtin, Sem.run_bind, Sem.run_pure, Result.andThen_ok, List.map_toArray, List.map_cons, List.map_nil, hs, hx, hr]
  exact hk

theorem step_append_roomS {P : Program} {ops : Array Oper} {o : Oper} {a : Act} {w : World} {K : Act → World → Prop} {Q : Exit → Act → World → Prop} {E : Prop} (hgd : o.guard = none) (s x : Operand) (t tx : TypeId) (ho : o.op = .call { callee := .builtin .append, args := #[s, x], argTypes := #[t, tx] })
    (e : TypeId) (i : TypeInfo) (size : Nat) (ht : P.underlying t = some (.slice e)) (hi : P.info? e = some i) (hsize : i.size = size)
    (g off n cap : Nat) (cur : Array Value) (hs : a.eval s = .slice (some ⟨g, off, none⟩) n cap) (hg : w.heap[g]? = some (.cells cur e (0, 0)))
    (xv : Value) (m : Nat) (news : List Value) (hx : a.eval x = xv) (hsrc : Src P size tx xv m news w) (hroom : n + m ≤ cap) (hfit : off + n * size + news.length ≤ cur.size)
    (hk : K (a.put o.dst (.slice (some ⟨g, off, none⟩) (n + m) cap)) (w.setCells g (off + n * size) news)) :
    if Region.wanted o (yielded ops a.tmps) = true then Oper.wp P o a w K Q else E := by
  have hw : Region.wanted o (yielded ops a.tmps) = true := by simp [Region.wanted, hgd]
  rw [if_pos hw]
  exact wp_append_room s x t tx ho e i size ht hi hsize g off n cap cur hs hg xv m news hx hsrc hroom hfit hk

/-- 'clear' of a slice. -/
theorem wp_clear_sl {P : Program} {o : Oper} {a : Act} {w : World} {K : Act → World → Prop} {Q : Exit → Act → World → Prop} (s : Operand) (t : TypeId) (ho : o.op = .call { callee := .builtin .clear, args := #[s], argTypes := #[t] })
    (e : TypeId) (i : TypeInfo) (z : Value) (ht : P.underlying t = some (.slice e)) (hi : P.info? e = some i) (hz : i.zero = some z)
    (g off n cap : Nat) (cur : Array Value) (hs : a.eval s = .slice (some ⟨g, off, none⟩) n cap) (hg : w.heap[g]? = some (.cells cur e (0, 0)))
    (hzc : ∀ v ∈ (Builtin.zeroCells z.cells n).toList, v.oneCell' = true) (hfit : off + (Builtin.zeroCells z.cells n).size ≤ cur.size) (hn : 0 < n)
    (hk : K (a.put o.dst (.tuple #[])) (w.setCells g off (Builtin.zeroCells z.cells n).toList)) : o.wp P a w K Q := by
  have hst := run_storeCells_cells (P := P) g off (Builtin.zeroCells z.cells n).toList 0 w (fun j hj => by
        rw [cell_of_row w g _ cur e (0, 0) hg]; simp at hj ⊢; omega) (fun j hj => by simp [World.frozen?, hg]) hzc
  have hr : (Builtin.clear_ #[t] o.type #[.slice (some ⟨g, off, none⟩) n cap]).run P w = .ok (.tuple #[]) (w.setCells g off (Builtin.zeroCells z.cells n).toList) := by
    obtain ⟨k, rfl⟩ : ∃ k, n = k + 1 := ⟨n - 1, by omega⟩
    simp only [Nat.add_zero] at hst
    simp [Builtin.clear_, run_underlying ht, typeInfo, zeroValue, hi, hz, hst]
  unfold Oper.wp execOp
  simp only [ho, resolve, invoke, builtin, Sem.run_bind, Sem.run_pure, Result.andThen_ok, List.map_toArray, List.map_cons, List.map_nil, hs, hr]
  exact hk

theorem wpList_clear_sl {P : Program} {ops : Array Oper} {rest : List Oper} {o : Oper} {a : Act} {w : World} {Q : Exit → Act → World → Prop} (hgd : o.guard = none) (s : Operand) (t : TypeId) (ho : o.op = .call { callee := .builtin .clear, args := #[s], argTypes := #[t] })
    (e : TypeId) (i : TypeInfo) (z : Value) (ht : P.underlying t = some (.slice e)) (hi : P.info? e = some i) (hz : i.zero = some z)
    (g off n cap : Nat) (cur : Array Value) (hs : a.eval s = .slice (some ⟨g, off, none⟩) n cap) (hg : w.heap[g]? = some (.cells cur e (0, 0)))
    (hzc : ∀ v ∈ (Builtin.zeroCells z.cells n).toList, v.oneCell' = true) (hfit : off + (Builtin.zeroCells z.cells n).size ≤ cur.size) (hn : 0 < n)
    (hk : wpList P ops Q rest (a.put o.dst (.tuple #[])) (w.setCells g off (Builtin.zeroCells z.cells n).toList)) : wpList P ops Q (o :: rest) a w :=
  wpList_plain hgd fun _ hK => wp_clear_sl s t ho e i z ht hi hz g off n cap cur hs hg hzc hfit hn (hK _ _ hk)

end Go.Proofs.Ytgafnliohmdmoaa
