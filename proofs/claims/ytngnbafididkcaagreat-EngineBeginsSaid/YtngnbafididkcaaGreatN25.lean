/- Engine: what Select does, in plain words. Engine's laws: awake: in our own logic. EngineKeeps: in our own logic. -/
import Derived.Test.YtngnbafididkcaaGreatN9
import Derived.Test.YtngnbafididkcaaGreatN23
import Derived.Test.YtngnbafididkcaaGreatN22
import Derived.Test.YtngnbafididkcaaGreatL12
section
namespace Go.Proofs.YtngnbafididkcaaGreat
open Go.RowKit
set_option linter.unusedSimpArgs false

theorem want_iff {es : List Ent} (hs : SortE es) {a n : Int} {x : Ent} : wantE es a n = some x ↔ x ∈ es ∧ x.addr = a ∧ x.len = n := by
  unfold wantE
  constructor
  · intro h
    have h1 := List.find?_some h
    simp only [Bool.and_eq_true, decide_eq_true_eq] at h1
    exact ⟨List.mem_of_find?_eq_some h, h1⟩
  · rintro ⟨hx, h1, h2⟩
    cases hw : es.find? (fun x => decide (x.addr = a) && decide (x.len = n)) with
    | none =>
      rw [List.find?_eq_none] at hw
      exact absurd (show _ = true by simp [h1, h2]) (hw x hx)
    | some z =>
      have hz := List.find?_some hw
      have hm := List.mem_of_find?_eq_some hw
      simp only [Bool.and_eq_true, decide_eq_true_eq] at hz
      rw [hs.uniq hm hx (a := a) (n := n) hz ⟨h1, h2⟩]
theorem want_none_iff {es : List Ent} {a n : Int} : wantE es a n = none ↔ ∀ x ∈ es, ¬ (x.addr = a ∧ x.len = n) := by
  unfold wantE
  rw [List.find?_eq_none]
  simp only [Bool.and_eq_true, decide_eq_true_eq]
/-- A mark behind another one. -/
def lowE (o : Option Ent) (a n s m : Int) : Ent := match o with | some x => if nearI s m x.seq x.metric = true then ⟨a, n, s, m⟩ else x | none => ⟨a, n, s, m⟩
theorem LowR.want {es es' : List Ent} {a n s m : Int} (h : LowR es a n s m es') (hs : SortE es) (a' n' : Int) : wantE es' a' n' = if a' = a ∧ n' = n then some (lowE (wantE es a n) a n s m) else wantE es a' n' := by
  have hs' := h.sorted hs
  by_cases hp : a' = a ∧ n' = n
  · rw [if_pos hp]
    obtain ⟨rfl, rfl⟩ := hp
    rw [want_iff hs']
    rcases h with ⟨i, x, hx, h1, h2, rfl⟩ | ⟨hno, i, hpl, rfl⟩
    · obtain ⟨hi, hxi⟩ := List.getElem?_eq_some_iff.1 hx
      have hw : wantE es a' n' = some x := (want_iff hs).2 ⟨List.mem_of_getElem? hx, h1, h2⟩
      rw [hw]
      refine ⟨List.mem_set hi _, ?_⟩
      unfold lowE
      simp only
      split
      · exact ⟨rfl, rfl⟩
      · exact ⟨h1, h2⟩
    · rw [want_none_iff.2 hno]
      exact ⟨by simp [lowE], rfl, rfl⟩
  · rw [if_neg hp]
    refine Option.ext fun z => ?_
    rw [want_iff hs', want_iff hs]
    constructor
    · rintro ⟨hz, h1, h2⟩
      exact ⟨h.other z hz (fun h => hp ⟨by rw [← h1]; exact h.1, by rw [← h2]; exact h.2⟩), h1, h2⟩
    · rintro ⟨hz, h1, h2⟩
      refine ⟨?_, h1, h2⟩
      rcases h with ⟨i, x, hx, g1, g2, rfl⟩ | ⟨hno, i, hpl, rfl⟩
      · obtain ⟨j, hj, rfl⟩ := List.getElem_of_mem hz
        obtain ⟨hi, rfl⟩ := List.getElem?_eq_some_iff.1 hx
        have hne : i ≠ j := fun e => by subst e; exact hp ⟨by rw [← h1]; exact g1, by rw [← h2]; exact g2⟩
        refine List.mem_of_getElem? (i := j) ?_
        rw [List.getElem?_set_ne hne, List.getElem?_eq_getElem hj]
      · rw [← List.take_append_drop i es] at hz
        rcases List.mem_append.1 hz with hz | hz
        · simp [hz]
        · simp [hz]
theorem LowL.sorted : ∀ {es es' : List Ent} {rs : List Rt}, LowL es rs es' → SortE es → SortE es'
  | _, _, [], h, hs => by rw [h]; exact hs
  | _, _, _ :: _, ⟨_, h1, h⟩, hs => LowL.sorted h (h1.sorted hs)
/-- Marks of prefixes that are none of those stay. -/
theorem LowL.other : ∀ {es es' : List Ent} {rs : List Rt}, LowL es rs es' → SortE es → ∀ {a n : Int}, (∀ r ∈ rs, ¬ (r.addr = a ∧ r.len = n)) → wantE es' a n = wantE es a n
  | _, _, [], h, _, _, _, _ => by rw [h]
  | _, _, r :: rs, ⟨e1, h1, h⟩, hs, a, n, hno => by
    rw [LowL.other h (h1.sorted hs) (fun x hx => hno x (List.mem_cons_of_mem _ hx)), h1.want hs, if_neg]
    rintro ⟨rfl, rfl⟩
    exact hno r (List.mem_cons_self) ⟨rfl, rfl⟩
theorem find_perm {q : Rt → Bool} {l m : List Rt} (h : l.Perm m) (hu : ∀ x ∈ m, ∀ y ∈ m, q x = true → q y = true → x = y) : l.find? q = m.find? q := by
  cases hm : m.find? q with
  | none =>
    rw [List.find?_eq_none] at hm ⊢
    exact fun x hx => hm x (h.mem_iff.1 hx)
  | some x =>
    have h1 := List.find?_some hm
    have h2 := List.mem_of_find?_eq_some hm
    cases hl : l.find? q with
    | none =>
      rw [List.find?_eq_none] at hl
      exact absurd h1 (hl x (h.mem_iff.2 h2))
    | some z =>
      rw [hu z (h.mem_iff.1 (List.mem_of_find?_eq_some hl)) x h2 (List.find?_some hl) h1]
section
variable {e e' : Eng} {L : List Rt} {ks : List (Int × Int)} {es1 es2 : List Ent} {ts' tb : List Tld} {d : Bool} {lo : List (Int × Int)}
theorem SelE.ks1 (h : SelE e e' L ks es1 es2 ts' tb d lo) {o : Int × Int} {q : Int} (ho : e.own = [(o, q)]) : ks = [o] := by
  have := h.kp
  rw [ho] at this
  exact List.perm_singleton.1 this
theorem SelE.own1 (h : SelE e e' L ks es1 es2 ts' tb d lo) {o : Int × Int} {q : Int} (ho : e.own = [(o, q)]) (hi : e.id = 0) : ownL e ks = [⟨o.1, o.2, 0, 0, q⟩] := by
  rw [h.ks1 ho]
  simp [ownL, ho, hi, getA]
/-- With nothing told its own ways are all. -/
theorem SelE.one (h : SelE e e' L ks es1 es2 ts' tb d lo) {o : Int × Int} {q : Int} (ho : e.own = [(o, q)]) (ht : e.ts = []) (hi : e.id = 0) : L = [⟨o.1, o.2, 0, 0, q⟩] := by
  have hL := h.Lp
  have htp := h.tp
  rw [ht] at htp
  have ht' : ts' = [] := List.perm_nil.1 htp
  rw [h.own1 ho hi, ht', show selR (costsE e) (feasE es1) [] = [] from rfl, List.append_nil] at hL
  exact List.perm_singleton.1 hL
end
end Go.Proofs.YtngnbafididkcaaGreat
end
section
namespace Go.Proofs.YtngnbafididkcaaGreat
open Go.RowKit
set_option linter.unusedSimpArgs false

theorem new_pre : EngPre (engNew 0 [(ownPx, 1)]) := by
  refine ⟨fun a ha => ?_, by simp [engNew], by simp [engNew], by simp [engNew], by simp [engNew], by simp [engNew], by simp [engNew], by simp [engNew], by simp [engNew]⟩
  simp only [engNew, List.mem_singleton] at ha
  subst ha
  exact ⟨by decide, by decide⟩
theorem EngS.kp0 {lo nx nx' : Nat} {H H' : AH} {p : Nat} {e : Eng} {y : ELay} {col : Nat → Nat} (s : EngS lo nx H p (fun _ => 0) e H' nx' y col) : Kp (fun _ => False) nx H H' := s.kp.mono (Nat.le_refl _) (fun _ _ h => h rfl)
set_option maxHeartbeats 1000000 in
set_option maxRecDepth 20000 in
theorem awake17_c {lo nx : Nat} {H : AH} : ACalls Tryz.prog lo 13 #[] H nx (fun v H' nx' => v = .bool true ∧ nx ≤ nx' ∧ Kp (fun _ => False) nx H H') := by
  refine ACalls.withLo fun hlo => ?_
  refine acalls_of_swp Tryz.func13 rfl (by kernel_rfl) ?_
  refine swp_seq L13 (by kernel_rfl) ?_
  simp (disch := omega) only [go_sem, ↓reduceIte ]
  refine swp_seq L13 (by kernel_rfl) ?_
  simp (disch := omega) only [go_sem, ↓reduceIte ]
  refine own17_c.mono fun v H1 nx1 _ ⟨b1, hb1, hv, hn1, hk1, hs1⟩ => ?_
  subst hv; subst hn1
  simp (disch := omega) only [go_sem, ↓reduceIte ]
  refine (enew_c 0 hs1 (by decide) (by omega)).mono fun v H2 nx2 _ ⟨p, y, col, hv, st⟩ => ?_
  subst hv
  simp (disch := omega) only [go_sem, ↓reduceIte ]
  refine swp_seq L13 (by kernel_rfl) ?_
  simp (disch := omega) only [go_sem, ↓reduceIte ]
  refine (eselect_c st.a new_pre).mono fun v H3 nx3 _ ⟨e', L, ks, es1, es2, ts', tb, d, l2, y', col', own', hse, s3, hsl, how, hko⟩ => ?_
  have hL := hse.one (o := ownPx) rfl rfl rfl
  subst hL
  have hone := hsl.one
  have k3 : Kp (fun _ => False) nx H H3 := hk1.trans (U := fun _ => False) (st.trans s3).kp0 (by omega) (fun _ _ h => h) (fun _ _ h => h)
  have hx2 := st.le
  have hx3 := s3.le
  obtain ⟨g, off, cap, hv, hgo⟩ := hsl.open (by simp)
  subst hv
  have hld := rt_load hsl (i := 0) rfl
  unfold Rt.cells at hld
  simp only [ownPx, Nat.zero_mul, Nat.add_zero] at hld
  simp only [List.length_cons, List.length_nil, Nat.zero_add]
  simp (disch := omega) only [go_sem, ↓reduceIte ]
  refine swp_seqS ?_
  refine swp_switch (L := L13) [0, 1, 2, 3, 4, 5, 6] 7 [8, 9, 10, 11, 12, 13] (by kernel_rfl) (by kernel_rfl) ?_
  simp (disch := omega) only [go_sem, ↓reduceIte , Int.toNat_zero, Nat.zero_mul, Nat.add_zero, hld]
  refine ⟨⟨_, rfl, rfl⟩, ?_⟩
  refine own17_c.mono fun v H4 nx4 _ ⟨b4, hb4, hv, hn4, hk4, hs4⟩ => ?_
  subst hv; subst hn4
  have hld4 := px_load hs4 (i := 0) rfl
  unfold pxL at hld4
  simp only [Nat.zero_mul, Nat.add_zero] at hld4
  simp (disch := omega) only [go_sem, ↓reduceIte , Int.toNat_zero, Nat.zero_mul, Nat.add_zero, hld4]
  refine ⟨keeps_kp hk4, swp_of_awp (L := L13) (by kernel_rfl) ?_⟩
  simp (disch := omega) only [go_sem, ↓reduceIte ]
  exact ⟨by omega, k3.trans (U := fun _ => False) hk4 (by omega) (fun _ _ h => h) (fun _ _ h => h)⟩
end Go.Proofs.YtngnbafididkcaaGreat
end
section
namespace Go.Proofs.YtngnbafididkcaaGreat
open Go.RowKit
set_option linter.unusedSimpArgs false

theorem metE_pre (a b : Int) (ha : 0 ≤ a ∧ a ≤ 65535) (hb : 0 ≤ b ∧ b ≤ 65535) : EngPre (metE a b 2) := by
  refine ⟨fun x hx => ?_, by simp [metE], by simp [metE], by simp [metE], fun x hx => ?_, fun x hx => ?_, by simp [metE], by simp [metE], by simp [metE]⟩
  · simp only [metE, List.mem_singleton] at hx
    subst hx
    exact ⟨by decide, by decide⟩
  · have : x.2.came = 3 := by
      simp [metE] at hx
      rcases hx with rfl | rfl <;> rfl
    rw [this]
    decide
  · simp [metE] at hx
    rcases hx with rfl | rfl
    · simp [lkM]; omega
    · simp [lkM]; omega
end Go.Proofs.YtngnbafididkcaaGreat
end
