/- A shelf under any acts: what they leave, in plain terms. A shelf under any acts: what is used never gets more than there is room; what is safe, and nobody touches, stays. In plain terms. -/
import Derived.Test.YtcdimjocdpogjaaY1
section
namespace Go.Proofs.Ytcdimjocdpogjaa
open Go.RowKit
set_option linter.unusedSimpArgs false

/-- Act number c (of twelve) on a shelf. -/
def doF (f : Fs) (c : Int) (na nb : ByteArray) (n b : Int) (q : List Int) (i : Nat) : Fs :=
  if c = 0 ∨ c = 1 then (createR f na i).2
  else if c = 2 ∨ c = 3 then (appendR f na q).2
  else if c = 4 then (syncR f na).2
  else if c = 5 then (namesR f).2
  else if c = 6 then (renameR f na nb).2
  else if c = 7 then (deleteR f na).2
  else if c = 8 then (cutR f na n).2
  else if c = 9 then { f with left := max (n.tmod 12) (-1) }
  else if c = 10 then { f with room := n.tmod 300 }
  else fallR f n b

/-- What holds behind k acts. -/
structure FsIn (f : Fs) (k : Nat) : Prop where
  l0 : -1 ≤ f.left
  l1 : f.left ≤ 1000000
  d0 : 0 ≤ f.done
  d1 : f.done ≤ k
  om : f.old.length + f.moves.length ≤ k
  tot : totF f ≤ 60 * k
  r0 : -1000000000 ≤ f.room
  r1 : f.room ≤ 1000000000
  safe : SafeOk f.bk
  nl : f.now.length ≤ k
  ns : ∀ a ∈ f.now, a.1.size ≤ 32
  os : ∀ a ∈ f.old, a.1.size ≤ 32
  ms : ∀ m ∈ f.moves, ∀ b, m.b = some b → m.name.size ≤ 32
theorem FsIn.big {f : Fs} {k : Nat} (h : FsIn f k) (hk : k ≤ 1000000) : FsBig f :=
  ⟨⟨h.l0, by have := h.l1; omega, h.d0, by have := h.d1; omega, by have := h.om; omega⟩, by have := h.tot; omega, h.r0, h.r1⟩

theorem nameOk_size {s : ByteArray} (h : nameOk s = true) : s.size ≤ 32 := by
  unfold nameOk at h
  simp only [Bool.and_eq_true, decide_eq_true_eq] at h
  exact h.1.2
theorem FsIn.up {f : Fs} {k : Nat} (h : FsIn f k) : FsIn f (k + 1) := by
  obtain ⟨l0, l1, d0, d1, om, tot, r0, r1, safe, nl, ns, os, ms⟩ := h
  exact ⟨l0, l1, d0, by omega, by omega, by omega, r0, r1, safe, by omega, ns, os, ms⟩
theorem actR_in {f : Fs} {k : Nat} (h : FsIn f k) : FsIn (actR f).2 (k + 1) := by
  have h' : FsIn f (k + 1) := FsIn.up h
  obtain ⟨l0, l1, d0, d1, om, tot, r0, r1, safe, nl, ns, os, ms⟩ := h
  unfold actR
  split
  · exact h'
  · split
    · exact ⟨l0, l1, d0, by show f.done ≤ _; omega, by show f.old.length + f.moves.length ≤ _; omega, by show totF f ≤ _; omega, r0, r1, safe, by show f.now.length ≤ _; omega, ns, os, ms⟩
    · exact ⟨by show -1 ≤ max (f.left - 1) (-1); omega, by show max (f.left - 1) (-1) ≤ _; omega, by show 0 ≤ f.done + 1; omega, by show f.done + 1 ≤ _; omega, by show f.old.length + f.moves.length ≤ _; omega, by show totF f ≤ _; omega, r0, r1, safe, by show f.now.length ≤ _; omega, ns, os, ms⟩
theorem setA_len (x : ByteArray) (v : Nat) : ∀ l : List (ByteArray × Nat), (setA x v l).length ≤ l.length + 1
  | [] => by simp [setA]
  | p :: l => by
    have ih := setA_len x v l
    unfold setA
    split
    · simp
    · simp only [List.length_cons]; omega
theorem delA_len (x : ByteArray) (l : List (ByteArray × Nat)) : (delA x l).length ≤ l.length := List.length_filter_le _ _
theorem sum_modB {g : List Int → Int → List Int × Int} {c : Nat} {i : Nat} (hg : ∀ bs s, (g bs s).1.length ≤ bs.length + c) : ∀ {bk : Bks}, UqA bk → totB (modB g i bk) ≤ totB bk + c
  | [], _ => by simp [modB, totB]
  | x :: l, hu => by
    have hu' := List.pairwise_cons.1 hu
    have ih := sum_modB hg (bk := l) hu'.2 (i := i)
    unfold modB totB at ih ⊢
    simp only [List.map_cons, List.sum_cons]
    by_cases e : x.1 = i
    · rw [if_pos e]
      have h1 : (List.map (fun r => if r.1 = i then (i, g r.2.1 r.2.2) else r) l) = l := by
        conv => rhs; rw [← List.map_id l]
        refine List.map_congr_left fun y hy => ?_
        rw [if_neg (by have := hu'.1 y hy; rw [e] at this; exact fun h => this h.symm)]; rfl
      rw [h1]
      have := hg x.2.1 x.2.2
      simp only
      omega
    · rw [if_neg e]
      omega
theorem totB_app (a b : Bks) : totB (a ++ b) = totB a + totB b := by simp [totB]
theorem totF_eq (f : Fs) : totF f = totB f.bk := rfl
theorem safe_modB {g : List Int → Int → List Int × Int} {i : Nat} {bk : Bks} (h : SafeOk bk) (hg : ∀ q ∈ bk, 0 ≤ (g q.2.1 q.2.2).2 ∧ (g q.2.1 q.2.2).2 ≤ (g q.2.1 q.2.2).1.length) : SafeOk (modB g i bk) := by
  intro q hq
  unfold modB at hq
  obtain ⟨r, hr, rfl⟩ := List.mem_map.1 hq
  split
  · exact hg r hr
  · exact h r hr
theorem stepN_len (now : List (ByteArray × Nat)) (m : Mv) : (stepN now m).length ≤ now.length + 1 := by
  unfold stepN
  refine Nat.le_trans (delA_len _ _) ?_
  split
  · exact Nat.le_trans (delA_len _ _) (by omega)
  · exact setA_len _ _ _
theorem stepN_name {now : List (ByteArray × Nat)} {m : Mv} {a : ByteArray × Nat} (h : a ∈ stepN now m) : a ∈ now ∨ ∃ i, m.b = some i ∧ a = (m.name, i) := by
  unfold stepN at h
  have h := (mem_delA.1 h).1
  split at h
  · exact .inl (mem_delA.1 h).1
  · rename_i i e
    rcases mem_setA h with h | h
    · exact .inr ⟨i, e, h⟩
    · exact .inl h
theorem foldN_len : ∀ (l : List Mv) (now : List (ByteArray × Nat)), (l.foldl stepN now).length ≤ now.length + l.length
  | [], _ => by simp
  | m :: l, now => by
    rw [List.foldl_cons]
    have h1 := foldN_len l (stepN now m)
    have h2 := stepN_len now m
    simp only [List.length_cons]
    omega
theorem foldN_mem : ∀ {l : List Mv} {now : List (ByteArray × Nat)} {a : ByteArray × Nat}, a ∈ l.foldl stepN now → a ∈ now ∨ ∃ m ∈ l, ∃ i, m.b = some i ∧ a = (m.name, i)
  | [], _, _, h => .inl h
  | m :: l, now, a, h => by
    rw [List.foldl_cons] at h
    rcases foldN_mem h with h | ⟨m', hm, i, h1, h2⟩
    · rcases stepN_name h with h | ⟨i, h1, h2⟩
      · exact .inl h
      · exact .inr ⟨m, by simp, i, h1, h2⟩
    · exact .inr ⟨m', by simp [hm], i, h1, h2⟩
theorem fallN_mem {f : Fs} {names : Int} {a : ByteArray × Nat} (h : a ∈ fallN f names) : a ∈ f.old ∨ ∃ m ∈ f.moves, ∃ i, m.b = some i ∧ a = (m.name, i) := by
  rcases foldN_mem h with h | ⟨m, hm, h⟩
  · exact .inl h
  · exact .inr ⟨m, List.mem_of_mem_take hm, h⟩
theorem sum_cutD (bytes : Int) (D : List Nat) : ∀ {bk : Bks}, SafeOk bk → totB (cutD bytes D bk) ≤ totB bk
  | [], _ => by simp [cutD, totB]
  | x :: l, h => by
    have ih := sum_cutD bytes D (bk := l) fun q hq => h q (by simp [hq])
    unfold cutD totB at ih ⊢
    simp only [List.map_cons, List.sum_cons]
    have h0 := h x (by simp)
    have h1 := cutB_len bytes x.2.1 x.2.2 h0.1
    split
    · simp only; omega
    · omega

theorem doF_in {f : Fs} {k : Nat} (h : FsIn f k) (hu : UqA f.bk) {c : Int} {na nb : ByteArray} {n b : Int} {q : List Int} {i : Nat} (hq : q.length ≤ 60) : FsIn (doF f c na nb n b q i) (k + 1) := by
  have a := actR_in h
  obtain ⟨l0, l1, d0, d1, om, tot, r0, r1, safe, nl, ns, os, ms⟩ := h
  obtain ⟨al0, al1, ad0, ad1, aom, atot, ar0, ar1, asafe, anl, ans, aos, ams⟩ := a
  have h' : FsIn f k := ⟨l0, l1, d0, d1, om, tot, r0, r1, safe, nl, ns, os, ms⟩
  have a' : FsIn (actR f).2 (k + 1) := ⟨al0, al1, ad0, ad1, aom, atot, ar0, ar1, asafe, anl, ans, aos, ams⟩
  unfold doF
  split
  · unfold createR
    split
    · rename_i hok
      have hsz := nameOk_size hok
      split
      · split
        · exact a'
        · have h1 := setA_len na i f.now
          refine ⟨al0, al1, ad0, ad1, ?_, ?_, ar0, ar1, ?_, by show (setA na i f.now).length ≤ _; omega, fun x hx => ?_, aos, fun m hm b e => ?_⟩
          · show (actR f).2.old.length + (f.moves ++ [_]).length ≤ _
            rw [actR_old]; simp only [List.length_append, List.length_singleton]; omega
          · rw [totF_eq]; show totB (f.bk ++ [(i, [], 0)]) ≤ _
            rw [totB_app, ← totF_eq]; simp [totB]; omega
          · intro x hx
            rcases List.mem_append.1 hx with hx | hx
            · exact safe x hx
            · have : x = (i, [], 0) := by simpa using hx
              subst this; simp
          · rcases mem_setA hx with rfl | hx
            · exact hsz
            · exact ns x hx
          · rcases List.mem_append.1 hm with hm | hm
            · exact ms m hm b e
            · have : m = ⟨na, some i, .empty⟩ := by simpa using hm
              subst this; exact hsz
      · exact a'
    · exact h'.up
  · split
    · unfold appendR
      split
      · split
        · exact a'
        · rename_i j _
          split
          · exact a'
          · refine ⟨al0, al1, ad0, ad1, aom, ?_, ar0, ar1, ?_, anl, ans, aos, ams⟩
            · rw [totF_eq] at tot ⊢
              show totB (modB (fun bs s => (bs ++ q, s)) j f.bk) ≤ _
              have := sum_modB (g := fun bs s => (bs ++ q, s)) (c := 60) (i := j) (fun bs s => by simp only [List.length_append]; omega) hu
              omega
            · show SafeOk (modB (fun bs s => (bs ++ q, s)) j f.bk)
              refine safe_modB safe fun x hx => ?_
              have := safe x hx
              simp only [List.length_append]
              omega
      · exact a'
    · split
      · unfold syncR fileR
        split
        · split
          · exact a'
          · rename_i j _
            split
            · refine ⟨al0, al1, ad0, ad1, aom, ?_, ar0, ar1, ?_, anl, ans, aos, ams⟩
              · rw [totF_eq] at tot ⊢
                show totB (modB (fun bs _ => (bs, (bs.length : Int))) j f.bk) ≤ _
                have := sum_modB (g := fun bs _ => (bs, (bs.length : Int))) (c := 0) (i := j) (fun bs s => by simp only; omega) hu
                omega
              · show SafeOk (modB (fun bs _ => (bs, (bs.length : Int))) j f.bk)
                refine safe_modB safe fun x hx => ?_
                have := safe x hx
                simp only
                omega
            · exact a'
        · exact a'
      · split
        · unfold namesR
          split
          · exact ⟨al0, al1, ad0, ad1, by show f.now.length + 0 ≤ _; omega, atot, ar0, ar1, asafe, anl, ans, ns, by simp⟩
          · exact a'
        · split
          · unfold renameR
            split
            · rename_i hok
              have hsz := nameOk_size hok
              split
              · split
                · exact a'
                · rename_i j _
                  split
                  · exact a'
                  · have h1 := setA_len nb j f.now
                    have h2 := delA_len na (setA nb j f.now)
                    refine ⟨al0, al1, ad0, ad1, ?_, atot, ar0, ar1, asafe, by show (delA na (setA nb j f.now)).length ≤ _; omega, fun x hx => ?_, aos, fun m hm b e => ?_⟩
                    · show (actR f).2.old.length + (f.moves ++ [_]).length ≤ _
                      rw [actR_old]; simp only [List.length_append, List.length_singleton]; omega
                    · rcases mem_setA (mem_delA.1 hx).1 with rfl | hx
                      · exact hsz
                      · exact ns x hx
                    · rcases List.mem_append.1 hm with hm | hm
                      · exact ms m hm b e
                      · have : m = ⟨nb, some j, na⟩ := by simpa using hm
                        subst this; exact hsz
              · exact a'
            · exact h'.up
          · split
            · unfold deleteR
              split
              · split
                · have h2 := delA_len na f.now
                  refine ⟨al0, al1, ad0, ad1, ?_, atot, ar0, ar1, asafe, by show (delA na f.now).length ≤ _; omega, fun x hx => ns x (mem_delA.1 hx).1, aos, fun m hm b e => ?_⟩
                  · show (actR f).2.old.length + (f.moves ++ [_]).length ≤ _
                    rw [actR_old]; simp only [List.length_append, List.length_singleton]; omega
                  · rcases List.mem_append.1 hm with hm | hm
                    · exact ms m hm b e
                    · have : m = ⟨na, none, .empty⟩ := by simpa using hm
                      subst this; simp at e
                · exact a'
              · exact a'
            · split
              · unfold cutR fileR
                split
                · split
                  · exact a'
                  · split
                    · rename_i j _ hany
                      have hj : ∃ x, getA j f.bk = some x ∧ 0 ≤ n ∧ n ≤ x.1.length := by
                        cases hg : getA j f.bk with
                        | none => rw [hg] at hany; simp at hany
                        | some x => rw [hg] at hany; exact ⟨x, rfl, by simpa using hany⟩
                      obtain ⟨x, hx, hn0, hn1⟩ := hj
                      refine ⟨al0, al1, ad0, ad1, aom, ?_, ar0, ar1, ?_, anl, ans, aos, ams⟩
                      · rw [totF_eq] at tot ⊢
                        show totB (modB (fun bs _ => (bs.take n.toNat, n)) j f.bk) ≤ _
                        have := sum_modB (g := fun bs _ => (bs.take n.toNat, n)) (c := 0) (i := j) (fun bs s => by simp only [List.length_take]; omega) hu
                        omega
                      · show SafeOk (modB (fun bs _ => (bs.take n.toNat, n)) j f.bk)
                        intro y hy
                        unfold modB at hy
                        obtain ⟨r, hr, rfl⟩ := List.mem_map.1 hy
                        split
                        · rename_i e
                          have := mem_getA hu (x := r.1) (v := r.2) hr
                          rw [e, hx] at this
                          simp only [Option.some.injEq] at this
                          subst this
                          simp only [List.length_take]
                          omega
                        · exact safe r hr
                    · exact a'
                · exact a'
              · split
                · have := h'.up
                  exact ⟨by show -1 ≤ max (n.tmod 12) (-1); omega, by show max (n.tmod 12) (-1) ≤ _; have : n.tmod 12 < 12 := Int.tmod_lt_of_pos n (by omega); omega, this.d0, this.d1, this.om, this.tot, this.r0, this.r1, this.safe, this.nl, this.ns, this.os, this.ms⟩
                · split
                  · have := h'.up
                    have h2 : n.tmod 300 < 300 := Int.tmod_lt_of_pos n (by omega)
                    have h3 : -300 < n.tmod 300 := Int.lt_tmod_of_pos n (by omega)
                    exact ⟨this.l0, this.l1, this.d0, this.d1, this.om, this.tot, by show _ ≤ n.tmod 300; omega, by show n.tmod 300 ≤ _; omega, this.safe, this.nl, this.ns, this.os, this.ms⟩
                  · have h1 : (fallN f n).length ≤ k := by
                      have := foldN_len (f.moves.take (kOf n f.moves.length)) f.old
                      have h2 : (f.moves.take (kOf n f.moves.length)).length ≤ f.moves.length := by rw [List.length_take]; omega
                      unfold fallN
                      omega
                    have h2 : ∀ a ∈ fallN f n, a.1.size ≤ 32 := fun a ha => by
                      rcases fallN_mem ha with ha | ⟨m, hm, i, e, rfl⟩
                      · exact os a ha
                      · exact ms m hm i e
                    refine ⟨by show (-1 : Int) ≤ -1; omega, by show (-1 : Int) ≤ _; omega, d0, by show f.done ≤ _; omega, by show (fallN f n).length + 0 ≤ _; omega, ?_, r0, r1, fun x hx => ?_, by show (fallN f n).length ≤ _; omega, h2, h2, by simp [fallR]⟩
                    · rw [totF_eq] at tot ⊢
                      show totB (cutD b ((fallN f n).map (·.2)) f.bk) ≤ _
                      have := sum_cutD b ((fallN f n).map (·.2)) safe
                      omega
                    · have := safe_cutD safe hx
                      exact ⟨this.1, this.2.1⟩
end Go.Proofs.Ytcdimjocdpogjaa
end
section
namespace Go.Proofs.Ytcdimjocdpogjaa
open Go.RowKit
set_option linter.unusedSimpArgs false

structure RoomIn (room : Nat) (f : Fs) : Prop where
  left : f.left = -1
  off : f.off = false
  rm : f.room = room
  used : usedF f ≤ room
  sub : ∀ a ∈ f.now, a.2 ∈ usedIds f

theorem sumD_mono : ∀ {bk : Bks} {D E : List Nat}, (∀ i ∈ D, i ∈ E) → sumD bk D ≤ sumD bk E
  | [], _, _, _ => by simp [sumD]
  | x :: l, D, E, h => by
    have ih := sumD_mono (bk := l) h
    unfold sumD at ih ⊢
    simp only [List.filter_cons]
    by_cases e : x.1 ∈ D
    · simp only [e, h _ e, decide_true, if_true, List.map_cons, List.sum_cons]
      omega
    · by_cases e2 : x.1 ∈ E
      · simp only [e, e2, decide_true, decide_false, if_true, Bool.false_eq_true, if_false, List.map_cons, List.sum_cons]
        omega
      · simp only [e, e2, decide_false, Bool.false_eq_true, if_false]
        exact ih
theorem sumD_app (a b : Bks) (D : List Nat) : sumD (a ++ b) D = sumD a D + sumD b D := by
  unfold sumD
  rw [List.filter_append, List.map_append, List.sum_append]
theorem sumD_map (g : Nat × List Int × Int → Nat × List Int × Int) (h1 : ∀ x, (g x).1 = x.1) (D : List Nat) : ∀ {bk : Bks}, (∀ x ∈ bk, (g x).2.1.length ≤ x.2.1.length) → sumD (bk.map g) D ≤ sumD bk D
  | [], _ => by simp [sumD]
  | x :: l, h => by
    have ih := sumD_map g h1 D (bk := l) fun y hy => h y (by simp [hy])
    have hx := h x (by simp)
    unfold sumD at ih ⊢
    simp only [List.map_cons, List.filter_cons, h1]
    by_cases e : x.1 ∈ D
    · simp only [e, decide_true, if_true, List.map_cons, List.sum_cons]
      omega
    · simp only [e, decide_false, Bool.false_eq_true, if_false]
      exact ih
theorem sumD_modB {g : List Int → Int → List Int × Int} {c i : Nat} (hg : ∀ bs s, (g bs s).1.length ≤ bs.length + c) (D : List Nat) : ∀ {bk : Bks}, UqA bk → sumD (modB g i bk) D ≤ sumD bk D + c
  | [], _ => by simp [modB, sumD]
  | x :: l, hu => by
    have hu' := List.pairwise_cons.1 hu
    have ih := sumD_modB hg D (bk := l) hu'.2 (i := i)
    by_cases e : x.1 = i
    · have h1 : modB g i l = l := by
        unfold modB
        conv => rhs; rw [← List.map_id l]
        refine List.map_congr_left fun y hy => ?_
        rw [if_neg (by have := hu'.1 y hy; rw [e] at this; exact fun h => this h.symm)]; rfl
      have h2 : modB g i (x :: l) = (i, g x.2.1 x.2.2) :: modB g i l := by
        unfold modB
        rw [List.map_cons, if_pos e]
      rw [h2, h1]
      have := hg x.2.1 x.2.2
      unfold sumD
      simp only [List.filter_cons, e]
      by_cases e3 : i ∈ D
      · simp only [e3, decide_true, if_true, List.map_cons, List.sum_cons]
        omega
      · simp only [e3, decide_false, Bool.false_eq_true, if_false]
        omega
    · have h2 : modB g i (x :: l) = x :: modB g i l := by
        unfold modB
        rw [List.map_cons, if_neg e]
      rw [h2]
      unfold sumD at ih ⊢
      simp only [List.filter_cons]
      by_cases e3 : x.1 ∈ D
      · simp only [e3, decide_true, if_true, List.map_cons, List.sum_cons]
        omega
      · simp only [e3, decide_false, Bool.false_eq_true, if_false]
        exact ih

theorem room_act {room : Nat} {f : Fs} (h : RoomIn room f) : (actR f).1 = true ∧ RoomIn room (actR f).2 := by
  have e : actR f = (true, { f with left := max (f.left - 1) (-1), done := f.done + 1 }) := by
    unfold actR
    rw [h.off, h.left]
    simp
  rw [e]
  exact ⟨rfl, by show max (f.left - 1) (-1) = -1; rw [h.left]; omega, h.off, h.rm, h.used, h.sub⟩

theorem doF_room {room : Nat} {f : Fs} (h : RoomIn room f) (hu : UqA f.bk) {c : Int} (h9 : c ≠ 9) (h10 : c ≠ 10) {na nb : ByteArray} {n b : Int} {q : List Int} {i : Nat} (hs : SafeOk f.bk) (hu' : UqA (doF f c na nb n b q i).bk) : RoomIn room (doF f c na nb n b q i) := by
  obtain ⟨at1, ar⟩ := room_act h
  unfold doF at hu' ⊢
  split
  · rename_i hc
    rw [if_pos hc] at hu'
    unfold createR at hu' ⊢
    rw [at1] at hu' ⊢
    split
    · rename_i hok
      rw [if_pos hok] at hu'
      simp only [if_true] at hu' ⊢
      split
      · exact ar
      · rename_i hno
        rw [if_neg hno] at hu'
        refine ⟨ar.left, ar.off, ar.rm, ?_, fun a ha => ?_⟩
        · unfold usedF
          show sumD (f.bk ++ [(i, [], 0)]) ((actR f).2.old.map (·.2) ++ (f.moves ++ [(⟨na, some i, .empty⟩ : Mv)]).filterMap (·.b)) ≤ room
          rw [sumD_app]
          have hfr : ∀ x ∈ f.bk, x.1 ≠ i := fun x hx => by
            have := (List.pairwise_append.1 hu').2.2 x hx (i, [], 0) (by simp)
            exact this
          have h1 : sumD f.bk ((actR f).2.old.map (·.2) ++ (f.moves ++ [(⟨na, some i, .empty⟩ : Mv)]).filterMap (·.b)) = usedF f := by
            unfold usedF sumD usedIds
            rw [actR_old]
            congr 2
            refine List.filter_congr fun x hx => ?_
            have := hfr x hx
            simp [List.filterMap_append, this]
          have h2 : ∀ D, sumD [((i, [], 0) : Nat × List Int × Int)] D = 0 := fun D => by
            unfold sumD
            rw [List.filter_cons]
            split <;> simp
          rw [h1, h2]
          exact h.used
        · unfold usedIds
          show a.2 ∈ (actR f).2.old.map (·.2) ++ (f.moves ++ [(⟨na, some i, .empty⟩ : Mv)]).filterMap (·.b)
          rw [actR_old]
          rcases mem_setA ha with rfl | ha
          · simp
          · have := h.sub a ha
            unfold usedIds at this
            rw [List.filterMap_append, ← List.append_assoc]
            exact List.mem_append_left _ this
    · exact h
  · split
    · unfold appendR
      rw [at1]
      simp only [if_true]
      split
      · exact ar
      · rename_i j _
        split
        · exact ar
        · rename_i hn
          refine ⟨ar.left, ar.off, ar.rm, ?_, ar.sub⟩
          show sumD (modB (fun bs s => (bs ++ q, s)) j f.bk) (usedIds (actR f).2) ≤ room
          have h1 := sumD_modB (g := fun bs s => (bs ++ q, s)) (c := q.length) (i := j) (fun bs s => by simp) (usedIds (actR f).2) hu
          have h2 : sumD f.bk (usedIds (actR f).2) = usedF f := by
            unfold usedF usedIds
            rw [actR_old, actR_moves]
          rw [h.rm] at hn
          omega
    · split
      · unfold syncR fileR
        rw [at1]
        simp only [if_true]
        split
        · exact ar
        · rename_i j _
          split
          · refine ⟨ar.left, ar.off, ar.rm, ?_, ar.sub⟩
            show sumD (modB (fun bs _ => (bs, (bs.length : Int))) j f.bk) (usedIds (actR f).2) ≤ room
            have h1 := sumD_modB (g := fun bs _ => (bs, (bs.length : Int))) (c := 0) (i := j) (fun bs s => by simp) (usedIds (actR f).2) hu
            have h2 : sumD f.bk (usedIds (actR f).2) = usedF f := by
              unfold usedF usedIds
              rw [actR_old, actR_moves]
            have := h.used
            omega
          · exact ar
      · split
        · unfold namesR
          rw [at1]
          simp only [if_true]
          refine ⟨ar.left, ar.off, ar.rm, ?_, fun a ha => ?_⟩
          · show sumD (actR f).2.bk (f.now.map (·.2) ++ ([] : List Mv).filterMap (·.b)) ≤ room
            rw [actR_bk]
            refine Nat.le_trans (sumD_mono fun x hx => ?_) h.used
            simp only [List.filterMap_nil, List.append_nil, List.mem_map] at hx
            obtain ⟨a, ha, rfl⟩ := hx
            exact h.sub a ha
          · show a.2 ∈ f.now.map (·.2) ++ ([] : List Mv).filterMap (·.b)
            have ha : a ∈ (actR f).2.now := ha
            rw [actR_now] at ha
            simp only [List.filterMap_nil, List.append_nil, List.mem_map]
            exact ⟨a, ha, rfl⟩
        · split
          · unfold renameR
            split
            · split
              · exact ar
              · rename_i j hj
                split
                · exact ar
                · have hjm := h.sub _ (getA_mem hj)
                  have hids : ∀ x, x ∈ (actR f).2.old.map (·.2) ++ (f.moves ++ [(⟨nb, some j, na⟩ : Mv)]).filterMap (·.b) ↔ x ∈ usedIds f := fun x => by
                    rw [actR_old]
                    unfold usedIds at hjm ⊢
                    simp only [List.filterMap_append, List.mem_append] at hjm ⊢
                    constructor
                    · rintro (hx | hx | hx)
                      · exact .inl hx
                      · exact .inr hx
                      · have : x = j := by simpa using hx
                        subst this
                        exact hjm
                    · rintro (hx | hx)
                      · exact .inl hx
                      · exact .inr (.inl hx)
                  refine ⟨ar.left, ar.off, ar.rm, ?_, fun a ha => ?_⟩
                  · show sumD (actR f).2.bk ((actR f).2.old.map (·.2) ++ (f.moves ++ [(⟨nb, some j, na⟩ : Mv)]).filterMap (·.b)) ≤ room
                    rw [actR_bk, sumD_congr hids]
                    exact h.used
                  · refine (hids a.2).2 ?_
                    rcases mem_setA (mem_delA.1 ha).1 with rfl | ha
                    · exact hjm
                    · exact h.sub a ha
            · exact h
          · split
            · unfold deleteR
              rw [at1]
              simp only [if_true]
              split
              · have hids : ∀ x, x ∈ (actR f).2.old.map (·.2) ++ (f.moves ++ [(⟨na, none, .empty⟩ : Mv)]).filterMap (·.b) ↔ x ∈ usedIds f := fun x => by
                  rw [actR_old]
                  unfold usedIds
                  simp
                refine ⟨ar.left, ar.off, ar.rm, ?_, fun a ha => ?_⟩
                · show sumD (actR f).2.bk ((actR f).2.old.map (·.2) ++ (f.moves ++ [(⟨na, none, .empty⟩ : Mv)]).filterMap (·.b)) ≤ room
                  rw [actR_bk, sumD_congr hids]
                  exact h.used
                · exact (hids a.2).2 (h.sub a (mem_delA.1 ha).1)
              · exact ar
            · split
              · unfold cutR fileR
                rw [at1]
                simp only [if_true]
                split
                · exact ar
                · rename_i j _
                  split
                  · refine ⟨ar.left, ar.off, ar.rm, ?_, ar.sub⟩
                    show sumD (modB (fun bs _ => (bs.take n.toNat, n)) j f.bk) (usedIds (actR f).2) ≤ room
                    have h1 := sumD_modB (g := fun bs _ => (bs.take n.toNat, n)) (c := 0) (i := j) (fun bs s => by simp only [List.length_take]; omega) (usedIds (actR f).2) hu
                    have h2 : sumD f.bk (usedIds (actR f).2) = usedF f := by
                      unfold usedF usedIds
                      rw [actR_old, actR_moves]
                    have := h.used
                    omega
                  · exact ar
              · refine ⟨rfl, rfl, h.rm, ?_, fun a ha => ?_⟩
                · show sumD (cutD b ((fallN f n).map (·.2)) f.bk) ((fallN f n).map (·.2) ++ ([] : List Mv).filterMap (·.b)) ≤ room
                  refine Nat.le_trans (Nat.le_trans (sumD_map _ (fun x => ?_) _ fun x hx => ?_) (sumD_mono fun x hx => ?_)) h.used
                  · split <;> rfl
                  · have := cutB_len b x.2.1 x.2.2 (hs x hx).1
                    split
                    · exact this.2.2
                    · exact Nat.le_refl _
                  · simp only [List.filterMap_nil, List.append_nil, List.mem_map] at hx
                    obtain ⟨a, ha, rfl⟩ := hx
                    unfold usedIds
                    rcases fallN_mem ha with ha | ⟨m, hm, i, e, rfl⟩
                    · exact List.mem_append_left _ (List.mem_map.2 ⟨a, ha, rfl⟩)
                    · exact List.mem_append_right _ (List.mem_filterMap.2 ⟨m, hm, e⟩)
                · show a.2 ∈ (fallN f n).map (·.2) ++ ([] : List Mv).filterMap (·.b)
                  simp only [List.filterMap_nil, List.append_nil, List.mem_map]
                  exact ⟨a, ha, rfl⟩
end Go.Proofs.Ytcdimjocdpogjaa
end
