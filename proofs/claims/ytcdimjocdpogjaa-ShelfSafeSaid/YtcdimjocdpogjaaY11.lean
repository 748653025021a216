/- The reference's shelf: names. The reference's shelf: names without one, with one more. The reference's shelf: acts. The reference's shelf: names change. The reference's shelf: a file has other bytes. -/
import Derived.Test.YtcdimjocdpogjaaY5
section
namespace Go.Proofs.Ytcdimjocdpogjaa
open Go.RowKit
set_option linter.unusedSimpArgs false

abbrev Nms := List (ByteArray × Int)
def nmC (p : ByteArray × Int) : List Value := [.string p.1, .int .i64 p.2]
theorem nmC_len (p : ByteArray × Int) : (nmC p).length = 2 := rfl
def findF (s : ByteArray) : Nms → Int
  | [] => -1
  | a :: l => if a.1 = s then a.2 else findF s l
theorem findF_drop {s : ByteArray} : ∀ {l : Nms} {i : Nat}, (∀ j, j < i → ∀ a, l[j]? = some a → a.1 ≠ s) → findF s (l.drop i) = findF s l
  | [], i, _ => by simp
  | a :: l, 0, _ => rfl
  | a :: l, i + 1, h => by
    have h0 := h 0 (by omega) a rfl
    rw [List.drop_succ_cons, findF_drop fun j hj b hb => h (j + 1) (by omega) b hb]
    conv => rhs; unfold findF
    rw [if_neg h0]
theorem findF_at {s : ByteArray} {l : Nms} {i : Nat} {a : ByteArray × Int} (h : ∀ j, j < i → ∀ a, l[j]? = some a → a.1 ≠ s) (ha : l[i]? = some a) (e : a.1 = s) : findF s l = a.2 := by
  rw [← findF_drop h]
  obtain ⟨hi, rfl⟩ := List.getElem?_eq_some_iff.1 ha
  rw [List.drop_eq_getElem_cons hi]
  unfold findF
  rw [if_pos e]
theorem findF_none {s : ByteArray} {l : Nms} (h : ∀ j, j < l.length → ∀ a, l[j]? = some a → a.1 ≠ s) : findF s l = -1 := by
  rw [← findF_drop h]
  simp [findF]

theorem strNe {a b : ByteArray} (h : a ≠ b) : ¬ a.data.toList = b.data.toList := fun e => h (ByteArray.ext (Array.toList_inj.1 e))

structure FndI (s : ByteArray) (vl : Value) (l : Nms) (H0 : AH) (nx0 : Nat) (m : Nat) (env : Env) (H : AH) (nx i : Nat) : Prop where
  hm : m = l.length - i
  hi : i ≤ l.length
  henv : env = [(0, vl), (1, .string s), (5, .int .i64 i)]
  no : ∀ j, j < i → ∀ a, l[j]? = some a → a.1 ≠ s
  hH : H = H0
  hx : nx = nx0

set_option maxRecDepth 20000 in
theorem find05_c {lo : Nat} {H : AH} {nx : Nat} (s : ByteArray) {vl : Value} {l : Nms} {own : Nat} (hl : SlA nx H 2 vl l.length (l.flatMap nmC) own) : ACalls Try.prog lo 54 #[vl, .string s] H nx (fun v H' nx' => v = .int .i64 (findF s l) ∧ H' = H ∧ nx' = nx) := by
  refine acalls_of_awp L54 Try.func54 rfl (by kernel_rfl) ?_
  obtain ⟨la, lc, rfl⟩ := hl.form
  have hml := hl.maxLen
  simp only [maxLen] at hml
  simp (disch := omega) only [go_sem, ↓reduceIte ]
  refine awp_loopX (fun m env H1 nx1 => ∃ i, FndI s (.slice la l.length lc) l H nx m env H1 nx1 i) l.length ⟨0, ⟨rfl, by omega, rfl, by omega, rfl, rfl⟩⟩ (fun env H1 nx1 => env = [(0, .slice la l.length lc), (1, .string s), (5, .int .i64 l.length), (9, .bool false)] ∧ findF s l = -1 ∧ H1 = H ∧ nx1 = nx) (fun K hK m env H1 nx1 ⟨i, hI⟩ hn => ?_) (fun env H1 nx1 ⟨henv, ha, hH, hx⟩ => ?_)
  · obtain ⟨hm, hi, henv, hno, hH, hx⟩ := hI
    subst henv; subst hH; subst hx
    by_cases hlt : i < l.length
    · obtain ⟨g, off, cap, hv, hg⟩ := hl.open (by omega)
      simp only [Value.slice.injEq, true_and] at hv
      obtain ⟨rfl, rfl⟩ := hv
      have ha : l[i]? = some l[i] := List.getElem?_eq_getElem hlt
      have c0 : H1.c g (off + i * 2) = some (.string l[i].1) := by
        have := hl.cells.1 (2 * i + 0) (.string l[i].1) (by rw [flat_get nmC_len l i l[i] ha 0 (by omega)]; rfl)
        rwa [show off + (2 * i + 0) = off + i * 2 by omega] at this
      have c1 : H1.c g (off + i * 2 + 1) = some (.int .i64 l[i].2) := by
        have := hl.cells.1 (2 * i + 1) (.int .i64 l[i].2) (by rw [flat_get nmC_len l i l[i] ha 1 (by omega)]; rfl)
        rwa [show off + (2 * i + 1) = off + i * 2 + 1 by omega] at this
      by_cases e : l[i].1 = s
      · rw [findF_at hno ha e]
        simp (disch := omega) only [go_sem, ↓reduceIte , c0, c1, e, decide_true]
      · have e' := strNe e
        simp (disch := omega) only [go_sem, ↓reduceIte , c0, c1, e', decide_false]
        refine ⟨l.length - (i + 1), by omega, i + 1, ⟨rfl, by omega, by simp, fun j hj a hja => ?_, rfl, rfl⟩⟩
        by_cases ej : j = i
        · subst ej
          rw [ha] at hja
          simp only [Option.some.injEq] at hja
          subst hja
          exact e
        · exact hno j (by omega) a hja
    · have ei : i = l.length := by omega
      subst ei
      simp (disch := omega) only [go_sem, ↓reduceIte ]
      exact hK _ _ _ ⟨rfl, findF_none hno, rfl, rfl⟩
  · subst henv; subst hH; subst hx
    rw [ha]
    simp (disch := omega) only [go_sem, ↓reduceIte ]
end Go.Proofs.Ytcdimjocdpogjaa
end
section
namespace Go.Proofs.Ytcdimjocdpogjaa
open Go.RowKit
set_option linter.unusedSimpArgs false

def woF (s : ByteArray) (l : Nms) : Nms := l.filter fun a => decide (a.1 ≠ s)
def wiF (s : ByteArray) (f : Int) (l : Nms) : Nms := woF s l ++ [(s, f)]
theorem nmC_one : ∀ {l : Nms}, ∀ u ∈ l.flatMap nmC, u.oneCell' = true := fun {l} u hu => by
  obtain ⟨a, _, h⟩ := List.mem_flatMap.1 hu
  simp only [nmC, List.mem_cons, List.not_mem_nil, or_false] at h
  rcases h with rfl | rfl <;> rfl
theorem woF_take {s : ByteArray} {l : Nms} {i : Nat} {a : ByteArray × Int} (h : l[i]? = some a) : woF s (l.take (i + 1)) = woF s (l.take i) ++ (if a.1 = s then [] else [a]) := by
  unfold woF
  rw [List.take_add_one, h, List.filter_append]
  by_cases e : a.1 = s
  · simp [e]
  · simp [e]
theorem woF_len (s : ByteArray) (l : Nms) : (woF s l).length ≤ l.length := List.length_filter_le _ _

structure WoI (s : ByteArray) (vl : Value) (l : Nms) (H0 : AH) (nx0 : Nat) (m : Nat) (env : Env) (H : AH) (nx i : Nat) (v5 : Value) (own5 : Nat) : Prop where
  hm : m = l.length - i
  hi : i ≤ l.length
  henv : env = [(0, vl), (1, .string s), (5, v5), (6, .int .i64 i)]
  hs : SlA nx H 2 v5 (woF s (l.take i)).length ((woF s (l.take i)).flatMap nmC) own5
  ho : own5 = 0 ∨ nx0 < own5
  hk : Kp (fun _ => False) nx0 H0 H
  hx : nx0 ≤ nx

set_option maxRecDepth 20000 in
theorem without05_c {lo : Nat} {H : AH} {nx : Nat} (s : ByteArray) {vl : Value} {l : Nms} {own : Nat} (hl : SlA nx H 2 vl l.length (l.flatMap nmC) own) (hn : l.length ≤ 1000000) : ACalls Try.prog lo 59 #[vl, .string s] H nx (fun v H' nx' => nx ≤ nx' ∧ Kp (fun _ => False) nx H H' ∧ ∃ own', SlA nx' H' 2 v (woF s l).length ((woF s l).flatMap nmC) own' ∧ (own' = 0 ∨ nx < own')) := by
  refine ACalls.withLo fun hlo => ?_
  refine acalls_of_awp L59 Try.func59 rfl (by kernel_rfl) ?_
  obtain ⟨la, lc, rfl⟩ := hl.form
  have hwo := hl.le
  simp (disch := omega) only [go_sem, ↓reduceIte ]
  refine awp_loopX (fun m env H1 nx1 => ∃ i v5 own5, WoI s (.slice la l.length lc) l H nx m env H1 nx1 i v5 own5) l.length ⟨0, .slice none 0 0, 0, ⟨rfl, by omega, rfl, SlA.nil _ _ _, .inl rfl, Kp.refl _ _ _, Nat.le_refl _⟩⟩ (fun env H1 nx1 => ∃ v5 own5, env = [(0, .slice la l.length lc), (1, .string s), (5, v5), (6, .int .i64 l.length), (10, .bool false)] ∧ SlA nx1 H1 2 v5 (woF s l).length ((woF s l).flatMap nmC) own5 ∧ (own5 = 0 ∨ nx < own5) ∧ Kp (fun _ => False) nx H H1 ∧ nx ≤ nx1) (fun K hK m env H1 nx1 ⟨i, v5, own5, hI⟩ hn => ?_) (fun env H1 nx1 ⟨v5, own5, henv, hs, ho, hk, hx⟩ => ?_)
  · obtain ⟨hm, hi, henv, hs, ho, hk, hx⟩ := hI
    subst henv
    have hone5 := hs.one
    have hle5 := hs.le
    have hl1 : SlA nx1 H1 2 (.slice la l.length lc) l.length (l.flatMap nmC) own := hl.kp hk hx (by simp)
    by_cases hlt : i < l.length
    · obtain ⟨g, off, cap, hv, hg⟩ := hl.open (by omega)
      simp only [Value.slice.injEq, true_and] at hv
      obtain ⟨rfl, rfl⟩ := hv
      have ha : l[i]? = some l[i] := List.getElem?_eq_getElem hlt
      have c0 : H1.c g (off + i * 2) = some (.string l[i].1) := by
        have := hl1.cells.1 (2 * i + 0) (.string l[i].1) (by rw [flat_get nmC_len l i l[i] ha 0 (by omega)]; rfl)
        rwa [show off + (2 * i + 0) = off + i * 2 by omega] at this
      have c1 : H1.c g (off + i * 2 + 1) = some (.int .i64 l[i].2) := by
        have := hl1.cells.1 (2 * i + 1) (.int .i64 l[i].2) (by rw [flat_get nmC_len l i l[i] ha 1 (by omega)]; rfl)
        rwa [show off + (2 * i + 1) = off + i * 2 + 1 by omega] at this
      have hw := woF_take (s := s) ha
      have hwl := woF_len s (l.take i)
      rw [List.length_take] at hwl
      by_cases e : l[i].1 = s
      · rw [if_pos e, List.append_nil] at hw
        simp (disch := omega) only [go_sem, ↓reduceIte , c0, c1, e, decide_true, hone5]
        exact ⟨l.length - (i + 1), by omega, i + 1, v5, own5, ⟨rfl, by omega, by simp, by rw [hw]; exact hs, ho, hk, hx⟩⟩
      · rw [if_neg e] at hw
        have e' := strNe e
        simp (disch := omega) only [go_sem, ↓reduceIte , c0, c1, e', decide_false, hone5]
        refine buildSQ_all (n := 1) [.agg #[.string l[i].1, .int .i64 l[i].2]] sl44 zero97 (by omega) (by omega) rfl (by simp [cells_agg]) fun d hd => ?_
        have hlit : SlA (d + 1) _ 2 (.slice (some ⟨d, 0, none⟩) 1 1) 1 ([l[i]].flatMap nmC) (d + 1) := SlA.ofNew (H := H1) (e := 97) (cs := ([Value.agg #[.string l[i].1, .int .i64 l[i].2]].flatMap fun v => v.cells.toList).toArray) rfl (by omega) (by simp [maxLen]) (by simp [cells_agg]) (fun j _ => by simp [cells_agg, nmC])
        have hs6 := hs.new (vs := ([Value.agg #[.string l[i].1, .int .i64 l[i].2]].flatMap fun v => v.cells.toList).toArray) (e := 97) hd
        simp (disch := omega) only [go_sem, ↓reduceIte ]
        refine appendQ_two (aw_append sl44 zero97 rfl by97 hs6 (hlit.src sl44 nmC_one) (by simp only [maxLen]; omega) (by omega) (by omega) fun v7 H7 nx7 own7 hn7 hs7 ho7 hk7 _ => ?_)
        have hone7 := hs7.one
        simp (disch := omega) only [go_sem, ↓reduceIte , hone7]
        refine ⟨l.length - (i + 1), by omega, i + 1, v7, own7, ⟨rfl, by omega, by simp, ?_, by omega, ?_, by omega⟩⟩
        · rw [hw, List.length_append, List.flatMap_append]
          exact hs7
        · have hk6 : Kp (fun _ => False) nx H (H1.new d ([Value.agg #[.string l[i].1, .int .i64 l[i].2]].flatMap fun v => v.cells.toList).toArray 97) := hk.new (by omega)
          exact hk6.trans (U := fun _ => False) hk7 (by omega) (fun _ _ h => h) (fun b hb h => by omega)
    · have ei : i = l.length := by omega
      subst ei
      rw [List.take_length] at hs
      simp (disch := omega) only [go_sem, ↓reduceIte , hone5]
      exact hK _ _ _ ⟨v5, own5, rfl, hs, ho, hk, hx⟩
  · subst henv
    have hone5 := hs.one
    simp (disch := omega) only [go_sem, ↓reduceIte , hone5]
    exact ⟨hx, hk, own5, hs, ho⟩

set_option maxRecDepth 20000 in
theorem with05_c {lo : Nat} {H : AH} {nx : Nat} (s : ByteArray) (f : Int) {vl : Value} {l : Nms} {own : Nat} (hl : SlA nx H 2 vl l.length (l.flatMap nmC) own) (hn : l.length ≤ 1000000) : ACalls Try.prog lo 56 #[vl, .string s, .int .i64 f] H nx (fun v H' nx' => nx ≤ nx' ∧ Kp (fun _ => False) nx H H' ∧ ∃ own', SlA nx' H' 2 v (wiF s f l).length ((wiF s f l).flatMap nmC) own' ∧ nx < own') := by
  refine ACalls.withLo fun hlo => ?_
  refine acalls_of_awp L56 Try.func56 rfl (by kernel_rfl) ?_
  obtain ⟨la, lc, rfl⟩ := hl.form
  have hwl := woF_len s l
  simp (disch := omega) only [go_sem, ↓reduceIte ]
  refine (without05_c s hl hn).mono fun v H1 nx1 _ ⟨hx1, hk1, own1, hs1, ho1⟩ => ?_
  have hone1 := hs1.one
  have hle1 := hs1.le
  simp (disch := omega) only [go_sem, ↓reduceIte , hone1]
  refine buildSQ_all (n := 1) [.agg #[.string s, .int .i64 f]] sl44 zero97 (by omega) (by omega) rfl (by simp [cells_agg]) fun d hd => ?_
  have hlit : SlA (d + 1) _ 2 (.slice (some ⟨d, 0, none⟩) 1 1) 1 ([(s, f)].flatMap nmC) (d + 1) := SlA.ofNew (H := H1) (e := 97) (cs := ([Value.agg #[.string s, .int .i64 f]].flatMap fun v => v.cells.toList).toArray) rfl (by omega) (by simp [maxLen]) (by simp [cells_agg]) (fun j _ => by simp [cells_agg, nmC])
  have hs6 := hs1.new (vs := ([Value.agg #[.string s, .int .i64 f]].flatMap fun v => v.cells.toList).toArray) (e := 97) hd
  simp (disch := omega) only [go_sem, ↓reduceIte ]
  refine appendQ_two (aw_append sl44 zero97 rfl by97 hs6 (hlit.src sl44 nmC_one) (by simp only [maxLen]; omega) (by omega) (by omega) fun v7 H7 nx7 own7 hn7 hs7 ho7 hk7 _ => ?_)
  have hone7 := hs7.one
  simp (disch := omega) only [go_sem, ↓reduceIte , hone7]
  have hk6 : Kp (fun _ => False) nx H (H1.new d ([Value.agg #[.string s, .int .i64 f]].flatMap fun v => v.cells.toList).toArray 97) := hk1.new (by omega)
  refine ⟨by omega, hk6.trans (U := fun _ => False) hk7 (by omega) (fun _ _ h => h) (fun b hb h => by omega), own7, ?_, ?_⟩
  · unfold wiF
    rw [List.length_append, List.flatMap_append]
    exact hs7
  · obtain ⟨g, _, _, _, hg⟩ := hs7.open (by omega)
    omega
end Go.Proofs.Ytcdimjocdpogjaa
end
section
namespace Go.Proofs.Ytcdimjocdpogjaa
open Go.RowKit
set_option linter.unusedSimpArgs false
def shV (vL vN vW : Value) (room left : Int) (off : Bool) (done : Int) : Value := .agg #[vL, vN, vW, .int .i64 room, .int .i64 left, .bool off, .int .i64 done]
set_option maxRecDepth 20000 in
theorem act05_c {lo : Nat} {H : AH} {nx : Nat} {vL vN vW : Value} (room left done : Int) (off : Bool) (h1 : vL.oneCell' = true) (h2 : vN.oneCell' = true) (h3 : vW.oneCell' = true) (hl : -1 ≤ left ∧ left ≤ 9223372036854775807) (hd : 0 ≤ done ∧ done ≤ 4611686018427387904) : ACalls Try.prog lo 53 #[shV vL vN vW room left off done] H nx (fun v H' nx' => nx ≤ nx' ∧ Kp (fun _ => False) nx H H' ∧ v = .tuple #[if off = true ∨ left = 0 then shV vL vN vW room left true done else shV vL vN vW room (max (left - 1) (-1)) off (done + 1), .bool (!(decide (off = true ∨ left = 0)))]) := by
  refine ACalls.withLo fun hlo => ?_
  refine acalls_of_awp L53 Try.func53 rfl (by kernel_rfl) ?_
  unfold shV
  obtain ⟨l1, l2⟩ := hl
  obtain ⟨d1, d2⟩ := hd
  simp (disch := omega) only [go_sem, ↓reduceIte , h1, h2, h3]
  intro a ha
  simp (disch := omega) only [go_sem, ↓reduceIte , h1, h2, h3]
  intro b hb
  cases off with
  | true =>
    simp (disch := omega) only [go_sem, ↓reduceIte , h1, h2, h3]
    exact ⟨by omega, (by repeat first | exact Kp.refl _ _ _ | refine Kp.dropT ?_ (.inl (by omega)) | refine Kp.put ?_ (.inl (by omega)) | refine Kp.new ?_ (by omega) | refine Kp.put ?_ (.inr (by omega)) | refine Kp.newO ?_ (by omega) | refine Kp.setO ?_ (.inl (by omega)) | refine Kp.setO ?_ (.inr (by omega)) | refine Kp.trans0 ?_ (by assumption) (by omega) | refine Kp.transS ?_ (by assumption) (by omega) (fun b hb hT => by first | omega | (dsimp only at hT ⊢; omega) | (simp only at hT ⊢; omega))) ⟩
  | false =>
    by_cases e : left = 0
    · subst e
      simp (disch := omega) only [go_sem, ↓reduceIte , h1, h2, h3]
      exact ⟨by omega, (by repeat first | exact Kp.refl _ _ _ | refine Kp.dropT ?_ (.inl (by omega)) | refine Kp.put ?_ (.inl (by omega)) | refine Kp.new ?_ (by omega) | refine Kp.put ?_ (.inr (by omega)) | refine Kp.newO ?_ (by omega) | refine Kp.setO ?_ (.inl (by omega)) | refine Kp.setO ?_ (.inr (by omega)) | refine Kp.trans0 ?_ (by assumption) (by omega) | refine Kp.transS ?_ (by assumption) (by omega) (fun b hb hT => by first | omega | (dsimp only at hT ⊢; omega) | (simp only at hT ⊢; omega))) ⟩
    · by_cases e2 : 0 < left
      · simp (disch := omega) only [go_sem, ↓reduceIte , h1, h2, h3, e]
        refine ⟨by omega, (by repeat first | exact Kp.refl _ _ _ | refine Kp.dropT ?_ (.inl (by omega)) | refine Kp.put ?_ (.inl (by omega)) | refine Kp.new ?_ (by omega) | refine Kp.put ?_ (.inr (by omega)) | refine Kp.newO ?_ (by omega) | refine Kp.setO ?_ (.inl (by omega)) | refine Kp.setO ?_ (.inr (by omega)) | refine Kp.trans0 ?_ (by assumption) (by omega) | refine Kp.transS ?_ (by assumption) (by omega) (fun b hb hT => by first | omega | (dsimp only at hT ⊢; omega) | (simp only at hT ⊢; omega))) , ?_⟩
        rw [show max (left - 1) (-1) = left - 1 by omega]
        simp
      · simp (disch := omega) only [go_sem, ↓reduceIte , h1, h2, h3, e]
        refine ⟨by omega, (by repeat first | exact Kp.refl _ _ _ | refine Kp.dropT ?_ (.inl (by omega)) | refine Kp.put ?_ (.inl (by omega)) | refine Kp.new ?_ (by omega) | refine Kp.put ?_ (.inr (by omega)) | refine Kp.newO ?_ (by omega) | refine Kp.setO ?_ (.inl (by omega)) | refine Kp.setO ?_ (.inr (by omega)) | refine Kp.trans0 ?_ (by assumption) (by omega) | refine Kp.transS ?_ (by assumption) (by omega) (fun b hb hT => by first | omega | (dsimp only at hT ⊢; omega) | (simp only at hT ⊢; omega))) , ?_⟩
        rw [show max (left - 1) (-1) = left by omega]
        simp
end Go.Proofs.Ytcdimjocdpogjaa
end
section
namespace Go.Proofs.Ytcdimjocdpogjaa
open Go.RowKit
set_option linter.unusedSimpArgs false

set_option maxRecDepth 20000 in
theorem moved05_c {lo : Nat} {H : AH} {nx : Nat} {vL vN vW vl : Value} (room left done : Int) (off : Bool) {ws : List Value} {ownW : Nat} (h1 : vL.oneCell' = true) (h4 : vl.oneCell' = true) (hw : SlA nx H 1 vW ws.length ws ownW) (hws : ∀ u ∈ ws, u.oneCell' = true) (hwn : ws.length ≤ 1000000) : ACalls Try.prog lo 55 #[shV vL vN vW room left off done, vl] H nx (fun v H' nx' => nx ≤ nx' ∧ Kp (fun _ => False) nx H H' ∧ ∃ vW' own', SlA nx' H' 1 vW' (ws ++ [vl]).length (ws ++ [vl]) own' ∧ nx < own' ∧ v = shV vL vl vW' room left off done) := by
  refine ACalls.withLo fun hlo => ?_
  refine acalls_of_awp L55 Try.func55 rfl (by kernel_rfl) ?_
  unfold shV
  have h3 := hw.one
  simp (disch := omega) only [go_sem, ↓reduceIte , h1, h3, h4]
  intro a ha
  simp (disch := omega) only [go_sem, ↓reduceIte , h1, h3, h4]
  intro b hb
  simp (disch := omega) only [go_sem, ↓reduceIte , h1, h3, h4]
  have hw2 : SlA (b + 1) _ 1 vW ws.length ws ownW := hw.kp (S := fun _ => False) (H' := (((H.new a #[vL, vN, vW, .int .i64 room, .int .i64 left, .bool off, .int .i64 done] 47).new b #[.slice none 0 0, .slice none 0 0, .slice none 0 0, .int .i64 0, .int .i64 0, .bool false, .int .i64 0] 47).put a 1 vl)) (by repeat first | exact Kp.refl _ _ _ | refine Kp.dropT ?_ (.inl (by omega)) | refine Kp.put ?_ (.inl (by omega)) | refine Kp.new ?_ (by omega) | refine Kp.put ?_ (.inr (by omega)) | refine Kp.newO ?_ (by omega) | refine Kp.setO ?_ (.inl (by omega)) | refine Kp.setO ?_ (.inr (by omega)) | refine Kp.trans0 ?_ (by assumption) (by omega) | refine Kp.transS ?_ (by assumption) (by omega) (fun b hb hT => by first | omega | (dsimp only at hT ⊢; omega) | (simp only at hT ⊢; omega)))  (by omega) (by simp)
  refine appendQ_two (aw_append sl45 zero44 rfl by44 (SlA.nil _ _ _) (hw2.src sl45 hws) (by simp only [maxLen]; omega) (by omega) (.inl rfl) fun v3 H3 nx3 own3 hn3 hs3 ho3 hk3 _ => ?_)
  rw [Nat.zero_add, List.nil_append] at hs3
  have hone3 := hs3.one
  have hle3 := hs3.le
  have hk3' := Kp.mono (T := fun _ => False) hk3 (Nat.le_refl _) (fun b hb e => by omega)
  have hc3 := hk3'.cell0
  simp (disch := omega) only [go_sem, ↓reduceIte , h1, h3, h4, hone3, hc3]
  refine buildSQ_cs (n := 1) [vl] [vl] sl45 zero44 (by omega) (by omega) rfl (by simp [cells_one h4]) (by simp [cells_one h4]) fun d hd => ?_
  have hlit : SlA (d + 1) (H3.new d [vl].toArray 44) 1 (.slice (some ⟨d, 0, none⟩) 1 1) 1 [vl] (d + 1) := SlA.ofNew (H := H3) (e := 44) (cs := [vl].toArray) rfl (by omega) (by simp [maxLen]) (by simp) (fun j _ => by simp)
  have hs6 := hs3.new (vs := [vl].toArray) (e := 44) hd
  simp (disch := omega) only [go_sem, ↓reduceIte , hone3]
  refine appendQ_two (aw_append sl45 zero44 rfl by44 hs6 (hlit.src sl45 (by simp [h4])) (by simp only [maxLen]; omega) (by omega) (by omega) fun v7 H7 nx7 own7 hn7 hs7 ho7 hk7 _ => ?_)
  have hone7 := hs7.one
  have hle7 := hs7.le
  have hc7 := hk7.cell
  simp (disch := omega) only [go_sem, ↓reduceIte , h1, h3, h4, hone3, hone7, hc3, hc7]
  obtain ⟨g, _, _, _, hg⟩ := hs7.open (by omega)
  refine ⟨by omega, (by repeat first | exact Kp.refl _ _ _ | refine Kp.dropT ?_ (.inl (by omega)) | refine Kp.put ?_ (.inl (by omega)) | refine Kp.new ?_ (by omega) | refine Kp.put ?_ (.inr (by omega)) | refine Kp.newO ?_ (by omega) | refine Kp.setO ?_ (.inl (by omega)) | refine Kp.setO ?_ (.inr (by omega)) | refine Kp.trans0 ?_ (by assumption) (by omega) | refine Kp.transS ?_ (by assumption) (by omega) (fun b hb hT => by first | omega | (dsimp only at hT ⊢; omega) | (simp only at hT ⊢; omega))) , v7, own7, ?_, by omega, rfl⟩
  rw [List.length_append, List.length_singleton]
  exact (by repeat first | assumption | refine SlA.dropT ?_ | refine SlA.put ?_ (by omega) | refine SlA.new ?_ (by omega) | refine SlA.newO ?_ (by omega) | refine SlA.setO ?_) 
end Go.Proofs.Ytcdimjocdpogjaa
end
section
namespace Go.Proofs.Ytcdimjocdpogjaa
open Go.RowKit
set_option linter.unusedSimpArgs false

def flC (p : Value × Int) : List Value := [p.1, .int .i64 p.2]
theorem flC_len (p : Value × Int) : (flC p).length = 2 := rfl

set_option maxRecDepth 20000 in
theorem changed05_c {lo : Nat} {H : AH} {nx : Nat} {vL vN vW vx : Value} (room left done : Int) (off : Bool) {fl : List (Value × Int)} {ownL : Nat} (h2 : vN.oneCell' = true) (h3 : vW.oneCell' = true) (h4 : vx.oneCell' = true) (hL : SlA nx H 2 vL fl.length (fl.flatMap flC) ownL) (hfl : ∀ p ∈ fl, p.1.oneCell' = true) (hln : fl.length ≤ 1000000) (i : Nat) (hi : i < fl.length) (safe : Int) : ACalls Try.prog lo 58 #[shV vL vN vW room left off done, .int .i64 i, .agg #[vx, .int .i64 safe]] H nx (fun v H' nx' => nx ≤ nx' ∧ Kp (fun _ => False) nx H H' ∧ ∃ vL' own', SlA nx' H' 2 vL' (fl.set i (vx, safe)).length ((fl.set i (vx, safe)).flatMap flC) own' ∧ nx < own' ∧ v = shV vL' vN vW room left off done) := by
  refine ACalls.withLo fun hlo => ?_
  refine acalls_of_awp L58 Try.func58 rfl (by kernel_rfl) ?_
  unfold shV
  have h1 := hL.one
  have hones : ∀ u ∈ fl.flatMap flC, u.oneCell' = true := fun u hu => by
    obtain ⟨p, hp, h⟩ := List.mem_flatMap.1 hu
    simp only [flC, List.mem_cons, List.not_mem_nil, or_false] at h
    rcases h with rfl | rfl
    · exact hfl p hp
    · rfl
  simp (disch := omega) only [go_sem, ↓reduceIte , h1, h2, h3, h4]
  intro a ha
  simp (disch := omega) only [go_sem, ↓reduceIte , h1, h2, h3, h4]
  intro c hc
  simp (disch := omega) only [go_sem, ↓reduceIte , h1, h2, h3, h4]
  intro b hb
  simp (disch := omega) only [go_sem, ↓reduceIte , h1, h2, h3, h4]
  have hL2 : SlA (b + 1) _ 2 vL fl.length (fl.flatMap flC) ownL := hL.kp (S := fun _ => False) (H' := (((H.new a #[vL, vN, vW, .int .i64 room, .int .i64 left, .bool off, .int .i64 done] 47).new c #[vx, .int .i64 safe] 90).new b #[.slice none 0 0, .slice none 0 0, .slice none 0 0, .int .i64 0, .int .i64 0, .bool false, .int .i64 0] 47)) (by repeat first | exact Kp.refl _ _ _ | refine Kp.dropT ?_ (.inl (by omega)) | refine Kp.put ?_ (.inl (by omega)) | refine Kp.new ?_ (by omega) | refine Kp.put ?_ (.inr (by omega)) | refine Kp.newO ?_ (by omega) | refine Kp.setO ?_ (.inl (by omega)) | refine Kp.setO ?_ (.inr (by omega)) | refine Kp.trans0 ?_ (by assumption) (by omega) | refine Kp.transS ?_ (by assumption) (by omega) (fun b hb hT => by first | omega | (dsimp only at hT ⊢; omega) | (simp only at hT ⊢; omega)))  (by omega) (by simp)
  refine appendQ_two (aw_append sl43 zero90 rfl by90 (SlA.nil _ _ _) (hL2.src sl43 hones) (by simp only [maxLen]; omega) (by omega) (.inl rfl) fun v3 H3 nx3 own3 hn3 hs3 ho3 hk3 _ => ?_)
  rw [Nat.zero_add, List.nil_append] at hs3
  have hone3 := hs3.one
  have hle3 := hs3.le
  have hk3' := Kp.mono (T := fun _ => False) hk3 (Nat.le_refl _) (fun b hb e => by omega)
  clear hk3
  have hc3 := hk3'.cell0
  obtain ⟨g, of, cap, rfl, hg⟩ := hs3.open (by omega)
  obtain ⟨_, _, hcap, _, hsome⟩ := hs3.cells
  have s0 := hsome (i * 2) (by omega)
  have s1 := hsome (i * 2 + 1) (by omega)
  rw [← Nat.add_assoc] at s1
  have hset : SlA nx3 ((H3.put g (of + i * 2) vx).put g (of + i * 2 + 1) (.int .i64 safe)) 2 (.slice (some ⟨g, of, none⟩) fl.length cap) fl.length ((fl.set i (vx, safe)).flatMap flC) own3 := hs3.setE flC_len hi (vx, safe)
  simp (disch := omega) only [go_sem, ↓reduceIte , h1, h2, h3, h4, hone3, hc3, s0, s1]
  refine ⟨by omega, (by repeat first | exact Kp.refl _ _ _ | refine Kp.dropT ?_ (.inl (by omega)) | refine Kp.put ?_ (.inl (by omega)) | refine Kp.new ?_ (by omega) | refine Kp.put ?_ (.inr (by omega)) | refine Kp.newO ?_ (by omega) | refine Kp.setO ?_ (.inl (by omega)) | refine Kp.setO ?_ (.inr (by omega)) | refine Kp.trans0 ?_ (by assumption) (by omega) | refine Kp.transS ?_ (by assumption) (by omega) (fun b hb hT => by first | omega | (dsimp only at hT ⊢; omega) | (simp only at hT ⊢; omega))) , .slice (some ⟨g, of, none⟩) fl.length cap, own3, ?_, by omega, rfl⟩
  rw [List.length_set]
  exact (by repeat first | assumption | refine SlA.dropT ?_ | refine SlA.put ?_ (by omega) | refine SlA.new ?_ (by omega) | refine SlA.newO ?_ (by omega) | refine SlA.setO ?_) 
end Go.Proofs.Ytcdimjocdpogjaa
end
