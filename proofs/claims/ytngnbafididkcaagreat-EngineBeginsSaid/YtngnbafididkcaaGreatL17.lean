/- OUR OWN LOGIC OVER THE KIT'S. 16: functions as values. Nothing of the program stands here. OUR OWN LOGIC OVER THE KIT'S. 17: rows of structs written in place; from our contracts to the kit's ('the world grown'). Nothing of the program stands here. -/
import Derived.Test.YtngnbafididkcaaGreatL15
import Derived.Test.YtngnbafididkcaaGreatP1
import Derived.Sort.Grow
section
namespace Go.Proofs.YtngnbafididkcaaGreat
open Go.RowKit

section
variable {P : Program} {lo : Nat} {H : AH} {nx : Nat} {K : Value → AH → Nat → Prop}
theorem makeFV_eq (fn : Fn) (a b : Array Value) : makeFV fn a b = some (.func fn a b) := (rfl)
/-- A call of a function value that holds what it captured. -/
theorem callQ_clo (n : Nat) (c l : List Value) : callQ P lo (.func (.func n) #[] c.toArray) l K H nx = (if fnOk P n = true then ACalls P lo n (l ++ c).toArray H nx K else externQ P lo n (l ++ c).toArray K H nx) := by
  show (if fnOk P n = true then ACalls P lo n ((#[] ++ l.toArray) ++ c.toArray) H nx K else externQ P lo n ((#[] ++ l.toArray) ++ c.toArray) K H nx) = _
  rw [Array.empty_append, List.append_toArray]
end

attribute [go_sem] makeFV_eq callQ_clo List.cons_append List.nil_append List.append_nil
end Go.Proofs.YtngnbafididkcaaGreat
end
section
namespace Go.Proofs.YtngnbafididkcaaGreat
open Go.RowKit

theorem SlA.write {nx : Nat} {H : AH} {size g off n c : Nat} {xs : List Value} {own : Nat} (hs : SlA nx H size (.slice (some ⟨g, off, none⟩) n c) n xs own) {o : Nat} {vs : List Value} (ho : o + vs.length ≤ n * size) :
    SlA nx (H.puts g (off + o) vs) size (.slice (some ⟨g, off, none⟩) n c) n (xs.take o ++ vs ++ xs.drop (o + vs.length)) own := by
  have hl := hs.1
  obtain ⟨hc, hw, hn, hm, hsp⟩ := hs.cells
  refine ⟨by simp [hl]; omega, hs.le, .inr ⟨g, off, c, rfl, hw, hn, hm, fun j hj => ?_, fun j hj => ?_⟩⟩
  · have hx : j < xs.length := by omega
    have hcj := hc j _ (List.getElem?_eq_getElem hx)
    by_cases h1 : j < o
    · rw [puts_other _ _ _ _ _ _ (by omega), hcj, List.append_assoc, List.getElem?_append_left (by simp; omega), List.getElem?_take, if_pos h1, List.getElem?_eq_getElem hx]
    · by_cases h2 : j < o + vs.length
      · rw [show off + j = off + o + (j - o) by omega, puts_same _ _ _ _ _ (by omega), List.append_assoc, List.getElem?_append_right (by simp; omega), List.getElem?_append_left (by simp; omega)]
        simp [show min o xs.length = o by omega]
      · rw [puts_other _ _ _ _ _ _ (by omega), hcj, List.getElem?_append_right (by simp; omega), List.getElem?_drop]
        simp only [List.length_append, List.length_take, show min o xs.length = o by omega]
        rw [show o + vs.length + (j - (o + vs.length)) = j by omega, List.getElem?_eq_getElem hx]
  · by_cases hjn : j < o ∨ o + vs.length ≤ j
    · rw [puts_other _ _ _ _ _ _ (by omega)]; exact hsp j hj
    · rw [show off + j = off + o + (j - o) by omega, puts_same _ _ _ _ _ (by omega), List.getElem?_eq_getElem (by omega)]; rfl

theorem flat_length {α : Type} {f : α → List Value} {k : Nat} (hf : ∀ x, (f x).length = k) : ∀ l : List α, (l.flatMap f).length = l.length * k
  | [] => by simp
  | x :: r => by rw [List.flatMap_cons, List.length_append, hf, flat_length hf r, List.length_cons, Nat.add_mul, Nat.one_mul]; omega
theorem flat_take {α : Type} {f : α → List Value} {k : Nat} (hf : ∀ x, (f x).length = k) : ∀ (l : List α) (n : Nat), (l.flatMap f).take (n * k) = (l.take n).flatMap f
  | [], n => by simp
  | x :: r, 0 => by simp
  | x :: r, n + 1 => by
    rw [List.take_succ_cons, List.flatMap_cons, List.flatMap_cons, ← flat_take hf r n, List.take_append, hf, show (n + 1) * k - k = n * k by rw [Nat.add_mul, Nat.one_mul]; omega, List.take_of_length_le]
    rw [hf, Nat.add_mul, Nat.one_mul]; omega
theorem flat_drop {α : Type} {f : α → List Value} {k : Nat} (hf : ∀ x, (f x).length = k) : ∀ (l : List α) (n : Nat), (l.flatMap f).drop (n * k) = (l.drop n).flatMap f
  | [], n => by simp
  | x :: r, 0 => by simp
  | x :: r, n + 1 => by
    rw [List.drop_succ_cons, List.flatMap_cons, ← flat_drop hf r n, List.drop_append, hf, show (n + 1) * k - k = n * k by rw [Nat.add_mul, Nat.one_mul]; omega, List.drop_of_length_le, List.nil_append]
    rw [hf, Nat.add_mul, Nat.one_mul]; omega
theorem flat_set {α : Type} {f : α → List Value} {k : Nat} (hf : ∀ x, (f x).length = k) (l : List α) (i : Nat) (x : α) (hi : i < l.length) : (l.set i x).flatMap f = (l.flatMap f).take (i * k) ++ f x ++ (l.flatMap f).drop (i * k + k) := by
  rw [flat_take hf, show i * k + k = (i + 1) * k by rw [Nat.add_mul, Nat.one_mul], flat_drop hf, List.set_eq_take_append_cons_drop, if_pos hi]
  simp
/-- One element written in place. -/
theorem SlA.setE {α : Type} {f : α → List Value} {k : Nat} (hf : ∀ x, (f x).length = k) {nx : Nat} {H : AH} {g off c own : Nat} {l : List α} (hs : SlA nx H k (.slice (some ⟨g, off, none⟩) l.length c) l.length (l.flatMap f) own) {i : Nat} (hi : i < l.length) (x : α) :
    SlA nx (H.puts g (off + i * k) (f x)) k (.slice (some ⟨g, off, none⟩) l.length c) l.length ((l.set i x).flatMap f) own := by
  have hm : (i + 1) * k ≤ l.length * k := Nat.mul_le_mul_right _ hi
  rw [Nat.add_mul, Nat.one_mul] at hm
  have h := hs.write (o := i * k) (vs := f x) (by rw [hf]; exact hm)
  rw [hf] at h
  rw [flat_set hf l i x hi]
  exact h

/-- From a contract of ours, at whatever world, to the kit's words: blocks are laid, draws go on, nothing is turned. -/
theorem BelowD.grown {W w' : World} (h : BelowD W.heap.size W w') (h6 : W.drawn ≤ w'.drawn) : ∃ q os', w' = Go.Sort.grow (W.drewN q) os' := by
  obtain ⟨⟨h1, h2, h3, h4, h5⟩, _⟩ := h
  refine ⟨w'.drawn - W.drawn, w'.heap.extract W.heap.size w'.heap.size, ?_⟩
  obtain ⟨hp, tp, dr, os, out⟩ := W
  obtain ⟨hp', tp', dr', os', out'⟩ := w'
  simp only at h1 h2 h3 h4 h5 h6
  subst h1; subst h2; subst h3
  simp only [Go.Sort.grow, World.drewN, World.mk.injEq, true_and, and_true]
  refine ⟨?_, by omega⟩
  apply Array.ext
  · simp; omega
  · intro i hi1 hi2
    rw [Array.getElem_append]
    split
    · rename_i hlt
      have := h5 i hlt
      rw [Array.getElem?_eq_getElem hi1, Array.getElem?_eq_getElem hlt] at this
      simpa using this
    · rename_i hge
      simp only [Array.getElem_extract]
      congr 1
      omega
theorem put_d (H : AH) (b o : Nat) (v : Value) : (H.put b o v).d = H.d := (rfl)
theorem new_d (H : AH) (n : Nat) (vs : Array Value) (e : TypeId) : (H.new n vs e).d = H.d := (rfl)
theorem newO_d (H : AH) (n : Nat) (ob : Obj) : (H.newO n ob).d = H.d := (rfl)
theorem setO_d (H : AH) (n : Nat) (ob : Obj) : (H.setO n ob).d = H.d := (rfl)
theorem dropT_d (H : AH) (n : Nat) : (H.dropT n).d = H.d := (rfl)
attribute [go_sem] put_d new_d newO_d setO_d dropT_d
theorem calls_grow {P : Program} {f : FuncId} {args : Array Value} {R : Value → Prop} (h : ∀ (H : AH) (lo nx : Nat), lo ≤ nx → ACalls P lo f args H nx (fun v H' _ => R v ∧ H'.d = H.d)) (W : World) :
    Calls P f args W fun e w' => (∃ v, e = .returned v ∧ R v) ∧ ∃ q os', w' = Go.Sort.grow (W.drewN q) os' :=
  (h ⟨fun _ _ => none, fun _ => none, fun _ => none, some W.drawn⟩ W.heap.size W.heap.size (Nat.le_refl _) W
    ⟨Nat.le_refl _, Nat.le_refl _, (fun _ _ _ h => nomatch h), (fun _ _ h => nomatch h), (fun _ _ _ h => nomatch h), fun k hk => by cases hk; exact Nat.le_refl _⟩).mono
    fun _ _ ⟨v, _, _, he, ⟨hR, hd⟩, hr, hb, _⟩ => ⟨⟨v, he, hR⟩, hb.grown (hr.d _ hd)⟩
end Go.Proofs.YtngnbafididkcaaGreat
end
