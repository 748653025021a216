/- Ether, in our own logic: Peek where something is under way. -/
import Derived.Test.YtcdnjkogkibegaaF1
namespace Go.Proofs.Ytcdnjkogkibegaa
open Go.RowKit
set_option linter.unusedSimpArgs false

theorem peek_some {lo : Nat} {p : Nat} {up : Nat → Nat → Bool} {l : List Pkt} {own : Nat} {H : AH} {nx : Nat} (hE : EtherA lo nx H p up l own) (hl : 0 < l.length) (i : Int) (k : Pkt) (hk : l[atC i l.length]? = some k) (hkl : k.bs.length ≤ 1000000) :
    ACalls Try.prog lo 12 #[.pointer (some ⟨p, 0, none⟩), .int .i64 i] H nx (fun v H' nx' => nx ≤ nx' ∧ Kp (fun _ => False) nx H H' ∧
      ∃ s own', v = .tuple #[.agg #[.int .i64 k.fr, .int .i64 k.dst, s], .int .i64 0] ∧ SlA nx' H' 1 s k.bs.length (byteV k.bs) own' ∧ (own' = 0 ∨ nx < own')) := by
  refine ACalls.withLo fun hlo => ?_
  refine acalls_of_awp L12 Try.func12 rfl (by kernel_rfl) ?_
  have hkm := hE.pk k (List.mem_of_getElem? hk)
  have hone := hkm.1.one
  obtain ⟨q, hq, hs⟩ := hE.q
  obtain ⟨g, off, cap, rfl, ho⟩ := hs.open hl
  obtain ⟨hc, _, hcap, hmx, _⟩ := hs.cells
  simp only [maxLen] at hmx
  have hgl := hs.le
  have hlt := hE.lt
  have hat := atC_lt i l.length hl
  obtain ⟨k1, k2, k3⟩ := pk_cells hk
  have c1 := hc _ _ k1
  have c2 := hc _ _ k2
  have c3 := hc _ _ k3
  rw [Nat.mul_comm] at c1
  rw [show off + (3 * atC i l.length + 1) = off + atC i l.length * 3 + 1 by omega] at c2
  rw [show off + (3 * atC i l.length + 2) = off + atC i l.length * 3 + 1 + 1 by omega] at c3
  simp (disch := omega) only [go_sem, ↓reduceIte ]
  intro n hn
  simp (disch := omega) only [go_sem, ↓reduceIte ]
  refine (at_some (hE.new hn) hl i).mono fun v H' nx' _ ⟨hv, hH, hx⟩ => ?_
  subst hv; subst hH; subst hx
  simp (disch := omega) only [go_sem, ↓reduceIte , hq, c1, c2, c3]
  intro m hm
  simp (disch := omega) only [go_sem, ↓reduceIte , hone]
  refine (cloneB_c (bs := k.bs) (own := k.own) ?_ hkl).mono fun v H' nx' _ ⟨hn', hk', own', hs', ho'⟩ => ?_
  · exact hkm.1.kp (S := fun _ => False) (by repeat first | exact Kp.refl _ _ _ | refine Kp.dropT ?_ (.inl (by omega)) | refine Kp.put ?_ (.inl (by omega)) | refine Kp.new ?_ (by omega) | refine Kp.put ?_ (.inr (by omega)) | refine Kp.trans0 ?_ (by assumption) (by omega) | refine Kp.transS ?_ (by assumption) (by omega) (fun b hb hT => by first | omega | (dsimp only at hT ⊢; omega) | (simp only at hT ⊢; omega)))  (by omega) (by simp)
  have hone' := hs'.one
  have hcc := hk'.cell0
  simp (disch := omega) only [go_sem, ↓reduceIte , hone', hcc]
  exact ⟨by omega, (by repeat first | exact Kp.refl _ _ _ | refine Kp.dropT ?_ (.inl (by omega)) | refine Kp.put ?_ (.inl (by omega)) | refine Kp.new ?_ (by omega) | refine Kp.put ?_ (.inr (by omega)) | refine Kp.trans0 ?_ (by assumption) (by omega) | refine Kp.transS ?_ (by assumption) (by omega) (fun b hb hT => by first | omega | (dsimp only at hT ⊢; omega) | (simp only at hT ⊢; omega))) , v, own', rfl, (by repeat first | assumption | refine SlA.dropT ?_ | refine SlA.put ?_ (by omega) | refine SlA.new ?_ (by omega)), by omega⟩

/-! ### slices.Delete of packets -/
theorem pkCells_length (l : List Pkt) : (pkCells l).length = 3 * l.length := by
  induction l with
  | nil => rfl
  | cons x r ih => have e : pkCells (x :: r) = [.int .i64 x.fr, .int .i64 x.dst, x.v] ++ pkCells r := rfl; rw [e, List.length_append, ih]; simp; omega
theorem pkCells_append (l m : List Pkt) : pkCells (l ++ m) = pkCells l ++ pkCells m := by simp [pkCells]
theorem pkCells_take (l : List Pkt) (n : Nat) : (pkCells l).take (n * 3) = pkCells (l.take n) := by
  induction l generalizing n with
  | nil => simp [pkCells]
  | cons x r ih =>
    cases n with
    | zero => simp [pkCells]
    | succ n =>
      have e : ∀ r, pkCells (x :: r) = .int .i64 x.fr :: .int .i64 x.dst :: x.v :: pkCells r := fun _ => rfl
      rw [List.take_succ_cons, e, e, show (n + 1) * 3 = n * 3 + 1 + 1 + 1 by omega]
      simp [ih]
theorem pkCells_drop (l : List Pkt) (n : Nat) : (pkCells l).drop (n * 3) = pkCells (l.drop n) := by
  induction l generalizing n with
  | nil => simp [pkCells]
  | cons x r ih =>
    cases n with
    | zero => simp
    | succ n =>
      have e : ∀ r, pkCells (x :: r) = .int .i64 x.fr :: .int .i64 x.dst :: x.v :: pkCells r := fun _ => rfl
      rw [List.drop_succ_cons, e, show (n + 1) * 3 = n * 3 + 1 + 1 + 1 by omega]
      simp [ih]

/-- One, or more, taken out of the middle. -/
theorem delPk_c {lo : Nat} {H : AH} {nx : Nat} {s : Value} {l : List Pkt} {own : Nat} (hs : SlA nx H 3 s l.length (pkCells l) own) (hone : ∀ v ∈ pkCells l, v.oneCell' = true) (hlo : own = 0 ∨ lo < own) (i j : Nat) (hij : i < j) (hj : j ≤ l.length) :
    ACalls Try.prog lo 32 #[s, .int .i64 i, .int .i64 j] H nx
      (fun v H' nx' => nx' = nx ∧ Kp (fun b => b + 1 = own) nx H H' ∧ SlA nx H' 3 v (l.take i ++ l.drop j).length (pkCells (l.take i ++ l.drop j)) own) := by
  refine acalls_of_awp L32 Try.func32 rfl (by kernel_rfl) ?_
  obtain ⟨g, off, cap, rfl, ho⟩ := hs.open (by omega)
  obtain ⟨hc, _, hcap, hmx, hsp⟩ := hs.cells
  simp only [maxLen] at hmx
  have hgl := hs.le
  simp (disch := omega) only [go_sem, ↓reduceIte , slice_lhm sl27]
  refine awp_draw ord32x5 (by kernel_rfl) ?_
  simp (disch := omega) only [go_sem, ↓reduceIte , ord32x5, slice_h sl27, slice_l sl27]
  have hcut := hs.cut (l := j) (h := l.length) (m := cap) hj (Nat.le_refl _) hcap (Nat.le_refl _)
  have hsrc : SrcA Try.prog H 3 27 _ (l.length - j) _ := hcut.src sl27 (fun v hv => hone v (List.mem_of_mem_drop (List.mem_of_mem_take hv)))
  have hless := hs.less (i := i) (by omega)
  have hnews : ((pkCells l).drop (j * 3)).take ((l.length - j) * 3) = pkCells (l.drop j) := by
    rw [pkCells_drop, List.take_of_length_le]
    rw [pkCells_length, List.length_drop]; omega
  rw [hnews] at hsrc
  rw [pkCells_take] at hless
  refine appendQ_two (aw_append_room sl27 hsrc (by omega) (by omega) (fun k hk => ?_) ?_)
  · have := hsp (i * 3 + k) (by omega)
    rwa [← Nat.add_assoc] at this
  have hroom := hless.room (m := l.length - j) hsrc.newsLen (by omega)
  rw [← pkCells_append] at hroom
  simp (disch := omega) only [go_sem, ↓reduceIte ]
  refine ⟨dkeep_last (by kernel_rfl), ?_⟩
  simp (disch := omega) only [go_sem, ↓reduceIte , slice_lh sl27]
  refine clearQ_one (aw_clear sl27 zero36 (by omega) (by omega) (zeroCells_one (by decide) (by kernel_rfl) _) (fun k hk => ?_) ?_)
  · have := hroom.cells.2.2.2.2 ((i + (l.length - j)) * 3 + k) (by simp only [size_zeroCells, cells_agg, List.size_toArray, List.length_cons, List.length_nil] at hk; omega)
    rwa [← Nat.add_assoc] at this
  have hend := hroom.beyond (o := off + (i + (l.length - j)) * 3) (vs := (Builtin.zeroCells (Value.agg #[.int .i64 0, .int .i64 0, .slice none 0 0]).cells (l.length - (i + (l.length - j)))).toList) (Nat.le_refl _)
  simp (disch := omega) only [go_sem, ↓reduceIte ]
  refine ⟨Kp.puts (.inr (by omega)) _ _ _ (Kp.puts (.inr (by omega)) _ _ _ (Kp.refl _ _ _)), ?_⟩
  rw [show (l.take i ++ l.drop j).length = i + (l.length - j) by simp; omega]
  exact hend
end Go.Proofs.Ytcdnjkogkibegaa
