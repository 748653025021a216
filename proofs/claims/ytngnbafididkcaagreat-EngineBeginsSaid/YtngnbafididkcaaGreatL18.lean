/- OUR OWN LOGIC OVER THE KIT'S. 18: slices.SortFunc at structs: the kit's contract in our words. Nothing of the program stands here. -/
import Derived.Test.YtngnbafididkcaaGreatL17
import Derived.Shelf.SlSortCmp.NoneTotal
namespace Go.Proofs.YtngnbafididkcaaGreat
open Go.Shelf Go.RowKit Go.Lib Go.Sort
set_option linter.unusedSimpArgs false

theorem flatK_flat {α : Type} [Inhabited α] {enc : α → List Value} {k : Nat} (hk : ∀ x, (enc x).length = k) (d : List α) (j : Nat) (hj : j < d.length * k) : (d.flatMap enc)[j]? = some (flatK enc k d.toArray)[j]! := by
  have k0 : 0 < k := by rcases Nat.eq_zero_or_pos k with h | h; · subst h; simp at hj
                        · exact h
  have hi : j / k < d.length := Nat.div_lt_of_lt_mul (by rw [Nat.mul_comm]; exact hj)
  have hr : j % k < k := Nat.mod_lt _ k0
  have e := flat_get hk d (j / k) d[j / k] (List.getElem?_eq_getElem hi) (j % k) hr
  rw [Nat.div_add_mod] at e
  rw [e, get_flatK enc k d.toArray j (by simpa using hj)]
  have hl : j % k < (enc d[j / k]).length := by rw [hk]; exact hr
  have h3 : d.toArray[j / k]! = d[j / k] := by simp [hi]
  rw [List.getElem?_eq_getElem hl, h3, getElem!_pos (enc d[j / k]) (j % k) hl]

theorem heap_sortWorldK {α : Type} [Inhabited α] (enc : α → List Value) (k : Nat) (w : World) (blk off m : Nat) (d : Array α) (os : Array Obj) (b : Nat) (hb : b < w.heap.size) :
    (sortWorldK enc k w blk off m d os).heap[b]? = if blk = b then (w.heap[b]?).map (onCells (putCells id off (flatK enc k d))) else w.heap[b]? := by
  show ((w.heap.modify blk (onCells (putCells id off (flatK enc k d)))) ++ os)[b]? = _
  rw [Array.getElem?_append_left (by simpa using hb), Array.getElem?_modify]

theorem puts_d (b : Nat) : ∀ (vs : List Value) (o : Nat) (H : AH), (H.puts b o vs).d = H.d
  | [], _, _ => rfl
  | v :: vs, o, H => by
    simp only [AH.puts]
    rw [puts_d b vs]
    rfl
theorem acalls_sort {P : Program} {ρ : Ren} {α : Type} [Inhabited α] (L : SlLaysF0.n6 P ρ) {k : Nat} (aE : ∀ w, (isAgg (ρ.t 24)).run P w = .ok true w) (zE : ∀ w, (Go.sizeOf (ρ.t 24)).run P w = .ok k w) {enc : α → List Value} (hk : ∀ x, (enc x).length = k) (h1 : ∀ x, ∀ v ∈ enc x, v.oneCell' = true)
    {cf : α → α → Int} (hO : SWO (ltOf cf)) {g : Nat} (eg : ∀ args w, (callFunc g args).run P w = .ok (.enter g args) w) (hcl : ∀ x y W, Calls P g #[.agg (enc x).toArray, .agg (enc y).toArray] W fun e w' => e = .returned (.int .i64 (cf x y)) ∧ ∃ q os', w' = grow (W.drewN q) os')
    {lo nx : Nat} {H : AH} {v : Value} {own : Nat} {d : List α} (hs : SlA nx H k v d.length (d.flatMap enc) own) (how : own = 0 ∨ lo < own) (hsm : d.length < 4611686018427387904) :
    ACalls P lo (ρ.f 6) #[v, .func (.func g) #[] #[]] H nx (fun r H' nx' => r = .tuple #[] ∧ nx' = nx ∧ ∃ d' : List α, d'.Perm d ∧ d'.Pairwise (fun x y => ltOf cf y x = false) ∧ Kp (fun b => b + 1 = own) nx H H' ∧ SlA nx H' k v d'.length (d'.flatMap enc) own) := by
  intro w hw
  have hmx := hs.maxLen
  rcases hs.2.2 with ⟨rfl, h0, rfl⟩ | ⟨blk, off, cap, rfl, hown, hcap, hcm, hc, hsp⟩
  · have hd : d = [] := List.eq_nil_of_length_eq_zero h0
    subst hd
    exact (AnyF.slices_SortFunc_none L none 0 _ w).mono fun e w' ⟨he, hw'⟩ => by
      subst he; subst hw'
      exact ⟨_, H, nx, rfl, ⟨rfl, rfl, [], List.Perm.refl _, List.Pairwise.nil, Kp.refl _ _ _, hs⟩, hw, BelowD.refl _ _, Nat.le_refl _⟩
  · have hle := hs.le
    have hblk : blk < nx := by omega
    have hlo : lo ≤ blk := by omega
    have hbs : blk < w.heap.size := Nat.lt_of_lt_of_le hblk hw.nx_size
    have hH : HoldsK enc k w blk off d.toArray := fun j hj => by
      have hj' : j < d.length * k := by simpa using hj
      have e := hc j hj'
      rw [flatK_flat hk d j hj'] at e
      obtain ⟨_, e1, e2⟩ := hw.c _ _ _ e
      exact ⟨e1, e2 hlo⟩
    have hcon := AnyQ.slices_SortFunc L k aE zE enc hk h1 cf hO g #[] blk off cap d.toArray w eg (fun _ _ _ _ x y => hcl x y _) hH hbs (by simpa using hsm)
    refine hcon.mono fun e w' hpost => ?_
    obtain ⟨he, d', n, os, hp, hsd, hw'⟩ := hpost
    subst he
    have hsz : d'.size = d.length := by simpa using hp.1
    have hlen : (d'.toList.flatMap enc).length = d.length * k := by rw [flat_length hk]; simp [hsz]
    have hH' : HoldsK enc k w' blk off d' := by
      rw [hw']; exact holdsK_sortWorldK_c enc k w blk off d.toArray d' n os hH hbs (by simp [hsz])
    have hheap : ∀ b, b < w.heap.size → w'.heap[b]? = if blk = b then (w.heap[b]?).map (onCells (putCells id off (flatK enc k d'))) else w.heap[b]? := fun b hb => by
      rw [hw']; exact heap_sortWorldK enc k w blk off n d' os b hb
    have hsize : w.heap.size ≤ w'.heap.size := by rw [hw']; exact size_sortWorldK_c enc k w blk off n d' os
    have hval : ∀ j, j < d.length * k → w'.cell? ⟨blk, off + j, none⟩ = (d'.toList.flatMap enc)[j]? ∧ w'.frozen? ⟨blk, off + j, none⟩ = false := fun j hj => by
      have := hH' j (by simpa [hsz] using hj)
      rw [flatK_flat hk d'.toList j (by simpa [hsz] using hj)]
      simpa using this
    refine ⟨_, H.puts blk off (d'.toList.flatMap enc), nx, rfl, ⟨rfl, rfl, d'.toList, ?_, ?_, Kp.puts (S := fun b => b + 1 = own) (.inr hown.symm) _ _ _ (Kp.refl _ _ _), ?_⟩, ⟨hw.lo_nx, Nat.le_trans hw.nx_size hsize, fun b o u hu => ?_, fun b ob hob => ?_, fun b e n hn => ?_, fun k hk => ?_⟩, ⟨⟨?_, ?_, ?_, hsize, fun b hb => ?_⟩, trivial⟩, Nat.le_refl _⟩
    · have := hp.2.2
      rw [Array.extract_eq_self_of_le (by simp [hsz]), Array.extract_eq_self_of_le (by simp)] at this
      exact this
    · rw [List.pairwise_iff_getElem]
      intro i j hi hj hij
      have := hsd i j (Nat.zero_le _) hij (by simpa [hsz] using hj)
      have hi' : i < d'.size := by simpa using hi
      have hj' : j < d'.size := by simpa using hj
      rw [getElem!_pos d' i hi', getElem!_pos d' j hj'] at this
      simpa using this
    · have := hs.write (o := 0) (vs := d'.toList.flatMap enc) (by omega)
      rw [hlen] at this
      rw [show d'.toList.length = d.length by simp [hsz]]
      rw [Nat.zero_add, List.drop_of_length_le (by rw [hs.1]; exact Nat.le_refl _)] at this
      simpa using this
    · by_cases hin : b = blk ∧ off ≤ o ∧ o < off + d.length * k
      · obtain ⟨rfl, ha, hb2⟩ := hin
        obtain ⟨j, rfl⟩ : ∃ j, o = off + j := ⟨o - off, by omega⟩
        rw [puts_same _ _ _ _ _ (by omega)] at hu
        obtain ⟨e1, e2⟩ := hval j (by omega)
        exact ⟨hblk, by rw [e1]; exact hu, fun _ => e2⟩
      · rw [puts_other _ _ _ _ _ _ (by omega)] at hu
        obtain ⟨e1, e2, e3⟩ := hw.c _ _ _ hu
        have hcell : w'.cell? ⟨b, o, none⟩ = w.cell? ⟨b, o, none⟩ ∧ w'.frozen? ⟨b, o, none⟩ = w.frozen? ⟨b, o, none⟩ := by
          have hbw : b < w.heap.size := Nat.lt_of_lt_of_le e1 hw.nx_size
          rw [hw']
          constructor
          · unfold sortWorldK
            rw [cell?_grow _ _ _ (by rw [size_putRowK]; exact hbw)]
            unfold putRowK
            rw [cell?_putRow_other]
            · rfl
            · simp only [size_flatK, hsz]
              omega
          · unfold sortWorldK
            rw [frozen?_grow _ _ _ (by rw [size_putRowK]; exact hbw)]
            unfold putRowK
            rw [frozen?_putRow]
            rfl
        rw [hcell.1, hcell.2]
        exact ⟨e1, e2, e3⟩
    · rw [(puts_o _ _ _ _ _).1] at hob
      obtain ⟨e1, e2, e3⟩ := hw.o _ _ hob
      refine ⟨e1, ?_, e3⟩
      rw [hheap b (Nat.lt_of_lt_of_le e1 hw.nx_size)]
      split
      · rw [e2]
        cases ob <;> first | rfl | (simp [Obj.plainO] at e3)
      · exact e2
    · rw [(puts_o _ _ _ _ _).2] at hn
      obtain ⟨e1, e2, cs, e3, e4⟩ := hw.t _ _ _ hn
      refine ⟨e1, e2, ?_⟩
      rw [hheap b (Nat.lt_of_lt_of_le e1 hw.nx_size)]
      split
      · rw [e3]
        exact ⟨_, rfl, by simp [putCells, e4]⟩
      · exact ⟨cs, e3, e4⟩
    · have h1 := hw.d k (by rw [puts_d] at hk; exact hk)
      rw [hw']
      exact Nat.le_trans h1 (Nat.le_add_right _ _)
    · rw [hw']; rfl
    · rw [hw']; rfl
    · rw [hw']; rfl
    · rw [hheap b (by have := hw.lo_nx; have := hw.nx_size; omega), if_neg (by omega)]
end Go.Proofs.YtngnbafididkcaaGreat
