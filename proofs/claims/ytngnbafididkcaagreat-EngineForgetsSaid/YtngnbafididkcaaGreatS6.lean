/- slices.Sorted over maps.Keys, keys that are ints: the kit's contracts, as ours. -/
import Derived.Test.YtngnbafididkcaaGreatFacts
import Derived.Test.YtngnbafididkcaaGreatL26
import Derived.Shelf.SlIterI.Nil
import Derived.Shelf.SortM.Plain
import Derived.Shelf.SortM.SortNone
import Derived.Ground.GgzProg
import Derived.Ground.SlgmProg
namespace Go.Proofs.YtngnbafididkcaaGreat
open Go.RowKit Go.Maps Go.Sort Go.Shelf Go.Proofs
shelf_lay_g SlLaysZI.n7 Ggz 7 at Tryz 62 as keysIL
shelf_lay_g SlLaysZI.n6 Ggz 6 at Tryz 61 as sortedIL
shelf_lay_g SlLaysM.n5 Slgm 5 at Tryz 98 as sortIL

theorem sortsIL (m : Nat) : AnyZI.SortsIn Tryz.prog sortedIL_ren Fence.wide m :=
  ⟨fun blk off cap ss W hH hblk hsz => callsIn_wide.2 (AnyM.slices_Sort_int sortIL blk off cap ss W hH hblk hsz),
   fun p cap W => callsIn_wide.2 (AnyM.slices_Sort_int_none sortIL p cap W)⟩

theorem underInt : Tryz.prog.underlying 3 = some (.int .i64) := by kernel_rfl

set_option maxHeartbeats 1000000 in
/-- The keys, sorted, in a slice of its own. -/
theorem sortedKeysI_c {β : Type} {ev : β → Value} {lo : Nat} {H : AH} {nx n m : Nat} {ob : Obj} {l : List (Int × β)} (hn : n < nx) (hc : H.c n 0 = some (.map (some m))) (hm : H.o m = some ob) (hM : MapA (ekI .i64) ev ob l) (hk : ∀ p ∈ l, (Lit.int .i64 p.1).wf = true) (hl : l.length ≤ 1000000) :
    ACalls Tryz.prog lo 61 #[.func (.func 99) #[] #[.pointer (some ⟨n, 0, none⟩)]] H nx (fun v H' nx' => ∃ (own : Nat) (ss : List Int), ss.Perm (l.map fun p => p.1) ∧ ss.Pairwise (fun x y => x ≤ y) ∧ SlA nx' H' 1 v ss.length (ss.map encZ) own ∧ (own = 0 ∨ nx < own) ∧ nx ≤ nx' ∧ Kp (fun _ => False) nx H H') := by
  intro W hW
  obtain ⟨h1, h2, _⟩ := hW.c _ _ _ hc
  obtain ⟨_, h3, _⟩ := hW.o _ _ hm
  have hns := hW.nx_size
  obtain ⟨D, hD, hsz, es, rfl, hp⟩ := ownsMap_of (P := Tryz.prog) (kt := 3) h3 hM (fun x y h => by simpa [ekI] using h) (fun s => .int .i64 s) (fun p hp => by
    simp only [keyOf, underInt, mapKey, ekI, hk p hp, and_self, if_true]) (by simp only [maxLen]; omega)
  have hseq : SeqGives Fence.wide 2 Tryz.prog 99 #[.pointer (some ⟨n, 0, none⟩)] encZ (fun ss => ss.Perm (intKeys (.map es))) (Maps.size (.map es)) W :=
    AnyZI.keys_gives (ρ := keysIL_ren) { keysIL with } Fence.wide _ trivial rfl (by omega) n m l.length (.map es) W (by omega) h2 hD
  have hres := AnyZI.sorted_in sortedIL Fence.wide 5 trivial trivial trivial trivial rfl (by omega) (sortsIL _) (enters_of Tryz.func98 (by kernel_rfl) rfl) 99 #[.pointer (some ⟨n, 0, none⟩)] trivial (enters_of Tryz.func99 (by kernel_rfl) rfl) _ _ (by rw [hsz]; simp only [maxLen]; omega) (by rw [hsz]; omega) W hseq
  refine (callsIn_wide.1 hres).mono fun e w' ⟨v, ss, he, hS, hrow, _, hb⟩ => ?_
  obtain ⟨H', own, g1, g2, g3, g4⟩ := hW.row hb hrow
  have hpp : ss.Perm (l.map fun p => p.1) := hS.trans (by
    have := hp.map Go.intOf
    simpa [intKeys, Go.intOf, Function.comp_def] using this)
  have hms := List.mergeSort_perm ss (fun x y => decide (x ≤ y))
  have tr : ∀ a b c : Int, leI a b = true → leI b c = true → leI a c = true := fun a b c h1 h2 => by simp only [leI, decide_eq_true_eq] at *; exact Int.le_trans h1 h2
  have tot : ∀ a b : Int, (leI a b || leI b a) = true := fun a b => by simp only [leI, Bool.or_eq_true, decide_eq_true_eq]; exact Int.le_total a b
  have hpw := List.pairwise_mergeSort tr tot ss
  refine ⟨v, H', w'.heap.size, he, ⟨own, ss.mergeSort fun x y => decide (x ≤ y), hms.trans hpp, hpw.imp (fun h => by simpa [leI] using h), ?_, g3, by have := hb.size; omega, g4⟩, g1, ⟨hb.mono (by have := hW.lo_nx; omega), trivial⟩, by have := hb.size; omega⟩
  rw [hms.length_eq]
  exact g2
/-- maps.Keys: the map is boxed. -/
theorem keysI_c {lo : Nat} {H : AH} {nx m : Nat} : ACalls Tryz.prog lo 62 #[.map (some m)] H nx (fun v H' nx' => ∃ b, nx ≤ b ∧ nx' = b + 1 ∧ v = .func (.func 99) #[] #[.pointer (some ⟨b, 0, none⟩)] ∧ H'.c b 0 = some (.map (some m)) ∧ Kp (fun _ => False) nx H H') := by
  refine acalls_of_awp L62 Tryz.func62 rfl (by kernel_rfl) ?_
  simp (disch := omega) only [go_sem, ↓reduceIte ]
  intro b hb
  simp (disch := omega) only [go_sem, ↓reduceIte ]
  exact ⟨b, hb, rfl, rfl, by simp only [go_sem], (by repeat first | exact Kp.refl _ _ _ | refine Kp.dropT ?_ (.inl (by omega)) | refine Kp.put ?_ (.inl (by omega)) | refine Kp.new ?_ (by omega) | refine Kp.put ?_ (.inr (by omega)) | refine Kp.newO ?_ (by omega) | refine Kp.setO ?_ (.inl (by omega)) | refine Kp.setO ?_ (.inr (by omega)) | refine Kp.trans0 ?_ (by assumption) (by omega) | refine Kp.transS ?_ (by assumption) (by omega) (fun b hb hT => by first | omega | (dsimp only at hT ⊢; omega) | (simp only at hT ⊢; omega))) ⟩
end Go.Proofs.YtngnbafididkcaaGreat
