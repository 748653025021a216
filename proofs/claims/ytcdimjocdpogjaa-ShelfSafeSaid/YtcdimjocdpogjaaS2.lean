/- slices.Sorted over maps.Keys, keys that are strings: the kit's contracts, as ours. -/
import Derived.Test.YtcdimjocdpogjaaFacts
import Derived.Test.YtcdimjocdpogjaaL23
import Derived.Shelf.SlIter.Nil
import Derived.Shelf.SortM.Plain
import Derived.Shelf.SortM.SortNone
import Derived.Ground.GgzProg
import Derived.Ground.SlgmProg
namespace Go.Proofs.Ytcdimjocdpogjaa
open Go.RowKit Go.Maps Go.Sort Go.Shelf Go.Proofs
shelf_lay_g SlLaysZ.n7 Ggz 7 at Try 36 as keysL
shelf_lay_g SlLaysZ.n6 Ggz 6 at Try 35 as sortedL
shelf_lay_g SlLaysM.n6 Slgm 6 at Try 51 as sortL

theorem sortsL (m : Nat) : AnyZ.SortsIn Try.prog sortedL_ren Fence.wide m :=
  ⟨fun blk off cap ss W hH hblk hsz => callsIn_wide.2 (AnyM.slices_Sort_string sortL blk off cap ss W hH hblk hsz),
   fun p cap W => callsIn_wide.2 (AnyM.slices_Sort_string_none sortL p cap W)⟩

theorem underStr : Try.prog.underlying 9 = some .string := by kernel_rfl

set_option maxHeartbeats 1000000 in
/-- The keys, sorted, in a slice of its own. -/
theorem sortedKeys_c {β : Type} {ev : β → Value} {lo : Nat} {H : AH} {nx n m : Nat} {ob : Obj} {l : List (ByteArray × β)} (hn : n < nx) (hc : H.c n 0 = some (.map (some m))) (hm : H.o m = some ob) (hM : MapA ekS ev ob l) (hk : ∀ p ∈ l, p.1.size ≤ maxLen) (hl : l.length ≤ 1000000) :
    ACalls Try.prog lo 35 #[.func (.func 52) #[] #[.pointer (some ⟨n, 0, none⟩)]] H nx (fun v H' nx' => ∃ (own : Nat) (ss : List (List UInt8)), ss.Perm (l.map fun p => p.1.data.toList) ∧ SlA nx' H' 1 v ss.length (ss.map encStr) own ∧ (own = 0 ∨ nx < own) ∧ nx ≤ nx' ∧ Kp (fun _ => False) nx H H') := by
  intro W hW
  obtain ⟨h1, h2, _⟩ := hW.c _ _ _ hc
  obtain ⟨_, h3, _⟩ := hW.o _ _ hm
  have hns := hW.nx_size
  obtain ⟨D, hD, hsz, es, rfl, hp⟩ := ownsMap_of (P := Try.prog) (kt := 9) h3 hM (fun x y h => by simpa [ekS] using h) (fun s => .string s.data.toList) (fun p hp => by
    simp only [keyOf, underStr, mapKey, ekS, if_pos (hk p hp)]) (by simp only [maxLen]; omega)
  have hseq : SeqGives Fence.wide 2 Try.prog 52 #[.pointer (some ⟨n, 0, none⟩)] encStr (fun ss => ss.Perm (strKeys (.map es))) (Maps.size (.map es)) W :=
    AnyZ.keys_gives (ρ := keysL_ren) { keysL with } Fence.wide _ trivial rfl (by omega) n m l.length (.map es) W (by omega) h2 hD
  have hres := AnyZ.sorted_in sortedL Fence.wide 5 trivial trivial trivial trivial rfl (by omega) (sortsL _) (enters_of Try.func51 (by kernel_rfl) rfl) 52 #[.pointer (some ⟨n, 0, none⟩)] trivial (enters_of Try.func52 (by kernel_rfl) rfl) _ _ (by rw [hsz]; simp only [maxLen]; omega) (by rw [hsz]; omega) W hseq
  refine (callsIn_wide.1 hres).mono fun e w' ⟨v, ss, he, hS, hrow, _, hb⟩ => ?_
  obtain ⟨H', own, g1, g2, g3, g4⟩ := hW.row hb hrow
  have hpp : ss.Perm (l.map fun p => p.1.data.toList) := hS.trans (by
    have := hp.map strOf
    simpa [strKeys, strOf, Function.comp_def] using this)
  have hms := List.mergeSort_perm ss (fun x y => decide (x ≤ y))
  refine ⟨v, H', w'.heap.size, he, ⟨own, ss.mergeSort fun x y => decide (x ≤ y), hms.trans hpp, ?_, g3, by have := hb.size; omega, g4⟩, g1, ⟨hb.mono (by have := hW.lo_nx; omega), trivial⟩, by have := hb.size; omega⟩
  rw [hms.length_eq]
  exact g2
end Go.Proofs.Ytcdimjocdpogjaa
