/- Engine's laws: which of the eighteen a prefix is; an engine's marks: in our own logic. -/
import Derived.Test.YtngnbafididkcaaGreatN28
import Derived.Test.YtngnbafididkcaaGreatN21
import Derived.Test.YtngnbafididkcaaGreatK1
namespace Go.Proofs.YtngnbafididkcaaGreat
open Go.RowKit
set_option linter.unusedSimpArgs false

theorem loadN_two {H H' : AH} {b : Nat} (h : ∀ o, H'.c b o = H.c b o) (k o : Nat) : loadN H' b o k = loadN H b o k := by
  induction k generalizing o with
  | zero => rfl
  | succ k ih => rw [loadN_succ, loadN_succ, h, ih]
theorem mark_want {es : List Ent} (hs : SortE es) {a n s m : Int} {ok : Bool} (h : markR es a n s m ok) : ok = (wantE es a n).isSome ∧ s = ((wantE es a n).map (·.seq)).getD 0 ∧ m = ((wantE es a n).map (·.metric)).getD 0 := by
  rcases h with ⟨rfl, x, hx, h1, h2, h3, h4⟩ | ⟨rfl, rfl, rfl, h⟩
  · rw [(want_iff hs).2 ⟨hx, h1, h2⟩]
    exact ⟨rfl, h3.symm, h4.symm⟩
  · rw [want_none_iff.2 h]
    exact ⟨rfl, rfl, rfl⟩
end Go.Proofs.YtngnbafididkcaaGreat
