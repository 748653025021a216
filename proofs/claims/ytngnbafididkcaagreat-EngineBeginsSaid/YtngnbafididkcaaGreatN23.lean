/- Engine's laws: own, hello, update: in our own logic. Engine's laws: met: in our own logic. -/
import Derived.Test.YtngnbafididkcaaGreatN9
import Derived.Test.YtngnbafididkcaaGreatR3
section
namespace Go.Proofs.YtngnbafididkcaaGreat
open Go.RowKit
set_option linter.unusedSimpArgs false

set_option maxRecDepth 20000 in
theorem own17_c {lo : Nat} {H : AH} {nx : Nat} : ACalls Tryz.prog lo 21 #[] H nx (fun v H' nx' => ∃ b, nx ≤ b ∧ v = .slice (some ⟨b, 0, none⟩) 1 1 ∧ nx' = b + 1 ∧ Kp (fun _ => False) nx H H' ∧ SlA (b + 1) H' 2 v 1 (pxC [(201326592, 24)]) (b + 1)) := by
  refine ACalls.withLo fun hlo => ?_
  refine acalls_of_awp L21 Tryz.func21 rfl (by kernel_rfl) ?_
  simp (disch := omega) only [go_sem, ↓reduceIte ]
  refine buildSQ_all (n := 1) [.agg #[.int .u32 201326592, .int .u8 24]] sl46 zero30 (by omega) (by omega) rfl (by simp [cells_agg]) fun f hf => ?_
  have hlit := px_lit H f 30 201326592 24
  simp (disch := omega) only [go_sem, ↓reduceIte ]
  exact ⟨f, hf, rfl, rfl, (by repeat first | exact Kp.refl _ _ _ | refine Kp.dropT ?_ (.inl (by omega)) | refine Kp.put ?_ (.inl (by omega)) | refine Kp.new ?_ (by omega) | refine Kp.put ?_ (.inr (by omega)) | refine Kp.newO ?_ (by omega) | refine Kp.setO ?_ (.inl (by omega)) | refine Kp.setO ?_ (.inr (by omega)) | refine Kp.trans0 ?_ (by assumption) (by omega) | refine Kp.transS ?_ (by assumption) (by omega) (fun b hb hT => by first | omega | (dsimp only at hT ⊢; omega) | (simp only at hT ⊢; omega))) , hlit⟩
end Go.Proofs.YtngnbafididkcaaGreat
end
section
namespace Go.Proofs.YtngnbafididkcaaGreat
open Go.RowKit
set_option linter.unusedSimpArgs false

def ownPx : Int × Int := (201326592, 24)
def lkM (c : Int) (n : Int) : Lnk := ⟨if n = 0 then 0 else if n = 1 then 1 else 3, n, if n = 0 then 65535 else max c 1, if n = 0 then 0 else 21, 7⟩
/-- Behind n hellos of each. -/
def metE (a b : Int) (n : Int) : Eng := ⟨0, if n = 0 then [] else [(1, lkM a n), (2, lkM b n)], [], [], [(ownPx, 1)], [], 0, [], [], true, 0, 0, 0, 0⟩
theorem metE_ok (a b n : Int) (h0 : 0 ≤ n) (h1 : n ≤ 2) : HOk (metE a b n) 0 := by
  refine ⟨by simp [metE, UqT], by simp [metE], fun l hl => ?_⟩
  unfold metE at hl
  simp only at hl
  split at hl
  · cases hl
  · simp only [List.mem_cons, List.not_mem_nil, or_false] at hl
    rcases hl with rfl | rfl
    · exact ⟨h0, by show n ≤ 1000001; omega⟩
    · exact ⟨h0, by show n ≤ 1000001; omega⟩
theorem HOk.more {e : Eng} {k k' : Nat} (h : HOk e k) (hk : k ≤ k') : HOk e k' := ⟨h.uq, by have := h.le; omega, h.ln⟩
end Go.Proofs.YtngnbafididkcaaGreat
end
