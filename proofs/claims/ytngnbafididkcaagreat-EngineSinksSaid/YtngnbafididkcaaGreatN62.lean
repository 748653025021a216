/- Engine's laws: which of the eighteen a prefix is; an engine's marks: in our own logic. -/
import Derived.Test.YtngnbafididkcaaGreatN28
import Derived.Test.YtngnbafididkcaaGreatN21
import Derived.Test.YtngnbafididkcaaGreatK1
namespace Go.Proofs.YtngnbafididkcaaGreat
open Go.RowKit
set_option linter.unusedSimpArgs false

def isPfx (a n : Int) (k : Nat) : Bool := decide (pfxA k = a) && decide (pfxN k = n)
/-- The least number of a prefix among the eighteen, or -1. -/
def firstI (a n : Int) : Int := match (List.range 18).find? (isPfx a n) with | some k => k | none => -1
structure F7I (nx0 : Nat) (H0 : AH) (a n : Int) (d : Nat) (m : Nat) (env : Env) (H : AH) (nx k : Nat) : Prop where
  hm : m = 18 - k
  hk : k ≤ 18
  henv : env = [(1, .pointer (some ⟨d, 0, none⟩)), (3, .int .i64 k)]
  hx : nx0 ≤ nx
  hkp : Kp (fun _ => False) nx0 H0 H
  ld : loadN H d 0 2 = some [.int .u32 a, .int .u8 n]
  ldx : d < nx
  hno : ∀ j, j < k → isPfx a n j = false
theorem range_find {q : Nat → Bool} {k N : Nat} (hk : k < N) (hno : ∀ j, j < k → q j = false) (hq : q k = true) : (List.range N).find? q = some k := by
  rw [List.find?_eq_some_iff_getElem]
  refine ⟨hq, k, by simpa using hk, by simp, fun j hj => ?_⟩
  simp [hno j hj]
theorem loadN_two {H H' : AH} {b : Nat} (h : ∀ o, H'.c b o = H.c b o) (k o : Nat) : loadN H' b o k = loadN H b o k := by
  induction k generalizing o with
  | zero => rfl
  | succ k ih => rw [loadN_succ, loadN_succ, h, ih]
set_option maxHeartbeats 1000000 in
set_option maxRecDepth 20000 in
theorem first07_c {lo : Nat} {H : AH} {nx : Nat} (a n : Int) : ACalls Tryz.prog lo 22 #[.agg #[.int .u32 a, .int .u8 n]] H nx (fun v H' nx' => v = .int .i64 (firstI a n) ∧ nx ≤ nx' ∧ Kp (fun _ => False) nx H H') := by
  refine ACalls.withLo fun hlo => ?_
  refine acalls_of_awp L22 Tryz.func22 rfl (by kernel_rfl) ?_
  simp (disch := omega) only [go_sem, ↓reduceIte ]
  intro d hd
  simp (disch := omega) only [go_sem, ↓reduceIte ]
  have kd : Kp (fun _ => False) nx H (H.new d #[.int .u32 a, .int .u8 n] 30) := (by repeat first | exact Kp.refl _ _ _ | refine Kp.dropT ?_ (.inl (by omega)) | refine Kp.put ?_ (.inl (by omega)) | refine Kp.new ?_ (by omega) | refine Kp.put ?_ (.inr (by omega)) | refine Kp.newO ?_ (by omega) | refine Kp.setO ?_ (.inl (by omega)) | refine Kp.setO ?_ (.inr (by omega)) | refine Kp.trans0 ?_ (by assumption) (by omega) | refine Kp.transS ?_ (by assumption) (by omega) (fun b hb hT => by first | omega | (dsimp only at hT ⊢; omega) | (simp only at hT ⊢; omega))) 
  have ld : loadN (H.new d #[.int .u32 a, .int .u8 n] 30) d 0 2 = some [.int .u32 a, .int .u8 n] := by simp (disch := omega) only [go_sem, ↓reduceIte ]
  generalize H.new d #[.int .u32 a, .int .u8 n] 30 = M at kd ld ⊢
  refine awp_loop (fun m env H' nx' => ∃ k, F7I nx H a n d m env H' nx' k) 18 ⟨0, ⟨by omega, by omega, rfl, by omega, kd, ld, by omega, fun j hj => by omega⟩⟩ (fun m env H1 nx1 ⟨k, hI⟩ hn => ?_)
  obtain ⟨hm, hk, henv, hx, hkp, ld, ldx, hno⟩ := hI
  subst henv
  by_cases hlt : k < 18
  · have hcast : ((k : Int) + 1) = ((k + 1 : Nat) : Int) := by omega
    simp (disch := omega) only [go_sem, ↓reduceIte ]
    refine awp_draw ord22x4 (by kernel_rfl) ?_
    simp (disch := omega) only [go_sem, ↓reduceIte , ord22x4, ld]
    refine (pfx_c (k : Int) (by omega) (by omega) _ _).mono fun v H2 nx2 _ ⟨hv, hx2, hk2⟩ => ?_
    subst hv
    have ld2 : loadN H2 d 0 2 = some [.int .u32 a, .int .u8 n] := by rw [loadN_two (fun o => hk2.cell0 d o ldx)]; exact ld
    have hk3 := hkp.trans (U := fun _ => False) hk2 hx (fun _ _ h => h) (fun _ _ h => h)
    by_cases hq : isPfx a n k = true
    · have hq2 := hq
      unfold isPfx at hq2
      simp only [Bool.and_eq_true, decide_eq_true_eq] at hq2
      simp (disch := omega) only [go_sem, ↓reduceIte , ord22x4, ld2, hq2.1, hq2.2]
      refine ⟨dkeep_kp hk2, ?_, by omega, hk3⟩
      unfold firstI
      rw [range_find hlt hno hq]
    · rw [Bool.not_eq_true] at hq
      have hq2 := hq
      unfold isPfx at hq2
      simp (disch := omega) only [go_sem, ↓reduceIte , ord22x4, ld2, hq2]
      refine ⟨dkeep_kp hk2, 18 - (k + 1), by omega, k + 1, ⟨rfl, by omega, by rw [hcast], by omega, hk3, ld2, by omega, fun j hj => ?_⟩⟩
      by_cases hjk : j = k
      · rw [hjk]; exact hq
      · exact hno j (by omega)
  · have ei : k = 18 := by omega
    subst ei
    simp (disch := omega) only [go_sem, ↓reduceIte ]
    refine ⟨?_, hx, hkp⟩
    have hf : (List.range 18).find? (isPfx a n) = none := by
      rw [List.find?_eq_none]
      intro j hj
      rw [hno j (List.mem_range.1 hj)]
      simp
    unfold firstI
    rw [hf]
theorem mark_want {es : List Ent} (hs : SortE es) {a n s m : Int} {ok : Bool} (h : markR es a n s m ok) : ok = (wantE es a n).isSome ∧ s = ((wantE es a n).map (·.seq)).getD 0 ∧ m = ((wantE es a n).map (·.metric)).getD 0 := by
  rcases h with ⟨rfl, x, hx, h1, h2, h3, h4⟩ | ⟨rfl, rfl, rfl, h⟩
  · rw [(want_iff hs).2 ⟨hx, h1, h2⟩]
    exact ⟨rfl, h3.symm, h4.symm⟩
  · rw [want_none_iff.2 h]
    exact ⟨rfl, rfl, rfl⟩
/-- How near it ever was. -/
def mkS (es : List Ent) (a n : Int) : Int := ((wantE es a n).map (·.seq)).getD 0
def mkM (es : List Ent) (a n : Int) : Int := ((wantE es a n).map (·.metric)).getD 0
theorem emarkW_c {lo nx : Nat} {H : AH} {p : Nat} {e : Eng} {y : ELay} {col : Nat → Nat} (hA : EngA lo nx H p e y col) (hs : SortE e.es) (hl : e.es.length ≤ 1000000) (a n : Int) : ACalls Tryz.prog lo 23 #[.pointer (some ⟨p, 0, none⟩), .agg #[.int .u32 a, .int .u8 n]] H nx (fun v H' nx' => v = .tuple #[.agg #[.int .u16 (mkS e.es a n), .int .u16 (mkM e.es a n)], .bool (wantE e.es a n).isSome] ∧ nx ≤ nx' ∧ Kp (fun _ => False) nx H H') :=
  (emark_c hA hl a n).mono fun v H' nx' _ ⟨hx, hk, s, m, ok, hv, hmk⟩ => by
    obtain ⟨h1, h2, h3⟩ := mark_want hs hmk
    exact ⟨by rw [hv, h1, h2, h3]; rfl, hx, hk⟩
end Go.Proofs.YtngnbafididkcaaGreat
