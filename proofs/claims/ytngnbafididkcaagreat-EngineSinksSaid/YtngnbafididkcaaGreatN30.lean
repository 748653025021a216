/- EngineSwitches, in plain words. -/
import Derived.Test.YtngnbafididkcaaGreatN28
import Derived.Test.YtngnbafididkcaaGreatN21
namespace Go.Proofs.YtngnbafididkcaaGreat
open Go.RowKit
set_option linter.unusedSimpArgs false

/-- A packet with one part, made fresh. -/
theorem part_fresh (H : AH) (f : Nat) (x : Prt) (nx : Nat) (hf : nx ≤ f) : Kp (fun _ => False) nx H (H.new f ([Value.agg #[.int .u8 x.kind, .int .u64 x.n, .int .i64 x.node, .int .u32 x.addr, .int .u8 x.len, .int .u16 x.seq, .int .u16 x.metric]].flatMap fun v => v.cells.toList).toArray 32) := (by repeat first | exact Kp.refl _ _ _ | refine Kp.dropT ?_ (.inl (by omega)) | refine Kp.put ?_ (.inl (by omega)) | refine Kp.new ?_ (by omega) | refine Kp.put ?_ (.inr (by omega)) | refine Kp.newO ?_ (by omega) | refine Kp.setO ?_ (.inl (by omega)) | refine Kp.setO ?_ (.inr (by omega)) | refine Kp.trans0 ?_ (by assumption) (by omega) | refine Kp.transS ?_ (by assumption) (by omega) (fun b hb hT => by first | omega | (dsimp only at hT ⊢; omega) | (simp only at hT ⊢; omega))) 
theorem nearI_same (s m m' : Int) : nearI s m s m' = decide (m < m') := by simp [nearI, newI]
theorem wayT_some {pa pn who s m c : Int} (hm : m ≤ 60000) (hc : c = 96) : wayT pa pn who s m c = some ⟨pa, pn, who, m + 96, s⟩ := by
  unfold wayT
  subst hc
  rw [if_neg (by omega)]
theorem wayT_gone {pa pn who s c : Int} : wayT pa pn who s 65535 c = none := by
  unfold wayT
  rw [if_pos (.inl rfl)]
section
variable {e : Eng} {p s far near : Int} {x1 x2 : Option Tld} {mk : Option Ent} {n : Nat}
/-- OneE has told, nothing is marked. -/
theorem sw_way1 (h : OneE 96 96 e p (tOpt (tldOf 1 (updP p s far) 2)) none none n) (hf : far ≤ 60000) : wayE e (pfxA p) (pfxN p) (tOpt (tldOf 1 (updP p s far) 2)) none = some ⟨pfxA p, pfxN p, 1, far + 96, s⟩ := by
  rw [h.way, way_t (t := tldOf 1 (updP p s far) 2) (c := 96) 1 (by omega) (by rfl) (by rw [show ((1 : Nat) : Int) = 1 from rfl, h.cost1]; rfl) (by simp [feasM])]
  show pick2 (wayT (pfxA p) (pfxN p) 1 s far 96) none = _
  rw [wayT_some hf rfl]
  rfl
theorem feasM_lt {pa pn s m fr m2 now : Int} (h : m2 < m) : feasM (some ⟨pa, pn, s, m⟩) (tldOf fr (updP p s m2) now) = true := by
  unfold feasM
  simp only [Bool.or_eq_true, decide_eq_true_eq]
  right
  show nearI s m2 s m = true
  rw [nearI_same]
  simpa using h
theorem feasM_ge {pa pn s m fr m2 now : Int} (h : ¬ m2 < m) (h2 : m2 ≠ 65535) : feasM (some ⟨pa, pn, s, m⟩) (tldOf fr (updP p s m2) now) = false := by
  unfold feasM
  simp only [Bool.or_eq_false_iff, decide_eq_false_iff_not]
  refine ⟨h2, ?_⟩
  show nearI s m2 s m = false
  rw [nearI_same]
  simpa using h
theorem sw_way2 (h : OneE 96 96 e p (tOpt (tldOf 1 (updP p s far) 2)) (tOpt (tldOf 2 (updP p s near) 2)) (some ⟨pfxA p, pfxN p, s, far + 96⟩) n) (hf : far ≤ 60000) (hn : near ≤ far) :
    wayE e (pfxA p) (pfxN p) (tOpt (tldOf 1 (updP p s far) 2)) (tOpt (tldOf 2 (updP p s near) 2)) = some ⟨pfxA p, pfxN p, if near = far then 1 else 2, near + 96, s⟩ ∧
    markE (some ⟨pfxA p, pfxN p, s, far + 96⟩) (pfxA p) (pfxN p) (some ⟨pfxA p, pfxN p, if near = far then 1 else 2, near + 96, s⟩) = some ⟨pfxA p, pfxN p, s, near + 96⟩ := by
  constructor
  · rw [h.way, way_t (t := tldOf 1 (updP p s far) 2) (c := 96) 1 (by omega) (by rfl) (by rw [show ((1 : Nat) : Int) = 1 from rfl, h.cost1]; rfl) (feasM_lt (by omega)), way_t (t := tldOf 2 (updP p s near) 2) (c := 96) 2 (by omega) (by rfl) (by rw [show ((2 : Nat) : Int) = 2 from rfl, h.cost2]; rfl) (feasM_lt (by omega))]
    show pick2 (wayT (pfxA p) (pfxN p) 1 s far 96) (wayT (pfxA p) (pfxN p) 2 s near 96) = _
    rw [wayT_some hf rfl, wayT_some (by omega) rfl]
    show (if near + 96 < far + 96 then some (⟨pfxA p, pfxN p, 2, near + 96, s⟩ : Rt) else some ⟨pfxA p, pfxN p, 1, far + 96, s⟩) = _
    by_cases hnf : near = far
    · subst hnf
      rw [if_neg (by omega), if_pos rfl]
    · rw [if_pos (by omega), if_neg hnf]
  · simp only [markE, lowE, nearI_same]
    by_cases hnf : near = far
    · subst hnf
      rw [if_neg (by simp)]
    · rw [if_pos (by simp; omega)]
theorem sw_way3 (h : OneE 96 96 e p (tOpt (tldOf 1 (updP p s far) 2)) (tOpt (tldOf 2 (updP p s 65535) 2)) (some ⟨pfxA p, pfxN p, s, near + 96⟩) n) (hf : far ≤ 60000) :
    wayE e (pfxA p) (pfxN p) (tOpt (tldOf 1 (updP p s far) 2)) (tOpt (tldOf 2 (updP p s 65535) 2)) = if far < near + 96 then some ⟨pfxA p, pfxN p, 1, far + 96, s⟩ else none := by
  rw [h.way]
  have h2 : (tOpt (tldOf 2 (updP p s 65535) 2)) = none := rfl
  rw [h2, Option.bind_none]
  by_cases hl : far < near + 96
  · rw [if_pos hl, way_t (t := tldOf 1 (updP p s far) 2) (c := 96) 1 (by omega) (by rfl) (by rw [show ((1 : Nat) : Int) = 1 from rfl, h.cost1]; rfl) (feasM_lt hl)]
    show pick2 (wayT (pfxA p) (pfxN p) 1 s far 96) none = _
    rw [wayT_some hf rfl]
    rfl
  · rw [if_neg hl, way_f (feasM_ge hl (by omega))]
    rfl
end
end Go.Proofs.YtngnbafididkcaaGreat
