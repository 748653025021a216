/- Changes as they lie; the document's Newer, Nearer: in our own logic. -/
import Derived.Test.YtngnbafididkcaaGreatG1
namespace Go.Proofs.YtngnbafididkcaaGreat
open Go.RowKit
set_option linter.unusedSimpArgs false

/-- A change as it lies. -/
structure Chg where
  no : Int
  time : Int
  gone : Bool
  addr : Int
  len : Int
  via : Int
  metric : Int
  seq : Int
def Chg.cells (c : Chg) : List Value := [.int .u64 c.no, .int .u64 c.time, .bool c.gone, .int .u32 c.addr, .int .u8 c.len, .int .i64 c.via, .int .u16 c.metric, .int .u16 c.seq]
def chCells (l : List Chg) : List Value := l.flatMap Chg.cells

structure ChOk (c : Chg) : Prop where
  px : pxRightC c.addr c.len = true
  l0 : 0 ≤ c.len
  m0 : 0 ≤ c.metric
  m1 : c.metric ≤ 65535
  s0 : 0 ≤ c.seq
  s1 : c.seq ≤ 65535
  gn : c.gone = true → c.via = 0 ∧ c.metric = 0 ∧ c.seq = 0
  lv : c.gone = false → 0 ≤ c.via ∧ c.via < 16 ∧ c.metric < 65535

theorem newer_c {lo : Nat} (a b : Int) (h0 : 0 ≤ a) (h1 : a ≤ 65535) (h2 : 0 ≤ b) (h3 : b ≤ 65535) (H : AH) (nx : Nat) : ACalls Tryz.prog lo 29 #[.int .u16 a, .int .u16 b] H nx (fun v H' nx' => (∃ b, v = .bool b) ∧ H' = H ∧ nx' = nx) := by
  refine acalls_of_awp L29 Tryz.func29 rfl (by kernel_rfl) ?_
  simp (disch := omega) only [go_sem, ↓reduceIte ]
  refine guardQ_split (fun h => ?_) (fun h => ?_)
  · simp (disch := omega) only [go_sem, ↓reduceIte , h]
    exact ⟨_, rfl⟩
  · simp (disch := omega) only [go_sem, ↓reduceIte , h]
    exact ⟨_, rfl⟩

theorem nearer_c {lo : Nat} (s m s' m' : Int) (h0 : 0 ≤ s) (h1 : s ≤ 65535) (h2 : 0 ≤ s') (h3 : s' ≤ 65535) (H : AH) (nx : Nat) : ACalls Tryz.prog lo 24 #[.agg #[.int .u16 s, .int .u16 m], .agg #[.int .u16 s', .int .u16 m']] H nx (fun v H' nx' => (∃ b, v = .bool b) ∧ nx ≤ nx' ∧ Kp (fun _ => False) nx H H') := by
  refine ACalls.withLo fun hlo => ?_
  refine acalls_of_awp L24 Tryz.func24 rfl (by kernel_rfl) ?_
  simp (disch := omega) only [go_sem, ↓reduceIte ]
  intro p hp
  simp (disch := omega) only [go_sem, ↓reduceIte ]
  intro q hq
  by_cases h : s = s'
  · simp (disch := omega) only [go_sem, ↓reduceIte , h]
    exact ⟨⟨_, rfl⟩, by omega, (by repeat first | exact Kp.refl _ _ _ | refine Kp.dropT ?_ (.inl (by omega)) | refine Kp.put ?_ (.inl (by omega)) | refine Kp.new ?_ (by omega) | refine Kp.put ?_ (.inr (by omega)) | refine Kp.newO ?_ (by omega) | refine Kp.setO ?_ (.inl (by omega)) | refine Kp.setO ?_ (.inr (by omega)) | refine Kp.trans0 ?_ (by assumption) (by omega) | refine Kp.transS ?_ (by assumption) (by omega) (fun b hb hT => by first | omega | (dsimp only at hT ⊢; omega) | (simp only at hT ⊢; omega))) ⟩
  · simp (disch := omega) only [go_sem, ↓reduceIte , h]
    refine (newer_c s s' h0 h1 h2 h3 _ _).mono fun v H' nx' _ ⟨⟨b, hv⟩, hH, hx⟩ => ?_
    subst hv; subst hH; subst hx
    simp (disch := omega) only [go_sem, ↓reduceIte ]
    exact ⟨⟨_, rfl⟩, by omega, (by repeat first | exact Kp.refl _ _ _ | refine Kp.dropT ?_ (.inl (by omega)) | refine Kp.put ?_ (.inl (by omega)) | refine Kp.new ?_ (by omega) | refine Kp.put ?_ (.inr (by omega)) | refine Kp.newO ?_ (by omega) | refine Kp.setO ?_ (.inl (by omega)) | refine Kp.setO ?_ (.inr (by omega)) | refine Kp.trans0 ?_ (by assumption) (by omega) | refine Kp.transS ?_ (by assumption) (by omega) (fun b hb hT => by first | omega | (dsimp only at hT ⊢; omega) | (simp only at hT ⊢; omega))) ⟩
end Go.Proofs.YtngnbafididkcaaGreat
