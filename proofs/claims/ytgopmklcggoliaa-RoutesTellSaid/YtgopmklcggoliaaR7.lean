/- Routes, in our own logic: Tick. -/
import Derived.Test.YtgopmklcggoliaaR6
namespace Go.Proofs.Ytgopmklcggoliaa
open Go.RowKit
set_option linter.unusedSimpArgs false

theorem tickC_c {lo : Nat} {H : AH} {nx tb : Nat} {now : Int} (hb : tb < nx) (c2 : H.c tb 0 = some (.int .u64 now)) (t : Tld) :
    ACalls Try.prog lo 46 #[.agg #[.int .u32 t.addr, .int .u8 t.len, .int .i64 t.who, .int .i64 t.node, .int .u16 t.seq, .int .u16 t.metric, .int .u64 t.til], .pointer (some ⟨tb, 0, none⟩)] H nx (fun v H' nx' => v = .bool (decide (t.til ≤ now)) ∧ nx ≤ nx' ∧ Kp (fun _ => False) nx H H') := by
  refine ACalls.withLo fun hlo => ?_
  refine acalls_of_awp L46 Try.func46 rfl (by kernel_rfl) ?_
  simp (disch := omega) only [go_sem, ↓reduceIte ]
  intro d hd
  simp (disch := omega) only [go_sem, ↓reduceIte , c2]
  exact ⟨by omega, (by repeat first | exact Kp.refl _ _ _ | refine Kp.dropT ?_ (.inl (by omega)) | refine Kp.put ?_ (.inl (by omega)) | refine Kp.new ?_ (by omega) | refine Kp.put ?_ (.inr (by omega)) | refine Kp.trans0 ?_ (by assumption) (by omega) | refine Kp.transS ?_ (by assumption) (by omega) (fun b hb hT => by first | omega | (dsimp only at hT ⊢; omega) | (simp only at hT ⊢; omega))) ⟩

def liveT (now : Int) (ts : List Tld) : List Tld := ts.filter fun t => !decide (t.til ≤ now)
theorem rtick_c {lo : Nat} {p : Nat} {ts : List Tld} {own : Nat} {H : AH} {nx : Nat} (hR : RouA lo nx H p ts own) (hl : ts.length ≤ 1000000) (now : Int) :
    ACalls Try.prog lo 30 #[.pointer (some ⟨p, 0, none⟩), .int .u64 now] H nx (fun v H' nx' => v = .tuple #[] ∧ nx ≤ nx' ∧ Kp (fun b => b = p ∨ b + 1 = own) nx H H' ∧ RouA lo nx' H' p (liveT now ts) own) := by
  refine ACalls.withLo fun hlo => ?_
  refine acalls_of_awp L30 Try.func30 rfl (by kernel_rfl) ?_
  have hlt := hR.lt
  have hge := hR.ge
  have hne := hR.ne
  obtain ⟨v, hq, hs⟩ := hR.q
  have hle := hs.le
  have hone := hs.one
  obtain ⟨sa, sc, rfl⟩ := hs.form
  simp (disch := omega) only [go_sem, ↓reduceIte ]
  intro tb htb
  simp (disch := omega) only [go_sem, ↓reduceIte , hq]
  have hk1 : Kp (fun _ => False) nx H (H.new tb #[.int .u64 now] 27) := (by repeat first | exact Kp.refl _ _ _ | refine Kp.dropT ?_ (.inl (by omega)) | refine Kp.put ?_ (.inl (by omega)) | refine Kp.new ?_ (by omega) | refine Kp.put ?_ (.inr (by omega)) | refine Kp.trans0 ?_ (by assumption) (by omega) | refine Kp.transS ?_ (by assumption) (by omega) (fun b hb hT => by first | omega | (dsimp only at hT ⊢; omega) | (simp only at hT ⊢; omega))) 
  refine (delF_c (fv := 46) (cap := [.pointer (some ⟨tb, 0, none⟩)]) (pred := fun t => decide (t.til ≤ now)) (hs.kp hk1 (nx' := tb + 1) (by omega) (by simp)) hR.ow (by kernel_rfl) hl (fun t _ H1 nx1 hn hk2 => ?_)).mono fun v H2 nx2 _ ⟨hx2, hk2, hs2⟩ => ?_
  · have hc := hk2.cell
    exact tickC_c (by omega) (by simp (disch := omega) only [go_sem, ↓reduceIte , hc]) t
  · have hone2 := hs2.one
    have hc := hk2.cell
    simp (disch := omega) only [go_sem, ↓reduceIte , hone2, hc, hq]
    refine ⟨by omega, (by repeat first | exact Kp.refl _ _ _ | refine Kp.dropT ?_ (.inl (by omega)) | refine Kp.put ?_ (.inl (by omega)) | refine Kp.new ?_ (by omega) | refine Kp.put ?_ (.inr (by omega)) | refine Kp.trans0 ?_ (by assumption) (by omega) | refine Kp.transS ?_ (by assumption) (by omega) (fun b hb hT => by first | omega | (dsimp only at hT ⊢; omega) | (simp only at hT ⊢; omega))) , ⟨by omega, by omega, ⟨v, by simp (disch := omega) only [go_sem, ↓reduceIte ], ?_⟩, hR.ow, hR.ne⟩⟩
    exact hs2.put (by omega)
end Go.Proofs.Ytgopmklcggoliaa
