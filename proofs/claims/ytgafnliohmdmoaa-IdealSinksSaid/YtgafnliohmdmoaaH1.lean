/- Ideal, in our own logic: Horizon. -/
import Derived.Test.YtgafnliohmdmoaaG6
namespace Go.Proofs.Ytgafnliohmdmoaa
open Go.RowKit
set_option linter.unusedSimpArgs false

def horF (cs : List Chg) (n : Nat) : Int := if n = 0 then 0 else ((cs[n - 1]?).map Chg.time).getD 0
theorem HistOk.mono {cs : List Chg} {t : Int} (h : HistOk cs t) {i : Nat} {c : Chg} (hc : cs[i]? = some c) : ∀ (k : Nat) {d : Chg}, cs[i + k]? = some d → c.time ≤ d.time
  | 0, d, hd => by
    rw [Nat.add_zero, hc] at hd
    simp only [Option.some.injEq] at hd
    subst hd
    exact Int.le_refl _
  | k + 1, d, hd => by
    have hlt : i + k < cs.length := by
      have := (List.getElem?_eq_some_iff.1 hd).1
      omega
    have h1 := h.mono hc k (List.getElem?_eq_getElem hlt)
    have h2 := h.up (i + k) _ d (List.getElem?_eq_getElem hlt) hd
    omega
theorem horF_mono {cs : List Chg} {t : Int} (h : HistOk cs t) {m n : Nat} (hmn : m ≤ n) (hn : n ≤ cs.length) : horF cs m ≤ horF cs n := by
  unfold horF
  by_cases hm : m = 0
  · rw [if_pos hm]
    by_cases h0 : n = 0
    · rw [if_pos h0]; exact Int.le_refl _
    · rw [if_neg h0, List.getElem?_eq_getElem (by omega)]
      exact h.t0 _ (List.getElem_mem (by omega))
  · rw [if_neg hm, if_neg (by omega), List.getElem?_eq_getElem (show m - 1 < cs.length by omega), List.getElem?_eq_getElem (show n - 1 < cs.length by omega)]
    simp only [Option.map_some, Option.getD_some]
    exact h.mono (List.getElem?_eq_getElem (by omega)) (n - m) (by rw [show m - 1 + (n - m) = n - 1 by omega]; exact List.getElem?_eq_getElem (by omega))
theorem horF_nonneg {cs : List Chg} {t : Int} (h : HistOk cs t) {n : Nat} (hn : n ≤ cs.length) : 0 ≤ horF cs n := horF_mono h (Nat.zero_le n) hn

set_option maxRecDepth 20000 in
theorem ilastn_c {lo : Nat} {p : Nat} {cs : List Chg} {own : Nat} {safe cut : Int} {H : AH} {nx : Nat} (hI : IdealA lo nx H p cs own safe cut) {n : Nat} (hn : n ≤ cs.length) :
    ACalls Try.prog lo 20 #[.pointer (some ⟨p, 0, none⟩), .int .i64 n] H nx (fun v H' nx' => ∃ d : Chg, v = .agg #[.int .u64 d.no, .int .u64 d.time, .bool d.gone, .int .u32 d.addr, .int .u8 d.len, .int .i64 d.via, .int .u16 d.metric, .int .u16 d.seq] ∧ d.time = horF cs n ∧ nx ≤ nx' ∧ Kp (fun _ => False) nx H H') := by
  refine ACalls.withLo fun hlo => ?_
  refine acalls_of_awp L20 Try.func20 rfl (by kernel_rfl) ?_
  obtain ⟨ge, lt, ⟨v, hq, hs⟩, s, c, ow, ne, no⟩ := hI
  obtain ⟨a, cc, rfl⟩ := hs.form
  have hle := hs.le
  have hmx := hs.maxLen
  simp only [maxLen] at hmx
  simp (disch := omega) only [go_sem, ↓reduceIte ]
  intro b hb
  by_cases h : n = 0
  · simp (disch := omega) only [go_sem, ↓reduceIte , h]
    exact ⟨⟨0, 0, false, 0, 0, 0, 0, 0⟩, rfl, by simp [horF], by omega, (by repeat first | exact Kp.refl _ _ _ | refine Kp.dropT ?_ (.inl (by omega)) | refine Kp.put ?_ (.inl (by omega)) | refine Kp.new ?_ (by omega) | refine Kp.put ?_ (.inr (by omega)) | refine Kp.newO ?_ (by omega) | refine Kp.setO ?_ (.inl (by omega)) | refine Kp.setO ?_ (.inr (by omega)) | refine Kp.trans0 ?_ (by assumption) (by omega) | refine Kp.transS ?_ (by assumption) (by omega) (fun b hb hT => by first | omega | (dsimp only at hT ⊢; omega) | (simp only at hT ⊢; omega))) ⟩
  · obtain ⟨g, off, cap, hv, hg⟩ := hs.open (by omega)
    cases hv
    have hsn : SlA (b + 1) (H.new b #[.int .u64 0, .int .u64 0, .bool false, .int .u32 0, .int .u8 0, .int .i64 0, .int .u16 0, .int .u16 0] 47) 8 (.slice (some ⟨g, off, none⟩) cs.length cc) cs.length (chCells cs) own := hs.new hb
    obtain ⟨d, hx0⟩ : ∃ d, cs[n - 1]? = some d := ⟨_, List.getElem?_eq_getElem (by omega)⟩
    have hld := ch_load hsn hx0
    unfold Chg.cells at hld
    rw [show n - 1 = ((n : Int) - 1).toNat by omega] at hld
    simp (disch := omega) only [go_sem, ↓reduceIte , hq, hld]
    exact ⟨d, rfl, by simp [horF, h, hx0], by omega, (by repeat first | exact Kp.refl _ _ _ | refine Kp.dropT ?_ (.inl (by omega)) | refine Kp.put ?_ (.inl (by omega)) | refine Kp.new ?_ (by omega) | refine Kp.put ?_ (.inr (by omega)) | refine Kp.newO ?_ (by omega) | refine Kp.setO ?_ (.inl (by omega)) | refine Kp.setO ?_ (.inr (by omega)) | refine Kp.trans0 ?_ (by assumption) (by omega) | refine Kp.transS ?_ (by assumption) (by omega) (fun b hb hT => by first | omega | (dsimp only at hT ⊢; omega) | (simp only at hT ⊢; omega))) ⟩
set_option maxRecDepth 20000 in
theorem ihor_c {lo : Nat} {p : Nat} {cs : List Chg} {own cut : Nat} {safe : Int} {H : AH} {nx : Nat} (hI : IdealA lo nx H p cs own safe cut) (hn : cut ≤ cs.length) :
    ACalls Try.prog lo 11 #[.pointer (some ⟨p, 0, none⟩)] H nx (fun v H' nx' => v = .int .u64 (horF cs cut) ∧ nx ≤ nx' ∧ Kp (fun _ => False) nx H H') := by
  refine acalls_of_awp L11 Try.func11 rfl (by kernel_rfl) ?_
  have c := hI.c
  simp (disch := omega) only [go_sem, ↓reduceIte , c]
  refine (ilastn_c hI hn).mono fun v H1 nx1 _ ⟨d, hv, hd, hx1, hk1⟩ => ?_
  subst hv
  simp (disch := omega) only [go_sem, ↓reduceIte ]
  exact ⟨by rw [hd], hx1, hk1⟩
end Go.Proofs.Ytgafnliohmdmoaa
