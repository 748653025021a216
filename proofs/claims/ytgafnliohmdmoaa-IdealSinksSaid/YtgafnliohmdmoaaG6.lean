/- Ideal's laws, in our own logic: of, awake, Clone, Changes, Same. -/
import Derived.Test.YtgafnliohmdmoaaG5
namespace Go.Proofs.Ytgafnliohmdmoaa
open Go.RowKit
set_option linter.unusedSimpArgs false

theorem HistOk.take {cs : List Chg} {t : Int} (h : HistOk cs t) (k : Nat) : HistOk (cs.take k) t := by
  refine ⟨fun c hc => h.ok c (List.mem_of_mem_take hc), fun i c hc => ?_, fun i c d hc hd => ?_, fun c hc => h.tm c (List.mem_of_mem_take hc), fun c hc => h.t0 c (List.mem_of_mem_take hc)⟩
  · rw [List.getElem?_take] at hc
    split at hc
    · exact h.no i c hc
    · cases hc
  · rw [List.getElem?_take] at hc hd
    split at hd
    · rw [if_pos (by omega)] at hc
      exact h.up i c d hc hd
    · cases hd

structure OfLI (lo nx0 : Nat) (H0 : AH) (s : Value) (l : List Chg) (p : Nat) (m : Nat) (env : Env) (H : AH) (nx : Nat) (j own : Nat) : Prop where
  hm : m = l.length - j
  hj : j ≤ l.length
  henv : env = [(0, s), (3, .pointer (some ⟨p, 0, none⟩)), (4, .int .i64 j)]
  hx : nx0 ≤ nx
  hk : Kp (fun _ => False) nx0 H0 H
  hI : IdealA lo nx H p (l.take j) own 0 0
  ho : own = 0 ∨ nx0 < own

set_option maxHeartbeats 1000000 in
set_option maxRecDepth 20000 in
theorem of20_c {lo : Nat} {H : AH} {nx : Nat} {s : Value} {l : List Chg} {owns : Nat} {t : Int} (hs : SlA nx H 8 s l.length (chCells l) owns) (hh : HistOk l t) (hmax : l.length ≤ 1000) :
    ACalls Try.prog lo 6 #[s] H nx (fun v H' nx' => ∃ p own, v = .pointer (some ⟨p, 0, none⟩) ∧ nx ≤ p ∧ IdealA lo nx' H' p l own 0 0 ∧ (own = 0 ∨ nx < own) ∧ nx ≤ nx' ∧ Kp (fun _ => False) nx H H') := by
  refine ACalls.withLo fun hlo => ?_
  refine acalls_of_awp L6 Try.func6 rfl (by kernel_rfl) ?_
  obtain ⟨sa, sc, rfl⟩ := hs.form
  have hle := hs.le
  simp (disch := omega) only [go_sem, ↓reduceIte ]
  refine inew_c.mono fun v H1 nx1 _ ⟨p, hv, hp, hI1, hk1⟩ => ?_
  subst hv
  have hlt := hI1.lt
  simp (disch := omega) only [go_sem, ↓reduceIte ]
  refine awp_loop (fun m env H2 nx2 => ∃ j own, OfLI lo nx H (.slice sa l.length sc) l p m env H2 nx2 j own) l.length ⟨0, 0, ⟨rfl, by omega, rfl, by omega, hk1, hI1, .inl rfl⟩⟩ (fun m env H2 nx2 ⟨j, own, hJ⟩ hn => ?_)
  obtain ⟨hm, hj, henv, hx, hk, hI, ho⟩ := hJ
  subst henv
  by_cases hjl : j < l.length
  · obtain ⟨x, hx0⟩ : ∃ x, l[j]? = some x := ⟨_, List.getElem?_eq_getElem hjl⟩
    obtain ⟨g, off, cap, hv, hg⟩ := hs.open (by omega)
    cases hv
    have hsj : SlA nx2 H2 8 (.slice (some ⟨g, off, none⟩) l.length sc) l.length (chCells l) owns := hs.kp hk hx (by simp)
    have hld := ch_load hsj hx0
    unfold Chg.cells at hld
    simp (disch := omega) only [go_sem, ↓reduceIte , hld]
    have hlen : (l.take j).length = j := by simp; omega
    have hxn := hh.no j x hx0
    refine (iadd_c hI (by omega) (hh.ok x (List.mem_of_getElem? hx0)) (by rw [hxn, hlen]) (hh.t0 x (List.mem_of_getElem? hx0)) (fun d hd => ?_)).mono fun v H3 nx3 _ ⟨hv, hx3, hk3, own3, hI3, ho3⟩ => ?_
    · rw [hlen, List.getElem?_take] at hd
      split at hd
      · rename_i hlt2
        have := hh.up (j - 1) d x hd (by rw [show j - 1 + 1 = j by omega]; exact hx0)
        exact this
      · cases hd
    subst hv
    simp (disch := omega) only [go_sem, ↓reduceIte ]
    refine ⟨l.length - (j + 1), by omega, j + 1, own3, ⟨rfl, by omega, rfl, by omega, (by repeat first | exact Kp.refl _ _ _ | refine Kp.dropT ?_ (.inl (by omega)) | refine Kp.put ?_ (.inl (by omega)) | refine Kp.new ?_ (by omega) | refine Kp.put ?_ (.inr (by omega)) | refine Kp.newO ?_ (by omega) | refine Kp.setO ?_ (.inl (by omega)) | refine Kp.setO ?_ (.inr (by omega)) | refine Kp.trans0 ?_ (by assumption) (by omega) | refine Kp.transS ?_ (by assumption) (by omega) (fun b hb hT => by first | omega | (dsimp only at hT ⊢; omega) | (simp only at hT ⊢; omega))) , ?_, by omega⟩⟩
    rw [List.take_add_one, hx0]
    exact hI3
  · simp (disch := omega) only [go_sem, ↓reduceIte ]
    rw [List.take_of_length_le (by omega)] at hI
    exact ⟨p, own, rfl, hp, hI, ho, hx, hk⟩

def chOne : Chg := ⟨1, 0, false, 167772160, 8, 0, 0, 0⟩
theorem chOne_ok : HistOk [chOne] 0 := by
  refine ⟨fun c hc => ?_, fun i c hc => ?_, fun i c d hc hd => ?_, fun c hc => ?_, fun c hc => ?_⟩
  · simp only [List.mem_singleton] at hc
    subst hc
    exact ⟨by decide, by decide, by decide, by decide, by decide, by decide, by decide, by decide⟩
  · cases i with
    | zero => simp only [List.getElem?_cons_zero, Option.some.injEq] at hc; subst hc; rfl
    | succ i => simp at hc
  · simp at hd
  · simp only [List.mem_singleton] at hc; subst hc; exact Int.le_refl _
  · simp only [List.mem_singleton] at hc; subst hc; exact Int.le_refl _

set_option maxHeartbeats 1000000 in
set_option maxRecDepth 20000 in
theorem awake20_c {lo : Nat} {H : AH} {nx : Nat} : ACalls Try.prog lo 4 #[] H nx (fun v H' nx' => v = .bool true ∧ nx ≤ nx' ∧ Kp (fun _ => False) nx H H') := by
  refine ACalls.withLo fun hlo => ?_
  refine acalls_of_awp L4 Try.func4 rfl (by kernel_rfl) ?_
  simp (disch := omega) only [go_sem, ↓reduceIte ]
  refine buildSQ_all (n := 1) [.agg #[.int .u64 1, .int .u64 0, .bool false, .int .u32 167772160, .int .u8 8, .int .i64 0, .int .u16 0, .int .u16 0]] sl25 zero47 (by omega) (by omega) rfl (by simp [cells_agg]) fun d hd => ?_
  have hlit : SlA (d + 1) _ 8 (.slice (some ⟨d, 0, none⟩) 1 1) 1 (chCells [chOne]) (d + 1) := SlA.ofNew (H := H) (e := 47) (cs := ([Value.agg #[.int .u64 1, .int .u64 0, .bool false, .int .u32 167772160, .int .u8 8, .int .i64 0, .int .u16 0, .int .u16 0]].flatMap fun v => v.cells.toList).toArray) rfl (by omega) (by simp [maxLen]) (by simp [cells_agg]) (fun j _ => by simp [cells_agg, chCells, Chg.cells, chOne])
  simp (disch := omega) only [go_sem, ↓reduceIte ]
  refine (of20_c hlit chOne_ok (by simp)).mono fun v H1 nx1 _ ⟨p, own, hv, hp, hI, ho, hx, hk⟩ => ?_
  subst hv
  simp (disch := omega) only [go_sem, ↓reduceIte ]
  refine (isync_c hI).mono fun v H2 nx2 _ ⟨hv, hI2, hx2, hk2⟩ => ?_
  subst hv
  simp (disch := omega) only [go_sem, ↓reduceIte ]
  refine (ifell_c hI2 (by omega) 0 0).mono fun v H3 nx3 _ ⟨hx3, hk3, hR⟩ => ?_
  rcases hR with ⟨h1, _⟩ | ⟨_, hv, hI3⟩
  · simp at h1
  subst hv
  simp (disch := omega) only [go_sem, ↓reduceIte ]
  refine (ilen_c hI3).mono fun v H4 nx4 _ ⟨hv, hH4, hx4⟩ => ?_
  subst hv; subst hH4; subst hx4
  simp (disch := omega) only [go_sem, ↓reduceIte , List.length_singleton]
  refine (isafe_c hI3).mono fun v H4 nx4 _ ⟨hv, hH4, hx4⟩ => ?_
  subst hv; subst hH4; subst hx4
  simp (disch := omega) only [go_sem, ↓reduceIte , List.length_singleton]
  exact ⟨by omega, (by repeat first | exact Kp.refl _ _ _ | refine Kp.dropT ?_ (.inl (by omega)) | refine Kp.put ?_ (.inl (by omega)) | refine Kp.new ?_ (by omega) | refine Kp.put ?_ (.inr (by omega)) | refine Kp.newO ?_ (by omega) | refine Kp.setO ?_ (.inl (by omega)) | refine Kp.setO ?_ (.inr (by omega)) | refine Kp.trans0 ?_ (by assumption) (by omega) | refine Kp.transS ?_ (by assumption) (by omega) (fun b hb hT => by first | omega | (dsimp only at hT ⊢; omega) | (simp only at hT ⊢; omega))) ⟩

/-! ### Clone, Changes, Same -/
set_option maxRecDepth 20000 in
theorem cloneCh_nil {lo : Nat} {H : AH} {nx : Nat} : ACalls Try.prog lo 21 #[.slice none 0 0] H nx (fun v H' nx' => v = .slice none 0 0 ∧ H' = H ∧ nx' = nx) := by
  refine acalls_of_awp L21 Try.func21 rfl (by kernel_rfl) ?_
  simp (disch := omega) only [go_sem, ↓reduceIte ]

set_option maxRecDepth 20000 in
theorem cloneCh_c {lo : Nat} {H : AH} {nx : Nat} {s : Value} {cs : List Chg} {own : Nat} (hs : SlA nx H 8 s cs.length (chCells cs) own) (hl : cs.length ≤ 1000000) : ACalls Try.prog lo 21 #[s] H nx
    (fun v H' nx' => nx ≤ nx' ∧ Kp (fun _ => False) nx H H' ∧ ∃ own', SlA nx' H' 8 v cs.length (chCells cs) own' ∧ (own' = 0 ∨ nx < own')) := by
  refine ACalls.withLo fun hlo => ?_
  obtain ⟨a, c, rfl⟩ := hs.form
  cases a with
  | none =>
    rcases hs.2.2 with ⟨h1, h2, h3⟩ | ⟨g, off, cap, h1, _⟩
    · simp only [Value.slice.injEq] at h1
      obtain ⟨_, _, rfl⟩ := h1
      rw [h2]
      refine cloneCh_nil.mono fun v H' nx' _ ⟨hv, hH, hn⟩ => ?_
      subst hv; subst hH; subst hn
      have : cs = [] := List.eq_nil_of_length_eq_zero h2
      subst this
      exact ⟨Nat.le_refl _, Kp.refl _ _ _, 0, SlA.nil _ _ _, .inl rfl⟩
    · simp at h1
  | some a =>
    refine acalls_of_awp L21 Try.func21 rfl (by kernel_rfl) ?_
    simp (disch := omega) only [go_sem, ↓reduceIte ]
    refine buildSQ_nil sl25 fun m hm => ?_
    simp (disch := omega) only [go_sem, ↓reduceIte ]
    have h0 : SlA (m + 1) (H.new m #[] 47) 8 (.slice (some ⟨m, 0, none⟩) 0 0) 0 [] (m + 1) := SlA.ofNew (by simp) (by omega) (by simp [maxLen]) (by simp) (by simp)
    refine aw_append sl25 zero47 rfl by47 h0 ((hs.new hm).src sl25 chCells_one) (by simp only [maxLen]; omega) (by omega) (.inr (by omega)) fun v' H' nx' own' hn hs' ho hk hnil => ?_
    simp (disch := omega) only [go_sem, ↓reduceIte ]
    refine ⟨by omega, Kp.trans (U := fun _ => False) ((Kp.refl (fun _ => False) nx H).new hm) hk (by omega) (fun b _ h => h) (fun b hb h => by omega), own', by simpa using hs', ?_⟩
    omega

set_option maxRecDepth 20000 in
theorem ichanges_c {lo : Nat} {p : Nat} {cs : List Chg} {own : Nat} {safe : Int} {cut : Nat} {H : AH} {nx : Nat} (hI : IdealA lo nx H p cs own safe cut) (hc : cut ≤ cs.length) (hl : cs.length ≤ 1000) :
    ACalls Try.prog lo 13 #[.pointer (some ⟨p, 0, none⟩)] H nx (fun v H' nx' => nx ≤ nx' ∧ Kp (fun _ => False) nx H H' ∧ ∃ own', SlA nx' H' 8 v (cs.drop cut).length (chCells (cs.drop cut)) own') := by
  refine ACalls.withLo fun hlo => ?_
  refine acalls_of_awp L13 Try.func13 rfl (by kernel_rfl) ?_
  obtain ⟨ge, lt, ⟨v, hq, hs⟩, s, c, ow, ne, no⟩ := hI
  obtain ⟨a, cc, rfl⟩ := hs.form
  simp (disch := omega) only [go_sem, ↓reduceIte ]
  refine awp_draw ord13x3 (by kernel_rfl) ?_
  simp (disch := omega) only [go_sem, ↓reduceIte , ord13x3, hq, c]
  rw [slice_l sl25 (by omega) (by omega)]
  have hcc : cs.length ≤ cc := by
    rcases hs.2.2 with ⟨_, h2, _⟩ | ⟨g, off, cap, h2, _, h5, _⟩
    · omega
    · simp only [Value.slice.injEq] at h2; omega
  have hcut := hs.cut (l := cut) (h := cs.length) (m := cc) (by omega) (by omega) (by omega) (by omega)
  rw [chCells_drop, List.take_of_length_le (by rw [chCells_length, List.length_drop]; omega)] at hcut
  rw [Int.toNat_natCast]
  generalize hcv : cutS a 8 cc cut cs.length = cv at hcut ⊢
  rw [show cs.length - cut = (cs.drop cut).length by simp] at hcut
  obtain ⟨a2, c2, rfl⟩ := hcut.form
  simp (disch := omega) only [go_sem, ↓reduceIte ]
  refine (cloneCh_c hcut (by simp; omega)).mono fun v H' nx' _ ⟨hx, hk, own', hs', _⟩ => ?_
  have hone := hs'.one
  simp (disch := omega) only [go_sem, ↓reduceIte ]
  exact ⟨dkeep_kp hk, hx, hk, own', hs'⟩
end Go.Proofs.Ytgafnliohmdmoaa
