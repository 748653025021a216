/- A source of some rows: in our own logic. -/
import Derived.Test.YtngnbafididkcaaGreatA2
import Derived.Test.YtngnbafididkcaaGreatN5
import Derived.Test.YtngnbafididkcaaGreatN25
namespace Go.Proofs.YtngnbafididkcaaGreat
open Go.RowKit
set_option linter.unusedSimpArgs false

def isRow (a n : Int) (r : RowRec) : Bool := decide (r.a = a) && decide (r.n = n)
def rowEnt (r : RowRec) : Ent := ⟨r.a, r.n, r.s3, r.m3⟩
structure SoI (lo nx0 : Nat) (H0 : AH) (rs : List RowRec) (s : Value) (q : Nat) (m : Nat) (env : Env) (H : AH) (nx i : Nat) (es : List Ent) (own : Nat) : Prop where
  hm : m = rs.length - i
  hi : i ≤ rs.length
  henv : env = [(3, .pointer (some ⟨q, 0, none⟩)), (7, s), (8, .int .i64 rs.length), (9, .int .i64 i)]
  hx : nx0 ≤ nx
  hk : Kp (fun _ => False) nx0 H0 H
  hq : SouA lo nx H q es own
  q0 : nx0 ≤ q
  ow : own = 0 ∨ nx0 < own
  len : es.length ≤ i
  want : ∀ a n, wantE es a n = ((rs.take i).find? (isRow a n)).map rowEnt
theorem row_new {rs : List RowRec} (h : rs.Pairwise ltW) {i : Nat} {r : RowRec} (hr : rs[i]? = some r) : (rs.take i).find? (isRow r.a r.n) = none := by
  rw [List.find?_eq_none]
  intro x hx hc
  obtain ⟨j, hj, rfl⟩ := List.getElem_of_mem hx
  rw [List.getElem_take] at hc
  rw [List.length_take] at hj
  obtain ⟨hi, rfl⟩ := List.getElem?_eq_some_iff.1 hr
  rw [List.pairwise_iff_getElem] at h
  have := h j i (by omega) hi (by omega)
  unfold isRow at hc
  simp only [Bool.and_eq_true, decide_eq_true_eq] at hc
  unfold ltW ltQ at this
  simp only at this
  omega
set_option maxHeartbeats 4000000 in
set_option maxRecDepth 20000 in
theorem sof_c {lo nx : Nat} {H : AH} {s : Value} {rs : List RowRec} {owns : Nat} {l : List Chg} (hs : SlA nx H 10 s rs.length (rrCells rs) owns) (hsrt : rs.Pairwise ltW) (hok : ∀ r ∈ rs, RowOk l r) (hl : rs.length ≤ 100) :
    ACalls Tryz.prog lo 72 #[s] H nx (fun v H' nx' => ∃ q es own, v = .pointer (some ⟨q, 0, none⟩) ∧ nx ≤ q ∧ SouA lo nx' H' q es own ∧ (own = 0 ∨ nx < own) ∧ es.length ≤ rs.length ∧ (∀ a n, wantE es a n = (rs.find? (isRow a n)).map rowEnt) ∧ nx ≤ nx' ∧ Kp (fun _ => False) nx H H') := by
  refine ACalls.withLo fun hlo => ?_
  refine acalls_of_awp L72 Tryz.func72 rfl (by kernel_rfl) ?_
  obtain ⟨sa, sc, rfl⟩ := hs.form
  simp (disch := omega) only [go_sem, ↓reduceIte ]
  refine snewS_c.mono fun v H1 nx1 _ ⟨q, hv, hqx, hn1, hS, hk1⟩ => ?_
  subst hv; subst hn1
  simp (disch := omega) only [go_sem, ↓reduceIte ]
  refine awp_loop (fun m env H' nx' => ∃ i es own, SoI lo nx H rs (.slice sa rs.length sc) q m env H' nx' i es own) rs.length ⟨0, [], 0, ⟨by omega, by omega, rfl, by omega, hk1, hS, hqx, .inl rfl, by simp, fun a n => rfl⟩⟩ (fun m env H2 nx2 ⟨i, es, own, hI⟩ hn => ?_)
  obtain ⟨hm, hi, henv, hx, hk, hq, q0, how, hel, hw⟩ := hI
  subst henv
  have hqlt := hq.lt
  by_cases hil : i < rs.length
  · obtain ⟨g, off, cap, hv, hgo⟩ := hs.open (by omega)
    simp only [Value.slice.injEq, true_and] at hv
    obtain ⟨rfl, rfl⟩ := hv
    have hs2 := hs.kp hk hx (by simp)
    have hx0 : rs[i]? = some rs[i] := List.getElem?_eq_getElem hil
    have hro := hok rs[i] (List.getElem_mem hil)
    have htk : rs.take (i + 1) = rs.take i ++ [rs[i]] := by rw [List.take_succ_eq_append_getElem hil]
    generalize rs[i] = r at hx0 hro htk
    have hld := rr_load hs2 hx0
    unfold RowRec.cells at hld
    have hcast : ((i : Int) + 1) = ((i + 1 : Nat) : Int) := by omega
    simp (disch := omega) only [go_sem, ↓reduceIte , hld]
    intro b5 hb5
    have k5 : Kp (fun _ => False) nx2 H2 (((((((((((H2.new b5 #[.int .u32 0, .int .u8 0, .bool false, .int .u32 0, .int .u8 0, .int .i64 0, .int .u16 0, .int .u16 0, .int .u16 0, .int .u16 0] 71).put b5 0 (.int .u32 r.a)).put b5 1 (.int .u8 r.n)).put b5 (1 + 1) (.bool r.has)).put b5 (1 + 1 + 1) (.int .u32 r.a2)).put b5 (1 + 1 + 1 + 1) (.int .u8 r.n2)).put b5 (1 + 1 + 1 + 1 + 1) (.int .i64 r.via)).put b5 (1 + 1 + 1 + 1 + 1 + 1) (.int .u16 r.m2)).put b5 (1 + 1 + 1 + 1 + 1 + 1 + 1) (.int .u16 r.s2)).put b5 (1 + 1 + 1 + 1 + 1 + 1 + 1 + 1) (.int .u16 r.s3)).put b5 (1 + 1 + 1 + 1 + 1 + 1 + 1 + 1 + 1) (.int .u16 r.m3)) := (by repeat first | exact Kp.refl _ _ _ | refine Kp.dropT ?_ (.inl (by omega)) | refine Kp.put ?_ (.inl (by omega)) | refine Kp.new ?_ (by omega) | refine Kp.put ?_ (.inr (by omega)) | refine Kp.newO ?_ (by omega) | refine Kp.setO ?_ (.inl (by omega)) | refine Kp.setO ?_ (.inr (by omega)) | refine Kp.trans0 ?_ (by assumption) (by omega) | refine Kp.transS ?_ (by assumption) (by omega) (fun b hb hT => by first | omega | (dsimp only at hT ⊢; omega) | (simp only at hT ⊢; omega))) 
    simp (disch := omega) only [go_sem, ↓reduceIte ]
    have hq5 := hq.kp (S := fun _ => False) (nx' := b5 + 1) k5 (by omega) (by simp) (by simp)
    generalize (((((((((((H2.new b5 #[.int .u32 0, .int .u8 0, .bool false, .int .u32 0, .int .u8 0, .int .i64 0, .int .u16 0, .int .u16 0, .int .u16 0, .int .u16 0] 71).put b5 0 (.int .u32 r.a)).put b5 1 (.int .u8 r.n)).put b5 (1 + 1) (.bool r.has)).put b5 (1 + 1 + 1) (.int .u32 r.a2)).put b5 (1 + 1 + 1 + 1) (.int .u8 r.n2)).put b5 (1 + 1 + 1 + 1 + 1) (.int .i64 r.via)).put b5 (1 + 1 + 1 + 1 + 1 + 1) (.int .u16 r.m2)).put b5 (1 + 1 + 1 + 1 + 1 + 1 + 1) (.int .u16 r.s2)).put b5 (1 + 1 + 1 + 1 + 1 + 1 + 1 + 1) (.int .u16 r.s3)).put b5 (1 + 1 + 1 + 1 + 1 + 1 + 1 + 1 + 1) (.int .u16 r.m3)) = N at k5 hq5 ⊢
    refine (slower_c hq5 (by omega) r.a r.n r.s3 r.m3 hro.px hro.n0 (by have := hro.m; omega)).mono fun v H3 nx3 _ ⟨hv, hx3, hk3, es', own', hlow, hq', how'⟩ => ?_
    subst hv
    have hle := hq5.q.choose_spec.2.le
    have hk03 : Kp (fun _ => False) nx H H3 := ((hk.trans (U := fun _ => False) k5 hx (fun _ _ h => h) (fun _ _ h => h)).trans (U := fun b => nx ≤ b) hk3 (by omega) (fun _ _ h => h.elim) (fun b _ h => by omega)).mono (Nat.le_refl _) (fun b hb h => by omega)
    have hlen' := hlow.len
    have hsE : SortE es := hq.sorted
    simp (disch := omega) only [go_sem, ↓reduceIte , hcast]
    refine ⟨rs.length - (i + 1), by omega, i + 1, es', own', ⟨rfl, by omega, rfl, by omega, hk03, hq', q0, by omega, by omega, fun a n => ?_⟩⟩
    rw [htk, List.find?_append, hlow.want hsE, hw]
    have hnone := row_new hsrt hx0
    by_cases hp : a = r.a ∧ n = r.n
    · obtain ⟨rfl, rfl⟩ := hp
      rw [if_pos ⟨rfl, rfl⟩, hnone]
      have : isRow r.a r.n r = true := by simp [isRow]
      rw [List.find?_cons_of_pos this]
      rfl
    · rw [if_neg hp]
      have : isRow a n r = false := by
        unfold isRow
        simp only [Bool.and_eq_false_iff, decide_eq_false_iff_not]
        by_cases h1 : r.a = a
        · exact .inr fun h2 => hp ⟨h1.symm, h2.symm⟩
        · exact .inl h1
      rw [List.find?_cons_of_neg (by rw [this]; simp), List.find?_nil, Option.or_none]
      exact hw a n
  · have ei : i = rs.length := by omega
    subst ei
    rw [List.take_length] at hw
    simp (disch := omega) only [go_sem, ↓reduceIte ]
    exact ⟨q, es, own, rfl, q0, hq, how, hel, hw, hx, hk⟩
end Go.Proofs.YtngnbafididkcaaGreat
