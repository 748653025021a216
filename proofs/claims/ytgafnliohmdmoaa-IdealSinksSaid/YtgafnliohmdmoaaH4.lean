/- Ideal, in our own logic: At. -/
import Derived.Test.YtgafnliohmdmoaaH3
namespace Go.Proofs.Ytgafnliohmdmoaa
open Go.RowKit Go.Sort
set_option linter.unusedSimpArgs false

def rtC (r : RwR) : List Value := [.int .u32 r.ra, .int .u8 r.rn, .int .i64 r.via, .int .u16 r.met, .int .u16 r.seq]
theorem rtC_len (r : RwR) : (rtC r).length = 5 := rfl
theorem rtC_one {l : List RwR} : ∀ v ∈ l.flatMap rtC, v.oneCell' = true := by
  intro v hv
  simp only [List.mem_flatMap] at hv
  obtain ⟨c, _, hv⟩ := hv
  simp only [rtC, List.mem_cons, List.not_mem_nil, or_false] at hv
  rcases hv with rfl | rfl | rfl | rfl | rfl <;> rfl
structure AtI (nx0 : Nat) (H0 : AH) (rv : Value) (n : Nat) (m : Nat) (env : Env) (H : AH) (nx i : Nat) (l : List RwR) (v : Value) (own : Nat) : Prop where
  hm : m = n - i
  hi : i ≤ n
  henv : env = [(7, v), (41, rv), (42, .int .i64 n), (43, .int .i64 i)]
  hx : nx0 ≤ nx
  hk : Kp (fun _ => False) nx0 H0 H
  sl : SlA nx H 5 v l.length (l.flatMap rtC) own
  ow : own = 0 ∨ nx0 < own
  ll : l.length ≤ i

set_option maxHeartbeats 4000000 in
set_option maxRecDepth 20000 in
theorem iat_c {lo : Nat} {p : Nat} {cs : List Chg} {own cut : Nat} {safe time : Int} {H : AH} {nx : Nat} (hI : IdealA lo nx H p cs own safe cut) (hl : cs.length ≤ 1000) (hn : cut ≤ cs.length) (ht : horF cs cut ≤ time) :
    ACalls Try.prog lo 15 #[.pointer (some ⟨p, 0, none⟩), .int .u64 time] H nx (fun v H' nx' => (∃ u, v = .tuple #[u, .int .i64 0] ∧ u.oneCell' = true) ∧ nx ≤ nx' ∧ Kp (fun _ => False) nx H H') := by
  refine ACalls.withLo fun hlo => ?_
  refine acalls_of_awp L15 Try.func15 rfl (by kernel_rfl) ?_
  obtain ⟨vq, hq, hs⟩ := hI.q
  obtain ⟨a, cc, rfl⟩ := hs.form
  have hlt := hI.lt
  simp (disch := omega) only [go_sem, ↓reduceIte ]
  refine (ihor_c hI hn).mono fun v H1 nx1 _ ⟨hv, hx1, hk1⟩ => ?_
  subst hv
  have hd : decide (time < horF cs cut) = false := by simp; omega
  have hc1 := hk1.cell0
  simp (disch := omega) only [go_sem, ↓reduceIte , hd]
  refine awp_loopX (fun m env H2 nx2 => ∃ n : Nat, (m = cs.length - n ∧ n ≤ cs.length) ∧ env = [(0, .pointer (some ⟨p, 0, none⟩)), (1, .int .u64 time), (6, .int .i64 n)] ∧ H2 = H1 ∧ nx2 = nx1) cs.length ⟨0, ⟨by omega, by omega⟩, rfl, rfl, rfl⟩ (fun env H2 nx2 => ∃ n : Nat, n ≤ cs.length ∧ env = [(0, .pointer (some ⟨p, 0, none⟩)), (1, .int .u64 time), (6, .int .i64 n), (36, .bool false)] ∧ H2 = H1 ∧ nx2 = nx1) (fun K hK m env H2 nx2 ⟨n, ⟨hm, hi⟩, henv, hH, hx⟩ hn2 => ?_) (fun env H2 nx2 ⟨n, hi, henv, hH, hx⟩ => ?_)
  · subst henv; subst hH; subst hx
    by_cases hlt2 : n < cs.length
    · obtain ⟨g, off, cap, hv, hgo⟩ := hs.open (by omega)
      have hgle := hs.le
      simp only [Value.slice.injEq, true_and] at hv
      obtain ⟨rfl, rfl⟩ := hv
      have ci : H.c g (off + n * 8 + 1) = some (.int .u64 cs[n].time) := by
        have := hs.cells.1 (8 * n + 1) (.int .u64 cs[n].time) (by rw [chCells_get cs n cs[n] (List.getElem?_eq_getElem hlt2) 1 (by omega)]; rfl)
        rwa [show off + (8 * n + 1) = off + n * 8 + 1 by omega] at this
      by_cases hle : cs[n].time ≤ time
      · simp (disch := omega) only [go_sem, ↓reduceIte , hc1, hq, ci, hle, decide_true]
        exact ⟨cs.length - (n + 1), by omega, n + 1, ⟨rfl, by omega⟩, by simp⟩
      · simp (disch := omega) only [go_sem, ↓reduceIte , hc1, hq, ci, hle, decide_false]
        exact hK _ _ _ ⟨n, by omega, rfl, rfl, rfl⟩
    · have en : n = cs.length := by omega
      subst en
      simp (disch := omega) only [go_sem, ↓reduceIte , hc1, hq]
      exact hK _ _ _ ⟨_, Nat.le_refl _, rfl, rfl, rfl⟩
  · subst henv; subst hH; subst hx
    simp (disch := omega) only [go_sem, ↓reduceIte ]
    refine (irows_c (hI.kp hk1 hx1 (by simp) (by simp)) hl hi).mono fun v H3 nx3 _ ⟨hx3, hk3, own3, rs, hs3, ho3, hl3⟩ => ?_
    obtain ⟨ra, rc, rfl⟩ := hs3.form
    simp (disch := omega) only [go_sem, ↓reduceIte ]
    refine awp_loopX (fun m env H4 nx4 => ∃ i l v own, AtI nx3 H3 (.slice ra rs.length rc) rs.length m env H4 nx4 i l v own) rs.length ⟨0, [], .slice none 0 0, 0, ⟨rfl, by omega, rfl, Nat.le_refl _, Kp.refl _ _ _, SlA.nil _ _ _, .inl rfl, by simp⟩⟩ (fun env H4 nx4 => ∃ e l v own, AtI nx3 H3 (.slice ra rs.length rc) rs.length 0 e H4 nx4 rs.length l v own ∧ env = e ++ [(44, .bool false)]) (fun K hK m env H4 nx4 ⟨i, l, v, own4, hI4⟩ hn4 => ?_) (fun env H4 nx4 ⟨e, l, v, own4, hI4, he⟩ => ?_)
    · obtain ⟨hm, hi2, henv, hx4, hk4, sl, ow, ll⟩ := hI4
      subst henv
      have hone := sl.one
      have hle4 := sl.le
      by_cases hlt2 : i < rs.length
      · obtain ⟨g, off, cap, hv, hgo⟩ := hs3.open (by omega)
        have hgle := hs3.le
        simp only [Value.slice.injEq, true_and] at hv
        obtain ⟨rfl, rfl⟩ := hv
        have hs4 := hs3.kp hk4 hx4 (by simp)
        have hld : loadN H4 g (off + i * 10) 10 = some rs[i].cells := flat_load rw_len hs4 (List.getElem?_eq_getElem hlt2)
        generalize rs[i] = r at hld
        unfold RwR.cells at hld
        simp (disch := omega) only [go_sem, ↓reduceIte , hone, hld]
        intro d hd
        simp (disch := omega) only [go_sem, ↓reduceIte , hone]
        cases hh : r.has with
        | false =>
          simp (disch := omega) only [go_sem, ↓reduceIte , hone]
          refine ⟨rs.length - (i + 1), by omega, i + 1, l, v, own4, ⟨rfl, by omega, by simp, by omega, (by repeat first | exact Kp.refl _ _ _ | refine Kp.dropT ?_ (.inl (by omega)) | refine Kp.put ?_ (.inl (by omega)) | refine Kp.new ?_ (by omega) | refine Kp.put ?_ (.inr (by omega)) | refine Kp.newO ?_ (by omega) | refine Kp.setO ?_ (.inl (by omega)) | refine Kp.setO ?_ (.inr (by omega)) | refine Kp.trans0 ?_ (by assumption) (by omega) | refine Kp.transS ?_ (by assumption) (by omega) (fun b hb hT => by first | omega | (dsimp only at hT ⊢; omega) | (simp only at hT ⊢; omega))) , by exact (by repeat first | assumption | refine SlA.dropT ?_ | refine SlA.put ?_ (by omega) | refine SlA.new ?_ (by omega) | refine SlA.newO ?_ (by omega) | refine SlA.setO ?_) , ow, by omega⟩⟩
        | true =>
          simp (disch := omega) only [go_sem, ↓reduceIte , hone]
          have hkd : Kp (fun _ => False) nx4 H4 (((((((((((H4.new d #[.int .u32 0, .int .u8 0, .bool false, .int .u32 0, .int .u8 0, .int .i64 0, .int .u16 0, .int .u16 0, .int .u16 0, .int .u16 0] 54).put d 0 (.int .u32 r.a)).put d 1 (.int .u8 r.n)).put d (1 + 1) (.bool true)).put d (1 + 1 + 1) (.int .u32 r.ra)).put d (1 + 1 + 1 + 1) (.int .u8 r.rn)).put d (1 + 1 + 1 + 1 + 1) (.int .i64 r.via)).put d (1 + 1 + 1 + 1 + 1 + 1) (.int .u16 r.met)).put d (1 + 1 + 1 + 1 + 1 + 1 + 1) (.int .u16 r.seq)).put d (1 + 1 + 1 + 1 + 1 + 1 + 1 + 1) (.int .u16 r.ms)).put d (1 + 1 + 1 + 1 + 1 + 1 + 1 + 1 + 1) (.int .u16 r.mm)) := (by repeat first | exact Kp.refl _ _ _ | refine Kp.dropT ?_ (.inl (by omega)) | refine Kp.put ?_ (.inl (by omega)) | refine Kp.new ?_ (by omega) | refine Kp.put ?_ (.inr (by omega)) | refine Kp.newO ?_ (by omega) | refine Kp.setO ?_ (.inl (by omega)) | refine Kp.setO ?_ (.inr (by omega)) | refine Kp.trans0 ?_ (by assumption) (by omega) | refine Kp.transS ?_ (by assumption) (by omega) (fun b hb hT => by first | omega | (dsimp only at hT ⊢; omega) | (simp only at hT ⊢; omega))) 
          have sl1 := sl.kp hkd (by omega : nx4 ≤ d + 1) (by simp)
          refine buildSQ_all (n := 1) [.agg #[.int .u32 r.ra, .int .u8 r.rn, .int .i64 r.via, .int .u16 r.met, .int .u16 r.seq]] sl36 zero45 (by omega) (by omega) rfl (by simp [cells_agg]) fun e he => ?_
          have hlit : ∀ H' : AH, SlA (e + 1) (H'.new e ([Value.agg #[.int .u32 r.ra, .int .u8 r.rn, .int .i64 r.via, .int .u16 r.met, .int .u16 r.seq]].flatMap fun v => v.cells.toList).toArray 45) 5 (.slice (some ⟨e, 0, none⟩) 1 1) 1 ([r].flatMap rtC) (e + 1) := fun H' => SlA.ofNew rfl (by omega) (by simp [maxLen]) (by simp [cells_agg]) (fun j _ => by simp [cells_agg, rtC])
          have sl2 := sl1.new (vs := ([Value.agg #[.int .u32 r.ra, .int .u8 r.rn, .int .i64 r.via, .int .u16 r.met, .int .u16 r.seq]].flatMap fun v => v.cells.toList).toArray) (e := 45) he
          simp (disch := omega) only [go_sem, ↓reduceIte ]
          refine appendQ_two (aw_append sl36 zero45 rfl by45 sl2 ((hlit _).src sl36 rtC_one) (by simp only [maxLen]; omega) (by omega) (by omega) fun v7 H7 nx7 own7 hn7 hs7 ho7 hk7 _ => ?_)
          have hone7 := hs7.one
          simp (disch := omega) only [go_sem, ↓reduceIte , hone7]
          refine ⟨rs.length - (i + 1), by omega, i + 1, l ++ [r], v7, own7, ⟨rfl, by omega, by simp, by omega, ?_, ?_, by omega, by simp; omega⟩⟩
          · have hke : Kp (fun _ => False) nx4 H4 _ := hkd.new (n := e) (vs := ([Value.agg #[.int .u32 r.ra, .int .u8 r.rn, .int .i64 r.via, .int .u16 r.met, .int .u16 r.seq]].flatMap fun v => v.cells.toList).toArray) (e := 45) (by omega)
            have h8 := hk4.trans (U := fun _ => False) hke hx4 (fun _ _ h => h) (fun _ _ h => h)
            exact h8.trans (U := fun _ => False) hk7 (by omega) (fun _ _ h => h) (fun b hb h => by omega)
          · rw [List.length_append, List.flatMap_append]
            exact hs7
      · have ei : i = rs.length := by omega
        subst ei
        simp (disch := omega) only [go_sem, ↓reduceIte , hone]
        exact hK _ _ _ ⟨_, l, v, own4, ⟨by omega, by omega, rfl, hx4, hk4, sl, ow, ll⟩, rfl⟩
    · obtain ⟨hm, hi2, henv, hx4, hk4, sl, ow, ll⟩ := hI4
      subst henv; subst he
      have hone := sl.one
      simp only [List.cons_append, List.nil_append]
      simp (disch := omega) only [go_sem, ↓reduceIte , hone]
      exact ⟨⟨v, rfl, hone⟩, by omega, (hk1.trans (U := fun _ => False) hk3 (by omega) (fun _ _ e => e) (fun _ _ e => e)).trans (U := fun _ => False) hk4 (by omega) (fun _ _ e => e) (fun _ _ e => e)⟩
end Go.Proofs.Ytgafnliohmdmoaa
