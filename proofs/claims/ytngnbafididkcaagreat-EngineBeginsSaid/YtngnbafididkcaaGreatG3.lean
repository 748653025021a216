/- The document's Row: what a prefix has behind some changes. -/
import Derived.Test.YtngnbafididkcaaGreatG0
namespace Go.Proofs.YtngnbafididkcaaGreat
open Go.RowKit
set_option linter.unusedSimpArgs false

theorem chCells_get : ∀ (l : List Chg) (i : Nat) (c : Chg), l[i]? = some c → ∀ j, j < 8 → (chCells l)[8 * i + j]? = c.cells[j]?
  | [], i, c, h, _, _ => by simp at h
  | x :: r, 0, c, h, j, hj => by
    simp only [List.getElem?_cons_zero, Option.some.injEq] at h
    subst h
    show (x.cells ++ chCells r)[8 * 0 + j]? = _
    rw [Nat.mul_zero, Nat.zero_add, List.getElem?_append_left hj]
  | x :: r, i + 1, c, h, j, hj => by
    show (x.cells ++ chCells r)[8 * (i + 1) + j]? = _
    rw [List.getElem?_append_right (by show 8 ≤ _; omega), show 8 * (i + 1) + j - x.cells.length = 8 * i + j by show 8 * (i + 1) + j - 8 = _; omega]
    exact chCells_get r i c (by simpa using h) j hj
theorem chCells_one {l : List Chg} : ∀ v ∈ chCells l, v.oneCell' = true := by
  intro v hv
  simp only [chCells, List.mem_flatMap] at hv
  obtain ⟨c, _, hv⟩ := hv
  simp only [Chg.cells, List.mem_cons, List.not_mem_nil, or_false] at hv
  rcases hv with rfl | rfl | rfl | rfl | rfl | rfl | rfl | rfl <;> rfl
theorem chCells_append (a b : List Chg) : chCells (a ++ b) = chCells a ++ chCells b := by simp [chCells]

theorem ch_load {nx : Nat} {H : AH} {g off c n own : Nat} {l : List Chg} (hs : SlA nx H 8 (.slice (some ⟨g, off, none⟩) n c) n (chCells l) own) {i : Nat} {x : Chg} (hi : l[i]? = some x) : loadN H g (off + i * 8) 8 = some x.cells := by
  have h := loadN_list (H := H) g x.cells (off + i * 8) (fun j hj => by
    have := hs.cells.1 (8 * i + j)
    rw [chCells_get l i x hi j hj] at this
    rw [Nat.mul_comm, Nat.add_assoc]
    rw [List.getElem?_eq_getElem hj] at this ⊢
    exact this _ rfl)
  exact h

structure RowRec where
  a : Int
  n : Int
  has : Bool
  a2 : Int
  n2 : Int
  via : Int
  m2 : Int
  s2 : Int
  s3 : Int
  m3 : Int
structure RowI (a0 n0 : Int) (nx0 : Nat) (H0 : AH) (l : List Chg) (s : Value) (p3 p4 p6 : Nat) (m : Nat) (env : Env) (H : AH) (nx : Nat) (j : Nat) (ok : Bool) (r : RowRec) : Prop where
  hm : m = l.length - j
  hj : j ≤ l.length
  henv : env = [(0, s), (3, .pointer (some ⟨p3, 0, none⟩)), (4, .pointer (some ⟨p4, 0, none⟩)), (6, .pointer (some ⟨p6, 0, none⟩)), (7, .bool ok), (8, .int .i64 j)]
  hx : nx0 ≤ nx
  hk : Kp (fun b => b = p6) nx0 H0 H
  c0 : H.c p6 0 = some (.int .u32 r.a)
  c1 : H.c p6 1 = some (.int .u8 r.n)
  c2 : H.c p6 2 = some (.bool r.has)
  c3 : H.c p6 3 = some (.int .u32 r.a2)
  c4 : H.c p6 4 = some (.int .u8 r.n2)
  c5 : H.c p6 5 = some (.int .i64 r.via)
  c6 : H.c p6 6 = some (.int .u16 r.m2)
  c7 : H.c p6 7 = some (.int .u16 r.s2)
  c8 : H.c p6 8 = some (.int .u16 r.s3)
  c9 : H.c p6 9 = some (.int .u16 r.m3)
  s0 : 0 ≤ r.s3
  s1 : r.s3 ≤ 65535
  pa : r.a = a0
  pn : r.n = n0
  mm : ok = true → 0 ≤ r.m3 ∧ r.m3 < 65535

set_option maxHeartbeats 4000000 in
theorem row07x_c {lo : Nat} {H : AH} {nx : Nat} {s : Value} {l : List Chg} {own : Nat} (hs : SlA nx H 8 s l.length (chCells l) own) (hok : ∀ c ∈ l, ChOk c) (a n : Int) :
    ACalls Tryz.prog lo 70 #[s, .agg #[.int .u32 a, .int .u8 n]] H nx (fun v H' nx' => ∃ (r : RowRec) (ok : Bool), v = .tuple #[.agg #[.int .u32 r.a, .int .u8 r.n, .bool r.has, .int .u32 r.a2, .int .u8 r.n2, .int .i64 r.via, .int .u16 r.m2, .int .u16 r.s2, .int .u16 r.s3, .int .u16 r.m3], .bool ok] ∧ nx ≤ nx' ∧ Kp (fun _ => False) nx H H' ∧ r.a = a ∧ r.n = n ∧ (0 ≤ r.s3 ∧ r.s3 ≤ 65535) ∧ (ok = true → 0 ≤ r.m3 ∧ r.m3 < 65535)) := by
  refine ACalls.withLo fun hlo => ?_
  refine acalls_of_awp L70 Tryz.func70 rfl (by kernel_rfl) ?_
  obtain ⟨sa, sc, rfl⟩ := hs.form
  have hle := hs.le
  have hmx := hs.maxLen
  simp only [maxLen] at hmx
  simp (disch := omega) only [go_sem, ↓reduceIte ]
  intro p3 hp3
  simp (disch := omega) only [go_sem, ↓reduceIte ]
  intro p4 hp4
  simp (disch := omega) only [go_sem, ↓reduceIte ]
  intro p6 hp6
  simp (disch := omega) only [go_sem, ↓reduceIte ]
  refine awp_name fun Hs hHs => ?_
  have hkk : Kp (fun _ => False) nx H Hs := by rw [hHs]; exact (by repeat first | exact Kp.refl _ _ _ | refine Kp.dropT ?_ (.inl (by omega)) | refine Kp.put ?_ (.inl (by omega)) | refine Kp.new ?_ (by omega) | refine Kp.put ?_ (.inr (by omega)) | refine Kp.newO ?_ (by omega) | refine Kp.setO ?_ (.inl (by omega)) | refine Kp.setO ?_ (.inr (by omega)) | refine Kp.trans0 ?_ (by assumption) (by omega) | refine Kp.transS ?_ (by assumption) (by omega) (fun b hb hT => by first | omega | (dsimp only at hT ⊢; omega) | (simp only at hT ⊢; omega))) 
  have e0 : Hs.c p3 0 = some (.int .u32 a) := by rw [hHs]; simp (disch := omega) only [go_sem, ↓reduceIte ]
  have e1 : Hs.c p3 1 = some (.int .u8 n) := by rw [hHs]; simp (disch := omega) only [go_sem, ↓reduceIte ]
  have z : ∀ j, j < 10 → (Hs.c p4 j).isSome = true := by
    intro j hj
    rw [hHs]
    rcases j with _ | _ | _ | _ | _ | _ | _ | _ | _ | _ | j <;> first | omega | simp (disch := omega) only [go_sem, ↓reduceIte ]
  refine awp_loop (fun m env H1 nx1 => ∃ j ok r, RowI a n (p6 + 1) Hs l (.slice sa l.length sc) p3 p4 p6 m env H1 nx1 j ok r) l.length ⟨0, false, ⟨a, n, false, 0, 0, 0, 0, 0, 0, 0⟩, ⟨rfl, by omega, rfl, Nat.le_refl _, Kp.refl _ _ _, by rw [hHs]; simp (disch := omega) only [go_sem, ↓reduceIte ], by rw [hHs]; simp (disch := omega) only [go_sem, ↓reduceIte ], by rw [hHs]; simp (disch := omega) only [go_sem, ↓reduceIte ], by rw [hHs]; simp (disch := omega) only [go_sem, ↓reduceIte ], by rw [hHs]; simp (disch := omega) only [go_sem, ↓reduceIte ], by rw [hHs]; simp (disch := omega) only [go_sem, ↓reduceIte ], by rw [hHs]; simp (disch := omega) only [go_sem, ↓reduceIte ], by rw [hHs]; simp (disch := omega) only [go_sem, ↓reduceIte ], by rw [hHs]; simp (disch := omega) only [go_sem, ↓reduceIte ], by rw [hHs]; simp (disch := omega) only [go_sem, ↓reduceIte ], (by show (0 : Int) ≤ 0; omega), (by show (0 : Int) ≤ 65535; omega), rfl, rfl, fun h => by cases h⟩⟩ (fun m env H1 nx1 ⟨j, ok, r, hI⟩ hn => ?_)
  obtain ⟨hm, hj, henv, hx, hk, c0, c1, c2, c3, c4, c5, c6, c7, c8, c9, s0, s1, pa, pn, mm⟩ := hI
  subst henv
  clear hHs
  have hcell := hk.cell
  by_cases hjl : j < l.length
  · obtain ⟨x, hx0⟩ : ∃ x, l[j]? = some x := ⟨_, List.getElem?_eq_getElem hjl⟩
    have hxo := hok x (List.mem_of_getElem? hx0)
    obtain ⟨px, l0, m0, m1, y0, y1, gn, lv⟩ := hxo
    obtain ⟨g, off, cap, hv, hg⟩ := hs.open (by omega)
    cases hv
    have hsj : SlA nx1 H1 8 (.slice (some ⟨g, off, none⟩) l.length sc) l.length (chCells l) own := (hs.kp hkk (by omega) (by simp)).kp hk (nx' := nx1) (by omega) (by intro b hb; omega)
    have hld := ch_load hsj hx0
    unfold Chg.cells at hld
    simp (disch := omega) only [go_sem, ↓reduceIte , hld]
    intro p9 hp9
    simp (disch := omega) only [go_sem, ↓reduceIte , hcell, e0, e1]
    refine condQ_split (fun h => ?_) (fun h => ?_)
    · simp (disch := omega) only [go_sem, ↓reduceIte ]
      refine ⟨l.length - (j + 1), by omega, j + 1, ok, r, ⟨rfl, by omega, rfl, by omega, (by repeat first | exact Kp.refl _ _ _ | refine Kp.dropT ?_ (.inl (by omega)) | refine Kp.put ?_ (.inl (by omega)) | refine Kp.new ?_ (by omega) | refine Kp.put ?_ (.inr (by omega)) | refine Kp.newO ?_ (by omega) | refine Kp.setO ?_ (.inl (by omega)) | refine Kp.setO ?_ (.inr (by omega)) | refine Kp.trans0 ?_ (by assumption) (by omega) | refine Kp.transS ?_ (by assumption) (by omega) (fun b hb hT => by first | omega | (dsimp only at hT ⊢; omega) | (simp only at hT ⊢; omega))) , ?_, ?_, ?_, ?_, ?_, ?_, ?_, ?_, ?_, ?_, s0, s1, pa, pn, mm⟩⟩
      all_goals simp (disch := omega) only [go_sem, ↓reduceIte , c0, c1, c2, c3, c4, c5, c6, c7, c8, c9]
    · cases hgo : x.gone with
      | true =>
        simp (disch := omega) only [go_sem, ↓reduceIte , hgo, c0, c1, c2, c3, c4, c5, c6, c7, c8, c9]
        refine ⟨l.length - (j + 1), by omega, j + 1, ok, ⟨r.a, r.n, false, x.addr, x.len, x.via, x.metric, x.seq, r.s3, r.m3⟩, ⟨rfl, by omega, rfl, by omega, (by repeat first | exact Kp.refl _ _ _ | refine Kp.dropT ?_ (.inl (by omega)) | refine Kp.put ?_ (.inl (by omega)) | refine Kp.new ?_ (by omega) | refine Kp.put ?_ (.inr (by omega)) | refine Kp.newO ?_ (by omega) | refine Kp.setO ?_ (.inl (by omega)) | refine Kp.setO ?_ (.inr (by omega)) | refine Kp.trans0 ?_ (by assumption) (by omega) | refine Kp.transS ?_ (by assumption) (by omega) (fun b hb hT => by first | omega | (dsimp only at hT ⊢; omega) | (simp only at hT ⊢; omega))) , ?_, ?_, ?_, ?_, ?_, ?_, ?_, ?_, ?_, ?_, s0, s1, pa, pn, mm⟩⟩
        all_goals simp (disch := omega) only [go_sem, ↓reduceIte , c0, c1, c2, c3, c4, c5, c6, c7, c8, c9]
      | false =>
        simp (disch := omega) only [go_sem, ↓reduceIte , hgo, c0, c1, c2, c3, c4, c5, c6, c7, c8, c9]
        intro p10 hp10
        cases ok with
        | false =>
          simp (disch := omega) only [go_sem, ↓reduceIte , c0, c1, c2, c3, c4, c5, c6, c7, c8, c9]
          refine ⟨l.length - (j + 1), by omega, j + 1, true, ⟨r.a, r.n, true, x.addr, x.len, x.via, x.metric, x.seq, x.seq, x.metric⟩, ⟨rfl, by omega, rfl, by omega, (by repeat first | exact Kp.refl _ _ _ | refine Kp.dropT ?_ (.inl (by omega)) | refine Kp.put ?_ (.inl (by omega)) | refine Kp.new ?_ (by omega) | refine Kp.put ?_ (.inr (by omega)) | refine Kp.newO ?_ (by omega) | refine Kp.setO ?_ (.inl (by omega)) | refine Kp.setO ?_ (.inr (by omega)) | refine Kp.trans0 ?_ (by assumption) (by omega) | refine Kp.transS ?_ (by assumption) (by omega) (fun b hb hT => by first | omega | (dsimp only at hT ⊢; omega) | (simp only at hT ⊢; omega))) , ?_, ?_, ?_, ?_, ?_, ?_, ?_, ?_, ?_, ?_, y0, y1, pa, pn, fun _ => ⟨m0, (lv hgo).2.2⟩⟩⟩
          all_goals simp (disch := omega) only [go_sem, ↓reduceIte , c0, c1, c2, c3, c4, c5, c6, c7, c8, c9]
        | true =>
          simp (disch := omega) only [go_sem, ↓reduceIte , c0, c1, c2, c3, c4, c5, c6, c7, c8, c9]
          refine (nearer_c x.seq x.metric r.s3 r.m3 y0 y1 s0 s1 _ _).mono fun v H2 nx2 _ ⟨⟨b, hv⟩, hx2, hk2⟩ => ?_
          subst hv
          have hc2 := hk2.cell0
          cases b
          · simp (disch := omega) only [go_sem, ↓reduceIte , hc2, c0, c1, c2, c3, c4, c5, c6, c7, c8, c9]
            refine ⟨l.length - (j + 1), by omega, j + 1, true, ⟨r.a, r.n, true, x.addr, x.len, x.via, x.metric, x.seq, r.s3, r.m3⟩, ⟨rfl, by omega, rfl, by omega, (by repeat first | exact Kp.refl _ _ _ | refine Kp.dropT ?_ (.inl (by omega)) | refine Kp.put ?_ (.inl (by omega)) | refine Kp.new ?_ (by omega) | refine Kp.put ?_ (.inr (by omega)) | refine Kp.newO ?_ (by omega) | refine Kp.setO ?_ (.inl (by omega)) | refine Kp.setO ?_ (.inr (by omega)) | refine Kp.trans0 ?_ (by assumption) (by omega) | refine Kp.transS ?_ (by assumption) (by omega) (fun b hb hT => by first | omega | (dsimp only at hT ⊢; omega) | (simp only at hT ⊢; omega))) , ?_, ?_, ?_, ?_, ?_, ?_, ?_, ?_, ?_, ?_, s0, s1, pa, pn, mm⟩⟩
            all_goals simp (disch := omega) only [go_sem, ↓reduceIte , hc2, c0, c1, c2, c3, c4, c5, c6, c7, c8, c9]
          · simp (disch := omega) only [go_sem, ↓reduceIte , hc2, c0, c1, c2, c3, c4, c5, c6, c7, c8, c9]
            refine ⟨l.length - (j + 1), by omega, j + 1, true, ⟨r.a, r.n, true, x.addr, x.len, x.via, x.metric, x.seq, x.seq, x.metric⟩, ⟨rfl, by omega, rfl, by omega, (by repeat first | exact Kp.refl _ _ _ | refine Kp.dropT ?_ (.inl (by omega)) | refine Kp.put ?_ (.inl (by omega)) | refine Kp.new ?_ (by omega) | refine Kp.put ?_ (.inr (by omega)) | refine Kp.newO ?_ (by omega) | refine Kp.setO ?_ (.inl (by omega)) | refine Kp.setO ?_ (.inr (by omega)) | refine Kp.trans0 ?_ (by assumption) (by omega) | refine Kp.transS ?_ (by assumption) (by omega) (fun b hb hT => by first | omega | (dsimp only at hT ⊢; omega) | (simp only at hT ⊢; omega))) , ?_, ?_, ?_, ?_, ?_, ?_, ?_, ?_, ?_, ?_, y0, y1, pa, pn, fun _ => ⟨m0, (lv hgo).2.2⟩⟩⟩
            all_goals simp (disch := omega) only [go_sem, ↓reduceIte , hc2, c0, c1, c2, c3, c4, c5, c6, c7, c8, c9]
  · have z0 := z 0 (by omega)
    have z1 := z 1 (by omega)
    have z2 := z 2 (by omega)
    have z3 := z 3 (by omega)
    have z4 := z 4 (by omega)
    have z5 := z 5 (by omega)
    have z6 := z 6 (by omega)
    have z7 := z 7 (by omega)
    have z8 := z 8 (by omega)
    have z9 := z 9 (by omega)
    simp (disch := omega) only [go_sem, ↓reduceIte , c0, c1, c2, c3, c4, c5, c6, c7, c8, c9, hcell, z0, z1, z2, z3, z4, z5, z6, z7, z8, z9]
    exact ⟨r, ok, rfl, by omega, (by repeat first | exact Kp.refl _ _ _ | refine Kp.dropT ?_ (.inl (by omega)) | refine Kp.put ?_ (.inl (by omega)) | refine Kp.new ?_ (by omega) | refine Kp.put ?_ (.inr (by omega)) | refine Kp.newO ?_ (by omega) | refine Kp.setO ?_ (.inl (by omega)) | refine Kp.setO ?_ (.inr (by omega)) | refine Kp.trans0 ?_ (by assumption) (by omega) | refine Kp.transS ?_ (by assumption) (by omega) (fun b hb hT => by first | omega | (dsimp only at hT ⊢; omega) | (simp only at hT ⊢; omega))) , pa, pn, ⟨s0, s1⟩, mm⟩
theorem row07_c {lo : Nat} {H : AH} {nx : Nat} {s : Value} {l : List Chg} {own : Nat} (hs : SlA nx H 8 s l.length (chCells l) own) (hok : ∀ c ∈ l, ChOk c) (a n : Int) :
    ACalls Tryz.prog lo 70 #[s, .agg #[.int .u32 a, .int .u8 n]] H nx (fun v H' nx' => ∃ (r : RowRec) (ok : Bool), v = .tuple #[.agg #[.int .u32 r.a, .int .u8 r.n, .bool r.has, .int .u32 r.a2, .int .u8 r.n2, .int .i64 r.via, .int .u16 r.m2, .int .u16 r.s2, .int .u16 r.s3, .int .u16 r.m3], .bool ok] ∧ nx ≤ nx' ∧ Kp (fun _ => False) nx H H') :=
  (row07x_c hs hok a n).mono fun _ _ _ _ ⟨r, ok, h1, h2, h3, _⟩ => ⟨r, ok, h1, h2, h3⟩
end Go.Proofs.YtngnbafididkcaaGreat
