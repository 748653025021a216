/- The document's History: changes that follow one another. -/
import Derived.Test.YtngnbafididkcaaGreatG3
namespace Go.Proofs.YtngnbafididkcaaGreat
open Go.RowKit
set_option linter.unusedSimpArgs false

/-- An act as it lies. -/
structure Act5 where
  p : Int
  via : Int
  metric : Int
  seq : Int
  later : Int
def Act5.cells (x : Act5) : List Value := [.int .u8 x.p, .int .u8 x.via, .int .u8 x.metric, .int .u8 x.seq, .int .u8 x.later]
def actCells (l : List Act5) : List Value := l.flatMap Act5.cells
def b8 (n : Int) : Prop := 0 ≤ n ∧ n ≤ 255
structure Act5Ok (x : Act5) : Prop where
  p : b8 x.p
  via : b8 x.via
  metric : b8 x.metric
  seq : b8 x.seq
  later : b8 x.later

structure HistOk (cs : List Chg) (t : Int) : Prop where
  ok : ∀ c ∈ cs, ChOk c
  no : ∀ (i : Nat) (c : Chg), cs[i]? = some c → c.no = i + 1
  up : ∀ (i : Nat) (c d : Chg), cs[i]? = some c → cs[i + 1]? = some d → c.time ≤ d.time
  tm : ∀ c ∈ cs, c.time ≤ t
  t0 : ∀ c ∈ cs, 0 ≤ c.time

theorem HistOk.add {cs : List Chg} {t : Int} (h : HistOk cs t) {x : Chg} (hx : ChOk x) (hn : x.no = cs.length + 1) (ht : t ≤ x.time) (h0 : 0 ≤ x.time) : HistOk (cs ++ [x]) x.time := by
  refine ⟨fun c hc => ?_, fun i c hc => ?_, fun i c d hc hd => ?_, fun c hc => ?_, fun c hc => ?_⟩
  · rcases List.mem_append.1 hc with hc | hc
    · exact h.ok c hc
    · simp only [List.mem_singleton] at hc; subst hc; exact hx
  · rcases Nat.lt_or_ge i cs.length with hi | hi
    · rw [List.getElem?_append_left hi] at hc; exact h.no i c hc
    · rw [List.getElem?_append_right hi] at hc
      have : i - cs.length = 0 := by
        rcases Nat.eq_zero_or_pos (i - cs.length) with h | h
        · exact h
        · rw [List.getElem?_eq_none (by simp; omega)] at hc; cases hc
      rw [this] at hc
      simp only [List.getElem?_cons_zero, Option.some.injEq] at hc
      subst hc
      rw [hn, show i = cs.length by omega]
  · rcases Nat.lt_or_ge (i + 1) cs.length with hi | hi
    · rw [List.getElem?_append_left hi] at hd
      rw [List.getElem?_append_left (by omega)] at hc
      exact h.up i c d hc hd
    · rw [List.getElem?_append_right hi] at hd
      have e : i + 1 - cs.length = 0 := by
        rcases Nat.eq_zero_or_pos (i + 1 - cs.length) with h | h
        · exact h
        · rw [List.getElem?_eq_none (by simp; omega)] at hd; cases hd
      rw [e] at hd
      simp only [List.getElem?_cons_zero, Option.some.injEq] at hd
      subst hd
      rw [List.getElem?_append_left (by omega)] at hc
      have := h.tm c (List.mem_of_getElem? hc)
      omega
  · rcases List.mem_append.1 hc with hc | hc
    · have := h.tm c hc; omega
    · simp only [List.mem_singleton] at hc; subst hc; omega
  · rcases List.mem_append.1 hc with hc | hc
    · exact h.t0 c hc
    · simp only [List.mem_singleton] at hc; subst hc; exact h0

/-- What lies in a change's variable when it is put together. -/
structure ChAt (H : AH) (b : Nat) (y : Chg) : Prop where
  c0 : H.c b 0 = some (.int .u64 y.no)
  c1 : H.c b 1 = some (.int .u64 y.time)
  c2 : H.c b 2 = some (.bool y.gone)
  c3 : H.c b 3 = some (.int .u32 y.addr)
  c4 : H.c b 4 = some (.int .u8 y.len)
  c5 : H.c b 5 = some (.int .i64 y.via)
  c6 : H.c b 6 = some (.int .u16 y.metric)
  c7 : H.c b 7 = some (.int .u16 y.seq)
structure HisJ (H4 : AH) (nx4 p7 : Nat) (no time : Int) (E : Env) (env : Env) (H : AH) (nx : Nat) (y : Chg) : Prop where
  henv : env = E
  hx : nx = nx4
  hk : Kp (fun b => b = p7) nx4 H4 H
  hy : ChOk y
  hn : y.no = no
  ht : y.time = time
  hc : ChAt H p7 y

structure HisI (nx0 : Nat) (H0 : AH) (acts : List Act5) (s : Value) (m : Nat) (env : Env) (H : AH) (nx : Nat) (j : Nat) (v : Value) (t : Int) (cs : List Chg) (own : Nat) : Prop where
  hm : m = acts.length - j
  hj : j ≤ acts.length
  h60 : j ≤ 60
  henv : env = [(0, s), (3, v), (4, .int .u64 t), (5, .int .i64 j)]
  hx : nx0 ≤ nx
  hk : Kp (fun _ => False) nx0 H0 H
  hs : SlA nx H 8 v cs.length (chCells cs) own
  ho : own = 0 ∨ nx0 < own
  hc : cs.length = j
  hh : HistOk cs t
  t0 : 0 ≤ t
  t1 : t ≤ 3 * j

set_option maxHeartbeats 4000000 in
set_option maxRecDepth 20000 in
theorem history_c {lo : Nat} {H : AH} {nx : Nat} {s : Value} {acts : List Act5} {owna : Nat} (hs : SlA nx H 5 s acts.length (actCells acts) owna) (hok : ∀ x ∈ acts, Act5Ok x) :
    ACalls Tryz.prog lo 34 #[s] H nx (fun v H' nx' => ∃ cs own t, SlA nx' H' 8 v cs.length (chCells cs) own ∧ HistOk cs t ∧ cs.length ≤ 60 ∧ (own = 0 ∨ nx < own) ∧ nx ≤ nx' ∧ Kp (fun _ => False) nx H H') := by
  refine ACalls.withLo fun hlo => ?_
  refine acalls_of_awp L34 Tryz.func34 rfl (by kernel_rfl) ?_
  obtain ⟨sa, sc, rfl⟩ := hs.form
  have hle := hs.le
  have hmx := hs.maxLen
  simp only [maxLen] at hmx
  simp (disch := omega) only [go_sem, ↓reduceIte ]
  refine awp_loop (fun m env H1 nx1 => ∃ j v t cs own, HisI nx H acts (.slice sa acts.length sc) m env H1 nx1 j v t cs own) acts.length ⟨0, _, 0, [], 0, ⟨rfl, by omega, by omega, rfl, Nat.le_refl _, Kp.refl _ _ _, SlA.nil _ _ _, .inl rfl, rfl, ⟨by simp, by simp, by simp, by simp, by simp⟩, by omega, by omega⟩⟩ (fun m env H1 nx1 ⟨j, v, t, cs, own, hI⟩ hn => ?_)
  obtain ⟨hm, hj, h60, henv, hx, hk, hs1, ho, hc, hh, t0, t1⟩ := hI
  subst henv
  obtain ⟨va, vc, rfl⟩ := hs1.form
  have hle1 := hs1.le
  have hmx1 := hs1.maxLen
  simp only [maxLen] at hmx1
  by_cases hjl : j < acts.length
  · by_cases hj6 : j < 60
    · obtain ⟨x, hx0⟩ : ∃ x, acts[j]? = some x := ⟨_, List.getElem?_eq_getElem hjl⟩
      obtain ⟨⟨xp0, xp1⟩, ⟨xv0, xv1⟩, ⟨xm0, xm1⟩, ⟨xs0, xs1⟩, ⟨xl0, xl1⟩⟩ := hok x (List.mem_of_getElem? hx0)
      obtain ⟨g, off, cap, hv, hg⟩ := hs.open (by omega)
      cases hv
      have hsj : SlA nx1 H1 5 (.slice (some ⟨g, off, none⟩) acts.length sc) acts.length (actCells acts) owna := hs.kp hk (by omega) (by simp)
      have hld := flat_load (f := Act5.cells) (k := 5) (fun _ => rfl) hsj hx0
      unfold Act5.cells at hld
      simp (disch := omega) only [go_sem, ↓reduceIte , hld]
      intro p6 hp6
      simp (disch := omega) only [go_sem, ↓reduceIte ]
      intro p7 hp7
      simp (disch := omega) only [go_sem, ↓reduceIte ]
      refine (prefix07_c x.p xp0 xp1 _ _).mono fun v2 H2 nx2 _ ⟨pr, pn, hv2, r0, r1, n0, n1, hpx, hx2, hk2⟩ => ?_
      subst hv2
      have hc2 := hk2.cell0
      simp (disch := omega) only [go_sem, ↓reduceIte , hc2]
      intro p8 hp8
      simp (disch := omega) only [go_sem, ↓reduceIte ]
      have hs2 : SlA (p8 + 1) (((H2.new p8 #[.int .u32 0, .int .u8 0] 30).put p8 0 (.int .u32 pr)).put p8 1 (.int .u8 pn)) 8 (.slice va cs.length vc) cs.length (chCells cs) own := hs1.kp (S := fun _ => False) (nx' := p8 + 1) (by repeat first | exact Kp.refl _ _ _ | refine Kp.dropT ?_ (.inl (by omega)) | refine Kp.put ?_ (.inl (by omega)) | refine Kp.new ?_ (by omega) | refine Kp.put ?_ (.inr (by omega)) | refine Kp.newO ?_ (by omega) | refine Kp.setO ?_ (.inl (by omega)) | refine Kp.setO ?_ (.inr (by omega)) | refine Kp.trans0 ?_ (by assumption) (by omega) | refine Kp.transS ?_ (by assumption) (by omega) (fun b hb hT => by first | omega | (dsimp only at hT ⊢; omega) | (simp only at hT ⊢; omega)))  (by omega) (by simp)
      refine (row07_c hs2 hh.ok pr pn).mono fun v3 H3 nx3 _ ⟨r, ok, hv3, hx3, hk3⟩ => ?_
      subst hv3
      have hc3 := hk3.cell0
      simp (disch := omega) only [go_sem, ↓reduceIte , hc3]
      intro p9 hp9
      generalize hG : awp Tryz.prog lo L34 = G
      simp (disch := omega) only [go_sem, ↓reduceIte ]
      rw [← hG]
      clear hG
      refine awp_name fun H4 hH4 => ?_
      have hp71 : p7 < p8 := by omega
      have hp89 : p8 < p9 := by omega
      have hk4 : Kp (fun _ => False) nx1 H1 H4 := by rw [hH4]; exact (by repeat first | exact Kp.refl _ _ _ | refine Kp.dropT ?_ (.inl (by omega)) | refine Kp.put ?_ (.inl (by omega)) | refine Kp.new ?_ (by omega) | refine Kp.put ?_ (.inr (by omega)) | refine Kp.newO ?_ (by omega) | refine Kp.setO ?_ (.inl (by omega)) | refine Kp.setO ?_ (.inr (by omega)) | refine Kp.trans0 ?_ (by assumption) (by omega) | refine Kp.transS ?_ (by assumption) (by omega) (fun b hb hT => by first | omega | (dsimp only at hT ⊢; omega) | (simp only at hT ⊢; omega))) 
      have q60 : H4.c p6 1 = some (.int .u8 x.via) := by rw [hH4]; simp (disch := omega) only [go_sem, ↓reduceIte , hc3, hc2]
      have q61 : H4.c p6 2 = some (.int .u8 x.metric) := by rw [hH4]; simp (disch := omega) only [go_sem, ↓reduceIte , hc3, hc2]
      have q62 : H4.c p6 3 = some (.int .u8 x.seq) := by rw [hH4]; simp (disch := omega) only [go_sem, ↓reduceIte , hc3, hc2]
      have q80 : H4.c p8 0 = some (.int .u32 pr) := by rw [hH4]; simp (disch := omega) only [go_sem, ↓reduceIte , hc3, hc2]
      have q81 : H4.c p8 1 = some (.int .u8 pn) := by rw [hH4]; simp (disch := omega) only [go_sem, ↓reduceIte , hc3, hc2]
      have q91 : H4.c p9 2 = some (.bool r.has) := by rw [hH4]; simp (disch := omega) only [go_sem, ↓reduceIte , hc3, hc2]
      have q70 : H4.c p7 0 = some (.int .u64 (cs.length + 1)) := by rw [hH4]; simp (disch := omega) only [go_sem, ↓reduceIte , hc3, hc2]
      have q71 : H4.c p7 1 = some (.int .u64 (t + x.later % 4)) := by rw [hH4]; simp (disch := omega) only [go_sem, ↓reduceIte , hc3, hc2]
      have q72 : H4.c p7 2 = some (.bool false) := by rw [hH4]; simp (disch := omega) only [go_sem, ↓reduceIte , hc3, hc2]
      have q73 : (H4.c p7 3).isSome = true := by rw [hH4]; simp (disch := omega) only [go_sem, ↓reduceIte , hc3, hc2]
      have q74 : (H4.c p7 4).isSome = true := by rw [hH4]; simp (disch := omega) only [go_sem, ↓reduceIte , hc3, hc2]
      have q75 : (H4.c p7 5).isSome = true := by rw [hH4]; simp (disch := omega) only [go_sem, ↓reduceIte , hc3, hc2]
      have q76 : (H4.c p7 6).isSome = true := by rw [hH4]; simp (disch := omega) only [go_sem, ↓reduceIte , hc3, hc2]
      have q77 : (H4.c p7 7).isSome = true := by rw [hH4]; simp (disch := omega) only [go_sem, ↓reduceIte , hc3, hc2]
      clear hH4
      refine awp_cutE (fun env' H' nx' => ∃ y, HisJ H4 (p9 + 1) p7 (cs.length + 1) (t + x.later % 4) [(0, .slice (some ⟨g, off, none⟩) acts.length sc), (3, .slice va cs.length vc), (4, .int .u64 (t + x.later % 4)), (5, .int .i64 j), (7, .pointer (some ⟨p7, 0, none⟩))] env' H' nx' y) (fun K hK => ?_) (fun env5 H5 nx5 ⟨y, hJ⟩ => ?_)
      · have live : K _ ((((((H4.put p7 3 (.int .u32 pr)).put p7 4 (.int .u8 pn)).put p7 5 (.int .i64 (x.via % 16))).put p7 6 (.int .u16 (x.metric * 7))).put p7 7 (.int .u16 (IntKind.u16.wrap (x.seq % 4 + 65534))))) (p9 + 1) := hK _ _ _ ⟨⟨cs.length + 1, t + x.later % 4, false, pr, pn, x.via % 16, x.metric * 7, IntKind.u16.wrap (x.seq % 4 + 65534)⟩, ⟨rfl, rfl, (by repeat first | exact Kp.refl _ _ _ | refine Kp.dropT ?_ (.inl (by omega)) | refine Kp.put ?_ (.inl (by omega)) | refine Kp.new ?_ (by omega) | refine Kp.put ?_ (.inr (by omega)) | refine Kp.newO ?_ (by omega) | refine Kp.setO ?_ (.inl (by omega)) | refine Kp.setO ?_ (.inr (by omega)) | refine Kp.trans0 ?_ (by assumption) (by omega) | refine Kp.transS ?_ (by assumption) (by omega) (fun b hb hT => by first | omega | (dsimp only at hT ⊢; omega) | (simp only at hT ⊢; omega))) , ⟨hpx, n0, (by show 0 ≤ x.metric * 7; omega), (by show x.metric * 7 ≤ 65535; omega), (wrap_u16_range _).1, (wrap_u16_range _).2, (by simp), fun _ => ⟨(by show 0 ≤ x.via % 16; omega), (by show x.via % 16 < 16; omega), (by show x.metric * 7 < 65535; omega)⟩⟩, rfl, rfl, ⟨by simp (disch := omega) only [go_sem, ↓reduceIte , q70], by simp (disch := omega) only [go_sem, ↓reduceIte , q71], by simp (disch := omega) only [go_sem, ↓reduceIte , q72], by simp (disch := omega) only [go_sem, ↓reduceIte ], by simp (disch := omega) only [go_sem, ↓reduceIte ], by simp (disch := omega) only [go_sem, ↓reduceIte ], by simp (disch := omega) only [go_sem, ↓reduceIte ], by simp (disch := omega) only [go_sem, ↓reduceIte ]⟩⟩⟩
        have gone : K _ ((((((H4.put p7 2 (.bool true)).put p7 3 (.int .u32 pr)).put p7 4 (.int .u8 pn)).put p7 5 (.int .i64 0)).put p7 6 (.int .u16 0)).put p7 7 (.int .u16 0)) (p9 + 1) := hK _ _ _ ⟨⟨cs.length + 1, t + x.later % 4, true, pr, pn, 0, 0, 0⟩, ⟨rfl, rfl, (by repeat first | exact Kp.refl _ _ _ | refine Kp.dropT ?_ (.inl (by omega)) | refine Kp.put ?_ (.inl (by omega)) | refine Kp.new ?_ (by omega) | refine Kp.put ?_ (.inr (by omega)) | refine Kp.newO ?_ (by omega) | refine Kp.setO ?_ (.inl (by omega)) | refine Kp.setO ?_ (.inr (by omega)) | refine Kp.trans0 ?_ (by assumption) (by omega) | refine Kp.transS ?_ (by assumption) (by omega) (fun b hb hT => by first | omega | (dsimp only at hT ⊢; omega) | (simp only at hT ⊢; omega))) , ⟨hpx, n0, (by show (0 : Int) ≤ 0; omega), (by show (0 : Int) ≤ 65535; omega), (by show (0 : Int) ≤ 0; omega), (by show (0 : Int) ≤ 65535; omega), fun _ => ⟨rfl, rfl, rfl⟩, (by simp)⟩, rfl, rfl, ⟨by simp (disch := omega) only [go_sem, ↓reduceIte , q70], by simp (disch := omega) only [go_sem, ↓reduceIte , q71], by simp (disch := omega) only [go_sem, ↓reduceIte ], by simp (disch := omega) only [go_sem, ↓reduceIte ], by simp (disch := omega) only [go_sem, ↓reduceIte ], by simp (disch := omega) only [go_sem, ↓reduceIte ], by simp (disch := omega) only [go_sem, ↓reduceIte ], by simp (disch := omega) only [go_sem, ↓reduceIte ]⟩⟩⟩
        cases ok with
        | false =>
          simp (disch := omega) only [go_sem, ↓reduceIte , q60, q61, q62, q70, q71, q72, q73, q74, q75, q76, q77, q80, q81, q91]
          exact live
        | true =>
          cases hh : r.has with
          | false =>
            rw [hh] at q91
            simp (disch := omega) only [go_sem, ↓reduceIte , q60, q61, q62, q70, q71, q72, q73, q74, q75, q76, q77, q80, q81, q91]
            exact live
          | true =>
            rw [hh] at q91
            by_cases h4 : x.via % 4 = 3
            · simp (disch := omega) only [go_sem, ↓reduceIte , h4, q60, q61, q62, q70, q71, q72, q73, q74, q75, q76, q77, q80, q81, q91]
              exact gone
            · simp (disch := omega) only [go_sem, ↓reduceIte , h4, q60, q61, q62, q70, q71, q72, q73, q74, q75, q76, q77, q80, q81, q91]
              exact live
      · obtain ⟨henv, hx5, hk5, hy, hyn, hyt, ⟨d0, d1, d2, d3, d4, d5, d6, d7⟩⟩ := hJ
        subst henv; subst hx5
        have hs5 : SlA (p9 + 1) H5 8 (.slice va cs.length vc) cs.length (chCells cs) own := (hs1.kp hk4 (nx' := p9 + 1) (by omega) (by simp)).kp hk5 (Nat.le_refl _) (by intro b hb; omega)
        simp (disch := omega) only [go_sem, ↓reduceIte , d0, d1, d2, d3, d4, d5, d6, d7]
        refine buildSQ_all (n := 1) [.agg #[.int .u64 y.no, .int .u64 y.time, .bool y.gone, .int .u32 y.addr, .int .u8 y.len, .int .i64 y.via, .int .u16 y.metric, .int .u16 y.seq]] sl82 zero134 (by omega) (by omega) rfl (by simp [cells_agg]) fun d hd => ?_
        have hlit : SlA (d + 1) _ 8 (.slice (some ⟨d, 0, none⟩) 1 1) 1 (chCells [y]) (d + 1) := SlA.ofNew (H := H5) (e := 134) (cs := ([Value.agg #[.int .u64 y.no, .int .u64 y.time, .bool y.gone, .int .u32 y.addr, .int .u8 y.len, .int .i64 y.via, .int .u16 y.metric, .int .u16 y.seq]].flatMap fun v => v.cells.toList).toArray) rfl (by omega) (by simp [maxLen]) (by simp [cells_agg]) (fun j _ => by simp [cells_agg, chCells, Chg.cells])
        have hs6 := hs5.new (vs := ([Value.agg #[.int .u64 y.no, .int .u64 y.time, .bool y.gone, .int .u32 y.addr, .int .u8 y.len, .int .i64 y.via, .int .u16 y.metric, .int .u16 y.seq]].flatMap fun v => v.cells.toList).toArray) (e := 134) hd
        simp (disch := omega) only [go_sem, ↓reduceIte ]
        refine appendQ_two (aw_append sl82 zero134 rfl by134 hs6 (hlit.src sl82 chCells_one) (by simp only [maxLen]; omega) (by omega) (by omega) fun v7 H7 nx7 own7 hn7 hs7 ho7 hk7 _ => ?_)
        simp (disch := omega) only [go_sem, ↓reduceIte ]
        refine ⟨acts.length - (j + 1), by omega, j + 1, v7, t + x.later % 4, cs ++ [y], own7, ⟨rfl, by omega, by omega, rfl, by omega, ?_, ?_, by omega, by simp; omega, ?_, by omega, by omega⟩⟩
        · have hk6 : Kp (fun _ => False) nx1 H1 (H5.new d ([Value.agg #[.int .u64 y.no, .int .u64 y.time, .bool y.gone, .int .u32 y.addr, .int .u8 y.len, .int .i64 y.via, .int .u16 y.metric, .int .u16 y.seq]].flatMap fun v => v.cells.toList).toArray 134) := (hk4.trans (U := fun _ => False) hk5 (by omega) (fun _ _ h => h) (fun b hb h => by omega)).new (by omega)
          exact hk.trans (U := fun _ => False) (hk6.trans (U := fun b => b + 1 = own) hk7 (by omega) (fun _ _ h => h.elim) (fun _ _ h => h)) (by omega) (fun _ _ h => h) (fun b hb h => by omega)
        · rw [List.length_append, chCells_append]
          exact hs7
        · have := hh.add hy (by omega) (by omega) (by omega)
          rwa [hyt] at this
    · simp (disch := omega) only [go_sem, ↓reduceIte ]
      exact ⟨cs, own, t, hs1, hh, by omega, ho, by omega, hk⟩
  · simp (disch := omega) only [go_sem, ↓reduceIte ]
    exact ⟨cs, own, t, hs1, hh, by omega, ho, by omega, hk⟩
end Go.Proofs.YtngnbafididkcaaGreat
