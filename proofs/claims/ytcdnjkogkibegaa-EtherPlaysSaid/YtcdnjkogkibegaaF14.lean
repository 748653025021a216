/- EtherPlays: bytes go out. -/
import Derived.Test.YtcdnjkogkibegaaF13
namespace Go.Proofs.Ytcdnjkogkibegaa
open Go.RowKit
set_option linter.unusedSimpArgs false

structure SndI (lo nx0 : Nat) (H0 : AH) (g off n c i a b x p4 : Nat) (up : Nat → Nat → Bool) (l : List Pkt) (own : Nat) (m : Nat) (env : Env) (H : AH) (nx : Nat) (j : Nat) (l2 : List Pkt) (own5 : Nat) (v5 : Value) : Prop where
  hm : m = 5 - j
  hj : j ≤ 5
  henv : env = [(0, .slice (some ⟨g, off, none⟩) n c), (3, .pointer (some ⟨x, 0, none⟩)), (4, .pointer (some ⟨p4, 0, none⟩)), (5, v5), (6, .int .i64 i), (7, .int .i64 a), (8, .int .i64 b), (12, .int .i64 (sendsC up a [(i : Int)] j).length), (13, .int .i64 j)]
  hx : nx0 ≤ nx
  hk : Kp (fun _ => False) nx0 H0 H
  hE : EtherA lo nx H x up l own
  g4 : lo ≤ p4
  lt4 : p4 < nx
  n4 : p4 ≠ x
  hup : ∀ a b, a < 5 → b < 5 → H.c p4 (a * 5 + b) = some (.bool (up a b))
  hs : SlA nx H 3 v5 l2.length (pkCells l2) own5
  hv : views l2 = views l ++ sendsC up a [(i : Int)] j
  o5x : own5 ≠ x + 1
  o54 : own5 ≠ p4 + 1
  o5 : own5 = 0 ∨ own5 ≠ own
  lo5 : own5 = 0 ∨ nx0 < own5
  pk1 : ∀ k ∈ l, k.own = 0 ∨ k.own ≠ own5
  pk2 : ∀ k ∈ l2, SlA nx H 1 k.v k.bs.length (byteV k.bs) k.own ∧ k.own ≠ x + 1 ∧ k.own ≠ p4 + 1 ∧ (k.own = 0 ∨ k.own ≠ own) ∧ (k.own = 0 ∨ k.own ≠ own5)

structure SndE (lo nx0 : Nat) (H0 : AH) (g off n c i a b x p4 : Nat) (up : Nat → Nat → Bool) (l : List Pkt) (own : Nat) (env : Env) (H : AH) (nx : Nat) (l2 : List Pkt) (own5 : Nat) (v5 : Value) (rest : Env) : Prop where
  henv : env = (0, .slice (some ⟨g, off, none⟩) n c) :: (3, .pointer (some ⟨x, 0, none⟩)) :: (4, .pointer (some ⟨p4, 0, none⟩)) :: (5, v5) :: (6, .int .i64 i) :: (7, .int .i64 a) :: (8, .int .i64 b) :: (12, .int .i64 (sendsC up a [(i : Int)] 5).length) :: rest
  hx : nx0 ≤ nx
  hk : Kp (fun _ => False) nx0 H0 H
  hE : EtherA lo nx H x up l own
  g4 : lo ≤ p4
  lt4 : p4 < nx
  n4 : p4 ≠ x
  hup : ∀ a b, a < 5 → b < 5 → H.c p4 (a * 5 + b) = some (.bool (up a b))
  hs : SlA nx H 3 v5 l2.length (pkCells l2) own5
  hv : views l2 = views l ++ sendsC up a [(i : Int)] 5
  o5x : own5 ≠ x + 1
  o54 : own5 ≠ p4 + 1
  o5 : own5 = 0 ∨ own5 ≠ own
  lo5 : own5 = 0 ∨ nx0 < own5
  pk1 : ∀ k ∈ l, k.own = 0 ∨ k.own ≠ own5
  pk2 : ∀ k ∈ l2, SlA nx H 1 k.v k.bs.length (byteV k.bs) k.own ∧ k.own ≠ x + 1 ∧ k.own ≠ p4 + 1 ∧ (k.own = 0 ∨ k.own ≠ own) ∧ (k.own = 0 ∨ k.own ≠ own5)

theorem sends_five {up : Nat → Nat → Bool} (h : ∀ a b, (5 ≤ a ∨ 5 ≤ b) → up a b = false) (a : Nat) (bs : List Int) : ∀ d, sendsC up a bs (5 + d) = sendsC up a bs 5
  | 0 => rfl
  | d + 1 => by
    rw [show 5 + (d + 1) = (5 + d) + 1 by omega, sendsC, sends_five h a bs d, h a (5 + d) (.inr (by omega))]
    simp
theorem sends_bs (up : Nat → Nat → Bool) (a : Nat) (bs : List Int) : ∀ d, ∀ z ∈ sendsC up a bs d, z.2.2 = bs
  | 0 => by simp [sendsC]
  | d + 1 => by
    intro z hz
    rw [sendsC, List.mem_append] at hz
    rcases hz with hz | hz
    · exact sends_bs up a bs d z hz
    · split at hz
      · simp only [List.mem_singleton] at hz; subst hz; rfl
      · simp at hz

set_option maxHeartbeats 8000000 in
theorem sw_send {lo nx0 : Nat} {H0 : AH} {g off n c i a b x p4 : Nat} {act : Act19} {H : AH} {nx : Nat} {up : Nat → Nat → Bool} {l l2 : List Pkt} {own own5 : Nat} {v5 : Value} {k : Int} {rest0 : Env} {K : Env → AH → Nat → Prop} {Q : Exit → Env → AH → Nat → Prop}
    (h : SwIn lo nx0 H0 g off n i a b x p4 act H nx up l l2 own own5 v5) (hact : act.k % 9 = 3 ∨ act.k % 9 = 4)
    (hK : ∀ env' H' nx', plR lo nx0 H0 (.slice (some ⟨g, off, none⟩) n c) x p4 i a b (5 * i + 5) env' H' nx' → K env' H' nx') :
    awp Try.prog lo L7 playSw (thenQ K Q) (swEnv g off n c i a b x p4 v5 k rest0) H nx := by
  obtain ⟨hP, hk, hx, lo0, gx, g4, hg, c0, c3, k0, k1, ho, ho5, ha, hb, hi, hn, hl⟩ := h
  have hc := hk.cell0
  have hlt4 := hP.lt4
  have hltx := hP.hE.lt
  have hn4 := hP.n4
  unfold playSw playBody Try.f7 swEnv
  simp only [Option.getD_some, codeHd, codeTl, codeIn]
  rcases hact with e | e
  all_goals
    simp (disch := omega) only [go_sem, ↓reduceIte , hc, c0, e]
    refine awp_loopX (fun m env1 H1 nx1 => ∃ j l2 own5 v5, SndI lo nx0 H0 g off n c i a b x p4 up l own m env1 H1 nx1 j l2 own5 v5) 5 ⟨0, l2, own5, v5, ⟨rfl, by omega, rfl, hx, hk, hP.hE, hP.g4, hlt4, hn4, hP.hup, hP.hs, by simp [sendsC, hP.hv], hP.o5x, hP.o54, hP.o5, ho5, fun k hk => (hP.pk1 k hk).2, hP.pk2⟩⟩ (fun env1 H1 nx1 => ∃ l2 own5 v5 rest, SndE lo nx0 H0 g off n c i a b x p4 up l own env1 H1 nx1 l2 own5 v5 rest) (fun K1 hK1 m env1 H1 nx1 ⟨j, l2, own5, v5, hJ⟩ hn1 => ?_) (fun env1 H1 nx1 ⟨l2, own5, v5, rest, hE⟩ => ?_)
    · obtain ⟨hm, hj, henv, hx1, hk1, hE1, g41, lt41, n41, hup1, hs1, hv1, o5x, o54, o5, lo5, pk1, pk2⟩ := hJ
      subst henv
      obtain ⟨sa, sc, rfl⟩ := hs1.form
      have hsl := sends_length up a [(i : Int)] j
      have hl2 : l2.length = l.length + (sendsC up a [(i : Int)] j).length := by
        have := congrArg List.length hv1
        simpa [views] using this
      have hle1 := hs1.le
      have hEl := hE1.q.choose_spec.2.le
      have hltx1 := hE1.lt
      by_cases hj5 : j < 5
      · have hcu := hup1 a j ha hj5
        cases hu : up a j with
        | false =>
          rw [hu] at hcu
          simp (disch := omega) only [go_sem, ↓reduceIte , hcu]
          exact ⟨4 - j, by omega, j + 1, l2, own5, _, ⟨by omega, by omega, by simp [sendsC, hu], hx1, hk1, hE1, g41, lt41, n41, hup1, hs1, by simp [hv1, sendsC, hu], o5x, o54, o5, lo5, pk1, pk2⟩⟩
        | true =>
          rw [hu] at hcu
          simp (disch := omega) only [go_sem, ↓reduceIte , hcu]
          refine buildSQ_cs (n := 1) [.int .u8 i] [.int .u8 i] sl34 zero5 (by omega) (by omega) rfl (by simp [cells_int]) rfl fun d hd => ?_
          have hsb : SlA (d + 1) (H1.new d [Value.int .u8 i].toArray 5) 1 (.slice (some ⟨d, 0, none⟩) 1 1) 1 (byteV [(i : Int)]) (d + 1) := SlA.ofNew rfl (by omega) (by simp [maxLen]) (by simp) (fun j _ => by simp [byteV])
          simp (disch := omega) only [go_sem, ↓reduceIte , fun H => bd3x36 H (.int .i64 a) (.int .i64 j) (.slice (some ⟨d, 0, none⟩) 1 1) rfl rfl rfl]
          refine buildSQ_all (n := 1) [.agg #[.int .i64 a, .int .i64 j, .slice (some ⟨d, 0, none⟩) 1 1]] sl27 zero36 (by omega) (by omega) rfl (by simp [cells_agg]) fun d2 hd2 => ?_
          have hlit : SlA (d2 + 1) _ 3 (.slice (some ⟨d2, 0, none⟩) 1 1) 1 (pkCells [⟨a, j, .slice (some ⟨d, 0, none⟩) 1 1, [(i : Int)], d + 1⟩]) (d2 + 1) := SlA.ofNew (H := (H1.new d [Value.int .u8 i].toArray 5)) (e := 36) (cs := ([Value.agg #[.int .i64 a, .int .i64 j, .slice (some ⟨d, 0, none⟩) 1 1]].flatMap fun v => v.cells.toList).toArray) rfl (by omega) (by simp [maxLen]) (by simp [cells_agg]) (fun j _ => by simp [cells_agg, pkCells])
          have hkn : Kp (fun _ => False) nx1 H1 ((H1.new d [Value.int .u8 i].toArray 5).new d2 ([Value.agg #[.int .i64 a, .int .i64 j, .slice (some ⟨d, 0, none⟩) 1 1]].flatMap fun v => v.cells.toList).toArray 36) := (by repeat first | exact Kp.refl _ _ _ | refine Kp.dropT ?_ (.inl (by omega)) | refine Kp.put ?_ (.inl (by omega)) | refine Kp.new ?_ (by omega) | refine Kp.put ?_ (.inr (by omega)) | refine Kp.trans0 ?_ (by assumption) (by omega) | refine Kp.transS ?_ (by assumption) (by omega) (fun b hb hT => by first | omega | (dsimp only at hT ⊢; omega) | (simp only at hT ⊢; omega))) 
          have hsq := hs1.kp hkn (nx' := d2 + 1) (by omega) (by simp)
          simp (disch := omega) only [go_sem, ↓reduceIte ]
          refine appendQ_two (aw_append sl27 zero36 rfl by36 hsq (hlit.src sl27 (by simp [pkCells, one_int, one_slice])) (by simp only [maxLen]; omega) (by omega) (by omega) fun v4 H4 nx4 own4 hn4 hs4 ho4 hk4 _ => ?_)
          have hk14 : Kp (fun b => b + 1 = own5) nx1 H1 H4 := hkn.trans (U := fun b => b + 1 = own5) hk4 (by omega) (fun _ _ h => h.elim) (fun _ _ h => h)
          simp (disch := omega) only [go_sem, ↓reduceIte ]
          refine ⟨4 - j, by omega, j + 1, l2 ++ [⟨a, j, .slice (some ⟨d, 0, none⟩) 1 1, [(i : Int)], d + 1⟩], own4, v4, ⟨by omega, by omega, ?_, by omega, ?_, ?_, g41, by omega, n41, ?_, ?_, ?_, by omega, by omega, by omega, by omega, fun k hk => ?_, fun k hk => ?_⟩⟩
          · simp [sendsC, hu]
          · exact hk1.trans (U := fun _ => False) hk14 hx1 (fun _ _ h => h) (fun b hb h => by omega)
          · exact hE1.kp hk14 (by omega) (by omega) (by intro b hb; omega) (fun k hk b hb => by have := pk1 k hk; omega)
          · intro y z hy hz
            rw [hk14.cell _ _ lt41 (by omega)]
            exact hup1 y z hy hz
          · rw [List.length_append, pkCells_append]
            exact hs4
          · simp [views] at hv1
            simp [views, hv1, sendsC, hu, Pkt.view]
          · have p1 := pk1 k hk
            have p2 := (hE1.pk k hk).1.le
            omega
          · rcases List.mem_append.1 hk with hk | hk
            · obtain ⟨p1, p2, p3, p4', p5⟩ := pk2 k hk
              have p6 := p1.le
              exact ⟨p1.kp hk14 (by omega) (by intro b hb; omega), p2, p3, p4', by omega⟩
            · simp only [List.mem_singleton] at hk
              subst hk
              refine ⟨?_, by dsimp only; omega, by dsimp only; omega, by dsimp only; omega, by dsimp only; omega⟩
              exact (hsb.kp (S := fun _ => False) (nx' := d2 + 1) ((Kp.refl _ _ _).new hd2) (by omega) (by simp)).kp hk4 hn4 (by intro b hb; omega)
      · obtain rfl : j = 5 := by omega
        simp (disch := omega) only [go_sem, ↓reduceIte ]
        exact hK1 _ _ _ ⟨l2, own5, _, _, ⟨rfl, hx1, hk1, hE1, g41, lt41, n41, hup1, hs1, hv1, o5x, o54, o5, lo5, pk1, pk2⟩⟩
    · obtain ⟨henv, hx1, hk1, hE1, g41, lt41, n41, hup1, hs1, hv1, o5x, o54, o5, lo5, pk1, pk2⟩ := hE
      subst henv
      have hle1 := hs1.le
      have hEl := hE1.q.choose_spec.2.le
      have hltx1 := hE1.lt
      have q1 := hP.o4
      simp (disch := omega) only [go_sem, ↓reduceIte ]
      refine buildSQ_cs (n := 1) [.int .u8 i] [.int .u8 i] sl34 zero5 (by omega) (by omega) rfl (by simp [cells_int]) rfl fun d hd => ?_
      have hsb : SlA (d + 1) (H1.new d [Value.int .u8 i].toArray 5) 1 (.slice (some ⟨d, 0, none⟩) 1 1) 1 (byteV [(i : Int)]) (d + 1) := SlA.ofNew rfl (by omega) (by simp [maxLen]) (by simp) (fun j _ => by simp [byteV])
      have hkn : Kp (fun _ => False) nx1 H1 (H1.new d [Value.int .u8 i].toArray 5) := (by repeat first | exact Kp.refl _ _ _ | refine Kp.dropT ?_ (.inl (by omega)) | refine Kp.put ?_ (.inl (by omega)) | refine Kp.new ?_ (by omega) | refine Kp.put ?_ (.inr (by omega)) | refine Kp.trans0 ?_ (by assumption) (by omega) | refine Kp.transS ?_ (by assumption) (by omega) (fun b hb hT => by first | omega | (dsimp only at hT ⊢; omega) | (simp only at hT ⊢; omega))) 
      simp (disch := omega) only [go_sem, ↓reduceIte ]
      refine (send_ok (hE1.new hd) (by omega) a (by omega) (bs := [(i : Int)]) hsb (by simp) (by omega) (by omega)).mono fun v H5 nx5 _ ⟨hv5, hx5, hk5, l', own', hE5, hvw, ho', hfr⟩ => ?_
      rw [show (16 : Nat) = 5 + 11 from rfl, sends_five hP.up0] at hv5 hvw
      subst hv5
      have hsl := sends_length up a [(i : Int)] 5
      rw [trim_small _ (by simp [views]; omega)] at hvw
      have hll : l'.length = l.length + (sendsC up a [(i : Int)] 5).length := by
        have := congrArg List.length hvw
        simpa [views] using this
      have hk15 : Kp (fun b => b = x ∨ b + 1 = own) nx1 H1 H5 := hkn.trans (U := fun b => b = x ∨ b + 1 = own) hk5 (by omega) (fun _ _ h => h.elim) (fun _ _ h => h)
      simp (disch := omega) only [go_sem, ↓reduceIte ]
      refine hK _ _ _ ⟨up, l', l2, own', own5, _, _, ⟨rfl, by omega, hk1.trans (U := fun _ => False) hk15 hx1 (fun _ _ h => h) (fun b hb h => by omega), ⟨hE5, g41, by omega, n41, fun y z hy hz => ?_, hP.up0, hs1.kp hk15 (by omega) (by intro b hb; omega), by rw [hv1, hvw], fun k hk => ?_, by omega, o5x, o54, by omega, by omega, fun k hk => ?_, fun k hk => ?_⟩, by omega, lo5, by omega⟩⟩
      · rw [hk15.cell _ _ lt41 (by omega)]
        exact hup1 y z hy hz
      · have hm : k.view ∈ views l' := List.mem_map_of_mem hk
        rw [hvw, List.mem_append] at hm
        rcases hm with hm | hm
        · simp only [views, List.mem_map] at hm
          obtain ⟨k0, hk0, hke⟩ := hm
          have := hP.hb k0 hk0
          have e2 : k0.bs = k.bs := congrArg (fun z => z.2.2) hke
          rw [← e2]; exact this
        · have := sends_bs up a [(i : Int)] 5 _ hm
          have e2 : k.bs = [(i : Int)] := this
          rw [e2]; rfl
      · rcases hfr k hk with h | h | h
        · exact ⟨(hP.pk1 k h).1, pk1 k h⟩
        · exact ⟨by omega, .inl h⟩
        · exact ⟨by omega, by omega⟩
      · obtain ⟨p1, p2, p3, p4', p5⟩ := pk2 k hk
        have p6 := p1.le
        exact ⟨p1.kp hk15 (by omega) (by intro b hb; omega), p2, p3, by omega, p5⟩
end Go.Proofs.Ytcdnjkogkibegaa
