/- Engine: Tick: in our own logic. -/
import Derived.Test.YtngnbafididkcaaGreatN56
import Derived.Test.YtngnbafididkcaaGreatN22
import Derived.Test.YtngnbafididkcaaGreatS6
namespace Go.Proofs.YtngnbafididkcaaGreat
open Go.RowKit
set_option linter.unusedSimpArgs false

theorem lalive_c {lo : Nat} {H : AH} {nx b : Nat} {l : Lnk} (h : LnA H b l) : ACalls Tryz.prog lo 66 #[.pointer (some ⟨b, 0, none⟩)] H nx (fun v H' nx' => v = .bool (!decide (l.came = 0)) ∧ nx' = nx ∧ H' = H) := by
  refine acalls_of_awp L66 Tryz.func66 rfl (by kernel_rfl) ?_
  obtain ⟨c0, c1, c2, c3, c4⟩ := h
  by_cases hz : l.came = 0
  · simp (disch := omega) only [go_sem, ↓reduceIte , c0, hz]
  · simp (disch := omega) only [go_sem, ↓reduceIte , c0, hz]
def dropT (n : Int) (ts : List Tld) : List Tld := ts.filter fun t => !decide (t.who = n)
def tick1 (now : Int) (e : Eng) (n : Int) : Eng :=
  match getA n e.lk with
  | some l => { e with lk := setA n (tickL now l) e.lk, ts := if (tickL now l).came = 0 then dropT n e.ts else e.ts }
  | none => e
/-- What Tick does. -/
def tickE (now : Int) (ks : List Int) (e : Eng) : Eng := { ks.foldl (tick1 now) e with ts := liveT now (ks.foldl (tick1 now) e).ts }
theorem getA_setA {β : Type} {a b : Int} {v : β} (h : a ≠ b) : ∀ l : List (Int × β), getA a (setA b v l) = getA a l
  | [] => by
    show getA a [(b, v)] = none
    unfold getA
    rw [if_neg (fun e => h e.symm)]
    rfl
  | c :: l => by
    unfold setA
    by_cases hc : c.1 = b
    · rw [if_pos hc]
      unfold getA
      rw [if_neg (fun e => h e.symm), if_neg (fun e => h (by rw [← e]; exact hc))]
    · rw [if_neg hc]
      unfold getA
      by_cases ha : c.1 = a
      · rw [if_pos ha, if_pos ha]
      · rw [if_neg ha, if_neg ha]
        exact getA_setA h l
theorem tick1_some {now : Int} {e : Eng} {n : Int} {l : Lnk} (h : getA n e.lk = some l) : tick1 now e n = { e with lk := setA n (tickL now l) e.lk, ts := if (tickL now l).came = 0 then dropT n e.ts else e.ts } := by
  unfold tick1
  rw [h]
theorem tick1_other {now : Int} {e : Eng} {n m : Int} (h : m ≠ n) : getA m (tick1 now e n).lk = getA m e.lk := by
  unfold tick1
  split
  · exact getA_setA h _
  · rfl
theorem tick1_len {now : Int} {e : Eng} {n : Int} : (tick1 now e n).ts.length ≤ e.ts.length := by
  unfold tick1
  split
  · show (if _ then dropT n e.ts else e.ts).length ≤ _
    split
    · exact List.length_filter_le _ _
    · omega
  · omega
theorem ticks_other {now : Int} {m : Int} : ∀ (l : List Int) (e : Eng), m ∉ l → getA m (l.foldl (tick1 now) e).lk = getA m e.lk
  | [], _, _ => rfl
  | n :: l, e, h => by
    rw [List.foldl_cons, ticks_other l _ (fun hc => h (List.mem_cons_of_mem _ hc)), tick1_other (fun hc => h (by rw [hc]; exact List.mem_cons_self))]
theorem ticks_len {now : Int} : ∀ (l : List Int) (e : Eng), (l.foldl (tick1 now) e).ts.length ≤ e.ts.length
  | [], _ => Nat.le_refl _
  | n :: l, e => by
    rw [List.foldl_cons]
    exact Nat.le_trans (ticks_len l _) tick1_len
theorem getA_has' {β : Type} {a : Int × β} : ∀ {l : List (Int × β)}, a ∈ l → (getA a.1 l).isSome = true
  | [], h => by cases h
  | b :: l, h => by
    unfold getA
    by_cases hb : b.1 = a.1
    · rw [if_pos hb]; rfl
    · rw [if_neg hb]
      rcases List.mem_cons.1 h with rfl | h
      · exact absurd rfl hb
      · exact getA_has' h
theorem uq_keys {β : Type} : ∀ {l : List (Int × β)}, UqA l → (l.map (·.1)).Nodup := fun {l} h => by
  unfold UqA at h
  exact List.pairwise_map.2 h
/-- Within the loop. -/
structure TkI (lo nx0 : Nat) (H0 : AH) (p : Nat) (col0 : Nat → Nat) (e : Eng) (ks : List Int) (now : Int) (v9 : Value) (o9 : Nat) (m : Nat) (env : Env) (H : AH) (nx i : Nat) (y : ELay) (col : Nat → Nat) : Prop where
  hm : m = ks.length - i
  hi : i ≤ ks.length
  henv : env = [(0, .pointer (some ⟨p, 0, none⟩)), (1, .int .u64 now), (14, v9), (15, .int .i64 ks.length), (16, .int .i64 i)]
  st : EngS lo nx0 H0 p col0 ((ks.take i).foldl (tick1 now) e) H nx y col
  s9 : SlA nx H 1 v9 ks.length (ks.map encZ) o9
  c9 : ∀ b, b + 1 = o9 → col b = 0
theorem TkI.next {lo nx nx' : Nat} {H H' : AH} {p : Nat} {e' : Eng} {y' : ELay} {col col' : Nat → Nat} {v9 : Value} {n o9 : Nat} {xs : List Value} (s : EngS lo nx H p col e' H' nx' y' col') (h9 : SlA nx H 1 v9 n xs o9) (c9 : ∀ b, b + 1 = o9 → col b = 0) : SlA nx' H' 1 v9 n xs o9 ∧ ∀ b, b + 1 = o9 → col' b = 0 :=
  ⟨h9.kp s.kp s.le (fun b hb => by rw [c9 b hb]; simp), fun b hb => Classical.byContradiction fun hc => by
    have hle := h9.le
    rcases s.fp b hc with h | h
    · exact h (c9 b hb)
    · omega⟩
/-- What is told changes: a step. -/
theorem EngS.toTs {lo nx nx' : Nat} {H H' : AH} {p : Nat} {e : Eng} {y : ELay} {col : Nat → Nat} (hA : EngA lo nx H p e y col) {ts' ts'' : List Tld} (hn : nx ≤ nx') (hk : Kp (fun b => b = y.pr ∨ b + 1 = y.orr) nx H H') (hR : RouA lo nx' H' y.pr ts' y.orr) (hp : ts'.Perm ts'') :
    EngS lo nx H p col { e with ts := ts'' } H' nx' { y with orr := y.orr } (recol col y.orr 2) :=
  ⟨hn, hk.mono (Nat.le_refl _) (fun b _ hb => by
    rcases hb with hb | hb
    · rw [hb, hA.k.kr]; omega
    · rw [hA.k.kr2 b hb]; omega), hA.setTs hn hk hR (.inl rfl) hp, recol_fp (fun b hb => .inl (by rw [hA.k.kr2 b hb]; omega))⟩
set_option maxHeartbeats 4000000 in
set_option maxRecDepth 20000 in
theorem etick_c {lo nx : Nat} {H : AH} {p : Nat} {e : Eng} {y : ELay} {col : Nat → Nat} (hA : EngA lo nx H p e y col) (now : Int) (hnow : 0 ≤ now ∧ now ≤ 1000000) (hkl : e.lk.length ≤ 1000) (hkw : ∀ a ∈ e.lk, (Lit.int .i64 a.1).wf = true) (hln : ∀ a ∈ e.lk, (0 ≤ a.2.next ∧ a.2.next ≤ 1000000) ∧ 0 ≤ a.2.quiet ∧ a.2.quiet ≤ 1000000) (htl : e.ts.length ≤ 1000000) :
    ACalls Tryz.prog lo 31 #[.pointer (some ⟨p, 0, none⟩), .int .u64 now] H nx (fun v H' nx' => v = .tuple #[] ∧ ∃ ks y' col', ks.Perm (e.lk.map (·.1)) ∧ ks.Pairwise (· ≤ ·) ∧ EngS lo nx H p col (tickE now ks e) H' nx' y' col') := by
  refine ACalls.withLo fun hlo => ?_
  refine acalls_of_awp L31 Tryz.func31 rfl (by kernel_rfl) ?_
  have c1 := hA.c.c1
  have hpn := hA.k.lt hA.k.kp (by omega)
  simp (disch := omega) only [go_sem, ↓reduceIte , c1]
  refine keysI_c.mono fun r H3 nx3 _ ⟨b3, hb3, hn3, hr, hc3, hk3⟩ => ?_
  subst hr; subst hn3
  have s3 := (EngS.refl hA).still hk3 (show nx ≤ b3 + 1 by omega)
  obtain ⟨ob, hob, hM⟩ := s3.a.lk.lm
  have huq := s3.a.lk.uq
  simp (disch := omega) only [go_sem, ↓reduceIte ]
  refine (sortedKeysI_c (show b3 < b3 + 1 by omega) hc3 hob hM (fun a ha => by
    obtain ⟨z, hz, rfl⟩ := List.mem_map.1 ha
    exact hkw z hz) (by rw [List.length_map]; omega)).mono fun r H4 nx4 _ ⟨own9, ks, hp9, hsd9, hs9, ho9, hx9, hk9⟩ => ?_
  rw [List.map_map] at hp9
  have hp9 : ks.Perm (e.lk.map (·.1)) := hp9
  have hnd : ks.Nodup := hp9.nodup_iff.2 (uq_keys huq)
  have s4 := s3.still hk9 hx9
  have hone9 := hs9.one
  have hkl9 : ks.length ≤ 1000 := by rw [hp9.length_eq, List.length_map]; exact hkl
  have hc9 : ∀ b, b + 1 = own9 → col b = 0 := fun b hb => Classical.byContradiction fun hc => by have := hA.k.rng b hc; omega
  obtain ⟨va, vc, rfl⟩ := hs9.form
  simp (disch := omega) only [go_sem, ↓reduceIte , hone9]
  refine awp_loop (fun m env H' nx' => ∃ i y' col', TkI lo nx H p col e ks now (.slice va ks.length vc) own9 m env H' nx' i y' col') ks.length ⟨0, y, col, ⟨by omega, by omega, rfl, s4, hs9, hc9⟩⟩ (fun m env H5 nx5 ⟨i, y5, c5, hI⟩ hnx => ?_)
  obtain ⟨hm, hi, henv, st, hs, hcs⟩ := hI
  subst henv
  have hle := st.le
  have hlo5 : lo ≤ nx5 := by omega
  have d2 := st.a.c.c2
  have hpn5 := st.a.k.lt st.a.k.kp (by omega)
  have htl5 := ticks_len (now := now) (ks.take i) e
  by_cases hlt : i < ks.length
  · obtain ⟨g, off, cap, hv, hgo⟩ := hs.open (by omega)
    simp only [Value.slice.injEq, true_and] at hv
    obtain ⟨rfl, rfl⟩ := hv
    have hx0 : ks[i]? = some ks[i] := List.getElem?_eq_getElem hlt
    have hld := hs.cells.1 i (.int .i64 ks[i]) (by rw [List.getElem?_map, hx0]; rfl)
    have htk : ks.take (i + 1) = ks.take i ++ [ks[i]] := by rw [List.take_succ_eq_append_getElem hlt]
    have hnot : ks[i] ∉ ks.take i := fun hc => by
      have h2 := hnd
      rw [← List.take_append_drop i ks, List.nodup_append] at h2
      exact h2.2.2 _ hc _ (by rw [List.drop_eq_getElem_cons hlt]; exact List.mem_cons_self) rfl
    have hkn : (getA ks[i] e.lk).isSome = true := by
      obtain ⟨a, ha, hae⟩ := List.mem_map.1 (hp9.mem_iff.1 (List.getElem_mem hlt))
      rw [← hae]
      exact getA_has' ha
    have hoth := ticks_other (now := now) (ks.take i) e hnot
    generalize ks[i] = n at hld hx0 htk hnot hkn hoth
    obtain ⟨l, hl⟩ := Option.isSome_iff_exists.1 hkn
    have hmem := getA_mem hl
    rw [hl] at hoth
    have d1 := st.a.c.c1
    have hll := lk_look st.a.lk n
    rw [hoth, Option.map_some] at hll
    have hm5 := getA_mem hoth
    have hb9 := st.a.k.kb _ hm5
    have hbl := st.a.k.lt hb9 (by omega)
    have hln0 := hln _ hmem
    have hcast : ((i : Int) + 1) = ((i + 1 : Nat) : Int) := by omega
    simp (disch := omega) only [go_sem, ↓reduceIte , hld, Nat.mul_one, d1, hll]
    refine (ltick_c (st.a.lk.ln _ hm5) hbl now hnow hln0.1 hln0.2).mono fun r H6 nx6 _ ⟨hr, hx6, hk6, hl6⟩ => ?_
    subst hr; cases hx6
    have a6 := st.a.setLk hoth hk6 hl6
    have s6 : EngS lo nx5 H5 p c5 { (ks.take i).foldl (tick1 now) e with lk := setA n (tickL now l) ((ks.take i).foldl (tick1 now) e).lk } H6 nx5 y5 c5 := ⟨Nat.le_refl _, hk6.mono (Nat.le_refl _) (fun b _ hb => by rw [hb, hb9]; omega), a6, fun b hb => .inl hb⟩
    simp (disch := omega) only [go_sem, ↓reduceIte ]
    refine (lalive_c hl6).mono fun r H7 nx7 _ ⟨hr, hx7, hH7⟩ => ?_
    subst hr; subst hx7; subst hH7
    have hstep : (ks.take (i + 1)).foldl (tick1 now) e = { (ks.take i).foldl (tick1 now) e with lk := setA n (tickL now l) ((ks.take i).foldl (tick1 now) e).lk, ts := if (tickL now l).came = 0 then dropT n ((ks.take i).foldl (tick1 now) e).ts else ((ks.take i).foldl (tick1 now) e).ts } := by
      rw [htk, List.foldl_append, List.foldl_cons, List.foldl_nil]
      exact tick1_some hoth
    generalize (ks.take i).foldl (tick1 now) e = e5 at st hoth hll s6 a6 hstep htl5
    by_cases hz : (tickL now l).came = 0
    · rw [if_pos hz] at hstep
      obtain ⟨ts, hpt, hR⟩ := a6.rt
      have d26 := a6.c.c2
      simp (disch := omega) only [go_sem, ↓reduceIte , hz, d26]
      refine (rdrop_c hR (by rw [hpt.length_eq]; show e5.ts.length ≤ _; omega) n).mono fun r H8 nx8 _ ⟨hr, hx8, hk8, hR8⟩ => ?_
      subst hr
      have s8 := EngS.toTs (ts'' := dropT n e5.ts) a6 hx8 hk8 hR8 (hpt.filter _)
      have st8 := (st.trans s6).trans s8
      have h9 := TkI.next (s6.trans s8) hs hcs
      simp (disch := omega) only [go_sem, ↓reduceIte , hcast]
      exact ⟨ks.length - (i + 1), by omega, i + 1, _, _, ⟨rfl, by omega, rfl, by rw [hstep]; exact st8, h9.1, h9.2⟩⟩
    · rw [if_neg hz] at hstep
      have st8 := st.trans s6
      have h9 := TkI.next s6 hs hcs
      simp (disch := omega) only [go_sem, ↓reduceIte , hz, hcast]
      exact ⟨ks.length - (i + 1), by omega, i + 1, _, _, ⟨rfl, by omega, rfl, by rw [hstep]; exact st8, h9.1, h9.2⟩⟩
  · have ei : i = ks.length := by omega
    subst ei
    rw [List.take_length] at st htl5
    obtain ⟨ts, hpt, hR⟩ := st.a.rt
    simp (disch := omega) only [go_sem, ↓reduceIte , d2]
    refine (rtick_c hR (by rw [hpt.length_eq]; omega) now).mono fun r H8 nx8 _ ⟨hr, hx8, hk8, hR8⟩ => ?_
    subst hr
    have s8 := EngS.toTs (ts'' := liveT now (ks.foldl (tick1 now) e).ts) st.a hx8 hk8 hR8 (hpt.filter _)
    simp (disch := omega) only [go_sem, ↓reduceIte ]
    exact ⟨ks, _, _, hp9, hsd9, st.trans s8⟩
end Go.Proofs.YtngnbafididkcaaGreat
