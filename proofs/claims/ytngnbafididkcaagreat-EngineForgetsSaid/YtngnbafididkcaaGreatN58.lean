/- Engine: Links: in our own logic. -/
import Derived.Test.YtngnbafididkcaaGreatN57
namespace Go.Proofs.YtngnbafididkcaaGreat
open Go.RowKit
set_option linter.unusedSimpArgs false

def linksPt (e : Eng) (l : List Int) : List Prt := l.map fun n => ⟨2, 0, n, 0, 0, 0, costN e n⟩
theorem linksPt_snoc (e : Eng) (l : List Int) (n : Int) : linksPt e (l ++ [n]) = linksPt e l ++ [⟨2, 0, n, 0, 0, 0, costN e n⟩] := by simp [linksPt]
/-- Within the loop. -/
structure LksI (lo nx0 : Nat) (H0 : AH) (p : Nat) (col0 : Nat → Nat) (e : Eng) (y : ELay) (ks : List Int) (v9 : Value) (o9 : Nat) (m : Nat) (env : Env) (H : AH) (nx i : Nat) (v : Value) (own : Nat) : Prop where
  hm : m = ks.length - i
  hi : i ≤ ks.length
  henv : env = [(0, .pointer (some ⟨p, 0, none⟩)), (3, v), (14, v9), (15, .int .i64 ks.length), (16, .int .i64 i)]
  st : EngS lo nx0 H0 p col0 e H nx y col0
  sl : SlA nx H 7 v (linksPt e (ks.take i)).length (ptCells (linksPt e (ks.take i))) own
  ow : own = 0 ∨ nx0 < own
  s9 : SlA nx H 1 v9 ks.length (ks.map encZ) o9
  n9 : o9 = 0 ∨ o9 ≠ own
set_option maxHeartbeats 4000000 in
set_option maxRecDepth 20000 in
theorem elinks_c {lo nx : Nat} {H : AH} {p : Nat} {e : Eng} {y : ELay} {col : Nat → Nat} (hA : EngA lo nx H p e y col) (hkl : e.lk.length ≤ 1000) (hkw : ∀ a ∈ e.lk, (Lit.int .i64 a.1).wf = true) (hlk : ∀ a ∈ e.lk, 0 ≤ andI .u16 a.2.came 7 ∧ andI .u16 a.2.came 7 < 8) :
    ACalls Tryz.prog lo 32 #[.pointer (some ⟨p, 0, none⟩)] H nx (fun v H' nx' => ∃ ks own, ks.Perm (e.lk.map (·.1)) ∧ ks.Pairwise (· ≤ ·) ∧ EngS lo nx H p col e H' nx' y col ∧ SlA nx' H' 7 v ks.length (ptCells (linksPt e ks)) own ∧ (own = 0 ∨ nx < own)) := by
  refine ACalls.withLo fun hlo => ?_
  refine acalls_of_awp L32 Tryz.func32 rfl (by kernel_rfl) ?_
  have c1 := hA.c.c1
  have hpn := hA.k.lt hA.k.kp (by omega)
  simp (disch := omega) only [go_sem, ↓reduceIte , c1]
  refine keysI_c.mono fun r H3 nx3 _ ⟨b3, hb3, hn3, hr, hc3, hk3⟩ => ?_
  subst hr; subst hn3
  have s3 := (EngS.refl hA).still hk3 (show nx ≤ b3 + 1 by omega)
  obtain ⟨ob, hob, hM⟩ := s3.a.lk.lm
  simp (disch := omega) only [go_sem, ↓reduceIte ]
  refine (sortedKeysI_c (show b3 < b3 + 1 by omega) hc3 hob hM (fun a ha => by
    obtain ⟨z, hz, rfl⟩ := List.mem_map.1 ha
    exact hkw z hz) (by rw [List.length_map]; omega)).mono fun r H4 nx4 _ ⟨own9, ks, hp9, hsd9, hs9, ho9, hx9, hk9⟩ => ?_
  rw [List.map_map] at hp9
  have hp9 : ks.Perm (e.lk.map (·.1)) := hp9
  have s4 := s3.still hk9 hx9
  have hone9 := hs9.one
  have hkl9 : ks.length ≤ 1000 := by rw [hp9.length_eq, List.length_map]; exact hkl
  obtain ⟨va, vc, rfl⟩ := hs9.form
  simp (disch := omega) only [go_sem, ↓reduceIte , hone9]
  refine awp_loop (fun m env H' nx' => ∃ i v own, LksI lo nx H p col e y ks (.slice va ks.length vc) own9 m env H' nx' i v own) ks.length ⟨0, .slice none 0 0, 0, ⟨by omega, by omega, rfl, s4, SlA.nil _ _ _, .inl rfl, hs9, by omega⟩⟩ (fun m env H5 nx5 ⟨i, v, own, hI⟩ hnx => ?_)
  obtain ⟨hm, hi, henv, st, hsl, how, hs, hn9⟩ := hI
  subst henv
  have hle := st.le
  have hlo5 : lo ≤ nx5 := by omega
  have hov := hsl.one
  by_cases hlt : i < ks.length
  · obtain ⟨g, off, cap, hv, hgo⟩ := hs.open (by omega)
    simp only [Value.slice.injEq, true_and] at hv
    obtain ⟨rfl, rfl⟩ := hv
    have hx0 : ks[i]? = some ks[i] := List.getElem?_eq_getElem hlt
    have hld := hs.cells.1 i (.int .i64 ks[i]) (by rw [List.getElem?_map, hx0]; rfl)
    have htk : ks.take (i + 1) = ks.take i ++ [ks[i]] := by rw [List.take_succ_eq_append_getElem hlt]
    generalize ks[i] = n at hld hx0 htk
    have hcast : ((i : Int) + 1) = ((i + 1 : Nat) : Int) := by omega
    have hPl : (linksPt e (ks.take i)).length ≤ 1000 := by unfold linksPt; rw [List.length_map, List.length_take]; omega
    have sn := linksPt_snoc e (ks.take i) n
    rw [← htk] at sn
    simp (disch := omega) only [go_sem, ↓reduceIte , hld, Nat.mul_one, hov]
    refine (show ACalls Tryz.prog lo 49 #[.pointer (some ⟨p, 0, none⟩), .int .i64 n] H5 nx5 (fun v H' nx' => v = .int .u16 (costN e n) ∧ nx' = nx5 ∧ H' = H5) from ecost_c st.a hlk n).mono fun r H6 nx6 _ ⟨hr, hx6, hH6⟩ => ?_
    subst hr; cases hx6; cases hH6
    generalize costN e n = c at sn ⊢
    simp (disch := omega) only [go_sem, ↓reduceIte , hov]
    refine buildSQ_all (n := 1) [.agg #[.int .u8 2, .int .u64 0, .int .i64 n, .int .u32 0, .int .u8 0, .int .u16 0, .int .u16 c]] sl34 zero32 (by omega) (by omega) rfl (by simp [cells_agg]) fun f hf => ?_
    have hlit := pt_lit H5 f 32 ⟨2, 0, n, 0, 0, 0, c⟩
    have hs6 := hsl.new (vs := ([Value.agg #[.int .u8 2, .int .u64 0, .int .i64 n, .int .u32 0, .int .u8 0, .int .u16 0, .int .u16 c]].flatMap fun v => v.cells.toList).toArray) (e := 32) hf
    have hle5 := hsl.le
    have hle9 := hs.le
    simp (disch := omega) only [go_sem, ↓reduceIte , hov]
    refine appendQ_two (aw_append sl34 zero32 rfl by32 hs6 (hlit.src sl34 ptCells_one) (by simp only [maxLen]; omega) (by omega) (by omega) fun v7 H7 nx7 own7 hn7 hs7 ho7 hk7 _ => ?_)
    have hone7 := hs7.one
    have k7 : Kp (fun b => b + 1 = own) nx5 H5 H7 := (by repeat first | exact Kp.refl _ _ _ | refine Kp.dropT ?_ (.inl (by omega)) | refine Kp.put ?_ (.inl (by omega)) | refine Kp.new ?_ (by omega) | refine Kp.put ?_ (.inr (by omega)) | refine Kp.newO ?_ (by omega) | refine Kp.setO ?_ (.inl (by omega)) | refine Kp.setO ?_ (.inr (by omega)) | refine Kp.trans0 ?_ (by assumption) (by omega) | refine Kp.transS ?_ (by assumption) (by omega) (fun b hb hT => by first | omega | (dsimp only at hT ⊢; omega) | (simp only at hT ⊢; omega))) 
    have hcol : ∀ b, b + 1 = own → col b = 0 := fun b hb => Classical.byContradiction fun hc => by have := hA.k.rng b hc; omega
    have st7 := st.step (k7.mono (Nat.le_refl _) (fun b _ hb => .inr (by omega))) (show nx5 ≤ nx7 by omega) (st.a.kp' (nx' := nx7) k7 (by omega) (fun b hb hs => hb (hcol b hs))) (fun b hb => .inl hb)
    simp (disch := omega) only [go_sem, ↓reduceIte , hone7, hcast]
    refine ⟨ks.length - (i + 1), by omega, i + 1, v7, own7, ⟨rfl, by omega, rfl, st7, ?_, by omega, hs.kp k7 (by omega) (by omega), by omega⟩⟩
    rw [sn, List.length_append, ptCells_append]
    exact hs7
  · have ei : i = ks.length := by omega
    subst ei
    rw [List.take_length] at hsl
    simp (disch := omega) only [go_sem, ↓reduceIte , hov]
    refine ⟨ks, own, hp9, hsd9, st, ?_, how⟩
    have hl : (linksPt e ks).length = ks.length := by unfold linksPt; rw [List.length_map]
    rw [← hl]
    exact hsl
end Go.Proofs.YtngnbafididkcaaGreat
