/- EngineBegins: in our own logic: its first loop. EngineBegins: in our own logic: its inner loops. -/
import Derived.Test.YtngnbafididkcaaGreatA7
import Derived.Test.YtngnbafididkcaaGreatK1
import Derived.Test.YtngnbafididkcaaGreatG4
section
namespace Go.Proofs.YtngnbafididkcaaGreat
open Go.RowKit
set_option linter.unusedSimpArgs false
theorem px_parts {nx : Nat} {H : AH} {g off c n own : Nat} {l : List (Int × Int)} (hs : SlA nx H 2 (.slice (some ⟨g, off, none⟩) n c) n (pxC l) own) {i : Nat} {x : Int × Int} (hi : l[i]? = some x) :
    H.c g (off + i * 2) = some (.int .u32 x.1) ∧ H.c g (off + i * 2 + 1) = some (.int .u8 x.2) := by
  have key : ∀ (k : Nat) (v : Value), k < 2 → ([Value.int .u32 x.1, .int .u8 x.2] : List Value)[k]? = some v → H.c g (off + i * 2 + k) = some v := fun k v hk hv => by
    have h := hs.cells.1 (2 * i + k) v (by
      have := flat_get (f := fun x : Int × Int => [Value.int .u32 x.1, .int .u8 x.2]) (n := 2) (fun _ => rfl) l i x hi k hk
      rw [← hv]
      exact this)
    rw [← h]
    congr 1
    omega
  exact ⟨key 0 _ (by omega) rfl, key 1 _ (by omega) rfl⟩
def pxIn (p : Int × Int) : Prop := (0 ≤ p.1 ∧ p.1 ≤ 4294967295) ∧ 0 ≤ p.2 ∧ p.2 ≤ 255
noncomputable def bgL1 : Code := codeAt [.T, .T, .T, .T, .H, .T, .I] ((Tryz.f12.body).getD .skip)
structure B1I (nx0 : Nat) (H0 : AH) (l : List (Int × Int)) (v0 v9 : Value) (id : Int) (b7 m : Nat) (env : Env) (H : AH) (nx i : Nat) (ps : List (Int × Int)) (v : Value) (own : Nat) : Prop where
  hm : m = l.length - i
  hi : i ≤ l.length
  henv : env = [(0, v0), (2, .int .u8 id), (7, .pointer (some ⟨b7, 0, none⟩)), (9, v9), (10, v), (11, .int .i64 (i : Nat))]
  hx : nx0 ≤ nx
  hk : Kp (fun _ => False) nx0 H0 H
  sl : SlA nx H 2 v ps.length (pxC ps) own
  ow : own = 0 ∨ nx0 < own
  mem : ∀ p ∈ ps, pxIn p
  len : ps.length ≤ i
  l4 : ps.length ≤ 4 ∧ i ≤ 4
set_option maxHeartbeats 4000000 in
set_option maxRecDepth 20000 in
theorem beg_l1 {lo nx0 : Nat} {H0 : AH} {l : List (Int × Int)} {v0 v9 : Value} {id : Int} {b7 own0 : Nat} {K0 : Env → AH → Nat → Prop} {Q : Exit → Env → AH → Nat → Prop} (hlo : lo ≤ nx0) (hs : SlA nx0 H0 2 v0 l.length (pxC l) own0) (hl : l.length ≤ 20)
    (hK : ∀ ps v own H nx (i : Nat), ps.length ≤ 4 → (∀ p ∈ ps, pxIn p) → SlA nx H 2 v ps.length (pxC ps) own → (own = 0 ∨ nx0 < own) → nx0 ≤ nx → Kp (fun _ => False) nx0 H0 H → K0 [(0, v0), (2, .int .u8 id), (7, .pointer (some ⟨b7, 0, none⟩)), (9, v9), (10, v), (11, .int .i64 (i : Nat)), (58, .bool false)] H nx) :
    awp Tryz.prog lo L12 bgL1 (blockQ 0 (thenQ K0 Q)) [(0, v0), (2, .int .u8 id), (7, .pointer (some ⟨b7, 0, none⟩)), (9, v9), (10, .slice none 0 0), (11, .int .i64 (0 : Nat))] H0 nx0 := by
  have hcode : bgL1 = codeAt [.T, .T, .T, .T, .H, .T, .I] ((Tryz.f12.body).getD .skip) := rfl
  simp only [Tryz.f12, Option.getD_some, codeAt_H, codeAt_T, codeAt_I, codeAt_L, codeAt_C, codeAt_P, codeAt_nil] at hcode
  rw [hcode]
  clear hcode
  refine awp_loop (fun m env H nx => ∃ i ps v own, B1I nx0 H0 l v0 v9 id b7 m env H nx i ps v own) l.length ⟨0, [], .slice none 0 0, 0, ⟨by omega, by omega, rfl, Nat.le_refl _, Kp.refl _ _ _, SlA.nil _ _ _, .inl rfl, by simp, by simp, by simp⟩⟩ (fun m env H nx ⟨i, ps, v, own, hI⟩ hnx => ?_)
  obtain ⟨hm, hi, henv, hx, hk, sl, ow, mem, len, l4⟩ := hI
  subst henv
  have hov := sl.one
  by_cases hil : i < l.length
  · obtain ⟨g, off, cap, hv, hgo⟩ := hs.open (by omega)
    subst hv
    by_cases hi4 : i < 4
    · have hs1 := hs.kp hk hx (by simp)
      have hx0 : l[i]? = some l[i] := List.getElem?_eq_getElem hil
      generalize l[i] = c at hx0
      obtain ⟨q0, q1⟩ := px_parts hs1 hx0
      have hwr := wrap_u8_range c.1
      have hcast : ((i : Int) + 1) = ((i + 1 : Nat) : Int) := by omega
      simp (disch := omega) only [go_sem, ↓reduceIte , q0]
      refine (prefix07_c (IntKind.u8.wrap c.1) hwr.1 hwr.2 _ _).mono fun w H2 nx2 _ ⟨r, n, hw, r0, r1, n0, n1, _, hx2, hk2⟩ => ?_
      subst hw
      simp (disch := omega) only [go_sem, ↓reduceIte ]
      refine buildSQ_all (n := 1) [.agg #[.int .u32 r, .int .u8 n]] sl46 zero30 (by omega) (by omega) rfl (by simp [cells_agg]) fun f hf => ?_
      have hlit := px_lit H2 f 30 r n
      have sl2 := (sl.kp hk2 hx2 (by simp)).new (vs := ([Value.agg #[.int .u32 r, .int .u8 n]].flatMap fun v => v.cells.toList).toArray) (e := 30) hf
      simp (disch := omega) only [go_sem, ↓reduceIte ]
      refine appendQ_two (aw_append sl46 zero30 rfl by30 sl2 (hlit.src sl46 pxC_one) (by simp only [maxLen]; omega) (by omega) (by omega) fun v7 H7 nx7 own7 hn7 hs7 ho7 hk7 _ => ?_)
      have hone7 := hs7.one
      simp (disch := omega) only [go_sem, ↓reduceIte , hone7, hcast]
      have kf : Kp (fun _ => False) nx2 H2 (H2.new f ([Value.agg #[.int .u32 r, .int .u8 n]].flatMap fun v => v.cells.toList).toArray 30) := (by repeat first | exact Kp.refl _ _ _ | refine Kp.dropT ?_ (.inl (by omega)) | refine Kp.put ?_ (.inl (by omega)) | refine Kp.new ?_ (by omega) | refine Kp.put ?_ (.inr (by omega)) | refine Kp.newO ?_ (by omega) | refine Kp.setO ?_ (.inl (by omega)) | refine Kp.setO ?_ (.inr (by omega)) | refine Kp.trans0 ?_ (by assumption) (by omega) | refine Kp.transS ?_ (by assumption) (by omega) (fun b hb hT => by first | omega | (dsimp only at hT ⊢; omega) | (simp only at hT ⊢; omega))) 
      have k02 := (hk.trans (U := fun _ => False) hk2 (by omega) (fun _ _ h => h) (fun _ _ h => h)).trans (U := fun _ => False) kf (by omega) (fun _ _ h => h) (fun _ _ h => h)
      refine ⟨l.length - (i + 1), by omega, i + 1, ps ++ [(r, n)], v7, own7, ⟨rfl, by omega, rfl, by omega, k02.trans (U := fun _ => False) hk7 (by omega) (fun _ _ h => h) (fun b hb h => by omega), by rw [List.length_append, pxC_append]; exact hs7, by omega, fun p hp => ?_, by rw [List.length_append, List.length_singleton]; omega, by rw [List.length_append, List.length_singleton]; omega⟩⟩
      rcases List.mem_append.1 hp with hp | hp
      · exact mem p hp
      · rw [List.mem_singleton] at hp
        subst hp
        exact ⟨⟨r0, r1⟩, n0, by show n ≤ 255; omega⟩
    · simp (disch := omega) only [go_sem, ↓reduceIte ]
      exact hK _ _ _ _ _ _ l4.1 mem sl ow hx hk
  · obtain ⟨a0, c0, rfl⟩ := hs.form
    simp (disch := omega) only [go_sem, ↓reduceIte ]
    exact hK _ _ _ _ _ _ l4.1 mem sl ow hx hk
end Go.Proofs.YtngnbafididkcaaGreat
end
section
namespace Go.Proofs.YtngnbafididkcaaGreat
open Go.RowKit
set_option linter.unusedSimpArgs false
noncomputable def bgA : Code := codeAt [.T, .T, .T, .T, .T, .T, .T, .T, .T, .H, .T, .I, .I, .T, .H, .I, .T, .H, .T, .I] ((Tryz.f12.body).getD .skip)
noncomputable def bgS : Code := codeAt [.T, .T, .T, .T, .T, .T, .T, .T, .T, .H, .T, .I, .I, .T, .H, .I, .T, .T, .T, .T, .T, .H, .T, .I] ((Tryz.f12.body).getD .skip)
theorem mem_take_next {α : Type} {ms : List α} {k : Nat} {q p : α} (hq : ms[k]? = some q) : (p ∈ ms.take (k + 1)) ↔ (p ∈ ms.take k ∨ p = q) := by
  obtain ⟨hk, rfl⟩ := List.getElem?_eq_some_iff.1 hq
  rw [List.take_succ_eq_append_getElem hk, List.mem_append, List.mem_singleton]
structure BAI (ms : List (Int × Int)) (p : Int × Int) (v5 v9 v13 : Value) (id n : Int) (b7 pt i : Nat) (H0 : AH) (nx0 m : Nat) (env : Env) (H : AH) (nx k : Nat) : Prop where
  hm : m = i - k
  hk : k ≤ i
  henv : env = [(2, .int .u8 id), (7, .pointer (some ⟨b7, 0, none⟩)), (9, v9), (10, v5), (12, .pointer (some ⟨pt, 0, none⟩)), (13, v13), (14, .int .i64 n), (15, .int .i64 (i : Nat)), (16, .bool (decide (p ∈ ms.take k))), (17, .int .i64 (k : Nat))]
  hH : H = H0
  hx : nx = nx0
set_option maxHeartbeats 4000000 in
set_option maxRecDepth 20000 in
theorem beg_again {lo nx : Nat} {H : AH} {ms : List (Int × Int)} {p : Int × Int} {v5 v9 v13 : Value} {id n : Int} {b7 pt own5 i : Nat} {K0 : Env → AH → Nat → Prop} {Q : Exit → Env → AH → Nat → Prop} (hs : SlA nx H 2 v5 ms.length (pxC ms) own5) (hml : ms.length ≤ 24) (hp : ms[i]? = some p)
    (hK : K0 [(2, .int .u8 id), (7, .pointer (some ⟨b7, 0, none⟩)), (9, v9), (10, v5), (12, .pointer (some ⟨pt, 0, none⟩)), (13, v13), (14, .int .i64 n), (15, .int .i64 (i : Nat)), (16, .bool (decide (p ∈ ms.take i))), (17, .int .i64 (i : Nat)), (90, .bool false)] H nx) :
    awp Tryz.prog lo L12 bgA (blockQ 4 (thenQ K0 Q)) [(2, .int .u8 id), (7, .pointer (some ⟨b7, 0, none⟩)), (9, v9), (10, v5), (12, .pointer (some ⟨pt, 0, none⟩)), (13, v13), (14, .int .i64 n), (15, .int .i64 (i : Nat)), (16, .bool false), (17, .int .i64 (0 : Nat))] H nx := by
  have hcode : bgA = codeAt [.T, .T, .T, .T, .T, .T, .T, .T, .T, .H, .T, .I, .I, .T, .H, .I, .T, .H, .T, .I] ((Tryz.f12.body).getD .skip) := rfl
  simp only [Tryz.f12, Option.getD_some, codeAt_H, codeAt_T, codeAt_I, codeAt_L, codeAt_C, codeAt_P, codeAt_nil] at hcode
  rw [hcode]
  clear hcode
  have hi : i < ms.length := (List.getElem?_eq_some_iff.1 hp).1
  refine awp_loop (fun m env H' nx' => ∃ k, BAI ms p v5 v9 v13 id n b7 pt i H nx m env H' nx' k) i ⟨0, ⟨by omega, by omega, by simp, rfl, rfl⟩⟩ (fun m env H1 nx1 ⟨k, hI⟩ hnx => ?_)
  obtain ⟨hm, hk, henv, hH, hx⟩ := hI
  subst henv; subst hH; subst hx
  obtain ⟨g, off, cap, hv, hgo⟩ := hs.open (by omega)
  subst hv
  have hld := px_load hs hp
  unfold pxL at hld
  by_cases hki : k < i
  · have hq : ms[k]? = some ms[k] := List.getElem?_eq_getElem (by omega)
    have hnext := mem_take_next (p := p) hq
    generalize ms[k] = q at hq hnext
    have hld2 := px_load hs hq
    unfold pxL at hld2
    have hcast : ((k : Int) + 1) = ((k + 1 : Nat) : Int) := by omega
    by_cases ha : p ∈ ms.take k
    · have hd : decide (p ∈ ms.take k) = true := decide_eq_true ha
      have hd2 : decide (p ∈ ms.take (k + 1)) = true := decide_eq_true (hnext.2 (.inl ha))
      simp (disch := omega) only [go_sem, ↓reduceIte , hd]
      refine awp_draw ord12x20 (by kernel_rfl) ?_
      simp (disch := omega) only [go_sem, ↓reduceIte , ord12x20, hcast]
      exact ⟨i - (k + 1), by omega, k + 1, ⟨rfl, by omega, by rw [hd2], rfl, rfl⟩⟩
    · have hd : decide (p ∈ ms.take k) = false := decide_eq_false ha
      simp (disch := omega) only [go_sem, ↓reduceIte , hd]
      refine awp_draw ord12x20 (by kernel_rfl) ?_
      simp (disch := omega) only [go_sem, ↓reduceIte , ord12x20, hld, hld2]
      by_cases h1 : q.1 = p.1
      · by_cases h2 : q.2 = p.2
        · have hd2 : decide (p ∈ ms.take (k + 1)) = true := decide_eq_true (hnext.2 (.inr (Prod.ext h1.symm h2.symm)))
          simp (disch := omega) only [go_sem, ↓reduceIte , ord12x20, h1, h2, hcast]
          exact ⟨i - (k + 1), by omega, k + 1, ⟨rfl, by omega, by rw [hd2], rfl, rfl⟩⟩
        · have hd2 : decide (p ∈ ms.take (k + 1)) = false := decide_eq_false (fun hc => by
            rcases hnext.1 hc with hc | hc
            · exact ha hc
            · exact h2 (by rw [hc]))
          simp (disch := omega) only [go_sem, ↓reduceIte , ord12x20, h1, h2, hcast]
          exact ⟨i - (k + 1), by omega, k + 1, ⟨rfl, by omega, by rw [hd2], rfl, rfl⟩⟩
      · have hd2 : decide (p ∈ ms.take (k + 1)) = false := decide_eq_false (fun hc => by
          rcases hnext.1 hc with hc | hc
          · exact ha hc
          · exact h1 (by rw [hc]))
        simp (disch := omega) only [go_sem, ↓reduceIte , ord12x20, h1, hcast]
        exact ⟨i - (k + 1), by omega, k + 1, ⟨rfl, by omega, by rw [hd2], rfl, rfl⟩⟩
  · have : k = i := by omega
    subst this
    simp (disch := omega) only [go_sem, ↓reduceIte ]
    exact hK
theorem rr_parts {nx : Nat} {H : AH} {g off c n own : Nat} {l : List RowRec} (hs : SlA nx H 10 (.slice (some ⟨g, off, none⟩) n c) n (rrCells l) own) {i : Nat} {x : RowRec} (hi : l[i]? = some x) :
    H.c g (off + i * 10) = some (.int .u32 x.a) ∧ H.c g (off + i * 10 + 1) = some (.int .u8 x.n) ∧ H.c g (off + i * 10 + 8) = some (.int .u16 x.s3) := by
  have key : ∀ (k : Nat) (v : Value), k < 10 → x.cells[k]? = some v → H.c g (off + i * 10 + k) = some v := fun k v hk hv => by
    have h := hs.cells.1 (10 * i + k) v (by
      have := flat_get (f := RowRec.cells) (n := 10) (fun _ => rfl) l i x hi k hk
      rw [← hv]
      exact this)
    rw [← h]
    congr 1
    omega
  exact ⟨key 0 _ (by omega) rfl, key 1 _ (by omega) rfl, key 8 _ (by omega) rfl⟩
structure BSI (rs : List RowRec) (p : Int × Int) (v5 v9 v13 : Value) (id n : Int) (b7 pt i : Nat) (H0 : AH) (nx0 m : Nat) (env : Env) (H : AH) (nx k : Nat) : Prop where
  hm : m = rs.length - k
  hk : k ≤ rs.length
  henv : env = [(2, .int .u8 id), (7, .pointer (some ⟨b7, 0, none⟩)), (9, v9), (10, v5), (12, .pointer (some ⟨pt, 0, none⟩)), (13, v13), (14, .int .i64 n), (15, .int .i64 (i : Nat)), (18, .int .u16 (seqR (rs.take k) p)), (19, .int .i64 (k : Nat))]
  hH : H = H0
  hx : nx = nx0
set_option maxHeartbeats 4000000 in
set_option maxRecDepth 20000 in
theorem beg_seq {lo nx : Nat} {H : AH} {ms : List (Int × Int)} {p : Int × Int} {v5 v9 v13 : Value} {id n : Int} {b7 pt own5 ownr i : Nat} {rs : List RowRec} {K0 : Env → AH → Nat → Prop} {Q : Exit → Env → AH → Nat → Prop} (hs : SlA nx H 2 v5 ms.length (pxC ms) own5) (hml : ms.length ≤ 24) (hp : ms[i]? = some p) (hr : SlA nx H 10 v9 rs.length (rrCells rs) ownr) (hrl : rs.length ≤ 60) (hsrt : rs.Pairwise ltW)
    (hK : K0 [(2, .int .u8 id), (7, .pointer (some ⟨b7, 0, none⟩)), (9, v9), (10, v5), (12, .pointer (some ⟨pt, 0, none⟩)), (13, v13), (14, .int .i64 n), (15, .int .i64 (i : Nat)), (18, .int .u16 (seqR rs p)), (19, .int .i64 (rs.length : Nat)), (119, .bool false)] H nx) :
    awp Tryz.prog lo L12 bgS (blockQ 6 (thenQ K0 Q)) [(2, .int .u8 id), (7, .pointer (some ⟨b7, 0, none⟩)), (9, v9), (10, v5), (12, .pointer (some ⟨pt, 0, none⟩)), (13, v13), (14, .int .i64 n), (15, .int .i64 (i : Nat)), (18, .int .u16 1), (19, .int .i64 (0 : Nat))] H nx := by
  have hcode : bgS = codeAt [.T, .T, .T, .T, .T, .T, .T, .T, .T, .H, .T, .I, .I, .T, .H, .I, .T, .T, .T, .T, .T, .H, .T, .I] ((Tryz.f12.body).getD .skip) := rfl
  simp only [Tryz.f12, Option.getD_some, codeAt_H, codeAt_T, codeAt_I, codeAt_L, codeAt_C, codeAt_P, codeAt_nil] at hcode
  rw [hcode]
  clear hcode
  have hi : i < ms.length := (List.getElem?_eq_some_iff.1 hp).1
  refine awp_loop (fun m env H' nx' => ∃ k, BSI rs p v5 v9 v13 id n b7 pt i H nx m env H' nx' k) rs.length ⟨0, ⟨by omega, by omega, rfl, rfl, rfl⟩⟩ (fun m env H1 nx1 ⟨k, hI⟩ hnx => ?_)
  obtain ⟨hm, hk, henv, hH, hx⟩ := hI
  subst henv; subst hH; subst hx
  obtain ⟨g, off, cap, hv, hgo⟩ := hs.open (by omega)
  subst hv
  have hld := px_load hs hp
  unfold pxL at hld
  have hone := hr.one
  by_cases hki : k < rs.length
  · obtain ⟨g2, off2, cap2, hv2, hgo2⟩ := hr.open (by omega)
    subst hv2
    have hq : rs[k]? = some rs[k] := List.getElem?_eq_getElem (by omega)
    generalize rs[k] = q at hq
    obtain ⟨q0, q1, q8⟩ := rr_parts hr hq
    have l2 : loadN H1 g2 (off2 + k * 10) 2 = some [.int .u32 q.a, .int .u8 q.n] := by simp (disch := omega) only [go_sem, ↓reduceIte , q0, q1]
    have hcast : ((k : Int) + 1) = ((k + 1 : Nat) : Int) := by omega
    simp (disch := omega) only [go_sem, ↓reduceIte ]
    refine awp_draw ord12x27 (by kernel_rfl) ?_
    simp (disch := omega) only [go_sem, ↓reduceIte , ord12x27, hld, l2]
    by_cases h1 : q.a = p.1
    · by_cases h2 : q.n = p.2
      · have hst := seqR_hit hsrt hq
        rw [h1, h2] at hst
        simp (disch := omega) only [go_sem, ↓reduceIte , ord12x27, h1, h2, q8, hcast]
        exact ⟨rs.length - (k + 1), by omega, k + 1, ⟨rfl, by omega, by rw [hst]; rfl, rfl, rfl⟩⟩
      · have hst := seqR_miss hq (p := p) (fun hc => h2 hc.2)
        simp (disch := omega) only [go_sem, ↓reduceIte , ord12x27, h1, h2, hcast]
        exact ⟨rs.length - (k + 1), by omega, k + 1, ⟨rfl, by omega, by rw [hst], rfl, rfl⟩⟩
    · have hst := seqR_miss hq (p := p) (fun hc => h1 hc.1)
      simp (disch := omega) only [go_sem, ↓reduceIte , ord12x27, h1, hcast]
      exact ⟨rs.length - (k + 1), by omega, k + 1, ⟨rfl, by omega, by rw [hst], rfl, rfl⟩⟩
  · have : k = rs.length := by omega
    subst this
    rw [List.take_length]
    obtain ⟨ra, rc, rfl⟩ := hr.form
    simp (disch := omega) only [go_sem, ↓reduceIte ]
    exact hK
end Go.Proofs.YtngnbafididkcaaGreat
end
