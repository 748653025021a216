/- EngineTells: in our own logic: behind what is told. -/
import Derived.Test.YtngnbafididkcaaGreatN49
import Derived.Test.YtngnbafididkcaaGreatK1
namespace Go.Proofs.YtngnbafididkcaaGreat
open Go.RowKit
set_option linter.unusedSimpArgs false

/-- Within the loop: so many were right. -/
structure TlyI (M : AH) (nx1 : Nat) (a15 b18 b19 at0 : Nat) (m : Nat) (env : Env) (H : AH) (nx k : Nat) : Prop where
  hm : m = 2 - k
  hk : k ≤ 2
  henv : env = [(15, .pointer (some ⟨a15, 0, none⟩)), (17, .int .i64 at0), (18, .pointer (some ⟨b18, 0, none⟩)), (19, .pointer (some ⟨b19, 0, none⟩)), (20, .int .i64 k), (21, .int .i64 (at0 + k : Nat))]
  hH : H = M
  hx : nx = nx1
noncomputable def tlL : Code := codeAt [.T, .T, .T, .T, .T, .T, .T, .T, .T, .T, .T, .T, .T, .T, .T, .T, .T, .T, .T, .H, .T, .I] ((Tryz.f8.body).getD .skip)
set_option maxHeartbeats 4000000 in
set_option maxRecDepth 20000 in
theorem tells_loop {lo nx1 : Nat} {M : AH} {Y : List Prt} {a n sq mt : Int} {a15 b18 b19 at0 own : Nat} {v : Value} {K0 : Env → AH → Nat → Prop} {Q : Exit → Env → AH → Nat → Prop}
    (hs : SlA nx1 M 7 v Y.length (ptCells Y) own) (c15 : M.c a15 1 = some v) (hY : Y.length = at0 + 2) (hat : at0 ≤ 3) (hz : ∀ k z, k < 2 → Y[at0 + k]? = some z → z = minePt ∨ z = ⟨3, 0, 0, a, n, sq, mt⟩) (hne : ¬ (a = 201326592 ∧ n = 24))
    (l18 : loadN M b18 0 7 = some [.int .u8 3, .int .u64 0, .int .i64 0, .int .u32 201326592, .int .u8 24, .int .u16 1, .int .u16 65535]) (l19 : loadN M b19 0 7 = some [.int .u8 3, .int .u64 0, .int .i64 0, .int .u32 a, .int .u8 n, .int .u16 sq, .int .u16 mt])
    (hK : K0 [(15, .pointer (some ⟨a15, 0, none⟩)), (17, .int .i64 at0), (18, .pointer (some ⟨b18, 0, none⟩)), (19, .pointer (some ⟨b19, 0, none⟩)), (20, .int .i64 2), (21, .int .i64 (at0 + 2 : Nat)), (139, .bool false)] M nx1) :
    awp Tryz.prog lo L8 tlL (blockQ 0 (thenQ K0 Q)) [(15, .pointer (some ⟨a15, 0, none⟩)), (17, .int .i64 at0), (18, .pointer (some ⟨b18, 0, none⟩)), (19, .pointer (some ⟨b19, 0, none⟩)), (20, .int .i64 (0 : Nat)), (21, .int .i64 (at0 + 0 : Nat))] M nx1 := by
  have hcode : tlL = codeAt [.T, .T, .T, .T, .T, .T, .T, .T, .T, .T, .T, .T, .T, .T, .T, .T, .T, .T, .T, .H, .T, .I] ((Tryz.f8.body).getD .skip) := rfl
  simp only [Tryz.f8, Option.getD_some, codeAt_H, codeAt_T, codeAt_I, codeAt_L, codeAt_C, codeAt_P, codeAt_nil] at hcode
  rw [hcode]
  clear hcode
  refine awp_loop (fun m env H nx => ∃ k, TlyI M nx1 a15 b18 b19 at0 m env H nx k) 2 ⟨0, ⟨by omega, by omega, rfl, rfl, rfl⟩⟩ (fun m env H nx ⟨k, hI⟩ hn => ?_)
  obtain ⟨hm, hk, henv, hH, hx⟩ := hI
  subst henv; subst hH; subst hx
  obtain ⟨aa, ac, rfl⟩ := hs.form
  have hone := hs.one
  by_cases hlt : k < 2
  · obtain ⟨g, off, cap, hv, hgo⟩ := hs.open (by omega)
    simp only [Value.slice.injEq, true_and] at hv
    obtain ⟨rfl, rfl⟩ := hv
    have hx0 : Y[at0 + k]? = some Y[at0 + k] := List.getElem?_eq_getElem (by omega)
    have hld := pt_load hs hx0
    have hzz := hz k _ hlt hx0
    generalize Y[at0 + k] = z at hld hx0 hzz
    have hcast : ((at0 + k : Nat) : Int) + 1 = ((at0 + (k + 1) : Nat) : Int) := by omega
    have hcast2 : (k : Int) + 1 = ((k + 1 : Nat) : Int) := by omega
    rcases hzz with rfl | rfl
    · unfold Prt.cells minePt at hld
      simp (disch := omega) only [go_sem, ↓reduceIte , c15]
      refine awp_draw ord8x33 (by kernel_rfl) ?_
      simp (disch := omega) only [go_sem, ↓reduceIte , ord8x33, c15, hld, l18, l19]
      exact ⟨2 - (k + 1), by omega, k + 1, ⟨rfl, by omega, by rw [hcast, hcast2], rfl, rfl⟩⟩
    · unfold Prt.cells at hld
      by_cases ha : a = 201326592
      · have hn24 : n ≠ 24 := fun h => hne ⟨ha, h⟩
        simp (disch := omega) only [go_sem, ↓reduceIte , c15]
        refine awp_draw ord8x33 (by kernel_rfl) ?_
        simp (disch := omega) only [go_sem, ↓reduceIte , ord8x33, c15, hld, l18, l19]
        exact ⟨2 - (k + 1), by omega, k + 1, ⟨rfl, by omega, by rw [hcast, hcast2], rfl, rfl⟩⟩
      · simp (disch := omega) only [go_sem, ↓reduceIte , c15]
        refine awp_draw ord8x33 (by kernel_rfl) ?_
        simp (disch := omega) only [go_sem, ↓reduceIte , ord8x33, c15, hld, l18, l19]
        exact ⟨2 - (k + 1), by omega, k + 1, ⟨rfl, by omega, by rw [hcast, hcast2], rfl, rfl⟩⟩
  · have ei : k = 2 := by omega
    subst ei
    simp (disch := omega) only [go_sem, ↓reduceIte , c15]
    exact hK
noncomputable def tlT18 : Code := codeAt [.T, .T, .T, .T, .T, .T, .T, .T, .T, .T, .T, .T, .T, .T, .T, .T, .T, .T] ((Tryz.f8.body).getD .skip)
set_option maxHeartbeats 1000000 in
set_option maxRecDepth 20000 in
theorem tells_count {lo nx1 nxx : Nat} {M HH : AH} {Y : List Prt} {a n sq mt : Int} {a15 b18 b19 at0 own : Nat} {v : Value} (pre rest : Env) (hpre : pre = [] ∨ ∃ w, pre = [(2, w)])
    (hs : SlA nx1 M 7 v Y.length (ptCells Y) own) (c15 : M.c a15 1 = some v) (hY : Y.length = at0 + 2) (hat : at0 ≤ 3) (hz : ∀ k z, k < 2 → Y[at0 + k]? = some z → z = minePt ∨ z = ⟨3, 0, 0, a, n, sq, mt⟩) (hne : ¬ (a = 201326592 ∧ n = 24))
    (l18 : loadN M b18 0 7 = some [.int .u8 3, .int .u64 0, .int .i64 0, .int .u32 201326592, .int .u8 24, .int .u16 1, .int .u16 65535]) (l19 : loadN M b19 0 7 = some [.int .u8 3, .int .u64 0, .int .i64 0, .int .u32 a, .int .u8 n, .int .u16 sq, .int .u16 mt]) (hnx : nxx ≤ nx1) (hk : Kp (fun _ => False) nxx HH M) :
    awp Tryz.prog lo L8 tlT18 (retQ Tryz.prog Tryz.f8 fun v H' nx' => v = .bool true ∧ nxx ≤ nx' ∧ Kp (fun _ => False) nxx HH H') (pre ++ (15, .pointer (some ⟨a15, 0, none⟩)) :: (17, .int .i64 at0) :: (18, .pointer (some ⟨b18, 0, none⟩)) :: (19, .pointer (some ⟨b19, 0, none⟩)) :: rest) M nx1 := by
  have hcode : tlT18 = .seq (codeAt [.T, .T, .T, .T, .T, .T, .T, .T, .T, .T, .T, .T, .T, .T, .T, .T, .T, .T, .H] ((Tryz.f8.body).getD .skip)) (.seq (.seq (codeAt [.T, .T, .T, .T, .T, .T, .T, .T, .T, .T, .T, .T, .T, .T, .T, .T, .T, .T, .T, .H, .H] ((Tryz.f8.body).getD .skip)) (.block 0 tlL)) (codeAt [.T, .T, .T, .T, .T, .T, .T, .T, .T, .T, .T, .T, .T, .T, .T, .T, .T, .T, .T, .T] ((Tryz.f8.body).getD .skip))) := rfl
  simp only [Tryz.f8, Option.getD_some, codeAt_H, codeAt_T, codeAt_I, codeAt_L, codeAt_C, codeAt_P, codeAt_nil] at hcode
  rw [hcode]
  clear hcode
  obtain ⟨aa, ac, rfl⟩ := hs.form
  have hone := hs.one
  have hlen : (Y.length : Int) = at0 + 2 := by omega
  rcases hpre with rfl | ⟨w, rfl⟩
  · rw [List.nil_append]
    simp (disch := omega) only [go_sem, ↓reduceIte ]
    refine tells_loop hs c15 hY hat hz hne l18 l19 ?_
    simp (disch := omega) only [go_sem, ↓reduceIte , c15, hlen]
    exact ⟨hnx, hk⟩
  · rw [List.cons_append, List.nil_append]
    simp (disch := omega) only [go_sem, ↓reduceIte ]
    refine tells_loop hs c15 hY hat hz hne l18 l19 ?_
    simp (disch := omega) only [go_sem, ↓reduceIte , c15, hlen]
    exact ⟨hnx, hk⟩
end Go.Proofs.YtngnbafididkcaaGreat
