/- EngineTells: in our own logic: what is told is looked at. -/
import Derived.Test.YtngnbafididkcaaGreatN51
namespace Go.Proofs.YtngnbafididkcaaGreat
open Go.RowKit
set_option linter.unusedSimpArgs false

noncomputable def tlT11 : Code := codeAt [.T, .T, .T, .T, .T, .T, .T, .T, .T, .T, .T] ((Tryz.f8.body).getD .skip)
set_option maxHeartbeats 4000000 in
set_option maxRecDepth 20000 in
theorem tells_end {lo nx nxx : Nat} {M HH : AH} {Y tl : List Prt} {p s x now hl : Int} {gone safe : Bool} {a15 own : Nat} {v : Value} {rest : Env}
    (hp : 0 ≤ p ∧ p ≤ 255) (hx : 0 ≤ x ∧ x ≤ 60000) (hnow : 0 ≤ now ∧ now ≤ 255) (hs : SlA nx M 7 v Y.length (ptCells Y) own) (c15 : M.c a15 1 = some v) (c150 : M.c a15 0 = some (.int .i64 0)) (l15 : a15 < nx)
    (hY : Y = (if now % 2 = 0 then [⟨1, hl, 0, 0, 0, 0, 0⟩, ⟨2, 0, 1, 0, 0, 0, 96⟩, ⟨2, 0, 2, 0, 0, 0, 96⟩] else []) ++ tl) (htl : tl.length = 2) (hz : ∀ z ∈ tl, z = minePt ∨ z = theirPt p s x gone safe) (hlo : lo ≤ nxx) (hnx : nxx ≤ nx) (hk : Kp (fun _ => False) nxx HH M) :
    awp Tryz.prog lo L8 tlT11 (retQ Tryz.prog Tryz.f8 fun v H' nx' => v = .bool true ∧ nxx ≤ nx' ∧ Kp (fun _ => False) nxx HH H') ((0, .int .u16 x) :: (1, .int .u16 s) :: (2, .int .u8 p) :: (3, .bool safe) :: (4, .bool gone) :: (5, .int .u8 now) :: (15, .pointer (some ⟨a15, 0, none⟩)) :: (16, .bool true) :: rest) M nx := by
  have hcode : tlT11 = .seq (codeAt [.T, .T, .T, .T, .T, .T, .T, .T, .T, .T, .T, .H] ((Tryz.f8.body).getD .skip)) (.seq (codeAt [.T, .T, .T, .T, .T, .T, .T, .T, .T, .T, .T, .T, .H] ((Tryz.f8.body).getD .skip)) tlT13) := rfl
  simp only [Tryz.f8, Option.getD_some, codeAt_H, codeAt_T, codeAt_I, codeAt_L, codeAt_C, codeAt_P, codeAt_nil] at hcode
  rw [hcode]
  clear hcode
  by_cases he : now % 2 = 0
  · rw [if_pos he] at hY
    have hY5 : Y.length = 3 + 2 := by rw [hY, List.length_append, htl]; rfl
    have hz2 : ∀ k z, k < 2 → Y[3 + k]? = some z → z = minePt ∨ z = theirPt p s x gone safe := fun k z hk h => by
      rw [hY, List.getElem?_append_right (by simp), show 3 + k - [(⟨1, hl, 0, 0, 0, 0, 0⟩ : Prt), ⟨2, 0, 1, 0, 0, 0, 96⟩, ⟨2, 0, 2, 0, 0, 0, 96⟩].length = k by simp] at h
      exact hz z (List.mem_of_getElem? h)
    have hlen : (Y.length : Int) = 5 := by omega
    obtain ⟨g, off, cap, hv, hgo⟩ := hs.open (by omega)
    subst hv
    have y0 : Y[0]? = some ⟨1, hl, 0, 0, 0, 0, 0⟩ := by rw [hY]; rfl
    have y1 : Y[1]? = some ⟨2, 0, 1, 0, 0, 0, 96⟩ := by rw [hY]; rfl
    have y2 : Y[2]? = some ⟨2, 0, 2, 0, 0, 0, 96⟩ := by rw [hY]; rfl
    have d0 := pt_load hs y0
    have d1 : loadN M g (off + Int.toNat 1 * 7) 7 = _ := pt_load hs y1
    have d2 : loadN M g (off + Int.toNat 2 * 7) 7 = _ := pt_load hs y2
    unfold Prt.cells at d0 d1 d2
    have e0 : M.c g (off + Int.toNat 0 * 7) = some (.int .u8 1) := by
      rw [loadN_succ] at d0
      cases hc : M.c g (off + 0 * 7) with
      | none => rw [hc] at d0; cases d0
      | some w =>
        rw [hc] at d0
        show M.c g (off + 0 * 7) = _
        rw [hc]
        cases hl : loadN M g (off + 0 * 7 + 1) 6 with
        | none => rw [Option.bind_some, hl] at d0; cases d0
        | some l =>
          rw [Option.bind_some, hl, Option.bind_some] at d0
          simp only [Option.some.injEq, List.cons.injEq] at d0
          rw [d0.1]
    clear d0 y0 y1 y2 hY
    simp (disch := omega) only [go_sem, ↓reduceIte , c15, hlen, d1, d2, e0]
    exact tells_end2 (at0 := 3) hp hx hs c15 c150 l15 hY5 (by omega) hz2 hlo hnx hk
  · rw [if_neg he, List.nil_append] at hY
    subst hY
    have hz2 : ∀ k z, k < 2 → Y[0 + k]? = some z → z = minePt ∨ z = theirPt p s x gone safe := fun k z hk h => hz z (List.mem_of_getElem? h)
    simp (disch := omega) only [go_sem, ↓reduceIte ]
    exact tells_end2 (at0 := 0) hp hx hs c15 c150 l15 (by omega) (by omega) hz2 hlo hnx hk
theorem rw_lit (H : AH) (f : Nat) (e : TypeId) (x : RwE) : SlA (f + 1) (H.new f ([Value.agg #[.int .u32 x.a, .int .u8 x.n, .bool x.has, .int .u32 x.ra, .int .u8 x.rn, .int .i64 x.via, .int .u16 x.met, .int .u16 x.seq, .int .u16 x.s, .int .u16 x.m]].flatMap fun v => v.cells.toList).toArray e) 10 (.slice (some ⟨f, 0, none⟩) 1 1) 1 (rweCells [x]) (f + 1) :=
  SlA.ofNew rfl (by omega) (by simp [maxLen]) (by simp [cells_agg]) (fun j _ => by simp [cells_agg, rweCells, RwE.cells])
noncomputable def tlT10 : Code := codeAt [.T, .T, .T, .T, .T, .T, .T, .T, .T, .T] ((Tryz.f8.body).getD .skip)
set_option maxHeartbeats 4000000 in
set_option maxRecDepth 20000 in
theorem tells_tell {lo nx nx0 nxx : Nat} {H H0 HH : AH} {pt : Nat} {e : Eng} {y : ELay} {col : Nat → Nat} {p s x now : Int} {gone safe : Bool} {sv : Value} {ow : Nat} {rest : Env} (hp : 0 ≤ p ∧ p ≤ 255) (hx : 0 ≤ x ∧ x ≤ 60000) (hnow : 0 ≤ now ∧ now ≤ 255) (st : EngS lo nx0 H0 pt (fun _ => 0) e H nx y col)
    (hid : e.id = 0) (hlk : e.lk = (metE 96 96 2).lk) (hhl : e.hello = 0) (hdue : e.due = true) (has : e.asks = []) (hT : TellOf e p s x gone) (hr : SlA nx H 10 sv 1 (rweCells [rowE p s (safeM x safe)]) ow) (hrc : ∀ b, b + 1 = ow → col b = 0) (hlo : lo ≤ nxx) (hnx : nxx ≤ nx0) (hk : Kp (fun _ => False) nxx HH H0) :
    awp Tryz.prog lo L8 tlT10 (retQ Tryz.prog Tryz.f8 fun v H' nx' => v = .bool true ∧ nxx ≤ nx' ∧ Kp (fun _ => False) nxx HH H') ((0, .int .u16 x) :: (1, .int .u16 s) :: (2, .int .u8 p) :: (3, .bool safe) :: (4, .bool gone) :: (5, .int .u8 now) :: (13, .pointer (some ⟨pt, 0, none⟩)) :: (14, sv) :: rest) H nx := by
  have hcode : tlT10 = .seq (codeAt [.T, .T, .T, .T, .T, .T, .T, .T, .T, .T, .H] ((Tryz.f8.body).getD .skip)) tlT11 := rfl
  simp only [Tryz.f8, Option.getD_some, codeAt_H, codeAt_T, codeAt_I, codeAt_L, codeAt_C, codeAt_P, codeAt_nil] at hcode
  rw [hcode]
  clear hcode
  have hle := st.le
  have hone := hr.one
  obtain ⟨ht2, htz⟩ := tail_ok (safe := safe) hid hp hT
  have hll : e.lost.length ≤ 1000000 := by rcases hT with ⟨_, h, _⟩ | ⟨_, h, _⟩ <;> rw [h] <;> simp
  have hsl : e.sel.length ≤ 1000 := by
    rcases hT with ⟨_, _, h⟩ | ⟨_, _, h⟩
    · rw [h.length_eq]; simp
    · rw [h]; simp
  have hmay : ∀ r ∈ e.sel, ∀ (H' : AH) (nx' : Nat), nx ≤ nx' → Kp (fun b => col b ≠ 0) nx H H' → ACalls Tryz.prog lo 64 #[.agg r.cells.toArray, sv] H' nx' (fun w H2 nx2 => w = .bool (mayE [rowE p s (safeM x safe)] r) ∧ nx' ≤ nx2 ∧ Kp (fun _ => False) nx' H' H2) := fun r _ H' nx' hn hk => emay_c (rs := [rowE p s (safeM x safe)]) (hr.kp hk hn (fun b hb => by rw [hrc b hb]; simp)) (by simp) r
  have fin : ∀ (Y : List Prt) (e2 : Eng) (H8 : AH) (nx8 : Nat) (v8 : Value) (y8 : ELay) (c8 : Nat → Nat) (ow8 b15 : Nat) (rest : Env), Y = (if now % 2 = 0 then [⟨1, 0, 0, 0, 0, 0, 0⟩, ⟨2, 0, 1, 0, 0, 0, 96⟩, ⟨2, 0, 2, 0, 0, 0, 96⟩] else []) ++ (lostPt e e.lost ++ selPt e (mayE [rowE p s (safeM x safe)]) e.sel) → EngS lo nx H pt col e2 H8 nx8 y8 c8 → SlA nx8 H8 7 v8 Y.length (ptCells Y) ow8 → nx8 ≤ b15 →
      awp Tryz.prog lo L8 tlT11 (retQ Tryz.prog Tryz.f8 fun v H' nx' => v = .bool true ∧ nxx ≤ nx' ∧ Kp (fun _ => False) nxx HH H') ((0, .int .u16 x) :: (1, .int .u16 s) :: (2, .int .u8 p) :: (3, .bool safe) :: (4, .bool gone) :: (5, .int .u8 now) :: (15, .pointer (some ⟨b15, 0, none⟩)) :: (16, .bool true) :: rest) ((H8.new b15 #[.int .i64 0, .slice none 0 0] 36).put b15 0 (.int .i64 0) |>.put b15 1 v8) (b15 + 1) := fun Y e2 H8 nx8 v8 y8 c8 ow8 b15 rest hY s8 hs8 hb => by
    have hle8 := s8.le
    have hone8 := hs8.one
    have k8 : Kp (fun _ => False) nx8 H8 ((H8.new b15 #[.int .i64 0, .slice none 0 0] 36).put b15 0 (.int .i64 0) |>.put b15 1 v8) := (by repeat first | exact Kp.refl _ _ _ | refine Kp.dropT ?_ (.inl (by omega)) | refine Kp.put ?_ (.inl (by omega)) | refine Kp.new ?_ (by omega) | refine Kp.put ?_ (.inr (by omega)) | refine Kp.newO ?_ (by omega) | refine Kp.setO ?_ (.inl (by omega)) | refine Kp.setO ?_ (.inr (by omega)) | refine Kp.trans0 ?_ (by assumption) (by omega) | refine Kp.transS ?_ (by assumption) (by omega) (fun b hb hT => by first | omega | (dsimp only at hT ⊢; omega) | (simp only at hT ⊢; omega))) 
    have kE : Kp (fun _ => False) nxx HH H8 := hk.trans (U := fun _ => False) (st.trans s8).kp0 hnx (fun _ _ h => h) (fun _ _ h => h)
    exact tells_end (hl := 0) hp hx hnow (hs8.kp k8 (by omega) (by simp)) (by simp (disch := omega) only [go_sem, ↓reduceIte ]) (by simp (disch := omega) only [go_sem, ↓reduceIte ]) (by omega) hY ht2 htz hlo (by omega) (kE.trans (U := fun _ => False) k8 (by omega) (fun _ _ h => h) (fun _ _ h => h))
  by_cases he : now % 2 = 0
  · simp (disch := omega) only [go_sem, ↓reduceIte ]
    refine (etellH_c (may := mayE [rowE p s (safeM x safe)]) st.a now ⟨by omega, by omega, he⟩ (by rw [hhl]; omega) hll hsl (by rw [has]; simp) (by rw [hlk]; simp [metE]) (by rw [hlk]; intro a ha; simp only [metE] at ha; rw [if_neg (by decide)] at ha; simp only [List.mem_cons, List.not_mem_nil, or_false] at ha; rcases ha with rfl | rfl <;> decide) (by rw [hlk]; exact (metE_pre 96 96 (by omega) (by omega)).lk) hmay).mono fun v H8 nx8 _ ⟨v8, y8, c8, ow8, ks, hp8, hsd8, hv, s8, hs8, how8, hko8⟩ => ?_
    subst hv
    rw [hlk] at hp8
    have hks := keys_met hp8 hsd8
    subst hks
    have hY : tellH e now (mayE [rowE p s (safeM x safe)]) [1, 2] = (if now % 2 = 0 then [⟨1, 0, 0, 0, 0, 0, 0⟩, ⟨2, 0, 1, 0, 0, 0, 96⟩, ⟨2, 0, 2, 0, 0, 0, 96⟩] else []) ++ (lostPt e e.lost ++ selPt e (mayE [rowE p s (safeM x safe)]) e.sel) := by
      unfold tellH dueE
      rw [if_pos he, hdue, Bool.true_or, if_pos rfl, heard_met hlk, has, hhl, List.append_nil]
    generalize tellH e now (mayE [rowE p s (safeM x safe)]) [1, 2] = Y at hY hs8 ⊢
    have hpos : (0 : Int) < (Y.length : Int) := by rw [hY, List.length_append, ht2]; omega
    obtain ⟨va, vc, rfl⟩ := hs8.form
    have hone8 := hs8.one
    have hle8 := s8.le
    rw [hid]
    simp (disch := omega) only [go_sem, ↓reduceIte , hone8]
    intro b15 hb15
    simp (disch := omega) only [go_sem, ↓reduceIte , hone8]
    exact fin _ _ _ _ _ _ _ _ _ _ hY s8 hs8 hb15
  · simp (disch := omega) only [go_sem, ↓reduceIte ]
    refine (etell_c (may := mayE [rowE p s (safeM x safe)]) st.a now ⟨by omega, by omega, by omega⟩ hll hsl (by rw [has]; simp) hmay).mono fun v H8 nx8 _ ⟨v8, y8, c8, ow8, hv, s8, hs8, how8, hko8⟩ => ?_
    subst hv
    have hY : tellP e (mayE [rowE p s (safeM x safe)]) = (if now % 2 = 0 then [⟨1, 0, 0, 0, 0, 0, 0⟩, ⟨2, 0, 1, 0, 0, 0, 96⟩, ⟨2, 0, 2, 0, 0, 0, 96⟩] else []) ++ (lostPt e e.lost ++ selPt e (mayE [rowE p s (safeM x safe)]) e.sel) := by
      unfold tellP
      rw [if_neg he, hdue, if_pos rfl, has, List.append_nil, List.nil_append]
    generalize tellP e (mayE [rowE p s (safeM x safe)]) = Y at hY hs8 ⊢
    have hpos : (0 : Int) < (Y.length : Int) := by rw [hY, List.length_append, ht2]; omega
    obtain ⟨va, vc, rfl⟩ := hs8.form
    have hone8 := hs8.one
    have hle8 := s8.le
    rw [hid]
    simp (disch := omega) only [go_sem, ↓reduceIte , hone8]
    intro b15 hb15
    simp (disch := omega) only [go_sem, ↓reduceIte , hone8]
    exact fin _ _ _ _ _ _ _ _ _ _ hY s8 hs8 hb15
end Go.Proofs.YtngnbafididkcaaGreat
