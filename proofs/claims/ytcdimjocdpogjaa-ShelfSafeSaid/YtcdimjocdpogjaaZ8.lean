/- Shelf: Names, Delete, Rename, Read, List; a nil one. -/
import Derived.Test.YtcdimjocdpogjaaZ7
import Derived.Test.YtcdimjocdpogjaaS2
namespace Go.Proofs.Ytcdimjocdpogjaa
open Go.RowKit
set_option linter.unusedSimpArgs false

/-- Names are laid anew. -/
theorem AfterL.relay {lo nx nx' : Nat} {H H' : AH} {p : Nat} {f f' : Fs} {L : Lay} (h : ShA lo nx H p f L) {n1 n2 : Nat} (h1 : n1 = L.mn ∨ nx ≤ n1) (h2 : nx ≤ n2) (h12 : n1 ≠ n2) (hn : nx ≤ nx' ∧ n1 < nx' ∧ n2 < nx') (hk : Kp (fun b => b = p) nx H H')
    (c0 : H'.c p 0 = some (.map (some n1))) (c1 : H'.c p 1 = some (.map (some n2))) (c2 : H'.c p 2 = some (.slice none 0 0)) (c3 : H'.c p 3 = some (.int .i64 f'.room)) (c4 : H'.c p 4 = some (.int .i64 f'.left)) (c5 : H'.c p 5 = some (.bool f'.off)) (c6 : H'.c p 6 = some (.int .i64 f'.done))
    (on : ∃ ob, H'.o n1 = some ob ∧ MapA ekS evB ob f'.now) (oo : ∃ ob, H'.o n2 = some ob ∧ MapA ekS evB ob f'.old) (hb : f'.bk = f.bk) (hm : f'.moves = []) (now1 : ∀ a ∈ f'.now, ∃ q ∈ f.bk, q.1 = a.2) (old1 : ∀ a ∈ f'.old, ∃ q ∈ f.bk, q.1 = a.2) :
    AfterL lo nx H p f L f' { L with mn := n1, mo := n2, mv := 0 } H' nx' := by
  obtain ⟨l1, l2⟩ := h.ltp
  have hok : ∀ x : Pt, x.ok f' → x.ok f := fun x hx => by cases x <;> simp only [Pt.ok, hb] at hx ⊢ <;> exact hx
  have hrg : ∀ x : Pt, x.ok f → x.at p L ≤ nx := fun x hx => by
    have := h.rng x hx
    omega
  have A : Anew lo nx nx' p f L f' { L with mn := n1, mo := n2, mv := 0 } := by
    refine ⟨hn.1, fun x hx => ?_, fun x y hx hy hl e => ?_⟩
    · have hx' := hok x hx
      cases x with
      | p => exact .inl ⟨trivial, rfl⟩
      | mn =>
        simp only [Pt.at]
        rcases h1 with h1 | h1
        · exact .inl ⟨trivial, by rw [h1]⟩
        · right; right; omega
      | mo => simp only [Pt.at]; right; right; omega
      | mv => exact .inr (.inl rfl)
      | bk i => exact .inl ⟨hx', rfl⟩
      | ow i => exact .inl ⟨hx', rfl⟩
    · have cs : ∀ z : Pt, z.ok f' → nx < z.at p { L with mn := n1, mo := n2, mv := 0 } → z = .mn ∨ z = .mo := fun z hz hl => by
        cases z with
        | mn => exact .inl rfl
        | mo => exact .inr rfl
        | mv => simp only [Pt.at] at hl; omega
        | p => have := hrg .p trivial; simp only [Pt.at] at hl this; omega
        | bk i => have := hrg (.bk i) (hok _ hz); simp only [Pt.at] at hl this; omega
        | ow i => have := hrg (.ow i) (hok _ hz); simp only [Pt.at] at hl this; omega
      rcases cs x hx hl with rfl | rfl <;> rcases cs y hy (by omega) with rfl | rfl
      · rfl
      · simp only [Pt.at] at e; omega
      · simp only [Pt.at] at e; omega
      · rfl
  refine ⟨hn.1, Kp.mono hk (Nat.le_refl _) (fun b _ e => by subst e; exact fp_p), ⟨c0, c1, ⟨_, c2, by rw [hm]; exact SlA.nil _ _ _⟩, c3, c4, c5, c6, on, oo, fun q hq => ?_, by rw [hb]; exact h.uq, h.rngA A, h.ndA A, by rw [hb]; exact now1, by rw [hb]; exact old1, by rw [hm]; simp⟩, h.fpA A⟩
  rw [hb] at hq
  obtain ⟨b1, ⟨u, b2, b3⟩, b4⟩ := h.bk q hq
  obtain ⟨r1, r2, r3, r4, r5, r6, r7, r8, r9⟩ := h.ltb hq
  have e := hk q.1 r2 r3
  exact ⟨by rw [e.2.2]; exact b1, ⟨u, by rw [e.1]; exact b2, b3.kp hk hn.1 (by intro b hb; omega)⟩, by rw [e.1]; exact b4⟩

def namesR (f : Fs) : Int × Fs := if (actR f).1 = true then (0, { (actR f).2 with old := f.now, moves := [] }) else (7, (actR f).2)

set_option maxRecDepth 20000 in
theorem shNames_c {lo nx : Nat} {H : AH} {p : Nat} {f : Fs} {L : Lay} (h : ShA lo nx H p f L) (hf : FsOk f) :
    ACalls Try.prog lo 13 #[.pointer (some ⟨p, 0, none⟩)] H nx (fun v H' nx' => v = .int .i64 (namesR f).1 ∧ After lo nx H p f L (namesR f).2 H' nx') := by
  refine acalls_of_awp L13 Try.func13 rfl (by kernel_rfl) ?_
  simp (disch := omega) only [go_sem, ↓reduceIte ]
  refine (act_c h ⟨hf.l0, hf.l1⟩ ⟨hf.d0, by have := hf.d1; omega⟩).mono fun v H2 nx2 _ ⟨hx2, hv, a2⟩ => ?_
  subst hv; subst hx2
  unfold namesR
  cases ha : (actR f).1 with
  | false =>
    simp (disch := omega) only [go_sem, ↓reduceIte , ha]
    exact ⟨L, a2⟩
  | true =>
    have s2 := a2.sh
    have c0 := s2.c0
    have c1 := s2.c1
    obtain ⟨l1, l2⟩ := s2.ltp
    obtain ⟨n1, n2, n3, n4⟩ := s2.ltn
    obtain ⟨ob, hob, hM⟩ := s2.on
    obtain ⟨u, hu, _⟩ := s2.c2
    simp (disch := omega) only [go_sem, ↓reduceIte , ha, c0]
    refine (clone_sh hob hM).mono fun v H3 nx3 _ ⟨n, hn, hv, hH, hx⟩ => ?_
    subst hv; subst hH; subst hx
    simp (disch := omega) only [go_sem, ↓reduceIte , c1, hu]
    have hw : ∀ o, 3 ≤ o → (((H2.newO n ob).put p 1 (.map (some n))).put p 2 (.slice none 0 0)).c p o = H2.c p o := fun o ho => by
      rw [put_other _ _ _ _ _ (by omega), put_other _ _ _ _ _ (by omega), newO_c _ _ _ _ _ (by omega)]
    refine ⟨_, a2.trans (AfterL.relay (f' := { (actR f).2 with old := f.now, moves := [] }) (n1 := L.mn) (n2 := n) s2 (.inl rfl) hn (by omega) (by omega) (by repeat first | exact Kp.refl _ _ _ | refine Kp.dropT ?_ (.inl (by omega)) | refine Kp.put ?_ (.inl (by omega)) | refine Kp.new ?_ (by omega) | refine Kp.put ?_ (.inr (by omega)) | refine Kp.newO ?_ (by omega) | refine Kp.setO ?_ (.inl (by omega)) | refine Kp.setO ?_ (.inr (by omega)) | refine Kp.trans0 ?_ (by assumption) (by omega) | refine Kp.transS ?_ (by assumption) (by omega) (fun b hb hT => by first | omega | (dsimp only at hT ⊢; omega) | (simp only at hT ⊢; omega)))  (by simp (disch := omega) only [go_sem, ↓reduceIte , c0]) (by simp (disch := omega) only [go_sem, ↓reduceIte ]) (by simp (disch := omega) only [go_sem, ↓reduceIte ]) (by rw [hw _ (by omega)]; exact s2.c3) (by rw [hw _ (by omega)]; exact s2.c4) (by rw [hw _ (by omega)]; exact s2.c5) (by rw [hw _ (by omega)]; exact s2.c6) ⟨ob, by simp (disch := omega) only [go_sem, ↓reduceIte , hob], hM⟩ ⟨ob, by simp (disch := omega) only [go_sem, ↓reduceIte ], by rw [actR_now] at hM; exact hM⟩ rfl rfl s2.now1 (by have := s2.now1; rw [actR_now] at this; exact this))⟩

def deleteR (f : Fs) (name : ByteArray) : Int × Fs :=
  if (actR f).1 = true then
    if (getA name f.now).isSome = true then (0, { (actR f).2 with moves := f.moves ++ [⟨name, none, .empty⟩], now := delA name f.now }) else (2, (actR f).2)
  else (7, (actR f).2)
set_option maxRecDepth 20000 in
theorem shDelete_c {lo nx : Nat} {H : AH} {p : Nat} {f : Fs} {L : Lay} (h : ShA lo nx H p f L) (hf : FsOk f) (name : ByteArray) :
    ACalls Try.prog lo 28 #[.pointer (some ⟨p, 0, none⟩), .string name] H nx (fun v H' nx' => v = .int .i64 (deleteR f name).1 ∧ After lo nx H p f L (deleteR f name).2 H' nx') := by
  refine acalls_of_awp L28 Try.func28 rfl (by kernel_rfl) ?_
  simp (disch := omega) only [go_sem, ↓reduceIte ]
  refine (act_c h ⟨hf.l0, hf.l1⟩ ⟨hf.d0, by have := hf.d1; omega⟩).mono fun v H2 nx2 _ ⟨hx2, hv, a2⟩ => ?_
  subst hv; subst hx2
  unfold deleteR
  cases ha : (actR f).1 with
  | false =>
    simp (disch := omega) only [go_sem, ↓reduceIte , ha]
    exact ⟨L, a2⟩
  | true =>
    have c0 := a2.sh.c0
    have hlk := look_sh a2.sh.on name
    rw [actR_now] at hlk
    unfold bkV at hlk
    cases hg : getA name f.now with
    | none =>
      rw [hg] at hlk
      simp (disch := omega) only [go_sem, ↓reduceIte , ha, c0, hlk]
      exact ⟨L, a2⟩
    | some i =>
      rw [hg] at hlk
      simp (disch := omega) only [go_sem, ↓reduceIte , ha, c0, hlk]
      refine (set_c a2.sh name none (fun j hj => by cases hj) (by rw [actR_moves]; exact hf.mvs)).mono fun v H4 nx4 _ ⟨hv, own, k4⟩ => ?_
      subst hv
      simp (disch := omega) only [go_sem, ↓reduceIte ]
      have a4 := a2.trans k4
      simp only [actR_moves, actR_now] at a4
      exact ⟨_, a4⟩

def renameR (f : Fs) (frm dst : ByteArray) : Int × Fs :=
  if nameOk dst = true then
    if (actR f).1 = true then
      match getA frm f.now with
      | none => (2, (actR f).2)
      | some i => if frm = dst then (0, (actR f).2) else (0, { (actR f).2 with now := delA frm (setA dst i f.now), moves := f.moves ++ [⟨dst, some i, frm⟩] })
    else (7, (actR f).2)
  else (1, f)
theorem bytes_eq {a b : ByteArray} : a.data.toList = b.data.toList ↔ a = b := by
  constructor
  · intro h
    obtain ⟨a⟩ := a
    obtain ⟨b⟩ := b
    simp only [ByteArray.mk.injEq]
    exact Array.toList_inj.1 h
  · rintro rfl; rfl
set_option maxHeartbeats 1000000 in
set_option maxRecDepth 20000 in
theorem shRename_c {lo nx : Nat} {H : AH} {p : Nat} {f : Fs} {L : Lay} (h : ShA lo nx H p f L) (hf : FsOk f) (frm dst : ByteArray) :
    ACalls Try.prog lo 16 #[.pointer (some ⟨p, 0, none⟩), .string frm, .string dst] H nx (fun v H' nx' => v = .int .i64 (renameR f frm dst).1 ∧ After lo nx H p f L (renameR f frm dst).2 H' nx') := by
  refine ACalls.withLo fun hlo => ?_
  refine acalls_of_awp L16 Try.func16 rfl (by kernel_rfl) ?_
  simp (disch := omega) only [go_sem, ↓reduceIte ]
  refine (shName_c dst H nx).mono fun v H1 nx1 _ ⟨hx1, hk1, hv⟩ => ?_
  subst hv
  unfold renameR
  have a1 := AfterL.still h hk1 hx1
  cases hn : nameOk dst with
  | false =>
    simp (disch := omega) only [go_sem, ↓reduceIte ]
    exact ⟨L, a1⟩
  | true =>
    simp (disch := omega) only [go_sem, ↓reduceIte ]
    refine (act_c a1.sh ⟨hf.l0, hf.l1⟩ ⟨hf.d0, by have := hf.d1; omega⟩).mono fun v H2 nx2 _ ⟨hx2, hv, k2⟩ => ?_
    subst hv; subst hx2
    have a2 := a1.trans k2
    cases ha : (actR f).1 with
    | false =>
      simp (disch := omega) only [go_sem, ↓reduceIte , ha]
      exact ⟨L, a2⟩
    | true =>
      have s2 := a2.sh
      have c0 := s2.c0
      have hlk := look_sh s2.on frm
      rw [actR_now] at hlk
      unfold bkV at hlk
      cases hg : getA frm f.now with
      | none =>
        rw [hg] at hlk
        simp (disch := omega) only [go_sem, ↓reduceIte , ha, c0, hlk]
        exact ⟨L, a2⟩
      | some i =>
        rw [hg] at hlk
        by_cases he : frm = dst
        · subst he
          simp (disch := omega) only [go_sem, ↓reduceIte , ha, c0, hlk, decide_true]
          exact ⟨L, a2⟩
        · have hne : ¬ frm.data.toList = dst.data.toList := fun e => he (bytes_eq.1 e)
          simp (disch := omega) only [go_sem, ↓reduceIte , ha, c0, hlk, hne, he, decide_false]
          obtain ⟨l1, l2⟩ := s2.ltp
          obtain ⟨n1, n2, n3, n4⟩ := s2.ltn
          have hi : ∃ q ∈ (actR f).2.bk, q.1 = i := by rw [actR_bk]; exact h.now1 _ (getA_mem hg)
          refine set_sh s2.on n1 fun ob' hM' => ?_
          have hnow2 : ∀ a ∈ setA dst i (actR f).2.now, ∃ q ∈ (actR f).2.bk, q.1 = a.2 := fun a ha => by
            rcases mem_setA ha with rfl | ha
            · exact hi
            · exact s2.now1 a ha
          have s3 := s2.setNow hM' hnow2
          simp (disch := omega) only [go_sem, ↓reduceIte , c0]
          refine del_sh s3.on n1 fun ob2 hM2 => ?_
          have s4 := s3.setNow hM2 fun a ha => hnow2 a (mem_delA.1 ha).1
          have a4 := a2.trans (AfterL.inPlace s4 (Kp.mono (T := fpS p (actR f).2 L) (show Kp (fun c => c = L.mn) nx2 H2 _ from (by repeat first | exact Kp.refl _ _ _ | refine Kp.dropT ?_ (.inl (by omega)) | refine Kp.put ?_ (.inl (by omega)) | refine Kp.new ?_ (by omega) | refine Kp.put ?_ (.inr (by omega)) | refine Kp.newO ?_ (by omega) | refine Kp.setO ?_ (.inl (by omega)) | refine Kp.setO ?_ (.inr (by omega)) | refine Kp.trans0 ?_ (by assumption) (by omega) | refine Kp.transS ?_ (by assumption) (by omega) (fun b hb hT => by first | omega | (dsimp only at hT ⊢; omega) | (simp only at hT ⊢; omega))) ) (Nat.le_refl _) (fun b _ e => by subst e; exact fp_mn)) rfl)
          obtain ⟨u, hu, hsl⟩ := s4.c2
          obtain ⟨v1, v2, v3⟩ := s4.ltv
          have hbd := bd3x65 ((H2.setO L.mn ob').setO L.mn ob2) (.string dst) (.pointer (some ⟨i, 0, none⟩)) (.string frm) rfl rfl rfl
          let x : Mv := ⟨dst, some i, frm⟩
          simp (disch := omega) only [go_sem, ↓reduceIte , c0, hu, hbd]
          refine buildSQ_all (n := 1) [.agg x.cells.toArray] sl56 zero65 (by omega) (by omega) rfl (by simp [cells_agg, Mv.cells, x]) fun m hm' => ?_
          have hlit : SlA (m + 1) _ 3 (.slice (some ⟨m, 0, none⟩) 1 1) 1 (mvCells [x]) (m + 1) := SlA.ofNew (H := (H2.setO L.mn ob').setO L.mn ob2) (e := 65) (cs := ([Value.agg x.cells.toArray].flatMap fun v => v.cells.toList).toArray) rfl (by omega) (by simp [maxLen]) (by simp [cells_agg, Mv.cells, x]) (fun j _ => by simp [cells_agg, mvCells, Mv.cells, x])
          have hs6 := hsl.new (vs := ([Value.agg x.cells.toArray].flatMap fun v => v.cells.toList).toArray) (e := 65) hm'
          have hml : (actR f).2.moves.length ≤ 1000000 := by rw [actR_moves]; exact hf.mvs
          simp only at hs6
          simp (disch := omega) only [go_sem, ↓reduceIte ]
          refine appendQ_two (aw_append sl56 zero65 rfl by65 hs6 (hlit.src sl56 mvCells_one) (by simp only [maxLen]; omega) (by omega) (by omega) fun v7 H7 nx7 own7 hn7 hs7 ho7 hk7 _ => ?_)
          have hone7 := hs7.one
          have hkA : Kp (fun b => b + 1 = L.mv) nx2 ((H2.setO L.mn ob').setO L.mn ob2) H7 := (by repeat first | exact Kp.refl _ _ _ | refine Kp.dropT ?_ (.inl (by omega)) | refine Kp.put ?_ (.inl (by omega)) | refine Kp.new ?_ (by omega) | refine Kp.put ?_ (.inr (by omega)) | refine Kp.newO ?_ (by omega) | refine Kp.setO ?_ (.inl (by omega)) | refine Kp.setO ?_ (.inr (by omega)) | refine Kp.trans0 ?_ (by assumption) (by omega) | refine Kp.transS ?_ (by assumption) (by omega) (fun b hb hT => by first | omega | (dsimp only at hT ⊢; omega) | (simp only at hT ⊢; omega))) 
          have hp7 := hkA p l2 (by omega)
          have i0 := hu
          rw [← hp7.1] at i0
          have hM7 := s4.setMoves (nx' := nx7) hkA (by omega) (l := (actR f).2.moves ++ [x]) (by rw [List.length_append, mvCells_append]; exact hs7) (by omega) (fun m hm b hb' => by
            rcases List.mem_append.1 hm with hm | hm
            · exact s4.mv1 m hm b hb'
            · simp only [List.mem_singleton] at hm
              subst hm
              cases hb'
              exact hi)
          have A := s4.anewMv (nx' := nx7) (by omega) (own := own7) (l := (actR f).2.moves ++ [x]) (by have := hs7.le; omega)
          simp (disch := omega) only [go_sem, ↓reduceIte , hone7, i0]
          have a5 := a4.trans ⟨by omega, Kp.mono (T := fpS p _ L) (show Kp (fun c => c = p ∨ c + 1 = L.mv) nx2 _ _ from (by repeat first | exact Kp.refl _ _ _ | refine Kp.dropT ?_ (.inl (by omega)) | refine Kp.put ?_ (.inl (by omega)) | refine Kp.new ?_ (by omega) | refine Kp.put ?_ (.inr (by omega)) | refine Kp.newO ?_ (by omega) | refine Kp.setO ?_ (.inl (by omega)) | refine Kp.setO ?_ (.inr (by omega)) | refine Kp.trans0 ?_ (by assumption) (by omega) | refine Kp.transS ?_ (by assumption) (by omega) (fun b hb hT => by first | omega | (dsimp only at hT ⊢; omega) | (simp only at hT ⊢; omega))) ) (Nat.le_refl _) (fun b _ e => by
            rcases e with rfl | e
            · exact fp_p
            · exact fp_mv e), hM7, fun c hc => s4.fpA A c hc⟩
          simp only [actR_moves, actR_now] at a5
          exact ⟨_, a5⟩

/-! ### Read, List -/
set_option maxRecDepth 20000 in
theorem cloneBy_c {lo : Nat} {H : AH} {nx : Nat} {s : Value} {bs : List Int} {own : Nat} (hs : SlA nx H 1 s bs.length (bytV bs) own) (hl : bs.length ≤ 1000000000) : ACalls Try.prog lo 32 #[s] H nx
    (fun v H' nx' => nx ≤ nx' ∧ Kp (fun _ => False) nx H H' ∧ ∃ own', SlA nx' H' 1 v bs.length (bytV bs) own' ∧ (own' = 0 ∨ nx < own')) := by
  refine ACalls.withLo fun hlo => ?_
  obtain ⟨a, c, rfl⟩ := hs.form
  cases a with
  | none =>
    rcases hs.2.2 with ⟨h1, h2, h3⟩ | ⟨g, off, cap, h1, _⟩
    · simp only [Value.slice.injEq] at h1
      obtain ⟨_, _, rfl⟩ := h1
      have : bs = [] := List.eq_nil_of_length_eq_zero h2
      subst this
      refine acalls_of_awp L32 Try.func32 rfl (by kernel_rfl) ?_
      simp (disch := omega) only [go_sem, ↓reduceIte , List.length_nil]
      exact ⟨Nat.le_refl _, Kp.refl _ _ _, 0, SlA.nil _ _ _, .inl rfl⟩
    · simp at h1
  | some a =>
    refine acalls_of_awp L32 Try.func32 rfl (by kernel_rfl) ?_
    simp (disch := omega) only [go_sem, ↓reduceIte ]
    refine buildSQ_nil sl22 fun m hm => ?_
    simp (disch := omega) only [go_sem, ↓reduceIte ]
    have h0 : SlA (m + 1) (H.new m #[] 5) 1 (.slice (some ⟨m, 0, none⟩) 0 0) 0 [] (m + 1) := SlA.ofNew (by simp) (by omega) (by simp [maxLen]) (by simp) (by simp)
    refine aw_append sl22 zero5 rfl by5 h0 ((hs.new hm).src sl22 bytV_one) (by simp only [maxLen]; omega) (by omega) (.inr (by omega)) fun v' H' nx' own' hn hs' ho hk hnil => ?_
    simp (disch := omega) only [go_sem, ↓reduceIte ]
    refine ⟨by omega, Kp.trans (U := fun _ => False) ((Kp.refl (fun _ => False) nx H).new hm) hk (by omega) (fun b _ h => h) (fun b hb h => by omega), own', by simpa using hs', ?_⟩
    omega

/-- What Read tells. -/
def readR (f : Fs) (name : ByteArray) : List Int × Int :=
  if f.off = true then ([], 7) else
  match getA name f.now with
  | none => ([], 2)
  | some i => (((getA i f.bk).map (·.1)).getD [], 0)
set_option maxRecDepth 20000 in
theorem shRead_c {lo nx : Nat} {H : AH} {p : Nat} {f : Fs} {L : Lay} (h : ShA lo nx H p f L) (htot : totF f ≤ 1000000000) (name : ByteArray) :
    ACalls Try.prog lo 15 #[.pointer (some ⟨p, 0, none⟩), .string name] H nx (fun v H' nx' => nx ≤ nx' ∧ Kp (fun _ => False) nx H H' ∧ ∃ u own, v = .tuple #[u, .int .i64 (readR f name).2] ∧ SlA nx' H' 1 u (readR f name).1.length (bytV (readR f name).1) own ∧ (own = 0 ∨ nx < own)) := by
  refine acalls_of_awp L15 Try.func15 rfl (by kernel_rfl) ?_
  obtain ⟨l1, l2⟩ := h.ltp
  have c0 := h.c0
  have c5 := h.c5
  unfold readR
  cases ho : f.off with
  | true =>
    rw [ho] at c5
    simp (disch := omega) only [go_sem, ↓reduceIte , c5]
    exact ⟨Nat.le_refl _, Kp.refl _ _ _, _, 0, rfl, SlA.nil _ _ _, .inl rfl⟩
  | false =>
    rw [ho] at c5
    have hlk := look_sh h.on name
    unfold bkV at hlk
    cases hg : getA name f.now with
    | none =>
      rw [hg] at hlk
      simp (disch := omega) only [go_sem, ↓reduceIte , c5, c0, hlk]
      exact ⟨Nat.le_refl _, Kp.refl _ _ _, _, 0, rfl, SlA.nil _ _ _, .inl rfl⟩
    | some i =>
      rw [hg] at hlk
      obtain ⟨⟨i0, b0, s0⟩, hq0, e0⟩ := h.now1 _ (getA_mem hg)
      simp only at e0
      subst e0
      obtain ⟨ht, ⟨bv, hbv, hbs⟩, hb1⟩ := h.bk _ hq0
      simp only at ht hbv hbs hb1
      have hgb : getA i0 f.bk = some (b0, s0) := mem_getA h.uq hq0
      simp (disch := omega) only [go_sem, ↓reduceIte , c5, c0, hlk, hbv]
      refine (cloneBy_c hbs (Nat.le_trans (tot_ge hq0) htot)).mono fun v H3 nx3 _ ⟨hx3, hk3, own3, hs3, ho3⟩ => ?_
      simp (disch := omega) only [go_sem, ↓reduceIte , hgb, Option.getD_some]
      exact ⟨hx3, hk3, v, own3, rfl, hs3, ho3⟩

set_option maxRecDepth 20000 in
theorem shList_c {lo nx : Nat} {H : AH} {p : Nat} {f : Fs} {L : Lay} (h : ShA lo nx H p f L) (hk : ∀ a ∈ f.now, a.1.size ≤ 1000) (hl : f.now.length ≤ 1000000) :
    ACalls Try.prog lo 21 #[.pointer (some ⟨p, 0, none⟩)] H nx (fun v H' nx' => nx ≤ nx' ∧ Kp (fun _ => False) nx H H' ∧ ∃ (own : Nat) (ss : List (List UInt8)), (if f.off = true then ss = [] else ss.Perm (f.now.map fun a => a.1.data.toList)) ∧ SlA nx' H' 1 v ss.length (ss.map encStr) own ∧ (own = 0 ∨ nx < own)) := by
  refine ACalls.withLo fun hlo => ?_
  refine acalls_of_awp L21 Try.func21 rfl (by kernel_rfl) ?_
  obtain ⟨l1, l2⟩ := h.ltp
  have c0 := h.c0
  have c5 := h.c5
  cases ho : f.off with
  | true =>
    rw [ho] at c5
    simp (disch := omega) only [go_sem, ↓reduceIte , c5]
    exact ⟨Nat.le_refl _, Kp.refl _ _ _, 0, [], rfl, SlA.nil _ _ _, .inl rfl⟩
  | false =>
    rw [ho] at c5
    obtain ⟨ob, hob, hM⟩ := h.on
    have hkeys : ACalls Try.prog lo 36 #[.map (some L.mn)] H nx (fun v H' nx' => ∃ n, nx ≤ n ∧ v = .func (.func 52) #[] #[.pointer (some ⟨n, 0, none⟩)] ∧ H' = H.new n #[.map (some L.mn)] 55 ∧ nx' = n + 1) := by
      refine acalls_of_awp L36 Try.func36 rfl (by kernel_rfl) ?_
      simp (disch := omega) only [go_sem, ↓reduceIte ]
      intro n hn
      simp (disch := omega) only [go_sem, ↓reduceIte ]
      exact ⟨n, hn, rfl, rfl, rfl⟩
    simp (disch := omega) only [go_sem, ↓reduceIte , c5, c0]
    refine hkeys.mono fun v H2 nx2 _ ⟨n, hn, hv, hH, hx⟩ => ?_
    subst hv; subst hH; subst hx
    have n2 := h.ltn.2.1
    simp (disch := omega) only [go_sem, ↓reduceIte ]
    refine (sortedKeys_c (m := L.mn) (ob := ob) (l := f.now) (by omega) (by simp (disch := omega) only [go_sem, ↓reduceIte ]) (by simp (disch := omega) only [go_sem, ↓reduceIte , hob]) hM (fun a ha => by have := hk a ha; simp only [maxLen]; omega) hl).mono fun v H3 nx3 _ ⟨own, ss, hp, hs, ho3, hx3, hk3⟩ => ?_
    have hone := hs.one
    simp (disch := omega) only [go_sem, ↓reduceIte , hone]
    exact ⟨by omega, (by repeat first | exact Kp.refl _ _ _ | refine Kp.dropT ?_ (.inl (by omega)) | refine Kp.put ?_ (.inl (by omega)) | refine Kp.new ?_ (by omega) | refine Kp.put ?_ (.inr (by omega)) | refine Kp.newO ?_ (by omega) | refine Kp.setO ?_ (.inl (by omega)) | refine Kp.setO ?_ (.inr (by omega)) | refine Kp.trans0 ?_ (by assumption) (by omega) | refine Kp.transS ?_ (by assumption) (by omega) (fun b hb hT => by first | omega | (dsimp only at hT ⊢; omega) | (simp only at hT ⊢; omega))) , own, ss, hp, hs, by omega⟩
end Go.Proofs.Ytcdimjocdpogjaa
