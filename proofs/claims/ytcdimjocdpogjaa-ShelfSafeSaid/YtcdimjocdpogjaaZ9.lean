/- Shelf: Fall. -/
import Derived.Test.YtcdimjocdpogjaaZ8
namespace Go.Proofs.Ytcdimjocdpogjaa
open Go.RowKit
set_option linter.unusedSimpArgs false

theorem ShA.fp_lt {lo nx : Nat} {H : AH} {p : Nat} {f : Fs} {L : Lay} (h : ShA lo nx H p f L) {b : Nat} (hb : fpS p f L b) : b < nx := by
  obtain ⟨x, hx, e⟩ := hb
  have := h.rng x hx
  omega
def stepN (now : List (ByteArray × Nat)) (m : Mv) : List (ByteArray × Nat) := delA m.frm (match m.b with | none => delA m.name now | some i => setA m.name i now)
def cutB (bytes : Int) (bs : List Int) (s : Int) : List Int × Int := (bs.take (min (bs.length : Int) (s + min (max bytes 0) bs.length)).toNat, min (bs.length : Int) (s + min (max bytes 0) bs.length))
def cutD (bytes : Int) (D : List Nat) (bk : List (Nat × List Int × Int)) : List (Nat × List Int × Int) := bk.map fun q => if q.1 ∈ D then (q.1, cutB bytes q.2.1 q.2.2) else q
def kOf (names : Int) (n : Nat) : Nat := (min (max names 0) (n : Int)).toNat
def fallN (f : Fs) (names : Int) : List (ByteArray × Nat) := (f.moves.take (kOf names f.moves.length)).foldl stepN f.old
def fallR (f : Fs) (names bytes : Int) : Fs := { f with now := fallN f names, old := fallN f names, moves := [], off := false, left := -1, bk := cutD bytes ((fallN f names).map (·.2)) f.bk }
def SafeOk (bk : List (Nat × List Int × Int)) : Prop := ∀ q ∈ bk, 0 ≤ q.2.2 ∧ q.2.2 ≤ q.2.1.length

theorem cutB_len (bytes : Int) (bs : List Int) (s : Int) (h0 : 0 ≤ s) : ((cutB bytes bs s).1.length : Int) = (cutB bytes bs s).2 ∧ 0 ≤ (cutB bytes bs s).2 ∧ (cutB bytes bs s).1.length ≤ bs.length := by
  unfold cutB
  simp only [List.length_take]
  omega
theorem cutB_idem (bytes : Int) (bs : List Int) (s : Int) (h0 : 0 ≤ s) : cutB bytes (cutB bytes bs s).1 (cutB bytes bs s).2 = cutB bytes bs s := by
  obtain ⟨h1, h2, h3⟩ := cutB_len bytes bs s h0
  generalize hc : cutB bytes bs s = c at *
  obtain ⟨c1, c2⟩ := c
  simp only at h1 h2 h3
  unfold cutB
  have e : min (c1.length : Int) (c2 + min (max bytes 0) c1.length) = c2 := by omega
  simp only [e]
  rw [List.take_of_length_le (by omega)]
theorem cutD_nil (bytes : Int) (bk : List (Nat × List Int × Int)) : cutD bytes [] bk = bk := by
  unfold cutD
  conv => rhs; rw [← List.map_id bk]
  refine List.map_congr_left fun q _ => ?_
  simp
theorem cutD_congr {bytes : Int} {D E : List Nat} (h : ∀ i, i ∈ D ↔ i ∈ E) (bk : List (Nat × List Int × Int)) : cutD bytes D bk = cutD bytes E bk := by
  unfold cutD
  refine List.map_congr_left fun q _ => ?_
  simp only [h]
theorem cutD_fst (bytes : Int) (D : List Nat) (bk : List (Nat × List Int × Int)) : (cutD bytes D bk).map (·.1) = bk.map (·.1) := by
  unfold cutD
  rw [List.map_map]
  refine List.map_congr_left fun q _ => ?_
  simp only [Function.comp_apply]
  split <;> rfl
theorem cutD_step {bytes : Int} {D : List Nat} {bk : List (Nat × List Int × Int)} (hu : UqA bk) (hs : SafeOk bk) {i : Nat} {b0 : List Int} {s0 : Int} (h : (i, b0, s0) ∈ cutD bytes D bk) : updB i (cutB bytes b0 s0).1 (cutB bytes b0 s0).2 (cutD bytes D bk) = cutD bytes (i :: D) bk := by
  have hu2 : UqA (cutD bytes D bk) := by rw [UqA.iff, cutD_fst, ← UqA.iff]; exact hu
  unfold updB
  unfold cutD at h hu2 ⊢
  rw [List.map_map]
  refine List.map_congr_left fun q hq => ?_
  simp only [Function.comp_apply]
  by_cases hi : q.1 = i
  · have e1 := mem_getA hu2 h
    have e2 := mem_getA (x := q.1) (v := (if q.1 ∈ D then (q.1, cutB bytes q.2.1 q.2.2) else q).2) hu2 (List.mem_map.2 ⟨q, hq, by split <;> rfl⟩)
    rw [hi] at e2
    rw [e1] at e2
    simp only [Option.some.injEq] at e2
    have hsq := (hs q hq).1
    by_cases hD : q.1 ∈ D
    · rw [if_pos (hi ▸ hD : i ∈ D)] at e2
      simp only at e2
      have eb : b0 = (cutB bytes q.2.1 q.2.2).1 := congrArg Prod.fst e2
      have es : s0 = (cutB bytes q.2.1 q.2.2).2 := congrArg Prod.snd e2
      rw [eb, es, cutB_idem _ _ _ hsq]
      simp [hi, hi ▸ hD]
    · rw [if_neg (hi ▸ hD : i ∉ D)] at e2
      have eb : b0 = q.2.1 := congrArg Prod.fst e2
      have es : s0 = q.2.2 := congrArg Prod.snd e2
      rw [eb, es]
      simp [hi, hi ▸ hD]
  · by_cases hD : q.1 ∈ D
    · simp [hi, hD]
    · simp [hi, hD]
theorem stepN_mem {now : List (ByteArray × Nat)} {m : Mv} {a : ByteArray × Nat} (h : a ∈ stepN now m) : a ∈ now ∨ ∃ i, m.b = some i ∧ a.2 = i := by
  unfold stepN at h
  have := (mem_delA.1 h).1
  split at this
  · exact .inl (mem_delA.1 this).1
  · rename_i i hb
    rcases mem_setA this with rfl | h
    · exact .inr ⟨i, hb, rfl⟩
    · exact .inl h

theorem mv_take : ∀ (l : List Mv) (k : Nat), (mvCells l).take (k * 3) = mvCells (l.take k)
  | [], k => by simp [mvCells]
  | m :: l, 0 => by simp [mvCells]
  | m :: l, k + 1 => by
    have ih := mv_take l k
    simp only [mvCells, List.flatMap_cons, List.take_succ_cons] at ih ⊢
    rw [show (k + 1) * 3 = m.cells.length + k * 3 by rw [mv_three]; omega, List.take_length_add_append, ih]

theorem fp_eqi {p : Nat} {f : Fs} {L : Lay} {bk : List (Nat × List Int × Int)} (h : bk.map (·.1) = f.bk.map (·.1)) {b : Nat} : fpS p { f with bk := bk } L b ↔ fpS p f L b := by
  unfold fpS
  exact ⟨fun ⟨x, h1, h2⟩ => ⟨x, (okB h x).1 h1, h2⟩, fun ⟨x, h1, h2⟩ => ⟨x, (okB h x).2 h1, h2⟩⟩

theorem safe_cutD {bytes : Int} {D : List Nat} {bk : List (Nat × List Int × Int)} (hs : SafeOk bk) {q : Nat × List Int × Int} (h : q ∈ cutD bytes D bk) : 0 ≤ q.2.2 ∧ q.2.2 ≤ q.2.1.length ∧ q.2.1.length ≤ (bk.map fun q => q.2.1.length).sum := by
  unfold cutD at h
  obtain ⟨r, hr, e⟩ := List.mem_map.1 h
  have h0 := hs r hr
  have ht := tot_ge hr
  split at e
  · subst e
    obtain ⟨h1, h2, h3⟩ := cutB_len bytes r.2.1 r.2.2 h0.1
    simp only
    omega
  · subst e
    exact ⟨h0.1, h0.2, ht⟩

theorem AfterL.relay2 {lo nx nx4 nx' : Nat} {H H4 H' : AH} {p : Nat} {f f4 f' : Fs} {L : Lay} (h0 : ShA lo nx H p f L) (h : ShA lo nx4 H4 p f4 L) (hids : f4.bk.map (·.1) = f.bk.map (·.1)) (hk4 : Kp (fpS p f L) nx H H4) (hn4 : nx ≤ nx4) {n1 n2 : Nat} (h1 : nx ≤ n1) (h2 : nx ≤ n2) (h12 : n1 ≠ n2) (hn : nx4 ≤ nx' ∧ n1 < nx' ∧ n2 < nx') (hk : Kp (fun b => b = p) nx4 H4 H')
    (c0 : H'.c p 0 = some (.map (some n1))) (c1 : H'.c p 1 = some (.map (some n2))) (c2 : H'.c p 2 = some (.slice none 0 0)) (c3 : H'.c p 3 = some (.int .i64 f'.room)) (c4 : H'.c p 4 = some (.int .i64 f'.left)) (c5 : H'.c p 5 = some (.bool f'.off)) (c6 : H'.c p 6 = some (.int .i64 f'.done))
    (on : ∃ ob, H'.o n1 = some ob ∧ MapA ekS evB ob f'.now) (oo : ∃ ob, H'.o n2 = some ob ∧ MapA ekS evB ob f'.old) (hb : f'.bk = f4.bk) (hm : f'.moves = []) (now1 : ∀ a ∈ f'.now, ∃ q ∈ f4.bk, q.1 = a.2) (old1 : ∀ a ∈ f'.old, ∃ q ∈ f4.bk, q.1 = a.2) :
    AfterL lo nx H p f L f' { L with mn := n1, mo := n2, mv := 0 } H' nx' := by
  obtain ⟨l1, l2⟩ := h0.ltp
  have hok : ∀ x : Pt, x.ok f' → x.ok f := fun x hx => by
    cases x <;> simp only [Pt.ok, hb] at hx ⊢ <;> exact (ids_of hids _).1 hx
  have hrg : ∀ x : Pt, x.ok f → x.at p L ≤ nx := fun x hx => by
    have := h0.rng x hx
    omega
  have A : Anew lo nx nx' p f L f' { L with mn := n1, mo := n2, mv := 0 } := by
    refine ⟨by omega, fun x hx => ?_, fun x y hx hy hl e => ?_⟩
    · have hx' := hok x hx
      cases x with
      | p => exact .inl ⟨trivial, rfl⟩
      | mn => simp only [Pt.at]; right; right; omega
      | mo => simp only [Pt.at]; right; right; omega
      | mv => exact .inr (.inl rfl)
      | bk i => exact .inl ⟨hx', rfl⟩
      | ow i => exact .inl ⟨hx', rfl⟩
    · have cs : ∀ z : Pt, z.ok f' → nx < z.at p { L with mn := n1, mo := n2, mv := 0 } → z = .mn ∨ z = .mo := fun z hz hl => by
        cases z with
        | mn => exact .inl rfl
        | mo => exact .inr rfl
        | mv => simp only [Pt.at] at hl; omega
        | p => have := hrg .p trivial; simp only [Pt.at] at hl this; omega
        | bk i => have := hrg (.bk i) (hok _ hz); simp only [Pt.at] at hl this; omega
        | ow i => have := hrg (.ow i) (hok _ hz); simp only [Pt.at] at hl this; omega
      rcases cs x hx hl with rfl | rfl <;> rcases cs y hy (by omega) with rfl | rfl
      · rfl
      · simp only [Pt.at] at e; omega
      · simp only [Pt.at] at e; omega
      · rfl
  refine ⟨by omega, Kp.trans (U := fpS p f L) hk4 hk hn4 (fun _ _ e => e) (fun b _ e => by subst e; exact fp_p), ⟨c0, c1, ⟨_, c2, by rw [hm]; exact SlA.nil _ _ _⟩, c3, c4, c5, c6, on, oo, fun q hq => ?_, by rw [hb]; exact h.uq, h0.rngA A, h0.ndA A, by rw [hb]; exact now1, by rw [hb]; exact old1, by rw [hm]; simp⟩, h0.fpA A⟩
  rw [hb] at hq
  obtain ⟨b1, ⟨u, b2, b3⟩, b4⟩ := h.bk q hq
  obtain ⟨r1, r2, r3, r4, r5, r6, r7, r8, r9⟩ := h.ltb hq
  have e := hk q.1 r2 r3
  exact ⟨by rw [e.2.2]; exact b1, ⟨u, by rw [e.1]; exact b2, b3.kp hk hn.1 (by intro b hb; omega)⟩, by rw [e.1]; exact b4⟩

structure FaI (nx0 : Nat) (H0 : AH) (p n1 : Nat) (bytes : Int) (old : List (ByteArray × Nat)) (mv : Value) (ms : List Mv) (m : Nat) (env : Env) (H : AH) (nx k : Nat) : Prop where
  hm : m = ms.length - k
  hk : k ≤ ms.length
  henv : env = [(0, .pointer (some ⟨p, 0, none⟩)), (2, .int .i64 bytes), (6, .map (some n1)), (31, mv), (32, .int .i64 ms.length), (33, .int .i64 k)]
  hx : nx0 ≤ nx
  hkp : Kp (fun c => c = n1) nx0 H0 H
  ob : ∃ ob, H.o n1 = some ob ∧ MapA ekS evB ob ((ms.take k).foldl stepN old)
structure FbI (lo nx0 : Nat) (H0 : AH) (p n1 r clk : Nat) (bytes : Int) (f : Fs) (L : Lay) (z : List (Nat × ByteArray × Nat)) (m : Nat) (env : Env) (H : AH) (nx : Nat) (dz left : List (Nat × ByteArray × Nat)) (D : List Nat) : Prop where
  hm : m = left.length
  henv : env = [(0, .pointer (some ⟨p, 0, none⟩)), (2, .int .i64 bytes), (6, .map (some n1)), (53, .pointer (some ⟨r, 0, none⟩))]
  hx : nx0 ≤ nx
  hkp : Kp (fun c => fpS p f L c ∨ c = r) nx0 H0 H
  it : IterA H r n1 clk z dz left
  sh : ShA lo nx H p { f with bk := cutD bytes D f.bk } L
  hD : ∀ i, i ∈ D ↔ ∃ t ∈ dz, t.2.2 = i

set_option maxHeartbeats 8000000 in
set_option maxRecDepth 20000 in
theorem shFall_c {lo nx : Nat} {H : AH} {p : Nat} {f : Fs} {L : Lay} (h : ShA lo nx H p f L) (hs : SafeOk f.bk) (htot : totF f ≤ 1000000000) (hmv : f.moves.length ≤ 1000000) (names bytes : Int) :
    ACalls Try.prog lo 14 #[.pointer (some ⟨p, 0, none⟩), .int .i64 names, .int .i64 bytes] H nx (fun v H' nx' => v = .tuple #[] ∧ After lo nx H p f L (fallR f names bytes) H' nx') := by
  refine ACalls.withLo fun hlo => ?_
  refine acalls_of_awp L14 Try.func14 rfl (by kernel_rfl) ?_
  obtain ⟨l1, l2⟩ := h.ltp
  obtain ⟨o1, o2, o3⟩ := h.lto
  have c1 := h.c1
  obtain ⟨obo, hoo, hMo⟩ := h.oo
  obtain ⟨mvv, hmv2, hms⟩ := h.c2
  have hmle := hms.le
  obtain ⟨ma, mc, rfl⟩ := hms.form
  simp (disch := omega) only [go_sem, ↓reduceIte , c1]
  refine (clone_sh hoo hMo).mono fun v H1 nx1 _ ⟨n1, hn1, hv, hH, hx⟩ => ?_
  subst hv; subst hH; subst hx
  simp (disch := omega) only [go_sem, ↓reduceIte ]
  have hmc : f.moves.length ≤ mc := by
    rcases hms.2.2 with ⟨e, _, _⟩ | ⟨_, _, _, e, _, h, _⟩
    · simp only [Value.slice.injEq] at e; omega
    · simp only [Value.slice.injEq] at e; omega
  have hk0 : (min (max names 0) (f.moves.length : Int)) = (kOf names f.moves.length : Nat) := by unfold kOf; omega
  have hkl : kOf names f.moves.length ≤ f.moves.length := by unfold kOf; omega
  have hsv := slice_h (H := AH.empty) (n := f.moves.length) (c := mc) (a := ma) (kh := .i64) (h := (kOf names f.moves.length : Nat)) sl56 (by omega) (by omega)
  refine awp_draw ord14x2 (by kernel_rfl) ?_
  simp (disch := omega) only [go_sem, ↓reduceIte , ord14x2, hmv2, hk0, hsv]
  have hcut := hms.cut (l := 0) (h := kOf names f.moves.length) (m := mc) (by omega) hkl (by omega) (by omega)
  generalize hcv : cutS ma 3 mc 0 (kOf names f.moves.length) = cv at hcut
  have hcl : ((mvCells f.moves).drop (0 * 3)).take ((kOf names f.moves.length - 0) * 3) = mvCells (f.moves.take (kOf names f.moves.length)) := by
    rw [Nat.zero_mul, List.drop_zero, Nat.sub_zero]
    exact mv_take f.moves _
  rw [hcl] at hcut
  have hlen : (f.moves.take (kOf names f.moves.length)).length = kOf names f.moves.length := by rw [List.length_take]; omega
  rw [Nat.sub_zero] at hcut
  generalize hms2 : f.moves.take (kOf names f.moves.length) = ms at hcut hlen
  rw [← hlen] at hcut
  have hmsm : ∀ m ∈ ms, m ∈ f.moves := fun m hm => by rw [← hms2] at hm; exact List.mem_of_mem_take hm
  obtain ⟨va, vc, rfl⟩ := hcut.form
  simp (disch := omega) only [go_sem, ↓reduceIte , Int.toNat_natCast, hcv]
  refine awp_loop (fun m env H2 nx2 => ∃ k, FaI (n1 + 1) (H.newO n1 obo) p n1 bytes f.old (.slice va ms.length vc) ms m env H2 nx2 k) ms.length ⟨0, ⟨rfl, by omega, by rw [hlen]; rfl, Nat.le_refl _, Kp.refl _ _ _, ⟨obo, newO_same _ _ _, hMo⟩⟩⟩ (fun m env H2 nx2 ⟨k, hI⟩ hn => ?_)
  obtain ⟨hm, hk, henv, hx2, hkp2, ob2, hob2, hM2⟩ := hI
  subst henv
  have hkA : Kp (fun c => c = n1) nx H H2 := (by repeat first | exact Kp.refl _ _ _ | refine Kp.dropT ?_ (.inl (by omega)) | refine Kp.put ?_ (.inl (by omega)) | refine Kp.new ?_ (by omega) | refine Kp.put ?_ (.inr (by omega)) | refine Kp.newO ?_ (by omega) | refine Kp.setO ?_ (.inl (by omega)) | refine Kp.setO ?_ (.inr (by omega)) | refine Kp.trans0 ?_ (by assumption) (by omega) | refine Kp.transS ?_ (by assumption) (by omega) (fun b hb hT => by first | omega | (dsimp only at hT ⊢; omega) | (simp only at hT ⊢; omega))) 
  by_cases hkl2 : k < ms.length
  · obtain ⟨x, hx0⟩ : ∃ x, ms[k]? = some x := ⟨_, List.getElem?_eq_getElem hkl2⟩
    have hsle := hcut.le
    have hcut2 : SlA nx2 H2 3 (.slice va ms.length vc) ms.length (mvCells ms) L.mv := hcut.kp hkA (by omega) (by intro b hb; omega)
    clear hkA
    obtain ⟨ga, offa, ca, hva, hga⟩ := hcut.open (by omega)
    cases hva
    have hld := mv_load hcut2 hx0
    unfold Mv.cells ekP at hld
    have hstep : (ms.take (k + 1)).foldl stepN f.old = stepN ((ms.take k).foldl stepN f.old) x := by
      rw [List.take_add_one, hx0, Option.toList_some, List.foldl_append]; rfl
    simp (disch := omega) only [go_sem, ↓reduceIte , hld]
    intro d hd
    simp (disch := omega) only [go_sem, ↓reduceIte ]
    cases hxb : x.b with
    | none =>
      simp (disch := omega) only [go_sem, ↓reduceIte ]
      refine del_sh ⟨ob2, by simp (disch := omega) only [go_sem, ↓reduceIte , hob2], hM2⟩ (by omega) fun ob3 hM3 => ?_
      simp (disch := omega) only [go_sem, ↓reduceIte ]
      refine del_sh ⟨ob3, by simp (disch := omega) only [go_sem, ↓reduceIte ], hM3⟩ (by omega) fun ob4 hM4 => ?_
      simp (disch := omega) only [go_sem, ↓reduceIte ]
      exact ⟨ms.length - (k + 1), by omega, k + 1, ⟨rfl, by omega, rfl, by omega, (by repeat first | exact Kp.refl _ _ _ | refine Kp.dropT ?_ (.inl (by omega)) | refine Kp.put ?_ (.inl (by omega)) | refine Kp.new ?_ (by omega) | refine Kp.put ?_ (.inr (by omega)) | refine Kp.newO ?_ (by omega) | refine Kp.setO ?_ (.inl (by omega)) | refine Kp.setO ?_ (.inr (by omega)) | refine Kp.trans0 ?_ (by assumption) (by omega) | refine Kp.transS ?_ (by assumption) (by omega) (fun b hb hT => by first | omega | (dsimp only at hT ⊢; omega) | (simp only at hT ⊢; omega))) , ⟨ob4, by simp (disch := omega) only [go_sem, ↓reduceIte ], by rw [hstep]; unfold stepN; rw [hxb]; exact hM4⟩⟩⟩
    | some i =>
      simp (disch := omega) only [go_sem, ↓reduceIte , hxb]
      refine set_sh ⟨ob2, by simp (disch := omega) only [go_sem, ↓reduceIte , hob2], hM2⟩ (by omega) fun ob3 hM3 => ?_
      simp (disch := omega) only [go_sem, ↓reduceIte ]
      refine del_sh ⟨ob3, by simp (disch := omega) only [go_sem, ↓reduceIte ], hM3⟩ (by omega) fun ob4 hM4 => ?_
      simp (disch := omega) only [go_sem, ↓reduceIte ]
      exact ⟨ms.length - (k + 1), by omega, k + 1, ⟨rfl, by omega, rfl, by omega, (by repeat first | exact Kp.refl _ _ _ | refine Kp.dropT ?_ (.inl (by omega)) | refine Kp.put ?_ (.inl (by omega)) | refine Kp.new ?_ (by omega) | refine Kp.put ?_ (.inr (by omega)) | refine Kp.newO ?_ (by omega) | refine Kp.setO ?_ (.inl (by omega)) | refine Kp.setO ?_ (.inr (by omega)) | refine Kp.trans0 ?_ (by assumption) (by omega) | refine Kp.transS ?_ (by assumption) (by omega) (fun b hb hT => by first | omega | (dsimp only at hT ⊢; omega) | (simp only at hT ⊢; omega))) , ⟨ob4, by simp (disch := omega) only [go_sem, ↓reduceIte ], by rw [hstep]; unfold stepN; rw [hxb]; exact hM4⟩⟩⟩
  · obtain rfl : k = ms.length := by omega
    rw [List.take_length] at hM2
    have hN : ms.foldl stepN f.old = fallN f names := by unfold fallN; rw [hms2]
    rw [hN] at hM2
    have hNbk : ∀ a ∈ fallN f names, ∃ q ∈ f.bk, q.1 = a.2 := by
      rw [← hN]
      have key : ∀ (l : List Mv) (now : List (ByteArray × Nat)), (∀ m ∈ l, m ∈ f.moves) → (∀ a ∈ now, ∃ q ∈ f.bk, q.1 = a.2) → ∀ a ∈ l.foldl stepN now, ∃ q ∈ f.bk, q.1 = a.2 := by
        intro l
        induction l with
        | nil => intro now _ h; exact h
        | cons m l ih =>
          intro now hl hnow
          refine ih _ (fun m' hm' => hl m' (by simp [hm'])) fun a ha => ?_
          rcases stepN_mem ha with ha | ⟨i, hi, e⟩
          · exact hnow a ha
          · rw [e]; exact h.mv1 m (hl m (by simp)) i hi
      exact key ms f.old hmsm h.old1
    have s2 := h.kp hkA (nx' := nx2) (by omega) (fun b hb => by have := h.fp_lt hb; omega)
    simp (disch := omega) only [go_sem, ↓reduceIte ]
    obtain ⟨_, clk, z, hz, hzo⟩ := hM2
    refine rangeQ_A mapSh hob2 hz fun r hr hI => ?_
    simp (disch := omega) only [go_sem, ↓reduceIte ]
    refine awp_name fun H3 hH3 => ?_
    have hk3 : Kp (fun _ => False) nx2 H2 H3 := by rw [hH3]; exact (by repeat first | exact Kp.refl _ _ _ | refine Kp.dropT ?_ (.inl (by omega)) | refine Kp.put ?_ (.inl (by omega)) | refine Kp.new ?_ (by omega) | refine Kp.put ?_ (.inr (by omega)) | refine Kp.newO ?_ (by omega) | refine Kp.setO ?_ (.inl (by omega)) | refine Kp.setO ?_ (.inr (by omega)) | refine Kp.trans0 ?_ (by assumption) (by omega) | refine Kp.transS ?_ (by assumption) (by omega) (fun b hb hT => by first | omega | (dsimp only at hT ⊢; omega) | (simp only at hT ⊢; omega))) 
    have hI3 : IterA H3 r n1 clk z [] z := by rw [hH3]; exact hI
    have s3 := s2.kp hk3 (nx' := r + 1) (by omega) (by simp)
    clear hI
    refine awp_loop (fun m env H4 nx4 => ∃ dz left D, FbI lo (r + 1) H3 p n1 r clk bytes f L z m env H4 nx4 dz left D) z.length ⟨[], z, [], ⟨rfl, rfl, Nat.le_refl _, Kp.refl _ _ _, hI3, by rw [cutD_nil]; exact s3, by simp⟩⟩ (fun m env H4 nx4 ⟨dz, left, D, hI⟩ hn4 => ?_)
    obtain ⟨hm4, henv, hx4, hkp4, hit, s4, hD⟩ := hI
    subst henv
    have hnfp : ∀ c, nx ≤ c → ¬ fpS p f L c := fun c hc hb => by have := h.fp_lt hb; omega
    have hob4 : H4.o n1 = some ob2 := by
      rw [(hkp4 n1 (by omega) (fun e => by rcases e with e | e; exact hnfp n1 (by omega) e; omega)).2.1, (hk3 n1 (by omega) (by simp)).2.1]
      exact hob2
    simp (disch := omega) only [go_sem, ↓reduceIte ]
    refine nextMQ_A hob4 hz hit (by omega) (fun t left' ob5 htz hlt hit2 => ?_) (fun hl => ?_)
    · simp (disch := omega) only [go_sem, ↓reduceIte ]
      refine entryQ_A (by simp (disch := omega) only [go_sem, ↓reduceIte , hob4]) hz hit2 ?_
      have hta : t.2 ∈ fallN f names := by rw [← hzo]; exact List.mem_map_of_mem htz
      obtain ⟨q0, hq0, hqt⟩ := hNbk _ hta
      obtain ⟨q, hq, hqi⟩ : ∃ q ∈ cutD bytes D f.bk, q.1 = t.2.2 := (ids_of (cutD_fst bytes D f.bk) _).2 ⟨q0, hq0, hqt⟩
      obtain ⟨i0, b0, s0⟩ := q
      simp only at hqi
      generalize hte : t.2.2 = ti at hqi
      subst hqi
      have k5 : Kp (fun c => c = r) nx4 H4 (H4.setO r ob5) := (by repeat first | exact Kp.refl _ _ _ | refine Kp.dropT ?_ (.inl (by omega)) | refine Kp.put ?_ (.inl (by omega)) | refine Kp.new ?_ (by omega) | refine Kp.put ?_ (.inr (by omega)) | refine Kp.newO ?_ (by omega) | refine Kp.setO ?_ (.inl (by omega)) | refine Kp.setO ?_ (.inr (by omega)) | refine Kp.trans0 ?_ (by assumption) (by omega) | refine Kp.transS ?_ (by assumption) (by omega) (fun b hb hT => by first | omega | (dsimp only at hT ⊢; omega) | (simp only at hT ⊢; omega))) 
      have s5 := s4.kp k5 (Nat.le_refl _) (fun b hb e => by subst e; have := hnfp b (by omega); exact this ((fp_eqi (cutD_fst bytes D f.bk)).1 hb))
      obtain ⟨ht, ⟨bv, hbv, hbs⟩, hb1⟩ := s5.bk _ hq
      obtain ⟨r1, r2, r3, r4, r5, r6, r7, r8, r9⟩ := s5.ltb hq
      simp only at ht hbv hbs hb1 r1 r2 r3 r4 r5 r6 r7 r8 r9
      obtain ⟨ba, bc, rfl⟩ := hbs.form
      have e0 : H4.c i0 0 = some (.slice ba b0.length bc) := hbv
      have e1 : H4.c i0 1 = some (.int .i64 s0) := hb1
      obtain ⟨z0, z1, z2⟩ := safe_cutD hs hq
      have zt : b0.length ≤ 1000000000 := Nat.le_trans z2 htot
      simp only at z0 z1
      unfold evB
      simp (disch := omega) only [go_sem, ↓reduceIte ]
      refine awp_draw ord14x13 (by kernel_rfl) ?_
      simp (disch := omega) only [go_sem, ↓reduceIte , ord14x13, e0, e1]
      have hcb : min (b0.length : Int) (s0 + min (max bytes 0) b0.length) = (cutB bytes b0 s0).2 := rfl
      obtain ⟨y1, y2, y3⟩ := cutB_len bytes b0 s0 z0
      have y4 : (cutB bytes b0 s0).1 = b0.take (cutB bytes b0 s0).2.toNat := rfl
      rw [hcb]
      generalize hcc : cutB bytes b0 s0 = cc at y1 y2 y3 y4
      obtain ⟨cb, cn⟩ := cc
      simp only at y1 y2 y3 y4 ⊢
      have hbc : b0.length ≤ bc := by
        rcases hbs.2.2 with ⟨e, _, _⟩ | ⟨_, _, _, e, _, h, _⟩
        · simp only [Value.slice.injEq] at e; omega
        · simp only [Value.slice.injEq] at e; omega
      have hsv2 := slice_hm (H := H4.setO r ob5) (n := b0.length) (c := bc) (a := ba) (kh := .i64) (km := .i64) sl22 y2 (Int.le_refl cn) (by omega)
      have hcut5 := hbs.cut (l := 0) (h := cn.toNat) (m := cn.toNat) (by omega) (by omega) (by omega) (by omega)
      generalize hcv5 : cutS ba 1 cn.toNat 0 cn.toNat = cv5 at hsv2 hcut5
      have hcl5 : ((bytV b0).drop (0 * 1)).take ((cn.toNat - 0) * 1) = bytV (b0.take cn.toNat) := by simp [bytV, List.map_take]
      rw [hcl5, ← y4] at hcut5
      have hone5 := hcut5.one
      have hl5 : cb.length = cn.toNat - 0 := by omega
      rw [← hl5] at hcut5
      simp (disch := omega) only [go_sem, ↓reduceIte , e0, e1, hsv2, hone5]
      have s6 := s5.setB (H' := ((H4.setO r ob5).put i0 0 cv5).put i0 1 (.int .i64 cn)) (nx' := nx4) (v := cv5) (own := L.own i0) (bs := cb) (s := cn) hq (by repeat first | exact Kp.refl _ _ _ | refine Kp.dropT ?_ (.inl (by omega)) | refine Kp.put ?_ (.inl (by omega)) | refine Kp.new ?_ (by omega) | refine Kp.put ?_ (.inr (by omega)) | refine Kp.newO ?_ (by omega) | refine Kp.setO ?_ (.inl (by omega)) | refine Kp.setO ?_ (.inr (by omega)) | refine Kp.trans0 ?_ (by assumption) (by omega) | refine Kp.transS ?_ (by assumption) (by omega) (fun b hb hT => by first | omega | (dsimp only at hT ⊢; omega) | (simp only at hT ⊢; omega)))  (Nat.le_refl _) (by rw [put_t, put_t]) (by rw [put_other _ _ _ _ _ (by omega), put_same]) (put_same _ _ _) ((hcut5.put (by omega)).put (by omega)) (by omega)
      have hL : ({ L with own := fun j => if j = i0 then L.own i0 else L.own j } : Lay) = L := by
        obtain ⟨a, b, c, d⟩ := L
        simp only [Lay.mk.injEq, true_and]
        funext j
        split
        · rename_i e; rw [e]
        · rfl
      rw [hL] at s6
      have hst := cutD_step (bytes := bytes) h.uq hs hq
      rw [hcc] at hst
      simp only at s6 hst
      rw [hst] at s6
      have hfi : fpS p f L i0 := (fp_eqi (cutD_fst bytes D f.bk)).1 (fp_bk (q := (i0, b0, s0)) hq)
      refine ⟨left'.length, by omega, dz ++ [t], left', i0 :: D, ⟨rfl, rfl, by omega, Kp.trans (U := fun c => fpS p f L c ∨ c = r) hkp4 (show Kp (fun c => c = i0 ∨ c = r) nx4 H4 _ from (by repeat first | exact Kp.refl _ _ _ | refine Kp.dropT ?_ (.inl (by omega)) | refine Kp.put ?_ (.inl (by omega)) | refine Kp.new ?_ (by omega) | refine Kp.put ?_ (.inr (by omega)) | refine Kp.newO ?_ (by omega) | refine Kp.setO ?_ (.inl (by omega)) | refine Kp.setO ?_ (.inr (by omega)) | refine Kp.trans0 ?_ (by assumption) (by omega) | refine Kp.transS ?_ (by assumption) (by omega) (fun b hb hT => by first | omega | (dsimp only at hT ⊢; omega) | (simp only at hT ⊢; omega))) ) hx4 (fun _ _ e => e) (fun b _ e => by
        rcases e with rfl | e
        · exact .inl hfi
        · exact .inr e), hit2.kp (S := fun c => c = i0) (nx := nx4) (by repeat first | exact Kp.refl _ _ _ | refine Kp.dropT ?_ (.inl (by omega)) | refine Kp.put ?_ (.inl (by omega)) | refine Kp.new ?_ (by omega) | refine Kp.put ?_ (.inr (by omega)) | refine Kp.newO ?_ (by omega) | refine Kp.setO ?_ (.inl (by omega)) | refine Kp.setO ?_ (.inr (by omega)) | refine Kp.trans0 ?_ (by assumption) (by omega) | refine Kp.transS ?_ (by assumption) (by omega) (fun b hb hT => by first | omega | (dsimp only at hT ⊢; omega) | (simp only at hT ⊢; omega)))  (by omega) (fun e => by subst e; exact hnfp _ (by omega) hfi), s6, fun j => ?_⟩⟩
      simp only [List.mem_cons, List.mem_append, List.mem_singleton, List.not_mem_nil, or_false]
      rw [hD]
      constructor
      · rintro (rfl | ⟨s, hs, e⟩)
        · exact ⟨t, .inr rfl, hte⟩
        · exact ⟨s, .inl hs, e⟩
      · rintro ⟨s, hs | rfl, e⟩
        · exact .inr ⟨s, hs, e⟩
        · exact .inl (by rw [← e, hte])
    · have hp := hit.perm
      rw [hl, List.append_nil] at hp
      have hD1 : ∀ i, i ∈ D ↔ i ∈ (fallN f names).map (·.2) := fun i => by
        rw [hD, ← hzo, List.map_map]
        simp only [List.mem_map, Function.comp_apply]
        exact ⟨fun ⟨s, hs, e⟩ => ⟨s, hp.mem_iff.2 hs, e⟩, fun ⟨s, hs, e⟩ => ⟨s, hp.mem_iff.1 hs, e⟩⟩
      have k4 : Kp (fpS p f L) nx H H4 := Kp.trans (U := fpS p f L) (Kp.trans (U := fun c => c = n1) hkA hk3 (by omega) (fun _ _ e => e) (fun _ _ e => e.elim)) hkp4 (by omega) (fun b hb e => by omega) (fun b hb e => by rcases e with e | e; exact e; omega)
      have d0 := s4.c0
      have d1 := s4.c1
      have d4 := s4.c4
      have d5 := s4.c5
      obtain ⟨u2, d2, _⟩ := s4.c2
      have hMN : MapA ekS evB ob2 (fallN f names) := ⟨by assumption, clk, z, hz, hzo⟩
      have hbk4 : (fallR f names bytes).bk = cutD bytes D f.bk := (cutD_congr (fun i => (hD1 i).symm) f.bk)
      simp (disch := omega) only [go_sem, ↓reduceIte ]
      refine (clone_sh hob4 hMN).mono fun v H5 nx5 _ ⟨n2, hn2, hv, hH, hx⟩ => ?_
      subst hv; subst hH; subst hx
      simp (disch := omega) only [go_sem, ↓reduceIte , d0, d1, d2, d4, d5]
      have hNids : ∀ a ∈ fallN f names, ∃ q ∈ cutD bytes D f.bk, q.1 = a.2 := fun a ha => (ids_of (cutD_fst bytes D f.bk) _).2 (hNbk a ha)
      exact ⟨_, AfterL.relay2 (f' := fallR f names bytes) (n1 := n1) (n2 := n2) h s4 (cutD_fst bytes D f.bk) k4 (by omega) hn1 (by omega) (by omega) (by omega) (by repeat first | exact Kp.refl _ _ _ | refine Kp.dropT ?_ (.inl (by omega)) | refine Kp.put ?_ (.inl (by omega)) | refine Kp.new ?_ (by omega) | refine Kp.put ?_ (.inr (by omega)) | refine Kp.newO ?_ (by omega) | refine Kp.setO ?_ (.inl (by omega)) | refine Kp.setO ?_ (.inr (by omega)) | refine Kp.trans0 ?_ (by assumption) (by omega) | refine Kp.transS ?_ (by assumption) (by omega) (fun b hb hT => by first | omega | (dsimp only at hT ⊢; omega) | (simp only at hT ⊢; omega)))  (by simp (disch := omega) only [go_sem, ↓reduceIte ]) (by simp (disch := omega) only [go_sem, ↓reduceIte ]) (by simp (disch := omega) only [go_sem, ↓reduceIte ]) (by simp (disch := omega) only [go_sem, ↓reduceIte , s4.c3]; rfl) (by simp (disch := omega) only [go_sem, ↓reduceIte ]; rfl) (by simp (disch := omega) only [go_sem, ↓reduceIte ]; rfl) (by simp (disch := omega) only [go_sem, ↓reduceIte , s4.c6]; rfl) ⟨ob2, by simp (disch := omega) only [go_sem, ↓reduceIte , hob4], hMN⟩ ⟨ob2, by simp (disch := omega) only [go_sem, ↓reduceIte ], hMN⟩ hbk4 rfl hNids hNids⟩
end Go.Proofs.Ytcdimjocdpogjaa
