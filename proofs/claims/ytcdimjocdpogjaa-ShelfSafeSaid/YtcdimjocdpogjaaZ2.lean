/- Shelf: what turns in memory, step by step. -/
import Derived.Test.YtcdimjocdpogjaaZ1
namespace Go.Proofs.Ytcdimjocdpogjaa
open Go.RowKit
set_option linter.unusedSimpArgs false

section
variable {lo nx nx' : Nat} {H H' : AH} {p : Nat} {f f' : Fs} {L L' : Lay}
theorem ShA.rngA (h : ShA lo nx H p f L) (A : Anew lo nx nx' p f L f' L') : ∀ x : Pt, x.ok f' → x.at p L' = 0 ∨ (lo < x.at p L' ∧ x.at p L' ≤ nx') := fun x hx => by
  have hp := h.ltp
  have hle := A.le
  rcases A.q x hx with ⟨h1, h2⟩ | h1 | h1
  · rw [h2]
    have := h.rng x h1
    omega
  · exact .inl h1
  · omega
theorem ShA.ndA (h : ShA lo nx H p f L) (A : Anew lo nx nx' p f L f' L') : ∀ x y : Pt, x.ok f' → y.ok f' → x.at p L' = y.at p L' → x.at p L' = 0 ∨ x = y := fun x y hx hy e => by
  rcases A.q x hx with ⟨h1, h2⟩ | h1 | h1
  · rcases A.q y hy with ⟨g1, g2⟩ | g1 | g1
    · have := h.nd x y h1 g1 (by rw [← h2, ← g2, e])
      rw [h2]; exact this
    · exact .inl (by rw [e, g1])
    · have := h.rng x h1
      omega
  · exact .inl h1
  · exact .inr (A.d x y hx hy h1.1 e)
theorem ShA.fpA (_h : ShA lo nx H p f L) (A : Anew lo nx nx' p f L f' L') : ∀ b, fpS p f' L' b → fpS p f L b ∨ nx ≤ b := fun b ⟨x, hx, hb⟩ => by
  rcases A.q x hx with ⟨h1, h2⟩ | h1 | h1
  · exact .inl ⟨x, h1, by rw [← h2, hb]⟩
  · omega
  · right; omega

theorem ShA.reput (h : ShA lo nx H p f L) {o : Nat} {v : Value} (hr : f'.now = f.now ∧ f'.old = f.old ∧ f'.moves = f.moves ∧ f'.bk = f.bk) (h0 : o ≠ 0 ∧ o ≠ 1 ∧ o ≠ 2)
    (h3 : (H.put p o v).c p 3 = some (.int .i64 f'.room)) (h4 : (H.put p o v).c p 4 = some (.int .i64 f'.left)) (h5 : (H.put p o v).c p 5 = some (.bool f'.off)) (h6 : (H.put p o v).c p 6 = some (.int .i64 f'.done)) : ShA lo nx (H.put p o v) p f' L := by
  obtain ⟨e1, e2, e3, e4⟩ := hr
  have hok : ∀ x : Pt, x.ok f' → x.ok f := fun x hx => by
    cases x <;> first | trivial | (simp only [Pt.ok, e4] at hx; exact hx)
  obtain ⟨n1, n2, n3, _⟩ := h.ltn
  obtain ⟨o1, o2, o3⟩ := h.lto
  obtain ⟨v1, v2, v3⟩ := h.ltv
  refine ⟨by rw [put_other _ _ _ _ _ (by omega)]; exact h.c0, by rw [put_other _ _ _ _ _ (by omega)]; exact h.c1, ?_, h3, h4, h5, h6, by rw [e1]; exact h.on, by rw [e2]; exact h.oo, fun q hq => ?_, by rw [e4]; exact h.uq, fun x hx => h.rng x (hok x hx), fun x y hx hy => h.nd x y (hok x hx) (hok y hy), by rw [e1, e4]; exact h.now1, by rw [e2, e4]; exact h.old1, by rw [e3, e4]; exact h.mv1⟩
  · obtain ⟨u, hu, hsl⟩ := h.c2
    rw [e3]
    exact ⟨u, by rw [put_other _ _ _ _ _ (by omega)]; exact hu, hsl.put (by omega)⟩
  · rw [e4] at hq
    obtain ⟨b1, ⟨u, b2, b3⟩, b4⟩ := h.bk q hq
    obtain ⟨l1, l2, l3, l4, l5, l6, l7, l8, l9⟩ := h.ltb hq
    exact ⟨b1, ⟨u, by rw [put_other _ _ _ _ _ (by omega)]; exact b2, b3.put (by omega)⟩, by rw [put_other _ _ _ _ _ (by omega)]; exact b4⟩
theorem ShA.putLeft (h : ShA lo nx H p f L) (x : Int) : ShA lo nx (H.put p 4 (.int .i64 x)) p { f with left := x } L :=
  h.reput ⟨rfl, rfl, rfl, rfl⟩ (by omega) (by rw [put_other _ _ _ _ _ (by omega)]; exact h.c3) (put_same _ _ _) (by rw [put_other _ _ _ _ _ (by omega)]; exact h.c5) (by rw [put_other _ _ _ _ _ (by omega)]; exact h.c6)
theorem ShA.putOff (h : ShA lo nx H p f L) (x : Bool) : ShA lo nx (H.put p 5 (.bool x)) p { f with off := x } L :=
  h.reput ⟨rfl, rfl, rfl, rfl⟩ (by omega) (by rw [put_other _ _ _ _ _ (by omega)]; exact h.c3) (by rw [put_other _ _ _ _ _ (by omega)]; exact h.c4) (put_same _ _ _) (by rw [put_other _ _ _ _ _ (by omega)]; exact h.c6)
theorem ShA.putDone (h : ShA lo nx H p f L) (x : Int) : ShA lo nx (H.put p 6 (.int .i64 x)) p { f with done := x } L :=
  h.reput ⟨rfl, rfl, rfl, rfl⟩ (by omega) (by rw [put_other _ _ _ _ _ (by omega)]; exact h.c3) (by rw [put_other _ _ _ _ _ (by omega)]; exact h.c4) (by rw [put_other _ _ _ _ _ (by omega)]; exact h.c5) (put_same _ _ _)
theorem ShA.putRoom (h : ShA lo nx H p f L) (x : Int) : ShA lo nx (H.put p 3 (.int .i64 x)) p { f with room := x } L :=
  h.reput ⟨rfl, rfl, rfl, rfl⟩ (by omega) (put_same _ _ _) (by rw [put_other _ _ _ _ _ (by omega)]; exact h.c4) (by rw [put_other _ _ _ _ _ (by omega)]; exact h.c5) (by rw [put_other _ _ _ _ _ (by omega)]; exact h.c6)

/-- Names as they are turn. -/
theorem ShA.setNow (h : ShA lo nx H p f L) {ob : Obj} {l : List (ByteArray × Nat)} (hM : MapA ekS evB ob l) (hl : ∀ a ∈ l, ∃ q ∈ f.bk, q.1 = a.2) : ShA lo nx (H.setO L.mn ob) p { f with now := l } L := by
  obtain ⟨n1, n2, n3, n4⟩ := h.ltn
  have hok : ∀ x : Pt, x.ok { f with now := l } → x.ok f := fun x hx => by cases x <;> first | trivial | exact hx
  refine ⟨h.c0, h.c1, ?_, h.c3, h.c4, h.c5, h.c6, ⟨ob, setO_same _ _ _, hM⟩, by rw [setO_o _ _ _ _ (by omega)]; exact h.oo, fun q hq => ?_, h.uq, fun x hx => h.rng x (hok x hx), fun x y hx hy => h.nd x y (hok x hx) (hok y hy), hl, h.old1, h.mv1⟩
  · obtain ⟨u, hu, hsl⟩ := h.c2
    exact ⟨u, hu, hsl.setO⟩
  · obtain ⟨b1, ⟨u, b2, b3⟩, b4⟩ := h.bk q hq
    exact ⟨b1, ⟨u, b2, b3.setO⟩, b4⟩

/-- The list of what was done to names turns. -/
theorem ShA.anewMv (h : ShA lo nx H p f L) (hn : nx ≤ nx') {own : Nat} (ho : own = L.mv ∨ own = 0 ∨ (nx < own ∧ own ≤ nx')) {l : List Mv} : Anew lo nx nx' p f L { f with moves := l } { L with mv := own } := by
  refine ⟨hn, fun x hx => ?_, fun x y hx hy hl e => ?_⟩
  · cases x <;> first | exact .inl ⟨hx, rfl⟩ | skip
    rcases ho with rfl | rfl | h1
    · exact .inl ⟨trivial, rfl⟩
    · exact .inr (.inl rfl)
    · exact .inr (.inr h1)
  · have old : ∀ z : Pt, z.ok { f with moves := l } → z ≠ .mv → z.at p { L with mv := own } ≤ nx := fun z hz hne => by
      have : z.at p { L with mv := own } = z.at p L := by cases z <;> first | rfl | exact absurd rfl hne
      rw [this]
      have hz' : z.ok f := by cases z <;> first | trivial | exact hz
      have := h.rng z hz'
      have := h.ltp
      omega
    by_cases hx' : x = .mv
    · by_cases hy' : y = .mv
      · rw [hx', hy']
      · have := old y hy hy'; omega
    · have := old x hx hx'; omega
theorem ShA.setMoves (h : ShA lo nx H p f L) (hk : Kp (fun b => b + 1 = L.mv) nx H H') (hn : nx ≤ nx') {v : Value} {own : Nat} {l : List Mv} (hs : SlA nx' H' 3 v l.length (mvCells l) own) (ho : own = L.mv ∨ own = 0 ∨ nx < own)
    (hl : ∀ m ∈ l, ∀ b, m.b = some b → ∃ q ∈ f.bk, q.1 = b) : ShA lo nx' (H'.put p 2 v) p { f with moves := l } { L with mv := own } := by
  obtain ⟨l1, l2⟩ := h.ltp
  obtain ⟨n1, n2, n3, n4⟩ := h.ltn
  obtain ⟨o1, o2, o3⟩ := h.lto
  obtain ⟨v1, v2, v3⟩ := h.ltv
  have hle := hs.le
  have A : Anew lo nx nx' p f L { f with moves := l } { L with mv := own } := h.anewMv hn (by omega)
  have hmn : L.mn + 1 ≠ L.mv := by
    have := h.ne (x := .mn) (y := .mv) trivial trivial (by simp)
    simp only [Pt.at] at this; omega
  have hmo : L.mo + 1 ≠ L.mv := by
    have := h.ne (x := .mo) (y := .mv) trivial trivial (by simp)
    simp only [Pt.at] at this; omega
  have hp := hk p l2 (by omega)
  have same : ∀ o, o ≠ 2 → (H'.put p 2 v).c p o = H.c p o := fun o h2 => by rw [put_other _ _ _ _ _ (by omega), hp.1]
  refine ⟨by rw [same _ (by omega)]; exact h.c0, by rw [same _ (by omega)]; exact h.c1, ⟨v, put_same _ _ _, hs.put (by omega)⟩, by rw [same _ (by omega)]; exact h.c3, by rw [same _ (by omega)]; exact h.c4, by rw [same _ (by omega)]; exact h.c5, by rw [same _ (by omega)]; exact h.c6, ?_, ?_, fun q hq => ?_, h.uq, h.rngA A, h.ndA A, h.now1, h.old1, hl⟩
  · rw [put_o, (hk L.mn n2 hmn).2.1]; exact h.on
  · rw [put_o, (hk L.mo o2 hmo).2.1]; exact h.oo
  · obtain ⟨b1, ⟨u, b2, b3⟩, b4⟩ := h.bk q hq
    obtain ⟨r1, r2, r3, r4, r5, r6, r7, r8, r9⟩ := h.ltb hq
    have hb := hk q.1 r2 (by omega)
    refine ⟨by rw [put_t, hb.2.2]; exact b1, ⟨u, by rw [put_other _ _ _ _ _ (by omega), hb.1]; exact b2, (b3.kp hk hn (fun b e1 e2 => by omega)).put (by first | omega | (dsimp only; omega))⟩, by rw [put_other _ _ _ _ _ (by omega), hb.1]; exact b4⟩

/-- One file turns. -/
def updB (i : Nat) (bs : List Int) (s : Int) (bk : List (Nat × List Int × Int)) : List (Nat × List Int × Int) := bk.map fun q => if q.1 = i then (i, bs, s) else q
theorem updB_fst (i : Nat) (bs : List Int) (s : Int) (bk : List (Nat × List Int × Int)) : (updB i bs s bk).map (·.1) = bk.map (·.1) := by
  unfold updB
  rw [List.map_map]
  refine List.map_congr_left fun q _ => ?_
  simp only [Function.comp_apply]
  split
  · rename_i e; exact e.symm
  · rfl
theorem mem_updB {i : Nat} {bs : List Int} {s : Int} {bk : List (Nat × List Int × Int)} {q : Nat × List Int × Int} (h : q ∈ updB i bs s bk) : (q = (i, bs, s) ∧ ∃ r ∈ bk, r.1 = i) ∨ (q ∈ bk ∧ q.1 ≠ i) := by
  unfold updB at h
  obtain ⟨r, hr, he⟩ := List.mem_map.1 h
  split at he
  · rename_i e; exact .inl ⟨he.symm, r, hr, e⟩
  · rename_i e; subst he; exact .inr ⟨hr, e⟩
theorem ids_of {bk bk' : List (Nat × List Int × Int)} (h : bk'.map (·.1) = bk.map (·.1)) (i : Nat) : (∃ q ∈ bk', q.1 = i) ↔ ∃ q ∈ bk, q.1 = i := by
  have : ∀ l : List (Nat × List Int × Int), (∃ q ∈ l, q.1 = i) ↔ i ∈ l.map (·.1) := fun l => by simp
  rw [this, this, h]
theorem okB {f : Fs} {bk : List (Nat × List Int × Int)} (h : bk.map (·.1) = f.bk.map (·.1)) (x : Pt) : x.ok { f with bk := bk } ↔ x.ok f := by
  cases x <;> simp only [Pt.ok] <;> exact ids_of h _
theorem ShA.anewOw (h : ShA lo nx H p f L) (hn : nx ≤ nx') {i own : Nat} (hi : ∃ q ∈ f.bk, q.1 = i) (ho : own = L.own i ∨ own = 0 ∨ (nx < own ∧ own ≤ nx')) {bk : List (Nat × List Int × Int)} (hbk : bk.map (·.1) = f.bk.map (·.1)) :
    Anew lo nx nx' p f L { f with bk := bk } { L with own := fun j => if j = i then own else L.own j } := by
  refine ⟨hn, fun x hx => ?_, fun x y hx hy hl e => ?_⟩
  · have hx' := (okB hbk x).1 hx
    cases x <;> first | exact .inl ⟨hx', rfl⟩ | skip
    rename_i j
    by_cases hj : j = i
    · subst hj
      simp only [Pt.at, if_true]
      rcases ho with h1 | h1 | h1
      · exact .inl ⟨hx', h1⟩
      · exact .inr (.inl h1)
      · exact .inr (.inr h1)
    · refine .inl ⟨hx', ?_⟩
      simp only [Pt.at, hj, if_false]
  · have old : ∀ z : Pt, z.ok { f with bk := bk } → z ≠ .ow i → z.at p { L with own := fun j => if j = i then own else L.own j } ≤ nx := fun z hz hne => by
      have : z.at p { L with own := fun j => if j = i then own else L.own j } = z.at p L := by
        cases z <;> first | rfl | skip
        rename_i j
        have hj : j ≠ i := fun e => hne (by rw [e])
        simp only [Pt.at, hj, if_false]
      rw [this]
      have := h.rng z ((okB hbk z).1 hz)
      have := h.ltp
      omega
    by_cases hx' : x = .ow i
    · by_cases hy' : y = .ow i
      · rw [hx', hy']
      · have := old y hy hy'; omega
    · have := old x hx hx'; omega
theorem ShA.setB (h : ShA lo nx H p f L) {i : Nat} {b0 : List Int} {s0 : Int} (hi : (i, b0, s0) ∈ f.bk) (hk : Kp (fun b => b = i ∨ b + 1 = L.own i) nx H H') (hn : nx ≤ nx') {v : Value} {own : Nat} {bs : List Int} {s : Int} (ht : H'.t i = H.t i) (hc0 : H'.c i 0 = some v) (hc1 : H'.c i 1 = some (.int .i64 s))
    (hs : SlA nx' H' 1 v bs.length (bytV bs) own) (ho : own = L.own i ∨ own = 0 ∨ nx < own) : ShA lo nx' H' p { f with bk := updB i bs s f.bk } { L with own := fun j => if j = i then own else L.own j } := by
  have hi' : ∃ q ∈ f.bk, q.1 = i := ⟨_, hi, rfl⟩
  have hle := hs.le
  have hb := updB_fst i bs s f.bk
  have A : Anew lo nx nx' p f L { f with bk := updB i bs s f.bk } { L with own := fun j => if j = i then own else L.own j } := h.anewOw hn hi' (by omega) hb
  obtain ⟨l1, l2⟩ := h.ltp
  obtain ⟨n1, n2, n3, n4⟩ := h.ltn
  obtain ⟨o1, o2, o3⟩ := h.lto
  obtain ⟨v1, v2, v3⟩ := h.ltv
  obtain ⟨r1, r2, r3, r4, r5, r6, r7, r8, r9⟩ := h.ltb hi
  simp only at r1 r2 r3 r4 r5 r6 r7 r8 r9
  have nb : ∀ x : Pt, x.ok f → x ≠ .bk i → x ≠ .ow i → x.at p L = 0 ∨ (x.at p L ≠ i + 1 ∧ x.at p L ≠ L.own i) := fun x hx h1 h2 => by
    have e1 : x.at p L = 0 ∨ x.at p L ≠ i + 1 := h.ne hx (y := .bk i) hi' h1
    have e2 : x.at p L = 0 ∨ x.at p L ≠ L.own i := h.ne hx (y := .ow i) hi' h2
    omega
  have hmn := nb .mn trivial (by simp) (by simp)
  have hmo := nb .mo trivial (by simp) (by simp)
  have hmv := nb .mv trivial (by simp) (by simp)
  have hmp := nb .p trivial (by simp) (by simp)
  simp only [Pt.at] at hmn hmo hmv hmp
  have hp := hk p l2 (by omega)
  refine ⟨by rw [hp.1]; exact h.c0, by rw [hp.1]; exact h.c1, ?_, by rw [hp.1]; exact h.c3, by rw [hp.1]; exact h.c4, by rw [hp.1]; exact h.c5, by rw [hp.1]; exact h.c6, by rw [(hk L.mn n2 (by omega)).2.1]; exact h.on, by rw [(hk L.mo o2 (by omega)).2.1]; exact h.oo, fun q hq => ?_, ?_, h.rngA A, h.ndA A, fun a ha => (ids_of hb _).2 (h.now1 a ha), fun a ha => (ids_of hb _).2 (h.old1 a ha), fun m hm b hmb => (ids_of hb _).2 (h.mv1 m hm b hmb)⟩
  · obtain ⟨u, hu, hsl⟩ := h.c2
    exact ⟨u, by rw [hp.1]; exact hu, hsl.kp hk hn fun b e1 e2 => by omega⟩
  · rcases mem_updB hq with ⟨rfl, _⟩ | ⟨hq, hne⟩
    · simp only [if_true]
      exact ⟨by rw [ht]; exact (h.bk _ hi).1, ⟨v, hc0, hs⟩, hc1⟩
    · obtain ⟨b1, ⟨u, b2, b3⟩, b4⟩ := h.bk q hq
      obtain ⟨_, q2, _⟩ := h.ltb hq
      have e1 := nb (.bk q.1) ⟨q, hq, rfl⟩ (by simpa using hne) (by simp)
      have e2 := nb (.ow q.1) ⟨q, hq, rfl⟩ (by simp) (by simpa using hne)
      simp only [Pt.at] at e1 e2
      have hb := hk q.1 q2 (by omega)
      simp only [hne, if_false]
      exact ⟨by rw [hb.2.2]; exact b1, ⟨u, by rw [hb.1]; exact b2, b3.kp hk hn fun b e3 e4 => by omega⟩, by rw [hb.1]; exact b4⟩
  · rw [UqA.iff, hb, ← UqA.iff]; exact h.uq

/-- One more file. -/
theorem ShA.newB (h : ShA lo nx H p f L) {i : Nat} (hi : nx ≤ i) : ShA lo (i + 1) (H.new i #[.slice none 0 0, .int .i64 0] 62) p { f with bk := f.bk ++ [(i, [], 0)] } { L with own := fun j => if j = i then 0 else L.own j } ∧
    Anew lo nx (i + 1) p f L { f with bk := f.bk ++ [(i, [], 0)] } { L with own := fun j => if j = i then 0 else L.own j } := by
  have hk : Kp (fun _ => False) nx H (H.new i #[.slice none 0 0, .int .i64 0] 62) := (Kp.refl _ _ _).new hi
  have h1 := h.kp hk (nx' := i + 1) (by omega) (by simp)
  have hold : ∀ q ∈ f.bk, q.1 ≠ i := fun q hq e => by have := (h.ltb hq).2.1; omega
  have A : Anew lo nx (i + 1) p f L { f with bk := f.bk ++ [(i, [], 0)] } { L with own := fun j => if j = i then 0 else L.own j } := by
    have cs : ∀ x : Pt, x.ok { f with bk := f.bk ++ [(i, [], 0)] } → (x.ok f ∧ x.at p { L with own := fun j => if j = i then 0 else L.own j } = x.at p L) ∨ x = .bk i ∨ x = .ow i := fun x hx => by
      cases x <;> first | exact .inl ⟨trivial, rfl⟩ | skip
      · rename_i j
        obtain ⟨q, hq, hj⟩ := hx
        rcases List.mem_append.1 hq with hq | hq
        · exact .inl ⟨⟨q, hq, hj⟩, rfl⟩
        · simp only [List.mem_singleton] at hq
          subst hq; subst hj; exact .inr (.inl rfl)
      · rename_i j
        obtain ⟨q, hq, hj⟩ := hx
        rcases List.mem_append.1 hq with hq | hq
        · refine .inl ⟨⟨q, hq, hj⟩, ?_⟩
          have := hold q hq
          rw [hj] at this
          simp only [Pt.at, this, if_false]
        · simp only [List.mem_singleton] at hq
          subst hq; subst hj; exact .inr (.inr rfl)
    refine ⟨by omega, fun x hx => ?_, fun x y hx hy hl e => ?_⟩
    · rcases cs x hx with h1 | rfl | rfl
      · exact .inl h1
      · right; right; simp only [Pt.at]; omega
      · right; left; simp only [Pt.at, if_true]
    · have old : ∀ z : Pt, z.ok { f with bk := f.bk ++ [(i, [], 0)] } → nx < z.at p { L with own := fun j => if j = i then 0 else L.own j } → z = .bk i := fun z hz hl => by
        rcases cs z hz with ⟨h1, h2⟩ | rfl | rfl
        · rw [h2] at hl
          have := h.rng z h1
          omega
        · rfl
        · simp only [Pt.at, if_true] at hl; omega
      rw [old x hx hl, old y hy (by omega)]
  refine ⟨⟨h1.c0, h1.c1, h1.c2, h1.c3, h1.c4, h1.c5, h1.c6, h1.on, h1.oo, fun q hq => ?_, ?_, h.rngA A, h.ndA A, fun a ha => ?_, fun a ha => ?_, fun m hm b hb => ?_⟩, A⟩
  · rcases List.mem_append.1 hq with hq | hq
    · have := hold q hq
      simp only [this, if_false]
      exact h1.bk q hq
    · simp only [List.mem_singleton] at hq
      subst hq
      simp only [if_true]
      refine ⟨by simp [AH.new], ⟨.slice none 0 0, by simp [AH.new], SlA.nil _ _ _⟩, by simp [AH.new]⟩
  · unfold UqA
    rw [List.pairwise_append]
    exact ⟨h.uq, by simp, fun a ha b hb => by simp only [List.mem_singleton] at hb; subst hb; exact hold a ha⟩
  · obtain ⟨q, hq, e⟩ := h.now1 a ha; exact ⟨q, List.mem_append_left _ hq, e⟩
  · obtain ⟨q, hq, e⟩ := h.old1 a ha; exact ⟨q, List.mem_append_left _ hq, e⟩
  · obtain ⟨q, hq, e⟩ := h.mv1 m hm b hb; exact ⟨q, List.mem_append_left _ hq, e⟩
end

theorem fp_p {p : Nat} {f : Fs} {L : Lay} : fpS p f L p := ⟨.p, trivial, rfl⟩
theorem fp_mn {p : Nat} {f : Fs} {L : Lay} : fpS p f L L.mn := ⟨.mn, trivial, rfl⟩
theorem fp_mo {p : Nat} {f : Fs} {L : Lay} : fpS p f L L.mo := ⟨.mo, trivial, rfl⟩
theorem fp_mv {p : Nat} {f : Fs} {L : Lay} {b : Nat} (h : b + 1 = L.mv) : fpS p f L b := ⟨.mv, trivial, h.symm⟩
theorem fp_bk {p : Nat} {f : Fs} {L : Lay} {q : Nat × List Int × Int} (h : q ∈ f.bk) : fpS p f L q.1 := ⟨.bk q.1, ⟨q, h, rfl⟩, rfl⟩
theorem fp_ow {p : Nat} {f : Fs} {L : Lay} {q : Nat × List Int × Int} (h : q ∈ f.bk) {b : Nat} (hb : b + 1 = L.own q.1) : fpS p f L b := ⟨.ow q.1, ⟨q, h, rfl⟩, hb.symm⟩
theorem fp_eq {p : Nat} {f f' : Fs} {L : Lay} (h : f'.bk = f.bk) {b : Nat} : fpS p f' L b ↔ fpS p f L b := by
  unfold fpS
  have : ∀ x : Pt, x.ok f' ↔ x.ok f := fun x => by cases x <;> simp only [Pt.ok, h]
  exact ⟨fun ⟨x, h1, h2⟩ => ⟨x, (this x).1 h1, h2⟩, fun ⟨x, h1, h2⟩ => ⟨x, (this x).2 h1, h2⟩⟩

/-- What a step leaves: the shelf as told, nothing else turned; its parts old, or new. -/
structure AfterL (lo nx : Nat) (H : AH) (p : Nat) (f : Fs) (L : Lay) (f' : Fs) (L' : Lay) (H' : AH) (nx' : Nat) : Prop where
  le : nx ≤ nx'
  kp : Kp (fpS p f L) nx H H'
  sh : ShA lo nx' H' p f' L'
  fp : ∀ b, fpS p f' L' b → fpS p f L b ∨ nx ≤ b
def After (lo nx : Nat) (H : AH) (p : Nat) (f : Fs) (L : Lay) (f' : Fs) (H' : AH) (nx' : Nat) : Prop := ∃ L', AfterL lo nx H p f L f' L' H' nx'
theorem AfterL.refl {lo nx : Nat} {H : AH} {p : Nat} {f : Fs} {L : Lay} (h : ShA lo nx H p f L) : AfterL lo nx H p f L f L H nx := ⟨Nat.le_refl _, Kp.refl _ _ _, h, fun _ hb => .inl hb⟩
theorem AfterL.trans {lo nx nx1 nx2 : Nat} {H H1 H2 : AH} {p : Nat} {f f1 f2 : Fs} {L L1 L2 : Lay} (h : AfterL lo nx H p f L f1 L1 H1 nx1) (k : AfterL lo nx1 H1 p f1 L1 f2 L2 H2 nx2) : AfterL lo nx H p f L f2 L2 H2 nx2 :=
  ⟨Nat.le_trans h.le k.le, Kp.trans (U := fpS p f L) h.kp k.kp h.le (fun _ _ e => e) (fun b hb e => by rcases h.fp b e with e | e; exact e; omega), k.sh, fun b hb => by
    rcases k.fp b hb with e | e
    · exact h.fp b e
    · right; have := h.le; omega⟩
theorem AfterL.still {lo nx nx' : Nat} {H H' : AH} {p : Nat} {f : Fs} {L : Lay} (h : ShA lo nx H p f L) (hk : Kp (fun _ => False) nx H H') (hn : nx ≤ nx') : AfterL lo nx H p f L f L H' nx' :=
  ⟨hn, Kp.mono hk (Nat.le_refl _) (fun _ _ e => e.elim), h.kp hk hn (by simp), fun _ hb => .inl hb⟩
/-- A step that keeps the parts where they lie. -/
theorem AfterL.inPlace {lo nx : Nat} {H H' : AH} {p : Nat} {f f' : Fs} {L : Lay} (hs : ShA lo nx H' p f' L) (hk : Kp (fpS p f L) nx H H') (hb : f'.bk = f.bk) : AfterL lo nx H p f L f' L H' nx :=
  ⟨Nat.le_refl _, hk, hs, fun _ h => .inl ((fp_eq hb).1 h)⟩
end Go.Proofs.Ytcdimjocdpogjaa
