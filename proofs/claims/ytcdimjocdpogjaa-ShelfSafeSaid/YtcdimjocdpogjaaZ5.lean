/- Shelf: act, New, set. Shelf: which names may be. Shelf: Create, Sync, Names, Delete, Cut, and so on. -/
import Derived.Test.YtcdimjocdpogjaaZ2
section
namespace Go.Proofs.Ytcdimjocdpogjaa
open Go.RowKit
set_option linter.unusedSimpArgs false

theorem mapSh : mapT Try.prog 55 = some (9, 59) := by kernel_rfl
theorem underStr1 : Try.prog.underlying 9 = some .string := by kernel_rfl
theorem zeroBk : zeroT Try.prog 59 = some (.pointer none) := by kernel_rfl
theorem keySh : KeyT Try.prog 9 ekS (fun _ _ => True) := keyT_str underStr1
def bkV (l : List (ByteArray × Nat)) (s : ByteArray) : Value := .pointer ((getA s l).map fun b => ⟨b, 0, none⟩)
theorem look_sh {H : AH} {m : Nat} {l : List (ByteArray × Nat)} (h : ∃ ob, H.o m = some ob ∧ MapA ekS evB ob l) (s : ByteArray) : lookupV Try.prog H 55 (.map (some m)) (.string s) false = some (bkV l s) := by
  obtain ⟨ob, ho, hM⟩ := h
  have := lookupV_mapA (P := Try.prog) (x := s) keySh mapSh zeroBk ho hM trivial (fun _ _ => trivial)
  refine this.trans ?_
  unfold bkV
  cases getA s l <;> rfl

set_option maxRecDepth 20000 in
theorem del_sh {lo nx : Nat} {H : AH} {m : Nat} {l : List (ByteArray × Nat)} {s : ByteArray} {ty : TypeId} {K : Value → AH → Nat → Prop} (h : ∃ ob, H.o m = some ob ∧ MapA ekS evB ob l) (hlo : lo ≤ m) (hk : ∀ ob', MapA ekS evB ob' (delA s l) → K (.tuple #[]) (H.setO m ob') nx) :
    delQ Try.prog lo #[55, 9] ty [.map (some m), .string s] K H nx :=
  h.elim fun _ hh => delQ_A (P := Try.prog) (ek := ekS) (ev := evB) (x := s) keySh rfl mapSh hlo hh.1 hh.2 trivial (fun _ _ => trivial) hk
set_option maxRecDepth 20000 in
theorem set_sh {lo nx : Nat} {H : AH} {m : Nat} {l : List (ByteArray × Nat)} {s : ByteArray} {b : Nat} {K : AH → Nat → Prop} (h : ∃ ob, H.o m = some ob ∧ MapA ekS evB ob l) (hlo : lo ≤ m) (hk : ∀ ob', MapA ekS evB ob' (setA s b l) → K (H.setO m ob') nx) :
    mapSetQ Try.prog lo 55 (.map (some m)) (.string s) (.pointer (some ⟨b, 0, none⟩)) K H nx :=
  h.elim fun _ hh => mapSetQ_A (P := Try.prog) (ek := ekS) (ev := evB) (x := s) (v := b) keySh mapSh hlo hh.1 hh.2 trivial (fun _ _ => trivial) hk

def actR (f : Fs) : Bool × Fs := if f.off = true then (false, f) else if f.left = 0 then (false, { f with off := true }) else (true, { f with left := max (f.left - 1) (-1), done := f.done + 1 })

set_option maxRecDepth 20000 in
theorem act_c {lo nx : Nat} {H : AH} {p : Nat} {f : Fs} {L : Lay} (h : ShA lo nx H p f L) (hl : -1 ≤ f.left ∧ f.left ≤ 9223372036854775807) (hd : 0 ≤ f.done ∧ f.done ≤ 4611686018427387904) :
    ACalls Try.prog lo 29 #[.pointer (some ⟨p, 0, none⟩)] H nx (fun v H' nx' => nx' = nx ∧ v = .int .i64 (if (actR f).1 = true then 0 else 7) ∧ AfterL lo nx H p f L (actR f).2 L H' nx) := by
  refine acalls_of_awp L29 Try.func29 rfl (by kernel_rfl) ?_
  obtain ⟨l1, l2⟩ := h.ltp
  obtain ⟨hl0, hl1⟩ := hl
  obtain ⟨hd0, hd1⟩ := hd
  have c4 := h.c4
  have c5 := h.c5
  have c6 := h.c6
  unfold actR
  cases ho : f.off with
  | true =>
    rw [ho] at c5
    simp (disch := omega) only [go_sem, ↓reduceIte , c5]
    exact AfterL.refl h
  | false =>
    rw [ho] at c5
    by_cases h0 : f.left = 0
    · simp (disch := omega) only [go_sem, ↓reduceIte , c5, c4, h0]
      have := h.putOff true
      rw [← h0]
      exact .inPlace this (Kp.mono (T := fpS p f L) (show Kp (fun b => b = p) nx H _ from (by repeat first | exact Kp.refl _ _ _ | refine Kp.dropT ?_ (.inl (by omega)) | refine Kp.put ?_ (.inl (by omega)) | refine Kp.new ?_ (by omega) | refine Kp.put ?_ (.inr (by omega)) | refine Kp.newO ?_ (by omega) | refine Kp.setO ?_ (.inl (by omega)) | refine Kp.setO ?_ (.inr (by omega)) | refine Kp.trans0 ?_ (by assumption) (by omega) | refine Kp.transS ?_ (by assumption) (by omega) (fun b hb hT => by first | omega | (dsimp only at hT ⊢; omega) | (simp only at hT ⊢; omega))) ) (Nat.le_refl _) (fun b _ e => by subst e; exact fp_p)) rfl
    · simp (disch := omega) only [go_sem, ↓reduceIte , c5, c4, c6, h0]
      have := (h.putLeft (max (f.left - 1) (-1))).putDone (f.done + 1)
      rw [← ho]
      exact .inPlace this (Kp.mono (T := fpS p f L) (show Kp (fun b => b = p) nx H _ from (by repeat first | exact Kp.refl _ _ _ | refine Kp.dropT ?_ (.inl (by omega)) | refine Kp.put ?_ (.inl (by omega)) | refine Kp.new ?_ (by omega) | refine Kp.put ?_ (.inr (by omega)) | refine Kp.newO ?_ (by omega) | refine Kp.setO ?_ (.inl (by omega)) | refine Kp.setO ?_ (.inr (by omega)) | refine Kp.trans0 ?_ (by assumption) (by omega) | refine Kp.transS ?_ (by assumption) (by omega) (fun b hb hT => by first | omega | (dsimp only at hT ⊢; omega) | (simp only at hT ⊢; omega))) ) (Nat.le_refl _) (fun b _ e => by subst e; exact fp_p)) rfl

set_option maxRecDepth 20000 in
theorem shNew_c {lo nx : Nat} {H : AH} (room : Int) : ACalls Try.prog lo 9 #[.int .i64 room] H nx (fun v H' nx' => nx ≤ nx' ∧ Kp (fun _ => False) nx H H' ∧ ∃ p L, v = .pointer (some ⟨p, 0, none⟩) ∧ ShA lo nx' H' p ⟨[], [], [], room, -1, false, 0, []⟩ L ∧ ∀ b, fpS p ⟨[], [], [], room, -1, false, 0, []⟩ L b → nx ≤ b) := by
  refine ACalls.withLo fun hlo => ?_
  refine acalls_of_awp L9 Try.func9 rfl (by kernel_rfl) ?_
  simp (disch := omega) only [go_sem, ↓reduceIte ]
  intro m1 h1
  simp (disch := omega) only [go_sem, ↓reduceIte ]
  intro m2 h2
  simp (disch := omega) only [go_sem, ↓reduceIte ]
  intro p hp
  simp (disch := omega) only [go_sem, ↓reduceIte ]
  refine ⟨by omega, (by repeat first | exact Kp.refl _ _ _ | refine Kp.dropT ?_ (.inl (by omega)) | refine Kp.put ?_ (.inl (by omega)) | refine Kp.new ?_ (by omega) | refine Kp.put ?_ (.inr (by omega)) | refine Kp.newO ?_ (by omega) | refine Kp.setO ?_ (.inl (by omega)) | refine Kp.setO ?_ (.inr (by omega)) | refine Kp.trans0 ?_ (by assumption) (by omega) | refine Kp.transS ?_ (by assumption) (by omega) (fun b hb hT => by first | omega | (dsimp only at hT ⊢; omega) | (simp only at hT ⊢; omega))) , p, ⟨m1, m2, 0, fun _ => 0⟩, rfl, ⟨by simp (disch := omega) only [go_sem, ↓reduceIte ], by simp (disch := omega) only [go_sem, ↓reduceIte ], ⟨_, by simp (disch := omega) only [go_sem, ↓reduceIte ], SlA.nil _ _ _⟩, by simp (disch := omega) only [go_sem, ↓reduceIte ], by simp (disch := omega) only [go_sem, ↓reduceIte ], by simp (disch := omega) only [go_sem, ↓reduceIte ], by simp (disch := omega) only [go_sem, ↓reduceIte ], ⟨_, by simp (disch := omega) only [go_sem, ↓reduceIte ], MapA.nil _ _⟩, ⟨_, by simp (disch := omega) only [go_sem, ↓reduceIte ], MapA.nil _ _⟩, by simp, List.Pairwise.nil, fun x hx => ?_, fun x y hx hy e => ?_, by simp, by simp, by simp⟩, fun b ⟨x, hx, e⟩ => ?_⟩
  · cases x with
    | p => simp only [Pt.at]; omega
    | mn => simp only [Pt.at]; omega
    | mo => simp only [Pt.at]; omega
    | mv => exact .inl rfl
    | bk i => obtain ⟨q, hq, _⟩ := hx; simp at hq
    | ow i => exact .inl rfl
  · cases x <;> first | (obtain ⟨q, hq, _⟩ := hx; simp at hq; done) | (cases y <;> first | (obtain ⟨q, hq, _⟩ := hy; simp at hq; done) | exact .inr rfl | (simp only [Pt.at] at e ⊢; omega))
  · cases x <;> first | (obtain ⟨q, hq, _⟩ := hx; simp at hq; done) | (simp only [Pt.at] at e; omega)

set_option maxRecDepth 20000 in
theorem set_c {lo nx : Nat} {H : AH} {p : Nat} {f : Fs} {L : Lay} (h : ShA lo nx H p f L) (name : ByteArray) (b : Option Nat) (hb : ∀ i, b = some i → ∃ q ∈ f.bk, q.1 = i) (hm : f.moves.length ≤ 1000000) :
    ACalls Try.prog lo 30 #[.pointer (some ⟨p, 0, none⟩), .string name, ekP b] H nx (fun v H' nx' => v = .tuple #[] ∧ ∃ own, AfterL lo nx H p f L { f with moves := f.moves ++ [⟨name, b, .empty⟩], now := match b with | none => delA name f.now | some i => setA name i f.now } { L with mv := own } H' nx') := by
  refine ACalls.withLo fun hlo => ?_
  refine acalls_of_awp L30 Try.func30 rfl (by kernel_rfl) ?_
  obtain ⟨l1, l2⟩ := h.ltp
  obtain ⟨u, hu, hsl⟩ := h.c2
  obtain ⟨v1, v2, v3⟩ := h.ltv
  obtain ⟨n1, n2, n3, n4⟩ := h.ltn
  unfold ekP
  simp (disch := omega) only [go_sem, ↓reduceIte , hu]
  let x : Mv := ⟨name, b, .empty⟩
  refine buildSQ_all (n := 1) [.agg x.cells.toArray] sl56 zero65 (by omega) (by omega) rfl (by simp [cells_agg, Mv.cells, x]) fun m hm' => ?_
  have hlit : SlA (m + 1) _ 3 (.slice (some ⟨m, 0, none⟩) 1 1) 1 (mvCells [x]) (m + 1) := SlA.ofNew (H := H) (e := 65) (cs := ([Value.agg x.cells.toArray].flatMap fun v => v.cells.toList).toArray) rfl (by omega) (by simp [maxLen]) (by simp [cells_agg, Mv.cells, x]) (fun j _ => by simp [cells_agg, mvCells, Mv.cells, x])
  have hs6 := hsl.new (vs := ([Value.agg x.cells.toArray].flatMap fun v => v.cells.toList).toArray) (e := 65) hm'
  simp (disch := omega) only [go_sem, ↓reduceIte ]
  refine appendQ_two (aw_append sl56 zero65 rfl by65 hs6 (hlit.src sl56 mvCells_one) (by simp only [maxLen]; omega) (by omega) (by omega) fun v7 H7 nx7 own7 hn7 hs7 ho7 hk7 _ => ?_)
  have hone7 := hs7.one
  have hkA : Kp (fun b => b + 1 = L.mv) nx H H7 := (by repeat first | exact Kp.refl _ _ _ | refine Kp.dropT ?_ (.inl (by omega)) | refine Kp.put ?_ (.inl (by omega)) | refine Kp.new ?_ (by omega) | refine Kp.put ?_ (.inr (by omega)) | refine Kp.newO ?_ (by omega) | refine Kp.setO ?_ (.inl (by omega)) | refine Kp.setO ?_ (.inr (by omega)) | refine Kp.trans0 ?_ (by assumption) (by omega) | refine Kp.transS ?_ (by assumption) (by omega) (fun b hb hT => by first | omega | (dsimp only at hT ⊢; omega) | (simp only at hT ⊢; omega))) 
  have hp7 := hkA p l2 (by omega)
  have i0 := hu
  rw [← hp7.1] at i0
  have hM7 := h.setMoves (nx' := nx7) hkA (by omega) (l := f.moves ++ [x]) (by rw [List.length_append, mvCells_append]; exact hs7) (by omega) (fun m hm b hb' => by
    rcases List.mem_append.1 hm with hm | hm
    · exact h.mv1 m hm b hb'
    · simp only [List.mem_singleton] at hm
      subst hm
      exact hb b hb')
  have d0 : H7.c p 0 = some (.map (some L.mn)) := by rw [hp7.1]; exact h.c0
  have A := h.anewMv (nx' := nx7) (by omega) (own := own7) (l := f.moves ++ [x]) (by have := hs7.le; omega)
  have hfp : ∀ c, c = p ∨ c = L.mn ∨ c + 1 = L.mv → fpS p f L c := fun c e => by
    rcases e with rfl | rfl | e
    · exact fp_p
    · exact fp_mn
    · exact fp_mv e
  cases b with
  | none =>
    simp (disch := omega) only [go_sem, ↓reduceIte , hone7, i0, d0]
    refine del_sh hM7.on n1 fun ob' hM' => ?_
    simp (disch := omega) only [go_sem, ↓reduceIte ]
    exact ⟨own7, by omega, Kp.mono (T := fpS p f L) (show Kp (fun c => c = p ∨ c = L.mn ∨ c + 1 = L.mv) nx H _ from (by repeat first | exact Kp.refl _ _ _ | refine Kp.dropT ?_ (.inl (by omega)) | refine Kp.put ?_ (.inl (by omega)) | refine Kp.new ?_ (by omega) | refine Kp.put ?_ (.inr (by omega)) | refine Kp.newO ?_ (by omega) | refine Kp.setO ?_ (.inl (by omega)) | refine Kp.setO ?_ (.inr (by omega)) | refine Kp.trans0 ?_ (by assumption) (by omega) | refine Kp.transS ?_ (by assumption) (by omega) (fun b hb hT => by first | omega | (dsimp only at hT ⊢; omega) | (simp only at hT ⊢; omega))) ) (Nat.le_refl _) (fun c _ e => hfp c e), hM7.setNow hM' fun a ha => h.now1 a (mem_delA.1 ha).1, fun c hc => h.fpA A c ((fp_eq rfl).1 hc)⟩
  | some i =>
    simp (disch := omega) only [go_sem, ↓reduceIte , hone7, i0, d0]
    refine set_sh hM7.on n1 fun ob' hM' => ?_
    simp (disch := omega) only [go_sem, ↓reduceIte ]
    refine ⟨own7, by omega, Kp.mono (T := fpS p f L) (show Kp (fun c => c = p ∨ c = L.mn ∨ c + 1 = L.mv) nx H _ from (by repeat first | exact Kp.refl _ _ _ | refine Kp.dropT ?_ (.inl (by omega)) | refine Kp.put ?_ (.inl (by omega)) | refine Kp.new ?_ (by omega) | refine Kp.put ?_ (.inr (by omega)) | refine Kp.newO ?_ (by omega) | refine Kp.setO ?_ (.inl (by omega)) | refine Kp.setO ?_ (.inr (by omega)) | refine Kp.trans0 ?_ (by assumption) (by omega) | refine Kp.transS ?_ (by assumption) (by omega) (fun b hb hT => by first | omega | (dsimp only at hT ⊢; omega) | (simp only at hT ⊢; omega))) ) (Nat.le_refl _) (fun c _ e => hfp c e), hM7.setNow hM' fun a ha => ?_, fun c hc => h.fpA A c ((fp_eq rfl).1 hc)⟩
    rcases mem_setA ha with rfl | ha
    · exact hb i rfl
    · exact h.now1 a ha
end Go.Proofs.Ytcdimjocdpogjaa
end
section
namespace Go.Proofs.Ytcdimjocdpogjaa
open Go.RowKit
set_option linter.unusedSimpArgs false

def okR (c : Int) : Bool := (decide (97 ≤ c) && decide (c ≤ 122)) || ((decide (48 ≤ c) && decide (c ≤ 57)) || decide (c = 46))
def okByte (b : UInt8) : Bool := okR b.toNat
def allOk (s : ByteArray) : Bool := s.data.toList.all okByte
def nameOk (s : ByteArray) : Bool := decide (0 < s.size) && decide (s.size ≤ 32) && allOk s

theorem dec_small {s : ByteArray} {pos : Nat} (h : (s.get! pos).toNat < 128) : Utf8.decode s pos = ((s.get! pos).toNat, 1) := by
  unfold Utf8.decode
  simp only [Nat.add_zero]
  rw [if_pos h]
theorem dec_great {s : ByteArray} {pos : Nat} (h : 128 ≤ (s.get! pos).toNat) : 128 ≤ (Utf8.decode s pos).1 := by
  unfold Utf8.decode
  simp only [Nat.add_zero]
  rw [if_neg (by omega)]
  repeat' split
  all_goals first | (simp only [Utf8.runeError]; omega) | (simp only [ge_iff_le, Bool.and_eq_true, decide_eq_true_eq] at *; omega)
theorem okR_great {c : Int} (h : 128 ≤ c) : okR c = false := by
  unfold okR
  simp only [Bool.or_eq_false_iff, Bool.and_eq_false_iff, decide_eq_false_iff_not]
  omega
theorem okR_dec (s : ByteArray) (pos : Nat) : okR ((Utf8.decode s pos).1 : Nat) = okByte (s.get! pos) := by
  unfold okByte
  by_cases h : (s.get! pos).toNat < 128
  · rw [dec_small h]
  · rw [okR_great (by have := dec_great (s := s) (pos := pos) (by omega); omega), okR_great (by omega)]

theorem allOk_true {s : ByteArray} (h : ∀ j, j < s.size → okByte (s.get! j) = true) : allOk s = true := by
  obtain ⟨a⟩ := s
  unfold allOk
  rw [List.all_eq_true]
  intro b hb
  obtain ⟨j, hj, rfl⟩ := List.getElem_of_mem hb
  have hj' : j < a.size := by simpa using hj
  have := h j hj'
  change okByte a[j]! = true at this
  rw [getElem!_pos a j hj'] at this
  simpa using this
theorem allOk_false {s : ByteArray} {j : Nat} (hj : j < s.size) (h : okByte (s.get! j) = false) : allOk s = false := by
  obtain ⟨a⟩ := s
  unfold allOk
  rw [List.all_eq_false]
  have hj' : j < a.size := hj
  change okByte a[j]! = false at h
  rw [getElem!_pos a j hj'] at h
  exact ⟨a[j], by simp, by rw [h]; simp⟩

set_option maxRecDepth 20000 in
theorem nameC_c {lo : Nat} (c : Int) (H : AH) (nx : Nat) : ACalls Try.prog lo 33 #[.int .i32 c] H nx (fun v H' nx' => v = .bool (!okR c) ∧ H' = H ∧ nx' = nx) := by
  refine acalls_of_awp L33 Try.func33 rfl (by kernel_rfl) ?_
  unfold okR
  by_cases h1 : 97 ≤ c ∧ c ≤ 122
  · obtain ⟨h1, h2⟩ := h1
    simp (disch := omega) only [go_sem, ↓reduceIte , h1, h2]
    rfl
  · have e1 : (decide (97 ≤ c) && decide (c ≤ 122)) = false := by
      simp only [Bool.and_eq_false_iff, decide_eq_false_iff_not]; omega
    rw [e1]
    by_cases h3 : 48 ≤ c ∧ c ≤ 57
    · obtain ⟨h3, h4⟩ := h3
      have h1 : ¬ 97 ≤ c := by omega
      simp (disch := omega) only [go_sem, ↓reduceIte , h1, h3, h4]
      rfl
    · have e2 : (decide (48 ≤ c) && decide (c ≤ 57)) = false := by
        simp only [Bool.and_eq_false_iff, decide_eq_false_iff_not]; omega
      rw [e2]
      by_cases h5 : c = 46
      · subst h5
        simp (disch := omega) only [go_sem, ↓reduceIte ]
        rfl
      · have e3 : decide (c = 46) = false := by simpa using h5
        rw [e3]
        by_cases h1 : 97 ≤ c
        · have h2 : ¬ c ≤ 122 := by omega
          have h3 : 48 ≤ c := by omega
          have h4 : ¬ c ≤ 57 := by omega
          simp (disch := omega) only [go_sem, ↓reduceIte , h1, h2, h3, h4, h5]
          rfl
        · by_cases h3 : 48 ≤ c
          · have h4 : ¬ c ≤ 57 := by omega
            simp (disch := omega) only [go_sem, ↓reduceIte , h1, h3, h4, h5]
            rfl
          · simp (disch := omega) only [go_sem, ↓reduceIte , h1, h3, h5]
            rfl

structure IdI (nx0 : Nat) (H0 : AH) (s : ByteArray) (r : Nat) (m : Nat) (env : Env) (H : AH) (nx pos : Nat) : Prop where
  hm : m = s.size - pos
  hp : pos ≤ s.size
  henv : env = [(1, .func (.func 33) #[] #[]), (2, .bool true), (10, .pointer (some ⟨r, 0, none⟩))] ∨ ∃ x, env = [(1, .func (.func 33) #[] #[]), (2, .bool true), (7, x), (10, .pointer (some ⟨r, 0, none⟩)), (19, .bool false)]
  hx : nx0 ≤ nx
  hk : Kp (fun b => b = r) nx0 H0 H
  it : H.o r = some (.stringIter s pos)
  ok : ∀ j, j < pos → okByte (s.get! j) = true

set_option maxRecDepth 20000 in
theorem idxFunc_c {lo : Nat} (s : ByteArray) (H : AH) (nx : Nat) : ACalls Try.prog lo 60 #[.string s, .func (.func 33) #[] #[], .bool true] H nx (fun v H' nx' => nx ≤ nx' ∧ Kp (fun _ => False) nx H H' ∧ ∃ i : Int, v = .int .i64 i ∧ (0 ≤ i ↔ allOk s = false)) := by
  refine ACalls.withLo fun hlo => ?_
  refine acalls_of_awp L60 Try.func60 rfl (by kernel_rfl) ?_
  simp (disch := omega) only [go_sem, ↓reduceIte ]
  refine rangeQ_str underStr1 fun r hr => ?_
  simp (disch := omega) only [go_sem, ↓reduceIte ]
  refine awp_loop (fun m env H1 nx1 => ∃ pos, IdI (r + 1) (H.newO r (.stringIter s 0)) s r m env H1 nx1 pos) s.size ⟨0, ⟨rfl, by omega, .inl rfl, Nat.le_refl _, Kp.refl _ _ _, newO_same _ _ _, by omega⟩⟩ (fun m env H1 nx1 ⟨pos, hI⟩ hn => ?_)
  obtain ⟨hm, hp, henv, hx1, hk1, hit, hok⟩ := hI
  rcases henv with rfl | ⟨x, rfl⟩
  all_goals
    simp (disch := omega) only [go_sem, ↓reduceIte ]
    refine nextMQ_str hit (by omega) (fun hlt => ?_) (fun hge => ?_)
    · have hget : okByte (s.get! pos) = okR ((Utf8.decode s pos).1 : Nat) := (okR_dec s pos).symm
      simp (disch := omega) only [go_sem, ↓reduceIte ]
      refine (nameC_c _ _ _).mono fun v H2 nx2 _ ⟨hv, hH, hx⟩ => ?_
      subst hv; subst hH; subst hx
      cases hb : okR ((Utf8.decode s pos).1 : Nat) with
      | true =>
        have hft : (false == true) = false := rfl
        rw [hb] at hget
        have hwd : (Utf8.decode s pos).2 = 1 := by
          by_cases h : (s.get! pos).toNat < 128
          · rw [dec_small h]
          · have := okR_great (c := (s.get! pos).toNat) (by omega)
            unfold okByte at hget
            rw [hget] at this; cases this
        simp (disch := omega) only [go_sem, ↓reduceIte , hft, hwd]
        refine ⟨s.size - (pos + 1), by omega, pos + 1, ⟨rfl, by omega, .inr ⟨_, rfl⟩, by omega, (by repeat first | exact Kp.refl _ _ _ | refine Kp.dropT ?_ (.inl (by omega)) | refine Kp.put ?_ (.inl (by omega)) | refine Kp.new ?_ (by omega) | refine Kp.put ?_ (.inr (by omega)) | refine Kp.newO ?_ (by omega) | refine Kp.setO ?_ (.inl (by omega)) | refine Kp.setO ?_ (.inr (by omega)) | refine Kp.trans0 ?_ (by assumption) (by omega) | refine Kp.transS ?_ (by assumption) (by omega) (fun b hb hT => by first | omega | (dsimp only at hT ⊢; omega) | (simp only at hT ⊢; omega))) , by simp (disch := omega) only [go_sem, ↓reduceIte ], fun j hj => ?_⟩⟩
        by_cases e : j = pos
        · subst e; exact hget
        · exact hok j (by omega)
      | false =>
        simp (disch := omega) only [go_sem, ↓reduceIte ]
        refine ⟨by omega, (by repeat first | exact Kp.refl _ _ _ | refine Kp.dropT ?_ (.inl (by omega)) | refine Kp.put ?_ (.inl (by omega)) | refine Kp.new ?_ (by omega) | refine Kp.put ?_ (.inr (by omega)) | refine Kp.newO ?_ (by omega) | refine Kp.setO ?_ (.inl (by omega)) | refine Kp.setO ?_ (.inr (by omega)) | refine Kp.trans0 ?_ (by assumption) (by omega) | refine Kp.transS ?_ (by assumption) (by omega) (fun b hb hT => by first | omega | (dsimp only at hT ⊢; omega) | (simp only at hT ⊢; omega))) , pos, rfl, ?_⟩
        rw [hb] at hget
        exact ⟨fun _ => allOk_false hlt hget, fun _ => by omega⟩
    · simp (disch := omega) only [go_sem, ↓reduceIte ]
      refine ⟨by omega, (by repeat first | exact Kp.refl _ _ _ | refine Kp.dropT ?_ (.inl (by omega)) | refine Kp.put ?_ (.inl (by omega)) | refine Kp.new ?_ (by omega) | refine Kp.put ?_ (.inr (by omega)) | refine Kp.newO ?_ (by omega) | refine Kp.setO ?_ (.inl (by omega)) | refine Kp.setO ?_ (.inr (by omega)) | refine Kp.trans0 ?_ (by assumption) (by omega) | refine Kp.transS ?_ (by assumption) (by omega) (fun b hb hT => by first | omega | (dsimp only at hT ⊢; omega) | (simp only at hT ⊢; omega))) , -1, rfl, ?_⟩
      have := allOk_true (s := s) fun j hj => hok j (by omega)
      rw [this]
      simp

theorem contF_c {lo : Nat} (s : ByteArray) (H : AH) (nx : Nat) : ACalls Try.prog lo 34 #[.string s, .func (.func 33) #[] #[]] H nx (fun v H' nx' => nx ≤ nx' ∧ Kp (fun _ => False) nx H H' ∧ v = .bool (!allOk s)) := by
  refine acalls_of_awp L34 Try.func34 rfl (by kernel_rfl) ?_
  simp (disch := omega) only [go_sem, ↓reduceIte ]
  have h1 : ACalls Try.prog lo 49 #[.string s, .func (.func 33) #[] #[]] H nx (fun v H' nx' => nx ≤ nx' ∧ Kp (fun _ => False) nx H H' ∧ ∃ i : Int, v = .int .i64 i ∧ (0 ≤ i ↔ allOk s = false)) := by
    refine acalls_of_awp L49 Try.func49 rfl (by kernel_rfl) ?_
    simp (disch := omega) only [go_sem, ↓reduceIte ]
    refine (idxFunc_c s H nx).mono fun v H1 nx1 _ ⟨hx, hk, i, hv, hi⟩ => ?_
    subst hv
    simp (disch := omega) only [go_sem, ↓reduceIte ]
    exact ⟨by omega, hk, i, rfl, hi⟩
  refine h1.mono fun v H1 nx1 _ ⟨hx, hk, i, hv, hi⟩ => ?_
  subst hv
  cases ha : allOk s with
  | true =>
    have : ¬ 0 ≤ i := fun h => by rw [hi.1 h] at ha; cases ha
    simp (disch := omega) only [go_sem, ↓reduceIte , this]
    exact ⟨by omega, hk⟩
  | false =>
    have := hi.2 ha
    simp (disch := omega) only [go_sem, ↓reduceIte , this]
    exact ⟨by omega, hk⟩

set_option maxRecDepth 20000 in
theorem shName_c {lo : Nat} (s : ByteArray) (H : AH) (nx : Nat) : ACalls Try.prog lo 19 #[.string s] H nx (fun v H' nx' => nx ≤ nx' ∧ Kp (fun _ => False) nx H H' ∧ v = .bool (nameOk s)) := by
  refine acalls_of_awp L19 Try.func19 rfl (by kernel_rfl) ?_
  unfold nameOk
  by_cases h0 : s.size = 0
  · have e : s.data.toList = [] := by
      rw [← List.length_eq_zero_iff, Array.length_toList, ByteArray.size_data]; exact h0
    simp (disch := omega) only [go_sem, ↓reduceIte , e, decide_true]
    exact ⟨Nat.le_refl _, Kp.refl _ _ _⟩
  · have e : ¬ s.data.toList = [] := fun e => h0 (by
      rw [← ByteArray.size_data, ← Array.length_toList, e]; rfl)
    by_cases h1 : s.size ≤ 32
    · simp (disch := omega) only [go_sem, ↓reduceIte , e, h1, decide_false, decide_true]
      refine (contF_c s H nx).mono fun v H1 nx1 _ ⟨hx, hk, hv⟩ => ?_
      subst hv
      cases ha : allOk s with
      | true =>
        simp (disch := omega) only [go_sem, ↓reduceIte ]
        exact ⟨hx, hk⟩
      | false =>
        simp (disch := omega) only [go_sem, ↓reduceIte ]
        exact ⟨hx, hk⟩
    · simp (disch := omega) only [go_sem, ↓reduceIte , e, h1, decide_false]
      exact ⟨Nat.le_refl _, Kp.refl _ _ _⟩
end Go.Proofs.Ytcdimjocdpogjaa
end
section
namespace Go.Proofs.Ytcdimjocdpogjaa
open Go.RowKit
set_option linter.unusedSimpArgs false

/-- What may be asked of a shelf. -/
structure FsOk (f : Fs) : Prop where
  l0 : -1 ≤ f.left
  l1 : f.left ≤ 9223372036854775807
  d0 : 0 ≤ f.done
  d1 : f.done ≤ 1000000
  mvs : f.moves.length ≤ 1000000
theorem actR_bk (f : Fs) : (actR f).2.bk = f.bk := by unfold actR; split <;> (try split) <;> rfl
theorem actR_now (f : Fs) : (actR f).2.now = f.now := by unfold actR; split <;> (try split) <;> rfl
theorem actR_old (f : Fs) : (actR f).2.old = f.old := by unfold actR; split <;> (try split) <;> rfl
theorem actR_room (f : Fs) : (actR f).2.room = f.room := by unfold actR; split <;> (try split) <;> rfl
theorem actR_moves (f : Fs) : (actR f).2.moves = f.moves := by unfold actR; split <;> (try split) <;> rfl

theorem AfterL.newB {lo nx : Nat} {H : AH} {p : Nat} {f : Fs} {L : Lay} (h : ShA lo nx H p f L) {i : Nat} (hi : nx ≤ i) :
    AfterL lo nx H p f L { f with bk := f.bk ++ [(i, [], 0)] } { L with own := fun j => if j = i then 0 else L.own j } (H.new i #[.slice none 0 0, .int .i64 0] 62) (i + 1) := by
  obtain ⟨h1, A⟩ := h.newB hi
  exact ⟨by omega, (Kp.refl _ _ _).new hi, h1, h.fpA A⟩
def syncF (f : Fs) (i : Nat) : Fs := match getA i f.bk with | some (bs, _) => { f with bk := updB i bs bs.length f.bk } | none => f
/-- Create's. 'i': the new file's. -/
def createR (f : Fs) (name : ByteArray) (i : Nat) : Int × Fs :=
  if nameOk name = true then
    if (actR f).1 = true then
      if (getA name f.now).isSome = true then (9, (actR f).2)
      else (0, { (actR f).2 with bk := f.bk ++ [(i, [], 0)], moves := f.moves ++ [⟨name, some i, .empty⟩], now := setA name i f.now })
    else (7, (actR f).2)
  else (1, f)

set_option maxRecDepth 20000 in
theorem shCreate_c {lo nx : Nat} {H : AH} {p : Nat} {f : Fs} {L : Lay} (h : ShA lo nx H p f L) (hf : FsOk f) (name : ByteArray) :
    ACalls Try.prog lo 10 #[.pointer (some ⟨p, 0, none⟩), .string name] H nx (fun v H' nx' => ∃ i, nx ≤ i ∧ v = .int .i64 (createR f name i).1 ∧ After lo nx H p f L (createR f name i).2 H' nx') := by
  refine acalls_of_awp L10 Try.func10 rfl (by kernel_rfl) ?_
  simp (disch := omega) only [go_sem, ↓reduceIte ]
  refine (shName_c name H nx).mono fun v H1 nx1 _ ⟨hx1, hk1, hv⟩ => ?_
  subst hv
  unfold createR
  have a1 := AfterL.still h hk1 hx1
  cases hn : nameOk name with
  | false =>
    simp (disch := omega) only [go_sem, ↓reduceIte ]
    exact ⟨nx, Nat.le_refl _, L, a1⟩
  | true =>
    simp (disch := omega) only [go_sem, ↓reduceIte ]
    refine (act_c a1.sh ⟨hf.l0, hf.l1⟩ ⟨hf.d0, by have := hf.d1; omega⟩).mono fun v H2 nx2 _ ⟨hx2, hv, k2⟩ => ?_
    subst hv; subst hx2
    have a2 := a1.trans k2
    cases ha : (actR f).1 with
    | false =>
      simp (disch := omega) only [go_sem, ↓reduceIte , ha]
      exact ⟨nx, Nat.le_refl _, L, a2⟩
    | true =>
      have c0 := a2.sh.c0
      have hlk := look_sh a2.sh.on name
      rw [actR_now] at hlk
      unfold bkV at hlk
      cases hg : getA name f.now with
      | some b =>
        rw [hg] at hlk
        simp (disch := omega) only [go_sem, ↓reduceIte , ha, c0, hlk]
        exact ⟨nx, Nat.le_refl _, L, a2⟩
      | none =>
        rw [hg] at hlk
        simp (disch := omega) only [go_sem, ↓reduceIte , ha, c0, hlk]
        intro i hi
        have a3 := a2.trans (AfterL.newB a2.sh hi)
        simp only [actR_bk] at a3
        simp (disch := omega) only [go_sem, ↓reduceIte ]
        refine (set_c a3.sh name (some i) (fun j hj => by cases hj; exact ⟨(i, [], 0), by simp, rfl⟩) (by simp only [actR_moves]; exact hf.mvs)).mono fun v H4 nx4 _ ⟨hv, own, k4⟩ => ?_
        subst hv
        simp (disch := omega) only [go_sem, ↓reduceIte ]
        have a4 := a3.trans k4
        simp only [actR_moves, actR_now] at a4
        exact ⟨i, by omega, _, a4⟩
end Go.Proofs.Ytcdimjocdpogjaa
end
