/- Shelf: act, New, set. -/
import Derived.Test.YtcdimjocdpogjaaZ2
namespace Go.Proofs.Ytcdimjocdpogjaa
open Go.RowKit
set_option linter.unusedSimpArgs false

theorem mapSh : mapT Try.prog 55 = some (9, 59) := by kernel_rfl
theorem underStr1 : Try.prog.underlying 9 = some .string := by kernel_rfl
theorem zeroBk : zeroT Try.prog 59 = some (.pointer none) := by kernel_rfl
theorem keySh : KeyT Try.prog 9 ekS (fun _ _ => True) := keyT_str underStr1
def bkV (l : List (ByteArray × Nat)) (s : ByteArray) : Value := .pointer ((getA s l).map fun b => ⟨b, 0, none⟩)
theorem look_sh {H : AH} {m : Nat} {l : List (ByteArray × Nat)} (h : ∃ ob, H.o m = some ob ∧ MapA ekS evB ob l) (s : ByteArray) : lookupV Try.prog H 55 (.map (some m)) (.string s) false = some (bkV l s) := by
  obtain ⟨ob, ho, hM⟩ := h
  have := lookupV_mapA (P := Try.prog) (x := s) keySh mapSh zeroBk ho hM trivial (fun _ _ => trivial)
  refine this.trans ?_
  unfold bkV
  cases getA s l <;> rfl

set_option maxRecDepth 20000 in
theorem del_sh {lo nx : Nat} {H : AH} {m : Nat} {l : List (ByteArray × Nat)} {s : ByteArray} {ty : TypeId} {K : Value → AH → Nat → Prop} (h : ∃ ob, H.o m = some ob ∧ MapA ekS evB ob l) (hlo : lo ≤ m) (hk : ∀ ob', MapA ekS evB ob' (delA s l) → K (.tuple #[]) (H.setO m ob') nx) :
    delQ Try.prog lo #[55, 9] ty [.map (some m), .string s] K H nx :=
  h.elim fun _ hh => delQ_A (P := Try.prog) (ek := ekS) (ev := evB) (x := s) keySh rfl mapSh hlo hh.1 hh.2 trivial (fun _ _ => trivial) hk
set_option maxRecDepth 20000 in
theorem set_sh {lo nx : Nat} {H : AH} {m : Nat} {l : List (ByteArray × Nat)} {s : ByteArray} {b : Nat} {K : AH → Nat → Prop} (h : ∃ ob, H.o m = some ob ∧ MapA ekS evB ob l) (hlo : lo ≤ m) (hk : ∀ ob', MapA ekS evB ob' (setA s b l) → K (H.setO m ob') nx) :
    mapSetQ Try.prog lo 55 (.map (some m)) (.string s) (.pointer (some ⟨b, 0, none⟩)) K H nx :=
  h.elim fun _ hh => mapSetQ_A (P := Try.prog) (ek := ekS) (ev := evB) (x := s) (v := b) keySh mapSh hlo hh.1 hh.2 trivial (fun _ _ => trivial) hk

def actR (f : Fs) : Bool × Fs := if f.off = true then (false, f) else if f.left = 0 then (false, { f with off := true }) else (true, { f with left := max (f.left - 1) (-1), done := f.done + 1 })

set_option maxRecDepth 20000 in
theorem act_c {lo nx : Nat} {H : AH} {p : Nat} {f : Fs} {L : Lay} (h : ShA lo nx H p f L) (hl : -1 ≤ f.left ∧ f.left ≤ 9223372036854775807) (hd : 0 ≤ f.done ∧ f.done ≤ 4611686018427387904) :
    ACalls Try.prog lo 29 #[.pointer (some ⟨p, 0, none⟩)] H nx (fun v H' nx' => nx' = nx ∧ v = .int .i64 (if (actR f).1 = true then 0 else 7) ∧ AfterL lo nx H p f L (actR f).2 L H' nx) := by
  refine acalls_of_awp L29 Try.func29 rfl (by kernel_rfl) ?_
  obtain ⟨l1, l2⟩ := h.ltp
  obtain ⟨hl0, hl1⟩ := hl
  obtain ⟨hd0, hd1⟩ := hd
  have c4 := h.c4
  have c5 := h.c5
  have c6 := h.c6
  unfold actR
  cases ho : f.off with
  | true =>
    rw [ho] at c5
    simp (disch := omega) only [go_sem, ↓reduceIte , c5]
    exact AfterL.refl h
  | false =>
    rw [ho] at c5
    by_cases h0 : f.left = 0
    · simp (disch := omega) only [go_sem, ↓reduceIte , c5, c4, h0]
      have := h.putOff true
      rw [← h0]
      exact .inPlace this (Kp.mono (T := fpS p f L) (show Kp (fun b => b = p) nx H _ from (by repeat first | exact Kp.refl _ _ _ | refine Kp.dropT ?_ (.inl (by omega)) | refine Kp.put ?_ (.inl (by omega)) | refine Kp.new ?_ (by omega) | refine Kp.put ?_ (.inr (by omega)) | refine Kp.newO ?_ (by omega) | refine Kp.setO ?_ (.inl (by omega)) | refine Kp.setO ?_ (.inr (by omega)) | refine Kp.trans0 ?_ (by assumption) (by omega) | refine Kp.transS ?_ (by assumption) (by omega) (fun b hb hT => by first | omega | (dsimp only at hT ⊢; omega) | (simp only at hT ⊢; omega))) ) (Nat.le_refl _) (fun b _ e => by subst e; exact fp_p)) rfl
    · simp (disch := omega) only [go_sem, ↓reduceIte , c5, c4, c6, h0]
      have := (h.putLeft (max (f.left - 1) (-1))).putDone (f.done + 1)
      rw [← ho]
      exact .inPlace this (Kp.mono (T := fpS p f L) (show Kp (fun b => b = p) nx H _ from (by repeat first | exact Kp.refl _ _ _ | refine Kp.dropT ?_ (.inl (by omega)) | refine Kp.put ?_ (.inl (by omega)) | refine Kp.new ?_ (by omega) | refine Kp.put ?_ (.inr (by omega)) | refine Kp.newO ?_ (by omega) | refine Kp.setO ?_ (.inl (by omega)) | refine Kp.setO ?_ (.inr (by omega)) | refine Kp.trans0 ?_ (by assumption) (by omega) | refine Kp.transS ?_ (by assumption) (by omega) (fun b hb hT => by first | omega | (dsimp only at hT ⊢; omega) | (simp only at hT ⊢; omega))) ) (Nat.le_refl _) (fun b _ e => by subst e; exact fp_p)) rfl

set_option maxRecDepth 20000 in
theorem shNew_c {lo nx : Nat} {H : AH} (room : Int) : ACalls Try.prog lo 9 #[.int .i64 room] H nx (fun v H' nx' => nx ≤ nx' ∧ Kp (fun _ => False) nx H H' ∧ ∃ p L, v = .pointer (some ⟨p, 0, none⟩) ∧ ShA lo nx' H' p ⟨[], [], [], room, -1, false, 0, []⟩ L ∧ ∀ b, fpS p ⟨[], [], [], room, -1, false, 0, []⟩ L b → nx ≤ b) := by
  refine ACalls.withLo fun hlo => ?_
  refine acalls_of_awp L9 Try.func9 rfl (by kernel_rfl) ?_
  simp (disch := omega) only [go_sem, ↓reduceIte ]
  intro m1 h1
  simp (disch := omega) only [go_sem, ↓reduceIte ]
  intro m2 h2
  simp (disch := omega) only [go_sem, ↓reduceIte ]
  intro p hp
  simp (disch := omega) only [go_sem, ↓reduceIte ]
  refine ⟨by omega, (by repeat first | exact Kp.refl _ _ _ | refine Kp.dropT ?_ (.inl (by omega)) | refine Kp.put ?_ (.inl (by omega)) | refine Kp.new ?_ (by omega) | refine Kp.put ?_ (.inr (by omega)) | refine Kp.newO ?_ (by omega) | refine Kp.setO ?_ (.inl (by omega)) | refine Kp.setO ?_ (.inr (by omega)) | refine Kp.trans0 ?_ (by assumption) (by omega) | refine Kp.transS ?_ (by assumption) (by omega) (fun b hb hT => by first | omega | (dsimp only at hT ⊢; omega) | (simp only at hT ⊢; omega))) , p, ⟨m1, m2, 0, fun _ => 0⟩, rfl, ⟨by simp (disch := omega) only [go_sem, ↓reduceIte ], by simp (disch := omega) only [go_sem, ↓reduceIte ], ⟨_, by simp (disch := omega) only [go_sem, ↓reduceIte ], SlA.nil _ _ _⟩, by simp (disch := omega) only [go_sem, ↓reduceIte ], by simp (disch := omega) only [go_sem, ↓reduceIte ], by simp (disch := omega) only [go_sem, ↓reduceIte ], by simp (disch := omega) only [go_sem, ↓reduceIte ], ⟨_, by simp (disch := omega) only [go_sem, ↓reduceIte ], MapA.nil _ _⟩, ⟨_, by simp (disch := omega) only [go_sem, ↓reduceIte ], MapA.nil _ _⟩, by simp, List.Pairwise.nil, fun x hx => ?_, fun x y hx hy e => ?_, by simp, by simp, by simp⟩, fun b ⟨x, hx, e⟩ => ?_⟩
  · cases x with
    | p => simp only [Pt.at]; omega
    | mn => simp only [Pt.at]; omega
    | mo => simp only [Pt.at]; omega
    | mv => exact .inl rfl
    | bk i => obtain ⟨q, hq, _⟩ := hx; simp at hq
    | ow i => exact .inl rfl
  · cases x <;> first | (obtain ⟨q, hq, _⟩ := hx; simp at hq; done) | (cases y <;> first | (obtain ⟨q, hq, _⟩ := hy; simp at hq; done) | exact .inr rfl | (simp only [Pt.at] at e ⊢; omega))
  · cases x <;> first | (obtain ⟨q, hq, _⟩ := hx; simp at hq; done) | (simp only [Pt.at] at e; omega)

set_option maxRecDepth 20000 in
theorem set_c {lo nx : Nat} {H : AH} {p : Nat} {f : Fs} {L : Lay} (h : ShA lo nx H p f L) (name : ByteArray) (b : Option Nat) (hb : ∀ i, b = some i → ∃ q ∈ f.bk, q.1 = i) (hm : f.moves.length ≤ 1000000) :
    ACalls Try.prog lo 30 #[.pointer (some ⟨p, 0, none⟩), .string name, ekP b] H nx (fun v H' nx' => v = .tuple #[] ∧ ∃ own, AfterL lo nx H p f L { f with moves := f.moves ++ [⟨name, b, .empty⟩], now := match b with | none => delA name f.now | some i => setA name i f.now } { L with mv := own } H' nx') := by
  refine ACalls.withLo fun hlo => ?_
  refine acalls_of_awp L30 Try.func30 rfl (by kernel_rfl) ?_
  obtain ⟨l1, l2⟩ := h.ltp
  obtain ⟨u, hu, hsl⟩ := h.c2
  obtain ⟨v1, v2, v3⟩ := h.ltv
  obtain ⟨n1, n2, n3, n4⟩ := h.ltn
  unfold ekP
  simp (disch := omega) only [go_sem, ↓reduceIte , hu]
  let x : Mv := ⟨name, b, .empty⟩
  refine buildSQ_all (n := 1) [.agg x.cells.toArray] sl56 zero65 (by omega) (by omega) rfl (by simp [cells_agg, Mv.cells, x]) fun m hm' => ?_
  have hlit : SlA (m + 1) _ 3 (.slice (some ⟨m, 0, none⟩) 1 1) 1 (mvCells [x]) (m + 1) := SlA.ofNew (H := H) (e := 65) (cs := ([Value.agg x.cells.toArray].flatMap fun v => v.cells.toList).toArray) rfl (by omega) (by simp [maxLen]) (by simp [cells_agg, Mv.cells, x]) (fun j _ => by simp [cells_agg, mvCells, Mv.cells, x])
  have hs6 := hsl.new (vs := ([Value.agg x.cells.toArray].flatMap fun v => v.cells.toList).toArray) (e := 65) hm'
  simp (disch := omega) only [go_sem, ↓reduceIte ]
  refine appendQ_two (aw_append sl56 zero65 rfl by65 hs6 (hlit.src sl56 mvCells_one) (by simp only [maxLen]; omega) (by omega) (by omega) fun v7 H7 nx7 own7 hn7 hs7 ho7 hk7 _ => ?_)
  have hone7 := hs7.one
  have hkA : Kp (fun b => b + 1 = L.mv) nx H H7 := (by repeat first | exact Kp.refl _ _ _ | refine Kp.dropT ?_ (.inl (by omega)) | refine Kp.put ?_ (.inl (by omega)) | refine Kp.new ?_ (by omega) | refine Kp.put ?_ (.inr (by omega)) | refine Kp.newO ?_ (by omega) | refine Kp.setO ?_ (.inl (by omega)) | refine Kp.setO ?_ (.inr (by omega)) | refine Kp.trans0 ?_ (by assumption) (by omega) | refine Kp.transS ?_ (by assumption) (by omega) (fun b hb hT => by first | omega | (dsimp only at hT ⊢; omega) | (simp only at hT ⊢; omega))) 
  have hp7 := hkA p l2 (by omega)
  have i0 := hu
  rw [← hp7.1] at i0
  have hM7 := h.setMoves (nx' := nx7) hkA (by omega) (l := f.moves ++ [x]) (by rw [List.length_append, mvCells_append]; exact hs7) (by omega) (fun m hm b hb' => by
    rcases List.mem_append.1 hm with hm | hm
    · exact h.mv1 m hm b hb'
    · simp only [List.mem_singleton] at hm
      subst hm
      exact hb b hb')
  have d0 : H7.c p 0 = some (.map (some L.mn)) := by rw [hp7.1]; exact h.c0
  have A := h.anewMv (nx' := nx7) (by omega) (own := own7) (l := f.moves ++ [x]) (by have := hs7.le; omega)
  have hfp : ∀ c, c = p ∨ c = L.mn ∨ c + 1 = L.mv → fpS p f L c := fun c e => by
    rcases e with rfl | rfl | e
    · exact fp_p
    · exact fp_mn
    · exact fp_mv e
  cases b with
  | none =>
    simp (disch := omega) only [go_sem, ↓reduceIte , hone7, i0, d0]
    refine del_sh hM7.on n1 fun ob' hM' => ?_
    simp (disch := omega) only [go_sem, ↓reduceIte ]
    exact ⟨own7, by omega, Kp.mono (T := fpS p f L) (show Kp (fun c => c = p ∨ c = L.mn ∨ c + 1 = L.mv) nx H _ from (by repeat first | exact Kp.refl _ _ _ | refine Kp.dropT ?_ (.inl (by omega)) | refine Kp.put ?_ (.inl (by omega)) | refine Kp.new ?_ (by omega) | refine Kp.put ?_ (.inr (by omega)) | refine Kp.newO ?_ (by omega) | refine Kp.setO ?_ (.inl (by omega)) | refine Kp.setO ?_ (.inr (by omega)) | refine Kp.trans0 ?_ (by assumption) (by omega) | refine Kp.transS ?_ (by assumption) (by omega) (fun b hb hT => by first | omega | (dsimp only at hT ⊢; omega) | (simp only at hT ⊢; omega))) ) (Nat.le_refl _) (fun c _ e => hfp c e), hM7.setNow hM' fun a ha => h.now1 a (mem_delA.1 ha).1, fun c hc => h.fpA A c ((fp_eq rfl).1 hc)⟩
  | some i =>
    simp (disch := omega) only [go_sem, ↓reduceIte , hone7, i0, d0]
    refine set_sh hM7.on n1 fun ob' hM' => ?_
    simp (disch := omega) only [go_sem, ↓reduceIte ]
    refine ⟨own7, by omega, Kp.mono (T := fpS p f L) (show Kp (fun c => c = p ∨ c = L.mn ∨ c + 1 = L.mv) nx H _ from (by repeat first | exact Kp.refl _ _ _ | refine Kp.dropT ?_ (.inl (by omega)) | refine Kp.put ?_ (.inl (by omega)) | refine Kp.new ?_ (by omega) | refine Kp.put ?_ (.inr (by omega)) | refine Kp.newO ?_ (by omega) | refine Kp.setO ?_ (.inl (by omega)) | refine Kp.setO ?_ (.inr (by omega)) | refine Kp.trans0 ?_ (by assumption) (by omega) | refine Kp.transS ?_ (by assumption) (by omega) (fun b hb hT => by first | omega | (dsimp only at hT ⊢; omega) | (simp only at hT ⊢; omega))) ) (Nat.le_refl _) (fun c _ e => hfp c e), hM7.setNow hM' fun a ha => ?_, fun c hc => h.fpA A c ((fp_eq rfl).1 hc)⟩
    rcases mem_setA ha with rfl | ha
    · exact hb i rfl
    · exact h.now1 a ha
end Go.Proofs.Ytcdimjocdpogjaa
