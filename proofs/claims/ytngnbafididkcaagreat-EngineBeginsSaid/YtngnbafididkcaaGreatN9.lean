/- Engine: Hear: in our own logic. Engine: has, cost; library functions on routes: in our own logic. Engine: more steps on its parts. -/
import Derived.Test.YtngnbafididkcaaGreatN6
section
namespace Go.Proofs.YtngnbafididkcaaGreat
open Go.RowKit
set_option linter.unusedSimpArgs false

/-- A packet that comes. -/
def hearE (rq : Eng → Prt → Eng) (fr strange now : Int) (ps : List Prt) (e : Eng) : Eng :=
  if fr = e.id then e else
    ps.foldl (partE rq fr now) { e with strange := e.strange + strange, lk := match getA fr e.lk with | some _ => e.lk | none => setA fr (lnNew now) e.lk }
theorem mapLk : mapT Tryz.prog 88 = some (3, 96) := by kernel_rfl
theorem keyLk : KeyT Tryz.prog 3 (ekI .i64) (fun _ _ => True) := keyT_int (by kernel_rfl)
theorem zeroLk : zeroT Tryz.prog 96 = some (.pointer none) := by kernel_rfl
theorem getA_mapv {α β γ : Type} [DecidableEq α] (f : α → γ) (x : α) : ∀ l : List (α × β), getA x (l.map fun a => (a.1, f a.1)) = (getA x l).map fun _ => f x
  | [] => rfl
  | p :: r => by
    simp only [List.map_cons, getA]
    split
    · rename_i h; rw [h]; rfl
    · exact getA_mapv f x r
theorem lk_look {H : AH} {e : Eng} {y : ELay} (h : LkA H e.lk y.ml y.bl) (fr : Int) : lookupV Tryz.prog H 88 (.map (some y.ml)) (.int .i64 fr) false = some (.pointer ((getA fr e.lk).map fun _ => ⟨y.bl fr, 0, none⟩)) := by
  obtain ⟨ob, ho, hM⟩ := h.lm
  have := lookupV_mapA (P := Tryz.prog) (H := H) (x := fr) keyLk mapLk zeroLk ho hM trivial (fun _ _ => trivial)
  rw [getA_mapv] at this
  rw [show (Value.int .i64 fr) = ekI .i64 fr from rfl, this]
  cases getA fr e.lk <;> rfl
set_option maxHeartbeats 4000000 in
set_option maxRecDepth 20000 in
theorem ehear_c {lo nx : Nat} {H : AH} {p : Nat} {col : Nat → Nat} {y : ELay} {rq : Eng → Prt → Eng} {fr strange now : Int} {sv : Value} {ps : List Prt} {own : Nat} {e : Eng} {k : Nat} (hA : EngA lo nx H p e y col)
    (hs : SlA nx H 7 sv ps.length (ptCells ps) own) (hso : ∀ b, b + 1 = own → col b = 0) (hps : ∀ x ∈ ps, PtOk x) (hfr : 0 ≤ fr ∧ fr < 16) (hnow : 0 ≤ now ∧ now ≤ 1000000)
    (hst : -1000000 ≤ e.strange + strange ∧ e.strange + strange ≤ 1000000)
    (hok : HOk e k) (hk : k + ps.length < 256) (hpl : ps.length ≤ 1000) (hrq0 : ∀ e x, (rq e x).ts = e.ts ∧ (rq e x).lk = e.lk ∧ (rq e x).id = e.id)
    (hrq : ∀ (e' : Eng) (x : Prt) (H : AH) (nx : Nat) (y : ELay) (col : Nat → Nat), x ∈ ps → x.kind = 4 → (∃ i, e' = (ps.take i).foldl (partE rq fr now) { e with strange := e.strange + strange, lk := match getA fr e.lk with | some _ => e.lk | none => setA fr (lnNew now) e.lk } ∧ ps[i]? = some x) → EngA lo nx H p e' y col → ACalls Tryz.prog lo 43 #[.pointer (some ⟨p, 0, none⟩), .agg x.cells.toArray] H nx (fun _ H' nx' => ∃ y' col', y'.bl = y.bl ∧ EngS lo nx H p col (rq e' x) H' nx' y' col')) :
    ACalls Tryz.prog lo 15 #[.pointer (some ⟨p, 0, none⟩), .agg #[.int .i64 fr, sv], .int .i64 strange, .int .u64 now] H nx (fun v H' nx' => v = .tuple #[] ∧ ∃ y' col', EngS lo nx H p col (hearE rq fr strange now ps e) H' nx' y' col') := by
  refine ACalls.withLo fun hlo => ?_
  refine acalls_of_awp L15 Tryz.func15 rfl (by kernel_rfl) ?_
  have hpn := hA.k.lt hA.k.kp (by omega)
  have hone := hs.one
  simp (disch := omega) only [go_sem, ↓reduceIte , hone]
  intro bx hbx
  have hk0 : Kp (fun _ => False) nx H (((H.new bx #[.int .i64 0, .slice none 0 0] 36).put bx 0 (.int .i64 fr)).put bx 1 sv) := (by repeat first | exact Kp.refl _ _ _ | refine Kp.dropT ?_ (.inl (by omega)) | refine Kp.put ?_ (.inl (by omega)) | refine Kp.new ?_ (by omega) | refine Kp.put ?_ (.inr (by omega)) | refine Kp.newO ?_ (by omega) | refine Kp.setO ?_ (.inl (by omega)) | refine Kp.setO ?_ (.inr (by omega)) | refine Kp.trans0 ?_ (by assumption) (by omega) | refine Kp.transS ?_ (by assumption) (by omega) (fun b hb hT => by first | omega | (dsimp only at hT ⊢; omega) | (simp only at hT ⊢; omega))) 
  simp (disch := omega) only [go_sem, ↓reduceIte , hone]
  refine awp_draw ord15x1 (by kernel_rfl) ?_
  have c0 := hA.c.c0
  have hbl0 : ∀ b, b = bx → col b = 0 := fun b hb => by
    refine Classical.byContradiction fun h => ?_
    have := hA.k.rng b h
    omega
  by_cases hid : fr = e.id
  · have he : hearE rq fr strange now ps e = e := by unfold hearE; rw [if_pos hid]
    simp (disch := omega) only [go_sem, ↓reduceIte , ord15x1, c0]
    exact ⟨y, col, by rw [he]; exact (EngS.refl hA).still (by repeat first | exact Kp.refl _ _ _ | refine Kp.dropT ?_ (.inl (by omega)) | refine Kp.put ?_ (.inl (by omega)) | refine Kp.new ?_ (by omega) | refine Kp.put ?_ (.inr (by omega)) | refine Kp.newO ?_ (by omega) | refine Kp.setO ?_ (.inl (by omega)) | refine Kp.setO ?_ (.inr (by omega)) | refine Kp.trans0 ?_ (by assumption) (by omega) | refine Kp.transS ?_ (by assumption) (by omega) (fun b hb hT => by first | omega | (dsimp only at hT ⊢; omega) | (simp only at hT ⊢; omega)))  (by omega)⟩
  · have c11 : H.c p (10 + 1) = some (.int .i64 e.strange) := hA.c.c11
    have c1 := hA.c.c1
    have hml := hA.k.lt hA.k.kl (by omega)
    obtain ⟨sa, sc, rfl⟩ := hs.form
    simp (disch := omega) only [go_sem, ↓reduceIte , ord15x1, c0, c11]
    have hk1 : Kp (fun b => b = p) nx H ((H.new bx #[.int .i64 fr, .slice sa ps.length sc] 36).put p (10 + 1) (.int .i64 (e.strange + strange))) := (by repeat first | exact Kp.refl _ _ _ | refine Kp.dropT ?_ (.inl (by omega)) | refine Kp.put ?_ (.inl (by omega)) | refine Kp.new ?_ (by omega) | refine Kp.put ?_ (.inr (by omega)) | refine Kp.newO ?_ (by omega) | refine Kp.setO ?_ (.inl (by omega)) | refine Kp.setO ?_ (.inr (by omega)) | refine Kp.trans0 ?_ (by assumption) (by omega) | refine Kp.transS ?_ (by assumption) (by omega) (fun b hb hT => by first | omega | (dsimp only at hT ⊢; omega) | (simp only at hT ⊢; omega))) 
    generalize hH1 : ((H.new bx #[.int .i64 fr, .slice sa ps.length sc] 36).put p (10 + 1) (.int .i64 (e.strange + strange))) = H1 at hk1 ⊢
    have hA0 : EngA lo (bx + 1) (H.new bx #[.int .i64 fr, .slice sa ps.length sc] 36) p e y col := hA.kp' (S := fun _ => False) (by repeat first | exact Kp.refl _ _ _ | refine Kp.dropT ?_ (.inl (by omega)) | refine Kp.put ?_ (.inl (by omega)) | refine Kp.new ?_ (by omega) | refine Kp.put ?_ (.inr (by omega)) | refine Kp.newO ?_ (by omega) | refine Kp.setO ?_ (.inl (by omega)) | refine Kp.setO ?_ (.inr (by omega)) | refine Kp.trans0 ?_ (by assumption) (by omega) | refine Kp.transS ?_ (by assumption) (by omega) (fun b hb hT => by first | omega | (dsimp only at hT ⊢; omega) | (simp only at hT ⊢; omega)))  (by omega) (by simp)
    have hA1 : EngA lo (bx + 1) H1 p { e with strange := e.strange + strange } y col := by
      obtain ⟨d0, d1, d2, d3, d4, d5, d6, d7, d8, d9, d10, d11, d12, d13⟩ := hA0.c
      refine hA0.scal (by rw [← hH1]; exact (by repeat first | exact Kp.refl _ _ _ | refine Kp.dropT ?_ (.inl (by omega)) | refine Kp.put ?_ (.inl (by omega)) | refine Kp.new ?_ (by omega) | refine Kp.put ?_ (.inr (by omega)) | refine Kp.newO ?_ (by omega) | refine Kp.setO ?_ (.inl (by omega)) | refine Kp.setO ?_ (.inr (by omega)) | refine Kp.trans0 ?_ (by assumption) (by omega) | refine Kp.transS ?_ (by assumption) (by omega) (fun b hb hT => by first | omega | (dsimp only at hT ⊢; omega) | (simp only at hT ⊢; omega))) ) ?_ rfl rfl rfl rfl rfl rfl rfl
      rw [← hH1]
      exact ⟨by simp (disch := omega) only [go_sem, ↓reduceIte , d0], by simp (disch := omega) only [go_sem, ↓reduceIte , d1], by simp (disch := omega) only [go_sem, ↓reduceIte , d2], by simp (disch := omega) only [go_sem, ↓reduceIte , d3], by simp (disch := omega) only [go_sem, ↓reduceIte , d4], by simp (disch := omega) only [go_sem, ↓reduceIte , d5], by simp (disch := omega) only [go_sem, ↓reduceIte , d6], by simp (disch := omega) only [go_sem, ↓reduceIte , d7], by simp (disch := omega) only [go_sem, ↓reduceIte , d8], by simp (disch := omega) only [go_sem, ↓reduceIte , d9], by simp (disch := omega) only [go_sem, ↓reduceIte , d10], by simp (disch := omega) only [go_sem, ↓reduceIte ], by simp (disch := omega) only [go_sem, ↓reduceIte , d12], by simp (disch := omega) only [go_sem, ↓reduceIte , d13]⟩
    have b10 : H1.c bx 0 = some (.int .i64 fr) := by rw [← hH1]; simp (disch := omega) only [go_sem, ↓reduceIte ]
    have b11 : H1.c bx 1 = some (.slice sa ps.length sc) := by rw [← hH1]; simp (disch := omega) only [go_sem, ↓reduceIte ]
    clear hH1
    have hs1 := hs.kp hk1 (by omega : nx ≤ bx + 1) (fun b hb e => by have := hso b hb; rw [e, hA.k.kp] at this; omega)
    have hlk := lk_look hA1.lk fr
    have c11' := hA1.c.c1
    refine awp_draw ord15x3 (by kernel_rfl) ?_
    cases hg : getA fr e.lk with
    | some l =>
      have hh : hearE rq fr strange now ps e = ps.foldl (partE rq fr now) { e with strange := e.strange + strange } := by unfold hearE; rw [if_neg hid, hg]
      rw [show ({ e with strange := e.strange + strange } : Eng).lk = e.lk from rfl, hg] at hlk
      simp (disch := omega) only [go_sem, ↓reduceIte , ord15x3, b10, b11, c11', hlk, Option.map_some]
      exact hear_loop (y1 := y) (col1 := col) (b0 := y.bl fr) (e1 := { e with strange := e.strange + strange }) hs1 hso (by omega) (hbl0 bx rfl) b10 hps hfr hnow ⟨hok.uq, hok.le, hok.ln⟩ hk hpl hrq0 (fun e' x H nx y col hx h4 ⟨i, hi, hp⟩ hA => hrq e' x H nx y col hx h4 ⟨i, by rw [hi, hg], hp⟩ hA) ⟨by omega, by omega, rfl, EngS.refl hA1, rfl, l, hg⟩ (fun H' nx' y' col' st => ⟨rfl, y', col', ⟨by have := st.le; omega, (hk1.mono (T := fun b => col b ≠ 0) (Nat.le_refl _) (fun b _ h => by rw [h, hA.k.kp]; omega)).trans (U := fun b => col b ≠ 0) st.kp (by omega) (fun _ _ h => h) (fun _ _ h => h), by rw [hh]; exact st.a, fun b hb => by
        rcases st.fp b hb with h | h
        · exact .inl h
        · exact .inr (by omega)⟩⟩)
    | none =>
      have hh : hearE rq fr strange now ps e = ps.foldl (partE rq fr now) { e with strange := e.strange + strange, lk := setA fr (lnNew now) e.lk } := by unfold hearE; rw [if_neg hid, hg]
      rw [show ({ e with strange := e.strange + strange } : Eng).lk = e.lk from rfl, hg] at hlk
      simp (disch := omega) only [go_sem, ↓reduceIte , ord15x3, b10, b11, c11', hlk, Option.map_none]
      refine (lnew_c now (by omega) (by omega)).mono fun v H2 nx2 _ ⟨b, hb, hv, hx2, hk2, hl2⟩ => ?_
      subst hv; subst hx2
      have hA2 := hA1.kp' (nx' := b + 1) hk2 (by omega) (by simp)
      have c12 := hA2.c.c1
      obtain ⟨ob, hob, hM⟩ := hA2.lk.lm
      have b20 : H2.c bx 0 = some (.int .i64 fr) := by rw [hk2.cell0 bx 0 (by omega)]; exact b10
      have b21 : H2.c bx 1 = some (.slice sa ps.length sc) := by rw [hk2.cell0 bx 1 (by omega)]; exact b11
      simp (disch := omega) only [go_sem, ↓reduceIte ]
      refine awp_draw ord15x6 (by kernel_rfl) ?_
      simp (disch := omega) only [go_sem, ↓reduceIte , ord15x6, b20, c12]
      refine mapSetQ_A (P := Tryz.prog) (ek := ekI .i64) (ev := evP) (x := fr) (v := b) keyLk mapLk (by omega) hob hM trivial (fun _ _ => trivial) fun ob1 hM1 => ?_
      simp (disch := omega) only [go_sem, ↓reduceIte , ord15x6, b20, b21]
      refine ⟨dkeep_last (by kernel_rfl), ?_⟩
      have hb0 : col b = 0 := by
        refine Classical.byContradiction fun h => ?_
        have := hA1.k.rng b h
        omega
      have hA3 := hA2.newLk (l := lnNew now) hg ⟨by omega, by omega⟩ hb0 hl2 hM1
      have hoo := hs.le
      have k3 : Kp (fun c => c = y.ml) (b + 1) H2 (H2.setO y.ml ob1) := Kp.setO (Kp.refl _ _ _) (.inr rfl)
      have hs3 := (hs1.kp hk2 (by omega : bx + 1 ≤ b + 1) (by simp)).kp k3 (Nat.le_refl _) (fun c hc e => by have := hso c hc; rw [e, hA.k.kl] at this; omega)
      have k13 : Kp (fun c => col c ≠ 0) nx H (H2.setO y.ml ob1) := ((hk1.mono (T := fun b => col b ≠ 0) (Nat.le_refl _) (fun b _ h => by rw [h, hA.k.kp]; omega)).trans (U := fun b => col b ≠ 0) hk2 (by omega) (fun _ _ h => h) (fun _ _ h => h.elim)).trans (U := fun b => col b ≠ 0) k3 (by omega) (fun _ _ h => h) (fun c _ h => by rw [h, hA.k.kl]; omega)
      refine hear_loop (y1 := { y with bl := fun n => if n = fr then b else y.bl n }) (col1 := recol col (b + 1) 9) (b0 := b) (e1 := { e with strange := e.strange + strange, lk := setA fr (lnNew now) e.lk }) hs3 (fun c hc => by rw [recol_ne (by omega)]; exact hso c hc) (by omega) (by rw [recol_ne (by omega)]; exact hbl0 bx rfl) (by simp (disch := omega) only [go_sem, ↓reduceIte , b20]) hps hfr hnow ⟨hok.uq, hok.le, fun a ha => ?_⟩ hk hpl hrq0 (fun e' x H nx y col hx h4 ⟨i, hi, hp⟩ hA => hrq e' x H nx y col hx h4 ⟨i, by rw [hi, hg], hp⟩ hA) ⟨by omega, by omega, rfl, EngS.refl hA3, if_pos rfl, lnNew now, ?_⟩ (fun H' nx' y' col' st => ⟨rfl, y', col', ⟨by have := st.le; omega, k13.trans (U := fun b => col b ≠ 0) st.kp (by omega) (fun _ _ h => h) (fun c hc h => ?_), by rw [hh]; exact st.a, fun c hc => ?_⟩⟩)
      · rcases mem_setA (show a ∈ setA fr (lnNew now) e.lk from ha) with rfl | ha
        · exact ⟨by show (0 : Int) ≤ 0; omega, by show (0 : Int) ≤ 1000001; omega⟩
        · exact hok.ln a ha
      · show getA fr (setA fr (lnNew now) e.lk) = _
        rw [getA_set, if_pos rfl]
      · rw [recol_ne (by omega)] at h
        exact h
      · rcases st.fp c hc with h | h
        · by_cases hcb : c = b
          · exact .inr (by omega)
          · rw [recol_ne (by omega)] at h
            exact .inl h
        · exact .inr (by omega)
end Go.Proofs.YtngnbafididkcaaGreat
end
section
namespace Go.Proofs.YtngnbafididkcaaGreat
open Go.RowKit
set_option linter.unusedSimpArgs false

structure IxI {α : Type} (nx0 : Nat) (H0 : AH) (sv fv : Value) (q : α → Bool) (l : List α) (m : Nat) (env : Env) (H : AH) (nx i : Nat) : Prop where
  hm : m = l.length - i
  hi : i ≤ l.length
  henv : env = [(0, sv), (1, fv), (7, .int .i64 l.length), (8, .int .i64 i)]
  hx : nx0 ≤ nx
  hk : Kp (fun _ => False) nx0 H0 H
  hno : ∀ x ∈ l.take i, q x = false
theorem take_next {α : Type} {l : List α} {i : Nat} (hlt : i < l.length) {q : α → Bool} (h : ∀ x ∈ l.take i, q x = false) (hx : q l[i] = false) : ∀ x ∈ l.take (i + 1), q x = false := fun x hm => by
  rw [List.take_succ_eq_append_getElem hlt] at hm
  rcases List.mem_append.1 hm with h1 | h1
  · exact h x h1
  · rw [List.mem_singleton] at h1; subst h1; exact hx

set_option maxRecDepth 20000 in
theorem idxRt_c {lo : Nat} {H : AH} {nx : Nat} {v : Value} {l : List Rt} {own : Nat} (hs : SlA nx H 5 v l.length (rtCells l) own) (hl : l.length ≤ 1000000) {g : Nat} {cap : List Value} (hfn : fnOk Tryz.prog g = true) {q : Rt → Bool}
    (hf : ∀ x ∈ l, ∀ (H1 : AH) (nx1 : Nat), nx ≤ nx1 → Kp (fun _ => False) nx H H1 → ACalls Tryz.prog lo g (.agg x.cells.toArray :: cap).toArray H1 nx1 (fun v H' nx' => v = .bool (q x) ∧ nx1 ≤ nx' ∧ Kp (fun _ => False) nx1 H1 H')) :
    ACalls Tryz.prog lo 133 #[v, .func (.func g) #[] cap.toArray] H nx (fun v H' nx' => nx ≤ nx' ∧ Kp (fun _ => False) nx H H' ∧ ∃ r, v = .int .i64 r ∧ (0 ≤ r ↔ l.any q = true)) := by
  refine ACalls.withLo fun hlo => ?_
  refine acalls_of_awp L133 Tryz.func133 rfl (by kernel_rfl) ?_
  obtain ⟨aa, ac, rfl⟩ := hs.form
  simp (disch := omega) only [go_sem, ↓reduceIte ]
  refine awp_loop (fun m env H1 nx1 => ∃ i, IxI nx H (.slice aa l.length ac) (.func (.func g) #[] cap.toArray) q l m env H1 nx1 i) l.length ⟨0, ⟨rfl, by omega, rfl, Nat.le_refl _, Kp.refl _ _ _, by simp⟩⟩ (fun m env H1 nx1 ⟨i, hI⟩ hn => ?_)
  obtain ⟨hm, hi, henv, hx, hk, hno⟩ := hI
  subst henv
  by_cases hlt : i < l.length
  · obtain ⟨gb, off, cp, hv, hgo⟩ := hs.open (by omega)
    simp only [Value.slice.injEq, true_and] at hv
    obtain ⟨rfl, rfl⟩ := hv
    have hs1 := hs.kp hk hx (by simp)
    have hx0 : l[i]? = some l[i] := List.getElem?_eq_getElem hlt
    have hld := rt_load hs1 hx0
    have hq := hf l[i] (List.getElem_mem hlt) H1 nx1 hx hk
    have htn := take_next hlt hno
    generalize hx1 : l[i] = x at hx0 hld hq htn
    have hxm : x ∈ l := by rw [← hx1]; exact List.getElem_mem hlt
    unfold Rt.cells at hld hq
    simp (disch := omega) only [go_sem, ↓reduceIte , hld]
    refine hq.mono fun v H2 nx2 _ ⟨hv, hx2, hk2⟩ => ?_
    subst hv
    have k2 : Kp (fun _ => False) nx H H2 := hk.trans0 hk2 hx
    cases hqx : q x with
    | true =>
      simp (disch := omega) only [go_sem, ↓reduceIte ]
      exact ⟨by omega, k2, i, rfl, iff_of_true (by omega) (List.any_eq_true.2 ⟨x, hxm, hqx⟩)⟩
    | false =>
      simp (disch := omega) only [go_sem, ↓reduceIte ]
      exact ⟨l.length - (i + 1), by omega, i + 1, ⟨rfl, by omega, rfl, by omega, k2, htn hqx⟩⟩
  · have ei : i = l.length := by omega
    subst ei
    simp (disch := omega) only [go_sem, ↓reduceIte ]
    refine ⟨by omega, hk, -1, rfl, iff_of_false (by omega) fun h => ?_⟩
    obtain ⟨x, hx, h2⟩ := List.any_eq_true.1 h
    rw [hno x (by rw [List.take_length]; exact hx)] at h2
    cases h2
set_option maxRecDepth 20000 in
theorem contRt_c {lo : Nat} {H : AH} {nx : Nat} {v : Value} {l : List Rt} {own : Nat} (hs : SlA nx H 5 v l.length (rtCells l) own) (hl : l.length ≤ 1000000) {g : Nat} {cap : List Value} (hfn : fnOk Tryz.prog g = true) {q : Rt → Bool}
    (hf : ∀ x ∈ l, ∀ (H1 : AH) (nx1 : Nat), nx ≤ nx1 → Kp (fun _ => False) nx H H1 → ACalls Tryz.prog lo g (.agg x.cells.toArray :: cap).toArray H1 nx1 (fun v H' nx' => v = .bool (q x) ∧ nx1 ≤ nx' ∧ Kp (fun _ => False) nx1 H1 H')) :
    ACalls Tryz.prog lo 93 #[v, .func (.func g) #[] cap.toArray] H nx (fun v H' nx' => v = .bool (l.any q) ∧ nx ≤ nx' ∧ Kp (fun _ => False) nx H H') := by
  refine acalls_of_awp L93 Tryz.func93 rfl (by kernel_rfl) ?_
  simp (disch := omega) only [go_sem, ↓reduceIte ]
  refine (idxRt_c hs hl hfn hf).mono fun v H1 nx1 _ ⟨hx, hk, r, hv, hr⟩ => ?_
  subst hv
  simp (disch := omega) only [go_sem, ↓reduceIte ]
  refine ⟨?_, hx, hk⟩
  congr 1
  rw [Bool.eq_iff_iff, ← hr, decide_eq_true_iff]
def samePx (r : Rt) (a n : Int) : Bool := decide (r.addr = a) && decide (r.len = n)
set_option maxRecDepth 20000 in
theorem ehasC_c {lo : Nat} {H : AH} {nx b : Nat} {a n : Int} (h0 : H.c b 0 = some (.int .u32 a)) (h1 : H.c b 1 = some (.int .u8 n)) (hb : b < nx) (x : Rt) : ACalls Tryz.prog lo 94 #[.agg x.cells.toArray, .pointer (some ⟨b, 0, none⟩)] H nx (fun v H' nx' => v = .bool (samePx x a n) ∧ nx ≤ nx' ∧ Kp (fun _ => False) nx H H') := by
  refine ACalls.withLo fun hlo => ?_
  refine acalls_of_awp L94 Tryz.func94 rfl (by kernel_rfl) ?_
  unfold Rt.cells
  simp (disch := omega) only [go_sem, ↓reduceIte ]
  intro d hd
  simp (disch := omega) only [go_sem, ↓reduceIte , h0, h1]
  refine ⟨?_, by omega, (by repeat first | exact Kp.refl _ _ _ | refine Kp.dropT ?_ (.inl (by omega)) | refine Kp.put ?_ (.inl (by omega)) | refine Kp.new ?_ (by omega) | refine Kp.put ?_ (.inr (by omega)) | refine Kp.newO ?_ (by omega) | refine Kp.setO ?_ (.inl (by omega)) | refine Kp.setO ?_ (.inr (by omega)) | refine Kp.trans0 ?_ (by assumption) (by omega) | refine Kp.transS ?_ (by assumption) (by omega) (fun b hb hT => by first | omega | (dsimp only at hT ⊢; omega) | (simp only at hT ⊢; omega))) ⟩
  simp [samePx, eqLs, eqLeaf]
set_option maxRecDepth 20000 in
theorem ehas_c {lo : Nat} {H : AH} {nx : Nat} {v : Value} {l : List Rt} {own : Nat} (hs : SlA nx H 5 v l.length (rtCells l) own) (hl : l.length ≤ 1000000) (a n : Int) :
    ACalls Tryz.prog lo 54 #[v, .agg #[.int .u32 a, .int .u8 n]] H nx (fun v H' nx' => v = .bool (l.any fun x => samePx x a n) ∧ nx ≤ nx' ∧ Kp (fun _ => False) nx H H') := by
  refine ACalls.withLo fun hlo => ?_
  refine acalls_of_awp L54 Tryz.func54 rfl (by kernel_rfl) ?_
  simp (disch := omega) only [go_sem, ↓reduceIte ]
  intro b hb
  simp (disch := omega) only [go_sem, ↓reduceIte ]
  have kb : Kp (fun _ => False) nx H ((H.new b #[.int .u32 0, .int .u8 0] 30).put b 0 (.int .u32 a) |>.put b 1 (.int .u8 n)) := (by repeat first | exact Kp.refl _ _ _ | refine Kp.dropT ?_ (.inl (by omega)) | refine Kp.put ?_ (.inl (by omega)) | refine Kp.new ?_ (by omega) | refine Kp.put ?_ (.inr (by omega)) | refine Kp.newO ?_ (by omega) | refine Kp.setO ?_ (.inl (by omega)) | refine Kp.setO ?_ (.inr (by omega)) | refine Kp.trans0 ?_ (by assumption) (by omega) | refine Kp.transS ?_ (by assumption) (by omega) (fun b hb hT => by first | omega | (dsimp only at hT ⊢; omega) | (simp only at hT ⊢; omega))) 
  refine (contRt_c (q := fun x => samePx x a n) (g := 94) (cap := [.pointer (some ⟨b, 0, none⟩)]) (hs.kp (S := fun _ => False) (nx' := b + 1) (by repeat first | exact Kp.refl _ _ _ | refine Kp.dropT ?_ (.inl (by omega)) | refine Kp.put ?_ (.inl (by omega)) | refine Kp.new ?_ (by omega) | refine Kp.put ?_ (.inr (by omega)) | refine Kp.newO ?_ (by omega) | refine Kp.setO ?_ (.inl (by omega)) | refine Kp.setO ?_ (.inr (by omega)) | refine Kp.trans0 ?_ (by assumption) (by omega) | refine Kp.transS ?_ (by assumption) (by omega) (fun b hb hT => by first | omega | (dsimp only at hT ⊢; omega) | (simp only at hT ⊢; omega)))  (by omega) (by simp)) hl (by kernel_rfl) (fun x _ H1 nx1 hx1 hk1 => ehasC_c (by rw [hk1.cell0 b 0 (by omega)]; simp (disch := omega) only [go_sem, ↓reduceIte ]) (by rw [hk1.cell0 b 1 (by omega)]; simp (disch := omega) only [go_sem, ↓reduceIte ]) (by omega) x)).mono fun v H1 nx1 _ ⟨hv, hx, hk⟩ => ?_
  subst hv
  simp (disch := omega) only [go_sem, ↓reduceIte ]
  exact ⟨by omega, Kp.trans (U := fun _ => False) (nx' := b + 1) (by repeat first | exact Kp.refl _ _ _ | refine Kp.dropT ?_ (.inl (by omega)) | refine Kp.put ?_ (.inl (by omega)) | refine Kp.new ?_ (by omega) | refine Kp.put ?_ (.inr (by omega)) | refine Kp.newO ?_ (by omega) | refine Kp.setO ?_ (.inl (by omega)) | refine Kp.setO ?_ (.inr (by omega)) | refine Kp.trans0 ?_ (by assumption) (by omega) | refine Kp.transS ?_ (by assumption) (by omega) (fun b hb hT => by first | omega | (dsimp only at hT ⊢; omega) | (simp only at hT ⊢; omega)))  hk (by omega) (fun _ _ h => h) (fun _ _ h => h)⟩
set_option maxRecDepth 20000 in
theorem cloneRt_c {lo : Nat} {H : AH} {nx : Nat} {v : Value} {ts : List Rt} {own : Nat} (hs : SlA nx H 5 v ts.length (rtCells ts) own) (hl : ts.length ≤ 1000000) :
    ACalls Tryz.prog lo 58 #[v] H nx (fun v H' nx' => nx ≤ nx' ∧ Kp (fun _ => False) nx H H' ∧ ∃ own', SlA nx' H' 5 v ts.length (rtCells ts) own' ∧ (own' = 0 ∨ nx < own')) := by
  refine ACalls.withLo fun hlo => ?_
  obtain ⟨a, c, rfl⟩ := hs.form
  cases a with
  | none =>
    rcases hs.2.2 with ⟨h1, h2, h3⟩ | ⟨g, off, cap, h1, _⟩
    · simp only [Value.slice.injEq] at h1
      obtain ⟨_, _, rfl⟩ := h1
      have : ts = [] := List.eq_nil_of_length_eq_zero h2
      subst this
      refine acalls_of_awp L58 Tryz.func58 rfl (by kernel_rfl) ?_
      simp (disch := omega) only [go_sem, ↓reduceIte , List.length_nil]
      exact ⟨Nat.le_refl _, Kp.refl _ _ _, 0, SlA.nil _ _ _, .inl rfl⟩
    · simp at h1
  | some a =>
    refine acalls_of_awp L58 Tryz.func58 rfl (by kernel_rfl) ?_
    simp (disch := omega) only [go_sem, ↓reduceIte ]
    refine buildSQ_nil sl37 fun m hm => ?_
    simp (disch := omega) only [go_sem, ↓reduceIte ]
    have h0 : SlA (m + 1) (H.new m #[] 40) 5 (.slice (some ⟨m, 0, none⟩) 0 0) 0 [] (m + 1) := SlA.ofNew (by simp) (by omega) (by simp [maxLen]) (by simp) (by simp)
    refine aw_append sl37 zero40 rfl by40 h0 ((hs.new hm).src sl37 rtCells_one) (by simp only [maxLen]; omega) (by omega) (.inr (by omega)) fun v' H' nx' own' hn hs' ho hk hnil => ?_
    simp (disch := omega) only [go_sem, ↓reduceIte ]
    refine ⟨by omega, Kp.trans (U := fun _ => False) ((Kp.refl (fun _ => False) nx H).new hm) hk (by omega) (fun b _ h => h) (fun b hb h => by omega), own', by simpa using hs', ?_⟩
    omega
theorem rt_eq (x y : Rt) : eqLs x.cells y.cells = true ↔ x = y := by
  obtain ⟨a, b, c, d, e⟩ := x
  obtain ⟨a', b', c', d', e'⟩ := y
  simp [Rt.cells, eqLs, eqLeaf]
structure EqI (nx0 : Nat) (H0 : AH) (v w : Value) (l k : List Rt) (m : Nat) (env : Env) (H : AH) (nx i : Nat) : Prop where
  hm : m = l.length - i
  hi : i ≤ l.length
  henv : env = [(0, v), (1, w), (12, .int .i64 l.length), (13, .int .i64 i)]
  hx : nx0 ≤ nx
  hk : H = H0
  hsm : l.take i = k.take i
set_option maxRecDepth 20000 in
theorem eqRt_c {lo : Nat} {H : AH} {nx : Nat} {v w : Value} {l k : List Rt} {o1 o2 : Nat} (hs : SlA nx H 5 v l.length (rtCells l) o1) (hs2 : SlA nx H 5 w k.length (rtCells k) o2) (hl : l.length ≤ 1000000) (hk : k.length ≤ 1000000) :
    ACalls Tryz.prog lo 53 #[v, w] H nx (fun v H' nx' => ∃ b, v = .bool b ∧ (b = true ↔ l = k) ∧ nx ≤ nx' ∧ H' = H) := by
  refine acalls_of_awp L53 Tryz.func53 rfl (by kernel_rfl) ?_
  obtain ⟨aa, ac, rfl⟩ := hs.form
  obtain ⟨ba, bc, rfl⟩ := hs2.form
  by_cases hlen : l.length = k.length
  · simp (disch := omega) only [go_sem, ↓reduceIte ]
    refine awp_loop (fun m env H1 nx1 => ∃ i, EqI nx H (.slice aa l.length ac) (.slice ba k.length bc) l k m env H1 nx1 i) l.length ⟨0, ⟨rfl, by omega, rfl, Nat.le_refl _, rfl, by simp⟩⟩ (fun m env H1 nx1 ⟨i, hI⟩ hn => ?_)
    obtain ⟨hm, hi, henv, hx, hkk, hsm⟩ := hI
    subst henv; subst hkk
    by_cases hlt : i < l.length
    · obtain ⟨gb, off, cp, hv, hgo⟩ := hs.open (by omega)
      obtain ⟨gc, off2, cp2, hv2, hgo2⟩ := hs2.open (by omega)
      simp only [Value.slice.injEq, true_and] at hv hv2
      obtain ⟨rfl, rfl⟩ := hv
      obtain ⟨rfl, rfl⟩ := hv2
      have hlt2 : i < k.length := by omega
      have hld := rt_load hs (List.getElem?_eq_getElem hlt)
      have hld2 := rt_load hs2 (List.getElem?_eq_getElem hlt2)
      have hto : l[i] = k[i] → l.take (i + 1) = k.take (i + 1) := fun h => by
        rw [List.take_succ_eq_append_getElem hlt, List.take_succ_eq_append_getElem hlt2, hsm, h]
      have hne : l[i] ≠ k[i] → l ≠ k := fun h e => h (by subst e; rfl)
      generalize l[i] = x at hld hto hne
      generalize k[i] = z at hld2 hto hne
      have hq := rt_eq x z
      unfold Rt.cells at hld hld2 hq
      simp (disch := omega) only [go_sem, ↓reduceIte ]
      refine awp_draw ord53x6 (by kernel_rfl) ?_
      by_cases hxz : x = z
      · have hq1 := hq.2 hxz
        simp (disch := omega) only [go_sem, ↓reduceIte , ord53x6, hld, hld2, hq1, Bool.not_true]
        exact ⟨l.length - (i + 1), by omega, i + 1, ⟨rfl, by omega, rfl, by omega, rfl, hto hxz⟩⟩
      · have hq1 := Bool.eq_false_iff.2 (fun h => hxz (hq.1 h))
        simp (disch := omega) only [go_sem, ↓reduceIte , ord53x6, hld, hld2, hq1, Bool.not_false]
        exact ⟨false, rfl, iff_of_false (by simp) (hne hxz), by omega⟩
    · have ei : i = l.length := by omega
      subst ei
      simp (disch := omega) only [go_sem, ↓reduceIte ]
      refine ⟨true, rfl, iff_of_true rfl ?_, by omega⟩
      rw [List.take_length, hlen, List.take_length] at hsm
      exact hsm
  · simp (disch := omega) only [go_sem, ↓reduceIte ]
    exact ⟨false, rfl, iff_of_false (by simp) (fun e => hlen (by rw [e])), by omega⟩
theorem ecost_c {lo : Nat} {H : AH} {nx p : Nat} {e : Eng} {y : ELay} {col : Nat → Nat} (hA : EngA lo nx H p e y col) (hlk : ∀ a ∈ e.lk, 0 ≤ andI .u16 a.2.came 7 ∧ andI .u16 a.2.came 7 < 8) (n : Int) :
    ACalls Tryz.prog lo 49 #[.pointer (some ⟨p, 0, none⟩), .int .i64 n] H nx (fun v H' nx' => v = .int .u16 (match getA n e.lk with | some l => costL l | none => 65535) ∧ nx' = nx ∧ H' = H) := by
  refine acalls_of_awp L49 Tryz.func49 rfl (by kernel_rfl) ?_
  have c1 := hA.c.c1
  have hl := lk_look hA.lk n
  cases hg : getA n e.lk with
  | none =>
    rw [hg] at hl
    simp (disch := omega) only [go_sem, ↓reduceIte , c1, hl, Option.map_none]
  | some l =>
    rw [hg] at hl
    have hm := getA_mem hg
    simp (disch := omega) only [go_sem, ↓reduceIte , c1, hl, Option.map_some]
    refine (lcost_c (hA.lk.ln _ hm) (hlk _ hm).1 (hlk _ hm).2).mono fun v H1 nx1 _ ⟨hv, hn, hH⟩ => ?_
    subst hv; subst hn; subst hH
    simp (disch := omega) only [go_sem, ↓reduceIte ]
end Go.Proofs.YtngnbafididkcaaGreat
end
section
namespace Go.Proofs.YtngnbafididkcaaGreat
open Go.RowKit
set_option linter.unusedSimpArgs false

section
variable {lo nx nx' : Nat} {H H' : AH} {p : Nat} {e : Eng} {y : ELay} {col : Nat → Nat}
theorem recol_keep {own' c : Nat} (hcl : ∀ b, b + 1 = own' → col b = 0 ∨ col b = c) : ∀ d, col d ≠ 0 → recol col own' c d = col d := fun d hd => by
  by_cases e1 : d + 1 = own'
  · rcases hcl d e1 with h1 | h1
    · exact absurd h1 hd
    · rw [h1]; exact if_pos e1
  · exact recol_ne e1
theorem ColA.re (h : ColA lo nx p e.lk y col) {y' : ELay} {own' c : Nat} (hn : nx ≤ nx') (hcl : ∀ b, b + 1 = own' → col b = 0 ∨ col b = c) (hw : own' = 0 ∨ (lo < own' ∧ own' ≤ nx'))
    (e1 : y'.ml = y.ml) (e2 : y'.bl = y.bl) (e3 : y'.pr = y.pr) (e4 : y'.ps = y.ps) (e5 : y'.mo = y.mo)
    (r2 : y'.orr = y.orr ∨ (y'.orr = own' ∧ c = 2)) (r3 : y'.os = y.os ∨ (y'.os = own' ∧ c = 3)) (r5 : y'.o5 = y.o5 ∨ (y'.o5 = own' ∧ c = 6)) (r7 : y'.o7 = y.o7 ∨ (y'.o7 = own' ∧ c = 7)) (r8 : y'.o8 = y.o8 ∨ (y'.o8 = own' ∧ c = 8)) : ColA lo nx' p e.lk y' (recol col own' c) := by
  have hne := recol_keep hcl
  have one : ∀ {o o' : Nat} {k : Nat}, k ≠ 0 → (∀ b, b + 1 = o → col b = k) → (o' = o ∨ (o' = own' ∧ c = k)) → ∀ b, b + 1 = o' → recol col own' c b = k := fun hk h r b hb => by
    rcases r with r | ⟨r, rc⟩
    · subst r
      have := h b hb
      rw [hne b (by omega), this]
    · subst r; subst rc
      exact if_pos hb
  have wid : ∀ {o o' k : Nat}, (o = 0 ∨ lo < o) → (o' = o ∨ (o' = own' ∧ c = k)) → (o' = 0 ∨ lo < o') := fun h r => by
    rcases r with r | ⟨r, _⟩
    · rw [r]; exact h
    · rw [r]; rcases hw with h | h
      · exact .inl h
      · exact .inr h.1
  refine ⟨by rw [hne p (by rw [h.kp]; omega)]; exact h.kp, by rw [e3, hne y.pr (by rw [h.kr]; omega)]; exact h.kr, one (by omega) h.kr2 r2, by rw [e4, hne y.ps (by rw [h.ks]; omega)]; exact h.ks, one (by omega) h.ks2 r3, by rw [e1, hne y.ml (by rw [h.kl]; omega)]; exact h.kl, fun a ha => by rw [e2, hne (y.bl a.1) (by rw [h.kb a ha]; omega)]; exact h.kb a ha, by rw [e2]; exact h.li, by rw [e5, hne y.mo (by rw [h.ko]; omega)]; exact h.ko, one (by omega) h.k5 r5, one (by omega) h.k7 r7, one (by omega) h.k8 r8, wid h.w5 r5, wid h.w7 r7, wid h.w8 r8, fun d hd => ?_⟩
  by_cases hd1 : d + 1 = own'
  · omega
  · rw [recol_ne hd1] at hd
    have := h.rng d hd
    omega
/-- The marks change. -/
theorem EngA.setEs (h : EngA lo nx H p e y col) {es' : List Ent} {own' : Nat} (hn : nx ≤ nx') (hk : Kp (fun b => b = y.ps ∨ b + 1 = y.os) nx H H') (hS : SouA lo nx' H' y.ps es' own') (hown : own' = y.os ∨ nx < own') :
    EngA lo nx' H' p { e with es := es' } { y with os := own' } (recol col own' 3) := by
  have hk' : Kp (fun b => (fun c => c = 3) (col b)) nx H H' := hk.mono (Nat.le_refl _) (fun b _ hb => by
    show col b = 3
    rcases hb with hb | hb
    · rw [hb]; exact h.k.ks
    · exact h.k.ks2 b hb)
  have hcl : ∀ b, b + 1 = own' → col b = 0 ∨ col b = 3 := fun b hb => by
    rcases hown with r | r
    · exact .inr (h.k.ks2 b (by omega))
    · refine .inl (Classical.byContradiction fun hc => ?_)
      have := h.k.rng b hc
      omega
  have hle : own' ≤ nx' := by
    obtain ⟨v, _, hs⟩ := hS.q
    exact hs.le
  refine ⟨h.c.same (h.cell_kp (fun c => c = 3) hk' (by decide)), h.s5_kp (fun c => c = 3) hk' hn (by decide), h.s7_kp (fun c => c = 3) hk' hn (by decide), h.s8_kp (fun c => c = 3) hk' hn (by decide), h.lk_kp (fun c => c = 3) hk' (by decide) (by decide), h.om_kp (fun c => c = 3) hk' (by decide), h.rt_kp (fun c => c = 3) hk' hn (by decide), hS, ?_⟩
  exact h.k.re (y' := { y with os := own' }) hn hcl (by have := hS.ow; omega) rfl rfl rfl rfl rfl (.inl rfl) (.inr ⟨rfl, rfl⟩) (.inl rfl) (.inl rfl) (.inl rfl)
/-- What is chosen changes. -/
theorem EngA.setSel (h : EngA lo nx H p e y col) {l : List Rt} {v : Value} {own' : Nat} (hn : nx ≤ nx') (hk : Kp (fun b => b = p ∨ b + 1 = y.o5) nx H H') (hc : EngC H' p { e with sel := l } { y with v5 := v, o5 := own' }) (hs : SlA nx' H' 5 v l.length (rtCells l) own') (hw : own' = 0 ∨ lo < own') (hcl : ∀ b, b + 1 = own' → col b = 0 ∨ col b = 6) :
    EngA lo nx' H' p { e with sel := l } { y with v5 := v, o5 := own' } (recol col own' 6) := by
  have hk' : Kp (fun b => (fun c => c = 1 ∨ c = 6) (col b)) nx H H' := hk.mono (Nat.le_refl _) (fun b _ hb => by
    show col b = 1 ∨ col b = 6
    rcases hb with hb | hb
    · rw [hb]; exact .inl h.k.kp
    · exact .inr (h.k.k5 b hb))
  have hle := hs.le
  refine ⟨hc, hs, h.s7_kp (fun c => c = 1 ∨ c = 6) hk' hn (by decide), h.s8_kp (fun c => c = 1 ∨ c = 6) hk' hn (by decide), h.lk_kp (fun c => c = 1 ∨ c = 6) hk' (by decide) (by decide), h.om_kp (fun c => c = 1 ∨ c = 6) hk' (by decide), h.rt_kp (fun c => c = 1 ∨ c = 6) hk' hn (by decide), h.so_kp (fun c => c = 1 ∨ c = 6) hk' hn (by decide), ?_⟩
  exact h.k.re (y' := { y with v5 := v, o5 := own' }) hn hcl (by omega) rfl rfl rfl rfl rfl (.inl rfl) (.inl rfl) (.inr ⟨rfl, rfl⟩) (.inl rfl) (.inl rfl)
/-- What is lost changes. -/
theorem EngA.setLost (h : EngA lo nx H p e y col) {l : List (Int × Int)} {v : Value} {own' : Nat} (hn : nx ≤ nx') (hk : Kp (fun b => b = p ∨ b + 1 = y.o7) nx H H') (hc : EngC H' p { e with lost := l } { y with v7 := v, o7 := own' }) (hs : SlA nx' H' 2 v l.length (pxC l) own') (hw : own' = 0 ∨ lo < own') (hcl : ∀ b, b + 1 = own' → col b = 0 ∨ col b = 7) :
    EngA lo nx' H' p { e with lost := l } { y with v7 := v, o7 := own' } (recol col own' 7) := by
  have hk' : Kp (fun b => (fun c => c = 1 ∨ c = 7) (col b)) nx H H' := hk.mono (Nat.le_refl _) (fun b _ hb => by
    show col b = 1 ∨ col b = 7
    rcases hb with hb | hb
    · rw [hb]; exact .inl h.k.kp
    · exact .inr (h.k.k7 b hb))
  have hle := hs.le
  refine ⟨hc, h.s5_kp (fun c => c = 1 ∨ c = 7) hk' hn (by decide), hs, h.s8_kp (fun c => c = 1 ∨ c = 7) hk' hn (by decide), h.lk_kp (fun c => c = 1 ∨ c = 7) hk' (by decide) (by decide), h.om_kp (fun c => c = 1 ∨ c = 7) hk' (by decide), h.rt_kp (fun c => c = 1 ∨ c = 7) hk' hn (by decide), h.so_kp (fun c => c = 1 ∨ c = 7) hk' hn (by decide), ?_⟩
  exact h.k.re (y' := { y with v7 := v, o7 := own' }) hn hcl (by omega) rfl rfl rfl rfl rfl (.inl rfl) (.inl rfl) (.inl rfl) (.inr ⟨rfl, rfl⟩) (.inl rfl)
/-- What is asked changes. -/
theorem EngA.setAsks (h : EngA lo nx H p e y col) {l : List Prt} {v : Value} {own' : Nat} (hn : nx ≤ nx') (hk : Kp (fun b => b = p ∨ b + 1 = y.o8) nx H H') (hc : EngC H' p { e with asks := l } { y with v8 := v, o8 := own' }) (hs : SlA nx' H' 7 v l.length (ptCells l) own') (hw : own' = 0 ∨ lo < own') (hcl : ∀ b, b + 1 = own' → col b = 0 ∨ col b = 8) :
    EngA lo nx' H' p { e with asks := l } { y with v8 := v, o8 := own' } (recol col own' 8) := by
  have hk' : Kp (fun b => (fun c => c = 1 ∨ c = 8) (col b)) nx H H' := hk.mono (Nat.le_refl _) (fun b _ hb => by
    show col b = 1 ∨ col b = 8
    rcases hb with hb | hb
    · rw [hb]; exact .inl h.k.kp
    · exact .inr (h.k.k8 b hb))
  have hle := hs.le
  refine ⟨hc, h.s5_kp (fun c => c = 1 ∨ c = 8) hk' hn (by decide), h.s7_kp (fun c => c = 1 ∨ c = 8) hk' hn (by decide), hs, h.lk_kp (fun c => c = 1 ∨ c = 8) hk' (by decide) (by decide), h.om_kp (fun c => c = 1 ∨ c = 8) hk' (by decide), h.rt_kp (fun c => c = 1 ∨ c = 8) hk' hn (by decide), h.so_kp (fun c => c = 1 ∨ c = 8) hk' hn (by decide), ?_⟩
  exact h.k.re (y' := { y with v8 := v, o8 := own' }) hn hcl (by omega) rfl rfl rfl rfl rfl (.inl rfl) (.inl rfl) (.inl rfl) (.inl rfl) (.inr ⟨rfl, rfl⟩)
end
section
variable {lo nx0 nx1 nx2 : Nat} {H0 H1 H2 : AH} {p : Nat} {e1 e2 : Eng} {y1 y2 : ELay} {col0 c1 c2 : Nat → Nat}
/-- A step that may write what is new qs well. -/
theorem EngS.step (s : EngS lo nx0 H0 p col0 e1 H1 nx1 y1 c1) (hk : Kp (fun b => c1 b ≠ 0 ∨ nx0 ≤ b) nx1 H1 H2) (hn : nx1 ≤ nx2) (a : EngA lo nx2 H2 p e2 y2 c2) (fp : ∀ b, c2 b ≠ 0 → c1 b ≠ 0 ∨ nx0 ≤ b) : EngS lo nx0 H0 p col0 e2 H2 nx2 y2 c2 :=
  ⟨Nat.le_trans s.le hn, s.kp.trans (U := fun b => col0 b ≠ 0) hk s.le (fun _ _ h => h) (fun b hb h => by
    rcases h with h | h
    · rcases s.fp b h with h | h
      · exact h
      · omega
    · omega), a, fun b hb => by
    rcases fp b hb with h | h
    · exact s.fp b h
    · exact .inr h⟩
theorem recol_fp {col : Nat → Nat} {own' c nx : Nat} (h : ∀ b, b + 1 = own' → col b ≠ 0 ∨ nx ≤ b) : ∀ b, recol col own' c b ≠ 0 → col b ≠ 0 ∨ nx ≤ b := fun b hb => by
  by_cases e : b + 1 = own'
  · exact h b e
  · rw [recol_ne e] at hb; exact .inl hb
end

/-- Marks behind some routes, one after another. -/
def LowL : List Ent → List Rt → List Ent → Prop
  | es, [], es' => es' = es
  | es, r :: rs, es' => ∃ e1, LowR es r.addr r.len r.seq r.metric e1 ∧ LowL e1 rs es'
theorem LowL.snoc {es' es2 : List Ent} {r : Rt} (h2 : LowR es' r.addr r.len r.seq r.metric es2) : ∀ {es : List Ent} {rs : List Rt}, LowL es rs es' → LowL es (rs ++ [r]) es2
  | es, [], h => ⟨es2, by rw [show es = es' from h.symm]; exact h2, rfl⟩
  | es, x :: rs, ⟨e1, h1, h⟩ => ⟨e1, h1, LowL.snoc h2 h⟩
theorem LowL.len : ∀ {es es' : List Ent} {rs : List Rt}, LowL es rs es' → es'.length ≤ es.length + rs.length
  | es, es', [], h => by rw [show es' = es from h]; simp
  | es, es', x :: rs, ⟨e1, h1, h⟩ => by
    have := LowL.len h
    have := h1.len
    rw [List.length_cons]
    omega
/-- A way of its own. -/
def ownRt (id : Int) (a : (Int × Int) × Int) : Rt := ⟨a.1.1, a.1.2, id, 0, a.2⟩
/-- Rows of one, fresh. -/
theorem rt_lit (H : AH) (f : Nat) (e : TypeId) (x : Rt) : SlA (f + 1) (H.new f ([Value.agg #[.int .u32 x.addr, .int .u8 x.len, .int .i64 x.via, .int .u16 x.metric, .int .u16 x.seq]].flatMap fun v => v.cells.toList).toArray e) 5 (.slice (some ⟨f, 0, none⟩) 1 1) 1 (rtCells [x]) (f + 1) :=
  SlA.ofNew rfl (by omega) (by simp [maxLen]) (by simp [cells_agg]) (fun j _ => by simp [cells_agg, rtCells, Rt.cells])
theorem px_lit (H : AH) (f : Nat) (e : TypeId) (a n : Int) : SlA (f + 1) (H.new f ([Value.agg #[.int .u32 a, .int .u8 n]].flatMap fun v => v.cells.toList).toArray e) 2 (.slice (some ⟨f, 0, none⟩) 1 1) 1 (pxC [(a, n)]) (f + 1) :=
  SlA.ofNew rfl (by omega) (by simp [maxLen]) (by simp [cells_agg]) (fun j _ => by simp [cells_agg, pxC])
theorem pt_lit (H : AH) (f : Nat) (e : TypeId) (x : Prt) : SlA (f + 1) (H.new f ([Value.agg #[.int .u8 x.kind, .int .u64 x.n, .int .i64 x.node, .int .u32 x.addr, .int .u8 x.len, .int .u16 x.seq, .int .u16 x.metric]].flatMap fun v => v.cells.toList).toArray e) 7 (.slice (some ⟨f, 0, none⟩) 1 1) 1 (ptCells [x]) (f + 1) :=
  SlA.ofNew rfl (by omega) (by simp [maxLen]) (by simp [cells_agg]) (fun j _ => by simp [cells_agg, ptCells, Prt.cells])
theorem ptCells_append (a b : List Prt) : ptCells (a ++ b) = ptCells a ++ ptCells b := by simp [ptCells]

/-- What is asked further. -/
def askE (qs : List Prt) (x : Prt) : List Prt := if qs.any (fun q => decide (q.addr = x.addr) && decide (q.len = x.len)) = true ∨ 16 ≤ qs.length then qs else qs ++ [x]
theorem askE_len (qs : List Prt) (x : Prt) (h : qs.length ≤ 16) : (askE qs x).length ≤ 16 := by
  unfold askE
  split
  · exact h
  · rw [List.length_append, List.length_singleton]; omega
def wantE (es : List Ent) (a n : Int) : Option Ent := es.find? fun x => decide (x.addr = a) && decide (x.len = n)
def blkE (es : List Ent) (l : List Rt) (qs : List Prt) (b : Rt) : List Prt :=
  match wantE es b.addr b.len with
  | some x => if l.any (fun r => samePx r b.addr b.len) = true then qs else askE qs ⟨4, 8, 0, b.addr, b.len, nextI x.seq, 0⟩
  | none => qs
def costN (e : Eng) (n : Int) : Int := match getA n e.lk with | some l => costL l | none => 65535
def costsE (e : Eng) : List Int := (List.range 16).map fun n : Nat => costN e (n : Int)
def ownL (e : Eng) (ks : List (Int × Int)) : List Rt := ks.map fun k => ⟨k.1, k.2, e.id, 0, (getA k e.own).getD 0⟩
def lostE (l sel : List Rt) : List (Int × Int) := (sel.filter fun r => !l.any fun x => samePx x r.addr r.len).map fun r => (r.addr, r.len)
/-- What Select does. -/
structure SelE (e e' : Eng) (L : List Rt) (ks : List (Int × Int)) (es1 es2 : List Ent) (ts' tb : List Tld) (d : Bool) (lo : List (Int × Int)) : Prop where
  kp : ks.Perm (e.own.map (·.1))
  kso : ks.Pairwise (fun x y => ¬ ltX y x)
  l1 : LowL e.es (ownL e ks) es1
  tp : ts'.Perm e.ts
  tso : ts'.Pairwise (fun x y => ¬ aheadT y x)
  l2 : LowL es1 (selR (costsE e) (feasE es1) ts') es2
  Lp : L.Perm (ownL e ks ++ selR (costsE e) (feasE es1) ts')
  Lso : L.Pairwise (fun x y => ¬ ltR y x)
  ch : (L = e.sel ∧ d = e.due ∧ lo = e.lost) ∨ (L ≠ e.sel ∧ d = true ∧ lo = e.lost ++ lostE L e.sel)
  bp : tb.Perm e.ts
  bso : tb.Pairwise (fun x y => ¬ aheadT y x)
  eq : e' = { e with es := es2, sel := L, due := d, lost := lo, asks := (blR (goodP (feasE es2) tb) tb).foldl (blkE es2 L) e.asks }
end Go.Proofs.YtngnbafididkcaaGreat
end
