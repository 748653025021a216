/- Engine: New, whatever its own prefixes and its rows are: in our own logic. -/
import Derived.Test.YtngnbafididkcaaGreatA3
import Derived.Test.YtngnbafididkcaaGreatN62
namespace Go.Proofs.YtngnbafididkcaaGreat
open Go.RowKit
set_option linter.unusedSimpArgs false

def engG (id : Int) (own : List ((Int × Int) × Int)) (es : List Ent) : Eng := ⟨id, [], [], es, own, [], 0, [], [], true, 0, 0, 0, 0⟩
theorem eng0G {lo nx ml pr ps mo p n1 n2 os : Nat} {H1 H2 H3 : AH} {id : Int} {es : List Ent} (hlo : lo ≤ nx) (h1 : nx ≤ ml) (h2 : ml < pr) (h3 : pr < n1) (h6 : n1 ≤ ps) (h7 : ps < n2) (ho : os = 0 ∨ n1 < os) (ho2 : os ≤ n2) (h4 : n2 ≤ mo) (h5 : mo < p) (hR : RouA lo n1 H1 pr [] 0) (k1 : Kp (fun _ => False) n1 H1 H2) (hS : SouA lo n2 H2 ps es os) (k2 : Kp (fun _ => False) n2 H2 H3)
    (hml : H1.o ml = some (.map #[] 0)) (hmo : H3.o mo = some (.map #[] 0)) (hp : ∀ o, H3.c p o = (#[.int .i64 id, .map (some ml), .pointer (some ⟨pr, 0, none⟩), .pointer (some ⟨ps, 0, none⟩), .map (some mo), .slice none 0 0, .int .u64 0, .slice none 0 0, .slice none 0 0, .bool true, .int .i64 0, .int .i64 0, .int .i64 0, .int .i64 0] : Array Value)[o]?) :
    EngA lo (p + 1) H3 p (engG id [] es) ⟨ml, fun _ => 0, pr, 0, ps, os, mo, .slice none 0 0, .slice none 0 0, .slice none 0 0, 0, 0, 0⟩ (fun b => if b = p then 1 else if b = pr then 2 else if b = ps ∨ b + 1 = os then 3 else if b = ml then 4 else if b = mo then 5 else 0) := by
  have k12 : Kp (fun _ => False) n1 H1 H3 := k1.trans (U := fun _ => False) k2 (by omega) (fun _ _ h => h) (fun _ _ h => h)
  have hne := hS.ne
  refine ⟨⟨by rw [hp]; rfl, by rw [hp]; rfl, by rw [hp]; rfl, by rw [hp]; rfl, by rw [hp]; rfl, by rw [hp]; rfl, by rw [hp]; rfl, by rw [hp]; rfl, by rw [hp]; rfl, by rw [hp]; rfl, by rw [hp]; rfl, by rw [hp]; rfl, by rw [hp]; rfl, by rw [hp]; rfl⟩, SlA.nil _ _ _, SlA.nil _ _ _, SlA.nil _ _ _, ⟨⟨_, by rw [(k12 ml (by omega) (by simp)).2.1]; exact hml, MapA.nil _ _⟩, by simp [engG]⟩, ⟨_, hmo, MapA.nil _ _⟩, ⟨[], .nil, hR.kp k12 (by omega) (by simp) (by simp)⟩, hS.kp k2 (by omega) (by simp) (by simp), ?_⟩
  refine ⟨?_, ?_, by simp, ?_, fun b hb => ?_, ?_, by simp [engG], by simp [engG], ?_, by simp, by simp, by simp, .inl rfl, .inl rfl, .inl rfl, fun b hb => ?_⟩
  · exact if_pos rfl
  · show (if pr = p then 1 else if pr = pr then 2 else _) = 2
    rw [if_neg (by omega), if_pos rfl]
  · show (if ps = p then 1 else if ps = pr then 2 else if ps = ps ∨ ps + 1 = os then 3 else _) = 3
    rw [if_neg (by omega), if_neg (by omega), if_pos (.inl rfl)]
  · have hb : b + 1 = os := hb
    show (if b = p then 1 else if b = pr then 2 else if b = ps ∨ b + 1 = os then 3 else _) = 3
    rw [if_neg (by omega), if_neg (by omega), if_pos (.inr hb)]
  · show (if ml = p then 1 else if ml = pr then 2 else if ml = ps ∨ ml + 1 = os then 3 else if ml = ml then 4 else _) = 4
    rw [if_neg (by omega), if_neg (by omega), if_neg (by omega), if_pos rfl]
  · show (if mo = p then 1 else if mo = pr then 2 else if mo = ps ∨ mo + 1 = os then 3 else if mo = ml then 4 else if mo = mo then 5 else _) = 5
    rw [if_neg (by omega), if_neg (by omega), if_neg (by omega), if_neg (by omega), if_pos rfl]
  · have : b = p ∨ b = pr ∨ b = ps ∨ b + 1 = os ∨ b = ml ∨ b = mo := by
      refine Classical.byContradiction fun hn => hb ?_
      show (if b = p then 1 else if b = pr then 2 else if b = ps ∨ b + 1 = os then 3 else if b = ml then 4 else if b = mo then 5 else 0) = 0
      rw [if_neg (by omega), if_neg (by omega), if_neg (by omega), if_neg (by omega), if_neg (by omega)]
    omega
/-- The serial of one's own. -/
def seqO (es : List Ent) (p : Int × Int) : Int := match wantE es p.1 p.2 with | some x => nextI x.seq | none => 1
def ownStep (es : List Ent) (own : List ((Int × Int) × Int)) (p : Int × Int) : List ((Int × Int) × Int) := if (getA p own).isSome = true ∨ pxRightC p.1 p.2 = false then own else setA p (seqO es p) own
theorem ownStep_len (es : List Ent) (own : List ((Int × Int) × Int)) (p : Int × Int) : (ownStep es own p).length ≤ own.length + 1 := by
  have h : ∀ (v : Int) (l : List ((Int × Int) × Int)), (setA p v l).length ≤ l.length + 1 := fun v l => by
    induction l with
    | nil => simp [setA]
    | cons a l ih =>
      unfold setA
      split
      · simp
      · simp only [List.length_cons]; omega
  unfold ownStep
  split
  · omega
  · exact h _ _
structure NwI (lo nx : Nat) (H0 : AH) (p : Nat) (id : Int) (es : List Ent) (ps : List (Int × Int)) (sv : Value) (y : ELay) (col : Nat → Nat) (m : Nat) (env : Env) (H : AH) (nx' i : Nat) : Prop where
  henv : env = [(7, .pointer (some ⟨p, 0, none⟩)), (23, sv), (24, .int .i64 ps.length), (25, .int .i64 i)]
  hm : m = ps.length - i
  hi : i ≤ ps.length
  hx : nx ≤ nx'
  hk : Kp (fun b => col b ≠ 0) nx H0 H
  a : EngA lo nx' H p (engG id ((ps.take i).foldl (ownStep es) []) es) y col
  len : ((ps.take i).foldl (ownStep es) []).length ≤ i
set_option maxHeartbeats 4000000 in
set_option maxRecDepth 20000 in
theorem enewG_c {lo : Nat} {H : AH} {nx : Nat} (id : Int) {v vr : Value} {own ownr : Nat} {ps : List (Int × Int)} {rs : List RowRec} {l : List Chg} (hs : SlA nx H 2 v ps.length (pxC ps) own) (hpn : ∀ p ∈ ps, 0 ≤ p.2) (hpl : ps.length ≤ 100) (hr : SlA nx H 10 vr rs.length (rrCells rs) ownr) (hsrt : rs.Pairwise ltW) (hok : ∀ r ∈ rs, RowOk l r) (hl : rs.length ≤ 100) :
    ACalls Tryz.prog lo 35 #[.int .i64 id, v, vr] H nx (fun v H' nx' => ∃ p y col es, v = .pointer (some ⟨p, 0, none⟩) ∧ (∀ a n, wantE es a n = (rs.find? (isRow a n)).map rowEnt) ∧ es.length ≤ rs.length ∧ SortE es ∧ EngS lo nx H p (fun _ => 0) (engG id (ps.foldl (ownStep es) []) es) H' nx' y col) := by
  refine ACalls.withLo fun hlo => ?_
  refine acalls_of_awp L35 Tryz.func35 rfl (by kernel_rfl) ?_
  obtain ⟨va, vc, rfl⟩ := hs.form
  obtain ⟨ra, rc, rfl⟩ := hr.form
  simp (disch := omega) only [go_sem, ↓reduceIte ]
  intro ml hml
  simp (disch := omega) only [go_sem, ↓reduceIte ]
  refine rnew_c.mono fun v H1 nx1 _ ⟨pr, hv, hpr, hR, hx1, hk1⟩ => ?_
  subst hv
  simp (disch := omega) only [go_sem, ↓reduceIte ]
  have hrlt := hR.lt
  have hrl1 : SlA nx1 H1 10 (.slice ra rs.length rc) rs.length (rrCells rs) ownr := (hr.kp (nx' := ml + 1) (S := fun _ => False) (by repeat first | exact Kp.refl _ _ _ | refine Kp.dropT ?_ (.inl (by omega)) | refine Kp.put ?_ (.inl (by omega)) | refine Kp.new ?_ (by omega) | refine Kp.put ?_ (.inr (by omega)) | refine Kp.newO ?_ (by omega) | refine Kp.setO ?_ (.inl (by omega)) | refine Kp.setO ?_ (.inr (by omega)) | refine Kp.trans0 ?_ (by assumption) (by omega) | refine Kp.transS ?_ (by assumption) (by omega) (fun b hb hT => by first | omega | (dsimp only at hT ⊢; omega) | (simp only at hT ⊢; omega)))  (by omega) (by simp)).kp hk1 (by omega) (by simp)
  refine (sof_c hrl1 hsrt hok hl).mono fun v H2 nx2 _ ⟨qs, es, os, hv, hqs, hS, hos, hesl, hwant, hx2, hk2⟩ => ?_
  subst hv
  have hSlt := hS.lt
  have hosl := hS.q.choose_spec.2.le
  simp (disch := omega) only [go_sem, ↓reduceIte ]
  intro mo hmo
  simp (disch := omega) only [go_sem, ↓reduceIte ]
  intro p hp
  simp (disch := omega) only [go_sem, ↓reduceIte ]
  have hA0 := eng0G (id := id) (p := p) (es := es) (os := os) (H3 := ((H2.newO mo (Obj.map #[] 0)).new p #[.int .i64 id, .map (some ml), .pointer (some ⟨pr, 0, none⟩), .pointer (some ⟨qs, 0, none⟩), .map (some mo), .slice none 0 0, .int .u64 0, .slice none 0 0, .slice none 0 0, .bool true, .int .i64 0, .int .i64 0, .int .i64 0, .int .i64 0] 95)) hlo hml hpr hrlt hqs hSlt hos hosl hmo hp hR hk2 hS (by repeat first | exact Kp.refl _ _ _ | refine Kp.dropT ?_ (.inl (by omega)) | refine Kp.put ?_ (.inl (by omega)) | refine Kp.new ?_ (by omega) | refine Kp.put ?_ (.inr (by omega)) | refine Kp.newO ?_ (by omega) | refine Kp.setO ?_ (.inl (by omega)) | refine Kp.setO ?_ (.inr (by omega)) | refine Kp.trans0 ?_ (by assumption) (by omega) | refine Kp.transS ?_ (by assumption) (by omega) (fun b hb hT => by first | omega | (dsimp only at hT ⊢; omega) | (simp only at hT ⊢; omega)))  (by rw [(hk1 ml (by omega) (by simp)).2.1]; simp (disch := omega) only [go_sem, ↓reduceIte ]) (by simp (disch := omega) only [go_sem, ↓reduceIte ]) (fun o => by simp (disch := omega) only [go_sem, ↓reduceIte ])
  have k03 : Kp (fun _ => False) nx H ((H2.newO mo (Obj.map #[] 0)).new p #[.int .i64 id, .map (some ml), .pointer (some ⟨pr, 0, none⟩), .pointer (some ⟨qs, 0, none⟩), .map (some mo), .slice none 0 0, .int .u64 0, .slice none 0 0, .slice none 0 0, .bool true, .int .i64 0, .int .i64 0, .int .i64 0, .int .i64 0] 95) := (by repeat first | exact Kp.refl _ _ _ | refine Kp.dropT ?_ (.inl (by omega)) | refine Kp.put ?_ (.inl (by omega)) | refine Kp.new ?_ (by omega) | refine Kp.put ?_ (.inr (by omega)) | refine Kp.newO ?_ (by omega) | refine Kp.setO ?_ (.inl (by omega)) | refine Kp.setO ?_ (.inr (by omega)) | refine Kp.trans0 ?_ (by assumption) (by omega) | refine Kp.transS ?_ (by assumption) (by omega) (fun b hb hT => by first | omega | (dsimp only at hT ⊢; omega) | (simp only at hT ⊢; omega))) 
  generalize ((H2.newO mo (Obj.map #[] 0)).new p _ 95) = H3 at hA0 k03 ⊢
  have hcp0 : ∀ b, (if b = p then 1 else if b = pr then 2 else if b = qs ∨ b + 1 = os then 3 else if b = ml then 4 else if b = mo then 5 else 0) ≠ 0 → nx ≤ b := fun b hb => by
    have : b = p ∨ b = pr ∨ b = qs ∨ b + 1 = os ∨ b = ml ∨ b = mo := by
      refine Classical.byContradiction fun hn => hb ?_
      rw [if_neg (by omega), if_neg (by omega), if_neg (by omega), if_neg (by omega), if_neg (by omega)]
    omega
  generalize hy : (ELay.mk ml _ pr 0 qs os mo _ _ _ 0 0 0) = y at hA0
  generalize hcol : (fun b => if b = p then 1 else if b = pr then 2 else if b = qs ∨ b + 1 = os then 3 else if b = ml then 4 else if b = mo then 5 else 0) = col at hA0
  have hcp1 : ∀ b, col b ≠ 0 → nx ≤ b := fun b hb => hcp0 b (by rw [← hcol] at hb; exact hb)
  clear hcp0
  have hsE : SortE es := hS.sorted
  refine awp_loop (fun m env H' nx' => ∃ i, NwI lo (p + 1) H3 p id es ps (.slice va ps.length vc) y col m env H' nx' i) ps.length ⟨0, ⟨rfl, by omega, by omega, Nat.le_refl _, Kp.refl _ _ _, hA0, by simp⟩⟩ (fun m env H4 nx4 ⟨i, hI⟩ hn => ?_)
  obtain ⟨henv, hm, hi, hx, hk, hA, hln⟩ := hI
  subst henv
  have kk : Kp (fun _ => False) nx H H4 := k03.trans (U := fun _ => False) hk (by omega) (fun _ _ h => h) (fun b hb h => by have := hcp1 b h; omega)
  have hs4 := hs.kp kk (by omega) (by simp)
  have c4 := hA.c.c4
  by_cases hil : i < ps.length
  · obtain ⟨g, off, cap, hv, hgo⟩ := hs.open (by omega)
    simp only [Value.slice.injEq, true_and] at hv
    obtain ⟨rfl, rfl⟩ := hv
    have hx0 : ps[i]? = some ps[i] := List.getElem?_eq_getElem hil
    have hn0 := hpn ps[i] (List.getElem_mem hil)
    have htk : ps.take (i + 1) = ps.take i ++ [ps[i]] := by rw [List.take_succ_eq_append_getElem hil]
    generalize ps[i] = x at hx0 hn0 htk
    obtain ⟨xa, xn⟩ := x
    have hn0 : 0 ≤ xn := hn0
    have hld := px_load hs4 hx0
    unfold pxL at hld
    have hcast : ((i : Int) + 1) = ((i + 1 : Nat) : Int) := by omega
    have hst : (ps.take (i + 1)).foldl (ownStep es) [] = ownStep es ((ps.take i).foldl (ownStep es) []) (xa, xn) := by rw [htk, List.foldl_append]; rfl
    generalize (ps.take i).foldl (ownStep es) [] = ow at hA hln hst
    simp (disch := omega) only [go_sem, ↓reduceIte , hld]
    intro d hd
    simp (disch := omega) only [go_sem, ↓reduceIte , c4]
    refine awp_draw ord35x5 (by kernel_rfl) ?_
    simp (disch := omega) only [go_sem, ↓reduceIte , ord35x5, c4]
    obtain ⟨ob, hob, hM⟩ := hA.om
    have hmo4 := (hA.k.lt hA.k.ko (by omega)).2
    have kd : Kp (fun _ => False) nx4 H4 ((H4.new d #[.int .u32 0, .int .u8 0] 30).put d 0 (.int .u32 xa) |>.put d 1 (.int .u8 xn)) := (by repeat first | exact Kp.refl _ _ _ | refine Kp.dropT ?_ (.inl (by omega)) | refine Kp.put ?_ (.inl (by omega)) | refine Kp.new ?_ (by omega) | refine Kp.put ?_ (.inr (by omega)) | refine Kp.newO ?_ (by omega) | refine Kp.setO ?_ (.inl (by omega)) | refine Kp.setO ?_ (.inr (by omega)) | refine Kp.trans0 ?_ (by assumption) (by omega) | refine Kp.transS ?_ (by assumption) (by omega) (fun b hb hT => by first | omega | (dsimp only at hT ⊢; omega) | (simp only at hT ⊢; omega))) 
    have hAd := hA.kp' (nx' := d + 1) kd (by omega) (by simp)
    have ld : loadN ((H4.new d #[.int .u32 0, .int .u8 0] 30).put d 0 (.int .u32 xa) |>.put d 1 (.int .u8 xn)) d 0 2 = some [.int .u32 xa, .int .u8 xn] := by simp (disch := omega) only [go_sem, ↓reduceIte ]
    have hlk := own_look (m := y.mo) (H := ((H4.new d #[.int .u32 0, .int .u8 0] 30).put d 0 (.int .u32 xa) |>.put d 1 (.int .u8 xn))) (by simp (disch := omega) only [go_sem, ↓reduceIte , hob]) hM xa xn
    have same : ∀ (H7 : AH) (nx7 : Nat), d + 1 ≤ nx7 → Kp (fun _ => False) (d + 1) ((H4.new d #[.int .u32 0, .int .u8 0] 30).put d 0 (.int .u32 xa) |>.put d 1 (.int .u8 xn)) H7 → ownStep es ow (xa, xn) = ow → ∃ m', m' < m ∧ ∃ i', NwI lo (p + 1) H3 p id es ps (.slice (some ⟨g, off, none⟩) ps.length vc) y col m' [(7, .pointer (some ⟨p, 0, none⟩)), (23, .slice (some ⟨g, off, none⟩) ps.length vc), (24, .int .i64 ps.length), (25, .int .i64 ((i + 1 : Nat) : Int))] H7 nx7 i' := fun H7 nx7 hn7 hk7 hsm =>
      ⟨ps.length - (i + 1), by omega, i + 1, ⟨rfl, rfl, by omega, by omega, (hk.trans (U := fun b => col b ≠ 0) kd hx (fun _ _ h => h) (fun _ _ h => h.elim)).trans (U := fun b => col b ≠ 0) hk7 (by omega) (fun _ _ h => h) (fun _ _ h => h.elim), by rw [hst, hsm]; exact hAd.kp' (nx' := nx7) hk7 hn7 (by simp), by rw [hst, hsm]; omega⟩⟩
    cases hg : getA (xa, xn) ow with
    | some q =>
      have hgo : getA (xa, xn) (engG id ow es).own = some q := hg
      rw [hgo] at hlk
      have hsm : ownStep es ow (xa, xn) = ow := by unfold ownStep; rw [if_pos (.inl (by rw [hg]; rfl))]
      simp (disch := omega) only [go_sem, ↓reduceIte , ord35x5, c4, hlk, Option.getD_some, Option.isSome_some, hcast]
      exact same _ _ (Nat.le_refl _) (Kp.refl _ _ _) hsm
    | none =>
      have hgo : getA (xa, xn) (engG id ow es).own = none := hg
      rw [hgo] at hlk
      simp (disch := omega) only [go_sem, ↓reduceIte , ord35x5, c4, hlk, Option.getD_none, Option.isSome_none]
      refine (pxRight_c _ _ hn0 _ _).mono fun v H5 nx5 _ ⟨hv, hx5, hk5⟩ => ?_
      subst hv
      cases hpx : pxRightC xa xn with
      | false =>
        have hsm : ownStep es ow (xa, xn) = ow := by unfold ownStep; rw [if_pos (.inr hpx)]
        simp (disch := omega) only [go_sem, ↓reduceIte , hcast]
        exact same _ _ hx5 hk5 hsm
      | true =>
        have hA5 := hAd.kp' (nx' := nx5) hk5 hx5 (by simp)
        obtain ⟨ob5, hob5, hM5⟩ := hA5.om
        have l5 : loadN H5 d 0 2 = some [.int .u32 xa, .int .u8 xn] := by rw [loadN_two (fun o => hk5.cell0 d o (by omega))]; exact ld
        have hlen := fun ty => lenV_map (P := Tryz.prog) (ty := ty) mapOwn hob5 hM5
        rw [show (engG id ow es).own.length = ow.length from rfl] at hlen
        have c3 := hA5.c.c3
        have c45 := hA5.c.c4
        simp (disch := omega) only [go_sem, ↓reduceIte , c45, l5, hlen]
        refine awp_draw ord35x7 (by kernel_rfl) ?_
        simp (disch := omega) only [go_sem, ↓reduceIte , ord35x7, c3, l5]
        refine (swants_c hA5.so (by show es.length ≤ _; omega) xa xn).mono fun v H6 nx6 _ ⟨hx6, hk6, s6, m6, ok6, hv, hm6⟩ => ?_
        subst hv
        obtain ⟨w1, w2, _⟩ := mark_want (es := es) hsE hm6
        have hA6 := hA5.kp' (nx' := nx6) hk6 hx6 (by simp)
        obtain ⟨ob6, hob6, hM6⟩ := hA6.om
        have c46 := hA6.c.c4
        have l6 : loadN H6 d 0 2 = some [.int .u32 xa, .int .u8 xn] := by rw [loadN_two (fun o => hk6.cell0 d o (by omega))]; exact l5
        have hmolo := (hA6.k.lt hA6.k.ko (by omega)).1
        have hnew : ownStep es ow (xa, xn) = setA (xa, xn) (seqO es (xa, xn)) ow := by unfold ownStep; rw [if_neg (by rw [hg, hpx]; simp)]
        have k36 : Kp (fun b => col b ≠ 0) (p + 1) H3 H6 := ((hk.trans (U := fun b => col b ≠ 0) kd hx (fun _ _ h => h) (fun _ _ h => h.elim)).trans (U := fun b => col b ≠ 0) hk5 (by omega) (fun _ _ h => h) (fun _ _ h => h.elim)).trans (U := fun b => col b ≠ 0) hk6 (by omega) (fun _ _ h => h) (fun _ _ h => h.elim)
        have hln2 := ownStep_len es ow (xa, xn)
        have fin : ∀ sq, seqO es (xa, xn) = sq → ∀ ob1, MapA pxK ev16 ob1 (setA (xa, xn) sq ow) → ∃ m', m' < m ∧ ∃ i', NwI lo (p + 1) H3 p id es ps (.slice (some ⟨g, off, none⟩) ps.length vc) y col m' [(7, .pointer (some ⟨p, 0, none⟩)), (23, .slice (some ⟨g, off, none⟩) ps.length vc), (24, .int .i64 ps.length), (25, .int .i64 ((i + 1 : Nat) : Int))] (H6.setO y.mo ob1) nx6 i' := fun sq hsq ob1 hM1 =>
          ⟨ps.length - (i + 1), by omega, i + 1, ⟨rfl, rfl, by omega, by omega, k36.setO (.inr (by rw [hA6.k.ko]; omega)), by rw [hst, hnew, hsq]; exact hA6.setOwn hM1, by rw [hst]; omega⟩⟩
        cases ok6 with
        | false =>
          have hsq : seqO es (xa, xn) = 1 := by
            unfold seqO
            cases hw : wantE es xa xn with
            | none => rfl
            | some z => rw [hw] at w1; cases w1
          simp (disch := omega) only [go_sem, ↓reduceIte , ord35x7, c3, l5, l6]
          refine ⟨dkeep_kp hk6, ?_⟩
          refine awp_draw ord35x10 (by kernel_rfl) ?_
          simp (disch := omega) only [go_sem, ↓reduceIte , ord35x10, c46, l6]
          refine mapSetQ_A (P := Tryz.prog) (ek := pxK) (ev := ev16) (x := (xa, xn)) (v := 1) keyPx mapOwn hmolo hob6 hM6 trivial (fun _ _ => trivial) fun ob1 hM1 => ?_
          simp (disch := omega) only [go_sem, ↓reduceIte , ord35x10, hcast]
          exact ⟨dkeep_last (by kernel_rfl), fin 1 hsq ob1 hM1⟩
        | true =>
          have hsq : seqO es (xa, xn) = nextI s6 := by
            unfold seqO
            cases hw : wantE es xa xn with
            | none => rw [hw] at w1; cases w1
            | some z =>
              rw [hw] at w2
              have : s6 = z.seq := w2
              rw [this]
          simp (disch := omega) only [go_sem, ↓reduceIte , ord35x7, c3, l5, l6]
          refine ⟨dkeep_kp hk6, ?_⟩
          refine awp_draw ord35x10 (by kernel_rfl) ?_
          simp (disch := omega) only [go_sem, ↓reduceIte , ord35x10, c46, l6]
          refine mapSetQ_A (P := Tryz.prog) (ek := pxK) (ev := ev16) (x := (xa, xn)) (v := nextI s6) keyPx mapOwn hmolo hob6 hM6 trivial (fun _ _ => trivial) fun ob1 hM1 => ?_
          simp (disch := omega) only [go_sem, ↓reduceIte , ord35x10, hcast]
          exact ⟨dkeep_last (by kernel_rfl), fin _ hsq ob1 hM1⟩
  · have ei : i = ps.length := by omega
    subst ei
    rw [List.take_length] at hA
    simp (disch := omega) only [go_sem, ↓reduceIte ]
    exact ⟨p, y, col, es, rfl, hwant, hesl, hsE, ⟨by omega, kk.mono (Nat.le_refl _) (fun _ _ h => h.elim), hA, fun b hb => .inr (hcp1 b hb)⟩⟩
end Go.Proofs.YtngnbafididkcaaGreat
