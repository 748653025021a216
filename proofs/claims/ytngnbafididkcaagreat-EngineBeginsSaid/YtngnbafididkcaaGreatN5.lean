/- Engine, as it lies in memory. Source: New, Of no rows, Wants; serials' Next: in our own logic. Engine: New, of one own prefix and no rows: in our own logic. Link, in our own logic. Engine in memory: steps on its parts. -/
import Derived.Test.YtngnbafididkcaaGreatX1
import Derived.Test.YtngnbafididkcaaGreatU7
import Derived.Test.YtngnbafididkcaaGreatT2
import Derived.Test.YtngnbafididkcaaGreatS5
import Derived.Test.YtngnbafididkcaaGreatL26
import Derived.Test.YtngnbafididkcaaGreatK1
import Derived.Lib.Tables
section
namespace Go.Proofs.YtngnbafididkcaaGreat
open Go.RowKit
set_option linter.unusedSimpArgs false

/-- A link, a part of a packet, as they lie. -/
structure Lnk where
  came : Int
  next : Int
  cost : Int
  til : Int
  quiet : Int
def Lnk.cells (l : Lnk) : List Value := [.int .u16 l.came, .int .u64 l.next, .int .u16 l.cost, .int .u64 l.til, .int .u64 l.quiet]
structure LnA (H : AH) (b : Nat) (l : Lnk) : Prop where
  c0 : H.c b 0 = some (.int .u16 l.came)
  c1 : H.c b 1 = some (.int .u64 l.next)
  c2 : H.c b 2 = some (.int .u16 l.cost)
  c3 : H.c b 3 = some (.int .u64 l.til)
  c4 : H.c b 4 = some (.int .u64 l.quiet)
theorem LnA.kp {S : Nat → Prop} {nx : Nat} {H H' : AH} {b : Nat} {l : Lnk} (h : LnA H b l) (hk : Kp S nx H H') (hb : b < nx) (hs : ¬ S b) : LnA H' b l := by
  have e := (hk b hb hs).1
  exact ⟨by rw [e]; exact h.c0, by rw [e]; exact h.c1, by rw [e]; exact h.c2, by rw [e]; exact h.c3, by rw [e]; exact h.c4⟩
structure Prt where
  kind : Int
  n : Int
  node : Int
  addr : Int
  len : Int
  seq : Int
  metric : Int
def Prt.cells (x : Prt) : List Value := [.int .u8 x.kind, .int .u64 x.n, .int .i64 x.node, .int .u32 x.addr, .int .u8 x.len, .int .u16 x.seq, .int .u16 x.metric]
theorem prt_len (x : Prt) : x.cells.length = 7 := rfl
def ptCells (l : List Prt) : List Value := l.flatMap Prt.cells
theorem ptCells_one {l : List Prt} : ∀ v ∈ ptCells l, v.oneCell' = true := by
  intro v hv
  simp only [ptCells, List.mem_flatMap] at hv
  obtain ⟨c, _, hv⟩ := hv
  simp only [Prt.cells, List.mem_cons, List.not_mem_nil, or_false] at hv
  rcases hv with rfl | rfl | rfl | rfl | rfl | rfl | rfl <;> rfl
/-- An engine. -/
structure Eng where
  id : Int
  lk : List (Int × Lnk)
  ts : List Tld
  es : List Ent
  own : List ((Int × Int) × Int)
  sel : List Rt
  hello : Int
  lost : List (Int × Int)
  asks : List Prt
  due : Bool
  bad : Int
  strange : Int
  full : Int
  noroom : Int
/-- Where its parts lie. -/
structure ELay where
  ml : Nat
  bl : Int → Nat
  pr : Nat
  orr : Nat
  ps : Nat
  os : Nat
  mo : Nat
  v5 : Value
  v7 : Value
  v8 : Value
  o5 : Nat
  o7 : Nat
  o8 : Nat
def ev16 (n : Int) : Value := .int .u16 n
def evP (b : Nat) : Value := .pointer (some ⟨b, 0, none⟩)
structure EngC (H : AH) (p : Nat) (e : Eng) (y : ELay) : Prop where
  c0 : H.c p 0 = some (.int .i64 e.id)
  c1 : H.c p 1 = some (.map (some y.ml))
  c2 : H.c p 2 = some (.pointer (some ⟨y.pr, 0, none⟩))
  c3 : H.c p 3 = some (.pointer (some ⟨y.ps, 0, none⟩))
  c4 : H.c p 4 = some (.map (some y.mo))
  c5 : H.c p 5 = some y.v5
  c6 : H.c p 6 = some (.int .u64 e.hello)
  c7 : H.c p 7 = some y.v7
  c8 : H.c p 8 = some y.v8
  c9 : H.c p 9 = some (.bool e.due)
  c10 : H.c p 10 = some (.int .i64 e.bad)
  c11 : H.c p 11 = some (.int .i64 e.strange)
  c12 : H.c p 12 = some (.int .i64 e.full)
  c13 : H.c p 13 = some (.int .i64 e.noroom)
structure LkA (H : AH) (lk : List (Int × Lnk)) (ml : Nat) (bl : Int → Nat) : Prop where
  lm : ∃ ob, H.o ml = some ob ∧ MapA (ekI .i64) evP ob (lk.map fun a => (a.1, bl a.1))
  ln : ∀ a ∈ lk, LnA H (bl a.1) a.2
/-- Which part each block is of (0: of none). -/
structure ColA (lo nx : Nat) (p : Nat) (lk : List (Int × Lnk)) (y : ELay) (col : Nat → Nat) : Prop where
  kp : col p = 1
  kr : col y.pr = 2
  kr2 : ∀ b, b + 1 = y.orr → col b = 2
  ks : col y.ps = 3
  ks2 : ∀ b, b + 1 = y.os → col b = 3
  kl : col y.ml = 4
  kb : ∀ a ∈ lk, col (y.bl a.1) = 9
  li : ∀ a ∈ lk, ∀ b ∈ lk, y.bl a.1 = y.bl b.1 → a.1 = b.1
  ko : col y.mo = 5
  k5 : ∀ b, b + 1 = y.o5 → col b = 6
  k7 : ∀ b, b + 1 = y.o7 → col b = 7
  k8 : ∀ b, b + 1 = y.o8 → col b = 8
  w5 : y.o5 = 0 ∨ lo < y.o5
  w7 : y.o7 = 0 ∨ lo < y.o7
  w8 : y.o8 = 0 ∨ lo < y.o8
  rng : ∀ b, col b ≠ 0 → lo ≤ b ∧ b < nx
structure EngA (lo nx : Nat) (H : AH) (p : Nat) (e : Eng) (y : ELay) (col : Nat → Nat) : Prop where
  c : EngC H p e y
  s5 : SlA nx H 5 y.v5 e.sel.length (rtCells e.sel) y.o5
  s7 : SlA nx H 2 y.v7 e.lost.length (pxC e.lost) y.o7
  s8 : SlA nx H 7 y.v8 e.asks.length (ptCells e.asks) y.o8
  lk : LkA H e.lk y.ml y.bl
  om : ∃ ob, H.o y.mo = some ob ∧ MapA pxK ev16 ob e.own
  rt : ∃ ts, ts.Perm e.ts ∧ RouA lo nx H y.pr ts y.orr
  so : SouA lo nx H y.ps e.es y.os
  k : ColA lo nx p e.lk y col
section
variable {lo nx nx' : Nat} {H H' : AH} {p : Nat} {e : Eng} {y : ELay} {col : Nat → Nat}
theorem EngC.same {e' : Eng} {y' : ELay} (h : EngC H p e y) (e0 : ∀ o, H'.c p o = H.c p o) (h1 : e'.id = e.id := by rfl) (h2 : y'.ml = y.ml := by rfl) (h3 : y'.pr = y.pr := by rfl) (h4 : y'.ps = y.ps := by rfl) (h5 : y'.mo = y.mo := by rfl) (h6 : y'.v5 = y.v5 := by rfl) (h7 : e'.hello = e.hello := by rfl) (h8 : y'.v7 = y.v7 := by rfl) (h9 : y'.v8 = y.v8 := by rfl) (h10 : e'.due = e.due := by rfl) (h11 : e'.bad = e.bad := by rfl) (h12 : e'.strange = e.strange := by rfl) (h13 : e'.full = e.full := by rfl) (h14 : e'.noroom = e.noroom := by rfl) : EngC H' p e' y' :=
  ⟨by rw [e0, h1]; exact h.c0, by rw [e0, h2]; exact h.c1, by rw [e0, h3]; exact h.c2, by rw [e0, h4]; exact h.c3, by rw [e0, h5]; exact h.c4, by rw [e0, h6]; exact h.c5, by rw [e0, h7]; exact h.c6, by rw [e0, h8]; exact h.c7, by rw [e0, h9]; exact h.c8, by rw [e0, h10]; exact h.c9, by rw [e0, h11]; exact h.c10, by rw [e0, h12]; exact h.c11, by rw [e0, h13]; exact h.c12, by rw [e0, h14]; exact h.c13⟩
theorem ColA.lt (h : ColA lo nx p e.lk y col) {b : Nat} {c : Nat} (hb : col b = c) (hc : c ≠ 0) : lo ≤ b ∧ b < nx := h.rng b (by rw [hb]; exact hc)
theorem ColA.le (h : ColA lo nx p e.lk y col) (hn : nx ≤ nx') : ColA lo nx' p e.lk y col := { h with rng := fun b hb => by have := h.rng b hb; omega }
/-- What changes elsewhere leaves the parts as they lie. -/
theorem EngA.cell_kp (h : EngA lo nx H p e y col) (T : Nat → Prop) (hk : Kp (fun b => T (col b)) nx H H') (hT : ¬ T 1) : ∀ o, H'.c p o = H.c p o :=
  (hk p (h.k.lt h.k.kp (by omega)).2 (by show ¬ T (col _); rw [h.k.kp]; exact hT)).1
theorem EngA.s5_kp (h : EngA lo nx H p e y col) (T : Nat → Prop) (hk : Kp (fun b => T (col b)) nx H H') (hn : nx ≤ nx') (hT : ¬ T 6) : SlA nx' H' 5 y.v5 e.sel.length (rtCells e.sel) y.o5 := h.s5.kp hk hn fun b hb => by show ¬ T (col _); rw [h.k.k5 b hb]; exact hT
theorem EngA.s7_kp (h : EngA lo nx H p e y col) (T : Nat → Prop) (hk : Kp (fun b => T (col b)) nx H H') (hn : nx ≤ nx') (hT : ¬ T 7) : SlA nx' H' 2 y.v7 e.lost.length (pxC e.lost) y.o7 := h.s7.kp hk hn fun b hb => by show ¬ T (col _); rw [h.k.k7 b hb]; exact hT
theorem EngA.s8_kp (h : EngA lo nx H p e y col) (T : Nat → Prop) (hk : Kp (fun b => T (col b)) nx H H') (hn : nx ≤ nx') (hT : ¬ T 8) : SlA nx' H' 7 y.v8 e.asks.length (ptCells e.asks) y.o8 := h.s8.kp hk hn fun b hb => by show ¬ T (col _); rw [h.k.k8 b hb]; exact hT
theorem EngA.lk_kp (h : EngA lo nx H p e y col) (T : Nat → Prop) (hk : Kp (fun b => T (col b)) nx H H') (hT : ¬ T 4) (hT9 : ¬ T 9) : LkA H' e.lk y.ml y.bl := by
  have hml := hk y.ml (h.k.lt h.k.kl (by omega)).2 (by show ¬ T (col _); rw [h.k.kl]; exact hT)
  refine ⟨by rw [hml.2.1]; exact h.lk.lm, fun a ha => ?_⟩
  have hb := h.k.kb a ha
  exact (h.lk.ln a ha).kp hk (h.k.lt hb (by omega)).2 (by show ¬ T (col _); rw [hb]; exact hT9)
theorem EngA.om_kp (h : EngA lo nx H p e y col) (T : Nat → Prop) (hk : Kp (fun b => T (col b)) nx H H') (hT : ¬ T 5) : ∃ ob, H'.o y.mo = some ob ∧ MapA pxK ev16 ob e.own := by
  have hmo := hk y.mo (h.k.lt h.k.ko (by omega)).2 (by show ¬ T (col _); rw [h.k.ko]; exact hT)
  rw [hmo.2.1]; exact h.om
theorem EngA.rt_kp (h : EngA lo nx H p e y col) (T : Nat → Prop) (hk : Kp (fun b => T (col b)) nx H H') (hn : nx ≤ nx') (hT : ¬ T 2) : ∃ ts, ts.Perm e.ts ∧ RouA lo nx' H' y.pr ts y.orr := by
  obtain ⟨ts, hp, hr⟩ := h.rt
  exact ⟨ts, hp, hr.kp hk hn (by show ¬ T (col _); rw [h.k.kr]; exact hT) (fun b hb => by show ¬ T (col _); rw [h.k.kr2 b hb]; exact hT)⟩
theorem EngA.so_kp (h : EngA lo nx H p e y col) (T : Nat → Prop) (hk : Kp (fun b => T (col b)) nx H H') (hn : nx ≤ nx') (hT : ¬ T 3) : SouA lo nx' H' y.ps e.es y.os :=
  h.so.kp hk hn (by show ¬ T (col _); rw [h.k.ks]; exact hT) (fun b hb => by show ¬ T (col _); rw [h.k.ks2 b hb]; exact hT)
theorem EngA.kp' (h : EngA lo nx H p e y col) {S : Nat → Prop} (hk : Kp S nx H H') (hn : nx ≤ nx') (hs : ∀ b, col b ≠ 0 → ¬ S b) : EngA lo nx' H' p e y col := by
  have hk' : Kp (fun b => (fun c => c = 0) (col b)) nx H H' := hk.mono (Nat.le_refl _) (fun b _ h => by
    by_cases h0 : col b = 0
    · exact h0
    · exact absurd h (hs b h0))
  exact ⟨h.c.same (h.cell_kp (fun c => c = 0) hk' (by decide)), h.s5_kp (fun c => c = 0) hk' hn (by decide), h.s7_kp (fun c => c = 0) hk' hn (by decide), h.s8_kp (fun c => c = 0) hk' hn (by decide), h.lk_kp (fun c => c = 0) hk' (by decide) (by decide), h.om_kp (fun c => c = 0) hk' (by decide), h.rt_kp (fun c => c = 0) hk' hn (by decide), h.so_kp (fun c => c = 0) hk' hn (by decide), h.k.le hn⟩
end
/-- A block that becomes a part's. -/
def recol (col : Nat → Nat) (own c : Nat) : Nat → Nat := fun b => if b + 1 = own then c else col b
theorem recol_ne {col : Nat → Nat} {own c b : Nat} (h : b + 1 ≠ own) : recol col own c b = col b := if_neg h
/-- What of it holds whatever happens to it. -/
structure EngOk (e : Eng) (k : Nat) : Prop where
  uq : UqT e.ts
  ok : ∀ t ∈ e.ts, TdOk t ∧ 0 ≤ t.metric ∧ t.metric ≤ 65535
  tk : e.ts.length ≤ k
  ek : e.es.length ≤ k
  sk : e.sel.length ≤ k
  ak : e.asks.length ≤ 16
  lk : e.lost.length ≤ k * k
  ow : e.own.length ≤ k
/-- What a step leaves. -/
structure EngS (lo nx : Nat) (H : AH) (p : Nat) (col : Nat → Nat) (e' : Eng) (H' : AH) (nx' : Nat) (y' : ELay) (col' : Nat → Nat) : Prop where
  le : nx ≤ nx'
  kp : Kp (fun b => col b ≠ 0) nx H H'
  a : EngA lo nx' H' p e' y' col'
  fp : ∀ b, col' b ≠ 0 → col b ≠ 0 ∨ nx ≤ b
theorem EngS.refl {lo nx : Nat} {H : AH} {p : Nat} {e : Eng} {y : ELay} {col : Nat → Nat} (h : EngA lo nx H p e y col) : EngS lo nx H p col e H nx y col := ⟨Nat.le_refl _, Kp.refl _ _ _, h, fun _ h => .inl h⟩
theorem EngS.trans {lo nx nx1 nx2 : Nat} {H H1 H2 : AH} {p : Nat} {e1 e2 : Eng} {y1 y2 : ELay} {col c1 c2 : Nat → Nat} (s : EngS lo nx H p col e1 H1 nx1 y1 c1) (t : EngS lo nx1 H1 p c1 e2 H2 nx2 y2 c2) : EngS lo nx H p col e2 H2 nx2 y2 c2 :=
  ⟨Nat.le_trans s.le t.le, s.kp.trans (U := fun b => col b ≠ 0) t.kp s.le (fun _ _ h => h) (fun b hb h => by
    rcases s.fp b h with h | h
    · exact h
    · omega), t.a, fun b hb => by
    rcases t.fp b hb with h | h
    · exact s.fp b h
    · exact .inr (by have := s.le; omega)⟩
theorem EngS.still {lo nx nx1 nx2 : Nat} {H H1 H2 : AH} {p : Nat} {e1 : Eng} {y1 : ELay} {col c1 : Nat → Nat} (s : EngS lo nx H p col e1 H1 nx1 y1 c1) (hk : Kp (fun _ => False) nx1 H1 H2) (hn : nx1 ≤ nx2) : EngS lo nx H p col e1 H2 nx2 y1 c1 :=
  ⟨Nat.le_trans s.le hn, s.kp.trans (U := fun b => col b ≠ 0) hk s.le (fun _ _ h => h) (fun _ _ h => h.elim), s.a.kp' hk hn (by simp), s.fp⟩
end Go.Proofs.YtngnbafididkcaaGreat
end
section
namespace Go.Proofs.YtngnbafididkcaaGreat
open Go.RowKit
set_option linter.unusedSimpArgs false

theorem snewS_c {lo : Nat} {H : AH} {nx : Nat} : ACalls Tryz.prog lo 108 #[] H nx (fun v H' nx' => ∃ p, v = .pointer (some ⟨p, 0, none⟩) ∧ nx ≤ p ∧ nx' = p + 1 ∧ SouA lo nx' H' p [] 0 ∧ Kp (fun _ => False) nx H H') := by
  refine ACalls.withLo fun hlo => ?_
  refine acalls_of_awp L108 Tryz.func108 rfl (by kernel_rfl) ?_
  simp (disch := omega) only [go_sem, ↓reduceIte ]
  intro p hp
  simp (disch := omega) only [go_sem, ↓reduceIte ]
  exact ⟨p, rfl, hp, rfl, ⟨by omega, by omega, ⟨_, by simp (disch := omega) only [go_sem, ↓reduceIte ], SlA.nil _ _ _⟩, .inl rfl, by omega, List.Pairwise.nil⟩, (by repeat first | exact Kp.refl _ _ _ | refine Kp.dropT ?_ (.inl (by omega)) | refine Kp.put ?_ (.inl (by omega)) | refine Kp.new ?_ (by omega) | refine Kp.put ?_ (.inr (by omega)) | refine Kp.newO ?_ (by omega) | refine Kp.setO ?_ (.inl (by omega)) | refine Kp.setO ?_ (.inr (by omega)) | refine Kp.trans0 ?_ (by assumption) (by omega) | refine Kp.transS ?_ (by assumption) (by omega) (fun b hb hT => by first | omega | (dsimp only at hT ⊢; omega) | (simp only at hT ⊢; omega))) ⟩
theorem sofNil_c {lo : Nat} {H : AH} {nx : Nat} : ACalls Tryz.prog lo 72 #[.slice none 0 0] H nx (fun v H' nx' => ∃ p, v = .pointer (some ⟨p, 0, none⟩) ∧ nx ≤ p ∧ nx' = p + 1 ∧ SouA lo nx' H' p [] 0 ∧ Kp (fun _ => False) nx H H') := by
  refine ACalls.withLo fun hlo => ?_
  refine acalls_of_awp L72 Tryz.func72 rfl (by kernel_rfl) ?_
  simp (disch := omega) only [go_sem, ↓reduceIte ]
  refine snewS_c.mono fun v H1 nx1 _ ⟨p, hv, hp, hn, hS, hk⟩ => ?_
  subst hv; subst hn
  simp (disch := omega) only [go_sem, ↓reduceIte ]
  refine awp_loop (fun m env H nx => m = 0 ∧ H = H1 ∧ nx = p + 1 ∧ env = [(3, .pointer (some ⟨p, 0, none⟩)), (7, .slice none 0 0), (8, .int .i64 0), (9, .int .i64 0)]) 0 ⟨rfl, rfl, rfl, rfl⟩ (fun m env H nx ⟨h1, h2, h3, h4⟩ hn => ?_)
  subst h1; subst h2; subst h3; subst h4
  simp (disch := omega) only [go_sem, ↓reduceIte ]
  exact ⟨p, rfl, hp, rfl, hS, hk⟩
def nextI (s : Int) : Int := IntKind.u16.wrap (s + 1)
theorem snext_c {lo : Nat} {H : AH} {nx : Nat} (s : Int) : ACalls Tryz.prog lo 78 #[.int .u16 s, .int .i64 1] H nx (fun v H' nx' => v = .int .u16 (nextI s) ∧ nx' = nx ∧ H' = H) := by
  refine acalls_of_awp L78 Tryz.func78 rfl (by kernel_rfl) ?_
  simp (disch := omega) only [go_sem, ↓reduceIte ]
  rfl
theorem swants_c {lo : Nat} {q : Nat} {es : List Ent} {own : Nat} {H : AH} {nx : Nat} (hq : SouA lo nx H q es own) (hl : es.length ≤ 1000000) (a n : Int) : ACalls Tryz.prog lo 56 #[.pointer (some ⟨q, 0, none⟩), .agg #[.int .u32 a, .int .u8 n]] H nx (fun v H' nx' => nx ≤ nx' ∧ Kp (fun _ => False) nx H H' ∧ ∃ s m ok, v = .tuple #[.int .u16 (if ok = true then nextI s else 0), .bool ok] ∧ markR es a n s m ok) := by
  refine ACalls.withLo fun hlo => ?_
  refine acalls_of_awp L56 Tryz.func56 rfl (by kernel_rfl) ?_
  simp (disch := omega) only [go_sem, ↓reduceIte ]
  intro b hb
  simp (disch := omega) only [go_sem, ↓reduceIte ]
  refine (smark_c (hq.kp (S := fun _ => False) (nx' := b + 1) (by repeat first | exact Kp.refl _ _ _ | refine Kp.dropT ?_ (.inl (by omega)) | refine Kp.put ?_ (.inl (by omega)) | refine Kp.new ?_ (by omega) | refine Kp.put ?_ (.inr (by omega)) | refine Kp.newO ?_ (by omega) | refine Kp.setO ?_ (.inl (by omega)) | refine Kp.setO ?_ (.inr (by omega)) | refine Kp.trans0 ?_ (by assumption) (by omega) | refine Kp.transS ?_ (by assumption) (by omega) (fun b hb hT => by first | omega | (dsimp only at hT ⊢; omega) | (simp only at hT ⊢; omega)))  (by omega) (by simp) (by simp)) hl a n).mono fun v H1 nx1 _ ⟨hx1, hk1, s, m, ok, hv, hm⟩ => ?_
  subst hv
  simp (disch := omega) only [go_sem, ↓reduceIte ]
  intro c hc
  simp (disch := omega) only [go_sem, ↓reduceIte ]
  cases ok with
  | false =>
    simp (disch := omega) only [go_sem, ↓reduceIte ]
    exact ⟨by omega, (by repeat first | exact Kp.refl _ _ _ | refine Kp.dropT ?_ (.inl (by omega)) | refine Kp.put ?_ (.inl (by omega)) | refine Kp.new ?_ (by omega) | refine Kp.put ?_ (.inr (by omega)) | refine Kp.newO ?_ (by omega) | refine Kp.setO ?_ (.inl (by omega)) | refine Kp.setO ?_ (.inr (by omega)) | refine Kp.trans0 ?_ (by assumption) (by omega) | refine Kp.transS ?_ (by assumption) (by omega) (fun b hb hT => by first | omega | (dsimp only at hT ⊢; omega) | (simp only at hT ⊢; omega))) , s, m, false, rfl, hm⟩
  | true =>
    simp (disch := omega) only [go_sem, ↓reduceIte ]
    refine (snext_c s).mono fun v H2 nx2 _ ⟨hv, hn, hH⟩ => ?_
    subst hv; subst hn; subst hH
    simp (disch := omega) only [go_sem, ↓reduceIte ]
    exact ⟨by omega, (by repeat first | exact Kp.refl _ _ _ | refine Kp.dropT ?_ (.inl (by omega)) | refine Kp.put ?_ (.inl (by omega)) | refine Kp.new ?_ (by omega) | refine Kp.put ?_ (.inr (by omega)) | refine Kp.newO ?_ (by omega) | refine Kp.setO ?_ (.inl (by omega)) | refine Kp.setO ?_ (.inr (by omega)) | refine Kp.trans0 ?_ (by assumption) (by omega) | refine Kp.transS ?_ (by assumption) (by omega) (fun b hb hT => by first | omega | (dsimp only at hT ⊢; omega) | (simp only at hT ⊢; omega))) , s, m, true, rfl, hm⟩
end Go.Proofs.YtngnbafididkcaaGreat
end
section
namespace Go.Proofs.YtngnbafididkcaaGreat
open Go.RowKit
set_option linter.unusedSimpArgs false

theorem EngA.setOwn {lo nx : Nat} {H : AH} {p : Nat} {e : Eng} {y : ELay} {col : Nat → Nat} (h : EngA lo nx H p e y col) {ob' : Obj} {l : List ((Int × Int) × Int)} (hM : MapA pxK ev16 ob' l) : EngA lo nx (H.setO y.mo ob') p { e with own := l } y col := by
  have hk : Kp (fun b => (fun c => c = 5) (col b)) nx H (H.setO y.mo ob') := Kp.setO (Kp.refl _ _ _) (.inr h.k.ko)
  exact ⟨h.c.same (h.cell_kp (fun c => c = 5) hk (by decide)), h.s5_kp (fun c => c = 5) hk (Nat.le_refl _) (by decide), h.s7_kp (fun c => c = 5) hk (Nat.le_refl _) (by decide), h.s8_kp (fun c => c = 5) hk (Nat.le_refl _) (by decide), h.lk_kp (fun c => c = 5) hk (by decide) (by decide), ⟨ob', setO_same _ _ _, hM⟩, h.rt_kp (fun c => c = 5) hk (Nat.le_refl _) (by decide), h.so_kp (fun c => c = 5) hk (Nat.le_refl _) (by decide), h.k⟩

theorem lenV_map {α β : Type} [DecidableEq α] {ek : α → Value} {ev : β → Value} {P : Program} {H : AH} {t k e ty m : Nat} {ob : Obj} {l : List (α × β)} (ht : mapT P t = some (k, e)) (hm : H.o m = some ob) (hM : MapA ek ev ob l) : lenV P H #[t] ty #[.map (some m)] = some (.int .i64 l.length) := by
  obtain ⟨es, clk, rfl, hk, hv⟩ := hM.entries
  have hsz : es.size = l.length := by
    have := congrArg List.length hk
    simpa using this
  unfold mapT at ht
  cases hu : P.underlying t with
  | none => rw [hu] at ht; cases ht
  | some d =>
    rw [hu] at ht
    cases d <;> simp only [reduceCtorEq] at ht
    unfold lenV valOf Builtin.len_
    simp only [List.getElem?_toArray, List.getElem?_cons_zero]
    rw [peek_then, peek_underlying, hu]
    simp only [Option.bind_some, peek_then, getObj, peek, hm]
    rw [← hsz]
    rfl
theorem zero16 : zeroT Tryz.prog 22 = some (.int .u16 0) := by kernel_rfl
theorem own_look {H : AH} {m : Nat} {ob : Obj} {l : List ((Int × Int) × Int)} (ho : H.o m = some ob) (hM : MapA pxK ev16 ob l) (a n : Int) : lookupV Tryz.prog H 91 (.map (some m)) (.agg #[.int .u32 a, .int .u8 n]) true = some (.tuple #[.int .u16 ((getA (a, n) l).getD 0), .bool (getA (a, n) l).isSome]) := by
  have := lookupV_mapA2 (P := Tryz.prog) (H := H) (x := (a, n)) keyPx mapOwn zero16 ho hM trivial (fun _ _ => trivial)
  have e : ((getA (a, n) l).map ev16).getD (.int .u16 0) = .int .u16 ((getA (a, n) l).getD 0) := by
    cases getA (a, n) l <;> rfl
  rw [e] at this
  exact this
def engNew (id : Int) (own : List ((Int × Int) × Int)) : Eng := ⟨id, [], [], [], own, [], 0, [], [], true, 0, 0, 0, 0⟩
structure NewI (lo nx : Nat) (H0 : AH) (p : Nat) (id : Int) (sv : Value) (y : ELay) (col : Nat → Nat) (m : Nat) (env : Env) (H : AH) (nx' i : Nat) (l : List ((Int × Int) × Int)) : Prop where
  henv : env = [(7, .pointer (some ⟨p, 0, none⟩)), (23, sv), (24, .int .i64 (1 : Nat)), (25, .int .i64 i)]
  hm : m = 1 - i
  hi : i ≤ 1
  hx : nx ≤ nx'
  hk : Kp (fun b => col b ≠ 0) nx H0 H
  a : EngA lo nx' H p (engNew id l) y col
theorem eng0 {lo nx ml pr ps mo p n1 : Nat} {H1 H2 H3 : AH} {id : Int} (hlo : lo ≤ nx) (h1 : nx ≤ ml) (h2 : ml < pr) (h3 : pr < n1) (h6 : n1 ≤ ps) (h4 : ps < mo) (h5 : mo < p) (hR : RouA lo n1 H1 pr [] 0) (k1 : Kp (fun _ => False) n1 H1 H2) (hS : SouA lo (ps + 1) H2 ps [] 0) (k2 : Kp (fun _ => False) (ps + 1) H2 H3)
    (hml : H1.o ml = some (.map #[] 0)) (hmo : H3.o mo = some (.map #[] 0)) (hp : ∀ o, H3.c p o = (#[.int .i64 id, .map (some ml), .pointer (some ⟨pr, 0, none⟩), .pointer (some ⟨ps, 0, none⟩), .map (some mo), .slice none 0 0, .int .u64 0, .slice none 0 0, .slice none 0 0, .bool true, .int .i64 0, .int .i64 0, .int .i64 0, .int .i64 0] : Array Value)[o]?) :
    EngA lo (p + 1) H3 p (engNew id []) ⟨ml, fun _ => 0, pr, 0, ps, 0, mo, .slice none 0 0, .slice none 0 0, .slice none 0 0, 0, 0, 0⟩ (fun b => if b = p then 1 else if b = pr then 2 else if b = ps then 3 else if b = ml then 4 else if b = mo then 5 else 0) := by
  have k12 : Kp (fun _ => False) n1 H1 H3 := k1.trans (U := fun _ => False) k2 (by omega) (fun _ _ h => h) (fun _ _ h => h)
  refine ⟨⟨by rw [hp]; rfl, by rw [hp]; rfl, by rw [hp]; rfl, by rw [hp]; rfl, by rw [hp]; rfl, by rw [hp]; rfl, by rw [hp]; rfl, by rw [hp]; rfl, by rw [hp]; rfl, by rw [hp]; rfl, by rw [hp]; rfl, by rw [hp]; rfl, by rw [hp]; rfl, by rw [hp]; rfl⟩, SlA.nil _ _ _, SlA.nil _ _ _, SlA.nil _ _ _, ⟨⟨_, by rw [(k12 ml (by omega) (by simp)).2.1]; exact hml, MapA.nil _ _⟩, by simp [engNew]⟩, ⟨_, hmo, MapA.nil _ _⟩, ⟨[], .nil, hR.kp k12 (by omega) (by simp) (by simp)⟩, hS.kp k2 (by omega) (by simp) (by simp), ?_⟩
  refine ⟨?_, ?_, by simp, ?_, by simp, ?_, by simp [engNew], by simp [engNew], ?_, by simp, by simp, by simp, .inl rfl, .inl rfl, .inl rfl, fun b hb => ?_⟩
  · exact if_pos rfl
  · show (if pr = p then 1 else if pr = pr then 2 else _) = 2
    rw [if_neg (by omega), if_pos rfl]
  · show (if ps = p then 1 else if ps = pr then 2 else if ps = ps then 3 else _) = 3
    rw [if_neg (by omega), if_neg (by omega), if_pos rfl]
  · show (if ml = p then 1 else if ml = pr then 2 else if ml = ps then 3 else if ml = ml then 4 else _) = 4
    rw [if_neg (by omega), if_neg (by omega), if_neg (by omega), if_pos rfl]
  · show (if mo = p then 1 else if mo = pr then 2 else if mo = ps then 3 else if mo = ml then 4 else if mo = mo then 5 else _) = 5
    rw [if_neg (by omega), if_neg (by omega), if_neg (by omega), if_neg (by omega), if_pos rfl]
  · have : b = p ∨ b = pr ∨ b = ps ∨ b = ml ∨ b = mo := by
      refine Classical.byContradiction fun hn => hb ?_
      show (if b = p then 1 else if b = pr then 2 else if b = ps then 3 else if b = ml then 4 else if b = mo then 5 else 0) = 0
      rw [if_neg (by omega), if_neg (by omega), if_neg (by omega), if_neg (by omega), if_neg (by omega)]
    omega

set_option maxHeartbeats 4000000 in
set_option maxRecDepth 20000 in
theorem enew_c {lo : Nat} {H : AH} {nx : Nat} (id : Int) {v : Value} {own : Nat} {a n : Int} (hs : SlA nx H 2 v 1 (pxC [(a, n)]) own) (hpx : pxRightC a n = true) (n0 : 0 ≤ n) :
    ACalls Tryz.prog lo 35 #[.int .i64 id, v, .slice none 0 0] H nx (fun v H' nx' => ∃ p y col, v = .pointer (some ⟨p, 0, none⟩) ∧ EngS lo nx H p (fun _ => 0) (engNew id [((a, n), 1)]) H' nx' y col) := by
  refine ACalls.withLo fun hlo => ?_
  refine acalls_of_awp L35 Tryz.func35 rfl (by kernel_rfl) ?_
  obtain ⟨va, vc, rfl⟩ := hs.form
  obtain ⟨g, off, cap, hv, hgo⟩ := hs.open (by omega)
  simp only [Value.slice.injEq, true_and] at hv
  obtain ⟨rfl, rfl⟩ := hv
  simp (disch := omega) only [go_sem, ↓reduceIte ]
  intro ml hml
  simp (disch := omega) only [go_sem, ↓reduceIte ]
  refine rnew_c.mono fun v H1 nx1 _ ⟨pr, hv, hpr, hR, hx1, hk1⟩ => ?_
  subst hv
  simp (disch := omega) only [go_sem, ↓reduceIte ]
  refine sofNil_c.mono fun v H2 nx2 _ ⟨ps, hv, hps, hx2, hS, hk2⟩ => ?_
  subst hv; subst hx2
  simp (disch := omega) only [go_sem, ↓reduceIte ]
  intro mo hmo
  simp (disch := omega) only [go_sem, ↓reduceIte ]
  intro p hp
  simp (disch := omega) only [go_sem, ↓reduceIte ]
  have hA0 := eng0 (id := id) (p := p) (H3 := ((H2.newO mo (Obj.map #[] 0)).new p #[.int .i64 id, .map (some ml), .pointer (some ⟨pr, 0, none⟩), .pointer (some ⟨ps, 0, none⟩), .map (some mo), .slice none 0 0, .int .u64 0, .slice none 0 0, .slice none 0 0, .bool true, .int .i64 0, .int .i64 0, .int .i64 0, .int .i64 0] 95)) hlo hml hpr hR.lt hps hmo hp hR hk2 hS (by repeat first | exact Kp.refl _ _ _ | refine Kp.dropT ?_ (.inl (by omega)) | refine Kp.put ?_ (.inl (by omega)) | refine Kp.new ?_ (by omega) | refine Kp.put ?_ (.inr (by omega)) | refine Kp.newO ?_ (by omega) | refine Kp.setO ?_ (.inl (by omega)) | refine Kp.setO ?_ (.inr (by omega)) | refine Kp.trans0 ?_ (by assumption) (by omega) | refine Kp.transS ?_ (by assumption) (by omega) (fun b hb hT => by first | omega | (dsimp only at hT ⊢; omega) | (simp only at hT ⊢; omega)))  (by rw [(hk1 ml (by omega) (by simp)).2.1]; simp (disch := omega) only [go_sem, ↓reduceIte ]) (by simp (disch := omega) only [go_sem, ↓reduceIte ]) (fun o => by simp (disch := omega) only [go_sem, ↓reduceIte ])
  have k03 : Kp (fun _ => False) nx H ((H2.newO mo (Obj.map #[] 0)).new p #[.int .i64 id, .map (some ml), .pointer (some ⟨pr, 0, none⟩), .pointer (some ⟨ps, 0, none⟩), .map (some mo), .slice none 0 0, .int .u64 0, .slice none 0 0, .slice none 0 0, .bool true, .int .i64 0, .int .i64 0, .int .i64 0, .int .i64 0] 95) := (by repeat first | exact Kp.refl _ _ _ | refine Kp.dropT ?_ (.inl (by omega)) | refine Kp.put ?_ (.inl (by omega)) | refine Kp.new ?_ (by omega) | refine Kp.put ?_ (.inr (by omega)) | refine Kp.newO ?_ (by omega) | refine Kp.setO ?_ (.inl (by omega)) | refine Kp.setO ?_ (.inr (by omega)) | refine Kp.trans0 ?_ (by assumption) (by omega) | refine Kp.transS ?_ (by assumption) (by omega) (fun b hb hT => by first | omega | (dsimp only at hT ⊢; omega) | (simp only at hT ⊢; omega))) 
  generalize ((H2.newO mo (Obj.map #[] 0)).new p _ 95) = H3 at hA0 k03 ⊢
  have hcp0 : ∀ b, (if b = p then 1 else if b = pr then 2 else if b = ps then 3 else if b = ml then 4 else if b = mo then 5 else 0) ≠ 0 → nx ≤ b := fun b hb => by
    have : b = p ∨ b = pr ∨ b = ps ∨ b = ml ∨ b = mo := by
      refine Classical.byContradiction fun hn => hb ?_
      rw [if_neg (by omega), if_neg (by omega), if_neg (by omega), if_neg (by omega), if_neg (by omega)]
    omega
  generalize hy : (ELay.mk ml _ pr 0 ps 0 mo _ _ _ 0 0 0) = y at hA0
  generalize hcol : (fun b => if b = p then 1 else if b = pr then 2 else if b = ps then 3 else if b = ml then 4 else if b = mo then 5 else 0) = col at hA0
  have hcp1 : ∀ b, col b ≠ 0 → nx ≤ b := fun b hb => hcp0 b (by rw [← hcol] at hb; exact hb)
  clear hcp0
  refine awp_loop (fun m env H' nx' => ∃ i l, NewI lo (p + 1) H3 p id (.slice (some ⟨g, off, none⟩) 1 vc) y col m env H' nx' i l ∧ (i = 0 → l = []) ∧ (i = 1 → l = [((a, n), 1)])) 1 ⟨0, [], ⟨rfl, rfl, by omega, Nat.le_refl _, Kp.refl _ _ _, hA0⟩, fun _ => rfl, fun h => by omega⟩ (fun m env H4 nx4 ⟨i, l, hI, hl0, hl1⟩ hn => ?_)
  obtain ⟨henv, hm, hi, hx, hk, hA⟩ := hI
  subst henv
  have hcp := hcp1
  have kk : Kp (fun _ => False) nx H H4 := k03.trans (U := fun _ => False) hk (by omega) (fun _ _ h => h) (fun b hb h => by have := hcp b h; omega)
  have hs4 := hs.kp kk (by omega) (by simp)
  have c4 := hA.c.c4
  by_cases h0 : i = 0
  · subst h0
    have hl := hl0 rfl
    subst hl
    have hld : loadN H4 g off 2 = some [.int .u32 a, .int .u8 n] := by
      have := flat_load (f := pxL) (k := 2) (fun _ => rfl) (l := [(a, n)]) hs4 (i := 0) rfl
      simpa [pxL] using this
    simp (disch := omega) only [go_sem, ↓reduceIte , hld]
    intro d hd
    simp (disch := omega) only [go_sem, ↓reduceIte , c4]
    refine awp_draw ord35x5 (by kernel_rfl) ?_
    simp (disch := omega) only [go_sem, ↓reduceIte , ord35x5, c4]
    obtain ⟨ob, hob, hM⟩ := hA.om
    have hmo4 := (hA.k.lt hA.k.ko (by omega)).2
    have hlk := own_look (m := y.mo) (H := ((H4.new d #[.int .u32 0, .int .u8 0] 30).put d 0 (.int .u32 a)).put d 1 (.int .u8 n)) (by simp (disch := omega) only [go_sem, ↓reduceIte , hob]) hM a n
    rw [show getA (a, n) (engNew id []).own = none from rfl] at hlk
    simp (disch := omega) only [go_sem, ↓reduceIte , ord35x5, c4, hlk, Option.getD_none, Option.isSome_none]
    refine (pxRight_c _ _ n0 _ _).mono fun v H5 nx5 _ ⟨hv, hx5, hk5⟩ => ?_
    subst hv
    rw [hpx]
    have h45 : Kp (fun _ => False) nx4 H4 H5 := (by repeat first | exact Kp.refl _ _ _ | refine Kp.dropT ?_ (.inl (by omega)) | refine Kp.put ?_ (.inl (by omega)) | refine Kp.new ?_ (by omega) | refine Kp.put ?_ (.inr (by omega)) | refine Kp.newO ?_ (by omega) | refine Kp.setO ?_ (.inl (by omega)) | refine Kp.setO ?_ (.inr (by omega)) | refine Kp.trans0 ?_ (by assumption) (by omega) | refine Kp.transS ?_ (by assumption) (by omega) (fun b hb hT => by first | omega | (dsimp only at hT ⊢; omega) | (simp only at hT ⊢; omega))) 
    have hA5 := hA.kp' (nx' := nx5) h45 (by omega) (by simp)
    obtain ⟨ob5, hob5, hM5⟩ := hA5.om
    have hc5 := hk5.cell0
    have hlen := fun ty => lenV_map (P := Tryz.prog) (ty := ty) mapOwn hob5 hM5
    rw [show (engNew id []).own.length = 0 from rfl] at hlen
    have c3 := hA5.c.c3
    have c45 := hA5.c.c4
    simp (disch := omega) only [go_sem, ↓reduceIte , c45, hc5, hlen]
    refine awp_draw ord35x7 (by kernel_rfl) ?_
    simp (disch := omega) only [go_sem, ↓reduceIte , ord35x7, c3, hc5]
    refine (swants_c hA5.so (by simp [engNew]) a n).mono fun v H6 nx6 _ ⟨hx6, hk6, s6, m6, ok6, hv, hm6⟩ => ?_
    subst hv
    have hok : ok6 = false := by
      rcases hm6 with ⟨_, x, hx, _⟩ | ⟨h, _⟩
      · simp [engNew] at hx
      · exact h
    subst hok
    have hc6 := hk6.cell0
    simp (disch := omega) only [go_sem, ↓reduceIte , ord35x7, c3, hc5, hc6]
    refine ⟨dkeep_kp hk6, ?_⟩
    have hA6 := hA5.kp' (nx' := nx6) hk6 (by omega) (by simp)
    obtain ⟨ob6, hob6, hM6⟩ := hA6.om
    have c46 := hA6.c.c4
    refine awp_draw ord35x10 (by kernel_rfl) ?_
    simp (disch := omega) only [go_sem, ↓reduceIte , ord35x10, c46, hc5, hc6]
    have hmolo := (hA6.k.lt hA6.k.ko (by omega)).1
    refine mapSetQ_A (P := Tryz.prog) (ek := pxK) (ev := ev16) (x := (a, n)) (v := 1) keyPx mapOwn hmolo hob6 hM6 trivial (fun _ _ => trivial) fun ob1 hM1 => ?_
    simp (disch := omega) only [go_sem, ↓reduceIte , ord35x10]
    refine ⟨dkeep_last (by kernel_rfl), 0, by omega, 1, [((a, n), 1)], ⟨rfl, rfl, by omega, by omega, ?_, hA6.setOwn hM1⟩, fun h => by omega, fun _ => rfl⟩
    have k36 : Kp (fun b => col b ≠ 0) (p + 1) H3 H6 := (hk.trans (U := fun b => col b ≠ 0) h45 hx (fun _ _ h => h) (fun _ _ h => h.elim)).trans (U := fun b => col b ≠ 0) hk6 (by omega) (fun _ _ h => h) (fun _ _ h => h.elim)
    exact k36.setO (.inr (by rw [hA6.k.ko]; omega))
  · have hi1 : i = 1 := by omega
    subst hi1
    have hl := hl1 rfl
    subst hl
    simp (disch := omega) only [go_sem, ↓reduceIte ]
    exact ⟨p, y, col, rfl, ⟨by omega, kk.mono (Nat.le_refl _) (fun _ _ h => h.elim), hA, fun b hb => .inr (hcp b hb)⟩⟩
end Go.Proofs.YtngnbafididkcaaGreat
end
section
namespace Go.Proofs.YtngnbafididkcaaGreat
open Go.RowKit
set_option linter.unusedSimpArgs false

def lnNew (now : Int) : Lnk := ⟨0, 0, 65535, 0, now + 6⟩
theorem lnew_c {lo : Nat} {H : AH} {nx : Nat} (now : Int) (h0 : 0 ≤ now) (h1 : now ≤ 1000000000) : ACalls Tryz.prog lo 39 #[.int .u64 now] H nx (fun v H' nx' => ∃ b, nx ≤ b ∧ v = .pointer (some ⟨b, 0, none⟩) ∧ nx' = b + 1 ∧ Kp (fun _ => False) nx H H' ∧ LnA H' b (lnNew now)) := by
  refine ACalls.withLo fun hlo => ?_
  refine acalls_of_awp L39 Tryz.func39 rfl (by kernel_rfl) ?_
  simp (disch := omega) only [go_sem, ↓reduceIte ]
  intro b hb
  simp (disch := omega) only [go_sem, ↓reduceIte ]
  exact ⟨b, hb, rfl, rfl, (by repeat first | exact Kp.refl _ _ _ | refine Kp.dropT ?_ (.inl (by omega)) | refine Kp.put ?_ (.inl (by omega)) | refine Kp.new ?_ (by omega) | refine Kp.put ?_ (.inr (by omega)) | refine Kp.newO ?_ (by omega) | refine Kp.setO ?_ (.inl (by omega)) | refine Kp.setO ?_ (.inr (by omega)) | refine Kp.trans0 ?_ (by assumption) (by omega) | refine Kp.transS ?_ (by assumption) (by omega) (fun b hb hT => by first | omega | (dsimp only at hT ⊢; omega) | (simp only at hT ⊢; omega))) , ⟨by simp (disch := omega) only [go_sem, ↓reduceIte ]; rfl, by simp (disch := omega) only [go_sem, ↓reduceIte ]; rfl, by simp (disch := omega) only [go_sem, ↓reduceIte ]; rfl, by simp (disch := omega) only [go_sem, ↓reduceIte ]; rfl, by simp (disch := omega) only [go_sem, ↓reduceIte ]; rfl⟩⟩
set_option maxHeartbeats 1000000 in
theorem lheard_c {lo : Nat} {H : AH} {nx b : Nat} {l : Lnk} (h : LnA H b l) (hb : lo ≤ b ∧ b < nx) (cost now : Int) (h0 : 0 ≤ now) (h1 : now ≤ 1000000000) : ACalls Tryz.prog lo 41 #[.pointer (some ⟨b, 0, none⟩), .int .u16 cost, .int .u64 now] H nx (fun v H' nx' => v = .tuple #[] ∧ nx' = nx ∧ Kp (fun c => c = b) nx H H' ∧ LnA H' b { l with cost := max cost 1, til := now + 20 }) := by
  refine acalls_of_awp L41 Tryz.func41 rfl (by kernel_rfl) ?_
  obtain ⟨c0, c1, c2, c3, c4⟩ := h
  simp (disch := omega) only [go_sem, ↓reduceIte , c2, c3]
  exact ⟨(by repeat first | exact Kp.refl _ _ _ | refine Kp.dropT ?_ (.inl (by omega)) | refine Kp.put ?_ (.inl (by omega)) | refine Kp.new ?_ (by omega) | refine Kp.put ?_ (.inr (by omega)) | refine Kp.newO ?_ (by omega) | refine Kp.setO ?_ (.inl (by omega)) | refine Kp.setO ?_ (.inr (by omega)) | refine Kp.trans0 ?_ (by assumption) (by omega) | refine Kp.transS ?_ (by assumption) (by omega) (fun b hb hT => by first | omega | (dsimp only at hT ⊢; omega) | (simp only at hT ⊢; omega))) , ⟨by simp (disch := omega) only [go_sem, ↓reduceIte , c0], by simp (disch := omega) only [go_sem, ↓reduceIte , c1], by simp (disch := omega) only [go_sem, ↓reduceIte ], by simp (disch := omega) only [go_sem, ↓reduceIte ], by simp (disch := omega) only [go_sem, ↓reduceIte , c4]⟩⟩
def helloL (l : Lnk) (n now : Int) : Lnk := { l with came := if n < l.next ∨ 16 ≤ n - l.next ∨ l.came = 0 then 1 else orI .u16 (IntKind.u16.wrap (l.came * 2 ^ min (n - l.next + 1).toNat 16)) 1, next := n + 1, quiet := now + 6 }
set_option maxHeartbeats 1000000 in
theorem lhello_c {lo : Nat} {H : AH} {nx b : Nat} {l : Lnk} (h : LnA H b l) (hb : lo ≤ b ∧ b < nx) (n now : Int) (h0 : 0 ≤ now) (h1 : now ≤ 1000000000) (n0 : 0 ≤ n) (n1 : n ≤ 1000000000) (m0 : 0 ≤ l.next) (m1 : l.next ≤ 1000000000) : ACalls Tryz.prog lo 40 #[.pointer (some ⟨b, 0, none⟩), .int .u64 n, .int .u64 now] H nx (fun v H' nx' => v = .tuple #[] ∧ nx' = nx ∧ Kp (fun c => c = b) nx H H' ∧ LnA H' b (helloL l n now)) := by
  refine acalls_of_awp L40 Tryz.func40 rfl (by kernel_rfl) ?_
  obtain ⟨c0, c1, c2, c3, c4⟩ := h
  have fin : ∀ (c : Int), Kp (fun c => c = b) nx H (((H.put b 0 (.int .u16 c)).put b 1 (.int .u64 (n + 1))).put b 4 (.int .u64 (now + 6))) ∧ LnA (((H.put b 0 (.int .u16 c)).put b 1 (.int .u64 (n + 1))).put b 4 (.int .u64 (now + 6))) b ⟨c, n + 1, l.cost, l.til, now + 6⟩ := fun c =>
    ⟨(by repeat first | exact Kp.refl _ _ _ | refine Kp.dropT ?_ (.inl (by omega)) | refine Kp.put ?_ (.inl (by omega)) | refine Kp.new ?_ (by omega) | refine Kp.put ?_ (.inr (by omega)) | refine Kp.newO ?_ (by omega) | refine Kp.setO ?_ (.inl (by omega)) | refine Kp.setO ?_ (.inr (by omega)) | refine Kp.trans0 ?_ (by assumption) (by omega) | refine Kp.transS ?_ (by assumption) (by omega) (fun b hb hT => by first | omega | (dsimp only at hT ⊢; omega) | (simp only at hT ⊢; omega))) , ⟨by simp (disch := omega) only [go_sem, ↓reduceIte ], by simp (disch := omega) only [go_sem, ↓reduceIte ], by simp (disch := omega) only [go_sem, ↓reduceIte , c2], by simp (disch := omega) only [go_sem, ↓reduceIte , c3], by simp (disch := omega) only [go_sem, ↓reduceIte ]⟩⟩
  have one : (n < l.next ∨ 16 ≤ n - l.next ∨ l.came = 0) → helloL l n now = ⟨1, n + 1, l.cost, l.til, now + 6⟩ := fun h => by unfold helloL; rw [if_pos h]
  by_cases g1 : n < l.next
  · rw [one (.inl g1)]
    simp (disch := omega) only [go_sem, ↓reduceIte , c0, c1, c4]
    exact fin 1
  by_cases g2 : 16 ≤ n - l.next
  · rw [one (.inr (.inl g2))]
    simp (disch := omega) only [go_sem, ↓reduceIte , c0, c1, c4]
    exact fin 1
  by_cases g3 : l.came = 0
  · rw [one (.inr (.inr g3))]
    simp (disch := omega) only [go_sem, ↓reduceIte , c0, c1, c4]
    exact fin 1
  · have : helloL l n now = ⟨orI .u16 (IntKind.u16.wrap (l.came * 2 ^ min (n - l.next + 1).toNat 16)) 1, n + 1, l.cost, l.til, now + 6⟩ := by unfold helloL; rw [if_neg (by omega)]
    rw [this]
    simp (disch := omega) only [go_sem, ↓reduceIte , c0, c1, c4, binV_shlK]
    exact fin _
def popT : List Int := [0, 1, 1, 2, 1, 2, 2, 3]
theorem ones_c {lo : Nat} {H : AH} {nx : Nat} (i : Nat) (hi : i < 8) : ACalls Tryz.prog lo 100 #[.int .u16 i] H nx (fun v H' nx' => v = .int .i64 (popT.getD i 0) ∧ nx' = nx ∧ H' = H) := by
  refine acalls_of_awp L100 Tryz.func100 rfl (by kernel_rfl) ?_
  simp (disch := omega) only [go_sem, ↓reduceIte ]
  refine awp_draw ord100x1 (by kernel_rfl) ?_
  have e1 : ∀ (H : AH) (t : TypeId) (x y : Operand) (j : Nat), j < 8 → binV Tryz.prog H .shr t x y (.int .u16 j) (.int .u64 8) = some (.int .u16 0) := fun H t x y j hj => by
    rw [binV_shrK (by omega)]
    have : (2 : Int) ^ min (8 : Int).toNat IntKind.u16.bits = 256 := by rfl
    rw [this, show (j : Int) / 256 = 0 by omega]
  have e2 : ∀ j : Nat, j < 8 → andI .u16 j 255 = j := by decide
  have e3 : ∀ j : Nat, j < 8 → indexV Tryz.prog AH.empty 9 (.string Lib.pop8tab) (.int .u16 j) = some (.int .u8 (popT.getD j 0)) := fun j hj => by
    have h1 : ∀ j : Nat, j < 8 → ((Lib.pop8tab.data[j]!).toNat : Int) = popT.getD j 0 := by decide +kernel
    rw [index_str (by kernel_rfl) (by omega) (by rw [Lib.pop8tab_size]; omega), Int.toNat_natCast, h1 j hj]
  have e30 := e3 0 (by omega)
  have e5 : ∀ j : Nat, j < 8 → 0 ≤ popT.getD j 0 ∧ popT.getD j 0 ≤ 3 := by decide
  have := e5 i hi
  rw [Int.natCast_zero] at e30
  simp (disch := omega) only [go_sem, ↓reduceIte , ord100x1, e1 _ _ _ _ i hi, e2 i hi, e3 i hi, e30]
  have e6 : popT.getD 0 0 = 0 := rfl
  simp (disch := omega) only [e6, Int.zero_add, wrap_u8, wrap_i64]
/-- What our neighbor's way to us costs. -/
def recvL (l : Lnk) : Int := if popT.getD (andI .u16 l.came 7).toNat 0 < 2 then 65535 else 96
theorem lreceives_c {lo : Nat} {H : AH} {nx b : Nat} {l : Lnk} (h : LnA H b l) (h0 : 0 ≤ andI .u16 l.came 7) (h7 : andI .u16 l.came 7 < 8) : ACalls Tryz.prog lo 63 #[.pointer (some ⟨b, 0, none⟩)] H nx (fun v H' nx' => v = .int .u16 (recvL l) ∧ nx' = nx ∧ H' = H) := by
  refine acalls_of_awp L63 Tryz.func63 rfl (by kernel_rfl) ?_
  obtain ⟨c0, c1, c2, c3, c4⟩ := h
  obtain ⟨i, hi⟩ : ∃ i : Nat, andI .u16 l.came 7 = i := ⟨_, (Int.toNat_of_nonneg h0).symm⟩
  unfold recvL
  rw [hi] at h7 ⊢
  rw [Int.toNat_natCast]
  simp (disch := omega) only [go_sem, ↓reduceIte , c0, hi]
  refine (ones_c i (by omega)).mono fun v H' nx' _ ⟨hv, hn, hH⟩ => ?_
  subst hv; subst hn; subst hH
  by_cases hp : popT.getD i 0 < 2
  · rw [if_pos hp]
    simp (disch := omega) only [go_sem, ↓reduceIte ]
  · rw [if_neg hp]
    simp (disch := omega) only [go_sem, ↓reduceIte ]
def costL (l : Lnk) : Int := if recvL l = 65535 then 65535 else l.cost
theorem lcost_c {lo : Nat} {H : AH} {nx b : Nat} {l : Lnk} (h : LnA H b l) (h0 : 0 ≤ andI .u16 l.came 7) (h7 : andI .u16 l.came 7 < 8) : ACalls Tryz.prog lo 88 #[.pointer (some ⟨b, 0, none⟩)] H nx (fun v H' nx' => v = .int .u16 (costL l) ∧ nx' = nx ∧ H' = H) := by
  refine acalls_of_awp L88 Tryz.func88 rfl (by kernel_rfl) ?_
  obtain ⟨c0, c1, c2, c3, c4⟩ := h
  simp (disch := omega) only [go_sem, ↓reduceIte ]
  refine (lreceives_c ⟨c0, c1, c2, c3, c4⟩ h0 h7).mono fun v H' nx' _ ⟨hv, hn, hH⟩ => ?_
  subst hv; subst hn; subst hH
  unfold costL
  by_cases hp : recvL l = 65535
  · rw [if_pos hp]
    simp (disch := omega) only [go_sem, ↓reduceIte ]
  · rw [if_neg hp]
    simp (disch := omega) only [go_sem, ↓reduceIte , c2]
end Go.Proofs.YtngnbafididkcaaGreat
end
section
namespace Go.Proofs.YtngnbafididkcaaGreat
open Go.RowKit
set_option linter.unusedSimpArgs false

section
variable {lo nx nx' : Nat} {H H' : AH} {p : Nat} {e : Eng} {y : ELay} {col : Nat → Nat}
/-- Numbers alone. -/
theorem EngA.scal (h : EngA lo nx H p e y col) {e' : Eng} (hk : Kp (fun b => b = p) nx H H') (hc : EngC H' p e' y) (h1 : e'.lk = e.lk) (h2 : e'.ts = e.ts) (h3 : e'.es = e.es) (h4 : e'.own = e.own) (h5 : e'.sel = e.sel) (h6 : e'.lost = e.lost) (h7 : e'.asks = e.asks) : EngA lo nx H' p e' y col := by
  have hk' : Kp (fun b => (fun c => c = 1) (col b)) nx H H' := hk.mono (Nat.le_refl _) (fun b _ hb => by show col b = 1; rw [hb]; exact h.k.kp)
  exact ⟨hc, by rw [h5]; exact h.s5_kp (fun c => c = 1) hk' (Nat.le_refl _) (by decide), by rw [h6]; exact h.s7_kp (fun c => c = 1) hk' (Nat.le_refl _) (by decide), by rw [h7]; exact h.s8_kp (fun c => c = 1) hk' (Nat.le_refl _) (by decide), by rw [h1]; exact h.lk_kp (fun c => c = 1) hk' (by decide) (by decide), by rw [h4]; exact h.om_kp (fun c => c = 1) hk' (by decide), by rw [h2]; exact h.rt_kp (fun c => c = 1) hk' (Nat.le_refl _) (by decide), by rw [h3]; exact h.so_kp (fun c => c = 1) hk' (Nat.le_refl _) (by decide), by rw [h1]; exact h.k⟩
theorem LkA.uq {lk : List (Int × Lnk)} {ml : Nat} {bl : Int → Nat} (h : LkA H lk ml bl) : UqA lk := by
  obtain ⟨ob, _, hM⟩ := h.lm
  have := hM.1
  rw [UqA.iff] at this ⊢
  rw [List.map_map] at this
  exact this
theorem setA_map {α β γ : Type} [DecidableEq α] (f : α → γ) {x : α} {v w : β} {l : List (α × β)} (h : getA x l = some w) : (setA x v l).map (fun a => (a.1, f a.1)) = l.map (fun a => (a.1, f a.1)) := by
  have := congrArg (List.map fun a => (a, f a)) (setA_keys (v := v) h)
  simpa [List.map_map, Function.comp_def] using this
theorem setA_old {α β : Type} [DecidableEq α] {x : α} {v : β} {l : List (α × β)} (hu : UqA l) {a : α × β} (h : a ∈ setA x v l) : a = (x, v) ∨ (a ∈ l ∧ a.1 ≠ x) := by
  by_cases hx : a.1 = x
  · left
    have h1 := mem_getA hu.set (show (a.1, a.2) ∈ setA x v l from h)
    rw [getA_set, hx, if_pos rfl] at h1
    simp only [Option.some.injEq] at h1
    rw [h1, ← hx]
  · rcases mem_setA h with h | h
    · rw [h] at hx; exact absurd rfl hx
    · exact .inr ⟨h, hx⟩
/-- A neighbor's link changes. -/
theorem EngA.setLk (h : EngA lo nx H p e y col) {fr : Int} {l l' : Lnk} (hg : getA fr e.lk = some l) (hk : Kp (fun b => b = y.bl fr) nx H H') (hl : LnA H' (y.bl fr) l') : EngA lo nx H' p { e with lk := setA fr l' e.lk } y col := by
  have hmem := getA_mem hg
  have h9 := h.k.kb _ hmem
  have hk' : Kp (fun b => (fun c => c = 9) (col b)) nx H H' := hk.mono (Nat.le_refl _) (fun b _ hb => by show col b = 9; rw [hb]; exact h9)
  have hu := h.lk.uq
  have hkey : ∀ a ∈ setA fr l' e.lk, ∃ a' ∈ e.lk, a'.1 = a.1 := fun a ha => by
    rcases setA_old hu ha with rfl | ⟨ha, _⟩
    · exact ⟨_, hmem, rfl⟩
    · exact ⟨a, ha, rfl⟩
  refine ⟨h.c.same (h.cell_kp (fun c => c = 9) hk' (by decide)), h.s5_kp (fun c => c = 9) hk' (Nat.le_refl _) (by decide), h.s7_kp (fun c => c = 9) hk' (Nat.le_refl _) (by decide), h.s8_kp (fun c => c = 9) hk' (Nat.le_refl _) (by decide), ⟨?_, fun a ha => ?_⟩, h.om_kp (fun c => c = 9) hk' (by decide), h.rt_kp (fun c => c = 9) hk' (Nat.le_refl _) (by decide), h.so_kp (fun c => c = 9) hk' (Nat.le_refl _) (by decide), { h.k with kb := fun a ha => ?_, li := fun a ha b hb hab => ?_ }⟩
  · have hml := hk' y.ml (h.k.lt h.k.kl (by omega)).2 (by show ¬ col _ = 9; rw [h.k.kl]; omega)
    rw [hml.2.1]
    obtain ⟨ob, h1, h2⟩ := h.lk.lm
    exact ⟨ob, h1, by rw [setA_map y.bl hg]; exact h2⟩
  · rcases setA_old hu ha with rfl | ⟨ha, hne⟩
    · exact hl
    · have hb := h.k.kb a ha
      exact (h.lk.ln a ha).kp hk (h.k.lt hb (by omega)).2 (fun e => hne (h.k.li a ha _ hmem e))
  · obtain ⟨a', ha', e'⟩ := hkey a ha
    rw [← e']; exact h.k.kb a' ha'
  · obtain ⟨a', ha', ea⟩ := hkey a ha
    obtain ⟨b', hb', eb⟩ := hkey b hb
    rw [← ea, ← eb] at hab
    rw [← ea, ← eb]
    exact h.k.li a' ha' b' hb' hab
/-- A new neighbor. -/
theorem EngA.newLk (h : EngA lo nx H p e y col) {fr : Int} {b : Nat} {l : Lnk} {ob : Obj} (hg : getA fr e.lk = none) (hb : lo ≤ b ∧ b < nx) (h0 : col b = 0) (hl : LnA H b l) (hM : MapA (ekI .i64) evP ob (setA fr b (e.lk.map fun a => (a.1, y.bl a.1)))) :
    EngA lo nx (H.setO y.ml ob) p { e with lk := setA fr l e.lk } { y with bl := fun n => if n = fr then b else y.bl n } (recol col (b + 1) 9) := by
  have hk' : Kp (fun b => (fun c => c = 4) (col b)) nx H (H.setO y.ml ob) := Kp.setO (Kp.refl _ _ _) (.inr h.k.kl)
  have hnm := getA_none.1 hg
  have hne : ∀ c, col c ≠ 0 → recol col (b + 1) 9 c = col c := fun c hc => recol_ne (fun e => hc (by rw [show c = b by omega]; exact h0))
  have hs := setA_fresh (v := l) hg
  have hg2 : getA fr (e.lk.map fun a => (a.1, y.bl a.1)) = none := getA_none.2 fun q hq => by
    obtain ⟨a, ha, rfl⟩ := List.mem_map.1 hq
    exact hnm a ha
  have hbl : ∀ a ∈ e.lk, (if a.1 = fr then b else y.bl a.1) = y.bl a.1 := fun a ha => if_neg (hnm a ha)
  refine ⟨h.c.same (h.cell_kp (fun c => c = 4) hk' (by decide)), h.s5_kp (fun c => c = 4) hk' (Nat.le_refl _) (by decide), h.s7_kp (fun c => c = 4) hk' (Nat.le_refl _) (by decide), h.s8_kp (fun c => c = 4) hk' (Nat.le_refl _) (by decide), ⟨⟨ob, setO_same _ _ _, ?_⟩, fun a ha => ?_⟩, h.om_kp (fun c => c = 4) hk' (by decide), h.rt_kp (fun c => c = 4) hk' (Nat.le_refl _) (by decide), h.so_kp (fun c => c = 4) hk' (Nat.le_refl _) (by decide), ?_⟩
  · show MapA (ekI .i64) evP ob ((setA fr l e.lk).map fun a => (a.1, if a.1 = fr then b else y.bl a.1))
    rw [hs, List.map_append]
    rw [setA_fresh hg2] at hM
    rw [List.map_congr_left (g := fun a => (a.1, y.bl a.1)) (fun a ha => by rw [hbl a ha])]
    simpa using hM
  · have ha' : a ∈ e.lk ++ [(fr, l)] := by rw [← hs]; exact ha
    rcases List.mem_append.1 ha' with ha | ha
    · show LnA _ (if a.1 = fr then b else y.bl a.1) a.2
      rw [hbl a ha]
      exact (h.lk.ln a ha).kp hk' (h.k.lt (h.k.kb a ha) (by omega)).2 (by show ¬ col _ = 4; rw [h.k.kb a ha]; omega)
    · rw [List.mem_singleton] at ha
      subst ha
      show LnA _ (if fr = fr then b else y.bl fr) l
      rw [if_pos rfl]
      exact hl.kp hk' hb.2 (by show ¬ col _ = 4; rw [h0]; omega)
  · have hk := h.k
    refine ⟨by rw [hne p (by rw [hk.kp]; omega)]; exact hk.kp, by rw [hne y.pr (by rw [hk.kr]; omega)]; exact hk.kr, fun c hc => by rw [hne c (by rw [hk.kr2 c hc]; omega)]; exact hk.kr2 c hc, by rw [hne y.ps (by rw [hk.ks]; omega)]; exact hk.ks, fun c hc => by rw [hne c (by rw [hk.ks2 c hc]; omega)]; exact hk.ks2 c hc, by rw [hne y.ml (by rw [hk.kl]; omega)]; exact hk.kl, fun a ha => ?_, fun a ha a' ha' hab => ?_, by rw [hne y.mo (by rw [hk.ko]; omega)]; exact hk.ko, fun c hc => by rw [hne c (by rw [hk.k5 c hc]; omega)]; exact hk.k5 c hc, fun c hc => by rw [hne c (by rw [hk.k7 c hc]; omega)]; exact hk.k7 c hc, fun c hc => by rw [hne c (by rw [hk.k8 c hc]; omega)]; exact hk.k8 c hc, hk.w5, hk.w7, hk.w8, fun c hc => ?_⟩
    · rw [hs] at ha
      rcases List.mem_append.1 ha with ha | ha
      · show recol col (b + 1) 9 (if a.1 = fr then b else y.bl a.1) = 9
        rw [hbl a ha, hne _ (by rw [hk.kb a ha]; omega)]
        exact hk.kb a ha
      · rw [List.mem_singleton] at ha
        subst ha
        show recol col (b + 1) 9 (if fr = fr then b else y.bl fr) = 9
        rw [if_pos rfl]
        exact if_pos rfl
    · have hab' : (if a.1 = fr then b else y.bl a.1) = (if a'.1 = fr then b else y.bl a'.1) := hab
      rw [hs] at ha ha'
      rcases List.mem_append.1 ha with ha | ha <;> rcases List.mem_append.1 ha' with ha' | ha'
      · rw [hbl a ha, hbl a' ha'] at hab'
        exact hk.li a ha a' ha' hab'
      · rw [List.mem_singleton] at ha'
        subst ha'
        rw [hbl a ha, if_pos rfl] at hab'
        have := hk.kb a ha
        rw [hab', h0] at this
        omega
      · rw [List.mem_singleton] at ha
        subst ha
        rw [hbl a' ha', if_pos rfl] at hab'
        have := hk.kb a' ha'
        rw [← hab', h0] at this
        omega
      · rw [List.mem_singleton] at ha ha'
        rw [ha, ha']
    · by_cases hcb : c = b
      · rw [hcb]; exact hb
      · rw [recol_ne (by omega)] at hc
        exact hk.rng c hc
/-- What is told changes. -/
theorem EngA.setTs (h : EngA lo nx H p e y col) {ts' ts'' : List Tld} {own' : Nat} (hn : nx ≤ nx') (hk : Kp (fun b => b = y.pr ∨ b + 1 = y.orr) nx H H') (hR : RouA lo nx' H' y.pr ts' own') (hown : own' = y.orr ∨ nx < own') (hp : ts'.Perm ts'') :
    EngA lo nx' H' p { e with ts := ts'' } { y with orr := own' } (recol col own' 2) := by
  have hk' : Kp (fun b => (fun c => c = 2) (col b)) nx H H' := hk.mono (Nat.le_refl _) (fun b _ hb => by
    show col b = 2
    rcases hb with hb | hb
    · rw [hb]; exact h.k.kr
    · exact h.k.kr2 b hb)
  have hne : ∀ c, col c ≠ 0 → recol col own' 2 c = col c := fun c hc => by
    have := (h.k.rng c hc).2
    by_cases e1 : c + 1 = own'
    · rcases hown with h1 | h1
      · rw [h1] at e1 ⊢
        rw [h.k.kr2 c e1]
        exact if_pos e1
      · omega
    · exact recol_ne e1
  refine ⟨h.c.same (h.cell_kp (fun c => c = 2) hk' (by decide)), h.s5_kp (fun c => c = 2) hk' hn (by decide), h.s7_kp (fun c => c = 2) hk' hn (by decide), h.s8_kp (fun c => c = 2) hk' hn (by decide), h.lk_kp (fun c => c = 2) hk' (by decide) (by decide), h.om_kp (fun c => c = 2) hk' (by decide), ⟨ts', hp, hR⟩, h.so_kp (fun c => c = 2) hk' hn (by decide), ?_⟩
  have hk := h.k
  refine ⟨by rw [hne p (by rw [hk.kp]; omega)]; exact hk.kp, by rw [hne y.pr (by rw [hk.kr]; omega)]; exact hk.kr, fun c hc => if_pos hc, by rw [hne y.ps (by rw [hk.ks]; omega)]; exact hk.ks, fun c hc => by rw [hne c (by rw [hk.ks2 c hc]; omega)]; exact hk.ks2 c hc, by rw [hne y.ml (by rw [hk.kl]; omega)]; exact hk.kl, fun a ha => by rw [hne (y.bl a.1) (by rw [hk.kb a ha]; omega)]; exact hk.kb a ha, hk.li, by rw [hne y.mo (by rw [hk.ko]; omega)]; exact hk.ko, fun c hc => by rw [hne c (by rw [hk.k5 c hc]; omega)]; exact hk.k5 c hc, fun c hc => by rw [hne c (by rw [hk.k7 c hc]; omega)]; exact hk.k7 c hc, fun c hc => by rw [hne c (by rw [hk.k8 c hc]; omega)]; exact hk.k8 c hc, hk.w5, hk.w7, hk.w8, fun c hc => ?_⟩
  by_cases e1 : c + 1 = own'
  · rcases hR.ow with h1 | h1
    · omega
    · have h2 : own' ≤ nx' := by
        obtain ⟨v, _, hs⟩ := hR.q
        exact hs.le
      omega
  · rw [recol_ne e1] at hc
    have := hk.rng c hc
    omega
end
end Go.Proofs.YtngnbafididkcaaGreat
end
