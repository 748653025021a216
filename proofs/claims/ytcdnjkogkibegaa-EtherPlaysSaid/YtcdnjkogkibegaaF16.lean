/- EtherPlays: a packet comes, or is lost. -/
import Derived.Test.YtcdnjkogkibegaaF15
namespace Go.Proofs.Ytcdnjkogkibegaa
open Go.RowKit
set_option linter.unusedSimpArgs false

theorem convV_bytes {P : Program} {H : AH} {nx : Nat} {s d e : TypeId} {v : Value} {bs : List Int} {own : Nat} (ht : slT P s = some (e, 1)) (hu : P.underlying e = some (.int .u8)) (hd : P.underlying d = some .string)
    (hs : SlA nx H 1 v bs.length (bs.map (Value.int .u8)) own) : convV P H s d v = some (.string (byteS bs)) := by
  unfold slT at ht
  cases hus : P.underlying s with
  | none => rw [hus] at ht; cases ht
  | some dd =>
  rw [hus] at ht
  cases dd <;> simp only [reduceCtorEq] at ht
  rename_i e'
  simp only [Option.map_eq_some_iff, Prod.mk.injEq] at ht
  obtain ⟨k', hk', rfl, rfl⟩ := ht
  obtain ⟨a, c, rfl⟩ := hs.form
  show peek P H (convert s d (.slice a bs.length c)) = some (.string (byteS bs))
  unfold convert
  rw [peek_then, peek_underlying, hus]
  simp only [Option.bind_some]
  rw [peek_then, peek_underlying, hd]
  simp only [Option.bind_some]
  rw [peek_then, peek_underlying, hu]
  simp only [Option.bind_some]
  unfold Conv.bytesToString
  cases a with
  | none =>
    rcases hs.2.2 with ⟨h1, h2, _⟩ | ⟨g, off, cap, h1, _⟩
    · have : bs = [] := List.eq_nil_of_length_eq_zero h2
      subst this
      rfl
    · simp at h1
  | some a =>
    have hf := hs.first (P := P)
    simp only [Builtin.firstCells, Nat.mul_one] at hf
    simp only
    rw [peek_then, hf]
    simp only [Option.bind_some]
    rw [peek_then]
    rw [← Array.forIn_toList, List.toList_toArray, peek_bytes_loop (fun _ _ => rfl) bs ByteArray.empty]
    simp only [Option.bind_some, peek_pure, byteS]
    congr 3
    rw [show ByteArray.empty.data = #[] from rfl, Array.empty_append]

theorem SlA.capLe {nx : Nat} {H : AH} {size n c own : Nat} {a : Option Addr} {xs : List Value} (hs : SlA nx H size (.slice a n c) n xs own) : n ≤ c := by
  rcases hs.2.2 with ⟨h1, h2, _⟩ | ⟨g, off, cap, h2, _, h5, _⟩
  · omega
  · simp only [Value.slice.injEq] at h2; omega

def codePart : Code → Code
  | .cond _ _ b => b
  | .seq _ b => b
  | c => c
/-- What comes behind a packet that came, or was lost. -/
noncomputable def playEnd : Code := codeTl (codeTl (codeTl (codeTl (codePart (codeTl (codePart (codeTl (codePart (codeTl (codeIn (codeTl playSw)))))))))))

set_option maxHeartbeats 8000000 in
theorem sw_tail {lo nx0 : Nat} {H0 : AH} {g off n c i a b x p4 d own1 : Nat} {act : Act19} {H : AH} {nx : Nat} {up : Nat → Nat → Bool} {l l2 : List Pkt} {own own5 : Nat} {v5 : Value} {K : Env → AH → Nat → Prop} {Q : Exit → Env → AH → Nat → Prop} {rest : Env} {a1 : Option Addr} {cc1 : Nat} {k1' k2 : Pkt} {H9 : AH} {nx9 : Nat}
    (h : SwIn lo nx0 H0 g off n i a b x p4 act H nx up l l2 own own5 v5) (hat : atC act.i l.length < l.length) (hk2 : l2[atC act.i l.length]? = some k2) (f1 : k2.fr = k1'.fr) (f2 : k2.dst = k1'.dst) (f3 : k2.bs = k1'.bs)
    (hx9 : nx ≤ nx9) (hk9 : Kp (fun b => b = x ∨ b + 1 = own) nx H H9) (hE9 : EtherA lo nx9 H9 x up (l.take (atC act.i l.length) ++ l.drop (atC act.i l.length + 1)) own) (hs9 : SlA nx9 H9 1 (.slice a1 k1'.bs.length cc1) k1'.bs.length (byteV k1'.bs) own1)
    (d0 : H9.c d 0 = some (.int .i64 k1'.fr)) (d1 : H9.c d 1 = some (.int .i64 k1'.dst)) (d2 : H9.c d 2 = some (.slice a1 k1'.bs.length cc1))
    (hK : ∀ env' H' nx', plR lo nx0 H0 (.slice (some ⟨g, off, none⟩) n c) x p4 i a b (5 * i + 5) env' H' nx' → K env' H' nx') :
    awp Try.prog lo L7 playEnd (thenQ K Q) ((0, .slice (some ⟨g, off, none⟩) n c) :: (3, .pointer (some ⟨x, 0, none⟩)) :: (4, .pointer (some ⟨p4, 0, none⟩)) :: (5, v5) :: (6, .int .i64 i) :: (7, .int .i64 a) :: (8, .int .i64 b) :: (9, .int .i64 (atC act.i l.length)) :: (15, .pointer (some ⟨d, 0, none⟩)) :: rest) H9 nx9 := by
  obtain ⟨hP, hk, hx, lo0, gx, g4, hg, c0, c3, k0, k1, ho, ho5, ha, hb, hi, hn, hl⟩ := h
  have hlt4 := hP.lt4
  have hltx := hP.hE.lt
  have hn4 := hP.n4
  have hlen := hP.len
  have hle5 := hP.hs.le
  obtain ⟨sa, sc, rfl⟩ := hP.hs.form
  have hB := hP.etherB hk9 (by omega) hE9 (.inl rfl) (fun z hz => by
    rcases List.mem_append.1 hz with hz | hz
    · exact .inl (List.mem_of_mem_take hz)
    · exact .inl (List.mem_of_mem_drop hz)) (fun z hz => by
    rcases List.mem_append.1 hz with hz | hz
    · exact hP.hb z (List.mem_of_mem_take hz)
    · exact hP.hb z (List.mem_of_mem_drop hz))
  unfold playEnd playSw playBody Try.f7
  simp only [Option.getD_some, codeHd, codeTl, codeIn, codePart, awp_seq]
  obtain ⟨g5, off5, cap5, hv5, hg5⟩ := hB.hs.open (by omega)
  cases hv5
  have hcl := hB.hs.cells.1
  obtain ⟨w0, w1, w2⟩ := pk_cells hk2
  have e0 := hcl _ _ w0
  have e1 := hcl _ _ w1
  have e2 := hcl _ _ w2
  rw [Nat.mul_comm] at e0 e1 e2
  rw [← Nat.add_assoc] at e1 e2
  have hpk2 := hB.pk2 k2 (List.mem_of_getElem? hk2)
  have v1 := convV_bytes (P := Try.prog) sl34 (d := 9) (by kernel_rfl) (by kernel_rfl) hs9
  have v2 := convV_bytes (P := Try.prog) sl34 (d := 9) (by kernel_rfl) (by kernel_rfl) hpk2.1
  rw [f3] at v2
  refine awp_draw ord7x25 (by kernel_rfl) ?_
  simp (disch := omega) only [go_sem, ↓reduceIte , ord7x25, d0, d1, d2, e0, e1, e2, f1, f2, v1, v2, eq_self]
  refine awp_draw ord7x27 (by kernel_rfl) ?_
  have hcap := hB.hs.capLe
  have hle9 := hB.hs.le
  have hown := hP.hE.q.choose_spec.2.le
  have hk1l : atC act.i l.length < l2.length := by omega
  simp (disch := omega) only [go_sem, ↓reduceIte , ord7x27]
  rw [slice_h sl27 (by omega) (by omega)]
  have hcut1 := hB.hs.cut (l := 0) (h := atC act.i l.length) (m := sc) (by omega) (by omega) (by omega) (by omega)
  rw [Nat.zero_mul, List.drop_zero, Nat.sub_zero, pkCells_take] at hcut1
  rw [Int.toNat_natCast]
  generalize hcv1 : cutS (some ⟨g5, off5, none⟩) 3 sc 0 (atC act.i l.length) = cv1 at hcut1 ⊢
  obtain ⟨ca1, cb1, rfl⟩ := hcut1.form
  simp (disch := omega) only [go_sem, ↓reduceIte ]
  rw [slice_l sl27 (by omega) (by omega)]
  have hcut2 := hB.hs.cut (l := atC act.i l.length + 1) (h := l2.length) (m := sc) (by omega) (by omega) (by omega) (by omega)
  rw [pkCells_drop, List.take_of_length_le (by rw [pkCells_length, List.length_drop]; omega)] at hcut2
  rw [show ((atC act.i l.length : Int) + 1).toNat = atC act.i l.length + 1 by omega]
  generalize hcv2 : cutS (some ⟨g5, off5, none⟩) 3 sc (atC act.i l.length + 1) l2.length = cv2 at hcut2 ⊢
  obtain ⟨ca2, cb2, rfl⟩ := hcut2.form
  have hones : ∀ u ∈ pkCells l2, u.oneCell' = true := pkCells_one fun z hz => (hB.pk2 z hz).1.one
  simp (disch := omega) only [go_sem, ↓reduceIte ]
  refine appendQ_two (aw_append sl27 zero36 rfl by36 (SlA.nil _ _ _) (hcut1.src sl27 (fun u hu => hones u (by rw [← pkCells_take] at hu; exact List.mem_of_mem_take hu))) (by simp only [maxLen]; omega) (by omega) (.inl rfl) fun v6 H6 nx6 own6 hn6 hs6 ho6 hk6 _ => ?_)
  rw [Nat.zero_add, List.nil_append] at hs6
  have hk6' : Kp (fun _ => False) nx9 H9 H6 := hk6.mono (Nat.le_refl _) (fun b _ h => by omega)
  have hle6 := hs6.le
  simp (disch := omega) only [go_sem, ↓reduceIte ]
  refine ⟨dkeep_kp hk6', ?_⟩
  refine appendQ_two (aw_append sl27 zero36 rfl by36 hs6 ((hcut2.kp hk6' hn6 (by simp)).src sl27 (fun u hu => hones u (by rw [← pkCells_drop] at hu; exact List.mem_of_mem_drop hu))) (by simp only [maxLen]; omega) (by omega) (by omega) fun v8 H8 nx8 own8 hn8 hs8 ho8 hk8 _ => ?_)
  have hk8' : Kp (fun _ => False) nx9 H9 H8 := hk6'.trans (U := fun _ => False) hk8 (by omega) (fun _ _ h => h) (fun b hb h => by omega)
  simp (disch := omega) only [go_sem, ↓reduceIte ]
  refine ⟨dkeep_kp hk8', ?_⟩
  refine hK _ _ _ ⟨up, _, l2.take (atC act.i l.length) ++ l2.drop (atC act.i l.length + 1), own, own8, v8, _, ⟨rfl, by omega, ?_, (hB.list (hk8'.mono (Nat.le_refl _) (fun _ _ h => h.elim)) (by omega) (by rw [pkCells_append, List.length_append, List.length_take, List.length_drop, Nat.min_eq_left (by omega)]; exact hs8) (by omega) (fun z hz => .inl ?_) (by omega)).2 ?_, by omega, by omega, by simp; omega⟩⟩
  · exact (hk.trans (U := fun _ => False) hk9 hx (fun _ _ h => h) (fun b hb h => by omega)).trans0 hk8' (by omega)
  · rcases List.mem_append.1 hz with hz | hz
    · exact List.mem_of_mem_take hz
    · exact List.mem_of_mem_drop hz
  · have hv0 := hP.hv
    simp only [views] at hv0
    simp only [views, List.map_append, List.map_take, List.map_drop, hv0]
end Go.Proofs.Ytcdnjkogkibegaa
