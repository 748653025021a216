/- EngineSinks: in our own logic: a round behind what is told. -/
import Derived.Test.YtngnbafididkcaaGreatN65
namespace Go.Proofs.YtngnbafididkcaaGreat
open Go.RowKit
set_option linter.unusedSimpArgs false

/-- What was, is no nearer than what is. -/
def OldM (e : Eng) (W : Nat → Int) (Hs : Nat → Bool) : Prop := ∀ k : Nat, k < 18 → firstI (pfxA k) (pfxN k) = k → Hs k = (wantE e.es (pfxA k) (pfxN k)).isSome ∧ W (k * 2) = mkS e.es (pfxA k) (pfxN k) ∧ W (k * 2 + 1) = mkM e.es (pfxA k) (pfxN k)
noncomputable def skT7 : Code := codeAt [.T, .T, .T, .T, .T, .T, .H, .T, .I, .I, .T, .H, .I, .T, .T, .T, .T, .T, .T, .T] ((Tryz.f6.body).getD .skip)
set_option maxHeartbeats 4000000 in
set_option maxRecDepth 20000 in
/-- Select, and what the law looks at. -/
theorem sinks_select {lo nx0 nx : Nat} {H0 H : AH} {pt : Nat} {e : Eng} {y : ELay} {col : Nat → Nat} {b4 b5 b6 : Nat} {T W : Nat → Int} {Hs : Nat → Bool} {v0 : Value} {i : Int} {it n : Nat} {rest : Env} {K : Env → AH → Nat → Prop} {Q : Exit → Env → AH → Nat → Prop}
    (hlo : lo ≤ nx0) (st : EngS lo nx0 H0 pt (fun _ => 0) e H nx y col) (hE : SinkE e T it n) (hit : it ≤ 70) (hn : n ≤ 70) (sa : SnkA nx0 nx H col b4 b5 b6 W Hs T) (hold : OldM e W Hs)
    (hK : ∀ e' H' nx' y' col' W' Hs', EngS lo nx0 H0 pt (fun _ => 0) e' H' nx' y' col' → SinkE e' T it (n + 1) → SnkA nx0 nx' H' col' b4 b5 b6 W' Hs' T → OldM e' W' Hs' → ∀ rest', K ((0, v0) :: (3, .pointer (some ⟨pt, 0, none⟩)) :: (4, .pointer (some ⟨b4, 0, none⟩)) :: (5, .pointer (some ⟨b5, 0, none⟩)) :: (6, .pointer (some ⟨b6, 0, none⟩)) :: (7, .int .i64 i) :: rest') H' nx') :
    awp Tryz.prog lo L6 skT7 (blockQ 1 (thenQ K Q)) ((0, v0) :: (3, .pointer (some ⟨pt, 0, none⟩)) :: (4, .pointer (some ⟨b4, 0, none⟩)) :: (5, .pointer (some ⟨b5, 0, none⟩)) :: (6, .pointer (some ⟨b6, 0, none⟩)) :: (7, .int .i64 i) :: rest) H nx := by
  have hcode : skT7 = .seq (codeAt [.T, .T, .T, .T, .T, .T, .H, .T, .I, .I, .T, .H, .I, .T, .T, .T, .T, .T, .T, .T, .H] ((Tryz.f6.body).getD .skip)) (.seq (.seq (codeAt [.T, .T, .T, .T, .T, .T, .H, .T, .I, .I, .T, .H, .I, .T, .T, .T, .T, .T, .T, .T, .T, .H, .H] ((Tryz.f6.body).getD .skip)) (.block 2 skW)) (.seq (codeAt [.T, .T, .T, .T, .T, .T, .H, .T, .I, .I, .T, .H, .I, .T, .T, .T, .T, .T, .T, .T, .T, .T, .H] ((Tryz.f6.body).getD .skip)) (.block 4 skM))) := rfl
  simp only [Tryz.f6, Option.getD_some, codeAt_H, codeAt_T, codeAt_I, codeAt_L, codeAt_C, codeAt_P, codeAt_nil] at hcode
  rw [hcode]
  clear hcode
  have hle := st.le
  simp (disch := omega) only [go_sem, ↓reduceIte ]
  refine (eselect_c st.a hE.pre).mono fun v A2 na2 _ ⟨e2, L2, ks2, es12, es22, ts2, tb2, d2, l22, y2, c2, ow2, hse2, sa2, hsl2, how2, hko2⟩ => ?_
  obtain ⟨hE2, hw2, hk2⟩ := hE.sel hit hn hse2
  have st2 := st.trans sa2
  have sn2 := sa.step sa2
  have hn2 := hsl2.one
  have hel2 := hE2.el
  have hsl := hE2.pre.sl
  have hL2 : L2.length ≤ 1000000 := by
    have : e2.sel = L2 := by rw [hse2.eq]
    rw [this] at hsl
    omega
  have hsq : ∀ r ∈ L2, 0 ≤ r.seq ∧ r.seq ≤ 1000 := fun r hr => by
    have hL := hse2.Lp
    rw [hse2.own1 hE.own hE.id] at hL
    rcases List.mem_append.1 (hL.mem_iff.1 hr) with h | h
    · have := List.mem_singleton.1 h
      subst this
      show (0 : Int) ≤ 1 ∧ (1 : Int) ≤ 1000
      omega
    · exact (many_R hse2 hE.told r h).1
  simp (disch := omega) only [go_sem, ↓reduceIte , hn2]
  refine sinks_ways hlo hE2.srt hE2.eok (by omega) st2 sn2 hsl2 hL2 hw2 hsq (fun H3 nx3 hx3 hk3 => ?_)
  have st3 := st2.still hk3 hx3
  have sn3 := sn2.still hk3 hx3
  simp (disch := omega) only [go_sem, ↓reduceIte ]
  refine sinks_marks hlo hE2.srt hE2.eok (by omega) st3 sn3 (fun k hk hf hh => ?_) (fun H4 nx4 y4 c4 W4 Hs4 st4 sn4 hd4 => ?_)
  · obtain ⟨o1, o2, o3⟩ := hold k hk hf
    rw [o1] at hh
    rw [o2, o3]
    exact hk2 _ _ hh
  · simp (disch := omega) only [go_sem, ↓reduceIte ]
    exact hK _ _ _ _ _ _ _ st4 hE2 sn4 hd4 _
end Go.Proofs.YtngnbafididkcaaGreat
