/- Ether, in our own logic: Send. -/
import Derived.Test.YtcdnjkogkibegaaF4
namespace Go.Proofs.Ytcdnjkogkibegaa
open Go.RowKit
set_option linter.unusedSimpArgs false

/-- What a packet says. -/
def Pkt.view (k : Pkt) : Int × Int × List Int := (k.fr, k.dst, k.bs)
def views (l : List Pkt) : List (Int × Int × List Int) := l.map Pkt.view
/-- What goes out to the first n. -/
def sendsC (up : Nat → Nat → Bool) (a : Nat) (bs : List Int) : Nat → List (Int × Int × List Int)
  | 0 => []
  | n + 1 => sendsC up a bs n ++ (if up a n then [((a : Int), (n : Int), bs)] else [])
def trimC {α : Type} (l : List α) : List α := l.drop (l.length - 1024)
def rowV (up : Nat → Nat → Bool) (a : Nat) : List Value := (List.range 16).map fun b => .bool (up a b)

structure SendI (lo nx0 : Nat) (H0 : AH) (p : Nat) (up : Nat → Nat → Bool) (l : List Pkt) (own a : Nat) (s : Value) (bs : List Int) (m : Nat) (env : Env) (H : AH) (nx j : Nat) (l1 : List Pkt) (own1 : Nat) : Prop where
  hm : m = 16 - j
  hj : j ≤ 16
  henv : env = [(0, .pointer (some ⟨p, 0, none⟩)), (1, .int .i64 a), (2, s), (7, .int .i64 (sendsC up a bs j).length), (23, .agg (rowV up a).toArray), (24, .int .i64 j)]
  hnx : nx0 ≤ nx
  hkp : Kp (fun b => b = p ∨ b + 1 = own) nx0 H0 H
  he : EtherA lo nx H p up l1 own1
  hv : views l1 = views l ++ sendsC up a bs j
  ho : own1 = own ∨ nx0 < own1
  hf : ∀ k ∈ l1, k ∈ l ∨ k.own = 0 ∨ nx0 < k.own
def sendI (lo nx0 : Nat) (H0 : AH) (p : Nat) (up : Nat → Nat → Bool) (l : List Pkt) (own a : Nat) (s : Value) (bs : List Int) (m : Nat) (env : Env) (H : AH) (nx : Nat) : Prop := ∃ j l1 own1, SendI lo nx0 H0 p up l own a s bs m env H nx j l1 own1

theorem sends_length (up : Nat → Nat → Bool) (a : Nat) (bs : List Int) : ∀ n, (sendsC up a bs n).length ≤ n
  | 0 => Nat.le_refl _
  | n + 1 => by
    have := sends_length up a bs n
    simp only [sendsC, List.length_append]
    split <;> simp <;> omega

theorem send_bad {lo : Nat} {p : Nat} {H : AH} {nx : Nat} (a : Int) (s : Value) (h : nodeC a = false) :
    ACalls Try.prog lo 11 #[.pointer (some ⟨p, 0, none⟩), .int .i64 a, s] H nx (fun v H' nx' => v = .int .i64 0 ∧ H' = H ∧ nx' = nx) := by
  refine acalls_of_awp L11 Try.func11 rfl (by kernel_rfl) ?_
  simp (disch := omega) only [go_sem, ↓reduceIte ]
  refine (node_c a H nx).mono fun v H' nx' _ ⟨hv, hH, hx⟩ => ?_
  subst hv; subst hH; subst hx
  simp (disch := omega) only [go_sem, ↓reduceIte , h]

theorem send_ok {lo : Nat} {p : Nat} {up : Nat → Nat → Bool} {l : List Pkt} {own : Nat} {H : AH} {nx : Nat} (hE : EtherA lo nx H p up l own) (hmax : l.length ≤ 1000000) (a : Nat) (ha : a < 16) {s : Value} {bs : List Int} {owns : Nat}
    (hs : SlA nx H 1 s bs.length (byteV bs) owns) (hsb : bs.length ≤ 1000000) (hs1 : owns ≠ p + 1) (hs2 : owns = 0 ∨ owns ≠ own) :
    ACalls Try.prog lo 11 #[.pointer (some ⟨p, 0, none⟩), .int .i64 a, s] H nx (fun v H' nx' => v = .int .i64 (sendsC up a bs 16).length ∧ nx ≤ nx' ∧ Kp (fun b => b = p ∨ b + 1 = own) nx H H' ∧
      ∃ l' own', EtherA lo nx' H' p up l' own' ∧ views l' = trimC (views l ++ sendsC up a bs 16) ∧ (own' = own ∨ nx < own') ∧ ∀ k ∈ l', k ∈ l ∨ k.own = 0 ∨ nx < k.own) := by
  refine ACalls.withLo fun hlo => ?_
  refine acalls_of_awp L11 Try.func11 rfl (by kernel_rfl) ?_
  have na : nodeC a = true := by simp [nodeC]; omega
  have hge := hE.ge
  have hlt := hE.lt
  have hone := hs.one
  obtain ⟨q, hq, hsq⟩ := hE.q
  have hrow : loadN H p (a * 16) 16 = some (rowV up a) := by
    have := loadN_list (H := H) p (rowV up a) (a * 16) (fun j hj => by
      simp only [rowV, List.length_map, List.length_range] at hj
      rw [Nat.mul_comm, hE.up a j ha hj]
      simp [rowV, hj])
    simpa [rowV] using this
  simp (disch := omega) only [go_sem, ↓reduceIte ]
  refine (node_c a H nx).mono fun v H' nx' _ ⟨hv, hH, hx⟩ => ?_
  subst hv; subst hH; subst hx
  simp (disch := omega) only [go_sem, ↓reduceIte , na, hrow]
  refine awp_loop (sendI lo nx' H' p up l own a s bs) 16 ⟨0, l, own, ⟨rfl, by omega, rfl, by omega, Kp.refl _ _ _, hE, by simp [sendsC], .inl rfl, fun k hk => .inl hk⟩⟩ (fun m env H1 nx1 ⟨j, l1, own1, hI⟩ hn1 => ?_)
  obtain ⟨hm, hj, henv, hnx, hkp, hE1, hv1, ho1, hf1⟩ := hI
  subst henv
  obtain ⟨q1, hq1, hsq1⟩ := hE1.q
  have how1 := hE1.ow
  have hne1 := hE1.ne
  have hle1 := hsq1.le
  have hlen1 : l1.length = l.length + (sendsC up a bs j).length := by
    have := congrArg List.length hv1
    simpa [views] using this
  have hsl := sends_length up a bs j
  have hle := hs.le
  have hlq := hsq.le
  by_cases hj16 : j < 16
  · have hcs : (rowV up a).toArray[j]? = some (.bool (up a j)) := by simp [rowV, hj16]
    cases hu : up a j with
    | false =>
      rw [hu] at hcs
      simp (disch := omega) only [go_sem, ↓reduceIte , hcs]
      refine ⟨15 - j, by omega, j + 1, l1, own1, ⟨by omega, by omega, ?_, hnx, hkp, hE1, ?_, ho1, hf1⟩⟩
      · simp [sendsC, hu]
      · simp [hv1, sendsC, hu]
    | true =>
      rw [hu] at hcs
      simp (disch := omega) only [go_sem, ↓reduceIte , hcs]
      refine awp_draw ord11x8 (by kernel_rfl) ?_
      simp (disch := omega) only [go_sem, ↓reduceIte , ord11x8, hq1]
      have hsj := hs.kp hkp hnx (by intro b hb; omega)
      refine (cloneB_c hsj hsb).mono fun v2 H2 nx2 _ ⟨hn2, hk2, own2, hs2', ho2⟩ => ?_
      have hone2 := hs2'.one
      have hc2 := hk2.cell0
      have hle2 := hs2'.le
      simp (disch := omega) only [go_sem, ↓reduceIte , hone2, bd3x36 AH.empty (.int .i64 a) (.int .i64 j) v2 rfl rfl hone2]
      refine ⟨dkeep_kp (by repeat first | exact Kp.refl _ _ _ | refine Kp.dropT ?_ (.inl (by omega)) | refine Kp.put ?_ (.inl (by omega)) | refine Kp.new ?_ (by omega) | refine Kp.put ?_ (.inr (by omega)) | refine Kp.trans0 ?_ (by assumption) (by omega) | refine Kp.transS ?_ (by assumption) (by omega) (fun b hb hT => by first | omega | (dsimp only at hT ⊢; omega) | (simp only at hT ⊢; omega))) , ?_⟩
      refine buildSQ_all (n := 1) [.agg #[.int .i64 a, .int .i64 j, v2]] sl27 zero36 (by omega) (by omega) rfl (by simp [cells_agg]) fun d hd => ?_
      have hlit : SlA (d + 1) _ 3 (.slice (some ⟨d, 0, none⟩) 1 1) 1 [.int .i64 a, .int .i64 j, v2] (d + 1) := SlA.ofNew (H := H2) (e := 36) (cs := ([Value.agg #[.int .i64 a, .int .i64 j, v2]].flatMap fun v => v.cells.toList).toArray) rfl (by omega) (by simp [maxLen]) (by simp [cells_agg]) (fun j _ => by simp [cells_agg])
      have hsq3 : SlA (d + 1) _ 3 q1 l1.length (pkCells l1) own1 := hsq1.kp (S := fun _ => False) (nx' := d + 1) (H' := H2.new d ([Value.agg #[.int .i64 a, .int .i64 j, v2]].flatMap fun v => v.cells.toList).toArray 36) (by repeat first | exact Kp.refl _ _ _ | refine Kp.dropT ?_ (.inl (by omega)) | refine Kp.put ?_ (.inl (by omega)) | refine Kp.new ?_ (by omega) | refine Kp.put ?_ (.inr (by omega)) | refine Kp.trans0 ?_ (by assumption) (by omega) | refine Kp.transS ?_ (by assumption) (by omega) (fun b hb hT => by first | omega | (dsimp only at hT ⊢; omega) | (simp only at hT ⊢; omega)))  (by omega) (by simp)
      simp (disch := omega) only [go_sem, ↓reduceIte ]
      refine ⟨dkeep_kp (by repeat first | exact Kp.refl _ _ _ | refine Kp.dropT ?_ (.inl (by omega)) | refine Kp.put ?_ (.inl (by omega)) | refine Kp.new ?_ (by omega) | refine Kp.put ?_ (.inr (by omega)) | refine Kp.trans0 ?_ (by assumption) (by omega) | refine Kp.transS ?_ (by assumption) (by omega) (fun b hb hT => by first | omega | (dsimp only at hT ⊢; omega) | (simp only at hT ⊢; omega))) , ?_⟩
      refine appendQ_two (aw_append sl27 zero36 rfl by36 hsq3 (hlit.src sl27 (by simp [hone2, one_int])) (by simp only [maxLen]; omega) (by omega) how1 fun v4 H4 nx4 own4 hn4 hs4 ho4 hk4 _ => ?_)
      have hone4 := hs4.one
      have hc4 := hk4.cell
      simp (disch := omega) only [go_sem, ↓reduceIte ]
      refine ⟨dkeep_last (by kernel_rfl), ?_⟩
      simp (disch := omega) only [go_sem, ↓reduceIte , hc4, hc2, hq1, hone4]
      refine ⟨dkeep_last (by kernel_rfl), ?_⟩
      refine ⟨15 - j, by omega, j + 1, l1 ++ [⟨a, j, v2, bs, own2⟩], own4, ⟨by omega, by omega, ?_, by omega, (by repeat first | exact Kp.refl _ _ _ | refine Kp.dropT ?_ (.inl (by omega)) | refine Kp.put ?_ (.inl (by omega)) | refine Kp.new ?_ (by omega) | refine Kp.put ?_ (.inr (by omega)) | refine Kp.trans0 ?_ (by assumption) (by omega) | refine Kp.transS ?_ (by assumption) (by omega) (fun b hb hT => by first | omega | (dsimp only at hT ⊢; omega) | (simp only at hT ⊢; omega))) , ?_, ?_, by omega, fun k hk => ?_⟩⟩
      · simp [sendsC, hu]
      · refine hE1.remade (by omega) (by repeat first | exact Kp.refl _ _ _ | refine Kp.dropT ?_ (.inl (by omega)) | refine Kp.put ?_ (.inl (by omega)) | refine Kp.new ?_ (by omega) | refine Kp.put ?_ (.inr (by omega)) | refine Kp.trans0 ?_ (by assumption) (by omega) | refine Kp.transS ?_ (by assumption) (by omega) (fun b hb hT => by first | omega | (dsimp only at hT ⊢; omega) | (simp only at hT ⊢; omega)))  (fun x y hx hy => ?_) (v := v4) ?_ ?_ (by omega) (by omega) (fun x hx => ?_)
        · simp (disch := omega) only [go_sem, ↓reduceIte , hc4, hc2]
          exact hE1.up x y hx hy
        · simp (disch := omega) only [go_sem, ↓reduceIte ]
        · rw [List.length_append, pkCells_append]
          exact hs4.put (by omega)
        · rcases List.mem_append.1 hx with hx | hx
          · exact .inl hx
          · simp only [List.mem_singleton] at hx
            subst hx
            refine .inr ⟨?_, by dsimp only; omega, by dsimp only; omega⟩
            exact hs2'.kp (S := fun b => b = p ∨ b + 1 = own1) (by repeat first | exact Kp.refl _ _ _ | refine Kp.dropT ?_ (.inl (by omega)) | refine Kp.put ?_ (.inl (by omega)) | refine Kp.new ?_ (by omega) | refine Kp.put ?_ (.inr (by omega)) | refine Kp.trans0 ?_ (by assumption) (by omega) | refine Kp.transS ?_ (by assumption) (by omega) (fun b hb hT => by first | omega | (dsimp only at hT ⊢; omega) | (simp only at hT ⊢; omega)))  (by omega) (by intro b hb; omega)
      · simp [views] at hv1
        simp [views, hv1, sendsC, hu, Pkt.view]
      · rcases List.mem_append.1 hk with hk | hk
        · exact hf1 k hk
        · simp only [List.mem_singleton] at hk
          subst hk
          refine .inr ?_
          dsimp only
          omega
  · obtain rfl : j = 16 := by omega
    obtain ⟨a1, c1, rfl⟩ := hsq1.form
    have hm1 := hsq1.maxLen
    simp only [maxLen] at hm1
    by_cases hov : l1.length ≤ 1024
    · simp (disch := omega) only [go_sem, ↓reduceIte , hq1]
      refine ⟨by omega, hkp, l1, own1, hE1, ?_, ho1, hf1⟩
      rw [← hv1]
      unfold trimC
      rw [show (views l1).length - 1024 = 0 by simp [views]; omega]
      rfl
    · simp (disch := omega) only [go_sem, ↓reduceIte , hq1]
      have hd := delPk_c hsq1 hE1.pkOne how1 0 (l1.length - 1024) (by omega) (by omega)
      rw [show ((0 : Nat) : Int) = 0 from rfl, show ((l1.length - 1024 : Nat) : Int) = (l1.length : Int) - 1024 by omega] at hd
      refine hd.mono fun v3 H3 nx3 _ ⟨hx3, hk3, hs3⟩ => ?_
      subst hx3
      have hone3 := hs3.one
      have hc3 := hk3.cell
      simp (disch := omega) only [go_sem, ↓reduceIte , hc3, hq1, hone3]
      rw [List.take_zero, List.nil_append] at hs3
      refine ⟨by omega, (by repeat first | exact Kp.refl _ _ _ | refine Kp.dropT ?_ (.inl (by omega)) | refine Kp.put ?_ (.inl (by omega)) | refine Kp.new ?_ (by omega) | refine Kp.put ?_ (.inr (by omega)) | refine Kp.trans0 ?_ (by assumption) (by omega) | refine Kp.transS ?_ (by assumption) (by omega) (fun b hb hT => by first | omega | (dsimp only at hT ⊢; omega) | (simp only at hT ⊢; omega))) , l1.drop (l1.length - 1024), own1, ?_, ?_, ho1, fun k hk => hf1 k (List.mem_of_mem_drop hk)⟩
      · refine hE1.remade (by omega) (by repeat first | exact Kp.refl _ _ _ | refine Kp.dropT ?_ (.inl (by omega)) | refine Kp.put ?_ (.inl (by omega)) | refine Kp.new ?_ (by omega) | refine Kp.put ?_ (.inr (by omega)) | refine Kp.trans0 ?_ (by assumption) (by omega) | refine Kp.transS ?_ (by assumption) (by omega) (fun b hb hT => by first | omega | (dsimp only at hT ⊢; omega) | (simp only at hT ⊢; omega)))  (fun x y hx hy => ?_) (v := v3) ?_ (hs3.put (by omega)) (.inl rfl) (by omega) (fun x hx => .inl (List.mem_of_mem_drop hx))
        · simp (disch := omega) only [go_sem, ↓reduceIte , hc3]
          exact hE1.up x y hx hy
        · simp (disch := omega) only [go_sem, ↓reduceIte ]
      · rw [← hv1]
        simp [views, trimC, List.map_drop]
end Go.Proofs.Ytcdnjkogkibegaa
