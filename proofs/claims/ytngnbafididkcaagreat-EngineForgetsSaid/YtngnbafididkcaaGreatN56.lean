/- Engine: a link's Tick: in our own logic. -/
import Derived.Test.YtngnbafididkcaaGreatN9
namespace Go.Proofs.YtngnbafididkcaaGreat
open Go.RowKit
set_option linter.unusedSimpArgs false

/-- A hello is missed. -/
def missL (l : Lnk) : Lnk := { l with came := IntKind.u16.wrap (l.came * 2 ^ min (Int.toNat 1) 16), next := l.next + 1, quiet := l.quiet + 6 }
def tickF (now : Int) : Nat → Lnk → Lnk
  | 0, l => l
  | k + 1, l => if l.came ≠ 0 ∧ l.quiet ≤ now then tickF now k (missL l) else l
def tickL (now : Int) (l : Lnk) : Lnk :=
  let m := tickF now ((now - l.quiet).toNat + 1) l
  if m.til ≤ now then { m with cost := 65535 } else m
theorem tickF_stop {now : Int} {l : Lnk} (h : ¬ (l.came ≠ 0 ∧ l.quiet ≤ now)) : ∀ k, tickF now k l = l
  | 0 => rfl
  | k + 1 => by rw [tickF, if_neg h]
theorem tickF_succ {now : Int} : ∀ (k : Nat) (l : Lnk), (now + 1 - l.quiet).toNat ≤ k → tickF now (k + 1) l = tickF now k l
  | 0, l, h => tickF_stop (by omega) 1
  | k + 1, l, h => by
    rw [tickF]
    by_cases hc : l.came ≠ 0 ∧ l.quiet ≤ now
    · rw [if_pos hc]
      conv => rhs; rw [tickF, if_pos hc]
      exact tickF_succ k (missL l) (by show (now + 1 - (l.quiet + 6)).toNat ≤ k; omega)
    · rw [if_neg hc, tickF_stop hc]
theorem tickF_fuel {now : Int} {l : Lnk} {k : Nat} (h : (now + 1 - l.quiet).toNat ≤ k) : tickF now k l = tickF now (now + 1 - l.quiet).toNat l := by
  obtain ⟨d, rfl⟩ := Nat.exists_eq_add_of_le h
  clear h
  induction d with
  | zero => rfl
  | succ d ih => rw [← Nat.add_assoc, tickF_succ _ _ (by omega)]; exact ih
/-- Within the loop. -/
structure LtI (lo nx0 : Nat) (H0 : AH) (b : Nat) (l0 : Lnk) (now : Int) (m : Nat) (env : Env) (H : AH) (nx : Nat) (l : Lnk) : Prop where
  henv : ∃ rest, env = (0, .pointer (some ⟨b, 0, none⟩)) :: (1, .int .u64 now) :: rest
  hx : nx = nx0
  hk : Kp (fun c => c = b) nx0 H0 H
  hl : LnA H b l
  nn : 0 ≤ l.next ∧ l.next ≤ l0.next + 1000000 + l.quiet - l0.quiet
  qq : l0.quiet ≤ l.quiet ∧ l.quiet ≤ 2000000
  hm : (m : Int) = max (now + 7 - l.quiet) 0
  he : tickF now ((now - l0.quiet).toNat + 1) l0 = tickF now ((now - l.quiet).toNat + 1) l
  ht : l.til = l0.til ∧ l.cost = l0.cost
set_option maxHeartbeats 1000000 in
set_option maxRecDepth 20000 in
theorem ltick_c {lo : Nat} {H : AH} {nx b : Nat} {l : Lnk} (h : LnA H b l) (hb : lo ≤ b ∧ b < nx) (now : Int) (h0 : 0 ≤ now ∧ now ≤ 1000000) (hn : 0 ≤ l.next ∧ l.next ≤ 1000000) (hq : 0 ≤ l.quiet ∧ l.quiet ≤ 1000000) : ACalls Tryz.prog lo 65 #[.pointer (some ⟨b, 0, none⟩), .int .u64 now] H nx (fun v H' nx' => v = .tuple #[] ∧ nx' = nx ∧ Kp (fun c => c = b) nx H H' ∧ LnA H' b (tickL now l)) := by
  refine acalls_of_awp L65 Tryz.func65 rfl (by kernel_rfl) ?_
  simp (disch := omega) only [go_sem, ↓reduceIte ]
  refine awp_loop (fun m env H' nx' => ∃ l', LtI lo nx H b l now m env H' nx' l') (max (now + 7 - l.quiet) 0).toNat ⟨l, ⟨⟨_, rfl⟩, rfl, Kp.refl _ _ _, h, by omega, by omega, by omega, rfl, rfl, rfl⟩⟩ (fun m env H1 nx1 ⟨l1, hI⟩ hnx => ?_)
  obtain ⟨henv, hx, hk, hl, nn, qq, hm, he, ht⟩ := hI
  obtain ⟨rest, henv⟩ := henv
  subst henv; subst hx
  obtain ⟨c0, c1, c2, c3, c4⟩ := hl
  by_cases hgo : l1.came ≠ 0 ∧ l1.quiet ≤ now
  · have hge : ¬ now < l1.quiet := by omega
    have hg1 := hgo.1
    have hg2 := hgo.2
    simp (disch := omega) only [go_sem, ↓reduceIte , c0, c4]
    refine awp_draw ord65x2 (by kernel_rfl) ?_
    simp (disch := omega) only [go_sem, ↓reduceIte , ord65x2, c0, c1, c4, binV_shlK]
    refine ⟨dkeep_last (by kernel_rfl), dkeep_last (by kernel_rfl), dkeep_last (by kernel_rfl), ?_⟩
    have kk : Kp (fun c => c = b) nx1 H1 (((H1.put b 0 (.int .u16 (IntKind.u16.wrap (l1.came * 2 ^ min (Int.toNat 1) 16)))).put b 1 (.int .u64 (l1.next + 1))).put b 4 (.int .u64 (l1.quiet + 6))) := (by repeat first | exact Kp.refl _ _ _ | refine Kp.dropT ?_ (.inl (by omega)) | refine Kp.put ?_ (.inl (by omega)) | refine Kp.new ?_ (by omega) | refine Kp.put ?_ (.inr (by omega)) | refine Kp.newO ?_ (by omega) | refine Kp.setO ?_ (.inl (by omega)) | refine Kp.setO ?_ (.inr (by omega)) | refine Kp.trans0 ?_ (by assumption) (by omega) | refine Kp.transS ?_ (by assumption) (by omega) (fun b hb hT => by first | omega | (dsimp only at hT ⊢; omega) | (simp only at hT ⊢; omega))) 
    refine ⟨(max (now + 7 - (l1.quiet + 6)) 0).toNat, by omega, missL l1, ⟨⟨_, rfl⟩, rfl, hk.trans (U := fun c => c = b) kk (Nat.le_refl _) (fun _ _ h => h) (fun _ _ h => h), ⟨by simp (disch := omega) only [go_sem, ↓reduceIte ]; rfl, by simp (disch := omega) only [go_sem, ↓reduceIte ]; rfl, by simp (disch := omega) only [go_sem, ↓reduceIte , c2]; rfl, by simp (disch := omega) only [go_sem, ↓reduceIte , c3]; rfl, by simp (disch := omega) only [go_sem, ↓reduceIte ]; rfl⟩, ?_, ?_, ?_, ?_, ht⟩⟩
    · show 0 ≤ l1.next + 1 ∧ l1.next + 1 ≤ l.next + 1000000 + (l1.quiet + 6) - l.quiet
      omega
    · show l.quiet ≤ l1.quiet + 6 ∧ l1.quiet + 6 ≤ 2000000
      omega
    · show (((max (now + 7 - (l1.quiet + 6)) 0).toNat : Nat) : Int) = max (now + 7 - (l1.quiet + 6)) 0
      omega
    · rw [he]
      rw [tickF, if_pos hgo]
      rw [tickF_fuel (k := (now - l1.quiet).toNat) (by show (now + 1 - (l1.quiet + 6)).toNat ≤ _; omega), tickF_fuel (k := (now - (missL l1).quiet).toNat + 1) (by omega)]
  · have hst := tickF_stop (now := now) (l := l1) hgo ((now - l1.quiet).toNat + 1)
    have hfe : tickL now l = if l1.til ≤ now then { l1 with cost := 65535 } else l1 := by
      unfold tickL
      simp only [he, hst]
    have fin1 : l1.til ≤ now → (H1.c b 2).isSome = true ∧ Kp (fun c => c = b) nx1 H (H1.put b 2 (.int .u16 65535)) ∧ LnA (H1.put b 2 (.int .u16 65535)) b (tickL now l) := fun h => by
      rw [hfe, if_pos h]
      exact ⟨by rw [c2]; rfl, hk.trans (U := fun c => c = b) (nx' := nx1) (show Kp (fun c => c = b) nx1 H1 _ from (by repeat first | exact Kp.refl _ _ _ | refine Kp.dropT ?_ (.inl (by omega)) | refine Kp.put ?_ (.inl (by omega)) | refine Kp.new ?_ (by omega) | refine Kp.put ?_ (.inr (by omega)) | refine Kp.newO ?_ (by omega) | refine Kp.setO ?_ (.inl (by omega)) | refine Kp.setO ?_ (.inr (by omega)) | refine Kp.trans0 ?_ (by assumption) (by omega) | refine Kp.transS ?_ (by assumption) (by omega) (fun b hb hT => by first | omega | (dsimp only at hT ⊢; omega) | (simp only at hT ⊢; omega))) ) (Nat.le_refl _) (fun _ _ h => h) (fun _ _ h => h), ⟨by simp (disch := omega) only [go_sem, ↓reduceIte , c0], by simp (disch := omega) only [go_sem, ↓reduceIte , c1], by simp (disch := omega) only [go_sem, ↓reduceIte ], by simp (disch := omega) only [go_sem, ↓reduceIte , c3], by simp (disch := omega) only [go_sem, ↓reduceIte , c4]⟩⟩
    have fin2 : ¬ l1.til ≤ now → Kp (fun c => c = b) nx1 H H1 ∧ LnA H1 b (tickL now l) := fun h => by
      rw [hfe, if_neg h]
      exact ⟨hk, ⟨c0, c1, c2, c3, c4⟩⟩
    rcases (show l1.came = 0 ∨ (l1.came ≠ 0 ∧ now < l1.quiet) by omega) with hz | ⟨hz, hz2⟩
    · by_cases ht2 : l1.til ≤ now
      · simp (disch := omega) only [go_sem, ↓reduceIte , c0, c3, hz]
        exact fin1 ht2
      · simp (disch := omega) only [go_sem, ↓reduceIte , c0, c3, hz]
        exact fin2 ht2
    · by_cases ht2 : l1.til ≤ now
      · simp (disch := omega) only [go_sem, ↓reduceIte , c0, c4, c3]
        exact fin1 ht2
      · simp (disch := omega) only [go_sem, ↓reduceIte , c0, c4, c3]
        exact fin2 ht2
end Go.Proofs.YtngnbafididkcaaGreat
