/- Ether's law EtherMost, in our own logic. -/
import Derived.Test.YtcdnjkogkibegaaF6
namespace Go.Proofs.Ytcdnjkogkibegaa
open Go.RowKit
set_option linter.unusedSimpArgs false

abbrev up01 : Nat → Nat → Bool := upC (fun _ _ => false) 0 1 true
def pkt19 (i : Nat) : Int × Int × List Int := (0, 1, [(i : Int) % 256, (i : Int) / 256])
def most (i : Nat) : List (Int × Int × List Int) := ((List.range i).map pkt19).drop (i - 1024)

theorem sends01 (bs : List Int) : sendsC up01 0 bs 16 = [(0, 1, bs)] := by simp [sendsC, upC]

theorem most_succ (i : Nat) : trimC (most i ++ [pkt19 i]) = most (i + 1) := by
  have e : most i ++ [pkt19 i] = ((List.range (i + 1)).map pkt19).drop (i - 1024) := by
    rw [List.range_succ, List.map_append, List.drop_append_of_le_length (by simp)]
    rfl
  unfold trimC
  rw [e, List.drop_drop, List.length_drop, List.length_map, List.length_range]
  unfold most
  rw [show i - 1024 + (i + 1 - (i - 1024) - 1024) = i + 1 - 1024 by omega]

structure MostI (lo nx0 : Nat) (H0 : AH) (k p m : Nat) (env : Env) (H : AH) (nx i : Nat) (l : List Pkt) (own : Nat) : Prop where
  hm : m = k - i
  hi : i ≤ k
  henv : env = [(3, .pointer (some ⟨p, 0, none⟩)), (4, .int .i64 k), (5, .int .i64 i)]
  hnx : nx0 ≤ nx
  hp : nx0 ≤ p
  hkp : Kp (fun _ => False) nx0 H0 H
  he : EtherA lo nx H p up01 l own
  hv : views l = most i
  ho : own = 0 ∨ nx0 < own
def mostI (lo nx0 : Nat) (H0 : AH) (k p m : Nat) (env : Env) (H : AH) (nx : Nat) : Prop := ∃ i l own, MostI lo nx0 H0 k p m env H nx i l own

theorem views_length (l : List Pkt) : (views l).length = l.length := by simp [views]
theorem most_length (i : Nat) : (most i).length ≤ 1024 := by simp [most]; omega

set_option maxHeartbeats 4000000 in
theorem etherMost_c {lo : Nat} {H : AH} {nx : Nat} (n : Int) (h0 : 0 ≤ n) (h1 : n < 65536) : ACalls Try.prog lo 3 #[.int .u16 n] H nx (fun v H' nx' => v = .bool true ∧ nx ≤ nx' ∧ Kp (fun _ => False) nx H H') := by
  refine ACalls.withLo fun hlo => ?_
  refine acalls_of_awp L3 Try.func3 rfl (by kernel_rfl) ?_
  simp (disch := omega) only [go_sem, ↓reduceIte ]
  refine awake19_c.mono fun v H1 nx1 _ ⟨hv, hx1, hk1⟩ => ?_
  subst hv
  simp (disch := omega) only [go_sem, ↓reduceIte ]
  intro p hp
  simp (disch := omega) only [go_sem, ↓reduceIte ]
  refine (join_ok (EtherA.zero H1 (by omega)) 0 1 true (by omega) (by omega) (by omega)).mono fun v H2 nx2 _ ⟨hv, hx2, hk2, hE2⟩ => ?_
  subst hv; subst hx2
  have hr := Int.emod_nonneg n (show (100 : Int) ≠ 0 by decide)
  have hr2 := Int.emod_lt_of_pos n (show (0 : Int) < 100 by decide)
  obtain ⟨k, hk⟩ : ∃ k : Nat, (k : Int) = 1000 + n % 100 := ⟨(1000 + n % 100).toNat, by omega⟩
  simp (disch := omega) only [go_sem, ↓reduceIte , ← hk]
  refine awp_loop (mostI lo nx H k p) k ⟨0, [], 0, ⟨by omega, by omega, rfl, by omega, by omega, (by repeat first | exact Kp.refl _ _ _ | refine Kp.dropT ?_ (.inl (by omega)) | refine Kp.put ?_ (.inl (by omega)) | refine Kp.new ?_ (by omega) | refine Kp.put ?_ (.inr (by omega)) | refine Kp.trans0 ?_ (by assumption) (by omega) | refine Kp.transS ?_ (by assumption) (by omega) (fun b hb hT => by first | omega | (dsimp only at hT ⊢; omega) | (simp only at hT ⊢; omega))) , hE2, rfl, .inl rfl⟩⟩ (fun m env H3 nx3 ⟨i, l, own, hI⟩ hn3 => ?_)
  obtain ⟨hm, hi, henv, hnx, hpn, hkp, hE, hv, ho⟩ := hI
  subst henv
  have hl := most_length i
  rw [← hv, views_length] at hl
  by_cases hik : i < k
  · simp (disch := omega) only [go_sem, ↓reduceIte ]
    rw [wrap_u8_eq]
    refine buildSQ_cs (n := 2) [.int .u8 ((i : Int) % 256), .int .u8 ((i : Int) / 256)] [.int .u8 ((i : Int) % 256), .int .u8 ((i : Int) / 256)] sl34 zero5 (by omega) (by omega) rfl (by simp [cells_int]) rfl fun d hd => ?_
    simp (disch := omega) only [go_sem, ↓reduceIte ]
    have hb : SlA (d + 1) (H3.new d [Value.int .u8 ((i : Int) % 256), .int .u8 ((i : Int) / 256)].toArray 5) 1 (.slice (some ⟨d, 0, none⟩) 2 2) [(i : Int) % 256, (i : Int) / 256].length (byteV [(i : Int) % 256, (i : Int) / 256]) (d + 1) := SlA.ofNew rfl (by simp) (by simp [maxLen]) (by simp) (fun j _ => by simp [byteV])
    have hlt := hE.lt
    have hle := hE.q.choose_spec.2.le
    refine (send_ok (hE.new hd) (by omega) 0 (by omega) hb (by simp) (by omega) (by omega)).mono fun v H4 nx4 _ ⟨hv4, hx4, hk4, l4, own4, hE4, hv4', ho4, _⟩ => ?_
    subst hv4
    simp (disch := omega) only [go_sem, ↓reduceIte ]
    refine ⟨k - (i + 1), by omega, i + 1, l4, own4, ⟨rfl, by omega, by simp, by omega, by omega, (by repeat first | exact Kp.refl _ _ _ | refine Kp.dropT ?_ (.inl (by omega)) | refine Kp.put ?_ (.inl (by omega)) | refine Kp.new ?_ (by omega) | refine Kp.put ?_ (.inr (by omega)) | refine Kp.trans0 ?_ (by assumption) (by omega) | refine Kp.transS ?_ (by assumption) (by omega) (fun b hb hT => by first | omega | (dsimp only at hT ⊢; omega) | (simp only at hT ⊢; omega))) , hE4, ?_, by omega⟩⟩
    rw [hv4', hv, sends01]
    exact most_succ i
  · obtain rfl : i = k := by omega
    have hlen : l.length = i - (i - 1024) := by rw [← views_length, hv]; simp [most]
    have hl0 : 0 < l.length := by omega
    have hat : atC 0 l.length = 0 := by
      unfold atC
      rw [show IntKind.u64.wrap 0 = 0 by decide]
      simp
    obtain ⟨k0, hk0⟩ : ∃ k0, l[0]? = some k0 := ⟨l[0], by simp⟩
    have hk0v : k0.view = pkt19 (i - 1024) := by
      have h2 : (views l)[0]? = some k0.view := by simp [views, hk0]
      rw [hv] at h2
      unfold most at h2
      rw [List.getElem?_drop, List.getElem?_map, List.getElem?_range (by omega)] at h2
      simpa using h2.symm
    have hbs : k0.bs = [((i - 1024 : Nat) : Int) % 256, ((i - 1024 : Nat) : Int) / 256] := by
      have := congrArg (fun x => x.2.2) hk0v
      simpa [Pkt.view, pkt19] using this
    have hE' := hE
    simp (disch := omega) only [go_sem, ↓reduceIte ]
    refine condQ_split (fun hc => ?_) (fun hc => ?_)
    all_goals
      simp only [decide_eq_true_eq, decide_eq_false_iff_not] at hc
      simp (disch := omega) only [go_sem, ↓reduceIte ]
      refine (peek_some hE hl0 0 k0 (by rw [hat]; exact hk0) (by rw [hbs]; simp)).mono fun v H4 nx4 _ ⟨hx4, hk4, s, owns, hv4, hs4, ho4⟩ => ?_
      subst hv4
      rw [hbs] at hs4
      change SlA nx4 H4 1 s 2 _ owns at hs4
      obtain ⟨g, off, cap, rfl, hg⟩ := hs4.open (by simp)
      obtain ⟨hcc, _⟩ := hs4.cells
      have hgl := hs4.le
      have c0 := hcc 0 (.int .u8 (((i - 1024 : Nat) : Int) % 256)) (by simp [byteV])
      have c1 := hcc 1 (.int .u8 (((i - 1024 : Nat) : Int) / 256)) (by simp [byteV])
      simp (disch := omega) only [go_sem, ↓reduceIte ]
      intro d hd
      simp (disch := omega) only [go_sem, ↓reduceIte ]
      rw [Nat.add_zero] at c0
      have hlt := hE.lt
      refine awp_draw ord3x14 (by kernel_rfl) ?_
      simp (disch := omega) only [go_sem, ↓reduceIte , ord3x14]
      refine (len_c (p := p) (l := l) (up := up01) (own := own) ?_).mono fun v H5 nx5 _ ⟨hv5, hH5, hx5⟩ => ?_
      · exact hE.kp (S := fun _ => False) (by repeat first | exact Kp.refl _ _ _ | refine Kp.dropT ?_ (.inl (by omega)) | refine Kp.put ?_ (.inl (by omega)) | refine Kp.new ?_ (by omega) | refine Kp.put ?_ (.inr (by omega)) | refine Kp.trans0 ?_ (by assumption) (by omega) | refine Kp.transS ?_ (by assumption) (by omega) (fun b hb hT => by first | omega | (dsimp only at hT ⊢; omega) | (simp only at hT ⊢; omega)))  (by omega) (by simp) (by simp) (by simp)
      subst hv5; subst hH5; subst hx5
      simp (disch := omega) only [go_sem, ↓reduceIte , c0, c1, Int.toNat_zero, Int.toNat_one]
      refine ⟨by omega, (by repeat first | exact Kp.refl _ _ _ | refine Kp.dropT ?_ (.inl (by omega)) | refine Kp.put ?_ (.inl (by omega)) | refine Kp.new ?_ (by omega) | refine Kp.put ?_ (.inr (by omega)) | refine Kp.trans0 ?_ (by assumption) (by omega) | refine Kp.transS ?_ (by assumption) (by omega) (fun b hb hT => by first | omega | (dsimp only at hT ⊢; omega) | (simp only at hT ⊢; omega))) ⟩
end Go.Proofs.Ytcdnjkogkibegaa
