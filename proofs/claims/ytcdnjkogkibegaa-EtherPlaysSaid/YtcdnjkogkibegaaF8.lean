/- Ether's law EtherCuts, in our own logic. -/
import Derived.Test.YtcdnjkogkibegaaF7
namespace Go.Proofs.Ytcdnjkogkibegaa
open Go.RowKit
set_option linter.unusedSimpArgs false

theorem sends_one {up : Nat → Nat → Bool} {a q : Nat} (h : ∀ b, up a b = decide (b = q)) (bs : List Int) : ∀ n, sendsC up a bs n = if q < n then [((a : Int), (q : Int), bs)] else []
  | 0 => by simp [sendsC]
  | n + 1 => by
    rw [sendsC, sends_one h bs n, h n]
    by_cases h1 : q < n
    · rw [if_pos h1, if_pos (show q < n + 1 by omega), show decide (n = q) = false from decide_eq_false (by omega)]
      simp
    · rw [if_neg h1]
      by_cases h2 : n = q
      · subst h2
        simp
      · rw [if_neg (show ¬ q < n + 1 by omega), show decide (n = q) = false from decide_eq_false h2]
        simp
theorem sends_no {up : Nat → Nat → Bool} {a : Nat} (h : ∀ b, up a b = false) (bs : List Int) : ∀ n, sendsC up a bs n = []
  | 0 => rfl
  | n + 1 => by rw [sendsC, sends_no h bs n, h n]; simp

abbrev upPQ (p q : Nat) : Nat → Nat → Bool := upC (fun _ _ => false) p q true
theorem upPQ_row {p q : Nat} (_hpq : p ≠ q) (b : Nat) : upPQ p q p b = decide (b = q) := by
  unfold upPQ upC
  by_cases h : b = q
  · rw [if_pos (.inl ⟨rfl, h⟩), decide_eq_true h]
  · rw [if_neg (by omega), decide_eq_false h]
theorem upPQ_cut {p q : Nat} (b : Nat) : upC (upPQ p q) q p false p b = false := by
  unfold upPQ upC
  split
  · rfl
  · rename_i h
    rw [if_neg (by omega)]

def pktC (p q i : Nat) : Int × Int × List Int := ((p : Int), (q : Int), [(i : Int)])
def cutsL (p q n : Nat) : List (Int × Int × List Int) := (List.range n).map (pktC p q)
theorem trim_small {α : Type} (l : List α) (h : l.length ≤ 1024) : trimC l = l := by
  unfold trimC
  rw [show l.length - 1024 = 0 by omega]
  rfl

structure CutI (lo nx0 : Nat) (H0 : AH) (n p q x m : Nat) (n0 : Int) (env : Env) (H : AH) (nx i : Nat) (l : List Pkt) (own : Nat) : Prop where
  hm : m = n - i
  hi : i ≤ n
  henv : env = [(0, .int .u8 n0), (7, .pointer (some ⟨x, 0, none⟩)), (8, .int .i64 p), (9, .int .i64 q), (10, .int .i64 i)]
  hnx : nx0 ≤ nx
  hp : nx0 ≤ x
  hkp : Kp (fun _ => False) nx0 H0 H
  he : EtherA lo nx H x (upPQ p q) l own
  hv : views l = cutsL p q i
  ho : own = 0 ∨ nx0 < own
def cutI (lo nx0 : Nat) (H0 : AH) (n p q x : Nat) (n0 : Int) (m : Nat) (env : Env) (H : AH) (nx : Nat) : Prop := ∃ i l own, CutI lo nx0 H0 n p q x m n0 env H nx i l own

structure CutJ (lo nx0 : Nat) (H0 : AH) (n p q x m : Nat) (n0 : Int) (env : Env) (H : AH) (nx i : Nat) (l : List Pkt) (own : Nat) : Prop where
  hm : m = n - i
  hi : i ≤ n
  henv : env = [(0, .int .u8 n0), (7, .pointer (some ⟨x, 0, none⟩)), (8, .int .i64 p), (9, .int .i64 q), (11, .int .i64 i)]
  hnx : nx0 ≤ nx
  hp : nx0 ≤ x
  hkp : Kp (fun _ => False) nx0 H0 H
  he : EtherA lo nx H x (upC (upPQ p q) q p false) l own
  hv : views l = (cutsL p q n).drop i
  ho : own = 0 ∨ nx0 < own
def cutJ (lo nx0 : Nat) (H0 : AH) (n p q x : Nat) (n0 : Int) (m : Nat) (env : Env) (H : AH) (nx : Nat) : Prop := ∃ i l own, CutJ lo nx0 H0 n p q x m n0 env H nx i l own

theorem cutsL_length (p q n : Nat) : (cutsL p q n).length = n := by simp [cutsL]
theorem cutsL_succ (p q n : Nat) : cutsL p q n ++ [pktC p q n] = cutsL p q (n + 1) := by simp [cutsL, List.range_succ]

set_option maxHeartbeats 8000000 in
theorem etherCuts_c {lo : Nat} {H : AH} {nx : Nat} (n0 a b : Int) (hn0 : 0 ≤ n0 ∧ n0 < 256) (ha : 0 ≤ a ∧ a < 256) (hb : 0 ≤ b ∧ b < 256) : ACalls Try.prog lo 4 #[.int .u8 n0, .int .u8 a, .int .u8 b] H nx (fun v H' nx' => v = .bool true ∧ nx ≤ nx' ∧ Kp (fun _ => False) nx H H') := by
  refine ACalls.withLo fun hlo => ?_
  refine acalls_of_awp L4 Try.func4 rfl (by kernel_rfl) ?_
  simp (disch := omega) only [go_sem, ↓reduceIte ]
  refine awake19_c.mono fun v H1 nx1 _ ⟨hv, hx1, hk1⟩ => ?_
  subst hv
  by_cases hab : a % 16 = b % 16
  · simp (disch := omega) only [go_sem, ↓reduceIte , hab]
    refine awake19_c.mono fun v H2 nx2 _ ⟨hv, hx2, hk2⟩ => ?_
    subst hv
    simp (disch := omega) only [go_sem, ↓reduceIte ]
    exact ⟨by omega, (by repeat first | exact Kp.refl _ _ _ | refine Kp.dropT ?_ (.inl (by omega)) | refine Kp.put ?_ (.inl (by omega)) | refine Kp.new ?_ (by omega) | refine Kp.put ?_ (.inr (by omega)) | refine Kp.trans0 ?_ (by assumption) (by omega) | refine Kp.transS ?_ (by assumption) (by omega) (fun b hb hT => by first | omega | (dsimp only at hT ⊢; omega) | (simp only at hT ⊢; omega))) ⟩
  · obtain ⟨p, hp⟩ : ∃ p : Nat, (p : Int) = a % 16 := ⟨(a % 16).toNat, by omega⟩
    obtain ⟨q, hq⟩ : ∃ q : Nat, (q : Int) = b % 16 := ⟨(b % 16).toNat, by omega⟩
    obtain ⟨n, hn⟩ : ∃ n : Nat, (n : Int) = n0 % 20 := ⟨(n0 % 20).toNat, by omega⟩
    rw [← hp, ← hq] at hab
    have hpq : p ≠ q := by omega
    simp (disch := omega) only [go_sem, ↓reduceIte , ← hp, ← hq, hab]
    intro x hx
    simp (disch := omega) only [go_sem, ↓reduceIte , ← hp, ← hq]
    refine (join_ok (EtherA.zero H1 (by omega)) p q true (by omega) (by omega) (by omega)).mono fun v H2 nx2 _ ⟨hv, hx2, hk2, hE2⟩ => ?_
    subst hv; subst hx2
    simp (disch := omega) only [go_sem, ↓reduceIte ]
    refine awp_loop (cutI lo nx H n p q x n0) n ⟨0, [], 0, ⟨by omega, by omega, rfl, by omega, by omega, (by repeat first | exact Kp.refl _ _ _ | refine Kp.dropT ?_ (.inl (by omega)) | refine Kp.put ?_ (.inl (by omega)) | refine Kp.new ?_ (by omega) | refine Kp.put ?_ (.inr (by omega)) | refine Kp.trans0 ?_ (by assumption) (by omega) | refine Kp.transS ?_ (by assumption) (by omega) (fun b hb hT => by first | omega | (dsimp only at hT ⊢; omega) | (simp only at hT ⊢; omega))) , hE2, rfl, .inl rfl⟩⟩ (fun m env H3 nx3 ⟨i, l, own, hI⟩ hn3 => ?_)
    obtain ⟨hm, hi, henv, hnx, hpn, hkp, hE, hv, ho⟩ := hI
    subst henv
    have hlen : l.length = i := by rw [← views_length, hv, cutsL_length]
    have hle := hE.q.choose_spec.2.le
    have hlt := hE.lt
    by_cases hik : i < n
    · simp (disch := omega) only [go_sem, ↓reduceIte , ← hn]
      refine buildSQ_cs (n := 1) [.int .u8 i] [.int .u8 i] sl34 zero5 (by omega) (by omega) rfl (by simp [cells_int]) rfl fun d hd => ?_
      simp (disch := omega) only [go_sem, ↓reduceIte ]
      have hbs : SlA (d + 1) (H3.new d [Value.int .u8 i].toArray 5) 1 (.slice (some ⟨d, 0, none⟩) 1 1) [(i : Int)].length (byteV [(i : Int)]) (d + 1) := SlA.ofNew rfl (by simp) (by simp [maxLen]) (by simp) (fun j _ => by simp [byteV])
      refine (send_ok (hE.new hd) (by omega) p (by omega) hbs (by simp) (by omega) (by omega)).mono fun v H4 nx4 _ ⟨hv4, hx4, hk4, l4, own4, hE4, hv4', ho4, _⟩ => ?_
      subst hv4
      simp (disch := omega) only [go_sem, ↓reduceIte ]
      refine ⟨n - (i + 1), by omega, i + 1, l4, own4, ⟨rfl, by omega, by simp, by omega, by omega, (by repeat first | exact Kp.refl _ _ _ | refine Kp.dropT ?_ (.inl (by omega)) | refine Kp.put ?_ (.inl (by omega)) | refine Kp.new ?_ (by omega) | refine Kp.put ?_ (.inr (by omega)) | refine Kp.trans0 ?_ (by assumption) (by omega) | refine Kp.transS ?_ (by assumption) (by omega) (fun b hb hT => by first | omega | (dsimp only at hT ⊢; omega) | (simp only at hT ⊢; omega))) , hE4, ?_, by omega⟩⟩
      rw [hv4', hv, sends_one (upPQ_row hpq), if_pos (by omega), ← cutsL_succ]
      exact trim_small _ (by simp [cutsL_length]; omega)
    · obtain rfl : i = n := by omega
      simp (disch := omega) only [go_sem, ↓reduceIte , ← hn]
      refine (join_ok hE q p false (by omega) (by omega) (by omega)).mono fun v H4 nx4 _ ⟨hv4, hx4, hk4, hE4⟩ => ?_
      subst hv4; subst hx4
      simp (disch := omega) only [go_sem, ↓reduceIte ]
      refine buildSQ_cs (n := 1) [.int .u8 120] [.int .u8 120] sl34 zero5 (by omega) (by omega) rfl (by simp [cells_int]) rfl fun d hd => ?_
      simp (disch := omega) only [go_sem, ↓reduceIte ]
      refine convQ_same sl34 (by kernel_rfl) (new_t_same _ _ _) ?_
      simp (disch := omega) only [go_sem, ↓reduceIte ]
      have hbs : SlA (d + 1) (H4.new d [Value.int .u8 120].toArray 5) 1 (.slice (some ⟨d, 0, none⟩) 1 1) [120].length (byteV [120]) (d + 1) := SlA.ofNew rfl (by simp) (by simp [maxLen]) (by simp) (fun j _ => by simp [byteV])
      have hE5 : EtherA lo (d + 1) ((H4.new d [Value.int .u8 120].toArray 5).dropT d) x _ l own := hE4.kp (S := fun _ => False) (by repeat first | exact Kp.refl _ _ _ | refine Kp.dropT ?_ (.inl (by omega)) | refine Kp.put ?_ (.inl (by omega)) | refine Kp.new ?_ (by omega) | refine Kp.put ?_ (.inr (by omega)) | refine Kp.trans0 ?_ (by assumption) (by omega) | refine Kp.transS ?_ (by assumption) (by omega) (fun b hb hT => by first | omega | (dsimp only at hT ⊢; omega) | (simp only at hT ⊢; omega)))  (by omega) (by simp) (by simp) (by simp)
      refine (send_ok hE5 (by omega) p (by omega) hbs.dropT (by simp) (by omega) (by omega)).mono fun v H6 nx6 _ ⟨hv6, hx6, hk6, l6, own6, hE6, hv6', ho6, _⟩ => ?_
      subst hv6
      rw [sends_no upPQ_cut] at hv6' ⊢
      rw [List.append_nil, trim_small _ (by rw [views_length]; omega)] at hv6'
      have hlen6 : l6.length = i := by rw [← views_length, hv6', views_length, hlen]
      simp (disch := omega) only [go_sem, ↓reduceIte , List.length_nil]
      refine (hears_c hE6 p q).mono fun v H7 nx7 _ ⟨hv7, hH7, hx7⟩ => ?_
      have hh : hearsC (upC (upPQ p q) q p false) p q = false := by simp [hearsC, upPQ_cut]
      rw [hh] at hv7
      subst hv7; subst hH7; subst hx7
      simp (disch := omega) only [go_sem, ↓reduceIte ]
      refine (len_c hE6).mono fun v H7 nx7 _ ⟨hv7, hH7, hx7⟩ => ?_
      subst hv7; subst hH7; subst hx7
      simp (disch := omega) only [go_sem, ↓reduceIte , hlen6, ← hn]
      refine awp_loop (cutJ lo nx H i p q x n0) i ⟨0, l6, own6, ⟨by omega, by omega, rfl, by omega, by omega, (by repeat first | exact Kp.refl _ _ _ | refine Kp.dropT ?_ (.inl (by omega)) | refine Kp.put ?_ (.inl (by omega)) | refine Kp.new ?_ (by omega) | refine Kp.put ?_ (.inr (by omega)) | refine Kp.trans0 ?_ (by assumption) (by omega) | refine Kp.transS ?_ (by assumption) (by omega) (fun b hb hT => by first | omega | (dsimp only at hT ⊢; omega) | (simp only at hT ⊢; omega))) , hE6, by rw [hv6', hv]; rfl, by omega⟩⟩ (fun m env H8 nx8 ⟨j, l8, own8, hJ⟩ hn8 => ?_)
      obtain ⟨hm8, hj8, henv8, hnx8, hpn8, hkp8, hE8, hv8, ho8⟩ := hJ
      subst henv8
      have hlen8 : l8.length = i - j := by rw [← views_length, hv8]; simp [cutsL_length]
      have hle8 := hE8.q.choose_spec.2.le
      have hlt8 := hE8.lt
      by_cases hji : j < i
      · have hl0 : 0 < l8.length := by omega
        have hat : atC 0 l8.length = 0 := by
          unfold atC
          rw [show IntKind.u64.wrap 0 = 0 by decide]
          simp
        obtain ⟨k0, hk0⟩ : ∃ k0, l8[0]? = some k0 := ⟨l8[0], by simp⟩
        have hk0v : k0.view = pktC p q j := by
          have h2 : (views l8)[0]? = some k0.view := by simp [views, hk0]
          rw [hv8] at h2
          unfold cutsL at h2
          rw [List.getElem?_drop, List.getElem?_map, List.getElem?_range (by omega)] at h2
          simpa using h2.symm
        have hfr : k0.fr = p := congrArg (fun y => y.1) hk0v
        have hto : k0.dst = q := congrArg (fun y => y.2.1) hk0v
        have hbs0 : k0.bs = [(j : Int)] := congrArg (fun y => y.2.2) hk0v
        simp (disch := omega) only [go_sem, ↓reduceIte , ← hn]
        refine (take_some hE8 hl0 0 k0 (by rw [hat]; exact hk0) (by rw [hbs0]; simp)).mono fun v H9 nx9 _ ⟨hx9, hk9, hE9, s, owns, hv9, hs9, ho9⟩ => ?_
        subst hv9
        rw [hbs0] at hs9
        change SlA nx9 H9 1 s 1 _ owns at hs9
        obtain ⟨g, off, cap, rfl, hg⟩ := hs9.open (by omega)
        obtain ⟨hcc, _⟩ := hs9.cells
        have hgl := hs9.le
        have c0 := hcc 0 (.int .u8 j) (by simp [byteV])
        rw [Nat.add_zero] at c0
        rw [hat, hfr, hto] at *
        simp (disch := omega) only [go_sem, ↓reduceIte ]
        intro d hd
        simp (disch := omega) only [go_sem, ↓reduceIte , c0, Int.toNat_zero]
        refine ⟨i - (j + 1), by omega, j + 1, _, own8, ⟨rfl, by omega, by simp, by omega, by omega, (by repeat first | exact Kp.refl _ _ _ | refine Kp.dropT ?_ (.inl (by omega)) | refine Kp.put ?_ (.inl (by omega)) | refine Kp.new ?_ (by omega) | refine Kp.put ?_ (.inr (by omega)) | refine Kp.trans0 ?_ (by assumption) (by omega) | refine Kp.transS ?_ (by assumption) (by omega) (fun b hb hT => by first | omega | (dsimp only at hT ⊢; omega) | (simp only at hT ⊢; omega))) , hE9.kp (S := fun _ => False) (by repeat first | exact Kp.refl _ _ _ | refine Kp.dropT ?_ (.inl (by omega)) | refine Kp.put ?_ (.inl (by omega)) | refine Kp.new ?_ (by omega) | refine Kp.put ?_ (.inr (by omega)) | refine Kp.trans0 ?_ (by assumption) (by omega) | refine Kp.transS ?_ (by assumption) (by omega) (fun b hb hT => by first | omega | (dsimp only at hT ⊢; omega) | (simp only at hT ⊢; omega)))  (by omega) (by simp) (by simp) (by simp), ?_, ho8⟩⟩
        have hvv : views (l8.take 0 ++ l8.drop (0 + 1)) = (views l8).drop 1 := by simp [views, List.map_drop]
        rw [hvv, hv8, List.drop_drop]
      · simp (disch := omega) only [go_sem, ↓reduceIte , ← hn]
        refine (len_c hE8).mono fun v H9 nx9 _ ⟨hv9, hH9, hx9⟩ => ?_
        subst hv9; subst hH9; subst hx9
        simp (disch := omega) only [go_sem, ↓reduceIte , hlen8, show i - j = 0 by omega]
        exact ⟨by omega, hkp8⟩
end Go.Proofs.Ytcdnjkogkibegaa
