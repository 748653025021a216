/- Ether, in our own logic: a new ether; the law's own example. -/
import Derived.Test.YtcdnjkogkibegaaF5
namespace Go.Proofs.Ytcdnjkogkibegaa
open Go.RowKit
set_option linter.unusedSimpArgs false

theorem zEther : z29.cells = (List.replicate 256 (Value.bool false) ++ [Value.slice none 0 0]).toArray := by kernel_rfl

theorem EtherA.zero {lo n : Nat} (H : AH) (h : lo ≤ n) : EtherA lo (n + 1) (H.new n z29.cells 29) n (fun _ _ => false) [] 0 := by
  refine ⟨h, by omega, fun a b ha hb => ?_, ⟨.slice none 0 0, ?_, SlA.nil _ _ _⟩, .inl rfl, by omega, by simp⟩
  · rw [new_same, zEther, List.getElem?_toArray, List.getElem?_append_left (by rw [List.length_replicate]; omega), List.getElem?_replicate, if_pos (by omega)]
  · rw [new_same, zEther, List.getElem?_toArray, List.getElem?_append_right (by rw [List.length_replicate]; omega), List.length_replicate]
    rfl

theorem awake19_c {lo : Nat} {H : AH} {nx : Nat} : ACalls Try.prog lo 9 #[] H nx (fun v H' nx' => v = .bool true ∧ nx ≤ nx' ∧ Kp (fun _ => False) nx H H') := by
  refine ACalls.withLo fun hlo => ?_
  refine acalls_of_awp L9 Try.func9 rfl (by kernel_rfl) ?_
  simp (disch := omega) only [go_sem, ↓reduceIte ]
  intro n hn
  simp (disch := omega) only [go_sem, ↓reduceIte ]
  refine (join_ok (EtherA.zero H (by omega)) 0 1 true (by omega) (by omega) (by omega)).mono fun v H1 nx1 _ ⟨hv, hx1, hk1, hE1⟩ => ?_
  subst hv; subst hx1
  simp (disch := omega) only [go_sem, ↓reduceIte ]
  refine buildSQ_cs (n := 1) [.int .u8 112] [.int .u8 112] sl34 zero5 (by omega) (by omega) rfl (by simp [cells_int]) rfl fun d hd => ?_
  simp (disch := omega) only [go_sem, ↓reduceIte ]
  refine convQ_same sl34 (by kernel_rfl) (new_t_same _ _ _) ?_
  simp (disch := omega) only [go_sem, ↓reduceIte ]
  have hb : SlA (d + 1) (H1.new d [Value.int .u8 112].toArray 5) 1 (.slice (some ⟨d, 0, none⟩) 1 1) [112].length (byteV [112]) (d + 1) := SlA.ofNew rfl (by simp) (by simp [maxLen]) (by simp) (fun j _ => by simp [byteV])
  have hE2 : EtherA lo (d + 1) ((H1.new d [Value.int .u8 112].toArray 5).dropT d) n _ [] 0 := hE1.kp (S := fun _ => False) (by repeat first | exact Kp.refl _ _ _ | refine Kp.dropT ?_ (.inl (by omega)) | refine Kp.put ?_ (.inl (by omega)) | refine Kp.new ?_ (by omega) | refine Kp.put ?_ (.inr (by omega)) | refine Kp.trans0 ?_ (by assumption) (by omega) | refine Kp.transS ?_ (by assumption) (by omega) (fun b hb hT => by first | omega | (dsimp only at hT ⊢; omega) | (simp only at hT ⊢; omega)))  (by omega) (by simp) (by simp) (by simp)
  refine (send_ok hE2 (by simp) 0 (by omega) hb.dropT (by simp) (by omega) (by omega)).mono fun v H3 nx3 _ ⟨hv, hx3, hk3, l3, own3, hE3, hv3, ho3, _⟩ => ?_
  subst hv
  have hn1 : (sendsC (upC (fun _ _ => false) 0 1 true) 0 [112] 16).length = 1 := by decide
  rw [hn1]
  simp (disch := omega) only [go_sem, ↓reduceIte ]
  refine (hears_c hE3 1 0).mono fun v H4 nx4 _ ⟨hv, hH4, hx4⟩ => ?_
  subst hv; subst hH4; subst hx4
  simp (disch := omega) only [go_sem, ↓reduceIte ]
  exact ⟨by decide, by omega, (by repeat first | exact Kp.refl _ _ _ | refine Kp.dropT ?_ (.inl (by omega)) | refine Kp.put ?_ (.inl (by omega)) | refine Kp.new ?_ (by omega) | refine Kp.put ?_ (.inr (by omega)) | refine Kp.trans0 ?_ (by assumption) (by omega) | refine Kp.transS ?_ (by assumption) (by omega) (fun b hb hT => by first | omega | (dsimp only at hT ⊢; omega) | (simp only at hT ⊢; omega))) ⟩
end Go.Proofs.Ytcdnjkogkibegaa
