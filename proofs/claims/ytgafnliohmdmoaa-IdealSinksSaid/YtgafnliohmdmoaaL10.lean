/- OUR OWN LOGIC OVER THE KIT'S. 10: slices by what is known, append. Nothing of the program stands here. -/
import Derived.Test.YtgafnliohmdmoaaL9
namespace Go.Proofs.Ytgafnliohmdmoaa
open Go.RowKit

/-- What lies below 'nx' and not in S is known as before. -/
def Kp (S : Nat → Prop) (nx : Nat) (H H' : AH) : Prop := ∀ b, b < nx → ¬ S b → (∀ o, H'.c b o = H.c b o) ∧ H'.o b = H.o b ∧ H'.t b = H.t b

theorem Kp.refl (S : Nat → Prop) (nx : Nat) (H : AH) : Kp S nx H H := fun _ _ _ => ⟨fun _ => rfl, rfl, rfl⟩
theorem Kp.trans {S T U : Nat → Prop} {nx nx' : Nat} {H H' H'' : AH} (h : Kp S nx H H') (h' : Kp T nx' H' H'') (hn : nx ≤ nx') (hs : ∀ b, b < nx → S b → U b) (ht : ∀ b, b < nx → T b → U b) : Kp U nx H H'' := fun b hb hu => by
  obtain ⟨a1, a2, a3⟩ := h b hb (fun x => hu (hs b hb x))
  obtain ⟨b1, b2, b3⟩ := h' b (by omega) (fun x => hu (ht b hb x))
  exact ⟨fun o => (b1 o).trans (a1 o), b2.trans a2, b3.trans a3⟩
theorem Kp.mono {S T : Nat → Prop} {nx nx' : Nat} {H H' : AH} (h : Kp S nx H H') (hn : nx' ≤ nx) (hs : ∀ b, b < nx' → S b → T b) : Kp T nx' H H' :=
  fun b hb hu => h b (by omega) (fun x => hu (hs b hb x))
theorem Kp.put {S : Nat → Prop} {nx : Nat} {H H' : AH} (h : Kp S nx H H') {b o : Nat} {v : Value} (hb : nx ≤ b ∨ S b) : Kp S nx H (H'.put b o v) := fun b' hb' hu => by
  obtain ⟨a1, a2, a3⟩ := h b' hb' hu
  have : b' ≠ b := fun e => by subst e; rcases hb with hb | hb; omega; exact hu hb
  exact ⟨fun o' => by rw [put_other _ _ _ _ _ (Or.inl this)]; exact a1 o', a2, a3⟩
theorem Kp.new {S : Nat → Prop} {nx : Nat} {H H' : AH} (h : Kp S nx H H') {n : Nat} {vs : Array Value} {e : TypeId} (hb : nx ≤ n) : Kp S nx H (H'.new n vs e) := fun b' hb' hu => by
  obtain ⟨a1, a2, a3⟩ := h b' hb' hu
  have : b' ≠ n := by omega
  exact ⟨fun o' => by rw [new_other _ _ _ _ _ this]; exact a1 o', by rw [new_o _ _ _ _ this]; exact a2, by rw [new_t_other _ _ _ _ this]; exact a3⟩
theorem Kp.puts {S : Nat → Prop} {nx : Nat} {H : AH} {b : Nat} (hb : nx ≤ b ∨ S b) : ∀ (vs : List Value) (o : Nat) (H' : AH), Kp S nx H H' → Kp S nx H (H'.puts b o vs)
  | [], _, _, h => h
  | _ :: r, _, _, h => Kp.puts hb r _ _ (h.put hb)

theorem puts_same (b : Nat) : ∀ (vs : List Value) (o : Nat) (H : AH) (j : Nat), j < vs.length → (H.puts b o vs).c b (o + j) = vs[j]?
  | [], _, _, _, h => by simp at h
  | v :: r, o, H, j, h => by
    rw [puts_cons]
    cases j with
    | zero =>
      have : ∀ (vs : List Value) (o' : Nat) (H : AH), o < o' → (H.puts b o' vs).c b o = H.c b o := fun vs => by
        induction vs with
        | nil => intro o' H _; rfl
        | cons u r ih => intro o' H ho; rw [puts_cons, ih _ _ (by omega), put_other _ _ _ _ _ (by omega)]
      show ((H.put b o v).puts b (o + 1) r).c b o = _
      rw [this r (o + 1) _ (by omega), put_same]; simp
    | succ j =>
      have := puts_same b r (o + 1) (H.put b o v) j (by simpa using h)
      rw [show o + (j + 1) = o + 1 + j by omega, this]; simp

theorem puts_other (b : Nat) : ∀ (vs : List Value) (o : Nat) (H : AH) (b' o' : Nat), (b' ≠ b ∨ o' < o ∨ o + vs.length ≤ o') → (H.puts b o vs).c b' o' = H.c b' o'
  | [], _, _, _, _, _ => rfl
  | v :: r, o, H, b', o', h => by
    rw [puts_cons, puts_other b r _ _ _ _ (by simp at h; omega), put_other _ _ _ _ _ (by simp at h; omega)]

theorem puts_o (b : Nat) : ∀ (vs : List Value) (o : Nat) (H : AH) (b' : Nat), (H.puts b o vs).o b' = H.o b' ∧ (H.puts b o vs).t b' = H.t b'
  | [], _, _, _ => ⟨rfl, rfl⟩
  | v :: r, o, H, b' => by rw [puts_cons]; exact puts_o b r _ _ b'

/-- A slice value with n elements (size cells each) reads as the cells xs; own: its block's number and one more, or 0. -/
def SlA (nx : Nat) (H : AH) (size : Nat) (v : Value) (n : Nat) (xs : List Value) (own : Nat) : Prop :=
  xs.length = n * size ∧ own ≤ nx ∧
  ((v = .slice none 0 0 ∧ n = 0 ∧ own = 0) ∨
   ∃ g off cap, v = .slice (some ⟨g, off, none⟩) n cap ∧ own = g + 1 ∧ n ≤ cap ∧ cap ≤ maxLen ∧ (∀ j, j < n * size → H.c g (off + j) = xs[j]?) ∧ ∀ j, j < cap * size → (H.c g (off + j)).isSome = true)

section
variable {nx : Nat} {H : AH} {size : Nat} {v : Value} {n : Nat} {xs : List Value} {own : Nat}

theorem SlA.nil (nx : Nat) (H : AH) (size : Nat) : SlA nx H size (.slice none 0 0) 0 [] 0 := ⟨by simp, by omega, .inl ⟨rfl, rfl, rfl⟩⟩
theorem SlA.form (h : SlA nx H size v n xs own) : ∃ a c, v = .slice a n c := by
  rcases h.2.2 with ⟨rfl, rfl, _⟩ | ⟨g, off, cap, rfl, _⟩ <;> exact ⟨_, _, rfl⟩
theorem SlA.one (h : SlA nx H size v n xs own) : v.oneCell' = true := by obtain ⟨a, c, rfl⟩ := h.form; rfl
theorem SlA.le (h : SlA nx H size v n xs own) : own ≤ nx := h.2.1
theorem SlA.maxLen (h : SlA nx H size v n xs own) : n ≤ Go.maxLen := by
  rcases h.2.2 with ⟨_, rfl, _⟩ | ⟨g, off, cap, _, _, h1, h2, _⟩
  · exact Nat.zero_le _
  · exact Nat.le_trans h1 h2

theorem SlA.kept {nx' : Nat} {H' : AH} (h : SlA nx H size v n xs own) (hn : own ≤ nx') (hk : ∀ b o, b + 1 = own → H'.c b o = H.c b o) : SlA nx' H' size v n xs own := by
  refine ⟨h.1, hn, ?_⟩
  rcases h.2.2 with h | ⟨g, off, cap, h1, h2, h3, h4, h5, h6⟩
  · exact .inl h
  · exact .inr ⟨g, off, cap, h1, h2, h3, h4, fun j hj => by rw [hk _ _ h2.symm]; exact h5 j hj, fun j hj => by rw [hk _ _ h2.symm]; exact h6 j hj⟩

theorem SlA.kp {S : Nat → Prop} {nx' : Nat} {H' : AH} (h : SlA nx H size v n xs own) (hk : Kp S nx H H') (hn : nx ≤ nx') (hs : ∀ b, b + 1 = own → ¬ S b) : SlA nx' H' size v n xs own :=
  h.kept (Nat.le_trans h.le hn) fun b o hb => (hk b (by have := h.le; omega) (hs b hb)).1 o

theorem SlA.put {b o : Nat} {u : Value} (h : SlA nx H size v n xs own) (hb : b + 1 ≠ own) : SlA nx (H.put b o u) size v n xs own :=
  h.kept h.le fun b' o' hb' => put_other _ _ _ _ _ (by omega)
theorem SlA.new {k : Nat} {vs : Array Value} {e : TypeId} (h : SlA nx H size v n xs own) (hb : nx ≤ k) : SlA (k + 1) (H.new k vs e) size v n xs own :=
  h.kept (by have := h.le; omega) fun b' o' hb' => new_other _ _ _ _ _ (by have := h.le; omega)
theorem SlA.bound {nx' : Nat} (h : SlA nx H size v n xs own) (hn : nx ≤ nx') : SlA nx' H size v n xs own := h.kept (by have := h.le; omega) fun _ _ _ => rfl

/-- A fresh row. -/
theorem SlA.ofNew {k : Nat} {cs : Array Value} {e : TypeId} {cap : Nat} (hl : xs.length = n * size) (hn : n ≤ cap) (hm : cap ≤ Go.maxLen) (hc : cap * size ≤ cs.size) (hx : ∀ j, j < n * size → cs[j]? = xs[j]?) :
    SlA (k + 1) (H.new k cs e) size (.slice (some ⟨k, 0, none⟩) n cap) n xs (k + 1) :=
  ⟨hl, Nat.le_refl _, .inr ⟨k, 0, cap, rfl, rfl, hn, hm, fun j hj => by rw [new_same, Nat.zero_add]; exact hx j hj, fun j hj => by
    rw [new_same, Nat.zero_add, Array.getElem?_eq_getElem (by omega)]; rfl⟩⟩

theorem SlA.cells {g off cap : Nat} (h : SlA nx H size (.slice (some ⟨g, off, none⟩) n cap) n xs own) :
    (∀ j u, xs[j]? = some u → H.c g (off + j) = some u) ∧ own = g + 1 ∧ n ≤ cap ∧ cap ≤ Go.maxLen ∧ (∀ j, j < cap * size → (H.c g (off + j)).isSome = true) := by
  rcases h.2.2 with ⟨h2, _⟩ | ⟨g', off', cap', h2, ho, hn, hm, hc, hs⟩
  · simp at h2
  · simp only [Value.slice.injEq, Option.some.injEq, Addr.mk.injEq, and_true, true_and] at h2
    obtain ⟨⟨rfl, rfl⟩, rfl⟩ := h2
    refine ⟨fun j u hu => ?_, ho, hn, hm, hs⟩
    have hj : j < n * size := by rw [← h.1]; exact (List.getElem?_eq_some_iff.1 hu).1
    rw [hc j hj, hu]

theorem SlA.open (h : SlA nx H size v n xs own) (hn : 0 < n) : ∃ g off cap, v = .slice (some ⟨g, off, none⟩) n cap ∧ own = g + 1 := by
  rcases h.2.2 with ⟨_, h2, _⟩ | ⟨g, off, cap, hv, ho, _⟩
  · omega
  · exact ⟨g, off, cap, hv, ho⟩
end

section
variable {P : Program} {lo : Nat} {H : AH} {nx : Nat}

theorem loadN_list (b : Nat) : ∀ (xs : List Value) (o : Nat), (∀ j, j < xs.length → H.c b (o + j) = xs[j]?) → loadN H b o xs.length = some xs
  | [], _, _ => rfl
  | x :: r, o, h => by
    have h0 := h 0 (by simp)
    simp only [Nat.add_zero, List.getElem?_cons_zero] at h0
    have hr := loadN_list b r (o + 1) (fun j hj => by
      have := h (j + 1) (by simpa using hj)
      rw [show o + (j + 1) = o + 1 + j by omega] at this
      simpa using this)
    simp [loadN, h0, hr]

/-- What a slice, or a string, yields to append. -/
structure SrcA (P : Program) (H : AH) (size : Nat) (tx : TypeId) (x : Value) (m : Nat) (news : List Value) : Prop where
  kind : ∃ d, P.underlying tx = some d ∧ ∀ k, d ≠ .int k
  len : peek P H (Builtin.lenOf x) = some m
  cells : peek P H (Builtin.firstCells size m x) = some news.toArray
  newsLen : news.length = m * size
  one : ∀ v ∈ news, v.oneCell' = true

theorem SlA.first {size n : Nat} {a : Option Addr} {c : Nat} {xs : List Value} {own : Nat} (h : SlA nx H size (.slice a n c) n xs own) :
    peek P H (Builtin.firstCells size n (.slice a n c)) = some xs.toArray := by
  rcases h.2.2 with ⟨h2, rfl, _⟩ | ⟨g, off, cap, h2, ho, hn, hm, hc, hs⟩
  · simp only [Value.slice.injEq] at h2
    obtain ⟨rfl, _, rfl⟩ := h2
    have : xs = [] := List.eq_nil_of_length_eq_zero (by simpa using h.1)
    subst this
    rfl
  · simp only [Value.slice.injEq] at h2
    obtain ⟨rfl, _, rfl⟩ := h2
    simp only [Builtin.firstCells, loadCells]
    rw [peek_loadCellsFrom, Nat.add_zero, ← h.1, loadN_list g xs off (fun j hj => hc j (by rw [← h.1]; exact hj))]
    simp

theorem SlA.src {size n : Nat} {v : Value} {xs : List Value} {own : Nat} {tx e : TypeId} {k : Nat} (h : SlA nx H size v n xs own) (ht : slT P tx = some (e, k)) (h1 : ∀ u ∈ xs, u.oneCell' = true) : SrcA P H size tx v n xs := by
  obtain ⟨a, c, rfl⟩ := h.form
  refine ⟨?_, rfl, h.first, h.1, h1⟩
  unfold slT at ht
  cases hu : P.underlying tx with
  | none => rw [hu] at ht; cases ht
  | some d =>
    rw [hu] at ht
    cases d <;> simp only [reduceCtorEq] at ht
    exact ⟨_, rfl, by simp⟩

theorem peek_zeroValue (t : TypeId) : peek P H (zeroValue t) = zeroT P t := by
  unfold zeroValue zeroT
  rw [peek_then, peek_typeInfo]
  cases P.info? t with
  | none => rfl
  | some i => simp only [Option.bind_some]; cases i.zero <;> rfl

/-- 'append' in all its arms. -/
theorem aw_append {t tx ty e : TypeId} {size bytes : Nat} {z : Value} {s x : Value} {n m : Nat} {xs news : List Value} {own : Nat} {K : Value → AH → Nat → Prop}
    (ht : slT P t = some (e, size)) (hz : zeroT P e = some z) (hzs : z.cells.size = size) (hby : bytesT P e = some bytes)
    (hs : SlA nx H size s n xs own) (hx : SrcA P H size tx x m news) (h63 : n + m ≤ maxLen) (hb : (n + m) * bytes ≤ 140737488355328) (hlo : own = 0 ∨ lo < own)
    (hk : ∀ v' H' nx' own', nx ≤ nx' → SlA nx' H' size v' (n + m) (xs ++ news) own' → (own' = own ∨ nx < own') → Kp (fun b => b + 1 = own) nx H H' → (v' = .slice none 0 0 ↔ s = .slice none 0 0 ∧ m = 0) → K v' H' nx') :
    aw P lo (Builtin.append_ #[t, tx] ty #[s, x]) K H nx := by
  obtain ⟨d, hd, hdn⟩ := hx.kind
  have hlen : (xs ++ news).length = (n + m) * size := by rw [List.length_append, hs.1, hx.newsLen, Nat.add_mul]
  unfold slT at ht
  cases hu : P.underlying t with
  | none => rw [hu] at ht; cases ht
  | some dd =>
  rw [hu] at ht
  cases dd <;> simp only [reduceCtorEq] at ht
  rename_i e'
  simp only [Option.map_eq_some_iff, Prod.mk.injEq] at ht
  obtain ⟨k', hk', rfl, rfl⟩ := ht
  obtain ⟨i, hi, hib⟩ : ∃ i, P.info? e' = some i ∧ i.bytes = bytes := by
    unfold bytesT at hby
    cases h : P.info? e' with
    | none => rw [h] at hby; cases hby
    | some i => rw [h] at hby; exact ⟨i, rfl, by simpa using hby⟩
  obtain ⟨a, c, rfl⟩ := hs.form
  unfold Builtin.append_
  simp only [List.getElem?_toArray, List.getElem?_cons_zero, List.getElem?_cons_succ]
  rw [aw_then]
  refine aw_of_peek (by rw [peek_underlying, hu]) _ ?_
  simp only
  rw [aw_then]
  refine aw_of_peek (by rw [peek_sizeOf, hk']) _ ?_
  rw [aw_then]
  refine aw_of_peek (by rw [peek_underlying, hd]) _ ?_
  rw [aw_then, aw_pure]
  split
  · exact absurd rfl (hdn _)
  simp only [Bool.false_eq_true, if_false, Bool.not_false, if_true, false_or]
  rw [aw_then]
  refine aw_of_peek hx.len _ ?_
  split
  · rename_i hroom
    rw [aw_then]
    refine aw_of_peek hx.cells _ ?_
    rcases hs.2.2 with ⟨h2, rfl, rfl⟩ | ⟨g, off, cap, h2, ho, hn, hm, hc, hsp⟩
    · simp only [Value.slice.injEq] at h2
      obtain ⟨rfl, _, rfl⟩ := h2
      simp only [aw_pure]
      obtain rfl : m = 0 := by omega
      have hnil : news = [] := List.eq_nil_of_length_eq_zero (by simpa using hx.newsLen)
      have hnil' : xs = [] := List.eq_nil_of_length_eq_zero (by simpa using hs.1)
      subst hnil; subst hnil'
      exact hk _ H nx 0 (Nat.le_refl _) (SlA.nil _ _ _) (.inl rfl) (Kp.refl _ _ _) (by simp)
    · simp only [Value.slice.injEq] at h2
      obtain ⟨rfl, _, rfl⟩ := h2
      have hle := hs.le
      have hmul : (n + m) * k' ≤ c * k' := Nat.mul_le_mul_right _ hroom
      rw [Nat.add_mul] at hmul
      simp only [aw_then, add_none]
      refine aw_storeCells (by omega) _ _ 0 _ (by simpa using hx.one) (fun j hj => ?_) ?_
      · simp only [hx.newsLen] at hj
        have := hsp (n * k' + j) (by omega)
        rwa [← Nat.add_assoc] at this
      · simp only [aw_pure, Nat.add_zero]
        refine hk _ _ nx own (Nat.le_refl _) ⟨hlen, hle, .inr ⟨g, off, c, rfl, ho, hroom, hm, fun j hj => ?_, fun j hj => ?_⟩⟩ (.inl rfl) (Kp.puts (S := fun b => b + 1 = own) (.inr ho.symm) _ _ _ (Kp.refl _ _ _)) (by simp)
        · by_cases hjn : j < n * k'
          · rw [puts_other _ _ _ _ _ _ (by omega), hc j hjn, List.getElem?_append_left (by rw [hs.1]; exact hjn)]
          · rw [show off + j = off + n * k' + (j - n * k') by omega, puts_same _ _ _ _ _ (by rw [hx.newsLen]; rw [Nat.add_mul] at hj; omega), List.getElem?_append_right (by rw [hs.1]; omega), hs.1]
        · by_cases hjn : j < n * k' ∨ off + n * k' + news.length ≤ off + j
          · rw [puts_other _ _ _ _ _ _ (by omega)]; exact hsp j hj
          · rw [show off + j = off + n * k' + (j - n * k') by omega, puts_same _ _ _ _ _ (by omega), List.getElem?_eq_getElem (by omega)]; rfl
  · rename_i hlt
    have hty : peek P H (typeInfo e') = some i := by rw [peek_typeInfo, hi]
    have hfit := growslice_fits (bytes := i.bytes) (Nat.lt_of_not_le hlt) (by rw [hib]; exact hb)
    simp only [aw_then]
    have h64 : ¬ ((n + m : Nat) : Int) > IntKind.i64.max := by
      have h' := h63; simp only [maxLen] at h'
      have : IntKind.i64.max = 9223372036854775807 := rfl
      omega
    refine aw_of_peek hty _ ?_
    rw [if_neg (fun hh => h64 hh.1)]
    rw [aw_then]
    refine aw_of_peek hty _ ?_
    rw [if_neg (by omega)]
    have hch : ∀ t0, aw P lo (do
        askRoom (Question.cut (.appendCap (n + m) c e') t0 * (← typeInfo e').bytes)
        let old ← Builtin.firstCells k' n (.slice a n c)
        let new ← (if true = true then Builtin.firstCells k' m x else if m * k' = 0 then pure #[] else do pure (Builtin.zeroCells (← zeroValue e').cells m))
        let rest := Builtin.zeroCells (← zeroValue e').cells (Question.cut (.appendCap (n + m) c e') t0 - (n + m))
        pure (.slice (some (← newRow e' (old ++ new ++ rest))) (n + m) (Question.cut (.appendCap (n + m) c e') t0))) K H nx := fun t0 => by
      have hge : n + m ≤ Question.cut (.appendCap (n + m) c e') t0 := by simp [Question.cut]
      have hcm : Question.cut (.appendCap (n + m) c e') t0 ≤ maxLen := by
        have hlt := Nat.mod_lt t0 (show 0 < 2 ^ 63 - (n + m) by simp only [maxLen] at h63; omega)
        simp only [Question.cut, maxLen] at h63 ⊢
        omega
      generalize Question.cut (.appendCap (n + m) c e') t0 = cap' at hge hcm ⊢
      simp only [aw_then]
      refine aw_of_peek hty _ ?_
      refine aw_of_peek (a := ()) (by unfold askRoom; split <;> rfl) _ ?_
      refine aw_of_peek hs.first _ ?_
      simp only [if_true]
      refine aw_of_peek hx.cells _ ?_
      refine aw_of_peek (by rw [peek_zeroValue, hz]) _ ?_
      refine aw_newRow (K := fun b H nx => K (.slice (some b) (n + m) cap') H nx) fun g hg => ?_
      refine hk _ _ _ (g + 1) (by omega) (SlA.ofNew hlen hge hcm ?_ ?_) (.inr (by omega)) ((Kp.refl _ _ _).new hg) ?_
      · simp only [Array.size_append, List.size_toArray, size_zeroCells, hzs, hlen, List.append_toArray]
        rw [← Nat.add_mul]
        exact Nat.mul_le_mul_right _ (by omega)
      · intro j hj
        rw [Array.getElem?_append_left (by simp only [List.append_toArray, List.size_toArray, hlen]; exact hj)]
        simp
      · simp only [Value.slice.injEq, reduceCtorEq, false_and, false_iff]
        rintro ⟨⟨rfl, rfl, rfl⟩, rfl⟩
        simp at hlt
    simp only [choose, aw, aw_then] at hch ⊢
    exact ⟨fun hf => by simp [Question.forced] at hf, fun _ t0 => hch t0⟩
end

end Go.Proofs.Ytgafnliohmdmoaa
