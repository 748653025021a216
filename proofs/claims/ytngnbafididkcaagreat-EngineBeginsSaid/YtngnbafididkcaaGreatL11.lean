/- OUR OWN LOGIC OVER THE KIT'S. 10: slices by what is known, append. Nothing of the program stands here. OUR OWN LOGIC OVER THE KIT'S. 11: the equations that a seat's printed facts are instances of. Nothing of the program stands here. -/
import Derived.Test.YtngnbafididkcaaGreatL9
section
namespace Go.Proofs.YtngnbafididkcaaGreat
open Go.RowKit

/-- What lies below 'nx' and not in S is known as before. -/
def Kp (S : Nat → Prop) (nx : Nat) (H H' : AH) : Prop := ∀ b, b < nx → ¬ S b → (∀ o, H'.c b o = H.c b o) ∧ H'.o b = H.o b ∧ H'.t b = H.t b

theorem Kp.refl (S : Nat → Prop) (nx : Nat) (H : AH) : Kp S nx H H := fun _ _ _ => ⟨fun _ => rfl, rfl, rfl⟩
theorem Kp.trans {S T U : Nat → Prop} {nx nx' : Nat} {H H' H'' : AH} (h : Kp S nx H H') (h' : Kp T nx' H' H'') (hn : nx ≤ nx') (hs : ∀ b, b < nx → S b → U b) (ht : ∀ b, b < nx → T b → U b) : Kp U nx H H'' := fun b hb hu => by
  obtain ⟨a1, a2, a3⟩ := h b hb (fun x => hu (hs b hb x))
  obtain ⟨b1, b2, b3⟩ := h' b (by omega) (fun x => hu (ht b hb x))
  exact ⟨fun o => (b1 o).trans (a1 o), b2.trans a2, b3.trans a3⟩
theorem Kp.mono {S T : Nat → Prop} {nx nx' : Nat} {H H' : AH} (h : Kp S nx H H') (hn : nx' ≤ nx) (hs : ∀ b, b < nx' → S b → T b) : Kp T nx' H H' :=
  fun b hb hu => h b (by omega) (fun x => hu (hs b hb x))
theorem Kp.put {S : Nat → Prop} {nx : Nat} {H H' : AH} (h : Kp S nx H H') {b o : Nat} {v : Value} (hb : nx ≤ b ∨ S b) : Kp S nx H (H'.put b o v) := fun b' hb' hu => by
  obtain ⟨a1, a2, a3⟩ := h b' hb' hu
  have : b' ≠ b := fun e => by subst e; rcases hb with hb | hb; omega; exact hu hb
  exact ⟨fun o' => by rw [put_other _ _ _ _ _ (Or.inl this)]; exact a1 o', a2, a3⟩
theorem Kp.new {S : Nat → Prop} {nx : Nat} {H H' : AH} (h : Kp S nx H H') {n : Nat} {vs : Array Value} {e : TypeId} (hb : nx ≤ n) : Kp S nx H (H'.new n vs e) := fun b' hb' hu => by
  obtain ⟨a1, a2, a3⟩ := h b' hb' hu
  have : b' ≠ n := by omega
  exact ⟨fun o' => by rw [new_other _ _ _ _ _ this]; exact a1 o', by rw [new_o _ _ _ _ this]; exact a2, by rw [new_t_other _ _ _ _ this]; exact a3⟩
theorem Kp.puts {S : Nat → Prop} {nx : Nat} {H : AH} {b : Nat} (hb : nx ≤ b ∨ S b) : ∀ (vs : List Value) (o : Nat) (H' : AH), Kp S nx H H' → Kp S nx H (H'.puts b o vs)
  | [], _, _, h => h
  | _ :: r, _, _, h => Kp.puts hb r _ _ (h.put hb)

theorem puts_same (b : Nat) : ∀ (vs : List Value) (o : Nat) (H : AH) (j : Nat), j < vs.length → (H.puts b o vs).c b (o + j) = vs[j]?
  | [], _, _, _, h => by simp at h
  | v :: r, o, H, j, h => by
    rw [puts_cons]
    cases j with
    | zero =>
      have : ∀ (vs : List Value) (o' : Nat) (H : AH), o < o' → (H.puts b o' vs).c b o = H.c b o := fun vs => by
        induction vs with
        | nil => intro o' H _; rfl
        | cons u r ih => intro o' H ho; rw [puts_cons, ih _ _ (by omega), put_other _ _ _ _ _ (by omega)]
      show ((H.put b o v).puts b (o + 1) r).c b o = _
      rw [this r (o + 1) _ (by omega), put_same]; simp
    | succ j =>
      have := puts_same b r (o + 1) (H.put b o v) j (by simpa using h)
      rw [show o + (j + 1) = o + 1 + j by omega, this]; simp

theorem puts_other (b : Nat) : ∀ (vs : List Value) (o : Nat) (H : AH) (b' o' : Nat), (b' ≠ b ∨ o' < o ∨ o + vs.length ≤ o') → (H.puts b o vs).c b' o' = H.c b' o'
  | [], _, _, _, _, _ => rfl
  | v :: r, o, H, b', o', h => by
    rw [puts_cons, puts_other b r _ _ _ _ (by simp at h; omega), put_other _ _ _ _ _ (by simp at h; omega)]

theorem puts_o (b : Nat) : ∀ (vs : List Value) (o : Nat) (H : AH) (b' : Nat), (H.puts b o vs).o b' = H.o b' ∧ (H.puts b o vs).t b' = H.t b'
  | [], _, _, _ => ⟨rfl, rfl⟩
  | v :: r, o, H, b' => by rw [puts_cons]; exact puts_o b r _ _ b'

/-- A slice value with n elements (size cells each) reads as the cells xs; own: its block's number and one more, or 0. -/
def SlA (nx : Nat) (H : AH) (size : Nat) (v : Value) (n : Nat) (xs : List Value) (own : Nat) : Prop :=
  xs.length = n * size ∧ own ≤ nx ∧
  ((v = .slice none 0 0 ∧ n = 0 ∧ own = 0) ∨
   ∃ g off cap, v = .slice (some ⟨g, off, none⟩) n cap ∧ own = g + 1 ∧ n ≤ cap ∧ cap ≤ maxLen ∧ (∀ j, j < n * size → H.c g (off + j) = xs[j]?) ∧ ∀ j, j < cap * size → (H.c g (off + j)).isSome = true)

section
variable {nx : Nat} {H : AH} {size : Nat} {v : Value} {n : Nat} {xs : List Value} {own : Nat}

theorem SlA.nil (nx : Nat) (H : AH) (size : Nat) : SlA nx H size (.slice none 0 0) 0 [] 0 := ⟨by simp, by omega, .inl ⟨rfl, rfl, rfl⟩⟩
theorem SlA.form (h : SlA nx H size v n xs own) : ∃ a c, v = .slice a n c := by
  rcases h.2.2 with ⟨rfl, rfl, _⟩ | ⟨g, off, cap, rfl, _⟩ <;> exact ⟨_, _, rfl⟩
theorem SlA.one (h : SlA nx H size v n xs own) : v.oneCell' = true := by obtain ⟨a, c, rfl⟩ := h.form; rfl
theorem SlA.le (h : SlA nx H size v n xs own) : own ≤ nx := h.2.1
theorem SlA.maxLen (h : SlA nx H size v n xs own) : n ≤ Go.maxLen := by
  rcases h.2.2 with ⟨_, rfl, _⟩ | ⟨g, off, cap, _, _, h1, h2, _⟩
  · exact Nat.zero_le _
  · exact Nat.le_trans h1 h2

theorem SlA.kept {nx' : Nat} {H' : AH} (h : SlA nx H size v n xs own) (hn : own ≤ nx') (hk : ∀ b o, b + 1 = own → H'.c b o = H.c b o) : SlA nx' H' size v n xs own := by
  refine ⟨h.1, hn, ?_⟩
  rcases h.2.2 with h | ⟨g, off, cap, h1, h2, h3, h4, h5, h6⟩
  · exact .inl h
  · exact .inr ⟨g, off, cap, h1, h2, h3, h4, fun j hj => by rw [hk _ _ h2.symm]; exact h5 j hj, fun j hj => by rw [hk _ _ h2.symm]; exact h6 j hj⟩

theorem SlA.kp {S : Nat → Prop} {nx' : Nat} {H' : AH} (h : SlA nx H size v n xs own) (hk : Kp S nx H H') (hn : nx ≤ nx') (hs : ∀ b, b + 1 = own → ¬ S b) : SlA nx' H' size v n xs own :=
  h.kept (Nat.le_trans h.le hn) fun b o hb => (hk b (by have := h.le; omega) (hs b hb)).1 o

theorem SlA.put {b o : Nat} {u : Value} (h : SlA nx H size v n xs own) (hb : b + 1 ≠ own) : SlA nx (H.put b o u) size v n xs own :=
  h.kept h.le fun b' o' hb' => put_other _ _ _ _ _ (by omega)
theorem SlA.new {k : Nat} {vs : Array Value} {e : TypeId} (h : SlA nx H size v n xs own) (hb : nx ≤ k) : SlA (k + 1) (H.new k vs e) size v n xs own :=
  h.kept (by have := h.le; omega) fun b' o' hb' => new_other _ _ _ _ _ (by have := h.le; omega)
theorem SlA.bound {nx' : Nat} (h : SlA nx H size v n xs own) (hn : nx ≤ nx') : SlA nx' H size v n xs own := h.kept (by have := h.le; omega) fun _ _ _ => rfl

/-- A fresh row. -/
theorem SlA.ofNew {k : Nat} {cs : Array Value} {e : TypeId} {cap : Nat} (hl : xs.length = n * size) (hn : n ≤ cap) (hm : cap ≤ Go.maxLen) (hc : cap * size ≤ cs.size) (hx : ∀ j, j < n * size → cs[j]? = xs[j]?) :
    SlA (k + 1) (H.new k cs e) size (.slice (some ⟨k, 0, none⟩) n cap) n xs (k + 1) :=
  ⟨hl, Nat.le_refl _, .inr ⟨k, 0, cap, rfl, rfl, hn, hm, fun j hj => by rw [new_same, Nat.zero_add]; exact hx j hj, fun j hj => by
    rw [new_same, Nat.zero_add, Array.getElem?_eq_getElem (by omega)]; rfl⟩⟩

theorem SlA.cells {g off cap : Nat} (h : SlA nx H size (.slice (some ⟨g, off, none⟩) n cap) n xs own) :
    (∀ j u, xs[j]? = some u → H.c g (off + j) = some u) ∧ own = g + 1 ∧ n ≤ cap ∧ cap ≤ Go.maxLen ∧ (∀ j, j < cap * size → (H.c g (off + j)).isSome = true) := by
  rcases h.2.2 with ⟨h2, _⟩ | ⟨g', off', cap', h2, ho, hn, hm, hc, hs⟩
  · simp at h2
  · simp only [Value.slice.injEq, Option.some.injEq, Addr.mk.injEq, and_true, true_and] at h2
    obtain ⟨⟨rfl, rfl⟩, rfl⟩ := h2
    refine ⟨fun j u hu => ?_, ho, hn, hm, hs⟩
    have hj : j < n * size := by rw [← h.1]; exact (List.getElem?_eq_some_iff.1 hu).1
    rw [hc j hj, hu]

theorem SlA.open (h : SlA nx H size v n xs own) (hn : 0 < n) : ∃ g off cap, v = .slice (some ⟨g, off, none⟩) n cap ∧ own = g + 1 := by
  rcases h.2.2 with ⟨_, h2, _⟩ | ⟨g, off, cap, hv, ho, _⟩
  · omega
  · exact ⟨g, off, cap, hv, ho⟩
end

section
variable {P : Program} {lo : Nat} {H : AH} {nx : Nat}

theorem loadN_list (b : Nat) : ∀ (xs : List Value) (o : Nat), (∀ j, j < xs.length → H.c b (o + j) = xs[j]?) → loadN H b o xs.length = some xs
  | [], _, _ => rfl
  | x :: r, o, h => by
    have h0 := h 0 (by simp)
    simp only [Nat.add_zero, List.getElem?_cons_zero] at h0
    have hr := loadN_list b r (o + 1) (fun j hj => by
      have := h (j + 1) (by simpa using hj)
      rw [show o + (j + 1) = o + 1 + j by omega] at this
      simpa using this)
    simp [loadN, h0, hr]

/-- What a slice, or a string, yields to append. -/
structure SrcA (P : Program) (H : AH) (size : Nat) (tx : TypeId) (x : Value) (m : Nat) (news : List Value) : Prop where
  kind : ∃ d, P.underlying tx = some d ∧ ∀ k, d ≠ .int k
  len : peek P H (Builtin.lenOf x) = some m
  cells : peek P H (Builtin.firstCells size m x) = some news.toArray
  newsLen : news.length = m * size
  one : ∀ v ∈ news, v.oneCell' = true

theorem SlA.first {size n : Nat} {a : Option Addr} {c : Nat} {xs : List Value} {own : Nat} (h : SlA nx H size (.slice a n c) n xs own) :
    peek P H (Builtin.firstCells size n (.slice a n c)) = some xs.toArray := by
  rcases h.2.2 with ⟨h2, rfl, _⟩ | ⟨g, off, cap, h2, ho, hn, hm, hc, hs⟩
  · simp only [Value.slice.injEq] at h2
    obtain ⟨rfl, _, rfl⟩ := h2
    have : xs = [] := List.eq_nil_of_length_eq_zero (by simpa using h.1)
    subst this
    rfl
  · simp only [Value.slice.injEq] at h2
    obtain ⟨rfl, _, rfl⟩ := h2
    simp only [Builtin.firstCells, loadCells]
    rw [peek_loadCellsFrom, Nat.add_zero, ← h.1, loadN_list g xs off (fun j hj => hc j (by rw [← h.1]; exact hj))]
    simp

theorem SlA.src {size n : Nat} {v : Value} {xs : List Value} {own : Nat} {tx e : TypeId} {k : Nat} (h : SlA nx H size v n xs own) (ht : slT P tx = some (e, k)) (h1 : ∀ u ∈ xs, u.oneCell' = true) : SrcA P H size tx v n xs := by
  obtain ⟨a, c, rfl⟩ := h.form
  refine ⟨?_, rfl, h.first, h.1, h1⟩
  unfold slT at ht
  cases hu : P.underlying tx with
  | none => rw [hu] at ht; cases ht
  | some d =>
    rw [hu] at ht
    cases d <;> simp only [reduceCtorEq] at ht
    exact ⟨_, rfl, by simp⟩

theorem peek_zeroValue (t : TypeId) : peek P H (zeroValue t) = zeroT P t := by
  unfold zeroValue zeroT
  rw [peek_then, peek_typeInfo]
  cases P.info? t with
  | none => rfl
  | some i => simp only [Option.bind_some]; cases i.zero <;> rfl

/-- 'append' in all its arms. -/
theorem aw_append {t tx ty e : TypeId} {size bytes : Nat} {z : Value} {s x : Value} {n m : Nat} {xs news : List Value} {own : Nat} {K : Value → AH → Nat → Prop}
    (ht : slT P t = some (e, size)) (hz : zeroT P e = some z) (hzs : z.cells.size = size) (hby : bytesT P e = some bytes)
    (hs : SlA nx H size s n xs own) (hx : SrcA P H size tx x m news) (h63 : n + m ≤ maxLen) (hb : (n + m) * bytes ≤ 140737488355328) (hlo : own = 0 ∨ lo < own)
    (hk : ∀ v' H' nx' own', nx ≤ nx' → SlA nx' H' size v' (n + m) (xs ++ news) own' → (own' = own ∨ nx < own') → Kp (fun b => b + 1 = own) nx H H' → (v' = .slice none 0 0 ↔ s = .slice none 0 0 ∧ m = 0) → K v' H' nx') :
    aw P lo (Builtin.append_ #[t, tx] ty #[s, x]) K H nx := by
  obtain ⟨d, hd, hdn⟩ := hx.kind
  have hlen : (xs ++ news).length = (n + m) * size := by rw [List.length_append, hs.1, hx.newsLen, Nat.add_mul]
  unfold slT at ht
  cases hu : P.underlying t with
  | none => rw [hu] at ht; cases ht
  | some dd =>
  rw [hu] at ht
  cases dd <;> simp only [reduceCtorEq] at ht
  rename_i e'
  simp only [Option.map_eq_some_iff, Prod.mk.injEq] at ht
  obtain ⟨k', hk', rfl, rfl⟩ := ht
  obtain ⟨i, hi, hib⟩ : ∃ i, P.info? e' = some i ∧ i.bytes = bytes := by
    unfold bytesT at hby
    cases h : P.info? e' with
    | none => rw [h] at hby; cases hby
    | some i => rw [h] at hby; exact ⟨i, rfl, by simpa using hby⟩
  obtain ⟨a, c, rfl⟩ := hs.form
  unfold Builtin.append_
  simp only [List.getElem?_toArray, List.getElem?_cons_zero, List.getElem?_cons_succ]
  rw [aw_then]
  refine aw_of_peek (by rw [peek_underlying, hu]) _ ?_
  simp only
  rw [aw_then]
  refine aw_of_peek (by rw [peek_sizeOf, hk']) _ ?_
  rw [aw_then]
  refine aw_of_peek (by rw [peek_underlying, hd]) _ ?_
  rw [aw_then, aw_pure]
  split
  · exact absurd rfl (hdn _)
  simp only [Bool.false_eq_true, if_false, Bool.not_false, if_true, false_or]
  rw [aw_then]
  refine aw_of_peek hx.len _ ?_
  split
  · rename_i hroom
    rw [aw_then]
    refine aw_of_peek hx.cells _ ?_
    rcases hs.2.2 with ⟨h2, rfl, rfl⟩ | ⟨g, off, cap, h2, ho, hn, hm, hc, hsp⟩
    · simp only [Value.slice.injEq] at h2
      obtain ⟨rfl, _, rfl⟩ := h2
      simp only [aw_pure]
      obtain rfl : m = 0 := by omega
      have hnil : news = [] := List.eq_nil_of_length_eq_zero (by simpa using hx.newsLen)
      have hnil' : xs = [] := List.eq_nil_of_length_eq_zero (by simpa using hs.1)
      subst hnil; subst hnil'
      exact hk _ H nx 0 (Nat.le_refl _) (SlA.nil _ _ _) (.inl rfl) (Kp.refl _ _ _) (by simp)
    · simp only [Value.slice.injEq] at h2
      obtain ⟨rfl, _, rfl⟩ := h2
      have hle := hs.le
      have hmul : (n + m) * k' ≤ c * k' := Nat.mul_le_mul_right _ hroom
      rw [Nat.add_mul] at hmul
      simp only [aw_then, add_none]
      refine aw_storeCells (by omega) _ _ 0 _ (by simpa using hx.one) (fun j hj => ?_) ?_
      · simp only [hx.newsLen] at hj
        have := hsp (n * k' + j) (by omega)
        rwa [← Nat.add_assoc] at this
      · simp only [aw_pure, Nat.add_zero]
        refine hk _ _ nx own (Nat.le_refl _) ⟨hlen, hle, .inr ⟨g, off, c, rfl, ho, hroom, hm, fun j hj => ?_, fun j hj => ?_⟩⟩ (.inl rfl) (Kp.puts (S := fun b => b + 1 = own) (.inr ho.symm) _ _ _ (Kp.refl _ _ _)) (by simp)
        · by_cases hjn : j < n * k'
          · rw [puts_other _ _ _ _ _ _ (by omega), hc j hjn, List.getElem?_append_left (by rw [hs.1]; exact hjn)]
          · rw [show off + j = off + n * k' + (j - n * k') by omega, puts_same _ _ _ _ _ (by rw [hx.newsLen]; rw [Nat.add_mul] at hj; omega), List.getElem?_append_right (by rw [hs.1]; omega), hs.1]
        · by_cases hjn : j < n * k' ∨ off + n * k' + news.length ≤ off + j
          · rw [puts_other _ _ _ _ _ _ (by omega)]; exact hsp j hj
          · rw [show off + j = off + n * k' + (j - n * k') by omega, puts_same _ _ _ _ _ (by omega), List.getElem?_eq_getElem (by omega)]; rfl
  · rename_i hlt
    have hty : peek P H (typeInfo e') = some i := by rw [peek_typeInfo, hi]
    have hfit := growslice_fits (bytes := i.bytes) (Nat.lt_of_not_le hlt) (by rw [hib]; exact hb)
    simp only [aw_then]
    have h64 : ¬ ((n + m : Nat) : Int) > IntKind.i64.max := by
      have h' := h63; simp only [maxLen] at h'
      have : IntKind.i64.max = 9223372036854775807 := rfl
      omega
    refine aw_of_peek hty _ ?_
    rw [if_neg (fun hh => h64 hh.1)]
    rw [aw_then]
    refine aw_of_peek hty _ ?_
    rw [if_neg (by omega)]
    have hch : ∀ t0, aw P lo (do
        askRoom (Question.cut (.appendCap (n + m) c e') t0 * (← typeInfo e').bytes)
        let old ← Builtin.firstCells k' n (.slice a n c)
        let new ← (if true = true then Builtin.firstCells k' m x else if m * k' = 0 then pure #[] else do pure (Builtin.zeroCells (← zeroValue e').cells m))
        let rest := Builtin.zeroCells (← zeroValue e').cells (Question.cut (.appendCap (n + m) c e') t0 - (n + m))
        pure (.slice (some (← newRow e' (old ++ new ++ rest))) (n + m) (Question.cut (.appendCap (n + m) c e') t0))) K H nx := fun t0 => by
      have hge : n + m ≤ Question.cut (.appendCap (n + m) c e') t0 := by simp [Question.cut]
      have hcm : Question.cut (.appendCap (n + m) c e') t0 ≤ maxLen := by
        have hlt := Nat.mod_lt t0 (show 0 < 2 ^ 63 - (n + m) by simp only [maxLen] at h63; omega)
        simp only [Question.cut, maxLen] at h63 ⊢
        omega
      generalize Question.cut (.appendCap (n + m) c e') t0 = cap' at hge hcm ⊢
      simp only [aw_then]
      refine aw_of_peek hty _ ?_
      refine aw_of_peek (a := ()) (by unfold askRoom; split <;> rfl) _ ?_
      refine aw_of_peek hs.first _ ?_
      simp only [if_true]
      refine aw_of_peek hx.cells _ ?_
      refine aw_of_peek (by rw [peek_zeroValue, hz]) _ ?_
      refine aw_newRow (K := fun b H nx => K (.slice (some b) (n + m) cap') H nx) fun g hg => ?_
      refine hk _ _ _ (g + 1) (by omega) (SlA.ofNew hlen hge hcm ?_ ?_) (.inr (by omega)) ((Kp.refl _ _ _).new hg) ?_
      · simp only [Array.size_append, List.size_toArray, size_zeroCells, hzs, hlen, List.append_toArray]
        rw [← Nat.add_mul]
        exact Nat.mul_le_mul_right _ (by omega)
      · intro j hj
        rw [Array.getElem?_append_left (by simp only [List.append_toArray, List.size_toArray, hlen]; exact hj)]
        simp
      · simp only [Value.slice.injEq, reduceCtorEq, false_and, false_iff]
        rintro ⟨⟨rfl, rfl, rfl⟩, rfl⟩
        simp at hlt
    simp only [choose, aw, aw_then] at hch ⊢
    exact ⟨fun hf => by simp [Question.forced] at hf, fun _ t0 => hch t0⟩
end

end Go.Proofs.YtngnbafididkcaaGreat
end
section
namespace Go.Proofs.YtngnbafididkcaaGreat
open Go.RowKit

/-- What is needed, where 'omega' shows it. -/
def need (p : Prop) : Prop := p
theorem need_and {p q : Prop} (h : p) : (need p ∧ q) = q := by simp [need, h]
theorem need_intro {p q : Prop} (h : p) (hq : q) : need p ∧ q := ⟨h, hq⟩

def stQ (lo b o : Nat) (v : Value) (K : AH → Nat → Prop) (H : AH) (nx : Nat) : Prop := need (lo ≤ b) ∧ v.oneCell' = true ∧ (H.c b o).isSome = true ∧ K (H.put b o v) nx
def okCells (H : AH) (b : Nat) : Nat → List Value → Prop
  | _, [] => True
  | o, v :: r => v.oneCell' = true ∧ (H.c b o).isSome = true ∧ okCells H b (o + 1) r
def stsQ (lo b o : Nat) (vs : List Value) (K : AH → Nat → Prop) (H : AH) (nx : Nat) : Prop := need (lo ≤ b) ∧ okCells H b o vs ∧ K (H.puts b o vs) nx
def newQ (t : TypeId) (cs : Array Value) (K : Value → AH → Nat → Prop) (H : AH) (nx : Nat) : Prop := ∀ n, nx ≤ n → K (.pointer (some ⟨n, 0, none⟩)) (H.new n cs t) (n + 1)
theorem newQ_intro {t : TypeId} {cs : Array Value} {K : Value → AH → Nat → Prop} {H : AH} {nx : Nat} (h : ∀ n, nx ≤ n → K (.pointer (some ⟨n, 0, none⟩)) (H.new n cs t) (n + 1)) : newQ t cs K H nx := h

theorem stQ_eq (lo b o : Nat) (v : Value) (K : AH → Nat → Prop) (H : AH) (nx : Nat) : stQ lo b o v K H nx = (need (lo ≤ b) ∧ v.oneCell' = true ∧ (H.c b o).isSome = true ∧ K (H.put b o v) nx) := (rfl)
theorem stsQ_eq (lo b o : Nat) (vs : List Value) (K : AH → Nat → Prop) (H : AH) (nx : Nat) : stsQ lo b o vs K H nx = (need (lo ≤ b) ∧ okCells H b o vs ∧ K (H.puts b o vs) nx) := (rfl)
theorem okCells_nil (H : AH) (b o : Nat) : okCells H b o [] = True := (rfl)
theorem okCells_cons (H : AH) (b o : Nat) (v : Value) (r : List Value) : okCells H b o (v :: r) = (v.oneCell' = true ∧ (H.c b o).isSome = true ∧ okCells H b (o + 1) r) := (rfl)
theorem okCells_list {H : AH} {b : Nat} : ∀ (vs : List Value) (o : Nat), (∀ v ∈ vs, v.oneCell' = true) → (∀ j, j < vs.length → (H.c b (o + j)).isSome = true) → okCells H b o vs
  | [], _, _, _ => trivial
  | v :: r, o, h1, h2 => ⟨h1 v (by simp), by simpa using h2 0 (by simp), okCells_list r (o + 1) (fun u hu => h1 u (by simp [hu])) fun j hj => by
    have := h2 (j + 1) (by simpa using hj)
    rwa [show o + (j + 1) = o + 1 + j by omega] at this⟩
theorem okCells_spec {H : AH} {b : Nat} : ∀ (vs : List Value) (o : Nat), okCells H b o vs → (∀ v ∈ vs, v.oneCell' = true) ∧ (∀ j, j < vs.length → (H.c b (o + j)).isSome = true)
  | [], _, _ => by simp
  | v :: r, o, ⟨h1, h2, h3⟩ => by
    obtain ⟨g1, g2⟩ := okCells_spec r (o + 1) h3
    refine ⟨fun u hu => ?_, fun j hj => ?_⟩
    · rcases List.mem_cons.1 hu with rfl | hu
      · exact h1
      · exact g1 u hu
    · cases j with
      | zero => exact h2
      | succ j =>
        have := g2 j (by simpa using hj)
        rwa [show o + 1 + j = o + (j + 1) by omega] at this

theorem one_int (k : IntKind) (n : Int) : (Value.int k n).oneCell' = true := (rfl)
theorem one_bool (b : Bool) : (Value.bool b).oneCell' = true := (rfl)
theorem one_slice (a : Option Addr) (n c : Nat) : (Value.slice a n c).oneCell' = true := (rfl)
theorem one_ptr (a : Option Addr) : (Value.pointer a).oneCell' = true := (rfl)
theorem one_str (s : ByteArray) : (Value.string s).oneCell' = true := (rfl)
theorem cells_int (k : IntKind) (n : Int) : (Value.int k n).cells = #[.int k n] := (rfl)
theorem cells_bool (b : Bool) : (Value.bool b).cells = #[.bool b] := (rfl)
theorem cells_slice (a : Option Addr) (n c : Nat) : (Value.slice a n c).cells = #[.slice a n c] := (rfl)
theorem cells_ptr (a : Option Addr) : (Value.pointer a).cells = #[.pointer a] := (rfl)
theorem cells_str (s : ByteArray) : (Value.string s).cells = #[.string s] := (rfl)
theorem cells_agg (cs : Array Value) : (Value.agg cs).cells = cs := (rfl)
theorem cells_one {v : Value} (h : v.oneCell' = true) : v.cells = #[v] := by cases v <;> first | rfl | simp [Value.oneCell'] at h

section
variable {P : Program} {lo : Nat} {H : AH} {nx : Nat}

theorem load_one {t : TypeId} {b o : Nat} (h : isAggT P t = some false) : loadV P H t (.pointer (some ⟨b, o, none⟩)) = H.c b o := by rw [loadV_eq, h]
theorem load_agg {t : TypeId} {b o n : Nat} (h : isAggT P t = some true) (hn : szT P t = some n) : loadV P H t (.pointer (some ⟨b, o, none⟩)) = (loadN H b o n).map fun l => .agg l.toArray := by rw [loadV_eq, h, hn]; rfl

theorem peek_part (t : TypeId) (cs : Array Value) (k : Nat) : peek P H (part t cs k) = match isAggT P t with
    | some false => cs[k]?
    | some true => (szT P t).map fun n => .agg (cs.extract k (k + n))
    | none => none := by
  unfold part
  rw [peek_then, peek_isAgg]
  cases isAggT P t with
  | none => rfl
  | some a =>
    cases a with
    | false =>
      simp only [Option.bind_some, Bool.false_eq_true, if_false]
      cases cs[k]? <;> rfl
    | true =>
      simp only [Option.bind_some, if_true]
      rw [peek_then, peek_sizeOf]
      cases szT P t <;> rfl

theorem field_any {s : TypeId} {i : Nat} {a : Bool} {n k : Nat} {cs : Array Value} (h : fldT P s i = some (a, n, k)) : fieldV P H s i (.agg cs) = match a with
    | false => cs[k]?
    | true => some (.agg (cs.extract k (k + n))) := by
  unfold fldT at h
  cases hu : P.underlying s with
  | none => rw [hu] at h; cases h
  | some d =>
    rw [hu] at h
    cases d <;> simp only [reduceCtorEq] at h
    rename_i fs
    cases hf : fs[i]? with
    | none => rw [hf] at h; cases h
    | some fd =>
      rw [hf] at h
      simp only at h
      split at h
      · rename_i a' n' ha hn
        simp only [Option.some.injEq, Prod.mk.injEq] at h
        obtain ⟨rfl, rfl, rfl⟩ := h
        unfold fieldV valOf Instr.field
        rw [peek_then, peek_underlying, hu]
        simp only [Option.bind_some, hf]
        rw [peek_then]
        simp only [asAgg, peek_pure, Option.bind_some]
        rw [peek_part, ha, hn]
        cases a' <;> rfl
      · cases h
theorem field_one {s : TypeId} {i k : Nat} {cs : Array Value} (h : fldT P s i = some (false, 1, k)) : fieldV P H s i (.agg cs) = cs[k]? := field_any h
theorem field_agg {s : TypeId} {i n k : Nat} {cs : Array Value} (h : fldT P s i = some (true, n, k)) : fieldV P H s i (.agg cs) = some (.agg (cs.extract k (k + n))) := field_any h

theorem index_str {t : TypeId} {s : ByteArray} {kk : IntKind} {i : Int} (h : strT P t = true) (h0 : 0 ≤ i) (h1 : i < s.size) : indexV P H t (.string s) (.int kk i) = some (.int .u8 (s.data[i.toNat]!).toNat) := by
  unfold strT at h
  cases hu : P.underlying t with
  | none => rw [hu] at h; cases h
  | some d =>
    rw [hu] at h
    cases d <;> simp only [reduceCtorEq] at h
    unfold indexV valOf Instr.index
    have hlt : i.toNat < s.data.size := by have : s.size = s.data.size := rfl; omega
    have e : s[i.toNat]? = some s.data[i.toNat] := by
      have h2 : i.toNat < s.size := hlt
      rw [getElem?_pos s i.toNat h2]; rfl
    simp only [peek_then, asIntOf, peek_pure, peek_underlying, hu, Option.bind_some, h0, if_true, e]
    rw [getElem!_pos s.data i.toNat hlt]

theorem index_arr {t : TypeId} {n : Nat} {cs : Array Value} {kk : IntKind} {i : Int} (h : arrT P t = some (n, false, 1)) (h0 : 0 ≤ i) (h1 : i < n) : indexV P H t (.agg cs) (.int kk i) = cs[i.toNat]? := by
  unfold arrT at h
  cases hu : P.underlying t with
  | none => rw [hu] at h; cases h
  | some d =>
    rw [hu] at h
    cases d <;> simp only [reduceCtorEq] at h
    rename_i n' e'
    split at h
    · rename_i a' k' ha hk
      simp only [Option.some.injEq, Prod.mk.injEq] at h
      obtain ⟨rfl, rfl, rfl⟩ := h
      unfold indexV valOf Instr.index
      simp only [peek_then, asIntOf, peek_pure, peek_underlying, hu, Option.bind_some, h0, h1, and_self, if_true, peek_sizeOf, hk, peek_part, ha, Nat.mul_one]
    · cases h

theorem aw_store_eq (b o : Nat) (v : Value) (K : Unit → AH → Nat → Prop) : aw P lo (store ⟨b, o, none⟩ v) K H nx = (lo ≤ b ∧ v.oneCell' = true ∧ (H.c b o).isSome = true ∧ K () (H.put b o v) nx) := by
  simp only [store, aw, true_and]

theorem storeCells_eq (b : Nat) (K : Unit → AH → Nat → Prop) : ∀ (vs : List Value) (o i : Nat) (H : AH), lo ≤ b → aw P lo (storeCells ⟨b, o, none⟩ vs i) K H nx = (okCells H b (o + i) vs ∧ K () (H.puts b (o + i) vs) nx)
  | [], o, i, H, _ => by simp [storeCells, okCells, puts_nil, aw_pure]
  | v :: r, o, i, H, hlo => by
    unfold storeCells
    rw [aw_then, add_none, aw_store_eq, storeCells_eq b K r o (i + 1) _ hlo, okCells_cons, puts_cons, show o + (i + 1) = o + i + 1 by omega]
    have : okCells (H.put b (o + i) v) b (o + i + 1) r = okCells H b (o + i + 1) r := by
      have go : ∀ (r : List Value) (o' : Nat), o + i < o' → okCells (H.put b (o + i) v) b o' r = okCells H b o' r := fun r => by
        induction r with
        | nil => intro o' _; rfl
        | cons u r ih => intro o' ho; rw [okCells_cons, okCells_cons, put_other _ _ _ _ _ (by omega), ih _ (by omega)]
      exact go r _ (by omega)
    rw [this]
    simp [hlo, and_assoc]

theorem aw_eq {α : Type} {s : Sem α} {a : α} {K : α → AH → Nat → Prop} (h : peek P H s = some a) : aw P lo s K H nx = K a H nx := propext ⟨fun hh => aw_unpeek h hh, fun hh => aw_of_peek h _ hh⟩

theorem store_any {t : TypeId} {b o : Nat} {v : Value} {K : AH → Nat → Prop} (ht : szT P t = some v.cells.size) : storeQ P lo t (.pointer (some ⟨b, o, none⟩)) v K H nx = aw P lo (storeCells ⟨b, o, none⟩ v.cells.toList 0) (fun _ => K) H nx := by
  unfold storeQ Instr.storeAt
  rw [aw_then]
  simp only [Instr.sureAddr, aw_pure]
  unfold storeVar
  rw [aw_then, aw_eq (by rw [peek_sizeOf, ht])]
  simp only [ne_eq, not_true_eq_false, if_false]

theorem storeCells_lo {b : Nat} {K : Unit → AH → Nat → Prop} {o i : Nat} {v : Value} {r : List Value} (h : aw P lo (storeCells ⟨b, o, none⟩ (v :: r) i) K H nx) : lo ≤ b := by
  unfold storeCells at h
  rw [aw_then, add_none, aw_store_eq] at h
  exact h.1

theorem store_agg {t : TypeId} {b o n : Nat} {cs : List Value} {K : AH → Nat → Prop} (ht : szT P t = some n) (h0 : 0 < n) (hn : cs.length = n) : storeQ P lo t (.pointer (some ⟨b, o, none⟩)) (.agg cs.toArray) K H nx = stsQ lo b o cs K H nx := by
  rw [store_any (by simp [cells_agg, ht, hn])]
  simp only [cells_agg]
  obtain ⟨v, r, rfl⟩ : ∃ v r, cs = v :: r := by cases cs with | nil => simp at hn; omega | cons v r => exact ⟨v, r, rfl⟩
  apply propext
  constructor
  · intro h
    have hlo := storeCells_lo h
    rw [storeCells_eq _ _ _ _ _ _ hlo, Nat.add_zero] at h
    exact ⟨hlo, h⟩
  · rintro ⟨hlo, h⟩
    rw [storeCells_eq _ _ _ _ _ _ hlo, Nat.add_zero]
    exact h

theorem store_one {t : TypeId} {b o : Nat} {v : Value} {K : AH → Nat → Prop} (ht : szT P t = some 1) (hv : v.oneCell' = true) : storeQ P lo t (.pointer (some ⟨b, o, none⟩)) v K H nx = stQ lo b o v K H nx := by
  rw [store_any (by rw [cells_one hv, ht]; rfl), cells_one hv]
  apply propext
  constructor
  · intro h
    have hlo := storeCells_lo h
    rw [storeCells_eq _ _ _ _ _ _ hlo, Nat.add_zero] at h
    exact ⟨hlo, hv, h.1.2.1, h.2⟩
  · rintro ⟨hlo, h1, h2, h3⟩
    rw [storeCells_eq _ _ _ _ _ _ hlo, Nat.add_zero]
    exact ⟨⟨h1, h2, trivial⟩, h3⟩

theorem peek_list_mapM {α β : Type} {g : α → Sem β} {r : α → β} : ∀ (l : List α), (∀ x ∈ l, peek P H (g x) = some (r x)) → peek P H (l.mapM g) = some (l.map r)
  | [], _ => rfl
  | x :: l, h => by
    simp only [List.mapM_cons]
    rw [peek_then, h x (by simp)]
    simp only [Option.bind_some]
    rw [peek_then, peek_list_mapM l (fun y hy => h y (by simp [hy]))]
    rfl

theorem peek_mapM {α β : Type} {g : α → Sem β} {r : α → β} (l : Array α) (h : ∀ x ∈ l, peek P H (g x) = some (r x)) : peek P H (l.mapM g) = some (l.map r) := by
  rw [Array.mapM_eq_mapM_toList, peek_fmap, peek_list_mapM (r := r) l.toList (fun x hx => h x (by simpa using hx))]
  simp only [Option.map_some, Option.some.injEq]
  apply Array.ext'
  simp

theorem alloc_new {t : TypeId} {z : Value} {K : Value → AH → Nat → Prop} (hz : zeroT P t = some z) : allocQ P lo t K H nx = newQ t z.cells K H nx := by
  unfold allocQ Instr.alloc
  rw [aw_then]
  have : ∀ (F : Value → AH → Nat → Prop), aw P lo (zeroValue t) F H nx = F z H nx := fun F => propext ⟨fun h => aw_unpeek (by rw [peek_zeroValue, hz]) h, fun h => aw_of_peek (by rw [peek_zeroValue, hz]) _ h⟩
  rw [this]
  simp only [newVar, newRow, aw_then, newObj, aw, aw_pure]
  rfl

theorem box_new {t : TypeId} {v : Value} {K : Value → AH → Nat → Prop} : boxQ P lo t v K H nx = newQ t v.cells K H nx := by
  unfold boxQ Instr.box
  simp only [newVar, newRow, aw_then, newObj, aw, aw_pure]
  rfl

theorem build_zero {t : TypeId} {z : Value} (hk : (match P.underlying t with | some (.struct fs) => fs.all fun f => (szT P f.type).isSome | some (.array _ e) => (szT P e).isSome | _ => false) = true) (hz : zeroT P t = some z) : buildV P H t #[] = some (.agg z.cells) := by
  unfold buildV valOf Instr.build
  rw [peek_then, peek_zeroValue, hz]
  simp only [Option.bind_some]
  rw [peek_then, peek_underlying]
  cases hu : P.underlying t with
  | none => rw [hu] at hk; cases hk
  | some d =>
    rw [hu] at hk
    cases d <;> simp only [Bool.false_eq_true] at hk
    rotate_left
    · rename_i fs
      simp only [Option.bind_some]
      rw [peek_then, peek_mapM (r := fun f => (f.offset, (szT P f.type).getD 0)) fs (fun f hf => by
        rw [peek_then, peek_sizeOf]
        obtain ⟨n, hn⟩ := Option.isSome_iff_exists.1 (Array.all_eq_true_iff_forall_mem.1 hk f hf)
        rw [hn]; rfl)]
      rfl
    · simp only [Option.bind_some]
      rw [peek_then, peek_sizeOf]
      obtain ⟨n, hn⟩ := Option.isSome_iff_exists.1 hk
      rw [hn]; rfl

/-- What a literal yields: its zero value, parts laid in. -/
def placesT (P : Program) (t : TypeId) : Option (Nat → Option (Nat × Nat)) := match P.underlying t with
  | some (.struct fs) => if (fs.all fun f => (szT P f.type).isSome) = true then some fun i => (fs.map fun f => (f.offset, (szT P f.type).getD 0))[i]? else none
  | some (.array _ e) => (szT P e).map fun n i => some (i * n, n)
  | _ => none
theorem build_eq {t : TypeId} {z : Value} {pl : Nat → Option (Nat × Nat)} {ps : Array (Nat × Value)} (hk : placesT P t = some pl) (hz : zeroT P t = some z) : buildV P H t ps = (Instr.fill pl z.cells ps.toList).map .agg := by
  unfold buildV valOf Instr.build
  rw [peek_then, peek_zeroValue, hz]
  simp only [Option.bind_some]
  rw [peek_then, peek_underlying]
  unfold placesT at hk
  cases hu : P.underlying t with
  | none => rw [hu] at hk; cases hk
  | some d =>
    rw [hu] at hk
    cases d <;> simp only [reduceCtorEq] at hk
    rotate_left
    · rename_i fs
      split at hk
      · rename_i hall
        simp only [Option.some.injEq] at hk
        subst hk
        simp only [Option.bind_some]
        rw [peek_then, peek_mapM (r := fun f => (f.offset, (szT P f.type).getD 0)) fs (fun f hf => by
          rw [peek_then, peek_sizeOf]
          obtain ⟨n, hn⟩ := Option.isSome_iff_exists.1 (Array.all_eq_true_iff_forall_mem.1 hall f hf)
          rw [hn]; rfl)]
        simp only [Option.bind_some]
        cases Instr.fill _ z.cells ps.toList <;> rfl
      · cases hk
    · simp only [Option.map_eq_some_iff] at hk
      obtain ⟨n, hn, rfl⟩ := hk
      simp only [Option.bind_some]
      rw [peek_then, peek_sizeOf, hn]
      simp only [Option.bind_some]
      cases Instr.fill _ z.cells ps.toList <;> rfl

theorem convV_int {s d : TypeId} {k k' : IntKind} {n : Int} (hs : (P.underlying s).isSome = true) (hd : intT P d = some k) : convV P H s d (.int k' n) = some (.int k (k.wrap n)) := by
  unfold convV valOf convert
  obtain ⟨us, hus⟩ := Option.isSome_iff_exists.1 hs
  unfold intT at hd
  cases hu : P.underlying d with
  | none => rw [hu] at hd; cases hd
  | some ud =>
    rw [hu] at hd
    cases ud <;> simp only [reduceCtorEq, Option.some.injEq] at hd
    subst hd
    rw [peek_then, peek_underlying, hus]
    simp only [Option.bind_some]
    rw [peek_then, peek_underlying, hu]
    simp only [Option.bind_some, Conv.intToInt, peek_pure]

/-! ### Equality of what is no number -/
def ptrT (P : Program) (t : TypeId) : Bool := match P.underlying t with | some (.pointer _) => true | _ => false
def slcT (P : Program) (t : TypeId) : Bool := match P.underlying t with | some (.slice _) => true | _ => false

theorem bin_eq {op : BinOp} {t : TypeId} {x y : Operand} {a b : Value} (h1 : ∀ cs, a ≠ .agg cs) (h2 : a ≠ .nilIface) : binV P H op t x y a b = peek P H (binOp op t a b) := by
  unfold binV valOf
  rw [peek_then]
  have : peek P H (eqGuard op t x y a b) = some () := by
    unfold eqGuard
    cases op <;> first | rfl | (cases a <;> first | rfl | exact absurd rfl (h1 _) | exact absurd rfl h2)
  rw [this]; rfl

theorem peek_equal {t : TypeId} {d : TypeDesc} {x y : Value} (hu : P.underlying t = some d) : peek P H (Op.equal t x y) = peek P H (do
    match d, x, y with
    | .pointer _, .pointer none, .pointer b => pure b.isNone
    | .pointer _, .pointer _, .pointer none => pure false
    | .slice _, .slice none _ _, .slice b _ _ => pure b.isNone
    | .slice _, .slice _ _ _, .slice none _ _ => pure false
    | _, _, _ => Op.equal t x y : Sem Bool) := by
  have e : Op.equal t x y = Op.equalIn (9999 + 1) t x y := rfl
  split
  · rw [e, Op.equalIn, peek_then, peek_underlying, hu]; rfl
  · rename_i h
    rw [e, Op.equalIn, peek_then, peek_underlying, hu]
    rename_i a
    cases a <;> first | rfl | simp at h
  · rw [e, Op.equalIn, peek_then, peek_underlying, hu]; rfl
  · rename_i a n c _ _ h
    rw [e, Op.equalIn, peek_then, peek_underlying, hu]
    cases a <;> first | rfl | simp at h
  · rfl
theorem eq_ptr {t : TypeId} {x y : Operand} {a : Option Addr} (h : ptrT P t = true) : binV P H .eql t x y (.pointer a) (.pointer none) = some (.bool a.isNone) := by
  rw [bin_eq (by simp) (by simp)]
  unfold ptrT at h
  cases hu : P.underlying t with
  | none => rw [hu] at h; cases h
  | some d =>
    rw [hu] at h
    cases d <;> simp only [Bool.false_eq_true] at h
    show peek P H (do let r ← Op.equal t (.pointer a) (.pointer none); pure (Value.bool r)) = _
    rw [peek_then, peek_equal hu]
    cases a <;> rfl
theorem ne_ptr {t : TypeId} {x y : Operand} {a : Option Addr} (h : ptrT P t = true) : binV P H .neq t x y (.pointer a) (.pointer none) = some (.bool a.isSome) := by
  rw [bin_eq (by simp) (by simp)]
  unfold ptrT at h
  cases hu : P.underlying t with
  | none => rw [hu] at h; cases h
  | some d =>
    rw [hu] at h
    cases d <;> simp only [Bool.false_eq_true] at h
    show peek P H (do let r ← Op.equal t (.pointer a) (.pointer none); pure (Value.bool !r)) = _
    rw [peek_then, peek_equal hu]
    cases a <;> rfl
theorem eq_sl {t : TypeId} {x y : Operand} {a : Option Addr} {n c : Nat} (h : slcT P t = true) : binV P H .eql t x y (.slice a n c) (.slice none 0 0) = some (.bool a.isNone) := by
  rw [bin_eq (by simp) (by simp)]
  unfold slcT at h
  cases hu : P.underlying t with
  | none => rw [hu] at h; cases h
  | some d =>
    rw [hu] at h
    cases d <;> simp only [Bool.false_eq_true] at h
    show peek P H (do let r ← Op.equal t (.slice a n c) (.slice none 0 0); pure (Value.bool r)) = _
    rw [peek_then, peek_equal hu]
    cases a <;> rfl
theorem ne_sl {t : TypeId} {x y : Operand} {a : Option Addr} {n c : Nat} (h : slcT P t = true) : binV P H .neq t x y (.slice a n c) (.slice none 0 0) = some (.bool a.isSome) := by
  rw [bin_eq (by simp) (by simp)]
  unfold slcT at h
  cases hu : P.underlying t with
  | none => rw [hu] at h; cases h
  | some d =>
    rw [hu] at h
    cases d <;> simp only [Bool.false_eq_true] at h
    show peek P H (do let r ← Op.equal t (.slice a n c) (.slice none 0 0); pure (Value.bool !r)) = _
    rw [peek_then, peek_equal hu]
    cases a <;> rfl
theorem eq_str {t : TypeId} {x y : Operand} {a b : ByteArray} : binV P H .eql t x y (.string a) (.string b) = some (.bool (decide (a.data.toList = b.data.toList))) := by
  rw [bin_eq (by simp) (by simp)]
  show some (Value.bool (a.toList == b.toList)) = _
  rw [ByteArray.toList_eq, ByteArray.toList_eq, show (a.data.toList == b.data.toList) = decide (a.data.toList = b.data.toList) by rw [Bool.eq_iff_iff]; simp]
theorem ne_str {t : TypeId} {x y : Operand} {a b : ByteArray} : binV P H .neq t x y (.string a) (.string b) = some (.bool (!(decide (a.data.toList = b.data.toList)))) := by
  rw [bin_eq (by simp) (by simp)]
  show some (Value.bool !(a.toList == b.toList)) = _
  rw [ByteArray.toList_eq, ByteArray.toList_eq, show (a.data.toList == b.data.toList) = decide (a.data.toList = b.data.toList) by rw [Bool.eq_iff_iff]; simp]
end

/-! ### Results that lie in cells -/
section
variable {P : Program} {fn : Func} {R : Value → AH → Nat → Prop} {env : Env} {H : AH} {nx : Nat}
theorem peek_loadVar {t : TypeId} {a : Value} : (peek P H (asAddr a)).bind (fun b => peek P H (loadVar t b)) = loadV P H t a := by
  unfold loadV valOf Instr.loadAt
  rw [peek_then]
  cases a <;> first | rfl | skip
  rename_i x
  cases x <;> rfl
theorem retQ_cell {d : Nat} {t : TypeId} (h : fn.results = #[.cell d t]) (hd : d < fn.ntmps) : retQ P fn R .ret env H nx = onA (eg env d) (fun a => onV (loadV P H t a) R H nx) := by
  simp only [← ex_onA, ← ex_onV]
  simp only [retQ, resKnown, results, h, eq_iff_iff]
  have t1 := envArr_get fn.ntmps env d hd
  simp only [Array.getD_eq_getD_getElem?] at t1
  constructor
  · rintro ⟨h1, v, h2, h3⟩
    simp at h1
    obtain ⟨u, hu⟩ := Option.isSome_iff_exists.1 h1
    refine ⟨u, hu, v, ?_, h3⟩
    rw [hu] at t1
    simp only [Option.getD_some] at t1
    rw [← peek_loadVar, ← h2]
    simp [peek_then, t1]
  · rintro ⟨u, hu, v, h2, h3⟩
    refine ⟨by simp [hu], v, ?_, h3⟩
    rw [hu] at t1
    simp only [Option.getD_some] at t1
    rw [← peek_loadVar] at h2
    rw [← h2]
    simp [peek_then, t1]
theorem retQ_cell_tmp {d e : Nat} {t : TypeId} (h : fn.results = #[.cell d t, .tmp e]) (hd : d < fn.ntmps) (he : e < fn.ntmps) : retQ P fn R .ret env H nx = onA (eg env d) (fun a => onA (loadV P H t a) fun v => onA (eg env e) fun u => R (.tuple #[v, u]) H nx) := by
  simp only [← ex_onA]
  simp only [retQ, resKnown, results, h, eq_iff_iff]
  have t1 := envArr_get fn.ntmps env d hd
  have t2 := envArr_get fn.ntmps env e he
  simp only [Array.getD_eq_getD_getElem?] at t1 t2
  constructor
  · rintro ⟨h1, v, h2, h3⟩
    simp at h1
    obtain ⟨u, hu⟩ := Option.isSome_iff_exists.1 h1.1
    obtain ⟨u', hu'⟩ := Option.isSome_iff_exists.1 h1.2
    rw [hu] at t1
    rw [hu'] at t2
    simp only [Option.getD_some] at t1 t2
    simp [peek_then, t1, t2, peek_fmap] at h2
    rw [Option.bind_eq_some_iff] at h2
    obtain ⟨x, hx, h2⟩ := h2
    simp only [Option.map_eq_some_iff] at h2
    obtain ⟨y, hy, rfl⟩ := h2
    exact ⟨u, hu, y, by rw [← peek_loadVar, hx]; exact hy, u', hu', h3⟩
  · rintro ⟨u, hu, v, h2, u', hu', h3⟩
    refine ⟨by simp [hu, hu'], _, ?_, h3⟩
    rw [hu] at t1
    rw [hu'] at t2
    simp only [Option.getD_some] at t1 t2
    rw [← peek_loadVar] at h2
    simp [peek_then, t1, t2, peek_fmap]
    obtain ⟨x, hx, hy⟩ := Option.bind_eq_some_iff.1 h2
    rw [hx]
    simp [hy]
end

end Go.Proofs.YtngnbafididkcaaGreat
end
