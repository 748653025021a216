/- OUR OWN LOGIC OVER THE KIT'S. 27: keys of maps that are structs of two integers. Nothing of the program stands here. -/
import Derived.Test.YtngnbafididkcaaGreatL22
namespace Go.Proofs.YtngnbafididkcaaGreat
open Go.RowKit
variable {P : Program}

def ek2 (j1 j2 : IntKind) (x : Int × Int) : Value := .agg #[.int j1 x.1, .int j2 x.2]
theorem findM_two {j1 j2 : IntKind} (x : Int × Int) : ∀ (ks : List (Int × Int)) (es : List MapEntry) (i : Nat), es.map (·.key) = ks.map (ek2 j1 j2) → findM [.int j1 x.1, .int j2 x.2] (List.zipWith (fun (k : Int × Int) (e : MapEntry) => ([Value.int j1 k.1, .int j2 k.2], e.val)) ks es) i = findZ x ks es i
  | [], es, i, h => by
    cases es with
    | nil => rfl
    | cons e es => simp at h
  | k :: ks, [], i, h => by simp at h
  | k :: ks, e :: es, i, h => by
    simp only [List.map_cons, List.cons.injEq] at h
    simp only [List.zipWith_cons_cons, findM, findZ]
    have hq : (eqLs [Value.int j1 x.1, .int j2 x.2] [Value.int j1 k.1, .int j2 k.2] = true) ↔ k = x := by
      obtain ⟨x1, x2⟩ := x
      obtain ⟨k1, k2⟩ := k
      simp only [eqLs, eqLeaf, Bool.and_true, Bool.and_eq_true, beq_iff_eq, Prod.mk.injEq]
      constructor
      · rintro ⟨a, b⟩; exact ⟨a.symm, b.symm⟩
      · rintro ⟨a, b⟩; exact ⟨a.symm, b.symm⟩
    by_cases e0 : k = x
    · rw [if_pos (hq.2 e0), if_pos e0]
    · rw [if_neg (fun h => e0 (hq.1 h)), if_neg e0]
      exact findM_two x ks es (i + 1) h.2
theorem ent_two {j1 j2 : IntKind} : ∀ (ks : List (Int × Int)) (es : List MapEntry), es.map (·.key) = ks.map (ek2 j1 j2) → entL true es (List.zipWith (fun (k : Int × Int) (e : MapEntry) => ([Value.int j1 k.1, .int j2 k.2], e.val)) ks es)
  | [], es, h => by
    cases es with
    | nil => rfl
    | cons e es => simp at h
  | k :: ks, [], h => by simp at h
  | k :: ks, e :: es, h => by
    simp only [List.map_cons, List.cons.injEq] at h
    have ih := ent_two ks es h.2
    unfold entL at ih ⊢
    simp only [List.zipWith_cons_cons, List.map_cons, ih, List.cons.injEq, and_true, Prod.mk.injEq, h.1]
    rfl
theorem fit_two {j1 j2 : IntKind} : ∀ (ks : List (Int × Int)) (es : List MapEntry), ∀ p ∈ List.zipWith (fun (k : Int × Int) (e : MapEntry) => ([Value.int j1 k.1, .int j2 k.2], e.val)) ks es, fitL [some j1, some j2] p.1
  | [], _, p, hp => by simp at hp
  | _ :: _, [], p, hp => by simp at hp
  | k :: ks, e :: es, p, hp => by
    simp only [List.zipWith_cons_cons, List.mem_cons] at hp
    rcases hp with rfl | hp
    · exact fitI (fitI fitN)
    · exact fit_two ks es p hp
theorem keyT_two {kt : TypeId} {j1 j2 : IntKind} (hT : flatT P 8 kt = some [some j1, some j2]) (ha : isAggT P kt = some true) : KeyT P kt (ek2 j1 j2) (fun _ _ => True) where
  chk H x emp := flat_check 8 kt _ true hT ha 10000 [.int j1 x.1, .int j2 x.2] emp (by omega) (fitI (fitI fitN))
  fnd H x ks es _ _ h := by
    have h1 := findKey_flat (H := H) hT ha (xs := [.int j1 x.1, .int j2 x.2]) (fitI (fitI fitN)) (ent_two ks es h) (fit_two ks es)
    rw [findM_two x ks es 0 h] at h1
    exact h1
  bits x := sameBits_flat (ks := [some j1, some j2]) (a := true) (xs := [.int j1 x.1, .int j2 x.2]) (fitI (fitI fitN)) (by simp)
section
variable {α β : Type} [DecidableEq α] {ek : α → Value} {ev : β → Value} {lo : Nat} {H : AH} {nx : Nat}
/-- .. and whether there is one. -/
theorem lookupV_mapA2 {t kt et m : Nat} {g : AH → α → Prop} {z : Value} {ob : Obj} {l : List (α × β)} {x : α} (hK : KeyT P kt ek g) (ht : mapT P t = some (kt, et)) (hz : zeroT P et = some z) (hm : H.o m = some ob) (hM : MapA ek ev ob l) (hx : g H x) (hg : ∀ p ∈ l, g H p.1) :
    lookupV P H t (.map (some m)) (ek x) true = some (.tuple #[((getA x l).map ev).getD z, .bool (getA x l).isSome]) := by
  obtain ⟨es, clk, rfl, hk, hv⟩ := hM.entries
  unfold mapT at ht
  unfold lookupV valOf Instr.lookup
  rw [peek_then, peek_underlying]
  cases hu : P.underlying t with
  | none => rw [hu] at ht; cases ht
  | some u =>
    rw [hu] at ht
    cases u <;> simp only [reduceCtorEq, Option.some.injEq, Prod.mk.injEq] at ht
    obtain ⟨rfl, rfl⟩ := ht
    simp only [Option.bind_some]
    rw [peek_then]
    have e1 : peek P H (getObj m) = some (.map es clk) := by
      simp only [getObj, peek, hm]
    rw [e1]
    simp only [Option.bind_some]
    rw [peek_then, peek_pure]
    simp only [Option.bind_some]
    rw [peek_then, hK.chk]
    simp only [Option.bind_some]
    rw [peek_then, hK.fnd H x (l.map (·.1)) es.toList hx (by simpa using fun a b hab => hg (a, b) hab) (by rw [hk]; simp)]
    have hget := findZ_get (ev := ev) x l es.toList 0 hv
    simp only [Option.bind_some]
    cases hf : findZ x (l.map (·.1)) es.toList 0 with
    | none =>
      rw [hf] at hget
      simp only [Option.map_none] at hget
      have hn : getA x l = none := by
        cases hg : getA x l with
        | none => rfl
        | some w => rw [hg] at hget; simp at hget
      rw [hn]
      simp only [Option.map_none, Option.getD_none, Option.isSome_none]
      rw [peek_then, peek_zeroValue, hz]
      rfl
    | some p =>
      rw [hf] at hget
      simp only [Option.map_some] at hget
      have hn : (getA x l).isSome = true := by
        cases hg : getA x l with
        | none => rw [hg] at hget; simp at hget
        | some w => rfl
      rw [← hget, hn]
      rfl

end

/-! ### A region that writes a block while it reads others -/
def AH.hide (H : AH) (u : Nat) : AH := { H with c := fun b o => if b = u then none else H.c b o, o := fun b => if b = u then none else H.o b, t := fun b => if b = u then none else H.t b }
theorem hide_sub (H : AH) (u : Nat) : AH.Sub (H.hide u) H := by
  refine ⟨fun b o v h => ?_, fun b ob h => ?_, fun b x h => ?_, fun _ h => h⟩
  · simp only [AH.hide] at h; split at h
    · cases h
    · exact h
  · simp only [AH.hide] at h; split at h
    · cases h
    · exact h
  · simp only [AH.hide] at h; split at h
    · cases h
    · exact h
theorem hide_c (H : AH) (u b o : Nat) (h : b ≠ u) : (H.hide u).c b o = H.c b o := by simp only [AH.hide]; rw [if_neg h]
theorem hide_o (H : AH) (u b : Nat) (h : b ≠ u) : (H.hide u).o b = H.o b := by simp only [AH.hide]; rw [if_neg h]
theorem hide_t (H : AH) (u b : Nat) (h : b ≠ u) : (H.hide u).t b = H.t b := by simp only [AH.hide]; rw [if_neg h]
attribute [go_sem] hide_c hide_o hide_t
theorem dkeep_hide {ops : Array Oper} {i nx0 u : Nat} {H H' : AH} (h : Kp (fun b => b = u) nx0 H H') : dkeep ops i nx0 (H.hide u) H' := by
  refine .inr ⟨fun b o v hb e => ?_, fun b ob hb e => ?_, fun b x hb e => ?_⟩
  · by_cases hu : b = u
    · simp [AH.hide, hu] at e
    · rw [hide_c _ _ _ _ hu] at e
      rw [(h b hb hu).1 o]; exact e
  · by_cases hu : b = u
    · simp [AH.hide, hu] at e
    · rw [hide_o _ _ _ hu] at e
      rw [(h b hb hu).2.1]; exact e
  · by_cases hu : b = u
    · simp [AH.hide, hu] at e
    · rw [hide_t _ _ _ hu] at e
      rw [(h b hb hu).2.2]; exact e
end Go.Proofs.YtngnbafididkcaaGreat
