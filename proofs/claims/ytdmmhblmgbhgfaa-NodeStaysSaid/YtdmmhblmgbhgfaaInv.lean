/- A statement whose order is open, walked by what holds of whichever operations have been. -/
import Derived.Test.YtdmmhblmgbhgfaaRegion
namespace Go.Proofs.Ytdmmhblmgbhgfaa
open Go.RowKit

section
variable {P : Program} {md : Region.Mode} {ops : Array Oper} {Q : Exit → Act → World → Prop}

theorem count_set : ∀ (l : List Bool) (i : Nat), l[i]? = some false → (l.set i true).count false + 1 = l.count false
  | [], _, h => by simp at h
  | b :: l, 0, h => by simp at h; subst h; simp [List.count_cons]
  | b :: l, i + 1, h => by
    have := count_set l i (by simpa using h)
    simp only [List.set_cons_succ, List.count_cons]
    omega

theorem getD_true {listed : Array Bool} {i : Nat} (h : listed.getD i true = false) : listed.toList[i]? = some false ∧ i < listed.size := by
  rw [Array.getD_eq_getD_getElem?] at h
  have h2 : listed[i]? = some false := by
    cases hx : listed[i]? with
    | none => rw [hx] at h; simp at h
    | some b => rw [hx] at h; simp at h; subst h; rfl
  exact ⟨by rw [Array.getElem?_toList]; exact h2, (Array.getElem?_eq_some_iff.1 h2).1⟩

theorem wpAny_inv (I : Array Bool → Act → World → Prop)
    (hs : ∀ listed a w i, listed.size = ops.size → I listed a w → i ∈ Region.ready md ops listed → wpOp P ops Q i (I (listed.setIfInBounds i true)) a w)
    (he : ∀ listed a w, listed.size = ops.size → Region.ready md ops listed = [] → I listed a w → Q .normal a w) :
    ∀ (fuel : Nat) (listed : Array Bool) (a : Act) (w : World), listed.size = ops.size → listed.toList.count false ≤ fuel → I listed a w → wpAny P md ops Q fuel listed a w
  | 0, listed, a, w, hsz, hc, h => by
    have hr : Region.ready md ops listed = [] := by
      refine List.eq_nil_iff_forall_not_mem.2 (fun i hi => ?_)
      have h1 := (getD_true (mem_ready.1 hi).1).1
      have : 0 < listed.toList.count false := List.count_pos_iff.2 (List.mem_of_getElem? h1)
      omega
    exact ⟨hr, he listed a w hsz hr h⟩
  | fuel + 1, listed, a, w, hsz, hc, h => by
    refine ⟨fun hr => he listed a w hsz hr h, fun i hi => ?_⟩
    have h1 := (getD_true (mem_ready.1 hi).1).1
    refine wpOp_mono (fun a' w' h' => wpAny_inv I hs he fuel _ a' w' (by simp [hsz]) ?_ h') (hs listed a w i hsz h hi)
    rw [Array.toList_setIfInBounds]
    have := count_set listed.toList i h1
    omega

/-- Each operation waits only for such as stand before it. -/
def backB (ops : Array Oper) : Bool := (List.range ops.size).all fun i => match ops[i]? with | some o => o.after.toList.all (fun e => decide (e.on < i)) | none => true
theorem ready_nil (hb : backB ops = true) {listed : Array Bool} (hsz : listed.size = ops.size) (h : Region.ready md ops listed = []) : ∀ (i : Nat), i < ops.size → listed.getD i false = true := by
  intro i
  induction i using Nat.strongRecOn with
  | _ i ih =>
    intro hi
    cases hx : listed.getD i false with
    | true => rfl
    | false =>
      exfalso
      have hu : listed.getD i true = false := by
        rw [Array.getD_eq_getD_getElem?, Array.getElem?_eq_getElem (by omega)] at hx ⊢
        exact hx
      have ho : ops[i]? = some ops[i] := Array.getElem?_eq_getElem hi
      have hm : i ∈ Region.ready md ops listed := mem_ready.2 ⟨hu, ops[i], ho, fun e he _ => by
        have h1 := List.all_eq_true.1 hb i (List.mem_range.2 hi)
        rw [ho] at h1
        have h2 := List.all_eq_true.1 h1 e (Array.mem_toList_iff.2 he)
        have h3 : e.on < i := by simpa using h2
        exact ih e.on h3 (by omega)⟩
      rw [h] at hm
      cases hm

theorem wpOp_list {i : Nat} {o : Oper} {a : Act} {w : World} {K : Act → World → Prop} (ho' : ops.toList[i]? = some o) (h : wpList P ops (Behind Q K) [o] a w) : wpOp P ops Q i K a w := by
  have ho : ops[i]? = some o := by rw [← Array.getElem?_toList]; exact ho'
  simp only [wpList] at h
  unfold wpOp
  simp only [ho]
  split
  · rename_i hw
    rw [if_pos hw] at h
    rcases h with h | h
    · exact .inl (Oper.wp_behind h)
    · exact .inr ⟨h.1, letsOut_behind h.2⟩
  · rename_i hw
    rw [if_neg hw] at h
    exact h

/-- A statement whose order is open. -/
theorem wp_region_inv {id : Nat} {a : Act} {w : World} (J : Act → (Nat → Prop) → Act → World → Prop) (hm : P.follows .mixedOrders = true) (hb : backB ops = true)
    (h0 : J a (fun _ => False) a w.drew)
    (hs : ∀ (L : Nat → Prop) a' w i o, ops.toList[i]? = some o → (∀ e ∈ o.after, Region.binds .any e = true → L e.on) → ¬ L i → J a L a' w → wpOp P ops Q i (J a (fun k => L k ∨ k = i)) a' w)
    (he : ∀ (L : Nat → Prop) a' w, (∀ i, i < ops.size → L i) → J a L a' w → Q .normal a' w) : (Code.region id ops true).wp P Q a w := by
  have h0' : J a (fun k => (Array.replicate ops.size false).getD k false = true) a w.drew := by
    have : (fun k => (Array.replicate ops.size false).getD k false = true) = (fun _ : Nat => False) := funext fun k => by
      rw [Array.getD_eq_getD_getElem?, Array.getElem?_replicate]
      split <;> simp
    rw [this]; exact h0
  refine wp_region_any hm (wpAny_inv (md := .any) (I := fun listed => J a (fun k => listed.getD k false = true)) ?_ ?_ _ _ _ _ (by simp) (by simp) h0')
  · intro listed a1 w1 i hsz h hi
    obtain ⟨hu, o, ho, hall⟩ := mem_ready.1 hi
    have hlt := (getD_true hu).2
    have e : (fun k => (listed.setIfInBounds i true).getD k false = true) = (fun k => listed.getD k false = true ∨ k = i) := funext fun k => by
      by_cases hki : k = i
      · subst hki
        rw [Array.getD_eq_getD_getElem?, Array.getElem?_setIfInBounds, if_pos rfl, if_pos hlt]
        simp
      · rw [getD_setf_ne (Ne.symm hki)]
        simp [hki]
    show wpOp P ops Q i (J a (fun k => (listed.setIfInBounds i true).getD k false = true)) a1 w1
    rw [e]
    exact hs _ a1 w1 i o (by rw [Array.getElem?_toList]; exact ho) hall (by rw [getD_two hu]; simp) h
  · intro listed a1 w1 hsz hr h
    exact he _ a1 w1 (ready_nil hb hsz hr) h
end
end Go.Proofs.Ytdmmhblmgbhgfaa
