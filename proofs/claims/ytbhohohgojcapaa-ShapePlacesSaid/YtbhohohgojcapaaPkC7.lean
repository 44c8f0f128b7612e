import Derived.Test.YtbhohohgojcapaaPkA0
import Derived.Test.YtbhohohgojcapaaPkB9
import Derived.BigQuiet
namespace Go.Proofs.Ytbhohohgojcapaa

inductive Walk where
  | nil
  | read (i : Nat) (r : Walk)
  | act (i : Nat) (r : Walk)
  | two (i : Nat) (r : Walk) (j : Nat) (s : Walk)
def Walk.len : Walk → Nat
  | .nil => 0
  | .read _ r => r.len + 1
  | .act _ r => r.len + 1
  | .two _ r _ s => max r.len s.len + 1
/-- Reads, one behind the other. -/
def Walk.reads : List Nat → Walk → Walk
  | [], r => r
  | i :: l, r => .read i (Walk.reads l r)

section
variable {P : Program} {ops : Array Oper} {Q : Exit → Act → World → Prop} {md : Region.Mode} {k : Nat} {C : World → Prop} {R : Act → World → Prop}

def treeB (md : Region.Mode) (ops : Array Oper) (k : Nat) : Walk → Array Bool → Bool
  | .nil, listed => (Region.ready md ops listed).isEmpty
  | .read i r, listed => (match ops[i]? with
      | none => false
      | some o => early md ops k i o && ((Region.ready md ops listed).contains i && Region.free md ops listed i)) && treeB md ops k r (listed.setIfInBounds i true)
  | .act i r, listed => (Region.ready md ops listed == [i]) && treeB md ops k r (listed.setIfInBounds i true)
  | .two i r j s, listed => (Region.ready md ops listed == [i, j]) && (treeB md ops k r (listed.setIfInBounds i true) && treeB md ops k s (listed.setIfInBounds j true))

def wpTree (P : Program) (md : Region.Mode) (ops : Array Oper) (Q : Exit → Act → World → Prop) (R : Act → World → Prop) (k : Nat) (C : World → Prop) : Walk → Array Bool → Act → World → Prop
  | .nil, _, a, w => R a w
  | .read i r, listed, a, w => match ops[i]? with
    | none => False
    | some o => ∃ v, YieldsC P ops (OnWhat C o) o v a ∧ wpTree P md ops Q R k C r (listed.setIfInBounds i true) (a.put o.dst v) w
  | .act i r, listed, a, w => wpOp P ops Q i (fun a' w' => Till k C (listed.setIfInBounds i true) w' ∧ wpTree P md ops Q R k C r (listed.setIfInBounds i true) a' w') a w
  | .two i r j s, listed, a, w =>
    wpOp P ops Q i (fun a' w' => Till k C (listed.setIfInBounds i true) w' ∧ wpTree P md ops Q R k C r (listed.setIfInBounds i true) a' w') a w ∧
    wpOp P ops Q j (fun a' w' => Till k C (listed.setIfInBounds j true) w' ∧ wpTree P md ops Q R k C s (listed.setIfInBounds j true) a' w') a w

theorem wpAnyC_tree (hs : Region.noSelect ops = true) (hQ : ∀ c (a : Act) (d : Option Tmp) v w, Q (.panic c) (a.put d v) w → Q (.panic c) a w) (he : ∀ a w, R a w → Q .normal a w) : ∀ (T : Walk) (fuel : Nat) (listed : Array Bool) (a : Act) (w : World),
    T.len ≤ fuel → listed.size = ops.size → Closed md ops listed → Till k C listed w → treeB md ops k T listed = true → wpTree P md ops Q R k C T listed a w → wpAnyC P md ops Q k C fuel listed a w
  | .nil, 0, listed, a, w, _, _, _, _, hB, h => ⟨by simpa [treeB] using hB, he _ _ h⟩
  | .nil, fuel + 1, listed, a, w, _, _, _, _, hB, h => by
    have hr : Region.ready md ops listed = [] := by simpa [treeB] using hB
    exact ⟨fun _ => he _ _ h, fun i hi => by rw [hr] at hi; cases hi⟩
  | .read i r, 0, _, _, _, hl, _, _, _, _, _ => by simp [Walk.len] at hl
  | .act i r, 0, _, _, _, hl, _, _, _, _, _ => by simp [Walk.len] at hl
  | .two i r j s, 0, _, _, _, hl, _, _, _, _, _ => by simp [Walk.len] at hl
  | .read i r, fuel + 1, listed, a, w, hl, hsz, hc, ht, hB, h => by
    simp only [treeB, Bool.and_eq_true] at hB
    obtain ⟨hB1, hB2⟩ := hB
    simp only [wpTree] at h
    cases ho : ops[i]? with
    | none => rw [ho] at h; exact h.elim
    | some o =>
      rw [ho] at h hB1
      simp only [Bool.and_eq_true] at h hB1
      obtain ⟨v, hy, hrest⟩ := h
      obtain ⟨hik, hkk⟩ := early_spec hB1.1
      have hrd : i ∈ Region.ready md ops listed := by simpa using hB1.2.1
      have ht' : Till k C (listed.setIfInBounds i true) w := by
        rcases ht with ht | ht
        · exact .inl (by rw [getD_setf_ne hik]; exact ht)
        · exact .inr ht
      exact wpAnyC_first ho (Region.noSelect_spec hs) (fun c a w => hQ c a o.dst v w) hik (D := OnWhat C o) (fun l w h1 h2 h3 h4 => by
        unfold OnWhat
        cases hm : memless o.op with
        | true => trivial
        | false => exact till_of (hkk hm) l w h1 h2 h3 h4) fuel listed a w hsz hc (Region.free_spec ho hB1.2.2) hrd hy ht
        (wpAnyC_tree hs hQ he r fuel _ _ w (by simp [Walk.len] at hl; omega) (by simp [hsz]) (hc.set_ hrd) ht' hB2 hrest)
  | .act i r, fuel + 1, listed, a, w, hl, hsz, hc, ht, hB, h => by
    simp only [treeB, Bool.and_eq_true] at hB
    obtain ⟨hB1, hB2⟩ := hB
    simp only [wpTree] at h
    have hrd : Region.ready md ops listed = [i] := by simpa using hB1
    refine ⟨fun h0 => (by rw [hrd] at h0; cases h0), fun j hj => ?_⟩
    rw [hrd] at hj
    simp at hj
    subst hj
    exact wpOp_mono (fun a' w' h' => ⟨h'.1, wpAnyC_tree hs hQ he r fuel _ a' w' (by simp [Walk.len] at hl; omega) (by simp [hsz]) (hc.set_ (by rw [hrd]; simp)) h'.1 hB2 h'.2⟩) h
  | .two i r m s, fuel + 1, listed, a, w, hl, hsz, hc, ht, hB, h => by
    simp only [treeB, Bool.and_eq_true] at hB
    obtain ⟨hB1, hB2, hB3⟩ := hB
    simp only [wpTree] at h
    have hrd : Region.ready md ops listed = [i, m] := by simpa using hB1
    have hl' : r.len ≤ fuel ∧ s.len ≤ fuel := by simp [Walk.len] at hl; omega
    refine ⟨fun h0 => (by rw [hrd] at h0; cases h0), fun j hj => ?_⟩
    rw [hrd] at hj
    simp only [List.mem_cons, List.not_mem_nil, or_false] at hj
    rcases hj with rfl | rfl
    · exact wpOp_mono (fun a' w' h' => ⟨h'.1, wpAnyC_tree hs hQ he r fuel _ a' w' hl'.1 (by simp [hsz]) (hc.set_ (by rw [hrd]; simp)) h'.1 hB2 h'.2⟩) h.1
    · exact wpOp_mono (fun a' w' h' => ⟨h'.1, wpAnyC_tree hs hQ he s fuel _ a' w' hl'.2 (by simp [hsz]) (hc.set_ (by rw [hrd]; simp)) h'.1 hB3 h'.2⟩) h.2

/-- A statement whose order is open, walked as a tree. -/
theorem wp_region_tree {id : Nat} {a : Act} {w : World} (T : Walk) (k : Nat) (C : World → Prop) (R : Act → World → Prop) (hm : P.follows .mixedOrders = true) (hs : Region.noSelect ops = true) (hlen : T.len ≤ ops.size)
    (hB : treeB .any ops k T (Array.replicate ops.size false) = true) (hQ : ∀ c (a : Act) (d : Option Tmp) v w, Q (.panic c) (a.put d v) w → Q (.panic c) a w)
    (hC : C w.drew) (h : wpTree P .any ops Q R k C T (Array.replicate ops.size false) a w.drew) (he : ∀ a w, R a w → Q .normal a w) : (Code.region id ops true).wp P Q a w := by
  refine wp_region_any hm (wpAny_ofC (k := k) (C := C) _ _ _ _ ?_)
  change wpAnyC P .any ops Q k C ops.size _ a w.drew
  exact wpAnyC_tree (md := .any) hs hQ he T _ _ a w.drew hlen (by simp) (fun j oj _ hj => by
    exfalso
    rw [Array.getD_eq_getD_getElem?, Array.getElem?_replicate] at hj
    split at hj <;> simp at hj) (.inr hC) hB h

/-- What stands in which place behind it. -/
def putsA (a : Act) : List (Option Tmp × Value) → Act
  | [] => a
  | (d, v) :: l => putsA (a.put d v) l
theorem Oper.wp_cut {o : Oper} {a : Act} {w : World} {N K K' : Act → World → Prop} (hK : ∀ a w, K a w → K' a w) (h : o.wp P a w K (Behind Q N)) : o.wp P a w K' Q := by
  unfold Oper.wp at *
  generalize (execOp a.eval o).run P w = r at *
  cases r with
  | ok n w' =>
    cases n <;> simp only [Oper.upon] at h ⊢
    case value u => exact hK _ _ h
    case skip => exact hK _ _ h
    case defer d => exact hK _ _ h
    case enter f args =>
      refine Calls.mono h fun e w'' he => ?_
      cases e with
      | returned u => exact hK _ _ he
      | panicked c => exact he
      | outgrown => exact he
    case row row args => exact Rows.mono h fun u w'' he => hK _ _ he
  | halt x w' => cases x <;> simp only [Oper.upon] at h ⊢ <;> exact h
/-- A statement whose order is open, walked as a tree; behind it values that are named stand in named places. -/
theorem wp_region_treeV {X : Type} {id : Nat} {a : Act} {w : World} (vals : X → List (Option Tmp × Value)) (F : X → World → Prop) (T : Walk) (k : Nat) (C : World → Prop) (hm : P.follows .mixedOrders = true) (hs : Region.noSelect ops = true) (hlen : T.len ≤ ops.size)
    (hB : treeB .any ops k T (Array.replicate ops.size false) = true) (hQ : ∀ c (a : Act) (d : Option Tmp) v w, Q (.panic c) (a.put d v) w → Q (.panic c) a w)
    (hC : C w.drew) (h : wpTree P .any ops Q (fun a' w' => ∃ x, a' = putsA a (vals x) ∧ F x w') k C T (Array.replicate ops.size false) a w.drew) (he : ∀ x w, F x w → Q .normal (putsA a (vals x)) w) : (Code.region id ops true).wp P Q a w :=
  wp_region_tree T k C _ hm hs hlen hB hQ hC h (fun a w ⟨x, e, hf⟩ => by rw [e]; exact he x w hf)

/-- The next one only reads. -/
theorem wpTree_read {i : Nat} {r : Walk} {listed : Array Bool} {a : Act} {w : World} {o : Oper} {v : Value} (ho' : ops.toList[i]? = some o)
    (hw : Region.wanted o (yielded ops a.tmps) = true)
    (hy : ∀ w, OnWhat C o w → (execOp a.eval o).run P w = .ok (.value v) w) (h : wpTree P md ops Q R k C r (listed.setIfInBounds i true) (a.put o.dst v) w) : wpTree P md ops Q R k C (.read i r) listed a w := by
  have ho : ops[i]? = some o := by rw [← Array.getElem?_toList]; exact ho'
  simp only [wpTree, ho]
  exact ⟨v, .inl ⟨hw, hy⟩, h⟩

theorem wpOp_behind {i : Nat} {a : Act} {w : World} {o : Oper} {K : Act → World → Prop} (ho' : ops.toList[i]? = some o) (h : wpList P ops (Behind Q K) [o] a w) : wpOp P ops Q i K a w := by
  have ho : ops[i]? = some o := by rw [← Array.getElem?_toList]; exact ho'
  simp only [wpList] at h
  unfold wpOp
  simp only [ho]
  split
  · rename_i hw
    rw [if_pos hw] at h
    rcases h with h | h
    · exact .inl (Oper.wp_behind h)
    · exact .inr ⟨h.1, letsOut_behind h.2⟩
  · rename_i hw
    rw [if_neg hw] at h
    exact h

/-- The next one acts. -/
theorem wpTree_act {i : Nat} {r : Walk} {listed : Array Bool} {a : Act} {w : World} {o : Oper} (ho' : ops.toList[i]? = some o)
    (h : wpList P ops (Behind Q (fun a' w' => Till k C (listed.setIfInBounds i true) w' ∧ wpTree P md ops Q R k C r (listed.setIfInBounds i true) a' w')) [o] a w) : wpTree P md ops Q R k C (.act i r) listed a w :=
  wpOp_behind ho' h
/-- Either acts. -/
theorem wpTree_two {i j : Nat} {r s : Walk} {listed : Array Bool} {a : Act} {w : World} {o u : Oper} (ho : ops.toList[i]? = some o) (hu : ops.toList[j]? = some u)
    (h : wpList P ops (Behind Q (fun a' w' => Till k C (listed.setIfInBounds i true) w' ∧ wpTree P md ops Q R k C r (listed.setIfInBounds i true) a' w')) [o] a w)
    (h' : wpList P ops (Behind Q (fun a' w' => Till k C (listed.setIfInBounds j true) w' ∧ wpTree P md ops Q R k C s (listed.setIfInBounds j true) a' w')) [u] a w) : wpTree P md ops Q R k C (.two i r j s) listed a w :=
  ⟨wpOp_behind ho h, wpOp_behind hu h'⟩
theorem wpTree_nil {listed : Array Bool} {a : Act} {w : World} (h : R a w) : wpTree P md ops Q R k C .nil listed a w := h
theorem tree_at' {T : Walk} {listed listed' : Array Bool} {a : Act} {w : World} (h : ∀ w', w' = w → Till k C listed' w' ∧ wpTree P md ops Q R k C T listed a w') : Till k C listed' w ∧ wpTree P md ops Q R k C T listed a w := h w rfl
theorem tree_at {T : Walk} {listed : Array Bool} {a : Act} {w : World} (h : ∀ w', w' = w → wpTree P md ops Q R k C T listed a w') : wpTree P md ops Q R k C T listed a w := h w rfl
end
end Go.Proofs.Ytbhohohgojcapaa

namespace Go.Proofs.Ytbhohohgojcapaa
open Go.RowKit

section
variable {P : Program} {ops : Array Oper} {Q : Exit → Act → World → Prop} {md : Region.Mode} {k : Nat} {C : World → Prop}
/-- An operation whose guard says no. -/
theorem wpCanon_skip {i : Nat} {rest : List Nat} {listed : Array Bool} {a : Act} {w : World} {o : Oper} (ho' : ops.toList[i]? = some o)
    (hr : early md ops k i o = true) (hw : Region.wanted o (yielded ops a.tmps) = false) (h : wpCanon P md ops Q k C rest (listed.setIfInBounds i true) (a.put o.dst undef) w) : wpCanon P md ops Q k C (i :: rest) listed a w := by
  have ho : ops[i]? = some o := by rw [← Array.getElem?_toList]; exact ho'
  simp only [wpCanon, ho]
  rw [if_pos hr]
  exact ⟨undef, .inr ⟨hw, rfl⟩, h⟩
end

section
variable {S T : Nat → Prop} {w : World} {a c0 c1 c2 c3 c4 c5 : Value} {n : Nd} {x : List UInt8}

end
end Go.Proofs.Ytbhohohgojcapaa

namespace Go.Proofs.Ytbhohohgojcapaa
open Go.RowKit

section
variable {S T : Nat → Prop} {w : World} {a c0 c1 c2 c3 c4 c5 : Value} {n : Nd} {x : List UInt8}

end
end Go.Proofs.Ytbhohohgojcapaa
