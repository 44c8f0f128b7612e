/- A statement whose order Go leaves open, walked in ONE order: what only reads is taken as soon as it may come, what writes or makes memory is the only one that may come; C says what those that read will find, till operation k comes, which waits for them. No condition. -/
import Derived.WalkKit
namespace Go.Proofs.Ytbhohohgojcapaa

section
variable {P : Program} {ops : Array Oper} {Q : Exit → Act → World → Prop} {md : Region.Mode} {k : Nat} {C : World → Prop}

/-- Operation o leaves v in its place and does nothing else, in every world that meets C. -/
def YieldsC (P : Program) (ops : Array Oper) (C : World → Prop) (o : Oper) (v : Value) (a : Act) : Prop :=
  (Region.wanted o (yielded ops a.tmps) = true ∧ ∀ w, C w → (execOp a.eval o).run P w = .ok (.value v) w) ∨
  (Region.wanted o (yielded ops a.tmps) = false ∧ v = undef)

theorem YieldsC.wpOp {i : Nat} {o : Oper} {v : Value} {a : Act} (hi : ops[i]? = some o) (hy : YieldsC P ops C o v a)
    {K : Act → World → Prop} {w : World} (hC : C w) (h : K (a.put o.dst v) w) : wpOp P ops Q i K a w := by
  unfold Go.wpOp
  simp only [hi]
  rcases hy with ⟨hw, hv⟩ | ⟨hw, rfl⟩
  · simp only [hw, if_true, Oper.wp, hv w hC, Oper.upon]; exact .inl h
  · simp only [hw, Bool.false_eq_true, if_false]; exact h

theorem YieldsC.of_same {o : Oper} {v : Value} {a a' : Act} (hy : YieldsC P ops C o v a) (he : execOp a'.eval o = execOp a.eval o)
    (hw : Region.wanted o (yielded ops a'.tmps) = Region.wanted o (yielded ops a.tmps)) : YieldsC P ops C o v a' := by
  unfold YieldsC at *
  rw [he, hw]
  exact hy

/-- Another operation oj, apart from oi: the value of oi may be laid ahead of it or behind it. -/
theorem wpOp_putC {j : Nat} {oi oj : Oper} {v : Value} (hj : ops[j]? = some oj) (hap : oi.apart ops oj = true)
    (hsi : ∀ cs b, oi.op ≠ .select cs b) (hsj : ∀ cs b, oj.op ≠ .select cs b)
    (hQ : ∀ c a w, Q (.panic c) (a.put oi.dst v) w → Q (.panic c) a w) {K : Act → World → Prop} {a : Act} {w : World}
    (hy : YieldsC P ops C oi v a) (h : wpOp P ops Q j K (a.put oi.dst v) w) :
    wpOp P ops Q j (fun a' w' => YieldsC P ops C oi v a' ∧ K (a'.put oi.dst v) w') a w := by
  obtain ⟨h1, h2, h3⟩ := Oper.apart_spec hap
  have keep : ∀ (a : Act), YieldsC P ops C oi v a → ∀ u, YieldsC P ops C oi v (a.put oj.dst u) := fun a hy u =>
    hy.of_same (execOp_put oi hsi a oj.dst u h3) (wanted_put oi a oj.dst u h3)
  have keepD : ∀ d, YieldsC P ops C oi v { a with defers := d :: a.defers } := fun d => hy.of_same rfl rfl
  unfold wpOp at *
  simp only [hj] at *
  rw [wanted_put oj a oi.dst v h1] at h
  by_cases hw : Region.wanted oj (yielded ops a.tmps) = true
  · rw [if_pos hw] at h ⊢
    rcases h with h | ⟨hasks, hlets⟩
    case inr => exact .inr ⟨by unfold Oper.asks at *; rw [execOp_put oj hsj a oi.dst v h1] at hasks; exact hasks, hlets⟩
    refine .inl ?_
    unfold Oper.wp at *
    rw [execOp_put oj hsj a oi.dst v h1] at h
    generalize (execOp a.eval oj).run P w = r at *
    cases r with
    | ok n w' =>
      cases n <;> simp only [Oper.upon] at h ⊢
      case value u => exact ⟨keep a hy u, by rw [← Act.put_comm a v u h2]; exact h⟩
      case skip => exact ⟨keep a hy _, by rw [← Act.put_comm a v undef h2]; exact h⟩
      case defer d => exact ⟨keep _ (keepD d) _, by rw [← Act.put_comm _ v undef h2, ← Act.put_defers]; exact h⟩
      case enter f args =>
        refine Calls.mono h fun e w'' he => ?_
        cases e with
        | returned u => exact ⟨keep a hy u, by rw [← Act.put_comm a v u h2]; exact he⟩
        | panicked c => exact hQ _ _ _ he
        | outgrown => exact he
      case row row args => exact Rows.mono h fun u w'' he => ⟨keep a hy u, by rw [← Act.put_comm a v u h2]; exact he⟩
    | halt x w' =>
      cases x <;> simp only [Oper.upon] at h ⊢
      case panic u => exact hQ _ _ _ h
  · rw [if_neg hw] at h ⊢
    exact ⟨keep a hy _, by rw [← Act.put_comm a v undef h2]; exact h⟩

/-- What has come has come behind all that it waits for. -/
def Closed (md : Region.Mode) (ops : Array Oper) (listed : Array Bool) : Prop :=
  ∀ j oj, ops[j]? = some oj → listed.getD j false = true → ∀ e ∈ oj.after, Region.binds md e = true → listed.getD e.on false = true
/-- Till number k has come C holds. -/
def Till (k : Nat) (C : World → Prop) (listed : Array Bool) (w : World) : Prop := listed.getD k false = true ∨ C w

/-- Whatever order is picked from here on, and C holds behind each operation till number k has come. -/
def wpAnyC (P : Program) (md : Region.Mode) (ops : Array Oper) (Q : Exit → Act → World → Prop) (k : Nat) (C : World → Prop) : Nat → Array Bool → Act → World → Prop
  | 0, listed, a, w => Region.ready md ops listed = [] ∧ Q .normal a w
  | fuel + 1, listed, a, w =>
    (Region.ready md ops listed = [] → Q .normal a w) ∧
    ∀ i ∈ Region.ready md ops listed, wpOp P ops Q i (fun a' w' => Till k C (listed.setIfInBounds i true) w' ∧ wpAnyC P md ops Q k C fuel (listed.setIfInBounds i true) a' w') a w

theorem wpAny_ofC : ∀ (fuel : Nat) (listed : Array Bool) (a : Act) (w : World), wpAnyC P md ops Q k C fuel listed a w → wpAny P md ops Q fuel listed a w
  | 0, _, _, _, h => h
  | fuel + 1, _, _, _, h => ⟨h.1, fun i hi => wpOp_mono (fun a' w' h' => wpAny_ofC fuel _ a' w' h'.2) (h.2 i hi)⟩

theorem Closed.set_ {listed : Array Bool} {j : Nat} (h : Closed md ops listed) (hj : j ∈ Region.ready md ops listed) : Closed md ops (listed.setIfInBounds j true) := by
  obtain ⟨hjun, oj, hoj, hall⟩ := mem_ready.1 hj
  intro m om hm hl e he hb
  by_cases hmj : m = j
  · subst hmj
    rw [hoj] at hm; cases hm
    exact getD_set_true (hall e he hb)
  · have : listed.getD m false = true := by
      rw [Array.getD_eq_getD_getElem?] at hl ⊢
      rwa [Array.getElem?_setIfInBounds_ne (Ne.symm hmj)] at hl
    exact getD_set_true (h m om hm this e he hb)

theorem getD_two {l : Array Bool} {i : Nat} (h : l.getD i true = false) : l.getD i false = false := by
  rw [Array.getD_eq_getD_getElem?] at h ⊢
  cases hh : l[i]? with
  | none => rw [hh] at h; simp at h
  | some b => rw [hh] at h; simpa using h
theorem getD_setf_ne {listed : Array Bool} {i j : Nat} (h : i ≠ j) : (listed.setIfInBounds i true).getD j false = listed.getD j false := by
  rw [Array.getD_eq_getD_getElem?, Array.getD_eq_getD_getElem?, Array.getElem?_setIfInBounds_ne h]

theorem Till.set_ {i : Nat} {listed : Array Bool} {w : World} (hik : i ≠ k) (h : Till k C listed w) : Till k C (listed.setIfInBounds i true) w := by
  rcases h with h | h
  · exact .inl (by rw [getD_setf_ne hik]; exact h)
  · exact .inr h
theorem till_of {i : Nat} (hk : ∀ ok, ops[k]? = some ok → ∃ e ∈ ok.after, Region.binds md e = true ∧ e.on = i) (listed : Array Bool) (w : World) (hsz : listed.size = ops.size) (hc : Closed md ops listed)
    (hr : i ∈ Region.ready md ops listed) (ht : Till k C listed w) : C w := by
  rcases ht with ht | ht
  · exfalso
    have hlt : k < ops.size := by
      rcases Nat.lt_or_ge k listed.size with h | h
      · omega
      · rw [Array.getD_eq_getD_getElem?, Array.getElem?_eq_none h] at ht; simp at ht
    obtain ⟨e, he, hb, rfl⟩ := hk _ (Array.getElem?_eq_getElem hlt)
    have h1 := hc k _ (Array.getElem?_eq_getElem hlt) ht e he hb
    have h2 := getD_two (mem_ready.1 hr).1
    rw [h1] at h2; cases h2
  · exact ht

/-- An operation that may come now may be taken first: it yields its value in every world that meets C, and number k waits for it. -/
theorem wpAnyC_first {i : Nat} {oi : Oper} {v : Value} (hi : ops[i]? = some oi) (hsel : ∀ (j : Nat) (o : Oper) cs b, ops[j]? = some o → o.op ≠ .select cs b)
    (hQ : ∀ c a w, Q (.panic c) (a.put oi.dst v) w → Q (.panic c) a w) (hik : i ≠ k) {D : World → Prop}
    (hCof : ∀ (listed : Array Bool) (w : World), listed.size = ops.size → Closed md ops listed → i ∈ Region.ready md ops listed → Till k C listed w → D w) :
    ∀ (fuel : Nat) (listed : Array Bool) (a : Act) (w : World), listed.size = ops.size → Closed md ops listed →
      (∀ j oj, ops[j]? = some oj → j ≠ i → listed.getD j true = false → (∀ e ∈ oj.after, Region.binds md e = true → e.on ≠ i) → oi.apart ops oj = true) →
      i ∈ Region.ready md ops listed → YieldsC P ops D oi v a → Till k C listed w →
      wpAnyC P md ops Q k C fuel (listed.setIfInBounds i true) (a.put oi.dst v) w → wpAnyC P md ops Q k C (fuel + 1) listed a w := by
  intro fuel
  induction fuel with
  | zero =>
    intro listed a w hsz hc _ hr hy hS H
    refine ⟨fun h => (by rw [h] at hr; cases hr), fun j hj => ?_⟩
    by_cases hji : j = i
    · subst hji
      have hCw := hCof listed w hsz hc hr hS
      exact hy.wpOp hi hCw ⟨Till.set_ hik hS, H⟩
    · have := ready_mono hj hji
      rw [H.1] at this
      cases this
  | succ fuel ih =>
    intro listed a w hsz hc hfree hr hy hS H
    refine ⟨fun h => (by rw [h] at hr; cases hr), fun j hj => ?_⟩
    by_cases hji : j = i
    · subst hji
      have hCw := hCof listed w hsz hc hr hS
      exact hy.wpOp hi hCw ⟨Till.set_ hik hS, H⟩
    · have h1 := H.2 j (ready_mono hj hji)
      obtain ⟨hjun, oj, hoj, hall⟩ := mem_ready.1 hj
      have hnot : ∀ e ∈ oj.after, Region.binds md e = true → e.on ≠ i := fun e he hb heq => by
        have h1 := hall e he hb
        have h0 := getD_two (mem_ready.1 hr).1
        rw [heq, h0] at h1
        cases h1
      have h2 := wpOp_putC hoj (hfree j oj hoj hji hjun hnot) (fun cs b => hsel i oi cs b hi) (fun cs b => hsel j oj cs b hoj) hQ hy h1
      have hfree' : ∀ m om, ops[m]? = some om → m ≠ i → (listed.setIfInBounds j true).getD m true = false →
          (∀ e ∈ om.after, Region.binds md e = true → e.on ≠ i) → oi.apart ops om = true := fun m om hm hmi hun hno => by
        refine hfree m om hm hmi ?_ hno
        by_cases hjm : j = m
        · subst hjm; exact hjun
        · rw [getD_set_ne true hjm] at hun; exact hun
      refine wpOp_mono (fun a' w' h3 => ?_) h2
      have ht : Till k C (listed.setIfInBounds j true) w' := by
        rcases h3.2.1 with ht | ht
        · refine .inl ?_
          rw [Array.setIfInBounds_comm _ _ (Ne.symm hji), getD_setf_ne hik] at ht
          exact ht
        · exact .inr ht
      refine ⟨ht, ih (listed.setIfInBounds j true) a' w' (by simp [hsz]) (hc.set_ hj) hfree' (ready_mono hr (Ne.symm hji)) h3.1 ht ?_⟩
      rw [Array.setIfInBounds_comm _ _ hji]
      exact h3.2.2

/-- Operations that only read, or reckon. -/
def readsOnly : Op → Bool
  | .move _ | .assign _ | .pick .. | .nilCheck _ | .binOp .. | .unOp .. | .fieldAddr .. | .field .. | .indexAddr .. | .extract .. | .slice .. | .load .. | .build .. => true
  | .convert s d _ => s != d
  | .call { callee := .builtin .len, .. } => true
  | .call { callee := .builtin .min, .. } => true
  | _ => false

/-- Operations that do not look at memory. -/
def memless : Op → Bool
  | .move _ | .assign _ | .pick .. | .nilCheck _ | .binOp .. | .unOp .. | .fieldAddr .. | .field .. | .indexAddr .. | .extract .. | .slice .. | .build .. => true
  | .call { callee := .builtin .len, .. } => true
  | .call { callee := .builtin .min, .. } => true
  | _ => false
/-- It looks at no memory; or it only reads, and number k waits for it. -/
def early (md : Region.Mode) (ops : Array Oper) (k i : Nat) (o : Oper) : Bool :=
  i != k && (memless o.op || readsOnly o.op && (match ops[k]? with | some ok => ok.after.any (fun e => Region.binds md e && e.on == i) | none => true))
theorem early_spec {i : Nat} {o : Oper} (h : early md ops k i o = true) : i ≠ k ∧ (memless o.op = false → ∀ ok, ops[k]? = some ok → ∃ e ∈ ok.after, Region.binds md e = true ∧ e.on = i) := by
  unfold early at h
  rw [Bool.and_eq_true] at h
  refine ⟨(by simpa using h.1), fun hm => ?_⟩
  have h2 := h.2
  rw [hm, Bool.false_or, Bool.and_eq_true] at h2
  replace h2 := h2.2
  cases hok : ops[k]? with
  | none => intro ok e; cases e
  | some ok =>
    rw [hok] at h2
    intro ok' e
    cases e
    obtain ⟨e, he, hb⟩ := Array.any_eq_true'.1 h2
    simp only [Bool.and_eq_true, beq_iff_eq] at hb
    exact ⟨e, he, hb.1, hb.2⟩
/-- What an operation that is taken early may lean on. -/
def OnWhat (C : World → Prop) (o : Oper) : World → Prop := if memless o.op then fun _ => True else C

/-- May the operations come in this one order? Each that only reads may come, is free of the others, and number k waits for it; each other one is the only one that may come. -/
def canonB (md : Region.Mode) (ops : Array Oper) (k : Nat) : List Nat → Array Bool → Bool
  | [], listed => (Region.ready md ops listed).isEmpty
  | i :: rest, listed => (match ops[i]? with
      | none => false
      | some o => if early md ops k i o then (Region.ready md ops listed).contains i && Region.free md ops listed i else Region.ready md ops listed == [i]) && canonB md ops k rest (listed.setIfInBounds i true)

/-- The walk in that order. -/
def wpCanon (P : Program) (md : Region.Mode) (ops : Array Oper) (Q : Exit → Act → World → Prop) (k : Nat) (C : World → Prop) : List Nat → Array Bool → Act → World → Prop
  | [], _, a, w => Q .normal a w
  | i :: rest, listed, a, w => match ops[i]? with
    | none => False
    | some o => if early md ops k i o
      then ∃ v, YieldsC P ops (OnWhat C o) o v a ∧ wpCanon P md ops Q k C rest (listed.setIfInBounds i true) (a.put o.dst v) w
      else wpOp P ops Q i (fun a' w' => Till k C (listed.setIfInBounds i true) w' ∧ wpCanon P md ops Q k C rest (listed.setIfInBounds i true) a' w') a w

theorem wpAnyC_canon (hs : Region.noSelect ops = true) (hQ : ∀ c (a : Act) (d : Option Tmp) v w, Q (.panic c) (a.put d v) w → Q (.panic c) a w) : ∀ (l : List Nat) (listed : Array Bool) (a : Act) (w : World),
    listed.size = ops.size → Closed md ops listed → Till k C listed w → canonB md ops k l listed = true → wpCanon P md ops Q k C l listed a w → wpAnyC P md ops Q k C l.length listed a w
  | [], listed, a, w, _, _, _, hB, h => ⟨by simpa [canonB] using hB, h⟩
  | i :: rest, listed, a, w, hsz, hc, ht, hB, h => by
    simp only [canonB, Bool.and_eq_true] at hB
    obtain ⟨hB1, hB2⟩ := hB
    simp only [wpCanon] at h
    cases ho : ops[i]? with
    | none => rw [ho] at h; exact h.elim
    | some o =>
      rw [ho] at h hB1
      simp only at h hB1
      by_cases hr : early md ops k i o = true
      · rw [if_pos hr] at h hB1
        obtain ⟨v, hy, hrest⟩ := h
        rw [Bool.and_eq_true] at hB1
        have hrd : i ∈ Region.ready md ops listed := by simpa using hB1.1
        obtain ⟨hik, hkk⟩ := early_spec hr
        have ht' : Till k C (listed.setIfInBounds i true) w := by
          rcases ht with ht | ht
          · exact .inl (by rw [getD_setf_ne hik]; exact ht)
          · exact .inr ht
        refine wpAnyC_first ho (Region.noSelect_spec hs) (fun c a w => hQ c a o.dst v w) hik (D := OnWhat C o) (fun l w h1 h2 h3 h4 => by
          unfold OnWhat
          cases hm : memless o.op with
          | true => trivial
          | false => exact till_of (hkk hm) l w h1 h2 h3 h4) rest.length listed a w hsz hc (Region.free_spec ho hB1.2) hrd hy ht
          (wpAnyC_canon hs hQ rest _ _ w (by simp [hsz]) (hc.set_ hrd) ht' hB2 hrest)
      · rw [if_neg hr] at h hB1
        have hrd : Region.ready md ops listed = [i] := by simpa using hB1
        refine ⟨fun h0 => (by rw [hrd] at h0; cases h0), fun j hj => ?_⟩
        rw [hrd] at hj
        simp at hj
        subst hj
        exact wpOp_mono (fun a' w' h' => ⟨h'.1, wpAnyC_canon hs hQ rest _ a' w' (by simp [hsz]) (hc.set_ (by rw [hrd]; simp)) h'.1 hB2 h'.2⟩) h

/-- A statement whose order is open, walked in the order l. -/
theorem wp_region_canon {id : Nat} {a : Act} {w : World} (l : List Nat) (k : Nat) (C : World → Prop) (hm : P.follows .mixedOrders = true) (hs : Region.noSelect ops = true) (hlen : l.length = ops.size)
    (hB : canonB .any ops k l (Array.replicate ops.size false) = true) (hQ : ∀ c (a : Act) (d : Option Tmp) v w, Q (.panic c) (a.put d v) w → Q (.panic c) a w)
    (hC : C w.drew) (h : wpCanon P .any ops Q k C l (Array.replicate ops.size false) a w.drew) : (Code.region id ops true).wp P Q a w := by
  refine wp_region_any hm (wpAny_ofC (k := k) (C := C) _ _ _ _ ?_)
  change wpAnyC P .any ops Q k C ops.size _ a w.drew
  have := wpAnyC_canon (md := .any) hs hQ l _ a w.drew (by simp) (fun j oj _ hj => ?_) (.inr hC) hB h
  · rw [hlen] at this; exact this
  · exfalso
    rw [Array.getD_eq_getD_getElem?, Array.getElem?_replicate] at hj
    split at hj <;> simp at hj

/-- The next one only reads. -/
theorem wpCanon_read {i : Nat} {rest : List Nat} {listed : Array Bool} {a : Act} {w : World} {o : Oper} {v : Value} (ho' : ops.toList[i]? = some o)
    (hr : early md ops k i o = true) (hw : Region.wanted o (yielded ops a.tmps) = true)
    (hy : ∀ w, OnWhat C o w → (execOp a.eval o).run P w = .ok (.value v) w) (h : wpCanon P md ops Q k C rest (listed.setIfInBounds i true) (a.put o.dst v) w) : wpCanon P md ops Q k C (i :: rest) listed a w := by
  have ho : ops[i]? = some o := by rw [← Array.getElem?_toList]; exact ho'
  simp only [wpCanon, ho]
  rw [if_pos hr]
  exact ⟨v, .inl ⟨hw, hy⟩, h⟩

/-- What stands behind one operation: what follows, or the way out. -/
def Behind (Q : Exit → Act → World → Prop) (N : Act → World → Prop) : Exit → Act → World → Prop
  | .normal, a, w => N a w
  | e, a, w => Q e a w

theorem Oper.wp_behind {o : Oper} {a : Act} {w : World} {N K : Act → World → Prop} (h : o.wp P a w K (Behind Q N)) : o.wp P a w K Q := by
  unfold Oper.wp at *
  generalize (execOp a.eval o).run P w = r at *
  cases r with
  | ok n w' =>
    cases n <;> simp only [Oper.upon] at h ⊢ <;> exact h
  | halt x w' => cases x <;> simp only [Oper.upon] at h ⊢ <;> exact h
theorem letsOut_behind {N : Act → World → Prop} (h : LetsOut (Behind Q N)) : LetsOut Q := h

/-- The next one writes, makes memory, or calls: it stands alone. -/
theorem wpCanon_act {i : Nat} {rest : List Nat} {listed : Array Bool} {a : Act} {w : World} {o : Oper} (ho' : ops.toList[i]? = some o)
    (hr : early md ops k i o = false)
    (h : wpList P ops (Behind Q (fun a' w' => Till k C (listed.setIfInBounds i true) w' ∧ wpCanon P md ops Q k C rest (listed.setIfInBounds i true) a' w')) [o] a w) : wpCanon P md ops Q k C (i :: rest) listed a w := by
  have ho : ops[i]? = some o := by rw [← Array.getElem?_toList]; exact ho'
  simp only [wpCanon, ho]
  rw [if_neg (by rw [hr]; simp)]
  simp only [wpList] at h
  unfold wpOp
  simp only [ho]
  split
  · rename_i hw
    rw [if_pos hw] at h
    rcases h with h | h
    · exact .inl (Oper.wp_behind h)
    · exact .inr ⟨h.1, letsOut_behind h.2⟩
  · rename_i hw
    rw [if_neg hw] at h
    exact h

theorem wpCanon_nil {listed : Array Bool} {a : Act} {w : World} (h : Q .normal a w) : wpCanon P md ops Q k C [] listed a w := h

/-- The world at hand under a name of its own. -/
theorem code_at {c : Code} {a : Act} {w : World} (h : ∀ w', w' = w → c.wp P Q a w') : c.wp P Q a w := h w rfl
theorem canon_at {l : List Nat} {listed : Array Bool} {a : Act} {w : World} (h : ∀ w', w' = w → wpCanon P md ops Q k C l listed a w') : wpCanon P md ops Q k C l listed a w := h w rfl
theorem post_at {fn : Func} {R : Ending → World → Prop} {e : Exit} {a : Act} {w : World} (h : ∀ w', w' = w → bodyPost P fn R e a w') : bodyPost P fn R e a w := h w rfl
theorem calls_at {f : FuncId} {args : Array Value} {R : Ending → World → Prop} {w : World} (h : ∀ w', w' = w → Calls P f args w' R) : Calls P f args w R := h w rfl
theorem list_at {l : List Oper} {a : Act} {w : World} (h : ∀ w', w' = w → wpList P ops Q l a w') : wpList P ops Q l a w := h w rfl

end
end Go.Proofs.Ytbhohohgojcapaa
