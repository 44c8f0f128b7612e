import Derived.Test.YtbhohohgojcapaaGreatPkC0
import Derived.Test.YtbhohohgojcapaaGreatPkA0
namespace Go.Proofs.YtbhohohgojcapaaGreat
open Go.RowKit
section
variable {A : Ar} {ix : Int} {s : Sl} {n : Nd} {P : Nd -> Prop}
theorem put_put (a b : Sl) : (A.put ix a).put ix b = A.put ix b := by unfold Ar.put; simp
theorem lay3_held (hs : A.get ix = some s) (ho : s.word % 2 = 1) : opLay3 A ix n = A.put ix ⟨back s.word true, n⟩ := by
 unfold opLay3
 rw [setHead_held hs ho]
 simp only
 have h1 : (A.put ix ⟨s.word, withHd s.nd n⟩).get ix = some ⟨s.word, withHd s.nd n⟩ := put_get hs _
 rw [setBody_held (n := n) h1 ho, put_put]
 simp only
 have h2 : (A.put ix ⟨s.word, withHd n (withHd s.nd n)⟩).get ix = some ⟨s.word, withHd n (withHd s.nd n)⟩ := put_get hs _
 rw [unlock_held h2 ho, put_put]
 rfl
theorem lay_in (hs : A.get ix = some s) : opLay A ix n = A.put ix ⟨back (if s.word % 2 = 0 then s.word + 1 else s.word) true, n⟩ := by
 have hle := get_le hs
 unfold opLay
 rw [if_neg (by omega)]
 have hw : opWord A ix = s.word := opWord_some hs
 rw [hw]
 obtain ⟨took, x1, A1, h1, h2, h3, h4⟩ := lock_own hs
 rw [h1]
 simp only
 rw [lay3_held h2 h3]
 rcases h4 with ⟨h5, _, h6, h7⟩ | ⟨h5, _, h6, h7⟩
 ·subst h7; rw [put_put, if_pos h5, h6]
 ·subst h7; rw [if_neg (by omega), h6]
theorem lay_new (hn : A.sl.length < A.nodes) : opLay A ((A.sl.length : Int) + 1) n = { A with sl := A.sl ++ [⟨2, n⟩] } := by
 unfold opLay
 rw [if_pos (by omega)]
 have ha : opAlloc A = ((A.sl.length : Int) + 1, 0, { A with sl := A.sl ++ [⟨1, Nd.zero⟩] }) := by unfold opAlloc; rw [if_neg (by omega)]
 rw [ha]
 simp only
 rw [if_pos trivial]
 have hg : ({ A with sl := A.sl ++ [⟨1, Nd.zero⟩] } : Ar).get ((A.sl.length : Int) + 1) = some ⟨1, Nd.zero⟩ := by
  unfold Ar.get
  rw [if_pos (by omega)]
  simp
 rw [lay3_held hg rfl]
 unfold Ar.put
 simp [back]
theorem lay_full (hn : A.sl.length = A.nodes) : opLay A ((A.sl.length : Int) + 1) n = A := by
 unfold opLay
 rw [if_pos (by omega)]
 have ha : opAlloc A = (0, 2, A) := by unfold opAlloc; rw [if_pos hn]
 rw [ha]; rfl
theorem all_put (hA : ∀ s ∈ A.sl, P s.nd) {t : Sl} (ht : P t.nd) : ∀ s ∈ (A.put ix t).sl, P s.nd := λ s hs => by
 rcases List.mem_or_eq_of_mem_set hs with h | rfl
 ·exact hA s h
 ·exact ht
theorem all_lay (hA : ∀ s ∈ A.sl, P s.nd) (hn : P n) (h1 : 1 <= ix) (h2 : ix <= (A.sl.length : Int) + 1) (hb : A.sl.length <= A.nodes) : ∀ s ∈ (opLay A ix n).sl, P s.nd := by
 by_cases hl : ix <= A.sl.length
 ·obtain ⟨s, hs⟩ := get_in h1 hl
  rw [lay_in hs]
  exact all_put hA hn
 ·obtain rfl : ix = (A.sl.length : Int) + 1 := by omega
  rcases Nat.lt_or_ge A.sl.length A.nodes with h | h
  ·rw [lay_new h]
   intro s hs
   rcases List.mem_append.1 hs with hs | hs
   ·exact hA s hs
   ·simp at hs; subst hs; exact hn
  ·rw [lay_full (by omega)]; exact hA
theorem all_lock {wd : Nat} (hA : ∀ s ∈ A.sl, P s.nd) : ∀ s ∈ (opLock A ix wd).2.2.sl, P s.nd := by
 unfold opLock
 split
 ·exact hA
 ·rename_i s hs
  obtain ⟨i, _, hi, _⟩ := get_some hs
  split
  ·exact all_put hA (hA s (List.mem_of_getElem? hi))
  ·exact hA
theorem all_unlock {c : Bool} (hA : ∀ s ∈ A.sl, P s.nd) : ∀ s ∈ (opUnlock A ix c).2.sl, P s.nd := by
 unfold opUnlock
 split
 ·exact hA
 ·rename_i s hs
  obtain ⟨i, _, hi, _⟩ := get_some hs
  split
  ·exact hA
  ·exact all_put hA (hA s (List.mem_of_getElem? hi))
theorem all_grow {o : Int} (hA : ∀ s ∈ A.sl, P s.nd) : ∀ s ∈ (opGrow A o ix).2.2.sl, P s.nd := by
 unfold opGrow
 split
 ·exact hA
 ·split <;> exact hA
theorem pk_id {c : Int} {m : Int} (h0 : 0 <= c) (hm : c < m) : pk c m = c := by
 unfold pk
 rw [if_neg (by omega)]
 exact Int.emod_eq_of_lt h0 hm
end
structure O13 where
 kd : Int
 a : Int
 b : Int
 key : List UInt8
 val : List UInt8
 hi : List UInt8
 ch : Bool
 nd : Nd
def at13 (A : Ar) (o : O13) : Int := pk o.a A.sl.length
def nd13 (A : Ar) (o : O13) : Nd := opNd A (at13 A o + 1)
def turnM (A : Ar) (o : O13) : Ar :=
 if o.kd = 0 then (if right o.nd = true then step A ⟨7, o.a, 0, 0, false, o.nd⟩ else A)
 else if o.kd = 1 then (if (nd13 A o).lvl = 0 then step A ⟨7, at13 A o, 0, 0, false, wth (nd13 A o) o.key o.val⟩ else A)
 else if o.kd = 2 then (if (nd13 A o).lvl = 0 then step A ⟨7, at13 A o, 0, 0, false, woutD (nd13 A o) o.key⟩ else A)
 else if o.kd = 3 then (if (spK (nd13 A o)).length = 0 \/ A.sl.length = A.nodes then A else step (step A ⟨7, A.sl.length, 0, 0, false, spR (nd13 A o)⟩) ⟨7, at13 A o, 0, 0, false, spL (nd13 A o) ((A.sl.length : Int) + 1)⟩)
 else if o.kd = 4 then step A ⟨2, at13 A o + 1, 0, 0, false, Nd.zero⟩
 else if o.kd = 5 then step A ⟨3, at13 A o + 1, 0, 0, o.ch, Nd.zero⟩
 else step A ⟨6, A.root, at13 A o + 1, 0, false, Nd.zero⟩
section
variable {A : Ar} {n : Nd} {P : Nd -> Prop}
theorem step_lay (a : Int) : step A ⟨7, a, 0, 0, false, n⟩ = opLay A (1 + pk a ((A.sl.length : Int) + 1)) n := by
 unfold step
 rw [if_neg (show ¬ pk 7 9 = 0 by decide), if_neg (show ¬ pk 7 9 = 1 by decide), if_neg (show ¬ pk 7 9 = 2 by decide), if_neg (show ¬ pk 7 9 = 3 by decide), if_neg (show ¬ pk 7 9 = 4 by decide), if_neg (show ¬ pk 7 9 = 5 by decide), if_neg (show ¬ pk 7 9 = 6 by decide), if_pos (show pk 7 9 = 7 by decide)]
theorem step_lock (a : Int) : ∃ wd, step A ⟨2, a, 0, 0, false, n⟩ = (opLock A (opId A a) wd).2.2 := by
 unfold step
 rw [if_neg (show ¬ pk 2 9 = 0 by decide), if_neg (show ¬ pk 2 9 = 1 by decide), if_pos (show pk 2 9 = 2 by decide)]
 exact ⟨_, rfl⟩
theorem step_unlock (a : Int) (c : Bool) : step A ⟨3, a, 0, 0, c, n⟩ = (opUnlock A (opId A a) c).2 := by
 unfold step
 rw [if_neg (show ¬ pk 3 9 = 0 by decide), if_neg (show ¬ pk 3 9 = 1 by decide), if_neg (show ¬ pk 3 9 = 2 by decide), if_pos (show pk 3 9 = 3 by decide)]
theorem step_grow (a b : Int) : step A ⟨6, a, b, 0, false, n⟩ = (opGrow A (opId A a) (opId A b)).2.2 := by
 unfold step
 rw [if_neg (show ¬ pk 6 9 = 0 by decide), if_neg (show ¬ pk 6 9 = 1 by decide), if_neg (show ¬ pk 6 9 = 2 by decide), if_neg (show ¬ pk 6 9 = 3 by decide), if_neg (show ¬ pk 6 9 = 4 by decide), if_neg (show ¬ pk 6 9 = 5 by decide), if_pos (show pk 6 9 = 6 by decide)]
theorem all_stepLay (a : Int) (hA : ∀ s ∈ A.sl, P s.nd) (hn : P n) (hb : A.sl.length <= A.nodes) : ∀ s ∈ (step A ⟨7, a, 0, 0, false, n⟩).sl, P s.nd := by
 rw [step_lay]
 have := pk_range a ((A.sl.length : Int) + 1) (by omega)
 exact all_lay hA hn (by omega) (by omega) hb
theorem all_turn {o : O13} {Q : Nd -> Prop} (hA : ∀ s ∈ A.sl, P s.nd) (hz : P Nd.zero) (hPQ : ∀ n, P n -> Q n) (hb : A.sl.length <= A.nodes) (h0 : right o.nd = true -> Q o.nd) (h1 : ∀ n, P n -> n.lvl = 0 -> Q (wth n o.key o.val)) (h2 : ∀ n, P n -> n.lvl = 0 -> Q (woutD n o.key))
  (h3 : ∀ n r, P n -> Q (spL n r) /\ Q (spR n)) : ∀ s ∈ (turnM A o).sl, Q s.nd := by
 have hQ : ∀ s ∈ A.sl, Q s.nd := λ s hs => hPQ _ (hA s hs)
 have hn : P (nd13 A o) := by
  unfold nd13 opNd
  split
  ·exact hz
  ·rename_i s hs
   obtain ⟨i, _, hi, _⟩ := get_some hs
   exact hA s (List.mem_of_getElem? hi)
 unfold turnM
 split
 ·split
  ·rename_i hr; exact all_stepLay _ hQ (h0 hr) hb
  ·exact hQ
 split
 ·split
  ·rename_i hl; exact all_stepLay _ hQ (h1 _ hn hl) hb
  ·exact hQ
 split
 ·split
  ·rename_i hl; exact all_stepLay _ hQ (h2 _ hn hl) hb
  ·exact hQ
 split
 ·split
  ·exact hQ
  ·rename_i hne
   have hlt : A.sl.length < A.nodes := by omega
   have hs1 : step A ⟨7, A.sl.length, 0, 0, false, spR (nd13 A o)⟩ = { A with sl := A.sl ++ [⟨2, spR (nd13 A o)⟩] } := by
    rw [step_lay, pk_id (by omega) (by omega), show (1 + (A.sl.length : Int)) = (A.sl.length : Int) + 1 by omega, lay_new hlt]
   refine all_stepLay _ (all_stepLay _ hQ (h3 _ 0 hn).2 hb) (h3 _ _ hn).1 ?_
   rw [hs1]; simp; omega
 split
 ·obtain ⟨wd, e⟩ := step_lock (A := A) (n := Nd.zero) (at13 A o + 1)
  rw [e]; exact all_lock hQ
 split
 ·rw [step_unlock]; exact all_unlock hQ
 ·rw [step_grow]; exact all_grow hQ
def RightA (A : Ar) : Prop := ∀ s ∈ A.sl, right s.nd = true
def SmA (c : Nat) (A : Ar) : Prop := ∀ s ∈ A.sl, NdSm c s.nd
theorem right_turn {o : O13} (hA : RightA A) (hb : A.sl.length <= A.nodes) : RightA (turnM A o) :=
 all_turn (P := λ n => right n = true) (Q := λ n => right n = true) hA right_zero (λ _ h => h) hb (λ h => h) (λ n h hl => (right_with h hl).1) (λ n h hl => (right_wout h hl).1) (λ n r h => ⟨right_spL h, right_spR h⟩)
theorem zero_sm {c : Nat} (hc : c <= 200000000000000) : NdSm c Nd.zero := by
 have hz : Sm c 1 0 /\ Sm c 24 0 /\ Sm c 8 0 := by unfold Sm; omega
 exact ⟨hz.1, ⟨hz.2.1, λ x hx => by simp [Nd.zero] at hx⟩, ⟨hz.2.1, λ x hx => by simp [Nd.zero] at hx⟩, hz.2.2⟩
theorem sm_turn {o : O13} {c : Nat} (hA : SmA (c + 24) A) (hc : c + 24 <= 200000000000000) (hb : A.sl.length <= A.nodes) (hk : Sm c 1 o.key.length) (hv : Sm c 1 o.val.length) (hn : NdSm c o.nd) : SmA c (turnM A o) :=
 all_turn (P := λ n => NdSm (c + 24) n) (Q := λ n => NdSm c n) hA (zero_sm hc) (λ _ h => h.mono (by omega)) hb (λ _ => hn) (λ n h _ => with_sm h hk hv) (λ n h _ => wout_sm (h.mono (by omega))) (λ n r h => ⟨spL_sm (h.mono (by omega)) (by omega), spR_sm (h.mono (by omega)) (by omega)⟩)
end
end Go.Proofs.YtbhohohgojcapaaGreat

namespace Go.Proofs.YtbhohohgojcapaaGreat
section
variable {P : Program} {ops : Array Oper} {Q : Exit -> Act -> World -> Prop} {md : Region.Mode} {k : Nat} {C : World -> Prop} {R : Act -> World -> Prop}
def putsA (a : Act) : List (Option Tmp × Value) -> Act
 | [] => a
 | (d, v) :: l => putsA (a.put d v) l
theorem Oper.wp_cut {o : Oper} {a : Act} {w : World} {N K K' : Act -> World -> Prop} (hK : ∀ a w, K a w -> K' a w) (h : o.wp P a w K (Behind Q N)) : o.wp P a w K' Q := by
 unfold Oper.wp at *
 generalize (execOp a.eval o).run P w = r at *
 cases r with
 | ok n w' =>
  cases n <;> simp only [Oper.upon] at h ⊢
  case value u => exact hK _ _ h
  case skip => exact hK _ _ h
  case defer d => exact hK _ _ h
  case enter f args =>
   refine Calls.mono h λ e w'' he => ?_
   cases e with
   | returned u => exact hK _ _ he
   | panicked c => exact he
   | outgrown => exact he
  case row row args => exact Rows.mono h λ u w'' he => hK _ _ he
 | halt x w' => cases x <;> simp only [Oper.upon] at h ⊢ <;> exact h
theorem wpList_behind {N : Act -> World -> Prop} (hN : ∀ a w, N a w -> Q .normal a w) : ∀ (l : List Oper) (a : Act) (w : World), wpList P ops (Behind Q N) l a w -> wpList P ops Q l a w
 | [], _, _, h => hN _ _ h
 | o :: rest, a, w, h => by
  simp only [wpList] at h ⊢
  split
  ·rename_i hw
   rw [if_pos hw] at h
   rcases h with h | h
   ·exact .inl (Oper.wp_cut (λ a w h => wpList_behind hN rest a w h) h)
   ·exact .inr ⟨h.1, letsOut_behind h.2⟩
  ·rename_i hw
   rw [if_neg hw] at h
   exact wpList_behind hN rest _ _ h
theorem wpList_cut {l : List Oper} {a : Act} {w : World} (vals : List (Option Tmp × Value)) (F : World -> Prop) (h : wpList P ops (Behind Q (λ a' w' => a' = putsA a vals /\ F w')) l a w) (he : ∀ w', F w' -> Q .normal (putsA a vals) w') : wpList P ops Q l a w :=
 wpList_behind (λ a' w' ⟨e, hf⟩ => by rw [e]; exact he w' hf) l a w h
theorem wpOp_behind {i : Nat} {a : Act} {w : World} {o : Oper} {K : Act -> World -> Prop} (ho' : ops.toList[i]? = some o) (h : wpList P ops (Behind Q K) [o] a w) : wpOp P ops Q i K a w := by
 have ho : ops[i]? = some o := by rw [<- Array.getElem?_toList]; exact ho'
 simp only [wpList] at h
 unfold wpOp
 simp only [ho]
 split
 ·rename_i hw
  rw [if_pos hw] at h
  rcases h with h | h
  ·exact .inl (Oper.wp_behind h)
  ·exact .inr ⟨h.1, letsOut_behind h.2⟩
 ·rename_i hw
  rw [if_neg hw] at h
  exact h
end
end Go.Proofs.YtbhohohgojcapaaGreat
