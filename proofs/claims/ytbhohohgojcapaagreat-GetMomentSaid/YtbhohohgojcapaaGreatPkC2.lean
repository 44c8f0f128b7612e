import Derived.Test.YtbhohohgojcapaaGreatPkC1
import Derived.Test.YtbhohohgojcapaaGreatPkA6
import Derived.Test.YtbhohohgojcapaaGreatPkB3
import Derived.Test.YtbhohohgojcapaaGreatPkA8
namespace Go.Proofs.YtbhohohgojcapaaGreat
inductive Wlk where
 | nil
 | read (i : Nat) (r : Wlk)
 | act (i : Nat) (r : Wlk)
 | two (i : Nat) (r : Wlk) (j : Nat) (s : Wlk)
 | three (i : Nat) (r : Wlk) (j : Nat) (s : Wlk) (m : Nat) (t : Wlk)
def Wlk.len : Wlk -> Nat
 | .nil => 0
 | .read _ r => r.len + 1
 | .act _ r => r.len + 1
 | .two _ r _ s => max r.len s.len + 1
 | .three _ r _ s _ t => max r.len (max s.len t.len) + 1
def Wlk.reads : List Nat -> Wlk -> Wlk
 | [], r => r
 | i :: l, r => .read i (Wlk.reads l r)
section
variable {P : Program} {ops : Array Oper} {Q : Exit -> Act -> World -> Prop} {md : Region.Mode} {k : Nat} {C : World -> Prop} {R : Act -> World -> Prop}
def treeC (md : Region.Mode) (ops : Array Oper) (k : Nat) : Wlk -> Array Bool -> Bool
 | .nil, listed => (Region.ready md ops listed).isEmpty
 | .read i r, listed => (match ops[i]? with
   | none => false
   | some o => early md ops k i o && ((Region.ready md ops listed).contains i && Region.free md ops listed i)) && treeC md ops k r (listed.setIfInBounds i true)
 | .act i r, listed => (Region.ready md ops listed == [i]) && treeC md ops k r (listed.setIfInBounds i true)
 | .two i r j s, listed => (Region.ready md ops listed == [i, j]) && (treeC md ops k r (listed.setIfInBounds i true) && treeC md ops k s (listed.setIfInBounds j true))
 | .three i r j s m t, listed => (Region.ready md ops listed == [i, j, m]) && (treeC md ops k r (listed.setIfInBounds i true) && (treeC md ops k s (listed.setIfInBounds j true) && treeC md ops k t (listed.setIfInBounds m true)))
def wpTre (P : Program) (md : Region.Mode) (ops : Array Oper) (Q : Exit -> Act -> World -> Prop) (R : Act -> World -> Prop) (k : Nat) (C : World -> Prop) : Wlk -> Array Bool -> Act -> World -> Prop
 | .nil, _, a, w => R a w
 | .read i r, listed, a, w => match ops[i]? with
  | none => False
  | some o => ∃ v, YieldsC P ops (OnWhat C o) o v a /\ wpTre P md ops Q R k C r (listed.setIfInBounds i true) (a.put o.dst v) w
 | .act i r, listed, a, w => wpOp P ops Q i (λ a' w' => Till k C (listed.setIfInBounds i true) w' /\ wpTre P md ops Q R k C r (listed.setIfInBounds i true) a' w') a w
 | .two i r j s, listed, a, w =>
  wpOp P ops Q i (λ a' w' => Till k C (listed.setIfInBounds i true) w' /\ wpTre P md ops Q R k C r (listed.setIfInBounds i true) a' w') a w /\
  wpOp P ops Q j (λ a' w' => Till k C (listed.setIfInBounds j true) w' /\ wpTre P md ops Q R k C s (listed.setIfInBounds j true) a' w') a w
 | .three i r j s m t, listed, a, w =>
  wpOp P ops Q i (λ a' w' => Till k C (listed.setIfInBounds i true) w' /\ wpTre P md ops Q R k C r (listed.setIfInBounds i true) a' w') a w /\
  wpOp P ops Q j (λ a' w' => Till k C (listed.setIfInBounds j true) w' /\ wpTre P md ops Q R k C s (listed.setIfInBounds j true) a' w') a w /\
  wpOp P ops Q m (λ a' w' => Till k C (listed.setIfInBounds m true) w' /\ wpTre P md ops Q R k C t (listed.setIfInBounds m true) a' w') a w
theorem wpAnyC_tre (hs : Region.noSelect ops = true) (hQ : ∀ c (a : Act) (d : Option Tmp) v w, Q (.panic c) (a.put d v) w -> Q (.panic c) a w) (he : ∀ a w, R a w -> Q .normal a w) : ∀ (T : Wlk) (fuel : Nat) (listed : Array Bool) (a : Act) (w : World),
  T.len <= fuel -> listed.size = ops.size -> Closed md ops listed -> Till k C listed w -> treeC md ops k T listed = true -> wpTre P md ops Q R k C T listed a w -> wpAnyC P md ops Q k C fuel listed a w
 | .nil, 0, listed, a, w, _, _, _, _, hB, h => ⟨by simpa [treeC] using hB, he _ _ h⟩
 | .nil, fuel + 1, listed, a, w, _, _, _, _, hB, h => by
  have hr : Region.ready md ops listed = [] := by simpa [treeC] using hB
  exact ⟨λ _ => he _ _ h, λ i hi => by rw [hr] at hi; cases hi⟩
 | .read i r, 0, _, _, _, hl, _, _, _, _, _ => by simp [Wlk.len] at hl
 | .act i r, 0, _, _, _, hl, _, _, _, _, _ => by simp [Wlk.len] at hl
 | .two i r j s, 0, _, _, _, hl, _, _, _, _, _ => by simp [Wlk.len] at hl
 | .three i r j s m t, 0, _, _, _, hl, _, _, _, _, _ => by simp [Wlk.len] at hl
 | .read i r, fuel + 1, listed, a, w, hl, hsz, hc, ht, hB, h => by
  simp only [treeC, Bool.and_eq_true] at hB
  obtain ⟨hB1, hB2⟩ := hB
  simp only [wpTre] at h
  cases ho : ops[i]? with
  | none => rw [ho] at h; exact h.elim
  | some o =>
   rw [ho] at h hB1
   simp only [Bool.and_eq_true] at h hB1
   obtain ⟨v, hy, hrest⟩ := h
   obtain ⟨hik, hkk⟩ := early_spec hB1.1
   have hrd : i ∈ Region.ready md ops listed := by simpa using hB1.2.1
   have ht' : Till k C (listed.setIfInBounds i true) w := by
    rcases ht with ht | ht
    ·exact .inl (by rw [getD_setf_ne hik]; exact ht)
    ·exact .inr ht
   exact wpAnyC_first ho (Region.noSelect_spec hs) (λ c a w => hQ c a o.dst v w) hik (D := OnWhat C o) (λ l w h1 h2 h3 h4 => by
    unfold OnWhat
    cases hm : memless o.op with
    | true => trivial
    | false => exact till_of (hkk hm) l w h1 h2 h3 h4) fuel listed a w hsz hc (Region.free_spec ho hB1.2.2) hrd hy ht
    (wpAnyC_tre hs hQ he r fuel _ _ w (by simp [Wlk.len] at hl; omega) (by simp [hsz]) (hc.set_ hrd) ht' hB2 hrest)
 | .act i r, fuel + 1, listed, a, w, hl, hsz, hc, ht, hB, h => by
  simp only [treeC, Bool.and_eq_true] at hB
  obtain ⟨hB1, hB2⟩ := hB
  simp only [wpTre] at h
  have hrd : Region.ready md ops listed = [i] := by simpa using hB1
  refine ⟨λ h0 => (by rw [hrd] at h0; cases h0), λ j hj => ?_⟩
  rw [hrd] at hj
  simp at hj
  subst hj
  exact wpOp_mono (λ a' w' h' => ⟨h'.1, wpAnyC_tre hs hQ he r fuel _ a' w' (by simp [Wlk.len] at hl; omega) (by simp [hsz]) (hc.set_ (by rw [hrd]; simp)) h'.1 hB2 h'.2⟩) h
 | .two i r m s, fuel + 1, listed, a, w, hl, hsz, hc, ht, hB, h => by
  simp only [treeC, Bool.and_eq_true] at hB
  obtain ⟨hB1, hB2, hB3⟩ := hB
  simp only [wpTre] at h
  have hrd : Region.ready md ops listed = [i, m] := by simpa using hB1
  have hl' : r.len <= fuel /\ s.len <= fuel := by simp [Wlk.len] at hl; omega
  refine ⟨λ h0 => (by rw [hrd] at h0; cases h0), λ j hj => ?_⟩
  rw [hrd] at hj
  simp only [List.mem_cons, List.not_mem_nil, or_false] at hj
  rcases hj with rfl | rfl
  ·exact wpOp_mono (λ a' w' h' => ⟨h'.1, wpAnyC_tre hs hQ he r fuel _ a' w' hl'.1 (by simp [hsz]) (hc.set_ (by rw [hrd]; simp)) h'.1 hB2 h'.2⟩) h.1
  ·exact wpOp_mono (λ a' w' h' => ⟨h'.1, wpAnyC_tre hs hQ he s fuel _ a' w' hl'.2 (by simp [hsz]) (hc.set_ (by rw [hrd]; simp)) h'.1 hB3 h'.2⟩) h.2
 | .three i r m s n t, fuel + 1, listed, a, w, hl, hsz, hc, ht, hB, h => by
  simp only [treeC, Bool.and_eq_true] at hB
  obtain ⟨hB1, hB2, hB3, hB4⟩ := hB
  simp only [wpTre] at h
  have hrd : Region.ready md ops listed = [i, m, n] := by simpa using hB1
  have hl' : r.len <= fuel /\ s.len <= fuel /\ t.len <= fuel := by simp [Wlk.len] at hl; omega
  refine ⟨λ h0 => (by rw [hrd] at h0; cases h0), λ j hj => ?_⟩
  rw [hrd] at hj
  simp only [List.mem_cons, List.not_mem_nil, or_false] at hj
  rcases hj with rfl | rfl | rfl
  ·exact wpOp_mono (λ a' w' h' => ⟨h'.1, wpAnyC_tre hs hQ he r fuel _ a' w' hl'.1 (by simp [hsz]) (hc.set_ (by rw [hrd]; simp)) h'.1 hB2 h'.2⟩) h.1
  ·exact wpOp_mono (λ a' w' h' => ⟨h'.1, wpAnyC_tre hs hQ he s fuel _ a' w' hl'.2.1 (by simp [hsz]) (hc.set_ (by rw [hrd]; simp)) h'.1 hB3 h'.2⟩) h.2.1
  ·exact wpOp_mono (λ a' w' h' => ⟨h'.1, wpAnyC_tre hs hQ he t fuel _ a' w' hl'.2.2 (by simp [hsz]) (hc.set_ (by rw [hrd]; simp)) h'.1 hB4 h'.2⟩) h.2.2
theorem wp_region_tre {id : Nat} {a : Act} {w : World} (T : Wlk) (k : Nat) (C : World -> Prop) (R : Act -> World -> Prop) (hm : P.follows .mixedOrders = true) (hs : Region.noSelect ops = true) (hlen : T.len <= ops.size)
  (hB : treeC .any ops k T (Array.replicate ops.size false) = true) (hQ : ∀ c (a : Act) (d : Option Tmp) v w, Q (.panic c) (a.put d v) w -> Q (.panic c) a w)
  (hC : C w.drew) (h : wpTre P .any ops Q R k C T (Array.replicate ops.size false) a w.drew) (he : ∀ a w, R a w -> Q .normal a w) : (Code.region id ops true).wp P Q a w := by
 refine wp_region_any hm (wpAny_ofC (k := k) (C := C) _ _ _ _ ?_)
 change wpAnyC P .any ops Q k C ops.size _ a w.drew
 exact wpAnyC_tre (md := .any) hs hQ he T _ _ a w.drew hlen (by simp) (λ j oj _ hj => by
  exfalso
  rw [Array.getD_eq_getD_getElem?, Array.getElem?_replicate] at hj
  split at hj <;> simp at hj) (.inr hC) hB h
theorem wp_region_treV {X : Type} {id : Nat} {a : Act} {w : World} (vals : X -> List (Option Tmp × Value)) (F : X -> World -> Prop) (T : Wlk) (k : Nat) (C : World -> Prop) (hm : P.follows .mixedOrders = true) (hs : Region.noSelect ops = true) (hlen : T.len <= ops.size)
  (hB : treeC .any ops k T (Array.replicate ops.size false) = true) (hQ : ∀ c (a : Act) (d : Option Tmp) v w, Q (.panic c) (a.put d v) w -> Q (.panic c) a w)
  (hC : C w.drew) (h : wpTre P .any ops Q (λ a' w' => ∃ x, a' = putsA a (vals x) /\ F x w') k C T (Array.replicate ops.size false) a w.drew) (he : ∀ x w, F x w -> Q .normal (putsA a (vals x)) w) : (Code.region id ops true).wp P Q a w :=
 wp_region_tre T k C _ hm hs hlen hB hQ hC h (λ a w ⟨x, e, hf⟩ => by rw [e]; exact he x w hf)
theorem wpTre_read {i : Nat} {r : Wlk} {listed : Array Bool} {a : Act} {w : World} {o : Oper} {v : Value} (ho' : ops.toList[i]? = some o)
  (hw : Region.wanted o (yielded ops a.tmps) = true)
  (hy : ∀ w, OnWhat C o w -> (execOp a.eval o).run P w = .ok (.value v) w) (h : wpTre P md ops Q R k C r (listed.setIfInBounds i true) (a.put o.dst v) w) : wpTre P md ops Q R k C (.read i r) listed a w := by
 have ho : ops[i]? = some o := by rw [<- Array.getElem?_toList]; exact ho'
 simp only [wpTre, ho]
 exact ⟨v, .inl ⟨hw, hy⟩, h⟩
theorem wpTre_act {i : Nat} {r : Wlk} {listed : Array Bool} {a : Act} {w : World} {o : Oper} (ho' : ops.toList[i]? = some o)
  (h : wpList P ops (Behind Q (λ a' w' => Till k C (listed.setIfInBounds i true) w' /\ wpTre P md ops Q R k C r (listed.setIfInBounds i true) a' w')) [o] a w) : wpTre P md ops Q R k C (.act i r) listed a w :=
 wpOp_behind ho' h
theorem wpTre_two {i j : Nat} {r s : Wlk} {listed : Array Bool} {a : Act} {w : World} {o u : Oper} (ho : ops.toList[i]? = some o) (hu : ops.toList[j]? = some u)
  (h : wpList P ops (Behind Q (λ a' w' => Till k C (listed.setIfInBounds i true) w' /\ wpTre P md ops Q R k C r (listed.setIfInBounds i true) a' w')) [o] a w)
  (h' : wpList P ops (Behind Q (λ a' w' => Till k C (listed.setIfInBounds j true) w' /\ wpTre P md ops Q R k C s (listed.setIfInBounds j true) a' w')) [u] a w) : wpTre P md ops Q R k C (.two i r j s) listed a w :=
 ⟨wpOp_behind ho h, wpOp_behind hu h'⟩
theorem wpTre_three {i j m : Nat} {r s t : Wlk} {listed : Array Bool} {a : Act} {w : World} {o u v : Oper} (ho : ops.toList[i]? = some o) (hu : ops.toList[j]? = some u) (hv : ops.toList[m]? = some v)
  (h : wpList P ops (Behind Q (λ a' w' => Till k C (listed.setIfInBounds i true) w' /\ wpTre P md ops Q R k C r (listed.setIfInBounds i true) a' w')) [o] a w)
  (h' : wpList P ops (Behind Q (λ a' w' => Till k C (listed.setIfInBounds j true) w' /\ wpTre P md ops Q R k C s (listed.setIfInBounds j true) a' w')) [u] a w)
  (h'' : wpList P ops (Behind Q (λ a' w' => Till k C (listed.setIfInBounds m true) w' /\ wpTre P md ops Q R k C t (listed.setIfInBounds m true) a' w')) [v] a w) : wpTre P md ops Q R k C (.three i r j s m t) listed a w :=
 ⟨wpOp_behind ho h, wpOp_behind hu h', wpOp_behind hv h''⟩
theorem wpTre_nil {listed : Array Bool} {a : Act} {w : World} (h : R a w) : wpTre P md ops Q R k C .nil listed a w := h
theorem tre_at' {T : Wlk} {listed listed' : Array Bool} {a : Act} {w : World} (h : ∀ w', w' = w -> Till k C listed' w' /\ wpTre P md ops Q R k C T listed a w') : Till k C listed' w /\ wpTre P md ops Q R k C T listed a w := h w rfl
theorem tre_at {T : Wlk} {listed : Array Bool} {a : Act} {w : World} (h : ∀ w', w' = w -> wpTre P md ops Q R k C T listed a w') : wpTre P md ops Q R k C T listed a w := h w rfl
end
end Go.Proofs.YtbhohohgojcapaaGreat

set_option maxHeartbeats 64000000
namespace Go.Proofs.YtbhohohgojcapaaGreat
open Go.RowKit
theorem pick13_ {c n : Int} (w : World) (hc : I64 c) (hn : 1 <= n) : Calls Tryz.prog 21 #[iV c, iV n] w λ e w' => e = .returned (iV (pk c n)) /\ w = w' := by
 unfold I64 at hc
 obtain ⟨hc1, hc2⟩ := hc
 by_cases h : c < 0
 ·have e : pk c n = (-(c + 1)) % n := by unfold pk; rw [if_pos h]
  have E := Hd e; clear e
  unfold iV
  change Calls _ _ _ _ (λ e w' => e = .returned (iV (pk c n)) /\ w = w')
  go_enter Tryz.func21, Tryz.ntmps21
  go_wp2
  go_ret
  exact ⟨ret_i (by rw [E.out, <- Int.neg_tmod, Int.tmod_eq_emod_of_nonneg (by omega)]), rfl⟩
 ·have e : pk c n = c % n := by unfold pk; rw [if_neg h]
  have E := Hd e; clear e
  have h' : 0 <= c := by omega
  clear h
  unfold iV
  change Calls _ _ _ _ (λ e w' => e = .returned (iV (pk c n)) /\ w = w')
  go_enter Tryz.func21, Tryz.ntmps21
  go_wp2
  go_ret
  exact ⟨ret_i E.out.symm, rfl⟩
end Go.Proofs.YtbhohohgojcapaaGreat

namespace Go.Proofs.YtbhohohgojcapaaGreat
open Go.RowKit
inductive Nx where
 | root | latch | head | body | valid | done
 deriving DecidableEq
structure Mc where
 key : List UInt8
 level : Int
 nx : Nx
 id : Int
 word : Nat
 nd : Nd
 there : Bool
 again : Int
 right : Int
def Mc.new (key : List UInt8) (level : Int) : Mc := ⟨key, level, .root, 0, 0, Nd.zero, false, 0, 0⟩
def rootM (A : Ar) (M : Mc) : Mc := { M with id := A.root, nx := .latch }
def latchM (A : Ar) (M : Mc) : Mc := { M with word := opWord A M.id, nx := if opWord A M.id % 2 = 0 then .head else M.nx }
def headM (A : Ar) (M : Mc) : Mc := { M with nd := withHd M.nd (opNd A M.id), nx := .body }
def bodyM (A : Ar) (M : Mc) : Mc := { M with nd := withHd (opNd A M.id) M.nd, nx := .valid }
def decideM (now : Nat) (M : Mc) : Mc :=
 if now ≠ M.word then { M with again := M.again + 1, nx := .root }
 else if M.nd.lvl < M.level then { M with nx := .done }
 else if beyond M.nd.high M.key then { M with right := M.right + 1, id := M.nd.right, nx := .latch }
 else if M.nd.lvl = M.level then { M with there := true, nx := .done }
 else { M with id := childOf M.nd.kids M.nd.keys M.key, nx := .latch }
def stepM (A : Ar) (M : Mc) : Mc :=
 match M.nx with
 | .done => M
 | .root => rootM A M
 | .latch => if opErr A M.id = 0 then latchM A M else { latchM A M with nx := .done }
 | .head => if opErr A M.id = 0 then headM A M else { headM A M with nx := .done }
 | .body => if opErr A M.id = 0 then bodyM A M else { bodyM A M with nx := .done }
 | .valid => if opErr A M.id = 0 then decideM (opWord A M.id) M else { M with nx := .done }
def Mc.low (M : Mc) : Prop := 0 <= M.again /\ M.again < 9223372036854775807 /\ 0 <= M.right /\ M.right < 9223372036854775807
structure MW (w : World) (t : TypeId) (m a : Nat) (nv : Nx -> Value) (S : Nat -> Prop) (M : Mc) : Prop where
 cells : ∃ kv c0 c1 c2 c3 c4 c5, Blk w m t #[pV a, kv, iV M.level, nv M.nx, iV M.id, .int .u64 M.word, c0, c1, c2, c3, c4, c5, .bool M.there, iV M.again, iV M.right] /\ Byts w S kv M.key /\ IsNd w S c0 c1 c2 c3 c4 c5 M.nd
 u64 : U64 M.word
 sm : NdSm 0 M.nd
section
variable {w w' : World} {t : TypeId} {m a : Nat} {nv : Nx -> Value} {S T N G G' : Nat -> Prop} {M : Mc} {b p q : Nat} {A B : Ar}
theorem MW.keeps (h : MW w t m a nv S M) (k : Keeps N w w') (hm : ¬ N m) (hd : ∀ x, x < w.heap.size -> S x -> ¬ N x) : MW w' t m a nv S M := by
 obtain ⟨⟨kv, c0, c1, c2, c3, c4, c5, hb, hk, hn⟩, hu, hs⟩ := h
 exact ⟨⟨kv, c0, c1, c2, c3, c4, c5, hb.keeps k hm, hk.keeps k hd, hn.keeps k hd⟩, hu, hs⟩
theorem MW.mono (h : MW w t m a nv S M) (hd : ∀ x, x < w.heap.size -> S x -> T x) : MW w t m a nv T M := by
 obtain ⟨⟨kv, c0, c1, c2, c3, c4, c5, hb, hk, hn⟩, hu, hs⟩ := h
 exact ⟨⟨kv, c0, c1, c2, c3, c4, c5, hb, hk.mono hd, hn.mono hd⟩, hu, hs⟩
theorem J.enterN (h : J w G b p q A B) (k : Keeps N w w') (hN : ∀ x, x < w.heap.size -> G x -> ¬ N x) (hg : ∀ x, x < w.heap.size -> G x -> G' x) (hn : ∀ x, w'.heap.size <= x -> G' x) : J w' G' b p q A B := by
 have h' := h.keeps k hN
 obtain ⟨hb, ⟨M, D, M', D', ⟨sl, ids, hX⟩, ⟨L, xs, hY⟩, h1, h2, h3⟩, hl, hnew, hsA, hsB⟩ := h
 exact ⟨h'.blk, ⟨M, D, M', D', ⟨sl, ids, hX.keeps k (λ x hx hm => hN x hx (h1 x hm).1) (λ x hx hd => hN x hx (h3 x (.inl hd)))⟩, ⟨L, xs, hY.keeps k (λ x hx hm => hN x hx (h2 x hm).1) (λ x hx hd => hN x hx (h3 x (.inr hd)))⟩, λ x hx => ⟨hg x (hX.mlt x hx) (h1 x hx).1, (h1 x hx).2⟩, λ x hx => ⟨hg x (hY.mlt x hx) (h2 x hx).1, (h2 x hx).2⟩, λ x hx => hg x (hx.elim (hX.dlt x) (hY.dlt x)) (h3 x hx)⟩, hg b hb.lt hl, hn, hsA, hsB⟩
end
end Go.Proofs.YtbhohohgojcapaaGreat
