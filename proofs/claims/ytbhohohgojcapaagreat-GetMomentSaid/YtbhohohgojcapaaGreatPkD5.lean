import Derived.Test.YtbhohohgojcapaaGreatPkD3
import Derived.Test.YtbhohohgojcapaaGreatPkC1
import Derived.Test.YtbhohohgojcapaaGreatPkD4
namespace Go.Proofs.YtbhohohgojcapaaGreat
open Go.RowKit
def zeroW (A : Ar) : Ar := { A with sl := A.sl.map (λ s => ⟨0, s.nd⟩) }
def soundZ (A : Ar) : Bool := (checkM (zeroW A) 60 64 64 1 1).sound
section
variable {A A' : Ar} {id : Int}
theorem zero_len : (zeroW A).sl.length = A.sl.length := by unfold zeroW; simp
theorem zero_get : (zeroW A).get id = (A.get id).map (λ s => ⟨0, s.nd⟩) := by
 unfold Ar.get zeroW
 split
 ·rw [List.getElem?_map]
 ·rfl
theorem zero_some {s : Sl} (h : A.get id = some s) : (zeroW A).get id = some ⟨0, s.nd⟩ := by rw [zero_get, h]; rfl
theorem zero_of {t : Sl} (h : (zeroW A).get id = some t) : ∃ s, A.get id = some s /\ s.nd = t.nd := by
 rw [zero_get] at h
 obtain ⟨s, h1, h2⟩ := Option.map_eq_some_iff.1 h
 exact ⟨s, h1, by rw [<- h2]⟩
theorem zero_map : ∀ (f : Nat) (id : Int) (met : List Int) (leaf : Bool) (out : List Ent), mapM (zeroW A) f id met leaf out = mapM A f id met leaf out
 | 0, _, _, _, _ => rfl
 | f + 1, id, met, leaf, out => by
  unfold mapM
  rw [zero_get]
  rcases A.get id with _ | s
  ·rfl
  ·simp only [Option.map_some]
   rw [zero_map f, zero_map f]
theorem zero_mapOf : mapOf (zeroW A) = mapOf A := by unfold mapOf; rw [zero_len, zero_map]; rfl
end
def Kp (A A' : Ar) : Prop := A'.root = A.root /\ ∀ (id : Int) s, A.get id = some s -> ∃ s', A'.get id = some s' /\ s'.nd.lvl = s.nd.lvl /\ (s.nd.lvl ≠ 0 -> s'.nd.kids.getD 0 0 = s.nd.kids.getD 0 0) /\
 ((s'.nd.right = s.nd.right /\ s'.nd.high = s.nd.high) \/ (s'.nd.right ≠ 0 /\ ∃ t, A'.get s'.nd.right = some t /\ t.nd.right = s.nd.right /\ t.nd.high = s.nd.high))
section
variable {A A' : Ar} {chk : Nd -> Int} {a0 a1 a2 level first id : Int} {low key : List UInt8} {c c' : Ch} {up up' : Option Ch} {ts ts' : List Ch}
theorem Kp.refl (A : Ar) : Kp A A := ⟨rfl, λ id s h => ⟨s, h, rfl, λ _ => rfl, .inl ⟨rfl, rfl⟩⟩⟩
theorem Kp.zero (h : Kp A A') : Kp (zeroW A) (zeroW A') := ⟨h.1, λ id t ht => by
 obtain ⟨s, h1, h2⟩ := zero_of ht
 obtain ⟨s', g1, g2, g3, g4⟩ := h.2 id s h1
 rw [<- h2]
 refine ⟨_, zero_some g1, g2, g3, ?_⟩
 rcases g4 with g4 | ⟨g4, t', g5, g6⟩
 ·exact .inl g4
 ·exact .inr ⟨g4, _, zero_some g5, g6⟩⟩
theorem chn_kept (hk : Kp A A') (h : Chn A chk level id low c) : ∀ {c' : Ch}, Chn A' chk level id low c' -> ∀ e ∈ c, e ∈ c' := by
 induction h with
 | last h1 h2 h3 h4 h5 =>
  intro c' h' e he
  obtain ⟨s', r, e', _⟩ := h'.at_
  subst e'
  simp at he; subst he
  exact List.mem_cons_self ..
 | @more id low s r h1 h2 h3 h4 h5 h6 ih =>
  intro c' h' e he
  obtain ⟨s', r', e', g1, g2, g3, g4, g5⟩ := h'.at_
  subst e'
  rcases List.mem_cons.1 he with he | he
  ·subst he; exact List.mem_cons_self ..
  obtain ⟨s2, k1, k2, k3, k4⟩ := hk.2 id s h1
  rw [g1] at k1; cases k1
  refine List.mem_cons_of_mem _ ?_
  rcases k4 with ⟨k4, k5⟩ | ⟨k4, t, k5, k6, k7⟩
  ·rcases g5 with ⟨g5, _⟩ | ⟨g5, g6⟩
   ·exact absurd (k4 ▸ g5) h5
   ·rw [k4, k5] at g6
    exact ih g6 e he
  ·rcases g5 with ⟨g5, _⟩ | ⟨g5, g6⟩
   ·exact absurd g5 k4
   ·obtain ⟨t', r2, e2, m1, m2, m3, m4, m5⟩ := g6.at_
    subst e2
    rw [k5] at m1; cases m1
    refine List.mem_cons_of_mem _ ?_
    rcases m5 with ⟨m5, _⟩ | ⟨m5, m6⟩
    ·exact absurd (k6 ▸ m5) h5
    ·rw [k6, k7] at m6
     exact ih m6 e he
theorem trs_kept (hk : Kp A A') (h : Trs A chk level first up ts) : ∀ {up' : Option Ch} {ts' : List Ch}, Trs A' chk level first up' ts' -> ∀ (j : Nat) c, ts[j]? = some c -> ∃ c', ts'[j]? = some c' /\ ∀ e ∈ c, e ∈ c' := by
 induction h with
 | base h1 h2 =>
  intro up' ts' h' j c hj
  cases h' with
  | base g1 g2 =>
   cases j with
   | zero => simp at hj; subst hj; exact ⟨_, rfl, chn_kept hk h1 g1⟩
   | succ j => simp at hj
  | step g0 _ _ _ => exact absurd rfl g0
 | @step level first up c0 ts0 h0 h1 h2 h3 ih =>
  intro up' ts' h' j c hj
  cases h' with
  | base g1 g2 => exact absurd rfl h0
  | @step _ _ _ c1 ts1 g0 g1 g2 g3 =>
   cases j with
   | zero => simp at hj; subst hj; exact ⟨_, rfl, chn_kept hk h1 g1⟩
   | succ j =>
    have e : firstKid A c0 = firstKid A' c1 := by
     obtain ⟨s, r, e1, hs, hl, _⟩ := h1.at_
     obtain ⟨s', r', e2, hs', hl', _⟩ := g1.at_
     subst e1 e2
     obtain ⟨s2, k1, k2, k3, _⟩ := hk.2 _ _ hs
     rw [hs'] at k1; cases k1
     show (opNd A first).kids.getD 0 0 = (opNd A' first).kids.getD 0 0
     rw [opNd_get hs, opNd_get hs', k3 (by rw [hl]; exact h0)]
    rw [<- e] at g3
    exact ih g3 j c (by simpa using hj)
theorem trs_at_ (h : Trs A chk level first up ts) : ∀ (j : Nat) c, ts[j]? = some c -> ∃ f u, Chn A chk (level - j) f [] c /\ UpOk A u c /\ (level - (j : Int) = 0 -> ts.length = j + 1) /\ (level - (j : Int) ≠ 0 -> ∃ d, ts[j + 1]? = some d /\ Chn A chk (level - j - 1) (firstKid A c) [] d /\ UpOk A (some c) d) := by
 induction h with
 | base h1 h2 =>
  intro j c hj
  cases j with
  | zero => simp at hj; subst hj; exact ⟨_, _, by simpa using h1, h2, λ _ => rfl, λ h => absurd rfl h⟩
  | succ j => simp at hj
 | @step level first up c0 ts0 h0 h1 h2 h3 ih =>
  intro j c hj
  cases j with
  | zero =>
   simp at hj; subst hj
   refine ⟨_, _, by simpa using h1, h2, λ h => absurd (by simpa using h) h0, λ _ => ?_⟩
   generalize hL : level - 1 = L1 at h3
   cases h3 with
   | base g1 g2 => exact ⟨_, rfl, by rw [show level - ((0 : Nat) : Int) - 1 = 0 by omega]; exact g1, g2⟩
   | step _ g1 g2 _ => exact ⟨_, rfl, by rw [show level - ((0 : Nat) : Int) - 1 = L1 by omega]; exact g1, g2⟩
  | succ j =>
   obtain ⟨f, u, g1, g2, g3, g4⟩ := ih j c (by simpa using hj)
   have e : level - ((j + 1 : Nat) : Int) = level - 1 - (j : Int) := by omega
   rw [e]
   refine ⟨f, u, g1, g2, λ h => by rw [List.length_cons, g3 h], λ h => ?_⟩
   obtain ⟨d, k1, k2⟩ := g4 h
   exact ⟨d, by simpa using k1, k2⟩
def On (ls : List Ch) (key : List UInt8) (id : Int) : Prop := ∃ (j : Nat) (c : Ch) (low : List UInt8), ls[j]? = some c /\ (id, low) ∈ c /\ cmp low key <= 0
theorem on_root {lv : Int} {ls : List Ch} (h : TreeOk A a0 a1 a2 chk lv ls) : On ls key A.root := by
 have ht := h.trs
 cases ht with
 | base g1 g2 => obtain ⟨s, r, e, _⟩ := g1.at_; subst e; exact ⟨0, _, _, rfl, List.mem_cons_self .., cmp_nil key⟩
 | step _ g1 g2 _ => obtain ⟨s, r, e, _⟩ := g1.at_; subst e; exact ⟨0, _, _, rfl, List.mem_cons_self .., cmp_nil key⟩
theorem on_turn {lv lv' : Int} {ls ls' : List Ch} (h : TreeOk A a0 a1 a2 chk lv ls) (h' : TreeOk A' a0 a1 a2 chk lv' ls') (hk : Kp A A') (ho : On ls key id) : On ls' key id := by
 obtain ⟨s, hs, hl⟩ := h.top
 obtain ⟨s', hs', hl'⟩ := h'.top
 obtain ⟨s2, k1, k2, _⟩ := hk.2 _ _ hs
 rw [hk.1] at hs'
 rw [hs'] at k1; cases k1
 have e : lv' = lv := by rw [<- hl, <- hl', k2]
 subst e
 have ht' := h'.trs
 rw [hk.1] at ht'
 obtain ⟨j, c, low, h1, h2, h3⟩ := ho
 obtain ⟨c', g1, g2⟩ := trs_kept hk h.trs ht' j c h1
 exact ⟨j, c', low, g1, g2 _ h2, h3⟩
theorem on_next {lv : Int} {ls : List Ch} {s : Sl} (h : TreeOk A a0 a1 a2 chk lv ls) (ho : On ls key id) (hs : A.get id = some s) :
  (beyond s.nd.high key = true -> On ls key s.nd.right) /\ (0 <= s.nd.lvl) /\ (s.nd.lvl ≠ 0 -> On ls key (childOf s.nd.kids s.nd.keys key)) /\ (s.nd.lvl = 0 -> ∃ low c, ls[(lv - 0).toNat]? = some c /\ (id, low) ∈ c /\ cmp low key <= 0) := by
 obtain ⟨j, c, low, h1, h2, h3⟩ := ho
 obtain ⟨f, u, g1, g2, g3, g4⟩ := trs_at_ h.trs j c h1
 obtain ⟨c', k1, k2, k3⟩ := g1.mem h2
 obtain ⟨s', r, e, m1, m2, m3, m4, m5⟩ := k1.at_
 simp only at m1 m5 e m4
 rw [hs] at m1; cases m1
 subst e
 have hm := h.may _ m3
 have hlen := h.trs.length
 have hj := (List.getElem?_eq_some_iff.1 h1).1
 refine ⟨λ hb => ?_, by omega, λ hl => ?_, λ hl => ⟨low, c, ?_, h2, h3⟩⟩
 ·obtain ⟨hb1, hb2⟩ := beyond_iff.1 hb
  rcases m5 with ⟨m5, _⟩ | ⟨m5, m6⟩
  ·have := hm.high.2 m5; omega
  ·obtain ⟨_, r2, e2, _⟩ := m6.at_
   subst e2
   exact ⟨j, c, s.nd.high, h1, k3 _ (List.mem_cons_of_mem _ (List.mem_cons_self ..)), by rw [cmp_swap_ key s.nd.high]; omega⟩
 ·obtain ⟨d, d1, d2, d3⟩ := g4 (by rw [<- m2]; exact hl)
  have hn := d3 _ rfl _ h2
  simp only [opNd_get hs] at hn
  obtain ⟨lw, q1, q2⟩ := child_in (key := key) hm hl hn h3
  exact ⟨j + 1, d, lw, d1, q1, q2⟩
 ·have : ls.length = j + 1 := g3 (by rw [<- m2]; exact hl)
  rw [show (lv - 0).toNat = j by omega]
  exact h1
end
structure Mi (A : Ar) (ls : List Ch) (M : Mc) : Prop where
 kn : Kn A M
 lev : M.level = 0
 at_ : M.nx = .latch \/ M.nx = .head \/ M.nx = .body \/ M.nx = .valid -> On ls M.key M.id
section
variable {A A' : Ar} {a0 a1 a2 lv lv' : Int} {chk : Nd -> Int} {ls ls' : List Ch} {M : Mc}
theorem Mi.new (A : Ar) (ls : List Ch) (k : List UInt8) : Mi A ls (Mc.new k 0) := ⟨Kn.new A k 0, rfl, λ h => by rcases h with h | h | h | h <;> cases h⟩
theorem Mi.turn (h : Mi A ls M) (hT : TreeOk (zeroW A) a0 a1 a2 chk lv ls) (hT' : TreeOk (zeroW A') a0 a1 a2 chk lv' ls') (hk : Kp A A') (hr : Rel A A') : Mi A' ls' M :=
 ⟨h.kn.rel hr, h.lev, λ hx => on_turn hT hT' hk.zero (h.at_ hx)⟩
theorem Mi.step (h : Mi A ls M) (hT : TreeOk (zeroW A) a0 a1 a2 chk lv ls) : Mi A ls (stepM A M) := by
 refine ⟨h.kn.step, by rw [stepM_level]; exact h.lev, λ hx => ?_⟩
 rw [stepM_key]
 have hlev := h.lev
 rcases hnx : M.nx with _ | _ | _ | _ | _ | _
 ·unfold stepM; rw [hnx]
  exact on_root (A := zeroW A) hT
 ·have ho := h.at_ (.inl hnx)
  unfold stepM at hx ⊢; rw [hnx] at hx ⊢; simp only at hx ⊢
  split <;> exact ho
 ·have ho := h.at_ (.inr (.inl hnx))
  unfold stepM at hx ⊢; rw [hnx] at hx ⊢; simp only at hx ⊢
  split <;> exact ho
 ·have ho := h.at_ (.inr (.inr (.inl hnx)))
  unfold stepM at hx ⊢; rw [hnx] at hx ⊢; simp only at hx ⊢
  split <;> exact ho
 ·have ho := h.at_ (.inr (.inr (.inr hnx)))
  obtain ⟨g1, s, g2, g3, g4⟩ := h.kn.read (.inr (.inr hnx))
  unfold stepM at hx ⊢
  rw [hnx] at hx ⊢
  simp only at hx ⊢
  rw [opErr_some g2, opWord_some g2, if_pos rfl] at hx ⊢
  unfold decideM at hx ⊢
  split
  ·rename_i hw; rw [if_pos hw] at hx; rcases hx with hx | hx | hx | hx <;> cases hx
  rename_i hw
  rw [if_neg hw] at hx
  have hw' : s.word = M.word := by simpa using hw
  obtain ⟨k1, k2⟩ := g4 hw'
  obtain ⟨e1, e2, e3⟩ := k1 (by rw [hnx]; exact λ e => by cases e)
  obtain ⟨e4, e5, e6⟩ := k2 hnx
  obtain ⟨n1, n2, n3, n4⟩ := on_next (key := M.key) hT ho (zero_some g2)
  simp only at n1 n2 n3 n4
  split
  ·rename_i hl; rw [if_pos hl] at hx; rcases hx with hx | hx | hx | hx <;> cases hx
  rename_i hl
  rw [if_neg hl] at hx
  split
  ·rename_i hb
   show On ls M.key M.nd.right
   rw [e3]
   exact n1 (by rw [<- e2]; exact hb)
  rename_i hb
  rw [if_neg hb] at hx
  split
  ·rename_i hl2; rw [if_pos hl2] at hx; rcases hx with hx | hx | hx | hx <;> cases hx
  rename_i hl2
  show On ls M.key (childOf M.nd.kids M.nd.keys M.key)
  rw [e6, e4]
  by_cases hz : s.nd.lvl = 0
  ·exfalso; omega
  ·exact n3 hz
 ·unfold stepM at hx; rw [hnx] at hx; simp only at hx; rw [hnx] at hx
  rcases hx with hx | hx | hx | hx <;> cases hx
theorem mi_value (h : Mi A ls M) (hT : TreeOk (zeroW A) a0 a1 a2 chk lv ls) (hn : M.nx ≠ .done) (hd : (stepM A M).nx = .done) (hi : (stepM A M).outId ≠ 0) : valueM (mapOf A) M.key = (valOf (stepM A M).outNd M.key, has (stepM A M).outNd.keys M.key) := by
 have h0 := h.kn.not hn
 have ho : ¬ 0 < M.outId := by unfold Mc.outId; rw [h0]; simp
 obtain ⟨s, h1, h2, h3, h4, h5, h6⟩ := h.kn.tells ho hd hi
 have hth : (stepM A M).there = true := by
  cases hc : (stepM A M).there with
  | true => rfl
  | false => unfold Mc.outId at hi; rw [hc] at hi; exact absurd rfl hi
 have hid : (stepM A M).outId = (stepM A M).id := by unfold Mc.outId; rw [hth]; rfl
 have hin : M.nx = .latch \/ M.nx = .head \/ M.nx = .body \/ M.nx = .valid := by
  cases hnx : M.nx with
  | root => exfalso; unfold stepM at hd; rw [hnx] at hd; cases hd
  | latch => exact .inl rfl
  | head => exact .inr (.inl rfl)
  | body => exact .inr (.inr (.inl rfl))
  | valid => exact .inr (.inr (.inr rfl))
  | done => exact absurd hnx hn
 have hsid : (stepM A M).id = M.id := by
  rcases hin with hnx | hnx | hnx | hnx
  ·unfold stepM; rw [hnx]; simp only; split <;> rfl
  ·unfold stepM; rw [hnx]; simp only; split <;> rfl
  ·unfold stepM; rw [hnx]; simp only; split <;> rfl
  ·rcases valid_cases h.kn hnx with ⟨e1, e2⟩ | ⟨e1, e2⟩ | ⟨e1, e2⟩ | ⟨s, _, _, _, _, _, _, e⟩
   ·rw [e2] at hth; cases hth
   ·rw [e2] at hth; cases hth
   ·rw [e2] at hth; cases hth
   ·rw [e]
 rw [hid, hsid] at h1
 have ho := h.at_ hin
 obtain ⟨_, _, _, n4⟩ := on_next (key := M.key) hT ho (zero_some h1)
 obtain ⟨low, c, k1, k2, k3⟩ := n4 (by show s.nd.lvl = 0; rw [h3, h6]; exact h.lev)
 have hv := map_value (A := zeroW A) (key := M.key) (M := { M with word := 0, nd := (stepM A M).outNd, there := true }) hT ⟨c, k1, ⟨rfl, ⟨low, k2, k3⟩, by rw [<- h3]; exact zero_some h1, by show (stepM A M).outNd.lvl = 0; rw [h6]; exact h.lev, h5⟩⟩
 rw [zero_mapOf] at hv
 exact hv
end
section
variable {A : Ar} {ix : Int} {s t : Sl} {o : O13} {m : Nat}
theorem Kp.put (hs : A.get ix = some s) (h1 : t.nd.lvl = s.nd.lvl) (h2 : s.nd.lvl ≠ 0 -> t.nd.kids.getD 0 0 = s.nd.kids.getD 0 0) (h3 : t.nd.right = s.nd.right) (h4 : t.nd.high = s.nd.high) : Kp A (A.put ix t) := ⟨rfl, λ id r hr => by
 by_cases e : id = ix
 ·subst e
  rw [hs] at hr; cases hr
  exact ⟨t, put_get hs t, h1, h2, .inl ⟨h3, h4⟩⟩
 ·exact ⟨r, by rw [get_put_ne (get_le hs).1 e]; exact hr, rfl, λ _ => rfl, .inl ⟨rfl, rfl⟩⟩⟩
theorem kp_lock {wd : Nat} : Kp A (opLock A ix wd).2.2 := by
 unfold opLock; split
 ·exact Kp.refl _
 ·rename_i s hg
  split
  ·exact Kp.put hg rfl (λ _ => rfl) rfl rfl
  ·exact Kp.refl _
theorem kp_unlock {c : Bool} : Kp A (opUnlock A ix c).2 := by
 unfold opUnlock; split
 ·exact Kp.refl _
 ·rename_i s hg
  split
  ·exact Kp.refl _
  ·exact Kp.put hg rfl (λ _ => rfl) rfl rfl
theorem wth_same (n : Nd) (k v : List UInt8) : (wth n k v).lvl = n.lvl /\ (wth n k v).right = n.right /\ (wth n k v).high = n.high := by unfold wth; split <;> exact ⟨rfl, rfl, rfl⟩
theorem wout_same (n : Nd) (k : List UInt8) : (woutD n k).lvl = n.lvl /\ (woutD n k).right = n.right /\ (woutD n k).high = n.high := by unfold woutD; split <;> exact ⟨rfl, rfl, rfl⟩
theorem step_lay_at (h0 : 0 <= ix) (hx : ix < A.sl.length) (n : Nd) : ∃ s w', A.get (ix + 1) = some s /\ step A ⟨7, ix, 0, 0, false, n⟩ = A.put (ix + 1) ⟨w', n⟩ /\ nd13 A ⟨0, ix, 0, [], [], [], false, Nd.zero⟩ = s.nd := by
 obtain ⟨s, hs⟩ := get_in (A := A) (id := ix + 1) (by omega) (by omega)
 refine ⟨s, _, hs, by rw [step_lay, pk_id h0 (by omega), show 1 + ix = ix + 1 by omega, lay_in hs], ?_⟩
 unfold nd13 at13
 simp only
 rw [pk_id h0 hx]
 exact opNd_get hs
theorem step_lay_rel (h : WB m A) (h1 : 1 <= m) (hm : m + 2 < 18446744073709551616) (a : Int) (n : Nd) : Rel A (step A ⟨7, a, 0, 0, false, n⟩) := by
 rw [step_lay]; exact rel_lay h h1 hm
theorem turn_kept_ (h : WB m A) (h1 : 1 <= m) (hm : m + 4 < 18446744073709551616) (hl : 1 <= A.sl.length) (hb : A.sl.length <= A.nodes) (hc : o.ch = true) (hk : 1 <= o.kd /\ o.kd <= 5) : Kp A (turnM A o) /\ Rel A (turnM A o) := by
 have ha := pk_range o.a A.sl.length (by omega)
 have h0 : 0 <= at13 A o := ha.1
 have hx : at13 A o < A.sl.length := ha.2
 have hw := wb_step h h1
 unfold turnM
 rw [if_neg (by omega)]
 split
 ·split
  ·rename_i hz
   obtain ⟨s, w', e1, e2, _⟩ := step_lay_at h0 hx (wth (nd13 A o) o.key o.val)
   have e3 : nd13 A o = s.nd := opNd_get e1
   refine ⟨?_, step_lay_rel h h1 (by omega) _ _⟩
   rw [e2, e3]
   obtain ⟨g1, g2, g3⟩ := wth_same s.nd o.key o.val
   exact Kp.put e1 g1 (λ hn => absurd (e3 ▸ hz) hn) g2 g3
  ·exact ⟨Kp.refl _, Rel.refl _⟩
 split
 ·split
  ·rename_i hz
   obtain ⟨s, w', e1, e2, _⟩ := step_lay_at h0 hx (woutD (nd13 A o) o.key)
   have e3 : nd13 A o = s.nd := opNd_get e1
   refine ⟨?_, step_lay_rel h h1 (by omega) _ _⟩
   rw [e2, e3]
   obtain ⟨g1, g2, g3⟩ := wout_same s.nd o.key
   exact Kp.put e1 g1 (λ hn => absurd (e3 ▸ hz) hn) g2 g3
  ·exact ⟨Kp.refl _, Rel.refl _⟩
 split
 ·split
  ·exact ⟨Kp.refl _, Rel.refl _⟩
  ·rename_i hne
   refine ⟨?_, (step_lay_rel h h1 (by omega) _ _).trans (step_lay_rel (hw _) (by omega) (by omega) _ _)⟩
   have hlt : A.sl.length < A.nodes := by omega
   have hs1 : step A ⟨7, A.sl.length, 0, 0, false, spR (nd13 A o)⟩ = { A with sl := A.sl ++ [⟨2, spR (nd13 A o)⟩] } := by
    rw [step_lay, pk_id (by omega) (by omega), show (1 + (A.sl.length : Int)) = (A.sl.length : Int) + 1 by omega, lay_new hlt]
   rw [hs1]
   obtain ⟨s0, hs0⟩ := get_in (A := A) (id := at13 A o + 1) (by omega) (by omega)
   have e3 : nd13 A o = s0.nd := opNd_get hs0
   have hold : ∀ (id : Int) r, A.get id = some r -> ({ A with sl := A.sl ++ [⟨2, spR (nd13 A o)⟩] } : Ar).get id = some r := λ id r hr => by
    obtain ⟨i, k1, k2, k3⟩ := get_some hr
    have hlt := (List.getElem?_eq_some_iff.1 k2).1
    unfold Ar.get
    rw [if_pos (by omega), k3]
    show (A.sl ++ _)[i]? = _
    rw [List.getElem?_append_left hlt]; exact k2
   have hnew : ({ A with sl := A.sl ++ [⟨2, spR (nd13 A o)⟩] } : Ar).get ((A.sl.length : Int) + 1) = some ⟨2, spR (nd13 A o)⟩ := by
    unfold Ar.get
    rw [if_pos (by omega)]
    simp
   obtain ⟨s1, w', e1, e2, _⟩ := step_lay_at (A := { A with sl := A.sl ++ [⟨2, spR (nd13 A o)⟩] }) (ix := at13 A o) h0 (by simp; omega) (spL (nd13 A o) ((A.sl.length : Int) + 1))
   rw [e2]
   have hbad : ¬ spBad (nd13 A o) := λ hb => hne (.inl (by unfold spK; rw [if_pos hb]; rfl))
   have hsp : (spL (nd13 A o) ((A.sl.length : Int) + 1)).lvl = (nd13 A o).lvl /\ (spL (nd13 A o) ((A.sl.length : Int) + 1)).right = (A.sl.length : Int) + 1 /\ ((nd13 A o).lvl ≠ 0 -> (spL (nd13 A o) ((A.sl.length : Int) + 1)).kids.getD 0 0 = (nd13 A o).kids.getD 0 0) := by
    unfold spL
    rw [if_neg hbad]
    split
    ·rename_i hz; exact ⟨rfl, rfl, λ hn => absurd hz hn⟩
    ·rename_i hz
     refine ⟨rfl, rfl, λ _ => ?_⟩
     have : 2 <= (nd13 A o).kids.length := by
      unfold spBad spM at hbad
      rw [if_neg hz] at hbad
      omega
     have hh : 1 <= spH (nd13 A o) := by unfold spH spM; rw [if_neg hz]; omega
     show (List.take _ _).getD 0 0 = _
     rw [List.getD_eq_getElem?_getD, List.getD_eq_getElem?_getD, List.getElem?_take, if_pos (by omega)]
   have hsr : (spR (nd13 A o)).right = (nd13 A o).right /\ (spR (nd13 A o)).high = (nd13 A o).high := by
    unfold spR
    rw [if_neg hbad]
    split <;> exact ⟨rfl, rfl⟩
   refine ⟨rfl, λ id r hr => ?_⟩
   by_cases e : id = at13 A o + 1
   ·subst e
    rw [hs0] at hr; cases hr
    refine ⟨_, put_get e1 _, by rw [<- e3]; exact hsp.1, λ hn => by rw [<- e3] at hn ⊢; exact hsp.2.2 hn, .inr ⟨by show (spL _ _).right ≠ 0; rw [hsp.2.1]; omega, ⟨2, spR (nd13 A o)⟩, ?_, by rw [<- e3]; exact hsr.1, by rw [<- e3]; exact hsr.2⟩⟩
    show (Ar.put _ _ _).get (spL _ _).right = _
    rw [hsp.2.1, get_put_ne (by omega) (by omega)]
    exact hnew
   ·exact ⟨r, by rw [get_put_ne (by omega) e]; exact hold _ _ hr, rfl, λ _ => rfl, .inl ⟨rfl, rfl⟩⟩
 split
 ·obtain ⟨wd, e⟩ := step_lock (A := A) (n := Nd.zero) (at13 A o + 1)
  rw [e]; exact ⟨kp_lock, rel_lock⟩
 split
 ·rw [step_unlock, hc]; exact ⟨kp_unlock, rel_unlock h (by omega)⟩
 ·exfalso; omega
end
end Go.Proofs.YtbhohohgojcapaaGreat
