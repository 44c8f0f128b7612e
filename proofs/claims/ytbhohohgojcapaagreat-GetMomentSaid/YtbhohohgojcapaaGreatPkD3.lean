import Derived.Test.YtbhohohgojcapaaGreatPkD2
import Derived.Test.YtbhohohgojcapaaGreatPkB4
import Derived.Test.YtbhohohgojcapaaGreatPkC8
import Derived.Test.YtbhohohgojcapaaGreatPkC0
import Derived.Test.YtbhohohgojcapaaGreatPkA8
namespace Go.Proofs.YtbhohohgojcapaaGreat
open Go.RowKit
abbrev Ent := List UInt8 × List UInt8
def entsM (vals : List (List UInt8)) : Nat -> List (List UInt8) -> List Ent
 | _, [] => []
 | i, k :: ks => (k, vals.getD i []) :: entsM vals (i + 1) ks
def ents (n : Nd) : List Ent := entsM n.vals 0 n.keys
def mapM (A : Ar) : Nat -> Int -> List Int -> Bool -> List Ent -> List Ent
 | 0, _, _, _, out => out
 | f + 1, id, met, leaf, out => match A.get id with
  | none => out
  | some s =>
   if met.contains id = true then out
   else if 0 < s.nd.lvl then (if s.nd.kids.length = 0 \/ (leaf || decide (s.nd.lvl <= 0)) = true then out else mapM A f (s.nd.kids.getD 0 0) (met ++ [id]) (leaf || decide (s.nd.lvl <= 0)) out)
   else mapM A f s.nd.right (met ++ [id]) (leaf || decide (s.nd.lvl <= 0)) (out ++ ents s.nd)
def mapOf (A : Ar) : List Ent := mapM A (A.sl.length + 1) A.root [] false []
def valueM (l : List Ent) (key : List UInt8) : List UInt8 × Bool := match l.find? (λ e => e.1 == key) with
 | none => ([], false)
 | some e => (e.2, true)
def entsCh (A : Ar) (c : Ch) : List Ent := c.flatMap (λ e => ents (opNd A e.1))
section
variable {A : Ar} {chk : Nd -> Int} {a0 a1 a2 level first id : Int} {low key : List UInt8} {c : Ch} {up : Option Ch} {ts : List Ch}
theorem opNd_get {s : Sl} (h : A.get id = some s) : opNd A id = s.nd := by unfold opNd; rw [h]
theorem map_chain : ∀ (f : Nat) (id : Int) (low : List UInt8) (c : Ch) (met : List Int) (leaf : Bool) (out : List Ent), Chn A chk 0 id low c -> c.length < f -> (met ++ c.map Prod.fst).Nodup -> mapM A f id met leaf out = out ++ entsCh A c
 | 0, _, _, _, _, _, _, _, h, _ => by omega
 | f + 1, id, low, c, met, leaf, out, hc, hf, hnd => by
  obtain ⟨s, r, e, hs, hlv, _, _, hr⟩ := hc.at_
  subst e
  have hm : ¬ met.contains id = true := by
   intro h
   have h1 : id ∈ met := by simpa using h
   rw [List.nodup_append] at hnd
   exact hnd.2.2 id h1 id (by simp) rfl
  rw [mapM, hs]
  simp only
  rw [if_neg hm, if_neg (by omega)]
  have hce : entsCh A ((id, low) :: r) = ents s.nd ++ entsCh A r := by unfold entsCh; rw [List.flatMap_cons, opNd_get hs]
  rw [hce, <- List.append_assoc]
  rcases hr with ⟨hr, rfl⟩ | ⟨hr, hc'⟩
  ·rw [hr]
   have h0 : A.get 0 = none := by unfold Ar.get; rw [if_neg (by decide)]
   have : ∀ f met leaf out, mapM A f 0 met leaf out = out := λ f met leaf out => by
    cases f with
    | zero => rfl
    | succ f => rw [mapM, h0]
   rw [this]
   unfold entsCh
   simp
  ·exact map_chain f _ _ r _ _ _ hc' (by simp at hf; omega) (by simpa using hnd)
theorem map_tree (hmay : ∀ n, chk n = 0 -> May n a0 a1 a2) : ∀ (f : Nat) (level first : Int) (up : Option Ch) (ts : List Ch) (met : List Int) (out : List Ent), Trs A chk level first up ts -> 0 <= level -> ts.flatten.length < f -> (met ++ ts.flatten.map Prod.fst).Nodup ->
  ∃ c, ts[level.toNat]? = some c /\ (∃ id, Chn A chk 0 id [] c) /\ mapM A f first met false out = out ++ entsCh A c
 | 0, _, _, _, _, _, _, _, _, h, _ => by omega
 | f + 1, level, first, up, ts, met, out, hT, h0, hf, hnd => by
  cases hT with
  | @base _ _ c h1 h2 =>
   refine ⟨_, rfl, ⟨_, h1⟩, map_chain (f + 1) _ _ _ _ _ _ h1 ?_ ?_⟩
   ·simpa using hf
   ·simpa using hnd
  | @step _ _ _ c ts' hl h1 h2 h3 =>
   obtain ⟨s, r, e, hs, hlv, hck, _, _⟩ := h1.at_
   subst e
   have hm : ¬ met.contains first = true := by
    intro h
    have h1 : first ∈ met := by simpa using h
    rw [List.nodup_append] at hnd
    exact hnd.2.2 first h1 first (by simp) rfl
   obtain ⟨_, _, _, hkl, _⟩ := (hmay _ hck).inner (by omega)
   rw [mapM, hs]
   simp only
   rw [if_neg hm, if_pos (by omega), if_neg (by
    rw [show decide (s.nd.lvl <= 0) = false by simp; omega]
    simp; intro h; rw [h] at hkl; simp at hkl), show (false || decide (s.nd.lvl <= 0)) = false by simp; omega]
   have hfk : firstKid A ((first, []) :: r) = s.nd.kids.getD 0 0 := by show (opNd A first).kids.getD 0 0 = _; rw [opNd_get hs]
   rw [hfk] at h3
   simp only [List.flatten_cons, List.cons_append, List.length_cons, List.length_append] at hf
   obtain ⟨c, k1, k2, k3⟩ := map_tree hmay f (level - 1) _ _ ts' (met ++ [first]) out h3 (by omega) (by omega) (by
    simp only [List.flatten_cons, List.cons_append, List.map_cons, List.map_append] at hnd
    rw [show met ++ first :: (List.map Prod.fst r ++ List.map Prod.fst ts'.flatten) = (met ++ [first]) ++ (List.map Prod.fst r ++ List.map Prod.fst ts'.flatten) by simp] at hnd
    refine hnd.sublist ?_
    exact List.Sublist.append (List.Sublist.refl _) (List.sublist_append_right _ _))
   refine ⟨c, ?_, k2, k3⟩
   rw [show level.toNat = (level - 1).toNat + 1 by omega]
   exact k1
theorem map_of {lv : Int} {ls : List Ch} (h : TreeOk A a0 a1 a2 chk lv ls) : ∃ c, ls[lv.toNat]? = some c /\ (∃ id, Chn A chk 0 id [] c) /\ mapOf A = entsCh A c := by
 have hl := h.len
 obtain ⟨c, h1, h2, h3⟩ := map_tree h.may (A.sl.length + 1) lv A.root none ls [] [] h.trs h.lv0 (by omega) (by simpa using h.met.1)
 exact ⟨c, h1, h2, by unfold mapOf; simpa using h3⟩
theorem ents_keys (vals : List (List UInt8)) : ∀ (i : Nat) (ks : List (List UInt8)) (e : Ent), e ∈ entsM vals i ks -> e.1 ∈ ks
 | _, [], e, h => by simp [entsM] at h
 | i, k :: ks, e, h => by
  rcases List.mem_cons.1 h with h | h
  ·subst h; exact List.mem_cons_self ..
  ·exact List.mem_cons_of_mem _ (ents_keys vals (i + 1) ks e h)
theorem ents_find (vals : List (List UInt8)) : ∀ (i : Nat) (ks : List (List UInt8)) (j : Nat), (∀ i', i' < j -> ks[i']? ≠ some key) -> ks[j]? = some key -> (entsM vals i ks).find? (λ e => e.1 == key) = some (key, vals.getD (i + j) [])
 | _, [], j, _, h => by simp at h
 | i, k :: ks, 0, _, h => by
  simp at h; subst h
  simp [entsM]
 | i, k :: ks, j + 1, h1, h => by
  have hk : (k == key) = false := by
   have := h1 0 (by omega)
   simpa using this
  rw [entsM, List.find?_cons]
  simp only [hk]
  rw [ents_find vals (i + 1) ks j (λ i' hi => by have := h1 (i' + 1) (by omega); simpa using this) (by simpa using h)]
  congr 3; omega
theorem has_iff {ks : List (List UInt8)} : has ks key = true ↔ key ∈ ks := by
 constructor
 ·intro h
  obtain ⟨j, hj⟩ := has_at h
  exact List.mem_of_getElem? hj
 ·intro h
  unfold has
  rw [List.any_eq_true]
  exact ⟨key, h, by rw [cmp_self]; rfl⟩
theorem ents_value {n : Nd} (hr : Rise n.keys) : (ents n).find? (λ e => e.1 == key) = if has n.keys key = true then some (key, n.vals.getD (below n.keys key) []) else none := by
 by_cases hh : has n.keys key = true
 ·rw [if_pos hh]
  have h1 := at_below hr hh
  have := ents_find (key := key) n.vals 0 n.keys (below n.keys key) (λ i' hi h => by have := below_at hr h; omega) h1
  rw [Nat.zero_add] at this
  exact this
 ·rw [if_neg hh]
  rw [List.find?_eq_none]
  intro e he h
  have h1 := ents_keys n.vals 0 n.keys e he
  have h2 : e.1 = key := by simpa using h
  rw [h2] at h1
  exact hh (has_iff.2 h1)
theorem rise_ge {x y : List UInt8} {l : List (List UInt8)} (h : Rise (x :: l)) (hy : y ∈ x :: l) : cmp x y <= 0 := by
 rcases List.mem_cons.1 hy with e | hy
 ·subst e; rw [cmp_self]; exact Int.le_refl _
 ·obtain ⟨i, hi⟩ := List.mem_iff_getElem?.1 hy
  exact Int.le_of_lt (rise_lt' h (i := 0) (j := i + 1) (by omega) rfl (by simpa using hi))
theorem low_keys {n : Nd} (hr : Rise n.keys) (hl : lowBad low n = false) : ∀ k ∈ n.keys, cmp low k <= 0 := λ k hk => by
 cases low with
 | nil => exact cmp_nil k
 | cons a low =>
  unfold lowBad at hl
  rw [show decide (0 < (a :: low).length) = true by simp, Bool.true_and, Bool.or_eq_false_iff] at hl
  have h1 := hl.1
  cases hks : n.keys with
  | nil => rw [hks] at hk; simp at hk
  | cons x l =>
   rw [hks] at hk hr h1
   have h2 : ¬ cmp x (a :: low) < 0 := by simpa [keyBelow] using h1
   have h3 := cmp_swap_ x (a :: low)
   exact cmp_le_le (b := x) (by omega) (rise_ge hr hk)
theorem low_high {n : Nd} (hh : 0 < n.high.length) (hl : lowBad low n = false) : cmp low n.high <= 0 := by
 cases low with
 | nil => exact cmp_nil _
 | cons a low =>
  unfold lowBad at hl
  rw [show decide (0 < (a :: low).length) = true by simp, Bool.true_and, Bool.or_eq_false_iff, show decide (0 < n.high.length) = true by simpa using hh, Bool.true_and] at hl
  have h2 : ¬ cmp n.high (a :: low) <= 0 := by simpa using hl.2
  have h3 := cmp_swap_ (a :: low) n.high
  omega
theorem chn_low (hmay : ∀ n, chk n = 0 -> May n a0 a1 a2) (h : Chn A chk level id low c) : ∀ e ∈ c, cmp low e.2 <= 0 /\ ∀ k ∈ (opNd A e.1).keys, cmp e.2 k <= 0 := by
 induction h with
 | last h1 h2 h3 h4 h5 =>
  intro e he
  simp at he; subst he
  simp only [opNd_get h1]
  exact ⟨by rw [cmp_self]; exact Int.le_refl _, low_keys (hmay _ h3).rise h4⟩
 | more h1 h2 h3 h4 h5 h6 ih =>
  intro e he
  have hm := hmay _ h3
  rcases List.mem_cons.1 he with he | he
  ·subst he
   simp only [opNd_get h1]
   exact ⟨by rw [cmp_self]; exact Int.le_refl _, low_keys hm.rise h4⟩
  ·obtain ⟨g1, g2⟩ := ih e he
   have hh : 0 < _ := Nat.pos_of_ne_zero (λ h => h5 (hm.high.1 h))
   exact ⟨cmp_le_le (low_high hh h4) g1, g2⟩
theorem entsCh_keys {c : Ch} {e : Ent} (h : e ∈ entsCh A c) : ∃ x ∈ c, e.1 ∈ (opNd A x.1).keys := by
 unfold entsCh at h
 obtain ⟨x, hx, h⟩ := List.mem_flatMap.1 h
 exact ⟨x, hx, ents_keys _ _ _ _ h⟩
theorem find_none {l : List Ent} (h : ∀ e ∈ l, e.1 ≠ key) : l.find? (λ e => e.1 == key) = none := by
 rw [List.find?_eq_none]
 intro e he hk
 exact h e he (by simpa using hk)
theorem chn_find (hmay : ∀ n, chk n = 0 -> May n a0 a1 a2) {M : Int} {nd : Nd} {lw : List UInt8} (hle : cmp lw key <= 0) (hnd : opNd A M = nd) (hb : beyond nd.high key = false) (h : Chn A chk level id low c) : (M, lw) ∈ c ->
  (entsCh A c).find? (λ e => e.1 == key) = (ents nd).find? (λ e => e.1 == key) := by
 induction h with
 | @last id low s h1 h2 h3 h4 h5 =>
  intro he
  simp at he
  obtain ⟨rfl, rfl⟩ := he
  unfold entsCh
  simp [hnd]
 | @more id low s r h1 h2 h3 h4 h5 h6 ih =>
  intro he
  have hm := hmay _ h3
  have hh : 0 < s.nd.high.length := Nat.pos_of_ne_zero (λ h => h5 (hm.high.1 h))
  have hlow := chn_low hmay h6
  have hce : entsCh A ((id, low) :: r) = ents s.nd ++ entsCh A r := by unfold entsCh; rw [List.flatMap_cons, opNd_get h1]
  rw [hce, List.find?_append]
  rcases List.mem_cons.1 he with he | he
  ·cases he
   rw [opNd_get h1] at hnd
   subst hnd
   have h7 : (entsCh A r).find? (λ e => e.1 == key) = none := find_none (λ e he hk => by
    obtain ⟨x, hx, hkx⟩ := entsCh_keys he
    obtain ⟨g1, g2⟩ := hlow x hx
    have g3 := cmp_le_le g1 (g2 _ hkx)
    rw [hk] at g3
    have g4 := cmp_swap_ key s.nd.high
    have : beyond s.nd.high key = true := beyond_iff.2 ⟨hh, by omega⟩
    rw [this] at hb; cases hb)
   rw [h7, Option.or_none]
  ·have h7 : (ents s.nd).find? (λ e => e.1 == key) = none := find_none (λ e he2 hk => by
    have g1 := (hm.key _ (ents_keys _ _ _ _ he2)).2
    rw [hk] at g1
    have g2 := cmp_le_le (hlow _ he).1 hle
    have g4 := cmp_swap_ key s.nd.high
    have : beyond s.nd.high key = true := beyond_iff.2 ⟨hh, by omega⟩
    rw [this] at g1; cases g1)
   rw [h7, Option.none_or]
   exact ih he
end
end Go.Proofs.YtbhohohgojcapaaGreat

namespace Go.Proofs.YtbhohohgojcapaaGreat
open Go.RowKit
section
variable {A : Ar} {chk : Nd -> Int} {a0 a1 a2 level first id : Int} {low key : List UInt8} {c : Ch} {up : Option Ch} {ts : List Ch}
theorem map_value {lv : Int} {ls : List Ch} {M : Mc} (h : TreeOk A a0 a1 a2 chk lv ls) (hM : ∃ ch, ls[(lv - 0).toNat]? = some ch /\ EndsAt A ch key 0 M) : valueM (mapOf A) key = (valOf M.nd key, has M.nd.keys key) := by
 obtain ⟨ch, h1, hE⟩ := hM
 obtain ⟨c, k1, ⟨id, k2⟩, k3⟩ := map_of h
 rw [show lv - 0 = lv by omega] at h1
 rw [h1] at k1; cases k1
 obtain ⟨low, hm, hle⟩ := hE.mem
 have h2 := chn_find h.may hle (opNd_get hE.slot) hE.notb k2 hm
 obtain ⟨c', g1, _⟩ := k2.mem hm
 obtain ⟨s, r, _, hs, hlv, hck, _⟩ := g1.at_
 simp only at hs
 rw [hE.slot] at hs; cases hs
 have hmay := h.may _ hck
 have hlf := hmay.leaf hlv
 unfold valueM
 rw [k3, h2, ents_value hmay.rise]
 simp only
 by_cases hh : has M.nd.keys key = true
 ·have hlt : below M.nd.keys key < M.nd.keys.length := (List.getElem?_eq_some_iff.1 (at_below hmay.rise hh)).1
  rw [if_pos hh]
  simp only
  unfold valOf
  have hlv2 : M.nd.vals.length = M.nd.keys.length := hlf.1
  rw [if_pos ⟨hh, by omega⟩, hh]
 ·rw [if_neg hh]
  simp only
  unfold valOf
  rw [if_neg (λ h => hh h.1)]
  simp at hh
  rw [hh]
end
end Go.Proofs.YtbhohohgojcapaaGreat

namespace Go.Proofs.YtbhohohgojcapaaGreat
open Go.RowKit
def WB (m : Nat) (A : Ar) : Prop := ∀ s ∈ A.sl, s.word <= m
def Rel (A A' : Ar) : Prop := ∀ (j : Int) s, A.get j = some s -> ∃ s', A'.get j = some s' /\ s.word <= s'.word /\ (s'.word = s.word -> s.word % 2 = 0 -> s'.nd = s.nd)
section
variable {A A' A'' : Ar} {ix : Int} {s t : Sl} {n : Nd} {m : Nat}
theorem Rel.refl (A : Ar) : Rel A A := λ _ s h => ⟨s, h, Nat.le_refl _, λ _ _ => rfl⟩
theorem Rel.trans (h : Rel A A') (k : Rel A' A'') : Rel A A'' := λ j s hs => by
 obtain ⟨s1, h1, h2, h3⟩ := h j s hs
 obtain ⟨s2, k1, k2, k3⟩ := k j s1 h1
 refine ⟨s2, k1, Nat.le_trans h2 k2, λ e he => ?_⟩
 have e1 : s1.word = s.word := by omega
 rw [k3 (by omega) (by omega), h3 e1 he]
theorem Rel.put (hs : A.get ix = some s) (h1 : s.word <= t.word) (h2 : t.word = s.word -> s.word % 2 = 0 -> t.nd = s.nd) : Rel A (A.put ix t) := λ j r hr => by
 by_cases hj : j = ix
 ·subst hj
  rw [hs] at hr; cases hr
  exact ⟨t, put_get hs t, h1, h2⟩
 ·exact ⟨r, by rw [get_put_ne (get_le hs).1 hj]; exact hr, Nat.le_refl _, λ _ _ => rfl⟩
theorem wb_put (h : WB m A) (ht : t.word <= m) : WB m (A.put ix t) := λ r hr => by
 rcases List.mem_or_eq_of_mem_set hr with h1 | h1
 ·exact h r h1
 ·subst h1; exact ht
theorem wb_get (h : WB m A) (hs : A.get ix = some s) : s.word <= m := by
 obtain ⟨i, _, h2, _⟩ := get_some hs
 exact h s (List.mem_of_getElem? h2)
theorem WB.mono {m' : Nat} (h : WB m A) (hm : m <= m') : WB m' A := λ s hs => Nat.le_trans (h s hs) hm
theorem wb_lock {wd : Nat} (h : WB m A) : WB (m + 1) (opLock A ix wd).2.2 := by
 unfold opLock; split
 ·exact h.mono (by omega)
 ·rename_i s hg
  have := wb_get h hg
  split
  ·rename_i hc; exact wb_put (h.mono (by omega)) (by have := hc.1; simp; omega)
  ·exact h.mono (by omega)
theorem back_le (x : Nat) (c : Bool) : back x c <= x + 1 := by
 unfold back
 cases c
 ·simp; omega
 ·simp; exact Nat.mod_le _ _
theorem wb_unlock {c : Bool} (h : WB m A) : WB (m + 1) (opUnlock A ix c).2 := by
 unfold opUnlock; split
 ·exact h.mono (by omega)
 ·rename_i s hg
  have := wb_get h hg
  split
  ·exact h.mono (by omega)
  ·exact wb_put (h.mono (by omega)) (by have := back_le s.word c; simp; omega)
theorem wb_setHead (h : WB m A) : WB m (opSetHead A ix n).2 := by
 unfold opSetHead; split
 ·exact h
 ·rename_i s hg
  split
  ·exact h
  ·exact wb_put h (show s.word <= m from wb_get h hg)
theorem wb_setBody (h : WB m A) : WB m (opSetBody A ix n).2 := by
 unfold opSetBody; split
 ·exact h
 ·rename_i s hg
  split
  ·exact h
  ·exact wb_put h (show s.word <= m from wb_get h hg)
theorem wb_grow {o : Int} (h : WB m A) : WB m (opGrow A o ix).2.2 := by
 unfold opGrow; split
 ·exact h
 ·split <;> exact h
theorem wb_alloc (h : WB m A) (hm : 1 <= m) : WB m (opAlloc A).2.2 := by
 unfold opAlloc; split
 ·exact h
 ·intro s hs
  rcases List.mem_append.1 hs with hs | hs
  ·exact h s hs
  ·simp at hs; subst hs; exact hm
theorem wb_lay3 (h : WB m A) : WB (m + 1) (opLay3 A ix n) := wb_unlock (wb_setBody (wb_setHead h))
theorem wb_lay (h : WB m A) (hm : 1 <= m) : WB (m + 2) (opLay A ix n) := by
 unfold opLay
 split
 ·split
  ·exact (wb_lay3 (wb_alloc h hm)).mono (by omega)
  ·exact (wb_alloc h hm).mono (by omega)
 ·exact wb_lay3 (wb_lock h)
theorem wb_step (h : WB m A) (hm : 1 <= m) (o : OpM) : WB (m + 2) (step A o) := by
 unfold step
 split
 ·exact (wb_alloc h hm).mono (by omega)
 split
 ·exact h.mono (by omega)
 split
 ·exact (wb_lock h).mono (by omega)
 split
 ·exact (wb_unlock h).mono (by omega)
 split
 ·exact (wb_setHead h).mono (by omega)
 split
 ·exact (wb_setBody h).mono (by omega)
 split
 ·exact (wb_grow h).mono (by omega)
 split
 ·exact wb_lay h hm
 ·exact (wb_lock h).mono (by omega)
theorem rel_lock {wd : Nat} : Rel A (opLock A ix wd).2.2 := by
 unfold opLock; split
 ·exact Rel.refl _
 ·rename_i s hg
  split
  ·rename_i hc
   exact Rel.put hg (by have := hc.1; simp; omega) (λ e => by have := hc.1; simp at e; omega)
  ·exact Rel.refl _
theorem rel_unlock (h : WB m A) (hm : m + 1 < 18446744073709551616) : Rel A (opUnlock A ix true).2 := by
 unfold opUnlock; split
 ·exact Rel.refl _
 ·rename_i s hg
  have := wb_get h hg
  have e : back s.word true = s.word + 1 := by unfold back; simp; omega
  split
  ·exact Rel.refl _
  ·exact Rel.put hg (by rw [e]; simp) (λ e2 => by rw [e] at e2; simp at e2)
theorem rel_setHead : Rel A (opSetHead A ix n).2 := by
 unfold opSetHead; split
 ·exact Rel.refl _
 ·rename_i s hg
  split
  ·exact Rel.refl _
  ·rename_i hc; exact Rel.put hg (Nat.le_refl _) (λ _ he => absurd he hc)
theorem rel_setBody : Rel A (opSetBody A ix n).2 := by
 unfold opSetBody; split
 ·exact Rel.refl _
 ·rename_i s hg
  split
  ·exact Rel.refl _
  ·rename_i hc; exact Rel.put hg (Nat.le_refl _) (λ _ he => absurd he hc)
theorem rel_alloc : Rel A (opAlloc A).2.2 := by
 unfold opAlloc; split
 ·exact Rel.refl _
 ·intro j s hs
  refine ⟨s, ?_, Nat.le_refl _, λ _ _ => rfl⟩
  obtain ⟨i, h1, h2, h3⟩ := get_some hs
  have hlt := (List.getElem?_eq_some_iff.1 h2).1
  unfold Ar.get
  rw [if_pos (by omega), h3]
  show (A.sl ++ _)[i]? = _
  rw [List.getElem?_append_left hlt]; exact h2
theorem rel_lay3 (h : WB m A) (hm : m + 1 < 18446744073709551616) : Rel A (opLay3 A ix n) :=
 (rel_setHead.trans rel_setBody).trans (rel_unlock (wb_setBody (wb_setHead h)) hm)
theorem rel_lay (h : WB m A) (h1 : 1 <= m) (hm : m + 2 < 18446744073709551616) : Rel A (opLay A ix n) := by
 unfold opLay
 split
 ·split
  ·exact rel_alloc.trans (rel_lay3 (wb_alloc h h1) (by omega))
  ·exact rel_alloc
 ·exact rel_lock.trans (rel_lay3 (wb_lock h) hm)
end
def tru (o : OpM) : OpM := { o with ch := true }
section
variable {w w' : World} {S : Nat -> Prop} {o : OpM} {c0 c1 c2 c3 c4 c5 : Value}
end
section
variable {S T S' N : Nat -> Prop} {w w' : World} {xs xs' : List Value} {l : List Nd} {v' : Value} {e : TypeId} {size m : Nat}
end
end Go.Proofs.YtbhohohgojcapaaGreat
