import Derived.Test.YtbhohohgojcapaaGreatPkD1
import Derived.Test.YtbhohohgojcapaaGreatPkB4
import Derived.Test.YtbhohohgojcapaaGreatPkC2
namespace Go.Proofs.YtbhohohgojcapaaGreat
open Go.RowKit
structure May (n : Nd) (a0 a1 a2 : Int) : Prop where
 lvl : 0 <= n.lvl /\ n.lvl <= 32
 right : 0 <= n.right /\ n.right <= a0
 high : n.high.length = 0 ↔ n.right = 0
 high64 : n.high.length <= 64
 rise : Rise n.keys
 key : ∀ k ∈ n.keys, (1 <= k.length /\ k.length <= 64) /\ beyond n.high k = false
 leaf : n.lvl = 0 -> n.vals.length = n.keys.length /\ (n.keys.length : Int) <= a1 /\ n.kids = [] /\ ∀ v ∈ n.vals, v.length <= 256
 inner : n.lvl ≠ 0 -> n.kids.Nodup /\ (∀ k ∈ n.kids, 1 <= k /\ k <= a0) /\ n.vals = [] /\ n.kids.length = n.keys.length + 1 /\ (n.kids.length : Int) <= a2
theorem keyBad_iff (high x : List UInt8) : keyBad high x = false ↔ (1 <= x.length /\ x.length <= 64) /\ beyond high x = false := by
 unfold keyBad
 rw [Bool.or_eq_false_iff]
 simp only [Bool.not_eq_false', decide_eq_true_eq]
 constructor
 ·rintro ⟨h1, h2⟩; exact ⟨by omega, h2⟩
 ·rintro ⟨h1, h2⟩; exact ⟨by omega, h2⟩
theorem may_iff {n : Nd} {a0 a1 a2 a3 a4 : Int} (hc : confOk a0 a1 a2 a3 a4 = true) : mayE n a0 a1 a2 a3 a4 = 0 ↔ May n a0 a1 a2 := by
 unfold mayE
 rw [if_pos hc]
 have hh : headOk n a0 = true ↔ (0 <= n.lvl /\ n.lvl <= 32) /\ (0 <= n.right /\ n.right <= a0) /\ (n.high.length = 0 ↔ n.right = 0) /\ n.high.length <= 64 := by
  unfold headOk
  simp only [Bool.and_eq_true, decide_eq_true_eq, beq_iff_eq]
  have e : (((n.high.length : Int) == 0) = (n.right == 0)) ↔ (n.high.length = 0 ↔ n.right = 0) := by
   rw [Bool.eq_iff_iff]; simp
  rw [e]
  constructor
  ·rintro ⟨h1, h2, h3, h4⟩; exact ⟨h1, h2, h3, by omega⟩
  ·rintro ⟨h1, h2, h3, h4⟩; exact ⟨h1, h2, h3, by omega⟩
 have hk : keysOk n = true ↔ Rise n.keys /\ ∀ k ∈ n.keys, (1 <= k.length /\ k.length <= 64) /\ beyond n.high k = false := by
  unfold keysOk
  rw [Bool.and_eq_true, rises_iff, Bool.not_eq_true', List.any_eq_false]
  constructor
  ·rintro ⟨h1, h2⟩
   exact ⟨h1, λ k hk => (keyBad_iff _ _).1 (by simpa using h2 k hk)⟩
  ·rintro ⟨h1, h2⟩
   exact ⟨h1, λ k hk => by rw [(keyBad_iff _ _).2 (h2 k hk)]; simp⟩
 have hf : formOk n a0 a1 a2 = true ↔ (n.lvl = 0 -> n.vals.length = n.keys.length /\ (n.keys.length : Int) <= a1 /\ n.kids = [] /\ ∀ v ∈ n.vals, v.length <= 256) /\ (n.lvl ≠ 0 -> n.kids.Nodup /\ (∀ k ∈ n.kids, 1 <= k /\ k <= a0) /\ n.vals = [] /\ n.kids.length = n.keys.length + 1 /\ (n.kids.length : Int) <= a2) := by
  unfold formOk
  by_cases hl : n.lvl = 0
  ·rw [if_pos hl]
   unfold leafOk
   simp only [Bool.and_eq_true, decide_eq_true_eq, Bool.not_eq_true', List.any_eq_false, List.length_eq_zero_iff]
   constructor
   ·rintro ⟨h1, h2, h3, h4⟩
    refine ⟨λ _ => ⟨h1, h2, h3, λ v hv => ?_⟩, λ h => absurd hl h⟩
    have := h4 v hv
    unfold valBad at this
    simp at this
    omega
   ·rintro ⟨h1, _⟩
    obtain ⟨h1, h2, h3, h4⟩ := h1 hl
    refine ⟨h1, h2, h3, λ v hv => ?_⟩
    have := h4 v hv
    unfold valBad
    simp
    omega
  ·rw [if_neg hl]
   unfold innerOk kidsFine
   simp only [Bool.and_eq_true, decide_eq_true_eq, List.all_eq_true, List.length_eq_zero_iff]
   constructor
   ·rintro ⟨⟨h1, h2⟩, h3, h4, h5⟩
    exact ⟨λ h => absurd h hl, λ _ => ⟨h1, h2, h3, h4, h5⟩⟩
   ·rintro ⟨_, h1⟩
    obtain ⟨h1, h2, h3, h4, h5⟩ := h1 hl
    exact ⟨⟨h1, h2⟩, h3, h4, h5⟩
 constructor
 ·intro h
  by_cases hb : (headOk n a0 && (keysOk n && formOk n a0 a1 a2)) = true
  ·simp only [Bool.and_eq_true] at hb
   obtain ⟨b1, b2, b3⟩ := hb
   obtain ⟨g1, g2, g3, g4⟩ := hh.1 b1
   obtain ⟨g5, g6⟩ := hk.1 b2
   obtain ⟨g7, g8⟩ := hf.1 b3
   exact ⟨g1, g2, g3, g4, g5, g6, g7, g8⟩
  ·rw [if_neg hb] at h
   exact absurd h (by decide)
 ·intro h
  rw [hh.2 ⟨h.lvl, h.right, h.high, h.high64⟩, hk.2 ⟨h.rise, h.key⟩, hf.2 ⟨h.leaf, h.inner⟩]
  rfl
end Go.Proofs.YtbhohohgojcapaaGreat

namespace Go.Proofs.YtbhohohgojcapaaGreat
open Go.RowKit
/-! ### order -/
theorem cmp_swap_ : ∀ (a b : List UInt8), cmp b a = -cmp a b
 | [], [] => rfl
 | [], _ :: _ => rfl
 | _ :: _, [] => rfl
 | x :: a, y :: b => by
  rw [cmp_cons, cmp_cons]
  by_cases h1 : x < y
  ·rw [if_pos h1, if_neg (λ h => absurd (UInt8.lt_trans h1 h) (UInt8.lt_irrefl x)), if_pos h1]; rfl
  ·by_cases h2 : y < x
   ·rw [if_pos h2, if_neg h1, if_pos h2]
   ·rw [if_neg h2, if_neg h1, if_neg h1, if_neg h2]
    exact cmp_swap_ a b
theorem rise_tail_ {x : List UInt8} {l : List (List UInt8)} (h : Rise (x :: l)) : Rise l := λ j a b ha hb => h (j + 1) a b (by simpa using ha) (by simpa using hb)
theorem cmp_le_lt {a b c : List UInt8} (h1 : cmp a b <= 0) (h2 : cmp b c < 0) : cmp a c < 0 := by
 rcases Int.lt_or_eq_of_le h1 with h | h
 ·exact cmp_lt_trans _ _ _ h h2
 ·rw [cmp_zero _ _ h]; exact h2
theorem cmp_lt_le {a b c : List UInt8} (h1 : cmp a b < 0) (h2 : cmp b c <= 0) : cmp a c < 0 := by
 rcases Int.lt_or_eq_of_le h2 with h | h
 ·exact cmp_lt_trans _ _ _ h1 h
 ·rw [<- cmp_zero _ _ h]; exact h1
theorem cmp_le_le {a b c : List UInt8} (h1 : cmp a b <= 0) (h2 : cmp b c <= 0) : cmp a c <= 0 := by
 rcases Int.lt_or_eq_of_le h2 with h | h
 ·exact Int.le_of_lt (cmp_le_lt h1 h)
 ·rw [<- cmp_zero _ _ h]; exact h1
theorem upto_iff {key : List UInt8} : ∀ {l : List (List UInt8)}, Rise l -> ∀ (j : Nat) (x : List UInt8), l[j]? = some x -> (cmp x key <= 0 ↔ j < upto l key)
 | [], _, j, x, hx => by simp at hx
 | y :: l, h, j, x, hx => by
  have hl : upto (y :: l) key = upto l key + if cmp y key <= 0 then 1 else 0 := by unfold upto; rw [List.countP_cons]; simp
  by_cases hy : cmp y key <= 0
  ·rw [hl, if_pos hy]
   cases j with
   | zero => simp at hx; subst hx; exact ⟨λ _ => by omega, λ _ => hy⟩
   | succ j =>
    have := upto_iff (key := key) (rise_tail_ h) j x (by simpa using hx)
    rw [this]; omega
  ·have hz : upto l key = 0 := by
    unfold upto
    rw [List.countP_eq_zero]
    intro z hz
    obtain ⟨i, hi⟩ := List.mem_iff_getElem?.1 hz
    have h1 := rise_lt' h (i := 0) (j := i + 1) (by omega) (a := y) (b := z) rfl (by simpa using hi)
    simp only [decide_eq_true_eq]
    intro h2
    exact hy (Int.le_of_lt (cmp_lt_le h1 h2))
   rw [hl, if_neg hy, hz]
   constructor
   ·intro h1
    exfalso
    cases j with
    | zero => simp at hx; subst hx; exact hy h1
    | succ j => exact hy (Int.le_of_lt (cmp_lt_le (rise_lt' h (i := 0) (j := j + 1) (by omega) rfl hx) h1))
   ·intro h1; omega
/-! ### the tree that Levels has seen -/
inductive Chn (A : Ar) (chk : Nd -> Int) (level : Int) : Int -> List UInt8 -> Ch -> Prop
 | last {id : Int} {low : List UInt8} {s : Sl} : A.get id = some s -> s.nd.lvl = level -> chk s.nd = 0 -> lowBad low s.nd = false -> s.nd.right = 0 -> Chn A chk level id low [(id, low)]
 | more {id : Int} {low : List UInt8} {s : Sl} {r : Ch} : A.get id = some s -> s.nd.lvl = level -> chk s.nd = 0 -> lowBad low s.nd = false -> s.nd.right ≠ 0 -> Chn A chk level s.nd.right s.nd.high r -> Chn A chk level id low ((id, low) :: r)
def UpOk (A : Ar) (up : Option Ch) (c : Ch) : Prop := ∀ u, up = some u -> ∀ e ∈ u, nodeKids c e.2 (opNd A e.1) = true
inductive Trs (A : Ar) (chk : Nd -> Int) : Int -> Int -> Option Ch -> List Ch -> Prop
 | base {first : Int} {up : Option Ch} {c : Ch} : Chn A chk 0 first [] c -> UpOk A up c -> Trs A chk 0 first up [c]
 | step {level first : Int} {up : Option Ch} {c : Ch} {ts : List Ch} : level ≠ 0 -> Chn A chk level first [] c -> UpOk A up c -> Trs A chk (level - 1) (firstKid A c) (some c) ts -> Trs A chk level first up (c :: ts)
section
variable {A : Ar} {chk : Nd -> Int} {level id first : Int} {low key : List UInt8} {met : List Int} {acc c l : Ch} {s : Sl} {up : Option Ch} {ts : List Ch}
theorem Chn.at_ (h : Chn A chk level id low c) : ∃ s r, c = (id, low) :: r /\ A.get id = some s /\ s.nd.lvl = level /\ chk s.nd = 0 /\ lowBad low s.nd = false /\ (s.nd.right = 0 /\ r = [] \/ s.nd.right ≠ 0 /\ Chn A chk level s.nd.right s.nd.high r) := by
 cases h with
 | last h1 h2 h3 h4 h5 => exact ⟨_, _, rfl, h1, h2, h3, h4, .inl ⟨h5, rfl⟩⟩
 | more h1 h2 h3 h4 h5 h6 => exact ⟨_, _, rfl, h1, h2, h3, h4, .inr ⟨h5, h6⟩⟩
theorem Chn.mem (h : Chn A chk level first low c) : ∀ {e : Int × List UInt8}, e ∈ c -> ∃ c', Chn A chk level e.1 e.2 c' /\ c'.length <= c.length /\ ∀ x ∈ c', x ∈ c := by
 induction h with
 | last h1 h2 h3 h4 h5 =>
  intro e he
  simp at he; subst he
  exact ⟨_, .last h1 h2 h3 h4 h5, Nat.le_refl _, λ x hx => hx⟩
 | more h1 h2 h3 h4 h5 h6 ih =>
  intro e he
  rcases List.mem_cons.1 he with he | he
  ·subst he
   exact ⟨_, .more h1 h2 h3 h4 h5 h6, Nat.le_refl _, λ x hx => hx⟩
  ·obtain ⟨c', g1, g2, g3⟩ := ih he
   exact ⟨c', g1, by simp; omega, λ x hx => List.mem_cons_of_mem _ (g3 x hx)⟩
theorem chainM_chn : ∀ (f : Nat) (id : Int) (low : List UInt8) (met : List Int) (acc : Ch), MetA A met -> A.sl.length < f + met.length -> (chainM A chk level f id low met acc).2.2.sound = true ->
  ∃ r, (chainM A chk level f id low met acc).1 = acc ++ r /\ (chainM A chk level f id low met acc).2.1 = met ++ r.map Prod.fst /\ Chn A chk level id low r /\ MetA A (met ++ r.map Prod.fst)
 | 0, _, _, met, _, h1, h2, _ => by have := h1.len; omega
 | f + 1, id, low, met, acc, h1, h2, h3 => by
  unfold chainM at h3 ⊢
  split
  ·rename_i hs
   rw [hs] at h3; cases h3
  rename_i s hs
  rw [hs] at h3
  simp only at h3
  split
  ·rename_i hm
   rw [if_pos hm] at h3; cases h3
  rename_i hm
  rw [if_neg hm] at h3
  split
  ·rename_i hm
   rw [if_pos hm] at h3; cases h3
  rename_i hlv
  rw [if_neg hlv] at h3
  split
  ·rename_i hm
   rw [if_pos hm] at h3; cases h3
  rename_i hck
  rw [if_neg hck] at h3
  split
  ·rename_i hm
   rw [if_pos hm] at h3; cases h3
  rename_i hlb
  rw [if_neg hlb] at h3
  have h4 : MetA A (met ++ [id]) := h1.snoc hs (by simpa using hm)
  have hlv' : s.nd.lvl = level := by simpa using hlv
  have hck' : chk s.nd = 0 := by simpa using hck
  have hlb' : lowBad low s.nd = false := by simpa using hlb
  split
  ·rename_i hr
   exact ⟨[(id, low)], rfl, rfl, .last hs hlv' hck' hlb' hr, h4⟩
  ·rename_i hr
   rw [if_neg hr] at h3
   obtain ⟨r, g1, g2, g3, g4⟩ := chainM_chn f s.nd.right s.nd.high (met ++ [id]) (acc ++ [(id, low)]) h4 (by simp; omega) h3
   refine ⟨(id, low) :: r, by rw [g1]; simp, by rw [g2]; simp, .more hs hlv' hck' hlb' hr g3, ?_⟩
   have e : met ++ List.map Prod.fst ((id, low) :: r) = met ++ [id] ++ List.map Prod.fst r := by simp
   rw [e]; exact g4
theorem kidsM_all {down : Ch} : ∀ {u : Ch}, (kidsM A down u).sound = true -> ∀ e ∈ u, nodeKids down e.2 (opNd A e.1) = true
 | [], _, e, he => by simp at he
 | (id, low) :: u, h, e, he => by
  unfold kidsM at h
  split at h
  ·rename_i hk
   rcases List.mem_cons.1 he with he | he
   ·subst he; exact hk
   ·exact kidsM_all h e he
  ·cases h
theorem levelsFrom_trs : ∀ (f : Nat) (level first : Int) (met : List Int) (out : List Ch), MetA A met -> 0 <= level -> level < f -> (levelsFrom A chk f level first met out).2.sound = true ->
  ∃ ts, (levelsFrom A chk f level first met out).1 = out ++ ts /\ Trs A chk level first out.getLast? ts /\ MetA A (met ++ ts.flatten.map Prod.fst)
 | 0, level, _, _, _, _, h1, h2, _ => by omega
 | f + 1, level, first, met, out, hm, h0, hf, h => by
  unfold levelsFrom at h ⊢
  simp only at h ⊢
  by_cases hc : (chainM A chk level (A.sl.length + 1 - met.length) first [] met []).2.2.sound = false
  ·rw [if_pos hc] at h; simp only at h; rw [hc] at h; cases h
  rw [if_neg hc] at h ⊢
  have hc' : (chainM A chk level (A.sl.length + 1 - met.length) first [] met []).2.2.sound = true := by simpa using hc
  obtain ⟨r, g1, g2, g3, g4⟩ := chainM_chn _ _ _ _ _ hm (by have := hm.len; omega) hc'
  rw [List.nil_append] at g1
  rw [g1, g2] at h ⊢
  by_cases hk : (kidsLast A out r).sound = false
  ·rw [if_pos hk] at h; simp only at h; rw [hk] at h; cases h
  rw [if_neg hk] at h ⊢
  have hu : UpOk A out.getLast? r := λ u hu e he => by
   have hk' : (kidsLast A out r).sound = true := by simpa using hk
   unfold kidsLast at hk'
   rw [hu] at hk'
   exact kidsM_all hk' e he
  by_cases hl : level = 0
  ·rw [if_pos hl] at h ⊢
   subst hl
   exact ⟨[r], rfl, .base g3 hu, by simpa using g4⟩
  ·rw [if_neg hl] at h ⊢
   obtain ⟨ts, k1, k2, k3⟩ := levelsFrom_trs f (level - 1) (firstKid A r) (met ++ r.map Prod.fst) (out ++ [r]) g4 (by omega) (by omega) h
   rw [List.getLast?_append] at k2
   refine ⟨r :: ts, by rw [k1]; simp, .step hl g3 hu k2, ?_⟩
   have e : met ++ List.map Prod.fst (r :: ts).flatten = met ++ List.map Prod.fst r ++ List.map Prod.fst ts.flatten := by simp
   rw [e]; exact k3
theorem heldFrom_nil : ∀ {i : Nat} {l : List Sl}, heldFrom i l = [] -> ∀ s ∈ l, s.word % 2 = 0
 | _, [], _, s, hs => by simp at hs
 | i, t :: l, h, s, hs => by
  unfold heldFrom at h
  split at h
  ·cases h
  ·rcases List.mem_cons.1 hs with e | e
   ·subst e; omega
   ·exact heldFrom_nil h s e
structure TreeOk (A : Ar) (a0 a1 a2 : Int) (chk : Nd -> Int) (lv : Int) (ls : List Ch) : Prop where
 top : ∃ s, A.get A.root = some s /\ s.nd.lvl = lv
 lv0 : 0 <= lv
 even : ∀ s ∈ A.sl, s.word % 2 = 0
 trs : Trs A chk lv A.root none ls
 met : MetA A (ls.flatten.map Prod.fst)
 may : ∀ n, chk n = 0 -> May n a0 a1 a2
theorem levelsM_ok {a0 a1 a2 a3 a4 : Int} {ls : List Ch} {r : Rp} (h : levelsM A a0 a1 a2 a3 a4 = (ls, r)) (hr : r.sound = true) : ∃ lv, TreeOk A a0 a1 a2 (chkM a0 a1 a2 a3 a4) lv ls := by
 unfold levelsM at h
 split at h
 ·cases h; cases hr
 rename_i hc
 have hc' : confOk a0 a1 a2 a3 a4 = true := by simpa using hc
 split at h
 ·cases h; cases hr
 rename_i hh
 split at h
 ·cases h; cases hr
 rename_i s hs
 have hmay : ∀ n, chkM a0 a1 a2 a3 a4 n = 0 -> May n a0 a1 a2 := λ n hn => (may_iff hc').1 hn
 by_cases hl : 0 <= s.nd.lvl
 ·have hr' : (levelsFrom A (chkM a0 a1 a2 a3 a4) (s.nd.lvl.toNat + 1) s.nd.lvl A.root [] []).2.sound = true := by rw [h]; exact hr
  obtain ⟨ts, k1, k2, k3⟩ := levelsFrom_trs _ _ _ _ _ ⟨List.nodup_nil, λ x hx => by simp at hx⟩ hl (by omega) hr'
  rw [h] at k1
  simp only [List.nil_append] at k1 k3
  subst k1
  exact ⟨_, ⟨s, hs, rfl⟩, hl, heldFrom_nil hh, k2, k3, hmay⟩
 ·exfalso
  unfold levelsFrom at h
  simp only at h
  have e : (chainM A (chkM a0 a1 a2 a3 a4) s.nd.lvl (A.sl.length + 1 - ([] : List Int).length) A.root [] [] []).2.2.sound = false := by
   by_cases hc : (chainM A (chkM a0 a1 a2 a3 a4) s.nd.lvl (A.sl.length + 1 - ([] : List Int).length) A.root [] [] []).2.2.sound = true
   ·obtain ⟨r, g1, g2, g3, g4⟩ := chainM_chn _ _ _ _ _ ⟨List.nodup_nil, λ x hx => by simp at hx⟩ (by simp) hc
    obtain ⟨s', _, _, _, g5, g6, _⟩ := g3.at_
    have := (hmay _ g6).lvl
    omega
   ·simpa using hc
  rw [if_pos e] at h
  cases h
  rw [e] at hr; cases hr
theorem Trs.length {level first : Int} {up : Option Ch} {ts : List Ch} (h : Trs A chk level first up ts) : (ts.length : Int) = level + 1 := by
 induction h with
 | base => rfl
 | step _ _ _ _ ih => simp only [List.length_cons]; omega
theorem TreeOk.len {a0 a1 a2 lv : Int} {ls : List Ch} (h : TreeOk A a0 a1 a2 chk lv ls) : ls.flatten.length <= A.sl.length := by
 have := h.met.len
 rw [List.length_map] at this
 exact this
/-! ### a descent alone -/
structure EndsAt (A : Ar) (ch : Ch) (key : List UInt8) (level : Int) (M : Mc) : Prop where
 there : M.there = true
 mem : ∃ low, (M.id, low) ∈ ch /\ cmp low key <= 0
 slot : A.get M.id = some ⟨M.word, M.nd⟩
 lvl : M.nd.lvl = level
 notb : beyond M.nd.high key = false
end
section
variable {A : Ar} {chk : Nd -> Int} {a0 a1 a2 : Int}
theorem kidOk_mem {down : Ch} {kid : Int} {want : List UInt8} (h : kidOk down kid want = true) : (kid, want) ∈ down := by
 unfold kidOk at h
 obtain ⟨d, hd, h⟩ := List.any_eq_true.1 h
 rw [Bool.and_eq_true] at h
 have e1 : d.1 = kid := by simpa using h.1
 have e2 : d.2 = want := by simpa using h.2
 obtain ⟨x, y⟩ := d
 simp only at e1 e2
 subst e1 e2
 exact hd
theorem child_in {down : Ch} {low key : List UInt8} {n : Nd} (hm : May n a0 a1 a2) (hl : n.lvl ≠ 0) (hk : nodeKids down low n = true) (hlow : cmp low key <= 0) : ∃ lw, (childOf n.kids n.keys key, lw) ∈ down /\ cmp lw key <= 0 := by
 obtain ⟨_, _, _, hlen, _⟩ := hm.inner hl
 have hu := upto_le n.keys key
 unfold childOf
 rw [hlen, show min (upto n.keys key) (n.keys.length + 1 - 1) = upto n.keys key by omega]
 unfold nodeKids at hk
 rw [List.all_eq_true] at hk
 have h1 := kidOk_mem (hk (upto n.keys key) (List.mem_range.2 (by omega)))
 refine ⟨_, h1, ?_⟩
 unfold wantLow
 by_cases hz : upto n.keys key = 0
 ·rw [if_pos hz]; exact hlow
 ·rw [if_neg hz]
  obtain ⟨x, hx⟩ : ∃ x, n.keys[upto n.keys key - 1]? = some x := ⟨_, List.getElem?_eq_getElem (by omega)⟩
  have e : n.keys.getD (upto n.keys key - 1) [] = x := by rw [List.getD_eq_getElem?_getD, hx]; rfl
  rw [e]
  exact (upto_iff hm.rise _ _ hx).2 (by omega)
theorem beyond_iff {high key : List UInt8} : beyond high key = true ↔ 0 < high.length /\ 0 <= cmp key high := by
 unfold beyond
 rw [Bool.and_eq_true, decide_eq_true_eq, decide_eq_true_eq]
theorem cmp_nil (key : List UInt8) : cmp [] key <= 0 := by
 cases key with
 | nil => decide
 | cons a l => show (-1 : Int) <= 0; decide
end
end Go.Proofs.YtbhohohgojcapaaGreat
