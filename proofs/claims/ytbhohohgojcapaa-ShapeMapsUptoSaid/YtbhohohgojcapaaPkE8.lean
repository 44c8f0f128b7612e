import Derived.Test.YtbhohohgojcapaaPkE4
import Derived.Test.YtbhohohgojcapaaPkE6
namespace Go.Proofs.Ytbhohohgojcapaa
open Go.RowKit

section
variable {S T : Nat → Prop} {w : World} {a b : Value} {R : List Ent}
theorem enAt {w : World} {S : Nat → Prop} {A : Option Addr} {n c k : Nat} {l : List En} {x : En} (h : Own w S 98 2 (.slice A n c) n (enCells l)) (hn : l.length = n) (hx : l[k]? = some x) : ∃ g o, A = some ⟨g, o, none⟩ ∧ w.cell? ⟨g, o + k * 2, none⟩ = some x.kv ∧ w.cell? ⟨g, o + k * 2 + 1, none⟩ = some x.vv := by
  have hk : k < l.length := (List.getElem?_eq_some_iff.1 hx).1
  obtain ⟨q1, _, hf⟩ := h.at_
  rcases hf with ⟨_, hc⟩ | ⟨g, o, cur, rfl, _, hb, _, hc⟩
  · omega
  obtain ⟨h1, h2⟩ := enCells_at hx
  exact ⟨g, o, rfl, by rw [hb.cell]; exact hc _ _ h1, by rw [hb.cell]; exact hc _ _ h2⟩
set_option maxRecDepth 100000 in
set_option maxHeartbeats 12800000 in
theorem sameE (h1 : MapAt w S a R) (h2 : MapAt w T b R) : Calls Try.prog 36 #[a, b] w fun e w' => e = .returned (.bool true) ∧ Keeps Nob w w' := by
  obtain ⟨l1, o1, x1, e1⟩ := h1
  obtain ⟨l2, o2, x2, e2⟩ := h2
  have n1 : l1.length = R.length := by rw [← e1, List.length_map]
  have n2 : l2.length = R.length := by rw [← e2, List.length_map]
  obtain ⟨n, hn⟩ : ∃ n, R.length = n := ⟨_, rfl⟩
  rw [hn] at n1 n2
  rw [n1] at o1
  rw [n2] at o2
  obtain ⟨A, c, rfl⟩ := o1.form
  obtain ⟨B, d, rfl⟩ := o2.form
  have hz : n ≤ 9223372036854775807 := by obtain ⟨q1, q2, _⟩ := o1.at_; unfold maxLen at q2; omega
  have HO1 := Lib.hid o1
  have HO2 := Lib.hid o2
  have HX1 := Lib.hid x1
  have HX2 := Lib.hid x2
  have HE := Lib.hid (And.intro e1 e2)
  have HN := Lib.hid (And.intro n1 n2)
  clear o1 o2 x1 x2 e1 e2 n1 n2 hn
  go_enter Try.func36, Try.ntmps36
  go_wp2
  go_loopw [5] (fun i wr => ∃ k : Nat, k ≤ n ∧ i = .int .i64 k ∧ Keeps Nob w wr) (fun i _ => n - (intOf i).toNat)
  case atStart => exact ⟨0, Nat.zero_le _, rfl, Keeps.refl _ _⟩
  obtain ⟨k, hk1, rfl, hK⟩ := hrel
  have HK := Lib.hid hK
  clear hK
  rcases Nat.lt_or_ge k n with hlt | hlt
  rotate_left
  · obtain rfl : k = n := by omega
    go_wp2
    go_ret
    exact ⟨rfl, HK.out⟩
  obtain ⟨x, hx⟩ : ∃ x, l1[k]? = some x := ⟨_, List.getElem?_eq_getElem (by have := HN.out; omega)⟩
  obtain ⟨y, hy⟩ : ∃ y, l2[k]? = some y := ⟨_, List.getElem?_eq_getElem (by have := HN.out; omega)⟩
  obtain ⟨g1, o1, eA, a0, a1⟩ := enAt HO1.out HN.out.1 hx
  obtain ⟨g2, o2, eB, b0, b1⟩ := enAt HO2.out HN.out.2 hy
  subst eA eB
  have hxy : x.e = y.e := by
    have p1 : R[k]? = some x.e := by rw [← HE.out.1, List.getElem?_map, hx]; rfl
    have p2 : R[k]? = some y.e := by rw [← HE.out.2, List.getElem?_map, hy]; rfl
    rw [p1] at p2; exact Option.some.inj p2
  obtain ⟨t1, t2⟩ := HX1.out x (List.mem_of_getElem? hx)
  obtain ⟨t3, t4⟩ := HX2.out y (List.mem_of_getElem? hy)
  obtain ⟨xk, xv, xkk, xvv⟩ := x
  obtain ⟨yk, yv, ykk, yvv⟩ := y
  unfold En.e at hxy
  simp only [Prod.mk.injEq] at hxy t1 t2 t3 t4 a0 a1 b0 b1
  obtain ⟨rfl, rfl⟩ := hxy
  obtain ⟨A1, c1, rfl, _, _⟩ := t1.form
  obtain ⟨A2, c2, rfl, _, _⟩ := t2.form
  obtain ⟨A3, c3, rfl, _, _⟩ := t3.form
  obtain ⟨A4, c4, rfl, _, _⟩ := t4.form
  replace a0 := HK.out.cell a0 id
  replace a1 := HK.out.cell a1 id
  replace b0 := HK.out.cell b0 id
  replace b1 := HK.out.cell b1 id
  have s1 := fun n => run_str ((t1.keeps HK.out (fun _ _ _ => id)).keeps (Keeps.drewN Nob wr n) (fun _ _ _ => id))
  have s2 := fun n => run_str ((t2.keeps HK.out (fun _ _ _ => id)).keeps (Keeps.drewN Nob wr n) (fun _ _ _ => id))
  have s3 := fun n => run_str ((t3.keeps HK.out (fun _ _ _ => id)).keeps (Keeps.drewN Nob wr n) (fun _ _ _ => id))
  have s4 := fun n => run_str ((t4.keeps HK.out (fun _ _ _ => id)).keeps (Keeps.drewN Nob wr n) (fun _ _ _ => id))
  clear t1 t2 t3 t4 hx hy
  go_wp2
  go_quiet (fail)
  go_wp2
  clear a0 a1 b0 b1 s1 s2 s3 s4
  go_roundw
  case rel => exact ⟨k + 1, by omega, by go_num, HK.out.drewN' _⟩
  case measure => simp [intOf]; omega
end
end Go.Proofs.Ytbhohohgojcapaa

namespace Go.Proofs.Ytbhohohgojcapaa
open Go.RowKit

/-- At most m keys a node. -/
def KeysLe (m : Nat) (A : Ar) : Prop := ∀ s ∈ A.sl, s.nd.keys.length ≤ m
section
variable {A : Ar} {ix : Int} {m : Nat}
theorem kle_put {t : Sl} (h : KeysLe m A) (ht : t.nd.keys.length ≤ m) : KeysLe m (A.put ix t) := fun s hs => by
  rcases List.mem_or_eq_of_mem_set hs with h1 | h1
  · exact h s h1
  · rw [h1]; exact ht
theorem kle_get {t : Sl} (h : KeysLe m A) (hg : A.get ix = some t) : t.nd.keys.length ≤ m := by
  obtain ⟨_, _, h2, _⟩ := get_some hg
  exact h t (List.mem_of_getElem? h2)
theorem kle_lock {wd : Nat} (h : KeysLe m A) : KeysLe m (opLock A ix wd).2.2 := by
  unfold opLock; split
  · exact h
  · rename_i s hg
    split
    · exact kle_put h (show s.nd.keys.length ≤ m from kle_get h hg)
    · exact h
theorem kle_unlock {c : Bool} (h : KeysLe m A) : KeysLe m (opUnlock A ix c).2 := by
  unfold opUnlock; split
  · exact h
  · rename_i s hg
    split
    · exact h
    · exact kle_put h (show s.nd.keys.length ≤ m from kle_get h hg)
theorem kle_setHead {n : Nd} (h : KeysLe m A) : KeysLe m (opSetHead A ix n).2 := by
  unfold opSetHead; split
  · exact h
  · rename_i s hg
    split
    · exact h
    · exact kle_put h (show s.nd.keys.length ≤ m from kle_get h hg)
theorem kle_setBody {n : Nd} (h : KeysLe m A) (hn : n.keys.length ≤ m) : KeysLe m (opSetBody A ix n).2 := by
  unfold opSetBody; split
  · exact h
  · rename_i s hg
    split
    · exact h
    · exact kle_put h hn
theorem kle_grow {o : Int} (h : KeysLe m A) : KeysLe m (opGrow A o ix).2.2 := by
  unfold opGrow; split
  · exact h
  · split <;> exact h
theorem kle_alloc (h : KeysLe m A) : KeysLe m (opAlloc A).2.2 := by
  unfold opAlloc; split
  · exact h
  · intro s hs
    rcases List.mem_append.1 hs with hs | hs
    · exact h s hs
    · simp at hs; subst hs; exact Nat.zero_le _
theorem kle_lay3 {n : Nd} (h : KeysLe m A) (hn : n.keys.length ≤ m) : KeysLe m (opLay3 A ix n) := kle_unlock (kle_setBody (kle_setHead h) hn)
theorem kle_lay {n : Nd} (h : KeysLe m A) (hn : n.keys.length ≤ m) : KeysLe m (opLay A ix n) := by
  unfold opLay
  split
  · split
    · exact kle_lay3 (kle_alloc h) hn
    · exact kle_alloc h
  · exact kle_lay3 (kle_lock h) hn
theorem kle_step (h : KeysLe m A) (o : OpM) (hn : o.nd.keys.length ≤ m) : KeysLe m (step A o) := by
  unfold step
  split
  · exact kle_alloc h
  split
  · exact h
  split
  · exact kle_lock h
  split
  · exact kle_unlock h
  split
  · exact kle_setHead h
  split
  · exact kle_setBody h hn
  split
  · exact kle_grow h
  split
  · exact kle_lay h hn
  · exact kle_lock h
theorem kle_steps : ∀ (os : List OpM) (A : Ar), KeysLe m A → (∀ o ∈ os, o.nd.keys.length ≤ m) → KeysLe m (steps A os)
  | [], _, h, _ => h
  | o :: os, A, h, hn => kle_steps os (step A o) (kle_step h o (hn o (List.mem_cons_self ..))) (fun x hx => hn x (List.mem_cons_of_mem _ hx))
theorem kle_ar0 (n : Nat) : KeysLe m (ar0 n) := fun s hs => by
  have h : s = ⟨0, Nd.zero⟩ := (by simpa [ar0] using hs)
  rw [h]; exact Nat.zero_le _
theorem mapM_bound (h : KeysLe m A) : ∀ (f : Nat) (id : Int) (met : List Int) (leaf : Bool) (out : List Ent), (mapM A f id met leaf out).length ≤ out.length + f * m
  | 0, _, _, _, _ => by simp [mapM]
  | f + 1, id, met, leaf, out => by
    have e : (f + 1) * m = f * m + m := by rw [Nat.add_mul, Nat.one_mul]
    unfold mapM
    split
    · omega
    · rename_i s hs
      split
      · omega
      · split
        · split
          · omega
          · have := mapM_bound h f (s.nd.kids.getD 0 0) (met ++ [id]) (leaf || decide (s.nd.lvl ≤ 0)) out
            omega
        · have h1 := mapM_bound h f s.nd.right (met ++ [id]) (leaf || decide (s.nd.lvl ≤ 0)) (out ++ ents s.nd)
          rw [List.length_append, ents_len] at h1
          have h2 := kle_get h hs
          omega
theorem mapOf_bound (h : KeysLe m A) : (mapOf A).length ≤ (A.sl.length + 1) * m := by
  have := mapM_bound h (A.sl.length + 1) A.root [] false []
  unfold mapOf
  simpa using this
end
end Go.Proofs.Ytbhohohgojcapaa
