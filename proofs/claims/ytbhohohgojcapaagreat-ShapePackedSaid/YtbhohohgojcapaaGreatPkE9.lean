import Derived.Test.YtbhohohgojcapaaGreatPkB4
import Derived.Test.YtbhohohgojcapaaGreatPkB8
namespace Go.Proofs.YtbhohohgojcapaaGreat
open Go.RowKit

/-- Kids that are numbers of the machine. -/
def Kids64 (A : Ar) : Prop := ∀ s ∈ A.sl, ∀ k ∈ s.nd.kids, K64 k
section
variable {A : Ar} {ix : Int}
theorem k64_put {t : Sl} (h : Kids64 A) (ht : ∀ k ∈ t.nd.kids, K64 k) : Kids64 (A.put ix t) := fun s hs => by
  rcases List.mem_or_eq_of_mem_set hs with h1 | h1
  · exact h s h1
  · rw [h1]; exact ht
theorem k64_get {t : Sl} (h : Kids64 A) (hg : A.get ix = some t) : ∀ k ∈ t.nd.kids, K64 k := by
  obtain ⟨_, _, h2, _⟩ := get_some hg
  exact h t (List.mem_of_getElem? h2)
theorem k64_lock {wd : Nat} (h : Kids64 A) : Kids64 (opLock A ix wd).2.2 := by
  unfold opLock; split
  · exact h
  · rename_i s hg
    split
    · exact k64_put h (show ∀ k ∈ s.nd.kids, K64 k from k64_get h hg)
    · exact h
theorem k64_unlock {c : Bool} (h : Kids64 A) : Kids64 (opUnlock A ix c).2 := by
  unfold opUnlock; split
  · exact h
  · rename_i s hg
    split
    · exact h
    · exact k64_put h (show ∀ k ∈ s.nd.kids, K64 k from k64_get h hg)
theorem k64_setHead {n : Nd} (h : Kids64 A) : Kids64 (opSetHead A ix n).2 := by
  unfold opSetHead; split
  · exact h
  · rename_i s hg
    split
    · exact h
    · exact k64_put h (show ∀ k ∈ s.nd.kids, K64 k from k64_get h hg)
theorem k64_setBody {n : Nd} (h : Kids64 A) (hn : ∀ k ∈ n.kids, K64 k) : Kids64 (opSetBody A ix n).2 := by
  unfold opSetBody; split
  · exact h
  · rename_i s hg
    split
    · exact h
    · exact k64_put h hn
theorem k64_grow {o : Int} (h : Kids64 A) : Kids64 (opGrow A o ix).2.2 := by
  unfold opGrow; split
  · exact h
  · split <;> exact h
theorem k64_alloc (h : Kids64 A) : Kids64 (opAlloc A).2.2 := by
  unfold opAlloc; split
  · exact h
  · intro s hs
    rcases List.mem_append.1 hs with hs | hs
    · exact h s hs
    · simp at hs; subst hs; intro k hk; simp [Nd.zero] at hk
theorem k64_lay3 {n : Nd} (h : Kids64 A) (hn : ∀ k ∈ n.kids, K64 k) : Kids64 (opLay3 A ix n) := k64_unlock (k64_setBody (k64_setHead h) hn)
theorem k64_lay {n : Nd} (h : Kids64 A) (hn : ∀ k ∈ n.kids, K64 k) : Kids64 (opLay A ix n) := by
  unfold opLay
  split
  · split
    · exact k64_lay3 (k64_alloc h) hn
    · exact k64_alloc h
  · exact k64_lay3 (k64_lock h) hn
theorem k64_step (h : Kids64 A) (o : OpM) (hn : ∀ k ∈ o.nd.kids, K64 k) : Kids64 (step A o) := by
  unfold step
  split
  · exact k64_alloc h
  split
  · exact h
  split
  · exact k64_lock h
  split
  · exact k64_unlock h
  split
  · exact k64_setHead h
  split
  · exact k64_setBody h hn
  split
  · exact k64_grow h
  split
  · exact k64_lay h hn
  · exact k64_lock h
theorem k64_steps : ∀ (os : List OpM) (A : Ar), Kids64 A → (∀ o ∈ os, ∀ k ∈ o.nd.kids, K64 k) → Kids64 (steps A os)
  | [], _, h, _ => h
  | o :: os, A, h, hn => k64_steps os (step A o) (k64_step h o (hn o (List.mem_cons_self ..))) (fun x hx => hn x (List.mem_cons_of_mem _ hx))
theorem k64_ar0 (n : Nat) : Kids64 (ar0 n) := fun s hs k hk => by
  have h : s = ⟨0, Nd.zero⟩ := (by simpa [ar0] using hs)
  rw [h] at hk; simp [Nd.zero] at hk
end
section
variable {w : World} {a0 a1 a2 a3 a4 : Int} {lo : Nat} {sv : Value} {os : List OpM}
set_option maxRecDepth 100000 in
set_option maxHeartbeats 6400000 in
theorem laidJ (ho : OpsAt w lo sv os) (hlo : lo ≤ w.heap.size) : Calls Tryz.prog 27 #[.agg #[sv, .int .i64 a0, .int .i64 a1, .int .i64 a2, .int .i64 a3, .int .i64 a4]] w fun e w' => ∃ b p q, e = .returned (.tuple #[pV b, .bool true]) ∧ J w' (From (w.heap.size + 1)) b p q (steps (ar0 40) os) (steps (ar0 40) os) ∧ Keeps Nob w w' := by
  obtain ⟨sA, sc, es⟩ : ∃ A c, sv = .slice A os.length c := by obtain ⟨A, c, e, _⟩ := ho; exact ⟨A, c, e⟩
  have hb : os.length * 136 ≤ 140737488355328 := by obtain ⟨_, _, _, _, _, h, _⟩ := ho; exact h
  subst es
  have HO := Lib.hid ho
  have HLO := Lib.hid hlo
  clear ho hlo
  have FB := fun w => begunJ (n := 40) w (by decide) (by decide)
  unfold iV pV at FB
  unfold pV
  go_enter Tryz.func27, Tryz.ntmps27
  go_wp2_with fail
  obtain ⟨P1, hP⟩ : ∃ N, w.heap.size = N := ⟨_, rfl⟩
  rw [hP]
  refine calls_at (fun w1 hw => ?_)
  have hk : Keeps Nob w w1 := by rw [hw]; exact Keeps.alloc _ _ _
  have hB : Blk w1 P1 73 #[.slice sA os.length sc, .int .i64 a0, .int .i64 a1, .int .i64 a2, .int .i64 a3, .int .i64 a4] := by rw [hw, ← hP]; exact Blk.new _ _ _
  have hs1 : w1.heap.size = P1 + 1 := by rw [hw, ← hP]; simp
  have HS := Lib.hid (And.intro hs1 hP)
  clear hw hP hs1
  refine (FB _).mono ?_
  rintro e w2 ⟨b, p, q, rfl, hj, hk2⟩
  have HJ := Lib.hid hj
  have HB := Lib.hid (hB.keeps hk2 (fun h => h))
  have K := Lib.hid (hk.trans hk2 (fun _ _ h => h))
  clear hj hk2 hk hB FB
  have c0 := HB.out.cell 0
  go_wp2
  clear c0
  go_loopw [6] (fun i wr => ∃ k : Nat, k ≤ os.length ∧ i = .int .i64 k ∧ J wr (From w1.heap.size) b p q (steps (ar0 40) (os.take k)) (steps (ar0 40) (os.take k)) ∧ Keeps Nob w wr ∧ Blk wr P1 73 #[.slice sA os.length sc, .int .i64 a0, .int .i64 a1, .int .i64 a2, .int .i64 a3, .int .i64 a4]) (fun i _ => os.length - (intOf i).toNat)
  case atStart => exact ⟨0, Nat.zero_le _, rfl, HJ.out, K.out, HB.out⟩
  clear HJ K HB
  obtain ⟨k, hk, rfl, hj, hkr, hbx⟩ := hrel
  rcases Nat.lt_or_ge k os.length with hlt | hlt
  · obtain ⟨o, ho⟩ : ∃ o, os[k]? = some o := ⟨_, List.getElem?_eq_getElem hlt⟩
    have HST := Lib.hid (show steps (ar0 40) (os.take (k + 1)) = step (steps (ar0 40) (os.take k)) o by rw [take_snocO _ _ _ ho, steps_snoc])
    obtain ⟨ad, d0, d1, d2, d3, d4, d5, ea, hop, q0, q1, q2, q3, q4, q5, q6, q7, q8, q9, q10⟩ := (HO.out.keeps hkr (fun _ _ => id)).at_ ho
    subst ea
    have HR := Lib.hid (rawJ hj hop (fun x hx hg => by have h1 : w1.heap.size ≤ x := hg; have h2 : x < lo := hx; have h3 := HLO.out; have h4 := HS.out; omega))
    have HK := Lib.hid hkr
    have HBX := Lib.hid hbx
    have c0 := hbx.cell 0
    clear hop ho hkr hj hbx
    unfold pV at HR
    have hk64 : k < 9223372036854775807 := by omega
    go_wp2_with fail
    clear c0 q0 q1 q2 q3 q4 q5 q6 q7 q8 q9 q10
    refine HR.out.mono ?_
    rintro e wk ⟨rfl, hj, hk2⟩
    have HJ2 := Lib.hid hj
    have HK2 := Lib.hid (HK.out.trans hk2 (fun x hx hg => by have h1 : w1.heap.size ≤ x := hg; have h4 := HS.out; omega))
    have HBX2 := Lib.hid (HBX.out.keeps hk2 (fun hg => by have h1 : w1.heap.size ≤ P1 := hg; have h4 := HS.out; omega))
    clear hj hk2
    go_wp2
    go_roundw
    case rel => exact ⟨k + 1, by omega, by simp, by rw [HST.out]; exact HJ2.out, HK2.out, HBX2.out⟩
    case measure => simp [intOf]; omega
  obtain rfl : k = os.length := by omega
  rw [List.take_length] at hj
  have HJ := Lib.hid hj
  have K := Lib.hid hkr
  have c0 := hbx.cell 0
  have FS := Lib.hid (sameJ hj)
  unfold pV at FS
  clear hj hkr hbx
  go_wp2_with fail
  clear c0
  refine FS.out.mono ?_
  rintro e wk ⟨rfl, hj, hk2⟩
  have HJ2 := Lib.hid hj
  replace K := Lib.hid (K.out.trans hk2 (fun _ _ h => h))
  clear hj hk2 FS
  go_wp2
  refine bodyPost_ret (v := .tuple #[.pointer (some ⟨b, 0, none⟩), .bool true]) (by simp [results, Tryz.results27, go_sem]) rfl ⟨b, p, q, rfl, ?_, K.out⟩
  have h := HJ2.out
  have h4 := HS.out
  rw [h4.1] at h
  rw [h4.2]
  exact h
end
end Go.Proofs.YtbhohohgojcapaaGreat
