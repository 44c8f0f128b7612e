/- A row of calls in memory, as an argument has it; ArenaPlays walked. -/
import Derived.Test.YtdmmhblmgbhgfaaRaw
namespace Go.Proofs.Ytdmmhblmgbhgfaa
open Go.RowKit

/-- The slice v holds these calls; its block lies below lo. -/
def OpsAt (w : World) (lo : Nat) (v : Value) (os : List OpM) : Prop :=
  ∃ A c, v = .slice A os.length c ∧ os.length ≤ c ∧ c ≤ maxLen ∧ os.length * 136 ≤ 140737488355328 ∧ (os ≠ [] → ∃ ad, A = some ad ∧ ad.block < lo ∧ ∀ (i : Nat) o, os[i]? = some o → ∃ cs : Array Value, IsOp w (fun b => b < lo) cs o ∧ ∀ (j : Nat) x, cs[j]? = some x → w.cell? (ad.add (i * 11 + j)) = some x)

theorem add_far (a : Addr) (i j : Nat) (hj : j ≠ 0) : a.add (i + j) = ⟨(a.add i).block, (a.add i).off + j, none⟩ := by
  rw [← add_add_]
  generalize a.add i = b
  unfold Addr.add
  rw [if_neg hj]

section
variable {w w' : World} {lo : Nat} {v : Value} {os : List OpM} {G : Nat → Prop}
theorem IsOp.keeps {cs : Array Value} {o : OpM} (h : IsOp w (fun b => b < lo) cs o) (k : Keeps G w w') (hg : ∀ x, x < lo → ¬ G x) : IsOp w' (fun b => b < lo) cs o := by
  obtain ⟨⟨c0, c1, c2, c3, c4, c5, e, hn⟩, h1, h2, h3, h4, h5⟩ := h
  exact ⟨⟨c0, c1, c2, c3, c4, c5, e, hn.keeps k (fun x _ hx => hg x hx)⟩, h1, h2, h3, h4, h5⟩
theorem OpsAt.keeps (h : OpsAt w lo v os) (k : Keeps G w w') (hg : ∀ x, x < lo → ¬ G x) : OpsAt w' lo v os := by
  obtain ⟨A, c, e, h1, h2, h3, h⟩ := h
  refine ⟨A, c, e, h1, h2, h3, fun hne => ?_⟩
  obtain ⟨ad, ea, hb, hc⟩ := h hne
  refine ⟨ad, ea, hb, fun i o ho => ?_⟩
  obtain ⟨cs, ho, hcs⟩ := hc i o ho
  exact ⟨cs, ho.keeps k hg, fun j x hx => k.cell (hcs j x hx) (by rw [blk_add]; exact hg _ hb)⟩
/-- The cells of the i-th call. -/
theorem OpsAt.at_ {A : Option Addr} {n c i : Nat} {o : OpM} (h : OpsAt w lo (.slice A n c) os) (hi : os[i]? = some o) : ∃ ad c0 c1 c2 c3 c4 c5, A = some ad ∧
    IsOp w (fun b => b < lo) #[.int .i64 o.kd, .int .i64 o.a, .int .i64 o.b, .int .u64 o.w, .bool o.ch, c0, c1, c2, c3, c4, c5] o ∧
    w.cell? (ad.add (i * 11)) = some (.int .i64 o.kd) ∧ w.cell? ⟨(ad.add (i * 11)).block, (ad.add (i * 11)).off + 1, none⟩ = some (.int .i64 o.a) ∧ w.cell? ⟨(ad.add (i * 11)).block, (ad.add (i * 11)).off + 2, none⟩ = some (.int .i64 o.b) ∧ w.cell? ⟨(ad.add (i * 11)).block, (ad.add (i * 11)).off + 3, none⟩ = some (.int .u64 o.w) ∧ w.cell? ⟨(ad.add (i * 11)).block, (ad.add (i * 11)).off + 4, none⟩ = some (.bool o.ch) ∧
    w.cell? ⟨(ad.add (i * 11)).block, (ad.add (i * 11)).off + 5, none⟩ = some c0 ∧ w.cell? ⟨(ad.add (i * 11)).block, (ad.add (i * 11)).off + 6, none⟩ = some c1 ∧ w.cell? ⟨(ad.add (i * 11)).block, (ad.add (i * 11)).off + 7, none⟩ = some c2 ∧ w.cell? ⟨(ad.add (i * 11)).block, (ad.add (i * 11)).off + 8, none⟩ = some c3 ∧ w.cell? ⟨(ad.add (i * 11)).block, (ad.add (i * 11)).off + 9, none⟩ = some c4 ∧ w.cell? ⟨(ad.add (i * 11)).block, (ad.add (i * 11)).off + 10, none⟩ = some c5 := by
  obtain ⟨A', c', e, _, _, _, h⟩ := h
  injection e with e1 _ _
  subst e1
  obtain ⟨ad, ea, _, hc⟩ := h (by intro e; subst e; simp at hi)
  obtain ⟨cs, ho, hcs⟩ := hc i o hi
  have ho' := ho
  obtain ⟨⟨c0, c1, c2, c3, c4, c5, rfl, hn⟩, _⟩ := ho
  exact ⟨ad, c0, c1, c2, c3, c4, c5, ea, ho', hcs 0 _ rfl, by rw [← add_far _ _ _ (by decide)]; exact hcs 1 _ rfl, by rw [← add_far _ _ _ (by decide)]; exact hcs 2 _ rfl, by rw [← add_far _ _ _ (by decide)]; exact hcs 3 _ rfl, by rw [← add_far _ _ _ (by decide)]; exact hcs 4 _ rfl, by rw [← add_far _ _ _ (by decide)]; exact hcs 5 _ rfl, by rw [← add_far _ _ _ (by decide)]; exact hcs 6 _ rfl, by rw [← add_far _ _ _ (by decide)]; exact hcs 7 _ rfl, by rw [← add_far _ _ _ (by decide)]; exact hcs 8 _ rfl, by rw [← add_far _ _ _ (by decide)]; exact hcs 9 _ rfl, by rw [← add_far _ _ _ (by decide)]; exact hcs 10 _ rfl⟩
end

/-- The arena behind so many calls. -/
def steps (A : Ar) (os : List OpM) : Ar := os.foldl step A
theorem steps_snoc (A : Ar) (os : List OpM) (o : OpM) : steps A (os ++ [o]) = step (steps A os) o := by simp [steps]

section
variable {w : World} {os : List OpM} {v : Value}
set_option maxRecDepth 100000 in
set_option maxHeartbeats 1600000 in
theorem plays_ok {n : Int} (hn : I64 n) (h : OpsAt w w.heap.size v os) : Calls Try.prog 7 #[iV n, v] w fun e w' => e = .returned (.bool true) ∧ Keeps Nob w w' := by
  have HO := Lib.hid h
  obtain ⟨A, c, hv, hc1, hc2, hc3, _⟩ := h
  subst hv
  have HH := Lib.hid (headJ w)
  by_cases hb : n < 1 ∨ 65536 < n
  · have HB := fun wx => begunBad wx hb
    clear hn hb hc1 hc2 hc3
    unfold iV at *
    go_enter Try.func7, Try.ntmps7
    go_wp2_with (first
      | (go_at_call 36; refine HH.out.mono ?_; rintro e w1 ⟨rfl, hk⟩; have K := Lib.hid hk; clear hk)
      | (go_at_call 25; refine (HB _).mono ?_; rintro e w' ⟨rfl, rfl⟩))
    go_ret
    exact ⟨rfl, K.out⟩
  · obtain ⟨m, rfl⟩ : ∃ m : Nat, n = (m : Int) := ⟨n.toNat, by omega⟩
    have HB := fun wx => begunJ (n := m) wx (by omega) (by omega)
    clear hn hb hc1 hc2
    unfold iV pV at *
    go_enter Try.func7, Try.ntmps7
    go_wp2_with (first
      | (go_at_call 36; refine HH.out.mono ?_; rintro e w1 ⟨rfl, hk⟩; have K := Lib.hid hk; clear hk)
      | (go_at_call 25; refine (HB _).mono ?_; rintro e w2 ⟨b, p, q, rfl, hj, hk⟩; have HJ := Lib.hid (hj.weaken (G' := From w.heap.size) (fun x hx => Nat.le_trans K.out.size hx)); replace K := Lib.hid (K.out.trans hk (fun _ _ h => h)); clear hj hk))
    clear HB HH
    go_loopw [8] (fun i wr => ∃ k : Nat, k ≤ os.length ∧ i = .int .i64 k ∧ J wr (From w.heap.size) b p q (steps (ar0 m) (os.take k)) (steps (ar0 m) (os.take k)) ∧ Keeps Nob w wr) (fun i _ => os.length - (intOf i).toNat)
    case atStart => exact ⟨0, Nat.zero_le _, rfl, HJ.out, K.out⟩
    obtain ⟨k, hk, rfl, hj, hkr⟩ := hrel
    rcases Nat.lt_or_ge k os.length with hlt | hlt
    · obtain ⟨o, ho⟩ : ∃ o, os[k]? = some o := ⟨_, List.getElem?_eq_getElem hlt⟩
      have hst : steps (ar0 m) (os.take (k + 1)) = step (steps (ar0 m) (os.take k)) o := by rw [take_snoc' _ _ _ ho, steps_snoc]
      have HST := Lib.hid hst
      obtain ⟨ad, c0, c1, c2, c3, c4, c5, rfl, hop, q0, q1, q2, q3, q4, q5, q6, q7, q8, q9, q10⟩ := (HO.out.keeps hkr (fun _ _ => id)).at_ ho
      have HR := Lib.hid (rawJ hj hop (fun x hx hg => absurd hx (Nat.not_lt.2 hg)))
      have HK := Lib.hid hkr
      clear hop ho hkr hj hst
      unfold pV at HR
      have hk64 : k < 9223372036854775807 := by omega
      go_wp2_with fail
      refine HR.out.mono ?_
      rintro e wk ⟨rfl, hj, hk2⟩
      have HN := Lib.hid (sameJ hj)
      have HK2 := Lib.hid (HK.out.trans hk2 (fun x hx hg => absurd hx (Nat.not_lt.2 hg)))
      clear hj hk2
      unfold pV at HN
      go_wp2_with fail
      refine HN.out.mono ?_
      rintro e wl ⟨rfl, hj, hk2⟩
      have HJ2 := Lib.hid hj
      have HK3 := Lib.hid (HK2.out.trans hk2 (fun _ _ h => h))
      clear hj hk2
      go_wp2
      go_roundw
      case rel => exact ⟨k + 1, by omega, by go_num, by rw [HST.out]; exact HJ2.out, HK3.out⟩
      case measure => simp [intOf]; omega
    obtain rfl : k = os.length := by omega
    have HN := Lib.hid (sameJ hj)
    have HK := Lib.hid hkr
    clear hj hkr
    unfold pV at HN
    go_wp2_with fail
    refine HN.out.mono ?_
    rintro e wl ⟨rfl, hj, hk2⟩
    have HK3 := Lib.hid (HK.out.trans hk2 (fun _ _ h => h))
    clear hj hk2
    go_wp2
    go_ret
    exact ⟨rfl, HK3.out⟩
end
end Go.Proofs.Ytdmmhblmgbhgfaa
