/- Law 10's Id, lock and lay on both arenas. -/
import Derived.Test.YtbhohohgojcapaaJo
namespace Go.Proofs.Ytbhohohgojcapaa
open Go.RowKit

/-- A node laid into a slot whose latch is held, and the latch given back. -/
def opLay3 (A : Ar) (ix : Int) (n : Nd) : Ar := (opUnlock (opSetBody (opSetHead A ix n).2 ix n).2 ix true).2
/-- A node laid into a slot, which may be the next one. -/
def opLay (A : Ar) (ix : Int) (n : Nd) : Ar :=
  if (A.sl.length : Int) < ix then (if (opAlloc A).2.1 = 0 then opLay3 (opAlloc A).2.2 ix n else (opAlloc A).2.2)
  else opLay3 (opLock A ix (opWord A ix)).2.2 ix n

section
variable {w : World} {G : Nat → Prop} {b p q : Nat} {A B : Ar} {ix : Int}

set_option maxHeartbeats 400000 in
theorem idJ {c : Int} (h : J w G b p q A B) (hc : I64 c) (hl : B.sl.length ≤ 65536) : Calls Try.prog 42 #[pV b, iV c] w fun e w' => e = .returned (iV (pk c (B.sl.length + 2))) ∧ w = w' := by
  have r1 : w.cell? ⟨b, 1, none⟩ = some (.pointer (some ⟨q, 0, none⟩)) := h.blk.cell 1
  have HU := Lib.hid h.usedR
  have HP := Lib.hid (pick_ (c := c) (n := (B.sl.length : Int) + 2) w hc (by omega))
  clear h hc
  unfold pV iV at *
  go_enter Try.func42, Try.ntmps42
  go_wp2_with (first
    | (go_at_call 26; refine HU.out.mono ?_; rintro e w' ⟨rfl, rfl⟩)
    | (go_at_call 43; refine HP.out.mono ?_; rintro e w' ⟨rfl, rfl⟩))
  go_ret
  exact ⟨rfl, rfl⟩

set_option maxHeartbeats 400000 in
theorem lockJ {wd : Nat} (h : J w G b p q A A) (hu : U64 wd) : Calls Try.prog 47 #[pV b, iV ix, .int .u64 wd] w fun e w' => e = .returned (.bool true) ∧ J w' G b p q (opLock A ix wd).2.2 (opLock A ix wd).2.2 ∧ Keeps G w w' := by
  have r0 : w.cell? ⟨b, 0, none⟩ = some (.pointer (some ⟨p, 0, none⟩)) := h.blk.cell 0
  have H1 := Lib.hid (h.lockX (ix := ix) hu)
  have H2 := fun w' (hj : J w' G b p q (opLock A ix wd).2.2 A) => Lib.hid (hj.lockR (ix := ix) hu)
  clear h hu
  generalize opLock A ix wd = r at *
  obtain ⟨ok, er, A'⟩ := r
  unfold pV iV at *
  go_enter Try.func47, Try.ntmps47
  go_wp2_with (first
    | (go_at_call 89; refine H1.out.mono ?_; rintro e w1 ⟨rfl, hj, hk⟩; have r1 : w1.cell? ⟨b, 1, none⟩ = some (.pointer (some ⟨q, 0, none⟩)) := hj.blk.cell 1; have H3 := H2 w1 hj; have K1 := Lib.hid hk; clear hj hk H1 H2)
    | (go_at_call 90; refine H3.out.mono ?_; rintro e w2 ⟨rfl, hj, hk⟩; have HJ := Lib.hid hj; have K2 := Lib.hid (K1.out.trans hk (fun _ _ h => h)); clear hj hk))
  go_ret
  exact ⟨by simp, HJ.out, K2.out⟩
end
end Go.Proofs.Ytbhohohgojcapaa
