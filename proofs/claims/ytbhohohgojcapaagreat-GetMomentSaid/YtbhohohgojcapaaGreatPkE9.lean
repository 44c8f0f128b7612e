import Derived.Test.YtbhohohgojcapaaGreatPkE7
import Derived.Test.YtbhohohgojcapaaGreatPkE8
namespace Go.Proofs.YtbhohohgojcapaaGreat
open Go.RowKit
section
variable {w : World} {G : Nat -> Prop} {b p q lo : Nat} {A : Ar} {o : O13} {cs : Array Value}
theorem turnJ (hJ : J w G b p q A A) (ho : IsO13 w lo cs o) (hlo : ∀ x, x < lo -> ¬ G x) (hr : RightA A) (hsm : SmA 64 A) (hp : 1 <= A.sl.length) (hroot : 1 <= A.root /\ A.root <= A.sl.length) : Calls Tryz.prog 10 #[pV b, .agg cs] w λ e w' => e = .returned (.bool true) /\ J w' G b p q (turnM A o) (turnM A o) /\ Keeps G w w' := by
 by_cases h0 : o.kd = 0
 ·exact turn_0 hJ ho hlo hr hsm hp h0
 by_cases h1 : o.kd = 1
 ·exact turn_1 hJ ho hlo hr hsm hp h1
 by_cases h2 : o.kd = 2
 ·exact turn_2 hJ ho hlo hr hsm hp h2
 by_cases h3 : o.kd = 3
 ·exact turn_3 hJ ho hlo hr hsm hp h3
 by_cases h4 : o.kd = 4
 ·exact turn_4 hJ ho hlo hr hsm hp h4
 by_cases h5 : o.kd = 5
 ·exact turn_5 hJ ho hlo hr hsm hp h5
 exact turn_6 hJ ho hlo hr hsm hp hroot ⟨h0, h1, h2, h3, h4, h5⟩
theorem root_step {P : OpM} (h : 1 <= A.root /\ A.root <= A.sl.length) : 1 <= (step A P).root /\ (step A P).root <= (step A P).sl.length := by
 have hl := len_step A P
 have hput : ∀ (B : Ar) (i : Int) (s : Sl), (B.put i s).root = B.root := λ _ _ _ => rfl
 have hlock : ∀ (B : Ar) (i : Int) (x : Nat), (opLock B i x).2.2.root = B.root := λ B i x => by unfold opLock; split; rfl; split <;> rfl
 have hunl : ∀ (B : Ar) (i : Int) (x : Bool), (opUnlock B i x).2.root = B.root := λ B i x => by unfold opUnlock; split; rfl; split <;> rfl
 have hsh : ∀ (B : Ar) (i : Int) (x : Nd), (opSetHead B i x).2.root = B.root := λ B i x => by unfold opSetHead; split; rfl; split <;> rfl
 have hsb : ∀ (B : Ar) (i : Int) (x : Nd), (opSetBody B i x).2.root = B.root := λ B i x => by unfold opSetBody; split; rfl; split <;> rfl
 have hal : (opAlloc A).2.2.root = A.root := by unfold opAlloc; split <;> rfl
 have h3 : ∀ (B : Ar) (i : Int) (x : Nd), (opLay3 B i x).root = B.root := λ B i x => by unfold opLay3; rw [hunl, hsb, hsh]
 have hk : (step A P).root = A.root \/ ∃ i s, (step A P).root = i /\ A.get i = some s := by
  unfold step
  split
  ·exact .inl hal
  split
  ·exact .inl rfl
  split
  ·exact .inl (hlock _ _ _)
  split
  ·exact .inl (hunl _ _ _)
  split
  ·exact .inl (hsh _ _ _)
  split
  ·exact .inl (hsb _ _ _)
  split
  ·unfold opGrow
   split
   ·exact .inl rfl
   ·rename_i s hs
    split
    ·exact .inr ⟨_, s, rfl, hs⟩
    ·exact .inl rfl
  split
  ·unfold opLay
   split
   ·split
    ·rw [h3]; exact .inl hal
    ·exact .inl hal
   ·rw [h3]; exact .inl (hlock _ _ _)
  ·exact .inl (hlock _ _ _)
 rcases hk with e | ⟨i, s, e, hs⟩
 ·rw [e]; omega
 ·rw [e]; have := get_le hs; omega
theorem turn_keeps {P : Ar -> Prop} (hP : ∀ B x, P B -> P (step B x)) (h : P A) : P (turnM A o) := by
 unfold turnM
 repeat' split
 all_goals first | exact h | exact hP _ _ h | exact hP _ _ (hP _ _ h)
theorem root_turn (h : 1 <= A.root /\ A.root <= A.sl.length) : 1 <= (turnM A o).root /\ (turnM A o).root <= (turnM A o).sl.length :=
 turn_keeps (P := λ B => 1 <= B.root /\ B.root <= B.sl.length) (λ _ _ h => root_step h) h
end
end Go.Proofs.YtbhohohgojcapaaGreat
