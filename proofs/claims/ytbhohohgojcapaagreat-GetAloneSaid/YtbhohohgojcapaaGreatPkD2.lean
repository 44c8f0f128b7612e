import Derived.Test.YtbhohohgojcapaaGreatPkD0
import Derived.Test.YtbhohohgojcapaaGreatPkD1
import Derived.Test.YtbhohohgojcapaaGreatPkC7
import Derived.Test.YtbhohohgojcapaaGreatPkB5
namespace Go.Proofs.YtbhohohgojcapaaGreat
open Go.RowKit
section
variable {w : World} {G : Nat -> Prop} {b p q lo : Nat} {A : Ar} {o : O13} {cs : Array Value}
theorem turnJ (hJ : J w G b p q A A) (ho : IsO13 w lo cs o) (hlo : ∀ x, x < lo -> ¬ G x) (hr : RightA A) (hsm : SmA 64 A) (hp : 1 <= A.sl.length) (hroot : 1 <= A.root /\ A.root <= A.sl.length) : Calls Tryz.prog 10 #[pV b, .agg cs] w λ e w' => e = .returned (.bool true) /\ J w' G b p q (turnM A o) (turnM A o) /\ Keeps G w w' := by
 by_cases h0 : o.kd = 0
 ·exact turn_0 hJ ho hlo hr hsm hp h0
 by_cases h1 : o.kd = 1
 ·exact turn_1 hJ ho hlo hr hsm hp h1
 by_cases h2 : o.kd = 2
 ·exact turn_2 hJ ho hlo hr hsm hp h2
 by_cases h3 : o.kd = 3
 ·exact turn_3 hJ ho hlo hr hsm hp h3
 by_cases h4 : o.kd = 4
 ·exact turn_4 hJ ho hlo hr hsm hp h4
 by_cases h5 : o.kd = 5
 ·exact turn_5 hJ ho hlo hr hsm hp h5
 exact turn_6 hJ ho hlo hr hsm hp hroot ⟨h0, h1, h2, h3, h4, h5⟩
theorem root_step {P : OpM} (h : 1 <= A.root /\ A.root <= A.sl.length) : 1 <= (step A P).root /\ (step A P).root <= (step A P).sl.length := by
 have hl := len_step A P
 have hput : ∀ (B : Ar) (i : Int) (s : Sl), (B.put i s).root = B.root := λ _ _ _ => rfl
 have hlock : ∀ (B : Ar) (i : Int) (x : Nat), (opLock B i x).2.2.root = B.root := λ B i x => by unfold opLock; split; rfl; split <;> rfl
 have hunl : ∀ (B : Ar) (i : Int) (x : Bool), (opUnlock B i x).2.root = B.root := λ B i x => by unfold opUnlock; split; rfl; split <;> rfl
 have hsh : ∀ (B : Ar) (i : Int) (x : Nd), (opSetHead B i x).2.root = B.root := λ B i x => by unfold opSetHead; split; rfl; split <;> rfl
 have hsb : ∀ (B : Ar) (i : Int) (x : Nd), (opSetBody B i x).2.root = B.root := λ B i x => by unfold opSetBody; split; rfl; split <;> rfl
 have hal : (opAlloc A).2.2.root = A.root := by unfold opAlloc; split <;> rfl
 have h3 : ∀ (B : Ar) (i : Int) (x : Nd), (opLay3 B i x).root = B.root := λ B i x => by unfold opLay3; rw [hunl, hsb, hsh]
 have hk : (step A P).root = A.root \/ ∃ i s, (step A P).root = i /\ A.get i = some s := by
  unfold step
  split
  ·exact .inl hal
  split
  ·exact .inl rfl
  split
  ·exact .inl (hlock _ _ _)
  split
  ·exact .inl (hunl _ _ _)
  split
  ·exact .inl (hsh _ _ _)
  split
  ·exact .inl (hsb _ _ _)
  split
  ·unfold opGrow
   split
   ·exact .inl rfl
   ·rename_i s hs
    split
    ·exact .inr ⟨_, s, rfl, hs⟩
    ·exact .inl rfl
  split
  ·unfold opLay
   split
   ·split
    ·rw [h3]; exact .inl hal
    ·exact .inl hal
   ·rw [h3]; exact .inl (hlock _ _ _)
  ·exact .inl (hlock _ _ _)
 rcases hk with e | ⟨i, s, e, hs⟩
 ·rw [e]; omega
 ·rw [e]; have := get_le hs; omega
theorem turn_keeps {P : Ar -> Prop} (hP : ∀ B x, P B -> P (step B x)) (h : P A) : P (turnM A o) := by
 unfold turnM
 repeat' split
 all_goals first | exact h | exact hP _ _ h | exact hP _ _ (hP _ _ h)
theorem root_turn (h : 1 <= A.root /\ A.root <= A.sl.length) : 1 <= (turnM A o).root /\ (turnM A o).root <= (turnM A o).sl.length :=
 turn_keeps (P := λ B => 1 <= B.root /\ B.root <= B.sl.length) (λ _ _ h => root_step h) h
end
end Go.Proofs.YtbhohohgojcapaaGreat

namespace Go.Proofs.YtbhohohgojcapaaGreat
open Go.RowKit
section
variable {w0 w w' : World} {b p q : Nat} {A B A' B' : Ar} {l ls : List Ob} {o o' u u' : Ob} {i n : Nat} {N G G' : Nat -> Prop}
end
end Go.Proofs.YtbhohohgojcapaaGreat

namespace Go.Proofs.YtbhohohgojcapaaGreat
open Go.RowKit
structure Gr where
 value : List UInt8
 there : Bool
 err : Int
structure Gc where
 D : Mc
 res : Option Gr
def Gc.new (key : List UInt8) : Gc := ⟨Mc.new key 0, none⟩
def keyFit (k : List UInt8) : Bool := decide (1 <= k.length) && decide (k.length <= 64)
def valOf (n : Nd) (key : List UInt8) : List UInt8 := if has n.keys key = true /\ below n.keys key < n.vals.length then n.vals.getD (below n.keys key) [] else []
def endG (D : Mc) : Gr := if D.outId = 0 then ⟨[], false, 101⟩ else ⟨valOf D.outNd D.key, has D.outNd.keys D.key, 0⟩
def Gc.out (g : Gc) : Gr := g.res.getD ⟨[], false, 0⟩
def stepG (A : Ar) (g : Gc) : (Bool × Bool) × Gc :=
 match g.res with
 | some _ => ((true, false), g)
 | none =>
  if keyFit g.D.key = false then ((true, true), { g with res := some ⟨[], false, 3⟩ })
  else if (stepM A g.D).nx = .done then ((true, !decide ((stepM A g.D).outId = 0)), ⟨stepM A g.D, some (endG (stepM A g.D))⟩)
  else ((false, false), { g with D := stepM A g.D })
theorem decideM_key (n : Nat) (M : Mc) : (decideM n M).key = M.key := by
 unfold decideM
 repeat' split
 all_goals rfl
theorem stepM_key (A : Ar) (M : Mc) : (stepM A M).key = M.key := by
 unfold stepM
 split
 ·rfl
 ·rfl
 ·split <;> rfl
 ·split <;> rfl
 ·split <;> rfl
 ·split
  ·exact decideM_key _ _
  ·rfl
structure GW (w : World) (t : TypeId) (m d : Nat) (S : Nat -> Prop) (g : Gc) : Prop where
 cells : ∃ kv vv, Blk w m t #[pV d, kv, .bool g.res.isSome, vv, .bool g.out.there, iV g.out.err] /\ Byts w S kv g.D.key /\ Byts w S vv g.out.value
 sm : Sm 0 1 g.out.value.length
 ks : Sm 0 1 g.D.key.length
section
variable {w w' : World} {t t' : TypeId} {m d a : Nat} {nv : Nx -> Value} {S T N : Nat -> Prop} {g : Gc} {M : Mc}
theorem GW.keeps (h : GW w t m d S g) (k : Keeps N w w') (hm : ¬ N m) (hd : ∀ x, x < w.heap.size -> S x -> ¬ N x) : GW w' t m d S g := by
 obtain ⟨⟨kv, vv, hb, h1, h2⟩, h3, h4⟩ := h
 exact ⟨⟨kv, vv, hb.keeps k hm, h1.keeps k hd, h2.keeps k hd⟩, h3, h4⟩
theorem GW.mono (h : GW w t m d S g) (hd : ∀ x, x < w.heap.size -> S x -> T x) : GW w t m d T g := by
 obtain ⟨⟨kv, vv, hb, h1, h2⟩, h3, h4⟩ := h
 exact ⟨⟨kv, vv, hb, h1.mono hd, h2.mono hd⟩, h3, h4⟩
theorem GW.lt (h : GW w t m d S g) : m < w.heap.size := by obtain ⟨⟨_, _, hb, _⟩, _⟩ := h; exact hb.lt
structure GM (w : World) (t t' : TypeId) (m d a : Nat) (nv : Nx -> Value) (S : Nat -> Prop) (g : Gc) : Prop where
 gw : GW w t m d S g
 mw : MW w t' d a nv S g.D
 nm : ¬ S m
 nd : ¬ S d
 ne : m ≠ d
theorem GM.keeps (h : GM w t t' m d a nv S g) (k : Keeps N w w') (hm : ¬ N m) (hn : ¬ N d) (hd : ∀ x, x < w.heap.size -> S x -> ¬ N x) : GM w' t t' m d a nv S g :=
 ⟨h.1.keeps k hm hd, h.2.keeps k hn hd, h.3, h.4, h.5⟩
theorem MW.lt (h : MW w t d a nv S M) : d < w.heap.size := by obtain ⟨⟨_, _, _, _, _, _, _, hb, _⟩, _⟩ := h; exact hb.lt
end
abbrev GX (w : World) (m d p : Nat) (S : Nat -> Prop) (g : Gc) : Prop := GM w 112 178 m d p (nvX d) S g
end Go.Proofs.YtbhohohgojcapaaGreat
namespace Go.Proofs.YtbhohohgojcapaaGreat
open Go.RowKit
section
variable {S : Nat -> Prop} {w : World} {a : Value} {x : List UInt8}
theorem keyFitR (h : Byts w S a x) : Calls Tryz.prog 11 #[a] w λ e w' => e = .returned (.bool (keyFit x)) /\ w = w' := by
 obtain ⟨A, c, rfl, hn, hm⟩ := h.form
 have hz : x.length <= 9223372036854775807 := Nat.le_trans hn hm
 clear h hn hm
 unfold keyFit
 by_cases h1 : (1 : Int) <= x.length
 ·by_cases h2 : (x.length : Int) <= 64
  ·go_enter Tryz.func11, Tryz.ntmps11
   go_wp2
   go_ret
   have h3 : 1 <= x.length := by omega
   have h4 : x.length <= 64 := by omega
   exact ⟨by simp [h3, h4], rfl⟩
  ·go_enter Tryz.func11, Tryz.ntmps11
   go_wp2
   go_ret
   have h4 : ¬ x.length <= 64 := by omega
   exact ⟨by simp [h4], rfl⟩
 ·go_enter Tryz.func11, Tryz.ntmps11
  go_wp2
  go_ret
  have h3 : ¬ 1 <= x.length := by omega
  exact ⟨by simp [h3], rfl⟩
end
end Go.Proofs.YtbhohohgojcapaaGreat
