/- A look-up's machine: what a step does to it, as such; and how it lies in memory (the program's and the document's alike: six cells, a descent beside). No condition. The document's Key: may it be one? -/
import Derived.Test.YtbhohohgojcapaaGreatGrp
import Derived.Test.YtbhohohgojcapaaGreatFind
namespace Go.Proofs.YtbhohohgojcapaaGreat
open Go.RowKit

/-- What a look-up that is through answers. -/
structure Gr where
  value : List UInt8
  there : Bool
  err : Int
structure Gc where
  D : Mc
  res : Option Gr
def Gc.new (key : List UInt8) : Gc := ⟨Mc.new key 0, none⟩
def keyFit (k : List UInt8) : Bool := decide (1 ≤ k.length) && decide (k.length ≤ 64)
def valOf (n : Nd) (key : List UInt8) : List UInt8 := if has n.keys key = true ∧ below n.keys key < n.vals.length then n.vals.getD (below n.keys key) [] else []
/-- What it answers when the descent is through. -/
def endG (D : Mc) : Gr := if D.outId = 0 then ⟨[], false, 101⟩ else ⟨valOf D.outNd D.key, has D.outNd.keys D.key, 0⟩
def Gc.out (g : Gc) : Gr := g.res.getD ⟨[], false, 0⟩
def stepG (A : Ar) (g : Gc) : (Bool × Bool) × Gc :=
  match g.res with
  | some _ => ((true, false), g)
  | none =>
    if keyFit g.D.key = false then ((true, true), { g with res := some ⟨[], false, 3⟩ })
    else if (stepM A g.D).nx = .done then ((true, !decide ((stepM A g.D).outId = 0)), ⟨stepM A g.D, some (endG (stepM A g.D))⟩)
    else ((false, false), { g with D := stepM A g.D })

theorem decideM_key (n : Nat) (M : Mc) : (decideM n M).key = M.key := by
  unfold decideM
  repeat' split
  all_goals rfl
theorem stepM_key (A : Ar) (M : Mc) : (stepM A M).key = M.key := by
  unfold stepM
  split
  · rfl
  · rfl
  · split <;> rfl
  · split <;> rfl
  · split <;> rfl
  · split
    · exact decideM_key _ _
    · rfl
theorem stepG_le {A : Ar} {g : Gc} {c : Nat} (h : g.D.le c) : (stepG A g).2.D.le (c + 1) := by
  unfold stepG
  repeat' split
  · exact h.mono (by omega)
  · exact h.mono (by omega)
  · exact h.step A
  · exact h.step A

/-- A look-up at block m, its descent at block d; its texts in S. -/
structure GW (w : World) (t : TypeId) (m d : Nat) (S : Nat → Prop) (g : Gc) : Prop where
  cells : ∃ kv vv, Blk w m t #[pV d, kv, .bool g.res.isSome, vv, .bool g.out.there, iV g.out.err] ∧ Byts w S kv g.D.key ∧ Byts w S vv g.out.value
  sm : Sm 0 1 g.out.value.length
  ks : Sm 0 1 g.D.key.length
section
variable {w w' : World} {t t' : TypeId} {m d a : Nat} {nv : Nx → Value} {S T N : Nat → Prop} {g : Gc} {M : Mc}
theorem GW.keeps (h : GW w t m d S g) (k : Keeps N w w') (hm : ¬ N m) (hd : ∀ x, x < w.heap.size → S x → ¬ N x) : GW w' t m d S g := by
  obtain ⟨⟨kv, vv, hb, h1, h2⟩, h3, h4⟩ := h
  exact ⟨⟨kv, vv, hb.keeps k hm, h1.keeps k hd, h2.keeps k hd⟩, h3, h4⟩
theorem GW.mono (h : GW w t m d S g) (hd : ∀ x, x < w.heap.size → S x → T x) : GW w t m d T g := by
  obtain ⟨⟨kv, vv, hb, h1, h2⟩, h3, h4⟩ := h
  exact ⟨⟨kv, vv, hb, h1.mono hd, h2.mono hd⟩, h3, h4⟩
theorem GW.lt (h : GW w t m d S g) : m < w.heap.size := by obtain ⟨⟨_, _, hb, _⟩, _⟩ := h; exact hb.lt
/-- A look-up and its descent. -/
structure GM (w : World) (t t' : TypeId) (m d a : Nat) (nv : Nx → Value) (S : Nat → Prop) (g : Gc) : Prop where
  gw : GW w t m d S g
  mw : MW w t' d a nv S g.D
  nm : ¬ S m
  nd : ¬ S d
  ne : m ≠ d
theorem GM.keeps (h : GM w t t' m d a nv S g) (k : Keeps N w w') (hm : ¬ N m) (hn : ¬ N d) (hd : ∀ x, x < w.heap.size → S x → ¬ N x) : GM w' t t' m d a nv S g :=
  ⟨h.1.keeps k hm hd, h.2.keeps k hn hd, h.3, h.4, h.5⟩
theorem MW.lt (h : MW w t d a nv S M) : d < w.heap.size := by obtain ⟨⟨_, _, _, _, _, _, _, hb, _⟩, _⟩ := h; exact hb.lt
def gmOb (t t' : TypeId) (m d a : Nat) (nv : Nx → Value) (S : Nat → Prop) (g : Gc) : Ob where
  P := fun w => GM w t t' m d a nv S g
  F := fun x => x = m ∨ x = d ∨ S x
  W := fun x => x = m ∨ x = d
  fr := fun _ _ _ h k hd => h.keeps k (hd _ h.gw.lt (.inl rfl)) (hd _ h.mw.lt (.inr (.inl rfl))) (fun x hx hs => hd x hx (.inr (.inr hs)))
end
abbrev GX (w : World) (m d p : Nat) (S : Nat → Prop) (g : Gc) : Prop := GM w 112 178 m d p (nvX d) S g
abbrev GR (w : World) (m d q : Nat) (S : Nat → Prop) (g : Gc) : Prop := GM w 125 181 m d q nvR S g
abbrev gxOb (p m d : Nat) (S : Nat → Prop) (g : Gc) : Ob := gmOb 112 178 m d p (nvX d) S g
abbrev grOb (q m d : Nat) (S : Nat → Prop) (g : Gc) : Ob := gmOb 125 181 m d q nvR S g
end Go.Proofs.YtbhohohgojcapaaGreat

namespace Go.Proofs.YtbhohohgojcapaaGreat
open Go.RowKit
section
variable {S : Nat → Prop} {w : World} {a : Value} {x : List UInt8}
theorem keyFitR (h : Byts w S a x) : Calls Tryz.prog 11 #[a] w fun e w' => e = .returned (.bool (keyFit x)) ∧ w = w' := by
  obtain ⟨A, c, rfl, hn, hm⟩ := h.form
  have hz : x.length ≤ 9223372036854775807 := Nat.le_trans hn hm
  clear h hn hm
  unfold keyFit
  by_cases h1 : (1 : Int) ≤ x.length
  · by_cases h2 : (x.length : Int) ≤ 64
    · go_enter Tryz.func11, Tryz.ntmps11
      go_wp2
      go_ret
      have h3 : 1 ≤ x.length := by omega
      have h4 : x.length ≤ 64 := by omega
      exact ⟨by simp [h3, h4], rfl⟩
    · go_enter Tryz.func11, Tryz.ntmps11
      go_wp2
      go_ret
      have h4 : ¬ x.length ≤ 64 := by omega
      exact ⟨by simp [h4], rfl⟩
  · go_enter Tryz.func11, Tryz.ntmps11
    go_wp2
    go_ret
    have h3 : ¬ 1 ≤ x.length := by omega
    exact ⟨by simp [h3], rfl⟩
end
end Go.Proofs.YtbhohohgojcapaaGreat
