import Derived.Test.YtbhohohgojcapaaPkB1
import Derived.Test.YtbhohohgojcapaaPkB2
import Derived.Test.YtbhohohgojcapaaPkB3
import Derived.Test.YtbhohohgojcapaaPkA6
import Derived.Test.YtbhohohgojcapaaPkA1
namespace Go.Proofs.Ytbhohohgojcapaa
open Go.RowKit

section
variable {w : World} {G : Nat → Prop} {b p q : Nat} {A B : Ar} {ix : Int}

theorem rawJ {S : Nat → Prop} {cs : Array Value} {o : OpM} (h : J w G b p q A A) (ho : IsOp w S cs o) (hS : ∀ x, S x → ¬ G x) :
    Calls Try.prog 13 #[pV b, .agg cs] w fun e w' => e = .returned (.bool true) ∧ J w' G b p q (step A o) (step A o) ∧ Keeps G w w' := by
  obtain ⟨⟨c0, c1, c2, c3, c4, c5, rfl, hn⟩, h1, h2, h3, h4, h5⟩ := ho
  obtain ⟨r1, r2⟩ := pk_range o.kd 9 (by decide)
  unfold step
  by_cases k0 : pk o.kd 9 = 0
  · rw [if_pos k0]; exact raw0J h k0 h1 h2 h3 h4 hn h5 hS
  rw [if_neg k0]
  by_cases k1 : pk o.kd 9 = 1
  · rw [if_pos k1]; exact raw1J h k1 h1 h2 h3 h4 hn h5 hS
  rw [if_neg k1]
  by_cases k2 : pk o.kd 9 = 2
  · rw [if_pos k2]; exact raw2J h k2 h1 h2 h3 h4 hn h5 hS
  rw [if_neg k2]
  by_cases k3 : pk o.kd 9 = 3
  · rw [if_pos k3]; exact raw3J h k3 h1 h2 h3 h4 hn h5 hS
  rw [if_neg k3]
  by_cases k4 : pk o.kd 9 = 4
  · rw [if_pos k4]; exact raw4J h k4 h1 h2 h3 h4 hn h5 hS
  rw [if_neg k4]
  by_cases k5 : pk o.kd 9 = 5
  · rw [if_pos k5]; exact raw5J h k5 h1 h2 h3 h4 hn h5 hS
  rw [if_neg k5]
  by_cases k6 : pk o.kd 9 = 6
  · rw [if_pos k6]; exact raw6J h k6 h1 h2 h3 h4 hn h5 hS
  rw [if_neg k6]
  by_cases k7 : pk o.kd 9 = 7
  · rw [if_pos k7]; exact raw7J h k7 h1 h2 h3 h4 hn h5 hS
  rw [if_neg k7]
  exact raw8J h (by omega) h1 h2 h3 h4 hn h5 hS
end
end Go.Proofs.Ytbhohohgojcapaa

namespace Go.Proofs.Ytbhohohgojcapaa
open Go.RowKit

/-- The slice v holds these calls; its block lies below lo. -/
def OpsAt (w : World) (lo : Nat) (v : Value) (os : List OpM) : Prop :=
  ∃ A c, v = .slice A os.length c ∧ os.length ≤ c ∧ c ≤ maxLen ∧ os.length * 136 ≤ 140737488355328 ∧ (os ≠ [] → ∃ ad, A = some ad ∧ ad.block < lo ∧ ∀ (i : Nat) o, os[i]? = some o → ∃ cs : Array Value, IsOp w (fun b => b < lo) cs o ∧ ∀ (j : Nat) x, cs[j]? = some x → w.cell? (ad.add (i * 11 + j)) = some x)

theorem add_far (a : Addr) (i j : Nat) (hj : j ≠ 0) : a.add (i + j) = ⟨(a.add i).block, (a.add i).off + j, none⟩ := by
  rw [← add_add_]
  generalize a.add i = b
  unfold Addr.add
  rw [if_neg hj]

section
variable {w w' : World} {lo : Nat} {v : Value} {os : List OpM} {G : Nat → Prop}
theorem IsOp.keeps {cs : Array Value} {o : OpM} (h : IsOp w (fun b => b < lo) cs o) (k : Keeps G w w') (hg : ∀ x, x < lo → ¬ G x) : IsOp w' (fun b => b < lo) cs o := by
  obtain ⟨⟨c0, c1, c2, c3, c4, c5, e, hn⟩, h1, h2, h3, h4, h5⟩ := h
  exact ⟨⟨c0, c1, c2, c3, c4, c5, e, hn.keeps k (fun x _ hx => hg x hx)⟩, h1, h2, h3, h4, h5⟩
theorem OpsAt.keeps (h : OpsAt w lo v os) (k : Keeps G w w') (hg : ∀ x, x < lo → ¬ G x) : OpsAt w' lo v os := by
  obtain ⟨A, c, e, h1, h2, h3, h⟩ := h
  refine ⟨A, c, e, h1, h2, h3, fun hne => ?_⟩
  obtain ⟨ad, ea, hb, hc⟩ := h hne
  refine ⟨ad, ea, hb, fun i o ho => ?_⟩
  obtain ⟨cs, ho, hcs⟩ := hc i o ho
  exact ⟨cs, ho.keeps k hg, fun j x hx => k.cell (hcs j x hx) (by rw [blk_add]; exact hg _ hb)⟩
/-- The cells of the i-th call. -/
theorem OpsAt.at_ {A : Option Addr} {n c i : Nat} {o : OpM} (h : OpsAt w lo (.slice A n c) os) (hi : os[i]? = some o) : ∃ ad c0 c1 c2 c3 c4 c5, A = some ad ∧
    IsOp w (fun b => b < lo) #[.int .i64 o.kd, .int .i64 o.a, .int .i64 o.b, .int .u64 o.w, .bool o.ch, c0, c1, c2, c3, c4, c5] o ∧
    w.cell? (ad.add (i * 11)) = some (.int .i64 o.kd) ∧ w.cell? ⟨(ad.add (i * 11)).block, (ad.add (i * 11)).off + 1, none⟩ = some (.int .i64 o.a) ∧ w.cell? ⟨(ad.add (i * 11)).block, (ad.add (i * 11)).off + 2, none⟩ = some (.int .i64 o.b) ∧ w.cell? ⟨(ad.add (i * 11)).block, (ad.add (i * 11)).off + 3, none⟩ = some (.int .u64 o.w) ∧ w.cell? ⟨(ad.add (i * 11)).block, (ad.add (i * 11)).off + 4, none⟩ = some (.bool o.ch) ∧
    w.cell? ⟨(ad.add (i * 11)).block, (ad.add (i * 11)).off + 5, none⟩ = some c0 ∧ w.cell? ⟨(ad.add (i * 11)).block, (ad.add (i * 11)).off + 6, none⟩ = some c1 ∧ w.cell? ⟨(ad.add (i * 11)).block, (ad.add (i * 11)).off + 7, none⟩ = some c2 ∧ w.cell? ⟨(ad.add (i * 11)).block, (ad.add (i * 11)).off + 8, none⟩ = some c3 ∧ w.cell? ⟨(ad.add (i * 11)).block, (ad.add (i * 11)).off + 9, none⟩ = some c4 ∧ w.cell? ⟨(ad.add (i * 11)).block, (ad.add (i * 11)).off + 10, none⟩ = some c5 := by
  obtain ⟨A', c', e, _, _, _, h⟩ := h
  injection e with e1 _ _
  subst e1
  obtain ⟨ad, ea, _, hc⟩ := h (by intro e; subst e; simp at hi)
  obtain ⟨cs, ho, hcs⟩ := hc i o hi
  have ho' := ho
  obtain ⟨⟨c0, c1, c2, c3, c4, c5, rfl, hn⟩, _⟩ := ho
  exact ⟨ad, c0, c1, c2, c3, c4, c5, ea, ho', hcs 0 _ rfl, by rw [← add_far _ _ _ (by decide)]; exact hcs 1 _ rfl, by rw [← add_far _ _ _ (by decide)]; exact hcs 2 _ rfl, by rw [← add_far _ _ _ (by decide)]; exact hcs 3 _ rfl, by rw [← add_far _ _ _ (by decide)]; exact hcs 4 _ rfl, by rw [← add_far _ _ _ (by decide)]; exact hcs 5 _ rfl, by rw [← add_far _ _ _ (by decide)]; exact hcs 6 _ rfl, by rw [← add_far _ _ _ (by decide)]; exact hcs 7 _ rfl, by rw [← add_far _ _ _ (by decide)]; exact hcs 8 _ rfl, by rw [← add_far _ _ _ (by decide)]; exact hcs 9 _ rfl, by rw [← add_far _ _ _ (by decide)]; exact hcs 10 _ rfl⟩
end

/-- The arena behind so many calls. -/
def steps (A : Ar) (os : List OpM) : Ar := os.foldl step A
theorem steps_snoc (A : Ar) (os : List OpM) (o : OpM) : steps A (os ++ [o]) = step (steps A os) o := by simp [steps]

theorem take_snocO {α : Type} (l : List α) (k : Nat) (x : α) (h : l[k]? = some x) : l.take (k + 1) = l.take k ++ [x] := by
  rw [List.take_add_one, h]; rfl
end Go.Proofs.Ytbhohohgojcapaa

namespace Go.Proofs.Ytbhohohgojcapaa
open Go.RowKit

/-- The slice v holds these structures of k cells and m bytes each, of which R tells; its block lies below lo. -/
def RowAt {α : Type} (k m : Nat) (R : World → Nat → Array Value → α → Prop) (w : World) (lo : Nat) (v : Value) (os : List α) : Prop :=
  ∃ A c, v = .slice A os.length c ∧ os.length ≤ c ∧ c ≤ maxLen ∧ os.length * m ≤ 140737488355328 ∧ (os ≠ [] → ∃ ad, A = some ad ∧ ad.block < lo ∧ ∀ (i : Nat) o, os[i]? = some o → ∃ cs : Array Value, R w lo cs o ∧ ∀ (j : Nat) x, cs[j]? = some x → w.cell? (ad.add (i * k + j)) = some x)
/-- The place of a cell of a structure at a. -/
def sub_ (a : Addr) : Nat → Addr
  | 0 => a
  | j + 1 => ⟨a.block, a.off + (j + 1), none⟩

section
variable {α : Type} {k m : Nat} {R : World → Nat → Array Value → α → Prop} {w w' : World} {lo : Nat} {v : Value} {os : List α} {G : Nat → Prop}
theorem RowAt.keeps (h : RowAt k m R w lo v os) (hk : Keeps G w w') (hg : ∀ x, x < lo → ¬ G x) (hR : ∀ cs o, R w lo cs o → R w' lo cs o) : RowAt k m R w' lo v os := by
  obtain ⟨A, c, e, h1, h2, h3, h⟩ := h
  refine ⟨A, c, e, h1, h2, h3, fun hne => ?_⟩
  obtain ⟨ad, ea, hb, hc⟩ := h hne
  refine ⟨ad, ea, hb, fun i o ho => ?_⟩
  obtain ⟨cs, ho, hcs⟩ := hc i o ho
  exact ⟨cs, hR _ _ ho, fun j x hx => hk.cell (hcs j x hx) (by rw [blk_add]; exact hg _ hb)⟩
/-- The cells of the i-th. -/
theorem RowAt.at_ {A : Option Addr} {n c i : Nat} {o : α} (h : RowAt k m R w lo (.slice A n c) os) (hi : os[i]? = some o) : ∃ ad cs, A = some ad ∧ ad.block < lo ∧ R w lo cs o ∧ ∀ (j : Nat) x, cs[j]? = some x → w.cell? (sub_ (ad.add (i * k)) j) = some x := by
  obtain ⟨A', c', e, _, _, _, h⟩ := h
  injection e with e1 _ _
  subst e1
  obtain ⟨ad, ea, hlo, hc⟩ := h (by intro e; subst e; simp at hi)
  obtain ⟨cs, ho, hcs⟩ := hc i o hi
  refine ⟨ad, cs, ea, hlo, ho, fun j x hx => ?_⟩
  have := hcs j x hx
  cases j with
  | zero => exact this
  | succ j => rw [add_far _ _ _ (by omega)] at this; exact this
end

/-- A call of law 12. -/
structure O12 where
  kd : Int
  a : Int
  b : Int
  key : List UInt8
  raw : OpM
def IsO12 (w : World) (lo : Nat) (cs : Array Value) (o : O12) : Prop :=
  ∃ kv c0 c1 c2 c3 c4 c5, cs = #[.int .i64 o.kd, .int .i64 o.a, .int .i64 o.b, kv, .int .i64 o.raw.kd, .int .i64 o.raw.a, .int .i64 o.raw.b, .int .u64 o.raw.w, .bool o.raw.ch, c0, c1, c2, c3, c4, c5] ∧ Byts w (fun b => b < lo) kv o.key ∧ IsOp w (fun b => b < lo) #[.int .i64 o.raw.kd, .int .i64 o.raw.a, .int .i64 o.raw.b, .int .u64 o.raw.w, .bool o.raw.ch, c0, c1, c2, c3, c4, c5] o.raw ∧ I64 o.kd ∧ I64 o.a ∧ I64 o.b ∧ Sm 0 1 o.key.length
theorem IsO12.keeps {w w' : World} {lo : Nat} {cs : Array Value} {o : O12} {G : Nat → Prop} (h : IsO12 w lo cs o) (k : Keeps G w w') (hg : ∀ x, x < lo → ¬ G x) : IsO12 w' lo cs o := by
  obtain ⟨kv, c0, c1, c2, c3, c4, c5, e, h1, h2, h3⟩ := h
  exact ⟨kv, c0, c1, c2, c3, c4, c5, e, h1.keeps k (fun x _ hx => hg x hx), h2.keeps k hg, h3⟩
end Go.Proofs.Ytbhohohgojcapaa

namespace Go.Proofs.Ytbhohohgojcapaa
open Go.ChangeShapes Go.WideShapes Go.ChangeAt Go.RowKit
set_option maxRecDepth 100000

section
variable {H : Type} {enc : TypeId × Value → H} {w : World} {base : Nat} {spare : Nat → Bool} {held : Bool} {fuel : Nat} {cs : List Value} {x : DataW H × List MemPlace}

theorem open_u1 {v : Value} (h : DataW.trod enc Try.prog w base spare held fuel 31 [v] = some x) : ∃ n : Nat, v = .int .u64 n ∧ U64 n := by
  obtain ⟨n, e, _, hw⟩ := DataW.trod_int Try.underlying31 h
  injection e with e _
  obtain ⟨h1, h2⟩ := bounds_u64 hw
  obtain ⟨m, rfl⟩ : ∃ m : Nat, n = (m : Int) := ⟨n.toNat, by omega⟩
  exact ⟨m, e, by unfold U64; omega⟩
theorem open_b1 {v : Value} (h : DataW.trod enc Try.prog w base spare held fuel 4 [v] = some x) : ∃ b, v = .bool b := by
  obtain ⟨b, e, _⟩ := DataW.trod_bool Try.underlying4 h
  injection e with e _
  exact ⟨b, e⟩
theorem i64_of {n : Int} (h : I64_ n) : I64 n := bounds_i64 h

theorem list_of {P : Nat → OpM → Prop} : ∀ (n : Nat), (∀ i, i < n → ∃ x, P i x) → ∃ ls : List OpM, ls.length = n ∧ ∀ (i : Nat) x, ls[i]? = some x → P i x
  | 0, _ => ⟨[], rfl, fun i x h => by simp at h⟩
  | n + 1, h => by
    obtain ⟨ls, h2, h3⟩ := list_of n (fun i hi => h i (by omega))
    obtain ⟨x, hp⟩ := h n (by omega)
    refine ⟨ls ++ [x], by simp [h2], fun i y hy => ?_⟩
    by_cases hi : i < n
    · rw [List.getElem?_append_left (by omega)] at hy
      exact h3 i y hy
    · rw [List.getElem?_append_right (by omega)] at hy
      have e : i = n := by
        rcases hh : i - ls.length with _ | k
        · omega
        · rw [hh] at hy; simp at hy
      subst e
      rw [h2, Nat.sub_self] at hy
      cases hy
      exact hp

end
end Go.Proofs.Ytbhohohgojcapaa

namespace Go.Proofs.Ytbhohohgojcapaa
open Go.ChangeShapes Go.WideShapes Go.ChangeAt Go.RowKit
set_option maxRecDepth 100000

section
variable {H : Type} {enc : TypeId × Value → H} {w : World} {base : Nat} {spare : Nat → Bool} {held : Bool} {fuel : Nat} {cs : List Value} {x : DataW H × List MemPlace}

end
end Go.Proofs.Ytbhohohgojcapaa
