/- A row of structures in memory, as an argument has it. -/
import Derived.Test.YtbhohohgojcapaaRaw
import Derived.Test.YtbhohohgojcapaaOps
namespace Go.Proofs.Ytbhohohgojcapaa
open Go.RowKit

/-- The slice v holds these structures of k cells and m bytes each, of which R tells; its block lies below lo. -/
def RowAt {α : Type} (k m : Nat) (R : World → Nat → Array Value → α → Prop) (w : World) (lo : Nat) (v : Value) (os : List α) : Prop :=
  ∃ A c, v = .slice A os.length c ∧ os.length ≤ c ∧ c ≤ maxLen ∧ os.length * m ≤ 140737488355328 ∧ (os ≠ [] → ∃ ad, A = some ad ∧ ad.block < lo ∧ ∀ (i : Nat) o, os[i]? = some o → ∃ cs : Array Value, R w lo cs o ∧ ∀ (j : Nat) x, cs[j]? = some x → w.cell? (ad.add (i * k + j)) = some x)
/-- The place of a cell of a structure at a. -/
def sub_ (a : Addr) : Nat → Addr
  | 0 => a
  | j + 1 => ⟨a.block, a.off + (j + 1), none⟩

section
variable {α : Type} {k m : Nat} {R : World → Nat → Array Value → α → Prop} {w w' : World} {lo : Nat} {v : Value} {os : List α} {G : Nat → Prop}
theorem RowAt.keeps (h : RowAt k m R w lo v os) (hk : Keeps G w w') (hg : ∀ x, x < lo → ¬ G x) (hR : ∀ cs o, R w lo cs o → R w' lo cs o) : RowAt k m R w' lo v os := by
  obtain ⟨A, c, e, h1, h2, h3, h⟩ := h
  refine ⟨A, c, e, h1, h2, h3, fun hne => ?_⟩
  obtain ⟨ad, ea, hb, hc⟩ := h hne
  refine ⟨ad, ea, hb, fun i o ho => ?_⟩
  obtain ⟨cs, ho, hcs⟩ := hc i o ho
  exact ⟨cs, hR _ _ ho, fun j x hx => hk.cell (hcs j x hx) (by rw [blk_add]; exact hg _ hb)⟩
/-- The cells of the i-th. -/
theorem RowAt.at_ {A : Option Addr} {n c i : Nat} {o : α} (h : RowAt k m R w lo (.slice A n c) os) (hi : os[i]? = some o) : ∃ ad cs, A = some ad ∧ ad.block < lo ∧ R w lo cs o ∧ ∀ (j : Nat) x, cs[j]? = some x → w.cell? (sub_ (ad.add (i * k)) j) = some x := by
  obtain ⟨A', c', e, _, _, _, h⟩ := h
  injection e with e1 _ _
  subst e1
  obtain ⟨ad, ea, hlo, hc⟩ := h (by intro e; subst e; simp at hi)
  obtain ⟨cs, ho, hcs⟩ := hc i o hi
  refine ⟨ad, cs, ea, hlo, ho, fun j x hx => ?_⟩
  have := hcs j x hx
  cases j with
  | zero => exact this
  | succ j => rw [add_far _ _ _ (by omega)] at this; exact this
end

/-- A call of law 12. -/
structure O12 where
  kd : Int
  a : Int
  b : Int
  key : List UInt8
  raw : OpM
def IsO12 (w : World) (lo : Nat) (cs : Array Value) (o : O12) : Prop :=
  ∃ kv c0 c1 c2 c3 c4 c5, cs = #[.int .i64 o.kd, .int .i64 o.a, .int .i64 o.b, kv, .int .i64 o.raw.kd, .int .i64 o.raw.a, .int .i64 o.raw.b, .int .u64 o.raw.w, .bool o.raw.ch, c0, c1, c2, c3, c4, c5] ∧ Byts w (fun b => b < lo) kv o.key ∧ IsOp w (fun b => b < lo) #[.int .i64 o.raw.kd, .int .i64 o.raw.a, .int .i64 o.raw.b, .int .u64 o.raw.w, .bool o.raw.ch, c0, c1, c2, c3, c4, c5] o.raw ∧ I64 o.kd ∧ I64 o.a ∧ I64 o.b ∧ Sm 0 1 o.key.length
theorem IsO12.keeps {w w' : World} {lo : Nat} {cs : Array Value} {o : O12} {G : Nat → Prop} (h : IsO12 w lo cs o) (k : Keeps G w w') (hg : ∀ x, x < lo → ¬ G x) : IsO12 w' lo cs o := by
  obtain ⟨kv, c0, c1, c2, c3, c4, c5, e, h1, h2, h3⟩ := h
  exact ⟨kv, c0, c1, c2, c3, c4, c5, e, h1.keeps k (fun x _ hx => hg x hx), h2.keeps k hg, h3⟩
abbrev O12At := RowAt 15 200 IsO12
end Go.Proofs.Ytbhohohgojcapaa
