/- A row of calls in memory, as an argument has it. -/
import Derived.Test.YtbhohohgojcapaaRaw
import Derived.Test.YtbhohohgojcapaaBegun
namespace Go.Proofs.Ytbhohohgojcapaa
open Go.RowKit

/-- The slice v holds these calls; its block lies below lo. -/
def OpsAt (w : World) (lo : Nat) (v : Value) (os : List OpM) : Prop :=
  ∃ A c, v = .slice A os.length c ∧ os.length ≤ c ∧ c ≤ maxLen ∧ os.length * 136 ≤ 140737488355328 ∧ (os ≠ [] → ∃ ad, A = some ad ∧ ad.block < lo ∧ ∀ (i : Nat) o, os[i]? = some o → ∃ cs : Array Value, IsOp w (fun b => b < lo) cs o ∧ ∀ (j : Nat) x, cs[j]? = some x → w.cell? (ad.add (i * 11 + j)) = some x)

theorem add_far (a : Addr) (i j : Nat) (hj : j ≠ 0) : a.add (i + j) = ⟨(a.add i).block, (a.add i).off + j, none⟩ := by
  rw [← add_add_]
  generalize a.add i = b
  unfold Addr.add
  rw [if_neg hj]

section
variable {w w' : World} {lo : Nat} {v : Value} {os : List OpM} {G : Nat → Prop}
theorem IsOp.keeps {cs : Array Value} {o : OpM} (h : IsOp w (fun b => b < lo) cs o) (k : Keeps G w w') (hg : ∀ x, x < lo → ¬ G x) : IsOp w' (fun b => b < lo) cs o := by
  obtain ⟨⟨c0, c1, c2, c3, c4, c5, e, hn⟩, h1, h2, h3, h4, h5⟩ := h
  exact ⟨⟨c0, c1, c2, c3, c4, c5, e, hn.keeps k (fun x _ hx => hg x hx)⟩, h1, h2, h3, h4, h5⟩
theorem OpsAt.keeps (h : OpsAt w lo v os) (k : Keeps G w w') (hg : ∀ x, x < lo → ¬ G x) : OpsAt w' lo v os := by
  obtain ⟨A, c, e, h1, h2, h3, h⟩ := h
  refine ⟨A, c, e, h1, h2, h3, fun hne => ?_⟩
  obtain ⟨ad, ea, hb, hc⟩ := h hne
  refine ⟨ad, ea, hb, fun i o ho => ?_⟩
  obtain ⟨cs, ho, hcs⟩ := hc i o ho
  exact ⟨cs, ho.keeps k hg, fun j x hx => k.cell (hcs j x hx) (by rw [blk_add]; exact hg _ hb)⟩
/-- The cells of the i-th call. -/
theorem OpsAt.at_ {A : Option Addr} {n c i : Nat} {o : OpM} (h : OpsAt w lo (.slice A n c) os) (hi : os[i]? = some o) : ∃ ad c0 c1 c2 c3 c4 c5, A = some ad ∧
    IsOp w (fun b => b < lo) #[.int .i64 o.kd, .int .i64 o.a, .int .i64 o.b, .int .u64 o.w, .bool o.ch, c0, c1, c2, c3, c4, c5] o ∧
    w.cell? (ad.add (i * 11)) = some (.int .i64 o.kd) ∧ w.cell? ⟨(ad.add (i * 11)).block, (ad.add (i * 11)).off + 1, none⟩ = some (.int .i64 o.a) ∧ w.cell? ⟨(ad.add (i * 11)).block, (ad.add (i * 11)).off + 2, none⟩ = some (.int .i64 o.b) ∧ w.cell? ⟨(ad.add (i * 11)).block, (ad.add (i * 11)).off + 3, none⟩ = some (.int .u64 o.w) ∧ w.cell? ⟨(ad.add (i * 11)).block, (ad.add (i * 11)).off + 4, none⟩ = some (.bool o.ch) ∧
    w.cell? ⟨(ad.add (i * 11)).block, (ad.add (i * 11)).off + 5, none⟩ = some c0 ∧ w.cell? ⟨(ad.add (i * 11)).block, (ad.add (i * 11)).off + 6, none⟩ = some c1 ∧ w.cell? ⟨(ad.add (i * 11)).block, (ad.add (i * 11)).off + 7, none⟩ = some c2 ∧ w.cell? ⟨(ad.add (i * 11)).block, (ad.add (i * 11)).off + 8, none⟩ = some c3 ∧ w.cell? ⟨(ad.add (i * 11)).block, (ad.add (i * 11)).off + 9, none⟩ = some c4 ∧ w.cell? ⟨(ad.add (i * 11)).block, (ad.add (i * 11)).off + 10, none⟩ = some c5 := by
  obtain ⟨A', c', e, _, _, _, h⟩ := h
  injection e with e1 _ _
  subst e1
  obtain ⟨ad, ea, _, hc⟩ := h (by intro e; subst e; simp at hi)
  obtain ⟨cs, ho, hcs⟩ := hc i o hi
  have ho' := ho
  obtain ⟨⟨c0, c1, c2, c3, c4, c5, rfl, hn⟩, _⟩ := ho
  exact ⟨ad, c0, c1, c2, c3, c4, c5, ea, ho', hcs 0 _ rfl, by rw [← add_far _ _ _ (by decide)]; exact hcs 1 _ rfl, by rw [← add_far _ _ _ (by decide)]; exact hcs 2 _ rfl, by rw [← add_far _ _ _ (by decide)]; exact hcs 3 _ rfl, by rw [← add_far _ _ _ (by decide)]; exact hcs 4 _ rfl, by rw [← add_far _ _ _ (by decide)]; exact hcs 5 _ rfl, by rw [← add_far _ _ _ (by decide)]; exact hcs 6 _ rfl, by rw [← add_far _ _ _ (by decide)]; exact hcs 7 _ rfl, by rw [← add_far _ _ _ (by decide)]; exact hcs 8 _ rfl, by rw [← add_far _ _ _ (by decide)]; exact hcs 9 _ rfl, by rw [← add_far _ _ _ (by decide)]; exact hcs 10 _ rfl⟩
end

/-- The arena behind so many calls. -/
def steps (A : Ar) (os : List OpM) : Ar := os.foldl step A
theorem steps_snoc (A : Ar) (os : List OpM) (o : OpM) : steps A (os ++ [o]) = step (steps A os) o := by simp [steps]

theorem take_snocO {α : Type} (l : List α) (k : Nat) (x : α) (h : l[k]? = some x) : l.take (k + 1) = l.take k ++ [x] := by
  rw [List.take_add_one, h]; rfl
end Go.Proofs.Ytbhohohgojcapaa
