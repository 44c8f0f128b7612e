/- Do both look-ups answer the same? Law 13's answers. Law 13's head: a look-up in a leaf that has the key. -/
import Derived.Test.YtbhohohgojcapaaGreatGetR
import Derived.Test.YtbhohohgojcapaaGreatTexts
import Derived.Test.YtbhohohgojcapaaGreatGetX
import Derived.Test.YtbhohohgojcapaaGreatJos
import Derived.Lib.SlBytesConst
namespace Go.Proofs.YtbhohohgojcapaaGreat
open Go.RowKit

section
variable {w : World} {S T : Nat → Prop} {p q mx dx my dy : Nat} {g : Gc} {KA : Option Addr} {kn kc : Nat}
set_option maxRecDepth 100000 in
set_option maxHeartbeats 6400000 in
theorem answers_ (hx : GX w mx dx p S g) (hy : GR w my dy q T g) : Calls Tryz.prog 23 #[.agg #[pV mx, pV my, .slice KA kn kc]] w fun e w' => e = .returned (.bool true) ∧ Keeps Nob w w' := by
  have HX := Lib.hid hx
  have HY := Lib.hid hy
  have hz : g.out.value.length ≤ 9223372036854775807 := by have h := hx.gw.sm; unfold Sm at h; omega
  clear hx hy
  have FX := fun wx (h : GX wx mx dx p S g) => answerGX h
  have FY := fun wx (h : GR wx my dy q T g) => answerGR h
  unfold pV iV at FX FY
  generalize g.out = R at FX FY hz
  unfold pV
  go_enter Tryz.func23, Tryz.ntmps23
  go_wp2_with fail
  refine calls_at (fun w1 hw => ?_)
  have hk : Keeps Nob w w1 := by rw [hw]; exact Keeps.alloc _ _ _
  have HB : Hid (Blk w1 w.heap.size 67 #[.pointer (some ⟨mx, 0, none⟩), .pointer (some ⟨my, 0, none⟩), .slice KA kn kc]) := by show Blk _ _ _ _; rw [hw]; exact Blk.new _ _ _
  clear hw
  replace HX := Lib.hid (HX.out.keeps hk id id (fun _ _ _ => id))
  replace HY := Lib.hid (HY.out.keeps hk id id (fun _ _ _ => id))
  have K := Lib.hid hk
  clear hk
  have hs0 := K.out.size
  refine (FX _ HX.out).mono ?_
  rintro e w2 ⟨VA, vc, rfl, hO, hk⟩
  have HO : Hid (OBy w2 (From w.heap.size) (.slice VA R.value.length vc) R.value) := hO.mono (fun x _ hx => by have h := hx.1; show w.heap.size ≤ x; omega)
  clear hO hs0
  replace HX := Lib.hid (HX.out.keeps hk id id (fun _ _ _ => id))
  replace HY := Lib.hid (HY.out.keeps hk id id (fun _ _ _ => id))
  replace HB := Lib.hid (HB.out.keeps hk id)
  replace K := Lib.hid (K.out.trans hk (fun _ _ h => h.elim))
  clear hk
  have qHB1 := HB.out.cell 1
  have lHB := HB.out.lt
  go_wp2_with fail
  clear qHB1 lHB
  skip
  refine (FY _ HY.out).mono ?_
  rintro e w3 ⟨UA, uc, rfl, hQ, hk⟩
  replace HX := Lib.hid (HX.out.keeps hk id id (fun _ _ _ => id))
  replace HY := Lib.hid (HY.out.keeps hk id id (fun _ _ _ => id))
  replace HB := Lib.hid (HB.out.keeps hk id)
  replace HO := Lib.hid (HO.out.keeps hk (fun _ _ _ => id))
  replace K := Lib.hid (K.out.trans hk (fun _ _ h => h.elim))
  clear hk
  have HQ := Lib.hid hQ
  clear hQ
  have t1 := run_str HO.out.r
  have t2 := run_str HQ.out.r
  have HSH := Lib.hid HO.out.sh
  clear HX HY HB HO HQ FX FY
  go_wp2
  clear t1 t2
  go_loopw [10] (fun i wz => ∃ k : Nat, k ≤ R.value.length ∧ i = .int .i64 k ∧ ShB wz (From w.heap.size) (.slice VA R.value.length vc) R.value.length ∧ Keeps Nob w wz) (fun i _ => R.value.length - (intOf i).toNat)
  case atStart => exact ⟨0, Nat.zero_le _, rfl, HSH.out, K.out⟩
  clear HSH K
  obtain ⟨k, hk, rfl, hsh, hkr⟩ := hrel
  have KR := Lib.hid hkr
  rcases Nat.lt_or_ge k R.value.length with hlt | hlt
  · obtain ⟨gb, o, cs, bb, rfl, hs, hb, hc⟩ := hsh.get hlt
    have HSH := Lib.hid hsh
    have HB := Lib.hid hb
    have HS : Hid (From w.heap.size gb) := hs
    have f0 := hb.frozen (o + k)
    unfold bV at hc
    clear hsh hb hs hkr
    go_wp2
    clear hc f0
    go_roundw
    case rel =>
      rw [show Value.int .u8 (((bb.toNat : Int) + 1) % 256) = bV (bb + 1) from bV_inc bb]
      exact ⟨k + 1, by omega, by go_num, HSH.out.byte _, KR.out.trans (Keeps.setCell _ (M := fun x => x = gb) rfl _) (fun x hx e => by have h : w.heap.size ≤ gb := HS.out; have e2 : x = gb := e; omega)⟩
    case measure => simp [intOf]; omega
  obtain rfl : k = R.value.length := by omega
  go_wp2
  go_ret
  exact ⟨rfl, KR.out⟩
end
end Go.Proofs.YtbhohohgojcapaaGreat

namespace Go.Proofs.YtbhohohgojcapaaGreat
open Go.RowKit

def hNd : Nd := ⟨0, [], 0, [[107]], [[118]], []⟩
def hA3 : Ar := ⟨3, [⟨2, hNd⟩], 1⟩
def hGc : Nat → Gc
  | 0 => Gc.new [107]
  | k + 1 => (stepG hA3 (hGc k)).2
theorem hGc_go : ∀ k, k < 4 → (stepG hA3 (hGc k)).1 = (false, false)
  | 0, _ => rfl | 1, _ => rfl | 2, _ => rfl | 3, _ => rfl
  | n + 4, h => by omega
theorem hGc_end : (stepG hA3 (hGc 4)).1 = (true, true) := rfl
theorem hGc_low : ∀ k, k ≤ 4 → (hGc k).D.low
  | 0, _ => ⟨by decide, by decide, by decide, by decide⟩ | 1, _ => ⟨by decide, by decide, by decide, by decide⟩ | 2, _ => ⟨by decide, by decide, by decide, by decide⟩ | 3, _ => ⟨by decide, by decide, by decide, by decide⟩ | 4, _ => ⟨by decide, by decide, by decide, by decide⟩
  | n + 5, h => by omega
theorem hGc_out : (hGc 5).out = ⟨[118], true, 0⟩ := rfl

section
variable {w : World}
theorem heap_at {w : World} {N : Nat} {o : Obj} (h : N = w.heap.size) : (w.alloc o).heap[N]? = some o := by subst h; exact heap_alloc_new w o
theorem byts_at {w : World} {N : Nat} {x : UInt8} (h : w.heap[N]? = some (.cells #[bV x] 5 (1, 2))) : Byts w (fun b => b = N) (.slice (some ⟨N, 0, none⟩) 1 1) [x] := by
  refine ⟨some ⟨N, 0, none⟩, 1, rfl, by simp, by decide, fun _ => ⟨_, rfl, rfl, fun i y hy => ?_⟩⟩
  match i, hy with
  | 0, hy => cases hy; rw [add_lit]; exact cell_of_row _ _ 0 #[bV x] _ _ h
  | i + 1, hy => simp at hy
theorem txts_at {w : World} {S : Nat → Prop} {N : Nat} {u : Value} {x : List UInt8} (h1 : Blk w N 23 #[u]) (h2 : Byts w S u x) : Txts w (fun b => b = N ∨ S b) (.slice (some ⟨N, 0, none⟩) 1 1) [x] := by
  refine ⟨[u], ⟨some ⟨N, 0, none⟩, 1, rfl, by simp, by decide, fun _ => ⟨_, rfl, .inl rfl, fun i y hy => ?_⟩⟩, rfl, fun i a y ha hy => ?_⟩
  · match i, hy with
    | 0, hy => cases hy; rw [add_lit, h1.cell]; rfl
    | i + 1, hy => simp at hy
  · match i, ha, hy with
    | 0, ha, hy => cases ha; cases hy; exact h2.mono (fun _ _ h => .inr h)
    | i + 1, ha, hy => simp at ha

set_option maxRecDepth 100000 in
set_option maxHeartbeats 6400000 in
theorem head13 (w : World) : Calls Tryz.prog 8 #[] w fun e w' => e = .returned (.bool true) ∧ Keeps Nob w w' := by
  have HBg := Lib.hid (begunJ (n := 3) w (by decide) (by decide))
  unfold iV pV at *
  go_enter Tryz.func8, Tryz.ntmps8
  go_wp2_with fail
  refine HBg.out.mono ?_
  rintro e w1 ⟨b, p, q, rfl, hJ, hk⟩
  have HJ := Lib.hid hJ
  have K : Hid (Keeps (From w.heap.size) w w1) := hk.mono (fun _ _ h => h.elim)
  have b0 := hJ.blk.cell 0
  unfold pV at b0
  clear hJ hk HBg
  have hcv : ∀ (w : World) (b : Nat) (C : Array Value) (n c : Nat), b = w.heap.size → (convert 23 23 (.slice (some ⟨b, 0, none⟩) n c)).run Tryz.prog (w.alloc (.cells C 5)) = .ok (.slice (some ⟨b, 0, none⟩) n c) (w.alloc (.cells C 5 (C.size, C.size + 1))) := fun w b C n c hb => by
    subst hb; exact Lib.run_convert_bytes_const (P := Tryz.prog) w 23 5 C n c Tryz.underlying23 Tryz.underlying5
  have HCV := Lib.hid hcv
  go_wp2_with fail
  refine (HJ.out.lockX (ix := 1) (wd := 0) (by unfold U64; decide)).mono ?_
  rintro e w2 ⟨rfl, hJ, hk⟩
  replace HJ : Hid (J w2 (From w.heap.size) b p q ⟨3, [⟨1, Nd.zero⟩], 1⟩ (ar0 3)) := hJ
  replace K := Lib.hid (K.out.trans hk (fun _ _ h => h))
  clear hJ hk b0
  have b0 := HJ.out.blk.cell 0
  unfold pV at b0
  have lb := HJ.out.blk.lt
  go_wp2_with fail
  clear b0 hcv lb
  refine calls_at (fun w3 hw => ?_)
  have hk : Keeps Nob w2 w3 := by rw [hw]; exact (((Keeps.alloc _ _ _).alloc' _).alloc' _).alloc' _
  have h1 : w3.heap[w2.heap.size]? = some (.cells #[bV 107] 5 (1, 2)) := by
    rw [hw]
    exact ((((Keeps.alloc Nob _ _).alloc' _).alloc' _).block w2.heap.size (by simp) id).trans (heap_alloc_new w2 _)
  have h2 : Blk w3 (w2.heap.size + 1) 23 #[.slice (some ⟨w2.heap.size, 0, none⟩) 1 1] := by
    rw [hw]
    exact ((Blk.new' (by simp) _ _).alloc _).alloc _
  have h3 : w3.heap[w2.heap.size + 2]? = some (.cells #[bV 118] 5 (1, 2)) := by
    rw [hw]
    refine ((Keeps.alloc Nob _ _).block (w2.heap.size + 2) (by simp) id).trans ?_
    exact heap_at (by simp)
  have h4 : Blk w3 (w2.heap.size + 3) 23 #[.slice (some ⟨w2.heap.size + 2, 0, none⟩) 1 1] := by
    rw [hw]
    exact Blk.new' (by simp) _ _
  clear hw
  replace HJ := Lib.hid (HJ.out.nob hk)
  replace K := Lib.hid (K.out.trans hk (fun _ _ h => h.elim))
  have HBD : Hid (IsBd w3 (fun _ => True) (.slice (some ⟨w2.heap.size + 1, 0, none⟩) 1 1) (.slice (some ⟨w2.heap.size + 3, 0, none⟩) 1 1) (.slice none 0 0) hNd) := ⟨(txts_at h2 (byts_at h1)).mono (fun _ _ _ => trivial), (txts_at h4 (byts_at h3)).mono (fun _ _ _ => trivial), SlR.nil _ _ _ _ (by decide)⟩
  clear hk h1 h2 h3 h4
  refine (HJ.out.setBodyX (ix := 1) HBD.out ?_).mono ?_
  · refine ⟨by unfold Sm; decide, ⟨by unfold Sm; decide, ?_⟩, ⟨by unfold Sm; decide, ?_⟩, by unfold Sm; decide⟩ <;> (intro x hx; simp [hNd] at hx; subst hx; unfold Sm; decide)
  rintro e w4 ⟨rfl, hJ, hk⟩
  replace HJ : Hid (J w4 (From w.heap.size) b p q ⟨3, [⟨1, hNd⟩], 1⟩ (ar0 3)) := hJ
  replace K := Lib.hid (K.out.trans hk (fun _ _ h => h))
  clear hJ hk HBD
  have b0 := HJ.out.blk.cell 0
  unfold pV at b0
  go_wp2_with fail
  clear b0
  refine (HJ.out.unlockX (ix := 1) (c := true)).mono ?_
  rintro e w5 ⟨rfl, hJ, hk⟩
  replace HJ : Hid (J w5 (From w.heap.size) b p q hA3 (ar0 3)) := hJ
  replace K := Lib.hid (K.out.trans hk (fun _ _ h => h))
  clear hJ hk
  have b0 := HJ.out.blk.cell 0
  unfold pV at b0
  have hcv := HCV.out
  go_wp2_with fail
  clear b0 hcv HCV
  refine calls_at (fun w6 hw => ?_)
  have hk : Keeps Nob w5 w6 := by rw [hw]; exact Keeps.alloc _ _ _
  have HBy : Hid (Byts w6 (fun b => b = w5.heap.size) (.slice (some ⟨w5.heap.size, 0, none⟩) 1 1) [107]) := by show Byts _ _ _ _; rw [hw]; exact byts_at (heap_alloc_new w5 _)
  clear hw
  replace HJ := Lib.hid (HJ.out.nob hk)
  replace K := Lib.hid (K.out.trans hk (fun _ _ h => h.elim))
  clear hk
  refine (getNewX (p := p) HBy.out (by unfold Sm; decide)).mono ?_
  rintro e w7 ⟨m, d, rfl, hf, hf2, hX, hk⟩
  have HM : Hid (w.heap.size ≤ m ∧ w.heap.size ≤ d) := ⟨Nat.le_trans K.out.size hf.1, Nat.le_trans K.out.size hf2.1⟩
  have HP0 : Hid (∃ G' S', J w7 G' b p q hA3 (ar0 3) ∧ (∀ x, x = m ∨ x = d ∨ S' x → ¬ G' x) ∧ GX w7 m d p S' (hGc 0) ∧ Keeps (From w.heap.size) w w7) := ⟨_, _, HJ.out.shr hk (fun _ _ _ h => h), fun x hx hg => hg.2 (by rcases hx with rfl | rfl | hx; exact hf; exact hf2; exact hx.1), hX, K.out.trans hk (fun _ _ h => h.elim)⟩
  clear hf hf2 hX hk HBy HJ K
  unfold pV
  go_wp2
  go_loopw [4] (fun i wr => ∃ k : Nat, k ≤ 4 ∧ i = .int .i64 k ∧ ∃ G' S', J wr G' b p q hA3 (ar0 3) ∧ (∀ x, x = m ∨ x = d ∨ S' x → ¬ G' x) ∧ GX wr m d p S' (hGc k) ∧ Keeps (From w.heap.size) w wr) (fun i _ => 4 - (intOf i).toNat)
  case atStart => exact ⟨0, Nat.zero_le _, rfl, HP0.out⟩
  obtain ⟨k, hk, rfl, G', S', hJ, hoff, hX, hkk⟩ := hrel
  have HJ := Lib.hid hJ
  have HOFF := Lib.hid hoff
  have HX := Lib.hid hX
  have K := Lib.hid hkk
  clear hJ hX hkk hoff
  rcases Nat.lt_or_ge k 4 with hlt | hlt
  · have hgo := hGc_go k hlt
    have FS := stepGX HJ.out HOFF.out HX.out (hGc_low k hk)
    rw [hgo] at FS
    unfold pV at FS
    go_wp2_with (go_at_call 17; refine FS.mono ?_; rintro e w4 ⟨rfl, hX, hkk⟩; have HP : Hid (∃ G' S', J w4 G' b p q hA3 (ar0 3) ∧ (∀ x, x = m ∨ x = d ∨ S' x → ¬ G' x) ∧ GX w4 m d p S' (hGc (k + 1)) ∧ Keeps (From w.heap.size) w w4) := ⟨_, _, HJ.out.shr hkk (fun x _ hg h => HOFF.out x (h.imp id .inl) hg), fun x hx hg => (by rcases hx with h | h | h | h; exact HOFF.out x (.inl h) hg.1; exact HOFF.out x (.inr (.inl h)) hg.1; exact HOFF.out x (.inr (.inr h)) hg.1; exact hg.2 h), hX, K.out.trans hkk (fun x hx e => by have h := HM.out; rcases e with e | e; rw [e]; exact h.1; rw [e]; exact h.2)⟩; clear hX hkk)
    go_roundw
    case rel => exact ⟨k + 1, by omega, by go_num, HP.out⟩
    case measure => simp [intOf]; omega
  obtain rfl : k = 4 := by omega
  clear hk hlt HP0
  have FS := stepGX HJ.out HOFF.out HX.out (hGc_low 4 (by decide))
  rw [hGc_end] at FS
  unfold pV at FS
  go_wp2_with fail
  refine FS.mono ?_
  rintro e w8 ⟨rfl, hX, hkk⟩
  clear FS
  have HX5 := Lib.hid hX
  replace K := Lib.hid (K.out.trans hkk (fun x hx e => by have h := HM.out; rcases e with e | e; rw [e]; exact h.1; rw [e]; exact h.2))
  clear hX hkk
  have FA := answerGX HX5.out
  rw [show (stepG hA3 (hGc 4)).2 = hGc 5 from rfl, hGc_out] at FA
  unfold pV iV at FA
  replace FA : Calls _ _ _ _ (fun e w' => ∃ VA vc, e = .returned (.tuple #[.slice VA (1 : Nat) vc, .bool true, .int .i64 0]) ∧ OBy w' (Fresh w8 w') (.slice VA (1 : Nat) vc) [118] ∧ Keeps Nob w8 w') := FA
  go_wp2_with fail
  refine FA.mono ?_
  rintro e w9 ⟨VA, vc, rfl, hO, hk⟩
  clear FA
  have t1 : (convert 23 9 (.slice VA (1 : Nat) vc)).run Tryz.prog w9 = .ok (.string ⟨#[118]⟩) w9 := run_str hO.r
  replace K := Lib.hid (K.out.trans hk (fun _ _ h => h.elim))
  clear hk hO
  go_wp2
  go_ret
  exact ⟨rfl, K.out.mono (fun x hx h => absurd hx (Nat.not_lt.2 h))⟩
end
end Go.Proofs.YtbhohohgojcapaaGreat
