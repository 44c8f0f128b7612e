import Derived.Test.YtbhohohgojcapaaGreatPkC9
import Derived.Test.YtbhohohgojcapaaGreatPkC8
import Derived.Test.YtbhohohgojcapaaGreatPkC4
import Derived.Test.YtbhohohgojcapaaGreatPkA8
import Derived.Test.YtbhohohgojcapaaGreatPkA6
import Derived.Lib.SlBytesConst
import Derived.Test.YtbhohohgojcapaaGreatPkC7
import Derived.Test.YtbhohohgojcapaaGreatPkB0
set_option maxHeartbeats 64000000
namespace Go.Proofs.YtbhohohgojcapaaGreat
open Go.RowKit
section
variable {w : World} {G S : Nat -> Prop} {b p q m d : Nat} {A B : Ar} {g : Gc} {v : Value} {key : List UInt8}
theorem Own.empty_ {N : Nat} {e : TypeId} {size : Nat} (hn : N = w.heap.size) (hs : S N) : Own (w.alloc (.cells #[] e)) S e size (.slice (some ⟨N, 0, none⟩) 0 0) 0 [] := by subst hn; exact Own.empty w S e size hs
set_option maxRecDepth 100000 in
theorem answerGR (h : GR w m d q S g) : Calls Tryz.prog 56 #[pV m] w λ e w' => ∃ VA vc, e = .returned (.tuple #[.slice VA g.out.value.length vc, .bool g.out.there, iV g.out.err]) /\ OBy w' (Fresh w w') (.slice VA g.out.value.length vc) g.out.value /\ Keeps Nob w w' := by
 obtain ⟨⟨⟨kv, vv, hb, hkv, hvv⟩, hsm, hks⟩, _⟩ := h
 obtain ⟨VA, vc, ev, _, _⟩ := hvv.form
 subst ev
 have HB := Hd hb
 have HVV := Hd hvv
 have HSM : Hid (Sm 0 1 g.out.value.length) := hsm
 clear hb hkv hvv hsm hks
 generalize g.out = R at *
 unfold pV iV
 go_enter Tryz.func56, Tryz.ntmps56
 go_wp2_with fail
 refine rC_ [1, 2, 3, 4, 6, 7, 8, 9, 10, 11, 12, 13, 0, 5, 14, 15, 16] 17 (λ W => W.cell? ⟨m, 3, none⟩ = some (.slice VA R.value.length vc) /\ W.cell? ⟨m, 4, none⟩ = some (.bool R.there) /\ W.cell? ⟨m, 5, none⟩ = some (.int .i64 R.err)) ?_ ?_
 ·exact ⟨HB.out.cell 3, HB.out.cell 4, HB.out.cell 5⟩
 refine canon_at (λ w1 hw => ?_)
 have hk : Keeps Nob w w1 := by rw [hw]; exact Keeps.drew _ _
 clear hw
 replace HB := Hd (HB.out.keeps hk id)
 replace HVV := Hd (HVV.out.keeps hk (λ _ _ _ => id))
 have K := Hd hk
 clear hk
 iterate 12
  refine cR_ (v := ?_) rfl ?_ ?_
  rotate_left
  ·intro W hW
   try (obtain ⟨z1, z2, z3⟩ : _ /\ _ /\ _ := hW)
   go_simp
   try rfl
  simp only [Act.put, sa_, sb_, sc_]
 refine cA_ rfl ?_
 go_wp2
 refine canon_at' (λ w2 hw => ?_)
 have ho0 : Own w2 (From w1.heap.size) 5 1 (.slice (some ⟨w1.heap.size, 0, none⟩) 0 0) 0 [] := by rw [hw]; exact Own.empty_ rfl (Nat.le_refl _)
 have hk : Keeps Nob w1 w2 := by rw [hw]; exact Keeps.alloc _ _ _
 have hs12 : w2.heap.size = w1.heap.size + 1 := by rw [hw]; simp
 clear hw
 have hs01 := K.out.size
 replace HB := Hd (HB.out.keeps hk id)
 replace HVV := Hd (HVV.out.keeps hk (λ _ _ _ => id))
 replace K := tr_ K hk
 clear hk
 have HO0 := Hd ho0
 have HS01 : Hid (w.heap.size <= w1.heap.size /\ w2.heap.size = w1.heap.size + 1) := ⟨hs01, hs12⟩
 obtain ⟨N, hN⟩ : ∃ N, w1.heap.size = N := ⟨_, rfl⟩
 rw [hN] at HO0 HS01 ⊢
 clear ho0 hs01 hs12 hN
 refine ⟨.inr ⟨HB.out.cell 3, HB.out.cell 4, HB.out.cell 5⟩, ?_⟩
 refine cA_ rfl ?_
 obtain ⟨i0, hi, hz0, hz1, hz2⟩ := info_parts Tryz.inf_u8
 go_wp2_with (at_builtin; refine wpList_app rfl (.tmp 5) (.tmp 9) 23 rfl Tryz.underlying23 hi hz0 hz1 hz2 rfl (by decide) (v := .slice (some ⟨N, 0, none⟩) 0 0) (n := 0) (m := R.value.length) (S := From N) (T := S) (xs := []) (news := R.value.map bV) rfl ?c1 (y := .slice VA R.value.length vc) rfl ?c2 ?c3 ?c4 ?c5 ?c6)
 case c1 => exact HO0.out
 case c2 => exact HVV.out.g
 case c3 => exact bV_one R.value
 case c4 => have := HSM.out; unfold Sm at this; unfold maxLen; omega
 case c5 => have := HSM.out; unfold Sm at this; omega
 case c6 =>
 intro v' w3 ho hk _
 try simp only [Nat.zero_add, List.nil_append] at ho
 obtain ⟨OA, oc, hf⟩ := ho.form
 subst hf
 have HO : Hid (OBy w3 (Fresh w w3) (.slice OA R.value.length oc) R.value) := ho.mono (λ x hx h => by
  have h3 := HS01.out
  rcases h with h | h
  ·simp [Value.ownBlock] at h; exact ⟨by omega, hx⟩
  ·have h1 := h.1; exact ⟨by omega, hx⟩)
 replace K : Hid (Keeps Nob w w3) := K.out.trans hk (λ b hb e => by have h3 := HS01.out; simp [Value.ownBlock] at e; omega)
 have hnm : ¬ N = m := λ e => by have h1 := HO0.out; subst e; exact absurd (h1.ownBlk (b := N) rfl) (λ ⟨cs, hb⟩ => Blk.ne_ hb HB.out (by decide) rfl)
 replace HB := Hd (HB.out.keeps hk (λ e => by simp [Value.ownBlock] at e; exact hnm e))
 clear ho hk hnm
 refine ⟨.inr ⟨HB.out.cell 3, HB.out.cell 4, HB.out.cell 5⟩, ?_⟩
 iterate 3
  refine cR_ (v := ?_) rfl ?_ ?_
  rotate_left
  ·intro W hW
   try (obtain ⟨z1, z2, z3⟩ : _ /\ _ /\ _ := hW)
   go_simp
   try rfl
  simp only [Act.put, sa_, sb_, sc_]
 refine wpCanon_nil ?_
 go_wp2
 go_ret3
 exact ⟨_, _, rfl, HO.out, K.out⟩
end
end Go.Proofs.YtbhohohgojcapaaGreat

set_option maxHeartbeats 64000000
namespace Go.Proofs.YtbhohohgojcapaaGreat
open Go.RowKit
section
variable {w : World} {S T : Nat -> Prop} {p q mx dx my dy : Nat} {g : Gc} {KA : Option Addr} {kn kc : Nat}
set_option maxRecDepth 100000 in
theorem answers_ (hx : GX w mx dx p S g) (hy : GR w my dy q T g) : Calls Tryz.prog 23 #[.agg #[pV mx, pV my, .slice KA kn kc]] w λ e w' => e = .returned (.bool true) /\ Keeps Nob w w' := by
 have HX := Hd hx
 have HY := Hd hy
 have hz : g.out.value.length <= 9223372036854775807 := by have h := hx.gw.sm; unfold Sm at h; omega
 clear hx hy
 have FX := λ wx (h : GX wx mx dx p S g) => answerGX h
 have FY := λ wx (h : GR wx my dy q T g) => answerGR h
 unfold pV iV at FX FY
 generalize g.out = R at FX FY hz
 unfold pV
 go_enter Tryz.func23, Tryz.ntmps23
 go_wp2_with fail
 refine calls_at (λ w1 hw => ?_)
 have hk : Keeps Nob w w1 := by rw [hw]; exact Keeps.alloc _ _ _
 have HB : Hid (Blk w1 w.heap.size 67 #[.pointer (some ⟨mx, 0, none⟩), .pointer (some ⟨my, 0, none⟩), .slice KA kn kc]) := by show Blk _ _ _ _; rw [hw]; exact Blk.new _ _ _
 clear hw
 replace HX := Hd (HX.out.keeps hk id id (λ _ _ _ => id))
 replace HY := Hd (HY.out.keeps hk id id (λ _ _ _ => id))
 have K := Hd hk
 clear hk
 have hs0 := K.out.size
 refine (FX _ HX.out).mono ?_
 rintro e w2 ⟨VA, vc, rfl, hO, hk⟩
 have HO : Hid (OBy w2 (From w.heap.size) (.slice VA R.value.length vc) R.value) := hO.mono (λ x _ hx => by have h := hx.1; show w.heap.size <= x; omega)
 clear hO hs0
 replace HX := Hd (HX.out.keeps hk id id (λ _ _ _ => id))
 replace HY := Hd (HY.out.keeps hk id id (λ _ _ _ => id))
 replace HB := Hd (HB.out.keeps hk id)
 replace K := tr_ K hk
 clear hk
 have qHB1 := HB.out.cell 1
 have lHB := HB.out.lt
 go_wp2_with fail
 clear qHB1 lHB
 skip
 refine (FY _ HY.out).mono ?_
 rintro e w3 ⟨UA, uc, rfl, hQ, hk⟩
 replace HX := Hd (HX.out.keeps hk id id (λ _ _ _ => id))
 replace HY := Hd (HY.out.keeps hk id id (λ _ _ _ => id))
 replace HB := Hd (HB.out.keeps hk id)
 replace HO := Hd (HO.out.keeps hk (λ _ _ _ => id))
 replace K := tr_ K hk
 clear hk
 have HQ := Hd hQ
 clear hQ
 have t1 := run_str HO.out.r
 have t2 := run_str HQ.out.r
 have HSH := Hd HO.out.sh
 clear HX HY HB HO HQ FX FY
 go_wp2
 clear t1 t2
 go_loopw [10] (λ i wz => ∃ k : Nat, k <= R.value.length /\ i = .int .i64 k /\ ShB wz (From w.heap.size) (.slice VA R.value.length vc) R.value.length /\ Keeps Nob w wz) (λ i _ => R.value.length - (intOf i).toNat)
 case atStart => exact ⟨0, Nat.zero_le _, rfl, HSH.out, K.out⟩
 clear HSH K
 obtain ⟨k, hk, rfl, hsh, hkr⟩ := hrel
 have KR := Hd hkr
 rcases Nat.lt_or_ge k R.value.length with hlt | hlt
 ·obtain ⟨gb, o, cs, bb, rfl, hs, hb, hc⟩ := hsh.get hlt
  have HSH := Hd hsh
  have HB := Hd hb
  have HS : Hid (From w.heap.size gb) := hs
  have f0 := hb.frozen (o + k)
  unfold bV at hc
  clear hsh hb hs hkr
  go_wp2
  clear hc f0
  go_roundw
  case rel =>
   rw [show Value.int .u8 (((bb.toNat : Int) + 1) % 256) = bV (bb + 1) from bV_inc bb]
   exact ⟨k + 1, by omega, by go_num, HSH.out.byte _, KR.out.trans (Keeps.setCell _ (M := λ x => x = gb) rfl _) (λ x hx e => by have h : w.heap.size <= gb := HS.out; have e2 : x = gb := e; omega)⟩
  case measure => simp [intOf]; omega
 obtain rfl : k = R.value.length := by omega
 go_wp2
 go_ret
 exact ⟨rfl, KR.out⟩
end
end Go.Proofs.YtbhohohgojcapaaGreat
namespace Go.Proofs.YtbhohohgojcapaaGreat
open Go.RowKit
def hNd : Nd := ⟨0, [], 0, [[107]], [[118]], []⟩
def hA3 : Ar := ⟨3, [⟨2, hNd⟩], 1⟩
def hGc : Nat -> Gc
 | 0 => Gc.new [107]
 | k + 1 => (stepG hA3 (hGc k)).2
theorem hGc_go : ∀ k, k < 4 -> (stepG hA3 (hGc k)).1 = (false, false)
 | 0, _ => rfl | 1, _ => rfl | 2, _ => rfl | 3, _ => rfl
 | n + 4, h => by omega
theorem hGc_end : (stepG hA3 (hGc 4)).1 = (true, true) := rfl
theorem hGc_low : ∀ k, k <= 4 -> (hGc k).D.low
 | 0, _ => ⟨by decide, by decide, by decide, by decide⟩ | 1, _ => ⟨by decide, by decide, by decide, by decide⟩ | 2, _ => ⟨by decide, by decide, by decide, by decide⟩ | 3, _ => ⟨by decide, by decide, by decide, by decide⟩ | 4, _ => ⟨by decide, by decide, by decide, by decide⟩
 | n + 5, h => by omega
theorem hGc_out : (hGc 5).out = ⟨[118], true, 0⟩ := rfl
section
variable {w : World}
theorem heap_at {w : World} {N : Nat} {o : Obj} (h : N = w.heap.size) : (w.alloc o).heap[N]? = some o := by subst h; exact heap_alloc_new w o
theorem byts_at {w : World} {N : Nat} {x : UInt8} (h : w.heap[N]? = some (.cells #[bV x] 5 (1, 2))) : Byts w (λ b => b = N) (.slice (some ⟨N, 0, none⟩) 1 1) [x] := by
 refine ⟨some ⟨N, 0, none⟩, 1, rfl, by simp, by decide, λ _ => ⟨_, rfl, rfl, λ i y hy => ?_⟩⟩
 match i, hy with
 | 0, hy => cases hy; rw [add_lit]; exact cell_of_row _ _ 0 #[bV x] _ _ h
 | i + 1, hy => simp at hy
theorem txts_at {w : World} {S : Nat -> Prop} {N : Nat} {u : Value} {x : List UInt8} (h1 : Blk w N 23 #[u]) (h2 : Byts w S u x) : Txts w (λ b => b = N \/ S b) (.slice (some ⟨N, 0, none⟩) 1 1) [x] := by
 refine ⟨[u], ⟨some ⟨N, 0, none⟩, 1, rfl, by simp, by decide, λ _ => ⟨_, rfl, .inl rfl, λ i y hy => ?_⟩⟩, rfl, λ i a y ha hy => ?_⟩
 ·match i, hy with
  | 0, hy => cases hy; rw [add_lit, h1.cell]; rfl
  | i + 1, hy => simp at hy
 ·match i, ha, hy with
  | 0, ha, hy => cases ha; cases hy; exact h2.mono (λ _ _ h => .inr h)
  | i + 1, ha, hy => simp at ha
set_option maxRecDepth 100000 in
theorem head13 (w : World) : Calls Tryz.prog 8 #[] w λ e w' => e = .returned (.bool true) /\ Keeps Nob w w' := by
 have HBg := Hd (begunJ (n := 3) w (by decide) (by decide))
 unfold iV pV at *
 go_enter Tryz.func8, Tryz.ntmps8
 go_wp2_with fail
 refine HBg.out.mono ?_
 rintro e w1 ⟨b, p, q, rfl, hJ, hk⟩
 have HJ := Hd hJ
 have K : Hid (Keeps (From w.heap.size) w w1) := hk.mono (λ _ _ h => h.elim)
 have b0 := hJ.blk.cell 0
 unfold pV at b0
 clear hJ hk HBg
 have hcv : ∀ (w : World) (b : Nat) (C : Array Value) (n c : Nat), b = w.heap.size -> (convert 23 23 (.slice (some ⟨b, 0, none⟩) n c)).run Tryz.prog (w.alloc (.cells C 5)) = .ok (.slice (some ⟨b, 0, none⟩) n c) (w.alloc (.cells C 5 (C.size, C.size + 1))) := λ w b C n c hb => by
  subst hb; exact Lib.run_convert_bytes_const (P := Tryz.prog) w 23 5 C n c Tryz.underlying23 Tryz.underlying5
 have HCV := Hd hcv
 go_wp2_with fail
 refine (HJ.out.lockX (ix := 1) (wd := 0) (by unfold U64; decide)).mono ?_
 rintro e w2 ⟨rfl, hJ, hk⟩
 replace HJ : Hid (J w2 (From w.heap.size) b p q ⟨3, [⟨1, Nd.zero⟩], 1⟩ (ar0 3)) := hJ
 replace K := tq_ K hk
 clear hJ hk b0
 have b0 := HJ.out.blk.cell 0
 unfold pV at b0
 have lb := HJ.out.blk.lt
 go_wp2_with fail
 clear b0 hcv lb
 refine calls_at (λ w3 hw => ?_)
 have hk : Keeps Nob w2 w3 := by rw [hw]; exact (((Keeps.alloc _ _ _).alloc' _).alloc' _).alloc' _
 have h1 : w3.heap[w2.heap.size]? = some (.cells #[bV 107] 5 (1, 2)) := by
  rw [hw]
  exact ((((Keeps.alloc Nob _ _).alloc' _).alloc' _).block w2.heap.size (by simp) id).trans (heap_alloc_new w2 _)
 have h2 : Blk w3 (w2.heap.size + 1) 23 #[.slice (some ⟨w2.heap.size, 0, none⟩) 1 1] := by
  rw [hw]
  exact ((Blk.new' (by simp) _ _).alloc _).alloc _
 have h3 : w3.heap[w2.heap.size + 2]? = some (.cells #[bV 118] 5 (1, 2)) := by
  rw [hw]
  refine ((Keeps.alloc Nob _ _).block (w2.heap.size + 2) (by simp) id).trans ?_
  exact heap_at (by simp)
 have h4 : Blk w3 (w2.heap.size + 3) 23 #[.slice (some ⟨w2.heap.size + 2, 0, none⟩) 1 1] := by
  rw [hw]
  exact Blk.new' (by simp) _ _
 clear hw
 replace HJ := Hd (HJ.out.nob hk)
 replace K := tr_ K hk
 have HBD : Hid (IsBd w3 (λ _ => True) (.slice (some ⟨w2.heap.size + 1, 0, none⟩) 1 1) (.slice (some ⟨w2.heap.size + 3, 0, none⟩) 1 1) (.slice none 0 0) hNd) := ⟨(txts_at h2 (byts_at h1)).mono (λ _ _ _ => trivial), (txts_at h4 (byts_at h3)).mono (λ _ _ _ => trivial), SlR.nil _ _ _ _ (by decide)⟩
 clear hk h1 h2 h3 h4
 refine (HJ.out.setBodyX (ix := 1) HBD.out ?_).mono ?_
 ·refine ⟨by unfold Sm; decide, ⟨by unfold Sm; decide, ?_⟩, ⟨by unfold Sm; decide, ?_⟩, by unfold Sm; decide⟩ <;> (intro x hx; simp [hNd] at hx; subst hx; unfold Sm; decide)
 rintro e w4 ⟨rfl, hJ, hk⟩
 replace HJ : Hid (J w4 (From w.heap.size) b p q ⟨3, [⟨1, hNd⟩], 1⟩ (ar0 3)) := hJ
 replace K := tq_ K hk
 clear hJ hk HBD
 have b0 := HJ.out.blk.cell 0
 unfold pV at b0
 go_wp2_with fail
 clear b0
 refine (HJ.out.unlockX (ix := 1) (c := true)).mono ?_
 rintro e w5 ⟨rfl, hJ, hk⟩
 replace HJ : Hid (J w5 (From w.heap.size) b p q hA3 (ar0 3)) := hJ
 replace K := tq_ K hk
 clear hJ hk
 have b0 := HJ.out.blk.cell 0
 unfold pV at b0
 have hcv := HCV.out
 go_wp2_with fail
 clear b0 hcv HCV
 refine calls_at (λ w6 hw => ?_)
 have hk : Keeps Nob w5 w6 := by rw [hw]; exact Keeps.alloc _ _ _
 have HBy : Hid (Byts w6 (λ b => b = w5.heap.size) (.slice (some ⟨w5.heap.size, 0, none⟩) 1 1) [107]) := by show Byts _ _ _ _; rw [hw]; exact byts_at (heap_alloc_new w5 _)
 clear hw
 replace HJ := Hd (HJ.out.nob hk)
 replace K := tr_ K hk
 clear hk
 refine (getNewX (p := p) HBy.out (by unfold Sm; decide)).mono ?_
 rintro e w7 ⟨m, d, rfl, hf, hf2, hX, hk⟩
 have HM : Hid (w.heap.size <= m /\ w.heap.size <= d) := ⟨Nat.le_trans K.out.size hf.1, Nat.le_trans K.out.size hf2.1⟩
 have HP0 : Hid (∃ G' S', J w7 G' b p q hA3 (ar0 3) /\ (∀ x, x = m \/ x = d \/ S' x -> ¬ G' x) /\ GX w7 m d p S' (hGc 0) /\ Keeps (From w.heap.size) w w7) := ⟨_, _, HJ.out.shr hk (λ _ _ _ h => h), λ x hx hg => hg.2 (by rcases hx with rfl | rfl | hx; exact hf; exact hf2; exact hx.1), hX, K.out.trans hk (λ _ _ h => h.elim)⟩
 clear hf hf2 hX hk HBy HJ K
 unfold pV
 go_wp2
 go_loopw [4] (λ i wr => ∃ k : Nat, k <= 4 /\ i = .int .i64 k /\ ∃ G' S', J wr G' b p q hA3 (ar0 3) /\ (∀ x, x = m \/ x = d \/ S' x -> ¬ G' x) /\ GX wr m d p S' (hGc k) /\ Keeps (From w.heap.size) w wr) (λ i _ => 4 - (intOf i).toNat)
 case atStart => exact ⟨0, Nat.zero_le _, rfl, HP0.out⟩
 obtain ⟨k, hk, rfl, G', S', hJ, hoff, hX, hkk⟩ := hrel
 have HJ := Hd hJ
 have HOFF := Hd hoff
 have HX := Hd hX
 have K := Hd hkk
 clear hJ hX hkk hoff
 rcases Nat.lt_or_ge k 4 with hlt | hlt
 ·have hgo := hGc_go k hlt
  have FS := stepGX HJ.out HOFF.out HX.out (hGc_low k hk)
  rw [hgo] at FS
  unfold pV at FS
  go_wp2_with (go_at_call 17; refine FS.mono ?_; rintro e w4 ⟨rfl, hX, hkk⟩; have HP : Hid (∃ G' S', J w4 G' b p q hA3 (ar0 3) /\ (∀ x, x = m \/ x = d \/ S' x -> ¬ G' x) /\ GX w4 m d p S' (hGc (k + 1)) /\ Keeps (From w.heap.size) w w4) := ⟨_, _, HJ.out.shr hkk (λ x _ hg h => HOFF.out x (h.imp id .inl) hg), λ x hx hg => (by rcases hx with h | h | h | h; exact HOFF.out x (.inl h) hg.1; exact HOFF.out x (.inr (.inl h)) hg.1; exact HOFF.out x (.inr (.inr h)) hg.1; exact hg.2 h), hX, K.out.trans hkk (λ x hx e => by have h := HM.out; rcases e with e | e; rw [e]; exact h.1; rw [e]; exact h.2)⟩; clear hX hkk)
  go_roundw
  case rel => exact ⟨k + 1, by omega, by go_num, HP.out⟩
  case measure => simp [intOf]; omega
 obtain rfl : k = 4 := by omega
 clear hk hlt HP0
 have FS := stepGX HJ.out HOFF.out HX.out (hGc_low 4 (by decide))
 rw [hGc_end] at FS
 unfold pV at FS
 go_wp2_with fail
 refine FS.mono ?_
 rintro e w8 ⟨rfl, hX, hkk⟩
 clear FS
 have HX5 := Hd hX
 replace K := Hd (K.out.trans hkk (λ x hx e => by have h := HM.out; rcases e with e | e; rw [e]; exact h.1; rw [e]; exact h.2))
 clear hX hkk
 have FA := answerGX HX5.out
 rw [show (stepG hA3 (hGc 4)).2 = hGc 5 from rfl, hGc_out] at FA
 unfold pV iV at FA
 replace FA : Calls _ _ _ _ (λ e w' => ∃ VA vc, e = .returned (.tuple #[.slice VA (1 : Nat) vc, .bool true, .int .i64 0]) /\ OBy w' (Fresh w8 w') (.slice VA (1 : Nat) vc) [118] /\ Keeps Nob w8 w') := FA
 go_wp2_with fail
 refine FA.mono ?_
 rintro e w9 ⟨VA, vc, rfl, hO, hk⟩
 clear FA
 have t1 : (convert 23 9 (.slice VA (1 : Nat) vc)).run Tryz.prog w9 = .ok (.string ⟨#[118]⟩) w9 := run_str hO.r
 replace K := tr_ K hk
 clear hk hO
 go_wp2
 go_ret
 exact ⟨rfl, K.out.mono (λ x hx h => absurd hx (Nat.not_lt.2 h))⟩
end
end Go.Proofs.YtbhohohgojcapaaGreat

namespace Go.Proofs.YtbhohohgojcapaaGreat
open Go.RowKit
theorem Su.begin {w0 w : World} {G : Nat -> Prop} {b p q : Nat} {A B : Ar} (hJ : J w G b p q A B) (hg : ∀ x, G x -> w0.heap.size <= x) (hk : Keeps Nob w0 w) : Su w0 w b p q A B [] :=
 ⟨G, hJ, Fam.nil, hg, λ i o h => by simp at h, hk.mono (λ _ _ h => h.elim)⟩
theorem Su.addNo {w0 w : World} {b p q : Nat} {A B : Ar} {l : List Ob} (h : Su w0 w b p q A B l) : Su w0 w b p q A B (l ++ [noOb]) :=
 h.push (Keeps.refl _ _) trivial (λ x h => h.elim) (λ x h => h.elim)
theorem Su.addGrp {w0 w : World} {b p q : Nat} {A B : Ar} {l : List Ob} (h : Su w0 w b p q A B l) : Su w0 w b p q A B (l ++ [grpOb []]) :=
 h.push (Keeps.refl _ _) Fam.nil (λ x hx => by obtain ⟨i, o, hi, _⟩ := hx; simp at hi) (λ x hx => by obtain ⟨i, o, hi, _⟩ := hx; simp at hi)
theorem Su.nilRow {w0 w : World} {b p q : Nat} {A B : Ar} {l : List Ob} (h : Su w0 w b p q A B l) (e : TypeId) (size : Nat) : Su w0 w b p q A B (l ++ [rowOb e size (.slice none 0 0) 0 []]) :=
 h.push (Keeps.refl _ _) (Own.nil _ _ _ _) (λ x hx => by cases hx) (λ x h => h)
theorem Tryz.inf_pair13 : (Tryz.prog.info? 67).map (λ i => (i.zero, i.size, i.bytes)) = some (some (.agg #[.pointer none, .pointer none, .slice none 0 0]), 3, 40) := by kernel_rfl
structure Gu where
 mx : Nat
 dx : Nat
 my : Nat
 dy : Nat
 Sx : Nat -> Prop
 Sy : Nat -> Prop
 A : Gc
 B : Gc
 kv : Value
theorem map_at {α β : Type} {f : α -> β} {l : List α} {n : Nat} {x : α} (h : l[n]? = some x) : (l.map f)[n]? = some (f x) := by rw [List.getElem?_map, h]; rfl
section
variable {w0 w : World} {b p q i n : Nat} {A B : Ar} {l : List Ob} {gs : List Gu} {g : Gu}
end
end Go.Proofs.YtbhohohgojcapaaGreat
