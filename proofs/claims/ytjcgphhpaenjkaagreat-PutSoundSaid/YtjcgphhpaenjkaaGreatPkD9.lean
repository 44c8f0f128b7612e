import Derived.Test.YtjcgphhpaenjkaaGreatPkB3
import Derived.Test.YtjcgphhpaenjkaaGreatPkC5
namespace Go.Proofs.YtjcgphhpaenjkaaGreat
open Go.RowKit
theorem Su.begin {w0 w:World} {G:Nat->Prop} {b p q:Nat} {A B:Ar} (hJ:J w G b p q A B) (hg:∀ x,G x->w0.heap.size<=x) (hk:Keeps Nob w0 w):Su w0 w b p q A B []:=
 ⟨G,hJ,Fam.nil,hg,λ i o h=>by simp at h,hk.mono (λ _ _ h=>h.elim)⟩
theorem Su.addNo {w0 w:World} {b p q:Nat} {A B:Ar} {l:List Ob} (h:Su w0 w b p q A B l):Su w0 w b p q A B (l++[noOb]):=
 h.push (Keeps.refl _ _) trivial (λ x h=>h.elim) (λ x h=>h.elim)
theorem Su.addGrp {w0 w:World} {b p q:Nat} {A B:Ar} {l:List Ob} (h:Su w0 w b p q A B l):Su w0 w b p q A B (l++[grpOb []]):=
 h.push (Keeps.refl _ _) Fam.nil (λ x hx=>by obtain ⟨i,o,hi,_⟩:=hx;simp at hi) (λ x hx=>by obtain ⟨i,o,hi,_⟩:=hx;simp at hi)
theorem Su.nilRow {w0 w:World} {b p q:Nat} {A B:Ar} {l:List Ob} (h:Su w0 w b p q A B l) (e:TypeId) (size:Nat):Su w0 w b p q A B (l++[rowOb e size (.slice none 0 0) 0 []]):=
 h.push (Keeps.refl _ _) (Own.nil _ _ _ _) (λ x hx=>by cases hx) (λ x h=>h)
theorem Su.trunc {w0 w:World} {b p q:Nat} {A B:Ar} {l:List Ob} (h:Su w0 w b p q A B l) (n:Nat):Su w0 w b p q A B (l.take n):=by
 obtain ⟨G,hJ,hF,hg,hw,hk⟩:=h
 have hs:∀ (m:Nat) v,(l.take n)[m]?=some v->l[m]?=some v:=λ m v hm=>by
  rw [List.getElem?_take] at hm
  split at hm
  ·exact hm
  ·cases hm
 exact ⟨G,hJ,⟨λ m v hm=>hF.ok m v (hs m v hm),λ m v hm=>hF.old m v (hs m v hm),λ m v hm=>hF.wf m v (hs m v hm),λ m v hm=>hF.off m v (hs m v hm),λ m m' v v' hm hm'=>hF.apart m m' v v' (hs m v hm) (hs m' v' hm')⟩,hg,λ m v hm=>hw m v (hs m v hm),hk⟩
def w14 (b:Nat) (C:Cf) (pv gv mv:Value):Array Value:=#[.pointer (some ⟨b,0,none⟩),.int .i64 C.nodes,.int .i64 C.leaf,.int .i64 C.inner,.int .i64 C.fill,.int .i64 C.block,pv,gv,mv]
def l14_0 (b14 b:Nat) (C:Cf):List Ob:=
 muBlk b14 37 (w14 b C (.slice none 0 0) (.slice none 0 0) (.slice none 0 0))::rowOb 111 4 (.slice none 0 0) 0 []::rowOb 131 3 (.slice none 0 0) 0 []::rowOb 46 2 (.slice none 0 0) 0 []::grpOb []::grpOb []::grpOb []::grpOb []::noOb::noOb::noOb::noOb::[]
end Go.Proofs.YtjcgphhpaenjkaaGreat
