import Derived.Test.YtjcgphhpaenjkaaRows
import Derived.Test.YtjcgphhpaenjkaaPkA0
import Derived.ProofKit
import Derived.OpenShut
import Derived.SizedLaws
set_option maxRecDepth 100000
set_option linter.unusedVariables false
namespace Go.Proofs.Ytjcgphhpaenjkaa
open Go.ChangeShapes Go.WideShapes Go.ChangeAt Go.RowKit
def Sz {H:Type} (t:TypeId) (d:DataW H):Prop:=∀ k ∈ d.weights Try.prog t,k<=reachBytes
theorem sz_slice {H:Type} {t e:TypeId} {elems rest:List (DataW H)} (h:Sz t (.slice elems rest)) (ht:Try.prog.underlying t=some (.slice e)):elems.length*Try.prog.bytesOf e<=reachBytes/\∀ d ∈ elems,Sz e d:=by
 unfold Sz at h ⊢
 simp only [DataW.weights,ht] at h
 refine ⟨?_,λ d hd k hk=>h k ?_⟩
 ·have:=h _ (List.mem_cons_self ..)
  exact Nat.le_trans (Nat.mul_le_mul_right _ (Nat.le_add_right _ _)) this
 ·refine List.mem_cons_of_mem _ (List.mem_append_left _ ?_)
  clear h
  induction elems with
  | nil=>simp at hd
  | cons x l ih=>
   simp only [DataW.weightsAll,List.mem_append]
   rcases List.mem_cons.1 hd with rfl|hd
   ·exact .inl hk
   ·exact .inr (ih hd)
theorem sz_struct {H:Type} {t:TypeId} {fs:Array Field} {parts:List (DataW H)} (h:Sz t (.agg parts)) (ht:Try.prog.underlying t=some (.struct fs)) {j:Nat} {u:TypeId} {d:DataW H} (hf:(fs.toList.map (·.type))[j]?=some u) (hd:parts[j]?=some d):Sz u d:=by
 unfold Sz at h ⊢
 simp only [DataW.weights,ht] at h
 exact λ k hk=>h k (DataW.weights_mem_each hf hd k hk)
theorem reach_eq:reachBytes=140737488351232:=rfl
def I64_ (n:Int):Prop:=(Lit.int .i64 n).wf=true
section
variable {H:Type} {enc:TypeId × Value->H} {w:World} {base:Nat} {spare:Nat->Bool} {held:Bool} {fuel:Nat} {cs:List Value} {x:DataW H × List MemPlace}
theorem open_i1 {v:Value} (h:DataW.trod enc Try.prog w base spare held fuel 3 [v]=some x):∃ n,v=.int .i64 n/\I64_ n:=by
 obtain ⟨n,e,_,hw⟩:=DataW.trod_int Try.underlying3 h
 injection e with e _
 exact ⟨n,e,hw⟩
theorem open_cfg (h:DataW.trod enc Try.prog w base spare held fuel 23 cs=some x):∃ n0 n1 n2 n3 n4,cs=[.int .i64 n0,.int .i64 n1,.int .i64 n2,.int .i64 n3,.int .i64 n4]/\I64_ n0/\I64_ n1/\I64_ n2/\I64_ n3/\I64_ n4:=by
 obtain ⟨xs,m,_,rfl,hl,hlen,hf⟩:=DataW.trod_struct Try.underlying23 h
 have h5:Try.prog.cellsOf 23=5:=by kernel_rfl
 have h1:Try.prog.cellsOf 3=1:=by kernel_rfl
 rw [h5] at hl
 match cs,hl with
 | [c0,c1,c2,c3,c4],_=>
  have e0:DataW.trod enc Try.prog w base spare held m 3 (([c0,c1,c2,c3,c4].drop 0).take (Try.prog.cellsOf 3))=xs[0]?:=hf 0 _ rfl
  rw [h1] at e0
  have e1:DataW.trod enc Try.prog w base spare held m 3 (([c0,c1,c2,c3,c4].drop 1).take (Try.prog.cellsOf 3))=xs[1]?:=hf 1 _ rfl
  rw [h1] at e1
  have e2:DataW.trod enc Try.prog w base spare held m 3 (([c0,c1,c2,c3,c4].drop 2).take (Try.prog.cellsOf 3))=xs[2]?:=hf 2 _ rfl
  rw [h1] at e2
  have e3:DataW.trod enc Try.prog w base spare held m 3 (([c0,c1,c2,c3,c4].drop 3).take (Try.prog.cellsOf 3))=xs[3]?:=hf 3 _ rfl
  rw [h1] at e3
  have e4:DataW.trod enc Try.prog w base spare held m 3 (([c0,c1,c2,c3,c4].drop 4).take (Try.prog.cellsOf 3))=xs[4]?:=hf 4 _ rfl
  rw [h1] at e4
  have hs:xs.length=5:=hlen
  obtain ⟨n0,rfl,w0⟩:=open_i1 (e0.trans (List.getElem?_eq_getElem (by omega)))
  obtain ⟨n1,rfl,w1⟩:=open_i1 (e1.trans (List.getElem?_eq_getElem (by omega)))
  obtain ⟨n2,rfl,w2⟩:=open_i1 (e2.trans (List.getElem?_eq_getElem (by omega)))
  obtain ⟨n3,rfl,w3⟩:=open_i1 (e3.trans (List.getElem?_eq_getElem (by omega)))
  obtain ⟨n4,rfl,w4⟩:=open_i1 (e4.trans (List.getElem?_eq_getElem (by omega)))
  exact ⟨n0,n1,n2,n3,n4,rfl,w0,w1,w2,w3,w4⟩
theorem open_txt {v:Value} (h:DataW.trod enc Try.prog w base spare held fuel 34 [v]=some x):∃ l,Byts w (λ b=>b < w.heap.size) v l/\(Sz 34 x.1->Sm 59000000000000 1 l.length):=by
 rcases open_ints Try.underlying34 Try.underlying5 (by kernel_rfl) h with ⟨e,_⟩|⟨a,len,cap,zs,e,_,hlc,hcm,hz,hx,hcell,hwf⟩
 ·injection e with e _
  subst e
  exact ⟨[],SlR.nil _ _ _ _ (by decide),λ _=>by unfold Sm;decide⟩
 ·injection e with e _
  subst e
  have hzl:len<=zs.length:=by rw [hz];split<;>omega
  have hll:(zs.take len).length=len:=by rw [List.length_take];omega
  refine ⟨(zs.take len).map (λ n=>UInt8.ofNat n.toNat),SlR.mono (S:=λ _=>True) ⟨some a,cap,by rw [List.length_map,List.length_map,hll],by rw [List.length_map,List.length_map,hll];exact hlc,hcm,λ _=>⟨a,rfl,trivial,λ i y hy=>?_⟩⟩ (λ b hb _=>hb),λ hsz=>by
   rw [hx] at hsz
   have h1:=(sz_slice hsz Try.underlying34).1
   have h2:Try.prog.bytesOf 5=1:=by kernel_rfl
   rw [h2,reach_eq] at h1
   simp [lits] at h1
   rw [List.length_map,hll]
   unfold Sm
   omega⟩
  rw [List.getElem?_map,List.getElem?_map,List.getElem?_take] at hy
  split at hy
  ·rename_i hi
   have hi2:i < zs.length:=by omega
   rw [List.getElem?_eq_getElem hi2] at hy
   simp only [Option.map_some,Option.some.injEq] at hy
   subst hy
   rw [hcell i hi2]
   have hb:=bounds_u8 (hwf _ (List.getElem_mem hi2))
   have hg:zs.getD i 0=zs[i]:=by simp [List.getD,List.getElem?_eq_getElem hi2]
   rw [hg]
   unfold bV
   congr 2
   have:(UInt8.ofNat zs[i].toNat).toNat=zs[i].toNat:=by
    rw [UInt8.toNat_ofNat']
    exact Nat.mod_eq_of_lt (by omega)
   rw [this]
   omega
  ·cases hy
end
end Go.Proofs.Ytjcgphhpaenjkaa
