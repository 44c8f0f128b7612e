import Derived.Test.YtjcgphhpaenjkaaGreatPkA8
import Derived.Test.YtjcgphhpaenjkaaGreatPkC3
import Derived.Test.YtjcgphhpaenjkaaGreatPkE6
import Derived.Test.YtjcgphhpaenjkaaGreatPkE1
namespace Go.Proofs.YtjcgphhpaenjkaaGreat
open Go.RowKit
theorem mapM_len (A:Ar):∀ (f:Nat) (id:Int) (met:List Int) (leaf:Bool) (out:List Ent),out.length<=(mapM A f id met leaf out).length
 | 0,_,_,_,_=>Nat.le_refl _
 | f+1,id,met,leaf,out=>by
  unfold mapM
  split
  ·exact Nat.le_refl _
  ·split
   ·exact Nat.le_refl _
   ·split
    ·split
     ·exact Nat.le_refl _
     ·exact mapM_len A f _ _ _ _
    ·refine Nat.le_trans ?_ (mapM_len A f _ _ _ _)
     simp
theorem entsM_len (vals:List (List UInt8)):∀ (i:Nat) (ks:List (List UInt8)),(entsM vals i ks).length=ks.length
 | _,[]=>rfl
 | i,_::ks=>by rw [entsM,List.length_cons,entsM_len vals (i+1) ks,List.length_cons]
theorem entsM_at (vals:List (List UInt8)):∀ (i:Nat) (ks:List (List UInt8)) (j:Nat) (k:List UInt8),ks[j]?=some k->(entsM vals i ks)[j]?=some (k,vals.getD (i+j) [])
 | _,[],j,k,h=>by simp at h
 | i,x::ks,0,k,h=>by simp at h;subst h;rfl
 | i,x::ks,j+1,k,h=>by
  have:=entsM_at vals (i+1) ks j k (by simpa using h)
  rw [show i+(j+1)=i+1+j by omega]
  simpa [entsM] using this
theorem ents_len (n:Nd):(ents n).length=n.keys.length:=entsM_len _ _ _
theorem ents_at {n:Nd} {j:Nat} {k:List UInt8} (h:n.keys[j]?=some k):(ents n)[j]?=some (k,n.vals.getD j []):=by
 have:=entsM_at n.vals 0 n.keys j k h
 rw [Nat.zero_add] at this
 exact this
theorem mapM_succ {A:Ar} {met:List Int} (h:met.length<=A.sl.length) (id:Int) (leaf:Bool) (out:List Ent):mapM A (A.sl.length+1-met.length) id met leaf out=match A.get id with
  | none=>out
  | some s=>
   if met.contains id=true then out
   else if 0 < s.nd.lvl then (if s.nd.kids.length=0\/(leaf||decide (s.nd.lvl<=0))=true then out else mapM A (A.sl.length-met.length) (s.nd.kids.getD 0 0) (met++[id]) (leaf||decide (s.nd.lvl<=0)) out)
   else mapM A (A.sl.length-met.length) s.nd.right (met++[id]) (leaf||decide (s.nd.lvl<=0)) (out++ents s.nd):=by
 rw [show A.sl.length+1-met.length=(A.sl.length-met.length)+1 by omega,mapM]
 rfl
def MapAt (w:World) (S:Nat->Prop) (v:Value) (R:List Ent):Prop:=∃ l:List En,Own w S 46 2 v l.length (enCells l)/\(∀ x ∈ l,Byts w S x.kv x.k/\Byts w S x.vv x.v)/\l.map En.e=R
end Go.Proofs.YtjcgphhpaenjkaaGreat
