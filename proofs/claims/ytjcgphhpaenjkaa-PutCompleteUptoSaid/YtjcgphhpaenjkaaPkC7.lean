import Derived.Test.YtjcgphhpaenjkaaPkC6
set_option linter.unusedVariables false
namespace Go.Proofs.Ytjcgphhpaenjkaa
open Go.RowKit
section
variable {S S' T M:Nat->Prop} {w w':World} {v v' u:Value} {l l':List (List UInt8)} {x:List UInt8} {i:Nat}
theorem insTx {gy:Nat} (h:OTx w S v l) (hu:OBy w S u x) (hy:Blk w gy 34 #[u]) (hg:v.ownBlock≠some gy) (hs:Sm 100000000000000 24 l.length) (hi:i<=l.length) :
  Calls Try.prog 64 #[v,iV i,.slice (some ⟨gy,0,none⟩) 1 1] w λ e w'=>∃ v',e=.returned v'/\OTx w' (λ b=>S b\/Fresh w w' b) v' (ins l i x)/\Keeps (λ b=>v.ownBlock=some b) w w'/\
   (∀ b,v'.ownBlock=some b->v.ownBlock=some b\/Fresh w w' b):=by
 have hh:=h
 obtain ⟨vs,h1,h2,h3⟩:=h
 refine (insT (ay:=⟨gy,0,none⟩) (u:=u) h1 hy (by rw [hy.cell];rfl) (Nat.le_refl _) (by decide) (λ b hb e=>hg (by rw [hb];exact congrArg some e.symm)) (λ a ha=>?_) hu.one hs hi).mono ?_
 ·obtain ⟨j,hj⟩:=List.getElem?_of_mem ha
  have hjl:j < l.length:=by rw [<-h2];exact (List.getElem?_eq_some_iff.1 hj).1
  exact (h3 j a _ hj (List.getElem?_eq_getElem hjl)).one
 ·rintro e w' ⟨v',rfl,ho,hk⟩
  refine ⟨v',rfl,otx_ins h2 (λ j a y ha hy=>((h3 j a y ha hy).keepsR hh hk).mono (λ _ _ h=>.inl h)) ((hu.keepsR hh hk).mono (λ _ _ h=>.inl h)) hi (ho.mono (λ b _ hb=>?_)),hk,λ b hb=>(ho.blk hb).1⟩
  rcases hb with hb|hb
  ·exact .inl (h1.blk hb).1
  ·exact .inr hb
end
end Go.Proofs.Ytjcgphhpaenjkaa
