import Derived.Test.YtjcgphhpaenjkaaPkE7
import Derived.Deep.LoopGhost
set_option maxHeartbeats 64000000
set_option maxRecDepth 100000
set_option linter.unusedVariables false
namespace Go.Proofs.Ytjcgphhpaenjkaa
open Go.RowKit Go.Maps
def enOO (S:Nat->Prop) (l:List En):Ob where
 P:=λ w=>∀ x ∈ l,OBy w S x.kv x.k/\OBy w S x.vv x.v
 F:=S
 W:=λ _=>False
 fr:=λ _ _ _ h k hd=>λ x hx=>⟨(h x hx).1.keeps k hd,(h x hx).2.keeps k hd⟩
def PMapAt (w:World) (S:Nat->Prop) (v:Value) (R:List Ent):Prop:=∃ l:List En,Own w S 36 2 v l.length (enCells l)/\(∀ x ∈ l,OBy w S x.kv x.k/\OBy w S x.vv x.v)/\l.map En.e=R
theorem pmap_done {w wr:World} {ov:Value} {o0 o3 o4:Ob} {S:Nat->Prop} {l:List En} (h:Fo w wr [o0,rowOb 36 2 ov l.length (enCells l),enOO S l,o3,o4]) (hS:∀ x,S x->w.heap.size<=x) {w':World} {N:Nat->Prop} (k:Keeps N wr w') (hN:∀ x,x < wr.heap.size->N x->o0.W x\/o3.W x):PMapAt w' (Fresh w w') ov (l.map En.e):=by
 have h1:Own wr _ 36 2 ov l.length (enCells l):=h.get (i:=1) rfl
 have h2:∀ x ∈ l,OBy wr S x.kv x.k/\OBy wr S x.vv x.v:=h.get (i:=2) rfl
 have hoff:∀ (i:Nat) u,i=1\/i=2->[o0,rowOb 36 2 ov l.length (enCells l),enOO S l,o3,o4][i]?=some u->∀ x,x < wr.heap.size->u.F x->¬N x:=λ i u hi hu x hx hf hn=>by
  rcases hN x hx hn with hw|hw
  ·exact h.fam.apart 0 i _ u rfl hu (by omega) x hw hf
  ·exact h.fam.apart 3 i _ u rfl hu (by omega) x hw hf
 have h3:=h1.keeps k (λ x hx hs=>hoff 1 _ (.inl rfl) rfl x hx hs)
 refine ⟨l,h3.mono (λ x hx hs=>⟨h.own 1 _ rfl x hs,hx⟩),λ x hx=>⟨?_,?_⟩,rfl⟩
 ·exact ((h2 x hx).1.keeps k (λ b hb hs=>hoff 2 _ (.inr rfl) rfl b hb hs)).mono (λ b hb hs=>⟨hS b hs,hb⟩)
 ·exact ((h2 x hx).2.keeps k (λ b hb hs=>hoff 2 _ (.inr rfl) rfl b hb hs)).mono (λ b hb hs=>⟨hS b hs,hb⟩)
theorem k64_root {r:Int} {n:Nat} (h1:1<=r) (h2:r<=n) (h3:n<=65536):K64 r:=k64_in h1 (by omega)
theorem OTx.at_ {w:World} {S:Nat->Prop} {v:Value} {l:List (List UInt8)} {j:Nat} {y:List UInt8} (h:OTx w S v l) (hy:l[j]?=some y):∃ g o c u,v=.slice (some ⟨g,o,none⟩) l.length c/\w.cell? ⟨g,o+j,none⟩=some u/\OBy w S u y:=by
 obtain ⟨vs,h1,h2,h3⟩:=h
 obtain ⟨A,c,e⟩:=h1.form
 subst e
 have hj:j < l.length:=(List.getElem?_eq_some_iff.1 hy).1
 obtain ⟨q1,_,hf⟩:=h1.at_
 rcases hf with ⟨_,hc⟩|⟨g,o,cur,rfl,_,hb,_,hx⟩
 ·omega
 have hv:vs[j]?=some vs[j]:=List.getElem?_eq_getElem (by omega)
 exact ⟨g,o,c,_,rfl,by rw [hb.cell];exact hx j _ hv,h3 j _ y hv hy⟩
theorem OIn.at_ {w:World} {S:Nat->Prop} {v:Value} {l:List Int} {j:Nat} {y:Int} (h:OIn w S v l) (hy:l[j]?=some y):∃ g o c,v=.slice (some ⟨g,o,none⟩) l.length c/\w.cell? ⟨g,o+j,none⟩=some (.int .i64 y):=by
 have h1:Own w S 3 1 v l.length (l.map iV):=h
 obtain ⟨A,c,e⟩:=h1.form
 subst e
 have hj:j < l.length:=(List.getElem?_eq_some_iff.1 hy).1
 obtain ⟨q1,_,hf⟩:=h1.at_
 rcases hf with ⟨_,hc⟩|⟨g,o,cur,rfl,_,hb,_,hx⟩
 ·omega
 exact ⟨g,o,c,rfl,by rw [hb.cell];exact hx j _ (by rw [List.getElem?_map,hy];rfl)⟩
theorem wpList_lookup_want {H:Type} {P:Program} (w:World) {ops:Array Oper} {rest:List Oper} {o:Oper} {a:Act} {Q:Exit->Act->World->Prop}
  (hg:Region.wanted o (yielded ops a.tmps)=true) (m x:Operand) (t:TypeId) (hop:o.op=Op.lookup t m x false)
  (k e:TypeId) (q:IntKind) (K:Keyed P k) (ht:P.underlying t=some (.map k e)) (he:P.underlying e=some (.int q)) (hz:(zeroValue e).run P w=.ok (.int q 0) w) (b n:Nat) (D:DataW H)
  (hm:a.eval m=.map (some b)) (hown:w.ownsMap P k (plainElem P e) b n D) (key:Value) (kl:Lit) (hx:a.eval x=key) (hkey:keyOf P k key=some kl)
  (hK:∀ c:Int,D.atKey kl (.lit (.int q 0))=.lit (.int q c)->(Lit.int q c).wf=true->wpList P ops Q rest (a.put o.dst (.int q c)) w) :
  wpList P ops Q (o::rest) a w:=by
 refine wpList_step λ K' hK'=>?_
 rw [if_pos hg]
 obtain ⟨c,hrun,hat,hwc⟩:=hown.lookup_int K ht he hz hkey
 unfold Oper.wp
 simp [execOp,hop,hm,hx,hrun,Result.andThen]
 exact hK' _ _ (hK c hat hwc)
section
variable {w:World} {M D0:Nat->Prop} {p:Nat} {slots:Value} {ids:List Nat} {A:Ar}
theorem pmapR {R:List Ent} (h0:ArW w M D0 p slots ids A) (hsm:∀ s ∈ A.sl,NdSm 0 s.nd) (hwd:Wide64 A) (hrt:1<=A.root/\A.root<=A.sl.length) (hR:mapOf A=R) (hb:R.length<=4000000000000) :
  Calls Try.prog 15 #[pV p] w λ e w'=>∃ v,e=.returned v/\PMapAt w' (Fresh w w') v R/\Keeps Nob w w':=by
 have hbd:=h0.bound
 have H0:=Hd h0
 have HSM:=Hd hsm
 have HWD:=Hd hwd
 have HR:=Hd hR
 have HBD:Hid (R.length<=4000000000000):=hb
 have HRT:Hid (K64 A.root):=k64_root hrt.1 hrt.2 (by omega)
 have hlen:A.sl.length<=65536:=by omega
 clear h0 hsm hwd hR hb hrt hbd
 unfold pV
 have hmm:=@run_makeMap Try.prog
 go_enter Try.func15,Try.ntmps15
 go_wp2
 go_step3
 go_wp2
 go_step3
 go_wp2_with fail
 refine calls_at (λ w1 hw=>?_)
 have hk:Keeps Nob w w1:=by rw [hw];exact Keeps.alloc _ _ _
 obtain ⟨m,hm⟩:∃ N,w.heap.size=N:=⟨_,rfl⟩
 rw [hm]
 have HF:Hid (Fo w w1 [metOb m [],rowOb 36 2 (.slice none 0 0) ([]:List En).length (enCells ([]:List En)),enOO Nob ([]:List En),noOb,noOb]):=by
  have ho:OwnsI w1 m 0 (.map []):=by rw [hw,<-hm];exact World.ownsMap_made _ _ _ _
  have f1:Fo w w1 ([]++[metOb m []]):=(Fo.nil w).push (o:=metOb m []) hk ⟨_,Met.nil,ho⟩ (λ x e=>by rw [show x=m from e];exact ⟨by omega,by rw [hw];simp;omega⟩) (λ _ h=>h)
  have f2:=f1.nilRow 36 2
  have f3:=f2.push (o:=enOO Nob []) (Keeps.refl _ _) (λ x hx=>by simp at hx) (λ x h=>h.elim) (λ x h=>h.elim)
  exact f3.no.no
 have HM:=Hd hm
 clear hw hm hmm
 have FR:=root_ (H0.out.keeps hk (λ _ _ _ h=>h) (λ _ _ _ h=>h))
 unfold iV pV at FR
 clear hk
 refine FR.mono ?_
 rintro e w' ⟨rfl,rfl⟩
 clear FR
 go_wp2
 go_loopg [3,5,6] (A.sl.length+1) (λ gn outv leafv idv wr=>∃ (met:List Int) (leaf:Bool) (id:Int) (l:List En) (S:Nat->Prop) (o3 o4:Ob),gn=A.sl.length+1-met.length/\leafv=.bool leaf/\idv=.int .i64 id/\K64 id/\MetA A met/\mapM A (A.sl.length+1-met.length) id met leaf (l.map En.e)=R/\(∀ x,S x->w.heap.size<=x)/\Fo w wr [metOb m met,rowOb 36 2 outv l.length (enCells l),enOO S l,o3,o4])
 case atStart=>exact ⟨[],false,A.root,[],Nob,noOb,noOb,rfl,rfl,rfl,HRT.out,⟨List.nodup_nil,λ x hx=>by simp at hx⟩,HR.out,λ x h=>h.elim,HF.out⟩
 clear HF HR HRT
 obtain ⟨met,leaf,id,l,S,o3,o4,hgn,rfl,rfl,hid,hmet,hR,hS,hF⟩:=hrel
 have HGN:=Hd hgn
 have hml:=hmet.len
 rw [mapM_succ hml] at hR
 have hll:l.length<=4000000000000:=by
  have h:=HBD.out
  have h2:=mapM_len A (A.sl.length+1-met.length) id met leaf (l.map En.e)
  rw [mapM_succ hml,hR,List.length_map] at h2
  omega
 have HF:=Hd hF
 have HR:=Hd hR
 have HMA:=Hd hmet
 have HS:=Hd hS
 have HID:=Hd hid
 obtain ⟨oA,oc,eo⟩:=(hF.get (i:=1) rfl:Own wr _ _ 2 _ _ _).form
 subst eo
 have HKW:Hid (w.heap.size<=wr.heap.size):=hF.kept.size
 have HAR:=Hd (H0.out.keeps hF.kept (λ _ _ _ h=>h) (λ _ _ _ h=>h))
 clear hF hR hmet hS hid hgn
 have FO:=λ wx (h:ArW wx M D0 p slots ids A)=>readO (ix:=id) h HSM.out
 unfold pV at FO
 go_wp2_with fail
 refine (FO _ HAR.out).mono ?_
 rintro e w2 ⟨X1,k1,X3,k3,X4,k4,X5,k5,rfl,hn,hk⟩
 replace HF:Hid (Fo w w2 [metOb m met,rowOb 36 2 (.slice oA l.length oc) l.length (enCells l),enOO (λ x=>S x\/Fresh wr w2 x) l,o3,o4]):=Hd (HF.out.grow (i:=2) (o':=enOO (λ x=>S x\/Fresh wr w2 x) l) rfl hk (λ x hx=>by
  have h:∀ x ∈ l,OBy wr S x.kv x.k/\OBy wr S x.vv x.v:=HF.out.get (i:=2) rfl
  exact ⟨((h x hx).1.keeps hk (λ _ _ _ h=>h)).mono (λ _ _ h=>.inl h),((h x hx).2.keeps hk (λ _ _ _ h=>h)).mono (λ _ _ h=>.inl h)⟩) (λ x hx=>hx) (λ _ h=>h))
 have HND:=Hd (hn.mono (T:=λ x=>S x\/Fresh wr w2 x) (λ x _ hx=>.inr hx))
 have HS2:Hid (∀ x,(S x\/Fresh wr w2 x)->w.heap.size<=x):=λ x hx=>by
  rcases hx with h|h
  ·exact HS.out x h
  ·have h1:=h.1;have h2:=HF.out.kept.size;exact Nat.le_trans HKW.out h1
 clear hk hn HS HAR FO
 have f0:=((Blk.new w2 75 #[.int .i64 0,.slice none 0 0,.int .i64 0,.slice none 0 0,.slice none 0 0,.slice none 0 0])).frozen 0
 have z0:=((Blk.new w2 75 #[.int .i64 0,.slice none 0 0,.int .i64 0,.slice none 0 0,.slice none 0 0,.slice none 0 0])).cell 0
 have f1:=λ (v0:Value)=>(((Blk.new w2 75 #[.int .i64 0,.slice none 0 0,.int .i64 0,.slice none 0 0,.slice none 0 0,.slice none 0 0])).set_ 0 v0).frozen 1
 have z1:=λ (v0:Value)=>(((Blk.new w2 75 #[.int .i64 0,.slice none 0 0,.int .i64 0,.slice none 0 0,.slice none 0 0,.slice none 0 0])).set_ 0 v0).cell 1
 have f2:=λ (v0 v1:Value)=>((((Blk.new w2 75 #[.int .i64 0,.slice none 0 0,.int .i64 0,.slice none 0 0,.slice none 0 0,.slice none 0 0])).set_ 0 v0).set_ 1 v1).frozen 2
 have z2:=λ (v0 v1:Value)=>((((Blk.new w2 75 #[.int .i64 0,.slice none 0 0,.int .i64 0,.slice none 0 0,.slice none 0 0,.slice none 0 0])).set_ 0 v0).set_ 1 v1).cell 2
 have f3:=λ (v0 v1 v2:Value)=>(((((Blk.new w2 75 #[.int .i64 0,.slice none 0 0,.int .i64 0,.slice none 0 0,.slice none 0 0,.slice none 0 0])).set_ 0 v0).set_ 1 v1).set_ 2 v2).frozen 3
 have z3:=λ (v0 v1 v2:Value)=>(((((Blk.new w2 75 #[.int .i64 0,.slice none 0 0,.int .i64 0,.slice none 0 0,.slice none 0 0,.slice none 0 0])).set_ 0 v0).set_ 1 v1).set_ 2 v2).cell 3
 have f4:=λ (v0 v1 v2 v3:Value)=>((((((Blk.new w2 75 #[.int .i64 0,.slice none 0 0,.int .i64 0,.slice none 0 0,.slice none 0 0,.slice none 0 0])).set_ 0 v0).set_ 1 v1).set_ 2 v2).set_ 3 v3).frozen 4
 have z4:=λ (v0 v1 v2 v3:Value)=>((((((Blk.new w2 75 #[.int .i64 0,.slice none 0 0,.int .i64 0,.slice none 0 0,.slice none 0 0,.slice none 0 0])).set_ 0 v0).set_ 1 v1).set_ 2 v2).set_ 3 v3).cell 4
 have f5:=λ (v0 v1 v2 v3 v4:Value)=>(((((((Blk.new w2 75 #[.int .i64 0,.slice none 0 0,.int .i64 0,.slice none 0 0,.slice none 0 0,.slice none 0 0])).set_ 0 v0).set_ 1 v1).set_ 2 v2).set_ 3 v3).set_ 4 v4).frozen 5
 have z5:=λ (v0 v1 v2 v3 v4:Value)=>(((((((Blk.new w2 75 #[.int .i64 0,.slice none 0 0,.int .i64 0,.slice none 0 0,.slice none 0 0,.slice none 0 0])).set_ 0 v0).set_ 1 v1).set_ 2 v2).set_ 3 v3).set_ 4 v4).cell 5
 go_upto_region 8 with (fail)
 clear f0 z0 f1 z1 f2 z2 f3 z3 f4 z4 f5 z5
 refine code_at (λ w3 hw=>?_)
 obtain ⟨P7,hP⟩:∃ N,w2.heap.size=N:=⟨_,rfl⟩
 rw [hP]
 have hk:Keeps Nob w2 w3:=by rw [hw];exact Keeps.alloc _ _ _
 have hb7:Blk w3 P7 75 #[.int .i64 (opNd A id).lvl,.slice X1 (opNd A id).high.length k1,.int .i64 (opNd A id).right,.slice X3 (opNd A id).keys.length k3,.slice X4 (opNd A id).vals.length k4,.slice X5 (opNd A id).kids.length k5]:=by rw [hw,<-hP];exact Blk.new _ _ _
 obtain ⟨S2,hS2⟩:∃ S2:Nat->Prop,(λ x=>S x\/Fresh wr w2 x)=S2:=⟨_,rfl⟩
 rw [hS2] at HF HND
 have HS3:Hid (∀ x,S2 x->w.heap.size<=x):=by rw [<-hS2];exact HS2.out
 replace HF:Hid (Fo w w3 [metOb m met,rowOb 36 2 (.slice oA l.length oc) l.length (enCells l),enOO S2 l,(muBlk P7 75 #[.int .i64 (opNd A id).lvl,.slice X1 (opNd A id).high.length k1,.int .i64 (opNd A id).right,.slice X3 (opNd A id).keys.length k3,.slice X4 (opNd A id).vals.length k4,.slice X5 (opNd A id).kids.length k5]),o4]):=Hd (HF.out.blkPut (i:=3) rfl hk hb7 (Nat.le_of_eq hP))
 replace HND:=Hd (HND.out.keeps hk (λ _ _ _ h=>h))
 obtain ⟨Dm,hmt,hown⟩:=(HF.out.get (i:=0) rfl:∃ Dm,Met Dm met/\OwnsI w3 m met.length Dm)
 have HMT:=Hd hmt
 have HOWN:=Hd hown
 have HFA:Hid (∀ x,x=m->¬S2 x):=Hd (λ x e hx=>HF.out.fam.apart 0 2 _ _ rfl rfl (by decide) x e hx)
 have HKEY:Hid (keyOf Try.prog 3 (.int .i64 id)=some (.int .i64 id)):=Hd (keyOf_int_mk Try.underlying3 HID.out)
 clear hw hP hk hb7 hS2 HS2 hmt hown HKW
 rcases hg:A.get id with _|s
 ·as_aux_lemma=>
  obtain rfl:l.map En.e=R:=by have h:=HR.out;rw [hg] at h;exact h
  have hcon:id ∉ met:=λ h=>by
   obtain ⟨s,hs⟩:=get_in (HMA.out.2 id h).1 (HMA.out.2 id h).2
   rw [hg] at hs;cases hs
  have HAT:Hid (Dm.atKey (.int .i64 id) (.lit (.int .i64 0))=.lit (.int .i64 0)):=by
   have h:=HMT.out.2 id
   rw [if_neg hcon] at h
   exact Hd h
  clear hg hcon
  go_wp2_with (first|(at_lookup;refine wpList_lookup_own_int _ rfl _ _ 93 rfl 3 3 .i64 Try.lawInt Try.underlying93 Try.underlying3 (Try.zeroInt _) m _ _ rfl HOWN.out _ _ rfl HKEY.out ?_;intro c hat hwc;have hcc:=lit_inj (hat.symm.trans HAT.out);subst hcc;clear hat hwc)|(at_mapUpdate;refine wpList_mapUpdate_own _ rfl _ _ _ 93 rfl 3 3 Try.lawInt Try.underlying93 _ m _ _ rfl HOWN.out (by unfold maxLen;omega) _ _ _ rfl rfl HKEY.out (.lit (.int .i64 1)) [] (plainElem_int Try.underlying3 (by decide)) ?_;intro b1 hown1 hgrow1;have hk1:Keeps (λ b=>b=m) w3 b1:=Keeps.grown hgrow1 (λ j hj=>by injection hj with hj;exact hj.symm);have HK1:=Hd hk1;clear hown1 hgrow1 hk1))
  rw [Exit.noGoto_ret]
  go_wp2
  go_ret
  exact ⟨_,rfl,pmap_done HF.out HS3.out HK1.out (λ x _ e=>.inl e),HF.out.kept.trans HK1.out (λ x hx e=>by have h1:=HM.out;have e2:x=m:=e;omega)⟩
 have eN:opNd A id=s.nd:=opNd_some hg
 rw [eN] at HF HND
 rw [eN]
 clear eN
 rcases hcon:met.contains id with _|_
 rotate_left
 ·as_aux_lemma=>
  obtain rfl:l.map En.e=R:=by have h:=HR.out;rw [hg] at h;simp only [hcon,if_true] at h;exact h
  have HAT:Hid (Dm.atKey (.int .i64 id) (.lit (.int .i64 0))=.lit (.int .i64 1)):=by
   have h:=HMT.out.2 id
   rw [if_pos (by simpa using hcon)] at h
   exact Hd h
  clear hg hcon
  go_wp2_with (first|(at_lookup;refine wpList_lookup_own_int _ rfl _ _ 93 rfl 3 3 .i64 Try.lawInt Try.underlying93 Try.underlying3 (Try.zeroInt _) m _ _ rfl HOWN.out _ _ rfl HKEY.out ?_;intro c hat hwc;have hcc:=lit_inj (hat.symm.trans HAT.out);subst hcc;clear hat hwc)|(at_mapUpdate;refine wpList_mapUpdate_own _ rfl _ _ _ 93 rfl 3 3 Try.lawInt Try.underlying93 _ m _ _ rfl HOWN.out (by unfold maxLen;omega) _ _ _ rfl rfl HKEY.out (.lit (.int .i64 2)) [] (plainElem_int Try.underlying3 (by decide)) ?_;intro b1 hown1 hgrow1;have hk1:Keeps (λ b=>b=m) w3 b1:=Keeps.grown hgrow1 (λ j hj=>by injection hj with hj;exact hj.symm);have HK1:=Hd hk1;have HOWN2:=Hd hown1;have HAT2:Hid ((Dm.put (.int .i64 id) (.lit (.int .i64 2))).atKey (.int .i64 id) (.lit (.int .i64 0))=.lit (.int .i64 2)):=Hd (atKey_put_same HMT.out.1 (key_int id) _ _);clear hown1 hgrow1 hk1)|(at_lookup;refine wpList_lookup_want _ (by rfl) _ _ 93 rfl 3 3 .i64 Try.lawInt Try.underlying93 Try.underlying3 (Try.zeroInt _) m _ _ rfl HOWN2.out _ _ rfl HKEY.out ?_;intro c hat hwc;have hcc:=lit_inj (hat.symm.trans HAT2.out);subst hcc;clear hat hwc))
  rw [Exit.noGoto_ret]
  go_wp2
  go_ret
  exact ⟨_,rfl,pmap_done HF.out HS3.out HK1.out (λ x _ e=>.inl e),HF.out.kept.trans HK1.out (λ x hx e=>by have h1:=HM.out;have e2:x=m:=e;omega)⟩
 have HAT:Hid (Dm.atKey (.int .i64 id) (.lit (.int .i64 0))=.lit (.int .i64 0)):=by
  have h:=HMT.out.2 id
  rw [if_neg (by simpa using hcon)] at h
  exact Hd h
 have HM2:Hid (MetA A (met++[id])):=Hd (HMA.out.snoc hg hcon)
 have HML:Hid (A.sl.length+1-(met++[id]).length < gk):=by
  have h1:=HM2.out.len
  have h2:=HGN.out
  rw [List.length_append,List.length_singleton] at h1 ⊢
  show _ < _
  omega
 have hml2:(met++[id]).length<=A.sl.length:=HM2.out.len
 replace HR:Hid ((if 0 < s.nd.lvl then (if s.nd.kids.length=0\/(leaf||decide (s.nd.lvl<=0))=true then l.map En.e else mapM A (A.sl.length+1-(met++[id]).length) (s.nd.kids.getD 0 0) (met++[id]) (leaf||decide (s.nd.lvl<=0)) (l.map En.e)) else mapM A (A.sl.length+1-(met++[id]).length) s.nd.right (met++[id]) (leaf||decide (s.nd.lvl<=0)) (l.map En.e++ents s.nd))=R):=by
  have h:=HR.out;rw [hg] at h;simp only [hcon,Bool.false_eq_true,if_false] at h
  rw [show A.sl.length+1-(met++[id]).length=A.sl.length-met.length by rw [List.length_append,List.length_singleton];omega]
  exact h
 have HSM2:Hid (NdSm 0 s.nd/\Wd s.nd):=by obtain ⟨_,_,h2,_⟩:=get_some hg;exact Hd ⟨HSM.out s (List.mem_of_getElem? h2),HWD.out s (List.mem_of_getElem? h2)⟩
 clear hg hcon HMA HID HGN
 go_upto_region 9 with (first|(at_lookup;refine wpList_lookup_own_int _ rfl _ _ 93 rfl 3 3 .i64 Try.lawInt Try.underlying93 Try.underlying3 (Try.zeroInt _) m _ _ rfl HOWN.out _ _ rfl HKEY.out ?_;intro c hat hwc;have hcc:=lit_inj (hat.symm.trans HAT.out);subst hcc;clear hat hwc)|(at_mapUpdate;refine wpList_mapUpdate_own _ rfl _ _ _ 93 rfl 3 3 Try.lawInt Try.underlying93 _ m _ _ rfl HOWN.out (by unfold maxLen;omega) _ _ _ rfl rfl HKEY.out (.lit (.int .i64 1)) [] (plainElem_int Try.underlying3 (by decide)) ?_;intro b1 hown1 hgrow1;have hk1:Keeps (λ b=>b=m) w3 b1:=Keeps.grown hgrow1 (λ j hj=>by injection hj with hj;exact hj.symm);have HK1:=Hd hk1;have HOWN2:=Hd hown1;have HAT2:Hid ((Dm.put (.int .i64 id) (.lit (.int .i64 1))).atKey (.int .i64 id) (.lit (.int .i64 0))=.lit (.int .i64 1)):=Hd (atKey_put_same HMT.out.1 (key_int id) _ _);clear hown1 hgrow1 hk1))
 replace HF:Hid (Fo w b1 [metOb m (met++[id]),rowOb 36 2 (.slice oA l.length oc) l.length (enCells l),enOO S2 l,(muBlk P7 75 #[.int .i64 s.nd.lvl,.slice X1 s.nd.high.length k1,.int .i64 s.nd.right,.slice X3 s.nd.keys.length k3,.slice X4 s.nd.vals.length k4,.slice X5 s.nd.kids.length k5]),o4]):=Hd (HF.out.wr (i:=0) rfl HK1.out (λ x _ e=>e) ⟨_,HMT.out.step id,by rw [List.length_append,List.length_singleton];exact HOWN2.out⟩ (λ x hx=>.inl hx) (λ x hx=>.inl hx) (λ _ h=>h))
 replace HND:Hid (ONd b1 S2 (.int .i64 s.nd.lvl) (.slice X1 s.nd.high.length k1) (.int .i64 s.nd.right) (.slice X3 s.nd.keys.length k3) (.slice X4 s.nd.vals.length k4) (.slice X5 s.nd.kids.length k5) s.nd):=Hd (HND.out.keeps HK1.out (λ x _ hx e=>HFA.out x e hx))
 clear HK1 HFA HOWN HMT HAT
 have hb7:Blk b1 P7 75 #[.int .i64 s.nd.lvl,.slice X1 s.nd.high.length k1,.int .i64 s.nd.right,.slice X3 s.nd.keys.length k3,.slice X4 s.nd.vals.length k4,.slice X5 s.nd.kids.length k5]:=HF.out.get (i:=3) rfl
 have n0:=hb7.cell 0
 have n2:=hb7.cell 2
 have n5:=hb7.cell 5
 clear hb7
 by_cases hl:0 < s.nd.lvl
 ·have hle:¬s.nd.lvl<=0:=by omega
  replace HR:Hid ((if s.nd.kids.length=0\/leaf=true then l.map En.e else mapM A (A.sl.length+1-(met++[id]).length) (s.nd.kids.getD 0 0) (met++[id]) leaf (l.map En.e))=R):=by
   have h:=HR.out;rw [if_pos hl,decide_eq_false hle,Bool.or_false] at h;exact h
  by_cases hk0:s.nd.kids.length=0
  ·have hz:((s.nd.kids.length:Int)==0)=true:=by simpa using hk0
   obtain rfl:l.map En.e=R:=by have h:=HR.out;rw [if_pos (.inl hk0)] at h;exact h
   clear hk0 HR
   rcases leaf with _|_
   ·as_aux_lemma=>
    go_wp2_with (at_lookup;refine wpList_lookup_want _ (by rfl) _ _ 93 rfl 3 3 .i64 Try.lawInt Try.underlying93 Try.underlying3 (Try.zeroInt _) m _ _ rfl HOWN2.out _ _ rfl HKEY.out ?_;intro c hat hwc;have hcc:=lit_inj (hat.symm.trans HAT2.out);subst hcc;clear hat hwc)
    go_ret
    exact ⟨_,rfl,pmap_done HF.out HS3.out (Keeps.refl Nob _) (λ x _ h=>h.elim),HF.out.kept⟩
   ·as_aux_lemma=>
    go_wp2_with (at_lookup;refine wpList_lookup_want _ (by rfl) _ _ 93 rfl 3 3 .i64 Try.lawInt Try.underlying93 Try.underlying3 (Try.zeroInt _) m _ _ rfl HOWN2.out _ _ rfl HKEY.out ?_;intro c hat hwc;have hcc:=lit_inj (hat.symm.trans HAT2.out);subst hcc;clear hat hwc)
    go_ret
    exact ⟨_,rfl,pmap_done HF.out HS3.out (Keeps.refl Nob _) (λ x _ h=>h.elim),HF.out.kept⟩
  ·have hz:((s.nd.kids.length:Int)==0)=false:=by simpa using hk0
   rcases leaf with _|_
   rotate_left
   ·as_aux_lemma=>
    obtain rfl:l.map En.e=R:=by have h:=HR.out;rw [if_pos (.inr rfl)] at h;exact h
    clear hk0 HR
    go_wp2_with (at_lookup;refine wpList_lookup_want _ (by rfl) _ _ 93 rfl 3 3 .i64 Try.lawInt Try.underlying93 Try.underlying3 (Try.zeroInt _) m _ _ rfl HOWN2.out _ _ rfl HKEY.out ?_;intro c hat hwc;have hcc:=lit_inj (hat.symm.trans HAT2.out);subst hcc;clear hat hwc)
    go_ret
    exact ⟨_,rfl,pmap_done HF.out HS3.out (Keeps.refl Nob _) (λ x _ h=>h.elim),HF.out.kept⟩
   ·as_aux_lemma=>
    replace HR:Hid (mapM A (A.sl.length+1-(met++[id]).length) (s.nd.kids.getD 0 0) (met++[id]) false (l.map En.e)=R):=by
     have h:=HR.out;rw [if_neg (by intro h;rcases h with h|h;exact hk0 h;cases h)] at h;exact h
    obtain ⟨kd,hkd⟩:∃ kd,s.nd.kids[0]?=some kd:=⟨_,List.getElem?_eq_getElem (by omega)⟩
    have hgd:s.nd.kids.getD 0 0=kd:=by rw [List.getD_eq_getElem?_getD,hkd];rfl
    rw [hgd] at HR
    have HKD:Hid (K64 kd):=Hd (HSM2.out.2.2 kd (List.mem_of_getElem? hkd))
    obtain ⟨g,o,c,ek,r7⟩:=OIn.at_ HND.out.2.kids hkd
    injection ek with e1 _ e2
    subst e1 e2
    have hkp:0 < s.nd.kids.length:=by omega
    rw [Nat.add_zero] at r7
    clear hkd hgd hk0
    go_wp2_with (at_lookup;refine wpList_lookup_want _ (by rfl) _ _ 93 rfl 3 3 .i64 Try.lawInt Try.underlying93 Try.underlying3 (Try.zeroInt _) m _ _ rfl HOWN2.out _ _ rfl HKEY.out ?_;intro c hat hwc;have hcc:=lit_inj (hat.symm.trans HAT2.out);subst hcc;clear hat hwc)
    clear n0 n2 n5 r7
    go_roundg (A.sl.length+1-(met++[id]).length)
    case measure=>exact HML.out
    case rel=>exact ⟨met++[id],false,kd,l,S2,_,_,rfl,rfl,rfl,HKD.out,HM2.out,HR.out,HS3.out,HF.out⟩
 have hle:s.nd.lvl<=0:=by omega
 replace HR:Hid (mapM A (A.sl.length+1-(met++[id]).length) s.nd.right (met++[id]) true (l.map En.e++ents s.nd)=R):=by
  have h:=HR.out;rw [if_neg hl,decide_eq_true hle,Bool.or_true] at h;exact h
 have hlk:l.length+s.nd.keys.length<=4000000000000:=by
  have h:=HBD.out
  have h2:=mapM_len A (A.sl.length+1-(met++[id]).length) s.nd.right (met++[id]) true (l.map En.e++ents s.nd)
  rw [HR.out,List.length_append,List.length_map,ents_len] at h2
  omega
 have n3:=(HF.out.get (i:=3) rfl:Blk b1 P7 _ _).cell 3
 have hkz:s.nd.keys.length<=9223372036854775807:=by omega
 rcases leaf with _|_
 all_goals
  as_aux_lemma=>
  go_wp2_with (at_lookup;refine wpList_lookup_want _ (by rfl) _ _ 93 rfl 3 3 .i64 Try.lawInt Try.underlying93 Try.underlying3 (Try.zeroInt _) m _ _ rfl HOWN2.out _ _ rfl HKEY.out ?_;intro c hat hwc;have hcc:=lit_inj (hat.symm.trans HAT2.out);subst hcc;clear hat hwc)
  clear n0 n2 n3 n5
  go_loopw [3,68] (λ outv iv wz=>∃ (j:Nat) (l2:List En) (o5:Ob),j<=s.nd.keys.length/\iv=.int .i64 j/\l2.map En.e=l.map En.e++(ents s.nd).take j/\Fo w wz [metOb m (met++[id]),rowOb 36 2 outv l2.length (enCells l2),enOO S2 l2,(muBlk P7 75 #[.int .i64 s.nd.lvl,.slice X1 s.nd.high.length k1,.int .i64 s.nd.right,.slice X3 s.nd.keys.length k3,.slice X4 s.nd.vals.length k4,.slice X5 s.nd.kids.length k5]),o5]/\ONd wz S2 (.int .i64 s.nd.lvl) (.slice X1 s.nd.high.length k1) (.int .i64 s.nd.right) (.slice X3 s.nd.keys.length k3) (.slice X4 s.nd.vals.length k4) (.slice X5 s.nd.kids.length k5) s.nd) (λ _ iv _=>s.nd.keys.length-(intOf iv).toNat)
  case atStart=>exact ⟨0,l,o4,Nat.zero_le _,rfl,by simp,HF.out,HND.out⟩
  clear HF HND HOWN2 HAT2
  obtain ⟨j,l2,o5,hj,rfl,hl2,hF,hnd⟩:=hrel
  have HF:=Hd hF
  have HND:=Hd hnd
  have HL2:=Hd hl2
  obtain ⟨oA2,oc2,eo⟩:=(hF.get (i:=1) rfl:Own wr _ _ 2 _ _ _).form
  subst eo
  have hll2:l2.length=l.length+j:=by
   have h:=congrArg List.length hl2
   rw [List.length_map,List.length_append,List.length_map,List.length_take,ents_len] at h
   omega
  have hl4:l2.length+1<=4000000000001:=by omega
  clear hF hnd hl2 hll2
  rcases Nat.lt_or_ge j s.nd.keys.length with hlt|hlt
  rotate_left
  ·as_aux_lemma=>
   obtain rfl:j=s.nd.keys.length:=by omega
   replace HR:Hid (mapM A (A.sl.length+1-(met++[id]).length) s.nd.right (met++[id]) true (l2.map En.e)=R):=by
    have h:=HR.out
    have h2:=HL2.out
    rw [List.take_of_length_le (by rw [ents_len];exact Nat.le_refl _)] at h2
    rw [<-h2] at h
    exact h
   clear HL2 HND
   go_wp2
   go_roundg (A.sl.length+1-(met++[id]).length)
   case measure=>exact HML.out
   case rel=>exact ⟨met++[id],true,s.nd.right,l2,S2,_,_,rfl,rfl,rfl,HSM2.out.2.1,HM2.out,HR.out,HS3.out,HF.out⟩
  obtain ⟨y,hy⟩:∃ y,s.nd.keys[j]?=some y:=⟨_,List.getElem?_eq_getElem hlt⟩
  have HTK:Hid ((ents s.nd).take (j+1)=(ents s.nd).take j++[(y,s.nd.vals.getD j [])]):=by show _=_;rw [List.take_add_one,ents_at hy];rfl
  obtain ⟨g,o,c,u,ek,hcu,hou⟩:=OTx.at_ HND.out.2.keys hy
  injection ek with e1 _ e2
  subst e1 e2
  obtain ⟨KA,kc,eu⟩:=hou.form
  subst eu
  have HKB:Hid (OBy wr S2 (.slice KA y.length kc) y):=Hd hou
  clear hy hou
  go_upto_region 19 with (fail)
  clear hcu
  refine code_at (λ w4 hw=>?_)
  obtain ⟨P11,hP⟩:∃ N,wr.heap.size=N:=⟨_,rfl⟩
  rw [hP]
  have hk4:Keeps Nob wr w4:=by rw [hw];exact Keeps.alloc _ _ _
  have hb4:Blk w4 P11 36 #[.slice KA y.length kc,.slice none 0 0]:=by rw [hw,<-hP];exact Blk.new _ _ _
  replace HF:=Hd (HF.out.blkPut (i:=4) rfl hk4 hb4 (Nat.le_of_eq hP))
  replace HND:=Hd (HND.out.keeps hk4 (λ _ _ _ h=>h))
  replace HKB:=Hd (HKB.out.keeps hk4 (λ _ _ _ h=>h))
  clear hw hP hk4
  have n4:=(HF.out.get (i:=3) rfl:Blk w4 P7 _ _).cell 4
  by_cases hv:j < s.nd.vals.length
  ·as_aux_lemma=>
   obtain ⟨val,hval⟩:∃ val,s.nd.vals[j]?=some val:=⟨_,List.getElem?_eq_getElem hv⟩
   have HV0:Hid (s.nd.vals.getD j []=val):=by show _=_;rw [List.getD_eq_getElem?_getD,hval];rfl
   obtain ⟨g2,o2,c2,u2,ek,hcu,hou⟩:=OTx.at_ HND.out.2.vals hval
   injection ek with e1 _ e2
   subst e1 e2
   obtain ⟨VA,vc,eu⟩:=hou.form
   subst eu
   have HVB:Hid (OBy w4 S2 (.slice VA val.length vc) val):=Hd hou
   have x1:=hb4.cell 1
   have f1:=hb4.frozen 1
   clear hval hou
   go_upto_region 21 with (fail)
   clear hcu x1 f1 n4
   refine code_at (λ w5 hw=>?_)
   have hk5:Keeps (λ x=>x=P11) w4 w5:=by rw [hw];exact Keeps.setCell _ (M:=λ x=>x=P11) rfl _
   have hbx:Blk w5 P11 36 #[.slice KA y.length kc,.slice VA val.length vc]:=by rw [hw];exact hb4.set_ 1 _
   have hoff5:∀ x,x < w4.heap.size->S2 x->¬x=P11:=λ x _ hx e=>HF.out.fam.apart 4 2 _ _ rfl rfl (by decide) x e hx
   replace HND:=Hd (HND.out.keeps hk5 hoff5)
   replace HKB:=Hd (HKB.out.keeps hk5 hoff5)
   replace HVB:=Hd (HVB.out.keeps hk5 hoff5)
   replace HF:=Hd (HF.out.blkSet (i:=4) rfl hk5 hbx)
   clear hw hk5 hoff5 hb4
   have x0:=hbx.cell 0
   have x1:=hbx.cell 1
   have lx:=hbx.lt
   clear hbx
   obtain ⟨j1,hj1,hy0,hy1,hy2⟩:=info_parts Try.inf_entry
   go_wp2_with (at_builtin;refine list_at (λ wd hwd=>?_);refine wpList_app rfl (.tmp 88) (.tmp 90) 24 rfl Try.underlying24 hj1 hy0 hy1 hy2 rfl (by decide) (v:=.slice oA2 l2.length oc2) (n:=l2.length) (m:=1) (S:=λ x=>(Value.slice oA2 l2.length oc2).ownBlock=some x) (T:=λ _=>True) (xs:=enCells l2) (news:=[.slice KA y.length kc,.slice VA val.length vc]) rfl ?d1 (y:=.slice (some ⟨w5.heap.size,0,none⟩) 1 1) rfl ?d2 ?d3 ?d4 ?d5 ?d6)
   case d1=>
    try rw [hwd]
    exact ((HF.out.nob (Keeps.alloc Nob _ _)).get (i:=1) rfl)
   case d2=>
    try rw [hwd]
    exact (SlG.lit _ _ [.slice KA y.length kc,.slice VA val.length vc] 2 1 _ (by simp) rfl (by decide)).mono (λ _ _ _=>trivial)
   case d3=>first|exact ⟨rfl,rfl⟩|(intro u hu;simp only [List.mem_cons,List.not_mem_nil,or_false] at hu;rcases hu with h|h<;>subst h<;>rfl)
   case d4=>unfold maxLen;omega
   case d5=>omega
   case d6=>
   intro v' w8 ho hk8 _
   obtain ⟨Av,cv,ev⟩:=ho.form
   subst ev
   try rw [<-hwd] at ho
   try rw [<-hwd] at hk8
   have hkd:Keeps Nob w5 wd:=by rw [hwd];exact Keeps.alloc _ _ _
   have hoff:∀ x,x < wd.heap.size->S2 x->¬(Value.slice oA2 l2.length oc2).ownBlock=some x:=λ x _ hx e=>HF.out.fam.apart 1 2 _ _ rfl rfl (by decide) x e hx
   replace HND:=Hd ((HND.out.keeps hkd (λ _ _ _ h=>h)).keeps hk8 hoff)
   replace HKB:=Hd ((HKB.out.keeps hkd (λ _ _ _ h=>h)).keeps hk8 hoff)
   replace HVB:=Hd ((HVB.out.keeps hkd (λ _ _ _ h=>h)).keeps hk8 hoff)
   have HF8:=Hd ((HF.out.nob hkd).app (i:=1) rfl hk8 (ho.mono (λ b _ hb=>hb.imp (λ h=>h) (λ h=>⟨by first|exact h.1|(rw [hwd];simpa using h.1),h.2⟩))))
   clear ho hk8 hkd hwd x0 x1 lx HF hoff hj1 hy0 hy1 hy2
   have HF9:=Hd (HF8.out.grow (i:=2) (o':=enOO S2 (l2++[⟨.slice KA y.length kc,.slice VA val.length vc,y,val⟩])) rfl (Keeps.refl _ _) (λ x hx=>by
    rcases List.mem_append.1 hx with hx|hx
    ·exact (HF8.out.get (i:=2) rfl:∀ x ∈ l2,OBy w8 S2 x.kv x.k/\OBy w8 S2 x.vv x.v) x hx
    ·simp at hx;subst hx
     exact ⟨HKB.out,HVB.out⟩) (λ x hx=>.inl hx) (λ _ h=>h))
   clear HF8
   go_wp2
   go_roundw
   case rel=>
    refine ⟨j+1,l2++[⟨.slice KA y.length kc,.slice VA val.length vc,y,val⟩],muBlk P11 36 #[.slice KA y.length kc,.slice VA val.length vc],by omega,by go_num,?_,?_,HND.out⟩
    ·rw [HTK.out,HV0.out,List.map_append,HL2.out,List.append_assoc];rfl
    ·rw [List.length_append,List.length_singleton,enCells_snoc];exact HF9.out
   case measure=>simp [intOf];omega
  ·as_aux_lemma=>
   have HV0:Hid (s.nd.vals.getD j []=[]):=by show _=_;rw [List.getD_eq_getElem?_getD,List.getElem?_eq_none (by omega)];rfl
   go_upto_region 21 with (fail)
   clear n4
   have hbx:=hb4
   clear hb4
   have x0:=hbx.cell 0
   have x1:=hbx.cell 1
   have lx:=hbx.lt
   clear hbx
   obtain ⟨j1,hj1,hy0,hy1,hy2⟩:=info_parts Try.inf_entry
   go_wp2_with (at_builtin;refine list_at (λ wd hwd=>?_);refine wpList_app rfl (.tmp 88) (.tmp 90) 24 rfl Try.underlying24 hj1 hy0 hy1 hy2 rfl (by decide) (v:=.slice oA2 l2.length oc2) (n:=l2.length) (m:=1) (S:=λ x=>(Value.slice oA2 l2.length oc2).ownBlock=some x) (T:=λ _=>True) (xs:=enCells l2) (news:=[.slice KA y.length kc,.slice none 0 0]) rfl ?d1 (y:=.slice (some ⟨w4.heap.size,0,none⟩) 1 1) rfl ?d2 ?d3 ?d4 ?d5 ?d6)
   case d1=>
    try rw [hwd]
    exact ((HF.out.nob (Keeps.alloc Nob _ _)).get (i:=1) rfl)
   case d2=>
    try rw [hwd]
    exact (SlG.lit _ _ [.slice KA y.length kc,.slice none 0 0] 2 1 _ (by simp) rfl (by decide)).mono (λ _ _ _=>trivial)
   case d3=>first|exact ⟨rfl,rfl⟩|(intro u hu;simp only [List.mem_cons,List.not_mem_nil,or_false] at hu;rcases hu with h|h<;>subst h<;>rfl)
   case d4=>unfold maxLen;omega
   case d5=>omega
   case d6=>
   intro v' w8 ho hk8 _
   obtain ⟨Av,cv,ev⟩:=ho.form
   subst ev
   try rw [<-hwd] at ho
   try rw [<-hwd] at hk8
   have hkd:Keeps Nob w4 wd:=by rw [hwd];exact Keeps.alloc _ _ _
   have hoff:∀ x,x < wd.heap.size->S2 x->¬(Value.slice oA2 l2.length oc2).ownBlock=some x:=λ x _ hx e=>HF.out.fam.apart 1 2 _ _ rfl rfl (by decide) x e hx
   replace HND:=Hd ((HND.out.keeps hkd (λ _ _ _ h=>h)).keeps hk8 hoff)
   replace HKB:=Hd ((HKB.out.keeps hkd (λ _ _ _ h=>h)).keeps hk8 hoff)
   have HF8:=Hd ((HF.out.nob hkd).app (i:=1) rfl hk8 (ho.mono (λ b _ hb=>hb.imp (λ h=>h) (λ h=>⟨by first|exact h.1|(rw [hwd];simpa using h.1),h.2⟩))))
   clear ho hk8 hkd hwd x0 x1 lx HF hoff hj1 hy0 hy1 hy2
   have HF9:=Hd (HF8.out.grow (i:=2) (o':=enOO S2 (l2++[⟨.slice KA y.length kc,.slice none 0 0,y,[]⟩])) rfl (Keeps.refl _ _) (λ x hx=>by
    rcases List.mem_append.1 hx with hx|hx
    ·exact (HF8.out.get (i:=2) rfl:∀ x ∈ l2,OBy w8 S2 x.kv x.k/\OBy w8 S2 x.vv x.v) x hx
    ·simp at hx;subst hx
     exact ⟨HKB.out,OBy.nil _ _⟩) (λ x hx=>.inl hx) (λ _ h=>h))
   clear HF8
   go_wp2
   go_roundw
   case rel=>
    refine ⟨j+1,l2++[⟨.slice KA y.length kc,.slice none 0 0,y,[]⟩],muBlk P11 36 #[.slice KA y.length kc,.slice none 0 0],by omega,by go_num,?_,?_,HND.out⟩
    ·rw [HTK.out,HV0.out,List.map_append,HL2.out,List.append_assoc];rfl
    ·rw [List.length_append,List.length_singleton,enCells_snoc];exact HF9.out
   case measure=>simp [intOf];omega
end
end Go.Proofs.Ytjcgphhpaenjkaa
