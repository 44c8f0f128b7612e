import Derived.Test.YtjcgphhpaenjkaaGreatPkC3
import Derived.Test.YtjcgphhpaenjkaaGreatPkA5
import Derived.BigQuiet
set_option maxHeartbeats 64000000
set_option maxRecDepth 100000
set_option linter.unusedVariables false
namespace Go.Proofs.YtjcgphhpaenjkaaGreat
open Go.RowKit
def stepE (x:En) (o:List En × Bool) (e:En):List En × Bool:=
 if cmp e.k x.k≠0 then ((if 0<=cmp e.k x.k/\o.2=false then (o.1++[x],true) else o).1++[e],(if 0<=cmp e.k x.k/\o.2=false then (o.1++[x],true) else o).2) else (if 0<=cmp e.k x.k/\o.2=false then (o.1++[x],true) else o)
def setL (x:En) (l:List En):List En × Bool:=l.foldl (stepE x) ([],false)
def setE (x:En) (l:List En):List En:=if (setL x l).2=false then (setL x l).1++[x] else (setL x l).1
theorem setL_succ {x e:En} {l:List En} {j:Nat} (h:l[j]?=some e):setL x (l.take (j+1))=stepE x (setL x (l.take j)) e:=by
 unfold setL
 rw [List.take_add_one,h]
 simp
theorem stepE_len (x e:En) (o:List En × Bool):(stepE x o e).1.length+(if (stepE x o e).2=true then 0 else 1)<=o.1.length+(if o.2=true then 0 else 1)+1:=by
 obtain ⟨l,b⟩:=o
 unfold stepE
 cases b<;>(repeat' split)<;>simp_all<;>omega
theorem setL_len (x:En):∀ (l:List En) (j:Nat),j<=l.length->(setL x (l.take j)).1.length+(if (setL x (l.take j)).2=true then 0 else 1)<=j+1
 | l,0,_=>by simp [setL]
 | l,j+1,h=>by
  obtain ⟨e,he⟩:∃ e,l[j]?=some e:=⟨_,List.getElem?_eq_getElem (by omega)⟩
  rw [setL_succ he]
  have h1:=stepE_len x e (setL x (l.take j))
  have h2:=setL_len x l j (by omega)
  omega
theorem setE_len (x:En) (l:List En):(setE x l).length<=l.length+1:=by
 have h:=setL_len x l l.length (Nat.le_refl _)
 rw [List.take_length] at h
 unfold setE
 split
 ·rename_i hb;rw [hb] at h;simp at h ⊢;omega
 ·split at h<;>omega
section
variable {w:World} {S Sl:Nat->Prop} {lv kv vv:Value} {key val:List UInt8} {es:List En}
theorem setR (hl:Own w Sl 46 2 lv es.length (enCells es)) (ht:∀ e ∈ es,Byts w S e.kv e.k/\Byts w S e.vv e.v) (hk:Byts w S kv key) (hv:Byts w S vv val) (hz:(es.length+1)*48<=190000000000000) :
  Calls Tryz.prog 51 #[lv,kv,vv] w λ e w'=>∃ v',e=.returned v'/\Own w' (Fresh w w') 46 2 v' (setE ⟨kv,vv,key,val⟩ es).length (enCells (setE ⟨kv,vv,key,val⟩ es))/\Keeps Nob w w':=by
 obtain ⟨KA,kc,ek,_,_⟩:=hk.form
 obtain ⟨VA,vc,ev,_,_⟩:=hv.form
 obtain ⟨LA,lc,el⟩:=hl.form
 subst ek ev el
 obtain ⟨X,hX⟩:∃ X:En,X=⟨.slice KA key.length kc,.slice VA val.length vc,key,val⟩:=⟨_,rfl⟩
 rw [<-hX]
 have HXK:Hid (X.k=key):=by show X.k=key;rw [hX]
 have HXC:Hid (X.kv=.slice KA key.length kc/\X.vv=.slice VA val.length vc):=by show X.kv=_/\X.vv=_;rw [hX];exact ⟨rfl,rfl⟩
 have HO:=Hd hl
 have HT:Hid (∀ e ∈ es,Byts w S e.kv e.k/\Byts w S e.vv e.v):=ht
 have HK:=Hd hk
 have hz1:es.length<=3958333333332:=by omega
 clear hX hl ht hk hv hz
 go_enter Tryz.func51,Tryz.ntmps51
 go_wp2
 refine code_at (λ w1 hw=>?_)
 obtain ⟨N,hN⟩:∃ N,w.heap.size=N:=⟨_,rfl⟩
 rw [hN]
 have hk1:Keeps Nob w w1:=by rw [hw];exact Keeps.alloc Nob _ _
 have hb1:Blk w1 N 46 #[.slice KA key.length kc,.slice VA val.length vc]:=by rw [hw,<-hN];exact Blk.new _ _ _
 have HB:=Hd hb1
 have HNL:Hid (N < w1.heap.size):=hb1.lt
 have HNW:Hid (w.heap.size<=N):=by show _<=_;rw [hN];exact Nat.le_refl _
 have K:=Hd hk1
 clear hw hN hk1 hb1
 go_loopw [7,8,10] (λ outv putv iv wr=>∃ (j:Nat),j<=es.length/\iv=.int .i64 j/\putv=.bool (setL X (es.take j)).2/\Own wr (From w1.heap.size) 46 2 outv (setL X (es.take j)).1.length (enCells (setL X (es.take j)).1)/\Keeps Nob w1 wr) (λ _ _ i _=>es.length-(intOf i).toNat)
 case atStart=>exact ⟨0,Nat.zero_le _,rfl,rfl,Own.nil _ _ _ _,Keeps.refl _ _⟩
 obtain ⟨j,hj,rfl,rfl,ho,hkr⟩:=hrel
 obtain ⟨OA,oc,eo⟩:=ho.form
 subst eo
 have HOUT:=Hd ho
 have KR:=Hd hkr
 have hlen:=setL_len X es j hj
 clear ho hkr
 by_cases hlt:(j:Int) < es.length
 ·have hjl:j < es.length:=by omega
  obtain ⟨e,he⟩:∃ e,es[j]?=some e:=⟨_,List.getElem?_eq_getElem hjl⟩
  have HSU:Hid (setL X (es.take (j+1))=stepE X (setL X (es.take j)) e):=setL_succ he
  obtain ⟨h1,h2⟩:=HT.out e (List.mem_of_getElem? he)
  obtain ⟨EA,ec,e1,_,_⟩:=h1.form
  obtain ⟨FA,fc,e2,_,_⟩:=h2.form
  have HCM:=λ W (k:Keeps Nob w W)=>cmpR (h1.keeps k (λ _ _ _=>id)) (HK.out.keeps k (λ _ _ _=>id))
  rw [e1] at HCM
  obtain ⟨hd1,hd1',hf⟩:=HO.out.at_
  rcases hf with ⟨_,hd0⟩|⟨g,o,cur,rfl,hg,hb,hcz,hx⟩
  ·exact absurd hd1 (by omega)
  obtain ⟨c0,c1⟩:=enCells_at he
  have HLB:Hid (Blk w g 46 cur):=hb
  have HR0:Hid (∀ W,Keeps Nob w W->W.cell? ⟨g,o+j*2,none⟩=some (.slice EA e.k.length ec)):=Hd (λ W k=>by rw [(HLB.out.keeps k id).cell,<-e1];exact hx _ _ c0)
  have HR1:Hid (∀ W,Keeps Nob w W->W.cell? ⟨g,o+j*2+1,none⟩=some (.slice FA e.v.length fc)):=Hd (λ W k=>by rw [(HLB.out.keeps k id).cell,<-e2];exact hx _ _ c1)
  have HEV:Hid (e.kv=.slice EA e.k.length ec/\e.vv=.slice FA e.v.length fc):=Hd ⟨e1,e2⟩
  have hll:es.length<=lc:=hd1
  clear hd1 hd1' hb hcz hx c0 c1 h1 h2 e1 e2 hg
  have r0:=HR0.out _ (K.out.trans KR.out (λ _ _ h=>h))
  generalize hso:setL X (es.take j)=so at *
  obtain ⟨lo,po⟩:=so
  simp only at *
  have HLN:Hid (lo.length<=j+1):=Hd (by split at hlen<;>omega)
  clear hso hlen
  have HBN:Hid (∀ W,Keeps Nob w1 W->W.cell? ⟨N,0,none⟩=some (.slice KA key.length kc)/\W.cell? ⟨N,1,none⟩=some (.slice VA val.length vc)):=Hd (λ W k=>⟨(HB.out.keeps k id).cell 0,(HB.out.keeps k id).cell 1⟩)
  have HXK2:=HXK.out
  unfold stepE at HSU
  rw [HXK2] at HSU
  clear HXK2
  cases po with
  | false=>
   rcases Int.lt_trichotomy (cmp e.k key) 0 with hs|hs|hs
   ·have b1:¬(0<=cmp e.k key):=by omega
    have b2:(cmp e.k key != 0)=true:=by simp;omega
    replace HSU:Hid (setL X (es.take (j+1))=((lo)++[e],false)):=by
     have h:=HSU.out
     show _=_
     rw [h]
     simp only [if_pos (show cmp e.k key≠0 by omega)]
     split<;>first|rfl|(exfalso;rename_i hh;first|exact absurd hh.2 (by decide)|(have h1:=hh.1;omega)|exact hh ⟨by omega,by first|rfl|trivial⟩)
    clear hs
    go_wp2_with fail
    clear r0
    refine (HCM _ (K.out.trans KR.out (λ _ _ h=>h))).mono ?_
    rintro e3 w2 ⟨rfl,hk2⟩
    replace KR:=Hd (KR.out.trans hk2 (λ _ _ h=>h))
    replace HOUT:=Hd (HOUT.out.keeps hk2 (λ _ _ _=>id))
    clear hk2 HCM
    have r0:=HR0.out _ (K.out.trans KR.out (λ _ _ h=>h))
    have r1:=HR1.out _ (K.out.trans KR.out (λ _ _ h=>h))
    obtain ⟨j1,hj1,hy0,hy1,hy2⟩:=info_parts Tryz.inf_entry
    go_wp2_with (at_builtin;refine list_at (λ wd hwd=>?_);refine wpList_app rfl (.tmp 40) (.tmp 45) 35 rfl Tryz.underlying35 hj1 hy0 hy1 hy2 rfl (by decide) (v:=.slice OA lo.length oc) (n:=lo.length) (m:=1) (S:=From w1.heap.size) (T:=λ _=>True) (xs:=enCells (lo)) (news:=[.slice EA e.k.length ec,.slice FA e.v.length fc]) rfl ?d1a (y:=.slice (some ⟨w2.heap.size,0,none⟩) 1 1) rfl ?d1b ?d1c ?d1d ?d1e ?d1f)
    case d1a=>
     try rw [hwd]
     exact HOUT.out.keeps (Keeps.alloc Nob _ _) (λ _ _ _=>id)
    case d1b=>
     try rw [hwd]
     exact (SlG.lit _ _ [.slice EA e.k.length ec,.slice FA e.v.length fc] 2 1 _ (by simp) rfl (by decide)).mono (λ _ _ _=>trivial)
    case d1c=>first|(intro u hu;simp only [List.mem_cons,List.not_mem_nil,or_false] at hu;rcases hu with h|h<;>subst h<;>rfl)|exact ⟨rfl,rfl⟩|trivial
    case d1d=>have hln:=HLN.out;unfold maxLen;omega
    case d1e=>have hln:=HLN.out;omega
    case d1f=>
    intro v' wa1 ho hk8 _
    try rw [<-hwd] at ho
    try rw [<-hwd] at hk8
    obtain ⟨QA,Qc,ev⟩:=ho.form
    subst ev
    have hkd:Keeps Nob w2 wd:=by rw [hwd];exact Keeps.alloc _ _ _
    have hs0:=KR.out.size
    have hs1:=hkd.size
    have hoc:∀ b,b < wd.heap.size->(Value.slice OA lo.length oc).ownBlock=some b->w1.heap.size<=b:=λ b _ hb=>(HOUT.out.blk hb).1
    replace HOUT:Hid (Own wa1 (From w1.heap.size) 46 2 (.slice QA (lo.length+1) Qc) (lo.length+1) (enCells ((lo)++[e]))):=by
     have h:=ho.mono (T:=From w1.heap.size) (λ b hb0 hb=>by
      rcases hb with hb|hb
      ·exact (HOUT.out.blk hb).1
      ·have h1:=hb.1;show w1.heap.size<=b;omega)
     show Own _ _ _ _ _ _ _
     rw [enCells_snoc,HEV.out.1,HEV.out.2]
     exact h
    replace KR:Hid (Keeps Nob w1 wa1):=Hd ((KR.out.trans hkd (λ _ _ h=>h)).trans hk8 (λ b hb hc=>by have h1:=hoc b (by omega) hc;omega))
    clear ho hk8 hkd hwd hoc hs0 hs1
    clear r0 r1
    go_wp2
    go_roundw
    case rel=>exact ⟨j+1,by omega,by go_num,by rw [HSU.out],by rw [HSU.out];show Own _ _ _ _ _ ((lo)++[e]).length (enCells ((lo)++[e]));rw [show ((lo)++[e]).length=lo.length+1 by simp];exact HOUT.out,KR.out⟩
    case measure=>simp [intOf];omega
   ·have b1:0<=cmp e.k key:=by omega
    have b2:(cmp e.k key != 0)=false:=by simp;omega
    replace HSU:Hid (setL X (es.take (j+1))=(lo++[X],true)):=by
     have h:=HSU.out
     show _=_
     rw [h]
     simp only [if_neg (show ¬cmp e.k key≠0 by omega)]
     split<;>first|rfl|(exfalso;rename_i hh;first|exact absurd hh.2 (by decide)|(have h1:=hh.1;omega)|exact hh ⟨by omega,by first|rfl|trivial⟩)
    clear hs
    go_wp2_with fail
    clear r0
    refine (HCM _ (K.out.trans KR.out (λ _ _ h=>h))).mono ?_
    rintro e3 w2 ⟨rfl,hk2⟩
    replace KR:=Hd (KR.out.trans hk2 (λ _ _ h=>h))
    replace HOUT:=Hd (HOUT.out.keeps hk2 (λ _ _ _=>id))
    clear hk2 HCM
    obtain ⟨n0,n1⟩:=HBN.out _ KR.out
    obtain ⟨j1,hj1,hy0,hy1,hy2⟩:=info_parts Tryz.inf_entry
    go_wp2_with (at_builtin;refine list_at (λ wd hwd=>?_);refine wpList_app rfl (.tmp 34) (.tmp 36) 35 rfl Tryz.underlying35 hj1 hy0 hy1 hy2 rfl (by decide) (v:=.slice OA lo.length oc) (n:=lo.length) (m:=1) (S:=From w1.heap.size) (T:=λ _=>True) (xs:=enCells (lo)) (news:=[.slice KA key.length kc,.slice VA val.length vc]) rfl ?d2a (y:=.slice (some ⟨w2.heap.size,0,none⟩) 1 1) rfl ?d2b ?d2c ?d2d ?d2e ?d2f)
    case d2a=>
     try rw [hwd]
     exact HOUT.out.keeps (Keeps.alloc Nob _ _) (λ _ _ _=>id)
    case d2b=>
     try rw [hwd]
     exact (SlG.lit _ _ [.slice KA key.length kc,.slice VA val.length vc] 2 1 _ (by simp) rfl (by decide)).mono (λ _ _ _=>trivial)
    case d2c=>first|(intro u hu;simp only [List.mem_cons,List.not_mem_nil,or_false] at hu;rcases hu with h|h<;>subst h<;>rfl)|exact ⟨rfl,rfl⟩|trivial
    case d2d=>have hln:=HLN.out;unfold maxLen;omega
    case d2e=>have hln:=HLN.out;omega
    case d2f=>
    intro v' wa2 ho hk8 _
    try rw [<-hwd] at ho
    try rw [<-hwd] at hk8
    obtain ⟨PA,Pc,ev⟩:=ho.form
    subst ev
    have hkd:Keeps Nob w2 wd:=by rw [hwd];exact Keeps.alloc _ _ _
    have hs0:=KR.out.size
    have hs1:=hkd.size
    have hoc:∀ b,b < wd.heap.size->(Value.slice OA lo.length oc).ownBlock=some b->w1.heap.size<=b:=λ b _ hb=>(HOUT.out.blk hb).1
    replace HOUT:Hid (Own wa2 (From w1.heap.size) 46 2 (.slice PA (lo.length+1) Pc) (lo.length+1) (enCells (lo++[X]))):=by
     have h:=ho.mono (T:=From w1.heap.size) (λ b hb0 hb=>by
      rcases hb with hb|hb
      ·exact (HOUT.out.blk hb).1
      ·have h1:=hb.1;show w1.heap.size<=b;omega)
     show Own _ _ _ _ _ _ _
     rw [enCells_snoc,HXC.out.1,HXC.out.2]
     exact h
    replace KR:Hid (Keeps Nob w1 wa2):=Hd ((KR.out.trans hkd (λ _ _ h=>h)).trans hk8 (λ b hb hc=>by have h1:=hoc b (by omega) hc;omega))
    clear ho hk8 hkd hwd hoc hs0 hs1
    clear n0 n1
    go_wp2
    go_roundw
    case rel=>exact ⟨j+1,by omega,by go_num,by rw [HSU.out],by rw [HSU.out];show Own _ _ _ _ _ (lo++[X]).length (enCells (lo++[X]));rw [show (lo++[X]).length=lo.length+1 by simp];exact HOUT.out,KR.out⟩
    case measure=>simp [intOf];omega
   ·have b1:0<=cmp e.k key:=by omega
    have b2:(cmp e.k key != 0)=true:=by simp;omega
    replace HSU:Hid (setL X (es.take (j+1))=((lo++[X])++[e],true)):=by
     have h:=HSU.out
     show _=_
     rw [h]
     simp only [if_pos (show cmp e.k key≠0 by omega)]
     split<;>first|rfl|(exfalso;rename_i hh;first|exact absurd hh.2 (by decide)|(have h1:=hh.1;omega)|exact hh ⟨by omega,by first|rfl|trivial⟩)
    clear hs
    go_wp2_with fail
    clear r0
    refine (HCM _ (K.out.trans KR.out (λ _ _ h=>h))).mono ?_
    rintro e3 w2 ⟨rfl,hk2⟩
    replace KR:=Hd (KR.out.trans hk2 (λ _ _ h=>h))
    replace HOUT:=Hd (HOUT.out.keeps hk2 (λ _ _ _=>id))
    clear hk2 HCM
    obtain ⟨n0,n1⟩:=HBN.out _ KR.out
    obtain ⟨j1,hj1,hy0,hy1,hy2⟩:=info_parts Tryz.inf_entry
    go_wp2_with (at_builtin;refine list_at (λ wd hwd=>?_);refine wpList_app rfl (.tmp 34) (.tmp 36) 35 rfl Tryz.underlying35 hj1 hy0 hy1 hy2 rfl (by decide) (v:=.slice OA lo.length oc) (n:=lo.length) (m:=1) (S:=From w1.heap.size) (T:=λ _=>True) (xs:=enCells (lo)) (news:=[.slice KA key.length kc,.slice VA val.length vc]) rfl ?d3a (y:=.slice (some ⟨w2.heap.size,0,none⟩) 1 1) rfl ?d3b ?d3c ?d3d ?d3e ?d3f)
    case d3a=>
     try rw [hwd]
     exact HOUT.out.keeps (Keeps.alloc Nob _ _) (λ _ _ _=>id)
    case d3b=>
     try rw [hwd]
     exact (SlG.lit _ _ [.slice KA key.length kc,.slice VA val.length vc] 2 1 _ (by simp) rfl (by decide)).mono (λ _ _ _=>trivial)
    case d3c=>first|(intro u hu;simp only [List.mem_cons,List.not_mem_nil,or_false] at hu;rcases hu with h|h<;>subst h<;>rfl)|exact ⟨rfl,rfl⟩|trivial
    case d3d=>have hln:=HLN.out;unfold maxLen;omega
    case d3e=>have hln:=HLN.out;omega
    case d3f=>
    intro v' wa3 ho hk8 _
    try rw [<-hwd] at ho
    try rw [<-hwd] at hk8
    obtain ⟨PA,Pc,ev⟩:=ho.form
    subst ev
    have hkd:Keeps Nob w2 wd:=by rw [hwd];exact Keeps.alloc _ _ _
    have hs0:=KR.out.size
    have hs1:=hkd.size
    have hoc:∀ b,b < wd.heap.size->(Value.slice OA lo.length oc).ownBlock=some b->w1.heap.size<=b:=λ b _ hb=>(HOUT.out.blk hb).1
    replace HOUT:Hid (Own wa3 (From w1.heap.size) 46 2 (.slice PA (lo.length+1) Pc) (lo.length+1) (enCells (lo++[X]))):=by
     have h:=ho.mono (T:=From w1.heap.size) (λ b hb0 hb=>by
      rcases hb with hb|hb
      ·exact (HOUT.out.blk hb).1
      ·have h1:=hb.1;show w1.heap.size<=b;omega)
     show Own _ _ _ _ _ _ _
     rw [enCells_snoc,HXC.out.1,HXC.out.2]
     exact h
    replace KR:Hid (Keeps Nob w1 wa3):=Hd ((KR.out.trans hkd (λ _ _ h=>h)).trans hk8 (λ b hb hc=>by have h1:=hoc b (by omega) hc;omega))
    clear ho hk8 hkd hwd hoc hs0 hs1
    clear n0 n1
    have r0:=HR0.out _ (K.out.trans KR.out (λ _ _ h=>h))
    have r1:=HR1.out _ (K.out.trans KR.out (λ _ _ h=>h))
    obtain ⟨j1,hj1,hy0,hy1,hy2⟩:=info_parts Tryz.inf_entry
    go_wp2_with (at_builtin;refine list_at (λ wd hwd=>?_);refine wpList_app rfl (.tmp 40) (.tmp 45) 35 rfl Tryz.underlying35 hj1 hy0 hy1 hy2 rfl (by decide) (v:=.slice PA (lo.length+1) Pc) (n:=lo.length+1) (m:=1) (S:=From w1.heap.size) (T:=λ _=>True) (xs:=enCells (lo++[X])) (news:=[.slice EA e.k.length ec,.slice FA e.v.length fc]) rfl ?d4a (y:=.slice (some ⟨wa3.heap.size,0,none⟩) 1 1) rfl ?d4b ?d4c ?d4d ?d4e ?d4f)
    case d4a=>
     try rw [hwd]
     exact HOUT.out.keeps (Keeps.alloc Nob _ _) (λ _ _ _=>id)
    case d4b=>
     try rw [hwd]
     exact (SlG.lit _ _ [.slice EA e.k.length ec,.slice FA e.v.length fc] 2 1 _ (by simp) rfl (by decide)).mono (λ _ _ _=>trivial)
    case d4c=>first|(intro u hu;simp only [List.mem_cons,List.not_mem_nil,or_false] at hu;rcases hu with h|h<;>subst h<;>rfl)|exact ⟨rfl,rfl⟩|trivial
    case d4d=>have hln:=HLN.out;unfold maxLen;omega
    case d4e=>have hln:=HLN.out;omega
    case d4f=>
    intro v' wa4 ho hk8 _
    try rw [<-hwd] at ho
    try rw [<-hwd] at hk8
    obtain ⟨QA,Qc,ev⟩:=ho.form
    subst ev
    have hkd:Keeps Nob wa3 wd:=by rw [hwd];exact Keeps.alloc _ _ _
    have hs0:=KR.out.size
    have hs1:=hkd.size
    have hoc:∀ b,b < wd.heap.size->(Value.slice PA (lo.length+1) Pc).ownBlock=some b->w1.heap.size<=b:=λ b _ hb=>(HOUT.out.blk hb).1
    replace HOUT:Hid (Own wa4 (From w1.heap.size) 46 2 (.slice QA (lo.length+1+1) Qc) (lo.length+1+1) (enCells ((lo++[X])++[e]))):=by
     have h:=ho.mono (T:=From w1.heap.size) (λ b hb0 hb=>by
      rcases hb with hb|hb
      ·exact (HOUT.out.blk hb).1
      ·have h1:=hb.1;show w1.heap.size<=b;omega)
     show Own _ _ _ _ _ _ _
     rw [enCells_snoc,HEV.out.1,HEV.out.2]
     exact h
    replace KR:Hid (Keeps Nob w1 wa4):=Hd ((KR.out.trans hkd (λ _ _ h=>h)).trans hk8 (λ b hb hc=>by have h1:=hoc b (by omega) hc;omega))
    clear ho hk8 hkd hwd hoc hs0 hs1
    clear r0 r1
    go_wp2
    go_roundw
    case rel=>exact ⟨j+1,by omega,by go_num,by rw [HSU.out],by rw [HSU.out];show Own _ _ _ _ _ ((lo++[X])++[e]).length (enCells ((lo++[X])++[e]));rw [show ((lo++[X])++[e]).length=lo.length+1+1 by simp];exact HOUT.out,KR.out⟩
    case measure=>simp [intOf];omega
  | true=>
   rcases Int.lt_trichotomy (cmp e.k key) 0 with hs|hs|hs
   ·have b1:¬(0<=cmp e.k key):=by omega
    have b2:(cmp e.k key != 0)=true:=by simp;omega
    replace HSU:Hid (setL X (es.take (j+1))=((lo)++[e],true)):=by
     have h:=HSU.out
     show _=_
     rw [h]
     simp only [if_pos (show cmp e.k key≠0 by omega)]
     split<;>first|rfl|(exfalso;rename_i hh;first|exact absurd hh.2 (by decide)|(have h1:=hh.1;omega)|exact hh ⟨by omega,by first|rfl|trivial⟩)
    clear hs
    go_wp2_with fail
    clear r0
    refine (HCM _ (K.out.trans KR.out (λ _ _ h=>h))).mono ?_
    rintro e3 w2 ⟨rfl,hk2⟩
    replace KR:=Hd (KR.out.trans hk2 (λ _ _ h=>h))
    replace HOUT:=Hd (HOUT.out.keeps hk2 (λ _ _ _=>id))
    clear hk2 HCM
    have r0:=HR0.out _ (K.out.trans KR.out (λ _ _ h=>h))
    have r1:=HR1.out _ (K.out.trans KR.out (λ _ _ h=>h))
    obtain ⟨j1,hj1,hy0,hy1,hy2⟩:=info_parts Tryz.inf_entry
    go_wp2_with (at_builtin;refine list_at (λ wd hwd=>?_);refine wpList_app rfl (.tmp 40) (.tmp 45) 35 rfl Tryz.underlying35 hj1 hy0 hy1 hy2 rfl (by decide) (v:=.slice OA lo.length oc) (n:=lo.length) (m:=1) (S:=From w1.heap.size) (T:=λ _=>True) (xs:=enCells (lo)) (news:=[.slice EA e.k.length ec,.slice FA e.v.length fc]) rfl ?d5a (y:=.slice (some ⟨w2.heap.size,0,none⟩) 1 1) rfl ?d5b ?d5c ?d5d ?d5e ?d5f)
    case d5a=>
     try rw [hwd]
     exact HOUT.out.keeps (Keeps.alloc Nob _ _) (λ _ _ _=>id)
    case d5b=>
     try rw [hwd]
     exact (SlG.lit _ _ [.slice EA e.k.length ec,.slice FA e.v.length fc] 2 1 _ (by simp) rfl (by decide)).mono (λ _ _ _=>trivial)
    case d5c=>first|(intro u hu;simp only [List.mem_cons,List.not_mem_nil,or_false] at hu;rcases hu with h|h<;>subst h<;>rfl)|exact ⟨rfl,rfl⟩|trivial
    case d5d=>have hln:=HLN.out;unfold maxLen;omega
    case d5e=>have hln:=HLN.out;omega
    case d5f=>
    intro v' wa5 ho hk8 _
    try rw [<-hwd] at ho
    try rw [<-hwd] at hk8
    obtain ⟨QA,Qc,ev⟩:=ho.form
    subst ev
    have hkd:Keeps Nob w2 wd:=by rw [hwd];exact Keeps.alloc _ _ _
    have hs0:=KR.out.size
    have hs1:=hkd.size
    have hoc:∀ b,b < wd.heap.size->(Value.slice OA lo.length oc).ownBlock=some b->w1.heap.size<=b:=λ b _ hb=>(HOUT.out.blk hb).1
    replace HOUT:Hid (Own wa5 (From w1.heap.size) 46 2 (.slice QA (lo.length+1) Qc) (lo.length+1) (enCells ((lo)++[e]))):=by
     have h:=ho.mono (T:=From w1.heap.size) (λ b hb0 hb=>by
      rcases hb with hb|hb
      ·exact (HOUT.out.blk hb).1
      ·have h1:=hb.1;show w1.heap.size<=b;omega)
     show Own _ _ _ _ _ _ _
     rw [enCells_snoc,HEV.out.1,HEV.out.2]
     exact h
    replace KR:Hid (Keeps Nob w1 wa5):=Hd ((KR.out.trans hkd (λ _ _ h=>h)).trans hk8 (λ b hb hc=>by have h1:=hoc b (by omega) hc;omega))
    clear ho hk8 hkd hwd hoc hs0 hs1
    clear r0 r1
    go_wp2
    go_roundw
    case rel=>exact ⟨j+1,by omega,by go_num,by rw [HSU.out],by rw [HSU.out];show Own _ _ _ _ _ ((lo)++[e]).length (enCells ((lo)++[e]));rw [show ((lo)++[e]).length=lo.length+1 by simp];exact HOUT.out,KR.out⟩
    case measure=>simp [intOf];omega
   ·have b1:0<=cmp e.k key:=by omega
    have b2:(cmp e.k key != 0)=false:=by simp;omega
    replace HSU:Hid (setL X (es.take (j+1))=(lo,true)):=by
     have h:=HSU.out
     show _=_
     rw [h]
     simp only [if_neg (show ¬cmp e.k key≠0 by omega)]
     split<;>first|rfl|(exfalso;rename_i hh;first|exact absurd hh.2 (by decide)|(have h1:=hh.1;omega)|exact hh ⟨by omega,by first|rfl|trivial⟩)
    clear hs
    go_wp2_with fail
    clear r0
    refine (HCM _ (K.out.trans KR.out (λ _ _ h=>h))).mono ?_
    rintro e3 w2 ⟨rfl,hk2⟩
    replace KR:=Hd (KR.out.trans hk2 (λ _ _ h=>h))
    replace HOUT:=Hd (HOUT.out.keeps hk2 (λ _ _ _=>id))
    clear hk2 HCM
    go_wp2
    go_roundw
    case rel=>exact ⟨j+1,by omega,by go_num,by rw [HSU.out],by rw [HSU.out];show Own _ _ _ _ _ (lo).length (enCells (lo));rw [show (lo).length=lo.length by simp];exact HOUT.out,KR.out⟩
    case measure=>simp [intOf];omega
   ·have b1:0<=cmp e.k key:=by omega
    have b2:(cmp e.k key != 0)=true:=by simp;omega
    replace HSU:Hid (setL X (es.take (j+1))=((lo)++[e],true)):=by
     have h:=HSU.out
     show _=_
     rw [h]
     simp only [if_pos (show cmp e.k key≠0 by omega)]
     split<;>first|rfl|(exfalso;rename_i hh;first|exact absurd hh.2 (by decide)|(have h1:=hh.1;omega)|exact hh ⟨by omega,by first|rfl|trivial⟩)
    clear hs
    go_wp2_with fail
    clear r0
    refine (HCM _ (K.out.trans KR.out (λ _ _ h=>h))).mono ?_
    rintro e3 w2 ⟨rfl,hk2⟩
    replace KR:=Hd (KR.out.trans hk2 (λ _ _ h=>h))
    replace HOUT:=Hd (HOUT.out.keeps hk2 (λ _ _ _=>id))
    clear hk2 HCM
    have r0:=HR0.out _ (K.out.trans KR.out (λ _ _ h=>h))
    have r1:=HR1.out _ (K.out.trans KR.out (λ _ _ h=>h))
    obtain ⟨j1,hj1,hy0,hy1,hy2⟩:=info_parts Tryz.inf_entry
    go_wp2_with (at_builtin;refine list_at (λ wd hwd=>?_);refine wpList_app rfl (.tmp 40) (.tmp 45) 35 rfl Tryz.underlying35 hj1 hy0 hy1 hy2 rfl (by decide) (v:=.slice OA lo.length oc) (n:=lo.length) (m:=1) (S:=From w1.heap.size) (T:=λ _=>True) (xs:=enCells (lo)) (news:=[.slice EA e.k.length ec,.slice FA e.v.length fc]) rfl ?d6a (y:=.slice (some ⟨w2.heap.size,0,none⟩) 1 1) rfl ?d6b ?d6c ?d6d ?d6e ?d6f)
    case d6a=>
     try rw [hwd]
     exact HOUT.out.keeps (Keeps.alloc Nob _ _) (λ _ _ _=>id)
    case d6b=>
     try rw [hwd]
     exact (SlG.lit _ _ [.slice EA e.k.length ec,.slice FA e.v.length fc] 2 1 _ (by simp) rfl (by decide)).mono (λ _ _ _=>trivial)
    case d6c=>first|(intro u hu;simp only [List.mem_cons,List.not_mem_nil,or_false] at hu;rcases hu with h|h<;>subst h<;>rfl)|exact ⟨rfl,rfl⟩|trivial
    case d6d=>have hln:=HLN.out;unfold maxLen;omega
    case d6e=>have hln:=HLN.out;omega
    case d6f=>
    intro v' wa6 ho hk8 _
    try rw [<-hwd] at ho
    try rw [<-hwd] at hk8
    obtain ⟨QA,Qc,ev⟩:=ho.form
    subst ev
    have hkd:Keeps Nob w2 wd:=by rw [hwd];exact Keeps.alloc _ _ _
    have hs0:=KR.out.size
    have hs1:=hkd.size
    have hoc:∀ b,b < wd.heap.size->(Value.slice OA lo.length oc).ownBlock=some b->w1.heap.size<=b:=λ b _ hb=>(HOUT.out.blk hb).1
    replace HOUT:Hid (Own wa6 (From w1.heap.size) 46 2 (.slice QA (lo.length+1) Qc) (lo.length+1) (enCells ((lo)++[e]))):=by
     have h:=ho.mono (T:=From w1.heap.size) (λ b hb0 hb=>by
      rcases hb with hb|hb
      ·exact (HOUT.out.blk hb).1
      ·have h1:=hb.1;show w1.heap.size<=b;omega)
     show Own _ _ _ _ _ _ _
     rw [enCells_snoc,HEV.out.1,HEV.out.2]
     exact h
    replace KR:Hid (Keeps Nob w1 wa6):=Hd ((KR.out.trans hkd (λ _ _ h=>h)).trans hk8 (λ b hb hc=>by have h1:=hoc b (by omega) hc;omega))
    clear ho hk8 hkd hwd hoc hs0 hs1
    clear r0 r1
    go_wp2
    go_roundw
    case rel=>exact ⟨j+1,by omega,by go_num,by rw [HSU.out],by rw [HSU.out];show Own _ _ _ _ _ ((lo)++[e]).length (enCells ((lo)++[e]));rw [show ((lo)++[e]).length=lo.length+1 by simp];exact HOUT.out,KR.out⟩
    case measure=>simp [intOf];omega
 ·obtain rfl:j=es.length:=by omega
  rw [List.take_length] at HOUT hlen ⊢
  have HSE:Hid (setE X es=if (setL X es).2=false then (setL X es).1++[X] else (setL X es).1):=rfl
  generalize hso:setL X es=so at *
  obtain ⟨lo,po⟩:=so
  simp only at *
  have HLN:Hid (lo.length<=es.length+1):=Hd (by split at hlen<;>omega)
  clear hso hlen
  cases po with
  | true=>
   go_wp2
   go_ret
   rw [HSE.out,if_neg (by decide)]
   exact ⟨_,rfl,HOUT.out.mono (λ b hb hf=>⟨Nat.le_trans K.out.size hf,hb⟩),K.out.trans KR.out (λ _ _ h=>h)⟩
  | false=>
   have n0:=(HB.out.keeps KR.out id).cell 0
   have n1:=(HB.out.keeps KR.out id).cell 1
   obtain ⟨j1,hj1,hy0,hy1,hy2⟩:=info_parts Tryz.inf_entry
   go_wp2_with (at_builtin;refine list_at (λ wd hwd=>?_);refine wpList_app rfl (.tmp 49) (.tmp 51) 35 rfl Tryz.underlying35 hj1 hy0 hy1 hy2 rfl (by decide) (v:=.slice OA lo.length oc) (n:=lo.length) (m:=1) (S:=From w1.heap.size) (T:=λ _=>True) (xs:=enCells (lo)) (news:=[.slice KA key.length kc,.slice VA val.length vc]) rfl ?d7a (y:=.slice (some ⟨wr.heap.size,0,none⟩) 1 1) rfl ?d7b ?d7c ?d7d ?d7e ?d7f)
   case d7a=>
    try rw [hwd]
    exact HOUT.out.keeps (Keeps.alloc Nob _ _) (λ _ _ _=>id)
   case d7b=>
    try rw [hwd]
    exact (SlG.lit _ _ [.slice KA key.length kc,.slice VA val.length vc] 2 1 _ (by simp) rfl (by decide)).mono (λ _ _ _=>trivial)
   case d7c=>first|(intro u hu;simp only [List.mem_cons,List.not_mem_nil,or_false] at hu;rcases hu with h|h<;>subst h<;>rfl)|exact ⟨rfl,rfl⟩|trivial
   case d7d=>have hln:=HLN.out;unfold maxLen;omega
   case d7e=>have hln:=HLN.out;omega
   case d7f=>
   intro v' wa7 ho hk8 _
   try rw [<-hwd] at ho
   try rw [<-hwd] at hk8
   obtain ⟨PA,Pc,ev⟩:=ho.form
   subst ev
   have hkd:Keeps Nob wr wd:=by rw [hwd];exact Keeps.alloc _ _ _
   have hs0:=KR.out.size
   have hs1:=hkd.size
   have hoc:∀ b,b < wd.heap.size->(Value.slice OA lo.length oc).ownBlock=some b->w1.heap.size<=b:=λ b _ hb=>(HOUT.out.blk hb).1
   replace HOUT:Hid (Own wa7 (From w1.heap.size) 46 2 (.slice PA (lo.length+1) Pc) (lo.length+1) (enCells (lo++[X]))):=by
    have h:=ho.mono (T:=From w1.heap.size) (λ b hb0 hb=>by
     rcases hb with hb|hb
     ·exact (HOUT.out.blk hb).1
     ·have h1:=hb.1;show w1.heap.size<=b;omega)
    show Own _ _ _ _ _ _ _
    rw [enCells_snoc,HXC.out.1,HXC.out.2]
    exact h
   replace KR:Hid (Keeps Nob w1 wa7):=Hd ((KR.out.trans hkd (λ _ _ h=>h)).trans hk8 (λ b hb hc=>by have h1:=hoc b (by omega) hc;omega))
   clear ho hk8 hkd hwd hoc hs0 hs1
   go_wp2
   go_ret
   rw [show setE X es=lo++[X] by rw [HSE.out];first|rfl|exact if_pos rfl|exact if_pos trivial]
   rw [show (lo++[X]).length=lo.length+1 by simp]
   exact ⟨_,rfl,HOUT.out.mono (λ b hb hf=>⟨Nat.le_trans K.out.size hf,hb⟩),K.out.trans KR.out (λ _ _ h=>h)⟩
end
end Go.Proofs.YtjcgphhpaenjkaaGreat
