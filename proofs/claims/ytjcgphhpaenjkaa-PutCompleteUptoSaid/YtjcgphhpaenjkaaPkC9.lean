import Derived.Test.YtjcgphhpaenjkaaPkB3
import Derived.Test.YtjcgphhpaenjkaaPkC7
set_option maxHeartbeats 64000000
set_option maxRecDepth 100000
set_option linter.unusedVariables false
namespace Go.Proofs.Ytjcgphhpaenjkaa
open Go.RowKit
section
variable {S S' M:Nat->Prop} {w w':World} {v v':Value} {e:TypeId} {size m:Nat} {xs:List Value}
theorem Blk.keepsOw {g:Nat} {t:TypeId} {cs:Array Value} (h:Blk w g t cs) (h':Own w S' e size v' m xs) (ht:t≠e) (k:Keeps (λ b=>v'.ownBlock=some b) w w'):Blk w' g t cs:=
 h.keeps k (λ hg=>by obtain ⟨cs',hb'⟩:=h'.ownBlk hg;exact Blk.ne_ h hb' ht rfl)
theorem OTx.keepsOw {l} (h:OTx w S v l) (h':Own w S' e size v' m xs) (h1:34≠e) (h2:5≠e) (k:Keeps (λ b=>v'.ownBlock=some b) w w'):OTx w' S v l:=by
 obtain ⟨vs,ho,hl,hv⟩:=h
 exact ⟨vs,Own.keepsO ho h' h1 k,hl,λ i u x hu hx=>Own.keepsO (hv i u x hu hx) h' h2 k⟩
theorem OBy.keepsOw {l} (h:OBy w S v l) (h':Own w S' e size v' m xs) (h2:5≠e) (k:Keeps (λ b=>v'.ownBlock=some b) w w'):OBy w' S v l:=Own.keepsO h h' h2 k
theorem insIn {l:List Int} {x:Int} {i gy:Nat} (h:OIn w S v l) (hy:Blk w gy 3 #[.int .i64 x]) (hg:v.ownBlock≠some gy) (hs:Sm 100000000000000 8 l.length) (hi:i<=l.length) :
  Calls Try.prog 65 #[v,iV i,.slice (some ⟨gy,0,none⟩) 1 1] w λ e w'=>∃ v',e=.returned v'/\OIn w' (λ b=>S b\/Fresh w w' b) v' (ins l i x)/\Keeps (λ b=>v.ownBlock=some b) w w':=by
 refine (insI (ay:=⟨gy,0,none⟩) (u:=iV x) h hy (by rw [hy.cell];rfl) (Nat.le_refl _) (by decide) (λ b hb e=>hg (by rw [hb];exact congrArg some e.symm)) (iV_one l) rfl hs hi).mono ?_
 rintro e w' ⟨v',rfl,ho,hk⟩
 refine ⟨v',rfl,?_,hk⟩
 unfold OIn
 rw [ins_len l i x hi]
 have:(ins l i x).map iV=(l.map iV).take i++iV x::(l.map iV).drop i:=by unfold ins;simp
 rw [this]
 refine ho.mono (λ b _ hb=>?_)
 rcases hb with hb|hb
 ·exact .inl (Own.blk h hb).1
 ·exact .inr hb
end
section
variable {kid:Int}
variable {S T U:Nat->Prop} {w:World} {c0 c1 c2 c3 c4 c5 ck cv:Value} {n:Nd} {key val:List UInt8}
theorem joinedP (h:IsNd w S c0 c1 c2 c3 c4 c5 n) (hk:Byts w T ck key) (hs:NdSm 100000000000000 n) (hsk:Sm 0 1 key.length) :
  Calls Try.prog 43 #[.agg #[c0,c1,c2,c3,c4,c5],ck,.int .i64 kid] w λ e w'=>∃ d0 d1 d2 d3 d4 d5,e=.returned (.tuple #[.agg #[d0,d1,d2,d3,d4,d5],.bool (!has n.keys key)])/\ONd w' (Fresh w w') d0 d1 d2 d3 d4 d5 (jnd n key kid)/\Keeps Nob w w':=by
 obtain ⟨A1,k1,e1,_,_⟩:=h.1.high.form
 obtain ⟨A3,k3,e3,_,_⟩:=h.2.keys.form
 obtain ⟨A4,k4,e4,_,_⟩:=h.2.vals.form
 obtain ⟨A5,k5,e5,_,_⟩:=h.2.kids.form
 have e0:=h.1.lvl
 have e2:=h.1.right
 subst e0 e1 e2 e3 e4 e5
 have H:=Hd (h.mono (T:=λ b=>b < w.heap.size) (λ b hb _=>hb))
 have HK:=Hd (hk.mono (T:=λ b=>b < w.heap.size) (λ b hb _=>hb))
 have HSK:Hid (Sm 0 1 key.length):=hsk
 have HS:Hid (NdSm 100000000000000 n):=hs
 have hsz1:n.keys.length<=200000000000000:=by have:=hs.2.1.1;unfold Sm at this;omega
 have hsz2:n.vals.length<=200000000000000:=by have:=hs.2.2.1.1;unfold Sm at this;omega
 have hsz3:n.kids.length<=200000000000000:=by have:=hs.2.2.2;unfold Sm at this;omega
 have hbl:=below_le n.keys key
 obtain ⟨i,hbi⟩:∃ i,below n.keys key=i:=⟨_,rfl⟩
 obtain ⟨vh,hvh⟩:∃ v,has n.keys key=v:=⟨_,rfl⟩
 rw [hbi] at hbl
 have HBI:=Hd hbi
 have HVH:=Hd hvh
 have ha:Apart 75:=⟨by decide,by decide,by decide⟩
 clear h hk hs hbi hvh hsk
 unfold iV
 go_enter Try.func43,Try.ntmps43
 go_wp2_with fail
 refine calls_at (λ w1 hw=>?_)
 have hk:Keeps Nob w w1:=by rw [hw];exact (Keeps.alloc _ _ _).alloc' _
 have BN:Hid (Blk w1 (w.heap.size) 75 #[.int .i64 n.lvl,.slice A1 n.high.length k1,.int .i64 n.right,.slice A3 n.keys.length k3,.slice A4 n.vals.length k4,.slice A5 n.kids.length k5]):=by rw [hw];exact (Blk.new _ _ _).alloc _
 have BR:Hid (Blk w1 (w.heap.size+1) 75 #[.int .i64 0,.slice none 0 0,.int .i64 0,.slice none 0 0,.slice none 0 0,.slice none 0 0]):=by rw [hw];exact Blk.new' (by simp) _ _
 have szw1:=hk.size
 have ltBN:=BN.out.lt
 have ltBR:=BR.out.lt
 have K:=Hd hk
 clear hw hk
 replace H:=Hd (H.out.keeps K.out (λ _ _ _=>id))
 replace HK:=Hd (HK.out.keeps K.out (λ _ _ _=>id))
 refine (cloneP H.out (HS.out.mono (by decide))).mono ?_
 rintro e w2 ⟨d0,d1,d2,d3,d4,d5,rfl,hO,hk,hP⟩
 replace BN:=Hd (BN.out.keeps hk id)
 replace BR:=Hd (BR.out.keeps hk id)
 replace H:=Hd (H.out.keeps hk (λ _ _ _=>id))
 replace HK:=Hd (HK.out.keeps hk (λ _ _ _=>id))
 have szw2:=hk.size
 replace K:=tq_ K hk
 clear hk
 obtain ⟨D1,dj1,f1⟩:=Own.form hO.1.high
 obtain ⟨D3,dj3,f3⟩:=OTx.form hO.2.keys
 obtain ⟨D4,dj4,f4⟩:=OTx.form hO.2.vals
 obtain ⟨D5,dj5,f5⟩:=Own.form hO.2.kids
 have f0:=hO.1.lvl
 have f2:=hO.1.right
 unfold iV at f0 f2
 subst f0 f1 f2 f3 f4 f5
 have R1:Hid (OBy w2 (From w.heap.size) (.slice D1 (n).high.length dj1) (n).high):=hO.1.high.mono (λ b _ hb=>by have:=hb.1;show w.heap.size<=b;omega)
 have R3:Hid (OTx w2 (From w.heap.size) (.slice D3 (n).keys.length dj3) (n).keys):=hO.2.keys.mono (λ b _ hb=>by have:=hb.1;show w.heap.size<=b;omega)
 have R4:Hid (OTx w2 (From w.heap.size) (.slice D4 (n).vals.length dj4) (n).vals):=hO.2.vals.mono (λ b _ hb=>by have:=hb.1;show w.heap.size<=b;omega)
 have R5:Hid (OIn w2 (From w.heap.size) (.slice D5 (n).kids.length dj5) (n).kids):=hO.2.kids.mono (λ b _ hb=>by have:=hb.1;show w.heap.size<=b;omega)
 have HP:Hid (Prt (.slice D3 n.keys.length dj3) (.slice D4 n.vals.length dj4)):=hP
 clear hO hP
 have qBN:=λ i=>BN.out.cell i
 have gBN:=λ i=>BN.out.frozen i
 have lBN:=BN.out.lt
 go_wp2_with fail
 refine calls_at (λ w3 hw=>?_)
 have hk:Keeps (λ b=>b=w.heap.size) w2 w3:=by rw [hw];exact (((((Keeps.setCell _ (M:=λ b=>b=w.heap.size) rfl _).setCell' (λ _=>rfl) _).setCell' (λ _=>rfl) _).setCell' (λ _=>rfl) _).setCell' (λ _=>rfl) _).setCell' (λ _=>rfl) _
 have hb:Hid (Blk w3 (w.heap.size) 75 #[.int .i64 n.lvl,.slice D1 n.high.length dj1,.int .i64 n.right,.slice D3 n.keys.length dj3,.slice D4 n.vals.length dj4,.slice D5 n.kids.length dj5]):=by rw [hw];exact ((((((BN.out.set_ 0 _).set_ 1 _).set_ 2 _).set_ 3 _).set_ 4 _).set_ 5 _)
 replace BR:=Hd (BR.out.keeps hk (by show ¬_=_;omega))
 replace H:=Hd (H.out.keeps hk (λ b _ hb e=>by have h1:b < w.heap.size:=hb;have h2:b=_:=e;omega))
 replace HK:=Hd (HK.out.keeps hk (λ b _ hb e=>by have h1:b < w.heap.size:=hb;have h2:b=_:=e;omega))
 replace R1:=Hd (R1.out.keepsB BN.out ha hk)
 replace R3:=Hd (R3.out.keepsB BN.out ha hk)
 replace R4:=Hd (R4.out.keepsB BN.out ha hk)
 replace R5:=Hd (R5.out.keepsB BN.out ha hk)
 replace BN:=hb
 clear hw hb
 have szw3:=hk.size
 replace K:=Hd (K.out.trans hk (λ b hb e=>by subst e;omega))
 clear hk
 clear qBN gBN lBN
 refine (findP R3.out.r HK.out).mono ?_
 rintro e w4 ⟨rfl,hk⟩
 replace BN:=Hd (BN.out.keeps hk id)
 replace BR:=Hd (BR.out.keeps hk id)
 replace H:=Hd (H.out.keeps hk (λ _ _ _=>id))
 replace HK:=Hd (HK.out.keeps hk (λ _ _ _=>id))
 replace R1:=Hd (R1.out.keeps hk (λ _ _ _=>id))
 replace R3:=Hd (R3.out.keeps hk (λ _ _ _=>id))
 replace R4:=Hd (R4.out.keeps hk (λ _ _ _=>id))
 replace R5:=Hd (R5.out.keeps hk (λ _ _ _=>id))
 have szw4:=hk.size
 replace K:=tq_ K hk
 clear hk
 rw [HBI.out,HVH.out]
 cases vh with
 | true=>
  have hwo:jnd n key kid=n:=by unfold jnd;rw [HVH.out];rfl
  have qBN:=λ i=>BN.out.cell i
  have gBN:=λ i=>BN.out.frozen i
  have lBN:=BN.out.lt
  have qBR:=λ i=>BR.out.cell i
  have gBR:=λ i=>BR.out.frozen i
  have lBR:=BR.out.lt
  go_wp2
  refine post_at (λ w5 hw=>?_)
  clear qBN gBN lBN qBR gBR lBR
  have hk:Keeps (λ b=>b=w.heap.size+1) w4 w5:=by rw [hw];exact (((((Keeps.setCell _ (M:=λ b=>b=w.heap.size+1) rfl _).setCell' (λ _=>rfl) _).setCell' (λ _=>rfl) _).setCell' (λ _=>rfl) _).setCell' (λ _=>rfl) _).setCell' (λ _=>rfl) _
  have hb:Blk w5 (w.heap.size+1) 75 #[.int .i64 n.lvl,.slice D1 n.high.length dj1,.int .i64 n.right,.slice D3 n.keys.length dj3,.slice D4 n.vals.length dj4,.slice D5 n.kids.length dj5]:=by rw [hw];exact ((((((BR.out.set_ 0 _).set_ 1 _).set_ 2 _).set_ 3 _).set_ 4 _).set_ 5 _)
  have hs:w5.heap.size=w4.heap.size:=by rw [hw];simp
  clear hw
  have r0:=hb.cell 0
  have r1:=hb.cell 1
  have r2:=hb.cell 2
  have r3:=hb.cell 3
  have r4:=hb.cell 4
  have r5:=hb.cell 5
  rw [hwo,HVH.out]
  refine bodyPost_ret (v:=.tuple #[.agg #[.int .i64 n.lvl,.slice D1 n.high.length dj1,.int .i64 n.right,.slice D3 n.keys.length dj3,.slice D4 n.vals.length dj4,.slice D5 n.kids.length dj5],.bool false]) (by simp [results,Try.results43,go_sem,r0,r1,r2,r3,r4,r5]) rfl ⟨_,_,_,_,_,_,rfl,⟨⟨rfl,?_,rfl⟩,?_,?_,?_⟩,K.out.trans hk (λ b hb e=>by have h2:b=_:=e;omega)⟩
  ·exact (R1.out.keepsB BR.out ha hk).mono (λ b hb h=>⟨h,hb⟩)
  ·exact (R3.out.keepsB BR.out ha hk).mono (λ b hb h=>⟨h,hb⟩)
  ·exact (R4.out.keepsB BR.out ha hk).mono (λ b hb h=>⟨h,hb⟩)
  ·exact (R5.out.keepsB BR.out ha hk).mono (λ b hb h=>⟨h,hb⟩)
 | false=>
  have hwo:jnd n key kid={n with keys:=ins n.keys i key,kids:=ins n.kids (min (i+1) n.kids.length) kid}:=by unfold jnd;rw [HVH.out,HBI.out];rfl
  go_wp2
  refine rC_ [0,1,2,3,4,5,6,7,8,9,10] 10 (λ W=>W.cell? ⟨w.heap.size,3,none⟩=some (.slice D3 n.keys.length dj3)) (BN.out.cell 3) ?_
  iterate 5
   refine cR_ (v:=?_) rfl ?_ ?_
   rotate_left
   ·intro W hW
    try (replace hW:World.cell? _ _=some _:=hW)
    go_simp
    try rfl
   simp only [Act.put,sa_,sb_,sc_]
  refine cA_ rfl ?_
  go_wp2_with (go_at_call 18;refine (cloneB (HK.out.keeps (Keeps.drew Nob w4) (λ _ _ _=>id)) HSK.out).mono ?_;rintro e w5 ⟨v,rfl,hU,hk1⟩;obtain ⟨Bu,ju,hf⟩:=Own.form hU;subst hf;have HU:=Hd hU;have hk:=(Keeps.drew Nob w4).trans hk1 (λ _ _ h=>h);have su:w4.heap.size<=w5.heap.size:=hk1.size;clear hU hk1)
  replace BN:=Hd (BN.out.keeps hk id)
  replace BR:=Hd (BR.out.keeps hk id)
  replace H:=Hd (H.out.keeps hk (λ _ _ _=>id))
  replace HK:=Hd (HK.out.keeps hk (λ _ _ _=>id))
  replace R1:=Hd (R1.out.keeps hk (λ _ _ _=>id))
  replace R3:=Hd (R3.out.keeps hk (λ _ _ _=>id))
  replace R4:=Hd (R4.out.keeps hk (λ _ _ _=>id))
  replace R5:=Hd (R5.out.keeps hk (λ _ _ _=>id))
  have szw5:=hk.size
  replace K:=tq_ K hk
  clear hk
  have RU:Hid (OBy w5 (From w.heap.size) (.slice Bu key.length ju) key):=HU.out.mono (λ b _ hb=>by have h1:w4.heap.size<=b:=hb.1;show w.heap.size<=b;omega)
  clear HU
  refine ⟨.inr (BN.out.cell 3),?_⟩
  refine cA_ rfl ?_
  go_wp2
  refine ⟨.inr ((BN.out.alloc _).cell 3),canon_at (λ w6 hw=>?_)⟩
  have hk:Keeps Nob w5 w6:=by rw [hw];exact Keeps.alloc _ _ _
  have BY:Hid (Blk w6 w5.heap.size 34 #[.slice Bu key.length ju]):=by rw [hw];exact Blk.new _ _ _
  have hown:(Value.slice D3 n.keys.length dj3).ownBlock≠some w5.heap.size:=λ e=>by have:=(R3.out.blk e).2;omega
  replace BN:=Hd (BN.out.keeps hk id)
  replace BR:=Hd (BR.out.keeps hk id)
  replace H:=Hd (H.out.keeps hk (λ _ _ _=>id))
  replace HK:=Hd (HK.out.keeps hk (λ _ _ _=>id))
  replace R1:=Hd (R1.out.keeps hk (λ _ _ _=>id))
  replace R3:=Hd (R3.out.keeps hk (λ _ _ _=>id))
  replace R4:=Hd (R4.out.keeps hk (λ _ _ _=>id))
  replace R5:=Hd (R5.out.keeps hk (λ _ _ _=>id))
  replace RU:=Hd (RU.out.keeps hk (λ _ _ _=>id))
  have szw6:=hk.size
  replace K:=tq_ K hk
  clear hw hk
  refine cA_ rfl ?_
  go_wp2_with (go_at_call 64;refine (insTx (i:=i) R3.out RU.out BY.out hown (HS.out.2.1.1.mono (by decide)) hbl).mono ?_;rintro e w7 ⟨v6,rfl,hO6,hK6,hb6⟩;obtain ⟨B6,j6,hf⟩:=hO6.form;subst hf;have HO6:=Hd hO6;have hk:=hK6;have HB6:=Hd hb6;clear hO6 hK6 hb6)
  clear BY hown RU
  have HP7:Hid (Prt (.slice B6 (ins n.keys i key).length j6) (.slice D4 n.vals.length dj4)):=λ b h1 h2=>by
   rcases HB6.out b h1 with h|h
   ·exact HP.out b h h2
   ·have:=(R4.out.blk h2).2;have:=h.1;omega
  replace BN:=Hd (BN.out.keepsR R3.out (by decide) hk)
  replace BR:=Hd (BR.out.keepsR R3.out (by decide) hk)
  replace H:=Hd (H.out.keeps hk (λ b _ hb e=>by have h1:b < w.heap.size:=hb;have h2:w.heap.size<=b:=(R3.out.blk e).1;omega))
  replace HK:=Hd (HK.out.keeps hk (λ b _ hb e=>by have h1:b < w.heap.size:=hb;have h2:w.heap.size<=b:=(R3.out.blk e).1;omega))
  replace R1:=Hd (R1.out.keepsR R3.out hk)
  replace R4:=Hd (R4.out.keepsR R3.out (λ b h1 h2=>HP.out b h2 h1) hk)
  replace R5:=Hd (R5.out.keepsR R3.out hk)
  have szw7:=hk.size
  replace K:=Hd (K.out.trans hk (λ b hb e=>by have h2:w.heap.size<=b:=(R3.out.blk e).1;omega))
  have hr3:OTx w7 (From w.heap.size) (.slice B6 (ins n.keys i key).length j6) (ins n.keys i key):=HO6.out.mono (λ b _ hb=>by
   rcases hb with hb|hb
   ·exact hb
   ·have:=hb.1;show w.heap.size<=b;omega)
  replace R3:=Hd hr3
  clear hr3 hk HO6 HB6
  refine ⟨.inr (BN.out.cell 3),?_⟩
  iterate 2
   refine cR_ (v:=?_) rfl ?_ ?_
   rotate_left
   ·intro W hW
    try (replace hW:World.cell? _ _=some _:=hW)
    go_simp
    try rfl
   simp only [Act.put,sa_,sb_,sc_]
  have qBN:=λ i=>BN.out.cell i
  have gBN:=λ i=>BN.out.frozen i
  have lBN:=BN.out.lt
  refine cA_ rfl ?_
  go_wp2
  refine ⟨.inl (by kernel_rfl),wpCanon_nil ?_⟩
  refine then_at (λ w8 hw=>?_)
  have hk:Keeps (λ b=>b=w.heap.size) w7 w8:=by rw [hw];exact Keeps.setCell _ (M:=λ b=>b=w.heap.size) rfl _
  have hb:Hid (Blk w8 (w.heap.size) 75 #[.int .i64 n.lvl,.slice D1 n.high.length dj1,.int .i64 n.right,.slice B6 (ins n.keys i key).length j6,.slice D4 n.vals.length dj4,.slice D5 n.kids.length dj5]):=by rw [hw];exact (BN.out.set_ 3 _)
  replace BR:=Hd (BR.out.keeps hk (by show ¬_=_;omega))
  replace H:=Hd (H.out.keeps hk (λ b _ hb e=>by have h1:b < w.heap.size:=hb;have h2:b=_:=e;omega))
  replace HK:=Hd (HK.out.keeps hk (λ b _ hb e=>by have h1:b < w.heap.size:=hb;have h2:b=_:=e;omega))
  replace R1:=Hd (R1.out.keepsB BN.out ha hk)
  replace R3:=Hd (R3.out.keepsB BN.out ha hk)
  replace R4:=Hd (R4.out.keepsB BN.out ha hk)
  replace R5:=Hd (R5.out.keepsB BN.out ha hk)
  replace BN:=hb
  clear hw hb
  have szw8:=hk.size
  replace K:=Hd (K.out.trans hk (λ b hb e=>by subst e;omega))
  clear hk
  clear qBN gBN lBN
  by_cases hik:i+1<=n.kids.length
  ·have hmn:min (i+1) n.kids.length=(i+1):=by omega
   rw [hmn] at hwo
   have HWO:=Hd hwo
   clear hwo hmn
   have t1:(i:Int)+1<=(n.kids.length:Int):=by omega
   have t2:¬(n.kids.length:Int) < (i:Int)+1:=by omega
   have qBN:=λ i=>BN.out.cell i
   have gBN:=λ i=>BN.out.frozen i
   have lBN:=BN.out.lt
   go_wp2_with fail
   clear qBN gBN lBN
   have hni:∀ W:World,W=w8->True:=λ _ _=>trivial
   clear hni
   have HNI:Hid ((Value.slice D5 n.kids.length dj5).ownBlock≠some w8.heap.size):=λ e=>by have:=(Own.blk R5.out e).2;omega
   refine calls_at (λ w9 hw=>?_)
   have hk:Keeps Nob w8 w9:=by rw [hw];exact Keeps.alloc _ _ _
   have BI:Hid (Blk w9 (w8.heap.size) 3 #[.int .i64 kid]):=by rw [hw];exact Blk.new _ _ _
   replace BN:=Hd (BN.out.keeps hk id)
   replace BR:=Hd (BR.out.keeps hk id)
   replace H:=Hd (H.out.keeps hk (λ _ _ _=>id))
   replace HK:=Hd (HK.out.keeps hk (λ _ _ _=>id))
   replace R1:=Hd (R1.out.keeps hk (λ _ _ _=>id))
   replace R3:=Hd (R3.out.keeps hk (λ _ _ _=>id))
   replace R4:=Hd (R4.out.keeps hk (λ _ _ _=>id))
   replace R5:=Hd (R5.out.keeps hk (λ _ _ _=>id))
   have szw9:=hk.size
   have ltBI:=BI.out.lt
   replace K:=tq_ K hk
   clear hw hk
   refine (insIn (i:=(i+1)) R5.out BI.out ?_ (HS.out.2.2.2.mono (by decide)) (by omega)).mono ?_
   ·exact λ e=>HNI.out e
   rintro e w10 ⟨v6,rfl,hO6,hk⟩
   obtain ⟨B7,j7,hf⟩:=Own.form hO6
   subst hf
   replace BN:=Hd (BN.out.keepsOw R5.out (by decide) hk)
   replace BR:=Hd (BR.out.keepsOw R5.out (by decide) hk)
   replace H:=Hd (H.out.keeps hk (λ b _ hb e=>by have h1:b < w.heap.size:=hb;have h2:w.heap.size<=b:=(Own.blk R5.out e).1;omega))
   replace HK:=Hd (HK.out.keeps hk (λ b _ hb e=>by have h1:b < w.heap.size:=hb;have h2:w.heap.size<=b:=(Own.blk R5.out e).1;omega))
   replace R1:=Hd (OBy.keepsOw R1.out R5.out (by decide) hk)
   replace R3:=Hd (R3.out.keepsOw R5.out (by decide) (by decide) hk)
   replace R4:=Hd (R4.out.keepsOw R5.out (by decide) (by decide) hk)
   have szw10:=hk.size
   replace K:=Hd (K.out.trans hk (λ b hb e=>by have h2:w.heap.size<=b:=(Own.blk R5.out e).1;omega))
   have hr5:OIn w10 (From w.heap.size) (.slice B7 (ins n.kids (i+1) kid).length j7) (ins n.kids (i+1) kid):=hO6.mono (λ b _ hb=>by
    rcases hb with hb|hb
    ·exact hb
    ·have:=hb.1;show w.heap.size<=b;omega)
   replace R5:=Hd hr5
   clear hr5 hk hO6 BI HNI
   have qBN:=λ i=>BN.out.cell i
   have gBN:=λ i=>BN.out.frozen i
   have lBN:=BN.out.lt
   have qBR:=λ i=>BR.out.cell i
   have gBR:=λ i=>BR.out.frozen i
   have lBR:=BR.out.lt
   go_wp2
   refine post_at (λ w11 hw=>?_)
   clear qBN gBN lBN qBR gBR lBR
   have hk0:Keeps (λ b=>b=w.heap.size) w10 (w10.setCell ⟨w.heap.size,5,none⟩ (.slice B7 (ins n.kids (i+1) kid).length j7)):=Keeps.setCell _ (M:=λ b=>b=w.heap.size) rfl _
   have hbr:=BR.out.keeps hk0 (by show ¬_=_;omega)
   have hk:Keeps (λ b=>b=w.heap.size+1) (w10.setCell ⟨w.heap.size,5,none⟩ (.slice B7 (ins n.kids (i+1) kid).length j7)) w11:=by rw [hw];exact (((((Keeps.setCell _ (M:=λ b=>b=w.heap.size+1) rfl _).setCell' (λ _=>rfl) _).setCell' (λ _=>rfl) _).setCell' (λ _=>rfl) _).setCell' (λ _=>rfl) _).setCell' (λ _=>rfl) _
   have hb:Blk w11 (w.heap.size+1) 75 #[.int .i64 n.lvl,.slice D1 n.high.length dj1,.int .i64 n.right,.slice B6 (ins n.keys i key).length j6,.slice D4 n.vals.length dj4,.slice B7 (ins n.kids (i+1) kid).length j7]:=by rw [hw];exact ((((((hbr.set_ 0 _).set_ 1 _).set_ 2 _).set_ 3 _).set_ 4 _).set_ 5 _)
   clear hw
   have r0:=hb.cell 0
   have r1:=hb.cell 1
   have r2:=hb.cell 2
   have r3:=hb.cell 3
   have r4:=hb.cell 4
   have r5:=hb.cell 5
   rw [HWO.out,HVH.out]
   refine bodyPost_ret (v:=.tuple #[.agg #[.int .i64 n.lvl,.slice D1 n.high.length dj1,.int .i64 n.right,.slice B6 (ins n.keys i key).length j6,.slice D4 n.vals.length dj4,.slice B7 (ins n.kids (i+1) kid).length j7],.bool true]) (by simp [results,Try.results43,go_sem,r0,r1,r2,r3,r4,r5]) rfl ⟨_,_,_,_,_,_,rfl,⟨⟨rfl,?_,rfl⟩,?_,?_,?_⟩,(K.out.trans hk0 (λ b hb e=>by have h2:b=_:=e;omega)).trans hk (λ b hb e=>by have h2:b=_:=e;omega)⟩
   ·exact ((R1.out.keepsB BN.out ha hk0).keepsB hbr ha hk).mono (λ b hb h=>⟨h,hb⟩)
   ·exact ((R3.out.keepsB BN.out ha hk0).keepsB hbr ha hk).mono (λ b hb h=>⟨h,hb⟩)
   ·exact ((R4.out.keepsB BN.out ha hk0).keepsB hbr ha hk).mono (λ b hb h=>⟨h,hb⟩)
   ·exact ((R5.out.keepsB BN.out ha hk0).keepsB hbr ha hk).mono (λ b hb h=>⟨h,hb⟩)
  ·have hmn:min (i+1) n.kids.length=n.kids.length:=by omega
   rw [hmn] at hwo
   have HWO:=Hd hwo
   clear hwo hmn
   have t1:¬(i:Int)+1<=(n.kids.length:Int):=by omega
   have t2:(n.kids.length:Int) < (i:Int)+1:=by omega
   have qBN:=λ i=>BN.out.cell i
   have gBN:=λ i=>BN.out.frozen i
   have lBN:=BN.out.lt
   go_wp2_with fail
   clear qBN gBN lBN
   have hni:∀ W:World,W=w8->True:=λ _ _=>trivial
   clear hni
   have HNI:Hid ((Value.slice D5 n.kids.length dj5).ownBlock≠some w8.heap.size):=λ e=>by have:=(Own.blk R5.out e).2;omega
   refine calls_at (λ w9 hw=>?_)
   have hk:Keeps Nob w8 w9:=by rw [hw];exact Keeps.alloc _ _ _
   have BI:Hid (Blk w9 (w8.heap.size) 3 #[.int .i64 kid]):=by rw [hw];exact Blk.new _ _ _
   replace BN:=Hd (BN.out.keeps hk id)
   replace BR:=Hd (BR.out.keeps hk id)
   replace H:=Hd (H.out.keeps hk (λ _ _ _=>id))
   replace HK:=Hd (HK.out.keeps hk (λ _ _ _=>id))
   replace R1:=Hd (R1.out.keeps hk (λ _ _ _=>id))
   replace R3:=Hd (R3.out.keeps hk (λ _ _ _=>id))
   replace R4:=Hd (R4.out.keeps hk (λ _ _ _=>id))
   replace R5:=Hd (R5.out.keeps hk (λ _ _ _=>id))
   have szw9:=hk.size
   have ltBI:=BI.out.lt
   replace K:=tq_ K hk
   clear hw hk
   refine (insIn (i:=n.kids.length) R5.out BI.out ?_ (HS.out.2.2.2.mono (by decide)) (by omega)).mono ?_
   ·exact λ e=>HNI.out e
   rintro e w10 ⟨v6,rfl,hO6,hk⟩
   obtain ⟨B7,j7,hf⟩:=Own.form hO6
   subst hf
   replace BN:=Hd (BN.out.keepsOw R5.out (by decide) hk)
   replace BR:=Hd (BR.out.keepsOw R5.out (by decide) hk)
   replace H:=Hd (H.out.keeps hk (λ b _ hb e=>by have h1:b < w.heap.size:=hb;have h2:w.heap.size<=b:=(Own.blk R5.out e).1;omega))
   replace HK:=Hd (HK.out.keeps hk (λ b _ hb e=>by have h1:b < w.heap.size:=hb;have h2:w.heap.size<=b:=(Own.blk R5.out e).1;omega))
   replace R1:=Hd (OBy.keepsOw R1.out R5.out (by decide) hk)
   replace R3:=Hd (R3.out.keepsOw R5.out (by decide) (by decide) hk)
   replace R4:=Hd (R4.out.keepsOw R5.out (by decide) (by decide) hk)
   have szw10:=hk.size
   replace K:=Hd (K.out.trans hk (λ b hb e=>by have h2:w.heap.size<=b:=(Own.blk R5.out e).1;omega))
   have hr5:OIn w10 (From w.heap.size) (.slice B7 (ins n.kids n.kids.length kid).length j7) (ins n.kids n.kids.length kid):=hO6.mono (λ b _ hb=>by
    rcases hb with hb|hb
    ·exact hb
    ·have:=hb.1;show w.heap.size<=b;omega)
   replace R5:=Hd hr5
   clear hr5 hk hO6 BI HNI
   have qBN:=λ i=>BN.out.cell i
   have gBN:=λ i=>BN.out.frozen i
   have lBN:=BN.out.lt
   have qBR:=λ i=>BR.out.cell i
   have gBR:=λ i=>BR.out.frozen i
   have lBR:=BR.out.lt
   go_wp2
   refine post_at (λ w11 hw=>?_)
   clear qBN gBN lBN qBR gBR lBR
   have hk0:Keeps (λ b=>b=w.heap.size) w10 (w10.setCell ⟨w.heap.size,5,none⟩ (.slice B7 (ins n.kids n.kids.length kid).length j7)):=Keeps.setCell _ (M:=λ b=>b=w.heap.size) rfl _
   have hbr:=BR.out.keeps hk0 (by show ¬_=_;omega)
   have hk:Keeps (λ b=>b=w.heap.size+1) (w10.setCell ⟨w.heap.size,5,none⟩ (.slice B7 (ins n.kids n.kids.length kid).length j7)) w11:=by rw [hw];exact (((((Keeps.setCell _ (M:=λ b=>b=w.heap.size+1) rfl _).setCell' (λ _=>rfl) _).setCell' (λ _=>rfl) _).setCell' (λ _=>rfl) _).setCell' (λ _=>rfl) _).setCell' (λ _=>rfl) _
   have hb:Blk w11 (w.heap.size+1) 75 #[.int .i64 n.lvl,.slice D1 n.high.length dj1,.int .i64 n.right,.slice B6 (ins n.keys i key).length j6,.slice D4 n.vals.length dj4,.slice B7 (ins n.kids n.kids.length kid).length j7]:=by rw [hw];exact ((((((hbr.set_ 0 _).set_ 1 _).set_ 2 _).set_ 3 _).set_ 4 _).set_ 5 _)
   clear hw
   have r0:=hb.cell 0
   have r1:=hb.cell 1
   have r2:=hb.cell 2
   have r3:=hb.cell 3
   have r4:=hb.cell 4
   have r5:=hb.cell 5
   rw [HWO.out,HVH.out]
   refine bodyPost_ret (v:=.tuple #[.agg #[.int .i64 n.lvl,.slice D1 n.high.length dj1,.int .i64 n.right,.slice B6 (ins n.keys i key).length j6,.slice D4 n.vals.length dj4,.slice B7 (ins n.kids n.kids.length kid).length j7],.bool true]) (by simp [results,Try.results43,go_sem,r0,r1,r2,r3,r4,r5]) rfl ⟨_,_,_,_,_,_,rfl,⟨⟨rfl,?_,rfl⟩,?_,?_,?_⟩,(K.out.trans hk0 (λ b hb e=>by have h2:b=_:=e;omega)).trans hk (λ b hb e=>by have h2:b=_:=e;omega)⟩
   ·exact ((R1.out.keepsB BN.out ha hk0).keepsB hbr ha hk).mono (λ b hb h=>⟨h,hb⟩)
   ·exact ((R3.out.keepsB BN.out ha hk0).keepsB hbr ha hk).mono (λ b hb h=>⟨h,hb⟩)
   ·exact ((R4.out.keepsB BN.out ha hk0).keepsB hbr ha hk).mono (λ b hb h=>⟨h,hb⟩)
   ·exact ((R5.out.keepsB BN.out ha hk0).keepsB hbr ha hk).mono (λ b hb h=>⟨h,hb⟩)
end
section
variable {S:Nat->Prop} {w:World} {c0 c1 c2 c3 c4 c5:Value} {n:Nd} {cn cl ci cf cb rt:Int}
theorem overP (h:IsNd w S c0 c1 c2 c3 c4 c5 n):Calls Try.prog 44 #[.agg #[c0,c1,c2,c3,c4,c5],.agg #[.int .i64 cn,.int .i64 cl,.int .i64 ci,.int .i64 cf,.int .i64 cb]] w λ e w'=>e=.returned (.bool (over n cl ci))/\Keeps Nob w w':=by
 obtain ⟨A3,k3,e3,_,_⟩:=h.2.keys.form
 obtain ⟨A5,k5,e5,_,_⟩:=h.2.kids.form
 have e0:=h.1.lvl
 subst e0 e3 e5
 clear h
 unfold over iV
 by_cases hl:n.lvl=0
 ·rw [if_pos hl]
  obtain ⟨b,hb⟩:∃ b,decide (cl < (n.keys.length:Int))=b:=⟨_,rfl⟩
  rw [hb]
  have t0:(n.lvl==0)=true:=by simp [hl]
  have t1:(n.lvl != 0)=false:=by simp [hl]
  clear hl
  cases b
  all_goals
   go_enter Try.func44,Try.ntmps44
   go_wp2
   go_ret
   exact ⟨rfl,(Keeps.alloc _ w _).alloc' _⟩
 ·rw [if_neg hl]
  obtain ⟨b,hb⟩:∃ b,decide (ci < (n.kids.length:Int))=b:=⟨_,rfl⟩
  rw [hb]
  have t0:(n.lvl==0)=false:=by simp [hl]
  have t1:(n.lvl != 0)=true:=by simp [hl]
  clear hl
  cases b
  all_goals
   go_enter Try.func44,Try.ntmps44
   go_wp2
   go_ret
   exact ⟨rfl,(Keeps.alloc _ w _).alloc' _⟩
end
end Go.Proofs.Ytjcgphhpaenjkaa
