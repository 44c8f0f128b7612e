import Derived.Test.YtjcgphhpaenjkaaPkD9
set_option maxHeartbeats 64000000
set_option maxRecDepth 100000
set_option linter.unusedVariables false
namespace Go.Proofs.Ytjcgphhpaenjkaa
open Go.RowKit Go.Maps
theorem equalP {S T:Nat->Prop} {w:World} {a b:Value} {la lb:List UInt8} (h1:Byts w S a la) (h2:Byts w T b lb):Calls Try.prog 72 #[a,b] w λ e w'=>e=.returned (.bool (la==lb))/\w'=w:=by
 have t1:=run_str h1
 have t2:=run_str h2
 clear h1 h2
 go_enter Try.func72,Try.ntmps72
 go_wp2
 go_ret
 exact ⟨rfl,rfl⟩
theorem Own.at8 {w:World} {S:Nat->Prop} {e:TypeId} {size n c j:Nat} {A:Option Addr} {xs:List Value} {y:Value} (h:Own w S e size (.slice A n c) n xs) (hn:0 < n) (hj:xs[j]?=some y):∃ g o,A=some ⟨g,o,none⟩/\w.cell? ⟨g,o+j,none⟩=some y:=by
 obtain ⟨_,_,hf⟩:=h.at_
 rcases hf with ⟨_,e⟩|⟨g',o',cur,e,_,hb,_,hx⟩
 ·omega
 ·exact ⟨g',o',e,by rw [hb.cell];exact hx _ _ hj⟩
theorem nodup_at {l:List Int} (h:l.Nodup) {k:Nat} {y:Int} (hk:l[k]?=some y):y ∉ l.take k:=λ hm=>by
 have h1:(l.take (k+1)).Nodup:=h.sublist (List.take_sublist _ _)
 rw [take_snocC l k y hk] at h1
 exact (List.nodup_append.1 h1).2.2 y hm y (by simp) rfl
theorem lk_cells {w:World} {S D:Nat->Prop} {A:Option Addr} {n c i:Nat} {ks:List Lk} {k:Lk} (h:Own w S 90 8 (.slice A n c) n (lkCells ks)) (hnn:n=ks.length) (hi:ks[i]?=some k) (hl:IsLk w D k):∃ g o LA LC X1 k1 X3 k3 X4 k4 X5 k5,A=some ⟨g,o,none⟩/\w.cell? ⟨g,o+i*8,none⟩=some (.int .i64 k.id)/\w.cell? ⟨g,o+i*8+1,none⟩=some (.slice LA k.low.length LC)/\w.cell? ⟨g,o+i*8+2,none⟩=some (.int .i64 k.nd.lvl)/\w.cell? ⟨g,o+i*8+3,none⟩=some (.slice X1 k.nd.high.length k1)/\w.cell? ⟨g,o+i*8+4,none⟩=some (.int .i64 k.nd.right)/\w.cell? ⟨g,o+i*8+5,none⟩=some (.slice X3 k.nd.keys.length k3)/\w.cell? ⟨g,o+i*8+6,none⟩=some (.slice X4 k.nd.vals.length k4)/\w.cell? ⟨g,o+i*8+7,none⟩=some (.slice X5 k.nd.kids.length k5)/\Byts w D (.slice LA k.low.length LC) k.low/\IsNd w D (.int .i64 k.nd.lvl) (.slice X1 k.nd.high.length k1) (.int .i64 k.nd.right) (.slice X3 k.nd.keys.length k3) (.slice X4 k.nd.vals.length k4) (.slice X5 k.nd.kids.length k5) k.nd:=by
 obtain ⟨LA,LC,e1,_,_⟩:=hl.1.form
 obtain ⟨X1,k1,e3,_,_⟩:=hl.2.1.high.form
 obtain ⟨X3,k3,e5,_,_⟩:=hl.2.2.keys.form
 obtain ⟨X4,k4,e6,_,_⟩:=hl.2.2.vals.form
 obtain ⟨X5,k5,e7,_,_⟩:=hl.2.2.kids.form
 have hlt:=(List.getElem?_eq_some_iff.1 hi).1
 have key:∀ j v,k.cells[j]?=some v->∃ g o,A=some ⟨g,o,none⟩/\w.cell? ⟨g,o+(i*8+j),none⟩=some v:=λ j v hv=>Own.at8 h (by omega) (lkCells_at hi j v hv)
 obtain ⟨g,o,eA,h0⟩:=key 0 _ rfl
 have key2:∀ j v,k.cells[j]?=some v->w.cell? ⟨g,o+i*8+j,none⟩=some v:=λ j v hv=>by
  obtain ⟨g',o',eA',h'⟩:=key j v hv
  rw [eA] at eA'
  cases eA'
  rw [Nat.add_assoc];exact h'
 have hl2:=hl
 unfold IsLk at hl2
 rw [e1,e3,e5,e6,e7] at hl2
 exact ⟨g,o,LA,LC,X1,k1,X3,k3,X4,k4,X5,k5,eA,key2 0 _ rfl,by rw [<-e1];exact key2 1 _ rfl,key2 2 _ rfl,by rw [<-e3];exact key2 3 _ rfl,key2 4 _ rfl,by rw [<-e5];exact key2 5 _ rfl,by rw [<-e6];exact key2 6 _ rfl,by rw [<-e7];exact key2 7 _ rfl,hl2.1,hl2.2⟩
def posI (l:List Int) (x:Int):Int:=if x ∈ l then (l.idxOf x:Int)+1 else 0
theorem posI_snoc {l:List Int} {x:Int} (hx:x ∉ l) (y:Int):posI (l++[x]) y=if y=x then (l.length:Int)+1 else posI l y:=by
 unfold posI
 by_cases h:y=x
 ·subst h
  rw [if_pos (by simp),if_pos rfl,List.idxOf_append,if_neg hx]
  simp
 ·rw [if_neg h]
  by_cases hl:y ∈ l
  ·rw [if_pos (by simp [hl]),if_pos hl,List.idxOf_append,if_pos hl]
  ·rw [if_neg (by simp [hl,h]),if_neg hl]
def Pos (D:DataW Unit) (l:List Int):Prop:=IsMap D/\∀ x:Int,D.atKey (.int .i64 x) (.lit (.int .i64 0))=.lit (.int .i64 (posI l x))
theorem Pos.nil:Pos (.map []) []:=⟨isMap_empty,λ x=>by simp [posI];rfl⟩
theorem Pos.step {D:DataW Unit} {l:List Int} (h:Pos D l) {x:Int} (hx:x ∉ l):Pos (D.put (.int .i64 x) (.lit (.int .i64 (l.length+1)))) (l++[x]):=by
 refine ⟨h.1.put _ _,λ y=>?_⟩
 rw [posI_snoc hx]
 by_cases hy:y=x
 ·subst hy
  rw [atKey_put_same h.1 (key_int y),if_pos rfl]
 ·rw [atKey_put_other (by intro e;injection e with _ e;exact hy e),h.2 y,if_neg hy]
section
variable {w:World} {A:Ar} {Su Sd Du Dd:Nat->Prop} {uv dv:Value} {ku kd:List Lk}
theorem kid_out {kid:Int} {want:List UInt8} (h:kid ∉ kd.map Lk.id):kidOk (kd.map Lk.pr) kid want=false:=by
 unfold kidOk
 rw [List.any_eq_false]
 intro d hd
 obtain ⟨k,hk,rfl⟩:=List.mem_map.1 hd
 simp only [Lk.pr,Bool.and_eq_true,beq_iff_eq,not_and]
 intro e
 exact absurd (List.mem_map.2 ⟨k,hk,e⟩) h
theorem kid_in {kid:Int} {want:List UInt8} {j:Nat} {k:Lk} (hn:(kd.map Lk.id).Nodup) (hj:kd[j]?=some k) (hk:k.id=kid):kidOk (kd.map Lk.pr) kid want=(k.low==want):=by
 unfold kidOk
 by_cases h:k.low=want
 ·rw [show (k.low==want)=true by simpa using h,List.any_eq_true]
  exact ⟨k.pr,List.mem_map.2 ⟨k,List.mem_of_getElem? hj,rfl⟩,by simp [Lk.pr,hk,h]⟩
 ·rw [show (k.low==want)=false by simpa using h,List.any_eq_false]
  intro d hd
  obtain ⟨k2,hk2,rfl⟩:=List.mem_map.1 hd
  simp only [Lk.pr,Bool.and_eq_true,beq_iff_eq,not_and]
  intro e e2
  obtain ⟨i,hi⟩:=List.getElem?_of_mem hk2
  have h1:(kd.map Lk.id)[i]?=some kid:=by rw [List.getElem?_map,hi];simp [e]
  have h2:(kd.map Lk.id)[j]?=some kid:=by rw [List.getElem?_map,hj];simp [hk]
  obtain ⟨l1,g1⟩:=List.getElem?_eq_some_iff.1 h1
  obtain ⟨l2,g2⟩:=List.getElem?_eq_some_iff.1 h2
  have e3:i=j:=by
   rcases Nat.lt_trichotomy i j with h3|h3|h3
   ·exact absurd (by rw [g1,g2]) (List.pairwise_iff_getElem.1 hn i j l1 l2 h3)
   ·exact h3
   ·exact absurd (by rw [g1,g2]) (List.pairwise_iff_getElem.1 hn j i l2 l1 h3)
  subst e3
  rw [hi] at hj
  cases hj
  exact h e2
theorem pos_at {kid:Int} (h:0 < posI (kd.map Lk.id) kid):∃ (j:Nat) (k:Lk),kd[j]?=some k/\k.id=kid/\posI (kd.map Lk.id) kid=(j:Int)+1:=by
 unfold posI at h ⊢
 by_cases hm:kid ∈ kd.map Lk.id
 ·rw [if_pos hm]
  have h1:=List.idxOf_lt_length_of_mem hm
  have h2:(kd.map Lk.id).idxOf kid < kd.length:=by simpa using h1
  refine ⟨_,kd[(kd.map Lk.id).idxOf kid],List.getElem?_eq_getElem h2,?_,rfl⟩
  have h3:(kd.map Lk.id)[(kd.map Lk.id).idxOf kid]=kid:=List.getElem_idxOf h1
  rw [List.getElem_map] at h3
  exact h3
 ·rw [if_neg hm] at h;omega
theorem pkidsR {R:Rp} (hU:Own w Su 90 8 uv ku.length (lkCells ku)) (hV:Own w Sd 90 8 dv kd.length (lkCells kd)) (hu:∀ k ∈ ku,IsLk w Du k) (hd:∀ k ∈ kd,IsLk w Dd k) (hn:(kd.map Lk.id).Nodup) (hK:∀ k ∈ kd,K64 k.id) (hkk:∀ k ∈ ku,(∀ x ∈ k.nd.kids,K64 x)/\k.nd.kids.length<=k.nd.keys.length+1) (hA:∀ k ∈ ku,opNd A k.id=k.nd) (hl1:ku.length<=65536) (hl2:kd.length<=65536) (hR:kidsM A (kd.map Lk.pr) (ku.map Lk.pr)=R) :
  Calls Try.prog 57 #[uv,dv] w λ e w'=>Keeps Nob w w'/\((R.sound=true/\e=.returned (.tuple #[]))\/(R.sound=false/\e=.panicked [{v:=wrongV R.node R.err,recovered:=false}])):=by
 obtain ⟨uA,uc,eu⟩:=hU.form
 obtain ⟨dA,dc,ed⟩:=hV.form
 subst eu ed
 have HU:=Hd hU
 have HV:=Hd hV
 have HLU:=Hd hu
 have HLD:=Hd hd
 have HN:=Hd hn
 have HK:=Hd hK
 have HKK:=Hd hkk
 have HA:=Hd hA
 have HR:=Hd hR
 clear hU hV hu hd hn hK hkk hA hR
 have hmm:=@run_makeMap Try.prog
 go_enter Try.func57,Try.ntmps57
 go_wp2
 refine code_at (λ w1 hw=>?_)
 have K:Hid (Keeps Nob w w1):=by rw [hw];exact Hd (Keeps.alloc _ _ _)
 obtain ⟨m,hm⟩:∃ N,w.heap.size=N:=⟨_,rfl⟩
 rw [hm]
 have HO:Hid (OwnsI w1 m 0 (.map [])):=by rw [hw,<-hm];exact Hd (World.ownsMap_made _ _ _ _)
 have HM:=Hd hm
 clear hw hm hmm
 go_loopw [16] (λ iv wr=>∃ (k:Nat) (Dm:DataW Unit),iv=.int .i64 k/\k<=kd.length/\Pos Dm ((kd.take k).map Lk.id)/\OwnsI wr m k Dm/\Keeps Nob w wr) (λ iv _=>kd.length-(intOf iv).toNat)
 case atStart=>exact ⟨0,_,rfl,Nat.zero_le _,Pos.nil,HO.out,K.out⟩
 clear HO K
 obtain ⟨k,Dm,rfl,hk,hp,ho,hkr⟩:=hrel
 rcases Nat.lt_or_ge k kd.length with hlt|hlt
 ·obtain ⟨x,hx⟩:∃ x,kd[k]?=some x:=⟨_,List.getElem?_eq_getElem hlt⟩
  have HX:=Hd hx
  have HP:=Hd hp
  have HO:=Hd ho
  have K:=Hd hkr
  obtain ⟨g,o,LA,LC,X1,k1,X3,k3,X4,k4,X5,k5,eA,q0,q1,q2,q3,q4,q5,q6,q7,hby,hnd⟩:=lk_cells HV.out rfl hx (HLD.out x (List.mem_of_getElem? hx))
  subst eA
  clear hx hp ho hkr hby hnd
  replace q0:=K.out.cell q0 id
  replace q1:=K.out.cell q1 id
  replace q2:=K.out.cell q2 id
  replace q3:=K.out.cell q3 id
  replace q4:=K.out.cell q4 id
  replace q5:=K.out.cell q5 id
  replace q6:=K.out.cell q6 id
  replace q7:=K.out.cell q7 id
  have f0:=((Blk.new wr 90 #[.int .i64 0,.slice none 0 0,.int .i64 0,.slice none 0 0,.int .i64 0,.slice none 0 0,.slice none 0 0,.slice none 0 0])).frozen 0
  have z0:=((Blk.new wr 90 #[.int .i64 0,.slice none 0 0,.int .i64 0,.slice none 0 0,.int .i64 0,.slice none 0 0,.slice none 0 0,.slice none 0 0])).cell 0
  have f1:=λ (v0:Value)=>(((Blk.new wr 90 #[.int .i64 0,.slice none 0 0,.int .i64 0,.slice none 0 0,.int .i64 0,.slice none 0 0,.slice none 0 0,.slice none 0 0])).set_ 0 v0).frozen 1
  have z1:=λ (v0:Value)=>(((Blk.new wr 90 #[.int .i64 0,.slice none 0 0,.int .i64 0,.slice none 0 0,.int .i64 0,.slice none 0 0,.slice none 0 0,.slice none 0 0])).set_ 0 v0).cell 1
  have f2:=λ (v0 v1:Value)=>((((Blk.new wr 90 #[.int .i64 0,.slice none 0 0,.int .i64 0,.slice none 0 0,.int .i64 0,.slice none 0 0,.slice none 0 0,.slice none 0 0])).set_ 0 v0).set_ 1 v1).frozen 2
  have z2:=λ (v0 v1:Value)=>((((Blk.new wr 90 #[.int .i64 0,.slice none 0 0,.int .i64 0,.slice none 0 0,.int .i64 0,.slice none 0 0,.slice none 0 0,.slice none 0 0])).set_ 0 v0).set_ 1 v1).cell 2
  have f3:=λ (v0 v1 v2:Value)=>(((((Blk.new wr 90 #[.int .i64 0,.slice none 0 0,.int .i64 0,.slice none 0 0,.int .i64 0,.slice none 0 0,.slice none 0 0,.slice none 0 0])).set_ 0 v0).set_ 1 v1).set_ 2 v2).frozen 3
  have z3:=λ (v0 v1 v2:Value)=>(((((Blk.new wr 90 #[.int .i64 0,.slice none 0 0,.int .i64 0,.slice none 0 0,.int .i64 0,.slice none 0 0,.slice none 0 0,.slice none 0 0])).set_ 0 v0).set_ 1 v1).set_ 2 v2).cell 3
  have f4:=λ (v0 v1 v2 v3:Value)=>((((((Blk.new wr 90 #[.int .i64 0,.slice none 0 0,.int .i64 0,.slice none 0 0,.int .i64 0,.slice none 0 0,.slice none 0 0,.slice none 0 0])).set_ 0 v0).set_ 1 v1).set_ 2 v2).set_ 3 v3).frozen 4
  have z4:=λ (v0 v1 v2 v3:Value)=>((((((Blk.new wr 90 #[.int .i64 0,.slice none 0 0,.int .i64 0,.slice none 0 0,.int .i64 0,.slice none 0 0,.slice none 0 0,.slice none 0 0])).set_ 0 v0).set_ 1 v1).set_ 2 v2).set_ 3 v3).cell 4
  have f5:=λ (v0 v1 v2 v3 v4:Value)=>(((((((Blk.new wr 90 #[.int .i64 0,.slice none 0 0,.int .i64 0,.slice none 0 0,.int .i64 0,.slice none 0 0,.slice none 0 0,.slice none 0 0])).set_ 0 v0).set_ 1 v1).set_ 2 v2).set_ 3 v3).set_ 4 v4).frozen 5
  have z5:=λ (v0 v1 v2 v3 v4:Value)=>(((((((Blk.new wr 90 #[.int .i64 0,.slice none 0 0,.int .i64 0,.slice none 0 0,.int .i64 0,.slice none 0 0,.slice none 0 0,.slice none 0 0])).set_ 0 v0).set_ 1 v1).set_ 2 v2).set_ 3 v3).set_ 4 v4).cell 5
  have f6:=λ (v0 v1 v2 v3 v4 v5:Value)=>((((((((Blk.new wr 90 #[.int .i64 0,.slice none 0 0,.int .i64 0,.slice none 0 0,.int .i64 0,.slice none 0 0,.slice none 0 0,.slice none 0 0])).set_ 0 v0).set_ 1 v1).set_ 2 v2).set_ 3 v3).set_ 4 v4).set_ 5 v5).frozen 6
  have z6:=λ (v0 v1 v2 v3 v4 v5:Value)=>((((((((Blk.new wr 90 #[.int .i64 0,.slice none 0 0,.int .i64 0,.slice none 0 0,.int .i64 0,.slice none 0 0,.slice none 0 0,.slice none 0 0])).set_ 0 v0).set_ 1 v1).set_ 2 v2).set_ 3 v3).set_ 4 v4).set_ 5 v5).cell 6
  have f7:=λ (v0 v1 v2 v3 v4 v5 v6:Value)=>(((((((((Blk.new wr 90 #[.int .i64 0,.slice none 0 0,.int .i64 0,.slice none 0 0,.int .i64 0,.slice none 0 0,.slice none 0 0,.slice none 0 0])).set_ 0 v0).set_ 1 v1).set_ 2 v2).set_ 3 v3).set_ 4 v4).set_ 5 v5).set_ 6 v6).frozen 7
  have z7:=λ (v0 v1 v2 v3 v4 v5 v6:Value)=>(((((((((Blk.new wr 90 #[.int .i64 0,.slice none 0 0,.int .i64 0,.slice none 0 0,.int .i64 0,.slice none 0 0,.slice none 0 0,.slice none 0 0])).set_ 0 v0).set_ 1 v1).set_ 2 v2).set_ 3 v3).set_ 4 v4).set_ 5 v5).set_ 6 v6).cell 7
  go_upto_region 4 with (fail)
  clear q0 q1 q2 q3 q4 q5 q6 q7
  clear f0 z0 f1 z1 f2 z2 f3 z3 f4 z4 f5 z5 f6 z6 f7 z7
  refine code_at (λ w2 hw=>?_)
  obtain ⟨N6,hN⟩:∃ N,wr.heap.size=N:=⟨_,rfl⟩
  rw [hN]
  have hk2:Keeps Nob wr w2:=by rw [hw];exact Keeps.alloc _ _ _
  have HB:Hid (Blk w2 N6 90 #[.int .i64 x.id,.slice LA x.low.length LC,.int .i64 x.nd.lvl,.slice X1 x.nd.high.length k1,.int .i64 x.nd.right,.slice X3 x.nd.keys.length k3,.slice X4 x.nd.vals.length k4,.slice X5 x.nd.kids.length k5]):=by rw [hw,<-hN];exact Hd (Blk.new _ _ _)
  replace HO:=Hd (HO.out.keeps hk2 (λ h=>h))
  replace K:=Hd (K.out.trans hk2 (λ _ _ h=>h))
  clear hw hN hk2
  have HKEY:Hid (keyOf Try.prog 3 (.int .i64 x.id)=some (.int .i64 x.id)):=Hd (keyOf_int_mk Try.underlying3 (HK.out x (List.mem_of_getElem? HX.out)))
  have i1:(1:Int)<=(k:Int)+1:=by omega
  have i2:(k:Int)+1<=65536:=by omega
  have HI:Hid (K64 ((k:Int)+1)):=Hd (k64_in i1 i2)
  clear i1 i2
  have q0:=HB.out.cell 0
  go_wp2_with (at_mapUpdate;refine wpList_mapUpdate_own _ rfl _ _ _ 93 rfl 3 3 Try.lawInt Try.underlying93 _ m _ _ rfl HO.out (by unfold maxLen;omega) _ _ _ rfl rfl HKEY.out (.lit (.int .i64 ((k:Int)+1))) [] (plainElem_int Try.underlying3 HI.out) ?_;intro w3 hown hgrow)
  have hk3:Keeps (λ b=>b=m) w2 w3:=Keeps.grown hgrow (λ j hj=>(Option.some.inj hj).symm)
  have HOW:=Hd hown
  clear q0 hown hgrow
  go_roundw
  case rel=>
   have e1:(kd.take (k+1)).map Lk.id=(kd.take k).map Lk.id++[x.id]:=by rw [List.take_add_one,HX.out];simp
   have e2:((kd.take k).map Lk.id).length=k:=by simp;omega
   have h3:=HP.out.step (x:=x.id) (by rw [List.map_take];exact nodup_at HN.out (by rw [List.getElem?_map,HX.out];rfl))
   rw [e2,<-e1] at h3
   exact ⟨k+1,_,by simp,hlt,h3,HOW.out,K.out.trans hk3 (λ b hb e=>by have e2:b=m:=e;have:=HM.out;omega)⟩
  case measure=>simp [intOf];omega
 obtain rfl:k=kd.length:=by omega
 rw [List.take_length] at hp
 have HP:=Hd hp
 have HO:=Hd ho
 have K:=Hd hkr
 clear hp ho hkr hlt hk
 go_wp2
 go_loopw [29] (λ iv wz=>∃ i:Nat,iv=.int .i64 i/\i<=ku.length/\kidsM A (kd.map Lk.pr) ((ku.map Lk.pr).drop i)=R/\OwnsI wz m kd.length Dm/\Keeps Nob w wz) (λ iv _=>ku.length-(intOf iv).toNat)
 case atStart=>exact ⟨0,rfl,Nat.zero_le _,HR.out,HO.out,K.out⟩
 clear HO K HR
 obtain ⟨i,rfl,hi,hR,ho,hkr⟩:=hrel
 have HR:=Hd hR
 have HO:=Hd ho
 have K:=Hd hkr
 clear hR ho hkr
 rcases Nat.lt_or_ge i ku.length with hlt|hlt
 rotate_left
 ·obtain rfl:i=ku.length:=by omega
  have HX:Hid (R=.ok):=by have h:=HR.out;rw [List.drop_of_length_le (by simp)] at h;exact Hd h.symm
  clear hlt hi HR
  go_wp2
  exact ⟨rfl,_,results_none rfl _ _ _,K.out,.inl ⟨by rw [HX.out];rfl,rfl⟩⟩
 obtain ⟨x,hx⟩:∃ x,ku[i]?=some x:=⟨_,List.getElem?_eq_getElem hlt⟩
 have HX:=Hd hx
 obtain ⟨g,o,LA,LC,X1,k1,X3,k3,X4,k4,X5,k5,eA,q0,q1,q2,q3,q4,q5,q6,q7,hby,hnd⟩:=lk_cells HU.out rfl hx (HLU.out x (List.mem_of_getElem? hx))
 subst eA
 have HBY:=Hd hby
 have HND:=Hd hnd
 have HKX:=Hd (HKK.out x (List.mem_of_getElem? hx))
 have HAX:=Hd (HA.out x (List.mem_of_getElem? hx))
 clear hx hby hnd
 replace q0:=K.out.cell q0 id
 replace q1:=K.out.cell q1 id
 replace q2:=K.out.cell q2 id
 replace q3:=K.out.cell q3 id
 replace q4:=K.out.cell q4 id
 replace q5:=K.out.cell q5 id
 replace q6:=K.out.cell q6 id
 replace q7:=K.out.cell q7 id
 have f0:=((Blk.new wr 90 #[.int .i64 0,.slice none 0 0,.int .i64 0,.slice none 0 0,.int .i64 0,.slice none 0 0,.slice none 0 0,.slice none 0 0])).frozen 0
 have z0:=((Blk.new wr 90 #[.int .i64 0,.slice none 0 0,.int .i64 0,.slice none 0 0,.int .i64 0,.slice none 0 0,.slice none 0 0,.slice none 0 0])).cell 0
 have f1:=λ (v0:Value)=>(((Blk.new wr 90 #[.int .i64 0,.slice none 0 0,.int .i64 0,.slice none 0 0,.int .i64 0,.slice none 0 0,.slice none 0 0,.slice none 0 0])).set_ 0 v0).frozen 1
 have z1:=λ (v0:Value)=>(((Blk.new wr 90 #[.int .i64 0,.slice none 0 0,.int .i64 0,.slice none 0 0,.int .i64 0,.slice none 0 0,.slice none 0 0,.slice none 0 0])).set_ 0 v0).cell 1
 have f2:=λ (v0 v1:Value)=>((((Blk.new wr 90 #[.int .i64 0,.slice none 0 0,.int .i64 0,.slice none 0 0,.int .i64 0,.slice none 0 0,.slice none 0 0,.slice none 0 0])).set_ 0 v0).set_ 1 v1).frozen 2
 have z2:=λ (v0 v1:Value)=>((((Blk.new wr 90 #[.int .i64 0,.slice none 0 0,.int .i64 0,.slice none 0 0,.int .i64 0,.slice none 0 0,.slice none 0 0,.slice none 0 0])).set_ 0 v0).set_ 1 v1).cell 2
 have f3:=λ (v0 v1 v2:Value)=>(((((Blk.new wr 90 #[.int .i64 0,.slice none 0 0,.int .i64 0,.slice none 0 0,.int .i64 0,.slice none 0 0,.slice none 0 0,.slice none 0 0])).set_ 0 v0).set_ 1 v1).set_ 2 v2).frozen 3
 have z3:=λ (v0 v1 v2:Value)=>(((((Blk.new wr 90 #[.int .i64 0,.slice none 0 0,.int .i64 0,.slice none 0 0,.int .i64 0,.slice none 0 0,.slice none 0 0,.slice none 0 0])).set_ 0 v0).set_ 1 v1).set_ 2 v2).cell 3
 have f4:=λ (v0 v1 v2 v3:Value)=>((((((Blk.new wr 90 #[.int .i64 0,.slice none 0 0,.int .i64 0,.slice none 0 0,.int .i64 0,.slice none 0 0,.slice none 0 0,.slice none 0 0])).set_ 0 v0).set_ 1 v1).set_ 2 v2).set_ 3 v3).frozen 4
 have z4:=λ (v0 v1 v2 v3:Value)=>((((((Blk.new wr 90 #[.int .i64 0,.slice none 0 0,.int .i64 0,.slice none 0 0,.int .i64 0,.slice none 0 0,.slice none 0 0,.slice none 0 0])).set_ 0 v0).set_ 1 v1).set_ 2 v2).set_ 3 v3).cell 4
 have f5:=λ (v0 v1 v2 v3 v4:Value)=>(((((((Blk.new wr 90 #[.int .i64 0,.slice none 0 0,.int .i64 0,.slice none 0 0,.int .i64 0,.slice none 0 0,.slice none 0 0,.slice none 0 0])).set_ 0 v0).set_ 1 v1).set_ 2 v2).set_ 3 v3).set_ 4 v4).frozen 5
 have z5:=λ (v0 v1 v2 v3 v4:Value)=>(((((((Blk.new wr 90 #[.int .i64 0,.slice none 0 0,.int .i64 0,.slice none 0 0,.int .i64 0,.slice none 0 0,.slice none 0 0,.slice none 0 0])).set_ 0 v0).set_ 1 v1).set_ 2 v2).set_ 3 v3).set_ 4 v4).cell 5
 have f6:=λ (v0 v1 v2 v3 v4 v5:Value)=>((((((((Blk.new wr 90 #[.int .i64 0,.slice none 0 0,.int .i64 0,.slice none 0 0,.int .i64 0,.slice none 0 0,.slice none 0 0,.slice none 0 0])).set_ 0 v0).set_ 1 v1).set_ 2 v2).set_ 3 v3).set_ 4 v4).set_ 5 v5).frozen 6
 have z6:=λ (v0 v1 v2 v3 v4 v5:Value)=>((((((((Blk.new wr 90 #[.int .i64 0,.slice none 0 0,.int .i64 0,.slice none 0 0,.int .i64 0,.slice none 0 0,.slice none 0 0,.slice none 0 0])).set_ 0 v0).set_ 1 v1).set_ 2 v2).set_ 3 v3).set_ 4 v4).set_ 5 v5).cell 6
 have f7:=λ (v0 v1 v2 v3 v4 v5 v6:Value)=>(((((((((Blk.new wr 90 #[.int .i64 0,.slice none 0 0,.int .i64 0,.slice none 0 0,.int .i64 0,.slice none 0 0,.slice none 0 0,.slice none 0 0])).set_ 0 v0).set_ 1 v1).set_ 2 v2).set_ 3 v3).set_ 4 v4).set_ 5 v5).set_ 6 v6).frozen 7
 have z7:=λ (v0 v1 v2 v3 v4 v5 v6:Value)=>(((((((((Blk.new wr 90 #[.int .i64 0,.slice none 0 0,.int .i64 0,.slice none 0 0,.int .i64 0,.slice none 0 0,.slice none 0 0,.slice none 0 0])).set_ 0 v0).set_ 1 v1).set_ 2 v2).set_ 3 v3).set_ 4 v4).set_ 5 v5).set_ 6 v6).cell 7
 go_upto_region 9 with (fail)
 clear q0 q1 q2 q3 q4 q5 q6 q7
 clear f0 z0 f1 z1 f2 z2 f3 z3 f4 z4 f5 z5 f6 z6 f7 z7
 refine code_at (λ w2 hw=>?_)
 obtain ⟨N8,hN⟩:∃ N,wr.heap.size=N:=⟨_,rfl⟩
 rw [hN]
 have hk2:Keeps Nob wr w2:=by rw [hw];exact Keeps.alloc _ _ _
 have HB:Hid (Blk w2 N8 90 #[.int .i64 x.id,.slice LA x.low.length LC,.int .i64 x.nd.lvl,.slice X1 x.nd.high.length k1,.int .i64 x.nd.right,.slice X3 x.nd.keys.length k3,.slice X4 x.nd.vals.length k4,.slice X5 x.nd.kids.length k5]):=by rw [hw,<-hN];exact Hd (Blk.new _ _ _)
 have HN8:Hid (w.heap.size<=N8):=by have h:=K.out.size;rw [hN] at h;exact Hd h
 replace HO:=Hd (HO.out.keeps hk2 (λ h=>h))
 replace K:=Hd (K.out.trans hk2 (λ _ _ h=>h))
 clear hw hN hk2
 have q1:=HB.out.cell 1
 have q7:=HB.out.cell 7
 go_wp2
 clear q1 q7
 go_loopw [9,40] (λ lowv jv wr=>∃ j:Nat,jv=.int .i64 j/\j<=x.nd.kids.length/\kidsIn (kd.map Lk.pr) x.low x.nd j=true/\(j=0->lowv=.slice LA x.low.length LC)/\OwnsI wr m kd.length Dm/\Keeps Nob w wr/\Blk wr N8 90 #[.int .i64 x.id,.slice LA x.low.length LC,.int .i64 x.nd.lvl,.slice X1 x.nd.high.length k1,.int .i64 x.nd.right,.slice X3 x.nd.keys.length k3,.slice X4 x.nd.vals.length k4,.slice X5 x.nd.kids.length k5]) (λ _ jv _=>x.nd.kids.length-(intOf jv).toNat)
 case atStart=>exact ⟨0,rfl,Nat.zero_le _,rfl,λ _=>rfl,HO.out,K.out,HB.out⟩
 clear HO K HB
 obtain ⟨j,rfl,hj,hin,hlow,ho,hkr,hb⟩:=hrel
 have HIN:=Hd hin
 have HLO:=Hd hlow
 have HO:=Hd ho
 have K:=Hd hkr
 have HB:=Hd hb
 clear hin hlow ho hkr hb
 rcases Nat.lt_or_ge j x.nd.kids.length with hjl|hjl
 rotate_left
 ·obtain rfl:j=x.nd.kids.length:=by omega
  clear hjl hj HLO
  go_wp2
  go_roundw
  case rel=>
   refine ⟨i+1,by simp,hlt,?_,HO.out,K.out⟩
   have h:=HR.out
   rw [kidsM_drop (id:=x.id) (low:=x.low) (by rw [List.getElem?_map,HX.out];rfl),HAX.out,if_pos (show nodeKids (kd.map Lk.pr) x.low x.nd=true from HIN.out)] at h
   exact h
  case measure=>simp [intOf];omega
 obtain ⟨kid,hkid⟩:∃ y,x.nd.kids[j]?=some y:=⟨_,List.getElem?_eq_getElem hjl⟩
 obtain ⟨ad,eX,_,hc⟩:=HND.out.2.kids.cells hjl
 subst eX
 have q0:wr.cell? (ad.add j)=some (.int .i64 kid):=K.out.cell (hc j kid hkid) id
 have HKID:=Hd hkid
 have HKEY:Hid (keyOf Try.prog 3 (.int .i64 kid)=some (.int .i64 kid)):=Hd (keyOf_int_mk Try.underlying3 (HKX.out.1 kid (List.mem_of_getElem? hkid)))
 have HDP:Hid (x.nd.kids.getD j 0=kid):=by rw [List.getD_eq_getElem?_getD,hkid];exact Hd rfl
 clear hkid hc
 rcases Nat.eq_zero_or_pos j with hj0|hj0
 ·subst hj0
  obtain rfl:=HLO.out rfl
  have q0':wr.cell? ad=some (.int .i64 kid):=by have h:=q0;have e:ad.add 0=ad:=rfl;rw [e] at h;exact h
  clear q0 HLO
  go_upto_region 15 with (fail)
  clear q0'
  have HBW:=HBY
  have HWL:Hid (wantLow x.low x.nd 0=x.low):=Hd rfl
  have HAT:=Hd (HP.out.2 kid)
  go_upto_region 16 with (first|(at_lookup;refine wpList_lookup_own_int _ rfl _ _ 93 rfl 3 3 .i64 Try.lawInt Try.underlying93 Try.underlying3 (Try.zeroInt _) m _ _ rfl HO.out _ _ rfl HKEY.out ?_;intro c hat hwc;have hcc:=lit_inj (hat.symm.trans HAT.out);subst hcc;clear hat hwc))
  clear HAT
  rcases Int.lt_or_le 0 (posI (kd.map Lk.id) kid) with hpos|hpos
  rotate_left
  ·have hm:kid ∉ kd.map Lk.id:=λ hm=>by unfold posI at hpos;rw [if_pos hm] at hpos;omega
   have HKF:Hid (kidOk (kd.map Lk.pr) kid (wantLow x.low x.nd 0)=false):=Hd (kid_out hm)
   rw [show posI (kd.map Lk.id) kid=0 by unfold posI;rw [if_neg hm]]
   clear hpos hm
   refine rC_ [0,1,2,3,4,10,13,14,5,6,7,8,9,11,12,15] 16 (λ W=>W.cell? ⟨N8,0,none⟩=some (.int .i64 x.id)/\True) ⟨HB.out.cell 0,trivial⟩ ?_
   refine canon_at (λ v0 hw=>?_)
   have hk2:Keeps Nob wr v0:=by rw [hw];exact Keeps.drew _ _
   replace HB:=Hd (HB.out.keeps hk2 (λ h=>h))
   replace HO:=Hd (HO.out.keeps hk2 (λ h=>h))
   replace K:=Hd (K.out.trans hk2 (λ _ _ h=>h))
   clear hw hk2
   iterate 8
    first
     | refine wpCanon_skip rfl (by kernel_rfl) (by rfl) ?_
     |
      refine cR_ (v:=?_) rfl ?_ ?_
      rotate_left
      ·intro W hW
       try (obtain ⟨h1,h2⟩:_/\_:=hW)
       go_simp
       try rfl
    simp only [Act.put,sa_,sb_,sc_]
   refine cA_ rfl ?_
   go_wp2
   refine ⟨.inr ⟨HB.out.cell 0,trivial⟩,?_⟩
   iterate 4
    first
     | refine wpCanon_skip rfl (by kernel_rfl) (by rfl) ?_
     |
      refine cR_ (v:=?_) rfl ?_ ?_
      rotate_left
      ·intro W hW
       try (obtain ⟨h1,h2⟩:_/\_:=hW)
       go_simp
       try rfl
    simp only [Act.put,sa_,sb_,sc_]
   refine cA_ rfl ?_
   go_wp2
   refine ⟨.inr ⟨HB.out.cell 0,trivial⟩,?_⟩
   iterate 1
    first
     | refine wpCanon_skip rfl (by kernel_rfl) (by rfl) ?_
     |
      refine cR_ (v:=?_) rfl ?_ ?_
      rotate_left
      ·intro W hW
       try (obtain ⟨h1,h2⟩:_/\_:=hW)
       go_simp
       try rfl
    simp only [Act.put,sa_,sb_,sc_]
   refine cA_ rfl ?_
   go_wp2_with fail
   refine (needNo _ _ _).mono ?_
   rintro e w4 ⟨rfl,rfl⟩
   have HX2:Hid (R=.wrong x.id 113):=by
    have h:=HR.out
    rw [kidsM_drop (id:=x.id) (low:=x.low) (by rw [List.getElem?_map,HX.out];rfl),HAX.out,if_neg (by rw [kidsIn_not hjl (by rw [HDP.out];exact HKF.out)];decide)] at h
    exact Hd h.symm
   exact ⟨rfl,K.out,.inr ⟨by rw [HX2.out];rfl,by rw [HX2.out];rfl⟩⟩
  obtain ⟨jj,y,hy,hyk,hpe⟩:=pos_at hpos
  rw [hpe]
  have HY:=Hd hy
  obtain ⟨dg,dof,DA,DC,Y1,e1,Y3,e3,Y4,e4,Y5,e5,eD,_,r1,_,_,_,_,_,_,hyb,_⟩:=lk_cells HV.out rfl hy (HLD.out y (List.mem_of_getElem? hy))
  subst eD
  have HYB:=Hd hyb
  have HR1:=Hd r1
  have HKQ:Hid (kidOk (kd.map Lk.pr) kid (wantLow x.low x.nd 0)=(y.low==x.low)):=by rw [HWL.out];exact Hd (kid_in HN.out hy hyk)
  have hjj:=(List.getElem?_eq_some_iff.1 hy).1
  have hw64:IntKind.i64.wrap (jj:Int)=(jj:Int):=by rw [IntKind.wrap_i64];omega
  clear hy hyk hpe hpos hyb r1
  refine rC_ [0,1,2,3,4,10,13,14,5,6,7,8,9,11,12,15] 16 (λ W=>W.cell? ⟨N8,0,none⟩=some (.int .i64 x.id)/\W.cell? ⟨dg,dof+jj*8+1,none⟩=some (.slice DA y.low.length DC)) ⟨HB.out.cell 0,K.out.cell HR1.out id⟩ ?_
  refine canon_at (λ v0 hw=>?_)
  have hk2:Keeps Nob wr v0:=by rw [hw];exact Keeps.drew _ _
  replace HB:=Hd (HB.out.keeps hk2 (λ h=>h))
  replace HO:=Hd (HO.out.keeps hk2 (λ h=>h))
  replace K:=Hd (K.out.trans hk2 (λ _ _ h=>h))
  clear hw hk2
  iterate 8
   first
    | refine wpCanon_skip rfl (by kernel_rfl) (by rfl) ?_
    |
     refine cR_ (v:=?_) rfl ?_ ?_
     rotate_left
     ·intro W hW
      try (obtain ⟨h1,h2⟩:_/\_:=hW)
      go_simp
      try rfl
   simp only [Act.put,sa_,sb_,sc_]
  refine cA_ rfl ?_
  go_wp2
  refine ⟨.inr ⟨HB.out.cell 0,K.out.cell HR1.out id⟩,?_⟩
  iterate 4
   first
    | refine wpCanon_skip rfl (by kernel_rfl) (by rfl) ?_
    |
     refine cR_ (v:=?_) rfl ?_ ?_
     rotate_left
     ·intro W hW
      try (obtain ⟨h1,h2⟩:_/\_:=hW)
      go_simp
      try rfl
   simp only [Act.put,sa_,sb_,sc_]
  refine cA_ rfl ?_
  go_wp2_with (go_at_call 72;refine (equalP (HYB.out.keeps K.out (λ _ _ _ h=>h)) (HBW.out.keeps K.out (λ _ _ _ h=>h))).mono ?_;rintro e w4 ⟨rfl,rfl⟩)
  refine ⟨.inr ⟨HB.out.cell 0,K.out.cell HR1.out id⟩,?_⟩
  obtain ⟨bb,hbb⟩:∃ b,(y.low==x.low)=b:=⟨_,rfl⟩
  rw [hbb] at HKQ ⊢
  clear hbb
  iterate 1
   first
    | refine wpCanon_skip rfl (by kernel_rfl) (by rfl) ?_
    |
     refine cR_ (v:=?_) rfl ?_ ?_
     rotate_left
     ·intro W hW
      try (obtain ⟨h1,h2⟩:_/\_:=hW)
      go_simp
      try rfl
   simp only [Act.put,sa_,sb_,sc_]
  refine cA_ rfl ?_
  cases bb
  ·have HKF:=HKQ
   go_wp2_with fail
   refine (needNo _ _ _).mono ?_
   rintro e w4 ⟨rfl,rfl⟩
   have HX2:Hid (R=.wrong x.id 113):=by
    have h:=HR.out
    rw [kidsM_drop (id:=x.id) (low:=x.low) (by rw [List.getElem?_map,HX.out];rfl),HAX.out,if_neg (by rw [kidsIn_not hjl (by rw [HDP.out];exact HKF.out)];decide)] at h
    exact Hd h.symm
   exact ⟨rfl,K.out,.inr ⟨by rw [HX2.out];rfl,by rw [HX2.out];rfl⟩⟩
  go_wp2_with fail
  refine (needOk _ _ _).mono ?_
  rintro e w4 ⟨rfl,rfl⟩
  go_wp2
  refine ⟨.inr ⟨HB.out.cell 0,K.out.cell HR1.out id⟩,?_⟩
  refine wpCanon_nil ?_
  go_wp2
  go_roundw
  case rel=>exact ⟨0+1,by simp,hjl,by rw [kidsIn_succ,HIN.out,HDP.out,HKQ.out];rfl,λ h=>absurd h (by omega),HO.out,K.out,HB.out⟩
  case measure=>simp [intOf];omega
 clear HLO
 have hbk:x.nd.kids.length<=9223372036854775807:=by obtain ⟨_,_,_,h1,h2⟩:=HND.out.2.kids.form;unfold maxLen at h2;omega
 have hkl:=HKX.out.2
 have hk1:j-1 < x.nd.keys.length:=by omega
 obtain ⟨z,hz⟩:∃ z,x.nd.keys[j-1]?=some z:=⟨_,List.getElem?_eq_getElem hk1⟩
 have HWL:Hid (wantLow x.low x.nd j=z):=by show _=_;unfold wantLow;rw [if_neg (by omega),List.getD_eq_getElem?_getD,hz];rfl
 obtain ⟨ka,eK,_,hkc⟩:=Txts.cells HND.out.2.keys (i:=j-1) hk1
 subst eK
 obtain ⟨u,hu,hbu⟩:=hkc (j-1) z hz
 obtain ⟨ZA,zc,ez,_,_⟩:=hbu.form
 subst ez
 have qk:wr.cell? (ka.add (j-1))=some (.slice ZA z.length zc):=K.out.cell hu (λ h=>h)
 have q5:=HB.out.cell 5
 have HBW:=Hd hbu
 have hm1:(j:Int)-1=((j-1:Nat):Int):=by omega
 have hm2:((j:Int)-1).toNat=j-1:=by omega
 have hj1:(0:Int) < (j:Int):=by omega
 clear hz hu hbu hkc hkl
 go_upto_region 15 with (fail)
 clear q0 qk q5 hm1 hm2 hj1
 have HAT:=Hd (HP.out.2 kid)
 go_upto_region 16 with (first|(at_lookup;refine wpList_lookup_own_int _ rfl _ _ 93 rfl 3 3 .i64 Try.lawInt Try.underlying93 Try.underlying3 (Try.zeroInt _) m _ _ rfl HO.out _ _ rfl HKEY.out ?_;intro c hat hwc;have hcc:=lit_inj (hat.symm.trans HAT.out);subst hcc;clear hat hwc))
 clear HAT
 rcases Int.lt_or_le 0 (posI (kd.map Lk.id) kid) with hpos|hpos
 rotate_left
 ·have hm:kid ∉ kd.map Lk.id:=λ hm=>by unfold posI at hpos;rw [if_pos hm] at hpos;omega
  have HKF:Hid (kidOk (kd.map Lk.pr) kid (wantLow x.low x.nd j)=false):=Hd (kid_out hm)
  rw [show posI (kd.map Lk.id) kid=0 by unfold posI;rw [if_neg hm]]
  clear hpos hm
  refine rC_ [0,1,2,3,4,10,13,14,5,6,7,8,9,11,12,15] 16 (λ W=>W.cell? ⟨N8,0,none⟩=some (.int .i64 x.id)/\True) ⟨HB.out.cell 0,trivial⟩ ?_
  refine canon_at (λ v0 hw=>?_)
  have hk2:Keeps Nob wr v0:=by rw [hw];exact Keeps.drew _ _
  replace HB:=Hd (HB.out.keeps hk2 (λ h=>h))
  replace HO:=Hd (HO.out.keeps hk2 (λ h=>h))
  replace K:=Hd (K.out.trans hk2 (λ _ _ h=>h))
  clear hw hk2
  iterate 8
   first
    | refine wpCanon_skip rfl (by kernel_rfl) (by rfl) ?_
    |
     refine cR_ (v:=?_) rfl ?_ ?_
     rotate_left
     ·intro W hW
      try (obtain ⟨h1,h2⟩:_/\_:=hW)
      go_simp
      try rfl
   simp only [Act.put,sa_,sb_,sc_]
  refine cA_ rfl ?_
  go_wp2
  refine ⟨.inr ⟨HB.out.cell 0,trivial⟩,?_⟩
  iterate 4
   first
    | refine wpCanon_skip rfl (by kernel_rfl) (by rfl) ?_
    |
     refine cR_ (v:=?_) rfl ?_ ?_
     rotate_left
     ·intro W hW
      try (obtain ⟨h1,h2⟩:_/\_:=hW)
      go_simp
      try rfl
   simp only [Act.put,sa_,sb_,sc_]
  refine cA_ rfl ?_
  go_wp2
  refine ⟨.inr ⟨HB.out.cell 0,trivial⟩,?_⟩
  iterate 1
   first
    | refine wpCanon_skip rfl (by kernel_rfl) (by rfl) ?_
    |
     refine cR_ (v:=?_) rfl ?_ ?_
     rotate_left
     ·intro W hW
      try (obtain ⟨h1,h2⟩:_/\_:=hW)
      go_simp
      try rfl
   simp only [Act.put,sa_,sb_,sc_]
  refine cA_ rfl ?_
  go_wp2_with fail
  refine (needNo _ _ _).mono ?_
  rintro e w4 ⟨rfl,rfl⟩
  have HX2:Hid (R=.wrong x.id 113):=by
   have h:=HR.out
   rw [kidsM_drop (id:=x.id) (low:=x.low) (by rw [List.getElem?_map,HX.out];rfl),HAX.out,if_neg (by rw [kidsIn_not hjl (by rw [HDP.out];exact HKF.out)];decide)] at h
   exact Hd h.symm
  exact ⟨rfl,K.out,.inr ⟨by rw [HX2.out];rfl,by rw [HX2.out];rfl⟩⟩
 obtain ⟨jj,y,hy,hyk,hpe⟩:=pos_at hpos
 rw [hpe]
 have HY:=Hd hy
 obtain ⟨dg,dof,DA,DC,Y1,e1,Y3,e3,Y4,e4,Y5,e5,eD,_,r1,_,_,_,_,_,_,hyb,_⟩:=lk_cells HV.out rfl hy (HLD.out y (List.mem_of_getElem? hy))
 subst eD
 have HYB:=Hd hyb
 have HR1:=Hd r1
 have HKQ:Hid (kidOk (kd.map Lk.pr) kid (wantLow x.low x.nd j)=(y.low==z)):=by rw [HWL.out];exact Hd (kid_in HN.out hy hyk)
 have hjj:=(List.getElem?_eq_some_iff.1 hy).1
 have hw64:IntKind.i64.wrap (jj:Int)=(jj:Int):=by rw [IntKind.wrap_i64];omega
 clear hy hyk hpe hpos hyb r1
 refine rC_ [0,1,2,3,4,10,13,14,5,6,7,8,9,11,12,15] 16 (λ W=>W.cell? ⟨N8,0,none⟩=some (.int .i64 x.id)/\W.cell? ⟨dg,dof+jj*8+1,none⟩=some (.slice DA y.low.length DC)) ⟨HB.out.cell 0,K.out.cell HR1.out id⟩ ?_
 refine canon_at (λ v0 hw=>?_)
 have hk2:Keeps Nob wr v0:=by rw [hw];exact Keeps.drew _ _
 replace HB:=Hd (HB.out.keeps hk2 (λ h=>h))
 replace HO:=Hd (HO.out.keeps hk2 (λ h=>h))
 replace K:=Hd (K.out.trans hk2 (λ _ _ h=>h))
 clear hw hk2
 iterate 8
  first
   | refine wpCanon_skip rfl (by kernel_rfl) (by rfl) ?_
   |
    refine cR_ (v:=?_) rfl ?_ ?_
    rotate_left
    ·intro W hW
     try (obtain ⟨h1,h2⟩:_/\_:=hW)
     go_simp
     try rfl
  simp only [Act.put,sa_,sb_,sc_]
 refine cA_ rfl ?_
 go_wp2
 refine ⟨.inr ⟨HB.out.cell 0,K.out.cell HR1.out id⟩,?_⟩
 iterate 4
  first
   | refine wpCanon_skip rfl (by kernel_rfl) (by rfl) ?_
   |
    refine cR_ (v:=?_) rfl ?_ ?_
    rotate_left
    ·intro W hW
     try (obtain ⟨h1,h2⟩:_/\_:=hW)
     go_simp
     try rfl
  simp only [Act.put,sa_,sb_,sc_]
 refine cA_ rfl ?_
 go_wp2_with (go_at_call 72;refine (equalP (HYB.out.keeps K.out (λ _ _ _ h=>h)) (HBW.out.keeps K.out (λ _ _ _ h=>h))).mono ?_;rintro e w4 ⟨rfl,rfl⟩)
 refine ⟨.inr ⟨HB.out.cell 0,K.out.cell HR1.out id⟩,?_⟩
 obtain ⟨bb,hbb⟩:∃ b,(y.low==z)=b:=⟨_,rfl⟩
 rw [hbb] at HKQ ⊢
 clear hbb
 iterate 1
  first
   | refine wpCanon_skip rfl (by kernel_rfl) (by rfl) ?_
   |
    refine cR_ (v:=?_) rfl ?_ ?_
    rotate_left
    ·intro W hW
     try (obtain ⟨h1,h2⟩:_/\_:=hW)
     go_simp
     try rfl
  simp only [Act.put,sa_,sb_,sc_]
 refine cA_ rfl ?_
 cases bb
 ·have HKF:=HKQ
  go_wp2_with fail
  refine (needNo _ _ _).mono ?_
  rintro e w4 ⟨rfl,rfl⟩
  have HX2:Hid (R=.wrong x.id 113):=by
   have h:=HR.out
   rw [kidsM_drop (id:=x.id) (low:=x.low) (by rw [List.getElem?_map,HX.out];rfl),HAX.out,if_neg (by rw [kidsIn_not hjl (by rw [HDP.out];exact HKF.out)];decide)] at h
   exact Hd h.symm
  exact ⟨rfl,K.out,.inr ⟨by rw [HX2.out];rfl,by rw [HX2.out];rfl⟩⟩
 go_wp2_with fail
 refine (needOk _ _ _).mono ?_
 rintro e w4 ⟨rfl,rfl⟩
 go_wp2
 refine ⟨.inr ⟨HB.out.cell 0,K.out.cell HR1.out id⟩,?_⟩
 refine wpCanon_nil ?_
 go_wp2
 go_roundw
 case rel=>exact ⟨j+1,by simp,hjl,by rw [kidsIn_succ,HIN.out,HDP.out,HKQ.out];rfl,λ h=>absurd h (by omega),HO.out,K.out,HB.out⟩
 case measure=>simp [intOf];omega
end
end Go.Proofs.Ytjcgphhpaenjkaa
