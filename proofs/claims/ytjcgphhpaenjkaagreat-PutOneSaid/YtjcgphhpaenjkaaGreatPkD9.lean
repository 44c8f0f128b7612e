import Derived.Test.YtjcgphhpaenjkaaGreatPkD8
import Derived.Test.YtjcgphhpaenjkaaGreatPkB0
import Derived.Test.YtjcgphhpaenjkaaGreatPkC4
import Derived.BigQuiet
set_option maxHeartbeats 64000000
set_option maxRecDepth 100000
set_option linter.unusedVariables false
namespace Go.Proofs.YtjcgphhpaenjkaaGreat
open Go.RowKit
def Un (k:Nat):Nat:=match k with
 | 3=>1
 | 4=>2
 | 5=>1
 | 6=>1
 | 7=>2
 | 8=>2
 | 9=>3
 | 10=>4
 | 11=>5
 | 12=>6
 | 13=>7
 | 16=>1
 | 17=>2
 | 18=>3
 | _=>0
theorem un_le (k:Nat):Un k<=7:=by unfold Un;split<;>decide
def NoHold (k:Nat):Prop:=k<=2\/k=14\/k=15\/19<=k
section
variable {leaf inner:Int} {A:Ar} {m:Pm} {B:Nat} {es:List En} {d:Mc}
def Says (r:Ps) (k:Nat):Prop:=r.1.1=decide (r.2.2.nx=20)/\(NoHold r.2.2.nx\/Un k+1<=Un r.2.2.nx)
theorem Says.go {b:Bool} {k:Nat} (h1:m.nx≠20) (h2:NoHold m.nx\/Un k+1<=Un m.nx):Says ((false,b),A,m) k:=⟨(decide_eq_false h1).symm,h2⟩
theorem Says.through {b:Bool} {k:Nat} {e:Int}:Says ((true,b),A,m.ends e) k:=⟨rfl,.inl (.inr (.inr (.inr (by show 19<=20;decide))))⟩
theorem stepP_says (ok:POk A m) (hn:m.nx<=20) (hx:m.nx≠20):Says (stepP leaf inner A m) m.nx:=by
 obtain ⟨k,hk⟩:∃ k,m.nx=k:=⟨_,rfl⟩
 have hk20:k<=20:=hk▸hn
 have hgo:∀ (b:Bool) (A':Ar) (m':Pm) (j:Nat),m'.nx=j->j≠20->(NoHold j\/Un k+1<=Un j)->Says ((false,b),A',m') m.nx:=λ b A' m' j h1 h2 h3=>.go (by rw [h1];exact h2) (by rw [h1,hk];exact h3)
 match k,hk,hk20,hgo with
 | 0,hk,_,_=>rw [stepP_0 hk];exact .through
 | 1,hk,_,hgo=>
  obtain ⟨d,hd⟩:=ok.des hk
  by_cases hdn:(stepM A d).nx=.done
  ·rw [stepP_1 hk hd hdn]
   split
   ·exact hgo _ _ _ 2 rfl (by decide) (.inl (.inl (by decide)))
   ·split
    ·exact hgo _ _ _ 14 rfl (by decide) (.inl (.inr (.inl rfl)))
    ·exact .through
  ·rw [stepP_1a hk hd hdn]
   exact hgo _ _ _ 1 hk (by decide) (.inl (.inl (by decide)))
 | 2,hk,_,hgo=>
  have e:stepP leaf inner A m=lockP leaf inner A m:=by unfold stepP;simp only [hk]
  rw [e]
  unfold lockP
  simp only
  split
  ·exact .through
  ·split
   ·exact hgo _ _ _ 1 rfl (by decide) (.inl (.inl (by decide)))
   ·split
    ·split
     ·exact hgo _ _ _ 6 rfl (by decide) (.inr (by decide))
     ·exact hgo _ _ _ 3 rfl (by decide) (.inr (by decide))
    ·split
     ·exact hgo _ _ _ 5 rfl (by decide) (.inr (by decide))
     ·split
      ·exact hgo _ _ _ 6 rfl (by decide) (.inr (by decide))
      ·exact hgo _ _ _ 3 rfl (by decide) (.inr (by decide))
 | 3,hk,_,hgo=>rw [stepP_3 hk (ok.body hk).1];exact hgo _ _ _ 4 rfl (by decide) (.inr (by decide))
 | 4,hk,_,_=>
  have hg:=ok.gives (.inl hk)
  rw [hk] at hg
  rw [stepP_4 hk hg];exact .through
 | 5,hk,_,_=>
  have hg:=ok.gives (.inr (.inl hk))
  rw [hk] at hg
  rw [stepP_5 hk hg];exact .through
 | 6,hk,_,hgo=>
  have e:stepP leaf inner A m=slotP A m:=by unfold stepP;simp only [hk]
  rw [e]
  unfold slotP
  by_cases hfull:A.sl.length=A.nodes
  ·rw [alloc_full_ hfull];simp only [hk];exact Says.go (by show 7≠20;decide) (.inr (by show Un 6+1<=Un 7;decide))
  ·rw [alloc_new_ hfull];simp only [hk];exact Says.go (by show 8≠20;decide) (.inr (by show Un 6+1<=Un 8;decide))
 | 7,hk,_,_=>
  have hg:=ok.gives (.inr (.inr hk))
  rw [hk] at hg
  rw [stepP_7 hk hg];split<;>exact .through
 | 8,hk,_,hgo=>rw [stepP_8 hk (ok.s8 hk).1];exact hgo _ _ _ 9 rfl (by decide) (.inr (by decide))
 | 9,hk,_,hgo=>rw [stepP_9 hk (ok.s9 hk).1];exact hgo _ _ _ 10 rfl (by decide) (.inr (by decide))
 | 10,hk,_,hgo=>rw [stepP_10 hk (ok.s10 hk)];exact hgo _ _ _ 11 rfl (by decide) (.inr (by decide))
 | 11,hk,_,hgo=>rw [stepP_11 hk (ok.s11 hk).1];exact hgo _ _ _ 12 rfl (by decide) (.inr (by decide))
 | 12,hk,_,hgo=>rw [stepP_12 hk (ok.s12 hk).1];exact hgo _ _ _ 13 rfl (by decide) (.inr (by decide))
 | 13,hk,_,hgo=>rw [stepP_13 hk (ok.s13 hk).1];exact hgo _ _ _ 1 rfl (by decide) (.inl (.inl (by decide)))
 | 14,hk,_,hgo=>
  rw [stepP_14 hk]
  split
  ·exact .through
  ·exact hgo _ _ _ 15 rfl (by decide) (.inl (.inr (.inr (.inl rfl))))
 | 15,hk,_,hgo=>
  have e:stepP leaf inner A m=slotP A m:=by unfold stepP;simp only [hk]
  rw [e]
  unfold slotP
  by_cases hfull:A.sl.length=A.nodes
  ·rw [alloc_full_ hfull];simp only [hk];exact .through
  ·rw [alloc_new_ hfull];simp only [hk];exact Says.go (by show 16≠20;decide) (.inr (by show Un 15+1<=Un 16;decide))
 | 16,hk,_,hgo=>rw [stepP_16 hk (ok.s16 hk)];exact hgo _ _ _ 17 rfl (by decide) (.inr (by decide))
 | 17,hk,_,hgo=>rw [stepP_17 hk (ok.s17 hk)];exact hgo _ _ _ 18 rfl (by decide) (.inr (by decide))
 | 18,hk,_,hgo=>rw [stepP_18 hk (ok.s18 hk)];exact hgo _ _ _ 19 rfl (by decide) (.inl (.inr (.inr (.inr (by decide)))))
 | 19,hk,_,hgo=>
  rw [stepP_19 hk]
  split
  ·exact .through
  ·exact hgo _ _ _ 1 rfl (by decide) (.inl (.inl (by decide)))
 | 20,hk,_,_=>exact absurd hk hx
 | j+21,_,h,_=>exact absurd h (by omega)
theorem Bud.pos (h:Bud leaf B A m es) (hn:m.nx<=20) (hx:m.nx≠20):0 < B:=by
 obtain ⟨k,hk⟩:∃ k,m.nx=k:=⟨_,rfl⟩
 have hk20:k<=20:=hk▸hn
 unfold Bud at h
 rw [hk] at h
 match k,hk,hk20,h with
 | 0,_,_,h=>have h:1<=B:=h;omega
 | 1,_,_,h=>obtain ⟨i,S,tail,_,h2,h3,_⟩:=h;omega
 | 2,_,_,h=>have h:=h.1;omega
 | 3,_,_,h=>have h:2<=B:=h;omega
 | 4,_,_,h=>have h:1<=B:=h;omega
 | 5,_,_,h=>have h:1<=B:=h;omega
 | 6,_,_,h=>have h:7+rest (m.level+1)<=B:=h;omega
 | 7,_,_,h=>have h:1<=B:=h;omega
 | 8,_,_,h=>have h:6+rest (m.level+1)<=B:=h;omega
 | 9,_,_,h=>have h:5+rest (m.level+1)<=B:=h;omega
 | 10,_,_,h=>have h:4+rest (m.level+1)<=B:=h;omega
 | 11,_,_,h=>have h:3+rest (m.level+1)<=B:=h;omega
 | 12,_,_,h=>have h:2+rest (m.level+1)<=B:=h;omega
 | 13,_,_,h=>have h:1+rest (m.level+1)<=B:=h;omega
 | 14,_,_,h=>have h:6<=B:=h;omega
 | 15,_,_,h=>have h:=h.1;omega
 | 16,_,_,h=>have h:=h.1;omega
 | 17,_,_,h=>have h:=h.1;omega
 | 18,_,_,h=>have h:=h.1;omega
 | 19,_,_,h=>have h:=h.1;omega
 | 20,hk,_,_=>exact absurd hk hx
 | j+21,_,h,_=>exact absurd h (by omega)
theorem held_even:∀ {l:List Sl} (i:Nat),(∀ s ∈ l,s.word % 2=0)->heldFrom i l=[]
 | [],_,_=>rfl
 | s::l,i,h=>by
  unfold heldFrom
  rw [if_neg (by have:=h s List.mem_cons_self;omega)]
  exact held_even (i+1) (λ x hx=>h x (List.mem_cons_of_mem _ hx))
theorem FreeOk.held (h:FreeOk A m) (hh:NoHold m.nx):heldFrom 1 A.sl=[]:=held_even 1 (h.even (holds_no hh))
end
def wV (s:Sl):Value:=.int .u64 s.word
section
variable {w:World} {G:Nat->Prop} {p:Nat} {A:Ar} {Φ:Fr}
theorem wordsR (h:JX w G Φ p A) (hl:A.sl.length<=65536):Calls Tryz.prog 55 #[pV p] w λ e w'=>∃ v,e=.returned v/\Own w' (From w.heap.size) 54 1 v A.sl.length (A.sl.map wV)/\Keeps Nob w w':=by
 have H:=Hd h
 clear h
 obtain ⟨i0,hi,hz0,hz1,hz2⟩:=info_parts Tryz.inf_u64
 unfold pV at *
 go_enter Tryz.func55,Tryz.ntmps55
 go_wp2
 go_loopw [3,4] (λ l i wr=>∃ k:Nat,k<=A.sl.length/\i=.int .i64 (k+1:Nat)/\Own wr (From w.heap.size) 54 1 l k ((A.sl.take k).map wV)/\Keeps Nob w wr) (λ _ i _=>A.sl.length+1-(intOf i).toNat)
 case atStart=>exact ⟨0,Nat.zero_le _,rfl,Own.nil _ _ _ _,Keeps.refl _ _⟩
 case round=>
  obtain ⟨k,hk,rfl,hown,hkp⟩:=hrel
  obtain ⟨A',c',hv⟩:=hown.form
  subst hv
  have HO:=Hd hown
  have HK:=Hd hkp
  have FU:=(H.out.nob hkp).usedX
  have hsz:=hkp.size
  unfold pV iV at FU
  clear hown hkp
  by_cases hlt:k < A.sl.length
  ·obtain ⟨s,hs⟩:∃ s,A.sl[k]?=some s:=⟨_,List.getElem?_eq_getElem hlt⟩
   have HT:=Hd (take_snoc' A.sl k s hs)
   have hg:A.get ((k+1:Nat):Int)=some s:=by unfold Ar.get;rw [if_pos (by omega),show (((k+1:Nat):Int)-1).toNat=k by omega];exact hs
   have FW:=(H.out.nob HK.out).wordX (ix:=((k+1:Nat):Int))
   have e1:opWord A ((k+1:Nat):Int)=s.word:=by unfold opWord;rw [hg]
   have e2:opErr A ((k+1:Nat):Int)=0:=by unfold opErr;rw [hg]
   rw [e1,e2] at FW
   unfold pV iV at FW
   clear hs hg e1 e2
   go_wp2_with (first
    | (go_at_call 23;refine FU.mono ?_;rintro e w' ⟨rfl,rfl⟩)
    | (go_at_call 22;refine FW.mono ?_;rintro e w' ⟨rfl,rfl⟩)
    | (at_builtin;refine wpList_app rfl (.tmp 19) (.tmp 21) 117 rfl Tryz.underlying117 hi hz0 hz1 hz2 rfl (by decide) (v:=.slice A' k c') (n:=k) (m:=1) (S:=From w.heap.size) (T:=λ _=>True) (xs:=(A.sl.take k).map wV) (news:=[.int .u64 s.word]) rfl ?c1 (y:=.slice (some ⟨wr.heap.size,0,none⟩) 1 1) rfl ?c2 ?c3 ?c4 ?c5 ?c6))
   case c1=>exact HO.out.keeps (Keeps.alloc Nob _ _) (λ _ _ _=>id)
   case c2=>exact (SlG.lit1 _ _ _ _ rfl).mono (λ _ _ _=>trivial)
   case c3=>intro u hu;simp at hu;subst hu;rfl
   case c4=>unfold maxLen;omega
   case c5=>omega
   case c6=>
    intro v' w1 ho hkk _
    have HOO:=Hd ho
    have HKK:=Hd hkk
    clear ho hkk
    go_wp2
    go_roundw
    case rel=>
     refine ⟨k+1,by omega,by go_num,?_,?_⟩
     ·rw [HT.out,List.map_append,List.map_take]
      refine HOO.out.mono (λ b _ hb=>?_)
      rcases hb with hb|hb
      ·exact (HO.out.blk hb).1
      ·have:=HK.out.size;show w.heap.size<=b;have h2:=hb.1;omega
     ·exact (HK.out.alloc' _).trans HKK.out (λ b hb e=>absurd hb (Nat.not_lt.2 (HO.out.blk e).1))
    case measure=>simp [intOf];omega
  ·obtain rfl:k=A.sl.length:=by omega
   clear hlt hk
   go_wp2_with (first
    | (go_at_call 23;refine FU.mono ?_;rintro e w' ⟨rfl,rfl⟩))
   go_ret
   have heq:A.sl.take A.sl.length=A.sl:=List.take_length
   have:=HO.out
   rw [heq] at this
   exact ⟨_,rfl,this,HK.out⟩
theorem sameWR {S T:Nat->Prop} {a b:Value} {l:List Sl} {n:Nat} (hn:n=l.length) (h1:Own w S 54 1 a n (l.map wV)) (h2:Own w T 54 1 b n (l.map wV)) (hl:n<=65536):Calls Tryz.prog 57 #[a,b] w λ e w'=>e=.returned (.bool true)/\Keeps Nob w w':=by
 obtain ⟨A,c,rfl⟩:=h1.form
 obtain ⟨B,d,rfl⟩:=h2.form
 have H1:=Hd h1
 have H2:=Hd h2
 have HN:=Hd hn
 clear h1 h2 hn
 go_enter Tryz.func57,Tryz.ntmps57
 go_wp2
 go_loopw [5] (λ i wr=>∃ k:Nat,k<=n/\i=.int .i64 k/\Keeps Nob w wr) (λ i _=>n-(intOf i).toNat)
 case atStart=>exact ⟨0,Nat.zero_le _,rfl,Keeps.refl _ _⟩
 case round=>
  obtain ⟨k,hk1,rfl,hK⟩:=hrel
  have HK:=Hd hK
  clear hK
  by_cases hlt:k < n
  ·obtain ⟨s,hs⟩:∃ s,l[k]?=some s:=⟨_,List.getElem?_eq_getElem (by have:=HN.out;omega)⟩
   have hx:(l.map wV)[k]?=some (.int .u64 s.word):=by rw [List.getElem?_map,hs];rfl
   obtain ⟨hd1,hd1',hf⟩:=H1.out.at_
   rcases hf with ⟨_,hd0⟩|⟨g,o,cur,e1,hg,hb,hcz,hc⟩
   ·exact absurd hd1 (by omega)
   subst e1
   have q1:wr.cell? ⟨g,o+k,none⟩=some (.int .u64 s.word):=by rw [(hb.keeps HK.out id).cell];exact hc _ _ hx
   obtain ⟨hd2,hd2',hf2⟩:=H2.out.at_
   rcases hf2 with ⟨_,hd0⟩|⟨g2,o2,cur2,e1,hg2,hb2,hcz2,hc2⟩
   ·exact absurd hd2 (by omega)
   subst e1
   have q2:wr.cell? ⟨g2,o2+k,none⟩=some (.int .u64 s.word):=by rw [(hb2.keeps HK.out id).cell];exact hc2 _ _ hx
   clear hd1' hb hcz hc hd2' hb2 hcz2 hc2 hs hx hg hg2
   go_wp2
   go_quiet (fail)
   go_wp2
   go_roundw
   case rel=>exact ⟨k+1,by omega,by go_num,HK.out.drewN' _⟩
   case measure=>simp [intOf];omega
  ·obtain rfl:k=n:=by omega
   go_wp2
   go_ret
   exact ⟨rfl,HK.out⟩
theorem hasER {Sl S:Nat->Prop} {lv kv:Value} {es:List En} {key:List UInt8} (hl:Own w Sl 46 2 lv es.length (enCells es)) (ht:∀ e ∈ es,Byts w S e.kv e.k) (hk:Byts w S kv key) (hz:es.length<=4000000000000):Calls Tryz.prog 21 #[lv,kv] w λ e w'=>e=.returned (.bool (hasE es key))/\Keeps Nob w w':=by
 obtain ⟨KA,kc,ek,_,_⟩:=hk.form
 obtain ⟨LA,lc,el⟩:=hl.form
 subst ek el
 have HO:=Hd hl
 have HT:Hid (∀ e ∈ es,Byts w S e.kv e.k):=ht
 have HKY:=Hd hk
 clear hl ht hk
 go_enter Tryz.func21,Tryz.ntmps21
 go_wp2
 go_loopw [5] (λ i wr=>∃ k:Nat,k<=es.length/\i=.int .i64 k/\hasE (es.take k) key=false/\Keeps Nob w wr) (λ i _=>es.length-(intOf i).toNat)
 case atStart=>exact ⟨0,Nat.zero_le _,rfl,rfl,Keeps.refl _ _⟩
 case round=>
  obtain ⟨k,hk1,rfl,hno,hK⟩:=hrel
  have HK:=Hd hK
  have HNO:=Hd hno
  clear hK hno
  by_cases hlt:k < es.length
  ·obtain ⟨e,he⟩:∃ e,es[k]?=some e:=⟨_,List.getElem?_eq_getElem hlt⟩
   have h1:=HT.out e (List.mem_of_getElem? he)
   obtain ⟨EA,ec,e1,_,_⟩:=h1.form
   obtain ⟨c0,_⟩:=enCells_at he
   obtain ⟨hd1,hd1',hf⟩:=HO.out.at_
   rcases hf with ⟨_,hd0⟩|⟨g,o,cur,e2,hg,hb,hcz,hc⟩
   ·exact absurd hd1 (by omega)
   subst e2
   have q1:wr.cell? ⟨g,o+k*2,none⟩=some (.slice EA e.k.length ec):=by rw [(hb.keeps HK.out id).cell,<-e1];exact hc _ _ c0
   rw [e1] at h1
   obtain ⟨sx,f1,s1⟩:=strN (h1.keeps HK.out (λ _ _ _=>id))
   obtain ⟨sy,f2,s2⟩:=strN (HKY.out.keeps HK.out (λ _ _ _=>id))
   have HX:Hid (hasE (es.take (k+1)) key=(e.k==key)):=by
    show _=_
    have h:=HNO.out
    unfold hasE at h ⊢
    rw [List.take_add_one,he,Option.toList_some,List.any_append,h]
    simp
   have HE:=Hd he
   clear hd1' hb hcz hc hg c0 he h1 e1
   by_cases hxy:e.k=key
   ·subst hxy
    go_wp2
    go_quiet (fail)
    go_wp2
    go_ret
    refine ⟨?_,HK.out.drewN' _⟩
    have:hasE es e.k=true:=by
     unfold hasE
     rw [List.any_eq_true]
     exact ⟨e,List.mem_of_getElem? HE.out,by simp⟩
    rw [this];rfl
   ·have hxs:(e.k==key)=false:=by simp [hxy]
    go_wp2
    go_quiet (fail)
    go_wp2
    go_roundw
    case rel=>exact ⟨k+1,by omega,by go_num,by rw [HX.out];exact hxs,HK.out.drewN' _⟩
    case measure=>simp [intOf];omega
  ·obtain rfl:k=es.length:=by omega
   go_wp2
   go_ret
   refine ⟨?_,HK.out⟩
   have h:=HNO.out
   rw [List.take_length] at h
   rw [h];rfl
end
end Go.Proofs.YtjcgphhpaenjkaaGreat
