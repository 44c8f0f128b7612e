import Derived.Test.YtjcgphhpaenjkaaPkA3
set_option maxHeartbeats 64000000
set_option maxRecDepth 100000
set_option linter.unusedVariables false
namespace Go.Proofs.Ytjcgphhpaenjkaa
open Go.RowKit
def Ar.get (A:Ar) (id:Int):Option Sl:=if 1<=id then A.sl[(id-1).toNat]? else none
def Ar.put (A:Ar) (id:Int) (s:Sl):Ar:={A with sl:=A.sl.set (id-1).toNat s}
def opErr (A:Ar) (id:Int):Int:=match A.get id with|none=>101|some _=>0
def opWord (A:Ar) (id:Int):Nat:=match A.get id with|none=>0|some s=>s.word
def opNd (A:Ar) (id:Int):Nd:=match A.get id with|none=>Nd.zero|some s=>s.nd
def opLock (A:Ar) (id:Int) (wd:Nat):Bool × Int × Ar:=match A.get id with
 | none=>(false,101,A)
 | some s=>if s.word=wd/\wd % 2=0 then (true,0,A.put id ⟨wd+1,s.nd⟩) else (false,0,A)
def opHeld (A:Ar) (id:Int):Int:=match A.get id with|none=>101|some s=>if s.word % 2=0 then 102 else 0
def back (x:Nat) (changed:Bool):Nat:=if changed then (x+1) % 18446744073709551616 else x-1
def opUnlock (A:Ar) (id:Int) (changed:Bool):Int × Ar:=match A.get id with
 | none=>(101,A)
 | some s=>if s.word % 2=0 then (102,A) else (0,A.put id ⟨back s.word changed,s.nd⟩)
def withHd (m n:Nd):Nd:=⟨n.lvl,n.high,n.right,m.keys,m.vals,m.kids⟩
def opSetHead (A:Ar) (id:Int) (n:Nd):Int × Ar:=match A.get id with
 | none=>(101,A)
 | some s=>if s.word % 2=0 then (102,A) else (0,A.put id ⟨s.word,withHd s.nd n⟩)
def opSetBody (A:Ar) (id:Int) (n:Nd):Int × Ar:=match A.get id with
 | none=>(101,A)
 | some s=>if s.word % 2=0 then (102,A) else (0,A.put id ⟨s.word,withHd n s.nd⟩)
def opGrow (A:Ar) (old to:Int):Bool × Int × Ar:=match A.get to with
 | none=>(false,101,A)
 | some _=>if A.root=old then (true,0,{A with root:=to}) else (false,0,A)
def opAlloc (A:Ar):Int × Int × Ar:=if A.sl.length=A.nodes then (0,2,A) else ((A.sl.length:Int)+1,0,{A with sl:=A.sl++[⟨1,Nd.zero⟩]})
section
variable {A:Ar} {id:Int} {s:Sl}
theorem get_none (h:A.get id=none):id < 1\/(A.sl.length:Int) < id:=by
 unfold Ar.get at h
 split at h
 ·have:=List.getElem?_eq_none_iff.1 h;omega
 ·omega
theorem get_some (h:A.get id=some s):∃ i:Nat,id=(i:Int)+1/\A.sl[i]?=some s/\(id-1).toNat=i:=by
 unfold Ar.get at h
 split at h
 ·exact ⟨(id-1).toNat,by omega,h,rfl⟩
 ·cases h
theorem get_le (h:A.get id=some s):1<=id/\id<=A.sl.length:=by
 obtain ⟨i,h1,h2,_⟩:=get_some h
 have:=(List.getElem?_eq_some_iff.1 h2).1
 omega
theorem get_in (h1:1<=id) (h2:id<=A.sl.length):∃ s,A.get id=some s:=by
 unfold Ar.get
 rw [if_pos h1]
 exact ⟨_,List.getElem?_eq_getElem (by omega)⟩
theorem opLock_none {wd:Nat} (h:A.get id=none):opLock A id wd=(false,101,A):=by unfold opLock;rw [h]
theorem opLock_some {wd:Nat} (h:A.get id=some s):opLock A id wd=if s.word=wd/\wd % 2=0 then (true,0,A.put id ⟨wd+1,s.nd⟩) else (false,0,A):=by unfold opLock;rw [h]
theorem opGrow_none {o:Int} (h:A.get id=none):opGrow A o id=(false,101,A):=by unfold opGrow;rw [h]
theorem opGrow_some {o:Int} (h:A.get id=some s):opGrow A o id=if A.root=o then (true,0,{A with root:=id}) else (false,0,A):=by unfold opGrow;rw [h]
theorem opHeld_none (h:A.get id=none):opHeld A id=101:=by unfold opHeld;rw [h]
theorem opHeld_some (h:A.get id=some s):opHeld A id=if s.word % 2=0 then 102 else 0:=by unfold opHeld;rw [h]
theorem put_len (s:Sl):(A.put id s).sl.length=A.sl.length:=by simp [Ar.put]
theorem put_get (h:A.get id=some s) (t:Sl):(A.put id t).get id=some t:=by
 obtain ⟨i,h1,h2,h3⟩:=get_some h
 have:=(List.getElem?_eq_some_iff.1 h2).1
 unfold Ar.get Ar.put
 rw [if_pos (by omega),h3]
 simp [this]
end
section
variable {M D N:Nat->Prop} {w w':World} {p b i:Nat} {slots:Value} {ids:List Nat} {A:Ar} {s s':Sl} {id:Int}
theorem ArW.block (h:ArW w M D p slots ids A) (hs:A.sl[i]?=some s):∃ b,ids[i]?=some b:=
 ⟨_,List.getElem?_eq_getElem (by rw [h.len];exact (List.getElem?_eq_some_iff.1 hs).1)⟩
theorem ArW.at_ (h:ArW w M D p slots ids A) (hg:A.get id=some s):∃ i b:Nat,id=(i:Int)+1/\A.sl[i]?=some s/\(id-1).toNat=i/\ids[i]?=some b:=by
 obtain ⟨i,h1,h2,h3⟩:=get_some hg
 obtain ⟨b,hb⟩:=h.block h2
 exact ⟨i,b,h1,h2,h3,hb⟩
theorem ArW.monoD {D':Nat->Prop} (h:ArW w M D p slots ids A) (hd:∀ b,D b->D' b) (ha:∀ b,M b->¬D' b) (hl:∀ b,D' b->b < w.heap.size):ArW w M D' p slots ids A:=
 ⟨h.blk,h.row,h.nodup,h.len,λ i id s hi hs=>(h.slot i id s hi hs).mono (λ b _ hb=>hd b hb),h.mp,h.mids,ha,h.mlt,hl,h.bound⟩
theorem ArW.blkOf (h:ArW w M D p slots ids A) (hb:ids[i]?=some b) (hs:A.sl[i]?=some s):∃ c0 c1 c2 c3 c4 c5,Blk w b 64 #[.int .u64 s.word,c0,c1,c2,c3,c4,c5]/\IsNd w D c0 c1 c2 c3 c4 c5 s.nd/\U64 s.word:=h.slot i b s hb hs
theorem ArW.put (h:ArW w M D p slots ids A) (hb:ids[i]?=some b) (hs:A.sl[i]?=some s) (k:Keeps (λ x=>x=b) w w') (hn:SlotAt w' D b s'):ArW w' M D p slots ids {A with sl:=A.sl.set i s'}:=by
 obtain ⟨c0,c1,c2,c3,c4,c5,hblk,_,_⟩:=h.blkOf hb hs
 have hM:M b:=h.mids b (List.mem_of_getElem? hb)
 have hil:i < ids.length:=(List.getElem?_eq_some_iff.1 hb).1
 refine ⟨?_,?_,h.nodup,by simp [h.len],λ j id t hj ht=>?_,h.mp,h.mids,h.apart,λ x hx=>Nat.lt_of_lt_of_le (h.mlt x hx) k.size,λ x hx=>Nat.lt_of_lt_of_le (h.dlt x hx) k.size,by simp;exact h.bound⟩
 ·exact h.blk.keeps k (λ e=>Blk.ne_ hblk h.blk (by decide) e.symm)
 ·exact h.row.keepsB hblk (by decide) k
 ·by_cases hij:j=i
  ·subst hij
   rw [hb] at hj
   have hlt:j < A.sl.length:=(List.getElem?_eq_some_iff.1 hs).1
   simp [hlt] at ht
   cases hj;subst ht
   exact hn
  ·have ht':A.sl[j]?=some t:=by rw [List.getElem?_set] at ht;rwa [if_neg (Ne.symm hij)] at ht
   refine (h.slot j id t hj ht').keeps k (λ e=>?_) (λ x _ hd e=>?_)
   ·subst e
    have hjl:j < ids.length:=(List.getElem?_eq_some_iff.1 hj).1
    rw [List.getElem?_eq_getElem hjl] at hj
    rw [List.getElem?_eq_getElem hil] at hb
    have e1:=Option.some.inj hj
    have e2:=Option.some.inj hb
    have hp:=List.pairwise_iff_getElem.1 h.nodup
    rcases Nat.lt_or_gt_of_ne hij with hl|hl
    ·exact hp j i hjl hil hl (e1.trans e2.symm)
    ·exact hp i j hil hjl hl (e2.trans e1.symm)
   ·subst e;exact h.apart _ hM hd
theorem ArW.setWord (h:ArW w M D p slots ids A) (hb:ids[i]?=some b) (hs:A.sl[i]?=some s) {x:Nat} (hx:U64 x):ArW (w.setCell ⟨b,0,none⟩ (.int .u64 x)) M D p slots ids {A with sl:=A.sl.set i ⟨x,s.nd⟩}:=by
 obtain ⟨c0,c1,c2,c3,c4,c5,hblk,hnd,_⟩:=h.blkOf hb hs
 have k:Keeps (λ y=>y=b) w (w.setCell ⟨b,0,none⟩ (.int .u64 x)):=Keeps.setCell w (M:=λ y=>y=b) rfl _
 have hM:M b:=h.mids b (List.mem_of_getElem? hb)
 exact h.put hb hs k ⟨c0,c1,c2,c3,c4,c5,hblk.set_ 0 _,hnd.keeps k (λ x _ hd e=>by subst e;exact h.apart _ hM hd),hx⟩
theorem ArW.setRoot (h:ArW w M D p slots ids A) (r:Int):ArW (w.setCell ⟨p,2,none⟩ (.int .i64 r)) M D p slots ids {A with root:=r}:=by
 have k:Keeps (λ y=>y=p) w (w.setCell ⟨p,2,none⟩ (.int .i64 r)):=Keeps.setCell w (M:=λ y=>y=p) rfl _
 refine ⟨h.blk.set_ 2 _,h.row.keepsB h.blk (by decide) k,h.nodup,h.len,λ j id t hj ht=>?_,h.mp,h.mids,h.apart,λ x hx=>Nat.lt_of_lt_of_le (h.mlt x hx) k.size,λ x hx=>Nat.lt_of_lt_of_le (h.dlt x hx) k.size,h.bound⟩
 refine (h.slot j id t hj ht).keeps k (λ e=>?_) (λ x _ hd e=>by subst e;exact h.apart _ h.mp hd)
 obtain ⟨_,_,_,_,_,_,hb,_⟩:=h.slot j id t hj ht
 exact Blk.ne_ hb h.blk (by decide) e
theorem ArW.slotFrozen (h:ArW w M D p slots ids A) (hb:ids[i]?=some b) (hs:A.sl[i]?=some s) (j:Nat):w.frozen? ⟨b,j,none⟩=false:=by
 obtain ⟨c0,c1,c2,c3,c4,c5,hblk,_,_⟩:=h.blkOf hb hs
 exact hblk.frozen j
theorem ArW.word64 (h:ArW w M D p slots ids A) (hb:ids[i]?=some b) (hs:A.sl[i]?=some s):U64 s.word:=by
 obtain ⟨c0,c1,c2,c3,c4,c5,_,_,hu⟩:=h.blkOf hb hs
 exact hu
def DF (D:Nat->Prop) (w w':World):Nat->Prop:=λ b=>D b\/Fresh w w' b
theorem ArW.grown (h:ArW w M D p slots ids A) (k:Keeps Nob w w'):ArW w' M (DF D w w') p slots ids A:=
 (h.keeps k (λ _ _ _=>id) (λ _ _ _=>id)).monoD (λ _ hb=>.inl hb) (λ b hm hd=>by
  rcases hd with hd|hd
  ·exact h.apart b hm hd
  ·have:=h.mlt b hm;have:=hd.1;omega) (λ b hd=>by
  rcases hd with hd|hd
  ·exact Nat.lt_of_lt_of_le (h.dlt b hd) k.size
  ·exact hd.2)
end
end Go.Proofs.Ytjcgphhpaenjkaa
namespace Go.Proofs.Ytjcgphhpaenjkaa
open Go.RowKit
section
variable {M D:Nat->Prop} {w:World} {p:Nat} {slots:Value} {ids:List Nat} {A:Ar} {id:Int}
theorem lockX {wd:Nat} (h:ArW w M D p slots ids A) (hw:U64 wd):Calls Try.prog 40 #[pV p,iV id,.int .u64 wd] w λ e w'=>e=.returned (.tuple #[.bool (opLock A id wd).1,iV (opLock A id wd).2.1])/\ArW w' M D p slots ids (opLock A id wd).2.2/\Keeps M w w':=by
 cases hg:A.get id with
 | none=>
  rw [opLock_none hg]
  have H:=Hd (at_out h (get_none hg))
  have HA:=Hd h
  clear h hg hw
  unfold pV iV at *
  go_enter Try.func40,Try.ntmps40
  go_wp2_with (go_at_call 33;refine H.out.mono ?_;rintro e w' ⟨rfl,rfl⟩)
  go_ret2
  exact ⟨rfl,HA.out,Keeps.refl _ _⟩
 | some s=>
  rw [opLock_some hg]
  obtain ⟨i,b,hid,hs,hi,hb⟩:=h.at_ hg
  have H:=Hd (at_in h hid hb)
  have HA:=Hd h
  have hc:=h.slotCell hb hs
  have hf:=h.slotFrozen hb hs 0
  have hM:M b:=h.mids b (List.mem_of_getElem? hb)
  have HSW:=Hd (h.setWord hb hs (x:=wd+1))
  have HM:=Hd hM
  have hodd:=odd_bits wd hw
  have HI:=Hd hi
  clear h hg hid hs hb hM hi
  by_cases he:wd % 2=0
  ·rw [he] at hodd
   have hb1:(bits BinOp.and IntKind.u64 (↑wd) 1==0)=true:=by rw [hodd];rfl
   clear hodd
   have hlt:(wd:Int)+1 < 18446744073709551616:=by unfold U64 at hw;omega
   have HU:Hid (U64 (wd+1)):=by show U64 _;unfold U64 at *;omega
   clear hw
   by_cases hq:s.word=wd
   ·rw [if_pos ⟨hq,he⟩]
    rw [hq] at hc
    clear hq he
    unfold pV iV at *
    go_enter Try.func40,Try.ntmps40
    go_wp2_with (first
     | (go_at_call 33;refine H.out.mono ?_;rintro e w' ⟨rfl,rfl⟩)
     | (go_at_call 62;refine (casU1 hc hf).mono ?_;rintro e w' ⟨rfl,rfl⟩))
    go_ret2
    refine ⟨rfl,?_,Keeps.setCell w HM.out _⟩
    have:=HSW.out HU.out
    unfold Ar.put;rw [HI.out];exact this
   ·rw [if_neg (λ hx=>hq hx.1)]
    have hq':¬(s.word:Int)=wd:=by omega
    clear hq he
    unfold pV iV at *
    go_enter Try.func40,Try.ntmps40
    go_wp2_with (first
     | (go_at_call 33;refine H.out.mono ?_;rintro e w' ⟨rfl,rfl⟩)
     | (go_at_call 62;refine (casU0 hc hf hq').mono ?_;rintro e w' ⟨rfl,rfl⟩))
    go_ret2
    exact ⟨rfl,HA.out,Keeps.refl _ _⟩
  ·rw [if_neg (λ hx=>he hx.2)]
   have ho:wd % 2=1:=by omega
   rw [ho] at hodd
   have hb1:(bits BinOp.and IntKind.u64 (↑wd) 1==0)=false:=by rw [hodd];rfl
   clear hodd he ho hw hc hf
   unfold pV iV at *
   go_enter Try.func40,Try.ntmps40
   go_wp2_with (go_at_call 33;refine H.out.mono ?_;rintro e w' ⟨rfl,rfl⟩)
   go_ret2
   exact ⟨rfl,HA.out,Keeps.refl _ _⟩
theorem under_no (h:ArW w M D p slots ids A) (hn:opHeld A id≠0):Calls Try.prog 45 #[pV p,iV id] w λ e w'=>e=.returned (.tuple #[.pointer none,iV (opHeld A id)])/\w=w':=by
 cases hg:A.get id with
 | none=>
  rw [opHeld_none hg]
  have H:=Hd (at_out h (get_none hg))
  clear h hg hn
  unfold pV iV at *
  go_enter Try.func45,Try.ntmps45
  go_wp2_with (go_at_call 33;refine H.out.mono ?_;rintro e w' ⟨rfl,rfl⟩)
  go_ret2
  exact ⟨rfl,rfl⟩
 | some s=>
  rw [opHeld_some hg] at hn ⊢
  by_cases he:s.word % 2=0
  ·rw [if_pos he]
   obtain ⟨i,b,hid,hs,hi,hb⟩:=h.at_ hg
   have H:=Hd (at_in h hid hb)
   have hc:=h.slotCell hb hs
   have hodd:=odd_bits s.word (h.word64 hb hs)
   rw [he] at hodd
   have hb1:(bits BinOp.and IntKind.u64 (↑s.word) 1==0)=true:=by rw [hodd];rfl
   clear h hg hid hs hb hi hn he hodd
   unfold pV iV at *
   go_enter Try.func45,Try.ntmps45
   go_wp2_with (first
    | (go_at_call 33;refine H.out.mono ?_;rintro e w' ⟨rfl,rfl⟩)
    | (go_at_call 31;refine (loadU hc).mono ?_;rintro e w' ⟨rfl,rfl⟩))
   go_ret2
   exact ⟨rfl,rfl⟩
  ·exact absurd (if_neg he) hn
theorem under_yes {s:Sl} {i b:Nat} (h:ArW w M D p slots ids A) (hid:id=(i:Int)+1) (hs:A.sl[i]?=some s) (hb:ids[i]?=some b) (he:¬s.word % 2=0):Calls Try.prog 45 #[pV p,iV id] w λ e w'=>e=.returned (.tuple #[pV b,iV 0])/\w=w':=by
 have H:=Hd (at_in h hid hb)
 have hc:=h.slotCell hb hs
 have hodd:=odd_bits s.word (h.word64 hb hs)
 rw [show s.word % 2=1 by omega] at hodd
 have hb1:(bits BinOp.and IntKind.u64 (↑s.word) 1==0)=false:=by rw [hodd];rfl
 clear h hid hs hb he hodd
 unfold pV iV at *
 go_enter Try.func45,Try.ntmps45
 go_wp2_with (first
  | (go_at_call 33;refine H.out.mono ?_;rintro e w' ⟨rfl,rfl⟩)
  | (go_at_call 31;refine (loadU hc).mono ?_;rintro e w' ⟨rfl,rfl⟩))
 go_ret2
 exact ⟨rfl,rfl⟩
theorem held_cases (A:Ar) (id:Int):(opHeld A id=0/\∃ s,A.get id=some s/\¬s.word % 2=0)\/(opHeld A id≠0/\(opHeld A id==0)=false):=by
 unfold opHeld
 cases hg:A.get id with
 | none=>exact .inr ⟨by decide,by decide⟩
 | some s=>
  by_cases he:s.word % 2=0
  ·right;simp [he]
  ·exact .inl ⟨if_neg he,s,rfl,he⟩
theorem opUnlock_no {c:Bool} (hn:opHeld A id≠0):opUnlock A id c=(opHeld A id,A):=by
 unfold opUnlock opHeld at *
 cases hg:A.get id with
 | none=>rfl
 | some s=>
  simp only [hg] at hn
  by_cases he:s.word % 2=0
  ·simp [he]
  ·exact absurd (if_neg he) hn
theorem opSetHead_no {n:Nd} (hn:opHeld A id≠0):opSetHead A id n=(opHeld A id,A):=by
 unfold opSetHead opHeld at *
 cases hg:A.get id with
 | none=>rfl
 | some s=>
  simp only [hg] at hn
  by_cases he:s.word % 2=0
  ·simp [he]
  ·exact absurd (if_neg he) hn
theorem opSetBody_no {n:Nd} (hn:opHeld A id≠0):opSetBody A id n=(opHeld A id,A):=by
 unfold opSetBody opHeld at *
 cases hg:A.get id with
 | none=>rfl
 | some s=>
  simp only [hg] at hn
  by_cases he:s.word % 2=0
  ·simp [he]
  ·exact absurd (if_neg he) hn
theorem back_int (x:Nat) (hx:¬x % 2=0) (hu:U64 x):((x:Int)+1) % 18446744073709551616=(back x true:Nat)/\((x:Int)+18446744073709551615) % 18446744073709551616=(back x false:Nat):=by
 unfold back U64 at *
 constructor
 ·simp
 ·simp;omega
theorem back_u64 (x:Nat) (c:Bool) (hu:U64 x):U64 (back x c):=by
 unfold back U64 at *
 cases c
 ·simp;omega
 ·simp;omega
theorem unlockX {c:Bool} (h:ArW w M D p slots ids A):Calls Try.prog 46 #[pV p,iV id,.bool c] w λ e w'=>e=.returned (iV (opUnlock A id c).1)/\ArW w' M D p slots ids (opUnlock A id c).2/\Keeps M w w':=by
 rcases held_cases A id with ⟨h0,s,hg,he⟩|⟨hn,hn'⟩
 ·obtain ⟨i,b,hid,hs,hi,hb⟩:=h.at_ hg
  have hx:opUnlock A id c=(0,A.put id ⟨back s.word c,s.nd⟩):=by unfold opUnlock;rw [hg];simp [he]
  rw [hx]
  have H:=Hd (under_yes h hid hs hb he)
  have hc:=h.slotCell hb hs
  have hf:=h.slotFrozen hb hs 0
  have hM:M b:=h.mids b (List.mem_of_getElem? hb)
  have hu:=h.word64 hb hs
  have HSW:=Hd (h.setWord hb hs (back_u64 s.word c hu))
  have HM:=Hd hM
  have HI:=Hd hi
  obtain ⟨e1,e2⟩:=back_int s.word he hu
  have E1:=Hd e1
  have E2:=Hd e2
  clear h hg hid hs hb hM hi h0 he hx hu e1 e2
  unfold pV iV at *
  cases c
  all_goals
   go_enter Try.func46,Try.ntmps46
   go_wp2_with (first
    | (go_at_call 45;refine H.out.mono ?_;rintro e w' ⟨rfl,rfl⟩)
    | (go_at_call 66;refine (addU hc hf).mono ?_;rintro e w' ⟨⟨v,rfl⟩,rfl⟩))
   go_ret
   refine ⟨rfl,?_,Keeps.setCell w HM.out _⟩
   have:=HSW.out
   unfold Ar.put;rw [HI.out]
   first|rw [E1.out]|rw [E2.out]
   exact this
 ·rw [opUnlock_no hn]
  have H:=Hd (under_no h hn)
  have HA:=Hd h
  have hn2:(opHeld A id != 0)=true:=by simp [hn]
  clear h hn hn'
  show Calls _ _ _ _ (λ e w'=>e=.returned (iV (opHeld A id))/\ArW w' M D p slots ids A/\Keeps M w w')
  generalize opHeld A id=o at *
  unfold pV iV at *
  go_enter Try.func46,Try.ntmps46
  go_wp2_with (go_at_call 45;refine H.out.mono ?_;rintro e w' ⟨rfl,rfl⟩)
  go_ret
  exact ⟨rfl,HA.out,Keeps.refl _ _⟩
theorem growX {old to:Int} (h:ArW w M D p slots ids A):Calls Try.prog 50 #[pV p,iV old,iV to] w λ e w'=>e=.returned (.tuple #[.bool (opGrow A old to).1,iV (opGrow A old to).2.1])/\ArW w' M D p slots ids (opGrow A old to).2.2/\Keeps M w w':=by
 cases hg:A.get to with
 | none=>
  rw [opGrow_none hg]
  have H:=Hd (at_out h (get_none hg))
  have HA:=Hd h
  clear h hg
  unfold pV iV at *
  go_enter Try.func50,Try.ntmps50
  go_wp2_with (go_at_call 33;refine H.out.mono ?_;rintro e w' ⟨rfl,rfl⟩)
  go_ret2
  exact ⟨rfl,HA.out,Keeps.refl _ _⟩
 | some s=>
  rw [opGrow_some hg]
  obtain ⟨i,b,hid,hs,hi,hb⟩:=h.at_ hg
  have H:=Hd (at_in h hid hb)
  have HA:=Hd h
  have hc:w.cell? ⟨p,2,none⟩=some (.int .i64 A.root):=h.blk.cell 2
  have hf:=h.blk.frozen 2
  have HR:=Hd (h.setRoot to)
  have HM:Hid (M p):=h.mp
  clear h hg hid hs hb hi
  by_cases hq:A.root=old
  ·rw [if_pos hq]
   rw [hq] at hc
   clear hq
   unfold pV iV at *
   go_enter Try.func50,Try.ntmps50
   go_wp2_with (first
    | (go_at_call 33;refine H.out.mono ?_;rintro e w' ⟨rfl,rfl⟩)
    | (go_at_call 69;refine (casI1 hc hf).mono ?_;rintro e w' ⟨rfl,rfl⟩))
   go_ret2
   exact ⟨rfl,HR.out,Keeps.setCell w HM.out _⟩
  ·rw [if_neg hq]
   unfold pV iV at *
   go_enter Try.func50,Try.ntmps50
   go_wp2_with (first
    | (go_at_call 33;refine H.out.mono ?_;rintro e w' ⟨rfl,rfl⟩)
    | (go_at_call 69;refine (casI0 hc hf hq).mono ?_;rintro e w' ⟨rfl,rfl⟩))
   go_ret2
   exact ⟨rfl,HA.out,Keeps.refl _ _⟩
end
end Go.Proofs.Ytjcgphhpaenjkaa
namespace Go.Proofs.Ytjcgphhpaenjkaa
open Go.RowKit
theorem field_hd (a0 a1 a2 a3 a4 a5:Value) (w:World):(Instr.field 75 (.agg #[a0,a1,a2,a3,a4,a5]) 0).run Try.prog w=.ok (.agg #[a0,a1,a2]) w:=by kernel_rfl
theorem field_bd (a0 a1 a2 a3 a4 a5:Value) (w:World):(Instr.field 75 (.agg #[a0,a1,a2,a3,a4,a5]) 1).run Try.prog w=.ok (.agg #[a3,a4,a5]) w:=by kernel_rfl
section
variable {A:Ar} {ix:Int} {s:Sl}
theorem opErr_none (h:A.get ix=none):opErr A ix=101:=by unfold opErr;rw [h]
theorem opErr_some (h:A.get ix=some s):opErr A ix=0:=by unfold opErr;rw [h]
theorem opNd_none (h:A.get ix=none):opNd A ix=Nd.zero:=by unfold opNd;rw [h]
theorem opNd_some (h:A.get ix=some s):opNd A ix=s.nd:=by unfold opNd;rw [h]
theorem opWord_none (h:A.get ix=none):opWord A ix=0:=by unfold opWord;rw [h]
theorem opWord_some (h:A.get ix=some s):opWord A ix=s.word:=by unfold opWord;rw [h]
end
section
variable {M D:Nat->Prop} {w:World} {p:Nat} {slots:Value} {ids:List Nat} {A:Ar} {ix:Int}
theorem headX (h:ArW w M D p slots ids A) (hsm:∀ s ∈ A.sl,NdSm 0 s.nd):Calls Try.prog 60 #[pV p,iV ix] w λ e w'=>∃ d0 d1 d2,e=.returned (.tuple #[.agg #[d0,d1,d2],iV (opErr A ix)])/\OHd w' (Fresh w w') d0 d1 d2 (opNd A ix)/\Keeps Nob w w':=by
 cases hg:A.get ix with
 | none=>
  rw [opErr_none hg,opNd_none hg]
  have HA:=Hd h
  have HG:=Hd hg
  clear h hg hsm
  unfold pV iV
  go_enter Try.func60,Try.ntmps60
  go_wp2_with fail
  refine calls_at (λ wa hw=>?_)
  have hk:Keeps Nob w wa:=by rw [hw];exact Keeps.alloc _ _ _
  have hb:Blk wa w.heap.size 62 #[.int .i64 0,.slice none 0 0,.int .i64 0]:=by rw [hw];exact Blk.new _ _ _
  have H:=Hd (at_out (HA.out.keeps hk (λ _ _ _=>id) (λ _ _ _=>id)) (get_none HG.out))
  have HK:=Hd hk
  have HB:=Hd hb
  have q:=λ i=>hb.cell i
  have g:=λ i=>hb.frozen i
  have l:=hb.lt
  clear hw hk hb
  unfold pV iV at H
  refine H.out.mono ?_
  rintro e w' ⟨rfl,rfl⟩
  go_wp2
  refine post_at (λ wb hw=>?_)
  have hk:Keeps (λ b=>b=w.heap.size) wa wb:=by rw [hw];exact ((Keeps.setCell _ (M:=λ b=>b=w.heap.size) rfl _).setCell' (λ _=>rfl) _).setCell' (λ _=>rfl) _
  have hb:Blk wb w.heap.size 62 #[.int .i64 0,.slice none 0 0,.int .i64 0]:=by rw [hw];exact ((HB.out.set_ 0 _).set_ 1 _).set_ 2 _
  clear hw q g l
  have r0:=hb.cell 0
  have r1:=hb.cell 1
  have r2:=hb.cell 2
  refine bodyPost_ret (v:=.tuple #[.agg #[.int .i64 0,.slice none 0 0,.int .i64 0],.int .i64 101]) (by simp [results,Try.results60,go_sem,r0,r1,r2]) rfl ⟨_,_,_,rfl,(ONd.zero _ _).1,HK.out.trans hk (λ b hb e=>by have h2:b=_:=e;omega)⟩
 | some s=>
  rw [opErr_some hg,opNd_some hg]
  obtain ⟨i,b,hid,hs,hi,hb⟩:=h.at_ hg
  have hS:=hsm s (List.mem_of_getElem? hs)
  obtain ⟨c0,c1,c2,c3,c4,c5,hblk,hnd,_⟩:=h.blkOf hb hs
  obtain ⟨X1,k1,e1,_,_⟩:=hnd.1.high.form
  have e0:=hnd.1.lvl
  have e2:=hnd.1.right
  unfold iV at e0 e2
  subst e0 e1 e2
  have HS:Hid (NdSm 0 s.nd):=hS
  have HA:=Hd h
  have HID:Hid (ix=(i:Int)+1):=hid
  have HBI:Hid (ids[i]?=some b):=hb
  have HBK:=Hd hblk
  have HN:=Hd hnd
  clear h hg hsm hS hid hs hi hb hblk hnd
  unfold pV iV
  go_enter Try.func60,Try.ntmps60
  go_wp2_with fail
  refine calls_at (λ wa hw=>?_)
  have hk:Keeps Nob w wa:=by rw [hw];exact Keeps.alloc _ _ _
  have BR:Hid (Blk wa w.heap.size 62 #[.int .i64 0,.slice none 0 0,.int .i64 0]):=by rw [hw];exact Blk.new _ _ _
  have H:=Hd (at_in (HA.out.keeps hk (λ _ _ _=>id) (λ _ _ _=>id)) HID.out HBI.out)
  replace HBK:=Hd (HBK.out.keeps hk id)
  replace HN:=Hd (HN.out.keeps hk (λ _ _ _=>id))
  have K:=Hd hk
  have sza:=hk.size
  have ltR:=BR.out.lt
  clear hw hk HA HID HBI
  unfold pV iV at H
  refine H.out.mono ?_
  rintro e w' ⟨rfl,rfl⟩
  have q:=λ i=>HBK.out.cell i
  have l:=HBK.out.lt
  go_wp2_with fail
  clear q l
  refine (cloneP (n:=(⟨s.nd.lvl,s.nd.high,s.nd.right,[],[],[]⟩:Nd)) (S:=D) ⟨⟨rfl,HN.out.1.high,rfl⟩,⟨[],SlR.nil _ _ _ _ (by decide),rfl,λ i u x h=>by simp at h⟩,⟨[],SlR.nil _ _ _ _ (by decide),rfl,λ i u x h=>by simp at h⟩,SlR.nil _ _ _ _ (by decide)⟩ ⟨HS.out.1,⟨by simp [Sm],λ x hx=>by simp at hx⟩,⟨by simp [Sm],λ x hx=>by simp at hx⟩,by simp [Sm]⟩).mono ?_
  rintro e wb ⟨d0,d1,d2,d3,d4,d5,rfl,hO,hk,_⟩
  have f0:=hO.1.lvl
  obtain ⟨Y1,j1,f1⟩:=Own.form hO.1.high
  have f2:=hO.1.right
  unfold iV at f0 f2
  subst f0 f1 f2
  replace BR:=Hd (BR.out.keeps hk id)
  replace K:=tq_ K hk
  have szb:=hk.size
  have HO:=Hd hO
  clear hO hk
  have q:=λ i=>BR.out.cell i
  have g:=λ i=>BR.out.frozen i
  have l:=BR.out.lt
  have hfd:=field_hd
  go_wp2
  clear hfd
  refine post_at (λ wc hw=>?_)
  have hk:Keeps (λ b=>b=w.heap.size) wb wc:=by rw [hw];exact ((Keeps.setCell _ (M:=λ b=>b=w.heap.size) rfl _).setCell' (λ _=>rfl) _).setCell' (λ _=>rfl) _
  have hb:Blk wc w.heap.size 62 #[.int .i64 s.nd.lvl,.slice Y1 s.nd.high.length j1,.int .i64 s.nd.right]:=by rw [hw];exact ((BR.out.set_ 0 _).set_ 1 _).set_ 2 _
  clear hw q g l
  have r0:=hb.cell 0
  have r1:=hb.cell 1
  have r2:=hb.cell 2
  have szc:=hk.size
  have ha:Apart 62:=⟨by decide,by decide,by decide⟩
  refine bodyPost_ret (v:=.tuple #[.agg #[.int .i64 s.nd.lvl,.slice Y1 s.nd.high.length j1,.int .i64 s.nd.right],.int .i64 0]) (by simp [results,Try.results60,go_sem,r0,r1,r2]) rfl ⟨_,_,_,rfl,⟨rfl,?_,rfl⟩,K.out.trans hk (λ b hb e=>by have h2:b=_:=e;omega)⟩
  ·exact (HO.out.1.high.keepsB BR.out ha hk).mono (λ b _ hb=>⟨by have:=hb.1;omega,by have:=hb.2;omega⟩)
theorem bodyX (h:ArW w M D p slots ids A) (hsm:∀ s ∈ A.sl,NdSm 0 s.nd):Calls Try.prog 14 #[pV p,iV ix] w λ e w'=>∃ d0 d1 d2,e=.returned (.tuple #[.agg #[d0,d1,d2],iV (opErr A ix)])/\OBd w' (Fresh w w') d0 d1 d2 (opNd A ix)/\Keeps Nob w w':=by
 cases hg:A.get ix with
 | none=>
  rw [opErr_none hg,opNd_none hg]
  have HA:=Hd h
  have HG:=Hd hg
  clear h hg hsm
  unfold pV iV
  go_enter Try.func14,Try.ntmps14
  go_wp2_with fail
  refine calls_at (λ wa hw=>?_)
  have hk:Keeps Nob w wa:=by rw [hw];exact Keeps.alloc _ _ _
  have hb:Blk wa w.heap.size 49 #[.slice none 0 0,.slice none 0 0,.slice none 0 0]:=by rw [hw];exact Blk.new _ _ _
  have H:=Hd (at_out (HA.out.keeps hk (λ _ _ _=>id) (λ _ _ _=>id)) (get_none HG.out))
  have HK:=Hd hk
  have HB:=Hd hb
  have q:=λ i=>hb.cell i
  have g:=λ i=>hb.frozen i
  have l:=hb.lt
  clear hw hk hb
  unfold pV iV at H
  refine H.out.mono ?_
  rintro e w' ⟨rfl,rfl⟩
  go_wp2
  refine post_at (λ wb hw=>?_)
  have hk:Keeps (λ b=>b=w.heap.size) wa wb:=by rw [hw];exact ((Keeps.setCell _ (M:=λ b=>b=w.heap.size) rfl _).setCell' (λ _=>rfl) _).setCell' (λ _=>rfl) _
  have hb:Blk wb w.heap.size 49 #[.slice none 0 0,.slice none 0 0,.slice none 0 0]:=by rw [hw];exact ((HB.out.set_ 0 _).set_ 1 _).set_ 2 _
  clear hw q g l
  have r0:=hb.cell 0
  have r1:=hb.cell 1
  have r2:=hb.cell 2
  refine bodyPost_ret (v:=.tuple #[.agg #[.slice none 0 0,.slice none 0 0,.slice none 0 0],.int .i64 101]) (by simp [results,Try.results14,go_sem,r0,r1,r2]) rfl ⟨_,_,_,rfl,(ONd.zero _ _).2,HK.out.trans hk (λ b hb e=>by have h2:b=_:=e;omega)⟩
 | some s=>
  rw [opErr_some hg,opNd_some hg]
  obtain ⟨i,b,hid,hs,hi,hb⟩:=h.at_ hg
  have hS:=hsm s (List.mem_of_getElem? hs)
  obtain ⟨c0,c1,c2,c3,c4,c5,hblk,hnd,_⟩:=h.blkOf hb hs
  obtain ⟨X3,k3,e3,_,_⟩:=hnd.2.keys.form
  obtain ⟨X4,k4,e4,_,_⟩:=hnd.2.vals.form
  obtain ⟨X5,k5,e5,_,_⟩:=hnd.2.kids.form
  subst e3 e4 e5
  have HS:Hid (NdSm 0 s.nd):=hS
  have HA:=Hd h
  have HID:Hid (ix=(i:Int)+1):=hid
  have HBI:Hid (ids[i]?=some b):=hb
  have HBK:=Hd hblk
  have HN:=Hd hnd
  clear h hg hsm hS hid hs hi hb hblk hnd
  unfold pV iV
  go_enter Try.func14,Try.ntmps14
  go_wp2_with fail
  refine calls_at (λ wa hw=>?_)
  have hk:Keeps Nob w wa:=by rw [hw];exact Keeps.alloc _ _ _
  have BR:Hid (Blk wa w.heap.size 49 #[.slice none 0 0,.slice none 0 0,.slice none 0 0]):=by rw [hw];exact Blk.new _ _ _
  have H:=Hd (at_in (HA.out.keeps hk (λ _ _ _=>id) (λ _ _ _=>id)) HID.out HBI.out)
  replace HBK:=Hd (HBK.out.keeps hk id)
  replace HN:=Hd (HN.out.keeps hk (λ _ _ _=>id))
  have K:=Hd hk
  have sza:=hk.size
  have ltR:=BR.out.lt
  clear hw hk HA HID HBI
  unfold pV iV at H
  refine H.out.mono ?_
  rintro e w' ⟨rfl,rfl⟩
  have q:=λ i=>HBK.out.cell i
  have l:=HBK.out.lt
  go_wp2_with fail
  clear q l
  refine (cloneP (n:=(⟨0,[],0,s.nd.keys,s.nd.vals,s.nd.kids⟩:Nd)) (S:=D) ⟨⟨rfl,SlR.nil _ _ _ _ (by decide),rfl⟩,⟨HN.out.2.keys,HN.out.2.vals,HN.out.2.kids⟩⟩ ⟨by simp [Sm],HS.out.2⟩).mono ?_
  rintro e wb ⟨d0,d1,d2,d3,d4,d5,rfl,hO,hk,_⟩
  obtain ⟨Y3,j3,f3⟩:=OTx.form hO.2.keys
  obtain ⟨Y4,j4,f4⟩:=OTx.form hO.2.vals
  obtain ⟨Y5,j5,f5⟩:=Own.form hO.2.kids
  subst f3 f4 f5
  replace BR:=Hd (BR.out.keeps hk id)
  replace K:=tq_ K hk
  have szb:=hk.size
  have HO:=Hd hO
  clear hO hk
  have q:=λ i=>BR.out.cell i
  have g:=λ i=>BR.out.frozen i
  have l:=BR.out.lt
  have hfd:=field_bd
  go_wp2
  clear hfd
  refine post_at (λ wc hw=>?_)
  have hk:Keeps (λ b=>b=w.heap.size) wb wc:=by rw [hw];exact ((Keeps.setCell _ (M:=λ b=>b=w.heap.size) rfl _).setCell' (λ _=>rfl) _).setCell' (λ _=>rfl) _
  have hb:Blk wc w.heap.size 49 #[.slice Y3 s.nd.keys.length j3,.slice Y4 s.nd.vals.length j4,.slice Y5 s.nd.kids.length j5]:=by rw [hw];exact ((BR.out.set_ 0 _).set_ 1 _).set_ 2 _
  clear hw q g l
  have r0:=hb.cell 0
  have r1:=hb.cell 1
  have r2:=hb.cell 2
  have szc:=hk.size
  have ha:Apart 49:=⟨by decide,by decide,by decide⟩
  refine bodyPost_ret (v:=.tuple #[.agg #[.slice Y3 s.nd.keys.length j3,.slice Y4 s.nd.vals.length j4,.slice Y5 s.nd.kids.length j5],.int .i64 0]) (by simp [results,Try.results14,go_sem,r0,r1,r2]) rfl ⟨_,_,_,rfl,⟨?_,?_,?_⟩,K.out.trans hk (λ b hb e=>by have h2:b=_:=e;omega)⟩
  ·exact (HO.out.2.keys.keepsB BR.out ha hk).mono (λ b _ hb=>⟨by have:=hb.1;omega,by have:=hb.2;omega⟩)
  ·exact (HO.out.2.vals.keepsB BR.out ha hk).mono (λ b _ hb=>⟨by have:=hb.1;omega,by have:=hb.2;omega⟩)
  ·exact (HO.out.2.kids.keepsB BR.out ha hk).mono (λ b _ hb=>⟨by have:=hb.1;omega,by have:=hb.2;omega⟩)
theorem setHeadX {S:Nat->Prop} {a0 a1 a2:Value} {n:Nd} (h:ArW w M D p slots ids A) (hh:IsHd w S a0 a1 a2 n) (hsm:NdSm 0 n):Calls Try.prog 51 #[pV p,iV ix,.agg #[a0,a1,a2]] w λ e w'=>e=.returned (iV (opSetHead A ix n).1)/\ArW w' M (DF D w w') p slots ids (opSetHead A ix n).2/\Keeps M w w':=by
 obtain ⟨X1,k1,e1,_,_⟩:=hh.high.form
 have e0:=hh.lvl
 have e2:=hh.right
 unfold iV at e0 e2
 subst e0 e1 e2
 rcases held_cases A ix with ⟨h0,s,hg,he⟩|⟨hn,hn'⟩
 ·obtain ⟨i,b,hid,hs,hi,hb⟩:=h.at_ hg
  have hx:opSetHead A ix n=(0,A.put ix ⟨s.word,withHd s.nd n⟩):=by unfold opSetHead;rw [hg];simp [he]
  rw [hx]
  have HA:=Hd h
  have HI:=Hd hi
  have HID:Hid (ix=(i:Int)+1):=hid
  have HBI:Hid (ids[i]?=some b):=hb
  have HSI:Hid (A.sl[i]?=some s):=hs
  have HE:Hid (¬s.word % 2=0):=he
  have HM:Hid (M b):=h.mids b (List.mem_of_getElem? hb)
  have HN:=Hd hh
  have HS:Hid (NdSm 0 n):=hsm
  clear h h0 hg he hid hs hi hb hx hh hsm
  unfold pV iV
  go_enter Try.func51,Try.ntmps51
  go_wp2_with fail
  refine calls_at (λ wa hw=>?_)
  have hk:Keeps Nob w wa:=by rw [hw];exact Keeps.alloc _ _ _
  have BR:Hid (Blk wa w.heap.size 62 #[.int .i64 n.lvl,.slice X1 n.high.length k1,.int .i64 n.right]):=by rw [hw];exact Blk.new _ _ _
  have H:=Hd (under_yes (HA.out.keeps hk (λ _ _ _=>id) (λ _ _ _=>id)) HID.out HSI.out HBI.out HE.out)
  replace HN:=Hd (HN.out.keeps hk (λ _ _ _=>id))
  have K:=Hd hk
  have sza:=hk.size
  have ltR:=BR.out.lt
  clear hw hk HE
  unfold pV iV at H
  refine H.out.mono ?_
  rintro e w' ⟨rfl,rfl⟩
  have q:=λ i=>BR.out.cell i
  go_wp2_with fail
  clear q
  refine (cloneP (n:=(⟨n.lvl,n.high,n.right,[],[],[]⟩:Nd)) (S:=S) ⟨⟨rfl,HN.out.high,rfl⟩,⟨[],SlR.nil _ _ _ _ (by decide),rfl,λ i u x h=>by simp at h⟩,⟨[],SlR.nil _ _ _ _ (by decide),rfl,λ i u x h=>by simp at h⟩,SlR.nil _ _ _ _ (by decide)⟩ ⟨HS.out.1,⟨by simp [Sm],λ x hx=>by simp at hx⟩,⟨by simp [Sm],λ x hx=>by simp at hx⟩,by simp [Sm]⟩).mono ?_
  rintro e wb ⟨d0,d1,d2,d3,d4,d5,rfl,hO,hk,_⟩
  have f0:=hO.1.lvl
  obtain ⟨Y1,j1,f1⟩:=Own.form hO.1.high
  have f2:=hO.1.right
  unfold iV at f0 f2
  subst f0 f1 f2
  replace K:=tq_ K hk
  have szb:=hk.size
  have HO:=Hd hO
  clear hO hk
  have hab:=HA.out.grown K.out
  obtain ⟨c0,c1,c2,c3,c4,c5,hblk,hold,hu⟩:=hab.blkOf HBI.out HSI.out
  have HAB:=Hd hab
  have HBK:=Hd hblk
  have HOLD:=Hd hold
  have HU:Hid (U64 s.word):=hu
  clear hab hblk hold hu
  have q:=λ i=>HBK.out.cell i
  have g:=λ i=>HBK.out.frozen i
  have l:=HBK.out.lt
  have hfd:=field_hd
  go_wp2
  clear hfd
  refine post_at (λ wc hw=>?_)
  have hk:Keeps (λ x=>x=b) wb wc:=by rw [hw];exact ((Keeps.setCell _ (M:=λ x=>x=b) rfl _).setCell' (λ _=>rfl) _).setCell' (λ _=>rfl) _
  have hb:Blk wc b 64 #[.int .u64 s.word,.int .i64 n.lvl,.slice Y1 n.high.length j1,.int .i64 n.right,c3,c4,c5]:=by rw [hw];exact ((HBK.out.set_ 1 _).set_ 2 _).set_ 3 _
  have hsz:wc.heap.size=wb.heap.size:=by rw [hw];simp
  clear hw q g l
  have ha:Apart 64:=⟨by decide,by decide,by decide⟩
  have hold:=HOLD.out.keeps hk (λ x _ hd e=>by subst e;exact HAB.out.apart _ HM.out hd)
  have hsl:SlotAt wc (DF D w wb) b ⟨s.word,withHd s.nd n⟩:=by
   refine ⟨_,_,_,_,_,_,hb,⟨⟨rfl,?_,rfl⟩,hold.2.keys,hold.2.vals,hold.2.kids⟩,HU.out⟩
   ·exact ((HO.out.1.high.keepsB HBK.out ha hk).mono (λ b _ hb=>.inr ⟨by have:=hb.1;omega,hb.2⟩):OBy wc (DF D w wb) _ _).r
  have R:=HAB.out.put HBI.out HSI.out hk hsl
  have hdf:DF D w wb=DF D w wc:=by unfold DF Fresh;rw [hsz]
  rw [hdf] at R
  go_ret
  refine ⟨rfl,?_,(K.out.mono (λ _ _ h=>h.elim)).trans hk (λ b hb e=>by have h2:b=_:=e;subst h2;exact HM.out)⟩
  unfold Ar.put;rw [HI.out];exact R
 ·rw [opSetHead_no hn]
  have HA:=Hd h
  have HN:Hid (opHeld A ix≠0):=hn
  have hn2:(opHeld A ix==0)=false:=by simp [hn]
  have HU:=λ (wq:World) (hq:Keeps Nob w wq)=>Hd (under_no (h.keeps hq (λ _ _ _=>id) (λ _ _ _=>id)) hn)
  clear h hn hn' hh hsm HN
  show Calls _ _ _ _ (λ e w'=>e=.returned (iV (opHeld A ix))/\ArW w' M (DF D w w') p slots ids A/\Keeps M w w')
  generalize opHeld A ix=o at *
  unfold pV iV at *
  go_enter Try.func51,Try.ntmps51
  go_wp2_with fail
  refine calls_at (λ wa hw=>?_)
  have hk:Keeps Nob w wa:=by rw [hw];exact Keeps.alloc _ _ _
  have H:=HU wa hk
  have K:=Hd hk
  clear hw hk HU
  refine H.out.mono ?_
  rintro e w' ⟨rfl,rfl⟩
  go_wp2
  go_ret
  exact ⟨rfl,HA.out.grown K.out,K.out.mono (λ _ _ h=>h.elim)⟩
theorem setBodyX {S:Nat->Prop} {a0 a1 a2:Value} {n:Nd} (h:ArW w M D p slots ids A) (hh:IsBd w S a0 a1 a2 n) (hsm:NdSm 0 n):Calls Try.prog 24 #[pV p,iV ix,.agg #[a0,a1,a2]] w λ e w'=>e=.returned (iV (opSetBody A ix n).1)/\ArW w' M (DF D w w') p slots ids (opSetBody A ix n).2/\Keeps M w w':=by
 obtain ⟨X3,k3,e3,_,_⟩:=hh.keys.form
 obtain ⟨X4,k4,e4,_,_⟩:=hh.vals.form
 obtain ⟨X5,k5,e5,_,_⟩:=hh.kids.form
 subst e3 e4 e5
 rcases held_cases A ix with ⟨h0,s,hg,he⟩|⟨hn,hn'⟩
 ·obtain ⟨i,b,hid,hs,hi,hb⟩:=h.at_ hg
  have hx:opSetBody A ix n=(0,A.put ix ⟨s.word,withHd n s.nd⟩):=by unfold opSetBody;rw [hg];simp [he]
  rw [hx]
  have HA:=Hd h
  have HI:=Hd hi
  have HID:Hid (ix=(i:Int)+1):=hid
  have HBI:Hid (ids[i]?=some b):=hb
  have HSI:Hid (A.sl[i]?=some s):=hs
  have HE:Hid (¬s.word % 2=0):=he
  have HM:Hid (M b):=h.mids b (List.mem_of_getElem? hb)
  have HN:=Hd hh
  have HS:Hid (NdSm 0 n):=hsm
  clear h h0 hg he hid hs hi hb hx hh hsm
  unfold pV iV
  go_enter Try.func24,Try.ntmps24
  go_wp2_with fail
  refine calls_at (λ wa hw=>?_)
  have hk:Keeps Nob w wa:=by rw [hw];exact Keeps.alloc _ _ _
  have BR:Hid (Blk wa w.heap.size 49 #[.slice X3 n.keys.length k3,.slice X4 n.vals.length k4,.slice X5 n.kids.length k5]):=by rw [hw];exact Blk.new _ _ _
  have H:=Hd (under_yes (HA.out.keeps hk (λ _ _ _=>id) (λ _ _ _=>id)) HID.out HSI.out HBI.out HE.out)
  replace HN:=Hd (HN.out.keeps hk (λ _ _ _=>id))
  have K:=Hd hk
  have sza:=hk.size
  have ltR:=BR.out.lt
  clear hw hk HE
  unfold pV iV at H
  refine H.out.mono ?_
  rintro e w' ⟨rfl,rfl⟩
  have q:=λ i=>BR.out.cell i
  go_wp2_with fail
  clear q
  refine (cloneP (n:=(⟨0,[],0,n.keys,n.vals,n.kids⟩:Nd)) (S:=S) ⟨⟨rfl,SlR.nil _ _ _ _ (by decide),rfl⟩,⟨HN.out.keys,HN.out.vals,HN.out.kids⟩⟩ ⟨by simp [Sm],HS.out.2⟩).mono ?_
  rintro e wb ⟨d0,d1,d2,d3,d4,d5,rfl,hO,hk,_⟩
  obtain ⟨Y3,j3,f3⟩:=OTx.form hO.2.keys
  obtain ⟨Y4,j4,f4⟩:=OTx.form hO.2.vals
  obtain ⟨Y5,j5,f5⟩:=Own.form hO.2.kids
  subst f3 f4 f5
  replace K:=tq_ K hk
  have szb:=hk.size
  have HO:=Hd hO
  clear hO hk
  have hab:=HA.out.grown K.out
  obtain ⟨c0,c1,c2,c3,c4,c5,hblk,hold,hu⟩:=hab.blkOf HBI.out HSI.out
  have HAB:=Hd hab
  have HBK:=Hd hblk
  have HOLD:=Hd hold
  have HU:Hid (U64 s.word):=hu
  clear hab hblk hold hu
  have q:=λ i=>HBK.out.cell i
  have g:=λ i=>HBK.out.frozen i
  have l:=HBK.out.lt
  have hfd:=field_bd
  go_wp2
  clear hfd
  refine post_at (λ wc hw=>?_)
  have hk:Keeps (λ x=>x=b) wb wc:=by rw [hw];exact ((Keeps.setCell _ (M:=λ x=>x=b) rfl _).setCell' (λ _=>rfl) _).setCell' (λ _=>rfl) _
  have hb:Blk wc b 64 #[.int .u64 s.word,c0,c1,c2,.slice Y3 n.keys.length j3,.slice Y4 n.vals.length j4,.slice Y5 n.kids.length j5]:=by rw [hw];exact ((HBK.out.set_ 4 _).set_ 5 _).set_ 6 _
  have hsz:wc.heap.size=wb.heap.size:=by rw [hw];simp
  clear hw q g l
  have ha:Apart 64:=⟨by decide,by decide,by decide⟩
  have hold:=HOLD.out.keeps hk (λ x _ hd e=>by subst e;exact HAB.out.apart _ HM.out hd)
  have hsl:SlotAt wc (DF D w wb) b ⟨s.word,withHd n s.nd⟩:=by
   refine ⟨_,_,_,_,_,_,hb,⟨⟨hold.1.lvl,hold.1.high,hold.1.right⟩,?_,?_,?_⟩,HU.out⟩
   ·exact ((HO.out.2.keys.keepsB HBK.out ha hk).mono (λ b _ hb=>.inr ⟨by have:=hb.1;omega,hb.2⟩):OTx wc (DF D w wb) _ _).r
   ·exact ((HO.out.2.vals.keepsB HBK.out ha hk).mono (λ b _ hb=>.inr ⟨by have:=hb.1;omega,hb.2⟩):OTx wc (DF D w wb) _ _).r
   ·exact ((HO.out.2.kids.keepsB HBK.out ha hk).mono (λ b _ hb=>.inr ⟨by have:=hb.1;omega,hb.2⟩):OIn wc (DF D w wb) _ _).r
  have R:=HAB.out.put HBI.out HSI.out hk hsl
  have hdf:DF D w wb=DF D w wc:=by unfold DF Fresh;rw [hsz]
  rw [hdf] at R
  go_ret
  refine ⟨rfl,?_,(K.out.mono (λ _ _ h=>h.elim)).trans hk (λ b hb e=>by have h2:b=_:=e;subst h2;exact HM.out)⟩
  unfold Ar.put;rw [HI.out];exact R
 ·rw [opSetBody_no hn]
  have HA:=Hd h
  have HN:Hid (opHeld A ix≠0):=hn
  have hn2:(opHeld A ix==0)=false:=by simp [hn]
  have HU:=λ (wq:World) (hq:Keeps Nob w wq)=>Hd (under_no (h.keeps hq (λ _ _ _=>id) (λ _ _ _=>id)) hn)
  clear h hn hn' hh hsm HN
  show Calls _ _ _ _ (λ e w'=>e=.returned (iV (opHeld A ix))/\ArW w' M (DF D w w') p slots ids A/\Keeps M w w')
  generalize opHeld A ix=o at *
  unfold pV iV at *
  go_enter Try.func24,Try.ntmps24
  go_wp2_with fail
  refine calls_at (λ wa hw=>?_)
  have hk:Keeps Nob w wa:=by rw [hw];exact Keeps.alloc _ _ _
  have H:=HU wa hk
  have K:=Hd hk
  clear hw hk HU
  refine H.out.mono ?_
  rintro e w' ⟨rfl,rfl⟩
  go_wp2
  go_ret
  exact ⟨rfl,HA.out.grown K.out,K.out.mono (λ _ _ h=>h.elim)⟩
end
end Go.Proofs.Ytjcgphhpaenjkaa
