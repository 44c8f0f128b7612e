import Derived.Test.YtjcgphhpaenjkaaPkA0
set_option linter.unusedVariables false
namespace Go.Proofs.Ytjcgphhpaenjkaa
section
variable {P:Program} {ops:Array Oper} {Q:Exit->Act->World->Prop} {md:Region.Mode} {k:Nat} {C:World->Prop} {R:Act->World->Prop}
def putsA (a:Act):List (Option Tmp × Value)->Act
 | []=>a
 | (d,v)::l=>putsA (a.put d v) l
theorem Oper.wp_cut {o:Oper} {a:Act} {w:World} {N K K':Act->World->Prop} (hK:∀ a w,K a w->K' a w) (h:o.wp P a w K (Behind Q N)):o.wp P a w K' Q:=by
 unfold Oper.wp at *
 generalize (execOp a.eval o).run P w=r at *
 cases r with
 | ok n w'=>
  cases n<;>simp only [Oper.upon] at h ⊢
  case value u=>exact hK _ _ h
  case skip=>exact hK _ _ h
  case defer d=>exact hK _ _ h
  case enter f args=>
   refine Calls.mono h λ e w'' he=>?_
   cases e with
   | returned u=>exact hK _ _ he
   | panicked c=>exact he
   | outgrown=>exact he
  case row row args=>exact Rows.mono h λ u w'' he=>hK _ _ he
 | halt x w'=>cases x<;>simp only [Oper.upon] at h ⊢<;>exact h
theorem wpOp_behind {i:Nat} {a:Act} {w:World} {o:Oper} {K:Act->World->Prop} (ho':ops.toList[i]?=some o) (h:wpList P ops (Behind Q K) [o] a w):wpOp P ops Q i K a w:=by
 have ho:ops[i]?=some o:=by rw [<-Array.getElem?_toList];exact ho'
 simp only [wpList] at h
 unfold wpOp
 simp only [ho]
 split
 ·rename_i hw
  rw [if_pos hw] at h
  rcases h with h|h
  ·exact .inl (Oper.wp_behind h)
  ·exact .inr ⟨h.1,letsOut_behind h.2⟩
 ·rename_i hw
  rw [if_neg hw] at h
  exact h
end
inductive Wlk where
 | nil
 | read (i:Nat) (r:Wlk)
 | act (i:Nat) (r:Wlk)
 | two (i:Nat) (r:Wlk) (j:Nat) (s:Wlk)
 | three (i:Nat) (r:Wlk) (j:Nat) (s:Wlk) (m:Nat) (t:Wlk)
def Wlk.len:Wlk->Nat
 | .nil=>0
 | .read _ r=>r.len+1
 | .act _ r=>r.len+1
 | .two _ r _ s=>max r.len s.len+1
 | .three _ r _ s _ t=>max r.len (max s.len t.len)+1
def Wlk.reads:List Nat->Wlk->Wlk
 | [],r=>r
 | i::l,r=>.read i (Wlk.reads l r)
section
variable {P:Program} {ops:Array Oper} {Q:Exit->Act->World->Prop} {md:Region.Mode} {k:Nat} {C:World->Prop} {R:Act->World->Prop}
def treeC (md:Region.Mode) (ops:Array Oper) (k:Nat):Wlk->Array Bool->Bool
 | .nil,listed=>(Region.ready md ops listed).isEmpty
 | .read i r,listed=>(match ops[i]? with
   | none=>false
   | some o=>early md ops k i o&&((Region.ready md ops listed).contains i&&Region.free md ops listed i))&&treeC md ops k r (listed.setIfInBounds i true)
 | .act i r,listed=>(Region.ready md ops listed==[i])&&treeC md ops k r (listed.setIfInBounds i true)
 | .two i r j s,listed=>(Region.ready md ops listed==[i,j])&&(treeC md ops k r (listed.setIfInBounds i true)&&treeC md ops k s (listed.setIfInBounds j true))
 | .three i r j s m t,listed=>(Region.ready md ops listed==[i,j,m])&&(treeC md ops k r (listed.setIfInBounds i true)&&(treeC md ops k s (listed.setIfInBounds j true)&&treeC md ops k t (listed.setIfInBounds m true)))
def wpTre (P:Program) (md:Region.Mode) (ops:Array Oper) (Q:Exit->Act->World->Prop) (R:Act->World->Prop) (k:Nat) (C:World->Prop):Wlk->Array Bool->Act->World->Prop
 | .nil,_,a,w=>R a w
 | .read i r,listed,a,w=>match ops[i]? with
  | none=>False
  | some o=>∃ v,YieldsC P ops (OnWhat C o) o v a/\wpTre P md ops Q R k C r (listed.setIfInBounds i true) (a.put o.dst v) w
 | .act i r,listed,a,w=>wpOp P ops Q i (λ a' w'=>Till k C (listed.setIfInBounds i true) w'/\wpTre P md ops Q R k C r (listed.setIfInBounds i true) a' w') a w
 | .two i r j s,listed,a,w=>
  wpOp P ops Q i (λ a' w'=>Till k C (listed.setIfInBounds i true) w'/\wpTre P md ops Q R k C r (listed.setIfInBounds i true) a' w') a w/\
  wpOp P ops Q j (λ a' w'=>Till k C (listed.setIfInBounds j true) w'/\wpTre P md ops Q R k C s (listed.setIfInBounds j true) a' w') a w
 | .three i r j s m t,listed,a,w=>
  wpOp P ops Q i (λ a' w'=>Till k C (listed.setIfInBounds i true) w'/\wpTre P md ops Q R k C r (listed.setIfInBounds i true) a' w') a w/\
  wpOp P ops Q j (λ a' w'=>Till k C (listed.setIfInBounds j true) w'/\wpTre P md ops Q R k C s (listed.setIfInBounds j true) a' w') a w/\
  wpOp P ops Q m (λ a' w'=>Till k C (listed.setIfInBounds m true) w'/\wpTre P md ops Q R k C t (listed.setIfInBounds m true) a' w') a w
theorem wpAnyC_tre (hs:Region.noSelect ops=true) (hQ:∀ c (a:Act) (d:Option Tmp) v w,Q (.panic c) (a.put d v) w->Q (.panic c) a w) (he:∀ a w,R a w->Q .normal a w):∀ (T:Wlk) (fuel:Nat) (listed:Array Bool) (a:Act) (w:World),
  T.len<=fuel->listed.size=ops.size->Closed md ops listed->Till k C listed w->treeC md ops k T listed=true->wpTre P md ops Q R k C T listed a w->wpAnyC P md ops Q k C fuel listed a w
 | .nil,0,listed,a,w,_,_,_,_,hB,h=>⟨by simpa [treeC] using hB,he _ _ h⟩
 | .nil,fuel+1,listed,a,w,_,_,_,_,hB,h=>by
  have hr:Region.ready md ops listed=[]:=by simpa [treeC] using hB
  exact ⟨λ _=>he _ _ h,λ i hi=>by rw [hr] at hi;cases hi⟩
 | .read i r,0,_,_,_,hl,_,_,_,_,_=>by simp [Wlk.len] at hl
 | .act i r,0,_,_,_,hl,_,_,_,_,_=>by simp [Wlk.len] at hl
 | .two i r j s,0,_,_,_,hl,_,_,_,_,_=>by simp [Wlk.len] at hl
 | .three i r j s m t,0,_,_,_,hl,_,_,_,_,_=>by simp [Wlk.len] at hl
 | .read i r,fuel+1,listed,a,w,hl,hsz,hc,ht,hB,h=>by
  simp only [treeC,Bool.and_eq_true] at hB
  obtain ⟨hB1,hB2⟩:=hB
  simp only [wpTre] at h
  cases ho:ops[i]? with
  | none=>rw [ho] at h;exact h.elim
  | some o=>
   rw [ho] at h hB1
   simp only [Bool.and_eq_true] at h hB1
   obtain ⟨v,hy,hrest⟩:=h
   obtain ⟨hik,hkk⟩:=early_spec hB1.1
   have hrd:i ∈ Region.ready md ops listed:=by simpa using hB1.2.1
   have ht':Till k C (listed.setIfInBounds i true) w:=by
    rcases ht with ht|ht
    ·exact .inl (by rw [getD_setf_ne hik];exact ht)
    ·exact .inr ht
   exact wpAnyC_first ho (Region.noSelect_spec hs) (λ c a w=>hQ c a o.dst v w) hik (D:=OnWhat C o) (λ l w h1 h2 h3 h4=>by
    unfold OnWhat
    cases hm:memless o.op with
    | true=>trivial
    | false=>exact till_of (hkk hm) l w h1 h2 h3 h4) fuel listed a w hsz hc (Region.free_spec ho hB1.2.2) hrd hy ht
    (wpAnyC_tre hs hQ he r fuel _ _ w (by simp [Wlk.len] at hl;omega) (by simp [hsz]) (hc.set_ hrd) ht' hB2 hrest)
 | .act i r,fuel+1,listed,a,w,hl,hsz,hc,ht,hB,h=>by
  simp only [treeC,Bool.and_eq_true] at hB
  obtain ⟨hB1,hB2⟩:=hB
  simp only [wpTre] at h
  have hrd:Region.ready md ops listed=[i]:=by simpa using hB1
  refine ⟨λ h0=>(by rw [hrd] at h0;cases h0),λ j hj=>?_⟩
  rw [hrd] at hj
  simp at hj
  subst hj
  exact wpOp_mono (λ a' w' h'=>⟨h'.1,wpAnyC_tre hs hQ he r fuel _ a' w' (by simp [Wlk.len] at hl;omega) (by simp [hsz]) (hc.set_ (by rw [hrd];simp)) h'.1 hB2 h'.2⟩) h
 | .two i r m s,fuel+1,listed,a,w,hl,hsz,hc,ht,hB,h=>by
  simp only [treeC,Bool.and_eq_true] at hB
  obtain ⟨hB1,hB2,hB3⟩:=hB
  simp only [wpTre] at h
  have hrd:Region.ready md ops listed=[i,m]:=by simpa using hB1
  have hl':r.len<=fuel/\s.len<=fuel:=by simp [Wlk.len] at hl;omega
  refine ⟨λ h0=>(by rw [hrd] at h0;cases h0),λ j hj=>?_⟩
  rw [hrd] at hj
  simp only [List.mem_cons,List.not_mem_nil,or_false] at hj
  rcases hj with rfl|rfl
  ·exact wpOp_mono (λ a' w' h'=>⟨h'.1,wpAnyC_tre hs hQ he r fuel _ a' w' hl'.1 (by simp [hsz]) (hc.set_ (by rw [hrd];simp)) h'.1 hB2 h'.2⟩) h.1
  ·exact wpOp_mono (λ a' w' h'=>⟨h'.1,wpAnyC_tre hs hQ he s fuel _ a' w' hl'.2 (by simp [hsz]) (hc.set_ (by rw [hrd];simp)) h'.1 hB3 h'.2⟩) h.2
 | .three i r m s n t,fuel+1,listed,a,w,hl,hsz,hc,ht,hB,h=>by
  simp only [treeC,Bool.and_eq_true] at hB
  obtain ⟨hB1,hB2,hB3,hB4⟩:=hB
  simp only [wpTre] at h
  have hrd:Region.ready md ops listed=[i,m,n]:=by simpa using hB1
  have hl':r.len<=fuel/\s.len<=fuel/\t.len<=fuel:=by simp [Wlk.len] at hl;omega
  refine ⟨λ h0=>(by rw [hrd] at h0;cases h0),λ j hj=>?_⟩
  rw [hrd] at hj
  simp only [List.mem_cons,List.not_mem_nil,or_false] at hj
  rcases hj with rfl|rfl|rfl
  ·exact wpOp_mono (λ a' w' h'=>⟨h'.1,wpAnyC_tre hs hQ he r fuel _ a' w' hl'.1 (by simp [hsz]) (hc.set_ (by rw [hrd];simp)) h'.1 hB2 h'.2⟩) h.1
  ·exact wpOp_mono (λ a' w' h'=>⟨h'.1,wpAnyC_tre hs hQ he s fuel _ a' w' hl'.2.1 (by simp [hsz]) (hc.set_ (by rw [hrd];simp)) h'.1 hB3 h'.2⟩) h.2.1
  ·exact wpOp_mono (λ a' w' h'=>⟨h'.1,wpAnyC_tre hs hQ he t fuel _ a' w' hl'.2.2 (by simp [hsz]) (hc.set_ (by rw [hrd];simp)) h'.1 hB4 h'.2⟩) h.2.2
theorem wp_region_tre {id:Nat} {a:Act} {w:World} (T:Wlk) (k:Nat) (C:World->Prop) (R:Act->World->Prop) (hm:P.follows .mixedOrders=true) (hs:Region.noSelect ops=true) (hlen:T.len<=ops.size)
  (hB:treeC .any ops k T (Array.replicate ops.size false)=true) (hQ:∀ c (a:Act) (d:Option Tmp) v w,Q (.panic c) (a.put d v) w->Q (.panic c) a w)
  (hC:C w.drew) (h:wpTre P .any ops Q R k C T (Array.replicate ops.size false) a w.drew) (he:∀ a w,R a w->Q .normal a w):(Code.region id ops true).wp P Q a w:=by
 refine wp_region_any hm (wpAny_ofC (k:=k) (C:=C) _ _ _ _ ?_)
 change wpAnyC P .any ops Q k C ops.size _ a w.drew
 exact wpAnyC_tre (md:=.any) hs hQ he T _ _ a w.drew hlen (by simp) (λ j oj _ hj=>by
  exfalso
  rw [Array.getD_eq_getD_getElem?,Array.getElem?_replicate] at hj
  split at hj<;>simp at hj) (.inr hC) hB h
theorem wp_region_treV {X:Type} {id:Nat} {a:Act} {w:World} (vals:X->List (Option Tmp × Value)) (F:X->World->Prop) (T:Wlk) (k:Nat) (C:World->Prop) (hm:P.follows .mixedOrders=true) (hs:Region.noSelect ops=true) (hlen:T.len<=ops.size)
  (hB:treeC .any ops k T (Array.replicate ops.size false)=true) (hQ:∀ c (a:Act) (d:Option Tmp) v w,Q (.panic c) (a.put d v) w->Q (.panic c) a w)
  (hC:C w.drew) (h:wpTre P .any ops Q (λ a' w'=>∃ x,a'=putsA a (vals x)/\F x w') k C T (Array.replicate ops.size false) a w.drew) (he:∀ x w,F x w->Q .normal (putsA a (vals x)) w):(Code.region id ops true).wp P Q a w:=
 wp_region_tre T k C _ hm hs hlen hB hQ hC h (λ a w ⟨x,e,hf⟩=>by rw [e];exact he x w hf)
theorem wpTre_read {i:Nat} {r:Wlk} {listed:Array Bool} {a:Act} {w:World} {o:Oper} {v:Value} (ho':ops.toList[i]?=some o)
  (hw:Region.wanted o (yielded ops a.tmps)=true)
  (hy:∀ w,OnWhat C o w->(execOp a.eval o).run P w=.ok (.value v) w) (h:wpTre P md ops Q R k C r (listed.setIfInBounds i true) (a.put o.dst v) w):wpTre P md ops Q R k C (.read i r) listed a w:=by
 have ho:ops[i]?=some o:=by rw [<-Array.getElem?_toList];exact ho'
 simp only [wpTre,ho]
 exact ⟨v,.inl ⟨hw,hy⟩,h⟩
theorem wpTre_act {i:Nat} {r:Wlk} {listed:Array Bool} {a:Act} {w:World} {o:Oper} (ho':ops.toList[i]?=some o)
  (h:wpList P ops (Behind Q (λ a' w'=>Till k C (listed.setIfInBounds i true) w'/\wpTre P md ops Q R k C r (listed.setIfInBounds i true) a' w')) [o] a w):wpTre P md ops Q R k C (.act i r) listed a w:=
 wpOp_behind ho' h
theorem wpTre_two {i j:Nat} {r s:Wlk} {listed:Array Bool} {a:Act} {w:World} {o u:Oper} (ho:ops.toList[i]?=some o) (hu:ops.toList[j]?=some u)
  (h:wpList P ops (Behind Q (λ a' w'=>Till k C (listed.setIfInBounds i true) w'/\wpTre P md ops Q R k C r (listed.setIfInBounds i true) a' w')) [o] a w)
  (h':wpList P ops (Behind Q (λ a' w'=>Till k C (listed.setIfInBounds j true) w'/\wpTre P md ops Q R k C s (listed.setIfInBounds j true) a' w')) [u] a w):wpTre P md ops Q R k C (.two i r j s) listed a w:=
 ⟨wpOp_behind ho h,wpOp_behind hu h'⟩
theorem wpTre_nil {listed:Array Bool} {a:Act} {w:World} (h:R a w):wpTre P md ops Q R k C .nil listed a w:=h
theorem tre_at' {T:Wlk} {listed listed':Array Bool} {a:Act} {w:World} (h:∀ w',w'=w->Till k C listed' w'/\wpTre P md ops Q R k C T listed a w'):Till k C listed' w/\wpTre P md ops Q R k C T listed a w:=h w rfl
theorem tre_at {T:Wlk} {listed:Array Bool} {a:Act} {w:World} (h:∀ w',w'=w->wpTre P md ops Q R k C T listed a w'):wpTre P md ops Q R k C T listed a w:=h w rfl
end
end Go.Proofs.Ytjcgphhpaenjkaa
