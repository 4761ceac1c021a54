/- Own texts, joined: . -/
import Derived.Test.YtongjlmclckboaaGreatDoorM13
import Derived.Test.YtongjlmclckboaaGreatDoorM12
set_option linter.all false
namespace Go.Ev.Tryz
set_option maxRecDepth 10000
open Go.Proofs
def Sm(a b:St):Prop:=∃k,b=aR a k
theorem Sm.trans{a b c:St}(h1:Sm a b)(h2:Sm b c):Sm a c:=by
 obtain⟨k,rfl⟩:=h1;obtain⟨m,rfl⟩:=h2;exact⟨m,rfl⟩
theorem Sm.k(a:St)(k:Nat):Sm a (aR a k):=⟨k,rfl⟩
section
variable {s:Bs}{l:List Wd}
theorem Jo{w:Bs}{p:Ps}(h:(dS s l w p).2=true):(dS s l w p).1={p with k:=p.k+1}:=by
 unfold dS at h ⊢
 split
 ·rfl
 ·next hn=>rw[if_neg hn]at h;cases h
theorem C5{st:St}(h:(k8 s l st).2=true):Sm st (k8 s l st).1:=⟨st.p.k+1,by
 unfold k8 at h ⊢
 rw[Jo h]
 rfl⟩
theorem abf{p:Ps}(h:(aS s l p).2.2.2=true):aS s l p=({p with k:=p.k+1},aa l p.k,bA s l p.k,true)/\iI (aa l p.k)=false:=by
 unfold aS at h ⊢
 split
 ·next hs=>rw[if_pos hs]at h;cases h
 ·next hs=>exact⟨rfl,by simpa using hs⟩
theorem jz{p:Ps}:(∃p' w a,aS s l p=(p',w,a,false))∨(aS s l p=({p with k:=p.k+1},aa l p.k,bA s l p.k,true)/\iI (aa l p.k)=false):=by
 cases h:(aS s l p).2.2.2 with
 | true=>exact .inr (abf h)
 | false=>exact .inl ⟨_,_,_,Prod.ext rfl (Prod.ext rfl (Prod.ext rfl h))⟩
theorem oV{put:St->Int->St}{lo hi:Int}{st:St}(h:(bC s l put lo hi st).2=true):∃k v,lo<=v/\v<=hi/\Sm (put (aR st k) v) (bC s l put lo hi st).1:=by
 unfold bC at h ⊢
 rcases jz (s:=s) (l:=l) (p:=st.p)with⟨p',w,a,e⟩ | ⟨e,hs⟩
 ·rw[e]at h;cases h
 ·rw[e]at h ⊢
  unfold yL at h ⊢
  simp only at h ⊢
  split
  ·next hc=>
   rw[if_pos hc]at h
   exact⟨st.p.k+1,_,hc.2.1,hc.2.2,C5 h⟩
  ·next hc=>rw[if_neg hc]at h;cases h
theorem CI{put:St->Int->St}{L:List (Bs×Int)}{st:St}(h:(cM s l put L st).2=true):∃k v,v∈L.map (·.2)/\Sm (put (aR st k) v) (cM s l put L st).1:=by
 unfold cM at h ⊢
 rcases jz (s:=s) (l:=l) (p:=st.p)with⟨p',w,a,e⟩ | ⟨e,hs⟩
 ·rw[e]at h;cases h
 ·rw[e]at h ⊢
  unfold wP at h ⊢
  simp only at h ⊢
  cases hl:lk L (aa l st.p.k)with
  | none=>rw[hl]at h;cases h
  | some v=>
   rw[hl]at h
   exact⟨st.p.k+1,v,List.mem_map_of_mem (wE hl),C5 h⟩
theorem To{put:St->Cd->St}{st:St}(h:(nF s l put st).2=true):∃k x,xJ x/\Sm (put (aR st k) x) (nF s l put st).1:=by
 unfold nF at h ⊢
 rcases jz (s:=s) (l:=l) (p:=st.p)with⟨p',w,a,e⟩ | ⟨e,hs⟩
 ·rw[e]at h;cases h
 ·rw[e]at h ⊢
  unfold ID at h ⊢
  simp only at h ⊢
  split
  ·next hc=>
   rw[if_pos hc]at h
   exact⟨st.p.k+1,_,X5 _,C5 h⟩
  ·next hc=>rw[if_neg hc]at h;cases h
theorem Qb(x:List Int):(strOfNums x).size=x.length:=by unfold strOfNums;show(List.toArray _).size=_;simp
theorem UH{w:Bs}(h:(Il w).2=true):(Il w).1.size=16:=by
 unfold Il at h ⊢
 split
 ·next x hx=>
  rw[hx]at h
  simp only at h
  split
  ·next h6=>rw[Qb];exact h6
  ·next h6=>rw[if_neg h6]at h;cases h
 ·next hx=>rw[hx]at h;cases h
theorem KV{w:Bs}(h:(eL w).2=true):(eL w).1.size=4∨(eL w).1.size=16:=by
 unfold eL at h ⊢
 split
 ·next x hx=>
  rw[hx]at h
  simp only at h
  split
  ·next h4=>left;rw[Qb];exact h4
  ·next h4=>rw[if_neg h4]at h;exact .inr (UH h)
 ·next hx=>rw[hx]at h;exact .inr (UH h)
theorem AB{put:St->Bs->St}{xE:Bool}{st:St}(h:(bt s l xE (j8 put) st).2=true):∃k a at',(a.size=4∨a.size=16)/\Sm (put (aeX (aR st k) (a,at',xE)) a) (bt s l xE (j8 put) st).1:=by
 unfold bt at h ⊢
 rcases jz (s:=s) (l:=l) (p:=st.p)with⟨p',w,a,e⟩ | ⟨e,hs⟩
 ·rw[e]at h;cases h
 ·rw[e]at h ⊢
  unfold pJ at h ⊢
  simp only at h ⊢
  split
  ·next hc=>
   rw[if_pos hc]at h
   unfold pE j8 at h ⊢
   simp only[if_true]at h ⊢
   exact⟨st.p.k+1,_,_,KV hc,C5 h⟩
  ·next hc=>rw[if_neg hc]at h;cases h
theorem aiv{st:St}(h:(bt s l false zY st).2=true):∃a at',(a.size=4∨a.size=16)/\a∉st.p.au/\Sm (aA st {st.p with ag:=st.p.ag++[(a,at',false)],au:=st.p.au++[a]}) (bt s l false zY st).1:=by
 unfold bt at h ⊢
 rcases jz (s:=s) (l:=l) (p:=st.p)with⟨p',w,a,e⟩ | ⟨e,hs⟩
 ·rw[e]at h;cases h
 ·rw[e]at h ⊢
  unfold pJ at h ⊢
  simp only at h ⊢
  split
  ·next hc=>
   rw[if_pos hc]at h
   unfold pE zY at h ⊢
   cases hm:uO (eL (aa l st.p.k)).1 (aA st {st.p with k:=st.p.k+1,ag:=st.p.ag++[((eL (aa l st.p.k)).1,bA s l st.p.k,false)]}).p.au with
   | true=>rw[hm]at h;cases h
   | false=>
    rw[hm]at h
    simp only[Bool.false_eq_true,if_false,if_true]at h ⊢
    refine⟨(eL (aa l st.p.k)).1,bA s l st.p.k,KV hc,λhx=>?_,Sm.trans ⟨st.p.k+1,rfl⟩ (C5 h)⟩
    have:uO (eL (aa l st.p.k)).1 st.p.au=true:=vq.2 hx
    rw[show uO (eL (aa l st.p.k)).1 st.p.au=false from hm]at this
    cases this
  ·next hc=>rw[if_neg hc]at h;cases h
theorem aax(g:ru l){xs:List Bs}{p:Ps}(h:(cB s l xs p).2.2=true):∃w,cB s l xs p=({p with k:=p.k+1},w,true)/\qd w/\w.size<=40/\w∉xs:=by
 unfold cB at h ⊢
 rcases jz (s:=s) (l:=l) (p:=p)with⟨p',w,a,e⟩ | ⟨e,hs⟩
 ·rw[e]at h;cases h
 ·rw[e]at h ⊢
  unfold Bb at h ⊢
  simp only at h ⊢
  split
  ·next hc=>rw[if_pos hc]at h;cases h
  ·next hc=>
   rw[if_neg hc]at h
   split
   ·next hm=>rw[if_pos hm]at h;cases h
   ·next hm=>exact⟨_,rfl,Z3 g hs,by omega,λhx=>hm (vq.2 hx)⟩
theorem Fy(g:ru l){xs:List Bs}{p:Ps}:(∃p' w,cB s l xs p=(p',w,false))∨∃w,cB s l xs p=({p with k:=p.k+1},w,true)/\qd w/\w.size<=40/\w∉xs:=by
 cases h:(cB s l xs p).2.2 with
 | true=>exact .inr (aax g h)
 | false=>exact .inl ⟨_,_,Prod.ext rfl (Prod.ext rfl h)⟩
theorem abd(g:ru l){st:St}(h:(pF s l st).2=true):∃x,TrC x/\x.1∉st.p.bh.map (·.1)/\Sm (aA st {st.p with bh:=st.p.bh++[x]}) (pF s l st).1:=by
 unfold pF at h ⊢
 rcases Fy (s:=s) g (xs:=st.p.bh.map (·.1)) (p:=st.p)with⟨p',w,e⟩ | ⟨nm,e,hp,It,hn⟩
 ·rw[e]at h;cases h
 ·rw[e]at h ⊢
  change (jA s l nm st (aS s l {st.p with k:=st.p.k+1})).2=true at h
  show ∃x,TrC x/\x.1∉st.p.bh.map (·.1)/\Sm _ (jA s l nm st (aS s l {st.p with k:=st.p.k+1})).1
  rcases jz (s:=s) (l:=l) (p:={st.p with k:=st.p.k+1})with⟨p',w,a,e⟩ | ⟨e,hs⟩
  ·rw[e]at h;cases h
  ·rw[e]at h ⊢
   unfold jA at h ⊢
   simp only at h ⊢
   split
   ·next hc=>
    rw[if_pos hc]at h
    refine⟨(nm,if(cH (aa l (st.p.k+1))).2=true then - (cl (bs (cH (aa l (st.p.k+1))).1)).1 else(cl (bs (cH (aa l (st.p.k+1))).1)).1),⟨hp,It,?_,?_,?_⟩,hn,Sm.trans ⟨st.p.k+1+1,rfl⟩ (C5 h)⟩
    all_goals (simp only;split<;>omega)
   ·next hc=>rw[if_neg hc]at h;cases h
theorem Tj{L:List (Bs×Key)}{I:List (Bs×Int)->St->Prop}(hsm:∀M a b,Sm a b->I M a->I M b)
  (hstep:∀w key M st,lk L w=some key->cnt M w<key.most->I M st->(key.sem st).2=true->I (pt M w (cnt M w+1)) (key.sem st).1):∀(F:Nat) (M:List (Bs×Int)) (st:St),I M st->(cJ s l L F M st).2=true->∃M',sI L M'=false/\I M' (cJ s l L F M st).1
 | 0,M,st,_,h=>by cases h
 | F+1,M,st,hI,h=>by
  unfold cJ at h ⊢
  split
  ·next hsh=>
   rw[if_pos hsh]at h
   unfold tU at h ⊢
   cases hl:sI L M with
   | true=>rw[hl,if_pos rfl]at h;cases h
   | false=>
    rw[hl,if_neg (by decide)]at h
    rw[if_neg (by decide)]
    exact⟨M,hl,hsm M _ _ (Sm.trans (Sm.k st (st.p.k+1)) (C5 h)) hI⟩
  ·next hsh=>
   rw[if_neg hsh]at h
   cases hl:lk L (aa l st.p.k)with
   | none=>rw[hl]at h;cases h
   | some key=>
    rw[hl]at h
    simp only at h ⊢
    split
    ·next hc=>rw[if_pos hc]at h;cases h
    ·next hc=>
     rw[if_neg hc]at h
     split
     ·next hs=>
      rw[if_pos hs]at h
      exact Tj hsm hstep F _ _ (hstep _ key M _ hl (by omega) (hsm M _ _ (Sm.k st (st.p.k+1)) hI) hs) h
     ·next hs=>rw[if_neg hs]at h;cases h
theorem Gc{L:List (Bs×Key)}{I:List (Bs×Int)->St->Prop}(hsm:∀M a b,Sm a b->I M a->I M b)
  (hstep:∀w key M st,lk L w=some key->cnt M w<key.most->I M st->(key.sem st).2=true->I (pt M w (cnt M w+1)) (key.sem st).1) {st:St} (hI:I [] st) (h:(bL s l L st).2=true):∃M',sI L M'=false/\I M' (bL s l L st).1:=by
 unfold bL at h ⊢
 split
 ·next h1=>
  rw[if_pos h1]at h
  split
  ·next h2=>
   rw[if_pos h2]at h
   refine Tj hsm hstep _ _ _ (hsm _ _ _ ?_ hI) h
   exact⟨st.p.k+1+1,by rw[Jo h2,Jo h1];rfl⟩
  ·next h2=>rw[if_neg h2]at h;cases h
 ·next h1=>rw[if_neg h1]at h;cases h
end
set_option maxHeartbeats 1000000
abbrev za:=List (Bs×Int×Bool)
def wU(sp:za)(a:Bs):Prop:=(a.size=4∨a.size=16)/\∃at' v,(a,at',v)∈sp
def KR(sp:za)(a:Bs):Prop:=(a.size=4∨a.size=16)/\∃at',(a,at',true)∈sp
theorem wU.app{sp:za}{a:Bs}(h:wU sp a)(t:za):wU (sp++t) a:=by
 obtain⟨h1,x,v,h2⟩:=h;exact⟨h1,x,v,List.mem_append.2 (.inl h2)⟩
theorem KR.app{sp:za}{a:Bs}(h:KR sp a)(t:za):KR (sp++t) a:=by
 obtain⟨h1,x,h2⟩:=h;exact⟨h1,x,List.mem_append.2 (.inl h2)⟩
theorem wU.new{sp:za}{a:Bs}{x:Int}{v:Bool}(h:a.size=4∨a.size=16):wU (sp++[(a,x,v)]) a:=⟨h,x,v,by simp⟩
theorem KR.new{sp:za}{a:Bs}{x:Int}(h:a.size=4∨a.size=16):KR (sp++[(a,x,true)]) a:=⟨h,x,by simp⟩
theorem kH(w:Bs):cnt [] w=0:=rfl
theorem YM{V:Type}(w:Bs):lk ([]:List (Bs×V)) w=none:=rfl
section
variable {s:Bs}{l:List Wd}
structure apV(a:St)(M:List (Bs×Int))(st:St):Prop where
 ex:∃k c ad pe sp,st={a with p:={a.p with k:=k,bH:=c,addr:=ad,peer:=pe,ag:=a.p.ag++sp}}/\(cnt M kz≠0->xJ c)/\(cnt M bq≠0->wU (a.p.ag++sp) ad)/\(cnt M rQ≠0->wU (a.p.ag++sp) pe)
theorem ad3{a:St}(h:(vv s l a).2=true):∃k c ad pe sp,(vv s l a).1={a with p:={a.p with k:=k,bH:=c,addr:=ad,peer:=pe,ag:=a.p.ag++sp}}/\xJ c/\wU (a.p.ag++sp) ad/\wU (a.p.ag++sp) pe:=by
 obtain⟨M',hl,⟨k,c,ad,pe,sp,e,h1,h2,h3⟩⟩:=Gc (I:=apV a) (L:=vu s l) (s:=s) (l:=l) (λM x y hxy ⟨k,c,ad,pe,sp,e,h1,h2,h3⟩=>by
   obtain⟨m,rfl⟩:=hxy
   exact⟨m,c,ad,pe,sp,by rw[e];rfl,h1,h2,h3⟩) (λw key M st hk hc ⟨k,c,ad,pe,sp,e,h1,h2,h3⟩ hs=>by
   simp only[vu,ou]at hk
   rw[aQ]at hk
   split at hk
   ·next hw=>
    obtain rfl:w=kz:=hw
    obtain rfl:=oh hk
    obtain⟨m,x,hx,j,e2⟩:=To hs
    refine⟨j,x,ad,pe,sp,by rw[e2,e];rfl,λ_=>hx,λh=>h2 ?_,λh=>h3 ?_⟩
    ·rwa [aB,if_neg (by decide)]at h
    ·rwa [aB,if_neg (by decide)]at h
   rw[aQ]at hk
   split at hk
   ·next hw=>
    obtain rfl:w=bq:=hw
    obtain rfl:=oh hk
    obtain⟨m,x,at',hx,j,e2⟩:=AB hs
    refine⟨j,c,x,pe,sp++[(x,at',false)],?_,λh=>h1 ?_,λ_=>?_,λh=>?_⟩
    ·rw[e2,e,<-List.append_assoc];rfl
    ·rwa [aB,if_neg (by decide)]at h
    ·rw[<-List.append_assoc];exact .new hx
    ·rw[aB,if_neg (by decide)]at h
     rw[<-List.append_assoc];exact(h3 h).app _
   rw[aQ]at hk
   split at hk
   ·next hw=>
    obtain rfl:w=rQ:=hw
    obtain rfl:=oh hk
    obtain⟨m,x,at',hx,j,e2⟩:=AB hs
    refine⟨j,c,ad,x,sp++[(x,at',false)],?_,λh=>h1 ?_,λh=>?_,λ_=>?_⟩
    ·rw[e2,e,<-List.append_assoc];rfl
    ·rwa [aB,if_neg (by decide)]at h
    ·rw[aB,if_neg (by decide)]at h
     rw[<-List.append_assoc];exact(h2 h).app _
    ·rw[<-List.append_assoc];exact .new hx
   cases hk) (st:=a) ⟨a.p.k,a.p.bH,a.p.addr,a.p.peer,[],by simp,λh=>absurd (kH _) h,λh=>absurd (kH _) h,λh=>absurd (kH _) h⟩ h
 have hl:(true&&decide (cnt M' kz=0)||(true&&decide (cnt M' bq=0)||(true&&decide (cnt M' rQ=0)||false)))=false:=hl
 simp only[Bool.true_and,Bool.or_false,Bool.or_eq_false_iff,decide_eq_false_iff_not]at hl
 exact⟨k,c,ad,pe,sp,e,h1 hl.1,h2 hl.2.1,h3 hl.2.2⟩
structure VrI(a:St)(M:List (Bs×Int))(st:St):Prop where
 ex:∃k i pr ev vs ts sp y,st={a with p:={a.p with k:=k,id:=i,prio:=pr,every:=ev,au:=vs,bh:=ts,ag:=a.p.ag++sp},yes:=y}/\
  (cnt M Pd≠0->1<=i/\i<=255)/\(cnt M tr≠0->1<=pr/\pr<=255)/\(cnt M ni≠0->1<=ev/\ev<=4095)/\
  (vs.length:Int)=cnt M jt/\cnt M jt<=8/\vs.Nodup/\(∀v∈vs,wU (a.p.ag++sp) v)/\
  (ts.length:Int)=cnt M iL/\cnt M iL<=8/\(ts.map (·.1)).Nodup/\(∀x∈ts,TrC x)
theorem Du{α:Type}{l:List α}{a:α}(h:l.Nodup)(ha:a∉l):(l++[a]).Nodup:=List.nodup_append.2 ⟨h,by simp,λx hx y hy=>by obtain rfl:=List.mem_singleton.1 hy;exact λe=>ha (e▸hx)⟩
theorem afb(g:ru l){a:St}(hv:a.p.au=[])(ht:a.p.bh=[])(h:(oE s l a).2=true):
  ∃k i pr ev pre vs ts sp y,(oE s l a).1={a with p:={a.p with k:=k,id:=i,prio:=pr,every:=ev,pre:=pre,au:=vs,bh:=ts,ag:=a.p.ag++sp},yes:=y}/\
   (1<=i/\i<=255)/\(1<=pr/\pr<=255)/\(1<=ev/\ev<=4095)/\(1<=vs.length/\vs.length<=8)/\vs.Nodup/\(∀v∈vs,wU (a.p.ag++sp) v)/\ts.length<=8/\(ts.map (·.1)).Nodup/\(∀x∈ts,TrC x):=by
 unfold oE aep at h ⊢
 obtain⟨M',hl,⟨k,i,pr,ev,vs,ts,sp,y,e,h1,h2,h3,h4,h5,h6,h7,h8,h9,h10,h11⟩⟩:=Gc (I:=VrI a) (L:=iO s l) (s:=s) (l:=l) (λM x y hxy ⟨k,i,pr,ev,vs,ts,sp,y,e,hr⟩=>by
   obtain⟨m,rfl⟩:=hxy
   exact⟨m,i,pr,ev,vs,ts,sp,y,by rw[e];rfl,hr⟩) (λw key M st hk hc ⟨k,i,pr,ev,vs,ts,sp,y,e,h1,h2,h3,h4,h5,h6,h7,h8,h9,h10,h11⟩ hs=>by
   simp only[iO,ou]at hk
   rw[aQ]at hk
   split at hk
   ·next hw=>
    obtain rfl:w=Pd:=hw
    obtain rfl:=oh hk
    obtain⟨m,v,v0,v1,j,e2⟩:=oV hs
    refine⟨j,v,pr,ev,vs,ts,sp,y,by rw[e2,e];rfl,λ_=>⟨v0,v1⟩,λh=>h2 ?_,λh=>h3 ?_,?_,?_,h6,h7,?_,?_,h10,h11⟩
    ·rwa [aB,if_neg (by decide)]at h
    ·rwa [aB,if_neg (by decide)]at h
    ·rw[aB,if_neg (by decide)];exact h4
    ·rw[aB,if_neg (by decide)];exact h5
    ·rw[aB,if_neg (by decide)];exact h8
    ·rw[aB,if_neg (by decide)];exact h9
   rw[aQ]at hk
   split at hk
   ·next hw=>
    obtain rfl:w=tr:=hw
    obtain rfl:=oh hk
    obtain⟨m,v,v0,v1,j,e2⟩:=oV hs
    refine⟨j,i,v,ev,vs,ts,sp,y,by rw[e2,e];rfl,λh=>h1 ?_,λ_=>⟨v0,v1⟩,λh=>h3 ?_,?_,?_,h6,h7,?_,?_,h10,h11⟩
    ·rwa [aB,if_neg (by decide)]at h
    ·rwa [aB,if_neg (by decide)]at h
    ·rw[aB,if_neg (by decide)];exact h4
    ·rw[aB,if_neg (by decide)];exact h5
    ·rw[aB,if_neg (by decide)];exact h8
    ·rw[aB,if_neg (by decide)];exact h9
   rw[aQ]at hk
   split at hk
   ·next hw=>
    obtain rfl:w=ni:=hw
    obtain rfl:=oh hk
    obtain⟨m,v,v0,v1,j,e2⟩:=oV hs
    refine⟨j,i,pr,v,vs,ts,sp,y,by rw[e2,e];rfl,λh=>h1 ?_,λh=>h2 ?_,λ_=>⟨v0,v1⟩,?_,?_,h6,h7,?_,?_,h10,h11⟩
    ·rwa [aB,if_neg (by decide)]at h
    ·rwa [aB,if_neg (by decide)]at h
    ·rw[aB,if_neg (by decide)];exact h4
    ·rw[aB,if_neg (by decide)];exact h5
    ·rw[aB,if_neg (by decide)];exact h8
    ·rw[aB,if_neg (by decide)];exact h9
   rw[aQ]at hk
   split at hk
   ·next hw=>
    obtain rfl:w=fL:=hw
    obtain rfl:=oh hk
    obtain⟨m,v,_,j,e2⟩:=CI hs
    refine⟨j,i,pr,ev,vs,ts,sp,v,by rw[e2,e];rfl,λh=>h1 ?_,λh=>h2 ?_,λh=>h3 ?_,?_,?_,h6,h7,?_,?_,h10,h11⟩
    ·rwa [aB,if_neg (by decide)]at h
    ·rwa [aB,if_neg (by decide)]at h
    ·rwa [aB,if_neg (by decide)]at h
    ·rw[aB,if_neg (by decide)];exact h4
    ·rw[aB,if_neg (by decide)];exact h5
    ·rw[aB,if_neg (by decide)];exact h8
    ·rw[aB,if_neg (by decide)];exact h9
   rw[aQ]at hk
   split at hk
   ·next hw=>
    obtain rfl:w=jt:=hw
    obtain rfl:=oh hk
    have hc:cnt M jt<8:=hc
    obtain⟨x,at',hx,hn,j,e2⟩:=aiv hs
    have hn:x∉vs:=by rw[e]at hn;exact hn
    refine⟨j,i,pr,ev,vs++[x],ts,sp++[(x,at',false)],y,?_,λh=>h1 ?_,λh=>h2 ?_,λh=>h3 ?_,?_,?_,Du h6 hn,λv hv=>?_,?_,?_,h10,h11⟩
    ·rw[e2,e,<-List.append_assoc];rfl
    ·rwa [aB,if_neg (by decide)]at h
    ·rwa [aB,if_neg (by decide)]at h
    ·rwa [aB,if_neg (by decide)]at h
    ·rw[aB,if_pos rfl,hU,Lf];push_cast;omega
    ·rw[aB,if_pos rfl];omega
    ·rw[<-List.append_assoc]
     rcases List.mem_append.1 hv with hv | hv
     ·exact(h7 v hv).app _
     ·obtain rfl:=List.mem_singleton.1 hv;exact .new hx
    ·rw[aB,if_neg (by decide)];exact h8
    ·rw[aB,if_neg (by decide)];exact h9
   rw[aQ]at hk
   split at hk
   ·next hw=>
    obtain rfl:w=iL:=hw
    obtain rfl:=oh hk
    have hc:cnt M iL<8:=hc
    obtain⟨x,hx,hn,j,e2⟩:=abd g hs
    have hn:x.1∉ts.map (·.1):=by rw[e]at hn;exact hn
    refine⟨j,i,pr,ev,vs,ts++[x],sp,y,?_,λh=>h1 ?_,λh=>h2 ?_,λh=>h3 ?_,?_,?_,h6,h7,?_,?_,?_,λz hz=>?_⟩
    ·rw[e2,e];rfl
    ·rwa [aB,if_neg (by decide)]at h
    ·rwa [aB,if_neg (by decide)]at h
    ·rwa [aB,if_neg (by decide)]at h
    ·rw[aB,if_neg (by decide)];exact h4
    ·rw[aB,if_neg (by decide)];exact h5
    ·rw[aB,if_pos rfl,hU,Lf];push_cast;omega
    ·rw[aB,if_pos rfl];omega
    ·rw[List.map_append];exact Du h10 hn
    ·rcases List.mem_append.1 hz with hz | hz
     ·exact h11 z hz
     ·obtain rfl:=List.mem_singleton.1 hz;exact hx
   cases hk) (st:={a with yes:=1}) ⟨a.p.k,a.p.id,a.p.prio,a.p.every,[],[],[],1,by simp[<-hv,<-ht],λh=>absurd (kH _) h,λh=>absurd (kH _) h,λh=>absurd (kH _) h,rfl,by rw[kH];decide,.nil,λv hv=>(by cases hv),rfl,by rw[kH];decide,.nil,λv hv=>(by cases hv)⟩ h
 have hl:(true&&decide (cnt M' Pd=0)||(true&&decide (cnt M' tr=0)||(true&&decide (cnt M' ni=0)||(false&&decide (cnt M' fL=0)||(true&&decide (cnt M' jt=0)||(false&&decide (cnt M' iL=0)||false))))))=false:=hl
 simp only[Bool.true_and,Bool.false_and,Bool.or_false,Bool.false_or,Bool.or_eq_false_iff,decide_eq_false_iff_not]at hl
 refine⟨k,i,pr,ev,y==1,vs,ts,sp,y,?_,h1 hl.1,h2 hl.2.1,h3 hl.2.2.1,⟨by have:=hl.2.2.2;omega,by omega⟩,h6,h7,by omega,h10,h11⟩
 simp only
 rw[e]
 rfl
end
set_option maxHeartbeats 2000000
structure BkI(sp:za)(x:Bk):Prop where
 name:qd x.name
 n40:x.name.size<=40
 addr:wU sp x.addr
 bH:xJ x.bH
 port:0<=x.port/\x.port<=65535
 weight:1<=x.weight/\x.weight<=100
theorem BkI.app{sp:za}{x:Bk}(h:BkI sp x)(t:za):BkI (sp++t) x:=⟨h.name,h.n40,h.addr.app t,h.bH,h.port,h.weight⟩
structure SvI(sp:za)(x:Sv):Prop where
 name:qd x.name
 n40:x.name.size<=40
 D1:KR sp x.D1
 proto:x.proto=6∨x.proto=17
 port:1<=x.port/\x.port<=65535
 mode:x.mode=1∨x.mode=2∨x.mode=3
 sched:x.sched=1∨x.sched=2
 ju:1<=x.ju/\x.ju<=20
 jr:1<=x.jr/\x.jr<=20
 probe:1<=x.probe/\x.probe<=10000
 bf:∀b∈x.bf,BkI sp b
 nd:(x.bf.map (·.name)).Nodup
 n:1<=x.bf.length/\x.bf.length<=16
theorem SvI.app{sp:za}{x:Sv}(h:SvI sp x)(t:za):SvI (sp++t) x:=⟨h.name,h.n40,h.D1.app t,h.proto,h.port,h.mode,h.sched,h.ju,h.jr,h.probe,λb hb=>(h.bf b hb).app t,h.nd,h.n⟩
section
variable {s:Bs}{l:List Wd}
structure BcI(a:St)(nm:Bs)(M:List (Bs×Int))(st:St):Prop where
 ex:∃k sp b,st={a with p:={a.p with k:=k,ag:=a.p.ag++sp},bk:=b}/\b.name=nm/\(cnt M bq≠0->wU (a.p.ag++sp) b.addr)/\xJ b.bH/\(0<=b.port/\b.port<=65535)/\(1<=b.weight/\b.weight<=100)
theorem SY(g:ru l){a:St}(h:(dh s l a).2=true):
  ∃k sp b,(dh s l a).1={a with p:={a.p with k:=k,ag:=a.p.ag++sp},sv:={a.sv with bf:=a.sv.bf++[b]},bk:=b}/\BkI (a.p.ag++sp) b/\b.name∉a.sv.bf.map (·.name):=by
 unfold dh at h ⊢
 rcases Fy (s:=s) g (xs:=a.sv.bf.map (·.name)) (p:=a.p)with⟨p',w,e⟩ | ⟨nm,e,hp,It,hn⟩
 ·rw[e]at h;cases h
 rw[e]at h ⊢
 change (bL s l (bN s l) {aA a {a.p with k:=a.p.k+1}with bk:=⟨nm,⟨#[]⟩,EE,0,1⟩}).2=true at h
 obtain⟨M',hl,⟨k,sp,b,e1,hb,h1,h2,h3,h4⟩⟩:=Gc (I:=BcI a nm) (L:=bN s l) (s:=s) (l:=l) (λM x y hxy ⟨k,sp,b,e,hr⟩=>by
   obtain⟨m,rfl⟩:=hxy
   exact⟨m,sp,b,by rw[e];rfl,hr⟩) (λw key M st hk hc ⟨k,sp,b,e,hb,h1,h2,h3,h4⟩ hs=>by
   simp only[bN,ou]at hk
   rw[aQ]at hk
   split at hk
   ·next hw=>
    obtain rfl:w=bq:=hw
    obtain rfl:=oh hk
    obtain⟨m,x,at',hx,j,e2⟩:=AB hs
    refine⟨j,sp++[(x,at',false)],{b with addr:=x},?_,hb,λ_=>?_,h2,h3,h4⟩
    ·rw[e2,e,<-List.append_assoc];rfl
    ·rw[<-List.append_assoc];exact .new hx
   rw[aQ]at hk
   split at hk
   ·next hw=>
    obtain rfl:w=kz:=hw
    obtain rfl:=oh hk
    obtain⟨m,x,hx,j,e2⟩:=To hs
    refine⟨j,sp,{b with bH:=x},by rw[e2,e];rfl,hb,λh=>h1 ?_,hx,h3,h4⟩
    rwa [aB,if_neg (by decide)]at h
   rw[aQ]at hk
   split at hk
   ·next hw=>
    obtain rfl:w=fK:=hw
    obtain rfl:=oh hk
    obtain⟨m,v,v0,v1,j,e2⟩:=oV hs
    refine⟨j,sp,{b with port:=v},by rw[e2,e];rfl,hb,λh=>h1 ?_,h2,⟨by show 0<=v;omega,v1⟩,h4⟩
    rwa [aB,if_neg (by decide)]at h
   rw[aQ]at hk
   split at hk
   ·next hw=>
    obtain rfl:w=iU:=hw
    obtain rfl:=oh hk
    obtain⟨m,v,v0,v1,j,e2⟩:=oV hs
    refine⟨j,sp,{b with weight:=v},by rw[e2,e];rfl,hb,λh=>h1 ?_,h2,h3,⟨v0,v1⟩⟩
    rwa [aB,if_neg (by decide)]at h
   cases hk) (st:={aA a {a.p with k:=a.p.k+1}with bk:=⟨nm,⟨#[]⟩,EE,0,1⟩}) ⟨a.p.k+1,[],⟨nm,⟨#[]⟩,EE,0,1⟩,by simp[aA],rfl,λh=>absurd (kH _) h,⟨by simp[EE]⟩,⟨by simp,by simp⟩,⟨by simp,by simp⟩⟩ h
 have hl:(true&&decide (cnt M' bq=0)||(true&&decide (cnt M' kz=0)||(false&&decide (cnt M' fK=0)||(false&&decide (cnt M' iU=0)||false))))=false:=hl
 simp only[Bool.true_and,Bool.false_and,Bool.or_false,Bool.or_eq_false_iff,decide_eq_false_iff_not]at hl
 refine⟨k,sp,b,?_,⟨by rw[hb];exact hp,by rw[hb];exact It,h1 hl.1,h2,h3,h4⟩,by rw[hb];exact hn⟩
 show(Oi (bL s l (bN s l) {aA a {a.p with k:=a.p.k+1}with bk:=⟨nm,⟨#[]⟩,EE,0,1⟩})).1=_
 unfold Oi
 simp only
 rw[e1]
structure ScI(a:St)(nm:Bs)(M:List (Bs×Int))(st:St):Prop where
 ex:∃k sp x y,st={a with p:={a.p with k:=k,ag:=a.p.ag++sp},sv:=x,bk:=y}/\x.name=nm/\
  (cnt M nj≠0->x.proto=6∨x.proto=17)/\(cnt M jt≠0->KR (a.p.ag++sp) x.D1)/\(cnt M fK≠0->1<=x.port/\x.port<=65535)/\(cnt M th≠0->x.mode=1∨x.mode=2∨x.mode=3)/\
  (x.sched=1∨x.sched=2)/\(1<=x.ju/\x.ju<=20)/\(1<=x.jr/\x.jr<=20)/\(1<=x.probe/\x.probe<=10000)/\
  (∀b∈x.bf,BkI (a.p.ag++sp) b)/\(x.bf.map (·.name)).Nodup/\(x.bf.length:Int)=cnt M cP/\cnt M cP<=16
theorem UF(g:ru l){a:St}(h:(ew s l a).2=true):
  ∃k sp x y,(ew s l a).1={a with p:={a.p with k:=k,ag:=a.p.ag++sp,bB:=a.p.bB++[x]},sv:=Y8,bk:=y}/\SvI (a.p.ag++sp) x/\x.name∉a.p.bB.map (·.name):=by
 unfold ew at h ⊢
 rcases Fy (s:=s) g (xs:=a.p.bB.map (·.name)) (p:=a.p)with⟨p',w,e⟩ | ⟨nm,e,hp,It,hn⟩
 ·rw[e]at h;cases h
 rw[e]at h ⊢
 change (bL s l (bR s l) {aA a {a.p with k:=a.p.k+1}with sv:=iq nm}).2=true at h
 obtain⟨M',hl,⟨k,sp,x,y,e1,hb,h1,h2,h3,h4,h5,h6,h7,h8,h9,h10,h11,h12⟩⟩:=Gc (I:=ScI a nm) (L:=bR s l) (s:=s) (l:=l) (λM u v huv ⟨k,sp,x,y,e,hr⟩=>by
   obtain⟨m,rfl⟩:=huv
   exact⟨m,sp,x,y,by rw[e];rfl,hr⟩) (λw key M st hk hc ⟨k,sp,x,y,e,hb,h1,h2,h3,h4,h5,h6,h7,h8,h9,h10,h11,h12⟩ hs=>by
   simp only[bR,ou]at hk
   rw[aQ]at hk
   split at hk
   ·next hw=>
    obtain rfl:w=nj:=hw
    obtain rfl:=oh hk
    obtain⟨m,v,hv,j,e2⟩:=CI hs
    have hv:v=6∨v=17:=by simpa[zU]using hv
    refine⟨j,sp,{x with proto:=v},y,?_,hb,λ_=>hv,λh=>h2 ?_,λh=>h3 ?_,λh=>h4 ?_,h5,h6,h7,h8,h9,h10,?_,?_⟩
    ·rw[e2,e];rfl
    ·rwa [aB,if_neg (by decide)]at h
    ·rwa [aB,if_neg (by decide)]at h
    ·rwa [aB,if_neg (by decide)]at h
    ·rw[aB,if_neg (by decide)];exact h11
    ·rw[aB,if_neg (by decide)];exact h12
   rw[aQ]at hk
   split at hk
   ·next hw=>
    obtain rfl:w=jt:=hw
    obtain rfl:=oh hk
    obtain⟨m,z,at',hz,j,e2⟩:=AB hs
    refine⟨j,sp++[(z,at',true)],{x with D1:=z},y,?_,hb,λh=>h1 ?_,λ_=>?_,λh=>h3 ?_,λh=>h4 ?_,h5,h6,h7,h8,λz hz=>?_,h10,?_,?_⟩
    ·rw[e2,e,<-List.append_assoc];rfl
    ·rwa [aB,if_neg (by decide)]at h
    ·rw[<-List.append_assoc];exact .new hz
    ·rwa [aB,if_neg (by decide)]at h
    ·rwa [aB,if_neg (by decide)]at h
    ·rw[<-List.append_assoc];exact(h9 z hz).app _
    ·rw[aB,if_neg (by decide)];exact h11
    ·rw[aB,if_neg (by decide)];exact h12
   rw[aQ]at hk
   split at hk
   ·next hw=>
    obtain rfl:w=fK:=hw
    obtain rfl:=oh hk
    obtain⟨m,v,v0,v1,j,e2⟩:=oV hs
    refine⟨j,sp,{x with port:=v},y,?_,hb,λh=>h1 ?_,λh=>h2 ?_,λ_=>⟨v0,v1⟩,λh=>h4 ?_,h5,h6,h7,h8,h9,h10,?_,?_⟩
    ·rw[e2,e];rfl
    ·rwa [aB,if_neg (by decide)]at h
    ·rwa [aB,if_neg (by decide)]at h
    ·rwa [aB,if_neg (by decide)]at h
    ·rw[aB,if_neg (by decide)];exact h11
    ·rw[aB,if_neg (by decide)];exact h12
   rw[aQ]at hk
   split at hk
   ·next hw=>
    obtain rfl:w=th:=hw
    obtain rfl:=oh hk
    obtain⟨m,v,hv,j,e2⟩:=CI hs
    have hv:v=1∨v=2∨v=3:=by simpa[Fx]using hv
    refine⟨j,sp,{x with mode:=v},y,?_,hb,λh=>h1 ?_,λh=>h2 ?_,λh=>h3 ?_,λ_=>hv,h5,h6,h7,h8,h9,h10,?_,?_⟩
    ·rw[e2,e];rfl
    ·rwa [aB,if_neg (by decide)]at h
    ·rwa [aB,if_neg (by decide)]at h
    ·rwa [aB,if_neg (by decide)]at h
    ·rw[aB,if_neg (by decide)];exact h11
    ·rw[aB,if_neg (by decide)];exact h12
   rw[aQ]at hk
   split at hk
   ·next hw=>
    obtain rfl:w=qw:=hw
    obtain rfl:=oh hk
    obtain⟨m,v,hv,j,e2⟩:=CI hs
    have hv:v=1∨v=2:=by simpa[zT]using hv
    refine⟨j,sp,{x with sched:=v},y,?_,hb,λh=>h1 ?_,λh=>h2 ?_,λh=>h3 ?_,λh=>h4 ?_,hv,h6,h7,h8,h9,h10,?_,?_⟩
    ·rw[e2,e];rfl
    ·rwa [aB,if_neg (by decide)]at h
    ·rwa [aB,if_neg (by decide)]at h
    ·rwa [aB,if_neg (by decide)]at h
    ·rwa [aB,if_neg (by decide)]at h
    ·rw[aB,if_neg (by decide)];exact h11
    ·rw[aB,if_neg (by decide)];exact h12
   rw[aQ]at hk
   split at hk
   ·next hw=>
    obtain rfl:w=vT:=hw
    obtain rfl:=oh hk
    obtain⟨m,v,v0,v1,j,e2⟩:=oV hs
    refine⟨j,sp,{x with ju:=v},y,?_,hb,λh=>h1 ?_,λh=>h2 ?_,λh=>h3 ?_,λh=>h4 ?_,h5,⟨v0,v1⟩,h7,h8,h9,h10,?_,?_⟩
    ·rw[e2,e];rfl
    ·rwa [aB,if_neg (by decide)]at h
    ·rwa [aB,if_neg (by decide)]at h
    ·rwa [aB,if_neg (by decide)]at h
    ·rwa [aB,if_neg (by decide)]at h
    ·rw[aB,if_neg (by decide)];exact h11
    ·rw[aB,if_neg (by decide)];exact h12
   rw[aQ]at hk
   split at hk
   ·next hw=>
    obtain rfl:w=vS:=hw
    obtain rfl:=oh hk
    obtain⟨m,v,v0,v1,j,e2⟩:=oV hs
    refine⟨j,sp,{x with jr:=v},y,?_,hb,λh=>h1 ?_,λh=>h2 ?_,λh=>h3 ?_,λh=>h4 ?_,h5,h6,⟨v0,v1⟩,h8,h9,h10,?_,?_⟩
    ·rw[e2,e];rfl
    ·rwa [aB,if_neg (by decide)]at h
    ·rwa [aB,if_neg (by decide)]at h
    ·rwa [aB,if_neg (by decide)]at h
    ·rwa [aB,if_neg (by decide)]at h
    ·rw[aB,if_neg (by decide)];exact h11
    ·rw[aB,if_neg (by decide)];exact h12
   rw[aQ]at hk
   split at hk
   ·next hw=>
    obtain rfl:w=qv:=hw
    obtain rfl:=oh hk
    obtain⟨m,v,v0,v1,j,e2⟩:=oV hs
    refine⟨j,sp,{x with probe:=v},y,?_,hb,λh=>h1 ?_,λh=>h2 ?_,λh=>h3 ?_,λh=>h4 ?_,h5,h6,h7,⟨v0,v1⟩,h9,h10,?_,?_⟩
    ·rw[e2,e];rfl
    ·rwa [aB,if_neg (by decide)]at h
    ·rwa [aB,if_neg (by decide)]at h
    ·rwa [aB,if_neg (by decide)]at h
    ·rwa [aB,if_neg (by decide)]at h
    ·rw[aB,if_neg (by decide)];exact h11
    ·rw[aB,if_neg (by decide)];exact h12
   rw[aQ]at hk
   split at hk
   ·next hw=>
    obtain rfl:w=cP:=hw
    obtain rfl:=oh hk
    have hc:cnt M cP<16:=hc
    obtain⟨m,Vf,b,e2,JT,JU⟩:=SY g hs
    have JU:b.name∉x.bf.map (·.name):=by rw[e]at JU;exact JU
    have JT:BkI (a.p.ag++sp++Vf) b:=by rw[e]at JT;exact JT
    refine⟨m,sp++Vf,{x with bf:=x.bf++[b]},b,?_,hb,λh=>h1 ?_,λh=>?_,λh=>h3 ?_,λh=>h4 ?_,h5,h6,h7,h8,λz hz=>?_,?_,?_,?_⟩
    ·rw[e2,e,<-List.append_assoc]
    ·rwa [aB,if_neg (by decide)]at h
    ·rw[aB,if_neg (by decide)]at h;rw[<-List.append_assoc];exact(h2 h).app _
    ·rwa [aB,if_neg (by decide)]at h
    ·rwa [aB,if_neg (by decide)]at h
    ·rw[<-List.append_assoc]
     rcases List.mem_append.1 hz with hz | hz
     ·exact(h9 z hz).app _
     ·obtain rfl:=List.mem_singleton.1 hz;exact JT
    ·show((x.bf++[b]).map (·.name)).Nodup
     rw[List.map_append];exact Du h10 JU
    ·show((x.bf++[b]).length:Int)=_
     rw[aB,if_pos rfl,hU,Lf];push_cast;omega
    ·rw[aB,if_pos rfl];omega
   cases hk) (st:={aA a {a.p with k:=a.p.k+1}with sv:=iq nm}) ⟨a.p.k+1,[],iq nm,a.bk,by simp[aA],rfl,λh=>absurd (kH _) h,λh=>absurd (kH _) h,λh=>absurd (kH _) h,λh=>absurd (kH _) h,.inl rfl,⟨by simp[iq],by simp[iq]⟩,⟨by simp[iq],by simp[iq]⟩,⟨by simp[iq],by simp[iq]⟩,λb hb=>(by cases hb),.nil,rfl,by rw[kH];decide⟩ h
 have hl:(true&&decide (cnt M' nj=0)||(true&&decide (cnt M' jt=0)||(true&&decide (cnt M' fK=0)||(true&&decide (cnt M' th=0)||(false&&decide (cnt M' qw=0)||(false&&decide (cnt M' vT=0)||(false&&decide (cnt M' vS=0)||(false&&decide (cnt M' qv=0)||(true&&decide (cnt M' cP=0)||false)))))))))=false:=hl
 simp only[Bool.true_and,Bool.false_and,Bool.or_false,Bool.false_or,Bool.or_eq_false_iff,decide_eq_false_iff_not]at hl
 refine⟨k,sp,x,y,?_,⟨by rw[hb];exact hp,by rw[hb];exact It,h2 hl.2.1,h1 hl.1,h3 hl.2.2.1,h4 hl.2.2.2.1,h5,h6,h7,h8,h9,h10,⟨by have:=hl.2.2.2.2;omega,by omega⟩⟩,by rw[hb];exact hn⟩
 show(FK (bL s l (bR s l) {aA a {a.p with k:=a.p.k+1}with sv:=iq nm})).1=_
 unfold FK
 simp only
 rw[e1]
structure AlI(M:List (Bs×Int))(st:St):Prop where
 node:cnt M gz≠0->xJ st.p.bH/\wU st.p.ag st.p.addr/\wU st.p.ag st.p.peer
 aiw:cnt M fq≠0->(1<=st.p.id/\st.p.id<=255)/\(1<=st.p.prio/\st.p.prio<=255)/\(1<=st.p.every/\st.p.every<=4095)/\1<=st.p.au.length
 none:cnt M fq=0->st.p.au=[]/\st.p.bh=[]
 au:∀v∈st.p.au,wU st.p.ag v
 vnd:st.p.au.Nodup
 vn:st.p.au.length<=8
 bh:∀x∈st.p.bh,TrC x
 tnd:(st.p.bh.map (·.1)).Nodup
 tn:st.p.bh.length<=8
 bB:∀x∈st.p.bB,SvI st.p.ag x
 snd:(st.p.bB.map (·.name)).Nodup
 sn:(st.p.bB.length:Int)=cnt M bF
 s4:cnt M bF<=4
 nn:0<=cnt M fq
theorem AlI.sm{M:List (Bs×Int)}{a b:St}(h:Sm a b)(i:AlI M a):AlI M b:=by
 obtain⟨k,rfl⟩:=h
 exact⟨i.node,i.aiw,i.none,i.au,i.vnd,i.vn,i.bh,i.tnd,i.tn,i.bB,i.snd,i.sn,i.s4,i.nn⟩
theorem ab3(g:ru l){w:Bs}{key:Key}{M:List (Bs×Int)}{st:St}(hk:lk (uU s l) w=some key)(hc:cnt M w<key.most)(i:AlI M st)(hs:(key.sem st).2=true):AlI (pt M w (cnt M w+1)) (key.sem st).1:=by
 simp only[uU,ou]at hk
 rw[aQ]at hk
 split at hk
 ·next hw=>
  obtain rfl:w=gz:=hw
  obtain rfl:=oh hk
  obtain⟨k,c,ad,pe,sp,e,h1,h2,h3⟩:=ad3 hs
  rw[show(⟨1,true,0,[],[],vv s l⟩:Key).sem st=vv s l st from rfl,e]
  have cv:cnt (pt M gz (cnt M gz+1)) fq=cnt M fq:=by rw[aB,if_neg (by decide)]
  have cs:cnt (pt M gz (cnt M gz+1)) bF=cnt M bF:=by rw[aB,if_neg (by decide)]
  exact⟨λ_=>⟨h1,h2,h3⟩,by rw[cv];exact i.aiw,by rw[cv];exact i.none,λv hv=>(i.au v hv).app _,i.vnd,i.vn,i.bh,i.tnd,i.tn,λx hx=>(i.bB x hx).app _,i.snd,by rw[cs];exact i.sn,by rw[cs];exact i.s4,by rw[cv];exact i.nn⟩
 rw[aQ]at hk
 split at hk
 ·next hw=>
  obtain rfl:w=fq:=hw
  obtain rfl:=oh hk
  have hc:cnt M fq<1:=hc
  have h0:=i.none (by have:=i.nn;omega)
  obtain⟨k,i',pr,ev,pre,vs,ts,sp,y,e,h1,h2,h3,h4,h5,h6,h7,h8,h9⟩:=afb g h0.1 h0.2 hs
  rw[show(⟨1,true,0,[],[],oE s l⟩:Key).sem st=oE s l st from rfl,e]
  have cn:cnt (pt M fq (cnt M fq+1)) gz=cnt M gz:=by rw[aB,if_neg (by decide)]
  have cs:cnt (pt M fq (cnt M fq+1)) bF=cnt M bF:=by rw[aB,if_neg (by decide)]
  have cv:cnt (pt M fq (cnt M fq+1)) fq=cnt M fq+1:=by rw[aB,if_pos rfl]
  exact⟨λh=>(by rw[cn]at h;obtain⟨q1,q2,q3⟩:=i.node h;exact⟨q1,q2.app _,q3.app _⟩),λ_=>⟨h1,h2,h3,h4.1⟩,λh=>(by have:=i.nn;omega),h6,h5,h4.2,h9,h8,h7,λx hx=>(i.bB x hx).app _,i.snd,by rw[cs];exact i.sn,by rw[cs];exact i.s4,by have:=i.nn;omega⟩
 rw[aQ]at hk
 split at hk
 ·next hw=>
  obtain rfl:w=bF:=hw
  obtain rfl:=oh hk
  have hc:cnt M bF<4:=hc
  obtain⟨k,sp,x,y,e,h1,h2⟩:=UF g hs
  rw[show(⟨4,false,0,[],[],ew s l⟩:Key).sem st=ew s l st from rfl,e]
  have cn:cnt (pt M bF (cnt M bF+1)) gz=cnt M gz:=by rw[aB,if_neg (by decide)]
  have cv:cnt (pt M bF (cnt M bF+1)) fq=cnt M fq:=by rw[aB,if_neg (by decide)]
  have cs:cnt (pt M bF (cnt M bF+1)) bF=cnt M bF+1:=by rw[aB,if_pos rfl]
  exact⟨λh=>(by rw[cn]at h;obtain⟨q1,q2,q3⟩:=i.node h;exact⟨q1,q2.app _,q3.app _⟩),by rw[cv];exact i.aiw,by rw[cv];exact i.none,λv hv=>(i.au v hv).app _,i.vnd,i.vn,i.bh,i.tnd,i.tn,λz hz=>(by
   rcases List.mem_append.1 hz with hz | hz
   ·exact(i.bB z hz).app _
   ·obtain rfl:=List.mem_singleton.1 hz;exact h1),(by
   show((st.p.bB++[x]).map (·.name)).Nodup
   rw[List.map_append];exact Du i.snd h2),(by
   show((st.p.bB++[x]).length:Int)=_
   rw[cs,hU,Lf];have:=i.sn;push_cast;omega),by omega,by rw[cv];exact i.nn⟩
 cases hk
theorem XZ(g:ru l):∀(F:Nat) (M:List (Bs×Int)) (st:St),AlI M st->(oG s l (uU s l) F M st).2=true->∃M',cnt M' gz≠0/\cnt M' fq≠0/\AlI M' (oG s l (uU s l) F M st).1/\(oG s l (uU s l) F M st).1.p.ag.find? (qJ (oG s l (uU s l) F M st).1.p)=none/\(oG s l (uU s l) F M st).1.p.ag.find? (vU (oG s l (uU s l) F M st).1.p)=none
 | 0,M,st,_,h=>by cases h
 | F+1,M,st,i,h=>by
  unfold oG at h ⊢
  split
  ·next hk=>
   rw[if_pos hk]at h
   cases hl:lk (uU s l) (aa l st.p.k)with
   | none=>rw[hl]at h;cases h
   | some key=>
    rw[hl]at h
    simp only at h ⊢
    split
    ·next hc=>rw[if_pos hc]at h;cases h
    ·next hc=>
     rw[if_neg hc]at h
     split
     ·next hs=>
      rw[if_pos hs]at h
      exact XZ g F _ _ (ab3 g hl (by omega) (i.sm (Sm.k st (st.p.k+1))) hs) h
     ·next hs=>rw[if_neg hs]at h;cases h
  ·next hk=>
   rw[if_neg hk]at h
   unfold Tz at h ⊢
   split
   ·next hc=>rw[if_pos hc]at h;cases h
   ·next hc=>
    rw[if_neg hc]at h
    unfold Bw at h ⊢
    cases ho:st.p.ag.find? (qJ st.p)with
    | some x=>rw[ho]at h;cases h
    | none=>
     rw[ho]at h
     simp only at h ⊢
     unfold Hy at h ⊢
     cases hv:st.p.ag.find? (vU st.p)with
     | some x=>rw[hv]at h;cases h
     | none=>
      exact⟨M,λh=>hc (.inl h),λh=>hc (.inr h),i,ho,hv⟩
theorem acE(hw:HE s=.inl l)(h:(yy s l GQ).2=true):Lx (yy s l GQ).1.p:=by
 have g:=Zs hw
 obtain⟨M,h1,h2,i,ho,hv⟩:=XZ g _ _ _ (⟨λh=>absurd (kH _) h,λh=>absurd (kH _) h,λ_=>⟨rfl,rfl⟩,λv hv=>(by cases hv),.nil,uQ _,λv hv=>(by cases hv),.nil,uQ _,λv hv=>(by cases hv),.nil,rfl,(by rw[kH];decide),(by rw[kH];decide)⟩:AlI [] GQ) h
 rw[show oG s l (uU s l) (l.length+1) [] GQ=yy s l GQ from rfl]at i ho hv
 generalize (yy s l GQ).1=st at i ho hv ⊢
 have hsz:∀{a:Bs},wU st.p.ag a->a.size=st.p.addr.size:=λ⟨_,x,v,hm⟩=>by
  have:=List.find?_eq_none.1 ho _ hm
  simpa[qJ]using this
 have hvp:∀{a:Bs},KR st.p.ag a->a∈st.p.au:=λ⟨_,x,hm⟩=>by
  have:=List.find?_eq_none.1 hv _ hm
  simpa[vU,vq]using this
 obtain⟨n1,n2,n3⟩:=i.node h1
 obtain⟨v1,v2,v3,v4⟩:=i.aiw h2
 refine⟨n2.1,n1,hsz n3,v1,v2,v3,λa ha=>hsz (i.au a ha),i.vnd,⟨v4,i.vn⟩,i.bh,i.tnd,i.tn,λx hx=>?_,i.snd,by have:=i.sn;have:=i.s4;omega⟩
 have q:=i.bB x hx
 exact⟨q.name,q.n40,hvp q.D1,q.proto,q.port,q.mode,q.sched,q.ju,q.jr,q.probe,λb hb=>(by have r:=q.bf b hb;exact⟨r.name,r.n40,hsz r.addr,r.bH,r.port,r.weight⟩),q.nd,q.n⟩
end
def W5(w:Bs):Bool:=decide (1<=w.size)&&decide (w.size<=60)&&(bs w).all aX
theorem aaL{w:Bs}(h:W5 w=true):qd w:=by
 simp only[W5,Bool.and_eq_true,decide_eq_true_eq]at h
 exact⟨h.1.1,h.1.2,List.all_eq_true.1 h.2⟩
theorem Gs:qE gJ:=.inr (.inl rfl)
theorem Gt:qE bI:=.inr (.inr rfl)
theorem pI.cons{a:List Bs}{b:List (List Bs)}(h0:a≠[])(h1:∀w∈a,qE w)(h2:pI b):pI (a::b):=λws hw=>by
 rcases List.mem_cons.1 hw with rfl | hw
 ·exact⟨h0,h1⟩
 ·exact h2 ws hw
theorem pI.app{a b:List (List Bs)}(h1:pI a)(h2:pI b):pI (a++b):=λws hw=>(List.mem_append.1 hw).elim (h1 ws) (h2 ws)
theorem pI.nil:pI []:=λws hw=>by cases hw
theorem g1{a:Bs}(h:qE a):∀w∈[a],qE w:=by simpa using h
theorem g2{a b:Bs}(h1:qE a)(h2:qE b):∀w∈[a,b],qE w:=by simp[h1,h2]
theorem g3{a b c:Bs}(h1:qE a)(h2:qE b)(h3:qE c):∀w∈[a,b,c],qE w:=by simp[h1,h2,h3]
theorem gk{w:Bs}(h:W5 w=true):qE w:=.inl (aaL h)
theorem gi{v:Int}(h0 : -65535<=v)(h1:v<=65535):qE (bX v):=.inl (kE h0 h1)
theorem ack{A:Nat}(hA:A=4∨A=16){x:Bk}(c:BkC A x):pI (D6 x)/\(D6 x).length<=6:=by
 unfold D6
 refine⟨((pI.cons (by simp) (g3 (gk (by decide)) (.inl c.name) Gs) (.cons (by simp) (g2 (gk (by decide)) (.inl (zP (by rw[c.addr];exact hA)))) (.cons (by simp) (g2 (gk (by decide)) (.inl (Kx c.bH))) .nil))).app ?_).app (.cons (by simp) (g2 (gk (by decide)) (gi (by have:=c.weight;omega) (by have:=c.weight;omega))) (.cons (by simp) (g1 Gt) .nil)),?_⟩
 ·split
  ·exact .nil
  ·exact .cons (by simp) (g2 (gk (by decide)) (gi (by have:=c.port;omega) (by have:=c.port;omega))) .nil
 ·split<;>simp
theorem Te{A:Nat}(hA:A=4∨A=16):∀{l:List Bk},(∀x∈l,BkC A x)->pI (l.flatMap D6)/\(l.flatMap D6).length<=6*l.length
 | [],_=>⟨.nil,by simp⟩
 | x::l,h=>by
  obtain⟨h1,h2⟩:=ack hA (h x (by simp))
  obtain⟨h3,h4⟩:=Te hA (l:=l) λy hy=>h y (by simp[hy])
  exact⟨h1.app h3,by simp only[List.flatMap_cons,hU,List.length_cons];omega⟩
theorem ae2{A:Nat}(hA:A=4∨A=16){V:List Bs}(hV:∀a∈V,a.size=A){x:Sv}(c:SvC A V x):pI (UP x)/\(UP x).length<=106:=by
 obtain⟨h1,h2⟩:=Te hA c.bf
 have hmo:qE (qY [HU,Ws,zF] x.mode):=by rcases c.mode with h | h | h<;>rw[h]<;>exact gk (by decide)
 have hsc:qE (qY [oR,oS] x.sched):=by rcases c.sched with h | h<;>rw[h]<;>exact gk (by decide)
 have hpr:qE (if x.proto=6 then HV else HW):=by split<;>exact gk (by decide)
 have:=c.n;have:=c.port;have:=c.ju;have:=c.jr;have:=c.probe
 unfold UP svH
 refine⟨.cons (by simp) (g3 (gk (by decide)) (.inl c.name) Gs) (.cons (by simp) (g2 (gk (by decide)) hpr) (.app ?_ (h1.app (.cons (by simp) (g1 Gt) .nil)))),?_⟩
 ·exact .cons (by simp) (g2 (gk (by decide)) (.inl (zP (by rw[hV _ c.D1];exact hA)))) (.cons (by simp) (g2 (gk (by decide)) (gi (by omega) (by omega))) (.cons (by simp) (g2 (gk (by decide)) hmo) (.cons (by simp) (g2 (gk (by decide)) hsc)
   (.cons (by simp) (g2 (gk (by decide)) (gi (by omega) (by omega))) (.cons (by simp) (g2 (gk (by decide)) (gi (by omega) (by omega))) (.cons (by simp) (g2 (gk (by decide)) (gi (by omega) (by omega))) .nil))))))
 ·simp only[List.length_cons,hU,List.length_nil];omega
theorem Qt{A:Nat}(hA:A=4∨A=16){V:List Bs}(hV:∀a∈V,a.size=A):∀{l:List Sv},(∀x∈l,SvC A V x)->pI (kG l)/\(kG l).length<=106*l.length
 | [],_=>⟨.nil,by simp[kG]⟩
 | x::l,h=>by
  obtain⟨h1,h2⟩:=ae2 hA hV (h x (by simp))
  obtain⟨h3,h4⟩:=Qt hA hV (l:=l) λy hy=>h y (by simp[hy])
  have e2:kG (x::l)=UP x++kG l:=rfl
  rw[e2]
  exact⟨h1.app h3,by simp only[hU,List.length_cons];omega⟩
def Zb(p:Ps):List (List Bs):=[fL,if p.pre=true then Dk else Rq]::(jN p.au++(ud p.bh++([bI]::kG p.bB)))
theorem Qv{p:Ps}(c:Lx p):pI (Zb p)/\(Zb p).length<=450:=by
 obtain⟨h1,h2⟩:=Qt c.addr c.au c.bB
 unfold Zb
 refine⟨.cons (by simp) (g2 (gk (by decide)) (by split<;>exact gk (by decide))) (.app ?_ (.app ?_ (.cons (by simp) (g1 Gt) h1))),?_⟩
 ·intro ws hw
  obtain⟨a,ha,rfl⟩:=List.mem_map.1 hw
  exact⟨by simp,g2 (gk (by decide)) (.inl (zP (by rw[c.au a ha];exact c.addr)))⟩
 ·intro ws hw
  obtain⟨x,hx,rfl⟩:=List.mem_map.1 hw
  have t:=c.bh x hx
  exact⟨by simp,g3 (gk (by decide)) (.inl t.name) (gi (by have:=t.lo;omega) (by have:=t.hi;omega))⟩
 ·have:=c.vn;have:=c.tn;have:=c.sn
  simp only[List.length_cons,hU,jN,ud,List.length_map];omega
theorem aab{p:Ps}(c:Lx p):pI (K9 p):=by
 have:=c.id;have:=c.prio;have:=c.every
 unfold K9
 exact .cons (by simp) (g2 (gk (by decide)) Gs) (.cons (by simp) (g2 (gk (by decide)) (.inl (Kx c.bH))) (.cons (by simp) (g2 (gk (by decide)) (.inl (zP c.addr))) (.cons (by simp) (g2 (gk (by decide)) (.inl (zP (by rw[c.peer];exact c.addr)))) (.cons (by simp) (g1 Gt) (.cons (by simp) (g2 (gk (by decide)) Gs)
  (.cons (by simp) (g2 (gk (by decide)) (gi (by omega) (by omega))) (.cons (by simp) (g2 (gk (by decide)) (gi (by omega) (by omega))) (.cons (by simp) (g2 (gk (by decide)) (gi (by omega) (by omega))) .nil))))))))
theorem W7(p:Ps):jY p=K9 p++Zb p:=rfl
theorem Og{p:Ps}(c:Lx p):pI (jY p):=(aab c).app (Qv c).1
theorem Uo{p:Ps}(c:Lx p):(jY p).length<=460:=by
 rw[W7,hU]
 have:=(Qv c).2
 show 9+_<=_
 omega
theorem NJ:∀{ls:List (List Bs)},pI ls->(∀ws∈ls,ws.length<=3)->(pY ls).length<=190*ls.length/\(toks ls).length<=4*ls.length
 | [],_,_=>⟨by simp[pY],by simp[toks]⟩
 | ws::ls,g,h=>by
  obtain⟨h1,h2⟩:=NJ (ls:=ls) (λx hx=>g x (by simp[hx])) λx hx=>h x (by simp[hx])
  have hw:=h ws (by simp)
  have hs:∀w∈ws,w.size<=60:=λw hw=>by
   rcases (g ws (by simp)).2 w hw with e | rfl | rfl
   ·exact e.short
   ·decide
   ·decide
  have a1:(Lib.join (ws.map λx:ByteArray=>x.data.toList) [32]).length<=(ws.map λx:ByteArray=>x.data.toList).flatten.length+ws.length:=by
   have:=join_le 32 (ws.map λx:ByteArray=>x.data.toList)
   rwa [List.length_map]at this
  have a2:(ws.map λx:ByteArray=>x.data.toList).flatten.length<=60*ws.length:=Df hs
  have a3:(dO ws).length=(Lib.join (ws.map λx:ByteArray=>x.data.toList) [32]).length+1:=by
   show(bs (gI ws sp)++[10]).length=_
   rw[hU,aP]
   rfl
  have a4:60*ws.length<=60*3:=Nat.mul_le_mul_left _ hw
  rw[Ol,hU,oe,hU,hU,List.length_cons]
  exact⟨by omega,by simp only[Lf];omega⟩
theorem V9{ls:List (List Bs)}(g:pI ls)(h3:∀ws∈ls,ws.length<=3)(hn:ls.length<=1000):∀l,HE (mk (pY ls))=.inl l->Words l/\l.length<=300000:=by
 intro l e
 rw[SW g]at e
 obtain rfl:=Sum.inl.inj e
 have hl:(xX 1 0 ls).map (·.1)=toks ls:=HY ls 1 0 g
 refine⟨λw hw=>?_,?_⟩
 ·have:w.1∈toks ls:=by rw[<-hl];exact List.mem_map_of_mem hw
  obtain⟨ws,h1,h2⟩:=List.mem_flatMap.1 this
  rcases List.mem_append.1 h2 with h2 | h2
  ·rcases (g ws h1).2 _ h2 with e | e | e
   ·have:=e.short;omega
   ·rw[e];decide
   ·rw[e];decide
  ·rw[List.mem_singleton.1 h2];decide
 ·have:=congrArg List.length hl
  rw[List.length_map]at this
  have:=(NJ g h3).2
  omega
def Few(ls:List (List Bs)):Prop:=∀ws∈ls,ws.length<=3
theorem ZZ{st:St}(g:GG 0 st):Few (jY st.p):=λws hw=>(Qh g ws hw).1
theorem ae6{ls:List (List Bs)}(g:pI ls):Tk (xX 1 0 ls) 0 (toks ls):=by
 unfold Tk
 rw[List.drop_zero]
 exact HY ls 1 0 g
theorem aaK{ls:List (List Bs)}(g:pI ls):fl (mk (pY ls))=if(yy (mk (pY ls)) (xX 1 0 ls) GQ).2=true then .inl (yy (mk (pY ls)) (xX 1 0 ls) GQ).1.p else .inr ((yy (mk (pY ls)) (xX 1 0 ls) GQ).1.p.bad,(yy (mk (pY ls)) (xX 1 0 ls) GQ).1.p.code):=by
 unfold fl
 rw[SW g]
theorem Vy{p:Ps}(c:Lx p):∃k sp,fl (mk (pY (jY p)))=.inl {p with k:=k,ag:=sp,bad:=0,code:=0}:=by
 have hg:=Og c
 rw[aaK hg]
 obtain⟨k,sp,h1,h2⟩:=aa1 (s:=mk (pY (jY p))) c (ae6 hg)
 rw[h1,if_pos rfl,h2]
 exact⟨k,sp,rfl⟩
theorem nJ(p:Ps)(a:Int){c:Int}(hc:c≠0):(bE p a c).code≠0:=by
 unfold bE
 split
 ·exact hc
 ·next h=>exact h
theorem zx(p:Ps)(a c:Int):(bE p a c).k=p.k:=(kJ p a c).1
def Fz(l:List Wd)(f:St->St×Bool):Prop:=∀st,st.p.k<=l.length->(f st).1.p.k<=l.length/\st.p.k<=(f st).1.p.k/\((f st).2=false->(f st).1.p.code≠0)
section
variable (s:Bs)(l:List Wd)
theorem Rb{w:Bs}(hw:w≠⟨#[]⟩)(p:Ps)(hk:p.k<=l.length):(dS s l w p).1.k<=l.length/\p.k<=(dS s l w p).1.k/\((dS s l w p).2=false->(dS s l w p).1.code≠0):=by
 unfold dS
 split
 ·next h=>exact⟨kD (by rw[h];exact hw),dW _,λh=>by cases h⟩
 ·exact⟨by rw[zx];exact hk,by rw[zx];exact cF _,λ_=>nJ _ _ (by decide)⟩
theorem B3(p:Ps)(hk:p.k<=l.length):(aS s l p).1.k<=l.length/\p.k<=(aS s l p).1.k/\((aS s l p).2.2.2=false->(aS s l p).1.code≠0):=by
 unfold aS
 split
 ·exact⟨by rw[zx];exact hk,by rw[zx];exact cF _,λ_=>nJ _ _ (by decide)⟩
 ·next h=>exact⟨kD (UK (by simpa using h)),dW _,λh=>by cases h⟩
theorem akV:Fz l (k8 s l):=λst hk=>Rb s l (by decide) st.p hk
theorem PR{a:Nat}{st:St}(ha:a<=st.p.k)(hk:st.p.k<=l.length):(k8 s l st).1.p.k<=l.length/\a<=(k8 s l st).1.p.k/\((k8 s l st).2=false->(k8 s l st).1.p.code≠0):=by
 obtain⟨h1,h2,h3⟩:=akV s l st hk
 exact⟨h1,by omega,h3⟩
theorem Fk{a:Nat}{st:St}{p:Ps}(ha:a<=p.k)(hk:p.k<=l.length)(at':Int){c:Int}(hc:c≠0):((aA st (bE p at' c),false):St×Bool).1.p.k<=l.length/\a<=((aA st (bE p at' c),false):St×Bool).1.p.k/\(((aA st (bE p at' c),false):St×Bool).2=false->((aA st (bE p at' c),false):St×Bool).1.p.code≠0):=
 ⟨by show(bE p at' c).k<=_;rw[zx];exact hk,by show a<=(bE p at' c).k;rw[zx];exact ha,λ_=>nJ p at' hc⟩
theorem sq{put:St->Int->St}(hp:∀st v,(put st v).p.k=st.p.k)(lo hi:Int):Fz l (bC s l put lo hi):=λst hk=>by
 have hv:=B3 s l st.p hk
 unfold bC
 generalize aS s l st.p=v at hv
 obtain⟨p,w,a,is⟩:=v
 obtain⟨h1,h2,h3⟩:=hv
 cases is with
 | false=>exact⟨h1,h2,λ_=>h3 rfl⟩
 | true=>
  unfold yL
  simp only
  split
  ·exact PR s l (st:=put (aA st p) _) (by rw[hp];exact h2) (by rw[hp];exact h1)
  ·exact Fk l h2 h1 a (by decide)
theorem Gq{put:St->Int->St}(hp:∀st v,(put st v).p.k=st.p.k)(L:List (Bs×Int)):Fz l (cM s l put L):=λst hk=>by
 have hv:=B3 s l st.p hk
 unfold cM
 generalize aS s l st.p=v at hv
 obtain⟨p,w,a,is⟩:=v
 obtain⟨h1,h2,h3⟩:=hv
 cases is with
 | false=>exact⟨h1,h2,λ_=>h3 rfl⟩
 | true=>
  unfold wP
  simp only
  split
  ·exact PR s l (st:=put (aA st p) _) (by rw[hp];exact h2) (by rw[hp];exact h1)
  ·exact Fk l h2 h1 a (by decide)
theorem Yk{put:St->Cd->St}(hp:∀st v,(put st v).p.k=st.p.k):Fz l (nF s l put):=λst hk=>by
 have hv:=B3 s l st.p hk
 unfold nF
 generalize aS s l st.p=v at hv
 obtain⟨p,w,a,is⟩:=v
 obtain⟨h1,h2,h3⟩:=hv
 cases is with
 | false=>exact⟨h1,h2,λ_=>h3 rfl⟩
 | true=>
  unfold ID
  simp only
  split
  ·exact PR s l (st:=put (aA st p) _) (by rw[hp];exact h2) (by rw[hp];exact h1)
  ·exact Fk l h2 h1 a (by decide)
theorem zy{xE:Bool}{tk:St->Bs->Int->St×Bool}(ht:∀st a at',(tk st a at').1.p.k=st.p.k/\((tk st a at').2=false->(tk st a at').1.p.code≠0)):Fz l (bt s l xE tk):=λst hk=>by
 have hv:=B3 s l st.p hk
 unfold bt
 generalize aS s l st.p=v at hv
 obtain⟨p,w,a,is⟩:=v
 obtain⟨h1,h2,h3⟩:=hv
 cases is with
 | false=>exact⟨h1,h2,λ_=>h3 rfl⟩
 | true=>
  unfold pJ
  simp only
  split
  ·obtain⟨t1,t2⟩:=ht (aA st {p with ag:=p.ag++[((eL w).1,a,xE)]}) (eL w).1 a
   unfold pE
   split
   ·exact PR s l (by rw[t1];exact h2) (by rw[t1];exact h1)
   ·next hf=>exact⟨by show(tk _ _ _).1.p.k<=_;rw[t1];exact h1,by show _<=(tk _ _ _).1.p.k;rw[t1];exact h2,λ_=>t2 (by simpa using hf)⟩
  ·exact Fk l h2 h1 a (by decide)
theorem Md{put:St->Bs->St}(hp:∀st v,(put st v).p.k=st.p.k):∀st a at',(j8 put st a at').1.p.k=st.p.k/\((j8 put st a at').2=false->(j8 put st a at').1.p.code≠0):=λst a _=>⟨hp st a,λh=>by cases h⟩
theorem akW:∀st a at',(zY st a at').1.p.k=st.p.k/\((zY st a at').2=false->(zY st a at').1.p.code≠0):=λst a at'=>by
 unfold zY
 split
 ·exact⟨zx _ _ _,λ_=>nJ _ _ (by decide)⟩
 ·exact⟨rfl,λh=>by cases h⟩
theorem NG(xs:List Bs)(p:Ps)(hk:p.k<=l.length):(cB s l xs p).1.k<=l.length/\p.k<=(cB s l xs p).1.k/\((cB s l xs p).2.2=false->(cB s l xs p).1.code≠0):=by
 have hv:=B3 s l p hk
 unfold cB
 generalize aS s l p=v at hv
 obtain⟨p1,w,a,is⟩:=v
 obtain⟨h1,h2,h3⟩:=hv
 cases is with
 | false=>exact⟨h1,h2,λ_=>h3 rfl⟩
 | true=>
  unfold Bb
  simp only
  have h1:p1.k<=l.length:=h1
  have h2:p.k<=p1.k:=h2
  split
  ·exact⟨by rw[zx];exact h1,by rw[zx];exact h2,λ_=>nJ _ _ (by decide)⟩
  ·split
   ·exact⟨by rw[zx];exact h1,by rw[zx];exact h2,λ_=>nJ _ _ (by decide)⟩
   ·exact⟨h1,h2,λh=>by cases h⟩
theorem acW:Fz l (pF s l):=λst hk=>by
 have hn:=NG s l (st.p.bh.map (·.1)) st.p hk
 unfold pF
 generalize cB s l (st.p.bh.map (·.1)) st.p=v at hn
 obtain⟨p,nm,is⟩:=v
 obtain⟨h1,h2,h3⟩:=hn
 cases is with
 | false=>exact⟨h1,h2,λ_=>h3 rfl⟩
 | true=>
  have h1:p.k<=l.length:=h1
  have h2:st.p.k<=p.k:=h2
  have hv:=B3 s l p h1
  show(jA s l nm st (aS s l p)).1.p.k<=_/\_<=(jA s l nm st (aS s l p)).1.p.k/\((jA s l nm st (aS s l p)).2=false->(jA s l nm st (aS s l p)).1.p.code≠0)
  generalize aS s l p=v at hv
  obtain⟨p1,w,a,is⟩:=v
  obtain⟨q1,q2,q3⟩:=hv
  have q1:p1.k<=l.length:=q1
  have q2:p.k<=p1.k:=q2
  cases is with
  | false=>exact⟨q1,by show st.p.k<=p1.k;omega,λ_=>q3 rfl⟩
  | true=>
   unfold jA
   simp only
   split
   ·exact PR s l (st:=aA st {p1 with bh:=_}) (by show st.p.k<=p1.k;omega) q1
   ·exact Fk l (by omega) q1 a (by decide)
theorem Yj{L:List (Bs×Key)}(h0:lk L ⟨#[]⟩=none)(hL:∀x∈L,Fz l x.2.sem):∀(F:Nat) (M:List (Bs×Int)) (st:St),l.length<F+st.p.k->st.p.k<=l.length->(cJ s l L F M st).1.p.k<=l.length/\st.p.k<=(cJ s l L F M st).1.p.k/\((cJ s l L F M st).2=false->(cJ s l L F M st).1.p.code≠0)
 | 0,_,st,hF,hk=>absurd hF (by omega)
 | F+1,M,st,hF,hk=>by
  unfold cJ tU
  split
  ·next hs=>
   split
   ·exact Fk l (cF _) hk _ (by decide)
   ·have hlt:st.p.k<l.length:=kD (by rw[hs];decide)
    exact PR s l (st:=aA st {st.p with k:=st.p.k+1}) (dW _) hlt
  ·cases hl:lk L (aa l st.p.k)with
   | none=>exact Fk l (cF _) hk _ (by decide)
   | some key=>
    have hlt:st.p.k<l.length:=kD λe=>by rw[e,h0]at hl;cases hl
    have hz:Fz l key.sem:=hL _ (wE hl)
    obtain⟨h1,h2,h3⟩:=hz (aA st {st.p with k:=st.p.k+1}) hlt
    have h2:st.p.k+1<=(key.sem (aA st {st.p with k:=st.p.k+1})).1.p.k:=h2
    simp only
    generalize key.sem (aA st {st.p with k:=st.p.k+1})=r at h1 h2 h3 ⊢
    split
    ·exact Fk l (cF _) hk _ (by split<;>decide)
    ·split
     ·obtain⟨g1,g2,g3⟩:=Yj h0 hL F (pt M (aa l st.p.k) (cnt M (aa l st.p.k)+1)) r.1 (by omega) h1
      exact⟨g1,by omega,g3⟩
     ·next hf=>exact⟨h1,by show st.p.k<=r.1.p.k;omega,λ_=>h3 (by simpa using hf)⟩
theorem I8{L:List (Bs×Key)}(h0:lk L ⟨#[]⟩=none)(hL:∀x∈L,Fz l x.2.sem):Fz l (bL s l L):=λst hk=>by
 obtain⟨h1,h2,h3⟩:=Rb s l (w:=⟨#[123]⟩) (by decide) st.p hk
 obtain⟨g1,g2,g3⟩:=Rb s l (w:=nl) (by decide) (dS s l ⟨#[123]⟩ st.p).1 h1
 unfold bL
 split
 ·split
  ·obtain⟨q1,q2,q3⟩:=Yj s l h0 hL (l.length+1) [] (aA st (dS s l nl (dS s l ⟨#[123]⟩ st.p).1).1) (by show l.length<l.length+1+_;omega) g1
   have q2:(dS s l nl (dS s l ⟨#[123]⟩ st.p).1).1.k<=_:=q2
   exact⟨q1,by omega,q3⟩
  ·next hf=>exact⟨g1,by show st.p.k<=(dS s l nl (dS s l ⟨#[123]⟩ st.p).1).1.k;omega,λ_=>g3 (by simpa using hf)⟩
 ·next hf=>exact⟨h1,h2,λ_=>h3 (by simpa using hf)⟩
theorem Yl:Fz l (vv s l):=I8 s l rfl λx hx=>by
 simp only[vu,ou,List.mem_cons,List.not_mem_nil,or_false]at hx
 rcases hx with rfl | rfl | rfl
 ·exact Yk s l (put:=vB) λ_ _=>rfl
 ·exact zy s l (Md (put:=AK) λ_ _=>rfl)
 ·exact zy s l (Md (put:=AM) λ_ _=>rfl)
theorem Ym:Fz l (oE s l):=λst hk=>I8 s l (L:=iO s l) rfl (λx hx=>by
 simp only[iO,ou,List.mem_cons,List.not_mem_nil,or_false]at hx
 rcases hx with rfl | rfl | rfl | rfl | rfl | rfl
 ·exact sq s l (put:=FL) (λ_ _=>rfl) _ _
 ·exact sq s l (put:=vC) (λ_ _=>rfl) _ _
 ·exact sq s l (put:=rY) (λ_ _=>rfl) _ _
 ·exact Gq s l (put:=xY) (λ_ _=>rfl) _
 ·exact zy s l akW
 ·exact acW s l) {st with yes:=1} hk
theorem V8:Fz l (dh s l):=λst hk=>by
 have hn:=NG s l (st.sv.bf.map (·.name)) st.p hk
 unfold dh
 generalize cB s l (st.sv.bf.map (·.name)) st.p=v at hn
 obtain⟨p,nm,is⟩:=v
 obtain⟨h1,h2,h3⟩:=hn
 cases is with
 | false=>exact⟨h1,h2,λ_=>h3 rfl⟩
 | true=>
  have h2:st.p.k<=p.k:=h2
  obtain⟨g1,g2,g3⟩:=I8 s l (L:=bN s l) rfl (λx hx=>by
   simp only[bN,ou,List.mem_cons,List.not_mem_nil,or_false]at hx
   rcases hx with rfl | rfl | rfl | rfl
   ·exact zy s l (Md (put:=xy) λ_ _=>rfl)
   ·exact Yk s l (put:=pP) λ_ _=>rfl
   ·exact sq s l (put:=pQ) (λ_ _=>rfl) _ _
   ·exact sq s l (put:=jE) (λ_ _=>rfl) _ _) {aA st p with bk:=⟨nm,⟨#[]⟩,EE,0,1⟩} h1
  have g2:p.k<=_:=g2
  exact⟨g1,qb h2 g2,g3⟩
theorem NH:Fz l (ew s l):=λst hk=>by
 have hn:=NG s l (st.p.bB.map (·.name)) st.p hk
 unfold ew
 generalize cB s l (st.p.bB.map (·.name)) st.p=v at hn
 obtain⟨p,nm,is⟩:=v
 obtain⟨h1,h2,h3⟩:=hn
 cases is with
 | false=>exact⟨h1,h2,λ_=>h3 rfl⟩
 | true=>
  have h2:st.p.k<=p.k:=h2
  obtain⟨g1,g2,g3⟩:=I8 s l (L:=bR s l) rfl (λx hx=>by
   simp only[bR,ou,List.mem_cons,List.not_mem_nil,or_false]at hx
   rcases hx with rfl | rfl | rfl | rfl | rfl | rfl | rfl | rfl | rfl
   ·exact Gq s l (put:=lu) (λ_ _=>rfl) _
   ·exact zy s l (Md (put:=AN) λ_ _=>rfl)
   ·exact sq s l (put:=pU) (λ_ _=>rfl) _ _
   ·exact Gq s l (put:=pS) (λ_ _=>rfl) _
   ·exact Gq s l (put:=lz) (λ_ _=>rfl) _
   ·exact sq s l (put:=pW) (λ_ _=>rfl) _ _
   ·exact sq s l (put:=pR) (λ_ _=>rfl) _ _
   ·exact sq s l (put:=lq) (λ_ _=>rfl) _ _
   ·exact V8 s l) {aA st p with sv:=iq nm} h1
  have g2:p.k<=_:=g2
  exact⟨g1,qb h2 g2,g3⟩
theorem Yi:∀(F:Nat) (M:List (Bs×Int)) (st:St),l.length<F+st.p.k->st.p.k<=l.length->(oG s l (uU s l) F M st).2=false->(oG s l (uU s l) F M st).1.p.code≠0
 | 0,_,st,hF,hk=>absurd hF (by omega)
 | F+1,M,st,hF,hk=>by
  unfold oG
  split
  ·next hlt=>
   cases hl:lk (uU s l) (aa l st.p.k)with
   | none=>exact λ_=>nJ _ _ (by decide)
   | some key=>
    have hz:Fz l key.sem:=by
     have hm:=wE hl
     simp only[uU,ou,List.mem_cons,List.not_mem_nil,or_false,Prod.mk.injEq]at hm
     rcases hm with⟨_,rfl⟩ | ⟨_,rfl⟩ | ⟨_,rfl⟩
     ·exact Yl s l
     ·exact Ym s l
     ·exact NH s l
    obtain⟨h1,h2,h3⟩:=hz (aA st {st.p with k:=st.p.k+1}) hlt
    have h2:st.p.k+1<=(key.sem (aA st {st.p with k:=st.p.k+1})).1.p.k:=h2
    simp only
    generalize key.sem (aA st {st.p with k:=st.p.k+1})=r at h1 h2 h3 ⊢
    split
    ·exact λ_=>nJ _ _ (by split<;>decide)
    ·split
     ·exact Yi F _ _ (by omega) h1
     ·next hf=>exact λ_=>h3 (by simpa using hf)
  ·unfold Tz Bw Hy aeY
   split
   ·exact λ_=>nJ _ _ (by decide)
   ·split
    ·exact λ_=>nJ _ _ (by decide)
    ·split
     ·exact λ_=>nJ _ _ (by decide)
     ·exact λh=>by cases h
end
theorem W4{s:Bs}(h:Nb (fl s)=0):∃p,fl s=.inl p/\Lx p:=by
 unfold fl at h ⊢
 cases hw:HE s with
 | inr k=>rw[hw]at h;exact absurd (show(170:Int)=0 from h) (by decide)
 | inl l=>
  rw[hw]at h
  simp only at h ⊢
  cases ha:(yy s l GQ).2 with
  | true=>exact⟨_,by rw[if_pos rfl],acE hw ha⟩
  | false=>
   rw[ha,if_neg (by decide)]at h
   exact absurd h (Yi s l (l.length+1) [] GQ (by show l.length<l.length+1+0;omega) (uQ _) ha)
theorem aaO{α:Type}{a h:H}{bytes:Nat}{p:Option (Nat×Nat)}{len:Nat}{c:aM}{vs:List AV}(g:Grow a h 1 p len c vs)(ha:a.next<=h.next){xs:List AV}{n:Nat}(hx:xs.length=n)(hc:xs.all cT=true)(h0:0<n)(hb:(len+n)*bytes<=140737488355328)(h63:len+n<=9223372036854775807)
  {f:Option (Nat×Nat)->Nat->aM->H->Option (α×H)} {Q:α->H->Prop} (k:∀p' c' h',Grow a h' 1 p' (len+n) c' (vs++xs)->Mod (own p) h h'->cg (f p' (len+n) c' h') Q):
  cg (fS 1 bytes p len c (di 1 (.slice (some (h.next,0)) n (.known n)) (h.new (.cells xs false))) (h.new (.cells xs false)) f) Q:=by
 have m2:Mod [] h (h.new (.cells xs false)):=(Mod.refl _ _).new _
 have r2:Row (h.new (.cells xs false)) 1 (some (h.next,0)) n (.known n) xs:=.row (by simp) (aY _ _) (by rw[List.drop_zero,Nat.mul_one,<-hx,List.take_length]) (by omega) (.inr ⟨n,rfl,cF _⟩)
 exact(g.ak m2).ret (qb ha m2.next) r2.src (by omega) hc hb h63 (λh=>by omega) λp' c' h' g' m'=>k p' c' h' g' (m2.of_nil.trans m')
theorem JB{s:ByteArray}(h9:s.size<=9)(n:Nat)(h:H):∀(l:List UInt8) (pos m:Nat) (acc:Int),(bs s).drop pos=l->l.length<m->0<=acc->acc<10 ^ pos->pos+l.length=s.size->
  gC n m s acc pos h=some (tV (G1 acc l),h)
 | [],pos,m+1,acc,hd,_,_,_,hp=>by
  rw[rU,aT (by simp at hp;omega),br]
  rfl
 | x::l,pos,m+1,acc,hd,hl,h0,h1,hp=>by
  have hx:(bs s)[pos]?=some x:=by have:=congrArg (·[0]?) hd;simpa using this
  have hd':(bs s).drop (pos+1)=l:=by rw[<-List.drop_drop,hd];rfl
  simp only[List.length_cons]at hp hl
  have h10:=Un (show pos<=9 by omega)
  rw[rU,cL (by omega),bM,cC hx]
  unfold G1 uw
  by_cases h48:48<=x.toNat
  ·rw[show decide (((x.toNat:Nat):Int)<48)=false by simp;omega,br,cC hx,rT]
   by_cases Mf:x.toNat<=57
   ·rw[show decide (((x.toNat:Nat):Int)>57)=false by simp;omega,br,cC hx,decide_eq_true h48,decide_eq_true Mf]
    rw[wrap_i64 (x:=(x.toNat:Int)) (by omega) (by omega),wrap_i64 (x:=acc*10) (by omega) (by omega),wrap_i64 (x:=acc*10+x.toNat) (by omega) (by omega),wrap_i64 (x:=acc*10+x.toNat - 48) (by omega) (by omega),aG (by omega)]
    have ax9:(10:Int) ^ (pos+1)=10 ^ pos*10:=Int.pow_succ _ _
    rw[JB h9 n h l (pos+1) m _ hd' (by omega) (by omega) (by rw[ax9];omega) (by omega)]
    simp only[Bool.and_self,if_true]
    rw[show acc*10+(x.toNat:Int) - 48=10*acc+((x.toNat:Int) - 48)by omega]
   ·rw[show decide (((x.toNat:Nat):Int)>57)=true by simp;omega,bM,decide_eq_false Mf]
    simp[tV]
  ·rw[show decide (((x.toNat:Nat):Int)<48)=true by simp;omega,bM,rT,bM,decide_eq_false h48]
   simp[tV]
theorem Ig(s:ByteArray){n:Nat}(hn:21<=n)(h:H):ca n gR [.str s] h=some (tV (cl (bs s)),h):=by
 obtain⟨n,rfl⟩:∃k,n=k+1:=⟨n - 1,by omega⟩
 rw[Ce]
 have hlen:=aP s
 by_cases h1:s.size<1
 ·have:bs s=[]:=List.length_eq_zero_iff.1 (by omega)
  rw[show decide (((s.size:Nat):Int)<1)=true by simp;omega,bM,gW,bM]
  unfold cl
  rw[if_pos (.inl this)]
  rfl
 ·rw[show decide (((s.size:Nat):Int)<1)=false by simp;omega,br]
  by_cases h9:s.size>9
  ·rw[show decide (((s.size:Nat):Int)>9)=true by simp;omega,bM,gW,bM]
   unfold cl
   rw[if_pos (.inr (.inl (by omega)))]
   rfl
  ·rw[show decide (((s.size:Nat):Int)>9)=false by simp;omega,br]
   obtain⟨x,l,hx⟩:∃x l,bs s=x::l:=by
    cases hb:bs s with
    | nil=>rw[hb]at hlen;simp at hlen;omega
    | cons x l=>exact⟨x,l,rfl⟩
   have go:gC n n s 0 0 h=some (tV (G1 0 (bs s)),h):=
    JB (by omega) n h (bs s) 0 n 0 rfl (by omega) (by omega) (by decide) (by omega)
   have hne:bs s≠[]:=by rw[hx];simp
   by_cases hs1:s.size>1
   ·rw[show decide (((s.size:Nat):Int)>1)=true by simp;omega,bM,show(0:Int)=((0:Nat):Int)from rfl,cC (i:=0) (b:=x) (by rw[hx];rfl),gW]
    by_cases h48:x=48
    ·subst h48
     rw[show(((48:UInt8).toNat:Int)==48)=true by decide,bM]
     unfold cl
     rw[if_pos (.inr (.inr ⟨by rw[hx];rfl,λe=>by rw[e]at hlen;simp at hlen;omega⟩))]
     rfl
    ·have:¬x.toNat=48:=λe=>h48 (UInt8.toNat_inj.1 e)
     rw[show((x.toNat:Int)==48)=false by simp;omega,br]
     rw[go]
     unfold cl
     rw[if_neg]
     rintro (e | e | ⟨e,-⟩)
     ·exact hne e
     ·omega
     ·rw[hx]at e;simp at e;exact h48 e
   ·rw[show decide (((s.size:Nat):Int)>1)=false by simp;omega,br,gW,br,go]
    unfold cl
    rw[if_neg]
    rintro (e | e | ⟨e,e2⟩)
    ·exact hne e
    ·omega
    ·rw[hx]at e e2 hlen
     simp at e hlen
     have:l=[]:=List.length_eq_zero_iff.1 (by omega)
     rw[this,e]at e2
     exact e2 rfl
def El:Int->List UInt8->Int
 | n,[]=>n
 | n,x::l=>if n<65536 then match xR x with | none => -1 | some d=>El (n*16+d) l else n
theorem Qm{s:ByteArray}(hs:s.size<1000000)(n:Nat)(h:H):∀(l:List UInt8) (pos m:Nat) (acc:Int),(bs s).drop pos=l->l.length<m->0<=acc->acc<1048592->pos+l.length=s.size->
  mj n m s acc pos h=some (.int .i64 (El acc l),h)
 | [],pos,m+1,acc,hd,_,h0,_,hp=>by
  rw[uF,aT (by simp at hp;omega),br,uC,br]
  rfl
 | x::l,pos,m+1,acc,hd,hl,h0,h1,hp=>by
  have hx:(bs s)[pos]?=some x:=by have:=congrArg (·[0]?) hd;simpa using this
  have hd':(bs s).drop (pos+1)=l:=by rw[<-List.drop_drop,hd];rfl
  simp only[List.length_cons]at hp hl
  rw[uF,cL (by omega),bM,show decide (acc>=(0:Int))=true by simpa using h0,bM,uC]
  unfold El
  by_cases hm:acc<65536
  ·rw[decide_eq_true hm,bM,cC hx,if_pos hm]
   have hxl:x.toNat<256:=x.toNat_lt
   have j5:∀d:Int,0<=d->d<16->mh n m s acc pos d h=some (.int .i64 (El (acc*16+d) l),h):=by
    intro d hd0 hd1
    rw[uE,show decide (d<(0:Int))=false by simp;omega,br,wrap_i64 (x:=acc*16) (by omega) (by omega),wrap_i64 (by omega) (by omega),aG (by omega)]
    exact Qm hs n h l (pos+1) m _ hd' (by omega) (by omega) (by omega) (by omega)
   by_cases aln:48<=x.toNat/\x.toNat<=57
   ·have e:xR x=some ((x.toNat:Int) - 48):=by unfold xR uw;rw[decide_eq_true aln.1,decide_eq_true aln.2];rfl
    rw[e,show decide (((x.toNat:Nat):Int)>=48)=true by simp;omega,bM,cC hx,nY,show decide (((x.toNat:Nat):Int)<=57)=true by simp;omega,bM,cC hx]
    rw[wrap_i64 (x:=(x.toNat:Int)) (by omega) (by omega),wrap_i64 (x:=(x.toNat:Int) - 48) (by omega) (by omega),uD,cC hx,show decide (((x.toNat:Nat):Int)>=97)=false by simp;omega,br,nZ,br]
    exact j5 _ (by omega) (by omega)
   ·have j3:me n m s acc pos (-1) h=some (.int .i64 (match xR x with | none => -1 | some d=>El (acc*16+d) l),h):=by
     have hnd:uw x=false:=by
      unfold uw
      rw[<-Bool.decide_and]
      exact decide_eq_false aln
     rw[uD,cC hx]
     have bad:¬(97<=x.toNat/\x.toNat<=102)->mg n m s acc pos (-1) false h=some (.int .i64 (match xR x with | none => -1 | some d=>El (acc*16+d) l),h):=by
      intro hn
      have e:xR x=none:=by unfold xR;rw[hnd,if_neg hn];rfl
      rw[e,nZ,br,uE,show decide ((-1:Int)<0)=true by decide,bM]
     by_cases h97:97<=x.toNat
     ·rw[show decide (((x.toNat:Nat):Int)>=97)=true by simp;omega,bM,cC hx]
      by_cases O4:x.toNat<=102
      ·have e:xR x=some ((x.toNat:Int) - 87):=by unfold xR;rw[hnd,if_neg (by decide),if_pos ⟨h97,O4⟩]
       rw[show decide (((x.toNat:Nat):Int)<=102)=true by simp;omega,nZ,bM,cC hx,wrap_i64 (x:=(x.toNat:Int)) (by omega) (by omega),wrap_i64 (by omega) (by omega),e]
       exact j5 _ (by omega) (by omega)
      ·rw[show decide (((x.toNat:Nat):Int)<=102)=false by simp;omega]
       exact bad (by omega)
     ·rw[show decide (((x.toNat:Nat):Int)>=97)=false by simp;omega,br]
      exact bad (by omega)
    by_cases h48:48<=x.toNat
    ·rw[show decide (((x.toNat:Nat):Int)>=48)=true by simp;omega,bM,cC hx,show decide (((x.toNat:Nat):Int)<=57)=false by simp;omega,nY,br]
     exact j3
    ·rw[show decide (((x.toNat:Nat):Int)>=48)=false by simp;omega,br,nY,br]
     exact j3
  ·rw[decide_eq_false hm,br,if_neg hm]
theorem Y2{s:ByteArray}(hs:s.size<1000000){n:Nat}(hn:s.size+1<n)(h:H):ca n ny [.str s] h=some (.int .i64 (El 0 (bs s)),h):=by
 obtain⟨n,rfl⟩:∃k,n=k+1:=⟨n - 1,by omega⟩
 rw[FF]
 exact Qm hs n h (bs s) 0 n 0 rfl (by rw[aP];omega) (by omega) (by omega) (by rw[aP];omega)
theorem adg:∀(l:List UInt8) (k:Nat) (acc:Int),l.length<=k->0<=acc->(acc+1)*16 ^ k<=65536->El acc l=(match su acc l with | none => -1 | some v=>v)/\∀v,su acc l=some v->0<=v/\v<=65535
 | [],k,acc,_,h0,h1=>by
  refine⟨rfl,λv hv=>?_⟩
  simp only[su,Option.some.injEq]at hv
  subst hv
  have:(1:Int)<=16 ^ k:=by have:(0:Int)<16 ^ k:=Int.pow_pos (by decide);omega
  have:=Int.mul_le_mul_of_nonneg_left this (show 0<=acc+1 by omega)
  omega
 | x::l,0,_,hl,_,_=>by simp at hl
 | x::l,k+1,acc,hl,h0,h1=>by
  have hp:(1:Int)<=16 ^ k:=by have:(0:Int)<16 ^ k:=Int.pow_pos (by decide);omega
  rw[Int.pow_succ,Int.mul_comm (16 ^ k) 16,<-Int.mul_assoc]at h1
  have h2:=Int.mul_le_mul_of_nonneg_left hp (show 0<=(acc+1)*16 by omega)
  unfold El su
  rw[if_pos (by omega)]
  cases hd:xR x with
  | none=>exact⟨rfl,λv hv=>by cases hv⟩
  | some d=>
   have hr:=NN hd
   dsimp only
   rw[if_neg (by omega),Int.mul_comm acc 16]
   refine adg l k (16*acc+d) (by simpa using hl) (by omega) ?_
   refine Int.le_trans (Int.mul_le_mul_of_nonneg_right (show 16*acc+d+1<=(acc+1)*16 by omega) (by omega)) h1
def aiN(a h':H)(r:AV)(L:List ByteArray):Prop:=∃p c,r=.slice p L.length c/\Grow a h' 1 p L.length c (L.map AV.str)
theorem FM{a:H}{s:ByteArray}(hs:s.size<90000)(c:UInt8)(n:Nat):∀(l:List UInt8) (pos m:Nat) (fr:Nat) (ps:List ByteArray) (h:H) (p:Option (Nat×Nat)) (d:aM),(bs s).drop pos=l->l.length<m->pos+l.length=s.size->fr<=pos->c∉((bs s).drop fr).take (pos - fr)->ps.length<=pos->Mod [] a h->Grow a h 1 p ps.length d (ps.map AV.str)->
  cg (gX n m s (c.toNat:Int) p ps.length d fr pos h) λr h'=>Mod [] a h'/\aiN a h' r (ps++(parts c ((bs s).drop fr)).map mk)
 | [],pos,m+1,fr,ps,h,p,d,hd,_,hp,hf,hc,hps,hm,g=>by
  simp only[List.length_nil,Nat.add_zero]at hp
  subst hp
  have Wi:((bs s).drop fr).take (s.size - fr)=(bs s).drop fr:=List.take_of_length_le (by rw[List.length_drop,aP];exact cF _)
  rw[Wi]at hc
  rw[sL,aT (cF _),br,Iz (by omega) (by omega)]
  simp only[aL]
  have hx:s.extract ((fr:Nat):Int).toNat s.size=mk ((bs s).drop fr):=oI (by rw[jB,ko];exact Wi)
  rw[hx]
  refine g.push hm.next rfl rfl (by decide) (by omega) (by omega) λp' c' h' g' m'=>?_
  refine .pure ⟨hm.push g m',p',c',?_,?_⟩
  ·rw[wF hc];simp
  ·rw[wF hc]
   simpa using g'
 | x::l,pos,m+1,fr,ps,h,p,d,hd,hl,hp,hf,hc,hps,hm,g=>by
  have hx:(bs s)[pos]?=some x:=by have:=congrArg (·[0]?) hd;simpa using this
  have hd':(bs s).drop (pos+1)=l:=by rw[<-List.drop_drop,hd];rfl
  simp only[List.length_cons]at hp hl
  have hsplit:(bs s).drop fr=((bs s).drop fr).take (pos - fr)++x::l:=by
   have:=(List.take_append_drop (pos - fr) ((bs s).drop fr)).symm
   rwa [List.drop_drop,show fr+(pos - fr)=pos by omega,hd]at this
  rw[sL,cL (by omega),bM,cC hx]
  by_cases hxc:x=c
  ·subst hxc
   rw[show(((x.toNat:Nat):Int)==((x.toNat:Nat):Int))=true by simp,bM,BK (by omega) (by omega) (by omega)]
   simp only[aL]
   have hxt:s.extract ((fr:Nat):Int).toNat ((pos:Nat):Int).toNat=mk (((bs s).drop fr).take (pos - fr)):=oI (by rw[jB,ko];rfl)
   rw[hxt]
   refine g.push hm.next rfl rfl (by decide) (by omega) (by omega) λp' c' h' g' m'=>?_
   rw[aG (by omega),show ps.length+1=(ps++[mk (((bs s).drop fr).take (pos - fr))]).length by simp]
   refine(FM hs x n l (pos+1) m (pos+1) (ps++[mk (((bs s).drop fr).take (pos - fr))]) h' p' c' hd' (by omega) (by omega) (cF _) (by simp) (by simp;omega) (hm.push g m') (by simpa using g')).mono λr h2 ⟨q1,q2⟩=>?_
   have he:ps++[mk (((bs s).drop fr).take (pos - fr))]++(parts x ((bs s).drop (pos+1))).map mk=ps++(parts x ((bs s).drop fr)).map mk:=by
    rw[hd',congrArg (parts x) hsplit,AJ l hc]
    simp
   rw[he]at q2
   exact⟨q1,q2⟩
  ·rw[show(((x.toNat:Nat):Int)==((c.toNat:Nat):Int))=false by
    simp only[beq_eq_false_iff_ne,ne_eq]
    intro e
    exact hxc (UInt8.toNat_inj.1 (by omega)),br,aG (by omega)]
   refine FM hs c n l (pos+1) m fr ps h p d hd' (by omega) (by omega) (by omega) ?_ (by omega) hm g
   rw[show pos+1 - fr=(pos - fr)+1 by omega,List.take_add_one]
   simp only[List.mem_append,not_or]
   refine⟨hc,?_⟩
   rw[List.getElem?_drop,show fr+(pos - fr)=pos by omega,hx]
   simpa using λe=>hxc e.symm
theorem Ii{s:ByteArray}(hs:s.size<90000)(c:UInt8){n:Nat}(hn:s.size+11<=n)(h:H):
  cg (ca n fE [.str s,.int .u8 (c.toNat:Int)] h) λr h'=>Mod [] h h'/\aiN h h' r (bJ c s):=by
 obtain⟨n,rfl⟩:∃k,n=k+1:=⟨n - 1,by omega⟩
 rw[DB]
 have:=FM (a:=h) hs c n (bs s) 0 n 0 [] h none (.known 0) rfl (by rw[aP];omega) (by rw[aP];omega) (cF _) (by simp) (by simp) (.refl _ _) .nil
 refine this.mono λr h' ⟨q1,q2⟩=>⟨q1,?_⟩
 simpa[bJ]using q2
theorem FZ(x:Int):IntKind.u8.wrap x=x % 256:=by
 simp only[IntKind.wrap,IntKind.bits,IntKind.signed]
 simp
theorem akC(v:Int):PB 1 v=[IntKind.u8.wrap v]:=by
 simp[PB,B7]
theorem aqw{v:Int}(h0:0<=v)(h1:v<=65535):PB 2 v=[IntKind.u8.wrap (IntKind.i64.wrap (Int.tdiv v 256)),IntKind.u8.wrap (Int.tmod v 256)]:=by
 have e1:B7 .i64 v 8=v / 256:=by
  show v.fdiv 256=_
  rw[Int.fdiv_eq_ediv_of_nonneg _ (by decide)]
 have e2:B7 .i64 v 0=v:=by simp[B7]
 unfold PB
 rw[if_neg (by decide),e1,e2,Int.tdiv_eq_ediv_of_nonneg h0,Int.tmod_eq_emod_of_nonneg h0,wrap_i64 (by omega) (by omega),FZ,FZ,FZ]
 congr 2
 omega
theorem Xg{t:ByteArray}(h:(cl (bs t)).2=false):(xZ t).2=false:=by
 unfold xZ;rw[h];rfl
theorem aa0{t:ByteArray}(h:(cl (bs t)).2=true):xZ t=((cl (bs t)).1,decide ((cl (bs t)).1<=255)):=by
 unfold xZ;rw[if_pos h]
def Kw:Option (List Int)->ByteArray×Bool
 | none=>(⟨#[]⟩,false)
 | some x=>(strOfNums x,true)
theorem YZ{ps:List ByteArray}(h4:ps.length=4){n:Nat}(hn:21<=n){a:H}{p:Option (Nat×Nat)}{c:aM}(row:Row a 1 p ps.length c (ps.map AV.str)):
  ∀(ts pre:List ByteArray) (m:Nat) (acc:List Int) (h:H) (q:Option (Nat×Nat)) (d:aM),ps=pre++ts->ts.length<m->acc.length=pre.length->Mod [] a h->Grow a h 1 q acc.length d (vX acc)->
   cg (iW n m q acc.length d p ps.length c pre.length h) λr h'=>Mod [] a h'/\r=IP (Kw ((fX xZ 1 ts).map (acc++·)))
 | [],pre,m+1,acc,h,q,d,hx,_,hacc,hm,g=>by
  have:pre.length=4:=by rw[<-h4,hx];simp
  rw[qM,show decide (((pre.length:Nat):Int)<4)=false by simp;omega,br,MZ g.row.sl]
  refine .pure ⟨hm,?_⟩
  simp[fX,Kw,IP]
 | t::ts,pre,m+1,acc,h,q,d,hx,hl,hacc,hm,g=>by
  have NR:pre.length<4:=by rw[<-h4,hx];simp
  rw[qM,show decide (((pre.length:Nat):Int)<4)=true by simp;omega,bM,(row.ak hm).Mh (x:=t) (by rw[hx];simp),az,Ig t hn h,fD]
  simp only[tV,ay,cu,fV,aE]
  have bad:(xZ t).2=false->cg (iV n m q acc.length d p ps.length c pre.length (cl (bs t)).1 true h) λr h'=>Mod [] a h'/\r=IP (Kw ((fX xZ 1 (t::ts)).map (acc++·))):=by
   intro hf
   rw[qK,bM]
   refine .pure ⟨hm,?_⟩
   simp only[fX,hf,Bool.false_eq_true,if_false]
   rfl
  cases hq:(cl (bs t)).2 with
  | false=>
   rw[Bool.not_false,bM]
   exact bad (Xg hq)
  | true=>
   rw[Bool.not_true,br]
   have hrd:=aa0 hq
   by_cases aq2:(cl (bs t)).1>255
   ·rw[decide_eq_true aq2]
    exact bad (by rw[hrd];exact decide_eq_false (by omega))
   ·rw[decide_eq_false aq2,qK,br]
    simp only[aL]
    refine g.push hm.next rfl rfl (by decide) (by omega) (by omega) λq' d' h' g' m'=>?_
    rw[aG (by omega),show pre.length+1=(pre++[t]).length by simp,show acc.length+1=(acc++[IntKind.u8.wrap (cl (bs t)).1]).length by simp]
    refine(YZ h4 hn row ts (pre++[t]) m (acc++[IntKind.u8.wrap (cl (bs t)).1]) h' q' d' (by rw[hx];simp) (by simp at hl;omega) (by simp[hacc]) (hm.push g m') (by simpa[vX]using g')).mono λr h2 ⟨q1,q2⟩=>⟨q1,?_⟩
    rw[q2]
    have:(xZ t).2=true:=by rw[hrd];exact decide_eq_true (by omega)
    simp only[fX,this,if_true,akC]
    rw[show(xZ t).1=(cl (bs t)).1 by rw[hrd]]
    cases fX xZ 1 ts with
    | none=>rfl
    | some x=>simp[Kw]
theorem ade{t:ByteArray}{k:Nat}(hk:(16:Int) ^ k<=65536)(hm:t.size<=k):
  El 0 (bs t)=(match su 0 (bs t)with | none => -1 | some v=>v)/\(∀v,su 0 (bs t)=some v->0<=v/\v<=65535):=
 adg (bs t) k 0 (by rw[aP];exact hm) (by omega) (by simpa using hk)
theorem Kg{t:ByteArray}{least most:Int}(h:su 0 (bs t)=none):(oP least most t).2=false:=by
 unfold oP;rw[h]
theorem NO{t:ByteArray}{least most:Int}(h:¬(least<=t.size/\(t.size:Int)<=most)):(oP least most t).2=false:=by
 unfold oP
 cases su 0 (bs t)with
 | none=>rfl
 | some v=>
  dsimp only
  by_cases h1:least<=(t.size:Int)
  ·rw[decide_eq_true h1,decide_eq_false (λh2=>h ⟨h1,h2⟩)];rfl
  ·rw[decide_eq_false h1];rfl
theorem PW{t:ByteArray}{least most v:Int}(h:su 0 (bs t)=some v)(h1:least<=t.size)(h2:(t.size:Int)<=most):oP least most t=(v,true):=by
 unfold oP
 rw[h]
 dsimp only
 rw[decide_eq_true h1,decide_eq_true h2];rfl
theorem Y0{ps:List ByteArray}(h8:ps.length=8){n:Nat}{a:H}(hsz:∀t∈ps,t.size<900000/\t.size+1<n){p:Option (Nat×Nat)}{c:aM}(row:Row a 1 p ps.length c (ps.map AV.str)):
  ∀(ts pre:List ByteArray) (m:Nat) (acc:List Int) (h:H) (q:Option (Nat×Nat)) (d:aM),ps=pre++ts->ts.length<m->acc.length=2*pre.length->Mod [] a h->Grow a h 1 q acc.length d (vX acc)->
   cg (iX n m q acc.length d p ps.length c pre.length h) λr h'=>Mod [] a h'/\r=IP (Kw ((fX (oP 1 4) 2 ts).map (acc++·)))
 | [],pre,m+1,acc,h,q,d,hx,_,hacc,hm,g=>by
  have:pre.length=8:=by rw[<-h8,hx];simp
  rw[qN,show decide (((pre.length:Nat):Int)<8)=false by simp;omega,br,MZ g.row.sl]
  refine .pure ⟨hm,?_⟩
  simp[fX,Kw,IP]
 | t::ts,pre,m+1,acc,h,q,d,hx,hl,hacc,hm,g=>by
  have NR:pre.length<8:=by rw[<-h8,hx];simp
  have ht:=hsz t (by rw[hx];simp)
  have hix:ps[pre.length]?=some t:=by rw[hx];simp
  rw[qN,show decide (((pre.length:Nat):Int)<8)=true by simp;omega,bM,(row.ak hm).Mh hix,az,Y2 (by omega) ht.2 h,fD]
  simp only[aj]
  rw[(row.ak hm).Mh hix,az]
  have bad:(oP 1 4 t).2=false->cg (fM n m q acc.length d p ps.length c pre.length (El 0 (bs t)) true h) λr h'=>Mod [] a h'/\r=IP (Kw ((fX (oP 1 4) 2 (t::ts)).map (acc++·))):=by
   intro hf
   rw[qL,bM]
   refine .pure ⟨hm,?_⟩
   simp only[fX,hf,Bool.false_eq_true,if_false]
   rfl
  by_cases h1:t.size<1
  ·rw[show decide (((t.size:Nat):Int)<1)=true by simp;omega,bM]
   exact bad (NO (by omega))
  ·rw[show decide (((t.size:Nat):Int)<1)=false by simp;omega,br,(row.ak hm).Mh hix,az]
   by_cases h4:t.size>4
   ·rw[show decide (((t.size:Nat):Int)>4)=true by simp;omega,bM]
    exact bad (NO (by omega))
   ·rw[show decide (((t.size:Nat):Int)>4)=false by simp;omega,br]
    have hv:=ade (t:=t) (k:=4) (by decide) (by omega)
    cases hL:su 0 (bs t)with
    | none=>
     rw[hL]at hv
     have e:El 0 (bs t) = -1:=hv.1
     rw[show decide (El 0 (bs t)<0)=true by rw[e];decide]
     exact bad (Kg hL)
    | some v=>
     rw[hL]at hv
     have e:El 0 (bs t)=v:=hv.1
     have hr:=hv.2 v rfl
     rw[e,show decide (v<0)=false by simp;omega,qL,br]
     simp only[aL]
     refine aaO (n:=2) (bytes:=1) g hm.next rfl rfl (by decide) (by omega) (by omega) λq' d' h' g' m'=>?_
     rw[aG (by omega),show pre.length+1=(pre++[t]).length by simp]
     have TS:acc.length+2=(acc++PB 2 v).length:=by rw[aqw hr.1 hr.2];simp
     rw[TS]at g' ⊢
     refine(Y0 h8 hsz row ts (pre++[t]) m (acc++PB 2 v) h' q' d' (by rw[hx];simp) (by simp at hl;omega) (by rw[<-TS,hacc];simp;omega) (hm.push g m') (by rw[aqw hr.1 hr.2]at g' ⊢;simpa[vX]using g')).mono λr h2 ⟨q1,q2⟩=>⟨q1,?_⟩
     rw[q2]
     have hR:=PW (least:=1) (most:=4) hL (by omega) (by omega)
     simp only[fX,hR,if_true]
     cases fX (oP 1 4) 2 ts with
     | none=>rfl
     | some x=>simp[Kw]
def ahX(s:ByteArray):ByteArray×Bool:=if(bJ 46 s).length=4 then Kw (fX xZ 1 (bJ 46 s))else if(bJ 58 s).length=8 then Kw (fX (oP 1 4) 2 (bJ 58 s))else(⟨#[]⟩,false)
theorem Lp{s t:ByteArray}{c:UInt8}(h:t∈bJ c s):t.size<=s.size:=by
 obtain⟨q,hq,rfl⟩:=List.mem_map.1 h
 have:=zO hq
 rw[aP]at this
 rw[size_mk]
 exact this
theorem RW{s:ByteArray}(hs:s.size<90000){n:Nat}(hn:s.size+50<=n)(h:H):cg (ca n nL [.str s] h) λr h'=>Mod [] h h'/\r=IP (ahX s):=by
 obtain⟨n,rfl⟩:∃k,n=k+1:=⟨n - 1,by omega⟩
 rw[Bf]
 refine(Ii hs 46 (by omega) h).bind ?_
 rintro _ h1 ⟨m1,p,c,rfl,row⟩
 simp only[ah]
 unfold ahX
 by_cases h4:(bJ 46 s).length=4
 ·rw[show(((bJ 46 s).length:Int)==4)=true by simp;omega,bM,if_pos h4]
  refine(YZ h4 (by omega) row.row (bJ 46 s) [] n [] h1 none (.known 0) rfl (by omega) rfl (.refl _ _) .nil).mono λr h2 ⟨q1,q2⟩=>⟨m1.trans q1,?_⟩
  rw[q2]
  simp
 ·rw[show(((bJ 46 s).length:Int)==4)=false by simp;omega,br,if_neg h4]
  refine(Ii hs 58 (by omega) h1).bind ?_
  rintro _ h2 ⟨m2,p,c,rfl,row⟩
  simp only[ah]
  by_cases h8:(bJ 58 s).length=8
  ·rw[show(((bJ 58 s).length:Int) != 8)=false by simp;omega,br,if_pos h8]
   refine(Y0 h8 (λt ht=>by have:=Lp ht;exact⟨by omega,by omega⟩) row.row (bJ 58 s) [] n [] h2 none (.known 0) rfl (by omega) rfl (.refl _ _) .nil).mono λr h3 ⟨q1,q2⟩=>⟨(m1.trans m2).trans q1,?_⟩
   rw[q2]
   simp
  ·rw[show(((bJ 58 s).length:Int) != 8)=true by simp;omega,bM,if_neg h8]
   exact .pure ⟨m1.trans m2,rfl⟩
theorem B4{rd:ByteArray->Int×Bool}{w:Nat}(hw:w=1∨w=2):∀{ps:List ByteArray} {x:List Int},fX rd w ps=some x->x.length=w*ps.length
 | [],x,h=>by simp[fX]at h;subst h;simp
 | p::ps,x,h=>by
  unfold fX at h
  split at h
  ·cases hg:fX rd w ps with
   | none=>rw[hg]at h;simp at h
   | some y=>
    rw[hg]at h
    simp only[Option.map_some,Option.some.injEq]at h
    subst h
    have:=B4 hw hg
    rcases hw with rfl | rfl<;>simp[PB,this]<;>omega
  ·cases h
theorem PS{rd:ByteArray->Int×Bool}{w:Nat}:∀{ps:List ByteArray} {p:ByteArray},p∈ps->(rd p).2=false->fX rd w ps=none
 | q::ps,p,h,hf=>by
  unfold fX
  rcases List.mem_cons.1 h with rfl | h
  ·rw[if_neg (by rw[hf];decide)]
  ·split
   ·rw[PS h hf];rfl
   ·rfl
theorem TV:∀{l:List UInt8} {n:Int},46∈l->su n l=none
 | x::l,n,h=>by
  unfold su
  rcases List.mem_cons.1 h with rfl | h
  ·rfl
  ·cases xR x with
   | none=>rfl
   | some d=>
    dsimp only
    split
    ·rfl
    ·exact TV h
theorem Qe{c d:UInt8}(hcd:d≠c):∀{l:List UInt8},d∈l->∃p∈parts c l,d∈p
 | x::l,h=>by
  unfold parts
  rcases List.mem_cons.1 h with rfl | h
  ·rw[if_neg hcd]
   split
   ·exact⟨_,List.mem_cons_self,List.mem_cons_self⟩
   ·exact⟨_,List.mem_cons_self,List.mem_cons_self⟩
  ·obtain⟨p,hp,hd⟩:=Qe hcd h
   split
   ·exact⟨p,List.mem_cons_of_mem _ hp,hd⟩
   ·split
    ·rename_i q qs hq
     rw[hq]at hp
     rcases List.mem_cons.1 hp with rfl | hp
     ·exact⟨_,List.mem_cons_self,List.mem_cons_of_mem _ hd⟩
     ·exact⟨p,List.mem_cons_of_mem _ hp,hd⟩
    ·rename_i hq;rw[hq]at hp;cases hp
theorem abZ(s:ByteArray):eL s=ahX s:=by
 have h58:(bJ 58 s).length≠8->Il s=(⟨#[]⟩,false):=by
  intro h8
  unfold Il
  cases hg:fX (oP 1 4) 2 (bJ 58 s)with
  | none=>rfl
  | some y=>
   have:=B4 (.inr rfl) hg
   dsimp only
   rw[if_neg (by omega)]
 have aw6:(bJ 58 s).length=8->Il s=Kw (fX (oP 1 4) 2 (bJ 58 s)):=by
  intro h8
  unfold Il
  cases hg:fX (oP 1 4) 2 (bJ 58 s)with
  | none=>rfl
  | some y=>
   have:=B4 (.inr rfl) hg
   dsimp only
   rw[if_pos (by omega)]
   rfl
 unfold eL ahX
 by_cases h4:(bJ 46 s).length=4
 ·rw[if_pos h4]
  cases hg:fX xZ 1 (bJ 46 s)with
  | some x=>
   have:=B4 (.inl rfl) hg
   dsimp only
   rw[if_pos (by omega)]
   rfl
  | none=>
   dsimp only[Kw]
   have axC:(46:UInt8)∈bs s:=by
    have h1:(bJ 46 s).length=(bs s).count 46+1:=by rw[<-GC];simp[bJ]
    exact List.count_pos_iff.1 (by omega)
   obtain⟨q,hq,hd⟩:=Qe (c:=58) (by decide) axC
   have hnone:fX (oP 1 4) 2 (bJ 58 s)=none:=
    PS (p:=mk q) (List.mem_map_of_mem hq) (Kg (by rw[ko];exact TV hd))
   unfold Il
   rw[hnone]
 ·rw[if_neg h4]
  have six:eL s=Il s:=by
   unfold eL
   cases hg:fX xZ 1 (bJ 46 s)with
   | none=>rfl
   | some x=>
    have:=B4 (.inl rfl) hg
    dsimp only
    rw[if_neg (by omega)]
  have:eL s=if(bJ 58 s).length=8 then Kw (fX (oP 1 4) 2 (bJ 58 s))else(⟨#[]⟩,false):=by
   rw[six]
   by_cases h8:(bJ 58 s).length=8
   ·rw[if_pos h8,aw6 h8]
   ·rw[if_neg h8,h58 h8]
  exact this
abbrev Z6:List Int:=[0,0,0,0,0,0]
def aaI:Option (List Int)->List AV×Bool
 | none=>(vX Z6,false)
 | some x=>(vX x,true)
theorem Ut{ps:List ByteArray}(h6:ps.length=6){n:Nat}{a a0:H}(hsz:∀t∈ps,t.size<900000/\t.size+1<n){p:Option (Nat×Nat)}{c:aM}{i j:Nat}(hij:i≠j)(hi:a0.next<=i)(hj:a0.next<=j){zs:List AV}(hz:zs.length=6)
  (hrow:∀h:H,Mod [i,j] a h->Row h 1 p ps.length c (ps.map AV.str)):
  ∀(ts pre:List ByteArray) (m:Nat) (acc:List Int) (h:H),ps=pre++ts->ts.length<m->acc.length=pre.length->Mod [i,j] a h->Mod [] a0 h->h.get i=some (.cells zs false)->h.get j=some (.cells (vX (acc++List.replicate ts.length 0)) false)->
   cg (kS n m (some (i,0)) (some (j,0)) p ps.length c pre.length h) λr h'=>Mod [] a0 h'/\r=QZ (aaI ((fX (oP 2 2) 1 ts).map (acc++·)))
 | [],pre,m+1,acc,h,hx,_,hacc,hm,hm0,gi,gj=>by
  have hp:pre.length=6:=by rw[<-h6,hx];simp
  simp only[List.length_nil,List.replicate_zero,List.append_nil]at gj
  rw[tB,show decide (((pre.length:Nat):Int)<6)=false by simp;omega,br]
  simp only[ai]
  rw[jF (n:=6) gj (by simp;omega),DT (n:=6) gi (by simp;omega) (by omega) (JK acc),GP _ _ (by simp;omega),jF (n:=6) (aW _ _ _) (by simp;omega)]
  refine .pure ⟨hm0.set (.inl hi) _,?_⟩
  simp[fX,aaI,QZ]
 | t::ts,pre,m+1,acc,h,hx,hl,hacc,hm,hm0,gi,gj=>by
  have NR:pre.length<6:=by rw[<-h6,hx];simp
  have hts:pre.length+(ts.length+1)=6:=by rw[<-h6,hx];simp
  have ht:=hsz t (by rw[hx];simp)
  have hix:ps[pre.length]?=some t:=by rw[hx];simp
  rw[tB,show decide (((pre.length:Nat):Int)<6)=true by simp;omega,bM,(hrow h hm).Mh hix,az,Y2 (by omega) ht.2 h,fD]
  simp only[aj]
  rw[(hrow h hm).Mh hix,az]
  have bad:(oP 2 2 t).2=false->cg (kR n m (some (i,0)) (some (j,0)) p ps.length c pre.length (El 0 (bs t)) true h) λr h'=>Mod [] a0 h'/\r=QZ (aaI ((fX (oP 2 2) 1 (t::ts)).map (acc++·))):=by
   intro hf
   rw[tA,bM]
   simp only[ai]
   rw[DT (n:=6) gi rfl (by omega) rfl,GP _ _ (by rw[hz];rfl),jF (n:=6) (aW _ _ _) rfl]
   refine .pure ⟨hm0.set (.inl hi) _,?_⟩
   simp only[fX,hf,Bool.false_eq_true,if_false]
   rfl
  by_cases h2:t.size=2
  ·rw[show(((t.size:Nat):Int) != 2)=false by simp;omega,br]
   have hv:=ade (t:=t) (k:=2) (by decide) (by omega)
   cases hL:su 0 (bs t)with
   | none=>
    rw[hL]at hv
    have e:El 0 (bs t) = -1:=hv.1
    rw[show decide (El 0 (bs t)<0)=true by rw[e];decide]
    exact bad (Kg hL)
   | some v=>
    rw[hL]at hv
    have e:El 0 (bs t)=v:=hv.1
    have hr:=hv.2 v rfl
    rw[e,show decide (v<0)=false by simp;omega,tA,br]
    simp only[ai]
    rw[if_pos ⟨by omega,by omega⟩,show((pre.length:Nat):Int).toNat=pre.length from rfl,Nat.zero_add,pH gj (by simp;omega) rfl,aG (by omega),show pre.length+1=(pre++[t]).length by simp]
    have Rk:(vX (acc++List.replicate (t::ts).length 0)).set pre.length (.int .u8 (IntKind.u8.wrap v))=vX ((acc++PB 1 v)++List.replicate ts.length 0):=by
     rw[akC,<-hacc,vX,List.map_append,List.set_append_right _ _ (by simp)]
     simp[List.replicate_succ,vX]
    rw[Rk]
    refine(Ut h6 hsz hij hi hj hz hrow ts (pre++[t]) m (acc++PB 1 v) _ (by rw[hx];simp) (by simp at hl;omega) (by rw[akC];simp[hacc]) (hm.set (.inr (by simp)) _) (hm0.set (.inl hj) _) ((ng hij).trans gi) (aW _ _ _)).mono λr h2 ⟨q1,q2⟩=>⟨q1,?_⟩
    rw[q2]
    have hR:=PW (least:=2) (most:=2) hL (by omega) (by omega)
    simp only[fX,hR,if_true]
    cases fX (oP 2 2) 1 ts with
    | none=>rfl
    | some x=>simp[aaI]
  ·rw[show(((t.size:Nat):Int) != 2)=true by simp;omega,bM]
   exact bad (NO (by omega))
theorem ZM(s:ByteArray):(vX (eM s).1,(eM s).2)=if(bJ 58 s).length=6 then aaI (fX (oP 2 2) 1 (bJ 58 s))else(vX Z6,false):=by
 unfold eM
 cases hg:fX (oP 2 2) 1 (bJ 58 s)with
 | none=>simp[aaI]
 | some x=>
  have:=B4 (.inl rfl) hg
  by_cases h6:(bJ 58 s).length=6
  ·rw[if_pos h6]
   dsimp only
   rw[if_pos (by omega)]
   rfl
  ·rw[if_neg h6]
   dsimp only
   rw[if_neg (by omega)]
theorem aaZ{s:ByteArray}(hs:s.size<90000){n:Nat}(hn:s.size+50<=n)(h:H):cg (ca n rJ [.str s] h) λr h'=>Mod [] h h'/\r=QZ (vX (eM s).1,(eM s).2):=by
 obtain⟨n,rfl⟩:∃k,n=k+1:=⟨n - 1,by omega⟩
 rw[Es,ZM]
 simp only[aL]
 rw[show([(AV.int .u8 0),(.int .u8 0),(.int .u8 0),(.int .u8 0),(.int .u8 0),(.int .u8 0)]:List AV)=vX Z6 from rfl]
 have m0:Mod [] h (h.new (.cells (vX Z6) false)):=(Mod.refl _ _).new _
 have g0:(h.new (.cells (vX Z6) false)).get h.next=some (.cells (vX Z6) false):=aY _ _
 have n0:(h.new (.cells (vX Z6) false)).next=h.next+1:=rfl
 change cg (Option.bind (ca n fE [.str s,.int .u8 58] ((h.new (.cells (vX Z6) false)).new (.cells (vX Z6) false))) _) _
 generalize h.new (.cells (vX Z6) false)=ha at *
 have ma:Mod [] ha (ha.new (.cells (vX Z6) false)):=(Mod.refl _ _).new _
 have ga:(ha.new (.cells (vX Z6) false)).get ha.next=some (.cells (vX Z6) false):=aY _ _
 have na:(ha.new (.cells (vX Z6) false)).next=ha.next+1:=rfl
 have g0':(ha.new (.cells (vX Z6) false)).get h.next=some (.cells (vX Z6) false):=(ma.get _ (by omega) (by simp)).trans g0
 generalize ha.new (.cells (vX Z6) false)=hb at *
 refine(Ii hs 58 (by omega) hb).bind ?_
 rintro _ h1 ⟨m1,p,c,rfl,row⟩
 simp only[ah]
 have gi:=(m1.get _ (by omega) (by simp)).trans g0'
 have gj:=(m1.get _ (by omega) (by simp)).trans ga
 by_cases h6:(bJ 58 s).length=6
 ·rw[show(((bJ 58 s).length:Int) != 6)=false by simp;omega,br,if_pos h6]
  have hne:h.next≠ha.next:=by omega
  have hrow:∀h':H,Mod [h.next,ha.next] h1 h'->Row h' 1 p (bJ 58 s).length c ((bJ 58 s).map AV.str):=λh' m'=>row.row.mod m' λb hb2=>by
   have:=(row.iy b hb2).1
   simp only[List.mem_cons,List.not_mem_nil,or_false,not_or]
   omega
  refine(Ut h6 (n:=n) (a:=h1) (a0:=h) (λt ht=>by have:=Lp ht;exact⟨by omega,by omega⟩) hne (cF _) (by omega) (zs:=vX Z6) rfl hrow (bJ 58 s) [] n [] h1 rfl (by omega) rfl (.refl _ _) ((m0.trans ma).trans m1) gi (by rw[h6];exact gj)).mono λr h2 ⟨q1,q2⟩=>⟨q1,?_⟩
  rw[q2]
  simp
 ·rw[show(((bJ 58 s).length:Int) != 6)=true by simp;omega,bM,if_neg h6]
  rw[jF (n:=6) gj rfl,DT (n:=6) gi rfl (by simp) rfl,GP _ _ rfl,jF (n:=6) (aW _ _ _) rfl]
  exact .pure ⟨((m0.trans ma).trans m1).set (.inl (cF _)) _,rfl⟩
def eD(p:UInt8->Bool):List UInt8->Nat
 | []=>0
 | c::l=>if p c=true then eD p l+1 else 0
theorem Mv(p:UInt8->Bool):∀l,eD p l<=l.length
 | []=>cF _
 | c::l=>by
  unfold eD
  have:=Mv p l
  split<;>simp only[List.length_cons]<;>omega
theorem KB(p:UInt8->Bool):∀l:List UInt8,∀x∈l.take (eD p l),p x=true
 | [],x,h=>by cases h
 | c::l,x,h=>by
  unfold eD at h
  split at h
  ·next hc=>
   rw[List.take_succ_cons]at h
   rcases List.mem_cons.1 h with rfl | h
   ·exact hc
   ·exact KB p l x h
  ·simp at h
theorem GK(p:UInt8->Bool):∀(l:List UInt8) c r,l.drop (eD p l)=c::r->p c=false
 | [],c,r,h=>by simp at h
 | x::l,c,r,h=>by
  unfold eD at h
  split at h
  ·exact GK p l c r h
  ·next hx=>
   simp at h
   rw[<-h.1];simpa using hx
def sJ(c:UInt8):Bool:=decide (c.toNat≠10)
def AU(c:UInt8):Bool:=decide (c.toNat=9)||decide (c.toNat=13)||decide (c.toNat=32)
def Lo(c:UInt8):Bool:=AU c||(decide (32<c.toNat)&&decide (c.toNat<127))
theorem Tf(c:UInt8)(n:Nat)(h:H):ca (n+1) kK [.int .u8 (c.toNat:Nat)] h=some (.bool (AU c),h):=by
 rw[DA]
 unfold AU
 by_cases h9:c.toNat=9
 ·rw[h9];rfl
 by_cases JT:c.toNat=13
 ·rw[JT];rfl
 rw[show(((c.toNat:Nat):Int)==9)=false by simp;omega,show(((c.toNat:Nat):Int)==13)=false by simp;omega,br,br,decide_eq_false h9,decide_eq_false JT]
 by_cases h32:c.toNat=32
 ·rw[h32];rfl
 ·rw[decide_eq_false h32,show(((c.toNat:Nat):Int)==32)=false by simp;omega];rfl
def wh(c:UInt8):Bool:=decide (c.toNat=123)||decide (c.toNat=125)
theorem Qq(c:UInt8)(n:Nat)(h:H):ca (n+1) jT [.int .u8 (c.toNat:Nat)] h=some (.bool (wh c),h):=by
 rw[Cf]
 unfold wh
 by_cases h1:c.toNat=123
 ·rw[h1];rfl
 by_cases h2:c.toNat=125
 ·rw[h2];rfl
 rw[show(((c.toNat:Nat):Int)==123)=false by simp;omega,show(((c.toNat:Nat):Int)==125)=false by simp;omega,br,decide_eq_false h1,decide_eq_false h2];rfl
section
variable {s:Bs}(hs:s.size<=100000)
include hs
theorem Jk(n:Nat)(h:H):∀(r:List UInt8) (k m:Nat),(bs s).drop k=r->k+r.length=s.size->r.length<m->iY n m s (k:Nat) h=some (.int .i64 ((k+eD sJ r:Nat):Int),h)
 | [],k,m+1,hd,hk,_=>by
  rw[qP,aT (by simp at hk;omega),br,qO,br]
  rfl
 | c::r,k,m+1,hd,hk,hm=>by
  have hx:(bs s)[k]?=some c:=by rw[<-List.head?_drop,hd];rfl
  have hd':(bs s).drop (k+1)=r:=by rw[<-List.drop_drop,hd];rfl
  simp only[List.length_cons]at hk hm
  rw[qP,cL (by omega),bM,cC hx,qO]
  unfold eD sJ
  by_cases h10:c.toNat=10
  ·rw[show(((c.toNat:Nat):Int) != 10)=false by simp;omega,br,if_neg (by simp[h10])]
   rfl
  ·rw[show(((c.toNat:Nat):Int) != 10)=true by simp;omega,bM,if_pos (by simp[h10]),aG (by omega),Jk n h r (k+1) m hd' (by omega) (by omega)]
   rw[show k+1+eD sJ r=k+(eD sJ r+1)by omega]
   rfl
theorem Lg{k:Nat}(hk:k<=s.size){n:Nat}(hn:100010<=n)(h:H):ca n nM [.str s,.int .i64 (k:Nat)] h=some (.int .i64 ((k+eD sJ ((bs s).drop k):Nat):Int),h):=by
 obtain⟨n,rfl⟩:∃j,n=j+1:=⟨n - 1,by omega⟩
 rw[Bg]
 have hl:((bs s).drop k).length=s.size - k:=by rw[List.length_drop,aP]
 exact Jk hs n h _ k n rfl (by omega) (by omega)
theorem Ta(n:Nat)(hn:1<=n)(h:H):∀(d k m:Nat),k+d<=s.size->d<m->(∀x∈((bs s).drop k).take d,Lo x=true)->lZ n m s (k:Nat) ((k+d:Nat):Int) h=some (.int .i64 ((k+d:Nat):Int),h)
 | 0,k,m+1,hk,_,_=>by
  rw[uB,aT (by omega),br,uA,br]
  rfl
 | d+1,k,m+1,hk,hm,hc=>by
  obtain⟨n,rfl⟩:∃j,n=j+1:=⟨n - 1,by omega⟩
  have hlt:k<(bs s).length:=by rw[aP];omega
  obtain⟨c,hx⟩:∃c,(bs s)[k]?=some c:=⟨_,List.getElem?_eq_getElem hlt⟩
  have hd:(bs s).drop k=c::(bs s).drop (k+1):=by
   have e:=List.drop_eq_getElem_cons hlt
   rw[List.getElem?_eq_getElem hlt]at hx
   rw[e,oh hx]
  have h1:Lo c=true:=hc c (by rw[hd];simp)
  have ih:=Ta (n+1) (by omega) h d (k+1) m (by omega) (by omega) λx hx=>hc x (by rw[hd,List.take_succ_cons];exact List.mem_cons_of_mem _ hx)
  rw[show k+1+d=k+(d+1)by omega]at ih
  have on:gD (n+1) m s (k:Nat) ((k+(d+1):Nat):Int) true h=some (.int .i64 ((k+(d+1):Nat):Int),h):=by
   rw[uA,bM,aG (by omega)]
   exact ih
  rw[uB,cL (by omega),bM,cC hx,Tf,fD]
  simp only[aq]
  cases hb:AU c with
  | true=>rw[bM];exact on
  | false=>
   have:32<c.toNat/\c.toNat<127:=by simpa[Lo,hb]using h1
   rw[br,cC hx,show decide (((c.toNat:Nat):Int)>32)=true by simp;omega,bM,cC hx,show decide (((c.toNat:Nat):Int)<127)=true by simp;omega]
   exact on
theorem agn{k d:Nat}(hk:k+d<=s.size)(hc:∀x∈((bs s).drop k).take d,Lo x=true){n:Nat}(hn:100010<=n)(h:H):ca n sV [.str s,.int .i64 (k:Nat),.int .i64 ((k+d:Nat):Int)] h=some (.int .i64 ((k+d:Nat):Int),h):=by
 obtain⟨n,rfl⟩:∃j,n=j+1:=⟨n - 1,by omega⟩
 rw[FE]
 exact Ta hs n (by omega) h d k n hk (by omega) hc
theorem JM(n:Nat)(hn:1<=n)(h:H):∀(r:List UInt8) (k m:Nat),(bs s).drop k=r->k+r.length=s.size->r.length<m->iZ n m s (k:Nat) h=some (.int .i64 ((k+eD aX r:Nat):Int),h)
 | [],k,m+1,hd,hk,_=>by
  rw[qQ,aT (by simp at hk;omega),br,jV,br]
  rfl
 | c::r,k,m+1,hd,hk,hm=>by
  obtain⟨n,rfl⟩:∃j,n=j+1:=⟨n - 1,by omega⟩
  have hx:(bs s)[k]?=some c:=by rw[<-List.head?_drop,hd];rfl
  have hd':(bs s).drop (k+1)=r:=by rw[<-List.drop_drop,hd];rfl
  simp only[List.length_cons]at hk hm
  have off:aX c=false->cQ (n+1) m s (k:Nat) false h=some (.int .i64 ((k+eD aX (c::r):Nat):Int),h):=λhp=>by
   rw[jV,br]
   unfold eD
   rw[if_neg (by rw[hp];decide)]
   rfl
  have on:aX c=true->cQ (n+1) m s (k:Nat) true h=some (.int .i64 ((k+eD aX (c::r):Nat):Int),h):=λhp=>by
   rw[jV,bM,aG (by omega),JM (n+1) (by omega) h r (k+1) m hd' (by omega) (by omega)]
   unfold eD
   rw[if_pos hp,show k+(eD aX r+1)=k+1+eD aX r by omega]
   cases r<;>rfl
  have hno:∀(P:Prop),(aX c=true->P)->¬P->aX c=false:=λP h1 h2=>by
   cases hp:aX c with
   | true=>exact absurd (h1 hp) h2
   | false=>rfl
  rw[qQ,cL (by omega),bM,cC hx]
  by_cases h1:32<c.toNat
  ·rw[show decide (((c.toNat:Nat):Int)>32)=true by simp;omega,bM,cC hx]
   by_cases h2:c.toNat<127
   ·rw[show decide (((c.toNat:Nat):Int)<127)=true by simp;omega,bM,cC hx]
    by_cases h3:c.toNat=35
    ·rw[show(((c.toNat:Nat):Int) != 35)=false by simp;omega,br]
     exact off (hno (c.toNat≠35) (λhp=>(uH hp).2.2.1) (by omega))
    ·rw[show(((c.toNat:Nat):Int) != 35)=true by simp;omega,bM,cC hx,Qq,fD]
     simp only[aq]
     by_cases h4:c.toNat=123∨c.toNat=125
     ·rw[show wh c=true by simpa[wh]using h4]
      exact off (hno (¬(c.toNat=123∨c.toNat=125)) (λhp=>by have:=uH hp;omega) (λh=>h h4))
     ·rw[show wh c=false by simpa[wh,not_or]using h4]
      exact on (by simp[aX];omega)
   ·rw[show decide (((c.toNat:Nat):Int)<127)=false by simp;omega,br]
    exact off (hno (c.toNat<=126) (λhp=>(uH hp).2.1) (by omega))
  ·rw[show decide (((c.toNat:Nat):Int)>32)=false by simp;omega,br]
   exact off (hno (33<=c.toNat) (λhp=>(uH hp).1) (by omega))
theorem U0{k:Nat}{c:UInt8}(hx:(bs s)[k]?=some c){n:Nat}(hn:100010<=n)(h:H):ca n nO [.str s,.int .i64 (k:Nat)] h=some (.int .i64 ((if wh c=true then k+1 else k+eD aX ((bs s).drop k):Nat):Int),h):=by
 obtain⟨n,rfl⟩:∃j,n=j+1+1:=⟨n - 2,by omega⟩
 have hlt:k<s.size:=by rw[<-aP];exact(sS hx).1
 rw[Bh,cC hx,Qq,fD]
 simp only[aq]
 cases hb:wh c with
 | true=>rw[bM,aG (by omega)];rfl
 | false=>
  rw[br]
  have hl:((bs s).drop k).length=s.size - k:=by rw[List.length_drop,aP]
  exact JM hs (n+1) (by omega) h _ k (n+1) rfl (by omega) (by omega)
end
section
variable {s:Bs}{L:List Wd}{line:Int}{b:Bool}{k:Nat}
theorem Xr{c:UInt8}{r:List UInt8}(hc:AU c=true):eU s (rs L line b) k (c::r)=eU s (rs L line b) ((k+1:Nat):Int) r:=by
 have hc:c.toNat=9∨c.toNat=13∨c.toNat=32:=by simpa[AU,or_assoc]using hc
 have e:ir s (rs L line b) c.toNat k=(rs L line b,true):=by
  have e0:gr s (rs L line b) k=(rs L line b,true):=pZ (by exact(by decide:(-1:Int)<0)) _
  unfold ir
  rw[if_neg (by omega),if_neg (by show ¬(false=true);decide),if_neg (by omega),if_pos (by omega),e0]
 rw[eU,if_neg (by intro h;have:(0:Int) <= -1:=h.1;omega),if_pos (by unfold H7;simp;omega),e]
 simp only[if_true]
 rfl
theorem ad5{r:List UInt8}(hr:r=[]∨∃q,r=10::q):eU s {rs L line b with note:=true} k r=eU s (rs L line b) k r:=by
 rcases hr with rfl | ⟨q,rfl⟩
 ·rfl
 ·rw[eU,eU]
  rfl
theorem Qr{x:List Wd}:∀(d:Nat) (k:Nat) (r:List UInt8),d<=r.length->(∀c∈r.take d,c.toNat≠10)->eU s {rs L line b with note:=true} k r=.inl x->(∀c∈r.take d,Lo c=true)/\eU s {rs L line b with note:=true} ((k+d:Nat):Int) (r.drop d)=.inl x
 | 0,k,r,_,_,h=>⟨λc hc=>by simp at hc,h⟩
 | d+1,k,[],hl,_,_=>absurd hl (by simp)
 | d+1,k,c::r,hl,hn,h=>by
  have h10:=hn c (by simp)
  rw[eU,if_neg (by intro h;have:(0:Int) <= -1:=h.1;omega)]at h
  split at h
  ·next hm=>
   have e:ir s {rs L line b with note:=true} c.toNat k=({rs L line b with note:=true},true):=by
    unfold ir
    rw[if_neg (by omega),if_pos (by rfl)]
   rw[e]at h
   simp only[if_true]at h
   obtain⟨h1,h2⟩:=Qr d (k+1) r (by simpa using hl) (λx hx=>hn x (by rw[List.take_succ_cons];exact List.mem_cons_of_mem _ hx)) h
   refine⟨λx hx=>?_,?_⟩
   ·rw[List.take_succ_cons]at hx
    rcases List.mem_cons.1 hx with rfl | hx
    ·simp only[H7,Bool.or_eq_true,Bool.and_eq_true,decide_eq_true_eq]at hm
     simp only[Lo,AU,Bool.or_eq_true,Bool.and_eq_true,decide_eq_true_eq]
     omega
    ·exact h1 x hx
   ·rw[show k+1+d=k+(d+1)by omega]at h2
    exact h2
  ·cases h
theorem Xt{c:UInt8}{r:List UInt8}(hc:c.toNat=35):eU s (rs L line b) k (c::r)=eU s {rs L line b with note:=true} ((k+1:Nat):Int) r:=by
 have e:ir s (rs L line b) c.toNat k=({rs L line b with note:=true},true):=by
  have e0:gr s (rs L line b) k=(rs L line b,true):=pZ (by exact(by decide:(-1:Int)<0)) _
  unfold ir
  rw[if_neg (by omega),if_neg (by show ¬(false=true);decide),if_pos (by omega),e0]
 rw[eU,if_neg (by intro h;have:(0:Int) <= -1:=h.1;omega),if_pos (by unfold H7;simp;omega),e]
 simp only[if_true]
 rfl
theorem Xs{c:UInt8}{r:List UInt8}(hc:wh c=true)(hx:(bs s)[k]?=some c):eU s (rs L line b) k (c::r)=eU s (rs (L++[wd (mk [c]) k line]) line true) ((k+1:Nat):Int) r:=by
 have hc:c.toNat=123∨c.toNat=125:=by simpa[wh]using hc
 have aaa:cut s k ((k:Int)+1)=mk [c]:=by
  have:=Nl (s:=s) (x:=k) (k:=k) (by omega) (Int.le_refl _) (c:=c) hx
  rw[this]
  unfold cut
  simp[ko]
 have e:ir s (rs L line b) c.toNat k=(rs (L++[wd (mk [c]) k line]) line true,true):=by
  have e0:gr s (rs L line b) k=(rs L line b,true):=pZ (by exact(by decide:(-1:Int)<0)) _
  unfold ir
  rw[if_neg (by omega),if_neg (by show ¬(false=true);decide),if_neg (by omega),if_neg (by omega),if_pos (by omega),e0]
  unfold gr
  rw[if_neg (by show ¬((k:Nat):Int)<0;omega)]
  show(({l:=L++[wd (cut s k ((k:Int)+1)) k line],line:=line,from' := -1,vF:=true,note:=false}:Rd),true)=_
  rw[aaa]
  rfl
 rw[eU,if_neg (by intro h;have:(0:Int) <= -1:=h.1;omega),if_pos (by unfold H7;simp;omega),e]
 simp only[if_true]
 rfl
theorem Y6{x:List Wd}{k0:Nat}:∀(d:Nat) (j:Nat) (r:List UInt8),d<=r.length->(∀c∈r.take d,aX c=true)->j<=61->eU s {rs L line b with from':=k0} ((k0+j:Nat):Int) r=.inl x->j+d<=61/\eU s {rs L line b with from':=k0} ((k0+j+d:Nat):Int) (r.drop d)=.inl x
 | 0,j,r,_,_,hj,h=>⟨hj,h⟩
 | d+1,j,[],hl,_,_,_=>absurd hl (by simp)
 | d+1,j,c::r,hl,hp,hj,h=>by
  have hc:=hp c (by simp)
  rw[eU]at h
  split at h
  ·cases h
  ·next LS=>
   have aFi:((k0+j:Nat):Int) - (k0:Int)<=60:=by
    have:¬((0:Int)<=(k0:Int)/\60<((k0+j:Nat):Int) - (k0:Int)):=LS
    omega
   have e1:ir s {rs L line b with from':=k0} c.toNat ((k0+j:Nat):Int)=({rs L line b with from':=k0},true):=by rw[DQ hc (by rfl),if_neg (by show ¬((k0:Nat):Int)<0;omega)]
   rw[if_pos (Gy hc),e1]at h
   simp only[if_true]at h
   obtain⟨h1,h2⟩:=Y6 d (j+1) r (by simpa using hl) (λy hy=>hp y (by rw[List.take_succ_cons];exact List.mem_cons_of_mem _ hy)) (by omega) h
   exact⟨by omega,by rw[show k0+j+(d+1)=k0+(j+1)+d by omega];exact h2⟩
theorem aa9{x:List Wd}{c:UInt8}{r:List UInt8}(hd:(bs s).drop k=c::r)(hp:aX c=true)(h:eU s (rs L line b) k (c::r)=.inl x):
  eD aX (c::r)<=60/\eU s (rs (L++[wd (mk ((c::r).take (eD aX (c::r)))) k line]) line true) ((k+eD aX (c::r):Nat):Int) ((c::r).drop (eD aX (c::r)))=.inl x:=by
 have e1:ir s (rs L line b) c.toNat k=({rs L line b with from':=k},true):=by rw[DQ hp rfl,if_pos (by exact(by decide:(-1:Int)<0))]
 rw[eU,if_neg (by intro h;have:(0:Int) <= -1:=h.1;omega),if_pos (Gy hp),e1]at h
 simp only[if_true]at h
 have hrun:eD aX (c::r)=eD aX r+1:=by
  rw[eD,if_pos hp]
 obtain⟨h1,h2⟩:=Y6 (k0:=k) (eD aX r) 1 r (Mv _ _) (KB _ r) (by decide) h
 have aaa:cut s k ((k+(eD aX r+1):Nat):Int)=mk ((c::r).take (eD aX r+1)):=by
  unfold cut
  rw[show((k:Nat):Int).toNat=k from rfl,show((k+(eD aX r+1):Nat):Int).toNat=k+(eD aX r+1)from rfl,hd,show k+(eD aX r+1) - k=eD aX r+1 by omega]
 have hsz:(mk ((c::r).take (eD aX r+1))).size=eD aX r+1:=by
  rw[size_mk,List.length_take,List.length_cons]
  have:=Mv aX r
  omega
 rw[show k+1+eD aX r=k+(eD aX r+1)by omega]at h2
 have hend:eD aX r+1<=60->gr s {rs L line b with from':=(k:Int)} ((k+(eD aX r+1):Nat):Int)=(rs (L++[wd (mk ((c::r).take (eD aX r+1))) k line]) line true,true):=λLS=>by
  unfold gr
  rw[if_neg (by show ¬((k:Nat):Int)<0;omega)]
  show(({l:=L++[wd (cut s k ((k+(eD aX r+1):Nat):Int)) k line],line:=line,from' := -1,vF:=true,note:=false}:Rd),decide ((cut s k ((k+(eD aX r+1):Nat):Int)).size<=60))=_
  rw[aaa,hsz,decide_eq_true LS]
  rfl
 have agN:¬eD aX r+1<=60->(gr s {rs L line b with from':=(k:Int)} ((k+(eD aX r+1):Nat):Int)).2=false:=λLS=>by
  unfold gr
  rw[if_neg (by show ¬((k:Nat):Int)<0;omega)]
  show decide ((cut s k ((k+(eD aX r+1):Nat):Int)).size<=60)=false
  rw[aaa,hsz,decide_eq_false LS]
 have Wi:(c::r).drop (eD aX (c::r))=r.drop (eD aX r):=by rw[hrun];rfl
 rw[Wi,hrun]
 have hnext:=GK aX r
 revert h2 hnext
 generalize r.drop (eD aX r)=q
 intro h2 hnext
 cases q with
 | nil=>
  unfold eU at h2
  by_cases LS:eD aX r+1<=60
  ·rw[hend LS]at h2
   refine⟨LS,?_⟩
   rw[eU,pZ (by exact(by decide:(-1:Int)<0))]
   exact h2
  ·rw[agN LS,if_neg (by decide)]at h2
   cases h2
 | cons y q=>
  have hy:=hnext y q rfl
  rw[eU]at h2
  split at h2
  ·cases h2
  ·next Va=>
   have aFj:¬((0:Int)<=(k:Int)/\60<((k+(eD aX r+1):Nat):Int) - (k:Int)):=Va
   have LS:eD aX r+1<=60:=by omega
   refine⟨LS,?_⟩
   split at h2
   ·next hm=>
    have hmy:y.toNat=10∨y.toNat=35∨(y.toNat=32∨y.toNat=9∨y.toNat=13)∨y.toNat=123∨y.toNat=125:=by
     simp only[H7,Bool.or_eq_true,Bool.and_eq_true,decide_eq_true_eq]at hm
     have:¬(33<=y.toNat/\y.toNat<=126/\y.toNat≠35/\y.toNat≠123/\y.toNat≠125):=λhh=>by
      have:aX y=true:=by simp[aX,hh]
      rw[hy]at this;cases this
     omega
    have e0:gr s (rs (L++[wd (mk ((c::r).take (eD aX r+1))) k line]) line true) ((k+(eD aX r+1):Nat):Int)=(rs (L++[wd (mk ((c::r).take (eD aX r+1))) k line]) line true,true):=pZ (by exact(by decide:(-1:Int)<0)) _
    have et:ir s {rs L line b with from':=(k:Int)} y.toNat ((k+(eD aX r+1):Nat):Int)=ir s (rs (L++[wd (mk ((c::r).take (eD aX r+1))) k line]) line true) y.toNat ((k+(eD aX r+1):Nat):Int):=by
     unfold ir
     rw[hend LS,e0]
     simp only
     rcases hmy with h | h | h | h
     ·rw[if_pos (by omega),if_pos (by omega)]
     ·rw[if_neg (by omega),if_neg (by show ¬(false=true);decide),if_pos (by omega),if_neg (by omega),if_neg (by show ¬(false=true);decide),if_pos (by omega)]
     ·rw[if_neg (by omega),if_neg (by show ¬(false=true);decide),if_neg (by omega),if_pos (by omega),if_neg (by omega),if_neg (by show ¬(false=true);decide),if_neg (by omega),if_pos (by omega)]
     ·rw[if_neg (by omega),if_neg (by show ¬(false=true);decide),if_neg (by omega),if_neg (by omega),if_pos (by omega),if_neg (by omega),if_neg (by show ¬(false=true);decide),if_neg (by omega),if_neg (by omega),if_pos (by omega)]
    rw[et]at h2
    rw[eU,if_neg (by intro h;have:(0:Int) <= -1:=h.1;omega),if_pos hm]
    split at h2
    ·next ht=>rw[if_pos ht];exact h2
    ·cases h2
   ·cases h2
theorem Y7{r:List UInt8}:eU s (rs L line b) k (10::r)=eU s (rs (if b=true then L++[wd nl k line]else L) (line+1) false) ((k+1:Nat):Int) r:=by
 have e:ir s (rs L line b) (10:UInt8).toNat k=(rs (if b=true then L++[wd nl k line]else L) (line+1) false,true):=by
  have e0:gr s (rs L line b) k=(rs L line b,true):=pZ (by exact(by decide:(-1:Int)<0)) _
  unfold ir
  rw[if_pos (by decide),e0]
  rfl
 rw[eU,if_neg (by intro h;have:(0:Int) <= -1:=h.1;omega),if_pos (by decide),e]
 simp only[if_true]
 rfl
theorem step_end:eU s (rs L line b) k []=.inl (if b=true then L++[wd nl k line]else L):=by
 rw[eU,pZ (by exact(by decide:(-1:Int)<0)),if_pos rfl]
 rfl
end
end Go.Ev.Tryz
