/- Own texts, joined: . -/
import Derived.Test.YtongjlmclckboaaGreatDoorM4
set_option linter.all false
namespace Go.Ev
open Go.RowKit
theorem abL{h:H}{i:Nat}(ha:KN h i):∃c,yo h i c:=by
 unfold KN at ha
 split at ha
 ·rename_i hg;exact⟨none,by unfold yo;rw[hg]⟩
 ·rename_i m since seen last hg
  split at ha
  ·rename_i es eO hgm
   by_cases hx:∃e∈es,e.2.2∉seen
   ·obtain⟨e,he,hs⟩:=hx
    exact⟨some (e.1,e.2.1,_),by unfold yo;rw[hg];simp only[hgm];exact⟨e,he,hs,rfl,rfl,rfl⟩⟩
   ·exact⟨none,by unfold yo;rw[hg];simp only[hgm];exact λe he hs=>absurd ⟨e,he,hs⟩ hx⟩
  ·exact absurd ha id
 ·exact absurd ha id
theorem Sq{h h':H}{i:Nat}{k v:AV}(hn:yo h i (some (k,v,h'))):h.next<=h'.next/\(h.WF->h'.WF):=by
 unfold yo at hn
 split at hn
 ·cases hn
 ·rename_i hg
  split at hn
  ·obtain⟨e,_,_,_,_,rfl⟩:=hn
   exact⟨cF _,λhw=>EH hw hg⟩
  ·exact absurd hn id
 ·exact absurd hn id
open Classical in
noncomputable def H8(h:H)(i:Nat)(f:AV->AV->H->Option Unit)(g:Option Unit):Option Unit:=
 if KN h i/\∀c,yo h i c->(match c with | none=>g | some (k,v,h')=>f k v h')=some ()then some ()else none
theorem Ln{h:H}{i:Nat}{f:AV->AV->H->Option Unit}{g:Option Unit}(e:H8 h i f g=some ()):KN h i/\∀c,yo h i c->(match c with | none=>g | some (k,v,h')=>f k v h')=some ():=by
 unfold H8 at e
 split at e
 ·assumption
 ·cases e
noncomputable def AO{β:Type}(m:Option Nat)(h:H)(k:Nat->H->Option β):Option β:=match Fh m h with | some o=>k h.next (h.new o) | none=>none
def Mb(h:H)(i:Nat):Option (AV×AV):=
 match h.get i with
 | some (.AI (some m) _ seen last)=>
  match h.xq m,seen.getLast? with
  | some (es,eO),some stamp=>if eO=last then(match es.filter λe=>e.2.2==stamp with | [e]=>some (e.1,e.2.1) | _=>none)else none
  | _,_=>none
 | _=>none
theorem PM{α:Type}{p:α->Bool}:∀{l:List α} {x:α},l.filter p=[x]->l.find? p=some x
 | y::l,x,h=>by
  rw[List.filter_cons]at h
  rw[List.find?_cons]
  cases hp:p y with
  | true=>
   rw[hp]at h
   simp only[if_true,List.cons.injEq]at h
   rw[h.1]
  | false=>
   rw[hp]at h
   simp only[Bool.false_eq_true,if_false]at h
   exact PM h
theorem TE{P:Program}{r:Ren}{h:H}{w:World}(an:Rel r h w){i:Nat}{a b:AV}{it':Value}(hs:Mb h i=some (a,b))(hx:VR r (.ptr (some (i,0))) it'):
  ∃v',(Instr.entry it').run P w=.ok v' w/\VR r (.dJ [a,b]) v':=by
 unfold Mb at hs
 cases hx with
 | ptr ht=>
 rename_i t
 split at hs
 ·rename_i m since seen last hg
  obtain⟨m',hb,h0,hm⟩:=an.obj _ _ _ ht hg
  cases hm with
  | map htm=>
  rename_i tm
  have j9:(getObj t.blk).run P w=.ok (.mapIter (some tm.blk) since seen.toArray last) w:=by simp[getObj,Sem.run,hb]
  split at hs
  ·rename_i es eO stamp hgm hst
   obtain⟨E,hbm,⟨E',vP,hl,TY⟩,hp⟩:=an.xq htm hgm
   have adj:=kF (P:=P) hbm
   split at hs
   ·rename_i axy
    split at hs
    ·rename_i e hf
     cases hs
     have hmem:e∈es/\(e.2.2==stamp)=true:=by
      have:e∈es.filter λe=>e.2.2==stamp:=by rw[hf];simp
      exact List.mem_filter.1 this
     obtain⟨j,hj⟩:=List.getElem?_of_mem hmem.1
     have hlt:j<E'.length:=by rw[<-hl];exact(sS hj).1
     have hv:=TY j e _ hj (List.getElem?_eq_getElem hlt)
     have hlen:(E.toList.filter λe=>e.born==stamp).length=1:=by
      rw[<-(vP.filter _).length_eq]
      have e1:(es.filter λe=>e.2.2==stamp).length=1:=by rw[hf];rfl
      rw[<-e1,<-List.countP_eq_length_filter,<-List.countP_eq_length_filter]
      have hmap:E'.map (·.born)=es.map (·.2.2):=by
       apply List.ext_getElem?
       intro q
       rw[List.getElem?_map,List.getElem?_map]
       cases hq:es[q]? with
       | none=>
        have:E'[q]?=none:=by
         rw[List.getElem?_eq_none_iff]at hq ⊢
         omega
        rw[this];rfl
       | some x=>
        have JW:q<E'.length:=by rw[<-hl];exact(sS hq).1
        rw[List.getElem?_eq_getElem JW]
        simp only[Option.map_some]
        rw[(TY q x _ hq (List.getElem?_eq_getElem JW)).2.2]
      have c1:E'.countP (λe=>e.born==stamp)=(E'.map (·.born)).countP (·==stamp):=by rw[List.countP_map];rfl
      have c2:es.countP (λe=>e.2.2==stamp)=(es.map (·.2.2)).countP (·==stamp):=by rw[List.countP_map];rfl
      rw[c1,c2,hmap]
     obtain⟨y,hy⟩:∃y,E.toList.filter (λe=>e.born==stamp)=[y]:=List.length_eq_one_iff.1 hlen
     have hye:y=E'[j]:=by
      have:E'[j]∈E.toList.filter λe=>e.born==stamp:=List.mem_filter.2 ⟨vP.mem_iff.1 (List.getElem_mem hlt),by rw[<-hv.2.2];exact hmem.2⟩
      rw[hy]at this
      exact(List.mem_singleton.1 this).symm
     have hfind:E.find? (λe=>e.born==stamp)=some E'[j]:=by
      rw[<-Array.find?_toList,PM hy,hye]
     refine⟨.tuple #[E'[j].key,E'[j].val],?_,XQ hv.1 hv.2.1⟩
     have ada:seen.toArray.back?=some stamp:=by rw[List.back?_toArray];exact hst
     have hne:(eO != last)=false:=by simp[axy]
     simp only[Instr.entry,h0,Nat.add_zero,Sem.run_bind,j9,Result.andThen_ok,ada,adj,hne,Bool.false_eq_true,if_false,hfind,Sem.run_pure]
    ·cases hs
   ·cases hs
  ·cases hs
 ·cases hs
noncomputable def J7{β:Type}(h:H)(i:Nat)(f:AV->AV->Option β):Option β:=match Mb h i with | some (a,b)=>f a b | none=>none
structure QB(P:Program) where
 id:FuncId
 run:List AV->H->(AV->H->Option Unit)->Option Unit
 there:∃fn,P.funcs[id]?=some fn/\fn.body.isNone=false/\(fn.name == "runtime.NumGoroutine")=false
 ends:∀args h k,run args h k=some ()->∃v h',k v h'=some ()/\h.next<=h'.next/\(h.WF->h'.WF)
 GO:∀args h k (r:Ren) (w:World) (args':Array Value),run args h k=some ()->Rel r h w->(∀i,h.next<=i->r i=none)->kg r args args'.toList->
  Calls P id args' w λe w'=>∃r' v v' h',e=.returned v'/\VR r' v v'/\Post r h w r' h' w'/\k v h'=some ()
 fits:List AV->Bool:=λ_=>true
structure CR where
 isR:FuncId->Bool
 run:FuncId->List AV->H->(AV->H->Option Unit)->Option Unit
structure CR.Sound(P:Program)(cr:CR):Prop where
 there:∀f,cr.isR f=true->∃fn,P.funcs[f]?=some fn/\fn.body.isNone=false/\(fn.name == "runtime.NumGoroutine")=false
 ends:∀f args h k,cr.isR f=true->cr.run f args h k=some ()->∃v h',k v h'=some ()/\h.next<=h'.next/\(h.WF->h'.WF)
 GO:∀f args h k (r:Ren) (w:World) (args':Array Value),cr.isR f=true->cr.run f args h k=some ()->Rel r h w->(∀i,h.next<=i->r i=none)->kg r args args'.toList->
  Calls P f args' w λe w'=>∃r' v v' h',e=.returned v'/\VR r' v v'/\Post r h w r' h' w'/\k v h'=some ()
noncomputable def yF(P:Program)(ck:CK)(cr:CR)(ρ:Operand->AV)(op:Op)(h:H)(k:AV->H->Option Unit):Option Unit:=
  match op with
  | .next it false=>cZ (ρ it) λp=>aC p λi off=>(match off with | 0=>H8 h i (λa b h'=>k (.dJ [.bool true,a,b]) h') (k (.dJ [.bool false]) h) | _=>none)
  | .entry it=>cZ (ρ it) λp=>aC p λi off=>(match off with | 0=>J7 h i λa b=>k (.dJ [a,b]) h | _=>none)
  | .range t x=>(match ahl P t with | true=>zf (ρ x) λm=>AO m h λi h'=>k (.ptr (some (i,0))) h' | false=>so P ck ρ (.range t x) h k)
  | .call c=>
    (match c.callee with
     | .value x=>
       (match ρ x with
        | .func f first caps=>
          (match cr.isR f with
           | true=>cr.run f (first++c.args.toList.map ρ++caps) h k
           | false=>ck.run f (first++c.args.toList.map ρ++caps) h k)
        | _=>none)
     | _=>so P ck ρ (.call c) h k)
  | op=>so P ck ρ op h k
noncomputable def Gl(P:Program)(ck:CK)(cr:CR)(ops:Array Oper)(N:Nat)(A:KF)(o:Oper)(h:H)(k:KF->AV->H->Option Unit):Option Unit:=
 match o.guard with
 | none=>yF P ck cr (fj N A) o.op h λv h'=>JG P o.op o.type v λv=>k A v h'
 | some (j,want)=>
  match (ops[j]?).bind (·.dst)with
  | none=>k A (.dJ []) h
  | some t=>
   match fj N A (.tmp t)with
   | .dJ []=>k A (.dJ []) h
   | v=>asBool v λb=>cond b
     (match want with | true=>yF P ck cr (fj N (xW N A (some t) (.bool true))) o.op h λv h'=>JG P o.op o.type v λv=>k (xW N A (some t) (.bool true)) v h' | false=>k (xW N A (some t) (.bool true)) (.dJ []) h)
     (match want with | true=>k (xW N A (some t) (.bool false)) (.dJ []) h | false=>yF P ck cr (fj N (xW N A (some t) (.bool false))) o.op h λv h'=>JG P o.op o.type v λv=>k (xW N A (some t) (.bool false)) v h')
noncomputable def Fe(P:Program)(ck:CK)(cr:CR)(ops:Array Oper)(N:Nat):List Oper->KF->H->(KF->H->Option Unit)->Option Unit
 | [],A,h,k=>k A h
 | o::l,A,h,k=>Gl P ck cr ops N A o h λA' v h'=>Fe P ck cr ops N l (xW N A' o.dst v) h' k
noncomputable def ato(P:Program)(ck:CK)(cr:CR)(N:Nat)(ops:Array Oper):KC Unit:=λA h kn _ _=>Fe P ck cr ops N ops.toList A h kn
section
variable {P:Program}{ck:CK}{cr:CR}{ops:Array Oper}{N:Nat}{o:Oper}
theorem FP{A:KF}{h:H}{k:KF->AV->H->Option Unit}(e:Gl P ck cr ops N A o h k=some ()):
  ∃A' b,fj N A'=fj N A/\eP ops (fj N A) o=some b/\(if b=true then yF P ck cr (fj N A) o.op h (λv h'=>JG P o.op o.type v λv=>k A' v h')=some ()else k A' (.dJ []) h=some ()):=by
 unfold Gl at e
 split at e
 ·rename_i hg
  exact⟨A,true,rfl,by simp[eP,hg],e⟩
 ·rename_i j want hg
  split at e
  ·rename_i hd
   exact⟨A,false,rfl,by simp only[eP,hg,hd],e⟩
  ·rename_i t hd
   split at e
   ·rename_i hv
    exact⟨A,false,rfl,by simp only[eP,hg,hd,hv],e⟩
   ·obtain⟨b,hb,e'⟩:=rA e
    clear e;have e:=e';clear e'
    have hsame:=Hp hb (by intro e;cases e)
    cases b<;>cases want<;>simp only[bM,br]at e
    ·rw[hsame]at e
     exact⟨_,true,hsame,by simp[eP,hg,hd,hb],e⟩
    ·exact⟨_,false,hsame,by simp only[eP,hg,hd,hb];rfl,e⟩
    ·exact⟨_,false,hsame,by simp only[eP,hg,hd,hb];rfl,e⟩
    ·rw[hsame]at e
     exact⟨_,true,hsame,by simp[eP,hg,hd,hb],e⟩
theorem Dx(sr:ck.call.Sound P){ρ:Operand->AV}{op:Op}{h:H}{k:AV->H->Option Unit}(e:so P ck ρ op h k=some ()):∃v h',k v h'=some ()/\h.next<=h'.next/\(h.WF->h'.WF):=by
 obtain⟨v,h',h1,h2⟩:=vb e
 exact⟨v,h',h2,IZ sr h1⟩
theorem W3(sr:ck.call.Sound P)(zA:cr.Sound P){ρ:Operand->AV}{op:Op}{h:H}{k:AV->H->Option Unit}(e:yF P ck cr ρ op h k=some ()):∃v h',k v h'=some ()/\h.next<=h'.next/\(h.WF->h'.WF):=by
 unfold yF at e
 split at e
 ·obtain⟨p,hp,e⟩:=gL e
  cases p with
  | none=>cases e
  | some q=>
   obtain⟨i,off⟩:=q
   simp only[aC]at e
   split at e
   ·obtain⟨ha,hn⟩:=Ln e
    obtain⟨c,hc⟩:=abL ha
    have:=hn c hc
    match c,hc,this with
    | none,_,h2=>exact⟨_,_,h2,cF _,id⟩
    | some (a,b,h'),hc,h2=>exact⟨_,_,h2,Sq hc⟩
   ·cases e
 ·obtain⟨p,hp,e⟩:=gL e
  cases p with
  | none=>cases e
  | some q=>
   obtain⟨i,off⟩:=q
   simp only[aC]at e
   split at e
   ·unfold J7 at e
    split at e
    ·exact⟨_,_,e,cF _,id⟩
    ·cases e
   ·cases e
 ·split at e
  ·obtain⟨m,hm,e⟩:=rB e
   unfold AO at e
   split at e
   ·exact⟨_,_,e,dW _,QF⟩
   ·cases e
  ·exact Dx sr e
 ·rename_i c
  split at e
  ·rename_i x hx
   split at e
   ·rename_i f first caps hfx
    split at e
    ·rename_i hf
     exact zA.ends _ _ _ _ hf e
    ·exact Dx (ρ:=ρ) (op:=.call c) sr (by simp only[so,hx,hfx];exact e)
   ·cases e
  ·exact Dx sr e
 ·exact Dx sr e
theorem Ox(sr:ck.call.Sound P)(zA:cr.Sound P){A:KF}{h:H}{k:KF->AV->H->Option Unit}(e:Gl P ck cr ops N A o h k=some ()):∃A' v h',k A' v h'=some ()/\h.next<=h'.next/\(h.WF->h'.WF):=by
 obtain⟨A',b,_,_,e⟩:=FP e
 split at e
 ·obtain⟨v,h',h1,h2⟩:=W3 sr zA e
  exact⟨A',v,h',wI h1,h2⟩
 ·exact⟨A',_,h,e,cF _,id⟩
theorem KO.same{r:Ren}{A A':KF}{a:Act}(h:KO r A a)(hsz:a.tmps.size=N)(hs:fj N A'=fj N A):KO r A' a:=by
 intro t ht
 have:=congrFun hs (.tmp t)
 simp only[fj,MW (show t<N by omega)]at this
 rw[this];exact h t ht
theorem KO.mono{r r':Ren}(hr:r.le r'){A:KF}{a:Act}(h:KO r A a):KO r' A a:=λt ht=>(h t ht).mono hr
theorem UI(a:Act)(d:Option Tmp)(v:Value):(a.put d v).tmps.size=a.tmps.size:=by cases d<;>simp[Act.put]
theorem KO.put{r:Ren}{A:KF}{a:Act}(h:KO r A a)(hsz:a.tmps.size=N)(d:Option Tmp){x:AV}{v:Value}(hv:VR r x v):KO r (xW N A d x) (a.put d v):=by
 intro t ht
 rw[UI]at ht
 cases d with
 | none=>exact h t ht
 | some d=>
  by_cases hd:d<N
  ·rw[N2 hd]
   by_cases e:d=t
   ·subst e
    rw[if_pos rfl]
    simp only[Act.eval,Act.put]
    rw[Array.getD_eq_getD_getElem?,Array.getElem?_setIfInBounds_self,if_pos ht]
    exact hv
   ·rw[if_neg e]
    have:=h t ht
    simp only[Act.eval,Act.put]at this ⊢
    rw[Array.getD_eq_getD_getElem?,Array.getElem?_setIfInBounds_ne e,<-Array.getD_eq_getD_getElem?]
    exact this
  ·have hb:Nat.blt d N=false:=by rw[<-Bool.not_eq_true];intro h;exact hd (H9 h)
   simp only[xW,hb]
   have:=h t ht
   have hne:d≠t:=λe=>hd (by rw[e,<-hsz];exact ht)
   simp only[Act.eval,Act.put]at this ⊢
   rw[Array.getD_eq_getD_getElem?,Array.getElem?_setIfInBounds_ne hne,<-Array.getD_eq_getD_getElem?]
   exact this
theorem ND{r r':Ren}{h h':H}{w w':World}(p:Post r h w r' h' w')(hfree:∀i,h.next<=i->r i=none):∀i,h'.next<=i->r' i=none:=by
 intro i hi
 cases hr:r' i with
 | none=>rfl
 | some t=>
  have:=p.dom i t hr (hfree i (qb p.next hi))
  omega
theorem Jv(sr:ck.call.Sound P){ρ:Operand->AV}{h:H}{k:AV->H->Option Unit}(e:so P ck ρ o.op h k=some ()){r:Ren}{a:Act}{w:World}(hρ:∀x,VR r (ρ x) (a.eval x))(an:Rel r h w)(hfree:∀i,h.next<=i->r i=none)
  (Q:Exit->Act->World->Prop) (K:Act->World->Prop) (hK:∀r' v v' h' w',VR r' v v'->Post r h w r' h' w'->k v h'=some ()->K (a.put o.dst v') w'):o.wp P a w K Q:=by
 obtain⟨v,h',h1,h2⟩:=vb e
 exact Oa sr hρ an (λi a _=>hfree i a) h1 Q K λv' w' ⟨r',hv,hp⟩=>hK r' v v' h' w' hv hp h2
theorem aek(sr:ck.call.Sound P)(zA:cr.Sound P){ρ:Operand->AV}{h:H}{k:AV->H->Option Unit}(e:yF P ck cr ρ o.op h k=some ()){r:Ren}{a:Act}{w:World}(hρ:∀x,VR r (ρ x) (a.eval x))(an:Rel r h w)(hfree:∀i,h.next<=i->r i=none)
  (Q:Exit->Act->World->Prop) (K:Act->World->Prop) (hK:∀r' v v' h' w',VR r' v v'->Post r h w r' h' w'->k v h'=some ()->K (a.put o.dst v') w'):o.wp P a w K Q:=by
 unfold yF at e
 split at e
 ·rename_i it hop
  obtain⟨p,hp,e⟩:=gL e
  cases p with
  | none=>cases e
  | some q=>
   obtain⟨i,off⟩:=q
   simp only[aC]at e
   split at e
   ·obtain⟨ha,hn⟩:=Ln e
    have hx:=hρ it
    rw[hp]at hx
    obtain⟨c,v',w',hc,hrun,hres⟩:=Zg (P:=P) (ty:=o.type) an ha hx
    have hr:(execOp a.eval o).run P w=.ok (.value v') w':=by simp[execOp,hop,hrun]
    have hk:=hn c hc
    match c,hc,hres,hk with
    | none,_,hres,hk=>exact wV.of_run (Φ:=λv'' w''=>v''=v'/\w''=w') hr (.inl rfl) ⟨rfl,rfl⟩ Q K λv'' w'' ⟨e1,e2⟩=>by subst e1;subst e2;exact hK r _ _ h _ hres.1 hres.2 hk
    | some (x,y,h'),_,hres,hk=>exact wV.of_run (Φ:=λv'' w''=>v''=v'/\w''=w') hr (.inl rfl) ⟨rfl,rfl⟩ Q K λv'' w'' ⟨e1,e2⟩=>by subst e1;subst e2;exact hK r _ _ h' _ hres.1 hres.2 hk
   ·cases e
 ·rename_i it hop
  obtain⟨p,hp,e⟩:=gL e
  cases p with
  | none=>cases e
  | some q=>
   obtain⟨i,off⟩:=q
   simp only[aC]at e
   split at e
   ·unfold J7 at e
    split at e
    ·rename_i x y hxy
     have hx:=hρ it
     rw[hp]at hx
     obtain⟨v',hrun,hv⟩:=TE (P:=P) an hxy hx
     have hr:(execOp a.eval o).run P w=.ok (.value v') w:=by simp[execOp,hop,hrun]
     exact wV.of_run (Φ:=λv'' w''=>v''=v'/\w''=w) hr (.inl rfl) ⟨rfl,rfl⟩ Q K λv'' w'' ⟨e1,e3⟩=>by subst e1;subst e3;exact hK r _ _ h _ hv (Post.refl an) e
    ·cases e
   ·cases e
 ·rename_i t x hop
  split at e
  ·rename_i hd
   obtain⟨m,hm,e⟩:=rB e
   unfold AO at e
   split at e
   ·rename_i ob hob
    have hx:=hρ x
    rw[hm]at hx
    obtain⟨kt,el,hu⟩:∃kt el,P.underlying t=some (.map kt el):=by
     unfold ahl at hd
     split at hd
     ·rename_i kt el hu;exact⟨kt,el,hu⟩
     ·cases hd
    obtain⟨w',r',hrun,hv,hp⟩:=Q8 (P:=P) an (hfree _ (cF _)) hu hob hx
    have hr:(execOp a.eval o).run P w=.ok (.value (.pointer (some ⟨w.heap.size,0,none⟩))) w':=by simp[execOp,hop,hrun]
    exact wV.of_run (Φ:=λv'' w''=>v''=.pointer (some ⟨w.heap.size,0,none⟩)/\w''=w') hr (.inl rfl) ⟨rfl,rfl⟩ Q K λv'' w'' ⟨e1,e2⟩=>by subst e1;subst e2;exact hK r' _ _ _ _ hv hp e
   ·cases e
  ·rw[<-hop]at e;exact Jv sr e hρ an hfree Q K hK
 ·rename_i c hop
  split at e
  ·rename_i x hx
   split at e
   ·rename_i f first caps hfx
    split at e
    ·rename_i hfind
     have hxv:=hρ x
     rw[hfx]at hxv
     generalize hq:a.eval x=q at hxv
     cases hxv with
     | func _ _ _ first' BL h1 h2 h3 h4=>
     have hargs:kg r (first++c.args.toList.map ρ++caps) (first'++c.args.map a.eval++BL).toList:=by
      rw[Array.toList_append,Array.toList_append]
      have e1:kg r first first'.toList:=⟨by simpa using h1,λi x v hx hv=>h3 i x v hx (by simpa using hv)⟩
      have e2:kg r caps BL.toList:=⟨by simpa using h2,λi x v hx hv=>h4 i x v hx (by simpa using hv)⟩
      exact(e1.append (Cx hρ c.args)).append e2
     obtain⟨fn,hfn,hbody,hname⟩:=zA.there _ hfind
     have Wl:=zA.GO _ _ _ _ r w _ hfind e an hfree hargs
     unfold Oper.wp
     have hr:(execOp a.eval o).run P w=.ok (.enter f (first'++c.args.map a.eval++BL)) w:=by
      have OI:¬fn.name = "runtime.NumGoroutine" := by simpa using hname
      have hb1:¬fn.body=none:=λe=>by rw[e]at hbody;cases hbody
      simp[execOp,hop,resolve,hx,hq,Deferred.ofValue,invoke,callFunc,hfn,hb1,OI]
     rw[hr,Oper.upon_enter]
     refine Wl.mono λe w' he=>?_
     obtain⟨r',v,v',h',rfl,hv',hp,hk⟩:=he
     exact hK r' v v' h' w' hv' hp hk
    ·have e':so P ck ρ (.call c) h k=some ():=by simp only[so,hx,hfx];exact e
     rw[<-hop]at e';exact Jv sr e' hρ an hfree Q K hK
   ·cases e
  ·rw[<-hop]at e;exact Jv sr e hρ an hfree Q K hK
 ·exact Jv sr e hρ an hfree Q K hK
theorem aeZ(sr:ck.call.Sound P)(zA:cr.Sound P){A:KF}{h:H}{k:KF->AV->H->Option Unit}(e:Gl P ck cr ops N A o h k=some ()){r:Ren}{a:Act}{w:World}(hfr:KO r A a)(hsz:a.tmps.size=N)(an:Rel r h w)(hfree:∀i,h.next<=i->r i=none)
  (Q:Exit->Act->World->Prop) (K:Act->World->Prop) (hK:∀r' v v' A' h' w',VR r' v v'->KO r A' a->Post r h w r' h' w'->k A' v h'=some ()->K (a.put o.dst v') w'):
  if Region.wanted o (yielded ops a.tmps)then o.wp P a w K Q∨(o.asks P a w/\LetsOut Q)else K (a.put o.dst undef) w:=by
 have hρ:∀x,VR r (fj N A x) (a.eval x):=λx=>Gn hfr hsz an.rH x
 obtain⟨A',b,hs,hb,e⟩:=FP e
 have hw:=DR hb (λt _=>hρ _)
 rw[hw]
 cases b with
 | false=>
  simp only[Bool.false_eq_true,if_false]at e ⊢
  exact hK r _ undef A' h w (vY (vs:=[]) .nil) (hfr.same hsz hs) (Post.refl an) e
 | true=>
  simp only[if_true]at e ⊢
  exact .inl (aek sr zA e hρ an hfree Q K λr' v v' h' w' h1 h2 h3=>hK r' v v' A' h' w' h1 (hfr.same hsz hs) h2 (wI h3))
theorem GB(sr:ck.call.Sound P)(zA:cr.Sound P){k:KF->H->Option Unit}:∀(l:List Oper) (A:KF) (h:H),Fe P ck cr ops N l A h k=some ()->∃A' h',k A' h'=some ()/\h.next<=h'.next/\(h.WF->h'.WF)
 | [],A,h,e=>⟨A,h,e,cF _,id⟩
 | o::l,A,h,e=>by
  obtain⟨A1,v,h1,e1,g1,w1⟩:=Ox sr zA e
  obtain⟨A2,h2,e2,g2,w2⟩:=GB sr zA l _ _ e1
  exact⟨A2,h2,e2,qb g1 g2,λhw=>w2 (w1 hw)⟩
theorem Mn(sr:ck.call.Sound P)(zA:cr.Sound P){k:KF->H->Option Unit}{Q:Exit->Act->World->Prop}:∀(l:List Oper) (A:KF) (h:H) (r:Ren) (a:Act) (w:World),Fe P ck cr ops N l A h k=some ()->KO r A a->a.tmps.size=N->Rel r h w->(∀i,h.next<=i->r i=none)->
  (∀r' a' w' A' h',KO r' A' a'->a'.tmps.size=N->a'.defers=a.defers->Post r h w r' h' w'->k A' h'=some ()->Q .normal a' w')->wpList P ops Q l a w
 | [],A,h,r,a,w,e,hfr,hsz,an,_,hQ=>hQ r a w A h hfr hsz rfl (Post.refl an) e
 | o::l,A,h,r,a,w,e,hfr,hsz,an,hfree,hQ=>by
  unfold wpList
  refine aeZ sr zA e hfr hsz an hfree Q (wpList P ops Q l) λr' v v' A' h' w' hv hA hp hk=>?_
  refine Mn sr zA l _ h' r' (a.put o.dst v') w' hk ((hA.mono hp.le).put hsz o.dst hv) (by rw[UI];exact hsz) hp.rel (ND hp hfree) λr'' a'' w'' Qz h'' q1 q2 q3 q4 q5=>?_
  exact hQ r'' a'' w'' Qz h'' q1 q2 (by rw[q3];cases o.dst<;>rfl) (hp.trans q4) q5
end
theorem dj.ah2{P:Program}{ck:CK}(sr:ck.call.Sound P){cr:CR}(zA:cr.Sound P){N id:Nat}{ops:Array Oper}:dj true P N (.region id ops false) (ato P ck cr N ops) where
 ends:=λA h kn ke kr x e=>by
  cases x
  obtain⟨A',h',h1,h2,h3⟩:=GB sr zA _ _ _ e
  exact⟨.normal,A',h',h1,h2,h3⟩
 GO:=λr a w A h kn ke kr x B e hfr hsz an hfree hB Q hQ=>by
  cases x
  exact wp_region_list (Mn sr zA _ A h r a w e hfr hsz an (λi hi=>hfree i hi (B.all rfl i)) λr' a' w' A' h' q1 q2 q3 q4 q5=>hQ r' a' w' A' h' .normal q1 q2 q3 q4 q5)
theorem Mr{P:Program}{N:Nat}{A':KF}{h':H}{x:Unit}:∀(xs:List ResultVar) (k':List AV->Option Unit),Bu P N A' h' xs k'=some x->∃vs,k' vs=some x
 | [],k',e=>⟨[],e⟩
 | .tmp t::ys,k',e=>by
  simp only[Bu]at e
  obtain⟨vs,hv⟩:=Mr ys _ e
  exact⟨_,hv⟩
 | .cell ad t::ys,k',e=>by
  simp only[Bu]at e
  obtain⟨v,_,e⟩:=Dr e
  obtain⟨vs,hv⟩:=Mr ys _ e
  exact⟨_,hv⟩
def QB.of{P:Program}{N:Nat}{c:Code}{X:KC Unit}(d:dj true P N c X){f:FuncId}{fn:Func}(hfn:P.funcs[f]?=some fn)(hbody:fn.body=some c)(hname:(fn.name == "runtime.NumGoroutine")=false)(hN:fn.ntmps=N)
  (run:List AV->H->(AV->H->Option Unit)->Option Unit) (hrun:∀args h k,run args h k=some ()->args.length<=N/\∃dec:AV->H->Option Unit,(∀v h,dec v h=some ()->k v h=some ())/\aiS P N fn.results X args h dec=some ()) (fits:List AV->Bool:=λ_=>true):QB P where
 id:=f
 run:=run
 fits:=fits
 there:=⟨fn,hfn,by rw[hbody];rfl,hname⟩
 ends:=λargs h k e=>by
  obtain⟨_,dec,agS,e⟩:=hrun args h k e
  obtain⟨e1,A1,h1,l1,g1,w1⟩:=d.ends _ h _ _ _ _ e
  cases e1 with
  | normal=>obtain⟨vs,hv⟩:=Mr _ _ l1;exact⟨_,h1,agS _ _ hv,g1,w1⟩
  | ret=>obtain⟨vs,hv⟩:=Mr _ _ l1;exact⟨_,h1,agS _ _ hv,g1,w1⟩
  | exit i=>cases l1
 GO:=λargs h k r w args' e an hfree hargs=>by
  obtain⟨hlen,dec,agS,e⟩:=hrun args h k e
  refine calls_of_wp hfn hbody ?_
  have hl:args.length=args'.size:=by simpa using hargs.1
  have hsz:(args'++Array.replicate (fn.ntmps - args'.size) undef).size=N:=by simp[hN];omega
  refine d.GO r _ w _ h _ _ _ () ⟨λ_=>True,λ_ _=>trivial⟩ e (λt ht=>?_) hsz an (λi hi _=>hfree i hi) (λ_ _ _ _ _ _=>trivial) _ λr' a' w' A' h' e' g1 g2 g3 g4 g5=>?_
  ·rw[HZ]
   simp only[uQ,true_and,Nat.zero_add,Nat.sub_zero]
   split
   ·rename_i hlt
    have h1:args[t]?=some args[t]:=List.getElem?_eq_getElem hlt
    have h2:args'.toList[t]?=some (args'.toList[t]'(by simpa[<-hl]using hlt)):=List.getElem?_eq_getElem _
    have:=hargs.2 t _ _ h1 h2
    rw[List.getD_eq_getElem?_getD,h1]
    simp only[Act.eval,Array.getD_eq_getD_getElem?]
    rw[Array.getElem?_append_left (by omega),<-Array.getElem?_toList,h2]
    exact this
   ·exact .fJ _
  ·have fin:∀A' h',KO r' A' a'->Post r h w r' h' w'->Bu P N A' h' fn.results.toList (λvs=>dec (oneOf vs) h')=some ()->
     a'.defers=[]/\∃v,(results fn a'.tmps).run P w'=.ok v w'/\∃r' u v' h',Ending.returned v=.returned v'/\VR r' u v'/\Post r h w r' h' w'/\k u h'=some ():=by
    intro A' h' g1 g4 g5
    obtain⟨vs,vs',q1,q2,q3⟩:=GI g1 g2 g4.rel g5
    refine⟨g3,(if h:vs'.toArray.size=1 then vs'.toArray[0]else .tuple vs'.toArray),?_,r',_,_,h',rfl,Sw q2,g4,agS _ _ q1⟩
    show Sem.run P (do let vs <-fn.results.mapM (Om a'.tmps);pure (if h:vs.size=1 then vs[0]else .tuple vs)) w'=_
    rw[Array.mapM_eq_mapM_toList]
    simp only[Sem.run_bind,Sem.run_map,q3,Result.andThen_ok,Sem.run_pure]
   cases e' with
   | normal=>exact fin A' h' g1 g4 g5
   | ret=>exact fin A' h' g1 g4 g5
   | exit i=>cases g5
section
variable {P:Program}{ops:Array Oper}{Q:Exit->Act->World->Prop}{n:Nat}
def zo(Q:Exit->Act->World->Prop)(R:Act->World->Prop):Exit->Act->World->Prop
 | .normal,a,w=>R a w
 | e,a,w=>Q e a w
theorem U1{R:Act->World->Prop}{o:Oper}{a:Act}{w:World}{K:Act->World->Prop}:o.wp P a w K (zo Q R)=o.wp P a w K Q:=by
 unfold Oper.wp
 cases(execOp a.eval o).run P w with
 | ok v w'=>cases v<;>rfl
 | halt h w'=>cases h<;>rfl
theorem Ob{R:Act->World->Prop}:LetsOut (zo Q R)=LetsOut Q:=rfl
theorem Jx{i:Nat}(hn:ops.size=n+1)(hi:i<n):ops.pop[i]?=ops[i]?:=by
 rw[Array.getElem?_pop,if_pos (by omega)]
structure Su(ops:Array Oper):Prop where
 after:∀(j:Nat) o,ops[j]?=some o->∀e∈o.after,Region.binds .any e=true->e.on<j
 guard:∀(j:Nat) o g b,ops[j]?=some o->o.guard=some (g,b)->g<j
def ajS(ops:Array Oper)(listed:Array Bool):Prop:=∀m o,ops[m]?=some o->listed.getD m false=true->∀e∈o.after,Region.binds .any e=true->listed.getD e.on false=true
theorem lg{l:Array Bool}{i:Nat}(h:i<l.size):l.getD i true=l.getD i false:=by simp[h]
theorem Dv(ht:Su ops){listed:Array Bool}(hs:listed.size=ops.size)(hr:Region.ready .any ops listed=[]):∀i,i<ops.size->listed.getD i true=true:=by
 intro i
 induction i using Nat.strongRecOn with
 | _ i ih=>
  intro hi
  cases hl:listed.getD i true with
  | true=>rfl
  | false=>
   have ho:ops[i]?=some ops[i]:=Array.getElem?_eq_getElem hi
   have:i∈Region.ready .any ops listed:=mem_ready.2 ⟨hl,_,ho,λe he hb=>by
    have h1:=ht.after _ _ ho e he hb
    have h2:=ih e.on h1 (by omega)
    rwa [lg (by omega)]at h2⟩
   rw[hr]at this;cases this
theorem Px{listed:Array Bool}(hs:listed.size=ops.size)(h:∀i,i<ops.size->listed.getD i true=true):Region.ready .any ops listed=[]:=by
 rw[List.eq_nil_iff_forall_not_mem]
 intro j hj
 obtain⟨h1,o,h2,_⟩:=mem_ready.1 hj
 have:=h j (Array.getElem?_eq_some_iff.1 h2).1
 rw[this]at h1;cases h1
theorem xB{l:Array Bool}{i j:Nat}(hi:i<l.size):(l.setIfInBounds i true).getD j true=if j=i then true else l.getD j true:=by
 by_cases h:j=i
 ·subst h;simp[hi]
 ·rw[if_neg h]
  simp only[Array.getD_eq_getD_getElem?]
  rw[Array.getElem?_setIfInBounds_ne (Ne.symm h)]
theorem XA(hn:ops.size=n+1)(ht:Su ops)(Rh:∀listed:Array Bool,listed.size=n+1->ajS ops listed->n∈Region.ready .any ops listed->∀i,i<n->listed.getD i true=true):
  ∀(fuel:Nat) (listed fU:Array Bool) (a:Act) (w:World),fU.size=n->listed.size=n+1->(∀i,i<n->listed.getD i true=fU.getD i true)->listed.getD n true=false->ajS ops listed->
   wpAny P .any ops.pop (zo Q λa w=>wpOp P ops Q n (λa w=>Q .normal a w) a w) fuel fU a w->wpAny P .any ops Q (fuel+1) listed a w:=by
 have hps:ops.pop.size=n:=by simp[hn]
 have ht':Su ops.pop:=⟨λj o ho=>ht.after j o (by
   have hj:=(Array.getElem?_eq_some_iff.1 ho).1
   rwa [Jx hn (by omega)]at ho),λj o g b ho=>ht.guard j o g b (by
   have hj:=(Array.getElem?_eq_some_iff.1 ho).1
   rwa [Jx hn (by omega)]at ho)⟩
 have fin:∀(fuel:Nat) (listed:Array Bool) (a:Act) (w:World),listed.size=n+1->(∀i,i<n->listed.getD i true=true)->listed.getD n true=false->wpOp P ops Q n (λa w=>Q .normal a w) a w->wpAny P .any ops Q (fuel+1) listed a w:=by
  intro fuel listed a w hs hall hn0 hw
  refine⟨λhr=>?_,λi hi=>?_⟩
  ·have:=Dv ht (by omega) hr n (by omega)
   rw[this]at hn0;cases hn0
  ·obtain⟨h1,o,h2,_⟩:=mem_ready.1 hi
   have hi1:=(Array.getElem?_eq_some_iff.1 h2).1
   have hin:i=n:=by
    refine Nat.le_antisymm (by omega) (Nat.le_of_not_lt λhlt=>?_)
    rw[hall i hlt]at h1;cases h1
   subst hin
   refine wpOp_mono (λa w hq=>?_) hw
   have hr:Region.ready .any ops (listed.setIfInBounds i true)=[]:=Px (by simp;omega) λj hj=>by
    rw[xB (by omega)]
    split
    ·rfl
    ·exact hall j (by omega)
   cases fuel with
   | zero=>exact⟨hr,hq⟩
   | succ f=>exact⟨λ_=>hq,λj hj=>by rw[hr]at hj;cases hj⟩
 intro fuel
 induction fuel with
 | zero=>
  intro listed fU a w hs' hs hsame hn0 NS h
  obtain⟨hr,hq⟩:=h
  have hall:=Dv ht' (by omega) hr
  exact fin 0 listed a w hs (λi hi=>by rw[hsame i hi];exact hall i (by omega)) hn0 hq
 | succ fuel ih=>
  intro listed fU a w hs' hs hsame hn0 NS h
  obtain⟨h1,h2⟩:=h
  refine⟨λhr=>?_,λi hi=>?_⟩
  ·have:=Dv ht (by omega) hr n (by omega)
   rw[this]at hn0;cases hn0
  ·obtain⟨g1,o,g2,g3⟩:=mem_ready.1 hi
   have hi1:=(Array.getElem?_eq_some_iff.1 g2).1
   by_cases hin:i=n
   ·subst hin
    have hall:=Rh listed hs NS hi
    have hr:Region.ready .any ops.pop fU=[]:=Px (by omega) λj hj=>by rw[<-hsame j (by omega)];exact hall j (by omega)
    have:=fin (fuel+1) listed a w hs hall hn0 (h1 hr)
    exact this.2 i hi
   ·have hlt:i<n:=by omega
    have hmem:i∈Region.ready .any ops.pop fU:=mem_ready.2 ⟨by rw[<-hsame i hlt];exact g1,o,by rw[Jx hn hlt];exact g2,λe he hb=>by
     have e1:=ht.after i o g2 e he hb
     have e2:=g3 e he hb
     rw[<-lg (by omega)]at e2 ⊢
     rw[<-hsame e.on (by omega)];exact e2⟩
    have hw:=h2 i hmem
    have hmono:=wpOp_mono (K':=wpAny P .any ops Q (fuel+1) (listed.setIfInBounds i true)) (λa w hk=>ih (listed.setIfInBounds i true) (fU.setIfInBounds i true) a w (by simp[hs']) (by simp[hs]) (λj hj=>by
      rw[xB (by omega),xB (by omega),hsame j hj]) (by rw[xB (by omega),if_neg (by omega)];exact hn0) (by
       intro m om zD hm e he hb
       have hml:=(Array.getElem?_eq_some_iff.1 zD).1
       have hem:=ht.after m om zD e he hb
       rw[<-lg (by simp;omega),xB (by omega)]at hm ⊢
       by_cases hei:e.on=i
       ·rw[if_pos hei]
       ·rw[if_neg hei]
        by_cases hmi:m=i
        ·subst hmi
         rw[zD]at g2
         cases g2
         have:=g3 e he hb
         rw[lg (by omega)];exact this
        ·rw[if_neg hmi]at hm
         have:=NS m om zD (by rw[<-lg (by omega)];exact hm) e he hb
         rw[lg (by omega)];exact this) hk) hw
    unfold wpOp at hmono ⊢
    rw[Jx hn hlt]at hmono
    rw[g2]at hmono ⊢
    simp only at hmono ⊢
    have T1:Region.wanted o (yielded ops.pop a.tmps)=Region.wanted o (yielded ops a.tmps):=by
     unfold Region.wanted
     split
     ·rfl
     ·rename_i g b hg
      have:=ht.guard i o g b g2 hg
      unfold yielded
      rw[Jx hn (by omega)]
    rw[T1]at hmono
    rw[U1,Ob]at hmono
    exact hmono
end
theorem RY{P:Program}{call:dK}(aH:call.Sound P){ops:Array Oper}(hok:nW P ops=true){s s':Cv}(h:oN P call ops ops.toList 0 s.1 s.2 Gz []=some s')
  {r:Ren} {a:Act} {w:World} (hfr:FR r s.1 a) (an:Rel r s.2 w) (hfree:∀i,s.2.next<=i->i<s'.2.next->r i=none) {Q:Exit->Act->World->Prop} (hQ:∀r' a' w',FR r' s'.1 a'->a'.defers=a.defers->Post r s.2 w r' s'.2 w'->Q .normal a' w'):
  wpAny P .any ops Q ops.size (Array.replicate ops.size false) a w:=by
 obtain⟨F,Hs,V,e1,e2,e3,e4,e5,e6,e7⟩:=qc h (λj _=>by simp)
 have hsz:ops.toList.length=ops.size:=by simp
 rw[hsz]at e3 e4 e5 e6 e7
 have hrun:LD (λ_=>False) P call ops ops.size F Hs V:=⟨λk hk=>by
   obtain⟨o,g1,g2,g3⟩:=e5 k hk
   exact⟨o,by simpa using g1,.inl g2,g3⟩,λk hk hq j oj hj kY hc hi b hb=>(e6 k hk (by simpa using hq)).2 j oj hj (by simpa using kY) hc (by simpa using hi) b hb,λk hk _ hs=>by
   obtain⟨S,_,g1,g2⟩:=e7 k hk (by simpa using hs)
   exact⟨S,λm hm hq _=>g1 m hm (by simpa using hq),λo ho=>g2 o (by simpa using ho)⟩⟩
 have hw:Post r s.2 w r s.2 w:=Post.refl an
 have hlen:(F 0).length=a.tmps.size:=by rw[e1];simpa using hfr.1
 refine Ih aH hok hrun (r0:=r) (w0:=w) (ds:=a.defers) (by rw[e2];exact an.wf) (by rw[e2,e4];exact hfree) (λr' a' w' h1 h2 h3=>?_) ops.size _ r a w (by simp) (λ_ _ h=>h.elim) ?_ ?_ ?_
 ·rw[e2,e4]at h3
  rw[e3]at h1
  exact hQ r' a' w' h1 h2 (hw.trans h3)
 ·intro m o ho hm' e he hb
  rw[s8]at hm';cases hm'
 ·have:=List.length_filter_le (λi=>!(Array.replicate ops.size false).getD i true) (List.range ops.size)
  simpa using this
 ·intro D hD
  have hno:∀m,¬D m:=λm h=>by have:=(hD m).1 h;rw[s8]at this;cases this
  have vg:∀i,ij ops.size Hs D i=(Hs 0).get i:=λi=>jZ (uQ _) λm _ _=>⟨λh=>absurd h (hno m),λh=>by omega⟩
  refine⟨Ren.le_refl _,(λi t h1 h2=>by rw[h1]at h2;cases h2),hlen.symm,λt ht=>?_,λi t o h1 h2=>?_,λi k ti tk oi ok h1 h2 h3 h4=>?_,hw.rel.bound,λ_ _ _=>rfl,cF _,.refl _,(λi t h1 h2=>by rw[h1]at h2;cases h2),λm _ h=>absurd h (hno m),λm _ h=>absurd h (hno m),rfl,an.rH⟩
  ·rw[uI hrun ht (uQ _) λm _ _=>⟨λh=>absurd h (hno m),λh=>by omega⟩,e1]
   exact Dw hfr an.rH (.tmp t)
  ·rw[vg,e2]at h2
   exact hw.rel.obj i t o h1 h2
  ·rw[vg,e2]at h3 h4
   exact hw.rel.inj i k ti tk oi ok h1 h2 h3 h4
theorem RI{ops:Array Oper}(hM:okM ops (masks ops)=true){listed:Array Bool}(hs:listed.size=ops.size)(NS:ajS ops listed):
  ∀(j:Nat) o,ops[j]?=some o->(∀e∈o.after,Region.binds .any e=true->listed.getD e.on false=true)->∀i,i<j->(masks ops j).testBit i=true->listed.getD i true=true:=by
 intro j
 induction j using Nat.strongRecOn with
 | _ j ih=>
  intro o ho hl i hi hb
  have hj:=(Array.getElem?_eq_some_iff.1 ho).1
  obtain⟨h1,h2⟩:=vA hM ho
  obtain⟨e,he,hbe,arh⟩:=h2 i hi hb
  have hel:=hl e he hbe
  have hej:=h1 e he hbe
  rcases arh with rfl | ⟨hlt,axq⟩
  ·rw[lg (by omega)];exact hel
  ·exact ih e.on hej _ (Array.getElem?_eq_getElem (by omega)) (NS e.on _ (Array.getElem?_eq_getElem (by omega)) hel) i hlt axq
def pre(ops:Array Oper)(m:Nat):Array Oper:=(ops.toList.take m).toArray
theorem FJ{ops:Array Oper}{m:Nat}(h:m<=ops.size):(pre ops m).size=m:=by simp[pre];omega
theorem GD{ops:Array Oper}{m i:Nat}(h:i<m):(pre ops m)[i]?=ops[i]?:=by
 simp only[pre,List.getElem?_toArray,List.getElem?_take,if_pos h,Array.getElem?_toList]
theorem aeq{ops:Array Oper}{m i:Nat}{o:Oper}(h:(pre ops m)[i]?=some o):i<m/\ops[i]?=some o:=by
 simp only[pre,List.getElem?_toArray,List.getElem?_take]at h
 split at h
 ·rename_i hi;exact⟨hi,by simpa using h⟩
 ·cases h
theorem ahD{ops:Array Oper}{m:Nat}(h:m+1<=ops.size):(pre ops (m+1)).pop=pre ops m:=by
 apply Array.ext_getElem?
 intro i
 rw[Array.getElem?_pop,FJ h]
 split
 ·rename_i hi;rw[GD (by omega),GD (by omega)]
 ·rename_i hi
  rw[Array.getElem?_eq_none (by rw[FJ (by omega)];omega)]
theorem YV(ops:Array Oper):pre ops ops.size=ops:=by
 apply Array.ext'
 show(List.take ops.size ops.toList)=ops.toList
 rw[<-Array.length_toList,List.take_length]
def Mm(ops:Array Oper)(n:Nat):Bool:=okM ops (masks ops)&&((List.range n).all λi=>(masks ops n).testBit i)
def FA(ops:Array Oper):Bool:=(List.range ops.size).all λj=>match ops[j]? with | some o=>(match o.guard with | some (g,_)=>decide (g<j) | none=>true) | none=>true
def W2(P:Program)(ops:Array Oper)(n:Nat):Bool:=
 decide (n<=ops.size)&&nW P (pre ops n)&&okM ops (masks ops)&&FA ops&&((List.range (ops.size - n)).all λk=>Mm (pre ops (n+k+1)) (n+k))
theorem TA{Q:Exit->Act->World->Prop}{R R':Act->World->Prop}:zo (zo Q R) R'=zo Q R':=by
 funext e a w
 cases e<;>rfl
theorem Ir{P:Program}{ops:Array Oper}{Q:Exit->Act->World->Prop}{n:Nat}(ht:Su ops)(hM:∀m,n<=m->m<ops.size->Mm (pre ops (m+1)) m=true){a:Act}{w:World}
  (h:wpAny P .any (pre ops n) (zo Q λa w=>wpList P ops Q (ops.toList.drop n) a w) n (Array.replicate n false) a w):
  ∀k,n+k<=ops.size->wpAny P .any (pre ops (n+k)) (zo Q λa w=>wpList P ops Q (ops.toList.drop (n+k)) a w) (n+k) (Array.replicate (n+k) false) a w
 | 0,_=>h
 | k+1,hk=>by
  have ih:=Ir ht hM h k (by omega)
  have hps:=FJ (ops:=ops) (m:=n+k+1) (by omega)
  have Rh:=hM (n+k) (by omega) (by omega)
  simp only[Mm,Bool.and_eq_true]at Rh
  have ho:ops[n+k]?=some (ops[n+k]'(by omega)):=Array.getElem?_eq_getElem (by omega)
  generalize ops[n+k]'(by omega)=o at ho
  have arl:ops.toList.drop (n+k)=o::ops.toList.drop (n+k+1):=by
   rw[List.drop_eq_getElem_cons (by simp;omega)]
   congr 1
   rw[Array.getElem?_eq_getElem (by omega)]at ho
   simpa using ho
  have ht':Su (pre ops (n+k+1)):=⟨λj q hq=>ht.after j q (aeq hq).2,λj q g b hq=>ht.guard j q g b (aeq hq).2⟩
  refine XA (ops:=pre ops (n+k+1)) (n:=n+k) (Q:=zo Q λa w=>wpList P ops Q (ops.toList.drop (n+(k+1))) a w) hps ht' (λlisted hs NS hr i hi=>?_) (n+k) (Array.replicate (n+k+1) false) (Array.replicate (n+k) false) a w (by simp) (by simp) (λi hi=>?_) (by simp) (λm om zD hm' e he hb=>by rw[s8]at hm';cases hm') ?_
  ·obtain⟨_,q,hq,hl⟩:=mem_ready.1 hr
   rw[GD (by omega),ho]at hq
   cases hq
   exact RI Rh.1 (by omega) NS (n+k) o ((GD (by omega)).trans ho) hl i hi (List.all_eq_true.1 Rh.2 i (List.mem_range.2 hi))
  ·have e1:i<n+k+1:=by omega
   simp[hi,e1]
  ·rw[ahD (by omega),TA]
   have he:(λa w=>wpList P ops Q (ops.toList.drop (n+k)) a w)=λa w=>wpOp P (pre ops (n+k+1)) (zo Q λa w=>wpList P ops Q (ops.toList.drop (n+(k+1))) a w) (n+k) (λa w=>(zo Q λa w=>wpList P ops Q (ops.toList.drop (n+(k+1))) a w) .normal a w) a w:=by
    funext a w
    rw[arl]
    unfold wpOp
    rw[GD (by omega),ho]
    simp only
    rw[U1,Ob]
    have T1:Region.wanted o (yielded (pre ops (n+k+1)) a.tmps)=Region.wanted o (yielded ops a.tmps):=by
     unfold Region.wanted
     split
     ·rfl
     ·rename_i g b hg
      have:=ht.guard (n+k) o g b ho hg
      unfold yielded
      rw[GD (by omega)]
    rw[T1]
    rfl
   rw[he]at ih
   exact ih
noncomputable def ahZ(P:Program)(ck:CK)(cr:CR)(N:Nat)(ops:Array Oper)(n:Nat):KC Unit:=λA h kn _ _=>
 zv P ck (pre ops n) N true (pre ops n).toList 0 A h Gz [] λA' h'=>Fe P ck cr ops N (ops.toList.drop n) A' h' kn
theorem dj.ah3{P:Program}(hm:P.follows .mixedOrders=true){ck:CK}(sr:ck.call.Sound P){cr:CR}(zA:cr.Sound P){N id n:Nat}{ops:Array Oper}(hok:W2 P ops n=true):dj true P N (.region id ops true) (ahZ P ck cr N ops n):=by
 simp only[W2,Bool.and_eq_true,decide_eq_true_eq]at hok
 obtain⟨⟨⟨⟨hn,hpre⟩,hM⟩,hgd⟩,Rh⟩:=hok
 have key:∀A h (kn:KF->H->Option Unit) kr ke,ahZ P ck cr N ops n A h kn ke kr=some ()->∃fr' A' h',oN P ck.call (pre ops n) (pre ops n).toList 0 ((List.range N).map (look A)) h Gz []=some (fr',h')/\AF N A' fr'/\Fe P ck cr ops N (ops.toList.drop n) A' h' kn=some ():=by
  intro A h kn kr ke e
  unfold ahZ at e
  obtain⟨fr',A',h',h1,h2,h3⟩:=jj (fr:=(List.range N).map (look A)) e ⟨by simp,λt ht=>by rw[List.getD_eq_getElem?_getD,List.getElem?_map,List.getElem?_range ht];rfl⟩
  exact⟨fr',A',h',by simpa using h1,h2,h3⟩
 have ht:Su ops:=⟨λj q hq=>(vA hM hq).1,λj q g b hq hg=>by
  have hj:=(Array.getElem?_eq_some_iff.1 hq).1
  have:=List.all_eq_true.1 hgd j (List.mem_range.2 (by omega))
  rw[hq]at this
  simp only[hg,decide_eq_true_eq]at this
  exact this⟩
 refine⟨λA h kn ke kr x e=>?_,λr a w A h kn ke kr x B e hfr hsz an hfree hB Q hQ=>?_⟩
 ·cases x
  obtain⟨fr',A',h',h1,h2,h3⟩:=key A h kn kr ke e
  obtain⟨A2,h'',e2,g2,w2⟩:=GB sr zA _ _ _ h3
  have g1:=iS sr h1
  exact⟨.normal,_,h'',e2,qb g1.1 g2,λhw=>w2 (g1.2 hw)⟩
 ·cases x
  obtain⟨fr',A',h',h1,h2,h3⟩:=key A h kn kr ke e
  have NP:∀i,h.next<=i->r i=none:=λi hi=>hfree i hi (B.all rfl i)
  have Wk:FR r ((List.range N).map (look A)) a:=by
   refine⟨by simpa using hsz.symm,λt x v hx hv=>?_⟩
   have ht:t<N:=by have:=(sS hx).1;simpa using this
   rw[List.getElem?_map,List.getElem?_range ht]at hx
   simp at hx
   subst hx
   have:=hfr t (by rw[hsz];exact ht)
   simp only[Act.eval,Array.getD_eq_getD_getElem?]at this
   rw[<-Array.getElem?_toList,hv]at this
   exact this
  have hw0:Post r h w r h {w with drawn:=w.drawn+1}:=Post.same an rfl ⟨rfl,rfl,rfl,λ_=>dW _⟩
  refine wp_region_any hm ?_
  have hsub:wpAny P .any (pre ops n) (zo Q λa w=>wpList P ops Q (ops.toList.drop n) a w) (pre ops n).size (Array.replicate (pre ops n).size false) a {w with drawn:=w.drawn+1}:=by
   refine RY sr hpre (s:=((List.range N).map (look A),h)) (s':=(fr',h')) h1 Wk hw0.rel (λi hi _=>NP i hi) λr' a' w' q1 q2 q3=>?_
   have Ki:a'.tmps.size=N:=by rw[<-h2.1];simpa using q1.1.symm
   have hA':KO r' A' a':=λt ht=>by
    rw[h2.2 t (by rw[<-Ki];exact ht)]
    exact Dw q1 q3.rel.rH (.tmp t)
   show wpList P ops Q (ops.toList.drop n) a' w'
   exact Mn sr zA _ A' h' r' a' w' h3 hA' Ki q3.rel (ND (hw0.trans q3) NP) λr'' a'' w'' Qz h'' k1 k2 k3 k4 k5=>hQ r'' a'' w'' Qz h'' .normal k1 k2 (by rw[k3,q2]) ((hw0.trans q3).trans k4) k5
  rw[FJ hn]at hsub
  have:=Ir ht (λm h1 h2=>by
   have:=List.all_eq_true.1 Rh (m - n) (List.mem_range.2 (by omega))
   rwa [show n+(m - n)=m by omega]at this) hsub (ops.size - n) (by omega)
  rw[show n+(ops.size - n)=ops.size by omega,YV]at this
  have hd:ops.toList.drop ops.size=[]:=by rw[<-Array.length_toList,List.drop_length]
  rw[hd]at this
  have he:(zo Q λa w=>wpList P ops Q [] a w)=Q:=by
   funext e a w
   cases e<;>rfl
  rw[he]at this
  exact this
def Yn:Op->Op
 | .makeMap t none=>.makeMap t (some (.const (.int .i64 0)))
 | .insert _ m k v=>.makeFunc (.func 0) #[m,k,v] #[]
 | op=>op
def A9(o:Oper):Oper:={o with op:=Yn o.op}
def rj(ops:Array Oper):Array Oper:=(ops.toList.map A9).toArray
theorem AE(ops:Array Oper)(j:Nat):(rj ops)[j]?=(ops[j]?).map A9:=by
 simp[rj]
theorem NI(ops:Array Oper):(rj ops).size=ops.size:=by simp[rj]
theorem Z2(ops:Array Oper)(tmps:Array Value):yielded (rj ops) tmps=yielded ops tmps:=by
 funext j
 unfold yielded
 rw[AE]
 cases ops[j]?<;>rfl
theorem acY{o:Oper}(h:Yn o.op=o.op):A9 o=o:=by
 unfold A9
 rw[h]
def DZ:Op->Bool | .insert _ _ _ _=>true | _=>false
def wC:Op->Bool | .makeMap _ none=>true | _=>false
theorem Z1{op:Op}(h1:DZ op=false)(h2:wC op=false):Yn op=op:=by
 unfold Yn
 split
 ·cases h2
 ·cases h1
 ·rfl
def tY(ρ:Operand->AV)(o:Oper):Option (Nat×AV×AV):=
 match o.op with
 | .insert _ m k v=>(match ρ m with | .map (some i)=>some (i,ρ k,ρ v) | _=>none)
 | _=>none
section
variable {P:Program}{call:dK}{ops:Array Oper}{n:Nat}{F:Nat->List AV}{Hs:Nat->H}{V:Nat->AV}{r0:Ren}{w0:World}{ds:List Deferred}
def xK(ops:Array Oper)(Hs:Nat->H)(i:Nat):Prop:=∃j o,ops[j]?=some o/\wC o.op=true/\i=(Hs j).next
def Eo(ops:Array Oper)(F:Nat->List AV):List (Nat×Nat×AV×AV):=ops.toList.zipIdx.filterMap λx=>(tY (oW (F x.2)) x.1).map λq=>(x.2,q)
open Classical in
noncomputable def Kj(ops:Array Oper)(F:Nat->List AV)(D:Nat->Prop)(i:Nat):List (AV×AV):=((Eo ops F).filter λq=>decide (D q.1/\q.2.1=i)).map (·.2.2)
theorem vt{q:Nat×Nat×AV×AV}:q∈Eo ops F↔∃o,ops[q.1]?=some o/\tY (oW (F q.1)) o=some q.2:=by
 unfold Eo
 rw[List.mem_filterMap]
 constructor
 ·rintro ⟨⟨o,j⟩,h1,h2⟩
  rw[List.mem_zipIdx_iff_getElem?]at h1
  obtain⟨q',hq,rfl⟩:=Option.map_eq_some_iff.1 h2
  exact⟨o,by simpa using h1,hq⟩
 ·rintro ⟨o,h1,h2⟩
  exact⟨(o,q.1),List.mem_zipIdx_iff_getElem?.2 (by simpa using h1),by simp only;rw[h2];rfl⟩
theorem Wn:((Eo ops F).map (·.1)).Nodup:=by
 unfold Eo
 have h:∀(l:List Oper) (k:Nat),((l.zipIdx k).filterMap λx=>(tY (oW (F x.2)) x.1).map λq=>(x.2,q)).Pairwise (λa b=>a.1<b.1)/\∀q∈(l.zipIdx k).filterMap (λx=>(tY (oW (F x.2)) x.1).map λq=>(x.2,q)),k<=q.1:=by
  intro l
  induction l with
  | nil=>intro k;simp
  | cons o l ih=>
   intro k
   obtain⟨h1,h2⟩:=ih (k+1)
   rw[List.zipIdx_cons,List.filterMap_cons]
   cases hq:(tY (oW (F (o,k).2)) (o,k).1).map λq=>((o,k).2,q)with
   | none=>exact⟨h1,λq hq=>by have:=h2 q hq;omega⟩
   | some q=>
    obtain⟨q',_,rfl⟩:=Option.map_eq_some_iff.1 hq
    exact⟨List.pairwise_cons.2 ⟨λb hb=>by have:=h2 b hb;simp only;omega,h1⟩,λb hb=>by
     rcases List.mem_cons.1 hb with rfl | hb
     ·exact cF _
     ·have:=h2 b hb;omega⟩
 rw[List.Nodup,List.pairwise_map]
 exact(h ops.toList 0).1.imp λh=>Nat.ne_of_lt h
theorem K5{α:Type}{p p':α->Prop}[DecidablePred p][DecidablePred p']{q:α}:∀{l:List α},q∈l->l.Nodup->¬p q->p' q->(∀x∈l,x≠q->(p' x↔p x))->(l.filter λx=>decide (p' x)).Perm ((l.filter λx=>decide (p x))++[q])
 | x::l,hm,hn,h1,h2,h3=>by
  rw[List.nodup_cons]at hn
  rcases List.mem_cons.1 hm with rfl | hm
  ·rw[List.filter_cons_of_pos (by simpa using h2),List.filter_cons_of_neg (by simpa using h1)]
   have:(l.filter λx=>decide (p' x))=l.filter λx=>decide (p x):=by
    apply List.filter_congr
    intro y hy
    have:=h3 y (List.mem_cons_of_mem _ hy) (λe=>hn.1 (e▸hy))
    simp only[decide_eq_decide];exact this
   rw[this]
   exact(List.perm_append_singleton _ _).symm
  ·have hne:x≠q:=λe=>hn.1 (e▸hm)
   have ih:=K5 (p:=p) (p':=p') hm hn.2 h1 h2 λy hy=>h3 y (List.mem_cons_of_mem _ hy)
   have hx:=h3 x List.mem_cons_self hne
   by_cases hp:p x
   ·rw[List.filter_cons_of_pos (by simpa using hx.2 hp),List.filter_cons_of_pos (by simpa using hp)]
    exact ih.cons x
   ·rw[List.filter_cons_of_neg (by simpa using λh=>hp (hx.1 h)),List.filter_cons_of_neg (by simpa using hp)]
    exact ih
theorem Kk{D D':Nat->Prop}{i:Nat}(h:∀q∈Eo ops F,q.2.1=i->(D' q.1↔D q.1)):Kj ops F D' i=Kj ops F D i:=by
 unfold Kj
 congr 1
 apply List.filter_congr
 intro q hq
 simp only[decide_eq_decide]
 exact⟨λ⟨a,b⟩=>⟨(h q hq b).1 a,b⟩,λ⟨a,b⟩=>⟨(h q hq b).2 a,b⟩⟩
structure XI(ops:Array Oper)(n:Nat)(F:Nat->List AV)(Hs:Nat->H)(D:Nat->Prop)(r:Ren)(w:World):Prop where
 own:∀i,xK ops Hs i->∀t,r i=some t->∃es eO,OR r w t (.map es eO)/\(es.map λe=>(e.1,e.2.1)).Perm (Kj ops F D i)/\(es.map (·.2.2)).Nodup/\∀e∈es,e.2.2<eO
 alone:∀i,xK ops Hs i->∀t,r i=some t->∀i2 t2 o2,r i2=some t2->t2.blk=t.blk->ij n Hs D i2=some o2->False
 apart:∀i i2,xK ops Hs i->xK ops Hs i2->∀t t2,r i=some t->r i2=some t2->t.blk=t2.blk->i=i2
 seen:∀q∈Eo ops F,D q.1->∃t,r q.2.1=some t
 made:∀j o,ops[j]?=some o->wC o.op=true->D j->∃t,r (Hs j).next=some t
structure KP(P:Program)(ops:Array Oper)(F:Nat->List AV)(Hs:Nat->H):Prop where
 make:∀(j:Nat) o,ops[j]?=some o->wC o.op=true->o.guard=none
 ins:∀(j:Nat) o t m k v,ops[j]?=some o->o.op=.insert t m k v->o.guard=none/\o.dst=none/\(∃kt e kd,P.underlying t=some (.map kt e)/\P.underlying kt=some kd/\nB kd (oW (F j) k)=true)/\∃i,oW (F j) m=.map (some i)/\xK ops Hs i
 awI:∀q∈Eo ops F,∀q'∈Eo ops F,q.1≠q'.1->q.2.1=q'.2.1->bZ q.2.2.1 q'.2.2.1=some false
theorem VF(aH:call.Sound P){E:Nat->Prop}(hrun:LD E P call ops n F Hs V)(sd:(Hs 0).WF){D:Nat->Prop}{j:Nat}(hj:j<n){ob:Option cK}(hH:Hs (j+1)=(Hs j).jm ob)(hnew:∀m,m<n->D m->j<m->¬Tc Hs (Hs j).next m):ij n Hs (rf D j) (Hs j).next=ob:=by
 have hwf:=ym aH hrun sd j (by omega)
 have hold:(Hs j).get (Hs j).next=none:=by
  cases hg:(Hs j).get (Hs j).next with
  | none=>rfl
  | some o=>have:=hwf _ _ hg;omega
 have:=jZ (n:=n) (Hs:=Hs) (D:=rf D j) (i:=(Hs j).next) (j:=j+1) (by omega) (λm hm ht=>JL λhne=>by
  rcases Nat.lt_or_ge m j with h | h
  ·exfalso
   have hm1:=dw aH hrun (show m+1<=j from h) (by omega:j<=n)
   have g1:(Hs (m+1)).get (Hs j).next=none:=by
    cases hg:(Hs (m+1)).get (Hs j).next with
    | none=>rfl
    | some o=>have:=ym aH hrun sd (m+1) (by omega) _ _ hg;omega
   have hm2:=dw aH hrun (show m<=j by omega) (by omega:j<=n)
   have g2:(Hs m).get (Hs j).next=none:=by
    cases hg:(Hs m).get (Hs j).next with
    | none=>rfl
    | some o=>have:=ym aH hrun sd m (by omega) _ _ hg;omega
   exact ht (by rw[g1,g2])
  ·exact⟨λhD=>absurd ht (hnew m hm hD (by omega)),λh'=>by omega⟩)
 rw[this,hH,Ho hold]
variable (aH:call.Sound P)(hrun:LD (λ_=>False) P call (rj ops) n F Hs V)(sd:(Hs 0).WF)(hn:n=(rj ops).size)(free:∀i,(Hs 0).next<=i->i<(Hs n).next->r0 i=none)
include aH hrun sd hn free
theorem Ui{j:Nat}(hj:j<n){o:Oper}(ho:ops[j]?=some o)(hm:wC o.op=true)(hg:o.guard=none):V j=.map (some (Hs j).next)/\Hs (j+1)=(Hs j).jm none:=by
 obtain⟨o',h1,h2,_⟩:=hrun.step j hj
 rw[AE,ho]at h1
 cases h1
 have _:=aH;have _:=sd;have _:=hn;have _:=free
 replace h2:=h2.resolve_right λh=>h.1
 unfold eu eP at h2
 rw[show(A9 o).guard=none from hg]at h2
 simp only[fD,if_true]at h2
 unfold wC at hm
 split at hm
 ·rename_i t hop
  have:(A9 o).op=.makeMap t (some (.const (.int .i64 0))):=by unfold A9;rw[hop];rfl
  rw[this]at h2
  unfold dB at h2
  simp only[cls]at h2
  obtain⟨q,hq,h2⟩:=Option.map_eq_some_iff.1 h2
  unfold nw at hq
  simp only at hq
  split at hq
  ·cases hq
   obtain⟨a,b⟩:=Prod.mk.inj h2
   exact⟨a.symm,b.symm⟩
  ·cases hq
 ·cases hm
theorem YP{j:Nat}(hj:j<n){o:Oper}(ho:ops[j]?=some o)(hm:wC o.op=true)(hok:KP P ops F Hs):V j=.map (some (Hs j).next)/\Hs (j+1)=(Hs j).jm none:=Ui aH hrun sd hn free hj ho hm (hok.make j o ho hm)
theorem Uh{j:Nat}(hj:j<n){o:Oper}(ho:ops[j]?=some o)(hm:wC o.op=true)(hok:KP P ops F Hs):(Hs j).next<(Hs (j+1)).next:=by
 rw[(YP aH hrun sd hn free hj ho hm hok).2,jw];omega
theorem xK.lt(hok:KP P ops F Hs){i:Nat}(hi:xK ops Hs i):∃j o,j<n/\ops[j]?=some o/\wC o.op=true/\i=(Hs j).next/\i<(Hs (j+1)).next:=by
 obtain⟨j,o,h1,h2,rfl⟩:=hi
 have hj:j<n:=by rw[hn,NI];exact(Array.getElem?_eq_some_iff.1 h1).1
 exact⟨j,o,hj,h1,h2,rfl,Uh aH hrun sd hn free hj h1 h2 hok⟩
theorem XI.other{D:Nat->Prop}{r r':Ren}{a:Act}{w w':World}(hok:KP P ops F Hs)(inv:Inv P (rj ops) n F Hs V r0 w0 ds D r a w)(x:XI ops n F Hs D r w){j:Nat}(hj:j<n){o:Oper}(ho:ops[j]?=some o)(h1:DZ o.op=false)(h2:wC o.op=false)
  (b:EF n Hs r0 w0 D j r r' w w') (hk:∀b,b<w.heap.size->(∀i t o,r i=some t->t.blk=b->ij n Hs D i=some o->o.ro=true)->w'.heap[b]?=w.heap[b]?):XI ops n F Hs (rf D j) r' w':=by
 have old:∀i,xK ops Hs i->∀t,r' i=some t->r i=some t:=by
  intro i hi t ht
  cases hr:r i with
  | some t'=>have:=b.le i t' hr;rw[ht]at this;rw[this]
  | none=>
   obtain⟨k,ok,Vd,hk2,hk3,rfl,hk5⟩:=xK.lt aH hrun sd hn free hok hi
   obtain⟨h3,h4⟩:=b.dom _ t ht hr
   have:=Hw aH hrun hj Vd h3 h4 (cF _) hk5
   subst this
   rw[hk2]at ho
   cases ho
   rw[h2]at hk3;cases hk3
 have Kh:∀q∈Eo ops F,q.1≠j:=by
  intro q hq e
  obtain⟨oq,h3,h4⟩:=vt.1 hq
  rw[e,ho]at h3
  cases h3
  unfold tY at h4
  unfold DZ at h1
  split at h4
  ·rename_i hop;rw[hop]at h1;cases h1
  ·cases h4
 refine⟨λi hi t ht=>?_,λi hi t ht i2 t2 o2 g1 g2 g3=>?_,λi i2 hi hi2 t t2 g1 g2 g3=>x.apart i i2 hi hi2 t t2 (old i hi t g1) (old i2 hi2 t2 g2) g3,λq hq hD=>?_,λk ok h3 h4 hD=>?_⟩
 ·have hr:=old i hi t ht
  obtain⟨es,eO,q1,q2,q3,q4⟩:=x.own i hi t hr
  refine⟨es,eO,q1.move b.le (hk _ (inv.bound i t hr) λi2 t2 o2 g1 g2 g3=>(x.alone i hi t hr i2 t2 o2 g1 g2 g3).elim),?_,q3,q4⟩
  rw[Kk (D:=D) λq hq _=>⟨λh=>h.resolve_right (Kh q hq),.inl⟩]
  exact q2
 ·have hr:=old i hi t ht
  rcases b.alias i2 t2 o2 g1 g3 with h | ⟨k,tk,ok,k1,k2,k3⟩
  ·have:=inv.bound i t hr;omega
  ·exact x.alone i hi t hr k tk ok k1 (k2.trans g2) k3
 ·obtain⟨t,h⟩:=x.seen q hq (hD.resolve_right (Kh q hq))
  exact⟨t,b.le _ _ h⟩
 ·rcases hD with hD | rfl
  ·obtain⟨t,h⟩:=x.made k ok h3 h4 hD
   exact⟨t,b.le _ _ h⟩
  ·rw[ho]at h3;cases h3;rw[h2]at h4;cases h4
theorem step_mk{D:Nat->Prop}{r:Ren}{a:Act}{w:World}(hok:KP P ops F Hs)(inv:Inv P (rj ops) n F Hs V r0 w0 ds D r a w)(x:XI ops n F Hs D r w){j:Nat}(hj:j<n){o:Oper}(ho:ops[j]?=some o)(hm:wC o.op=true)(jM:LF P (rj ops) D j)(wB:¬D j)
  (Q:Exit->Act->World->Prop) (K:Act->World->Prop) (hK:∀r' a' w',Inv P (rj ops) n F Hs V r0 w0 ds (rf D j) r' a' w'->XI ops n F Hs (rf D j) r' w'->K a' w'):wpOp P ops Q j K a w:=by
 obtain⟨hV,hH⟩:=YP aH hrun sd hn free hj ho hm hok
 have hg:=hok.make j o ho hm
 have hrn:=Yh aH hrun sd hn free inv hj wB
 have hlt:=Uh aH hrun sd hn free hj ho hm hok
 have hnew:r (Hs j).next=none:=hrn _ (cF _) hlt
 let w':World:=w.alloc (.map #[] 0)
 have hb:EF n Hs r0 w0 D j r (r.put (Hs j).next ⟨w.heap.size,0,0⟩) w w':=Iy aH hrun sd free inv hj wB (row:=0) hH (World.size_alloc ..) ⟨rfl,rfl,rfl,λ_=>cF _⟩ (λb hb=>alloc_old hb) λx e=>by cases e
 have hgo:(rj ops)[j]?=some (A9 o):=by rw[AE,ho];rfl
 have hvr:VR (r.put (Hs j).next ⟨w.heap.size,0,0⟩) (V j) (.map (some w.heap.size)):=by
  rw[hV]
  exact .map (t:=⟨w.heap.size,0,0⟩) (by simp[Ren.put])
 have inv':=rP hrun hn inv hj hgo jM wB hb hvr
 have arJ:(execOp a.eval o).run P w=.ok (.value (.map (some w.heap.size))) w':=by
  unfold wC at hm
  split at hm
  ·rename_i t hop
   simp only[execOp,hop,Option.map_none,Instr.makeMap,Sem.run_bind,Sem.run_pure,run_newObj,Result.andThen_ok,World.alloc_eq]
   rfl
  ·cases hm
 unfold wpOp
 simp only[ho]
 have hw:Region.wanted o (yielded ops a.tmps)=true:=by unfold Region.wanted;rw[hg]
 rw[hw]
 simp only[if_true]
 refine .inl ?_
 unfold Oper.wp
 rw[arJ,Oper.upon_value]
 refine hK _ _ w' inv' ?_
 have hput:∀{i t},(r.put (Hs j).next ⟨w.heap.size,0,0⟩) i=some t->(i=(Hs j).next/\t=⟨w.heap.size,0,0⟩)∨(i≠(Hs j).next/\r i=some t):=by
  intro i t h
  unfold Ren.put at h
  split at h
  ·rename_i e;cases h;exact .inl ⟨e,rfl⟩
  ·rename_i e;exact .inr ⟨e,h⟩
 have Vc:ij n Hs (rf D j) (Hs j).next=none:=VF aH hrun sd hj hH λm hm' hD hjm ht=>by
  have hmono:=dw aH hrun (show j+1<=m from hjm) (by omega:m<=n)
  obtain⟨t,h⟩:=inv.oD m hm' hD _ (by omega) ht
  rw[hnew]at h;cases h
 have hcs:∀{i},i≠(Hs j).next->ij n Hs (rf D j) i=ij n Hs D i:=λhi=>iK (by unfold Tc;rw[hH,Ja hi];simp)
 have Kh:∀q∈Eo ops F,q.1≠j:=by
  intro q hq e
  obtain⟨oq,h3,h4⟩:=vt.1 hq
  rw[e,ho]at h3
  cases h3
  unfold tY at h4
  unfold wC at hm
  split at h4
  ·rename_i hop;rw[hop]at hm;cases hm
  ·cases h4
 refine⟨λi hi t ht=>?_,λi hi t ht i2 t2 o2 g1 g2 g3=>?_,λi i2 hi hi2 t t2 g1 g2 g3=>?_,λq hq hD=>?_,λk ok h3 h4 hD=>?_⟩
 ·rw[Kk (D:=D) λq hq _=>⟨λh=>h.resolve_right (Kh q hq),.inl⟩]
  rcases hput ht with⟨rfl,rfl⟩ | ⟨hne,hr⟩
  ·refine⟨[],0,⟨#[],se w _,⟨[],.nil,rfl,λi x e hx=>by simp at hx⟩,.nil⟩,?_,List.nodup_nil,λe he=>by cases he⟩
   have:Kj ops F D (Hs j).next=[]:=by
    unfold Kj
    rw[List.map_eq_nil_iff,List.filter_eq_nil_iff]
    intro q hq h
    simp only[decide_eq_true_eq]at h
    obtain⟨t,h5⟩:=x.seen q hq h.1
    rw[h.2,hnew]at h5;cases h5
   rw[this]
   exact .nil
  ·obtain⟨es,eO,q1,q2⟩:=x.own i hi t hr
   exact⟨es,eO,q1.move hb.le (alloc_old (inv.bound i t hr)),q2⟩
 ·rcases hput ht with⟨rfl,rfl⟩ | ⟨hne,hr⟩
  ·rcases hput g1 with⟨rfl,rfl⟩ | ⟨alx,hr2⟩
   ·rw[Vc]at g3;cases g3
   ·have:=inv.bound i2 t2 hr2
    simp only at g2;omega
  ·rcases hput g1 with⟨rfl,rfl⟩ | ⟨alx,hr2⟩
   ·rw[Vc]at g3;cases g3
   ·rw[hcs alx]at g3
    exact x.alone i hi t hr i2 t2 o2 hr2 g2 g3
 ·rcases hput g1 with⟨rfl,rfl⟩ | ⟨hne,hr⟩<;>rcases hput g2 with⟨rfl,rfl⟩ | ⟨alx,hr2⟩
  ·rfl
  ·have:=inv.bound i2 t2 hr2
   simp only at g3;omega
  ·have:=inv.bound i t hr
   simp only at g3;omega
  ·exact x.apart i i2 hi hi2 t t2 hr hr2 g3
 ·obtain⟨t,h⟩:=x.seen q hq (hD.resolve_right (Kh q hq))
  exact⟨t,hb.le _ _ h⟩
 ·rcases hD with hD | rfl
  ·obtain⟨t,h⟩:=x.made k ok h3 h4 hD
   exact⟨t,hb.le _ _ h⟩
  ·exact⟨⟨w.heap.size,0,0⟩,by simp[Ren.put]⟩
theorem ae0{D:Nat->Prop}{r:Ren}{a:Act}{w:World}(hok:KP P ops F Hs)(inv:Inv P (rj ops) n F Hs V r0 w0 ds D r a w)(x:XI ops n F Hs D r w){j:Nat}(hj:j<n){o:Oper}(ho:ops[j]?=some o)(hi:DZ o.op=true)(jM:LF P (rj ops) D j)(wB:¬D j)
  (Q:Exit->Act->World->Prop) (K:Act->World->Prop) (hK:∀r' a' w',Inv P (rj ops) n F Hs V r0 w0 ds (rf D j) r' a' w'->XI ops n F Hs (rf D j) r' w'->K a' w'):wpOp P ops Q j K a w:=by
 obtain⟨tt,m,k,v,hop⟩:∃tt m k v,o.op=.insert tt m k v:=by
  unfold DZ at hi
  split at hi
  ·rename_i a b c d h;exact⟨a,b,c,d,h⟩
  ·cases hi
 obtain⟨hg,hd,⟨kt,e,kd,hu,HQ,hkk⟩,i,hm,hix⟩:=hok.ins j o tt m k v ho hop
 have hgo:(rj ops)[j]?=some (A9 o):=by rw[AE,ho];rfl
 have agU:(A9 o).op=.makeFunc (.func 0) #[m,k,v] #[]:=by unfold A9;rw[hop];rfl
 have hρ:=FC (Hs:=Hs) hrun hn inv hj hgo jM wB
 have alA:∀y∈(A9 o).op.operands,restrict (rj ops) (A9 o) (F j) y=oW (F j) y:=by
  intro y hy
  cases y with
  | tmp t=>
   have ht:t∈(A9 o).looksAt (rj ops):=List.mem_append_left _ (List.mem_filterMap.2 ⟨.tmp t,by simpa using hy,rfl⟩)
   simp[restrict,ht,oW]
  | _=>rfl
 have hvm:VR r (oW (F j) m) (a.eval m):=by rw[<-alA m (by rw[agU];simp[Op.operands])];exact hρ m
 have TZ:VR r (oW (F j) k) (a.eval k):=by rw[<-alA k (by rw[agU];simp[Op.operands])];exact hρ k
 have YC:VR r (oW (F j) v) (a.eval v):=by rw[<-alA v (by rw[agU];simp[Op.operands])];exact hρ v
 have hst:∃fv,V j=.func 0 [oW (F j) m,oW (F j) k,oW (F j) v] []/\Hs (j+1)=Hs j/\VR r (V j) fv:=by
  obtain⟨o',h1,h2,_⟩:=hrun.step j hj
  rw[hgo]at h1
  cases h1
  replace h2:=h2.resolve_right λh=>h.1
  unfold eu eP at h2
  rw[show(A9 o).guard=none from hg]at h2
  simp only[fD,if_true,agU]at h2
  unfold dB at h2
  simp only[cls,qj,Option.map_some,Option.some.injEq,Prod.mk.injEq]at h2
  refine⟨.func (.func 0) #[a.eval m,a.eval k,a.eval v] #[],by rw[<-h2.1];rfl,h2.2.symm,?_⟩
  rw[<-h2.1]
  refine .func 0 _ _ _ _ (by simp) (by simp) (λp y u hy hu=>?_) (λp y u hy hu=>by simp at hy)
  match p with
  | 0=>simp at hy hu;subst hy;subst hu;exact hvm
  | 1=>simp at hy hu;subst hy;subst hu;exact TZ
  | 2=>simp at hy hu;subst hy;subst hu;exact YC
  | p+3=>simp at hy
 obtain⟨fv,_,hH,hVv⟩:=hst
 have hq:((j,i,oW (F j) k,oW (F j) v):Nat×Nat×AV×AV)∈Eo ops F:=vt.2 ⟨o,ho,by unfold tY;rw[hop];simp only[hm]⟩
 rw[hm]at hvm
 generalize hme:a.eval m=mv at hvm
 cases hvm with
 | map ht=>
 rename_i t
 obtain⟨es,eO,Jd,vP,hnd,ai5⟩:=x.own i hix t ht
 let h1:H:=⟨i+1,λy=>if y=i then some (.map es eO)else none⟩
 have hg1:h1.get i=some (.map es eO):=if_pos rfl
 have adi:∀y o,h1.get y=some o->y=i:=λy o h=>by
  simp only[h1]at h
  split at h
  ·assumption
  ·cases h
 have YA:Rel r h1 w:=⟨λy o h=>by rw[adi y o h];exact Nat.lt_succ_self _,λy ty o hr h=>by
   obtain rfl:=adi y o h
   rw[hg1]at h;cases h
   rw[ht]at hr;cases hr
   exact Jd,λy z ty tz oy oz _ _ h2 h3 _=>.inl ((adi y oy h2).trans (adi z oz h3).symm),inv.bound,inv.gl.mono inv.le⟩
 have hnot:∀e∈es,bZ (oW (F j) k) e.1=some false:=by
  intro e he
  have hmem:(e.1,e.2.1)∈Kj ops F D i:=vP.mem_iff.1 (List.mem_map.2 ⟨e,he,rfl⟩)
  unfold Kj at hmem
  obtain⟨q,hq1,JW⟩:=List.mem_map.1 hmem
  obtain⟨hq3,hq4⟩:=List.mem_filter.1 hq1
  simp only[decide_eq_true_eq]at hq4
  have:=hok.awI _ hq q hq3 (λ(e:j=q.1)=>wB (e▸hq4.1)) hq4.2.symm
  rw[JW]at this
  exact this
 have hfind:A8 (oW (F j) k) es=some none:=by
  unfold A8
  rw[if_pos (List.all_eq_true.2 λe he=>by rw[hnot e he];rfl)]
  congr 1
  rw[List.find?_eq_none]
  intro e he
  rw[hnot e he];decide
 have hput:s7 (some i) (oW (F j) k) (oW (F j) v) h1=some (h1.set i (.map (es++[(oW (F j) k,oW (F j) v,eO)]) (eO+1))):=by
  unfold s7 I0
  simp only[hg1,hfind,Option.map_some]
 obtain⟨w',ajf,p⟩:=IX (P:=P) YA hu HQ hkk hput (.map ht) TZ YC
 have hsame:∀b,b<w.heap.size->b≠t.blk->w'.heap[b]?=w.heap[b]?:=λb hb hne=>p.keep b hb λy ty oy g1 g2 g3=>by
  obtain rfl:=adi y oy g3
  rw[ht]at g1;cases g1
  exact absurd g2.symm hne
 have ax5:OR r w' t (.map (es++[(oW (F j) k,oW (F j) v,eO)]) (eO+1)):=p.rel.obj i t _ ht (aW _ _ _)
 have ayb:r0 i=none:=by
  cases hr0:r0 i with
  | none=>rfl
  | some t0=>
   obtain⟨k',ok',Vd,hk2,hk3,hk4,hk5⟩:=xK.lt aH hrun sd hn free hok hix
   have q1:=dw aH hrun (uQ k') (by omega:k'<=n)
   have q2:=dw aH hrun (show k'+1<=n from Vd) (cF _)
   rw[free i (by omega) (by omega)]at hr0;cases hr0
 have hcs:∀{y},ij n Hs (rf D j) y=ij n Hs D y:=iK (by unfold Tc;rw[hH];simp)
 have hb:EF n Hs r0 w0 D j r r w w':={
  le:=r.le_refl
  alias:=λy ty oy g1 g2=>.inr ⟨y,ty,oy,g1,rfl,by rwa [hcs]at g2⟩
  dom:=λy ty g1 g2=>by rw[g1]at g2;cases g2
  obj:=λy ty oy g1 g2=>by
   rw[hcs]at g2
   refine(inv.obj y ty oy g1 g2).move r.le_refl (hsame _ (inv.bound y ty g1) λe=>?_)
   exact(x.alone i hix t ht y ty oy g1 e g2).elim
  inj:=λy z ty tz oy oz g1 g2 g3 g4=>by
   rw[hcs]at g3 g4
   exact inv.inj y z ty tz oy oz g1 g2 g3 g4
  bound:=λy ty g1=>Ep (inv.bound y ty g1) p.size
  keep:=λb hb hk=>by
   rw[hsame b (Ep hb inv.size) λe=>?_]
   ·exact inv.keep b hb hk
   ·rcases inv.fresh i t ayb ht with hf | ⟨z,tz,oz,q1,q2,q3,q4⟩
    ·omega
    ·have:=hk z tz oz q1 (q2.trans e.symm) q3
     rw[this]at q4;cases q4
  size:=qb inv.size p.size
  env:=inv.env.trans p.env
  fresh:=inv.fresh
  oD:=λy _ h=>absurd (by rw[hH]) h
  ro:=λy oy _ h=>⟨oy,by rw[<-hH];exact h,rfl⟩}
 have inv':=rP hrun hn inv hj hgo jM wB hb hVv
 have arF:a.put (A9 o).dst fv=a:=by
  rw[show(A9 o).dst=none from hd];rfl
 rw[arF]at inv'
 unfold wpOp
 simp only[ho]
 have hw:Region.wanted o (yielded ops a.tmps)=true:=by unfold Region.wanted;rw[hg]
 rw[hw]
 simp only[if_true]
 refine .inl ?_
 have hr:(execOp a.eval o).run P w=.ok .skip w':=by
  rw[<-hme]at ajf
  simp[execOp,hop,ajf]
 unfold Oper.wp
 rw[hr,Oper.upon_skip,hd]
 have arG:a.put none undef=a:=rfl
 rw[arG]
 refine hK r a w' inv' ⟨λi2 hi2 t2 ht2=>?_,λi2 hi2 t2 ht2 y ty oy g1 g2 g3=>x.alone i2 hi2 t2 ht2 y ty oy g1 g2 (by rwa [hcs]at g3),x.apart,λq JW hD=>?_,λz oz h3 h4 hD=>?_⟩
 ·by_cases e:i2=i
  ·subst e
   rw[ht]at ht2
   cases ht2
   refine⟨_,_,ax5,?_,?_,?_⟩
   ·classical
    have h5:=K5 (p:=λq:Nat×Nat×AV×AV=>D q.1/\q.2.1=i2) (p':=λq=>rf D j q.1/\q.2.1=i2) hq ((List.pairwise_map.1 Wn).imp λh e=>h (congrArg Prod.fst e)) (λh=>wB h.1) ⟨.inr rfl,rfl⟩ (λq JW hne=>?_)
    ·have h6:=h5.map (λq:Nat×Nat×AV×AV=>q.2.2)
     rw[List.map_append]at h6
     unfold Kj
     refine List.Perm.trans ?_ h6.symm
     rw[List.map_append]
     exact vP.append_right _
    ·refine⟨λ⟨h6,h7⟩=>⟨h6.resolve_right λe=>hne ?_,h7⟩,λ⟨h6,h7⟩=>⟨.inl h6,h7⟩⟩
     obtain⟨oq,g1,g2⟩:=vt.1 JW
     obtain⟨oq',g3,g4⟩:=vt.1 hq
     rw[e]at g1 g2
     simp only at g3 g4
     rw[g1]at g3;cases g3
     rw[g2]at g4
     exact Prod.ext e (oh g4)
   ·rw[List.map_append,List.nodup_append]
    refine⟨hnd,by simp,λa ha b hb' e=>?_⟩
    obtain⟨y,hy,rfl⟩:=List.mem_map.1 ha
    simp at hb'
    have:=ai5 y hy
    omega
   ·intro y hy
    rcases List.mem_append.1 hy with hy | hy
    ·have:=ai5 y hy;omega
    ·simp at hy;subst hy;exact Nat.lt_succ_self _
  ·obtain⟨es2,LG,q1,q2,q3⟩:=x.own i2 hi2 t2 ht2
   refine⟨es2,LG,q1.move r.le_refl (hsame _ (inv.bound i2 t2 ht2) λe2=>e (x.apart i2 i hi2 hix t2 t ht2 ht e2)),?_,q3⟩
   have arj:∀q∈Eo ops F,q.2.1=i2->q.1≠j:=by
    intro q JW hqi e2
    obtain⟨oq,g1,g2⟩:=vt.1 JW
    rw[e2,ho]at g1;cases g1
    rw[e2]at g2
    unfold tY at g2
    rw[hop]at g2
    simp only[hm,Option.some.injEq]at g2
    exact e (by rw[<-hqi,<-g2])
   rw[Kk (D:=D) λq JW hqi=>⟨λh=>h.resolve_right (arj q JW hqi),.inl⟩]
   exact q2
 ·rcases hD with hD | e2
  ·exact x.seen q JW hD
  ·obtain⟨oq,g1,g2⟩:=vt.1 JW
   rw[e2,ho]at g1;cases g1
   rw[e2]at g2
   unfold tY at g2
   rw[hop]at g2
   simp only[hm,Option.some.injEq]at g2
   exact⟨t,by rw[<-g2];exact ht⟩
 ·rcases hD with hD | rfl
  ·exact x.made z oz h3 h4 hD
  ·rw[ho]at h3;cases h3
   unfold wC at h4;rw[hop]at h4;cases h4
end
theorem Xi{P:Program}{call:dK}(aH:call.Sound P){ops:Array Oper}{F:Nat->List AV}{Hs:Nat->H}{V:Nat->AV}{r0:Ren}{w0:World}{ds:List Deferred}
  (alz:nW P (rj ops)=true) (hrun:LD (λ_=>False) P call (rj ops) (rj ops).size F Hs V) (hok:KP P ops F Hs) (sd:(Hs 0).WF) (free:∀i,(Hs 0).next<=i->i<(Hs (rj ops).size).next->r0 i=none) {Q:Exit->Act->World->Prop}
  (hQ:∀r a w,FR r (F (rj ops).size) a->a.defers=ds->Post r0 (Hs 0) w0 r (Hs (rj ops).size) w->XI ops (rj ops).size F Hs (λm=>m<(rj ops).size) r w->(∀i,ij (rj ops).size Hs (λm=>m<(rj ops).size) i=(Hs (rj ops).size).get i)->Q .normal a w):
  ∀(fuel:Nat) (listed:Array Bool) (r:Ren) (a:Act) (w:World),listed.size=ops.size->(∀m o,ops[m]?=some o->listed.getD m false=true->∀e∈o.after,Region.binds .any e=true->listed.getD e.on false=true)->
   ((List.range ops.size).filter λi=>!listed.getD i true).length<=fuel->(∀D:Nat->Prop,(∀m,D m↔listed.getD m false=true)->Inv P (rj ops) (rj ops).size F Hs V r0 w0 ds D r a w/\XI ops (rj ops).size F Hs D r w)->wpAny P .any ops Q fuel listed a w:=by
 have ajd:=alz
 simp only[nW,Bool.and_eq_true]at ajd
 obtain⟨⟨hM,hH⟩,hP⟩:=ajd
 have hgs:=NI ops
 have hgo:∀{j:Nat} {o:Oper},ops[j]?=some o->(rj ops)[j]?=some (A9 o):=λh=>by rw[AE,h];rfl
 have hog:∀{j:Nat} {o:Oper},(rj ops)[j]?=some o->∃o',ops[j]?=some o'/\o=A9 o':=λh=>by
  rw[AE]at h
  obtain⟨o',h1,rfl⟩:=Option.map_eq_some_iff.1 h
  exact⟨o',h1,rfl⟩
 have done:∀(listed:Array Bool) (r:Ren) (a:Act) (w:World),listed.size=ops.size->(∀i,i<ops.size->listed.getD i true=true)->
   (∀D:Nat->Prop,(∀m,D m↔listed.getD m false=true)->Inv P (rj ops) (rj ops).size F Hs V r0 w0 ds D r a w/\XI ops (rj ops).size F Hs D r w)->Q .normal a w:=by
  intro listed r a w hsz hall hinv
  have hD:∀m,m<(rj ops).size↔listed.getD m false=true:=λm=>by
   rw[hgs]
   constructor
   ·intro hm
    have:=hall m hm
    simp[hsz,hm]at this ⊢;exact this
   ·intro h
    rcases Nat.lt_or_ge m ops.size with hm | hm
    ·exact hm
    ·rw[Array.getD_eq_getD_getElem?,Array.getElem?_eq_none (by omega)]at h;cases h
  obtain⟨inv,x⟩:=hinv _ hD
  obtain⟨h1,h2⟩:=YD aH hrun sd rfl free inv (λm hm=>hm) inv.sz.symm
  exact hQ r a w h1 inv.defers h2 x λi=>jZ (cF _) λm hm _=>Iff.rfl
 have minimal:∀(listed:Array Bool),listed.size=ops.size->Region.ready .any ops listed=[]->∀i,i<ops.size->listed.getD i true=true:=by
  intro listed hsz hr i
  induction i using Nat.strongRecOn with
  | _ i ih=>
   intro hi
   cases hl:listed.getD i true with
   | true=>rfl
   | false=>
    have ho:ops[i]?=some ops[i]:=Array.getElem?_eq_getElem hi
    have:i∈Region.ready .any ops listed:=mem_ready.2 ⟨hl,_,ho,λe he hb=>by
     have h1:=(vA hM (hgo ho)).1 e he hb
     have h2:=ih e.on h1 (by omega)
     have h3:e.on<listed.size:=by omega
     simp[h3]at h2 ⊢;exact h2⟩
    rw[hr]at this;cases this
 intro fuel
 induction fuel with
 | zero=>
  intro listed r a w hsz JV hfu hinv
  have hall:∀i,i<ops.size->listed.getD i true=true:=by
   intro i hi
   cases hl:listed.getD i true with
   | true=>rfl
   | false=>
    have hm:i∈(List.range ops.size).filter λi=>!listed.getD i true:=List.mem_filter.2 ⟨List.mem_range.2 hi,by rw[hl];rfl⟩
    have:(List.range ops.size).filter (λi=>!listed.getD i true)=[]:=List.eq_nil_of_length_eq_zero (by omega)
    rw[this]at hm;cases hm
  refine⟨?_,done listed r a w hsz hall hinv⟩
  cases hr:Region.ready .any ops listed with
  | nil=>rfl
  | cons x xs=>
   have hx:x∈Region.ready .any ops listed:=by rw[hr];simp
   obtain⟨h1,o,h2,_⟩:=mem_ready.1 hx
   rw[hall x (Array.getElem?_eq_some_iff.1 h2).1]at h1;cases h1
 | succ fuel ih=>
  intro listed r a w hsz JV hfu hinv
  refine⟨λhr=>done listed r a w hsz (minimal listed hsz hr) hinv,λj hj=>?_⟩
  obtain⟨hjl,oj,kY,vh⟩:=mem_ready.1 hj
  have hjs:=(Array.getElem?_eq_some_iff.1 kY).1
  obtain⟨inv,x⟩:=hinv (λm=>listed.getD m false=true) λm=>Iff.rfl
  have wB:¬(listed.getD j false=true):=λh=>by
   have h3:j<listed.size:=by omega
   simp[h3]at h hjl;rw[h]at hjl;cases hjl
  have jM:=MA (P:=P) hM hH hP (D:=λm=>listed.getD m false=true) (λm o ho hm e he hb=>by
   obtain⟨o',h1,rfl⟩:=hog ho
   exact JV m o' h1 hm e he hb) (hgo kY) wB vh
  have next:∀r' a' w',Inv P (rj ops) (rj ops).size F Hs V r0 w0 ds (rf (λm=>listed.getD m false=true) j) r' a' w'->XI ops (rj ops).size F Hs (rf (λm=>listed.getD m false=true) j) r' w'->wpAny P .any ops Q fuel (listed.setIfInBounds j true) a' w':=by
   intro r' a' w' inv' x'
   refine ih _ r' a' w' (by simp[hsz]) ?_ ?_ ?_
   ·intro m o ho hm e he hb
    by_cases Gv:j=m
    ·subst Gv
     rw[kY]at ho
     cases ho
     exact getD_set_true (vh e he hb)
    ·rw[getD_set_ne false Gv]at hm
     exact getD_set_true (JV m o ho hm e he hb)
   ·have:=filter_lt (l:=List.range ops.size) (p:=λi=>!listed.getD i true) (p':=λi=>!(listed.setIfInBounds j true).getD i true) (x:=j) (λy hy=>by
      by_cases hyj:j=y
      ·subst hyj;rw[hjl];rfl
      ·rw[getD_set_ne true hyj]at hy;exact hy) (List.mem_range.2 hjs) (by rw[hjl];rfl) (by
      have h3:j<listed.size:=by omega
      simp[h3])
    omega
   ·intro D hD
    have hDe:D=rf (λm=>listed.getD m false=true) j:=by
     funext m
     refine propext ((hD m).trans ?_)
     unfold rf
     by_cases Gv:j=m
     ·subst Gv
      have h3:j<listed.size:=by omega
      simp[h3]
     ·rw[getD_set_ne false Gv]
      exact⟨.inl,λh=>h.resolve_right λe=>Gv e.symm⟩
    rw[hDe];exact⟨inv',x'⟩
  have hjg:j<(rj ops).size:=by omega
  cases h1:DZ oj.op with
  | true=>exact ae0 aH hrun sd rfl free hok inv x hjg kY h1 jM wB Q _ next
  | false=>
   cases h2:wC oj.op with
   | true=>exact step_mk aH hrun sd rfl free hok inv x hjg kY h2 jM wB Q _ next
   | false=>
    have hs:=acY (o:=oj) (Z1 h1 h2)
    have Rj:=hgo kY
    rw[hs]at Rj
    have hw:=NU aH hrun sd rfl free inv hjg Rj jM wB (λh=>h) Q (wpAny P .any ops Q fuel (listed.setIfInBounds j true)) λr' a' w' inv' b _ hk=>next r' a' w' inv' (XI.other aH hrun sd rfl free hok inv x hjg kY h1 h2 b hk)
    unfold wpOp at hw ⊢
    rw[Rj,Z2]at hw
    rw[kY]
    exact hw
def Ko(ops:Array Oper)(j:Nat)(x:Operand):Bool:=
 match x with
 | .tmp t=>(List.range ops.size).all λp=>decide (p<j)||(match ops[p]? with | some o=>(match o.dst with | some d=>!(Nat.beq d t) | none=>true) | none=>true)
 | _=>true
def N9(P:Program)(ops:Array Oper)(j:Nat)(o:Oper):Bool:=
 match o.op with
 | .makeMap _ none=>o.guard.isNone&&(match o.dst with | some d=>Ko ops (j+1) (.tmp d) | none=>false)
 | .insert t m k v=>o.guard.isNone&&o.dst.isNone&&(match P.underlying t with | some (.map kt _)=>(match P.underlying kt,k with | some kd,.const c=>nB kd (ofValue c) | _,_=>false) | _=>false)&&Ko ops j m&&Ko ops j v
 | _=>true
def ajq(P:Program)(ops:Array Oper):Bool:=(List.range ops.size).all λj=>match ops[j]? with | some o=>N9 P ops j o | none=>true
theorem Ub{ops:Array Oper}{j t:Nat}(h:Ko ops j (.tmp t)=true){p:Nat}{o:Oper}(hp:j<=p)(ho:ops[p]?=some o):o.dst≠some t:=by
 have:=List.all_eq_true.1 h p (List.mem_range.2 (Array.getElem?_eq_some_iff.1 ho).1)
 rw[ho]at this
 simp only[Bool.or_eq_true,decide_eq_true_eq]at this
 rcases this with h1 | h1
 ·omega
 ·intro e
  rw[e]at h1
  simp at h1
section
variable {P:Program}{call:dK}{ops:Array Oper}{n:Nat}{F:Nat->List AV}{Hs:Nat->H}{V:Nat->AV}
theorem QC(hrun:LD (λ_=>False) P call (rj ops) n F Hs V){j t:Nat}(h:Ko ops j (.tmp t)=true):∀k,j+k<=n->(F (j+k)).getD t .fJ=(F j).getD t .fJ
 | 0,_=>rfl
 | k+1,hk=>by
  obtain⟨o,h1,_,h3⟩:=hrun.step (j+k) (by omega)
  rw[AE]at h1
  obtain⟨o',h4,rfl⟩:=Option.map_eq_some_iff.1 h1
  have hne:=Ub h (by omega:j<=j+k) h4
  rw[show j+(k+1)=j+k+1 by omega,h3,<-QC hrun h k (by omega)]
  have hd:(A9 o').dst=o'.dst:=rfl
  rw[hd]
  cases hq:o'.dst with
  | none=>rfl
  | some d=>
   simp only[zQ]
   rw[List.getD_eq_getElem?_getD,List.getD_eq_getElem?_getD,List.getElem?_set_ne (λe=>hne (by rw[hq,e]))]
theorem Qd(hrun:LD (λ_=>False) P call (rj ops) n F Hs V){j:Nat}(hj:j<=n){x:Operand}(h:Ko ops j x=true):oW (F n) x=oW (F j) x:=by
 cases x with
 | tmp t=>
  have:=QC hrun h (n - j) (by omega)
  rw[show j+(n - j)=n by omega]at this
  exact this
 | _=>rfl
end
def DU(hid:List Nat)(ins:List (Nat×AV×AV))(h h':H):Prop:=
 h'.next=h.next/\(∀i,i∉hid->h'.get i=h.get i)/\∀i∈hid,∃es eO,h'.get i=some (.map es eO)/\(es.map λe=>(e.1,e.2.1)).Perm ((ins.filter λq=>q.1==i).map (·.2))/\(es.map (·.2.2)).Nodup/\∀e∈es,e.2.2<eO
open Classical in
noncomputable def Lq(hid:List Nat)(ins:List (Nat×AV×AV))(h:H)(f:H->Option Unit):Option Unit:=
 if((∀q∈ins,q.1∈hid)/\(∀i∈hid,i<h.next)/\ins.Pairwise λa b=>a.1=b.1->bZ a.2.1 b.2.1=some false)/\∀h',DU hid ins h h'->f h'=some ()then some ()else none
theorem Xj{hid:List Nat}{ins:List (Nat×AV×AV)}{h:H}{f:H->Option Unit}(e:Lq hid ins h f=some ()):((∀q∈ins,q.1∈hid)/\(∀i∈hid,i<h.next)/\ins.Pairwise λa b=>a.1=b.1->bZ a.2.1 b.2.1=some false)/\∀h',DU hid ins h h'->f h'=some ():=by
 unfold Lq at e
 split at e
 ·assumption
 ·cases e
def Gr(N:Nat):List Oper->KF->(List Nat->List (Nat×AV×AV)->Option Unit)->Option Unit
 | [],_,f=>f [] []
 | o::l,A,f=>
  match o.op with
  | .makeMap _ none=>(match o.dst with | some d=>(match fj N A (.tmp d)with | .map (some i)=>Gr N l A λhs is=>f (i::hs) is | _=>none) | none=>none)
  | .insert _ m k v=>(match fj N A m with | .map (some i)=>Gr N l A λhs is=>f hs ((i,fj N A k,fj N A v)::is) | _=>none)
  | _=>Gr N l A f
theorem yG{N:Nat}:∀{l:List Oper} {A:KF} {f:List Nat->List (Nat×AV×AV)->Option Unit},Gr N l A f=some ()->
  ∃hs is,f hs is=some ()/\(∀i,i∈hs↔∃o∈l,wC o.op=true/\∃d,o.dst=some d/\fj N A (.tmp d)=.map (some i))/\(∀o∈l,wC o.op=true->∃d i,o.dst=some d/\fj N A (.tmp d)=.map (some i))/\
   (∀o∈l,DZ o.op=true->(tY (fj N A) o).isSome=true)/\is=l.filterMap (tY (fj N A))
 | [],A,f,e=>⟨[],[],e,λi=>by simp,λo h=>absurd h (by simp),λo h=>absurd h (by simp),rfl⟩
 | o::l,A,f,e=>by
  unfold Gr at e
  split at e
  ·rename_i t hop
   split at e
   ·rename_i d hd
    split at e
    ·rename_i i hi
     obtain⟨hs,is,h1,h2,h3,h4,h5⟩:=yG e
     have hm:wC o.op=true:=by rw[hop];rfl
     refine⟨i::hs,is,h1,λy=>?_,λq hq hqm=>?_,λq hq hqi=>?_,?_⟩
     ·constructor
      ·intro hy
       rcases List.mem_cons.1 hy with rfl | hy
       ·exact⟨o,List.mem_cons_self,hm,d,hd,hi⟩
       ·obtain⟨q,g1,g2⟩:=(h2 y).1 hy
        exact⟨q,List.mem_cons_of_mem _ g1,g2⟩
      ·rintro ⟨q,g1,g2,d',g3,g4⟩
       rcases List.mem_cons.1 g1 with rfl | g1
       ·rw[hd]at g3;cases g3
        rw[hi]at g4;cases g4
        exact List.mem_cons_self
       ·exact List.mem_cons_of_mem _ ((h2 y).2 ⟨q,g1,g2,d',g3,g4⟩)
     ·rcases List.mem_cons.1 hq with rfl | hq
      ·exact⟨d,i,hd,hi⟩
      ·exact h3 q hq hqm
     ·rcases List.mem_cons.1 hq with rfl | hq
      ·rw[hop]at hqi;cases hqi
      ·exact h4 q hq hqi
     ·rw[List.filterMap_cons]
      have:tY (fj N A) o=none:=by unfold tY;rw[hop]
      rw[this];exact h5
    ·cases e
   ·cases e
  ·rename_i t m k v hop
   split at e
   ·rename_i i hi
    obtain⟨hs,is,h1,h2,h3,h4,h5⟩:=yG e
    have hv:tY (fj N A) o=some (i,fj N A k,fj N A v):=by unfold tY;rw[hop];simp only[hi]
    have hnm:wC o.op=false:=by rw[hop];rfl
    refine⟨hs,_,h1,λy=>?_,λq hq hqm=>?_,λq hq hqi=>?_,?_⟩
    ·rw[h2 y]
     constructor
     ·rintro ⟨q,g1,g2⟩;exact⟨q,List.mem_cons_of_mem _ g1,g2⟩
     ·rintro ⟨q,g1,g2,g3⟩
      rcases List.mem_cons.1 g1 with rfl | g1
      ·rw[hnm]at g2;cases g2
      ·exact⟨q,g1,g2,g3⟩
    ·rcases List.mem_cons.1 hq with rfl | hq
     ·rw[hnm]at hqm;cases hqm
     ·exact h3 q hq hqm
    ·rcases List.mem_cons.1 hq with rfl | hq
     ·rw[hv];rfl
     ·exact h4 q hq hqi
    ·rw[List.filterMap_cons,hv];simp only;rw[<-h5]
   ·cases e
  ·rename_i OI hn2
   obtain⟨hs,is,h1,h2,h3,h4,h5⟩:=yG e
   have hnm:wC o.op=false:=by
    rw[<-Bool.not_eq_true]
    intro h
    unfold wC at h
    split at h
    ·rename_i t hop;exact OI t hop
    ·cases h
   have hni:DZ o.op=false:=by
    rw[<-Bool.not_eq_true]
    intro h
    unfold DZ at h
    split at h
    ·rename_i a b c d hop;exact hn2 a b c d hop
    ·cases h
   have hv:tY (fj N A) o=none:=by
    unfold tY
    split
    ·rename_i a b c d hop;exact absurd hop (hn2 a b c d)
    ·rfl
   refine⟨hs,is,h1,λy=>?_,λq hq hqm=>?_,λq hq hqi=>?_,?_⟩
   ·rw[h2 y]
    constructor
    ·rintro ⟨q,g1,g2⟩;exact⟨q,List.mem_cons_of_mem _ g1,g2⟩
    ·rintro ⟨q,g1,g2,g3⟩
     rcases List.mem_cons.1 g1 with rfl | g1
     ·rw[hnm]at g2;cases g2
     ·exact⟨q,g1,g2,g3⟩
   ·rcases List.mem_cons.1 hq with rfl | hq
    ·rw[hnm]at hqm;cases hqm
    ·exact h3 q hq hqm
   ·rcases List.mem_cons.1 hq with rfl | hq
    ·rw[hni]at hqi;cases hqi
    ·exact h4 q hq hqi
   ·rw[List.filterMap_cons,hv];exact h5
theorem Pg{P:Program}{call:dK}(aH:call.Sound P){ops:Array Oper}(alz:nW P (rj ops)=true)(hoi:ajq P ops=true){N:Nat}{A':KF}{s s':Cv}(h:oN P call (rj ops) (rj ops).toList 0 s.1 s.2 Gz []=some s')(hA:AF N A' s'.1)
  {hid:List Nat} {ins:List (Nat×AV×AV)} (axM:∀i,i∈hid↔∃o∈ops.toList,wC o.op=true/\∃d,o.dst=some d/\fj N A' (.tmp d)=.map (some i)) (hall:∀o∈ops.toList,wC o.op=true->∃d i,o.dst=some d/\fj N A' (.tmp d)=.map (some i))
  (arK:∀o∈ops.toList,DZ o.op=true->(tY (fj N A') o).isSome=true) (Kh:ins=ops.toList.filterMap (tY (fj N A'))) (hin:∀q∈ins,q.1∈hid) (hpw:ins.Pairwise λa b=>a.1=b.1->bZ a.2.1 b.2.1=some false)
  {r:Ren} {a:Act} {w:World} (hfr:FR r s.1 a) (an:Rel r s.2 w) (hfree:∀i,s.2.next<=i->i<s'.2.next->r i=none) {Q:Exit->Act->World->Prop}
  (hQ:∀r' a' w' h',FR r' s'.1 a'->a'.defers=a.defers->DU hid ins s'.2 h'->Post r s.2 w r' h' w'->Q .normal a' w'):
  wpAny P .any ops Q ops.size (Array.replicate ops.size false) a w:=by
 obtain⟨F,Hs,V,e1,e2,e3,e4,e5,e6,e7⟩:=qc h (λj _=>by simp)
 have hsz:(rj ops).toList.length=(rj ops).size:=by simp
 rw[hsz]at e3 e4 e5 e6 e7
 have hrun:LD (λ_=>False) P call (rj ops) (rj ops).size F Hs V:=⟨λk hk=>by
   obtain⟨o,g1,g2,g3⟩:=e5 k hk
   exact⟨o,by simpa using g1,.inl g2,g3⟩,λk hk hq j oj hj kY hc hi b hb=>(e6 k hk (by simpa using hq)).2 j oj hj (by simpa using kY) hc (by simpa using hi) b hb,λk hk _ hs=>by
   obtain⟨S,_,g1,g2⟩:=e7 k hk (by simpa using hs)
   exact⟨S,λm hm hq _=>g1 m hm (by simpa using hq),λo ho=>g2 o (by simpa using ho)⟩⟩
 have hgs:=NI ops
 have hw:Post r s.2 w r s.2 w:=Post.refl an
 have sd:(Hs 0).WF:=by rw[e2];exact an.wf
 have free:∀i,(Hs 0).next<=i->i<(Hs (rj ops).size).next->r i=none:=by rw[e2,e4];exact hfree
 have agZ:fj N A'=oW (F (rj ops).size):=by rw[e3];exact hA.oW.symm
 have aly:∀{j:Nat} {o:Oper},ops[j]?=some o->N9 P ops j o=true:=λ{j o} ho=>by
  have:=List.all_eq_true.1 hoi j (List.mem_range.2 (Array.getElem?_eq_some_iff.1 ho).1)
  rw[ho]at this;exact this
 have hmem:∀{j:Nat} {o:Oper},ops[j]?=some o->o∈ops.toList:=λho=>by
  rw[<-Array.getElem?_toList]at ho;exact Hq ho
 have hlt:∀{j:Nat} {o:Oper},ops[j]?=some o->j<(rj ops).size:=λho=>by rw[hgs];exact(Array.getElem?_eq_some_iff.1 ho).1
 have alv:∀{j:Nat} {o:Oper},ops[j]?=some o->wC o.op=true->o.guard=none/\∃d,o.dst=some d/\fj N A' (.tmp d)=.map (some (Hs j).next):=by
  intro j o ho hm
  have h1:=aly ho
  obtain⟨d,i,hd,hi⟩:=hall o (hmem ho) hm
  have hm':=hm
  unfold wC at hm'
  split at hm'
  ·rename_i t hop
   unfold N9 at h1
   rw[hop]at h1
   simp only[hd,Bool.and_eq_true,Option.isNone_iff_eq_none]at h1
   refine⟨h1.1,d,hd,?_⟩
   obtain⟨hV,_⟩:=Ui aH hrun sd rfl free (hlt ho) ho hm h1.1
   have hst:=QC hrun h1.2 ((rj ops).size - (j+1)) (by have:=hlt ho;omega)
   rw[show j+1+((rj ops).size - (j+1))=(rj ops).size by have:=hlt ho;omega]at hst
   rw[agZ]at hi ⊢
   simp only[oW]at hi ⊢
   rw[hst]at hi ⊢
   obtain⟨o',g1,_,g3⟩:=hrun.step j (hlt ho)
   rw[AE,ho]at g1;cases g1
   rw[g3,show(A9 o).dst=some d from hd]at hi ⊢
   simp only[zQ]at hi ⊢
   rw[List.getD_eq_getElem?_getD,List.getElem?_set]at hi ⊢
   rw[if_pos rfl]at hi ⊢
   split at hi
   ·rename_i hl;rw[if_pos hl];exact hV
   ·simp at hi
  ·cases hm'
 have ac8:∀i,i∈hid↔xK ops Hs i:=by
  intro i
  rw[axM]
  constructor
  ·rintro ⟨o,ho,hm,d,hd,hi⟩
   obtain⟨j,hj⟩:=List.getElem?_of_mem ho
   rw[Array.getElem?_toList]at hj
   obtain⟨_,d',hd',hi'⟩:=alv hj hm
   rw[hd]at hd';cases hd'
   rw[hi]at hi';cases hi'
   exact⟨j,o,hj,hm,rfl⟩
  ·rintro ⟨j,o,ho,hm,rfl⟩
   obtain⟨_,d,hd,hi⟩:=alv ho hm
   exact⟨o,hmem ho,hm,d,hd,hi⟩
 have hiv:∀{j:Nat} {o:Oper},ops[j]?=some o->tY (oW (F j)) o=tY (fj N A') o:=by
  intro j o ho
  have h1:=aly ho
  unfold tY
  split
  ·rename_i t m k v hop
   unfold N9 at h1
   rw[hop]at h1
   simp only[Bool.and_eq_true]at h1
   obtain⟨⟨⟨⟨_,_⟩,hk⟩,hm⟩,hv⟩:=h1
   have hkc:oW (F j) k=oW (F (rj ops).size) k:=by
    split at hk
    ·split at hk
     ·rfl
     ·cases hk
    ·cases hk
   rw[agZ,Qd hrun (Nat.le_of_lt (hlt ho)) hm,Qd hrun (Nat.le_of_lt (hlt ho)) hv,hkc]
  ·rfl
 have adm:(Eo ops F).map (·.2)=ins:=by
  rw[Kh]
  unfold Eo
  rw[List.map_filterMap]
  have:∀(l:List Oper) (k:Nat),(∀j o,l[j]?=some o->tY (oW (F (k+j))) o=tY (fj N A') o)->((l.zipIdx k).filterMap λx=>(((tY (oW (F x.2)) x.1).map λq=>(x.2,q)).map λx=>x.2))=l.filterMap (tY (fj N A')):=by
   intro l
   induction l with
   | nil=>intro k _;rfl
   | cons o l ih=>
    intro k hl
    rw[List.zipIdx_cons,List.filterMap_cons,List.filterMap_cons]
    have h0:=hl 0 o rfl
    simp only[Nat.add_zero]at h0
    simp only[h0]
    have ih':=ih (k+1) λj o' hj=>by
     have:=hl (j+1) o' (by simpa using hj)
     rw[show k+1+j=k+(j+1)by omega];exact this
    cases tY (fj N A') o with
    | none=>exact ih'
    | some q=>simp only[Option.map_some];rw[ih']
  exact this ops.toList 0 λj o hj=>by
   rw[Nat.zero_add]
   exact hiv (by rw[<-Array.getElem?_toList];exact hj)
 have hok:KP P ops F Hs:=by
  refine⟨λj o ho hm=>(alv ho hm).1,λj o t m k v ho hop=>?_,λq hq q' hq' hne he=>?_⟩
  ·have h1:=aly ho
   unfold N9 at h1
   rw[hop]at h1
   simp only[Bool.and_eq_true,Option.isNone_iff_eq_none]at h1
   obtain⟨⟨⟨⟨hg,hd⟩,hk⟩,hm⟩,hv⟩:=h1
   have hs:=arK o (hmem ho) (by rw[hop];rfl)
   rw[<-hiv ho]at hs
   obtain⟨q,hq⟩:=Option.isSome_iff_exists.1 hs
   have hq0:=hq
   unfold tY at hq
   rw[hop]at hq
   simp only at hq
   split at hq
   ·rename_i i hmi
    cases hq
    refine⟨hg,hd,?_,i,hmi,(ac8 i).1 (hin (i,oW (F j) k,oW (F j) v) ?_)⟩
    ·split at hk
     ·rename_i kt e hu
      split at hk
      ·rename_i kd c HQ
       exact⟨kt,e,kd,hu,HQ,hk⟩
      ·cases hk
     ·cases hk
    ·rw[<-adm]
     exact List.mem_map.2 ⟨(j,i,oW (F j) k,oW (F j) v),vt.2 ⟨o,ho,hq0⟩,rfl⟩
   ·cases hq
  ·have hp:(Eo ops F).Pairwise λa b=>a.2.1=b.2.1->bZ a.2.2.1 b.2.2.1=some false:=by
    rw[<-adm,List.pairwise_map]at hpw
    exact hpw
   obtain⟨x,hx⟩:=List.getElem?_of_mem hq
   obtain⟨y,hy⟩:=List.getElem?_of_mem hq'
   obtain⟨lx,rfl⟩:=sS hx
   obtain⟨ly,rfl⟩:=sS hy
   rcases Nat.lt_trichotomy x y with h1 | h1 | h1
   ·exact List.pairwise_iff_getElem.1 hp x y lx ly h1 he
   ·subst h1;exact absurd rfl hne
   ·exact Fs (List.pairwise_iff_getElem.1 hp y x ly lx h1 he.symm)
 have hlen:(F 0).length=a.tmps.size:=by rw[e1];simpa using hfr.1
 refine Xi aH alz hrun hok (r0:=r) (w0:=w) (ds:=a.defers) sd free (λr' a' w' h1 h2 h3 x hc=>?_) ops.size _ r a w (by simp) ?_ ?_ ?_
 ·
  have hx:∀y,∃o:Option cK,(xK ops Hs y->∃es eO t,o=some (.map es eO)/\r' y=some t/\OR r' w' t (.map es eO)/\(es.map λe=>(e.1,e.2.1)).Perm (Kj ops F (λm=>m<(rj ops).size) y)/\(es.map (·.2.2)).Nodup/\∀e∈es,e.2.2<eO)/\(¬xK ops Hs y->o=s'.2.get y):=by
   intro y
   by_cases hy:xK ops Hs y
   ·obtain⟨j,o,ho,hm,rfl⟩:=hy
    obtain⟨t,ht⟩:=x.made j o ho hm (hlt ho)
    obtain⟨es,eO,g1,g2,g3,g4⟩:=x.own _ ⟨j,o,ho,hm,rfl⟩ t ht
    exact⟨_,λ_=>⟨es,eO,t,rfl,ht,g1,g2,g3,g4⟩,λh=>absurd ⟨j,o,ho,hm,rfl⟩ h⟩
   ·exact⟨_,λh=>absurd h hy,λ_=>rfl⟩
  let h':H:=⟨s'.2.next,λy=>Classical.choose (hx y)⟩
  have ars:∀y,xK ops Hs y->∃es eO t,h'.get y=some (.map es eO)/\r' y=some t/\OR r' w' t (.map es eO)/\(es.map λe=>(e.1,e.2.1)).Perm (Kj ops F (λm=>m<(rj ops).size) y)/\(es.map (·.2.2)).Nodup/\∀e∈es,e.2.2<eO:=λy hy=>(Classical.choose_spec (hx y)).1 hy
  have hout:∀y,¬xK ops Hs y->h'.get y=s'.2.get y:=λy hy=>(Classical.choose_spec (hx y)).2 hy
  rw[e2,e4]at h3
  rw[e3]at h1
  rw[e4]at hc
  have hfresh:∀{y},xK ops Hs y->s.2.next<=y/\y<s'.2.next:=λ{y} hy=>by
   obtain⟨j,o,hj,_,_,rfl,h5⟩:=xK.lt aH hrun sd rfl free hok hy
   have q1:=dw aH hrun (uQ j) (by omega:j<=(rj ops).size)
   have q2:=dw aH hrun (show j+1<=(rj ops).size from hj) (cF _)
   rw[e2]at q1
   rw[e4]at q2
   omega
  refine hQ r' a' w' h' h1 h2 ⟨rfl,λi hi=>hout i λh=>hi ((ac8 i).2 h),λi hi=>?_⟩ ?_
  ·obtain⟨es,eO,t,g1,_,_,g2,g3,g4⟩:=ars i ((ac8 i).1 hi)
   refine⟨es,eO,g1,?_,g3,g4⟩
   have:Kj ops F (λm=>m<(rj ops).size) i=(ins.filter λq=>q.1==i).map (·.2):=by
    unfold Kj
    rw[<-adm,List.filter_map,List.map_map]
    have:(Eo ops F).filter (λq=>decide (q.1<(rj ops).size/\q.2.1=i))=(Eo ops F).filter ((λq:Nat×AV×AV=>q.1==i) ∘ λx=>x.2):=by
     apply List.filter_congr
     intro q hq
     obtain⟨o,ho,_⟩:=vt.1 hq
     have:=hlt ho
     simp only[Function.comp]
     by_cases e:q.2.1=i
     ·simp[e,this]
     ·simp[e]
    rw[<-this]
    congr 1
    apply List.filter_congr
    intro q _
    exact decide_eq_decide.2 Iff.rfl
   rw[<-this];exact g2
  ·exact⟨h3.le,h3.dom,⟨λi o hi=>by
    by_cases hy:xK ops Hs i
    ·exact(hfresh hy).2
    ·rw[hout i hy]at hi;exact h3.rel.wf i o hi,λi t o hr hi=>by
    by_cases hy:xK ops Hs i
    ·obtain⟨es,eO,t',g1,g2,g3,_⟩:=ars i hy
     rw[g1]at hi;cases hi
     rw[hr]at g2;cases g2
     exact g3
    ·rw[hout i hy]at hi;exact h3.rel.obj i t o hr hi,λi j ti tj oi oj hi hj gi gj e=>by
    by_cases hy:xK ops Hs i
    ·by_cases hz:xK ops Hs j
     ·exact .inl (x.apart i j hy hz ti tj hi hj e)
     ·rw[hout j hz,<-hc]at gj
      exact(x.alone i hy ti hi j tj oj hj e.symm gj).elim
    ·rw[hout i hy]at gi
     by_cases hz:xK ops Hs j
     ·rw[<-hc]at gi
      exact(x.alone j hz tj hj i ti oi hi e gi).elim
     ·rw[hout j hz]at gj
      exact h3.rel.inj i j ti tj oi oj hi hj gi gj e,h3.rel.bound,h3.rel.rH⟩,h3.keep,h3.env,h3.size,h3.next,h3.fresh,λi o hi ho=>by
    rw[hout i λhy=>by have:=(hfresh hy).1;omega]at ho
    exact h3.pq i o hi ho,h3.Sg,λi hi hne=>h3.oD i hi (by rwa [hout i λhy=>by have:=(hfresh hy).1;omega]at hne)⟩
 ·intro m o ho hm' e he hb
  rw[s8]at hm';cases hm'
 ·have:=List.length_filter_le (λi=>!(Array.replicate ops.size false).getD i true) (List.range ops.size)
  simpa using this
 ·intro D hD
  have hno:∀m,¬D m:=λm h=>by have:=(hD m).1 h;rw[s8]at this;cases this
  have vg:∀i,ij (rj ops).size Hs D i=(Hs 0).get i:=λi=>jZ (uQ _) λm _ _=>⟨λh=>absurd h (hno m),λh=>by omega⟩
  have hnone:∀{i},xK ops Hs i->r i=none:=λ{i} hy=>by
   obtain⟨j,o,hj,_,_,rfl,h5⟩:=xK.lt aH hrun sd rfl free hok hy
   have q1:=dw aH hrun (uQ j) (by omega:j<=(rj ops).size)
   have q2:=dw aH hrun (show j+1<=(rj ops).size from hj) (cF _)
   exact free _ q1 (by omega)
  refine⟨⟨Ren.le_refl _,(λi t h1 h2=>by rw[h1]at h2;cases h2),hlen.symm,λt ht=>?_,λi t o h1 h2=>?_,λi k ti tk oi ok h1 h2 h3 h4=>?_,hw.rel.bound,λ_ _ _=>rfl,cF _,.refl _,(λi t h1 h2=>by rw[h1]at h2;cases h2),λm _ h=>absurd h (hno m),λm _ h=>absurd h (hno m),rfl,an.rH⟩,⟨λi hy t ht=>?_,λi hy t ht=>?_,λi i2 hy _ t t2 ht=>?_,λq _ h=>absurd h (hno _),λj o _ _ h=>absurd h (hno _)⟩⟩
  ·rw[uI hrun ht (uQ _) λm _ _=>⟨λh=>absurd h (hno m),λh=>by omega⟩,e1]
   exact Dw hfr an.rH (.tmp t)
  ·rw[vg,e2]at h2
   exact hw.rel.obj i t o h1 h2
  ·rw[vg,e2]at h3 h4
   exact hw.rel.inj i k ti tk oi ok h1 h2 h3 h4
  ·rw[hnone hy]at ht;cases ht
  ·rw[hnone hy]at ht;cases ht
  ·rw[hnone hy]at ht;cases ht
def Lj{β:Type}(h:H)(f:Nat->H->Option β):Option β:=f h.next (h.jm none)
def RR(P:Program)(ops:Array Oper)(n:Nat):Bool:=
 decide (n<=ops.size)&&nW P (rj (pre ops n))&&ajq P (pre ops n)&&okM ops (masks ops)&&FA ops&&((List.range (ops.size - n)).all λk=>Mm (pre ops (n+k+1)) (n+k))
noncomputable def ahY(P:Program)(ck:CK)(cr:CR)(N:Nat)(ops:Array Oper)(n:Nat):KC Unit:=λA h kn _ _=>
 zv P ck (rj (pre ops n)) N true (rj (pre ops n)).toList 0 A h Gz [] λA' h'=>Gr N (ops.toList.take n) A' λhid ins=>Lq hid ins h' λh''=>Fe P ck cr ops N (ops.toList.drop n) A' h'' kn
theorem ah6{hid:List Nat}{ins:List (Nat×AV×AV)}{h:H}(hl:∀i∈hid,i<h.next):∃h',DU hid ins h h'/\(h.WF->h'.WF):=by
 refine⟨⟨h.next,λi=>if i∈hid then some (.map (((ins.filter λq=>q.1==i).map (·.2)).zipIdx.map λx=>(x.1.1,x.1.2,x.2)) ((ins.filter λq=>q.1==i).length))else h.get i⟩,⟨rfl,λi hi=>if_neg hi,λi hi=>⟨_,_,if_pos hi,?_,?_,?_⟩⟩,λhw i o hi=>?_⟩
 ·rw[List.map_map]
  have:((λe:AV×AV×Nat=>(e.1,e.2.1)) ∘ λx:(AV×AV)×Nat=>(x.1.1,x.1.2,x.2))=λx=>x.1:=rfl
  rw[this,List.zipIdx_map_fst]
 ·rw[List.map_map]
  have:((λx:AV×AV×Nat=>x.2.2) ∘ λx:(AV×AV)×Nat=>(x.1.1,x.1.2,x.2))=λx=>x.2:=rfl
  rw[this,List.zipIdx_map_snd]
  exact List.nodup_range' ..
 ·intro e he
  obtain⟨x,hx,rfl⟩:=List.mem_map.1 he
  have:=(sS (List.mem_zipIdx_iff_getElem?.1 hx)).1
  simpa using this
 ·simp only at hi
  split at hi
  ·rename_i hx;exact hl i hx
  ·exact hw i o hi
theorem dj.ah1{P:Program}(hm:P.follows .mixedOrders=true){ck:CK}(sr:ck.call.Sound P){cr:CR}(zA:cr.Sound P){N id n:Nat}{ops:Array Oper}(hok:RR P ops n=true):dj true P N (.region id ops true) (ahY P ck cr N ops n):=by
 simp only[RR,Bool.and_eq_true,decide_eq_true_eq]at hok
 obtain⟨⟨⟨⟨⟨hn,hpre⟩,Kh⟩,hM⟩,hgd⟩,Rh⟩:=hok
 have key:∀A h (kn:KF->H->Option Unit) kr ke,ahY P ck cr N ops n A h kn ke kr=some ()->∃fr' A' h' hid ins,oN P ck.call (rj (pre ops n)) (rj (pre ops n)).toList 0 ((List.range N).map (look A)) h Gz []=some (fr',h')/\AF N A' fr'/\
   (∀i,i∈hid↔∃o∈(pre ops n).toList,wC o.op=true/\∃d,o.dst=some d/\fj N A' (.tmp d)=.map (some i))/\(∀o∈(pre ops n).toList,wC o.op=true->∃d i,o.dst=some d/\fj N A' (.tmp d)=.map (some i))/\
   (∀o∈(pre ops n).toList,DZ o.op=true->(tY (fj N A') o).isSome=true)/\ins=(pre ops n).toList.filterMap (tY (fj N A'))/\(∀q∈ins,q.1∈hid)/\(∀i∈hid,i<h'.next)/\(ins.Pairwise λa b=>a.1=b.1->bZ a.2.1 b.2.1=some false)/\
   ∀h'',DU hid ins h' h''->Fe P ck cr ops N (ops.toList.drop n) A' h'' kn=some ():=by
  intro A h kn kr ke e
  unfold ahY at e
  obtain⟨fr',A',h',h1,h2,h3⟩:=jj (fr:=(List.range N).map (look A)) e ⟨by simp,λt ht=>by rw[List.getD_eq_getElem?_getD,List.getElem?_map,List.getElem?_range ht];rfl⟩
  obtain⟨hid,ins,g1,g2,g3,g4,g5⟩:=yG h3
  obtain⟨⟨k1,k0,k2⟩,k3⟩:=Xj g1
  exact⟨fr',A',h',hid,ins,by simpa using h1,h2,g2,g3,g4,g5,k1,k0,k2,k3⟩
 have ht:Su ops:=⟨λj q hq=>(vA hM hq).1,λj q g b hq hg=>by
  have hj:=(Array.getElem?_eq_some_iff.1 hq).1
  have:=List.all_eq_true.1 hgd j (List.mem_range.2 (by omega))
  rw[hq]at this
  simp only[hg,decide_eq_true_eq]at this
  exact this⟩
 refine⟨λA h kn ke kr x e=>?_,λr a w A h kn ke kr x B e hfr hsz an hfree hB Q hQ=>?_⟩
 ·cases x
  obtain⟨fr',A',h',hid,ins,h1,h2,_,_,_,_,_,k0,_,h3⟩:=key A h kn kr ke e
  have g1:=iS sr h1
  obtain⟨h'',hR,hwf⟩:=ah6 (ins:=ins) k0
  obtain⟨A2,h4,e2,g2,w2⟩:=GB sr zA _ _ _ (h3 h'' hR)
  exact⟨.normal,_,h4,e2,qb g1.1 (by rw[<-hR.1];exact g2),λhw=>w2 (hwf (g1.2 hw))⟩
 ·cases x
  obtain⟨fr',A',h',hid,ins,h1,h2,k1,k2,k3,k4,k5,_,k6,h3⟩:=key A h kn kr ke e
  have NP:∀i,h.next<=i->r i=none:=λi hi=>hfree i hi (B.all rfl i)
  have Wk:FR r ((List.range N).map (look A)) a:=by
   refine⟨by simpa using hsz.symm,λt x v hx hv=>?_⟩
   have ht:t<N:=by have:=(sS hx).1;simpa using this
   rw[List.getElem?_map,List.getElem?_range ht]at hx
   simp at hx
   subst hx
   have:=hfr t (by rw[hsz];exact ht)
   simp only[Act.eval,Array.getD_eq_getD_getElem?]at this
   rw[<-Array.getElem?_toList,hv]at this
   exact this
  have hw0:Post r h w r h {w with drawn:=w.drawn+1}:=Post.same an rfl ⟨rfl,rfl,rfl,λ_=>dW _⟩
  refine wp_region_any hm ?_
  have hsub:wpAny P .any (pre ops n) (zo Q λa w=>wpList P ops Q (ops.toList.drop n) a w) (pre ops n).size (Array.replicate (pre ops n).size false) a {w with drawn:=w.drawn+1}:=by
   refine Pg sr hpre Kh (s:=((List.range N).map (look A),h)) (s':=(fr',h')) h1 h2 k1 k2 k3 k4 k5 k6 Wk hw0.rel (λi hi _=>NP i hi) λr' a' w' h'' q1 q2 qR q3=>?_
   have Ki:a'.tmps.size=N:=by rw[<-h2.1];simpa using q1.1.symm
   have hA':KO r' A' a':=λt ht=>by
    rw[h2.2 t (by rw[<-Ki];exact ht)]
    exact Dw q1 q3.rel.rH (.tmp t)
   show wpList P ops Q (ops.toList.drop n) a' w'
   exact Mn sr zA _ A' h'' r' a' w' (h3 h'' qR) hA' Ki q3.rel (ND (hw0.trans q3) NP) λr2 a2 w2 A2 h2 k1 k2 k3 k4 k5=>hQ r2 a2 w2 A2 h2 .normal k1 k2 (by rw[k3,q2]) ((hw0.trans q3).trans k4) k5
  rw[FJ hn]at hsub
  have:=Ir ht (λm h1 h2=>by
   have:=List.all_eq_true.1 Rh (m - n) (List.mem_range.2 (by omega))
   rwa [show n+(m - n)=m by omega]at this) hsub (ops.size - n) (by omega)
  rw[show n+(ops.size - n)=ops.size by omega,YV]at this
  have hd:ops.toList.drop ops.size=[]:=by rw[<-Array.length_toList,List.drop_length]
  rw[hd]at this
  have he:(zo Q λa w=>wpList P ops Q [] a w)=Q:=by
   funext e a w
   cases e<;>rfl
  rw[he]at this
  exact this
end Go.Ev
