/- Own texts, joined: . -/
import Derived.Test.YtongjlmclckboaaGreatDoorM1
import Derived.MapKept
set_option linter.all false
namespace Go.Ev
def nB:TypeDesc->AV->Bool
 | .int _,.int _ _=>true
 | .string,.str _=>true
 | .bool,.bool _=>true
 | _,_=>false
theorem UB{r:Ren}{kd:TypeDesc}{a b:AV}{v u:Value}{x:Bool}(hk:nB kd a=true)(h:bZ a b=some x)(ha:VR r a v)(hb:VR r b u):Instr.sameNow kd v u=some x:=by
 cases ha<;>simp[bZ]at h<;>cases hb<;>simp_all[nB,Instr.sameNow,bZ]
 all_goals (cases kd<;>simp_all[Instr.sameNow])
theorem zG{r:Ren}{a b:AV}{v u:Value}{x:Bool}(h:bZ a b=some x)(ha:VR r a v)(hb:VR r b u):x=true↔v=u:=by
 unfold bZ at h
 split at h
 ·split at h
  ·rename_i e;subst e;cases h;cases ha;cases hb;simp
  ·cases h
 ·cases h;cases ha;cases hb;rw[MapKept.bytes_beq];simp
 ·cases h;cases ha;cases hb;simp
 ·cases h
theorem findNow_spec{kd:TypeDesc}{k:Value}:∀(E:List MapEntry) (i:Nat),(∀e∈E,∃b,Instr.sameNow kd k e.key=some b)->
  (Instr.findNow kd k E i=some none/\∀e∈E,Instr.sameNow kd k e.key=some false)∨
  ∃j e,E[j]?=some e/\Instr.sameNow kd k e.key=some true/\Instr.findNow kd k E i=some (some (i+j,e.val))
 | [],i,_=>.inl ⟨rfl,by simp⟩
 | e::E,i,h=>by
  obtain⟨b,hb⟩:=h e (by simp)
  cases b with
  | true=>exact .inr ⟨0,e,rfl,hb,by simp[Instr.findNow,hb]⟩
  | false=>
   rcases findNow_spec E (i+1) (λx hx=>h x (by simp[hx]))with⟨h1,h2⟩ | ⟨j,x,h1,h2,h3⟩
   ·exact .inl ⟨by simp only[Instr.findNow,hb];exact h1,λx hx=>by rcases List.mem_cons.1 hx with rfl | hx;exact hb;exact h2 x hx⟩
   ·exact .inr ⟨j+1,x,by simpa using h1,h2,by simp only[Instr.findNow,hb];rw[h3];congr 3;omega⟩
def A8(k:AV)(es:List (AV×AV×Nat)):Option (Option (AV×AV×Nat)):=if es.all (λe=>(bZ k e.1).isSome)=true then some (es.find? λe=>bZ k e.1==some true)else none
theorem VS{k:AV}{es:List (AV×AV×Nat)}{x:Option (AV×AV×Nat)}(h:A8 k es=some x):(∀e∈es,∃b,bZ k e.1=some b)/\x=es.find? λe=>bZ k e.1==some true:=by
 unfold A8 at h
 split at h
 ·rename_i ha
  cases h
  exact⟨λe he=>Option.isSome_iff_exists.1 (List.all_eq_true.1 ha e he),rfl⟩
 ·cases h
theorem Ue{r:Ren}{es:List (AV×AV×Nat)}{E':List MapEntry}(hl:es.length=E'.length)(h:∀(i:Nat) (x:AV×AV×Nat) (e:MapEntry),es[i]?=some x->E'[i]?=some e->VR r x.1 e.key/\VR r x.2.1 e.val/\x.2.2=e.born){e:MapEntry}(he:e∈E'):
  ∃(i:Nat) (x:AV×AV×Nat),es[i]?=some x/\E'[i]?=some e/\VR r x.1 e.key/\VR r x.2.1 e.val/\x.2.2=e.born:=by
 obtain⟨i,hi⟩:=List.getElem?_of_mem he
 have hlt:i<es.length:=by rw[hl];exact(sS hi).1
 have hx:es[i]?=some es[i]:=List.getElem?_eq_getElem hlt
 exact⟨i,_,hx,hi,h i _ e hx hi⟩
theorem NY{r:Ren}{es:List (AV×AV×Nat)}{E':List MapEntry}(hl:es.length=E'.length)(h:∀(i:Nat) (x:AV×AV×Nat) (e:MapEntry),es[i]?=some x->E'[i]?=some e->VR r x.1 e.key/\VR r x.2.1 e.val/\x.2.2=e.born)
  (ha:es.Pairwise λa b=>bZ a.1 b.1=some false) {i j:Nat} {e f:MapEntry} (hi:E'[i]?=some e) (hj:E'[j]?=some f) (hk:e.key=f.key):i=j:=by
 have key:∀{i j:Nat} {e f:MapEntry},E'[i]?=some e->E'[j]?=some f->e.key=f.key->¬i<j:=by
  intro i j e f hi hj hk hlt
  have h1:i<es.length:=by rw[hl];exact(sS hi).1
  have h2:j<es.length:=by rw[hl];exact(sS hj).1
  have hp:=(List.pairwise_iff_getElem.1 ha) i j h1 h2 hlt
  have hx:=h i _ e (List.getElem?_eq_getElem h1) hi
  have hy:=h j _ f (List.getElem?_eq_getElem h2) hj
  have:=(zG hp hx.1 hy.1).2 hk
  cases this
 rcases Nat.lt_trichotomy i j with h | h | h
 ·exact absurd h (key hi hj hk)
 ·exact h
 ·exact absurd h (key hj hi hk.symm)
theorem Fj{r:Ren}{kd:TypeDesc}{k:AV}{k':Value}(hkk:nB kd k=true)(hk:VR r k k'){es:List (AV×AV×Nat)}{E:List MapEntry}(hE:eK r es E)(hp:es.Pairwise λa b=>bZ a.1 b.1=some false){x:Option (AV×AV×Nat)}(hx:A8 k es=some x):
  (x=none/\(∀e∈es,bZ k e.1=some false)/\Instr.findNow kd k' E 0=some none/\∀e∈E,e.key≠k')∨
  ∃(y:AV×AV×Nat) (j:Nat) (e:MapEntry),x=some y/\E[j]?=some e/\e.key=k'/\VR r y.1 e.key/\VR r y.2.1 e.val/\y.2.2=e.born/\Instr.findNow kd k' E 0=some (some (j,e.val))/\y∈es/\bZ k y.1=some true:=by
 obtain⟨hall,hfind⟩:=VS hx
 obtain⟨E',vP,hl,TY⟩:=hE
 have hcmp:∀e∈E,∃b,Instr.sameNow kd k' e.key=some b/\(b=true↔k'=e.key)/\∃y∈es,VR r y.1 e.key/\VR r y.2.1 e.val/\y.2.2=e.born/\bZ k y.1=some b:=by
  intro e he
  obtain⟨i,y,h1,h2,h3,h4,h5⟩:=Ue hl TY (vP.mem_iff.2 he)
  obtain⟨b,hb⟩:=hall y (Hq h1)
  exact⟨b,UB hkk hb hk h3,zG hb hk h3,y,Hq h1,h3,h4,h5,hb⟩
 rcases findNow_spec (kd:=kd) (k:=k') E 0 (λe he=>(hcmp e he).elim λb h=>⟨b,h.1⟩)with⟨h1,h2⟩ | ⟨j,e,h1,h2,h3⟩
 ·left
  have hne:∀e∈E,e.key≠k':=by
   intro e he hk2
   obtain⟨b,hb1,hb2,_⟩:=hcmp e he
   rw[h2 e he]at hb1
   cases hb1
   have:=hb2.2 hk2.symm
   cases this
  have hno:∀y∈es,bZ k y.1=some false:=by
   intro y hy
   obtain⟨b,hb⟩:=hall y hy
   cases b with
   | false=>exact hb
   | true=>
    exfalso
    obtain⟨i,hi⟩:=List.getElem?_of_mem hy
    have hlt:i<E'.length:=by rw[<-hl];exact(sS hi).1
    have he:E'[i]?=some E'[i]:=List.getElem?_eq_getElem hlt
    have hv:=TY i y _ hi he
    have:=(zG hb hk hv.1).1 rfl
    exact hne _ (vP.mem_iff.1 (Hq he)) this.symm
  refine⟨?_,hno,h1,hne⟩
  rw[hfind,List.find?_eq_none]
  intro y hy
  rw[hno y hy];simp
 ·right
  obtain⟨b,hb1,hb2,y,hy,hv1,hv2,hv3,hc⟩:=hcmp e (Hq h1)
  rw[h2]at hb1
  cases hb1
  have hke:=hb2.1 rfl
  cases hf:es.find? λe=>bZ k e.1==some true with
  | none=>
   exfalso
   have:=List.find?_eq_none.1 hf y hy
   rw[hc]at this
   simp at this
  | some z=>
   have hz1:=List.find?_some hf
   have hz2:=List.mem_of_find?_eq_some hf
   have hzc:bZ k z.1=some true:=by simpa using hz1
   obtain⟨i,hi⟩:=List.getElem?_of_mem hz2
   have hlt:i<E'.length:=by rw[<-hl];exact(sS hi).1
   have he':E'[i]?=some E'[i]:=List.getElem?_eq_getElem hlt
   have hv:=TY i z _ hi he'
   have hkz:=(zG hzc hk hv.1).1 rfl
   obtain⟨i2,hi2⟩:=List.getElem?_of_mem (vP.mem_iff.2 (Hq h1))
   have hii:=NY hl TY hp he' hi2 (hkz.symm.trans hke)
   subst hii
   rw[he']at hi2
   cases hi2
   exact⟨z,j,E'[i],by rw[hfind,hf],h1,hke.symm,hv.1,hv.2.1,hv.2.2,by rw[h3];simp,hz2,hzc⟩
theorem run_checkKey{P:Program}{kt:TypeId}{kd:TypeDesc}(hu:P.underlying kt=some kd){k:AV}(hkk:nB kd k=true){r:Ren}{k':Value}(hk:VR r k k')(b:Bool)(w:World):(Instr.checkKey b 10000 kt k').run P w=.ok () w:=by
 unfold Instr.checkKey
 simp only[Sem.run_bind,run_underlying hu,Result.andThen_ok]
 cases hk<;>cases kd<;>simp[nB]at hkk<;>rfl
theorem run_findKey{P:Program}{kt:TypeId}{kd:TypeDesc}(hu:P.underlying kt=some kd){k':Value}{E:List MapEntry}{x:Option (Nat×Value)}(h:Instr.findNow kd k' E 0=some x)(w:World):(Instr.findKey kt k' E).run P w=.ok x w:=by
 unfold Instr.findKey
 simp only[Sem.run_bind,run_underlying hu,Result.andThen_ok,h,Sem.run_pure]
def Fa(z k:AV)(es:List (AV×AV×Nat)):Option (AV×Bool):=match A8 k es with | some (some e)=>some (e.2.1,true) | some none=>some (z,false) | none=>none
def zq(z:AV)(m:Option Nat)(k:AV)(h:H):Option (AV×Bool):=
 match m with
 | none=>some (z,false)
 | some i=>
  match h.get i with
  | some (.map es _)=>Fa z k es
  | some (.aeN es _)=>Fa z k es
  | _=>none
def zeroV(P:Program)(e:TypeId):Option AV:=((P.info? e).bind (·.zero)).map ofValue
theorem kF{P:Program}{w:World}{b:Nat}{E:Array MapEntry}{eO:Nat}(h:w.heap[b]?=some (.map E eO)):(getObj b).run P w=.ok (.map E eO) w:=by simp[getObj,Sem.run,h]
theorem abl{P:Program}{e:TypeId}{z:AV}(h:zeroV P e=some z):∃v,(∀r,VR r z v)/\∀w,(zeroValue e).run P w=.ok v w:=by
 unfold zeroV at h
 obtain⟨v,hv,rfl⟩:=Option.map_eq_some_iff.1 h
 obtain⟨i,hi,hz⟩:=Option.bind_eq_some_iff.1 hv
 exact⟨v,λr=>Cy r v,λw=>by simp[zeroValue,typeInfo,hi,hz]⟩
def okV(ok:Bool)(v:AV)(b:Bool):AV:=match ok with | true=>.dJ [v,.bool b] | false=>v
def zu(P:Program)(t:TypeId)(m k:AV)(ok:Bool)(h:H):Option AV:=
  match P.underlying t,m with
  | some (.map kt e),.map m=>
    (match P.underlying kt with
     | some kd=>if nB kd k=true then(zeroV P e).bind λz=>(zq z m k h).map λq=>okV ok q.1 q.2 else none
     | none=>none)
  | _,_=>none
theorem XQ{r:Ren}{a b:AV}{v u:Value}(ha:VR r a v)(hb:VR r b u):VR r (.dJ [a,b]) (.tuple #[v,u]):=
 .dJ _ _ rfl λi x y hx hy=>by
  match i with
  | 0=>simp at hx hy;subst hx;subst hy;exact ha
  | 1=>simp at hx hy;subst hx;subst hy;exact hb
  | n+2=>simp at hx
theorem Q3{P:Program}{r:Ren}{h:H}{w:World}(an:Rel r h w){t:TypeId}{m k v:AV}{m' k':Value}{ok:Bool}(hs:zu P t m k ok h=some v)(hm:VR r m m')(hk:VR r k k'):
  ∃v',VR r v v'/\(Instr.lookup t m' k' ok).run P w=.ok v' w:=by
 unfold zu at hs
 split at hs
 ·rename_i kt e mm hu
  split at hs
  ·rename_i kd HQ
   split at hs
   ·rename_i hkk
    obtain⟨z,hz,hs⟩:=Option.bind_eq_some_iff.1 hs
    obtain⟨q,hq,rfl⟩:=Option.map_eq_some_iff.1 hs
    obtain⟨z',hz1,hz2⟩:=abl hz
    have fin:∀(x:Value) (b:Bool),VR r q.1 x->q.2=b->VR r (okV ok q.1 q.2) (if ok then .tuple #[x,.bool b]else x):=by
     intro x b hx hb
     cases ok with
     | true=>subst hb;exact XQ hx (.bool _)
     | false=>exact hx
    cases hm with
    | Dt=>
     simp only[zq]at hq
     cases hq
     refine⟨_,fin z' false (hz1 r) rfl,?_⟩
     have hn:Instr.findNow kd k' [] 0=some none:=rfl
     simp only[Instr.lookup,Sem.run_bind,run_underlying hu,Result.andThen_ok,Sem.run_pure,run_checkKey HQ hkk hk,run_findKey HQ hn,hz2]
    | @map i0 t0 ht=>
     simp only[zq]at hq
     have main:∀(es:List (AV×AV×Nat)) (E:Array MapEntry) (eO:Nat),w.heap[t0.blk]?=some (.map E eO)->eK r es E.toList->(es.Pairwise λa b=>bZ a.1 b.1=some false)->Fa z k es=some q->∃v',VR r (okV ok q.1 q.2) v'/\(Instr.lookup t (Value.map (some t0.blk)) k' ok).run P w=.ok v' w:=by
      intro es E eO hb hE hp hq
      unfold Fa at hq
      split at hq
      ·rename_i y hy
       cases hq
       rcases Fj hkk hk hE hp hy with⟨hn,_⟩ | ⟨y',j,en,hxy,hj,hke,hv1,hv2,hv3,hfn,_⟩
       ·cases hn
       ·cases hxy
        refine⟨_,fin en.val true hv2 rfl,?_⟩
        simp only[Instr.lookup,Sem.run_bind,run_underlying hu,Result.andThen_ok,Sem.run_pure,kF hb,run_checkKey HQ hkk hk,run_findKey HQ hfn]
      ·rename_i hy
       cases hq
       rcases Fj hkk hk hE hp hy with⟨_,_,hfn,_⟩ | ⟨y',j,en,hxy,_⟩
       ·refine⟨_,fin z' false (hz1 r) rfl,?_⟩
        simp only[Instr.lookup,Sem.run_bind,run_underlying hu,Result.andThen_ok,Sem.run_pure,kF hb,run_checkKey HQ hkk hk,run_findKey HQ hfn,hz2]
       ·cases hxy
      ·cases hq
     split at hq
     ·rename_i es eO hg
      obtain⟨E,hb,hE,hp⟩:=an.obj _ _ _ ht hg
      exact main es E _ hb hE hp hq
     ·rename_i es eO hg
      obtain⟨E,hb,hE,hp⟩:=an.obj _ _ _ ht hg
      exact main es E _ hb hE hp hq
     ·cases hq
   ·cases hs
  ·cases hs
 ·cases hs
def I0(k v:AV)(es:List (AV×AV×Nat))(eO:Nat):Option (List (AV×AV×Nat)×Nat):=
 match A8 k es with
 | some (some _)=>some (es.map λe=>cond (bZ k e.1==some true) (k,v,e.2.2) e,eO)
 | some none=>some (es++[(k,v,eO)],eO+1)
 | none=>none
def s7(m:Option Nat)(k v:AV)(h:H):Option H:=
 match m with
 | none=>none
 | some i=>
  match h.get i with
  | some (.map es eO)=>(I0 k v es eO).map λx=>h.set i (.map x.1 x.2)
  | _=>none
def X9(k:AV)(es:List (AV×AV×Nat)):Option (List (AV×AV×Nat)):=
 match A8 k es with
 | some _=>some (es.filter λe=>!(bZ k e.1==some true))
 | none=>none
theorem R0{r:Ren}{kd:TypeDesc}{k:AV}{k':Value}(hkk:nB kd k=true)(hk:VR r k k'):Instr.sameBits 10000 k' k'=true:=by
 cases hk<;>cases kd<;>simp[nB]at hkk<;>simp[Instr.sameBits]
 exact(MapKept.bytes_beq _ _).2 rfl
theorem Ia{α:Type}{x:α}:∀{l:List α} {i:Nat},l[i]?=some x->(x::l.eraseIdx i).Perm l
 | [],i,h=>by simp at h
 | y::l,0,h=>by simp at h;subst h;exact .refl _
 | y::l,i+1,h=>by
  have ih:=Ia (l:=l) (i:=i) (by simpa using h)
  simp only[List.eraseIdx_cons_succ]
  exact(List.Perm.swap y x _).trans (ih.cons y)
theorem FH{α:Type}{x:α}{f:α->α}:∀{l:List α} {i:Nat},l[i]?=some x->(l.modify i f).Perm (f x::l.eraseIdx i)
 | [],i,h=>by simp at h
 | y::l,0,h=>by simp at h;subst h;simp[List.modify_cons]
 | y::l,i+1,h=>by
  have ih:=FH (f:=f) (l:=l) (i:=i) (by simpa using h)
  simp only[List.eraseIdx_cons_succ,List.modify_succ_cons]
  exact(ih.cons y).trans (List.Perm.swap _ _ _)
theorem Le{a b:AV}(h:bZ a b=some true):a=b:=by
 unfold bZ at h
 split at h
 ·split at h
  ·rename_i e;subst e;simp at h;subst h;rfl
  ·cases h
 ·simp only[Option.some.injEq]at h;rw[(MapKept.bytes_beq _ _).1 h]
 ·simp at h;subst h;rfl
 ·cases h
theorem Fs{a b:AV}(h:bZ a b=some false):bZ b a=some false:=by
 unfold bZ at h
 split at h
 ·split at h
  ·rename_i e;subst e;simp at h;simp[bZ];exact λe=>h e.symm
  ·cases h
 ·simp only[Option.some.injEq]at h
  simp only[bZ,Option.some.injEq]
  rw[<-Bool.not_eq_true]at h ⊢
  rw[MapKept.bytes_beq]at h ⊢
  exact λe=>h e.symm
 ·simp at h;simp[bZ];exact λe=>h e.symm
 ·cases h
theorem Uk{k:AV}{es:List (AV×AV×Nat)}(hp:es.Pairwise λa b=>bZ a.1 b.1=some false){i:Nat}{y:AV×AV×Nat}(hi:es[i]?=some y)(hk:bZ k y.1=some true){m:Nat}{z:AV×AV×Nat}(hm:es[m]?=some z):bZ k z.1=some true↔m=i:=by
 obtain⟨li,rfl⟩:=sS hi
 obtain⟨lm,rfl⟩:=sS hm
 have Vd:=Le hk
 refine⟨λh=>?_,λh=>by subst h;exact hk⟩
 rcases Nat.lt_trichotomy m i with h' | h' | h'
 ·have:=Fs ((List.pairwise_iff_getElem.1 hp) m i lm li h')
  rw[Vd,this]at h;cases h
 ·exact h'
 ·have:=(List.pairwise_iff_getElem.1 hp) i m li lm h'
  rw[Vd,this]at h;cases h
theorem I6{α:Type}{p:α->Bool}:∀{l:List α} {i:Nat},(∀m x,l[m]?=some x->(p x=false↔m=i))->l.filter p=l.eraseIdx i
 | [],i,_=>by simp
 | y::l,0,h=>by
  have h0:=(h 0 y rfl).2 rfl
  rw[List.filter_cons,h0]
  simp only[List.eraseIdx_cons_zero,Bool.false_eq_true,if_false]
  rw[List.filter_eq_self]
  intro x hx
  obtain⟨m,hm⟩:=List.getElem?_of_mem hx
  have:=h (m+1) x (by simpa using hm)
  cases hq:p x with
  | true=>rfl
  | false=>have:=this.1 hq;omega
 | y::l,i+1,h=>by
  have h0:p y=true:=by
   cases hq:p y with
   | true=>rfl
   | false=>have:=(h 0 y rfl).1 hq;omega
  rw[List.filter_cons,h0]
  simp only[if_true,List.eraseIdx_cons_succ]
  rw[I6 (l:=l) (i:=i) λm x hm=>by have:=h (m+1) x (by simpa using hm);simpa using this]
theorem map_set{α:Type}{c:α->Bool}{v:α->α}{l:List α}{i:Nat}(h:∀m x,l[m]?=some x->(c x=true↔m=i)):(l.map λe=>cond (c e) (v e) e)=l.modify i v:=by
 apply List.ext_getElem?
 intro m
 rw[List.getElem?_map,List.getElem?_modify]
 cases hm:l[m]? with
 | none=>
  simp
 | some x=>
  have hl:m<l.length:=(sS hm).1
  by_cases hi:i=m
  ·subst hi
   simp[(h i x hm).2 rfl]
  ·have:c x=false:=by
    cases hq:c x with
    | false=>rfl
    | true=>exact absurd ((h m x hm).1 hq).symm hi
   simp[hi,this]
theorem PO{r:Ren}{k:AV}{k':Value}(hk:VR r k k'){es:List (AV×AV×Nat)}{E:List MapEntry}(hE:eK r es E)(hp:es.Pairwise λa b=>bZ a.1 b.1=some false){y:AV×AV×Nat}(hy:y∈es)(hc:bZ k y.1=some true)
  {j:Nat} {e:MapEntry} (hj:E[j]?=some e) (hek:e.key=k'):∃i,es[i]?=some y/\eK r (es.eraseIdx i) (E.eraseIdx j):=by
 obtain⟨E',vP,hl,TY⟩:=hE
 obtain⟨i,hi⟩:=List.getElem?_of_mem hy
 have hlt:i<E'.length:=by rw[<-hl];exact(sS hi).1
 have he':E'[i]?=some E'[i]:=List.getElem?_eq_getElem hlt
 have hv:=TY i y _ hi he'
 have hk2:=(zG hc hk hv.1).1 rfl
 obtain⟨i2,hi2⟩:=List.getElem?_of_mem (vP.mem_iff.2 (Hq hj))
 have hii:=NY hl TY hp he' hi2 (hk2.symm.trans hek.symm)
 subst hii
 refine⟨i,hi,E'.eraseIdx i,?_,?_,λm x f hx hf=>?_⟩
 ·exact((Ia hi2).trans (vP.trans (Ia hj).symm)).cons_inv
 ·rw[List.length_eraseIdx,List.length_eraseIdx,hl]
 ·rw[List.getElem?_eraseIdx]at hx hf
  split at hx
  ·rename_i h;rw[if_pos h]at hf;exact TY m x f hx hf
  ·rename_i h;rw[if_neg h]at hf;exact TY (m+1) x f hx hf
theorem eK.cons{r:Ren}{x:AV×AV×Nat}{e:MapEntry}{es:List (AV×AV×Nat)}{E:List MapEntry}(h1:VR r x.1 e.key)(h2:VR r x.2.1 e.val/\x.2.2=e.born)(h:eK r es E):eK r (x::es) (e::E):=by
 obtain⟨E',hp,hl,TY⟩:=h
 refine⟨e::E',hp.cons e,by simp[hl],λi y f hy hf=>?_⟩
 cases i with
 | zero=>simp at hy hf;subst hy;subst hf;exact⟨h1,h2⟩
 | succ i=>exact TY i y f (by simpa using hy) (by simpa using hf)
theorem eK.perm{r:Ren}{es es':List (AV×AV×Nat)}{E E':List MapEntry}(hp:es'.Perm es)(hq:E.Perm E')(h:eK r es E):eK r es' E':=by
 have left:∀{es es':List (AV×AV×Nat)},es'.Perm es->∀E:List MapEntry,eK r es E->eK r es' E:=by
  intro es es' hp
  induction hp with
  | nil=>exact λE h=>h
  | cons x _ ih=>
   intro E h
   obtain⟨F,h1,h2,h3⟩:=h
   cases F with
   | nil=>simp at h2
   | cons f F=>
    have:=h3 0 _ _ rfl rfl
    obtain⟨G,g1,g2,g3⟩:=eK.cons this.1 this.2 (ih F ⟨F,.refl _,by simpa using h2,λi y g hy hg=>h3 (i+1) y g (by simpa using hy) (by simpa using hg)⟩)
    exact⟨G,g1.trans h1,g2,g3⟩
  | swap x y l=>
   intro E h
   obtain⟨F,h1,h2,h3⟩:=h
   match F,h2 with
   | f::g::F,h2=>
    have a:=h3 0 _ _ rfl rfl
    have b:=h3 1 _ _ rfl rfl
    refine⟨g::f::F,(List.Perm.swap f g F).trans h1,by simpa using h2,λi z q hz hq=>?_⟩
    match i with
    | 0=>simp at hz hq;subst hz;subst hq;exact b
    | 1=>simp at hz hq;subst hz;subst hq;exact a
    | i+2=>exact h3 (i+2) z q (by simpa using hz) (by simpa using hq)
  | trans _ _ ih1 ih2=>exact λE h=>ih1 E (ih2 E h)
 obtain⟨F,h1,h2,h3⟩:=left hp E h
 exact⟨F,h1.trans hq,h2,h3⟩
theorem run_setObj_map{P:Program}{w:World}{b:Nat}{E E2:Array MapEntry}{eO LG:Nat}(h:w.heap[b]?=some (.map E eO)):(setObj b (.map E2 LG)).run P w=.ok () {w with heap:=w.heap.setIfInBounds b (.map E2 LG)}:=by
 simp[setObj,Sem.run,h]
theorem Post.of_map{r:Ren}{h:H}{w:World}(an:Rel r h w){i:Nat}{t:D4}(ht:r i=some t){es es2:List (AV×AV×Nat)}{eO:Nat}(hg:h.get i=some (.map es eO)){E2:Array MapEntry}{LG:Nat}(hE:eK r es2 E2.toList)(hp:es2.Pairwise λa b=>bZ a.1 b.1=some false):
  Post r h w r (h.set i (.map es2 LG)) {w with heap:=w.heap.setIfInBounds t.blk (.map E2 LG)}:=by
 obtain⟨E,hb,_⟩:=an.obj _ _ _ ht hg
 have hlt:=World.EM hb
 exact Post.Kv an ht hg rfl rfl (by simp) ⟨rfl,rfl,rfl,λ_=>cF _⟩ (λb hbb=>by simp[Array.getElem?_setIfInBounds_ne (Ne.symm hbb)]) ⟨E2,by simp[hlt],hE,hp⟩
theorem RS{es:List (AV×AV×Nat)}(hp:es.Pairwise λa b=>bZ a.1 b.1=some false){k v:AV}{c:AV×AV×Nat->Bool}(hc:∀e∈es,c e=true->e.1=k):(es.map λe=>cond (c e) (k,v,e.2.2) e).Pairwise λa b=>bZ a.1 b.1=some false:=by
 rw[List.pairwise_map]
 refine hp.imp_of_mem λ{a b} ha hb h=>?_
 have e1:(cond (c a) (k,v,a.2.2) a).1=a.1:=by
  cases hq:c a with
  | true=>exact(hc a ha hq).symm
  | false=>rfl
 have e2:(cond (c b) (k,v,b.2.2) b).1=b.1:=by
  cases hq:c b with
  | true=>exact(hc b hb hq).symm
  | false=>rfl
 rw[e1,e2];exact h
theorem IX{P:Program}{r:Ren}{h h':H}{w:World}(an:Rel r h w){t kt e:TypeId}{kd:TypeDesc}(hu:P.underlying t=some (.map kt e))(HQ:P.underlying kt=some kd){m:Option Nat}{k v:AV}{m' k' v':Value}(hkk:nB kd k=true)
  (hs:s7 m k v h=some h') (hm:VR r (.map m) m') (hk:VR r k k') (hv:VR r v v'):∃w',(Instr.mapUpdate t m' k' v').run P w=.ok () w'/\Post r h w r h' w':=by
 cases hm with
 | Dt=>simp[s7]at hs
 | map ht=>
  simp only[s7]at hs
  split at hs
  ·rename_i es eO hg
   obtain⟨⟨es2,c2⟩,hes,rfl⟩:=Option.map_eq_some_iff.1 hs
   obtain⟨E,hb,hE,hp⟩:=an.obj _ _ _ ht hg
   unfold I0 at hes
   split at hes
   ·rename_i y hy
    cases hes
    rcases Fj hkk hk hE hp hy with⟨hn,_⟩ | ⟨y',j,en,hxy,hj,hke,hv1,hv2,hv3,hfn,hmem,hcmp⟩
    ·cases hn
    ·cases hxy
     obtain⟨i,hi,YB⟩:=PO hk hE hp hmem hcmp hj hke
     have hj':E[j]?=some en:=by simpa using hj
     have Rk:(es.map λe=>cond (bZ k e.1==some true) (k,v,e.2.2) e)=es.modify i λe=>(k,v,e.2.2):=map_set (v:=λe=>(k,v,e.2.2)) λm x hx=>by
      rw[beq_iff_eq];exact Uk hp hi hcmp hx
     have hE2:eK r (es.map λe=>cond (bZ k e.1==some true) (k,v,e.2.2) e) (E.modify j λe=>{e with key:=k',val:=v'}).toList:=by
      rw[Rk,Array.toList_modify]
      exact(eK.cons (x:=(k,v,_)) (e:={en with key:=k',val:=v'}) hk ⟨hv,hv3⟩ YB).perm (FH hi) (FH hj).symm
     refine⟨_,?_,Post.of_map an ht hg (LG:=eO) hE2 (RS hp λe he hce=>(Le (by simpa using hce)).symm)⟩
     simp only[Instr.mapUpdate,Sem.run_bind,run_underlying hu,Result.andThen_ok,kF hb,run_checkKey HQ hkk hk,run_findKey HQ hfn,hj',Option.map_some,Option.getD_some,hke,Instr.keyThatStays,R0 hkk hk,if_true,Sem.run_pure,run_setObj_map hb]
   ·rename_i hy
    cases hes
    rcases Fj hkk hk hE hp hy with⟨_,hno,hfn,_⟩ | ⟨y',j,en,hxy,_⟩
    ·have hE2:eK r (es++[(k,v,eO)]) (E.push {key:=k',val:=v',born:=eO}).toList:=by
      rw[Array.toList_push]
      refine(eK.cons (x:=(k,v,eO)) (e:={key:=k',val:=v',born:=eO}) hk ⟨hv,rfl⟩ hE).perm ?_ ?_
      ·exact(List.perm_append_comm (l₁:=es) (l₂:=[(k,v,eO)]))
      ·exact(List.perm_append_comm (l₁:=[_]) (l₂:=E.toList))
     refine⟨_,?_,Post.of_map an ht hg (LG:=eO+1) hE2 ?_⟩
     ·simp only[Instr.mapUpdate,Sem.run_bind,run_underlying hu,Result.andThen_ok,kF hb,run_checkKey HQ hkk hk,run_findKey HQ hfn,run_setObj_map hb]
     ·rw[List.pairwise_append]
      refine⟨hp,List.pairwise_singleton _ _,λa ha b hb=>?_⟩
      simp at hb
      subst hb
      exact Fs (hno a ha)
    ·cases hxy
   ·cases hes
  ·cases hs
def B2(m:Option Nat)(k:AV)(h:H):Option H:=
 match m with
 | none=>some h
 | some i=>
  match h.get i with
  | some (.map es eO)=>(X9 k es).map λes'=>h.set i (.map es' eO)
  | _=>none
theorem Q4{P:Program}{r:Ren}{h h':H}{w:World}(an:Rel r h w){t kt e ty t2:TypeId}{kd:TypeDesc}(hu:P.underlying t=some (.map kt e))(HQ:P.underlying kt=some kd){m:Option Nat}{k:AV}{m' k':Value}(hkk:nB kd k=true)
  (hs:B2 m k h=some h') (hm:VR r (.map m) m') (hk:VR r k k'):∃w',(Builtin.delete_ #[t,t2] ty #[m',k']).run P w=.ok (.tuple #[]) w'/\Post r h w r h' w':=by
 cases hm with
 | Dt=>
  simp only[B2]at hs
  cases hs
  refine⟨w,?_,Post.refl an⟩
  simp only[Builtin.delete_,List.getElem?_toArray,List.getElem?_cons_zero,List.getElem?_cons_succ,Sem.run_bind,run_underlying hu,Result.andThen_ok,run_checkKey HQ hkk hk,Sem.run_pure]
 | map ht=>
  simp only[B2]at hs
  split at hs
  ·rename_i es eO hg
   obtain⟨es2,hes,rfl⟩:=Option.map_eq_some_iff.1 hs
   obtain⟨E,hb,hE,hp⟩:=an.obj _ _ _ ht hg
   unfold X9 at hes
   split at hes
   ·rename_i x hy
    cases hes
    rcases Fj hkk hk hE hp hy with⟨hn,hno,hfn,_⟩ | ⟨y',j,en,hxy,hj,hke,hv1,hv2,hv3,hfn,hmem,hcmp⟩
    ·have hf:(es.filter λe=>!(bZ k e.1==some true))=es:=by
      rw[List.filter_eq_self]
      intro a ha
      rw[hno a ha];rfl
     rw[hf]
     refine⟨_,?_,Post.of_map an ht hg (LG:=eO) hE hp⟩
     simp only[Builtin.delete_,List.getElem?_toArray,List.getElem?_cons_zero,List.getElem?_cons_succ,Sem.run_bind,run_underlying hu,Result.andThen_ok,kF hb,run_checkKey HQ hkk hk,run_findKey HQ hfn,run_setObj_map hb,Sem.run_pure]
    ·obtain⟨i,hi,YB⟩:=PO hk hE hp hmem hcmp hj hke
     have hf:(es.filter λe=>!(bZ k e.1==some true))=es.eraseIdx i:=I6 λm x hx=>by
      rw[Bool.not_eq_false',beq_iff_eq];exact Uk hp hi hcmp hx
     rw[hf]
     refine⟨_,?_,Post.of_map an ht hg (LG:=eO) (E2:=E.eraseIdxIfInBounds j) (by rw[Array.toList_eraseIdxIfInBounds];exact YB) (hp.sublist (List.eraseIdx_sublist _ _))⟩
     simp only[Builtin.delete_,List.getElem?_toArray,List.getElem?_cons_zero,List.getElem?_cons_succ,Sem.run_bind,run_underlying hu,Result.andThen_ok,kF hb,run_checkKey HQ hkk hk,run_findKey HQ hfn,run_setObj_map hb,Sem.run_pure]
   ·cases hes
  ·cases hs
def wu(m:Option Nat)(h:H):Option H:=
 match m with
 | none=>some h
 | some i=>match h.get i with | some (.map _ eO)=>some (h.set i (.map [] eO)) | _=>none
theorem Nx{P:Program}{r:Ren}{h h':H}{w:World}(an:Rel r h w){t kt e ty:TypeId}(hu:P.underlying t=some (.map kt e)){m:Option Nat}{m':Value}
  (hs:wu m h=some h') (hm:VR r (.map m) m'):∃w',(Builtin.clear_ #[t] ty #[m']).run P w=.ok (.tuple #[]) w'/\Post r h w r h' w':=by
 cases hm with
 | Dt=>
  simp only[wu]at hs
  cases hs
  refine⟨w,?_,Post.refl an⟩
  simp[Builtin.clear_,run_underlying hu]
 | map ht=>
  simp only[wu]at hs
  split at hs
  ·rename_i es eO hg
   cases hs
   obtain⟨E,hb,hE,hp⟩:=an.obj _ _ _ ht hg
   refine⟨_,?_,Post.of_map an ht hg (LG:=eO) (E2:=#[]) ⟨[],.nil,rfl,λi x e hx=>by simp at hx⟩ .nil⟩
   simp only[Builtin.clear_,List.getElem?_toArray,List.getElem?_cons_zero,Sem.run_bind,run_underlying hu,Result.andThen_ok,kF hb,run_setObj_map hb,Sem.run_pure]
  ·cases hs
def rG(m:Option Nat)(h:H):Option Nat:=
 match m with
 | none=>some 0
 | some i=>match h.get i with | some (.map es _)=>some es.length | _=>none
theorem Q5{P:Program}{r:Ren}{h:H}{w:World}(an:Rel r h w){t kt e ty:TypeId}(hu:P.underlying t=some (.map kt e)){m:Option Nat}{m':Value}{n:Nat}
  (hs:rG m h=some n) (hm:VR r (.map m) m'):(Builtin.len_ #[t] ty #[m']).run P w=.ok (goInt n) w:=by
 cases hm with
 | Dt=>
  simp only[rG]at hs
  cases hs
  simp[Builtin.len_,run_underlying hu]
 | map ht=>
  simp only[rG]at hs
  split at hs
  ·rename_i es eO hg
   cases hs
   obtain⟨E,hb,⟨E',vP,hl,_⟩,hp⟩:=an.obj _ _ _ ht hg
   have:E.size=es.length:=by rw[hl,vP.length_eq];simp
   simp only[Builtin.len_,List.getElem?_toArray,List.getElem?_cons_zero,Sem.run_bind,run_underlying hu,Result.andThen_ok,kF hb,Sem.run_pure,this]
  ·cases hs
def H.xq(h:H)(i:Nat):Option (List (AV×AV×Nat)×Nat):=match h.get i with | some (.map es eO)=>some (es,eO) | some (.aeN es eO)=>some (es,eO) | _=>none
theorem aav{h:H}{i:Nat}{es:List (AV×AV×Nat)}{eO:Nat}(hg:h.get i=some (.map es eO)):h.xq i=some (es,eO):=by simp only[H.xq,hg]
theorem Fw{h h':H}{i j:Nat}(hg:h'.get j=h.get i):h'.xq j=h.xq i:=by simp only[H.xq,hg]
theorem Rel.xq{r:Ren}{h:H}{w:World}(an:Rel r h w){i:Nat}{t:D4}(ht:r i=some t){es:List (AV×AV×Nat)}{eO:Nat}(hm:h.xq i=some (es,eO)):
  ∃E,w.heap[t.blk]?=some (.map E eO)/\eK r es E.toList/\es.Pairwise λa b=>bZ a.1 b.1=some false:=by
 unfold H.xq at hm
 split at hm
 ·rename_i hg;cases hm;exact an.obj _ _ _ ht hg
 ·rename_i hg;cases hm;exact an.obj _ _ _ ht hg
 ·cases hm
theorem cell_of{r:Ren}{w:World}{t:D4}{cs:List AV}{ro:Bool}(h:OR r w t (.cells cs ro)){i:Nat}{a:AV}(ha:cs[i]?=some a):
  ∃v,w.cell? ⟨t.blk,t.base+i,none⟩=some v/\VR r a v:=by
 obtain⟨C,e,fz,h1,h2,h3,h4,h5⟩:=h
 have hlt:i<cs.length:=(sS ha).1
 have hC:t.base+i<C.size:=by omega
 exact⟨C[t.base+i],by simp[World.cell?,h1,hC],h4 i a _ ha (Array.getElem?_eq_getElem hC)⟩
theorem ER{r:Ren}{w:World}{t:D4}{cs:List AV}{ro:Bool}(h:OR r w t (.cells cs ro))(o n:Nat)(hn:o+n<=cs.length):
  ∃vs:List Value,kg r ((cs.drop o).take n) vs/\vs.length=n/\∀(j:Nat) v,vs[j]?=some v->w.cell? ((⟨t.blk,t.base+o,none⟩:Addr).add j)=some v:=by
 have hex:∀i,i<n->∃v,w.cell? ⟨t.blk,t.base+(o+i),none⟩=some v/\VR r (cs.getD (o+i) .fJ) v:=by
  intro i hi
  have ha:cs[o+i]?=some (cs[o+i]'(by omega)):=List.getElem?_eq_getElem (by omega)
  obtain⟨v,h1,h2⟩:=cell_of h ha
  exact⟨v,h1,by rw[List.getD_eq_getElem?_getD,ha];exact h2⟩
 have hc:∀i,∃v,i<n->w.cell? ⟨t.blk,t.base+(o+i),none⟩=some v/\VR r (cs.getD (o+i) .fJ) v:=by
  intro i
  by_cases hi:i<n
  ·obtain⟨v,hv⟩:=hex i hi;exact⟨v,λ_=>hv⟩
  ·exact⟨undef,λh=>absurd h hi⟩
 obtain⟨f,hf⟩:∃f:Nat->Value,∀i,i<n->w.cell? ⟨t.blk,t.base+(o+i),none⟩=some (f i)/\VR r (cs.getD (o+i) .fJ) (f i):=⟨λi=>Classical.choose (hc i),λi=>Classical.choose_spec (hc i)⟩
 refine⟨(List.range n).map f,⟨by simp;omega,λi a v ha hv=>?_⟩,by simp,λj v hj=>?_⟩
 ·rw[List.getElem?_take]at ha
  split at ha
  ·rename_i hi
   rw[List.getElem?_map,List.getElem?_range hi]at hv
   simp at hv
   subst hv
   have:=(hf i hi).2
   rw[List.getElem?_drop]at ha
   rwa [List.getD_eq_getElem?_getD,ha]at this
  ·cases ha
 ·have hi:j<n:=by
   have:=(sS hj).1
   simpa using this
  rw[List.getElem?_map,List.getElem?_range hi]at hj
  simp at hj
  subst hj
  rw[s3,Nat.add_assoc]
  exact(hf j hi).1
def Db(P:Program)(t:TypeId)(p:AV)(h:H):Option AV:=
 match P.underlying t,p with
 | some d,.ptr (some (i,o))=>
  match h.get i with
  | some (.cells cs _)=>if Vo d then(if(P.info? t).isSome/\o+P.cellsOf t<=cs.length then some (.agg ((cs.drop o).take (P.cellsOf t)))else none)else cs[o]?
  | _=>none
 | _,_=>none
theorem Lr{P:Program}{r:Ren}{h:H}{w:World}(an:Rel r h w){t:TypeId}{p v:AV}{p':Value}(hv:Db P t p h=some v)(hp:VR r p p'):
  ∃a v',p'=.pointer (some a)/\VR r v v'/\(loadVar t a).run P w=.ok v' w:=by
 unfold Db at hv
 split at hv
 ·rename_i d i o hu
  cases hp with
  | ptr ht=>
   split at hv
   ·rename_i cs ro hg
    have Jd:=an.obj _ _ _ ht hg
    split at hv
    ·rename_i ha
     split at hv
     ·rename_i hb
      obtain⟨hsome,hb⟩:=hb
      obtain⟨inf,xS⟩:=Option.isSome_iff_exists.1 hsome
      cases hv
      obtain⟨vs,h1,h2,h3⟩:=ER Jd o _ hb
      refine⟨_,.agg vs.toArray,rfl,.agg _ _ (by simpa using h1.1) (λi a v ha hv=>h1.2 i a v ha (by simpa using hv)),?_⟩
      have:=run_loadCells_list (P:=P) w _ vs h3
      rw[h2]at this
      simp only[loadVar,Sem.run_bind,GM hu,Result.andThen_ok,ha,if_true,run_sizeOf w xS,this,Sem.run_pure]
     ·cases hv
    ·rename_i ha
     obtain⟨v',h1,h2⟩:=cell_of Jd hv
     refine⟨_,v',rfl,h2,?_⟩
     simp only[loadVar,Sem.run_bind,GM hu,Result.andThen_ok,ha,Bool.false_eq_true,if_false,run_load,h1]
   ·cases hv
 ·cases hv
def Fc(l:List AV):Option (List Int):=l.mapM λx=>match x with | .int .u8 n=>some n | _=>none
theorem HM{r:Ren}:∀{l:List AV} {vs:List Value} {ns:List Int},Fc l=some ns->kg r l vs->vs=ns.map (Value.int .u8)
 | [],vs,ns,h,hv=>by
  cases vs with
  | nil=>simp[Fc]at h;subst h;rfl
  | cons _ _=>have:=hv.1;simp at this
 | a::l,vs,ns,h,hv=>by
  obtain⟨v,vs',rfl,h1,h2⟩:=hv.jL
  simp only[Fc,List.mapM_cons,bind,Option.bind_eq_some_iff,pure,Option.some.injEq]at h
  obtain⟨n,hn,ms,hm,rfl⟩:=h
  split at hn
  ·cases hn
   cases h1
   rw[HM (l:=l) hm h2];rfl
  ·cases hn
def wq(h:H)(x:AV):Option AV:=
 match x with
 | .slice none _ _=>some (.str .empty)
 | .slice (some (i,o)) len _=>
  if len=0 then some (.str .empty)else
  match h.get i with
  | some (.cells cs _)=>if o+len<=cs.length then(Fc ((cs.drop o).take len)).map λns=>.str (strOfNums ns)else none
  | _=>none
 | _=>none
def Gi(P:Program)(s d:TypeId)(x:AV)(h:H):Option AV:=
 match P.underlying s,P.underlying d with
 | some (.slice e),some .string=>match P.underlying e with | some (.int .u8)=>wq h x | _=>none
 | _,_=>none
def Ka(P:Program)(ts:List TypeId)(xs:List AV)(h:H):Option AV:=
 match ts,xs with
 | [t],[.map m]=>(match P.underlying t with | some (.map _ _)=>(rG m h).map λn:Nat=>AV.int .i64 (Nat.cast n) | _=>none)
 | _,_=>none
def sR(P:Program)(ρ:Operand->AV)(op:Op)(h:H):Option AV:=
 match op with
 | .load t a=>Db P t (ρ a) h
 | .convert s d x=>Gi P s d (ρ x) h
 | .lookup t m k ok=>zu P t (ρ m) (ρ k) ok h
 | .call c=>(match c.callee with | .builtin .len=>Ka P c.argTypes.toList (c.args.toList.map ρ) h | _=>none)
 | _=>none
theorem JC{P:Program}{w:World}{a:Addr}{len cap:Nat}{ns:List Int}(h:(loadCells a len).run P w=.ok (ns.map (Value.int .u8)).toArray w):
  (Conv.bytesToString (.slice (some a) len cap)).run P w=.ok (.string (strOfNums ns)) w:=by
 rw[run_bytesToString w _ len cap ns h,foldl_push_bytes]
 simp[strOfNums,ByteArray.empty,ByteArray.emptyWithCapacity]
 rfl
theorem VX{P:Program}{r:Ren}{h:H}{w:World}(an:Rel r h w){ρ:Operand->AV}{ρ':Operand->Value}(hρ:∀x,VR r (ρ x) (ρ' x))(o:Oper){v:AV}(hv:sR P ρ o.op h=some v):
  ∃v',VR r v v'/\(execOp ρ' o).run P w=.ok (.value v') w:=by
 unfold sR at hv
 cases hop:o.op<;>simp only[hop]at hv<;>try (cases hv;done)
 case lookup t m k ok=>
  obtain⟨v',h1,h2⟩:=Q3 (P:=P) an hv (hρ m) (hρ k)
  exact⟨v',h1,by simp[execOp,hop,h2]⟩
 case call c=>
  split at hv
  ·rename_i hb
   unfold Ka at hv
   split at hv
   ·rename_i t m hts hxs
    split at hv
    ·rename_i kt e hu
     obtain⟨n,hn,rfl⟩:=Option.map_eq_some_iff.1 hv
     have hargs:=Cx hρ c.args
     rw[hxs]at hargs
     obtain⟨m',vs',hcs,hm,hr⟩:=hargs.jL
     have hvs:vs'=[]:=List.eq_nil_of_length_eq_zero hr.1.symm
     subst hvs
     have e1:c.argTypes=#[t]:=by rw[<-Array.toList_inj];simpa using hts
     have e2:c.args.map ρ'=#[m']:=by rw[<-Array.toList_inj];simpa using hcs
     have hlen:=Q5 (P:=P) (ty:=o.type) an hu hn hm
     exact⟨_,.int _ _,by simp[execOp,hop,resolve,hb,invoke,builtin,e1,e2,hlen,goInt]⟩
    ·cases hv
   ·cases hv
  ·cases hv
 case load t a=>
  obtain⟨ad,v',h1,h2,h3⟩:=Lr an hv (hρ a)
  exact⟨v',h2,by simp only[execOp,hop,h1,Instr.loadAt,Instr.sureAddr,Sem.run_bind,Sem.run_pure,Result.andThen_ok,h3]⟩
 case convert s d x=>
  unfold Gi at hv
  split at hv
  ·rename_i e hs hd
   split at hv
   ·rename_i he
    have hx:=hρ x
    have key:∃v',VR r v v'/\∃a l c,ρ' x=.slice a l c/\(Conv.bytesToString (ρ' x)).run P w=.ok v' w:=by
     unfold wq at hv
     generalize ρ x=y at hv hx
     generalize ρ' x=y' at hx
     split at hv
     ·cases hv
      cases hx
      exact⟨_,.str _,_,_,_,rfl,by simp[Conv.bytesToString]⟩
     ·rename_i i o' len c
      have zero:∀(a:Addr) c',(Conv.bytesToString (.slice (some a) 0 c')).run P w=.ok (.string .empty) w:=λa c'=>
       JC (ns:=[]) (by simp[loadCells,loadCellsFrom])
      split at hv
      ·rename_i h0
       subst h0
       cases hv
       cases hx<;>exact⟨_,.str _,_,_,_,rfl,zero _ _⟩
      ·rename_i h0
       split at hv
       ·rename_i cs ro hg
        split at hv
        ·rename_i hb
         obtain⟨ns,hn,rfl⟩:=Option.map_eq_some_iff.1 hv
         have main:∀(t:D4) c',r i=some t->(Conv.bytesToString (.slice (some ⟨t.blk,t.base+o',none⟩) len c')).run P w=.ok (.string (strOfNums ns)) w:=by
          intro t c' ht
          obtain⟨vs,h1,h2,h3⟩:=ER (an.obj _ _ _ ht hg) o' len hb
          have h4:=HM hn h1
          subst h4
          have h5:=run_loadCells_list (P:=P) w _ _ h3
          rw[h2]at h5
          exact JC h5
         cases hx with
         | slice _ _ ht=>exact⟨_,.str _,_,_,_,rfl,main _ _ ht⟩
         | ec _ _ _ ht _ _=>exact⟨_,.str _,_,_,_,rfl,main _ _ ht⟩
         | lC _=>exact absurd rfl h0
         | gF _ _ _=>exact absurd rfl h0
        ·cases hv
       ·cases hv
     ·cases hv
    obtain⟨v',hv',a,l,c,hx',hrun⟩:=key
    refine⟨v',hv',?_⟩
    rw[hx']at hrun
    simp only[execOp,hop,hx',Sem.run_bind,run_convert_bytes_string w s d e a l c hs he hd,hrun,Result.andThen_ok,Sem.run_pure]
   ·cases hv
  ·cases hv
def My:List AV->Nat->List AV->List AV
 | l,_,[]=>l
 | l,o,x::xs=>My (l.set o x) (o+1) xs
theorem N1:∀(xs:List AV) (l:List AV) (o:Nat),(My l o xs).length=l.length
 | [],_,_=>rfl
 | x::xs,l,o=>by rw[My,N1 xs];simp
theorem Mz:∀(xs:List AV) (l:List AV) (o:Nat),o+xs.length<=l.length->∀k,(My l o xs)[k]?=if o<=k/\k<o+xs.length then xs[k - o]? else l[k]?
 | [],l,o,_,k=>by rw[My,if_neg (by simp<;>omega)]
 | x::xs,l,o,h,k=>by
  simp only[List.length_cons]at h
  rw[My,Mz xs _ _ (by simp;omega)]
  simp only[List.length_cons]
  by_cases hk0:k=o
  ·subst hk0
   rw[if_neg (by omega),if_pos (by omega)]
   simp[show k<l.length by omega]
  ·by_cases Vd:o+1<=k/\k<o+1+xs.length
   ·rw[if_pos Vd,if_pos (by omega)]
    obtain⟨j,hj⟩:∃j,k - o=j+1:=⟨k - o - 1,by omega⟩
    rw[hj,List.getElem?_cons_succ]
    congr 1
    omega
   ·rw[if_neg Vd,if_neg (by omega),List.getElem?_set_ne (by omega)]
theorem abN{r:Ren}{w w':World}{t:D4}{cs xs:List AV}{vs:List Value}{o:Nat}(h:OR r w t (.cells cs false))(hw:MG w w' t.blk (t.base+o) vs)(hx:kg r xs vs)(hl:o+xs.length<=cs.length):
  OR r w' t (.cells (My cs o xs) false):=by
 obtain⟨C,e,fz,h1,h2,h3,h4,h5⟩:=h
 obtain⟨C',hc',hs',hk⟩:=hw.here _ _ _ h1
 refine⟨C',e,fz,hc',by omega,by rw[N1];exact h3,λi a v ha hv=>?_,λhr off ho=>h5 hr off (by omega)⟩
 rw[Mz _ _ _ hl]at ha
 rw[hk,<-hx.1]at hv
 by_cases hi:o<=i/\i<o+xs.length
 ·rw[if_pos hi]at ha
  rw[if_pos (by omega),show t.base+i - (t.base+o)=i - o by omega]at hv
  exact hx.2 _ a v ha hv
 ·rw[if_neg hi]at ha
  rw[if_neg (by omega)]at hv
  exact h4 i a v ha hv
theorem XP{r:Ren}{w:World}{t:D4}{cs:List AV}(h:OR r w t (.cells cs false)):∃C e fz,w.heap[t.blk]?=some (.cells C e fz)/\t.row<=C.size/\t.base+cs.length<=t.row/\∀off,off<C.size->¬(fz.1<=off/\off<fz.2):=by
 obtain⟨C,e,fz,h1,h2,h3,h4,h5⟩:=h
 exact⟨C,e,fz,h1,h2,h3,h5 rfl⟩
theorem KJ{P:Program}{r:Ren}{h:H}{w:World}(an:Rel r h w){i:Nat}{t:D4}(ht:r i=some t){cs:List AV}(hg:h.get i=some (.cells cs false)){xs:List AV}{vs:List Value}(hx:kg r xs vs)
  (hcell:xs.all cT=true) {o:Nat} (hl:o+xs.length<=cs.length):
  ∃w',(storeCells ⟨t.blk,t.base+o,none⟩ vs).run P w=.ok () w'/\Post r h w r (h.set i (.cells (My cs o xs) false)) w':=by
 have Jd:=an.obj _ _ _ ht hg
 obtain⟨C,e,fz,h1,h2,h3,h5⟩:=XP Jd
 obtain⟨w',hr,hw⟩:=tZ (P:=P) (b:=t.blk) (o:=t.base+o) vs 0 w C e fz h1 (by rw[<-hx.1];omega) h5 (NV hcell hx)
 refine⟨w',hr,Post.Kv an ht hg rfl rfl hw.size hw.env hw.other (abN Jd (by simpa using hw) hx hl)⟩
def Gm(P:Program)(t:TypeId)(p x:AV)(h:H):Option H:=
 match HB x,p with
 | some xs,.ptr (some (i,o))=>
  match h.get i with
  | some (.cells cs false)=>if(P.info? t).isSome/\xs.length=P.cellsOf t/\o+xs.length<=cs.length/\xs.all cT=true then some (h.set i (.cells (My cs o xs) false))else none
  | _=>none
 | _,_=>none
theorem TK{P:Program}{r:Ren}{h h':H}{w:World}(an:Rel r h w){t:TypeId}{p x:AV}{p' x':Value}(hs:Gm P t p x h=some h')(hp:VR r p p')(hx:VR r x x'):
  ∃w',(Instr.storeAt t p' x').run P w=.ok () w'/\Post r h w r h' w':=by
 unfold Gm at hs
 split at hs
 ·rename_i xs i o hxs
  split at hs
  ·rename_i cs hg
   split at hs
   ·rename_i hb
    obtain⟨hsome,hsz,hl,hcell⟩:=hb
    obtain⟨inf,xS⟩:=Option.isSome_iff_exists.1 hsome
    cases hs
    have hv:=HC hxs hx
    cases hp with
    | ptr ht=>
     obtain⟨w',hr,hpost⟩:=KJ (P:=P) an ht hg hv hcell hl
     refine⟨w',?_,hpost⟩
     have Ki:x'.cells.size=P.cellsOf t:=by rw[<-hsz];simpa using hv.1.symm
     simp only[Instr.storeAt,Instr.sureAddr,Sem.run_bind,Sem.run_pure,Result.andThen_ok,storeVar,run_sizeOf w xS]
     rw[if_neg (by simp[Ki])]
     simpa using hr
   ·cases hs
  ·cases hs
 ·cases hs
def di(size:Nat)(x:AV)(h:H):Option (Nat×List AV):=
 match x with
 | .slice none 0 (.known 0)=>some (0,[])
 | .slice (some (i,o)) n _=>
  if n=0 then some (0,[])else
  match h.get i with
  | some (.cells cs _)=>if o+n*size<=cs.length then some (n,(cs.drop o).take (n*size))else none
  | _=>none
 | .str s=>if size=1 then some (s.size,s.data.toList.map λc=>.int .u8 c.toNat)else none
 | _=>none
theorem PK{P:Program}{r:Ren}{h:H}{w:World}(an:Rel r h w){size n:Nat}{x:AV}{x':Value}{xs:List AV}(hs:di size x h=some (n,xs))(hx:VR r x x'):
  ∃vs:List Value,kg r xs vs/\vs.length=n*size/\(∀w',w'.heap=w.heap->(Builtin.lenOf x').run P w'=.ok n w'/\∀m,m<=n->(Builtin.firstCells size m x').run P w'=.ok (vs.take (m*size)).toArray w'):=by
 unfold di at hs
 split at hs
 ·cases hs
  cases hx
  exact⟨[],.nil,by simp,λw' _=>⟨by simp[Builtin.lenOf],λm hm=>by(obtain rfl:m=0:=(by omega));simp[Builtin.firstCells]⟩⟩
 ·rename_i i o len c
  split at hs
  ·rename_i h0
   subst h0
   cases hs
   have key:∀(a:Addr) c',(∀w',w'.heap=w.heap->(Builtin.lenOf (.slice (some a) 0 c')).run P w'=.ok 0 w'/\∀m,m<=0->(Builtin.firstCells size m (.slice (some a) 0 c')).run P w'=.ok (([]:List Value).take (m*size)).toArray w'):=
    λa c' w' _=>⟨by simp[Builtin.lenOf],λm hm=>by(obtain rfl:m=0:=(by omega));simp[Builtin.firstCells,loadCells,loadCellsFrom]⟩
   cases hx<;>exact⟨[],.nil,by simp,key _ _⟩
  ·rename_i h0
   split at hs
   ·rename_i cs ro hg
    split at hs
    ·rename_i hb
     cases hs
     have main:∀(t:D4) c',r i=some t->∃vs:List Value,kg r ((cs.drop o).take (n*size)) vs/\vs.length=n*size/\
       (∀w',w'.heap=w.heap->(Builtin.lenOf (.slice (some ⟨t.blk,t.base+o,none⟩) n c')).run P w'=.ok n w'/\∀m,m<=n->(Builtin.firstCells size m (.slice (some ⟨t.blk,t.base+o,none⟩) n c')).run P w'=.ok (vs.take (m*size)).toArray w'):=by
      intro t c' ht
      obtain⟨vs,h1,h2,h3⟩:=ER (an.obj _ _ _ ht hg) o _ hb
      refine⟨vs,h1,h2,λw' hw'=>⟨by simp[Builtin.lenOf],λm hm=>?_⟩⟩
      have hms:m*size<=n*size:=Nat.mul_le_mul_right _ hm
      have h4:=run_loadCells_list (P:=P) w' ⟨t.blk,t.base+o,none⟩ (vs.take (m*size)) (λj v hj=>by
       rw[List.getElem?_take]at hj
       split at hj
       ·have:=h3 j v hj
        unfold World.cell? at this ⊢
        rw[hw'];exact this
       ·cases hj)
      rw[List.length_take,h2,Nat.min_eq_left hms]at h4
      simpa[Builtin.firstCells]using h4
     cases hx with
     | slice _ _ ht=>exact main _ _ ht
     | ec _ _ _ ht _ _=>exact main _ _ ht
     | lC _=>exact absurd rfl h0
     | gF _ _ _=>exact absurd rfl h0
    ·cases hs
   ·cases hs
 ·rename_i s
  split at hs
  ·rename_i h1
   subst h1
   cases hs
   cases hx
   have hlen:s.data.toList.length=s.size:=rfl
   refine⟨s.data.toList.map λc=>.int .u8 c.toNat,kg.map _ _ _ λc _=>.int _ _,by simp[hlen],λw' _=>⟨by simp[Builtin.lenOf],λm hm=>?_⟩⟩
   simp only[Builtin.firstCells,Sem.run_pure]
   congr 1
   apply Array.ext'
   simp[ByteArray.data_extract,List.map_take]
  ·cases hs
 ·cases hs
theorem vD{P:Program}{w:World}{ts:Array TypeId}{ty t1 t2 e:TypeId}{d2:TypeDesc}{inf:TypeInfo}{z:Value}(h1:ts[0]?=some t1)(h2:ts[1]?=some t2)(hu1:P.underlying t1=some (.slice e))(Pa:P.underlying t2=some d2)
  (hd2:∀k,d2≠.int k) (hi:P.info? e=some inf) (hz:inf.zero=some z) (hzs:z.cells.size=inf.size) {base:Option Addr} {sLen sCap n:Nat} {x':Value} {olds news:List Value}
  (ho:∀w',w'.heap=w.heap->(Builtin.firstCells inf.size sLen (.slice base sLen sCap)).run P w'=.ok olds.toArray w') (hol:olds.length=sLen*inf.size)
  (hn:∀w',w'.heap=w.heap->(Builtin.lenOf x').run P w'=.ok n w'/\(Builtin.firstCells inf.size n x').run P w'=.ok news.toArray w') (Jc:news.length=n*inf.size)
  (hg:sCap<sLen+n) (hb:(sLen+n)*inf.bytes<=140737488355328) (h63:sLen+n<=9223372036854775807):
  ∃cap w',sLen+n<=cap/\(Builtin.append_ ts ty #[.slice base sLen sCap,x']).run P w=.ok (.slice (some ⟨w.heap.size,0,none⟩) (sLen+n) cap) w'/\
   Env w w'/\∃C:Array Value,w'.heap=w.heap.push (.cells C e)/\C.size=cap*inf.size/\∀k,k<(sLen+n)*inf.size->C[k]?=(olds++news)[k]?:=by
 have hcap:=grownCap_ge w (sLen+n) sCap e
 generalize Z9:grownCap w (sLen+n) sCap e=cap at hcap
 have alm:(Question.appendCap (sLen+n) sCap e).cut (w.tape w.drawn (.appendCap (sLen+n) sCap e))=cap:=Z9
 have hfit:=growslice_fits (bytes:=inf.bytes) hg hb
 have h63':¬(9223372036854775807<((sLen:Int)+(n:Int))):=by omega
 have hng:¬(sLen+n<=sCap):=by omega
 have h48:¬(281474976710656<Builtin.nextslicecap (sLen+n) sCap*inf.bytes):=by omega
 have hl:=(hn w rfl).1
 have hfn:=(hn w.drew rfl).2
 have hfo:=ho w.drew rfl
 refine⟨cap,w.drew.alloc (.cells (olds.toArray++news.toArray++Builtin.zeroCells z.cells (cap - (sLen+n))) e),hcap,?_,⟨rfl,rfl,rfl,λ_=>dW _⟩,olds.toArray++news.toArray++Builtin.zeroCells z.cells (cap - (sLen+n)),rfl,?_,?_⟩
 ·simp only[Builtin.append_,h1,h2,List.getElem?_toArray,List.getElem?_cons_zero,List.getElem?_cons_succ,Sem.run_bind,run_underlying hu1,run_underlying Pa,Result.andThen_ok,Sem.run_pure,run_sizeOf w hi,Bool.false_eq_true,if_false,hl]
  have hsz:P.cellsOf e=inf.size:=by simp[Program.cellsOf,hi]
  rw[if_neg hng]
  simp[typeInfo,hi,h63',h48,alm,Question.forced,hsz,hfo,hfn,zeroValue,hz,newRow]
  congr 2
  apply Array.ext'
  simp[List.append_assoc]
 ·simp only[Array.size_append,List.size_toArray,size_zeroCells,hzs,hol,Jc,<-Nat.add_mul]
  congr 1
  omega
 ·intro k hk
  have hlen:(olds++news).length=(sLen+n)*inf.size:=by simp[hol,Jc,Nat.add_mul]
  rw[Array.getElem?_append_left (by simp[hol,Jc,<-Nat.add_mul];exact hk)]
  rw[<-Array.getElem?_toList]
  simp
theorem run_append_room{P:Program}{w w':World}{ts:Array TypeId}{ty t1 t2 e:TypeId}{d2:TypeDesc}{inf:TypeInfo}(h1:ts[0]?=some t1)(h2:ts[1]?=some t2)(hu1:P.underlying t1=some (.slice e))(Pa:P.underlying t2=some d2)
  (hd2:∀k,d2≠.int k) (hi:P.info? e=some inf) {base:Option Addr} {sLen sCap n:Nat} {x':Value} {news:List Value}
  (hn:(Builtin.lenOf x').run P w=.ok n w/\(Builtin.firstCells inf.size n x').run P w=.ok news.toArray w)
  (hg:sLen+n<=sCap) (hst:∀a,base=some a->(storeCells (a.add (sLen*inf.size)) news).run P w=.ok () w') (hnone:base=none->w'=w):
  (Builtin.append_ ts ty #[.slice base sLen sCap,x']).run P w=.ok (.slice base (sLen+n) sCap) w':=by
 have hsz:P.cellsOf e=inf.size:=by simp[Program.cellsOf,hi]
 simp only[Builtin.append_,h1,h2,List.getElem?_toArray,List.getElem?_cons_zero,List.getElem?_cons_succ,Sem.run_bind,run_underlying hu1,run_underlying Pa,Result.andThen_ok,Sem.run_pure,run_sizeOf w hi,Bool.false_eq_true,if_false,hn.1]
 rw[if_pos hg]
 cases base with
 | none=>simp[hsz,hn.2,hnone rfl]
 | some a=>simp[hsz,hn.2,hst a rfl]
def Wp:TypeDesc->Bool
 | .int _=>true
 | _=>false
def uZ(size bytes n:Nat)(news:List AV)(s:AV)(h:H):Option (AV×H):=
 match s with
 | .slice none 0 (.known 0)=>
  if n=0 then some (s,h)else
  if n*bytes<=140737488355328/\n<=9223372036854775807 then some (.slice (some (h.next,0)) n (.rest size),h.new (.cells news false))else none
 | .slice (some (i,o)) len (.known c)=>
  if len+n<=c then
   if n=0 then some (s,h)else
   match h.get i with
   | some (.cells old false)=>if o+len*size+news.length<=old.length/\news.all cT=true then some (.slice (some (i,o)) (len+n) (.known c),h.set i (.cells (My old (o+len*size) news) false))else none
   | _=>none
  else
  if(len+n)*bytes<=140737488355328/\len+n<=9223372036854775807 then
   match h.get i with
   | some (.cells old _)=>if o+len*size<=old.length then some (.slice (some (h.next,0)) (len+n) (.rest size),h.new (.cells ((old.drop o).take (len*size)++news) false))else none
   | _=>none
  else none
 | .slice (some (i,o)) len (.rest sz)=>
  if n=0 then some (s,h)else
  if sz=size/\(len+n)*bytes<=140737488355328/\len+n<=9223372036854775807 then
   match h.get i with
   | some (.cells old false)=>if o+len*size=old.length/\news.all cT=true then some (.slice (some (h.next,0)) (len+n) (.rest size),(h.kill i).new (.cells (old.drop o++news) false))else none
   | _=>none
  else none
 | _=>none
def xe(P:Program)(ts:List TypeId)(xs:List AV)(h:H):Option (AV×H):=
 match ts[0]?,ts[1]?,xs with
 | some t1,some t2,[s,x]=>
  match P.underlying t1,P.underlying t2 with
  | some (.slice e),some d2=>
   if Wp d2 then none else
   (P.info? e).bind λinf=>(wz P e).bind λzs=>(di inf.size x h).bind λq=>
   if zs.length=inf.size/\0<inf.size then uZ inf.size inf.bytes q.1 q.2 s h else none
  | _,_=>none
 | _,_,_=>none
theorem abM{r:Ren}{w w':World}{C:Array Value}{e:TypeId}{cs:List AV}{vs:List Value}{cap size n:Nat}(hp:w'.heap=w.heap.push (.cells C e))(hC:C.size=cap*size)(hcap:n<=cap)
  (hx:kg r cs vs) (hl:vs.length=n*size) (hk:∀k,k<n*size->C[k]?=vs[k]?):∀r':Ren,r.le r'->OR r' w' ⟨w.heap.size,0,cap*size⟩ (.cells cs false):=by
 intro r' hr
 have hle:n*size<=cap*size:=Nat.mul_le_mul_right _ hcap
 refine⟨C,e,(0,0),by simp[hp],by simp[hC],by simp only[Nat.zero_add];rw[hx.1,hl];exact hle,λi a v ha hv=>?_,λ_ off _=>by simp⟩
 simp only[Nat.zero_add]at hv
 have hlt:i<cs.length:=(sS ha).1
 rw[hk i (by rw[<-hl,<-hx.1];exact hlt)]at hv
 exact(hx.2 i a v ha hv).mono hr
theorem Cw{r:Ren}{h:H}{w w':World}(yH:Env w w')(an:Rel r h w)(hno:r h.next=none){C:Array Value}{e:TypeId}{cs:List AV}{vs:List Value}{cap size n:Nat}(hp:w'.heap=w.heap.push (.cells C e))(hC:C.size=cap*size)(hcap:n<=cap)
    (hx:kg r cs vs) (hl:vs.length=n*size) (hk:∀k,k<n*size->C[k]?=vs[k]?):
    Post r h w (r.put h.next ⟨w.heap.size,0,cap*size⟩) (h.new (.cells cs false)) w'/\VR (r.put h.next ⟨w.heap.size,0,cap*size⟩) (.slice (some (h.next,0)) n (.rest size)) (.slice (some ⟨w.heap.size,0,none⟩) n cap):=
  ⟨Post.RN (base:=0) (row:=cap*size) an hno (by simp[hp]) yH (λb hb=>by rw[hp,Array.getElem?_push,if_neg (Nat.ne_of_lt hb)]) (abM hp hC hcap hx hl hk),
   .ec (t:=⟨w.heap.size,0,cap*size⟩) _ _ cap (by simp[Ren.put]) (by simp) hcap⟩
theorem ZT{P:Program}{r:Ren}{h h':H}{w:World}(an:Rel r h w)(hfree:∀i,h.next<=i->i<h'.next->r i=none){ts:Array TypeId}{ty t1 t2 e:TypeId}{d2:TypeDesc}{inf:TypeInfo}{z:Value}
  (h1:ts[0]?=some t1) (h2:ts[1]?=some t2) (hu1:P.underlying t1=some (.slice e)) (Pa:P.underlying t2=some d2) (hd2:∀k,d2≠.int k) (xS:P.info? e=some inf) (hz:inf.zero=some z) (hzs:z.cells.size=inf.size)
  {n:Nat} {news:List AV} {nv:List Value} {s v:AV} {s' x':Value} (hnv:kg r news nv) (Jc:nv.length=n*inf.size)
  (OI:∀w',w'.heap=w.heap->(Builtin.lenOf x').run P w'=.ok n w'/\(Builtin.firstCells inf.size n x').run P w'=.ok nv.toArray w')
  (hs:uZ inf.size inf.bytes n news s h=some (v,h')) (hvs:VR r s s'):
  ∃r' v' w',(Builtin.append_ ts ty #[s',x']).run P w=.ok v' w'/\VR r' v v'/\Post r h w r' h' w':=by
 have zero:n=0->∀base len cap,len<=cap->(Builtin.append_ ts ty #[.slice base len cap,x']).run P w=.ok (.slice base len cap) w:=by
  intro h0 base len cap hle
  subst h0
  have ax0:nv=[]:=List.eq_nil_of_length_eq_zero (by simpa using Jc)
  subst ax0
  exact run_append_room (n:=0) (ty:=ty) h1 h2 hu1 Pa hd2 xS (OI w rfl) (by omega) (λa _=>rfl) (λ_=>rfl)
 unfold uZ at hs
 split at hs
 ·cases hvs
  split at hs
  ·rename_i h0
   cases hs
   exact⟨r,_,w,zero h0 _ _ _ (cF _),.Jq,Post.refl an⟩
  ·rename_i h0
   split at hs
   ·rename_i hb
    cases hs
    obtain⟨cap,w',hcap,hrun,yH,C,hC1,hC2,hC3⟩:=vD (ty:=ty) (olds:=[]) h1 h2 hu1 Pa hd2 xS hz hzs (base:=none) (sLen:=0) (sCap:=0) (λw' _=>by simp[Builtin.firstCells]) (by simp) OI Jc (by omega) (by simpa using hb.1) (by simpa using hb.2)
    simp only[Nat.zero_add,List.nil_append]at hrun hC3 hcap
    obtain⟨hp,hv⟩:=Cw yH an (hfree _ (cF _) (by simp[H.new])) hC1 hC2 hcap hnv Jc hC3
    exact⟨_,_,w',hrun,hv,hp⟩
   ·cases hs
 ·rename_i i o len c
  cases hvs with
  | lC a=>
   split at hs
   ·rename_i hle
    have h0:n=0:=by omega
    rw[if_pos h0]at hs
    cases hs
    exact⟨r,_,w,zero h0 _ _ _ (cF _),.lC a,Post.refl an⟩
   ·rename_i hle
    split at hs
    ·rename_i hb
     split at hs
     ·rename_i old ro hg
      split at hs
      ·rename_i hlo
       cases hs
       obtain⟨cap,w',hcap,hrun,yH,C,hC1,hC2,hC3⟩:=vD (ty:=ty) (olds:=[]) h1 h2 hu1 Pa hd2 xS hz hzs (base:=some a) (sLen:=0) (sCap:=0) (λw' hw'=>by simp[Builtin.firstCells,loadCells,loadCellsFrom]) (by simp) OI Jc (by omega) hb.1 hb.2
       obtain⟨hp,hv⟩:=Cw yH an (hfree _ (cF _) (by simp[H.new])) hC1 hC2 hcap hnv (by simp[Jc]) (by simpa using hC3)
       refine⟨_,_,w',hrun,hv,?_⟩
       simpa using hp
      ·cases hs
     ·cases hs
    ·cases hs
  | slice _ _ ht=>
  split at hs
  ·rename_i hle
   split at hs
   ·rename_i h0
    cases hs
    exact⟨r,_,w,zero h0 _ _ _ (by omega),.slice _ _ ht,Post.refl an⟩
   ·rename_i h0
    split at hs
    ·rename_i old hg
     split at hs
     ·rename_i hb
      cases hs
      obtain⟨w',hw',hpost⟩:=KJ (P:=P) an ht hg hnv hb.2 (o:=o+len*inf.size) hb.1
      refine⟨r,_,w',run_append_room (n:=n) (ty:=ty) h1 h2 hu1 Pa hd2 xS (OI w rfl) hle (λa ha=>?_) (λh=>by cases h),.slice _ _ ht,hpost⟩
      cases ha
      rw[s3,Nat.add_assoc]
      exact hw'
     ·cases hs
    ·cases hs
  ·rename_i hle
   split at hs
   ·rename_i hb
    split at hs
    ·rename_i old ro hg
     split at hs
     ·rename_i hlo
      cases hs
      obtain⟨ov,ho1,ho2,ho3⟩:=ER (an.obj _ _ _ ht hg) o (len*inf.size) hlo
      obtain⟨cap,w',hcap,hrun,yH,C,hC1,hC2,hC3⟩:=vD (ty:=ty) (olds:=ov) h1 h2 hu1 Pa hd2 xS hz hzs (base:=some ⟨_,_,none⟩) (sLen:=len) (sCap:=c) (λw' hw'=>by
       refine run_firstCells_some w' _ _ _ _ _ ov ho2 λj v hj=>?_
       have:=ho3 j v hj
       unfold World.cell? at this ⊢
       rw[hw'];exact this) ho2 OI Jc (by omega) hb.1 hb.2
      obtain⟨hp,hv⟩:=Cw yH an (hfree _ (cF _) (by simp[H.new])) hC1 hC2 hcap (ho1.append hnv) (by simp[ho2,Jc,Nat.add_mul]) hC3
      exact⟨_,_,w',hrun,hv,hp⟩
     ·cases hs
    ·cases hs
   ·cases hs
 ·rename_i i o len sz
  split at hs
  ·rename_i h0
   cases hs
   cases hvs with
   | ec _ _ cap ht hc hl=>exact⟨r,_,w,zero h0 _ _ _ hl,.ec _ _ _ ht hc hl,Post.refl an⟩
   | gF a _ ht=>exact⟨r,_,w,zero h0 _ _ _ (cF _),.gF a _ ht,Post.refl an⟩
  ·rename_i h0
   split at hs
   ·rename_i hb
    obtain⟨rfl,hb1,hb2⟩:=hb
    split at hs
    ·rename_i old hg
     split at hs
     ·rename_i ho
      obtain⟨ho,hcell⟩:=ho
      cases hs
      have hno:r h.next=none:=hfree _ (cF _) (by simp[H.new,H.kill])
      have hold:(old.drop o).length=len*inf.size:=by simp;omega
      have TQ:∀(t0:D4) (base:Addr) (cap:Nat) (ov:List Value),r i=some t0->kg r (old.drop o) ov->ov.length=len*inf.size->(∀w',w'.heap=w.heap->(Builtin.firstCells inf.size len (.slice (some base) len cap)).run P w'=.ok ov.toArray w')->cap<len+n->
        ∃r' v' w',(Builtin.append_ ts ty #[.slice (some base) len cap,x']).run P w=.ok v' w'/\VR r' (.slice (some (h.next,0)) (len+n) (.rest inf.size)) v'/\Post r h w r' ((h.kill i).new (.cells (old.drop o++news) false)) w':=by
       intro t0 base cap ov ht0 ho1 ho2 ho3 hlt
       obtain⟨cap',w',hcap,hrun,yH,C,hC1,hC2,hC3⟩:=vD (ty:=ty) (olds:=ov) h1 h2 hu1 Pa hd2 xS hz hzs (base:=some base) (sLen:=len) (sCap:=cap) ho3 ho2 OI Jc hlt hb1 hb2
       have hk:=Post.RM ht0 an
       obtain⟨hp,hv⟩:=Cw (h:=h.kill i) yH hk.rel hno hC1 hC2 hcap (ho1.append hnv) (by simp[ho2,Jc,Nat.add_mul]) hC3
       exact⟨_,_,w',hrun,hv,hk.trans hp⟩
      cases hvs with
      | gF a _ ht=>
       exact TQ _ a 0 [] ht (by rw[List.eq_nil_of_length_eq_zero (l:=old.drop o) (by simpa using hold)];exact .nil) (by simp) (λw' _=>by simp[Builtin.firstCells,loadCells,loadCellsFrom]) (by omega)
      | ec _ _ cap ht hc hl=>
       rename_i t
       have Jd:=an.obj _ _ _ ht hg
       obtain⟨ov,ho1,ho2,ho3⟩:=ER Jd o (len*inf.size) (by omega)
       rw[List.take_of_length_le (by omega)]at ho1
       by_cases hfit:len+n<=cap
       ·
        obtain⟨C,e',fz,g1,g2,g3,g5⟩:=XP Jd
        have hmul:(len+n)*inf.size<=cap*inf.size:=Nat.mul_le_mul_right _ hfit
        rw[Nat.add_mul]at hmul
        obtain⟨w',hst,hw⟩:=tZ (P:=P) (b:=t.blk) (o:=t.base+o+len*inf.size) nv 0 w C e' fz g1 (by omega) g5 (NV hcell hnv)
        simp only[Nat.add_zero]at hw
        refine⟨r.put h.next ⟨t.blk,t.base+o,t.row⟩,_,w',run_append_room (n:=n) (ty:=ty) h1 h2 hu1 Pa hd2 xS (OI w rfl) hfit (λa ha=>?_) (λh=>by cases h),?_,Post.aeg an ht hg rfl rfl hno rfl hw.size hw.env hw.other λr' hr'=>?_⟩
        ·cases ha
         rw[s3]
         exact hst
        ·exact .ec (t:=⟨t.blk,t.base+o,t.row⟩) _ _ cap (by simp[Ren.put]) (by simpa using hc) hfit
        ·obtain⟨C0,e0,fz0,q1,q2,q3,q4,q5⟩:=Jd
         rw[q1]at g1
         cases g1
         obtain⟨C',c1,c2,c3⟩:=hw.here _ _ _ q1
         refine⟨C',e',fz,c1,by simp;omega,?_,λk a v ha hv=>?_,λ_ off hoff=>g5 off (by omega)⟩
         ·simp only[hU,hold,hnv.1,Jc];omega
         ·simp only at hv
          rw[c3]at hv
          rcases Nat.lt_or_ge k (len*inf.size)with hk | hk
          ·rw[if_neg (by omega)]at hv
           rw[List.getElem?_append_left (by omega),List.getElem?_drop]at ha
           exact(q4 (o+k) a v ha (by rw[<-Nat.add_assoc];exact hv)).mono hr'
          ·rw[List.getElem?_append_right (by omega),hold]at ha
           have hk2:k - len*inf.size<news.length:=(sS ha).1
           rw[hnv.1]at hk2
           rw[if_pos (by omega),show t.base+o+k - (t.base+o+len*inf.size)=k - len*inf.size by omega]at hv
           exact(hnv.2 _ a v ha hv).mono hr'
       ·exact TQ _ _ cap ov ht ho1 ho2 (λw' hw'=>by
         refine run_firstCells_some w' _ _ _ _ _ ov ho2 λj v hj=>?_
         have:=ho3 j v hj
         unfold World.cell? at this ⊢
         rw[hw'];exact this) (by omega)
     ·cases hs
    ·cases hs
   ·cases hs
 ·cases hs
theorem IS{P:Program}{r:Ren}{h h':H}{w:World}(an:Rel r h w)(hfree:∀i,h.next<=i->i<h'.next->r i=none){ts:Array TypeId}{ty:TypeId}{xs:List AV}{xs':Array Value}{v:AV}
  (hs:xe P ts.toList xs h=some (v,h')) (hx:kg r xs xs'.toList):
  ∃r' v' w',(Builtin.append_ ts ty xs').run P w=.ok v' w'/\VR r' v v'/\Post r h w r' h' w':=by
 unfold xe at hs
 split at hs
 ·rename_i t1 t2 s x ht1 ht2
  obtain⟨s',ys,hxs,hvs,hx⟩:=hx.jL
  obtain⟨x',ys',rfl,hvx,hx⟩:=hx.jL
  obtain rfl:ys'=[]:=List.eq_nil_of_length_eq_zero hx.1.symm
  obtain rfl:xs'=#[s',x']:=Array.ext' hxs
  have h1:ts[0]?=some t1:=by rw[<-Array.getElem?_toList];exact ht1
  have h2:ts[1]?=some t2:=by rw[<-Array.getElem?_toList];exact ht2
  split at hs
  ·rename_i e d2 hu1 Pa
   split at hs
   ·cases hs
   ·rename_i hd2
    have axB:∀k,d2≠.int k:=λk hk=>by subst hk;exact hd2 rfl
    obtain⟨inf,xS,hs⟩:=Option.bind_eq_some_iff.1 hs
    obtain⟨zs,hzs,hs⟩:=Option.bind_eq_some_iff.1 hs
    obtain⟨⟨n,news⟩,hsrc,hs⟩:=Option.bind_eq_some_iff.1 hs
    obtain⟨aGr,z,aja,hz,ajj,hzv⟩:=zw hzs
    rw[xS]at aja
    cases aja
    obtain⟨nv,hnv,Jc,TX⟩:=PK (P:=P) an hsrc hvx
    simp only at hs
    split at hs
    ·rename_i hzl
     have ayr:z.cells.size=inf.size:=by rw[<-hzl.1];simpa using(hzv r).1.symm
     exact ZT an hfree h1 h2 hu1 Pa axB xS hz ayr hnv Jc (λw' hw'=>⟨(TX w' hw').1,by rw[(TX w' hw').2 n (cF _),<-Jc,List.take_length]⟩) hs hvs
    ·cases hs
  ·cases hs
 ·cases hs
def Nu(P:Program)(ts:List TypeId)(xs:List AV)(h:H):Option (AV×H):=
 match ts[0]?,xs with
 | some t1,[d,x]=>
  match P.underlying t1 with
  | some (.slice e)=>
   (P.info? e).bind λinf=>(di inf.size x h).bind λq=>
   match d with
   | .slice none 0 (.known 0)=>some (.int .i64 0,h)
   | .slice (some (i,o)) len _=>
    if Nat.min q.1 len=0 then some (.int .i64 0,h)else
    match h.get i with
    | some (.cells old false)=>
     if o+(q.2.take (Nat.min q.1 len*inf.size)).length<=old.length/\(q.2.take (Nat.min q.1 len*inf.size)).all cT=true then
      some (.int .i64 (Nat.min q.1 len:Nat),h.set i (.cells (My old o (q.2.take (Nat.min q.1 len*inf.size))) false))
     else none
    | _=>none
   | _=>none
  | _=>none
 | _,_=>none
theorem VP{P:Program}{r:Ren}{h h':H}{w:World}(an:Rel r h w){ts:Array TypeId}{ty:TypeId}{xs:List AV}{xs':Array Value}{v:AV}
  (hs:Nu P ts.toList xs h=some (v,h')) (hx:kg r xs xs'.toList):
  ∃v' w',(Builtin.copy_ ts ty xs').run P w=.ok v' w'/\VR r v v'/\Post r h w r h' w':=by
 unfold Nu at hs
 split at hs
 ·rename_i t1 d x ht1
  obtain⟨d',ys,hxs,hvd,hx⟩:=hx.jL
  obtain⟨x',ys',rfl,hvx,hx⟩:=hx.jL
  obtain rfl:ys'=[]:=List.eq_nil_of_length_eq_zero hx.1.symm
  obtain rfl:xs'=#[d',x']:=Array.ext' hxs
  have h1:ts[0]?=some t1:=by rw[<-Array.getElem?_toList];exact ht1
  split at hs
  ·rename_i e hu1
   obtain⟨inf,xS,hs⟩:=Option.bind_eq_some_iff.1 hs
   obtain⟨⟨n,news⟩,hsrc,hs⟩:=Option.bind_eq_some_iff.1 hs
   obtain⟨nv,hnv,Jc,TX⟩:=PK (P:=P) an hsrc hvx
   have hsz:P.cellsOf e=inf.size:=by simp[Program.cellsOf,xS]
   have Ph:∀base len c w',(base=none->w'=w)->(∀a,base=some a->(storeCells a (nv.take (Nat.min n len*inf.size))).run P w=.ok () w')->
     (Builtin.copy_ ts ty #[.slice base len c,x']).run P w=.ok (goInt (Nat.min n len)) w':=by
    intro base len c w' hnone hst
    have hf:=(TX w rfl).2 (Nat.min n len) (Nat.min_le_left _ _)
    simp only[Builtin.copy_,h1,List.getElem?_toArray,List.getElem?_cons_zero,List.getElem?_cons_succ,Sem.run_bind,run_underlying hu1,Result.andThen_ok,(TX w rfl).1,run_sizeOf w xS,hsz,hf]
    cases base with
    | none=>simp[hnone rfl]
    | some a=>simp[hst a rfl]
   simp only at hs
   split at hs
   ·cases hs
    cases hvd
    refine⟨_,w,Ph _ _ _ w (λ_=>rfl) (λa ha=>by cases ha),?_,Post.refl an⟩
    have:Nat.min n 0=0:=Nat.min_eq_right (uQ _)
    rw[this];exact .int _ _
   ·rename_i i o len c _ _
    split at hs
    ·rename_i h0
     cases hs
     have key:∀a c',∃v' w',(Builtin.copy_ ts ty #[.slice (some a) len c',x']).run P w=.ok v' w'/\VR r (.int .i64 0) v'/\Post r h w r h w':=by
      intro a c'
      refine⟨_,w,Ph _ _ _ w (λh=>by cases h) (λa' ha=>by rw[h0];simp[storeCells]),?_,Post.refl an⟩
      rw[h0];exact .int _ _
     cases hvd<;>exact key _ _
    ·rename_i h0
     split at hs
     ·rename_i old hg
      split at hs
      ·rename_i hb
       cases hs
       have key:∀(t:D4) c',r i=some t->∃v' w',(Builtin.copy_ ts ty #[.slice (some ⟨t.blk,t.base+o,none⟩) len c',x']).run P w=.ok v' w'/\VR r (.int .i64 (Nat.min n len:Nat)) v'/\
         Post r h w r (h.set i (.cells (My old o (news.take (Nat.min n len*inf.size))) false)) w':=by
        intro t c' ht
        obtain⟨w',hw',hpost⟩:=KJ (P:=P) an ht hg (hnv.take (Nat.min n len*inf.size)) hb.2 (o:=o) hb.1
        refine⟨_,w',Ph _ _ _ w' (λh=>by cases h) (λa' ha=>by cases ha;exact hw'),.int _ _,hpost⟩
       cases hvd with
       | slice _ _ ht=>exact key _ _ ht
       | ec _ _ _ ht _ _=>exact key _ _ ht
       | lC _=>exact absurd (Nat.min_eq_right (uQ _)) h0
       | gF _ _ _=>exact absurd (Nat.min_eq_right (uQ _)) h0
      ·cases hs
     ·cases hs
   ·cases hs
  ·cases hs
 ·cases hs
def Kb(it:AV)(h:H):Option (AV×H):=
 match it with
 | .ptr (some (i,0))=>
  match h.get i with
  | some (.tE s pos)=>
   if pos<s.size then some (.dJ [.bool true,.int .i64 pos,.int .i32 (Utf8.decode s pos).1],h.set i (.tE s (pos+(Utf8.decode s pos).2)))
   else some (.dJ [.bool false],h)
  | _=>none
 | _=>none
theorem vY{r:Ren}{as:List AV}{vs:List Value}(h:kg r as vs):VR r (.dJ as) (.tuple vs.toArray):=
 .dJ _ _ (by simpa using h.1) λi a v ha hv=>h.2 i a v ha (by simpa using hv)
theorem VV{P:Program}{r:Ren}{h h':H}{w:World}(an:Rel r h w){it v:AV}{it':Value}{ty:TypeId}(hs:Kb it h=some (v,h'))(hx:VR r it it'):
  ∃v' w',(Instr.next it' true ty).run P w=.ok v' w'/\VR r v v'/\Post r h w r h' w':=by
 unfold Kb at hs
 split at hs
 ·rename_i i
  split at hs
  ·rename_i s pos hg
   cases hx with
   | ptr ht=>
   rename_i t
   obtain⟨hb,h0⟩:=an.obj _ _ _ ht hg
   have j9:(getObj t.blk).run P w=.ok (.stringIter s pos) w:=by simp[getObj,Sem.run,hb]
   simp only[h0,Nat.add_zero]
   split at hs
   ·rename_i hp
    cases hs
    refine⟨_,{w with heap:=w.heap.setIfInBounds t.blk (.stringIter s (pos+(Utf8.decode s pos).2))},?_,vY (vs:=[.bool true,goInt pos,.int .i32 (Utf8.decode s pos).1]) (.cons (.bool _) (.cons (.int _ _) (.cons (.int _ _) .nil))),?_⟩
    ·simp only[Instr.next,Sem.run_bind,j9,Result.andThen_ok,hp,if_true,setObj,Sem.run,hb]
     rfl
    ·have hlt:=World.EM hb
     refine Post.Kv an ht hg rfl rfl (by simp) ⟨rfl,rfl,rfl,λ_=>cF _⟩ (λb hbb=>by simp[Array.getElem?_setIfInBounds_ne (Ne.symm hbb)]) ⟨by simp[hlt],h0⟩
   ·rename_i hp
    cases hs
    refine⟨_,w,?_,vY (vs:=[.bool false]) (.cons (.bool _) .nil),Post.refl an⟩
    simp only[Instr.next,Sem.run_bind,j9,Result.andThen_ok,hp,if_false]
    rfl
  ·cases hs
 ·cases hs
def Fg(P:Program)(t:TypeId)(m k v:AV)(h:H):Option H:=
 match P.underlying t,m with
 | some (.map kt _),.map m=>(match P.underlying kt with | some kd=>if nB kd k=true then s7 m k v h else none | none=>none)
 | _,_=>none
theorem Ny{P:Program}{r:Ren}{h h':H}{w:World}(an:Rel r h w){t:TypeId}{m k v:AV}{m' k' v':Value}(hs:Fg P t m k v h=some h')(hm:VR r m m')(hk:VR r k k')(hv:VR r v v'):
  ∃w',(Instr.mapUpdate t m' k' v').run P w=.ok () w'/\Post r h w r h' w':=by
 unfold Fg at hs
 split at hs
 ·rename_i kt e mm hu
  split at hs
  ·rename_i kd HQ
   split at hs
   ·rename_i hkk
    exact IX an hu HQ hkk hs hm hk hv
   ·cases hs
  ·cases hs
 ·cases hs
def J8(P:Program)(ts:List TypeId)(xs:List AV)(h:H):Option (AV×H):=
 match ts,xs with
 | [t,_],[.map m,k]=>(match P.underlying t with | some (.map kt _)=>(match P.underlying kt with | some kd=>if nB kd k=true then(B2 m k h).map λh'=>(.dJ [],h')else none | none=>none) | _=>none)
 | _,_=>none
def B1(P:Program)(ts:List TypeId)(xs:List AV)(h:H):Option (AV×H):=
 match ts,xs with
 | [t],[.map m]=>(match P.underlying t with | some (.map _ _)=>(wu m h).map λh'=>(.dJ [],h') | _=>none)
 | _,_=>none
def k9(P:Program)(ρ:Operand->AV)(op:Op)(h:H):Option (AV×H):=
 match op with
 | .store t a x=>(Gm P t (ρ a) (ρ x) h).map λh'=>(.fJ,h')
 | .next it true=>Kb (ρ it) h
 | .mapUpdate t m k x=>(Fg P t (ρ m) (ρ k) (ρ x) h).map λh'=>(.fJ,h')
 | .insert t m k x=>(Fg P t (ρ m) (ρ k) (ρ x) h).map λh'=>(.fJ,h')
 | .call c=>
  match c.callee with
  | .builtin .append=>xe P c.argTypes.toList (c.args.toList.map ρ) h
  | .builtin .copy=>Nu P c.argTypes.toList (c.args.toList.map ρ) h
  | .builtin .delete=>J8 P c.argTypes.toList (c.args.toList.map ρ) h
  | .builtin .clear=>B1 P c.argTypes.toList (c.args.toList.map ρ) h
  | _=>none
 | _=>none
theorem VT{P:Program}{r:Ren}{h h':H}{w:World}(an:Rel r h w)(hfree:∀i,h.next<=i->i<h'.next->r i=none){ρ:Operand->AV}{ρ':Operand->Value}(hρ:∀x,VR r (ρ x) (ρ' x))(o:Oper){v:AV}
  (hs:k9 P ρ o.op h=some (v,h')):
  ∃r' v' w' n,(execOp ρ' o).run P w=.ok n w'/\(n=.value v'∨(n=.skip/\v'=undef))/\VR r' v v'/\Post r h w r' h' w':=by
 unfold k9 at hs
 cases hop:o.op<;>simp only[hop]at hs<;>try (cases hs;done)
 case store t a x=>
  obtain⟨h'',hst,hs⟩:=Option.map_eq_some_iff.1 hs
  cases hs
  obtain⟨w',hr,hp⟩:=TK (P:=P) an hst (hρ a) (hρ x)
  exact⟨r,undef,w',.skip,by simp[execOp,hop,hr],.inr ⟨rfl,rfl⟩,.fJ _,hp⟩
 case mapUpdate t m k x=>
  obtain⟨h'',hst,hs⟩:=Option.map_eq_some_iff.1 hs
  cases hs
  obtain⟨w',hr,hp⟩:=Ny (P:=P) an hst (hρ m) (hρ k) (hρ x)
  exact⟨r,undef,w',.skip,by simp[execOp,hop,hr],.inr ⟨rfl,rfl⟩,.fJ _,hp⟩
 case insert t m k x=>
  obtain⟨h'',hst,hs⟩:=Option.map_eq_some_iff.1 hs
  cases hs
  obtain⟨w',hr,hp⟩:=Ny (P:=P) an hst (hρ m) (hρ k) (hρ x)
  exact⟨r,undef,w',.skip,by simp[execOp,hop,hr],.inr ⟨rfl,rfl⟩,.fJ _,hp⟩
 case next it b=>
  cases b<;>simp only at hs
  ·cases hs
  ·obtain⟨v',w',hr,hv,hp⟩:=VV (P:=P) (ty:=o.type) an hs (hρ it)
   exact⟨r,v',w',.value v',by simp[execOp,hop,hr],.inl rfl,hv,hp⟩
 case call c=>
  have hargs:=Cx hρ c.args
  split at hs
  ·rename_i hb
   obtain⟨r',v',w',hr,hv,hp⟩:=IS (P:=P) (ty:=o.type) an hfree hs hargs
   exact⟨r',v',w',.value v',by simp[execOp,hop,resolve,hb,invoke,builtin,hr],.inl rfl,hv,hp⟩
  ·rename_i hb
   obtain⟨v',w',hr,hv,hp⟩:=VP (P:=P) (ty:=o.type) an hs hargs
   exact⟨r,v',w',.value v',by simp[execOp,hop,resolve,hb,invoke,builtin,hr],.inl rfl,hv,hp⟩
  ·rename_i hb
   unfold J8 at hs
   split at hs
   ·rename_i t t2 m k hts hxs
    split at hs
    ·rename_i kt e hu
     split at hs
     ·rename_i kd HQ
      split at hs
      ·rename_i hkk
       obtain⟨h2,hd,hs⟩:=Option.map_eq_some_iff.1 hs
       cases hs
       rw[hxs]at hargs
       obtain⟨m',vs',hcs,hm,hr⟩:=hargs.jL
       obtain⟨k',aBD,axz,hk,hr2⟩:=hr.jL
       have hvs:aBD=[]:=List.eq_nil_of_length_eq_zero hr2.1.symm
       subst hvs
       subst axz
       have e1:c.argTypes=#[t,t2]:=by rw[<-Array.toList_inj];simpa using hts
       have e2:c.args.map ρ'=#[m',k']:=by rw[<-Array.toList_inj];simpa using hcs
       obtain⟨w',hrun,hp⟩:=Q4 (P:=P) (ty:=o.type) (t2:=t2) an hu HQ hkk hd hm hk
       exact⟨r,.tuple #[],w',.value (.tuple #[]),by simp[execOp,hop,resolve,hb,invoke,builtin,e1,e2,hrun],.inl rfl,vY (vs:=[]) .nil,hp⟩
      ·cases hs
     ·cases hs
    ·cases hs
   ·cases hs
  ·rename_i hb
   unfold B1 at hs
   split at hs
   ·rename_i t m hts hxs
    split at hs
    ·rename_i kt e hu
     obtain⟨h2,hd,hs⟩:=Option.map_eq_some_iff.1 hs
     cases hs
     rw[hxs]at hargs
     obtain⟨m',vs',hcs,hm,hr⟩:=hargs.jL
     have hvs:vs'=[]:=List.eq_nil_of_length_eq_zero hr.1.symm
     subst hvs
     have e1:c.argTypes=#[t]:=by rw[<-Array.toList_inj];simpa using hts
     have e2:c.args.map ρ'=#[m']:=by rw[<-Array.toList_inj];simpa using hcs
     obtain⟨w',hrun,hp⟩:=Nx (P:=P) (ty:=o.type) an hu hd hm
     exact⟨r,.tuple #[],w',.value (.tuple #[]),by simp[execOp,hop,resolve,hb,invoke,builtin,e1,e2,hrun],.inl rfl,vY (vs:=[]) .nil,hp⟩
    ·cases hs
   ·cases hs
  ·cases hs
abbrev dK:=FuncId->List AV->H->Option (AV×H)
structure XN(P:Program)(f:FuncId)(args:List AV)(h:H)(v:AV)(h':H):Prop where
 there:∃fn,P.funcs[f]?=some fn/\fn.body.isNone=false/\(fn.name == "runtime.NumGoroutine")=false
 next:h.next<=h'.next
 wf:(∀i o,h.get i=some o->i<h.next)->∀i o,h'.get i=some o->i<h'.next
 GO:∀(r:Ren) (w:World) (args':Array Value),Rel r h w->(∀i,h.next<=i->i<h'.next->r i=none)->kg r args args'.toList->
  Calls P f args' w λe w'=>∃r' v',e=.returned v'/\VR r' v v'/\Post r h w r' h' w'
structure aiO(P:Program)(f:FuncId)(args:List AV)(h:H)(v:AV)(h':H):Prop where
 there:∃fn e,P.funcs[f]?=some fn/\fn.body.isNone=true/\(fn.name == "runtime.NumGoroutine")=false/\(Extern.findNext fn).isNone=true/\Extern.find fn=some e/\
  ∀(r:Ren) (w:World) (args':Array Value),Rel r h w->(∀i,h.next<=i->i<h'.next->r i=none)->kg r args args'.toList->∃r' v' w',(e args').run P w=.ok v' w'/\VR r' v v'/\Post r h w r' h' w'
 next:h.next<=h'.next
 wf:(∀i o,h.get i=some o->i<h.next)->∀i o,h'.get i=some o->i<h'.next
def xH(P:Program)(f:FuncId)(args:List AV)(h:H)(v:AV)(h':H):Prop:=XN P f args h v h'∨aiO P f args h v h'
theorem xH.next{P:Program}{f:FuncId}{args:List AV}{h:H}{v:AV}{h':H}(c:xH P f args h v h'):h.next<=h'.next:=c.elim (·.next) (·.next)
theorem xH.wf{P:Program}{f:FuncId}{args:List AV}{h:H}{v:AV}{h':H}(c:xH P f args h v h'):(∀i o,h.get i=some o->i<h.next)->∀i o,h'.get i=some o->i<h'.next:=c.elim (·.wf) (·.wf)
def dK.Sound(P:Program)(call:dK):Prop:=∀f args h v h',call f args h=some (v,h')->xH P f args h v h'
inductive Class where
 | pure | alloc | read | full
 deriving DecidableEq
def R4(P:Program)(t:TypeId):Bool:=match P.underlying t with | some (.slice _)=>true | _=>false
def ahl(P:Program)(t:TypeId):Bool:=match P.underlying t with | some (.map _ _)=>true | _=>false
def cls(P:Program)(op:Op):Class:=
 match op with
 | .alloc _=>.alloc
 | .box _ _=>.alloc
 | .buildSlice _ _ _=>.alloc
 | .makeMap _ _=>.alloc
 | .makeSlice _ _ _=>.alloc
 | .range _ _=>.alloc
 | .load _ _=>.read
 | .lookup _ _ _ _=>.read
 | .convert s d _=>if R4 P d then .alloc else if R4 P s then .read else .pure
 | .insert _ _ _ _=>.full
 | .call c=>match c.callee with | .builtin .len=>if ahl P (c.argTypes.toList.headD 0)then .read else .pure | .builtin .max=>.pure | .builtin .min=>.pure | _=>.full
 | .store _ _ _=>.full
 | .next _ _=>.full
 | .mapUpdate _ _ _ _=>.full
 | _=>.pure
def dB(P:Program)(call:dK)(ρ:Operand->AV)(op:Op)(h:H):Option (AV×H):=
 match cls P op with
 | .pure=>(qj P ρ op).map λv=>(v,h)
 | .alloc=>(nw P ρ op).map λq=>(q.2 h.next,h.jm q.1)
 | .read=>(sR P ρ op h).map λv=>(v,h)
 | .full=>
  match op with
  | .call c=>
   match c.callee with
   | .value x=>match ρ x with | .func f first caps=>call f (first++c.args.toList.map ρ++caps) h | _=>none
   | _=>k9 P ρ op h
  | _=>k9 P ρ op h
def wV(P:Program)(o:Oper)(a:Act)(w:World)(Φ:Value->World->Prop):Prop:=
 ∀(Q:Exit->Act->World->Prop) (K:Act->World->Prop),(∀v' w',Φ v' w'->K (a.put o.dst v') w')->o.wp P a w K Q
theorem wV.of_run{P:Program}{o:Oper}{a:Act}{w w':World}{Φ:Value->World->Prop}{n:Next}{v':Value}(hr:(execOp a.eval o).run P w=.ok n w')(hn:n=.value v'∨(n=.skip/\v'=undef))(h:Φ v' w'):wV P o a w Φ:=by
 intro Q K hK
 unfold Oper.wp
 rw[hr]
 rcases hn with rfl | ⟨rfl,rfl⟩
 ·exact hK _ _ h
 ·exact hK _ _ h
theorem Oh{P:Program}{r:Ren}{ρ:Operand->AV}{o:Oper}{a:Act}(hρ:∀x,VR r (ρ x) (a.eval x)){v:AV}(h:qj P ρ o.op=some v)(w:World):wV P o a w λv' w'=>VR r v v'/\w'=w:=by
 obtain⟨v',hv,hr⟩:=VW hρ o h
 exact wV.of_run (hr w) (.inl rfl) ⟨hv,rfl⟩
theorem Oj{P:Program}{r:Ren}{ρ:Operand->AV}{o:Oper}{a:Act}(hρ:∀x,VR r (ρ x) (a.eval x)){v:AV}{h:H}{w:World}(an:Rel r h w)(hv:sR P ρ o.op h=some v):wV P o a w λv' w'=>VR r v v'/\w'=w:=by
 obtain⟨v',hv,hr⟩:=VX an hρ o hv
 exact wV.of_run hr (.inl rfl) ⟨hv,rfl⟩
theorem KW{P:Program}{r:Ren}{ρ:Operand->AV}{o:Oper}{a:Act}(hρ:∀x,VR r (ρ x) (a.eval x)){ob:Option cK}{mk:Nat->AV}(h:nw P ρ o.op=some (ob,mk))(w:World):
  wV P o a w λv' w'=>∃row,w'.heap.size=w.heap.size+1/\Env w w'/\(∀b,b<w.heap.size->w'.heap[b]?=w.heap[b]?)/\
   (∀x,ob=some x->∀r':Ren,r.le r'->OR r' w' ⟨w.heap.size,0,row⟩ x)/\(∀r' i,r'.le r'->r' i=some ⟨w.heap.size,0,row⟩->VR r' (mk i) v'):=by
 obtain⟨s,hs,hm⟩:=TB (P:=P) hρ o h
 obtain⟨row,v',w',h1,h2,he,h3,h4,h5⟩:=hm.run w
 exact wV.of_run (n:=.value v') (by rw[hs];simp[h1]) (.inl rfl) ⟨row,h2,he,h3,h4,h5⟩
theorem NF{P:Program}{call:dK}(aH:call.Sound P){r:Ren}{ρ:Operand->AV}{o:Oper}{a:Act}(hρ:∀x,VR r (ρ x) (a.eval x)){v:AV}{h h':H}{w:World}(an:Rel r h w)
  (hfree:∀i,h.next<=i->i<h'.next->r i=none) (hc:cls P o.op=.full) (hv:dB P call ρ o.op h=some (v,h')):
  wV P o a w λv' w'=>∃r',VR r' v v'/\Post r h w r' h' w':=by
 unfold dB at hv
 rw[hc]at hv
 simp only at hv
 have main:k9 P ρ o.op h=some (v,h')->wV P o a w λv' w'=>∃r',VR r' v v'/\Post r h w r' h' w':=by
  intro hf
  obtain⟨r',v',w',n,hr,hn,hv,hp⟩:=VT an hfree hρ o hf
  exact wV.of_run hr hn ⟨r',hv,hp⟩
 split at hv
 ·rename_i c hop
  split at hv
  ·rename_i x hx
   have hxv:=hρ x
   split at hv
   ·rename_i f first caps hfx
    rw[hfx]at hxv
    generalize hq:a.eval x=q at hxv
    cases hxv with
    | func _ _ _ first' BL h1 h2 h3 h4=>
    have axm:=aH _ _ _ _ _ hv
    have hargs:kg r (first++c.args.toList.map ρ++caps) (first'++c.args.map a.eval++BL).toList:=by
     rw[Array.toList_append,Array.toList_append]
     have e1:kg r first first'.toList:=⟨by simpa using h1,λi x v hx hv=>h3 i x v hx (by simpa using hv)⟩
     have e2:kg r caps BL.toList:=⟨by simpa using h2,λi x v hx hv=>h4 i x v hx (by simpa using hv)⟩
     exact(e1.append (Cx hρ c.args)).append e2
    rcases axm with hac | hax
    rotate_left
    ·obtain⟨fn,e,hfn,hbody,hname,hnx,hex,Wl⟩:=hax.there
     obtain⟨r',v',w',hr,hv',hp⟩:=Wl r w _ an hfree hargs
     have OI:¬fn.name = "runtime.NumGoroutine" := by simpa using hname
     have hb1:fn.body=none:=by simpa using hbody
     have ax1:Extern.findNext fn=none:=by simpa using hnx
     rw[Array.append_assoc]at hr
     refine wV.of_run (n:=.value v') ?_ (.inl rfl) ⟨r',hv',hp⟩
     simp[execOp,hop,resolve,hx,hq,Deferred.ofValue,invoke,callFunc,hfn,hb1,OI,ax1,hex,hr]
    obtain⟨fn,hfn,hbody,hname⟩:=hac.there
    have Wl:=hac.GO r w _ an hfree hargs
    intro Q K hK
    unfold Oper.wp
    have hr:(execOp a.eval o).run P w=.ok (.enter f (first'++c.args.map a.eval++BL)) w:=by
     have OI:¬fn.name = "runtime.NumGoroutine" := by simpa using hname
     have hb1:¬fn.body=none:=λe=>by rw[e]at hbody;cases hbody
     simp[execOp,hop,resolve,hx,hq,Deferred.ofValue,invoke,callFunc,hfn,hb1,OI]
    rw[hr,Oper.upon_enter]
    refine Wl.mono λe w' he=>?_
    obtain⟨r',v',rfl,hv',hp⟩:=he
    exact hK _ _ ⟨r',hv',hp⟩
   ·cases hv
  ·exact main hv
 ·exact main hv
def zQ(fr:List AV)(d:Option Tmp)(v:AV):List AV:=match d with | some d=>fr.set d v | none=>fr
theorem FR.zQ{r:Ren}{fr:List AV}{a:Act}(h:FR r fr a)(d:Option Tmp){x:AV}{v:Value}(hv:VR r x v):FR r (zQ fr d x) (a.put d v):=FR.put h d hv
theorem FR.mono{r r':Ren}(hr:r.le r'){fr:List AV}{a:Act}(h:FR r fr a):FR r' fr a:=kg.mono hr h
def eP(ops:Array Oper)(ρ:Operand->AV)(o:Oper):Option Bool:=
 match o.guard with
 | none=>some true
 | some (j,want)=>
  match (ops[j]?).bind (·.dst)with
  | none=>some false
  | some t=>match ρ (.tmp t)with | .bool b=>some (b==want) | .dJ []=>some false | _=>none
theorem DR{r:Ren}{ops:Array Oper}{ρ:Operand->AV}{a:Act}{o:Oper}{b:Bool}(h:eP ops ρ o=some b)
  (hρ:∀t,(∃j w,o.guard=some (j,w)/\(ops[j]?).bind (·.dst)=some t)->VR r (ρ (.tmp t)) (a.eval (.tmp t))):Region.wanted o (yielded ops a.tmps)=b:=by
 unfold eP at h
 unfold Region.wanted
 split at h
 ·rename_i hg;rw[hg];cases h;rfl
 ·rename_i j want hg
  rw[hg]
  simp only
  split at h
  ·rename_i hd
   cases h
   simp[yielded,hd]
  ·rename_i t hd
   have hv:=hρ t ⟨j,want,hg,hd⟩
   have hy:∀v,a.eval (.tmp t)=v->v≠undef->a.tmps[t]?=some v:=by
    intro v hv hne
    simp only[Act.eval]at hv
    cases hq:a.tmps[t]? with
    | none=>rw[Array.getD_eq_getD_getElem?,hq]at hv;exact absurd hv.symm hne
    | some u=>rw[Array.getD_eq_getD_getElem?,hq]at hv;simp at hv;rw[hv]
   split at h
   ·rename_i c hc
    cases h
    rw[hc]at hv
    generalize hq:a.eval (.tmp t)=q at hv
    cases hv
    have:=hy _ hq (by intro e;cases e)
    simp only[yielded,hd,fD,this]
    cases c<;>cases want<;>rfl
   ·rename_i hc
    cases h
    rw[hc]at hv
    generalize hq:a.eval (.tmp t)=q at hv
    cases hv with
    | dJ _ vs h1 h2=>
    have hvs:vs=#[]:=Array.eq_empty_of_size_eq_zero (by simpa using h1.symm)
    subst hvs
    have:∀b,a.tmps[t]?≠some (.bool b):=by
     intro b hb
     simp only[Act.eval]at hq
     rw[Array.getD_eq_getD_getElem?,hb]at hq
     simp at hq
    have hn:yielded ops a.tmps j=none:=by
     unfold yielded
     rw[hd]
     cases JW:a.tmps[t]? with
     | none=>simp[JW]
     | some u=>cases u<;>first | (simp[JW];done) | exact absurd JW (this _)
    rw[hn];rfl
   ·cases h
def eu(P:Program)(call:dK)(ops:Array Oper)(o:Oper)(ρ:Operand->AV)(h:H):Option (AV×H):=
 (eP ops ρ o).bind λb=>if b then dB P call ρ o.op h else some (.dJ [],h)
def Hl(P:Program)(call:dK)(ops:Array Oper):List Oper->List AV->H->Option (List AV×H)
 | [],fr,h=>some (fr,h)
 | o::rest,fr,h=>(eu P call ops o (oW fr) h).bind λq=>Hl P call ops rest (zQ fr o.dst q.1) q.2
def H.WF(h:H):Prop:=∀i o,h.get i=some o->i<h.next
theorem EH{h:H}{i:Nat}{o o':cK}(hw:h.WF)(hg:h.get i=some o):(h.set i o').WF:=by
 intro j oj hj
 simp only[H.set]at hj ⊢
 split at hj
 ·rename_i e;subst e;exact hw _ _ hg
 ·exact hw _ _ hj
theorem QF{h:H}{o:cK}(hw:h.WF):(h.new o).WF:=by
 intro j oj hj
 simp only[H.new]at hj ⊢
 split at hj
 ·omega
 ·have:=hw _ _ hj;omega
theorem af2{h:H}{o:Option cK}(hw:h.WF):(h.jm o).WF:=by
 cases o with
 | some o=>exact QF hw
 | none=>exact λi x hi=>Nat.lt_succ_of_lt (hw i x hi)
theorem af1{h:H}{i:Nat}(hw:h.WF):(h.kill i).WF:=by
 intro j oj hj
 simp only[H.kill]at hj ⊢
 split at hj
 ·cases hj
 ·exact hw _ _ hj
theorem I2{P:Program}{t:TypeId}{m k v:AV}{h h':H}(hs:Fg P t m k v h=some h'):h.next<=h'.next/\(h.WF->h'.WF):=by
 unfold Fg at hs
 split at hs
 ·split at hs
  ·split at hs
   ·unfold s7 at hs
    split at hs
    ·cases hs
    ·split at hs
     ·rename_i hg
      obtain⟨es,_,rfl⟩:=Option.map_eq_some_iff.1 hs
      exact⟨cF _,λhw=>EH hw hg⟩
     ·cases hs
   ·cases hs
  ·cases hs
 ·cases hs
theorem Q2{P:Program}{ts:List TypeId}{xs:List AV}{v:AV}{h h':H}(hs:J8 P ts xs h=some (v,h')):h.next<=h'.next/\(h.WF->h'.WF):=by
 unfold J8 at hs
 split at hs
 ·split at hs
  ·split at hs
   ·split at hs
    ·obtain⟨h2,hd,hs⟩:=Option.map_eq_some_iff.1 hs
     cases hs
     unfold B2 at hd
     split at hd
     ·cases hd;exact⟨cF _,id⟩
     ·split at hd
      ·rename_i hg
       obtain⟨es,_,rfl⟩:=Option.map_eq_some_iff.1 hd
       exact⟨cF _,λhw=>EH hw hg⟩
      ·cases hd
    ·cases hs
   ·cases hs
  ·cases hs
 ·cases hs
theorem Nt{P:Program}{ts:List TypeId}{xs:List AV}{v:AV}{h h':H}(hs:B1 P ts xs h=some (v,h')):h.next<=h'.next/\(h.WF->h'.WF):=by
 unfold B1 at hs
 split at hs
 ·split at hs
  ·obtain⟨h2,hd,hs⟩:=Option.map_eq_some_iff.1 hs
   cases hs
   unfold wu at hd
   split at hd
   ·cases hd;exact⟨cF _,id⟩
   ·split at hd
    ·rename_i hg
     cases hd
     exact⟨cF _,λhw=>EH hw hg⟩
    ·cases hd
  ·cases hs
 ·cases hs
theorem IW{P:Program}{ρ:Operand->AV}{op:Op}{h h':H}{v:AV}(hs:k9 P ρ op h=some (v,h')):h.next<=h'.next/\(h.WF->h'.WF):=by
 unfold k9 at hs
 split at hs
 ·obtain⟨h'',hst,hs⟩:=Option.map_eq_some_iff.1 hs
  cases hs
  unfold Gm at hst
  split at hst
  ·split at hst
   ·rename_i hg
    split at hst
    ·cases hst;exact⟨cF _,λhw=>EH hw hg⟩
    ·cases hst
   ·cases hst
  ·cases hst
 ·unfold Kb at hs
  split at hs
  ·split at hs
   ·rename_i hg
    split at hs
    ·cases hs;exact⟨cF _,λhw=>EH hw hg⟩
    ·cases hs;exact⟨cF _,id⟩
   ·cases hs
  ·cases hs
 ·obtain⟨h'',hst,hs⟩:=Option.map_eq_some_iff.1 hs
  cases hs;exact I2 hst
 ·obtain⟨h'',hst,hs⟩:=Option.map_eq_some_iff.1 hs
  cases hs;exact I2 hst
 ·split at hs
  ·unfold xe at hs
   split at hs
   ·split at hs
    ·split at hs
     ·cases hs
     ·obtain⟨inf,_,hs⟩:=Option.bind_eq_some_iff.1 hs
      obtain⟨zs,_,hs⟩:=Option.bind_eq_some_iff.1 hs
      obtain⟨q,_,hs⟩:=Option.bind_eq_some_iff.1 hs
      split at hs
      ·unfold uZ at hs
       repeat' split at hs
       all_goals first
        | (cases hs;done)
        | (cases hs;exact⟨cF _,id⟩)
        | (cases hs;exact⟨by simp[H.new,H.kill],λhw=>QF hw⟩)
        | (cases hs;exact⟨by simp[H.new,H.kill],λhw=>QF (af1 hw)⟩)
        | (rename_i hg _;cases hs;exact⟨cF _,λhw=>EH hw hg⟩)
      ·cases hs
    ·cases hs
   ·cases hs
  ·unfold Nu at hs
   split at hs
   ·split at hs
    ·obtain⟨inf,_,hs⟩:=Option.bind_eq_some_iff.1 hs
     obtain⟨q,_,hs⟩:=Option.bind_eq_some_iff.1 hs
     repeat' split at hs
     all_goals first
      | (cases hs;done)
      | (cases hs;exact⟨cF _,id⟩)
      | (rename_i hg _;cases hs;exact⟨cF _,λhw=>EH hw hg⟩)
    ·cases hs
   ·cases hs
  ·exact Q2 hs
  ·exact Nt hs
  ·cases hs
 ·cases hs
theorem IZ{P:Program}{call:dK}(aH:call.Sound P){ρ:Operand->AV}{op:Op}{h h':H}{v:AV}(hs:dB P call ρ op h=some (v,h')):h.next<=h'.next/\(h.WF->h'.WF):=by
 unfold dB at hs
 split at hs
 ·obtain⟨x,_,hs⟩:=Option.map_eq_some_iff.1 hs;cases hs;exact⟨cF _,id⟩
 ·obtain⟨x,_,hs⟩:=Option.map_eq_some_iff.1 hs;cases hs;exact⟨by rw[jw];omega,λhw=>af2 hw⟩
 ·obtain⟨x,_,hs⟩:=Option.map_eq_some_iff.1 hs;cases hs;exact⟨cF _,id⟩
 ·split at hs
  ·split at hs
   ·split at hs
    ·have:=aH _ _ _ _ _ hs;exact⟨this.next,this.wf⟩
    ·cases hs
   ·exact IW hs
  ·exact IW hs
theorem ve{P:Program}{call:dK}(aH:call.Sound P){ops:Array Oper}{o:Oper}{ρ:Operand->AV}{h h':H}{v:AV}(hs:eu P call ops o ρ h=some (v,h')):h.next<=h'.next/\(h.WF->h'.WF):=by
 unfold eu at hs
 obtain⟨b,_,hs⟩:=Option.bind_eq_some_iff.1 hs
 split at hs
 ·exact IZ aH hs
 ·cases hs;exact⟨cF _,id⟩
theorem Ff{P:Program}{call:dK}(aH:call.Sound P){ops:Array Oper}:∀{l:List Oper} {fr fr':List AV} {h h':H},Hl P call ops l fr h=some (fr',h')->h.next<=h'.next/\(h.WF->h'.WF)
 | [],fr,fr',h,h',hs=>by simp only[Hl]at hs;cases hs;exact⟨cF _,id⟩
 | o::rest,fr,fr',h,h',hs=>by
  simp only[Hl]at hs
  obtain⟨⟨v,h1⟩,h2,hs⟩:=Option.bind_eq_some_iff.1 hs
  have g1:=ve aH h2
  have g2:=Ff aH hs
  exact⟨qb g1.1 g2.1,λhw=>g2.2 (g1.2 hw)⟩
theorem Oa{P:Program}{call:dK}(aH:call.Sound P){r:Ren}{ρ:Operand->AV}{o:Oper}{a:Act}(hρ:∀x,VR r (ρ x) (a.eval x)){v:AV}{h h':H}{w:World}(an:Rel r h w)
  (hfree:∀i,h.next<=i->i<h'.next->r i=none) (hv:dB P call ρ o.op h=some (v,h')):
  wV P o a w λv' w'=>∃r',VR r' v v'/\Post r h w r' h' w':=by
 cases hc:cls P o.op with
 | full=>exact NF aH hρ an hfree hc hv
 | pure=>
  unfold dB at hv
  rw[hc]at hv
  obtain⟨x,hx,hv⟩:=Option.map_eq_some_iff.1 hv
  cases hv
  intro Q K hK
  exact Oh hρ hx w Q K λv' w' ⟨h1,h2⟩=>hK _ _ ⟨r,h1,by rw[h2];exact Post.refl an⟩
 | read=>
  unfold dB at hv
  rw[hc]at hv
  obtain⟨x,hx,hv⟩:=Option.map_eq_some_iff.1 hv
  cases hv
  intro Q K hK
  exact Oj hρ an hx Q K λv' w' ⟨h1,h2⟩=>hK _ _ ⟨r,h1,by rw[h2];exact Post.refl an⟩
 | alloc=>
  unfold dB at hv
  rw[hc]at hv
  obtain⟨⟨ob,mk⟩,hx,hv⟩:=Option.map_eq_some_iff.1 hv
  cases hv
  have hl:=KW hρ hx w
  intro Q K hK
  refine hl Q K λv' w' ⟨row,h1,he,h2,h3,h4⟩=>hK _ _ ⟨r.put h.next ⟨w.heap.size,0,row⟩,?_,?_⟩
  ·exact h4 _ _ (Ren.le_refl _) (by simp[Ren.put])
  ·exact Post.ahz (base:=0) (row:=row) an (hfree _ (cF _) (by simp[jw])) h1 he h2 h3
theorem ail{P:Program}{call:dK}(aH:call.Sound P){r:Ren}{ops:Array Oper}{ρ:Operand->AV}{o:Oper}{a:Act}(hρ:∀x,VR r (ρ x) (a.eval x)){v:AV}{h h':H}{w:World}(an:Rel r h w)
  (hfree:∀i,h.next<=i->i<h'.next->r i=none) (hv:eu P call ops o ρ h=some (v,h')) (Q:Exit->Act->World->Prop) (K:Act->World->Prop)
  (hK:∀v' w',(∃r',VR r' v v'/\Post r h w r' h' w')->K (a.put o.dst v') w'):
  if Region.wanted o (yielded ops a.tmps)then o.wp P a w K Q∨(o.asks P a w/\LetsOut Q)else K (a.put o.dst undef) w:=by
 unfold eu at hv
 obtain⟨b,hb,hv⟩:=Option.bind_eq_some_iff.1 hv
 have hw:=DR hb (λt _=>hρ _)
 rw[hw]
 cases b
 ·simp at hv
  obtain⟨rfl,rfl⟩:=hv
  exact hK undef w ⟨r,vY (vs:=[]) .nil,Post.refl an⟩
 ·simp at hv
  exact .inl (Oa aH hρ an hfree hv Q K hK)
theorem TI{P:Program}{call:dK}(aH:call.Sound P){ops:Array Oper}{Q:Exit->Act->World->Prop}:∀{l:List Oper} {fr fr':List AV} {h h':H} {r:Ren} {a:Act} {w:World},
  Hl P call ops l fr h=some (fr',h')->FR r fr a->Rel r h w->(∀i,h.next<=i->i<h'.next->r i=none)->
  (∀r' a' w',FR r' fr' a'->a'.defers=a.defers->Post r h w r' h' w'->Q .normal a' w')->wpList P ops Q l a w
 | [],fr,fr',h,h',r,a,w,hs,hfr,an,hfree,hQ=>by
  simp only[Hl]at hs
  cases hs
  exact hQ r a w hfr rfl (Post.refl an)
 | o::rest,fr,fr',h,h',r,a,w,hs,hfr,an,hfree,hQ=>by
  simp only[Hl]at hs
  obtain⟨⟨v,h1⟩,h2,hs⟩:=Option.bind_eq_some_iff.1 hs
  have g1:=ve aH h2
  have g2:=Ff aH hs
  have jD:∀i,h.next<=i->i<h1.next->r i=none:=λi a b=>hfree i a (Ep b g2.1)
  have:=ail (ops:=ops) (o:=o) (a:=a) aH (Dw hfr an.rH) an jD h2 Q (wpList P ops Q rest) (λv' w' ⟨r',hv',hp⟩=>by
   refine TI aH hs ((hfr.mono hp.le).zQ o.dst hv') hp.rel (λi hi1 hi2=>?_) λr'' a'' w'' aro axA ax6=>hQ r'' a'' w'' aro (by rw[axA];cases o.dst<;>rfl) (hp.trans ax6)
   cases hr:r' i with
   | none=>rfl
   | some t=>
    have hn:=hfree i (qb hp.next hi1) hi2
    have:=hp.dom i t hr hn
    simp only at hi1
    omega)
  unfold wpList
  exact this
end Go.Ev
