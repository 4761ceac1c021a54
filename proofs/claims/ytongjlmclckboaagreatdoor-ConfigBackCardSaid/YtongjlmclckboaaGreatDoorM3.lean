/- Own texts, joined: . -/
import Derived.Test.YtongjlmclckboaaGreatDoorM2
import Derived.LoopN
set_option linter.all false
namespace Go.Ev
open Classical in
noncomputable def pr{α:Type}(init:α)(val:Nat->α)(W:Nat->Prop):Nat->α
 | 0=>init
 | m+1=>if W m then val m else pr init val W m
theorem xx{α:Type}{init:α}{val:Nat->α}{W W':Nat->Prop}:∀{n:Nat},(∀m,m<n->(W m↔W' m))->pr init val W n=pr init val W' n
 | 0,_=>rfl
 | n+1,h=>by
  have ih:=xx (init:=init) (val:=val) (n:=n) λm hm=>h m (by omega)
  have hn:=h n (by omega)
  simp only[pr,ih]
  by_cases hw:W n
  ·rw[if_pos hw,if_pos (hn.1 hw)]
  ·rw[if_neg hw,if_neg λe=>hw (hn.2 e)]
theorem Mp{α:Type}{init:α}{val:Nat->α}{W:Nat->Prop}{j:Nat}:∀{n:Nat},j<=n->(∀m,m<n->W m->m<j)->pr init val W n=pr init val W j
 | 0,hj,_=>by
  have e:j=0:=by omega
  subst e;rfl
 | n+1,hj,h=>by
  rcases Nat.lt_or_ge n j with hlt | hge
  ·have e:j=n+1:=by omega
   subst e;rfl
  ·have hw:¬W n:=λe=>by have:=h n (by omega) e;omega
   simp only[pr]
   rw[if_neg hw,Mp hge λm hm=>h m (by omega)]
def okM(ops:Array Oper)(M:Nat->Nat):Bool:=
 (List.range ops.size).all λj=>match ops[j]? with
  | none=>false
  | some o=>o.after.all (λe=>!Region.binds .any e||decide (e.on<j)) &&
    (List.range j).all λi=>!(M j).testBit i||o.after.any λe=>Region.binds .any e&&(e.on==i||(decide (i<e.on)&&(M e.on).testBit i))
def Qc(x y:Class):Bool:=
 match x,y with
 | .full,.full=>false
 | _,_=>true
def iM(P:Program)(ops:Array Oper)(M:Nat->Nat)(k:Nat):Bool:=
 match ops[k]? with
 | none=>false
 | some o=>cls P o.op==.full&&(List.range ops.size).any λj=>match ops[j]? with
  | none=>false
  | some oj=>cls P oj.op==.read&&!((M k).testBit j||(M j).testBit k)
def nh(M:Nat->Nat)(k j:Nat):Bool:=!((M k).testBit j||(M j).testBit k)
def vo(ρ:Operand->AV):Op->AV
 | .load _ a=>ρ a
 | .convert _ _ x=>ρ x
 | .lookup _ m _ _=>ρ m
 | .call c=>(match c.args.toList with | x::_=>ρ x | []=>.fJ)
 | _=>.fJ
def yq:AV->Option Nat
 | .ptr (some (b,_))=>some b
 | .slice (some (b,_)) _ _=>some b
 | .map (some b)=>some b
 | _=>none
def LZ(P:Program)(ops:Array Oper)(M:Nat->Nat)(j:Nat):Bool:=
 match ops[j]? with
 | none=>false
 | some o=>cls P o.op==.read&&(List.range j).any λk=>match ops[k]? with
  | none=>false
  | some ok=>cls P ok.op==.full&&!((M k).testBit j||(M j).testBit k)
def RP(P:Program)(ops:Array Oper)(M:Nat->Nat):Bool:=
 (List.range ops.size).all λj=>(List.range j).all λi=>
  (M j).testBit i||match ops[i]?,ops[j]? with
   | some oi,some oj=>oi.apart ops oj&&oj.apart ops oi&&Qc (cls P oi.op) (cls P oj.op)
   | _,_=>false
def masks(ops:Array Oper)(k:Nat):Nat:=(Region.before ops).getD k 0
def W1(ops:Array Oper)(M:Nat->Nat):Bool:=(List.range ops.size).all λj=>decide (M j<2 ^ j)
def nW(P:Program)(ops:Array Oper):Bool:=okM ops (masks ops)&&W1 ops (masks ops)&&RP P ops (masks ops)
noncomputable def H.minus(h:H)(S:Nat->Prop):H:=⟨h.next,λi=>open Classical in if S i then none else h.get i⟩
def Gz:Nat->Prop:=λ_=>False
def bD(S:Nat->Prop)(h h':H):Nat->Prop:=λi=>S i∨(i<h.next/\h'.get i≠h.get i)
structure Sub(h1 h:H):Prop where
 next:h1.next=h.next
 get:∀i o,h1.get i=some o->h.get i=some o
theorem P7(h:H)(S:Nat->Prop):Sub (h.minus S) h:=⟨rfl,λi o e=>by
 simp only[H.minus]at e
 split at e
 ·cases e
 ·exact e⟩
theorem B9{h:H}{S:Nat->Prop}{i:Nat}(hi:¬S i):(h.minus S).get i=h.get i:=by simp only[H.minus];rw[if_neg hi]
theorem P6(h:H):h.minus Gz=h:=by
 cases h
 unfold H.minus
 congr 1
 funext i
 rw[if_neg (show ¬Gz i from λh=>h)]
theorem Zq{S:Nat->Prop}{h h':H}(hq:∀i,i<h.next->h'.get i=h.get i):bD S h h'=S:=by
 funext i
 exact propext ⟨λh=>h.elim id λ⟨h1,h2⟩=>absurd (hq i h1) h2,.inl⟩
theorem VU{z:AV}{m:Option Nat}{k:AV}{h1 h:H}(s:Sub h1 h){q:AV×Bool}(hq:zq z m k h1=some q):zq z m k h=some q:=by
 unfold zq at hq ⊢
 split at hq
 ·exact hq
 ·split at hq
  ·rename_i hg;rw[s.get _ _ hg];exact hq
  ·rename_i hg;rw[s.get _ _ hg];exact hq
  ·cases hq
theorem Q6{m:Option Nat}{h1 h:H}(s:Sub h1 h){n:Nat}(hn:rG m h1=some n):rG m h=some n:=by
 unfold rG at hn ⊢
 split at hn
 ·exact hn
 ·split at hn
  ·rename_i hg;rw[s.get _ _ hg];exact hn
  ·cases hn
theorem VY{P:Program}{ρ:Operand->AV}{op:Op}{h1 h:H}(s:Sub h1 h){v:AV}(hv:sR P ρ op h1=some v):sR P ρ op h=some v:=by
 unfold sR at hv ⊢
 split at hv
 ·rename_i t a
  unfold Db at hv ⊢
  split at hv
  ·split at hv
   ·rename_i hg
    rw[s.get _ _ hg]
    exact hv
   ·cases hv
  ·cases hv
 ·unfold Gi at hv ⊢
  split at hv
  ·split at hv
   ·rename_i hu
    unfold wq at hv ⊢
    split at hv
    ·exact hv
    ·split at hv
     ·rename_i h0;rw[if_pos h0];exact hv
     ·rename_i h0
      rw[if_neg h0]
      split at hv
      ·rename_i hg
       rw[s.get _ _ hg]
       exact hv
      ·cases hv
    ·cases hv
   ·cases hv
  ·cases hv
 ·unfold zu at hv ⊢
  split at hv
  ·split at hv
   ·split at hv
    ·rename_i hkk
     obtain⟨z,hz,hv⟩:=Option.bind_eq_some_iff.1 hv
     obtain⟨q,hq,rfl⟩:=Option.map_eq_some_iff.1 hv
     rw[if_pos hkk,hz,fD,VU s hq];rfl
    ·cases hv
   ·cases hv
  ·cases hv
 ·split at hv
  ·unfold Ka at hv ⊢
   split at hv
   ·split at hv
    ·obtain⟨n,hn,rfl⟩:=Option.map_eq_some_iff.1 hv
     rw[Q6 s hn];rfl
    ·cases hv
   ·cases hv
  ·cases hv
 ·cases hv
theorem VZ{P:Program}{call:dK}{ops:Array Oper}{o:Oper}{ρ:Operand->AV}{h1 h h2:H}(s:Sub h1 h)(hc:cls P o.op=.read){v:AV}(hv:eu P call ops o ρ h1=some (v,h2)):h2=h1/\eu P call ops o ρ h=some (v,h):=by
 unfold eu at hv ⊢
 obtain⟨b,hb,hv⟩:=Option.bind_eq_some_iff.1 hv
 rw[hb]
 cases b with
 | false=>
  simp only[Bool.false_eq_true,if_false,Option.some.injEq,Prod.mk.injEq]at hv
  obtain⟨rfl,rfl⟩:=hv
  exact⟨rfl,rfl⟩
 | true=>
  simp only[if_true]at hv
  unfold dB at hv
  rw[hc]at hv
  obtain⟨x,hx,hv⟩:=Option.map_eq_some_iff.1 hv
  cases hv
  refine⟨rfl,?_⟩
  simp only[fD,if_true]
  unfold dB
  rw[hc]
  simp only
  rw[VY s hx];rfl
theorem Uf(h:H)(S T:Nat->Prop):(h.minus S).minus T=h.minus λi=>S i∨T i:=by
 unfold H.minus
 congr 1
 funext i
 by_cases h1:T i
 ·rw[if_pos h1,if_pos (.inr h1)]
 ·rw[if_neg h1]
  by_cases h2:S i
  ·simp only;rw[if_pos h2,if_pos (.inl h2)]
  ·simp only;rw[if_neg h2,if_neg (λh=>h.elim h2 h1)]
theorem Q9{P:Program}{ρ:Operand->AV}{op:Op}{h:H}{S:Nat->Prop}{v:AV}(hv:sR P ρ op h=some v)(hb:∀b,yq (vo ρ op)=some b->¬S b):sR P ρ op (h.minus S)=some v:=by
 unfold sR at hv ⊢
 split at hv
 ·rename_i t a
  unfold Db at hv ⊢
  split at hv
  ·rename_i i o h1 h2
   rw[B9 (hb i (by simp[vo,yq,h2]))]
   exact hv
  ·cases hv
 ·rename_i s d x
  unfold Gi at hv ⊢
  split at hv
  ·split at hv
   ·unfold wq at hv ⊢
    split at hv
    ·exact hv
    ·rename_i i o len c h2
     split at hv
     ·rename_i h0;rw[if_pos h0];exact hv
     ·rename_i h0
      rw[if_neg h0,B9 (hb i (by simp[vo,yq,h2]))]
      exact hv
    ·cases hv
   ·cases hv
  ·cases hv
 ·rename_i t m k ok
  unfold zu at hv ⊢
  split at hv
  ·rename_i kt e m' h1 h2
   have hl:∀z,zq z m' (ρ k) (h.minus S)=zq z m' (ρ k) h:=λz=>by
    cases m' with
    | none=>rfl
    | some b=>unfold zq;simp only;rw[B9 (hb b (by simp[vo,yq,h2]))]
   simp only[hl]
   exact hv
  ·cases hv
 ·rename_i c
  split at hv
  ·unfold Ka at hv ⊢
   split at hv
   ·rename_i t0 m' h1 h2
    have hl:rG m' (h.minus S)=rG m' h:=by
     cases m' with
     | none=>rfl
     | some b=>
      unfold rG
      simp only
      rw[B9 (hb b ?_)]
      cases hc:c.args.toList with
      | nil=>rw[hc]at h2;cases h2
      | cons x l=>rw[hc]at h2;simp only[List.map_cons,List.cons.injEq]at h2;simp[vo,yq,hc,h2.1]
    rw[hl]
    exact hv
   ·cases hv
  ·cases hv
 ·cases hv
theorem I4{P:Program}{call:dK}{ops:Array Oper}{o:Oper}{ρ:Operand->AV}{h h2:H}(hc:cls P o.op=.read){v:AV}(hv:eu P call ops o ρ h=some (v,h2)){S:Nat->Prop}(hb:∀b,yq (vo ρ o.op)=some b->¬S b):
  eu P call ops o ρ (h.minus S)=some (v,h.minus S):=by
 unfold eu at hv ⊢
 obtain⟨b,hbb,hv⟩:=Option.bind_eq_some_iff.1 hv
 rw[hbb]
 cases b with
 | false=>
  simp only[Bool.false_eq_true,if_false,Option.some.injEq,Prod.mk.injEq]at hv
  obtain⟨rfl,rfl⟩:=hv
  rfl
 | true=>
  simp only[if_true]at hv
  unfold dB at hv
  rw[hc]at hv
  obtain⟨x,hx,hv⟩:=Option.map_eq_some_iff.1 hv
  cases hv
  simp only[fD,if_true]
  unfold dB
  rw[hc]
  simp only
  rw[Q9 hx hb];rfl
theorem UG{P:Program}{ops:Array Oper}{M:Nat->Nat}{j:Nat}{o:Oper}(ho:ops[j]?=some o)(h:LZ P ops M j=true):cls P o.op=.read:=by
 unfold LZ at h
 rw[ho]at h
 simp only[Bool.and_eq_true,beq_iff_eq]at h
 exact h.1
def T7(M:Nat->Nat)(k:Nat)(h h':H)(Js:List (Nat×AV)):Prop:=∀e∈Js,nh M k e.1=true->∀b,yq e.2=some b->h'.get b=h.get b
def JA(P:Program)(k:Nat)(o:Oper)(v:AV)(Js:List (Nat×AV)):List (Nat×AV):=if cls P o.op=.read then(k,v)::Js else Js
open Classical in
noncomputable def oN(P:Program)(call:dK)(ops:Array Oper):List Oper->Nat->List AV->H->(Nat->Prop)->List (Nat×AV)->Option (List AV×H)
 | [],_,fr,h,_,_=>some (fr,h)
 | o::rest,k,fr,h,S,Js=>
  if LZ P ops (masks ops) k=true then(eu P call ops o (oW fr) (h.minus S)).bind λq=>oN P call ops rest (k+1) (zQ fr o.dst q.1) h S (JA P k o (vo (oW fr) o.op) Js)
  else(eu P call ops o (oW fr) h).bind λq=>
   if iM P ops (masks ops) k=true then
    (if T7 (masks ops) k h q.2 Js then oN P call ops rest (k+1) (zQ fr o.dst q.1) q.2 (bD S h q.2) (JA P k o (vo (oW fr) o.op) Js)else none)
   else oN P call ops rest (k+1) (zQ fr o.dst q.1) q.2 S (JA P k o (vo (oW fr) o.op) Js)
structure LD(E:Nat->Prop)(P:Program)(call:dK)(ops:Array Oper)(n:Nat)(F:Nat->List AV)(Hs:Nat->H)(V:Nat->AV):Prop where
 step:∀k,k<n->∃o,ops[k]?=some o/\(eu P call ops o (oW (F k)) (Hs k)=some (V k,Hs (k+1))∨(E k/\((Hs k).next<=(Hs (k+1)).next/\((Hs k).WF->(Hs (k+1)).WF))/\((∃i,i<(Hs k).next/\(Hs (k+1)).get i≠(Hs k).get i)->cls P o.op=.full)))/\F (k+1)=zQ (F k) o.dst (V k)
 kept:∀k,k<n->iM P ops (masks ops) k=true->∀j oj,j<k->ops[j]?=some oj->cls P oj.op=.read->nh (masks ops) k j=true->∀b,yq (vo (oW (F j)) oj.op)=some b->(Hs (k+1)).get b=(Hs k).get b
 shy:∀k,k<n->¬E k->LZ P ops (masks ops) k=true->∃S:Nat->Prop,(∀m,m<k->iM P ops (masks ops) m=true->nh (masks ops) m k=true->∀i,i<(Hs m).next->(Hs (m+1)).get i≠(Hs m).get i->S i)/\
  ∀o,ops[k]?=some o->eu P call ops o (oW (F k)) ((Hs k).minus S)=some (V k,(Hs k).minus S)
theorem qc{P:Program}{call:dK}{ops:Array Oper}:∀{l:List Oper} {k:Nat} {fr fr':List AV} {h h':H} {S:Nat->Prop} {Js:List (Nat×AV)},oN P call ops l k fr h S Js=some (fr',h')->(∀j,j<l.length->l[j]?=ops[k+j]?)->
  ∃(F:Nat->List AV) (Hs:Nat->H) (V:Nat->AV),F 0=fr/\Hs 0=h/\F l.length=fr'/\Hs l.length=h'/\
   (∀m,m<l.length->∃o,ops[k+m]?=some o/\eu P call ops o (oW (F m)) (Hs m)=some (V m,Hs (m+1))/\F (m+1)=zQ (F m) o.dst (V m))/\
   (∀m,m<l.length->iM P ops (masks ops) (k+m)=true->(∀e∈Js,nh (masks ops) (k+m) e.1=true->∀b,yq e.2=some b->(Hs (m+1)).get b=(Hs m).get b)/\
    ∀j oj,j<m->ops[k+j]?=some oj->cls P oj.op=.read->nh (masks ops) (k+m) (k+j)=true->∀b,yq (vo (oW (F j)) oj.op)=some b->(Hs (m+1)).get b=(Hs m).get b)/\
   ∀m,m<l.length->LZ P ops (masks ops) (k+m)=true->∃S':Nat->Prop,(∀i,S i->S' i)/\(∀p,p<m->iM P ops (masks ops) (k+p)=true->∀i,i<(Hs p).next->(Hs (p+1)).get i≠(Hs p).get i->S' i)/\
    ∀o,ops[k+m]?=some o->eu P call ops o (oW (F m)) ((Hs m).minus S')=some (V m,(Hs m).minus S')
 | [],k,fr,fr',h,h',S,Js,hs,hl=>by
  simp only[oN]at hs
  cases hs
  exact⟨λ_=>fr,λ_=>h,λ_=>.fJ,rfl,rfl,rfl,rfl,λm hm=>by simp at hm,λm hm=>by simp at hm,λm hm=>by simp at hm⟩
 | o::rest,k,fr,fr',h,h',S,Js,hs,hl=>by
  simp only[oN]at hs
  have h0:ops[k]?=some o:=by have:=hl 0 (by simp);simpa using this.symm
  have hl':∀j,j<rest.length->rest[j]?=ops[k+1+j]?:=λj hj=>by have:=hl (j+1) (by simpa using hj);simpa[Nat.add_assoc,Nat.add_comm 1 j]using this
  have key:∃v h1 S1,eu P call ops o (oW fr) h=some (v,h1)/\oN P call ops rest (k+1) (zQ fr o.dst v) h1 S1 (JA P k o (vo (oW fr) o.op) Js)=some (fr',h')/\
    (iM P ops (masks ops) k=true->T7 (masks ops) k h h1 Js)/\
    (∀i,S i->S1 i)/\(iM P ops (masks ops) k=true->∀i,i<h.next->h1.get i≠h.get i->S1 i)/\
    (LZ P ops (masks ops) k=true->eu P call ops o (oW fr) (h.minus S)=some (v,h.minus S)):=by
   split at hs
   ·rename_i hsh
    obtain⟨⟨v,h1⟩,h2,hs⟩:=Option.bind_eq_some_iff.1 hs
    obtain⟨e1,e2⟩:=VZ (P7 h S) (UG h0 hsh) h2
    subst e1
    exact⟨v,h,S,e2,hs,λ_ _ _ _ _ _=>rfl,λ_ h=>h,λ_ i _ hne=>absurd rfl hne,λ_=>h2⟩
   ·rename_i hsh
    obtain⟨⟨v,h1⟩,h2,hs⟩:=Option.bind_eq_some_iff.1 hs
    simp only at hs
    split at hs
    ·split at hs
     ·rename_i hq
      exact⟨v,h1,_,h2,hs,λ_=>hq,λ_ h=>.inl h,λ_ i hi hne=>.inr ⟨hi,hne⟩,λh=>absurd h hsh⟩
     ·cases hs
    ·rename_i hn
     exact⟨v,h1,S,h2,hs,λh=>absurd h hn,λ_ h=>h,λh=>absurd h hn,λh=>absurd h hsh⟩
  obtain⟨v,h1,S1,k1,k2,k3,k4,k5,k6⟩:=key
  obtain⟨F,Hs,V,e1,e2,e3,e4,e5,e6,e7⟩:=qc k2 hl'
  refine⟨λm=>match m with | 0=>fr | m+1=>F m,λm=>match m with | 0=>h | m+1=>Hs m,λm=>match m with | 0=>v | m+1=>V m,rfl,rfl,e3,e4,λm hm=>?_,λm hm hq=>?_,λm hm hq=>?_⟩
  ·cases m with
   | zero=>exact⟨o,h0,by simp only;rw[e2];exact k1,by simp only;rw[e1]⟩
   | succ m=>
    obtain⟨o',q1,q2,q3⟩:=e5 m (by simpa using hm)
    exact⟨o',by rw[<-q1];congr 1;omega,q2,q3⟩
  ·cases m with
   | zero=>
    refine⟨λe he hi b hb=>?_,λj oj hj=>absurd hj (by omega)⟩
    simp only
    rw[e2]
    exact k3 hq e he hi b hb
   | succ m=>
    have hq':iM P ops (masks ops) (k+1+m)=true:=by rw[<-hq];congr 1;omega
    obtain⟨q1,q2⟩:=e6 m (by simpa using hm) hq'
    have ek:k+(m+1)=k+1+m:=by omega
    refine⟨λe he hi b hb=>q1 e ?_ (by rw[<-ek];exact hi) b hb,λj oj hj kY hc hi b hb=>?_⟩
    ·unfold JA;split
     ·exact List.mem_cons_of_mem _ he
     ·exact he
    ·cases j with
     | zero=>
      rw[Nat.add_zero,h0]at kY
      cases kY
      refine q1 (k,vo (oW fr) o.op) ?_ (by rw[<-ek];exact hi) b hb
      unfold JA
      rw[if_pos hc]
      exact List.mem_cons_self
     | succ j=>exact q2 j oj (by omega) (by rw[<-kY];congr 1;omega) hc (by rw[<-ek,show k+1+j=k+(j+1)by omega];exact hi) b hb
  ·cases m with
   | zero=>exact⟨S,λ_ h=>h,λp hp=>by omega,λo' ho'=>by
     rw[Nat.add_zero,h0]at ho'
     cases ho'
     exact k6 hq⟩
   | succ m=>
    obtain⟨S',q1,q2,q3⟩:=e7 m (by simpa using hm) (by rw[<-hq];congr 1;omega)
    refine⟨S',λi hi=>q1 i (k4 i hi),λp hp hnq i hi hne=>?_,λo' ho'=>q3 o' (by rw[<-ho'];congr 1;omega)⟩
    cases p with
    | zero=>
     simp only at hi hne
     rw[e2]at hne
     exact q1 i (k5 hnq i hi hne)
    | succ p=>exact q2 p (by omega) (by rw[<-hnq];congr 1;omega) i hi hne
section
variable {E:Nat->Prop}{P:Program}{call:dK}{ops:Array Oper}{n:Nat}{F:Nat->List AV}{Hs:Nat->H}{V:Nat->AV}
def Wr(ops:Array Oper)(t:Tmp)(m:Nat):Prop:=∃o,ops[m]?=some o/\o.dst=some t
def Tc(Hs:Nat->H)(i m:Nat):Prop:=(Hs (m+1)).get i≠(Hs m).get i
noncomputable def FO(ops:Array Oper)(n:Nat)(F:Nat->List AV)(V:Nat->AV)(D:Nat->Prop)(t:Tmp):AV:=pr ((F 0).getD t .fJ) V (λm=>D m/\Wr ops t m) n
noncomputable def ij(n:Nat)(Hs:Nat->H)(D:Nat->Prop)(i:Nat):Option cK:=pr ((Hs 0).get i) (λm=>(Hs (m+1)).get i) (λm=>D m/\Tc Hs i m) n
theorem acX(i:Nat):∀k,(Hs k).get i=pr ((Hs 0).get i) (λm=>(Hs (m+1)).get i) (Tc Hs i) k
 | 0=>rfl
 | k+1=>by
  simp only[pr]
  by_cases h:Tc Hs i k
  ·rw[if_pos h]
  ·rw[if_neg h,<-acX i k];exact Classical.not_not.1 h
theorem jZ{D:Nat->Prop}{i j:Nat}(hj:j<=n)(h:∀m,m<n->Tc Hs i m->(D m↔m<j)):ij n Hs D i=(Hs j).get i:=by
 unfold ij
 rw[xx (W':=λm=>m<j/\Tc Hs i m) (λm hm=>⟨λ⟨a,b⟩=>⟨(h m hm b).1 a,b⟩,λ⟨a,b⟩=>⟨(h m hm b).2 a,b⟩⟩),Mp hj (λm _ h=>h.1),acX i j]
 exact xx λm hm=>⟨λh=>h.2,λh=>⟨hm,h⟩⟩
theorem Ft(hrun:LD E P call ops n F Hs V):∀k,k<=n->(F k).length=(F 0).length
 | 0,_=>rfl
 | k+1,hk=>by
  obtain⟨o,_,_,h3⟩:=hrun.step k (by omega)
  rw[h3,<-Ft hrun k (by omega)]
  unfold zQ
  split<;>simp
theorem apU(hrun:LD E P call ops n F Hs V){t:Tmp}(ht:t<(F 0).length):∀k,k<=n->(F k).getD t .fJ=pr ((F 0).getD t .fJ) V (Wr ops t) k
 | 0,_=>rfl
 | k+1,hk=>by
  obtain⟨o,h1,_,h3⟩:=hrun.step k (by omega)
  have ih:=apU hrun ht k (by omega)
  have hl:=Ft hrun k (by omega)
  simp only[pr]
  by_cases h:Wr ops t k
  ·rw[if_pos h,h3]
   obtain⟨o',q1,q2⟩:=h
   rw[h1]at q1
   cases q1
   rw[q2]
   simp only[zQ]
   rw[List.getD_eq_getElem?_getD,List.getElem?_set_self (by rw[hl];exact ht)]
   rfl
  ·rw[if_neg h,<-ih,h3]
   cases hd:o.dst with
   | none=>rfl
   | some d=>
    have hne:d≠t:=λe=>h ⟨o,h1,by rw[hd,e]⟩
    simp only[zQ]
    rw[List.getD_eq_getElem?_getD,List.getD_eq_getElem?_getD,List.getElem?_set_ne hne]
theorem uI(hrun:LD E P call ops n F Hs V){D:Nat->Prop}{t:Tmp}(ht:t<(F 0).length){j:Nat}(hj:j<=n)(h:∀m,m<n->Wr ops t m->(D m↔m<j)):FO ops n F V D t=(F j).getD t .fJ:=by
 unfold FO
 rw[xx (W':=λm=>m<j/\Wr ops t m) (λm hm=>⟨λ⟨a,b⟩=>⟨(h m hm b).1 a,b⟩,λ⟨a,b⟩=>⟨(h m hm b).2 a,b⟩⟩),Mp hj (λm _ h=>h.1),apU hrun ht j hj]
 exact xx λm hm=>⟨λh=>h.2,λh=>⟨hm,h⟩⟩
theorem dw(aH:call.Sound P)(hrun:LD E P call ops n F Hs V){k:Nat}:∀{m:Nat},k<=m->m<=n->(Hs k).next<=(Hs m).next
 | 0,hk,_=>by
  have e:k=0:=by omega
  subst e;exact cF _
 | m+1,hk,hm=>by
  rcases Nat.lt_or_ge m k with h | h
  ·have e:k=m+1:=by omega
   subst e;exact cF _
  ·obtain⟨o,_,h2,_⟩:=hrun.step m (by omega)
   refine qb (dw aH hrun h (by omega)) ?_
   rcases h2 with h2 | h2
   ·exact(ve aH h2).1
   ·exact h2.2.1.1
theorem ym(aH:call.Sound P)(hrun:LD E P call ops n F Hs V)(h0:(Hs 0).WF):∀k,k<=n->(Hs k).WF
 | 0,_=>h0
 | k+1,hk=>by
  obtain⟨o,_,h2,_⟩:=hrun.step k (by omega)
  rcases h2 with h2 | h2
  ·exact(ve aH h2).2 (ym aH hrun h0 k (by omega))
  ·exact h2.2.1.2 (ym aH hrun h0 k (by omega))
structure Inv(P:Program)(ops:Array Oper)(n:Nat)(F:Nat->List AV)(Hs:Nat->H)(V:Nat->AV)(r0:Ren)(w0:World)(ds:List Deferred)(D:Nat->Prop)(r:Ren)(a:Act)(w:World):Prop where
 le:r0.le r
 dom:∀i t,r i=some t->r0 i=none->∃k,k<n/\D k/\(Hs k).next<=i/\i<(Hs (k+1)).next
 sz:a.tmps.size=(F 0).length
 slot:∀t,t<(F 0).length->VR r (FO ops n F V D t) (a.eval (.tmp t))
 obj:∀i t o,r i=some t->ij n Hs D i=some o->OR r w t o
 inj:∀i j ti tj oi oj,r i=some ti->r j=some tj->ij n Hs D i=some oi->ij n Hs D j=some oj->ti.blk=tj.blk->i=j∨(oi.ro=true/\oj.ro=true)
 bound:∀i t,r i=some t->t.blk<w.heap.size
 keep:ajR r0 (Hs 0) w0 w
 size:w0.heap.size<=w.heap.size
 env:Env w0 w
 fresh:∀i t,r0 i=none->r i=some t->w0.heap.size<=t.blk∨∃j tj o,r0 j=some tj/\tj.blk=t.blk/\(Hs 0).get j=some o/\o.ro=false
 oD:∀m,m<n->D m->∀i,i<(Hs m).next->Tc Hs i m->∃t,r i=some t
 ro:∀m,m<n->D m->∀i o,i<(Hs m).next->(Hs (m+1)).get i=some o->∃o',(Hs m).get i=some o'/\o'.ro=o.ro
 defers:a.defers=ds
 gl:GL r0
end
theorem Q7{P:Program}{call:dK}{ρ ρ':Operand->AV}(op:Op)(h:H)(hx:∀x∈op.operands,ρ x=ρ' x):dB P call ρ op h=dB P call ρ' op h:=by
 have list:∀(xs:Array Operand),(∀x∈xs,ρ x=ρ' x)->xs.toList.map ρ=xs.toList.map ρ':=λxs hh=>List.map_congr_left λx hm=>hh x (by simpa using hm)
 have parts:∀(ps:Array (Nat×Operand)),(∀x∈(ps.toList.map (·.2)).toArray,ρ x=ρ' x)->ps.toList.map (λp=>(p.1,ρ p.2))=ps.toList.map (λp=>(p.1,ρ' p.2)):=λps hh=>
  List.map_congr_left λp hm=>by rw[hh p.2 (by simp only[List.mem_toArray,List.mem_map];exact⟨p,hm,rfl⟩)]
 unfold dB
 cases op<;>simp only[Op.operands]at hx<;>simp only[cls]
 case call c=>
  have hargs:c.args.toList.map ρ=c.args.toList.map ρ':=list _ λx hm=>hx x (by simp[Call.operands,hm])
  cases hc:c.callee with
  | value f=>
   have hf:ρ f=ρ' f:=hx f (by simp[Call.operands,hc])
   simp only[hf,hargs]
  | invoke r m=>simp only[k9,hc]
  | builtin b=>cases b<;>simp only[qj,sR,nw,k9,hc,hargs]
 case build t ps=>simp only[qj,parts ps hx]
 case buildSlice t l ps=>simp only[nw,parts ps hx]
 case makeFunc fn a b=>
  have h1:=list a λx hm=>hx x (by simp[hm])
  have h2:=list b λx hm=>hx x (by simp[hm])
  cases fn<;>simp only[qj,h1,h2]
 case slice t x lo hi mx=>
  have h1:ρ x=ρ' x:=hx x (by simp)
  have h2:lo.map ρ=lo.map ρ':=by cases lo with | none=>rfl | some y=>simp only[Option.map_some];rw[hx y (by simp)]
  have h3:hi.map ρ=hi.map ρ':=by cases hi with | none=>rfl | some y=>simp only[Option.map_some];rw[hx y (by simp)]
  have h4:mx.map ρ=mx.map ρ':=by cases mx with | none=>rfl | some y=>simp only[Option.map_some];rw[hx y (by simp)]
  simp only[qj,h1,h2,h3,h4]
 case convert s d x=>simp only[qj,nw,sR,k9,hx x (by simp)]
 case makeMap t r=>
  cases r with
  | none=>simp only[nw]
  | some x=>simp only[nw,hx x (by simp)]
 case next it b=>cases b<;>simp only[k9,hx it (by simp)]
 all_goals first
  | rfl
  | (simp only[qj,nw,sR,k9];done)
  | (simp only[qj,nw,sR,k9];simp only[List.mem_toArray,List.mem_cons,List.not_mem_nil,or_false,forall_eq_or_imp,forall_eq]at hx;simp only[hx])
def restrict(ops:Array Oper)(o:Oper)(fr:List AV)(x:Operand):AV:=
 match x with
 | .tmp t=>if t∈o.looksAt ops then fr.getD t .fJ else .fJ
 | x=>oW fr x
theorem DX{P:Program}{call:dK}{ops:Array Oper}{o:Oper}{fr:List AV}{h:H}:eu P call ops o (restrict ops o fr) h=eu P call ops o (oW fr) h:=by
 have hop:∀x∈o.op.operands,restrict ops o fr x=oW fr x:=by
  intro x hx
  cases x with
  | tmp t=>
   have ht:t∈o.looksAt ops:=List.mem_append_left _ (List.mem_filterMap.2 ⟨.tmp t,by simpa using hx,rfl⟩)
   simp[restrict,ht,oW]
  | _=>rfl
 have hw:eP ops (restrict ops o fr) o=eP ops (oW fr) o:=by
  unfold eP
  cases hg:o.guard with
  | none=>rfl
  | some q=>
   obtain⟨j,want⟩:=q
   simp only
   cases hd:(ops[j]?).bind (·.dst)with
   | none=>rfl
   | some t=>
    have ht:t∈o.looksAt ops:=List.mem_append_right _ (by simp[hg,hd])
    simp[restrict,ht,oW]
 unfold eu
 rw[hw]
 congr 1
 funext b
 rw[Q7 o.op h hop]
section
variable {P:Program}{call:dK}{ops:Array Oper}{F:Nat->List AV}{Hs:Nat->H}{V:Nat->AV}{r0:Ren}{w0:World}{ds:List Deferred}
theorem vA{M:Nat->Nat}(hM:okM ops M=true){j:Nat}{o:Oper}(ho:ops[j]?=some o):
  (∀e∈o.after,Region.binds .any e=true->e.on<j)/\∀i,i<j->(M j).testBit i=true->∃e∈o.after,Region.binds .any e=true/\(e.on=i∨(i<e.on/\(M e.on).testBit i=true)):=by
 have h1:=List.all_eq_true.1 hM j (List.mem_range.2 (Array.getElem?_eq_some_iff.1 ho).1)
 simp only[ho,Bool.and_eq_true]at h1
 obtain⟨h1,h2⟩:=h1
 refine⟨λe he hb=>?_,λi hi ht=>?_⟩
 ·have:=Array.all_eq_true_iff_forall_mem.1 h1 e he
  simpa[hb]using this
 ·have:=List.all_eq_true.1 h2 i (List.mem_range.2 hi)
  simp only[ht,Bool.not_true,Bool.false_or]at this
  obtain⟨e,he,hb⟩:=Array.any_eq_true'.1 this
  simp only[Bool.and_eq_true,Bool.or_eq_true,beq_iff_eq,decide_eq_true_eq]at hb
  exact⟨e,he,hb.1,hb.2⟩
theorem KX{M:Nat->Nat}(hM:okM ops M=true){D:Nat->Prop}(closed:∀m o,ops[m]?=some o->D m->∀e∈o.after,Region.binds .any e=true->D e.on):
  ∀(m:Nat),D m->m<ops.size->∀i,i<m->(M m).testBit i=true->D i:=by
 intro m
 induction m using Nat.strongRecOn with
 | _ m ih=>
  intro hD hm i hi ht
  have ho:ops[m]?=some ops[m]:=Array.getElem?_eq_getElem hm
  obtain⟨hlt,hspec⟩:=vA hM ho
  obtain⟨e,he,hb,Jd⟩:=hspec i hi ht
  have hDe:=closed m _ ho hD e he hb
  rcases Jd with rfl | ⟨h1,h2⟩
  ·exact hDe
  ·have:=hlt e he hb
   exact ih e.on this hDe (by omega) i h1 h2
theorem MU{M:Nat->Nat}(hM:okM ops M=true){D:Nat->Prop}(closed:∀m o,ops[m]?=some o->D m->∀e∈o.after,Region.binds .any e=true->D e.on){j:Nat}{o:Oper}(ho:ops[j]?=some o)
  (ready:∀e∈o.after,Region.binds .any e=true->D e.on):∀i,i<j->(M j).testBit i=true->D i:=by
 intro i hi ht
 obtain⟨hlt,hspec⟩:=vA hM ho
 obtain⟨e,he,hb,Jd⟩:=hspec i hi ht
 have hj:=(Array.getElem?_eq_some_iff.1 ho).1
 rcases Jd with rfl | ⟨h1,h2⟩
 ·exact ready e he hb
 ·have:=hlt e he hb
  exact KX hM closed e.on (ready e he hb) (by omega) i h1 h2
theorem Jr{M:Nat->Nat}(hP:RP P ops M=true){i j:Nat}{oi oj:Oper}(hij:i<j)(hi:ops[i]?=some oi)(hj:ops[j]?=some oj)(hb:(M j).testBit i=false):
  oi.apart ops oj=true/\oj.apart ops oi=true/\Qc (cls P oi.op) (cls P oj.op)=true:=by
 have h1:=List.all_eq_true.1 hP j (List.mem_range.2 (Array.getElem?_eq_some_iff.1 hj).1)
 have h2:=List.all_eq_true.1 h1 i (List.mem_range.2 hij)
 simp only[hb,Bool.false_or,hi,hj,Bool.and_eq_true]at h2
 exact⟨h2.1.1,h2.1.2,h2.2⟩
structure LF(P:Program)(ops:Array Oper)(D:Nat->Prop)(j:Nat):Prop where
 other:∀m om oj,m<ops.size->m≠j->ops[m]?=some om->ops[j]?=some oj->
  (D m↔m<j)∨(om.apart ops oj=true/\oj.apart ops om=true/\Qc (cls P om.op) (cls P oj.op)=true/\Qc (cls P oj.op) (cls P om.op)=true/\
   (cls P om.op=.full->cls P oj.op=.read->iM P ops (masks ops) m=true)/\nh (masks ops) m j=true)
theorem yK{M:Nat->Nat}{k j:Nat}{ok oj:Oper}(hk:ops[k]?=some ok)(hj:ops[j]?=some oj)(h1:cls P ok.op=.full)(h2:cls P oj.op=.read)(hb:((M k).testBit j||(M j).testBit k)=false):iM P ops M k=true:=by
 unfold iM
 simp only[hk,h1,beq_self_eq_true,Bool.true_and]
 refine List.any_eq_true.2 ⟨j,List.mem_range.2 (Array.getElem?_eq_some_iff.1 hj).1,?_⟩
 simp[hj,h2,hb]
theorem anS{M:Nat->Nat}{k j:Nat}{ok oj:Oper}(hk:ops[k]?=some ok)(hj:ops[j]?=some oj)(h1:cls P ok.op=.full)(h2:cls P oj.op=.read)(hb:((M k).testBit j||(M j).testBit k)=false)(hlt:k<j):LZ P ops M j=true:=by
 unfold LZ
 simp only[hj,h2,beq_self_eq_true,Bool.true_and]
 refine List.any_eq_true.2 ⟨k,List.mem_range.2 hlt,?_⟩
 simp[hk,h1,hb]
theorem N8{x y:Class}(h:Qc x y=true):Qc y x=true:=by cases x<;>cases y<;>first | rfl | exact h
theorem PY{M:Nat->Nat}(h:W1 ops M=true){j i:Nat}(hj:j<ops.size)(hi:j<=i):(M j).testBit i=false:=by
 have:=List.all_eq_true.1 h j (List.mem_range.2 hj)
 simp only[decide_eq_true_eq]at this
 exact Nat.testBit_lt_two_pow (Ep this (Nat.pow_le_pow_right (by omega) hi))
theorem MA(hM:okM ops (masks ops)=true)(hH:W1 ops (masks ops)=true)(hP:RP P ops (masks ops)=true){D:Nat->Prop}(closed:∀m o,ops[m]?=some o->D m->∀e∈o.after,Region.binds .any e=true->D e.on){j:Nat}{o:Oper}(ho:ops[j]?=some o)
  (wB:¬D j) (ready:∀e∈o.after,Region.binds .any e=true->D e.on):LF P ops D j:=by
 refine⟨λm om oj hm hne zD kY=>?_⟩
 have hjs:=(Array.getElem?_eq_some_iff.1 ho).1
 rcases Nat.lt_or_ge m j with hlt | hge
 ·cases hb:(masks ops j).testBit m with
  | true=>exact .inl ⟨λ_=>hlt,λ_=>MU hM closed ho ready m hlt hb⟩
  | false=>
   obtain⟨h1,h2,h3⟩:=Jr hP hlt zD kY hb
   have hb2:(masks ops m).testBit j=false:=PY hH hm (by omega)
   exact .inr ⟨h1,h2,h3,N8 h3,λa b=>yK zD kY a b (by simp[hb,hb2]),by simp[nh,hb,hb2]⟩
 ·have hlt:j<m:=by omega
  cases hb:(masks ops m).testBit j with
  | true=>exact .inl ⟨λhD=>absurd (KX hM closed m hD hm j hlt hb) wB,λh=>by omega⟩
  | false=>
   obtain⟨h1,h2,h3⟩:=Jr hP hlt kY zD hb
   have hb2:(masks ops j).testBit m=false:=PY hH hjs (by omega)
   exact .inr ⟨h2,h1,N8 h3,h3,λa b=>yK zD kY a b (by simp[hb,hb2]),by simp[nh,hb,hb2]⟩
end
section
variable {E:Nat->Prop}{P:Program}{call:dK}{ops:Array Oper}{n:Nat}{F:Nat->List AV}{Hs:Nat->H}{V:Nat->AV}{r0:Ren}{w0:World}{ds:List Deferred}
def rf(D:Nat->Prop)(j:Nat)(m:Nat):Prop:=D m∨m=j
theorem JL{D:Nat->Prop}{j m:Nat}(h:m≠j->(D m↔m<j)):rf D j m↔m<j+1:=by
 unfold rf
 by_cases e:m=j
 ·subst e;simp
 ·have:=h e
  constructor
  ·rintro (h1 | h1)
   ·have:=this.1 h1;omega
   ·exact absurd h1 e
  ·intro h1
   exact .inl (this.2 (by omega))
theorem aa8(hn:n=ops.size){D:Nat->Prop}{j:Nat}(hj:j<n){oj:Oper}(kY:ops[j]?=some oj)(jM:LF P ops D j)(wB:¬D j)(t:Tmp):
  (oj.dst=some t->FO ops n F V (rf D j) t=V j)/\(oj.dst≠some t->FO ops n F V (rf D j) t=FO ops n F V D t):=by
 constructor
 ·intro hd
  have key:∀m,m<n->Wr ops t m->(rf D j m↔m<j+1):=by
   intro m hm ⟨om,zD,hdm⟩
   refine JL λhne=>?_
   rcases jM.other m om oj (hn▸hm) hne zD kY with h | ⟨hap,_⟩
   ·exact h
   ·exact absurd hd ((Oper.apart_spec hap).2.1 t hdm)
  unfold FO
  rw[xx (W':=λm=>m<j+1/\Wr ops t m) (λm hm=>⟨λ⟨a,b⟩=>⟨(key m hm b).1 a,b⟩,λ⟨a,b⟩=>⟨(key m hm b).2 a,b⟩⟩),Mp (j:=j+1) (by omega) (λm _ h=>h.1)]
  simp only[pr]
  rw[if_pos ⟨by omega,oj,kY,hd⟩]
 ·intro hd
  unfold FO
  refine xx λm hm=>?_
  constructor
  ·rintro ⟨h | rfl,hw⟩
   ·exact⟨h,hw⟩
   ·obtain⟨om,zD,hdm⟩:=hw
    rw[kY]at zD
    cases zD
    exact absurd hdm hd
  ·rintro ⟨h,hw⟩
   exact⟨.inl h,hw⟩
theorem iK{D:Nat->Prop}{j i:Nat}(h:¬Tc Hs i j):ij n Hs (rf D j) i=ij n Hs D i:=by
 unfold ij
 refine xx λm hm=>?_
 constructor
 ·rintro ⟨h1 | rfl,hw⟩
  ·exact⟨h1,hw⟩
  ·exact absurd hw h
 ·rintro ⟨h1,hw⟩
  exact⟨.inl h1,hw⟩
theorem FC(hrun:LD E P call ops n F Hs V)(hn:n=ops.size){D:Nat->Prop}{r:Ren}{a:Act}{w:World}(inv:Inv P ops n F Hs V r0 w0 ds D r a w){j:Nat}(hj:j<n){oj:Oper}(kY:ops[j]?=some oj)
  (jM:LF P ops D j) (wB:¬D j):∀x,VR r (restrict ops oj (F j) x) (a.eval x):=by
 intro x
 cases x with
 | tmp t=>
  simp only[restrict]
  split
  ·rename_i ht
   rcases Nat.lt_or_ge t (F 0).length with hlt | hge
   ·have:=uI (D:=D) hrun hlt (j:=j) (by omega) (λm hm ⟨om,zD,hdm⟩=>by
     by_cases e:m=j
     ·subst e;exact⟨λh=>absurd h wB,λh=>by omega⟩
     ·rcases jM.other m om oj (hn▸hm) e zD kY with h | ⟨hap,_⟩
      ·exact h
      ·exact absurd ht ((Oper.apart_spec hap).1 t hdm))
    rw[<-this]
    exact inv.slot t hlt
   ·rw[List.getD_eq_getElem?_getD,List.getElem?_eq_none (by rw[Ft hrun j (by omega)];exact hge)]
    exact .fJ _
  ·exact .fJ _
 | const v=>exact Cy r v
 | global g=>exact(inv.gl.mono inv.le).vr g
 | func f=>exact .func f [] [] #[] #[] rfl rfl (λi a v h=>by simp at h) (λi a v h=>by simp at h)
theorem eval_put(a:Act)(d:Option Tmp)(v:Value)(t:Tmp)(ht:t<a.tmps.size):(a.put d v).eval (.tmp t)=if d=some t then v else a.eval (.tmp t):=by
 cases d with
 | none=>simp[Act.put]
 | some d=>
  by_cases e:d=t
  ·subst e;simp[Act.put,Act.eval,ht]
  ·simp[Act.put,Act.eval,e,Array.getElem?_setIfInBounds_ne e]
structure EF(n:Nat)(Hs:Nat->H)(r0:Ren)(w0:World)(D:Nat->Prop)(j:Nat)(r r':Ren)(w w':World):Prop where
 le:r.le r'
 alias:∀i t o,r' i=some t->ij n Hs (rf D j) i=some o->w.heap.size<=t.blk∨∃k tk ok,r k=some tk/\tk.blk=t.blk/\ij n Hs D k=some ok
 dom:∀i t,r' i=some t->r i=none->(Hs j).next<=i/\i<(Hs (j+1)).next
 obj:∀i t o,r' i=some t->ij n Hs (rf D j) i=some o->OR r' w' t o
 inj:∀i k ti tk oi ok,r' i=some ti->r' k=some tk->ij n Hs (rf D j) i=some oi->ij n Hs (rf D j) k=some ok->ti.blk=tk.blk->i=k∨(oi.ro=true/\ok.ro=true)
 bound:∀i t,r' i=some t->t.blk<w'.heap.size
 keep:ajR r0 (Hs 0) w0 w'
 size:w0.heap.size<=w'.heap.size
 env:Env w0 w'
 fresh:∀i t,r0 i=none->r' i=some t->w0.heap.size<=t.blk∨∃k tk o,r0 k=some tk/\tk.blk=t.blk/\(Hs 0).get k=some o/\o.ro=false
 oD:∀i,i<(Hs j).next->Tc Hs i j->∃t,r' i=some t
 ro:∀i o,i<(Hs j).next->(Hs (j+1)).get i=some o->∃o',(Hs j).get i=some o'/\o'.ro=o.ro
theorem rP(hrun:LD E P call ops n F Hs V)(hn:n=ops.size){D:Nat->Prop}{r r':Ren}{a:Act}{w w':World}(inv:Inv P ops n F Hs V r0 w0 ds D r a w){j:Nat}(hj:j<n){oj:Oper}(kY:ops[j]?=some oj)
  (jM:LF P ops D j) (wB:¬D j) (b:EF n Hs r0 w0 D j r r' w w') {v':Value} (hv:VR r' (V j) v'):Inv P ops n F Hs V r0 w0 ds (rf D j) r' (a.put oj.dst v') w' where
 le:=Ren.le_trans inv.le b.le
 dom:=λi t h1 h2=>by
  cases hr:r i with
  | none=>have:=b.dom i t h1 hr;exact⟨j,hj,.inr rfl,this.1,this.2⟩
  | some t'=>
   obtain⟨k,hk,hD,h3⟩:=inv.dom i t' hr h2
   exact⟨k,hk,.inl hD,h3⟩
 sz:=by
  rw[<-inv.sz]
  cases oj.dst<;>simp[Act.put]
 slot:=λt ht=>by
  have hs:=aa8 (F:=F) (V:=V) hn hj kY jM wB t
  rw[eval_put _ _ _ _ (by rw[inv.sz];exact ht)]
  by_cases hd:oj.dst=some t
  ·rw[if_pos hd,hs.1 hd];exact hv
  ·rw[if_neg hd,hs.2 hd];exact(inv.slot t ht).mono b.le
 obj:=b.obj
 inj:=b.inj
 bound:=b.bound
 keep:=b.keep
 size:=b.size
 env:=b.env
 fresh:=b.fresh
 oD:=λm hm hD i hi ht=>by
  rcases hD with hD | rfl
  ·obtain⟨t,h⟩:=inv.oD m hm hD i hi ht
   exact⟨t,b.le i t h⟩
  ·exact b.oD i hi ht
 ro:=λm hm hD i o hi ho=>by
  rcases hD with hD | rfl
  ·exact inv.ro m hm hD i o hi ho
  ·exact b.ro i o hi ho
 defers:=by rw[<-inv.defers];cases oj.dst<;>rfl
 gl:=inv.gl
theorem ug{D:Nat->Prop}{r:Ren}{a:Act}{w:World}(inv:Inv P ops n F Hs V r0 w0 ds D r a w){j:Nat}(hH:Hs (j+1)=Hs j):EF n Hs r0 w0 D j r r w w where
 le:=Ren.le_refl _
 alias:=λi t o h1 h2=>.inr ⟨i,t,o,h1,rfl,by rwa [iK (by simp[Tc,hH])]at h2⟩
 dom:=λi t h1 h2=>by rw[h1]at h2;cases h2
 obj:=λi t o h1 h2=>by
  rw[iK (by simp[Tc,hH])]at h2
  exact inv.obj i t o h1 h2
 inj:=λi k ti tk oi ok h1 h2 h3 h4=>by
  rw[iK (by simp[Tc,hH])]at h3 h4
  exact inv.inj i k ti tk oi ok h1 h2 h3 h4
 bound:=inv.bound
 keep:=inv.keep
 size:=inv.size
 env:=inv.env
 fresh:=inv.fresh
 oD:=λi _ h=>absurd (by rw[hH]) h
 ro:=λi o _ h=>⟨o,by rw[<-hH];exact h,rfl⟩
theorem Iy(aH:call.Sound P)(hrun:LD E P call ops n F Hs V)(sd:(Hs 0).WF)(free:∀i,(Hs 0).next<=i->i<(Hs n).next->r0 i=none){D:Nat->Prop}{r:Ren}{a:Act}{w w':World}(inv:Inv P ops n F Hs V r0 w0 ds D r a w){j:Nat}(hj:j<n)(wB:¬D j)
  {ob:Option cK} {row:Nat} (hH:Hs (j+1)=(Hs j).jm ob) (h1:w'.heap.size=w.heap.size+1) (he:Env w w') (h2:∀b,b<w.heap.size->w'.heap[b]?=w.heap[b]?) (h3:∀x,ob=some x->∀r':Ren,r.le r'->OR r' w' ⟨w.heap.size,0,row⟩ x):
  EF n Hs r0 w0 D j r (r.put (Hs j).next ⟨w.heap.size,0,row⟩) w w':=by
 have hnew:r (Hs j).next=none:=by
  cases hr:r (Hs j).next with
  | none=>rfl
  | some t=>
   have hm:=dw aH hrun (uQ j) (by omega:j<=n)
   have hm2:(Hs (j+1)).next<=(Hs n).next:=dw aH hrun (by omega) (cF _)
   have hnx:(Hs (j+1)).next=(Hs j).next+1:=by rw[hH,jw]
   obtain⟨k,hk,hD,h4,h5⟩:=inv.dom _ t hr (free _ hm (by omega))
   exfalso
   rcases Nat.lt_trichotomy k j with h | h | h
   ·have:=dw aH hrun (show k+1<=j from h) (by omega:j<=n);omega
   ·subst h;exact wB hD
   ·have:=dw aH hrun (show j+1<=k from h) (by omega:k<=n);omega
 have hwf:=ym aH hrun sd j (by omega)
 have hold:(Hs j).get (Hs j).next=none:=by
  cases hg:(Hs j).get (Hs j).next with
  | none=>rfl
  | some o=>have:=hwf _ _ hg;omega
 have j9:∀i,(Hs (j+1)).get i=if i=(Hs j).next then ob else(Hs j).get i:=λi=>by
  rw[hH]
  by_cases e:i=(Hs j).next
  ·rw[if_pos e,e,Ho hold]
  ·rw[if_neg e,Ja e]
 have hnt:∀i,i≠(Hs j).next->¬Tc Hs i j:=λi hi h=>h (by rw[j9,if_neg hi])
 have Vc:ij n Hs (rf D j) (Hs j).next=ob:=by
  have:=jZ (n:=n) (Hs:=Hs) (D:=rf D j) (i:=(Hs j).next) (j:=j+1) (by omega) (λm hm ht=>JL λhne=>by
   rcases Nat.lt_or_ge m j with h | h
   ·
    exfalso
    have hm1:=dw aH hrun (show m+1<=j from h) (by omega:j<=n)
    have g1:(Hs (m+1)).get (Hs j).next=none:=by
     cases hg:(Hs (m+1)).get (Hs j).next with
     | none=>rfl
     | some o=>have:=ym aH hrun sd (m+1) (by omega) _ _ hg;omega
    have hm2:=dw aH hrun (show m<=j by omega) (by omega:j<=n)
    have g2:(Hs m).get (Hs j).next=none:=by
     cases hg:(Hs m).get (Hs j).next with
     | none=>rfl
     | some o=>have:=ym aH hrun sd m (by omega) _ _ hg;omega
    exact ht (by rw[g1,g2])
   ·refine⟨λhD=>?_,λh'=>by omega⟩
    have hjm:j<m:=by omega
    have hm1:=dw aH hrun (show j+1<=m from hjm) (by omega:m<=n)
    have hnx:(Hs (j+1)).next=(Hs j).next+1:=by rw[hH,jw]
    obtain⟨t,hr⟩:=inv.oD m hm hD _ (by omega) ht
    rw[hnew]at hr;cases hr)
  rw[this,j9,if_pos rfl]
 refine⟨Ren.zI hnew,λi t o h4 h5=>?_,λi t h4 h5=>?_,λi t o h4 h5=>?_,λi k ti tk oi ok h4 h5 h6 h7 e=>?_,λi t h4=>?_,λb hb hk=>?_,by have:=inv.size;omega,inv.env.trans he,λi t h4 h5=>?_,λi hi ht=>?_,λi o hi ho=>?_⟩
 ·unfold Ren.put at h4
  split at h4
  ·cases h4;exact .inl (cF _)
  ·rename_i e
   rw[iK (hnt i e)]at h5
   exact .inr ⟨i,t,o,h4,rfl,h5⟩
 ·unfold Ren.put at h4
  split at h4
  ·rename_i e;subst e;rw[hH,jw];exact⟨cF _,Nat.lt_succ_self _⟩
  ·rw[h4]at h5;cases h5
 ·unfold Ren.put at h4
  split at h4
  ·rename_i e;subst e;cases h4
   rw[Vc]at h5
   exact h3 _ h5 _ (Ren.zI hnew)
  ·rename_i e
   rw[iK (hnt i e)]at h5
   exact(inv.obj i t o h4 h5).move (Ren.zI hnew) (h2 _ (inv.bound i t h4))
 ·unfold Ren.put at h4 h5
  split at h4<;>split at h5
  ·left;omega
  ·rename_i e1 e2;cases h4
   have:=inv.bound k tk h5;simp at e;omega
  ·rename_i e1 e2;cases h5
   have:=inv.bound i ti h4;simp at e;omega
  ·rename_i e1 e2
   rw[iK (hnt i e1)]at h6
   rw[iK (hnt k e2)]at h7
   exact inv.inj i k ti tk oi ok h4 h5 h6 h7 e
 ·unfold Ren.put at h4
  split at h4
  ·cases h4;simp;omega
  ·have:=inv.bound i t h4;omega
 ·have:=inv.size
  rw[h2 b (by omega)]
  exact inv.keep b hb hk
 ·unfold Ren.put at h5
  split at h5
  ·cases h5;exact .inl inv.size
  ·exact inv.fresh i t h4 h5
 ·exact absurd ht (hnt i (by omega))
 ·rw[j9,if_neg (by omega)]at ho
  exact⟨o,ho,rfl⟩
end
section
variable {E:Nat->Prop}{P:Program}{call:dK}{ops:Array Oper}{n:Nat}{F:Nat->List AV}{Hs:Nat->H}{V:Nat->AV}{r0:Ren}{w0:World}{ds:List Deferred}
theorem Io(aH:call.Sound P)(hrun:LD E P call ops n F Hs V){m:Nat}(hm:m<n){om:Oper}(zD:ops[m]?=some om){i:Nat}(hi:i<(Hs m).next)(ht:Tc Hs i m):cls P om.op=.full:=by
 obtain⟨o,h1,h2,_⟩:=hrun.step m hm
 rw[zD]at h1
 cases h1
 rcases h2 with h2 | h2
 case inr=>exact h2.2.2 ⟨i,hi,ht⟩
 unfold eu at h2
 obtain⟨b,_,h2⟩:=Option.bind_eq_some_iff.1 h2
 cases b
 ·simp at h2;exact absurd (by rw[h2.2]) ht
 ·simp at h2
  unfold dB at h2
  cases hc:cls P om.op with
  | full=>rfl
  | pure=>rw[hc]at h2;obtain⟨x,_,h3⟩:=Option.map_eq_some_iff.1 h2;exact absurd (by rw[(Prod.mk.inj h3).2]) ht
  | read=>rw[hc]at h2;obtain⟨x,_,h3⟩:=Option.map_eq_some_iff.1 h2;exact absurd (by rw[(Prod.mk.inj h3).2]) ht
  | alloc=>
   rw[hc]at h2
   obtain⟨x,_,h3⟩:=Option.map_eq_some_iff.1 h2
   refine absurd ?_ ht
   rw[<-(Prod.mk.inj h3).2]
   exact Ja (by omega)
theorem Hw(aH:call.Sound P)(hrun:LD E P call ops n F Hs V){k m i:Nat}(hk:k<n)(hm:m<n)(h1:(Hs k).next<=i)(h2:i<(Hs (k+1)).next)(h3:(Hs m).next<=i)(h4:i<(Hs (m+1)).next):k=m:=by
 rcases Nat.lt_trichotomy k m with h | h | h
 ·have:=dw aH hrun (show k+1<=m from h) (by omega:m<=n);omega
 ·exact h
 ·have:=dw aH hrun (show m+1<=k from h) (by omega:k<=n);omega
theorem YO(aH:call.Sound P)(hrun:LD E P call ops n F Hs V)(sd:(Hs 0).WF){m i:Nat}(hm:m<n)(hi:(Hs m).next<=i)(ht:Tc Hs i m):i<(Hs (m+1)).next:=by
 cases hg:(Hs (m+1)).get i with
 | some o=>exact ym aH hrun sd (m+1) hm i o hg
 | none=>
  refine absurd ?_ ht
  rw[hg]
  cases Rj:(Hs m).get i with
  | none=>rfl
  | some o=>have:=ym aH hrun sd m (by omega) i o Rj;omega
variable (aH:call.Sound P)(hrun:LD E P call ops n F Hs V)(sd:(Hs 0).WF)(hn:n=ops.size)(free:∀i,(Hs 0).next<=i->i<(Hs n).next->r0 i=none)
include aH hrun sd hn free
theorem Kq{D:Nat->Prop}{r:Ren}{a:Act}{w:World}(inv:Inv P ops n F Hs V r0 w0 ds D r a w){m i:Nat}{t:D4}(hm:m<n)(h1:(Hs m).next<=i)(h2:i<(Hs (m+1)).next)(hr:r i=some t):D m:=by
 have _:=sd
 have hz:=dw aH hrun (uQ m) (by omega:m<=n)
 have ht:=dw aH hrun (show m+1<=n from hm) (cF n)
 obtain⟨k,hk,hD,h3,h4⟩:=inv.dom i t hr (free i (by omega) (by omega))
 have:=Hw aH hrun hk hm h3 h4 h1 h2
 subst this;exact hD
theorem QT{D:Nat->Prop}{r:Ren}{a:Act}{w:World}(inv:Inv P ops n F Hs V r0 w0 ds D r a w){j:Nat}(hj:j<n){oj:Oper}(kY:ops[j]?=some oj)(jM:LF P ops D j)(wB:¬D j)
  {S:Nat->Prop} (hc:cls P oj.op=.full∨(cls P oj.op=.read/\∀m om,m<n->m≠j->ops[m]?=some om->cls P om.op=.full->nh (masks ops) m j=true->∀i,i<(Hs m).next->(Hs (m+1)).get i≠(Hs m).get i->S i)) {i:Nat} {t:D4} (hr:r i=some t) (hi:i<(Hs j).next) (hS:¬S i):ij n Hs D i=(Hs j).get i:=by
 refine jZ (by omega) λm hm ht=>?_
 by_cases e:m=j
 ·subst e;exact⟨λh=>absurd h wB,λh=>by omega⟩
 ·have zD:ops[m]?=some ops[m]:=Array.getElem?_eq_getElem (by omega)
  rcases Nat.lt_or_ge i (Hs m).next with hlt | hge
  ·have hf:=Io aH hrun hm zD hlt ht
   rcases jM.other m _ oj (hn▸hm) e zD kY with h | ⟨_,_,JV,_,_,JW⟩
   ·exact h
   ·rcases hc with hc | ⟨hc,hc2⟩
    ·rw[hf,hc]at JV;cases JV
    ·exact absurd (hc2 m _ hm e zD hf JW i hlt ht) hS
  ·have h2:=YO aH hrun sd hm hge ht
   have Gv:m<j:=by
    rcases Nat.lt_or_ge m j with h | h
    ·exact h
    ·have:=dw aH hrun h (by omega:m<=n);omega
   exact⟨λ_=>Gv,λ_=>Kq aH hrun sd hn free inv hm hge h2 hr⟩
theorem Qk{D:Nat->Prop}{r:Ren}{a:Act}{w:World}(inv:Inv P ops n F Hs V r0 w0 ds D r a w){j:Nat}(hj:j<n){oj:Oper}(kY:ops[j]?=some oj)(jM:LF P ops D j)(wB:¬D j)
  {S:Nat->Prop} (hc:cls P oj.op=.full∨(cls P oj.op=.read/\∀m om,m<n->m≠j->ops[m]?=some om->cls P om.op=.full->nh (masks ops) m j=true->∀i,i<(Hs m).next->(Hs (m+1)).get i≠(Hs m).get i->S i)):Rel r ((Hs j).minus S) w:=by
 have hwf:=ym aH hrun sd j (by omega)
 have vg:∀i t o,r i=some t->((Hs j).minus S).get i=some o->ij n Hs D i=some o:=λi t o hr hg=>by
  by_cases hS:S i
  ·simp only[H.minus]at hg
   rw[if_pos hS]at hg
   cases hg
  ·rw[B9 hS]at hg
   rw[QT aH hrun sd hn free inv hj kY jM wB hc hr (hwf i o hg) hS];exact hg
 exact⟨λi o hg=>hwf i o ((P7 _ S).get i o hg),λi t o hr hg=>inv.obj i t o hr (vg i t o hr hg),λi k ti tk oi ok h1 h2 h3 h4 e=>inv.inj i k ti tk oi ok h1 h2 (vg _ _ _ h1 h3) (vg _ _ _ h2 h4) e,inv.bound,inv.gl.mono inv.le⟩
theorem aeK{D:Nat->Prop}{r:Ren}{a:Act}{w:World}(inv:Inv P ops n F Hs V r0 w0 ds D r a w){j:Nat}(hj:j<n){oj:Oper}(kY:ops[j]?=some oj)(jM:LF P ops D j)(wB:¬D j)
  (hc:cls P oj.op=.full):Rel r (Hs j) w:=by
 have:=Qk (S:=Gz) aH hrun sd hn free inv hj kY jM wB (.inl hc)
 rwa [P6]at this
theorem Yh{D:Nat->Prop}{r:Ren}{a:Act}{w:World}(inv:Inv P ops n F Hs V r0 w0 ds D r a w){j:Nat}(hj:j<n)(wB:¬D j):∀i,(Hs j).next<=i->i<(Hs (j+1)).next->r i=none:=by
 intro i h1 h2
 cases hr:r i with
 | none=>rfl
 | some t=>exact absurd (Kq aH hrun sd hn free inv hj h1 h2 hr) wB
theorem aej{i:Nat}{t:D4}(hr:r0 i=some t){j:Nat}(hj:j<=n){o:cK}(hg:(Hs j).get i=some o):i<(Hs 0).next:=by
 have _:=hn
 have h1:=ym aH hrun sd j hj i o hg
 have h2:=dw aH hrun hj (cF n)
 rcases Nat.lt_or_ge i (Hs 0).next with h | h
 ·exact h
 ·rw[free i h (by omega)]at hr;cases hr
theorem Mu{D:Nat->Prop}{r:Ren}{a:Act}{w:World}(inv:Inv P ops n F Hs V r0 w0 ds D r a w){j:Nat}(hj:j<n){oj:Oper}(kY:ops[j]?=some oj)(jM:LF P ops D j)(hc:cls P oj.op=.full){i:Nat}(hi:i<(Hs 0).next):
  ∀k,k<=j->∀o,(Hs k).get i=some o->∃o0,(Hs 0).get i=some o0/\o0.ro=o.ro
 | 0,_,o,h=>⟨o,h,rfl⟩
 | k+1,hk,o,h=>by
  have _:=sd
  have _:=free
  have hkn:k<n:=by omega
  have hik:i<(Hs k).next:=Ep hi (dw aH hrun (uQ k) (by omega))
  by_cases ht:Tc Hs i k
  ·have zD:ops[k]?=some ops[k]:=Array.getElem?_eq_getElem (by omega)
   have hf:=Io aH hrun hkn zD hik ht
   have hD:D k:=by
    rcases jM.other k _ oj (hn▸hkn) (by omega) zD kY with h | ⟨_,_,JV,_⟩
    ·exact h.2 (by omega)
    ·rw[hf,hc]at JV;cases JV
   obtain⟨o',h1,h2⟩:=inv.ro k hkn hD i o hik h
   obtain⟨o0,h3,h4⟩:=Mu inv hj kY jM hc hi k (by omega) o' h1
   exact⟨o0,h3,h4.trans h2⟩
  ·exact Mu inv hj kY jM hc hi k (by omega) o (by rw[<-Classical.not_not.1 ht];exact h)
theorem EL{D:Nat->Prop}{r r':Ren}{a:Act}{w w':World}(inv:Inv P ops n F Hs V r0 w0 ds D r a w){j:Nat}(hj:j<n){oj:Oper}(kY:ops[j]?=some oj)(jM:LF P ops D j)(wB:¬D j)
  (hc:cls P oj.op=.full) (p:Post r (Hs j) w r' (Hs (j+1)) w'):EF n Hs r0 w0 D j r r' w w':=by
 have hwf:=ym aH hrun sd j (by omega)
 have hwf':=ym aH hrun sd (j+1) (by omega)
 have Wh:∀{i t},r i=some t->i<(Hs j).next->ij n Hs D i=(Hs j).get i:=λhr hi=>QT (S:=Gz) aH hrun sd hn free inv hj kY jM wB (.inl hc) hr hi (λh=>h)
 have ada:∀{i t},r' i=some t->i<(Hs j).next->r i=some t:=by
  intro i t h1 h2
  cases hr:r i with
  | none=>have:=p.dom i t h1 hr;omega
  | some t'=>have:=p.le i t' hr;rw[h1]at this;rw[this]
 have Ke:∀{i t},r' i=some t->(Hs (j+1)).next<=i->r i=some t:=by
  intro i t h1 h2
  cases hr:r i with
  | none=>have:=p.dom i t h1 hr;omega
  | some t'=>have:=p.le i t' hr;rw[h1]at this;rw[this]
 have PV:∀{i t},r' i=some t->i<(Hs (j+1)).next->ij n Hs (rf D j) i=(Hs (j+1)).get i:=by
  intro i t hr hi
  refine jZ (by omega) λm hm ht=>JL λe=>?_
  have zD:ops[m]?=some ops[m]:=Array.getElem?_eq_getElem (by omega)
  rcases Nat.lt_or_ge i (Hs m).next with hlt | hge
  ·have hf:=Io aH hrun hm zD hlt ht
   rcases jM.other m _ oj (hn▸hm) e zD kY with h | ⟨_,_,JV,_⟩
   ·exact h
   ·rw[hf,hc]at JV;cases JV
  ·have h2:=YO aH hrun sd hm hge ht
   have Gv:m<j:=by
    rcases Nat.lt_or_ge m j with h | h
    ·exact h
    ·have:=dw aH hrun (show j+1<=m by omega) (by omega:m<=n);omega
   have hij:i<(Hs j).next:=Ep h2 (dw aH hrun (show m+1<=j from Gv) (by omega))
   exact⟨λ_=>Gv,λ_=>Kq aH hrun sd hn free inv hm hge h2 (ada hr hij)⟩
 have PX:∀{i},(Hs (j+1)).next<=i->¬Tc Hs i j:=by
  intro i hi ht
  have:=p.next
  refine ht ?_
  have g1:(Hs (j+1)).get i=none:=by
   cases hg:(Hs (j+1)).get i with
   | none=>rfl
   | some o=>have:=hwf' i o hg;omega
  have g2:(Hs j).get i=none:=by
   cases hg:(Hs j).get i with
   | none=>rfl
   | some o=>have:=hwf i o hg;omega
  rw[g1,g2]
 have aad:∀{i t o},r i=some t->(Hs (j+1)).next<=i->ij n Hs D i=some o->w'.heap[t.blk]?=w.heap[t.blk]?:=by
  intro i t o hr hi Vc
  refine p.keep _ (inv.bound i t hr) λi2 t2 o2 h1 h2 h3=>?_
  have hi2:=hwf i2 o2 h3
  rcases inv.inj i2 i t2 t o2 o h1 hr (by rw[Wh h1 hi2];exact h3) Vc h2 with e | e
  ·have:=p.next;omega
  ·exact e.1
 have arx:∀{i k ti tk oi ok},r' i=some ti->i<(Hs (j+1)).next->(Hs (j+1)).get i=some oi->r k=some tk->(Hs (j+1)).next<=k->ij n Hs D k=some ok->ti.blk=tk.blk->oi.ro=true/\ok.ro=true:=by
  intro i k ti tk oi ok h1 h2 h3 h4 h5 h6 e
  have hnx:=p.next
  cases hr:r i with
  | none=>
   rcases p.fresh i ti hr h1 with hf | ⟨q,tq,oq,hq1,JW,hq3,hq4⟩
   ·have:=inv.bound k tk h4;omega
   ·have hq5:=hwf q oq hq3
    rcases inv.inj q k tq tk oq ok hq1 h4 (by rw[Wh hq1 hq5];exact hq3) h6 (JW.trans e)with e2 | e2
    ·omega
    ·rw[e2.1]at hq4;cases hq4
  | some t'=>
   have:=p.le i t' hr
   rw[h1]at this
   cases this
   have hi:i<(Hs j).next:=by
    rcases p.Sg i _ hr with h | h
    ·exact h
    ·omega
   obtain⟨o',ho',hro⟩:=p.pq i oi hi h3
   rcases inv.inj i k _ tk o' ok hr h4 (by rw[Wh hr hi];exact ho') h6 e with e2 | e2
   ·omega
   ·exact⟨by rw[<-hro];exact e2.1,e2.2⟩
 refine⟨p.le,λi t o h1 h2=>?_,p.dom,λi t o h4 h5=>?_,λi k ti tk oi ok h4 h5 h6 h7 e=>?_,p.rel.bound,λb hb hk=>?_,qb inv.size p.size,inv.env.trans p.env,λi t h4 h5=>?_,λi hi ht=>?_,λi o hi ho=>p.pq i o hi ho⟩
 ·rcases Nat.lt_or_ge i (Hs (j+1)).next with hlt | hge
  ·rw[PV h1 hlt]at h2
   cases hr:r i with
   | none=>
    rcases p.fresh i t hr h1 with hf | ⟨q,tq,oq,hq1,JW,hq3,hq4⟩
    ·exact .inl hf
    ·exact .inr ⟨q,tq,oq,hq1,JW,by rw[Wh hq1 (hwf q oq hq3)];exact hq3⟩
   | some t'=>
    have:=p.le i t' hr
    rw[h1]at this
    cases this
    have hi:i<(Hs j).next:=by
     rcases p.Sg i _ hr with h | h
     ·exact h
     ·omega
    obtain⟨o',ho',hro⟩:=p.pq i o hi h2
    exact .inr ⟨i,_,o',hr,rfl,by rw[Wh hr hi];exact ho'⟩
  ·have hr:=Ke h1 hge
   rw[iK (PX hge)]at h2
   exact .inr ⟨i,t,o,hr,rfl,h2⟩
 ·rcases Nat.lt_or_ge i (Hs (j+1)).next with hlt | hge
  ·rw[PV h4 hlt]at h5
   exact p.rel.obj i t o h4 h5
  ·have hr:=Ke h4 hge
   rw[iK (PX hge)]at h5
   exact(inv.obj i t o hr h5).move p.le (aad hr hge h5)
 ·rcases Nat.lt_or_ge i (Hs (j+1)).next with hi | hi<;>rcases Nat.lt_or_ge k (Hs (j+1)).next with hk | hk
  ·rw[PV h4 hi]at h6
   rw[PV h5 hk]at h7
   exact p.rel.inj i k ti tk oi ok h4 h5 h6 h7 e
  ·rw[PV h4 hi]at h6
   rw[iK (PX hk)]at h7
   exact .inr (arx h4 hi h6 (Ke h5 hk) hk h7 e)
  ·rw[iK (PX hi)]at h6
   rw[PV h5 hk]at h7
   exact .inr (And.symm (arx h5 hk h7 (Ke h4 hi) hi h6 e.symm))
  ·rw[iK (PX hi)]at h6
   rw[iK (PX hk)]at h7
   exact inv.inj i k ti tk oi ok (Ke h4 hi) (Ke h5 hk) h6 h7 e
 ·rw[p.keep b (Ep hb inv.size) λi t o h1 h2 h3=>?_]
  ·exact inv.keep b hb hk
  ·cases hr0:r0 i with
   | none=>
    rcases inv.fresh i t hr0 h1 with hf | ⟨q,tq,oq,hq1,JW,hq3,hq4⟩
    ·omega
    ·have:=hk q tq oq hq1 (JW.trans h2) hq3
     rw[this]at hq4;cases hq4
   | some t0=>
    have:=inv.le i t0 hr0
    rw[h1]at this
    cases this
    have hi0:=aej aH hrun sd hn free hr0 (by omega:j<=n) h3
    obtain⟨o0,g1,g2⟩:=Mu aH hrun sd hn free inv hj kY jM hc hi0 j (cF j) o h3
    rw[<-g2]
    exact hk i _ o0 hr0 h2 g1
 ·cases hr:r i with
  | some t'=>
   have:=p.le i t' hr
   rw[h5]at this
   cases this
   exact inv.fresh i _ h4 hr
  | none=>
   rcases p.fresh i t hr h5 with hf | ⟨q,tq,oq,hq1,JW,hq3,hq4⟩
   ·exact .inl (qb inv.size hf)
   ·cases hq0:r0 q with
    | none=>
     rcases inv.fresh q tq hq0 hq1 with hf | ⟨q2,tq2,oq2,g1,g2,g3,g4⟩
     ·exact .inl (by omega)
     ·exact .inr ⟨q2,tq2,oq2,g1,g2.trans JW,g3,g4⟩
    | some tq0=>
     have:=inv.le q tq0 hq0
     rw[hq1]at this
     cases this
     have hi0:=aej aH hrun sd hn free hq0 (by omega:j<=n) hq3
     obtain⟨o0,g1,g2⟩:=Mu aH hrun sd hn free inv hj kY jM hc hi0 j (cF j) oq hq3
     exact .inr ⟨q,_,o0,hq0,JW,g1,by rw[g2];exact hq4⟩
 ·obtain⟨t,h⟩:=p.oD i hi ht
  exact⟨t,p.le i t h⟩
end
section
variable {E:Nat->Prop}{P:Program}{call:dK}{ops:Array Oper}{n:Nat}{F:Nat->List AV}{Hs:Nat->H}{V:Nat->AV}{r0:Ren}{w0:World}{ds:List Deferred}
variable (aH:call.Sound P)(hrun:LD E P call ops n F Hs V)(sd:(Hs 0).WF)(hn:n=ops.size)(free:∀i,(Hs 0).next<=i->i<(Hs n).next->r0 i=none)
include aH hrun sd hn free
theorem NU{D:Nat->Prop}{r:Ren}{a:Act}{w:World}(inv:Inv P ops n F Hs V r0 w0 ds D r a w){j:Nat}(hj:j<n){oj:Oper}(kY:ops[j]?=some oj)(jM:LF P ops D j)(wB:¬D j)(hE:¬E j)
  (Q:Exit->Act->World->Prop) (K:Act->World->Prop) (hK:∀r' a' w',Inv P ops n F Hs V r0 w0 ds (rf D j) r' a' w'->EF n Hs r0 w0 D j r r' w w'->w.heap.size<=w'.heap.size->(∀b,b<w.heap.size->(∀i t o,r i=some t->t.blk=b->ij n Hs D i=some o->o.ro=true)->w'.heap[b]?=w.heap[b]?)->K a' w'):wpOp P ops Q j K a w:=by
 obtain⟨o,ho,hst,_⟩:=hrun.step j hj
 rw[kY]at ho
 cases ho
 replace hst:=hst.resolve_right λh=>hE h.1
 rw[<-DX]at hst
 have hρ:=FC (Hs:=Hs) hrun hn inv hj kY jM wB
 unfold wpOp
 simp only[kY]
 unfold eu at hst
 obtain⟨b,hb,hst⟩:=Option.bind_eq_some_iff.1 hst
 rw[DR hb λt _=>hρ _]
 cases b with
 | false=>
  simp at hst
  simp only[Bool.false_eq_true,if_false]
  refine hK r _ w (rP hrun hn inv hj kY jM wB (ug inv hst.2.symm) ?_) (ug inv hst.2.symm) (cF _) λ_ _ _=>rfl
  rw[<-hst.1]
  exact vY (vs:=[]) .nil
 | true=>
  simp at hst
  simp only[if_true]
  refine .inl ?_
  cases hc:cls P oj.op with
  | full=>
   have an:=aeK aH hrun sd hn free inv hj kY jM wB hc
   have hfr:=Yh aH hrun sd hn free inv hj wB
   exact NF aH hρ an hfr hc hst Q K λv' w' ⟨r',hv,hp⟩=>hK r' _ w' (rP hrun hn inv hj kY jM wB (EL aH hrun sd hn free inv hj kY jM wB hc hp) hv) (EL aH hrun sd hn free inv hj kY jM wB hc hp) hp.size λb hb hk=>hp.keep b hb λi t o h1 h2 h3=>hk i t o h1 h2 (by
    rw[QT (S:=Gz) aH hrun sd hn free inv hj kY jM wB (.inl hc) h1 (ym aH hrun sd j (by omega) i o h3) (λh=>h)];exact h3)
  | pure=>
   unfold dB at hst
   rw[hc]at hst
   obtain⟨x,hx,hst⟩:=Option.map_eq_some_iff.1 hst
   obtain⟨rfl,hH⟩:=Prod.mk.inj hst
   exact Oh hρ hx w Q K λv' w' ⟨hv,e⟩=>by subst e;exact hK r _ _ (rP hrun hn inv hj kY jM wB (ug inv hH.symm) hv) (ug inv hH.symm) (cF _) λ_ _ _=>rfl
  | read=>
   have⟨h0,an,ads⟩:∃h0,Rel r h0 w/\dB P call (restrict ops oj (F j)) oj.op h0=some (V j,h0):=by
    have⟨S1,g1,g2⟩:∃S1:Nat->Prop,(∀m om,m<j->ops[m]?=some om->cls P om.op=.full->nh (masks ops) m j=true->∀i,i<(Hs m).next->(Hs (m+1)).get i≠(Hs m).get i->S1 i)/\eu P call ops oj (oW (F j)) ((Hs j).minus S1)=some (V j,(Hs j).minus S1):=by
     cases hsh:LZ P ops (masks ops) j with
     | false=>
      refine⟨Gz,λm om Gv zD hf hi=>?_,?_⟩
      ·have hi':((masks ops m).testBit j||(masks ops j).testBit m)=false:=by simpa[nh]using hi
       have:=anS (M:=masks ops) zD kY hf hc hi' Gv
       rw[hsh]at this;cases this
      ·obtain⟨o,ho,hs,_⟩:=hrun.step j hj
       rw[kY]at ho
       cases ho
       exact I4 hc (hs.resolve_right λh=>hE h.1) λb _ h=>h
     | true=>
      obtain⟨S,q1,q2⟩:=hrun.shy j hj hE hsh
      exact⟨S,λm om Gv zD hf hi=>q1 m Gv (yK zD kY hf hc (by simpa[nh]using hi)) hi,q2 oj kY⟩
    have g3:=I4 (S:=λi=>∃m om,j<m/\m<n/\ops[m]?=some om/\cls P om.op=.full/\nh (masks ops) m j=true/\(Hs (m+1)).get i≠(Hs m).get i) hc g2 (λb hb ⟨m,om,k1,k2,k3,k4,k5,k6⟩=>k6 (hrun.kept m k2 (yK k3 kY k4 hc (by simpa[nh]using k5)) j oj k1 kY hc k5 b hb))
    rw[Uf]at g3
    rw[<-DX]at g3
    unfold eu at g3
    rw[hb]at g3
    simp only[fD,if_true]at g3
    refine⟨_,Qk (S:=λi=>S1 i∨∃m om,j<m/\m<n/\ops[m]?=some om/\cls P om.op=.full/\nh (masks ops) m j=true/\(Hs (m+1)).get i≠(Hs m).get i) aH hrun sd hn free inv hj kY jM wB (.inr ⟨hc,λm om hm hne zD hf hi i hlt ht=>?_⟩),g3⟩
    rcases Nat.lt_or_ge m j with Gv | Gv
    ·exact .inl (g1 m om Gv zD hf hi i hlt ht)
    ·exact .inr ⟨m,om,by omega,hm,zD,hf,hi,ht⟩
   unfold dB at hst ads
   rw[hc]at hst ads
   obtain⟨_,_,hst⟩:=Option.map_eq_some_iff.1 hst
   obtain⟨_,hH⟩:=Prod.mk.inj hst
   obtain⟨x,hx,ads⟩:=Option.map_eq_some_iff.1 ads
   obtain⟨rfl,_⟩:=Prod.mk.inj ads
   exact Oj hρ an hx Q K λv' w' ⟨hv,e⟩=>by subst e;exact hK r _ _ (rP hrun hn inv hj kY jM wB (ug inv hH.symm) hv) (ug inv hH.symm) (cF _) λ_ _ _=>rfl
  | alloc=>
   unfold dB at hst
   rw[hc]at hst
   obtain⟨⟨ob,mk⟩,hx,hst⟩:=Option.map_eq_some_iff.1 hst
   obtain⟨hV,hH⟩:=Prod.mk.inj hst
   have hl:=KW hρ hx w
   exact hl Q K λv' w' ⟨row,h1,he,h2,h3,h4⟩=>by
    have hb:=Iy aH hrun sd free inv hj wB (row:=row) hH.symm h1 he h2 h3
    refine hK _ _ w' (rP hrun hn inv hj kY jM wB hb ?_) hb (by omega) λb hb _=>h2 b hb
    rw[<-hV]
    refine h4 _ _ (Ren.le_refl _) ?_
    simp[Ren.put]
theorem YD{D:Nat->Prop}{r:Ren}{a:Act}{w:World}(inv:Inv P ops n F Hs V r0 w0 ds D r a w)(hD:∀m,m<n->D m)(axH:(F 0).length=a.tmps.size):FR r (F n) a/\Post r0 (Hs 0) w0 r (Hs n) w:=by
 have vg:∀i,ij n Hs D i=(Hs n).get i:=λi=>jZ (cF n) λm hm _=>⟨λ_=>hm,λ_=>hD m hm⟩
 refine⟨⟨by rw[Ft hrun n (cF n)];simpa using axH,λt x v hx hv=>?_⟩,⟨inv.le,λi t h1 h2=>?_,⟨ym aH hrun sd n (cF n),λi t o h1 h2=>inv.obj i t o h1 (by rw[vg];exact h2),λi k ti tk oi ok h1 h2 h3 h4=>inv.inj i k ti tk oi ok h1 h2 (by rw[vg];exact h3) (by rw[vg];exact h4),inv.bound,inv.gl.mono inv.le⟩,inv.keep,inv.env,inv.size,dw aH hrun (uQ n) (cF n),inv.fresh,λi o hi ho=>?_,λi t h1=>?_,λi hi hne=>?_⟩⟩
 ·have hlt:t<(F 0).length:=by rw[<-Ft hrun n (cF n)];exact(sS hx).1
  have h1:=inv.slot t hlt
  rw[uI hrun hlt (cF n) (λm hm _=>⟨λ_=>hm,λ_=>hD m hm⟩),List.getD_eq_getElem?_getD,hx]at h1
  simp only[Act.eval,Array.getD_eq_getD_getElem?]at h1
  rw[<-Array.getElem?_toList,hv]at h1
  exact h1
 ·obtain⟨k,hk,_,h3,h4⟩:=inv.dom i t h1 h2
  have:=dw aH hrun (uQ k) (by omega:k<=n)
  have:=dw aH hrun (show k+1<=n from hk) (cF n)
  exact⟨by omega,by omega⟩
 ·have:∀k,k<=n->∀o,(Hs k).get i=some o->∃o0,(Hs 0).get i=some o0/\o0.ro=o.ro:=by
   intro k
   induction k with
   | zero=>intro _ o h;exact⟨o,h,rfl⟩
   | succ k ih=>
    intro hk o h
    obtain⟨o',h1,h2⟩:=inv.ro k hk (hD k hk) i o (Ep hi (dw aH hrun (uQ k) (by omega))) h
    obtain⟨o0,h3,h4⟩:=ih (by omega) o' h1
    exact⟨o0,h3,h4.trans h2⟩
  exact this n (cF n) o ho
 ·rcases Nat.lt_or_ge i (Hs 0).next with h | h
  ·exact .inl h
  ·rcases Nat.lt_or_ge i (Hs n).next with h' | h'
   ·rw[free i h h']at h1;cases h1
   ·exact .inr h'
 ·have:∃m,m<n/\Tc Hs i m:=by
   refine Classical.byContradiction λhno=>hne ?_
   have:∀k,k<=n->(Hs k).get i=(Hs 0).get i:=by
    intro k
    induction k with
    | zero=>intro _;rfl
    | succ k ih=>
     intro hk
     rw[<-ih (by omega)]
     exact Classical.byContradiction λh=>hno ⟨k,hk,h⟩
   exact this n (cF n)
  obtain⟨m,hm,ht⟩:=this
  obtain⟨t,hr⟩:=inv.oD m hm (hD m hm) i (Ep hi (dw aH hrun (uQ m) (by omega))) ht
  cases hr0:r0 i with
  | some t0=>exact⟨t0,rfl⟩
  | none=>
   obtain⟨k,hk,_,h3,h4⟩:=inv.dom i t hr hr0
   have:=dw aH hrun (uQ k) (by omega:k<=n)
   omega
end
theorem filter_lt{α:Type}{p p':α->Bool}{x:α}:∀{l:List α},(∀y,p' y=true->p y=true)->x∈l->p x=true->p' x=false->(l.filter p').length<(l.filter p).length
 | [],_,hx,_,_=>by cases hx
 | y::l,h,hx,h1,h2=>by
  have hle:∀l:List α,(l.filter p').length<=(l.filter p).length:=by
   intro l
   induction l with
   | nil=>simp
   | cons z l ih=>
    simp only[List.filter_cons]
    by_cases hz:p' z=true
    ·rw[if_pos hz,if_pos (h z hz)];simp;exact ih
    ·rw[if_neg hz]
     split
     ·simp;omega
     ·exact ih
  simp only[List.filter_cons]
  rcases List.mem_cons.1 hx with rfl | hm
  ·rw[if_pos h1,if_neg (by simp[h2])]
   have:=hle l
   simp;omega
  ·have ih:=filter_lt (l:=l) h hm h1 h2
   by_cases hz:p' y=true
   ·rw[if_pos hz,if_pos (h y hz)];simp;exact ih
   ·rw[if_neg hz]
    split
    ·simp;omega
    ·exact ih
theorem Ih{E:Nat->Prop}{P:Program}{call:dK}(aH:call.Sound P){ops:Array Oper}{F:Nat->List AV}{Hs:Nat->H}{V:Nat->AV}{r0:Ren}{w0:World}{ds:List Deferred}
  (hok:nW P ops=true) (hrun:LD E P call ops ops.size F Hs V) (sd:(Hs 0).WF) (free:∀i,(Hs 0).next<=i->i<(Hs ops.size).next->r0 i=none) {Q:Exit->Act->World->Prop}
  (hQ:∀r a w,FR r (F ops.size) a->a.defers=ds->Post r0 (Hs 0) w0 r (Hs ops.size) w->Q .normal a w):
  ∀(fuel:Nat) (listed:Array Bool) (r:Ren) (a:Act) (w:World),listed.size=ops.size->(∀m,m<ops.size->E m->listed.getD m false=true)->(∀m o,ops[m]?=some o->listed.getD m false=true->∀e∈o.after,Region.binds .any e=true->listed.getD e.on false=true)->
   ((List.range ops.size).filter λi=>!listed.getD i true).length<=fuel->(∀D:Nat->Prop,(∀m,D m↔listed.getD m false=true)->Inv P ops ops.size F Hs V r0 w0 ds D r a w)->wpAny P .any ops Q fuel listed a w:=by
 simp only[nW,Bool.and_eq_true]at hok
 obtain⟨⟨hM,hH⟩,hP⟩:=hok
 have done:∀(listed:Array Bool) (r:Ren) (a:Act) (w:World),listed.size=ops.size->(∀i,i<ops.size->listed.getD i true=true)->
   (∀D:Nat->Prop,(∀m,D m↔listed.getD m false=true)->Inv P ops ops.size F Hs V r0 w0 ds D r a w)->Q .normal a w:=by
  intro listed r a w hsz hall hinv
  have inv:=hinv (λm=>listed.getD m false=true) λm=>Iff.rfl
  have hD:∀m,m<ops.size->listed.getD m false=true:=λm hm=>by
   have:=hall m hm
   simp[hsz,hm]at this ⊢;exact this
  obtain⟨h1,h2⟩:=YD aH hrun sd rfl free inv hD inv.sz.symm
  exact hQ r a w h1 inv.defers h2
 have minimal:∀(listed:Array Bool),listed.size=ops.size->Region.ready .any ops listed=[]->∀i,i<ops.size->listed.getD i true=true:=by
  intro listed hsz hr i
  induction i using Nat.strongRecOn with
  | _ i ih=>
   intro hi
   cases hl:listed.getD i true with
   | true=>rfl
   | false=>
    have ho:ops[i]?=some ops[i]:=Array.getElem?_eq_getElem hi
    have:i∈Region.ready .any ops listed:=mem_ready.2 ⟨hl,_,ho,λe he hb=>by
     have h1:=(vA hM ho).1 e he hb
     have h2:=ih e.on h1 (by omega)
     have h3:e.on<listed.size:=by omega
     simp[h3]at h2 ⊢;exact h2⟩
    rw[hr]at this;cases this
 intro fuel
 induction fuel with
 | zero=>
  intro listed r a w hsz hEl JV hfu hinv
  have hall:∀i,i<ops.size->listed.getD i true=true:=by
   intro i hi
   cases hl:listed.getD i true with
   | true=>rfl
   | false=>
    have hm:i∈(List.range ops.size).filter λi=>!listed.getD i true:=List.mem_filter.2 ⟨List.mem_range.2 hi,by rw[hl];rfl⟩
    have:(List.range ops.size).filter (λi=>!listed.getD i true)=[]:=List.eq_nil_of_length_eq_zero (by omega)
    rw[this]at hm;cases hm
  refine⟨?_,done listed r a w hsz hall hinv⟩
  cases hr:Region.ready .any ops listed with
  | nil=>rfl
  | cons x xs=>
   have hx:x∈Region.ready .any ops listed:=by rw[hr];simp
   obtain⟨h1,o,h2,_⟩:=mem_ready.1 hx
   rw[hall x (Array.getElem?_eq_some_iff.1 h2).1]at h1;cases h1
 | succ fuel ih=>
  intro listed r a w hsz hEl JV hfu hinv
  refine⟨λhr=>done listed r a w hsz (minimal listed hsz hr) hinv,λj hj=>?_⟩
  obtain⟨hjl,oj,kY,vh⟩:=mem_ready.1 hj
  have hjs:=(Array.getElem?_eq_some_iff.1 kY).1
  have inv:=hinv (λm=>listed.getD m false=true) λm=>Iff.rfl
  have wB:¬(listed.getD j false=true):=λh=>by
   have h3:j<listed.size:=by omega
   simp[h3]at h hjl;rw[h]at hjl;cases hjl
  have jM:=MA (P:=P) hM hH hP (D:=λm=>listed.getD m false=true) JV kY wB vh
  refine NU aH hrun sd rfl free inv hjs kY jM wB (λh=>wB (hEl j hjs h)) Q _ λr' a' w' inv' _ _ _=>ih _ r' a' w' (by simp[hsz]) (λm hm h=>getD_set_true (hEl m hm h)) ?_ ?_ ?_
  ·intro m o ho hm e he hb
   by_cases Gv:j=m
   ·subst Gv
    rw[kY]at ho
    cases ho
    exact getD_set_true (vh e he hb)
   ·rw[getD_set_ne false Gv]at hm
    exact getD_set_true (JV m o ho hm e he hb)
  ·have:=filter_lt (l:=List.range ops.size) (p:=λi=>!listed.getD i true) (p':=λi=>!(listed.setIfInBounds j true).getD i true) (x:=j) (λy hy=>by
     by_cases hyj:j=y
     ·subst hyj;rw[hjl];rfl
     ·rw[getD_set_ne true hyj]at hy;exact hy) (List.mem_range.2 hjs) (by rw[hjl];rfl) (by
     have h3:j<listed.size:=by omega
     simp[h3])
   omega
  ·intro D hD
   have hDe:D=rf (λm=>listed.getD m false=true) j:=by
    funext m
    refine propext ((hD m).trans ?_)
    unfold rf
    by_cases Gv:j=m
    ·subst Gv
     have h3:j<listed.size:=by omega
     simp[h3]
    ·rw[getD_set_ne false Gv]
     exact⟨.inl,λh=>h.resolve_right λe=>Gv e.symm⟩
   rw[hDe];exact inv'
inductive Sl where
 | normal
 | exit (id:Nat)
 | ret
 deriving DecidableEq
def Sl.to:Sl->Exit
 | .normal=>.normal
 | .exit id=>.exit id
 | .ret=>.ret
abbrev Cv:=List AV×H
noncomputable def Fi(P:Program)(call:dK)(ops:Array Oper)(draw:Bool)(s:Cv):Option Cv:=
 if draw then oN P call ops ops.toList 0 s.1 s.2 Gz []else Hl P call ops ops.toList s.1 s.2
theorem iS{P:Program}{call:dK}(aH:call.Sound P){ops:Array Oper}:∀{l:List Oper} {k:Nat} {fr fr':List AV} {h h':H} {S:Nat->Prop} {Js:List (Nat×AV)},oN P call ops l k fr h S Js=some (fr',h')->h.next<=h'.next/\(h.WF->h'.WF)
 | [],k,fr,fr',h,h',S,Js,hs=>by simp only[oN]at hs;cases hs;exact⟨cF _,id⟩
 | o::rest,k,fr,fr',h,h',S,Js,hs=>by
  simp only[oN]at hs
  split at hs
  ·obtain⟨⟨v,h1⟩,h2,hs⟩:=Option.bind_eq_some_iff.1 hs
   exact iS aH hs
  ·obtain⟨⟨v,h1⟩,h2,hs⟩:=Option.bind_eq_some_iff.1 hs
   have g1:=ve aH h2
   simp only at hs
   split at hs
   ·split at hs
    ·exact⟨qb g1.1 (iS aH hs).1,λhw=>(iS aH hs).2 (g1.2 hw)⟩
    ·cases hs
   ·exact⟨qb g1.1 (iS aH hs).1,λhw=>(iS aH hs).2 (g1.2 hw)⟩
theorem Nz{P:Program}{call:dK}(aH:call.Sound P){ops:Array Oper}{draw:Bool}{s s':Cv}(h:Fi P call ops draw s=some s'):s.2.next<=s'.2.next/\(s.2.WF->s'.2.WF):=by
 unfold Fi at h
 split at h
 ·exact iS aH h
 ·exact Ff aH h
def Ends(P:Program)(c:Code)(r:Ren)(s:Cv)(a:Act)(w:World)(e:Sl)(s':Cv):Prop:=
 ∀Q:Exit->Act->World->Prop,(∀r' a' w',FR r' s'.1 a'->a'.defers=a.defers->Post r s.2 w r' s'.2 w'->Q e.to a' w')->c.wp P Q a w
theorem s8(m j:Nat):(Array.replicate m false).getD j false=false:=by
 rcases Nat.lt_or_ge j m with h | h
 ·simp[h]
 ·simp[h]
theorem Uw{P:Program}(hm:P.follows .mixedOrders=true){call:dK}(aH:call.Sound P){id:Nat}{ops:Array Oper}{draw:Bool}(hok:(!draw||nW P ops)=true){s s':Cv}(h:Fi P call ops draw s=some s')
  {r:Ren} {a:Act} {w:World} (hfr:FR r s.1 a) (an:Rel r s.2 w) (hfree:∀i,s.2.next<=i->i<s'.2.next->r i=none):Ends P (.region id ops draw) r s a w .normal s':=by
 intro Q hQ
 unfold Fi at h
 cases draw with
 | false=>
  simp only[Bool.false_eq_true,if_false]at h
  exact wp_region_list (TI aH h hfr an hfree λr' a' w' h1 h2 h3=>hQ r' a' w' h1 h2 h3)
 | true=>
  simp only[if_true]at h
  simp only[Bool.not_true,Bool.false_or]at hok
  obtain⟨F,Hs,V,e1,e2,e3,e4,e5,e6,e7⟩:=qc h (λj _=>by simp)
  have hsz:ops.toList.length=ops.size:=by simp
  rw[hsz]at e3 e4 e5 e6 e7
  have hrun:LD (λ_=>False) P call ops ops.size F Hs V:=⟨λk hk=>by
   obtain⟨o,g1,g2,g3⟩:=e5 k hk
   exact⟨o,by simpa using g1,.inl g2,g3⟩,λk hk hq j oj hj kY hc hi b hb=>(e6 k hk (by simpa using hq)).2 j oj hj (by simpa using kY) hc (by simpa using hi) b hb,λk hk _ hs=>by
   obtain⟨S,_,g1,g2⟩:=e7 k hk (by simpa using hs)
   exact⟨S,λm hm hq _=>g1 m hm (by simpa using hq),λo ho=>g2 o (by simpa using ho)⟩⟩
  have hw:Post r s.2 w r s.2 w.drew:=Post.same an rfl ⟨rfl,rfl,rfl,λ_=>dW _⟩
  refine wp_region_any hm ?_
  have hlen:(F 0).length=a.tmps.size:=by rw[e1];simpa using hfr.1
  refine Ih aH hok hrun (r0:=r) (w0:=w.drew) (ds:=a.defers) (by rw[e2];exact an.wf) (by rw[e2,e4];exact hfree) (λr' a' w' h1 h2 h3=>?_) ops.size _ r a w.drew (by simp) (λ_ _ h=>h.elim) ?_ ?_ ?_
  ·rw[e2,e4]at h3
   rw[e3]at h1
   exact hQ r' a' w' h1 h2 (hw.trans h3)
  ·intro m o ho hm' e he hb
   rw[s8]at hm';cases hm'
  ·have:=List.length_filter_le (λi=>!(Array.replicate ops.size false).getD i true) (List.range ops.size)
   simpa using this
  ·intro D hD
   have hno:∀m,¬D m:=λm h=>by have:=(hD m).1 h;rw[s8]at this;cases this
   have vg:∀i,ij ops.size Hs D i=(Hs 0).get i:=λi=>jZ (uQ _) λm _ _=>⟨λh=>absurd h (hno m),λh=>by omega⟩
   refine⟨Ren.le_refl _,(λi t h1 h2=>by rw[h1]at h2;cases h2),hlen.symm,λt ht=>?_,λi t o h1 h2=>?_,λi k ti tk oi ok h1 h2 h3 h4=>?_,hw.rel.bound,λ_ _ _=>rfl,cF _,.refl _,(λi t h1 h2=>by rw[h1]at h2;cases h2),λm _ h=>absurd h (hno m),λm _ h=>absurd h (hno m),rfl,an.rH⟩
   ·rw[uI hrun ht (uQ _) λm _ _=>⟨λh=>absurd h (hno m),λh=>by omega⟩,e1]
    exact Dw hfr an.rH (.tmp t)
   ·rw[vg,e2]at h2
    exact hw.rel.obj i t o h1 h2
   ·rw[vg,e2]at h3 h4
    exact hw.rel.inj i k ti tk oi ok h1 h2 h3 h4
def aqL(P:Program)(s:Cv):ResultVar->Option AV
 | .tmp t=>some (s.1.getD t .fJ)
 | .cell a t=>Db P t (s.1.getD a .fJ) s.2
def oneOf(vs:List AV):AV:=match vs with | [v]=>v | vs=>.dJ vs
def Om(tmps:Array Value)(x:ResultVar):Sem Value:=
 match x with
 | .tmp t=>pure (tmps.getD t undef)
 | .cell a t=>do loadVar t (<-asAddr (tmps.getD a undef))
theorem Sw{r:Ren}{vs:List AV}{vs':List Value}(h:kg r vs vs'):VR r (oneOf vs) (if h:vs'.toArray.size=1 then vs'.toArray[0]else .tuple vs'.toArray):=by
 match vs,vs',h with
 | [],[],h=>exact vY h
 | [v],[v'],h=>exact h.2 0 v v' rfl rfl
 | v::u::vs,v'::u'::vs',h=>
  simp only[oneOf]
  rw[dif_neg (by simp)]
  exact vY h
 | [],_::_,h=>have:=h.1;simp at this
 | _::_,[],h=>have:=h.1;simp at this
 | [_],_::_::_,h=>have:=h.1;simp at this
 | _::_::_,[_],h=>have:=h.1;simp at this
abbrev KF:=List (Nat×AV)
def look:KF->Nat->AV
 | [],_=>.fJ
 | (d,v)::A,t=>match Nat.beq d t with | true=>v | false=>look A t
def fj(N:Nat)(A:KF):Operand->AV
 | .tmp t=>match Nat.blt t N with | true=>look A t | false=>.fJ
 | .const v=>ofValue v
 | .global g=>glV g
 | .func f=>.func f [] []
def xW(N:Nat)(A:KF)(d:Option Tmp)(v:AV):KF:=
 match d with
 | none=>A
 | some d=>match Nat.blt d N with | true=>(d,v)::A | false=>A
structure CK where
 run:∀{β:Type},FuncId->List AV->H->(AV->H->Option β)->Option β
 nat:∀{β:Type} (f:FuncId) (args:List AV) (h:H) (k:AV->H->Option β),run f args h k=(run f args h λv h'=>some (v,h')).bind λq=>k q.1 q.2
def CK.call(c:CK):dK:=λf args h=>c.run f args h λv h'=>some (v,h')
section
variable {β:Type}
def aC(p:Option (Nat×Nat))(f:Nat->Nat->Option β):Option β:=match p with | some (b,o)=>f b o | none=>none
def aeh(o:Nat)(n:Int)(s:Nat):Nat:=match Nat.beq s 1 with | true=>o+n.toNat | false=>o+n.toNat*s
def asInt(k:IntKind)(v:AV)(f:Int->Option β):Option β:=match v with | .int k' n=>if k'=k then f n else none | _=>none
def asBool(v:AV)(f:Bool->Option β):Option β:=match v with | .bool b=>f b | _=>none
def aZ(v:AV)(f:ByteArray->Option β):Option β:=match v with | .str s=>f s | _=>none
def cZ(v:AV)(f:Option (Nat×Nat)->Option β):Option β:=match v with | .ptr p=>f p | _=>none
def asSlice(v:AV)(f:Option (Nat×Nat)->Nat->aM->Option β):Option β:=match v with | .slice p l c=>f p l c | _=>none
def zf(v:AV)(f:Option Nat->Option β):Option β:=match v with | .map m=>f m | _=>none
def asAgg(v:AV)(f:List AV->Option β):Option β:=match v with | .agg l=>f l | _=>none
def l0(l:List AV)(f:Option β):Option β:=match l with | []=>f | _=>none
def lc(l:List AV)(f:AV->List AV->Option β):Option β:=match l with | v::vs=>f v vs | _=>none
theorem Dn{l:List AV}{f:Option β}{x:β}(h:l0 l f=some x):l=[]/\f=some x:=by
 unfold l0 at h;split at h
 ·exact⟨rfl,h⟩
 ·cases h
theorem vm{l:List AV}{f:AV->List AV->Option β}{x:β}(h:lc l f=some x):∃v vs,l=v::vs/\f v vs=some x:=by
 unfold lc at h;split at h
 ·exact⟨_,_,rfl,h⟩
 ·cases h
inductive Shape where
 | int (k:IntKind)
 | bool
 | str
 | ptr
 | slice
 | map
 | any
 | row
 | cells (l:List Shape)
mutual
def gH:Shape->AV->(AV->Option β)->Option β
 | .int k,v,f=>asInt k v λn=>f (.int k n)
 | .bool,v,f=>asBool v λb=>f (.bool b)
 | .str,v,f=>aZ v λs=>f (.str s)
 | .ptr,v,f=>cZ v λp=>f (.ptr p)
 | .slice,v,f=>asSlice v λp l c=>f (.slice p l c)
 | .map,v,f=>zf v λm=>f (.map m)
 | .any,v,f=>f v
 | .row,v,f=>asAgg v λl=>f (.agg l)
 | .cells l,v,f=>asAgg v λvs=>wR l vs λus=>f (.agg us)
def wR:List Shape->List AV->(List AV->Option β)->Option β
 | [],vs,f=>l0 vs (f [])
 | s::ss,vs,f=>lc vs λv vs=>gH s v λu=>wR ss vs λus=>f (u::us)
end
theorem CD{k:IntKind}{v:AV}{f:Int->Option β}{x:β}(h:asInt k v f=some x):∃n,v=.int k n/\f n=some x:=by
 unfold asInt at h;split at h
 ·split at h
  ·rename_i e;subst e;exact⟨_,rfl,h⟩
  ·cases h
 ·cases h
theorem rA{v:AV}{f:Bool->Option β}{x:β}(h:asBool v f=some x):∃b,v=.bool b/\f b=some x:=by
 unfold asBool at h;split at h
 ·exact⟨_,rfl,h⟩
 ·cases h
theorem tS{v:AV}{f:ByteArray->Option β}{x:β}(h:aZ v f=some x):∃b,v=.str b/\f b=some x:=by
 unfold aZ at h;split at h
 ·exact⟨_,rfl,h⟩
 ·cases h
theorem gL{v:AV}{f:Option (Nat×Nat)->Option β}{x:β}(h:cZ v f=some x):∃b,v=.ptr b/\f b=some x:=by
 unfold cZ at h;split at h
 ·exact⟨_,rfl,h⟩
 ·cases h
theorem si{v:AV}{f:Option (Nat×Nat)->Nat->aM->Option β}{x:β}(h:asSlice v f=some x):∃p l c,v=.slice p l c/\f p l c=some x:=by
 unfold asSlice at h;split at h
 ·exact⟨_,_,_,rfl,h⟩
 ·cases h
theorem rB{v:AV}{f:Option Nat->Option β}{x:β}(h:zf v f=some x):∃b,v=.map b/\f b=some x:=by
 unfold zf at h;split at h
 ·exact⟨_,rfl,h⟩
 ·cases h
theorem CC{v:AV}{f:List AV->Option β}{x:β}(h:asAgg v f=some x):∃b,v=.agg b/\f b=some x:=by
 unfold asAgg at h;split at h
 ·exact⟨_,rfl,h⟩
 ·cases h
mutual
theorem mu:∀(s:Shape) {v:AV} {f:AV->Option β} {x:β},gH s v f=some x->f v=some x
 | .int k,v,f,x,h=>by simp only[gH]at h;obtain⟨n,rfl,h2⟩:=CD h;exact h2
 | .bool,v,f,x,h=>by simp only[gH]at h;obtain⟨n,rfl,h2⟩:=rA h;exact h2
 | .str,v,f,x,h=>by simp only[gH]at h;obtain⟨n,rfl,h2⟩:=tS h;exact h2
 | .ptr,v,f,x,h=>by simp only[gH]at h;obtain⟨n,rfl,h2⟩:=gL h;exact h2
 | .slice,v,f,x,h=>by simp only[gH]at h;obtain⟨_,_,_,rfl,h2⟩:=si h;exact h2
 | .map,v,f,x,h=>by simp only[gH]at h;obtain⟨n,rfl,h2⟩:=rB h;exact h2
 | .any,v,f,x,h=>by simpa only[gH]using h
 | .row,v,f,x,h=>by simp only[gH]at h;obtain⟨n,rfl,h2⟩:=CC h;exact h2
 | .cells l,v,f,x,h=>by simp only[gH]at h;obtain⟨n,rfl,h2⟩:=CC h;exact DM l h2
theorem DM:∀(ss:List Shape) {vs:List AV} {f:List AV->Option β} {x:β},wR ss vs f=some x->f vs=some x
 | [],vs,f,x,h=>by
  simp only[wR]at h
  obtain⟨rfl,h⟩:=Dn h
  exact h
 | s::ss,vs,f,x,h=>by
  simp only[wR]at h
  obtain⟨v,vs',rfl,h⟩:=vm h
  have h2:=mu s h;exact DM ss (f:=λus=>f (_::us)) h2
end
def Ge(P:Program)(t:TypeId):Shape:=
 match P.underlying t with
 | some (.int k)=>.int k
 | some .bool=>.bool
 | some .string=>.str
 | some (.pointer _)=>.ptr
 | some (.slice _)=>.slice
 | some (.map _ _)=>.map
 | _=>.any
def PN(P:Program):Nat->TypeId->Option (List Shape)
 | 0,_=>none
 | d+1,t=>
  match P.underlying t with
  | some (.struct fs)=>fs.toList.foldr (λf acc=>match PN P d f.type,acc with | some a,some b=>some (a++b) | _,_=>none) (some [])
  | some (.array _ _)=>none
  | _=>some [Ge P t]
def xz(P:Program)(t:TypeId):Shape:=
 match P.underlying t with
 | some (.struct _)=>(match PN P 5 t with | some l=>(match Nat.ble l.length 24 with | true=>.cells l | false=>.row) | none=>.row)
 | some (.array _ _)=>.row
 | _=>Ge P t
def af(h:H)(i o:Nat)(f:AV->Option β):Option β:=match h.get i with | some (.cells cs _)=>(match cs[o]? with | some v=>f v | none=>none) | _=>none
def aI(h:H)(i o n:Nat)(f:List AV->Option β):Option β:=match h.get i with | some (.cells cs _)=>if o+n<=cs.length then f ((cs.drop o).take n)else none | _=>none
def bK(h:H)(i o n:Nat)(xs:List AV)(f:H->Option β):Option β:=
 match h.get i with
 | some (.cells cs false)=>if xs.length=n/\o+xs.length<=cs.length/\xs.all cT=true then f (h.set i (.cells (My cs o xs) false))else none
 | _=>none
def YN(P:Program)(t:TypeId)(p:AV)(h:H)(k:AV->Option β):Option β:=
 match P.underlying t with
 | none=>none
 | some d=>cZ p λp=>aC p λi o=>
  match Vo d with
  | false=>af h i o λv=>gH (Ge P t) v k
  | true=>match P.info? t with | none=>none | some inf=>aI h i o inf.size λl=>gH (xz P t) (.agg l) k
theorem Dr{P:Program}{t:TypeId}{p:AV}{h:H}{k:AV->Option β}{x:β}(e:YN P t p h k=some x):∃v,Db P t p h=some v/\k v=some x:=by
 unfold YN at e
 (try dsimp only at e);split at e
 ·cases e
 ·rename_i d hu
  obtain⟨p,hx,e'⟩:=gL e
  clear e;subst hx;have e:=e';clear e'
  unfold aC at e
  (try dsimp only at e);split at e
  ·rename_i i o
   (try dsimp only at e);split at e
   ·rename_i ha
    unfold af at e
    (try dsimp only at e);split at e
    ·rename_i cs ro hg
     (try dsimp only at e);split at e
     ·rename_i v hv
      exact⟨v,by simp[Db,hu,hg,ha,hv],mu _ e⟩
     ·cases e
    ·cases e
   ·rename_i ha
    (try dsimp only at e);split at e
    ·cases e
    ·rename_i inf hi
     unfold aI at e
     (try dsimp only at e);split at e
     ·rename_i cs ro hg
      (try dsimp only at e);split at e
      ·rename_i hb
       refine⟨_,?_,mu _ e⟩
       have:P.cellsOf t=inf.size:=by simp[Program.cellsOf,hi]
       simp[Db,hu,hg,ha,hi,this,hb]
      ·cases e
     ·cases e
  ·cases e
def Xu(P:Program)(t:TypeId)(p x:AV)(h:H)(k:H->Option β):Option β:=
 match P.info? t,HB x with
 | some inf,some xs=>cZ p λp=>aC p λi o=>bK h i o inf.size xs k
 | _,_=>none
theorem UN{P:Program}{t:TypeId}{p y:AV}{h:H}{k:H->Option β}{x:β}(e:Xu P t p y h k=some x):∃h',Gm P t p y h=some h'/\k h'=some x:=by
 unfold Xu at e
 (try dsimp only at e);split at e
 ·rename_i inf xs hi hxs
  obtain⟨p,hx,e'⟩:=gL e
  clear e;subst hx;have e:=e';clear e'
  unfold aC at e
  (try dsimp only at e);split at e
  ·rename_i i o
   unfold bK at e
   (try dsimp only at e);split at e
   ·rename_i cs hg
    (try dsimp only at e);split at e
    ·rename_i hb
     refine⟨_,?_,e⟩
     have:P.cellsOf t=inf.size:=by simp[Program.cellsOf,hi]
     simp only[Gm,hxs,hg]
     rw[if_pos ⟨by rw[hi];rfl,by rw[this];exact hb.1,hb.2⟩]
    ·cases e
   ·cases e
  ·cases e
 ·cases e
def HS(P:Program)(t:TypeId)(x i:AV)(k:AV->Option β):Option β:=
  match P.underlying t with
  | some (.array len e)=>
    (match P.info? e with
     | none=>none
     | some inf=>cZ x λp=>aC p λb o=>match i with | .int _ n=>if 0<=n/\n<len then k (.ptr (some (b,aeh o n inf.size)))else none | _=>none)
  | some (.slice e)=>
    (match P.info? e with
     | none=>none
     | some inf=>asSlice x λp len _=>match i with | .int _ n=>if 0<=n/\n<len then aC p λb o=>k (.ptr (some (b,aeh o n inf.size)))else none | _=>none)
  | _=>none
theorem RO(o:Nat)(n:Int)(s:Nat):aeh o n s=o+n.toNat*s:=by
 unfold aeh
 split
 ·rename_i h;have:=Nat.eq_of_beq_eq_true h;subst this;simp
 ·rfl
theorem LU{P:Program}{t:TypeId}{y i:AV}{k:AV->Option β}{x:β}(e:HS P t y i k=some x):∃v,um P t y i=some v/\k v=some x:=by
 unfold HS at e
 (try dsimp only at e);split at e
 ·rename_i len el hu
  (try dsimp only at e);split at e
  ·cases e
  ·rename_i inf hi
   have hc:P.cellsOf el=inf.size:=by simp[Program.cellsOf,hi]
   obtain⟨p,hx,e'⟩:=gL e
   clear e;subst hx;have e:=e';clear e'
   unfold aC at e
   (try dsimp only at e);split at e
   ·(try dsimp only at e);split at e
    ·(try dsimp only at e);split at e
     ·rename_i hb
      refine⟨_,?_,e⟩
      simp only[um,hu,hi,hc,RO]
      rw[if_pos ⟨hb.1,hb.2,rfl⟩]
     ·cases e
    ·cases e
   ·cases e
 ·rename_i el hu
  (try dsimp only at e);split at e
  ·cases e
  ·rename_i inf hi
   have hc:P.cellsOf el=inf.size:=by simp[Program.cellsOf,hi]
   obtain⟨p,len,c,hx,e'⟩:=si e
   clear e;subst hx;have e:=e';clear e'
   (try dsimp only at e);split at e
   ·(try dsimp only at e);split at e
    ·rename_i hb
     unfold aC at e
     (try dsimp only at e);split at e
     ·refine⟨_,?_,e⟩
      simp only[um,hu,hi,hc,RO]
      rw[if_pos ⟨hb.1,hb.2,rfl⟩]
     ·cases e
    ·cases e
   ·cases e
 ·cases e
def atK(l:List AV)(o:Nat)(f:AV->Option β):Option β:=match l[o]? with | some v=>f v | none=>none
def iB(s:ByteArray)(n:Int)(f:Int->Option β):Option β:=if 0<=n then(match s[n.toNat]? with | some b=>f b.toNat | none=>none)else none
def YU(P:Program)(t:TypeId)(cs:List AV)(off:Nat)(k:AV->Option β):Option β:=
 match P.underlying t with
 | none=>none
 | some d=>
  match Vo d with
  | true=>(match P.info? t with | none=>none | some inf=>gH (xz P t) (.agg ((cs.drop off).take inf.size)) k)
  | false=>atK cs off λv=>gH (Ge P t) v k
theorem Od{P:Program}{t:TypeId}{cs:List AV}{off:Nat}{k:AV->Option β}{x:β}(e:YU P t cs off k=some x):∃v,tW P t cs off=some v/\k v=some x:=by
 unfold YU at e
 (try dsimp only at e);split at e
 ·cases e
 ·rename_i d hu
  (try dsimp only at e);split at e
  ·rename_i ha
   (try dsimp only at e);split at e
   ·cases e
   ·rename_i inf hi
    have hc:P.cellsOf t=inf.size:=by simp[Program.cellsOf,hi]
    exact⟨_,by simp[tW,hu,ha,hi,hc],mu _ e⟩
  ·rename_i ha
   unfold atK at e
   (try dsimp only at e);split at e
   ·rename_i v hv
    exact⟨v,by simp[tW,hu,ha,hv],mu _ e⟩
   ·cases e
def Wm(P:Program)(t:TypeId)(x i:AV)(k:AV->Option β):Option β:=
  match P.underlying t with
  | some (.array len e)=>
    (match P.info? e with
     | none=>none
     | some inf=>asAgg x λcs=>match i with | .int _ n=>if 0<=n/\n<len then YU P e cs (aeh 0 n inf.size) k else none | _=>none)
  | some .string=>aZ x λs=>match i with | .int _ n=>iB s n λc=>k (.int .u8 c) | _=>none
  | _=>none
theorem T3{P:Program}{t:TypeId}{y i:AV}{k:AV->Option β}{x:β}(e:Wm P t y i k=some x):∃v,Gk P t y i=some v/\k v=some x:=by
 unfold Wm at e
 (try dsimp only at e);split at e
 ·rename_i len el hu
  (try dsimp only at e);split at e
  ·cases e
  ·rename_i inf hi
   have hc:P.cellsOf el=inf.size:=by simp[Program.cellsOf,hi]
   obtain⟨cs,hx,e'⟩:=CC e
   clear e;subst hx;have e:=e';clear e'
   (try dsimp only at e);split at e
   ·(try dsimp only at e);split at e
    ·rename_i hb
     obtain⟨v,hv,hk⟩:=Od e
     refine⟨v,?_,hk⟩
     rw[RO,Nat.zero_add]at hv
     simp only[Gk,hu,hi,hc]
     rw[if_pos hb];simpa using hv
    ·cases e
   ·cases e
 ·rename_i hu
  obtain⟨s,hx,e'⟩:=tS e
  clear e;subst hx;have e:=e';clear e'
  (try dsimp only at e);split at e
  ·unfold iB at e
   (try dsimp only at e);split at e
   ·rename_i hb
    (try dsimp only at e);split at e
    ·rename_i b hs
     refine⟨_,?_,e⟩
     simp only[Gk,hu]
     rw[if_pos hb,hs];rfl
    ·cases e
   ·cases e
  ·cases e
 ·cases e
def slK(size:Nat)(p:Option (Nat×Nat))(len:Nat)(c:aM)(lo hi mx:Option AV)(f:Option (Nat×Nat)->Nat->aM->Option β):Option β:=
 match xj size (.slice p len c) lo hi mx with
 | some (.slice p' l' c')=>f p' l' c'
 | _=>none
def xM(n h m:Nat)(lo hi mx:Option AV)(f:Nat->Nat->Nat->Option β):Option β:=match eo n h lo hi mx with | some (l,hh,mm)=>f l hh mm | none=>none
def Xo(P:Program)(t:TypeId)(x:AV)(lo hi mx:Option AV)(k:AV->Option β):Option β:=
  match P.underlying t with
  | some (.array n e)=>
    (match P.info? e with
     | none=>none
     | some inf=>cZ x λp=>aC p λb o=>xM n n 0 lo hi mx λl h m=>k (.slice (some (b,if m=l then o else o+l*inf.size)) (h - l) (.known (m - l))))
  | some .string=>(match mx with | some _=>none | none=>aZ x λs=>xM s.size s.size 0 lo hi none λl h _=>k (.str (s.extract l h)))
  | some (.slice e)=>(match P.info? e with | none=>none | some inf=>asSlice x λp len c=>slK inf.size p len c lo hi mx λp l c=>k (.slice p l c))
  | _=>none
theorem UJ{P:Program}{t:TypeId}{y:AV}{lo hi mx:Option AV}{k:AV->Option β}{x:β}(e:Xo P t y lo hi mx k=some x):∃v,Dc P t y lo hi mx=some v/\k v=some x:=by
 unfold Xo at e
 (try dsimp only at e);split at e
 ·rename_i n el hu
  (try dsimp only at e);split at e
  ·cases e
  ·rename_i inf hi'
   have hc:P.cellsOf el=inf.size:=by simp[Program.cellsOf,hi']
   obtain⟨p,hx,e'⟩:=gL e
   clear e;subst hx;have e:=e';clear e'
   unfold aC at e
   (try dsimp only at e);split at e
   ·unfold xM at e
    (try dsimp only at e);split at e
    ·rename_i l hh mm hb
     refine⟨_,?_,e⟩
     simp[Dc,hu,hi',hc,hb]
    ·cases e
   ·cases e
 ·rename_i hu
  (try dsimp only at e);split at e
  ·cases e
  ·obtain⟨s,hx,e'⟩:=tS e
   clear e;subst hx;have e:=e';clear e'
   unfold xM at e
   (try dsimp only at e);split at e
   ·rename_i l hh mm hb
    refine⟨_,?_,e⟩
    simp[Dc,hu,hb]
   ·cases e
 ·rename_i el hu
  (try dsimp only at e);split at e
  ·cases e
  ·rename_i inf hi'
   have hc:P.cellsOf el=inf.size:=by simp[Program.cellsOf,hi']
   obtain⟨p,len,c,hx,e'⟩:=si e
   clear e;subst hx;have e:=e';clear e'
   unfold slK at e
   (try dsimp only at e);split at e
   ·rename_i hs
    refine⟨_,?_,e⟩
    simp[Dc,hu,hi',hc,hs]
   ·cases e
 ·cases e
def fS(size bytes:Nat)(p:Option (Nat×Nat))(len:Nat)(c:aM)(src:Option (Nat×List AV))(h:H)(f:Option (Nat×Nat)->Nat->aM->H->Option β):Option β:=
 match src with
 | none=>none
 | some q=>match uZ size bytes q.1 q.2 (.slice p len c) h with | some (.slice p' l' c',h')=>f p' l' c' h' | _=>none
def QK(P:Program)(ts:List TypeId)(xs:List AV)(h:H)(k:AV->H->Option β):Option β:=
  match ts,xs with
  | [t1,t2],[s,x]=>
    match P.underlying t1,P.underlying t2 with
    | some (.slice e),some d2=>
      (match Wp d2 with
       | true=>none
       | false=>match P.info? e,wz P e with
         | some inf,some zs=>(match Nat.beq zs.length inf.size&&Nat.blt 0 inf.size with
           | true=>asSlice s λp len c=>fS inf.size inf.bytes p len c (di inf.size x h) h λp l c h'=>k (.slice p l c) h'
           | false=>none)
         | _,_=>none)
    | _,_=>none
  | _,_=>none
theorem QL{P:Program}{ts:List TypeId}{xs:List AV}{h:H}{k:AV->H->Option β}{x:β}(e:QK P ts xs h k=some x):∃v h',xe P ts xs h=some (v,h')/\k v h'=some x:=by
 unfold QK at e
 (try dsimp only at e);split at e
 ·(try dsimp only at e);split at e
  ·rename_i el d2 hu1 Pa
   (try dsimp only at e);split at e
   ·cases e
   ·rename_i hd
    (try dsimp only at e);split at e
    ·rename_i inf zs hi hz
     (try dsimp only at e);split at e
     ·rename_i hb
      simp only[Bool.and_eq_true]at hb
      obtain⟨hb1,hb2⟩:=hb
      have hb1:=Nat.eq_of_beq_eq_true hb1
      have hb2:0<inf.size:=by simpa[Nat.blt_eq]using hb2
      obtain⟨p,len,c,hx,e'⟩:=si e
      clear e;subst hx;have e:=e';clear e'
      unfold fS at e
      (try dsimp only at e);split at e
      ·cases e
      ·rename_i q hq
       (try dsimp only at e);split at e
       ·rename_i hap
        refine⟨_,_,?_,e⟩
        simp[xe,hu1,Pa,hd,hi,hz,hq,hb1,hb2,hap]
       ·cases e
     ·cases e
    ·cases e
  ·cases e
 ·cases e
def aqF(size:Nat)(P:Program)(ts:List TypeId)(xs:List AV)(h:H)(f:Int->H->Option β):Option β:=
 match Nu P ts xs h with
 | some (.int .i64 n,h')=>f n h'
 | _=>none
def VE(a b:ByteArray)(f:ByteArray->Option β):Option β:=if((a.size+b.size:Nat):Int)>9223372036854775807 then none else f (a++b)
def bsK(h:H)(x:AV)(f:ByteArray->Option β):Option β:=match wq h x with | some (.str s)=>f s | _=>none
def Hr(h:H)(i:Nat)(f:Int->Int->H->Option β)(g:Option β):Option β:=
 match h.get i with
 | some (.tE s pos)=>if pos<s.size then f pos (Utf8.decode s pos).1 (h.set i (.tE s (pos+(Utf8.decode s pos).2)))else g
 | _=>none
def akz(op:BinOp)(x y:AV)(k:AV->Option β):Option β:=
 match x,y with
 | .int kd a,.int kd' b=>
  match op with
  | .shl=>if b<0 then none else k (.int kd (kd.wrap (a*2 ^ min b.toNat kd.bits)))
  | .shr=>if b<0 then none else k (.int kd (a.fdiv (2 ^ min b.toNat kd.bits)))
  | .quo=>if kd=kd' then(if b=0 then none else k (.int kd (kd.wrap (a.tdiv b))))else none
  | .rem=>if kd=kd' then(if b=0 then none else k (.int kd (a.tmod b)))else none
  | op=>if kd=kd' then(match TH op kd a b with | some v=>k v | none=>none)else none
 | .str a,.str b=>match op with | .add=>VE a b λs=>k (.str s) | op=>match Yb op a b with | some v=>k v | none=>none
 | _,_=>none
theorem ZE{op:BinOp}{y z:AV}{k:AV->Option β}{x:β}(e:akz op y z k=some x):∃v,Hh op y z=some v/\k v=some x:=by
 unfold akz at e
 (try dsimp only at e);split at e
 ·(try dsimp only at e);split at e
  ·(try dsimp only at e);split at e
   ·cases e
   ·rename_i hb;exact⟨_,by simp[Hh,hb],e⟩
  ·(try dsimp only at e);split at e
   ·cases e
   ·rename_i hb;exact⟨_,by simp[Hh,hb],e⟩
  ·(try dsimp only at e);split at e
   ·rename_i hk
    (try dsimp only at e);split at e
    ·cases e
    ·rename_i hb;exact⟨_,by simp[Hh,hk,TH,hb],e⟩
   ·cases e
  ·(try dsimp only at e);split at e
   ·rename_i hk
    (try dsimp only at e);split at e
    ·cases e
    ·rename_i hb;exact⟨_,by simp[Hh,hk,TH,hb],e⟩
   ·cases e
  ·rename_i h1 h2 h3 h4
   (try dsimp only at e);split at e
   ·rename_i hk
    (try dsimp only at e);split at e
    ·rename_i v hv
     refine⟨v,?_,e⟩
     unfold Hh
     cases op<;>first | exact absurd rfl h1 | exact absurd rfl h2 | (simp only[hk,if_true];rw[<-hk];exact hv)
    ·cases e
   ·cases e
 ·(try dsimp only at e);split at e
  ·unfold VE at e
   (try dsimp only at e);split at e
   ·cases e
   ·rename_i hb;exact⟨_,by simp only[Hh,Yb];rw[if_neg hb],e⟩
  ·(try dsimp only at e);split at e
   ·rename_i v hv;exact⟨v,hv,e⟩
   ·cases e
 ·cases e
def B0(P:Program)(eq:TypeId->AV->AV->Option Bool)(xs ys:List AV):List Field->Option Bool
 | []=>some true
 | f::fs=>
  match f.name == "_" with
  | true=>B0 P eq xs ys fs
  | false=>
   match tW P f.type xs f.offset,tW P f.type ys f.offset with
   | some a,some b=>(match eq f.type a b,B0 P eq xs ys fs with | some r,some q=>some (r&&q) | _,_=>none)
   | _,_=>none
def IQ(P:Program)(eq:TypeId->AV->AV->Option Bool)(e:TypeId)(c:Nat)(xs ys:List AV):List Nat->Option Bool
 | []=>some true
 | i::is=>
  match tW P e xs (i*c),tW P e ys (i*c)with
  | some a,some b=>(match eq e a b,IQ P eq e c xs ys is with | some r,some q=>some (r&&q) | _,_=>none)
  | _,_=>none
theorem zp{P:Program}{eq eq':TypeId->AV->AV->Option Bool}(he:∀t x y b,eq t x y=some b->eq' t x y=some b){xs ys:List AV}:∀{fs:List Field} {b:Bool},B0 P eq xs ys fs=some b->xh P eq' xs ys fs=some b
 | [],b,h=>h
 | f::fs,b,h=>by
  simp only[B0]at h
  simp only[xh]
  split at h
  ·rename_i hn
   rw[if_neg (by simpa using hn)]
   exact zp he h
  ·rename_i hn
   rw[if_pos (by simpa using hn)]
   split at h
   ·rename_i a c ha hc
    split at h
    ·rename_i r q hr hq
     cases h
     simp only[ha,hc,he _ _ _ _ hr,fD]
     cases r
     ·simp
     ·simp;exact zp he hq
    ·cases h
   ·cases h
theorem Hg{P:Program}{eq eq':TypeId->AV->AV->Option Bool}(he:∀t x y b,eq t x y=some b->eq' t x y=some b){e:TypeId}{c:Nat}{xs ys:List AV}:∀{is:List Nat} {b:Bool},IQ P eq e c xs ys is=some b->Da P eq' e c xs ys is=some b
 | [],b,h=>h
 | i::is,b,h=>by
  simp only[IQ]at h
  simp only[Da]
  split at h
  ·rename_i a c' ha hc
   split at h
   ·rename_i r q hr hq
    cases h
    simp only[ha,hc,he _ _ _ _ hr,fD]
    cases r
    ·simp
    ·simp;exact Hg he hq
   ·cases h
  ·cases h
def K3(P:Program):Nat->TypeId->AV->AV->Option Bool
 | 0=>λ_ _ _=>none
 | d+1=>λt x y=>
  match P.underlying t with
  | some (.struct fs)=>match x,y with | .agg xs,.agg ys=>(match P.stoodInHeld t with | true=>none | false=>B0 P (K3 P d) xs ys fs.toList) | _,_=>none
  | some (.array n e)=>match x,y with | .agg xs,.agg ys=>(match P.info? e with | some inf=>IQ P (K3 P d) e inf.size xs ys (List.range n) | none=>none) | _,_=>none
  | _=>IU P 1 t x y
theorem acR{P:Program}{t:TypeId}{x y:AV}{b:Bool}(hs:∀fs,P.underlying t≠some (.struct fs))(ha:∀n e,P.underlying t≠some (.array n e))(h:IU P 1 t x y=some b)(d:Nat):IU P (d+1) t x y=some b:=by
 simp only[IU]at h ⊢
 split at h<;>first
  | exact h
  | (rename_i hu;exact absurd hu (hs _))
  | (rename_i hu;exact absurd hu (ha _ _))
  | cases h
theorem C6{P:Program}:∀(d:Nat) (t:TypeId) (x y:AV) (b:Bool),K3 P d t x y=some b->IU P d t x y=some b
 | 0,t,x,y,b,h=>by simp[K3]at h
 | d+1,t,x,y,b,h=>by
  simp only[K3]at h
  split at h
  ·rename_i fs hu
   split at h
   ·split at h
    ·cases h
    ·rename_i hp
     simp only[IU,hu,hp]
     exact zp (C6 d) h
   ·cases h
  ·rename_i n e hu
   split at h
   ·split at h
    ·rename_i inf hi
     have hc:P.cellsOf e=inf.size:=by simp[Program.cellsOf,hi]
     simp only[IU,hu,hi,hc]
     exact Hg (C6 d) h
    ·cases h
   ·cases h
  ·rename_i hs ha
   exact acR hs ha h d
def eqK(P:Program)(op:BinOp)(t:TypeId)(x y:AV)(k:AV->Option β):Option β:=
 match P.eqGuardType P.depth t with
 | true=>none
 | false=>
  match op with
  | .eql=>(match K3 P Op.maxDepth t x y with | some b=>k (.bool b) | none=>none)
  | .neq=>(match K3 P Op.maxDepth t x y with | some b=>k (.bool (!b)) | none=>none)
  | _=>none
theorem acQ{P:Program}{op:BinOp}{t:TypeId}{y z:AV}{k:AV->Option β}{x:β}(e:eqK P op t y z k=some x):∃v,J9 P op t y z=some v/\k v=some x:=by
 unfold eqK at e
 (try dsimp only at e);split at e
 ·cases e
 ·rename_i hg
  (try dsimp only at e);split at e
  ·(try dsimp only at e);split at e
   ·rename_i b hb;exact⟨_,by simp[J9,hg,C6 _ _ _ _ _ hb],e⟩
   ·cases e
  ·(try dsimp only at e);split at e
   ·rename_i b hb;exact⟨_,by simp[J9,hg,C6 _ _ _ _ _ hb],e⟩
   ·cases e
  ·cases e
end
end Go.Ev
