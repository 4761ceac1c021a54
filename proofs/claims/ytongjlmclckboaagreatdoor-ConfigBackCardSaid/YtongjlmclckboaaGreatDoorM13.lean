/- Own texts, joined: . -/
import Derived.Test.YtongjlmclckboaaGreatDoorM12
import Derived.Lib.ItoaLen
import Derived.LaidLaws
import Derived.KernelRfl
set_option linter.all false
namespace Go.Ev.Tryz
set_option maxRecDepth 10000
open Go.Proofs
section
variable (s:Bs)(l:List Wd)
theorem YH{L:List (Bs×Key)}(hL:∀x∈L,Kp x.2.sem):∀(F:Nat) (M:List (Bs×Int)),Kp (cJ s l L F M)
 | 0,_=>λ_ _ g=>g
 | F+1,M=>λd st g=>by
  unfold cJ tU
  have gk:GG d (aA st {st.p with k:=st.p.k+1}):=Sh.set (e:=0) g ⟨st.p.k+1,st.p.bad,st.p.code,st.p.ag,dW _,rfl⟩
  split
  ·split
   ·exact(mq _ _ _).set g
   ·exact Km s l d _ gk
  ·cases hl:lk L (aa l st.p.k)with
   | none=>exact(mq _ _ _).set g
   | some key=>
    simp only
    have g1:=hL _ (wE hl) d _ gk
    split
    ·exact(mq _ _ _).set g
    ·split
     ·exact YH hL F _ d _ g1
     ·exact g1
theorem Jj{L:List (Bs×Key)}(hL:∀x∈L,Kp x.2.sem):Kp (bL s l L):=λd st g=>by
 unfold bL
 have h1:=(R2 s l ⟨#[123]⟩ st.p).set g
 have h2:GG d (aA st (dS s l nl (dS s l ⟨#[123]⟩ st.p).1).1):=(R2 s l nl (dS s l ⟨#[123]⟩ st.p).1).set (st:=aA st (dS s l ⟨#[123]⟩ st.p).1) h1
 split
 ·split
  ·exact YH s l hL _ _ d _ h2
  ·exact h2
 ·exact h1
theorem Ov(xs:List Bs)(p:Ps):Sh 0 p (cB s l xs p).1/\((cB s l xs p).2.2=true->Sh 1 p (cB s l xs p).1/\(cB s l xs p).2.1.size<=40):=by
 unfold cB
 have hv:=Cp s l p
 generalize aS s l p=v at hv
 obtain⟨p1,w,a,is⟩:=v
 have hf:∀a c,Sh 0 p (bE p1 a c):=λa c=>by
  obtain⟨k,b,c0,sp,hk,e⟩:=hv.1
  simp only at e
  obtain⟨k',b',c',sp',hk',e'⟩:=mq p1 a c
  exact⟨k',b',c',sp',by rw[e]at hk';simp only at hk';omega,by rw[e',e]⟩
 cases is with
 | false=>exact⟨hv.1,λh=>by cases h⟩
 | true=>
  unfold Bb
  simp only
  split
  ·exact⟨hf _ _,λh=>by cases h⟩
  ·split
   ·exact⟨hf _ _,λh=>by cases h⟩
   ·next It _=>exact⟨hv.1,λ_=>⟨hv.2 rfl,by show w.size<=40;omega⟩⟩
theorem alR(d:Nat)(st:St)(a:Bs)(at':Int)(g:GG (d+1) st):GG d (zY st a at').1:=by
 unfold zY
 split
 ·exact((mq st.p at' 181).set (g.less (dW d)))
 ·have h2:=g.au
  have g0:=g.less (dW d)
  exact⟨g0.bH,g0.id,g0.prio,g0.every,g0.bh,g0.bB,g0.sv,g0.bk,g0.tot,by show(st.p.au++[a]).length+d<=st.p.k;simp;omega,g0.JX⟩
theorem adA:Kp (pF s l):=λd st g=>by
 unfold pF
 have hn:=Ov s l (st.p.bh.map (·.1)) st.p
 generalize cB s l (st.p.bh.map (·.1)) st.p=v at hn
 obtain⟨p,nm,is⟩:=v
 cases is with
 | false=>exact hn.1.set g
 | true=>
  obtain⟨h1,It⟩:=hn.2 rfl
  have g1:GG (d+1) (aA st p):=h1.set g
  show GG d (jA s l nm st (aS s l p)).1
  have hv:=(Cp s l p).1
  generalize aS s l p=v at hv
  obtain⟨p2,w,a,is⟩:=v
  have g2:GG (d+1) (aA st p2):=Sh.set (e:=0) (st:=aA st p) g1 hv
  cases is with
  | false=>exact g2.less (dW d)
  | true=>
   unfold jA
   simp only
   split
   ·next h=>
    refine Km s l d _ ?_
    have h3:=g2.JX
    have g0:=g2.less (dW d)
    refine⟨g0.bH,g0.id,g0.prio,g0.every,λx hx=>?_,g0.bB,g0.sv,g0.bk,g0.tot,g0.au,?_⟩
    ·rcases List.mem_append.1 (show x∈p2.bh++[(nm,if(cH w).2=true then - (cl (bs (cH w).1)).1 else(cl (bs (cH w).1)).1)]from hx)with hx | hx
     ·exact g2.bh x hx
     ·obtain rfl:=List.mem_singleton.1 hx
      simp only
      refine⟨?_,?_,It⟩<;>split<;>omega
    ·show(p2.bh++[(nm,if(cH w).2=true then - (cl (bs (cH w).1)).1 else(cl (bs (cH w).1)).1)]).length+d<=p2.k
     have h3':p2.bh.length+(d+1)<=p2.k:=h3
     simp;omega
   ·exact((mq p2 a 182).set (st:=aA st p2) g2).less (dW d)
theorem Wu(hc:∀w,xJ (xO (eM w).1)):Kp (dh s l):=λd st g=>by
 unfold dh
 have hn:=Ov s l (st.sv.bf.map (·.name)) st.p
 generalize cB s l (st.sv.bf.map (·.name)) st.p=v at hn
 obtain⟨p,nm,is⟩:=v
 cases is with
 | false=>exact hn.1.set g
 | true=>
  obtain⟨h1,It⟩:=hn.2 rfl
  have g1:GG (d+1) (aA st p):=h1.set g
  have g2:GG (d+1) {aA st p with bk:=⟨nm,⟨#[]⟩,EE,0,1⟩}:=⟨g1.bH,g1.id,g1.prio,g1.every,g1.bh,g1.bB,g1.sv,⟨⟨by simp[EE]⟩,by simp,by simp,It⟩,g1.tot,g1.au,g1.JX⟩
  have g3:=Jj s l (L:=bN s l) (λx hx=>by
   simp only[bN,ou,List.mem_cons,List.not_mem_nil,or_false]at hx
   rcases hx with rfl | rfl | rfl | rfl
   ·exact zH s l λd st a _ g=>by
     have g:=g.less (dW d)
     exact⟨g.bH,g.id,g.prio,g.every,g.bh,g.bB,g.sv,⟨g.bk.bH,g.bk.port,g.bk.weight,g.bk.name⟩,g.tot,g.au,g.JX⟩
   ·exact YI s l (put:=pP) hc λd st v hv g=>⟨g.bH,g.id,g.prio,g.every,g.bh,g.bB,g.sv,⟨hv,g.bk.port,g.bk.weight,g.bk.name⟩,g.tot,g.au,g.JX⟩
   ·exact sw s l (put:=pQ) λd st v h1 h2 g=>⟨g.bH,g.id,g.prio,g.every,g.bh,g.bB,g.sv,⟨g.bk.bH,⟨by show 0<=v;omega,by show v<=65535;omega⟩,g.bk.weight,g.bk.name⟩,g.tot,g.au,g.JX⟩
   ·exact sw s l (put:=jE) λd st v h1 h2 g=>⟨g.bH,g.id,g.prio,g.every,g.bh,g.bB,g.sv,⟨g.bk.bH,g.bk.port,⟨by show 0<=v;omega,by show v<=65535;omega⟩,g.bk.name⟩,g.tot,g.au,g.JX⟩) (d+1) _ g2
  show GG d (Oi (bL s l (bN s l) {aA st p with bk:=⟨nm,⟨#[]⟩,EE,0,1⟩})).1
  generalize bL s l (bN s l) {aA st p with bk:=⟨nm,⟨#[]⟩,EE,0,1⟩}=r at g3
  have h3:=g3.tot
  have g4:=g3.less (dW d)
  refine⟨g4.bH,g4.id,g4.prio,g4.every,g4.bh,g4.bB,⟨g4.sv.port,g4.sv.ju,g4.sv.jr,g4.sv.probe,g4.sv.name,λb hb=>?_⟩,g4.bk,?_,g4.au,g4.JX⟩
  ·rcases List.mem_append.1 (show b∈r.1.sv.bf++[r.1.bk]from hb)with hb | hb
   ·exact g4.sv.bf b hb
   ·obtain rfl:=List.mem_singleton.1 hb;exact g4.bk
  ·show r.1.p.bB.length+QN r.1.p.bB+(r.1.sv.bf++[r.1.bk]).length+d<=r.1.p.k
   simp;omega
end
theorem ajK:SvG Y8:=⟨⟨by decide,by decide⟩,⟨by decide,by decide⟩,⟨by decide,by decide⟩,⟨by decide,by decide⟩,by decide,λb hb=>by cases hb⟩
section
variable (s:Bs)(l:List Wd)(hc:∀w,xJ (xO (eM w).1))
include hc
theorem ag6:Kp (vv s l):=Jj s l λx hx=>by
 simp only[vu,ou,List.mem_cons,List.not_mem_nil,or_false]at hx
 rcases hx with rfl | rfl | rfl
 ·exact YI s l (put:=vB) hc λd st v hv g=>⟨hv,g.id,g.prio,g.every,g.bh,g.bB,g.sv,g.bk,g.tot,g.au,g.JX⟩
 ·exact zH s l λd st a _ g=>by
   have g:=g.less (dW d)
   exact⟨g.bH,g.id,g.prio,g.every,g.bh,g.bB,g.sv,g.bk,g.tot,g.au,g.JX⟩
 ·exact zH s l λd st a _ g=>by
   have g:=g.less (dW d)
   exact⟨g.bH,g.id,g.prio,g.every,g.bh,g.bB,g.sv,g.bk,g.tot,g.au,g.JX⟩
omit hc in
theorem ag7:Kp (oE s l):=λd st g=>by
 have:=Jj s l (L:=iO s l) (λx hx=>by
  simp only[iO,ou,List.mem_cons,List.not_mem_nil,or_false]at hx
  rcases hx with rfl | rfl | rfl | rfl | rfl | rfl
  ·exact sw s l (put:=FL) λd st v h1 h2 g=>⟨g.bH,⟨by show 0<=v;omega,by show v<=65535;omega⟩,g.prio,g.every,g.bh,g.bB,g.sv,g.bk,g.tot,g.au,g.JX⟩
  ·exact sw s l (put:=vC) λd st v h1 h2 g=>⟨g.bH,g.id,⟨by show 0<=v;omega,by show v<=65535;omega⟩,g.every,g.bh,g.bB,g.sv,g.bk,g.tot,g.au,g.JX⟩
  ·exact sw s l (put:=rY) λd st v h1 h2 g=>⟨g.bH,g.id,g.prio,⟨by show 0<=v;omega,by show v<=65535;omega⟩,g.bh,g.bB,g.sv,g.bk,g.tot,g.au,g.JX⟩
  ·exact Gx s l (put:=xY) λd st v _ g=>⟨g.bH,g.id,g.prio,g.every,g.bh,g.bB,g.sv,g.bk,g.tot,g.au,g.JX⟩
  ·exact zH s l alR
  ·exact adA s l) d {st with yes:=1} ⟨g.bH,g.id,g.prio,g.every,g.bh,g.bB,g.sv,g.bk,g.tot,g.au,g.JX⟩
 unfold oE aep
 generalize bL s l (iO s l) {st with yes:=1}=r at this
 exact⟨this.bH,this.id,this.prio,this.every,this.bh,this.bB,this.sv,this.bk,this.tot,this.au,this.JX⟩
omit hc in
theorem YJ{put:Sv->Int->Sv}{lo hi:Int}(hp:∀x v,lo<=v->v<=hi->SvG x->SvG (put x v))(hb:∀x v,(put x v).bf=x.bf)(d:Nat)(st:St)(v:Int)(h1:lo<=v)(h2:v<=hi)(g:GG d st):GG d {st with sv:=put st.sv v}:=
 ⟨g.bH,g.id,g.prio,g.every,g.bh,g.bB,hp _ _ h1 h2 g.sv,g.bk,by show st.p.bB.length+QN st.p.bB+(put st.sv v).bf.length+d<=st.p.k;rw[hb];exact g.tot,g.au,g.JX⟩
omit hc in
theorem ago(a:List Sv)(x:Sv):QN (a++[x])=QN a+x.bf.length:=by simp[QN]
theorem Wv:Kp (ew s l):=λd st g=>by
 unfold ew
 have hn:=Ov s l (st.p.bB.map (·.name)) st.p
 generalize cB s l (st.p.bB.map (·.name)) st.p=v at hn
 obtain⟨p,nm,is⟩:=v
 cases is with
 | false=>exact hn.1.set g
 | true=>
  obtain⟨h1,It⟩:=hn.2 rfl
  have g1:GG (d+1) (aA st p):=h1.set g
  have g2:GG (d+1) {aA st p with sv:=iq nm}:=⟨g1.bH,g1.id,g1.prio,g1.every,g1.bh,g1.bB,⟨by simp[iq],by simp[iq],by simp[iq],by simp[iq],It,by simp[iq]⟩,g1.bk,by
   have h3:p.bB.length+QN p.bB+st.sv.bf.length+(d+1)<=p.k:=g1.tot
   show p.bB.length+QN p.bB+0+(d+1)<=p.k
   omega,g1.au,g1.JX⟩
  have g3:=Jj s l (L:=bR s l) (λx hx=>by
   simp only[bR,ou,List.mem_cons,List.not_mem_nil,or_false]at hx
   rcases hx with rfl | rfl | rfl | rfl | rfl | rfl | rfl | rfl | rfl
   ·exact Gx s l (put:=lu) λd st v _ g=>⟨g.bH,g.id,g.prio,g.every,g.bh,g.bB,⟨g.sv.port,g.sv.ju,g.sv.jr,g.sv.probe,g.sv.name,g.sv.bf⟩,g.bk,g.tot,g.au,g.JX⟩
   ·exact zH s l λd st a _ g=>by
     have g:=g.less (dW d)
     exact⟨g.bH,g.id,g.prio,g.every,g.bh,g.bB,⟨g.sv.port,g.sv.ju,g.sv.jr,g.sv.probe,g.sv.name,g.sv.bf⟩,g.bk,g.tot,g.au,g.JX⟩
   ·exact sw s l (put:=pU) (YJ (put:=λx v=>{x with port:=v}) (λx v h1 h2 g=>⟨⟨by show 0<=v;omega,by show v<=65535;omega⟩,g.ju,g.jr,g.probe,g.name,g.bf⟩) λ_ _=>rfl)
   ·exact Gx s l (put:=pS) λd st v _ g=>⟨g.bH,g.id,g.prio,g.every,g.bh,g.bB,⟨g.sv.port,g.sv.ju,g.sv.jr,g.sv.probe,g.sv.name,g.sv.bf⟩,g.bk,g.tot,g.au,g.JX⟩
   ·exact Gx s l (put:=lz) λd st v _ g=>⟨g.bH,g.id,g.prio,g.every,g.bh,g.bB,⟨g.sv.port,g.sv.ju,g.sv.jr,g.sv.probe,g.sv.name,g.sv.bf⟩,g.bk,g.tot,g.au,g.JX⟩
   ·exact sw s l (put:=pW) (YJ (put:=λx v=>{x with ju:=v}) (λx v h1 h2 g=>⟨g.port,⟨by show 0<=v;omega,by show v<=65535;omega⟩,g.jr,g.probe,g.name,g.bf⟩) λ_ _=>rfl)
   ·exact sw s l (put:=pR) (YJ (put:=λx v=>{x with jr:=v}) (λx v h1 h2 g=>⟨g.port,g.ju,⟨by show 0<=v;omega,by show v<=65535;omega⟩,g.probe,g.name,g.bf⟩) λ_ _=>rfl)
   ·exact sw s l (put:=lq) (YJ (put:=λx v=>{x with probe:=v}) (λx v h1 h2 g=>⟨g.port,g.ju,g.jr,⟨by show 0<=v;omega,by show v<=65535;omega⟩,g.name,g.bf⟩) λ_ _=>rfl)
   ·exact Wu s l hc) (d+1) _ g2
  show GG d (FK (bL s l (bR s l) {aA st p with sv:=iq nm})).1
  generalize bL s l (bR s l) {aA st p with sv:=iq nm}=r at g3
  have h3:=g3.tot
  have g4:=g3.less (dW d)
  refine⟨g4.bH,g4.id,g4.prio,g4.every,g4.bh,λx hx=>?_,ajK,g4.bk,?_,g4.au,g4.JX⟩
  ·rcases List.mem_append.1 (show x∈r.1.p.bB++[r.1.sv]from hx)with hx | hx
   ·exact g4.bB x hx
   ·obtain rfl:=List.mem_singleton.1 hx;exact g4.sv
  ·show(r.1.p.bB++[r.1.sv]).length+QN (r.1.p.bB++[r.1.sv])+0+d<=r.1.p.k
   rw[ago]
   simp;omega
omit hc in
theorem YG{L:List (Bs×Key)}(hL:∀x∈L,Kp x.2.sem):∀(F:Nat) (M:List (Bs×Int)),Kp (oG s l L F M)
 | 0,_=>λ_ _ g=>g
 | F+1,M=>λd st g=>by
  unfold oG
  have gk:GG d (aA st {st.p with k:=st.p.k+1}):=Sh.set (e:=0) g ⟨st.p.k+1,st.p.bad,st.p.code,st.p.ag,dW _,rfl⟩
  split
  ·cases hl:lk L (aa l st.p.k)with
   | none=>exact(mq _ _ _).set g
   | some key=>
    simp only
    have g1:=hL _ (wE hl) d _ gk
    split
    ·exact(mq _ _ _).set g
    ·split
     ·exact YG hL F _ d _ g1
     ·exact g1
  ·unfold Tz Bw Hy aeY
   split
   ·exact(mq _ _ _).set g
   ·split
    ·exact(mq _ _ _).set g
    ·split
     ·exact(mq _ _ _).set g
     ·exact g
theorem alQ:Kp (yy s l):=YG s l (λx hx=>by
 simp only[uU,ou,List.mem_cons,List.not_mem_nil,or_false]at hx
 rcases hx with rfl | rfl | rfl
 ·exact ag6 s l hc
 ·exact ag7 s l
 ·exact Wv s l hc) _ _
end
theorem OB(x:Int):0<=IntKind.u8.wrap x/\IntKind.u8.wrap x<256:=by
 have:IntKind.u8.wrap x=x % 256:=by
  simp[IntKind.wrap,IntKind.signed,IntKind.bits]
 omega
theorem Yq{rd:ByteArray->Int×Bool}{w:Nat}:∀{l:List ByteArray} {x:List Int},fX rd w l=some x->∀y∈x,0<=y/\y<256
 | [],x,h=>by
  obtain rfl:[]=x:=oh h
  intro y hy;cases hy
 | p::ps,x,h=>by
  unfold fX at h
  split at h
  ·obtain⟨z,hz,rfl⟩:=Option.map_eq_some_iff.1 h
   intro y hy
   rcases List.mem_append.1 hy with hy | hy
   ·unfold PB at hy
    split at hy
    ·obtain rfl:=List.mem_singleton.1 hy;exact OB _
    ·simp only[List.mem_cons,List.not_mem_nil,or_false]at hy
     rcases hy with rfl | rfl<;>exact OB _
   ·exact Yq hz y hy
  ·cases h
theorem acy(w:Bs):∀y∈(eM w).1,0<=y/\y<256:=by
 unfold eM
 split
 ·next x hx=>
  split
  ·exact Yq hx
  ·intro y hy;simp at hy;omega
 ·intro y hy;simp at hy;omega
theorem agu:∀{l:List Int},l.length=6->(∀y∈l,0<=y/\y<256)->xJ (xO l)
 | [a,b,c,d,e,f],_,h=>⟨h⟩
theorem X5(w:Bs):xJ (xO (eM w).1):=agu (Gd w) (acy w)
theorem gg0:GG 0 GQ:=⟨⟨by simp[GQ,ps0,EE]⟩,⟨by decide,by decide⟩,⟨by decide,by decide⟩,⟨by decide,by decide⟩,λx hx=>(by cases hx),λx hx=>(by cases hx),ajK,⟨⟨by simp[GQ,bk0,EE]⟩,⟨by decide,by decide⟩,⟨by decide,by decide⟩,by decide⟩,uQ _,uQ _,uQ _⟩
theorem ahW(s:Bs)(l:List Wd):GG 0 (yy s l GQ).1:=alQ s l X5 0 GQ gg0
theorem qn{v:Int}(h:0<=v/\v<=65535):DY v:=⟨by omega,by omega⟩
theorem N0:∀{l:List Sv} {x:Sv},x∈l->x.bf.length<=QN l
 | y::l,x,h=>by
  have e:QN (y::l)=y.bf.length+QN l:=by simp[QN]
  rw[e]
  rcases List.mem_cons.1 h with rfl | h
  ·omega
  ·have:=N0 h;omega
theorem ahH{st:St}(g:GG 0 st)(hk:st.p.k<=300000):abP st.p:=by
 have h1:=g.tot;have h2:=g.au;have h3:=g.JX
 refine⟨g.bH,qn g.id,qn g.prio,qn g.every,λx hx=>?_,λx hx=>?_,by omega,by omega,by omega⟩
 ·have:=g.bh x hx
  exact⟨by omega,by omega⟩
 ·have s:=g.bB x hx
  have hl:=N0 hx
  refine⟨qn s.port,qn s.ju,qn s.jr,qn s.probe,λb hb=>?_,by omega⟩
  have k:=s.bf b hb
  exact⟨k.bH,qn k.port,qn k.weight⟩
theorem Nl{s:Bs}{x k:Int}(h0:0<=x)(h1:x<=k){c:UInt8}(hc:(bs s)[k.toNat]?=some c):cut s x (k+1)=mk (bs (cut s x k)++[c]):=by
 unfold cut
 rw[ko]
 have e1:(k+1).toNat - x.toNat=(k.toNat - x.toNat)+1:=by omega
 rw[e1,List.take_add_one,List.getElem?_drop,show x.toNat+(k.toNat - x.toNat)=k.toNat by omega,hc]
 rfl
theorem pZ{s:Bs}{st:Rd}(h1:st.from'<0)(k:Int):gr s st k=(st,true):=by unfold gr;rw[if_pos h1]
theorem qa{v:Int}(h:DY v):(bX v).size<=2000:=by
 have:=Lib.itoa_length_le v h.1 h.2
 have e:(bX v).size=(Lib.itoa v).length:=by simp[bX,ByteArray.size]
 omega
theorem Tr{x:Cd}(h:xJ x):(Sf x).size<=2000:=Nat.le_of_lt (adW (m:=[x.a,x.b,x.c,x.d,x.e,x.f]) rfl h.1)
theorem Jw(a:Bs):(pT a).size<=2000:=Nat.le_of_lt (ab0 a)
def Lw(ls:List (List Bs)):Prop:=∀ws∈ls,ws.length<=3/\∀w∈ws,w.size<=2000
theorem Lw.app{a b:List (List Bs)}(h1:Lw a)(h2:Lw b):Lw (a++b):=λws hw=>(List.mem_append.1 hw).elim (h1 ws) (h2 ws)
theorem Lw.cons{a:List Bs}{b:List (List Bs)}(h1:a.length<=3/\∀w∈a,w.size<=2000)(h2:Lw b):Lw (a::b):=λws hw=>by
 rcases List.mem_cons.1 hw with rfl | hw
 ·exact h1
 ·exact h2 ws hw
theorem Lw.nil:Lw []:=λws hw=>by cases hw
theorem ah5{ws:List Bs}(h:ws.length<=3/\∀w∈ws,w.size<=2000):(dO ws).length<=6010:=by
 have h1:(Lib.join (ws.map λx:ByteArray=>x.data.toList) [32]).length<=(ws.map λx:ByteArray=>x.data.toList).flatten.length+ws.length:=by
  have:=join_le 32 (ws.map λx:ByteArray=>x.data.toList)
  rwa [List.length_map]at this
 have h2:(ws.map λx:ByteArray=>x.data.toList).flatten.length<=2000*ws.length:=Df h.2
 have h3:(dO ws).length=(Lib.join (ws.map λx:ByteArray=>x.data.toList) [32]).length+1:=by
  show(bs (gI ws sp)++[10]).length=_
  rw[hU,aP]
  rfl
 have:=h.1
 have:2000*ws.length<=2000*3:=Nat.mul_le_mul_left _ h.1
 omega
theorem aeM:∀{ls:List (List Bs)},Lw ls->(pY ls).length<=6010*ls.length
 | [],_=>by simp[pY]
 | a::ls,h=>by
  have h1:=ah5 (h a (by simp))
  have h2:=aeM (ls:=ls) λws hw=>h ws (by simp[hw])
  rw[Ol,hU,List.length_cons]
  omega
theorem lw1{a:Bs}(h:a.size<=2000):([a]:List Bs).length<=3/\∀w∈[a],w.size<=2000:=⟨by simp,by simpa using h⟩
theorem OJ{a b:Bs}(h1:a.size<=2000)(h2:b.size<=2000):([a,b]:List Bs).length<=3/\∀w∈[a,b],w.size<=2000:=⟨by simp,by simp[h1,h2]⟩
theorem lw3{a b c:Bs}(h1:a.size<=2000)(h2:b.size<=2000)(h3:c.size<=2000):([a,b,c]:List Bs).length<=3/\∀w∈[a,b,c],w.size<=2000:=⟨by simp,by simp[h1,h2,h3]⟩
theorem akB{x:Bk}(g:BkG x):Lw (D6 x)/\(D6 x).length<=6:=by
 unfold D6
 refine⟨((Lw.cons (lw3 (by decide) (by have:=g.name;omega) (by decide)) (.cons (OJ (by decide) (Jw _)) (.cons (OJ (by decide) (Tr g.bH)) .nil))).app ?_).app (.cons (OJ (by decide) (qa (qn g.weight))) (.cons (lw1 (by decide)) .nil)),?_⟩
 ·split
  ·exact .nil
  ·exact .cons (OJ (by decide) (qa (qn g.port))) .nil
 ·split<;>simp
theorem acn:∀{l:List Bk},(∀x∈l,BkG x)->Lw (l.flatMap D6)/\(l.flatMap D6).length<=6*l.length
 | [],_=>⟨.nil,by simp⟩
 | x::l,h=>by
  obtain⟨h1,h2⟩:=akB (h x (by simp))
  obtain⟨h3,h4⟩:=acn (l:=l) λy hy=>h y (by simp[hy])
  exact⟨h1.app h3,by simp only[List.flatMap_cons,hU,List.length_cons];omega⟩
theorem Of{l:List Bs}(h:∀w∈l,w.size<=2000)(v:Int):(qY l v).size<=2000:=by
 unfold qY
 generalize (if v<1∨(l.length:Int)<v then l.length - 1 else(v - 1).toNat)=i
 rw[List.getD_eq_getElem?_getD]
 cases hi:l[i]? with
 | none=>exact uQ _
 | some w=>exact h w (Hq hi)
theorem anW{x:Sv}(g:SvG x):Lw (UP x)/\(UP x).length<=10+6*x.bf.length:=by
 obtain⟨h1,h2⟩:=acn g.bf
 unfold UP svH
 refine⟨.cons (lw3 (by decide) (by have:=g.name;omega) (by decide)) (.cons (OJ (by decide) (by split<;>decide)) (.app ?_ (h1.app (.cons (lw1 (by decide)) .nil)))),?_⟩
 ·exact .cons (OJ (by decide) (Jw _)) (.cons (OJ (by decide) (qa (qn g.port))) (.cons (OJ (by decide) (Of (by decide) _)) (.cons (OJ (by decide) (Of (by decide) _))
   (.cons (OJ (by decide) (qa (qn g.ju))) (.cons (OJ (by decide) (qa (qn g.jr))) (.cons (OJ (by decide) (qa (qn g.probe))) .nil))))))
 ·simp only[List.length_cons,hU,List.length_nil];omega
theorem R5:∀{l:List Sv},(∀x∈l,SvG x)->Lw (kG l)/\(kG l).length<=10*l.length+6*QN l
 | [],_=>⟨.nil,by simp[kG]⟩
 | x::l,h=>by
  obtain⟨h1,h2⟩:=anW (h x (by simp))
  obtain⟨h3,h4⟩:=R5 (l:=l) λy hy=>h y (by simp[hy])
  have e:QN (x::l)=x.bf.length+QN l:=by simp[QN]
  have e2:kG (x::l)=UP x++kG l:=rfl
  rw[e,e2]
  exact⟨h1.app h3,by simp only[hU,List.length_cons];omega⟩
theorem Qh{st:St}(g:GG 0 st):Lw (jY st.p):=by
 unfold jY K9 jN ud
 refine .app ?_ (.cons (OJ (by decide) (by split<;>decide)) (.app ?_ (.app ?_ (.cons (lw1 (by decide)) (R5 g.bB).1))))
 ·exact .cons (OJ (by decide) (by decide)) (.cons (OJ (by decide) (Tr g.bH)) (.cons (OJ (by decide) (Jw _)) (.cons (OJ (by decide) (Jw _)) (.cons (lw1 (by decide)) (.cons (OJ (by decide) (by decide))
   (.cons (OJ (by decide) (qa (qn g.id))) (.cons (OJ (by decide) (qa (qn g.prio))) (.cons (OJ (by decide) (qa (qn g.every))) .nil))))))))
 ·intro ws hw
  obtain⟨a,_,rfl⟩:=List.mem_map.1 hw
  exact OJ (by decide) (Jw _)
 ·intro ws hw
  obtain⟨x,hx,rfl⟩:=List.mem_map.1 hw
  have:=g.bh x hx
  exact lw3 (by decide) (by omega) (qa ⟨by omega,by omega⟩)
theorem aaM{st:St}(g:GG 0 st)(hk:st.p.k<=300000):(pY (jY st.p)).length<=1000000000000:=by
 have h1:=aeM (Qh g)
 have h2:(jY st.p).length<=11+st.p.au.length+st.p.bh.length+(10*st.p.bB.length+6*QN st.p.bB):=by
  have:=(R5 g.bB).2
  simp only[jY,K9,jN,ud,hU,List.length_cons,List.length_map,List.length_nil]
  omega
 have:=g.tot;have:=g.au;have:=g.JX
 omega
theorem aaJ{s:Bs}{p:Ps}(h:fl s=.inl p):∃l,HE s=.inl l/\(yy s l GQ).2=true/\(yy s l GQ).1.p=p:=by
 unfold fl at h
 split at h
 ·cases h
 ·next l hl=>
  split at h
  ·next h2=>exact⟨l,hl,h2,Sum.inl.inj h⟩
  ·cases h
def M0:Ps ⊕ (Int×Int)->Ps
 | .inl p=>p
 | .inr _=>ps0
def atP:Ps ⊕ (Int×Int)->Int
 | .inl _=>0
 | .inr q=>q.1
def Nb:Ps ⊕ (Int×Int)->Int
 | .inl _=>0
 | .inr q=>q.2
theorem nD.ak{h h':H}{p:Ps}{cs:List AV}(c:nD h p cs)(m:Mod [] h h'):nD h' p cs:=by
 obtain⟨vp,vc,tp,tc,gp,gc,fm,e,rv,rt,rg,es,rs⟩:=c
 exact⟨vp,vc,tp,tc,gp,gc,fm,e,rv.ak m,rt.ak m,rg.ak m,es,λx hx=>(rs x hx).ak m⟩
theorem nD.zero(h:H):nD h ps0 (vM ps0 (.slice none 0 (.known 0)) (.slice none 0 (.known 0)) (.slice none 0 (.known 0))):=
 ⟨none,.known 0,none,.known 0,none,.known 0,[],rfl,.nil,.nil,.nil,rfl,λx hx=>by cases hx⟩
theorem nD.len{h:H}{p:Ps}{cs:List AV}(c:nD h p cs):cs.length=15/\cs.all cT=true:=by
 obtain⟨vp,vc,tp,tc,gp,gc,fm,rfl,_⟩:=c
 exact⟨rfl,rfl⟩
theorem QD.cells{h:H}{r:AV}{x:Ps ⊕ (Int×Int)}(ok:QD h r x):∃cs,r=.dJ [.agg cs,.int .i64 (atP x),.int .i64 (Nb x)]/\nD h (M0 x) cs/\(M0 x).k<=300000:=by
 cases x with
 | inl p=>exact ok
 | inr q=>obtain⟨k,c⟩:=q;exact⟨_,ok,.zero h,by show 0<=_;omega⟩
theorem akI(s:Bs):∃st,GG 0 st/\st.p=M0 (fl s):=by
 cases hp:fl s with
 | inl p=>
  obtain⟨l,_,_,h⟩:=aaJ hp
  exact⟨_,ahW s l,h⟩
 | inr q=>exact⟨_,gg0,rfl⟩
structure Tb(h:H):Prop where
 lt:1<h.next
 t0:h.get 0=some (.Xv wQ)
 t1:h.get 1=some (.cells Xy true)
theorem Tb.ak{h h':H}(t:Tb h)(m:Mod [] h h'):Tb h':=⟨m.lt t.lt,(m.get _ (by have:=t.lt;omega) (by simp)).trans t.t0,(m.get _ t.lt (by simp)).trans t.t1⟩
theorem Ul{s:Bs}(hs:s.size<=2000000)(hsw:∀l,HE s=.inl l->Words l/\l.length<=300000){n:Nat}(hn:1000000+s.size<=n){h:H}{K:List AV->Int->Int->H->Option Unit}
  (hk:∀cs h',Mod [] h h'->nD h' (M0 (fl s)) cs->(M0 (fl s)).k<=300000->K cs (atP (fl s)) (Nb (fl s)) h'=some ()):
  cr n fH [.str s] h (λv h'=>aO v λl=>lA l λx l=>lI l λy l=>lI l λz l=>l0 l (K x y z h'))=some ():=by
 refine Vl hs hsw hn h _ λr h' hq=>?_
 obtain⟨m,ok⟩:=hq
 obtain⟨cs,rfl,c,k⟩:=ok.cells
 simp only[ay,eV,cu,aE]
 exact hk cs h' m c k
theorem RT{s:Bs}(hs:s.size<=70000){n:Nat}(hn:1070000<=n){h:H}{K:List AV->Int->Int->H->Option Unit}
  (hk:∀cs h',Mod [] h h'->nD h' (M0 (fl s)) cs->(M0 (fl s)).k<=300000->K cs (atP (fl s)) (Nb (fl s)) h'=some ()):
  cr n fH [.str s] h (λv h'=>aO v λl=>lA l λx l=>lI l λy l=>lI l λz l=>l0 l (K x y z h'))=some ():=
 Ul (by omega) (λ_ h=>Vp hs h) (by omega) hk
theorem Tl{zs cs:List AV}(hz:zs.length=15){h:H}{p:Ps}(c:nD h p cs){F:Nat->H->Option Unit}(hF:∀i h',h.next<=i->Mod [] h h'->At h' i (.cells cs false)->nD h' p cs->F i h'=some ()):
  aD (.cells zs false) h (λi h1=>bK h1 i 0 15 cs λh2=>F i h2)=some ():=by
 rw[aL]
 have a:At (h.new (.cells zs false)) h.next (.cells zs false):=.new _ _
 rw[FY (n:=15) a hz c.len.1 c.len.2]
 have m:Mod [] h ((h.new (.cells zs false)).set h.next (.cells cs false)):=((Mod.refl _ _).new _).set (.inl (cF _)) _
 exact hF _ _ (cF _) m (At.Mx a _) (c.ak m)
theorem ahE{h:H}{p:Ps}{cs:List AV}{i:Nat}(a:At h i (.cells cs false))(c:nD h p cs)(ok:abP p)(hb:(pY (jY p)).length<=1000000000000)(tb:Tb h){n:Nat}(hn:1000300<=n){F:Bs->AV×H->Option Unit}
  (hF:∀v h',Mod [] h h'->F (mk (pY (jY p))) (v,h')=some ()):(aI h i 0 15 λl=>(ca n rI [.agg l] h).bind λq=>aZ q.1 λx=>F x q)=some ():=by
 rw[a.all (n:=15) c.len.1]
 obtain⟨r,h',e,m,rfl⟩:=Zj ok tb.lt tb.t0 tb.t1 c hb hn
 rw[e,fD]
 simp only[az]
 exact hF _ h' m
def ab1:Ps ⊕ (Int×Int)->Bool
 | .inl p=>decide (p.id=7)&&p.pre&&decide (p.au.length=1)
 | .inr _=>false
theorem ajX:ab1 (fl Ij)=true:=by decide +kernel
def aqv:Ps ⊕ (Int×Int)->Bool
 | .inl _=>false
 | .inr q=>decide (q=(4,180))
theorem ajY:aqv (fl ⟨#[110,111,100,101]⟩)=true:=by decide +kernel
theorem QJ{n:Nat}(hn:1070001<=n){h:H}{K:Bool->H->Option Unit}(hk:∀h',Mod [] h h'->K true h'=some ()):cr n iF [] h (λv h'=>asBool v λx=>K x h')=some ():=by
 obtain⟨n,rfl⟩:∃k,n=k+1:=⟨n - 1,by omega⟩
 obtain⟨k,hk0⟩:∃k,n=k+1:=⟨n - 1,by omega⟩
 rw[Dz]
 conv=>lhs;rw[hk0,Cb,<-hk0]
 rw[fD]
 simp only[az]
 have h1:=ajX
 have h2:=ajY
 refine RT (by decide) (by omega) λcs Rc m1 c1 k1=>?_
 revert h1 c1
 generalize fl Ij=x1
 intro h1 c1
 cases x1 with
 | inr q=>cases h1
 | inl p=>
  simp only[ab1,Bool.and_eq_true,decide_eq_true_eq]at h1
  obtain⟨⟨e7,ep⟩,ev⟩:=h1
  refine Tl rfl c1 λi h2' hi m2 a2 c2=>?_
  refine RT (by decide) (by omega) λcs' h3' m3 c3 k3=>?_
  revert h2 c3
  generalize fl ⟨#[110,111,100,101]⟩=x2
  intro h2 c3
  cases x2 with
  | inl q=>cases h2
  | inr q=>
   obtain rfl:q=(4,180):=by simpa[aqv]using h2
   refine Tl rfl c3 λj h4' hj m4 a4 c4=>?_
   have a:=(a2.ak m3).ak m4
   obtain⟨vp,vc,tp,tc,gp,gc,fm,rfl,_⟩:=c1
   show cond ((0:Int)==0) (cond ((0:Int)==0) _ _) _=some ()
   rw[show((0:Int)==0)=true from rfl,bM,bM,a.cell (o:=8) (v:=.int .i64 p.id) rfl,aj,show(p.id==7)=true by simp[M0]at e7 ⊢;exact e7,bM,
    a.cell (o:=11) (v:=.bool p.pre) rfl,aq,ep,bM,a.cell (o:=12) rfl,ah]
   show cond (((p.au.length:Nat):Int)==1) (cond ((180:Int)==180) _ _) _=some ()
   rw[ev]
   simp only[show(((1:Nat):Int)==1)=true from rfl,show((180:Int)==180)=true from rfl,bM,aq]
   exact hk _ (((m1.trans m2).trans m3).trans m4)
def Uj(t0 t1:Option D4):abO:=[(t0,.Xv wQ),(t1,.cells Xy true)]
theorem aim(t0 t1:Option D4):Tb (HR (Uj t0 t1)):=⟨(by decide:1<2),rfl,rfl⟩
theorem agE:GL (rR (Uj (some ⟨0,0,20⟩) (some ⟨3,0,64⟩))):=by
 intro g i h
 have e:Kc TO g=(match Nat.beq 0 g with | true=>some 0 | false=>(match Nat.beq 3 g with | true=>some 1 | false=>none)):=rfl
 rw[e]at h
 split at h
 ·rename_i hb
  cases h
  obtain rfl:=Nat.eq_of_beq_eq_true hb
  exact⟨20,rfl⟩
 ·split at h
  ·rename_i hb
   cases h
   obtain rfl:=Nat.eq_of_beq_eq_true hb
   exact⟨64,rfl⟩
  ·cases h
def isT:AV->H->Option Unit:=λv _=>match v with | .bool true=>some () | _=>none
theorem adw{r:AV}{h:H}(e:r=.bool true):isT r h=some ():=by subst e;rfl
theorem Qa:∀(l:List UInt8) (n m:Int) (x:UInt8),G1 n l=(m,true)->uw x=true->G1 n (l++[x])=(10*m+((x.toNat:Int) - 48),true)
 | [],n,m,x,h,hx=>by
  obtain rfl:n=m:=by simpa[G1]using h
  simp[G1,hx]
 | y::l,n,m,x,h,hx=>by
  rw[List.cons_append]
  unfold G1 at h ⊢
  split at h
  ·next hy=>rw[if_pos hy];exact Qa l _ m x h hx
  ·simp at h
theorem IJ{d:Nat}(h:d<10):(UInt8.ofNat (48+d)).toNat=48+d/\uw (UInt8.ofNat (48+d))=true:=by
 have:(UInt8.ofNat (48+d)).toNat=48+d:=by rw[UInt8.toNat_ofNat'];omega
 refine⟨this,?_⟩
 unfold uw
 rw[this]
 simp;omega
theorem akL(u:Nat):G1 0 (Lib.decDigits u)=((u:Int),true):=by
 induction u using Nat.strongRecOn with
 | ind u ih=>
  rw[Lib.decDigits]
  split
  ·next h=>
   obtain⟨h1,h2⟩:=IJ h
   unfold G1 G1
   rw[if_pos h2,h1]
   congr 1
   omega
  ·next h=>
   obtain⟨h1,h2⟩:=IJ (Nat.mod_lt u (by decide:0<10))
   rw[Qa _ _ _ _ (ih (u / 10) (by omega)) h2,h1]
   congr 1
   omega
theorem X8(u:Nat):Lib.decDigits u≠[]:=by
 rw[Lib.decDigits];split<;>simp
theorem agy(u:Nat):0<u->(Lib.decDigits u).head?≠some 48:=by
 induction u using Nat.strongRecOn with
 | ind u ih=>
  intro h0
  rw[Lib.decDigits]
  split
  ·next h=>
   obtain⟨h1,_⟩:=IJ h
   intro e
   have e:UInt8.ofNat (48+u)=48:=by simpa using e
   have:=congrArg UInt8.toNat e
   rw[h1]at this
   have:48+u=48:=this
   omega
  ·next h=>
   have:=ih (u / 10) (by omega) (by omega)
   rw[List.head?_append]
   cases hh:(Lib.decDigits (u / 10)).head? with
   | none=>exact absurd (List.head?_eq_none_iff.1 hh) (X8 _)
   | some x=>rw[hh]at this;simpa using this
theorem QV:∀(k u:Nat),u<10 ^ (k+1)->(Lib.decDigits u).length<=k+1
 | 0,u,h=>by rw[Lib.decDigits,dif_pos (by simpa using h)];simp
 | k+1,u,h=>by
  rw[Lib.decDigits]
  split
  ·simp
  ·have:=QV k (u / 10) (by rw[Nat.pow_succ]at h;omega)
   simp;omega
theorem VK(u:Nat):∀x∈Lib.decDigits u,uw x=true:=by
 induction u using Nat.strongRecOn with
 | ind u ih=>
  intro x hx
  rw[Lib.decDigits]at hx
  split at hx
  ·next h=>
   obtain rfl:=List.mem_singleton.1 hx
   exact(IJ h).2
  ·next h=>
   rcases List.mem_append.1 hx with hx | hx
   ·exact ih (u / 10) (by omega) x hx
   ·obtain rfl:=List.mem_singleton.1 hx
    exact(IJ (Nat.mod_lt u (by decide:0<10))).2
theorem amY{u:Nat}(h:u<=65535):cl (Lib.decDigits u)=((u:Int),true):=by
 unfold cl
 rw[if_neg ?_,akL]
 rintro (h1 | h1 | ⟨h1,h2⟩)
 ·exact X8 u h1
 ·have:=QV 4 u (by omega);omega
 ·rcases Nat.eq_zero_or_pos u with rfl | h0
  ·exact h2 (by rw[Lib.decDigits];rfl)
  ·exact agy u h0 h1
theorem Gw(v:Int):bs (bX v)=Lib.itoa v:=by simp[bX,bs]
theorem rS{v:Int}(h0:0<=v)(h1:v<=65535):cl (bs (bX v))=(v,true):=by
 obtain⟨u,rfl⟩:=Int.eq_ofNat_of_zero_le h0
 rw[Gw,Lib.itoa_nonneg,amY (by omega)]
theorem acN{v:Int}(h0:0<=v):cH (bX v)=(bX v,false):=by
 obtain⟨u,rfl⟩:=Int.eq_ofNat_of_zero_le h0
 unfold cH
 rw[Gw,Lib.itoa_nonneg,if_neg]
 intro e
 cases hd:Lib.decDigits u with
 | nil=>exact X8 u hd
 | cons x l=>
  rw[hd]at e
  obtain rfl:x=45:=by simpa using e
  have:=VK u 45 (by rw[hd];simp)
  revert this;decide
theorem acM{v:Int}(h0:v<0):cH (bX v)=(bX (-v),true):=by
 obtain⟨u,hu⟩:∃u:Nat,v = -(u:Int):=⟨(-v).toNat,by omega⟩
 subst hu
 unfold cH
 rw[Gw,Lib.itoa_neg u (by omega),if_pos (show(45::Lib.decDigits u).head?=some 45 from rfl)]
 refine Prod.ext (oI ?_) rfl
 rw[ko,Gw,Int.neg_neg,Lib.itoa_nonneg]
 rfl
def aX(c:UInt8):Bool:=decide (33<=c.toNat)&&decide (c.toNat<=126)&&decide (c.toNat≠35)&&decide (c.toNat≠123)&&decide (c.toNat≠125)
structure qd(w:Bs):Prop where
 pos:1<=w.size
 short:w.size<=60
 all:∀c∈bs w,aX c=true
def qE(w:Bs):Prop:=qd w∨w=gJ∨w=bI
theorem uH{c:UInt8}(h:aX c=true):33<=c.toNat/\c.toNat<=126/\c.toNat≠35/\c.toNat≠123/\c.toNat≠125:=by
 simpa[aX,and_assoc]using h
theorem Cm{w:Bs}(h:qd w):iI w=false:=by
 obtain⟨c,hc⟩:∃c,c∈bs w:=by
  cases hw:bs w with
  | nil=>have:=h.pos;rw[<-aP,hw]at this;simp at this
  | cons c l=>exact⟨c,by simp⟩
 have h1:=uH (h.all c hc)
 unfold iI
 have no:∀l:List UInt8,(∀x∈l,x.toNat=10∨x.toNat=123∨x.toNat=125)->w≠mk l:=λl hl e=>by
  rw[e,ko]at hc
  have:=hl c hc
  omega
 change (decide (w=mk [])||decide (w=mk [10])||decide (w=mk [123])||decide (w=mk [125]))=false
 rw[decide_eq_false (no [] (by simp)),decide_eq_false (no [10] (by simp)),decide_eq_false (no [123] (by simp)),decide_eq_false (no [125] (by simp))]
 rfl
theorem kE{v:Int}(h0 : -65535<=v)(h1:v<=65535):qd (bX v):=by
 have hd:∀x,uw x=true->aX x=true:=λx hx=>by
  simp only[uw,aX,Bool.and_eq_true,decide_eq_true_eq]at hx ⊢;omega
 by_cases h:v<0
 ·obtain⟨u,hu⟩:∃u:Nat,v = -(u:Int):=⟨(-v).toNat,by omega⟩
  subst hu
  have e:bs (bX (-(u:Int)))=45::Lib.decDigits u:=by rw[Gw,Lib.itoa_neg u (by omega)]
  have hl:=QV 4 u (by omega)
  refine⟨by rw[<-aP,e];simp,by rw[<-aP,e];simp;omega,λc hc=>?_⟩
  rw[e]at hc
  rcases List.mem_cons.1 hc with rfl | hc
  ·decide
  ·exact hd _ (VK u c hc)
 ·obtain⟨u,rfl⟩:=Int.eq_ofNat_of_zero_le (Int.not_lt.1 h)
  have e:bs (bX (u:Int))=Lib.decDigits u:=by rw[Gw,Lib.itoa_nonneg]
  have hl:=QV 4 u (by omega)
  have:=List.length_pos_iff.2 (X8 u)
  exact⟨by rw[<-aP,e];omega,by rw[<-aP,e];omega,λc hc=>hd _ (VK u c (by rwa [e]at hc))⟩
theorem T6{c y:UInt8}:∀{ps:List (List UInt8)},y∈Lib.join ps [c]->y=c∨∃p∈ps,y∈p
 | [],h=>by simp[Lib.join]at h
 | [p],h=>by
  simp[Lib.join,List.intercalate]at h
  exact .inr ⟨p,by simp,h⟩
 | p::q::ps,h=>by
  have e:Lib.join (p::q::ps) [c]=p++([c]++Lib.join (q::ps) [c]):=by simp[Lib.join,List.intercalate]
  rw[e]at h
  rcases List.mem_append.1 h with h | h
  ·exact .inr ⟨p,by simp,h⟩
  ·rcases List.mem_append.1 h with h | h
   ·exact .inl (List.mem_singleton.1 h)
   ·rcases T6 h with h | ⟨x,hx,h⟩
    ·exact .inl h
    ·exact .inr ⟨x,by simp[hx],h⟩
theorem HT{c:UInt8}(hc:aX c=true){ps:List ByteArray}{k:Nat}(h0:ps≠[])(h1:∀p∈ps,1<=p.size/\p.size<=k/\∀x∈bs p,aX x=true)(hk:k*ps.length+ps.length<=60):qd (gI ps (mk [c])):=by
 have hb:bs (gI ps (mk [c]))=Lib.join (ps.map bs) [c]:=by rw[show gI ps (mk [c])=mk (Lib.join (ps.map bs) [c])from rfl,ko]
 have h2:=join_le c (ps.map bs)
 have h3:(ps.map bs).flatten.length<=k*ps.length:=Df λx hx=>(h1 x hx).2.1
 rw[List.length_map]at h2
 refine⟨?_,by rw[<-aP,hb];omega,λx hx=>?_⟩
 ·rw[<-aP,hb]
  cases ps with
  | nil=>exact absurd rfl h0
  | cons p ps=>
   have hp:=(h1 p (by simp)).1
   rw[<-aP]at hp
   cases ps with
   | nil=>simpa[Lib.join,List.intercalate]using hp
   | cons q ps=>
    have e:Lib.join ((p::q::ps).map bs) [c]=bs p++([c]++Lib.join ((q::ps).map bs) [c]):=by simp[Lib.join,List.intercalate]
    rw[e,hU];omega
 ·rw[hb]at hx
  rcases T6 hx with rfl | ⟨p,hp,hx⟩
  ·exact hc
  ·obtain⟨q,hq,rfl⟩:=List.mem_map.1 hp
   exact(h1 q hq).2.2 x hx
theorem PE{d:Nat}(h:d<16):aX (PD d)=true:=by
 have:∀k:Fin 16,aX (PD k.val)=true:=by decide +kernel
 exact this ⟨d,h⟩
theorem Tw{b k u:Nat}(hb:b<=16)(hb0:0<b)(hk:0<k):1<=(mk (dg b k u)).size/\(mk (dg b k u)).size<=k/\∀x∈bs (mk (dg b k u)),aX x=true:=by
 refine⟨VL b u hk,Nn b k u,λx hx=>?_⟩
 rw[ko]at hx
 obtain⟨d,hd,rfl⟩:=QW hb0 hx
 exact PE (by omega)
theorem zP{a:Bs}(h:a.size=4∨a.size=16):qd (pT a):=by
 unfold pT
 rcases h with h | h
 ·rw[if_pos h]
  refine HT (k:=3) (by decide) ?_ (λp hp=>?_) ?_
  ·intro e;have:=congrArg List.length e;rw[List.length_map,aP,h]at this;cases this
  ·obtain⟨x,_,rfl⟩:=List.mem_map.1 hp
   rw[X6];exact Tw (by decide) (by decide) (by decide)
  ·rw[List.length_map,aP,h];decide
 ·rw[if_neg (by omega),if_pos h]
  refine HT (k:=4) (by decide) ?_ (λp hp=>?_) ?_
  ·intro e;have:=congrArg List.length e;rw[List.length_map,Jy,aP,h]at this;cases this
  ·obtain⟨x,_,rfl⟩:=List.mem_map.1 hp
   exact Tw (by decide) (by decide) (by decide)
  ·rw[List.length_map,Jy,aP,h];decide
theorem Kx{x:Cd}(h:xJ x):qd (Sf x):=by
 unfold Sf
 refine HT (k:=2) (by decide) (by simp) (λp hp=>?_) (by simp)
 obtain⟨y,hy,rfl⟩:=List.mem_map.1 hp
 have hb:=h.1 y hy
 obtain⟨k,rfl⟩:=Int.eq_ofNat_of_zero_le hb.1
 have e:=Rl (x:=k) (by omega)
 refine⟨by rw[<-aP,e];simp,by rw[<-aP,e];simp,λc hc=>?_⟩
 rw[e]at hc
 simp only[List.mem_cons,List.not_mem_nil,or_false]at hc
 rcases hc with rfl | rfl<;>exact PE (by omega)
theorem ZN{x:Cd}(h:xJ x):eM (Sf x)=([x.a,x.b,x.c,x.d,x.e,x.f],true):=acz (m:=[x.a,x.b,x.c,x.d,x.e,x.f]) rfl h.1
theorem SV{a:Bs}(h:a.size=4∨a.size=16):eL (pT a)=(a,true):=by rw[af7,if_pos h]
abbrev wd(w:Bs)(k line:Int):Wd:=(w,k,line)
def rs(l:List Wd)(line:Int)(b:Bool):Rd:=⟨l,line,-1,b,false⟩
theorem Tu{s w:Bs}{rest:List UInt8}{k:Nat}(hd:(bs s).drop k=bs w++rest):cut s k ((k+w.size:Nat):Int)=w:=by
 unfold cut
 rw[show((k:Nat):Int).toNat=k from rfl,show((k+w.size:Nat):Int).toNat=k+w.size from rfl,hd,show k+w.size - k=(bs w).length by rw[aP];omega,List.take_left,Li]
theorem DQ{s:Bs}{st:Rd}{c:UInt8}(hc:aX c=true)(hn:st.note=false)(k:Int):ir s st c.toNat k=if st.from'<0 then({st with from':=k},true)else(st,true):=by
 have:=uH hc
 unfold ir
 rw[if_neg (by omega),if_neg (by rw[hn];decide),if_neg (by omega),if_neg (by omega),if_neg (by omega)]
theorem Gy{c:UInt8}(hc:aX c=true):H7 c.toNat=true:=by
 have:=uH hc
 unfold H7
 simp;omega
theorem MP{s:Bs}{st:Rd}{k0:Nat}(hf:st.from'=k0)(hn:st.note=false):∀(w rest:List UInt8) (j:Nat),(∀c∈w,aX c=true)->j+w.length<=60->eU s st ((k0+j:Nat):Int) (w++rest)=eU s st ((k0+j+w.length:Nat):Int) rest
 | [],rest,j,_,_=>rfl
 | c::w,rest,j,h,hl=>by
  have hc:=h c (by simp)
  simp only[List.length_cons]at hl
  have e1:ir s st c.toNat ((k0+j:Nat):Int)=(st,true):=by rw[DQ hc hn,if_neg (by rw[hf];omega)]
  rw[List.cons_append,eU,if_neg (by rw[hf];omega),if_pos (Gy hc),e1]
  simp only[if_true]
  have:=MP (s:=s) hf hn w rest (j+1) (λx hx=>h x (by simp[hx])) (by omega)
  rw[show((k0+j:Nat):Int)+1=((k0+(j+1):Nat):Int)by omega,this]
  congr 1
  simp only[List.length_cons]
  omega
theorem Zd{s w:Bs}{rest:List UInt8}{l:List Wd}{line:Int}{b:Bool}{k:Nat}(hg:qE w)(hd:(bs s).drop k=bs w++rest):
  ∃st:Rd,eU s (rs l line b) k (bs w++rest)=eU s st ((k+w.size:Nat):Int) rest/\st.note=false/\¬(0<=st.from'/\60<((k+w.size:Nat):Int) - st.from')/\gr s st ((k+w.size:Nat):Int)=(rs (l++[wd w k line]) line true,true):=by
 rcases hg with hg | hg
 ·obtain⟨c,u,hw⟩:∃c u,bs w=c::u:=by
   cases hw:bs w with
   | nil=>have:=hg.pos;rw[<-aP,hw]at this;simp at this
   | cons c u=>exact⟨c,u,rfl⟩
  have hz:w.size=u.length+1:=by rw[<-aP,hw];rfl
  have hc:=hg.all c (by rw[hw];simp)
  have hs:=hg.short
  refine⟨{rs l line b with from':=k},?_,rfl,?_,?_⟩
  ·have e1:ir s (rs l line b) c.toNat k=({rs l line b with from':=k},true):=by rw[DQ hc rfl,if_pos (by exact(by decide:(-1:Int)<0))]
   rw[hw,List.cons_append,eU,if_neg (by intro h;have:(0:Int) <= -1:=h.1;omega),if_pos (Gy hc),e1]
   simp only[if_true]
   have:=MP (s:=s) (st:={rs l line b with from':=k}) (k0:=k) rfl rfl u rest 1 (λx hx=>hg.all x (by rw[hw];simp[hx])) (by omega)
   rw[show((k:Nat):Int)+1=((k+1:Nat):Int)by omega,this]
   congr 1
   omega
  ·intro h
   have:60<((k+w.size:Nat):Int) - (k:Int):=h.2
   omega
  ·unfold gr
   rw[if_neg (by show ¬((k:Nat):Int)<0;omega)]
   show(({l:=l++[wd (cut s k ((k+w.size:Nat):Int)) k line],line:=line,from' := -1,vF:=true,note:=false}:Rd),decide ((cut s k ((k+w.size:Nat):Int)).size<=60))=_
   rw[Tu hd,decide_eq_true hs]
   rfl
 ·have aiT:∀c:UInt8,(c=123∨c=125)->bs w=[c]->∃st:Rd,eU s (rs l line b) k (bs w++rest)=eU s st ((k+w.size:Nat):Int) rest/\st.note=false/\¬(0<=st.from'/\60<((k+w.size:Nat):Int) - st.from')/\gr s st ((k+w.size:Nat):Int)=(rs (l++[wd w k line]) line true,true):=by
   intro c hc hw
   have hz:w.size=1:=by rw[<-aP,hw];rfl
   have hct:c.toNat=123∨c.toNat=125:=hc.elim (λh=>.inl (by rw[h];rfl)) λh=>.inr (by rw[h];rfl)
   have e1:ir s (rs l line b) c.toNat k=(rs (l++[wd w k line]) line true,true):=by
    unfold ir
    have e0:gr s (rs l line b) k=(rs l line b,true):=pZ (by exact(by decide:(-1:Int)<0)) _
    rw[if_neg (by omega),if_neg (by show ¬(false=true);decide),if_neg (by omega),if_neg (by omega),if_pos (by omega),e0]
    unfold gr
    rw[if_neg (by show ¬((k:Nat):Int)<0;omega)]
    have aaa:cut s k ((k:Int)+1)=w:=by
     have:=Tu hd
     rw[hz]at this
     exact this
    show(({l:=l++[wd (cut s k ((k:Int)+1)) k line],line:=line,from' := -1,vF:=true,note:=false}:Rd),true)=_
    rw[aaa]
    rfl
   refine⟨rs (l++[wd w k line]) line true,?_,rfl,λh=>by have:(0:Int) <= -1:=h.1;omega,pZ (by exact(by decide:(-1:Int)<0)) _⟩
   rw[hw,List.singleton_append,eU,if_neg (by intro h;have:(0:Int) <= -1:=h.1;omega),if_pos (by unfold H7;simp;omega),e1,hz]
   simp only[if_true]
   rfl
  rcases hg with rfl | rfl
  ·exact aiT 123 (.inl rfl) rfl
  ·exact aiT 125 (.inr rfl) rfl
theorem aiB{s w:Bs}{rest:List UInt8}{l:List Wd}{line:Int}{b:Bool}{k:Nat}(hg:qE w)(hd:(bs s).drop k=bs w++32::rest):
  eU s (rs l line b) k (bs w++32::rest)=eU s (rs (l++[wd w k line]) line true) ((k+w.size+1:Nat):Int) rest:=by
 obtain⟨st,e,hn,LS,he⟩:=Zd (l:=l) (line:=line) (b:=b) hg hd
 have:ir s st (32:UInt8).toNat ((k+w.size:Nat):Int)=(rs (l++[wd w k line]) line true,true):=by
  unfold ir
  rw[if_neg (by decide),if_neg (by rw[hn];decide),if_neg (by decide),if_pos (by decide),he]
 rw[e,eU,if_neg LS,if_pos (by decide),this]
 simp only[if_true]
 rfl
theorem aiA{s w:Bs}{rest:List UInt8}{l:List Wd}{line:Int}{b:Bool}{k:Nat}(hg:qE w)(hd:(bs s).drop k=bs w++10::rest):
  eU s (rs l line b) k (bs w++10::rest)=eU s (rs (l++[wd w k line,wd nl ((k+w.size:Nat):Int) line]) (line+1) false) ((k+w.size+1:Nat):Int) rest:=by
 obtain⟨st,e,hn,LS,he⟩:=Zd (l:=l) (line:=line) (b:=b) hg hd
 have:ir s st (10:UInt8).toNat ((k+w.size:Nat):Int)=(rs (l++[wd w k line,wd nl ((k+w.size:Nat):Int) line]) (line+1) false,true):=by
  unfold ir
  rw[if_pos (by decide),he]
  unfold D0 rs
  simp only[if_true]
  rw[List.append_assoc]
  rfl
 rw[e,eU,if_neg LS,if_pos (by decide),this]
 simp only[if_true]
 rfl
def P0(line:Int):Nat->List Bs->List Wd
 | _,[]=>[]
 | k,[w]=>[wd w k line,wd nl ((k+w.size:Nat):Int) line]
 | k,w::ws=>wd w k line::P0 line (k+w.size+1) ws
theorem aeL(w:Bs):dO [w]=bs w++[10]:=by
 have:gI [w] sp=w:=oI (by simp[gI,Lib.join,List.intercalate,bs])
 unfold dO
 rw[this]
theorem aa3(w v:Bs)(ws:List Bs):dO (w::v::ws)=bs w++32::dO (v::ws):=by
 unfold dO gI
 have e:Lib.join ((w::v::ws).map (·.data.toList)) sp.data.toList=bs w++(32::Lib.join ((v::ws).map (·.data.toList)) sp.data.toList):=by simp[Lib.join,List.intercalate,bs]
 rw[e]
 simp[bs]
theorem YK{s:Bs}(line:Int):∀(ws:List Bs) (k:Nat) (l:List Wd) (b:Bool) (rest:List UInt8),ws≠[]->(∀w∈ws,qE w)->(bs s).drop k=dO ws++rest->
  eU s (rs l line b) k (dO ws++rest)=eU s (rs (l++P0 line k ws) (line+1) false) ((k+(dO ws).length:Nat):Int) rest
 | [],_,_,_,_,h,_,_=>absurd rfl h
 | [w],k,l,b,rest,_,hg,hd=>by
  rw[aeL,List.append_assoc,List.singleton_append]at hd ⊢
  rw[aiA (hg w (by simp)) hd]
  congr 1
  rw[hU,aP,Lf]
  omega
 | w::v::ws,k,l,b,rest,_,hg,hd=>by
  rw[aa3,List.append_assoc,List.cons_append]at hd ⊢
  rw[aiB (hg w (by simp)) hd]
  have hd':(bs s).drop (k+w.size+1)=dO (v::ws)++rest:=by
   have e:k+w.size+1=k+((bs w).length+1):=by rw[aP];omega
   rw[e,<-List.drop_drop,hd,List.drop_append,List.drop_eq_nil_of_le (by omega)]
   simp
  rw[YK line (v::ws) (k+w.size+1) (l++[wd w k line]) true rest (by simp) (λx hx=>hg x (List.mem_cons_of_mem _ hx)) hd']
  rw[List.append_assoc]
  congr 1
  rw[hU,List.length_cons,aP]
  omega
def xX:Int->Nat->List (List Bs)->List Wd
 | _,_,[]=>[]
 | line,k,ws::ls=>P0 line k ws++xX (line+1) (k+(dO ws).length) ls
def pI(ls:List (List Bs)):Prop:=∀ws∈ls,ws≠[]/\∀w∈ws,qE w
theorem Uc{s:Bs}:∀(ls:List (List Bs)) (line:Int) (k:Nat) (l:List Wd) (rest:List UInt8),pI ls->(bs s).drop k=pY ls++rest->
  eU s (rs l line false) k (pY ls++rest)=eU s (rs (l++xX line k ls) (line+ls.length) false) ((k+(pY ls).length:Nat):Int) rest
 | [],line,k,l,rest,_,_=>by simp[pY,xX]
 | ws::ls,line,k,l,rest,hg,hd=>by
  rw[Ol,List.append_assoc]at hd ⊢
  rw[YK line ws k l false _ (hg ws (by simp)).1 (hg ws (by simp)).2 hd]
  have hd':(bs s).drop (k+(dO ws).length)=pY ls++rest:=by rw[<-List.drop_drop,hd,List.drop_left]
  rw[Uc ls (line+1) (k+(dO ws).length) _ rest (λx hx=>hg x (List.mem_cons_of_mem _ hx)) hd']
  rw[List.append_assoc]
  have e1:line+1+(ls.length:Int)=line+((ws::ls).length:Nat):=by simp only[List.length_cons];push_cast;omega
  have e2:k+(dO ws).length+(pY ls).length=k+(dO ws++pY ls).length:=by rw[hU];omega
  rw[e1,e2]
  rfl
theorem SW{ls:List (List Bs)}(hg:pI ls):HE (mk (pY ls))=.inl (xX 1 0 ls):=by
 unfold HE
 have h:=Uc (s:=mk (pY ls)) ls 1 0 [] [] hg (by rw[List.drop_zero,List.append_nil,ko])
 rw[List.append_nil]at h
 rw[ko]
 refine h.trans ?_
 rw[List.nil_append,eU,pZ (by exact(by decide:(-1:Int)<0)),if_pos rfl]
 unfold D0 rs
 simp
def toks(ls:List (List Bs)):List Bs:=ls.flatMap λws=>ws++[nl]
theorem P2(line:Int):∀(ws:List Bs) (k:Nat),ws≠[]->(P0 line k ws).map (·.1)=ws++[nl]
 | [],_,h=>absurd rfl h
 | [w],k,_=>rfl
 | w::v::ws,k,_=>by
  show w::(P0 line (k+w.size+1) (v::ws)).map (·.1)=_
  rw[P2 line (v::ws) _ (by simp)]
  rfl
theorem HY:∀(ls:List (List Bs)) (line:Int) (k:Nat),pI ls->(xX line k ls).map (·.1)=toks ls
 | [],_,_,_=>rfl
 | ws::ls,line,k,hg=>by
  show(P0 line k ws++xX _ _ ls).map (·.1)=(ws++[nl])++toks ls
  rw[List.map_append,P2 line ws k (hg ws (by simp)).1,HY ls _ _ λx hx=>hg x (List.mem_cons_of_mem _ hx)]
def aR(st:St)(k:Nat):St:=aA st {st.p with k:=k}
def Tk(l:List Wd)(k:Nat)(ts:List Bs):Prop:=(l.map (·.1)).drop k=ts
theorem Tk.get{l:List Wd}{k:Nat}{w:Bs}{ts:List Bs}(h:Tk l k (w::ts)):∃x,l[k]?=some x/\x.1=w:=by
 have:(l.map (·.1))[k]?=some w:=by
  have:=congrArg List.head? h
  rwa [List.head?_drop]at this
 rw[List.getElem?_map,Option.map_eq_some_iff]at this
 exact this
theorem Tk.ahA{l:List Wd}{k:Nat}{w:Bs}{ts:List Bs}(h:Tk l k (w::ts)):aa l k=w:=by
 obtain⟨x,e,rfl⟩:=h.get
 unfold aa
 rw[e]
theorem Tk.lt{l:List Wd}{k:Nat}{w:Bs}{ts:List Bs}(h:Tk l k (w::ts)):k<l.length:=by
 obtain⟨x,e,_⟩:=h.get
 exact(sS e).1
theorem Tk.next{l:List Wd}{k:Nat}{w:Bs}{ts:List Bs}(h:Tk l k (w::ts)):Tk l (k+1) ts:=by
 unfold Tk at *
 rw[<-List.drop_drop,h]
 rfl
theorem Tk.app{l:List Wd}{k:Nat}:∀{a ts:List Bs},Tk l k (a++ts)->Tk l (k+a.length) ts
 | [],_,h=>h
 | w::a,ts,h=>by
  have:=Tk.app (a:=a) (Tk.next h)
  rwa [show k+1+a.length=k+(w::a).length by simp only[List.length_cons];omega]at this
section
variable {s:Bs}{l:List Wd}
theorem RL{p:Ps}{w:Bs}{ts:List Bs}(h:Tk l p.k (w::ts)):dS s l w p=({p with k:=p.k+1},true):=by
 unfold dS;rw[h.ahA,if_pos rfl]
theorem zX{p:Ps}{w:Bs}{ts:List Bs}(h:Tk l p.k (w::ts))(hw:iI w=false):aS s l p=({p with k:=p.k+1},w,bA s l p.k,true):=by
 unfold aS;rw[h.ahA,if_neg (by rw[hw];decide)]
theorem akN{st:St}{ts:List Bs}(h:Tk l st.p.k (nl::ts)):k8 s l st=(aR st (st.p.k+1),true):=by
 unfold k8;rw[RL h];rfl
theorem AD{st:St}{k:Nat}{ts:List Bs}(hk:st.p.k=k)(h:Tk l k (nl::ts)):k8 s l st=(aR st (k+1),true):=by
 subst hk;exact akN h
theorem sA{st:St}{put:St->Int->St}(hk:∀st v,(put st v).p.k=st.p.k){lo hi v:Int}{w:Bs}{ts:List Bs}(h:Tk l st.p.k (w::nl::ts))(hw:qd w)(hn:cl (bs w)=(v,true))(h0:lo<=v)(h1:v<=hi):
  bC s l put lo hi st=(aR (put (aR st (st.p.k+1)) v) (st.p.k+2),true):=by
 unfold bC
 rw[zX h (Cm hw)]
 unfold yL
 simp only
 rw[hn,if_pos ⟨rfl,h0,h1⟩]
 exact AD (hk _ _) h.next
theorem Gf{st:St}{put:St->Int->St}(hk:∀st v,(put st v).p.k=st.p.k){L:List (Bs×Int)}{v:Int}{w:Bs}{ts:List Bs}(h:Tk l st.p.k (w::nl::ts))(hw:iI w=false)(hn:lk L w=some v):
  cM s l put L st=(aR (put (aR st (st.p.k+1)) v) (st.p.k+2),true):=by
 unfold cM
 rw[zX h hw]
 unfold wP
 simp only
 rw[hn]
 exact AD (hk _ _) h.next
theorem Tp{st:St}{put:St->Cd->St}(hk:∀st v,(put st v).p.k=st.p.k){x:Cd}(hx:xJ x){ts:List Bs}(h:Tk l st.p.k (Sf x::nl::ts)):
  nF s l put st=(aR (put (aR st (st.p.k+1)) x) (st.p.k+2),true):=by
 unfold nF
 rw[zX h (Cm (Kx hx))]
 unfold ID
 simp only
 rw[ZN hx,if_pos rfl]
 exact AD (hk _ _) h.next
def aeX(st:St)(x:Bs×Int×Bool):St:=aA st {st.p with ag:=st.p.ag++[x]}
theorem CB{st:St}{put:St->Bs->St}(hk:∀st v,(put st v).p.k=st.p.k){xE:Bool}{a:Bs}(ha:a.size=4∨a.size=16){ts:List Bs}(h:Tk l st.p.k (pT a::nl::ts)):
  bt s l xE (j8 put) st=(aR (put (aeX (aR st (st.p.k+1)) (a,bA s l st.p.k,xE)) a) (st.p.k+2),true):=by
 unfold bt
 rw[zX h (Cm (zP ha))]
 unfold pJ
 simp only
 rw[SV ha,if_pos rfl]
 unfold pE j8
 simp only[if_true]
 exact AD (hk _ _) h.next
theorem aoc{st:St}{a:Bs}(ha:a.size=4∨a.size=16)(hn:a∉st.p.au){ts:List Bs}(h:Tk l st.p.k (pT a::nl::ts)):
  bt s l false zY st=(aA st {st.p with k:=st.p.k+2,ag:=st.p.ag++[(a,bA s l st.p.k,false)],au:=st.p.au++[a]},true):=by
 unfold bt
 rw[zX h (Cm (zP ha))]
 unfold pJ
 simp only
 rw[SV ha,if_pos rfl]
 have e:zY (aA st {st.p with k:=st.p.k+1,ag:=st.p.ag++[(a,bA s l st.p.k,false)]}) a (bA s l st.p.k)=(aA st {st.p with k:=st.p.k+1,ag:=st.p.ag++[(a,bA s l st.p.k,false)],au:=st.p.au++[a]},true):=by
  unfold zY
  rw[if_neg (by rw[show uO a (aA st {st.p with k:=st.p.k+1,ag:=st.p.ag++[(a,bA s l st.p.k,false)]}).p.au=false from Jn hn];decide)]
  rfl
 show pE s l (zY (aA st {st.p with k:=st.p.k+1,ag:=st.p.ag++[(a,bA s l st.p.k,false)]}) a (bA s l st.p.k))=_
 rw[e]
 unfold pE
 simp only[if_true]
 exact AD (k:=st.p.k+1) rfl h.next
theorem N5{p:Ps}{xs:List Bs}{w:Bs}{ts:List Bs}(h:Tk l p.k (w::ts))(hw:qd w)(It:w.size<=40)(hn:w∉xs):cB s l xs p=({p with k:=p.k+1},w,true):=by
 unfold cB
 rw[zX h (Cm hw)]
 unfold Bb
 simp only
 rw[if_neg (by omega),Jn hn,if_neg (by decide)]
theorem ae7{st:St}{x:Bs×Int}{ts:List Bs}(hx:qd x.1)(It:x.1.size<=40)(hn:x.1∉st.p.bh.map (·.1))(h0:x.2≠0)(h1 : -254<=x.2)(h2:x.2<=254)(h:Tk l st.p.k (x.1::bX x.2::nl::ts)):
  pF s l st=(aA st {st.p with k:=st.p.k+3,bh:=st.p.bh++[x]},true):=by
 unfold pF
 rw[N5 h hx It hn]
 show jA s l x.1 st (aS s l {st.p with k:=st.p.k+1})=_
 rw[zX (p:={st.p with k:=st.p.k+1}) h.next (Cm (kE (by omega) (by omega)))]
 unfold jA
 simp only
 by_cases hneg:x.2<0
 ·rw[acM hneg,rS (v := -x.2) (by omega) (by omega),if_pos ⟨rfl,by show 1 <= -x.2;omega,by show -x.2<=254;omega⟩]
  simp only[if_true,Int.neg_neg]
  exact AD (k:=st.p.k+1+1) rfl h.next.next
 ·rw[acN (by omega),rS (by omega) (by omega),if_pos ⟨rfl,by show 1<=x.2;omega,by show x.2<=254;omega⟩]
  simp only[Bool.false_eq_true,if_false]
  exact AD (k:=st.p.k+1+1) rfl h.next.next
inductive uS(s:Bs)(l:List Wd)(L:List (Bs×Key)):List (Bs×Int)->St->List (Bs×Int)->St->Prop
 | refl (M:List (Bs×Int)) (st:St):uS s l L M st M st
 | step {M M2:List (Bs×Int)} {st st' tK:St} {w:Bs} {key:Key} (hlt:st.p.k<l.length) (hp:aa l st.p.k=w) (hw:w≠bI) (hl:lk L w=some key) (hc:cnt M w<key.most) (hs:key.sem (aR st (st.p.k+1))=(st',true)) (hk:st.p.k<st'.p.k) (t:uS s l L (pt M w (cnt M w+1)) st' M2 tK):uS s l L M st M2 tK
variable {L:List (Bs×Key)}
theorem uS.one{M:List (Bs×Int)}{st st':St}{w:Bs}{ts:List Bs}{key:Key}(hT:Tk l st.p.k (w::ts))(hw:w≠bI)(hl:lk L w=some key)(hc:cnt M w<key.most)(hs:key.sem (aR st (st.p.k+1))=(st',true))(hk:st.p.k<st'.p.k):uS s l L M st (pt M w (cnt M w+1)) st':=
 .step hT.lt hT.ahA hw hl hc hs hk (.refl _ _)
theorem uS.trans{M M1 M2:List (Bs×Int)}{st vV tK:St}(a:uS s l L M st M1 vV)(b:uS s l L M1 vV M2 tK):uS s l L M st M2 tK:=by
 induction a with
 | refl=>exact b
 | step h1 h2 h3 h4 h5 h6 h7 _ ih=>exact .step h1 h2 h3 h4 h5 h6 h7 (ih b)
theorem uS.body{M M2:List (Bs×Int)}{st tK:St}(a:uS s l L M st M2 tK):∀F,l.length<F+st.p.k->∃F2,l.length<F2+tK.p.k/\cJ s l L F M st=cJ s l L F2 M2 tK:=by
 induction a with
 | refl=>exact λF hF=>⟨F,hF,rfl⟩
 | @step M M2 st st' tK w key hlt hp hw hl hc hs hk t ih=>
  intro F hF
  obtain⟨F,rfl⟩:∃G,F=G+1:=⟨F - 1,by omega⟩
  obtain⟨F2,h2,e⟩:=ih F (by omega)
  refine⟨F2,h2,?_⟩
  rw[<-e,cJ,hp,if_neg (show ¬w=⟨#[125]⟩from hw),hl]
  simp only
  rw[if_neg (by omega),show key.sem (aA st {st.p with k:=st.p.k+1})=(st',true)from hs]
  simp only[if_true]
theorem uS.all{M M2:List (Bs×Int)}{st tK:St}(a:uS s l L M st M2 tK):∀F,l.length<F+st.p.k->∃F2,l.length<F2+tK.p.k/\oG s l L F M st=oG s l L F2 M2 tK:=by
 induction a with
 | refl=>exact λF hF=>⟨F,hF,rfl⟩
 | @step M M2 st st' tK w key hlt hp hw hl hc hs hk t ih=>
  intro F hF
  obtain⟨F,rfl⟩:∃G,F=G+1:=⟨F - 1,by omega⟩
  obtain⟨F2,h2,e⟩:=ih F (by omega)
  refine⟨F2,h2,?_⟩
  rw[<-e,oG,if_pos hlt,hp,hl]
  simp only
  rw[if_neg (by omega),show key.sem (aA st {st.p with k:=st.p.k+1})=(st',true)from hs]
  simp only[if_true]
theorem CE{M2:List (Bs×Int)}{st tK:St}{ts ts2:List Bs}(hT:Tk l st.p.k (gJ::nl::ts))(a:uS s l L [] (aR st (st.p.k+2)) M2 tK)(hT2:Tk l tK.p.k (bI::nl::ts2)):
  bL s l L st=if sI L M2=true then(aA tK (bE tK.p (bA s l tK.p.k) 183),false)else(aR tK (tK.p.k+2),true):=by
 unfold bL
 rw[RL (w:=⟨#[123]⟩) (ts:=nl::ts) hT]
 simp only[if_true]
 rw[RL (p:={st.p with k:=st.p.k+1}) hT.next]
 simp only[if_true]
 obtain⟨F2,h2,e⟩:=a.body (l.length+1) (by show l.length<l.length+1+(st.p.k+2);omega)
 have hlt:=hT2.lt
 refine Eq.trans e ?_
 obtain⟨F2,rfl⟩:∃G,F2=G+1:=⟨F2 - 1,by omega⟩
 rw[cJ,hT2.ahA,if_pos (show bI=⟨#[125]⟩from rfl)]
 unfold tU
 split
 ·rfl
 ·exact AD (k:=tK.p.k+1) rfl hT2.next
end
def xu(b:Bool)(ws:List Bs):List (List Bs):=if b=true then[ws]else[]
def Ht(b1 b2 b3:Bool)(p:Ps):List (List Bs):=xu b1 [kz,Sf p.bH]++(xu b2 [bq,pT p.addr]++xu b3 [rQ,pT p.peer])
def Cs(b1 b2 b3:Bool)(p:Ps):List (List Bs):=xu b1 [Pd,bX p.id]++(xu b2 [tr,bX p.prio]++(xu b3 [ni,bX p.every]++([[fL,if p.pre=true then Dk else Rq]]++(jN p.au++ud p.bh))))
theorem bu(a b:List (List Bs)):toks (a++b)=toks a++toks b:=by simp[toks]
theorem oe(a:List Bs)(b:List (List Bs)):toks (a::b)=(a++[nl])++toks b:=rfl
theorem UU:toks []=[]:=rfl
def abR(sp:List (Bs×Int×Bool))(f:Bs->Bool->Prop):Prop:=∀x∈sp,f x.1 x.2.2
section
variable {s:Bs}{l:List Wd}{L:List (Bs×Key)}
theorem gV{b:Bool}{w:Bs}{vs ts:List Bs}{M:List (Bs×Int)}{st vV:St}{key:Key}(hl:lk L w=some key)(hw:w≠bI)(hc:b=true->cnt M w<key.most)(hT:Tk l st.p.k (toks (xu b (w::vs))++ts))
  (hs:b=true->Tk l (st.p.k+1) (vs++nl::ts)->key.sem (aR st (st.p.k+1))=(vV,true)) (hk:vV.p.k=st.p.k+(vs.length+2)):
  ∃M' st',st'=(if b=true then vV else st)/\uS s l L M st M' st'/\Tk l st'.p.k ts/\cnt M' w=cnt M w+(if b=true then 1 else 0)/\(∀v,v≠w->cnt M' v=cnt M v)/\st'.p.k=st.p.k+(toks (xu b (w::vs))).length:=by
 cases b with
 | false=>exact⟨M,st,rfl,.refl _ _,hT,by simp,λv _=>rfl,rfl⟩
 | true=>
  have hT:Tk l st.p.k (w::(vs++nl::ts)):=by simpa[toks,xu]using hT
  refine⟨_,vV,rfl,.one hT hw hl (hc rfl) (hs rfl hT.next) (by show st.p.k<vV.p.k;omega),?_,?_,λv hv=>?_,?_⟩
  ·have:=(Tk.app (a:=vs++[nl]) (ts:=ts) (by simpa using hT.next))
   rw[hk,show st.p.k+(vs.length+2)=st.p.k+1+(vs++[nl]).length by simp only[hU,Lf];omega]
   exact this
  ·rw[aB]
   simp
  ·rw[aB,if_neg hv]
  ·simp only[if_true,toks,xu,List.flatMap_cons,List.flatMap_nil,List.append_nil,hU,List.length_cons,List.length_nil]
   omega
theorem ahn(b1 b2 b3:Bool){p:Ps}(c:xJ p.bH)(ha:p.addr.size=4∨p.addr.size=16)(hp:p.peer.size=4∨p.peer.size=16){st:St}{ts:List Bs}(hT:Tk l st.p.k (gJ::nl::(toks (Ht b1 b2 b3 p)++bI::nl::ts))):
  ∃tK,Tk l tK.p.k (bI::nl::ts)/\tK.p.code=st.p.code/\tK.p.k=st.p.k+2+(toks (Ht b1 b2 b3 p)).length/\
   vv s l st=(if(b1&&(b2&&b3))=true then(aR tK (tK.p.k+2),true)else(aA tK (bE tK.p (bA s l tK.p.k) 183),false))/\
   ((b1&&(b2&&b3))=true->∃k sp,tK=aA st {st.p with k:=k,bH:=p.bH,addr:=p.addr,peer:=p.peer,ag:=st.p.ag++sp}/\abR sp λa v=>v=false/\(a=p.addr∨a=p.peer)):=by
 have Wg:=hT.next.next
 unfold Ht at Wg
 rw[bu,bu,List.append_assoc,List.append_assoc]at Wg
 obtain⟨M1,vV,Fm,w1,t1,c1,d1,e1⟩:=gV (s:=s) (L:=vu s l) (b:=b1) (M:=[]) (st:=aR st (st.p.k+2)) (w:=kz) (vs:=[Sf p.bH]) (key:=(ou kz 1 true (nF s l vB)).2) rfl (by decide) (λ_=>(by decide:cnt [] kz<1)) Wg
  (λ_ h=>Tp (st:=aR (aR st (st.p.k+2)) (st.p.k+2+1)) (put:=vB) (λ_ _=>rfl) c h) rfl
 obtain⟨M2,tK,Fo,w2,t2,c2,d2,e2⟩:=gV (s:=s) (L:=vu s l) (b:=b2) (M:=M1) (st:=vV) (w:=bq) (vs:=[pT p.addr]) (key:=(ou bq 1 true (bt s l false (j8 AK))).2) rfl (by decide) (λ_=>by rw[d1 _ (by decide)];exact(by decide:cnt [] bq<1)) t1
  (λ_ h=>CB (st:=aR vV (vV.p.k+1)) (put:=AK) (λ_ _=>rfl) ha h) rfl
 obtain⟨M3,OL,Dg,w3,t3,c3,d3,e3⟩:=gV (s:=s) (L:=vu s l) (b:=b3) (M:=M2) (st:=tK) (w:=rQ) (vs:=[pT p.peer]) (key:=(ou rQ 1 true (bt s l false (j8 AM))).2) rfl (by decide) (λ_=>by rw[d2 _ (by decide),d1 _ (by decide)];exact(by decide:cnt [] rQ<1)) t2
  (λ_ h=>CB (st:=aR tK (tK.p.k+1)) (put:=AM) (λ_ _=>rfl) hp h) rfl
 have hb:=CE hT (w1.trans (w2.trans w3)) t3
 have zB:sI (vu s l) M3=!(b1&&(b2&&b3)):=by
  have k1:cnt M3 kz=0+(if b1=true then 1 else 0):=by rw[d3 _ (by decide),d2 _ (by decide),c1];rfl
  have k2:cnt M3 bq=0+(if b2=true then 1 else 0):=by rw[d3 _ (by decide),c2,d1 _ (by decide)];rfl
  have k3:cnt M3 rQ=0+(if b3=true then 1 else 0):=by rw[c3,d2 _ (by decide),d1 _ (by decide)];rfl
  show(true&&decide (cnt M3 kz=0)||(true&&decide (cnt M3 bq=0)||(true&&decide (cnt M3 rQ=0)||false)))=_
  rw[k1,k2,k3]
  cases b1<;>cases b2<;>cases b3<;>rfl
 refine⟨OL,t3,?_,?_,?_,?_⟩
 ·rw[Dg,Fo,Fm]
  cases b1<;>cases b2<;>cases b3<;>rfl
 ·unfold Ht
  rw[e3,e2,e1,bu,bu,hU,hU]
  show st.p.k+2+_+_+_=_
  omega
 ·unfold vv
  rw[hb,zB]
  cases(b1&&(b2&&b3))<;>rfl
 ·intro hall
  simp only[Bool.and_eq_true]at hall
  obtain⟨rfl,rfl,rfl⟩:=hall
  simp only[if_true]at Fm Fo Dg
  subst Fm;subst Fo
  obtain⟨x,y,hsp⟩:∃x y,OL.p.ag=st.p.ag++[(p.addr,x,false),(p.peer,y,false)]:=⟨_,_,by rw[Dg];exact List.append_assoc _ _ _⟩
  refine⟨OL.p.k,[(p.addr,x,false),(p.peer,y,false)],?_,?_⟩
  ·rw[<-hsp,Dg]
   rfl
  ·intro x hx
   simp only[List.mem_cons,List.not_mem_nil,or_false]at hx
   rcases hx with rfl | rfl
   ·exact⟨rfl,.inl rfl⟩
   ·exact⟨rfl,.inr rfl⟩
theorem Qx:∀(vs:List Bs) (M:List (Bs×Int)) (st:St) (ts:List Bs),(∀a∈vs,a.size=4∨a.size=16)->(st.p.au++vs).Nodup->cnt M jt+vs.length<=8->Tk l st.p.k (toks (jN vs)++ts)->
  ∃M2 sp,uS s l (iO s l) M st M2 (aA st {st.p with k:=st.p.k+(toks (jN vs)).length,au:=st.p.au++vs,ag:=st.p.ag++sp})/\cnt M2 jt=cnt M jt+vs.length/\(∀w,w≠jt->cnt M2 w=cnt M w)/\abR sp λa v=>v=false/\a∈vs
 | [],M,st,ts,_,_,_,hT=>⟨M,[],by
   have:aA st {st.p with k:=st.p.k+(toks (jN [])).length,au:=st.p.au++[],ag:=st.p.ag++[]}=st:=by
    simp[aA,jN,toks]
   rw[this];exact .refl _ _,by simp,λ_ _=>rfl,λx hx=>by cases hx⟩
 | a::vs,M,st,ts,hs,hn,hc,hT=>by
  have hT:Tk l st.p.k (jt::pT a::nl::(toks (jN vs)++ts)):=hT
  simp only[List.length_cons]at hc
  have hna:a∉st.p.au:=λh=>(List.nodup_append.1 hn).2.2 a h a (by simp) rfl
  have h1:=aoc (s:=s) (l:=l) (st:=aR st (st.p.k+1)) (hs a (by simp)) hna hT.next
  have w1:uS s l (iO s l) M st (pt M jt (cnt M jt+1)) _:=uS.one (key:=(ou jt 8 true (bt s l false zY)).2) hT (by decide) rfl (by show cnt M jt<8;omega) h1 (by show st.p.k<st.p.k+1+2;omega)
  obtain⟨M2,sp,w2,c2,c3,q⟩:=Qx vs (pt M jt (cnt M jt+1)) (aA (aR st (st.p.k+1)) {(aR st (st.p.k+1)).p with k:=(aR st (st.p.k+1)).p.k+2,ag:=(aR st (st.p.k+1)).p.ag++[(a,bA s l (aR st (st.p.k+1)).p.k,false)],au:=(aR st (st.p.k+1)).p.au++[a]}) ts (λx hx=>hs x (by simp[hx])) (by
   show((st.p.au++[a])++vs).Nodup
   simpa using hn) (by rw[aB,if_pos rfl];omega) (show Tk l (st.p.k+1+2) _ from hT.next.next.next)
  refine⟨M2,(a,bA s l (aR st (st.p.k+1)).p.k,false)::sp,?_,?_,λw hw=>?_,λx hx=>?_⟩
  ·refine w1.trans ?_
   have e:∀k1 k2:Nat,k1=k2->aA (aA (aR st (st.p.k+1)) {(aR st (st.p.k+1)).p with k:=(aR st (st.p.k+1)).p.k+2,ag:=(aR st (st.p.k+1)).p.ag++[(a,bA s l (aR st (st.p.k+1)).p.k,false)],au:=(aR st (st.p.k+1)).p.au++[a]})
     {(aA (aR st (st.p.k+1)) {(aR st (st.p.k+1)).p with k:=(aR st (st.p.k+1)).p.k+2,ag:=(aR st (st.p.k+1)).p.ag++[(a,bA s l (aR st (st.p.k+1)).p.k,false)],au:=(aR st (st.p.k+1)).p.au++[a]}).p with k:=k1,au:=(st.p.au++[a])++vs,ag:=(st.p.ag++[(a,bA s l (aR st (st.p.k+1)).p.k,false)])++sp}
     = aA st {st.p with k:=k2,au:=st.p.au++a::vs,ag:=st.p.ag++(a,bA s l (aR st (st.p.k+1)).p.k,false)::sp}:=by
    rintro k1 _ rfl
    simp[aA,aR]
   rw[<-e _ _ ?_]
   ·exact w2
   ·show st.p.k+1+2+_=st.p.k+(toks (jN (a::vs))).length
    have:(toks (jN (a::vs))).length=3+(toks (jN vs)).length:=by
     show(jt::pT a::nl::toks (jN vs)).length=_
     simp only[List.length_cons];omega
    omega
  ·rw[c2,aB,if_pos rfl];simp only[List.length_cons];push_cast;omega
  ·rw[c3 w hw,aB,if_neg hw]
  ·rcases List.mem_cons.1 hx with rfl | hx
   ·exact⟨rfl,by simp⟩
   ·exact⟨(q x hx).1,by simp[(q x hx).2]⟩
structure TrC(x:Bs×Int):Prop where
 name:qd x.1
 n40:x.1.size<=40
 ne:x.2≠0
 lo : -254<=x.2
 hi:x.2<=254
theorem UX:∀(vs:List (Bs×Int)) (M:List (Bs×Int)) (st:St) (ts:List Bs),(∀x∈vs,TrC x)->((st.p.bh++vs).map (·.1)).Nodup->cnt M iL+vs.length<=8->Tk l st.p.k (toks (ud vs)++ts)->
  ∃M2,uS s l (iO s l) M st M2 (aA st {st.p with k:=st.p.k+(toks (ud vs)).length,bh:=st.p.bh++vs})/\∀w,w≠iL->cnt M2 w=cnt M w
 | [],M,st,ts,_,_,_,hT=>⟨M,by
   have:aA st {st.p with k:=st.p.k+(toks (ud [])).length,bh:=st.p.bh++[]}=st:=by
    simp[aA,ud,toks]
   rw[this];exact .refl _ _,λ_ _=>rfl⟩
 | a::vs,M,st,ts,hs,hn,hc,hT=>by
  have hT:Tk l st.p.k (iL::a.1::bX a.2::nl::(toks (ud vs)++ts)):=hT
  simp only[List.length_cons]at hc
  have ha:=hs a (by simp)
  have hna:a.1∉st.p.bh.map (·.1):=λh=>by
   rw[List.map_append]at hn
   exact(List.nodup_append.1 hn).2.2 a.1 h a.1 (by simp) rfl
  have h1:=ae7 (s:=s) (l:=l) (st:=aR st (st.p.k+1)) ha.name ha.n40 hna ha.ne ha.lo ha.hi hT.next
  have w1:uS s l (iO s l) M st (pt M iL (cnt M iL+1)) _:=uS.one (key:=(ou iL 8 false (pF s l)).2) hT (by decide) rfl (by show cnt M iL<8;omega) h1 (by show st.p.k<st.p.k+1+3;omega)
  obtain⟨M2,w2,c3⟩:=UX vs (pt M iL (cnt M iL+1)) (aA (aR st (st.p.k+1)) {(aR st (st.p.k+1)).p with k:=(aR st (st.p.k+1)).p.k+3,bh:=(aR st (st.p.k+1)).p.bh++[a]}) ts (λx hx=>hs x (by simp[hx])) (by
   show(((st.p.bh++[a])++vs).map (·.1)).Nodup
   simpa using hn) (by rw[aB,if_pos rfl];omega) (show Tk l (st.p.k+1+3) _ from hT.next.next.next.next)
  refine⟨M2,w1.trans ?_,λw hw=>by rw[c3 w hw,aB,if_neg hw]⟩
  have e:∀k1 k2:Nat,k1=k2->aA (aA (aR st (st.p.k+1)) {(aR st (st.p.k+1)).p with k:=(aR st (st.p.k+1)).p.k+3,bh:=(aR st (st.p.k+1)).p.bh++[a]})
    {(aA (aR st (st.p.k+1)) {(aR st (st.p.k+1)).p with k:=(aR st (st.p.k+1)).p.k+3,bh:=(aR st (st.p.k+1)).p.bh++[a]}).p with k:=k1,bh:=(st.p.bh++[a])++vs}
    = aA st {st.p with k:=k2,bh:=st.p.bh++a::vs}:=by
   rintro k1 _ rfl
   simp[aA,aR]
  rw[<-e _ _ ?_]
  ·exact w2
  ·show st.p.k+1+3+_=st.p.k+(toks (ud (a::vs))).length
   have:(toks (ud (a::vs))).length=4+(toks (ud vs)).length:=by
    show(iL::a.1::bX a.2::nl::toks (ud vs)).length=_
    simp only[List.length_cons];omega
   omega
end
structure BkC(A:Nat)(x:Bk):Prop where
 name:qd x.name
 n40:x.name.size<=40
 addr:x.addr.size=A
 bH:xJ x.bH
 port:0<=x.port/\x.port<=65535
 weight:1<=x.weight/\x.weight<=100
structure SvC(A:Nat)(V:List Bs)(x:Sv):Prop where
 name:qd x.name
 n40:x.name.size<=40
 D1:x.D1∈V
 proto:x.proto=6∨x.proto=17
 port:1<=x.port/\x.port<=65535
 mode:x.mode=1∨x.mode=2∨x.mode=3
 sched:x.sched=1∨x.sched=2
 ju:1<=x.ju/\x.ju<=20
 jr:1<=x.jr/\x.jr<=20
 probe:1<=x.probe/\x.probe<=10000
 bf:∀b∈x.bf,BkC A b
 nd:(x.bf.map (·.name)).Nodup
 n:1<=x.bf.length/\x.bf.length<=16
structure Lx(p:Ps):Prop where
 addr:p.addr.size=4∨p.addr.size=16
 bH:xJ p.bH
 peer:p.peer.size=p.addr.size
 id:1<=p.id/\p.id<=255
 prio:1<=p.prio/\p.prio<=255
 every:1<=p.every/\p.every<=4095
 au:∀a∈p.au,a.size=p.addr.size
 vnd:p.au.Nodup
 vn:1<=p.au.length/\p.au.length<=8
 bh:∀x∈p.bh,TrC x
 tnd:(p.bh.map (·.1)).Nodup
 tn:p.bh.length<=8
 bB:∀x∈p.bB,SvC p.addr.size p.au x
 snd:(p.bB.map (·.name)).Nodup
 sn:p.bB.length<=4
section
variable {s:Bs}{l:List Wd}
theorem aix(b1 b2 b3:Bool){p:Ps}(c:Lx p){st:St}(hv:st.p.au=[])(ht:st.p.bh=[])(h0:st.p.code=0){ts:List Bs}(hT:Tk l st.p.k (gJ::nl::(toks (Cs b1 b2 b3 p)++bI::nl::ts))):
  (((b1&&(b2&&b3))=false->(oE s l st).2=false/\(oE s l st).1.p.code=183/\(oE s l st).1.p.bad=bA s l (st.p.k+2+(toks (Cs b1 b2 b3 p)).length))/\
   ((b1&&(b2&&b3))=true->∃sp y,oE s l st=({st with p:={st.p with k:=st.p.k+2+(toks (Cs b1 b2 b3 p)).length+2,id:=p.id,prio:=p.prio,every:=p.every,pre:=p.pre,au:=p.au,bh:=p.bh,ag:=st.p.ag++sp},yes:=y},true)/\abR sp λa v=>v=false/\a∈p.au)):=by
 have Wg:=hT.next.next
 have hT0:Tk l ({st with yes:=1}:St).p.k _:=hT
 unfold Cs at Wg
 rw[bu,bu,bu,bu,bu,List.append_assoc,List.append_assoc,List.append_assoc,List.append_assoc,List.append_assoc]at Wg
 have hY:∃v,(v==1)=p.pre/\lk JS (if p.pre=true then Dk else Rq)=some v/\iI (if p.pre=true then Dk else Rq)=false:=by
  cases p.pre with
  | true=>exact⟨1,rfl,rfl,by decide⟩
  | false=>exact⟨0,rfl,rfl,by decide⟩
 obtain⟨y,hy1,Ve,hy3⟩:=hY
 obtain⟨M1,vV,Fm,w1,t1,c1,d1,e1⟩:=gV (s:=s) (L:=iO s l) (b:=b1) (M:=[]) (st:=aR {st with yes:=1} (st.p.k+2)) (w:=Pd) (vs:=[bX p.id]) (key:=(ou Pd 1 true (bC s l FL 1 255)).2) rfl (by decide) (λ_=>(by decide:cnt [] Pd<1)) Wg
  (λ_ h=>sA (st:=aR (aR {st with yes:=1} (st.p.k+2)) (st.p.k+2+1)) (put:=FL) (λ_ _=>rfl) h (kE (by have:=c.id;omega) (by have:=c.id;omega)) (rS (by have:=c.id;omega) (by have:=c.id;omega)) c.id.1 c.id.2) rfl
 obtain⟨M2,tK,Fo,w2,t2,c2,d2,e2⟩:=gV (s:=s) (L:=iO s l) (b:=b2) (M:=M1) (st:=vV) (w:=tr) (vs:=[bX p.prio]) (key:=(ou tr 1 true (bC s l vC 1 255)).2) rfl (by decide) (λ_=>by rw[d1 _ (by decide)];exact(by decide:cnt [] tr<1)) t1
  (λ_ h=>sA (st:=aR vV (vV.p.k+1)) (put:=vC) (λ_ _=>rfl) h (kE (by have:=c.prio;omega) (by have:=c.prio;omega)) (rS (by have:=c.prio;omega) (by have:=c.prio;omega)) c.prio.1 c.prio.2) rfl
 obtain⟨M3,OL,Dg,w3,t3,c3,d3,e3⟩:=gV (s:=s) (L:=iO s l) (b:=b3) (M:=M2) (st:=tK) (w:=ni) (vs:=[bX p.every]) (key:=(ou ni 1 true (bC s l rY 1 4095)).2) rfl (by decide) (λ_=>by rw[d2 _ (by decide),d1 _ (by decide)];exact(by decide:cnt [] ni<1)) t2
  (λ_ h=>sA (st:=aR tK (tK.p.k+1)) (put:=rY) (λ_ _=>rfl) h (kE (by have:=c.every;omega) (by have:=c.every;omega)) (rS (by have:=c.every;omega) (by have:=c.every;omega)) c.every.1 c.every.2) rfl
 obtain⟨M4,ri,Je,w4,t4,c4,d4,e4⟩:=gV (s:=s) (L:=iO s l) (b:=true) (M:=M3) (st:=OL) (w:=fL) (vs:=[if p.pre=true then Dk else Rq]) (key:=(ou fL 1 false (cM s l xY JS)).2) rfl (by decide) (λ_=>by rw[d3 _ (by decide),d2 _ (by decide),d1 _ (by decide)];exact(by decide:cnt [] fL<1)) t3
  (λ_ h=>Gf (st:=aR OL (OL.p.k+1)) (put:=xY) (λ_ _=>rfl) h hy3 Ve) rfl
 simp only[if_true]at Je
 have hv4:ri.p.au=[]:=by
  rw[Je]
  show OL.p.au=[]
  rw[Dg,Fo,Fm]
  cases b1<;>cases b2<;>cases b3<;>exact hv
 have ht4:ri.p.bh=[]:=by
  rw[Je]
  show OL.p.bh=[]
  rw[Dg,Fo,Fm]
  cases b1<;>cases b2<;>cases b3<;>exact ht
 have h04:ri.p.code=0:=by
  rw[Je]
  show OL.p.code=0
  rw[Dg,Fo,Fm]
  cases b1<;>cases b2<;>cases b3<;>exact h0
 have hsz:∀a∈p.au,a.size=4∨a.size=16:=λa ha=>by rw[c.au a ha];exact c.addr
 have hcv:cnt M4 jt=0:=by rw[d4 _ (by decide),d3 _ (by decide),d2 _ (by decide),d1 _ (by decide)];rfl
 have hct:cnt M4 iL=0:=by rw[d4 _ (by decide),d3 _ (by decide),d2 _ (by decide),d1 _ (by decide)];rfl
 obtain⟨M5,sp,w5,c5,d5,hsp⟩:=Qx (s:=s) p.au M4 ri (toks (ud p.bh)++bI::nl::ts) hsz (by rw[hv4];exact c.vnd) (by rw[hcv];have:=c.vn;omega) t4
 obtain⟨M6,w6,d6⟩:=UX (s:=s) p.bh M5 (aA ri {ri.p with k:=ri.p.k+(toks (jN p.au)).length,au:=ri.p.au++p.au,ag:=ri.p.ag++sp}) (bI::nl::ts) c.bh (by
   show((ri.p.bh++p.bh).map (·.1)).Nodup
   rw[ht4];exact c.tnd) (by rw[d5 _ (by decide),hct];have:=c.tn;omega) (Tk.app t4)
 have t6:=Tk.app (k:=ri.p.k+(toks (jN p.au)).length) (Tk.app t4)
 have hb:=CE (s:=s) hT0 (w1.trans (w2.trans (w3.trans (w4.trans (w5.trans w6))))) t6
 have hk:ri.p.k+(toks (jN p.au)).length+(toks (ud p.bh)).length=st.p.k+2+(toks (Cs b1 b2 b3 p)).length:=by
  unfold Cs
  rw[e4,e3,e2,e1,bu,bu,bu,bu,bu]
  simp only[hU]
  show st.p.k+2+_+_+_+_+_+_=_
  have:(toks (xu true [fL,if p.pre=true then Dk else Rq])).length=(toks [[fL,if p.pre=true then Dk else Rq]]).length:=rfl
  omega
 have zB:sI (iO s l) M6=!(b1&&(b2&&b3)):=by
  have k1:cnt M6 Pd=0+(if b1=true then 1 else 0):=by rw[d6 _ (by decide),d5 _ (by decide),d4 _ (by decide),d3 _ (by decide),d2 _ (by decide),c1];rfl
  have k2:cnt M6 tr=0+(if b2=true then 1 else 0):=by rw[d6 _ (by decide),d5 _ (by decide),d4 _ (by decide),d3 _ (by decide),c2,d1 _ (by decide)];rfl
  have k3:cnt M6 ni=0+(if b3=true then 1 else 0):=by rw[d6 _ (by decide),d5 _ (by decide),d4 _ (by decide),c3,d2 _ (by decide),d1 _ (by decide)];rfl
  have k4:decide (cnt M6 jt=0)=false:=by
   rw[d6 _ (by decide),c5,hcv]
   have:=c.vn
   simp;intro h;rw[h]at this;simp at this
  show(true&&decide (cnt M6 Pd=0)||(true&&decide (cnt M6 tr=0)||(true&&decide (cnt M6 ni=0)||(false&&decide (cnt M6 fL=0)||(true&&decide (cnt M6 jt=0)||(false&&decide (cnt M6 iL=0)||false))))))=_
  rw[k1,k2,k3,k4]
  cases b1<;>cases b2<;>cases b3<;>simp
 rw[zB]at hb
 refine⟨λhall=>?_,λhall=>?_⟩
 ·rw[hall,Bool.not_false,if_pos rfl]at hb
  unfold oE
  rw[hb]
  have hf:bE (aA (aA ri {ri.p with k:=ri.p.k+(toks (jN p.au)).length,au:=ri.p.au++p.au,ag:=ri.p.ag++sp}) {(aA ri {ri.p with k:=ri.p.k+(toks (jN p.au)).length,au:=ri.p.au++p.au,ag:=ri.p.ag++sp}).p with k:=(aA ri {ri.p with k:=ri.p.k+(toks (jN p.au)).length,au:=ri.p.au++p.au,ag:=ri.p.ag++sp}).p.k+(toks (ud p.bh)).length,bh:=(aA ri {ri.p with k:=ri.p.k+(toks (jN p.au)).length,au:=ri.p.au++p.au,ag:=ri.p.ag++sp}).p.bh++p.bh}).p
    (bA s l (ri.p.k+(toks (jN p.au)).length+(toks (ud p.bh)).length)) 183=_:=if_pos h04
  refine⟨rfl,?_,?_⟩
  ·exact congrArg Ps.code hf
  ·rw[<-hk]
   exact congrArg Ps.bad hf
 ·rw[hall,Bool.not_true,if_neg (by decide)]at hb
  simp only[Bool.and_eq_true]at hall
  obtain⟨rfl,rfl,rfl⟩:=hall
  simp only[if_true]at Fm Fo Dg
  refine⟨sp,y,?_,hsp⟩
  unfold oE
  rw[hb,<-hk]
  have e5:ri.p.ag=st.p.ag:=by rw[Je,Dg,Fo,Fm];rfl
  show(_,true)=(_,true)
  have hy4:ri.yes=y:=by rw[Je];rfl
  have hx:∀k:Nat,(aep (aR (aA (aA ri {ri.p with k:=ri.p.k+(toks (jN p.au)).length,au:=ri.p.au++p.au,ag:=ri.p.ag++sp}) {(aA ri {ri.p with k:=ri.p.k+(toks (jN p.au)).length,au:=ri.p.au++p.au,ag:=ri.p.ag++sp}).p with k:=(aA ri {ri.p with k:=ri.p.k+(toks (jN p.au)).length,au:=ri.p.au++p.au,ag:=ri.p.ag++sp}).p.k+(toks (ud p.bh)).length,bh:=(aA ri {ri.p with k:=ri.p.k+(toks (jN p.au)).length,au:=ri.p.au++p.au,ag:=ri.p.ag++sp}).p.bh++p.bh}) k,true)).1
    = {ri with p:={ri.p with k:=k,pre:=ri.yes==1,au:=ri.p.au++p.au,bh:=ri.p.bh++p.bh,ag:=ri.p.ag++sp}}:=λ_=>rfl
  refine Prod.ext ?_ rfl
  refine(hx _).trans ?_
  rw[hv4,ht4,e5,hy4,hy1,List.nil_append,List.nil_append,Je,Dg,Fo,Fm]
  rfl
end
set_option maxHeartbeats 2000000
def ZF(x:Bk):List (List Bs):=xu true [bq,pT x.addr]++(xu true [kz,Sf x.bH]++(xu (decide (x.port≠0)) [fK,bX x.port]++xu true [iU,bX x.weight]))
theorem akA(x:Bk):D6 x=[cP,x.name,gJ]::(ZF x++[[bI]]):=by
 unfold D6 ZF xu
 by_cases h:x.port=0
 ·simp[h]
 ·simp[h]
section
variable {s:Bs}{l:List Wd}
theorem Vz{A:Nat}(hA:A=4∨A=16){x:Bk}(c:BkC A x){st:St}(hn:x.name∉st.sv.bf.map (·.name)){ts:List Bs}(hT:Tk l st.p.k (x.name::gJ::nl::(toks (ZF x)++bI::nl::ts))):
  ∃sp,dh s l st=({st with p:={st.p with k:=st.p.k+3+(toks (ZF x)).length+2,ag:=st.p.ag++sp},sv:={st.sv with bf:=st.sv.bf++[x]},bk:=x},true)/\abR sp λa v=>v=false/\a=x.addr:=by
 have hT0:Tk l ({aA st {st.p with k:=st.p.k+1}with bk:=⟨x.name,⟨#[]⟩,EE,0,1⟩}:St).p.k (gJ::nl::(toks (ZF x)++bI::nl::ts)):=hT.next
 have Wg:=hT0.next.next
 unfold ZF at Wg
 rw[bu,bu,bu,List.append_assoc,List.append_assoc,List.append_assoc]at Wg
 have alj:x.addr.size=4∨x.addr.size=16:=by rw[c.addr];exact hA
 obtain⟨M1,vV,Fm,w1,t1,c1,d1,e1⟩:=gV (s:=s) (L:=bN s l) (b:=true) (M:=[]) (st:=aR {aA st {st.p with k:=st.p.k+1}with bk:=⟨x.name,⟨#[]⟩,EE,0,1⟩} (st.p.k+1+2)) (w:=bq) (vs:=[pT x.addr]) (key:=(ou bq 1 true (bt s l false (j8 xy))).2) rfl (by decide) (λ_=>(by decide:cnt [] bq<1)) Wg
  (λ_ h=>CB (st:=aR (aR {aA st {st.p with k:=st.p.k+1}with bk:=⟨x.name,⟨#[]⟩,EE,0,1⟩} (st.p.k+1+2)) (st.p.k+1+2+1)) (put:=xy) (λ_ _=>rfl) alj h) rfl
 obtain⟨M2,tK,Fo,w2,t2,c2,d2,e2⟩:=gV (s:=s) (L:=bN s l) (b:=true) (M:=M1) (st:=vV) (w:=kz) (vs:=[Sf x.bH]) (key:=(ou kz 1 true (nF s l pP)).2) rfl (by decide) (λ_=>by rw[d1 _ (by decide)];exact(by decide:cnt [] kz<1)) t1
  (λ_ h=>Tp (st:=aR vV (vV.p.k+1)) (put:=pP) (λ_ _=>rfl) c.bH h) rfl
 obtain⟨M3,OL,Dg,w3,t3,c3,d3,e3⟩:=gV (s:=s) (L:=bN s l) (b:=decide (x.port≠0)) (M:=M2) (st:=tK) (w:=fK) (vs:=[bX x.port]) (key:=(ou fK 1 false (bC s l pQ 1 65535)).2) rfl (by decide) (λ_=>by rw[d2 _ (by decide),d1 _ (by decide)];exact(by decide:cnt [] fK<1)) t2
  (λhb h=>sA (st:=aR tK (tK.p.k+1)) (put:=pQ) (λ_ _=>rfl) h (kE (by have:=c.port;omega) (by have:=c.port;omega)) (rS (by have:=c.port;omega) (by have:=c.port;omega)) (by have:=c.port;have:=of_decide_eq_true hb;omega) c.port.2) rfl
 obtain⟨M4,ri,Je,w4,t4,c4,d4,e4⟩:=gV (s:=s) (L:=bN s l) (b:=true) (M:=M3) (st:=OL) (w:=iU) (vs:=[bX x.weight]) (key:=(ou iU 1 false (bC s l jE 1 100)).2) rfl (by decide) (λ_=>by rw[d3 _ (by decide),d2 _ (by decide),d1 _ (by decide)];exact(by decide:cnt [] iU<1)) t3
  (λ_ h=>sA (st:=aR OL (OL.p.k+1)) (put:=jE) (λ_ _=>rfl) h (kE (by have:=c.weight;omega) (by have:=c.weight;omega)) (rS (by have:=c.weight;omega) (by have:=c.weight;omega)) c.weight.1 c.weight.2) rfl
 have hb:=CE hT0 (w1.trans (w2.trans (w3.trans w4))) t4
 have zB:sI (bN s l) M4=false:=by
  have k1:cnt M4 bq=1:=by rw[d4 _ (by decide),d3 _ (by decide),d2 _ (by decide),c1];rfl
  have k2:cnt M4 kz=1:=by rw[d4 _ (by decide),d3 _ (by decide),c2,d1 _ (by decide)];rfl
  show(true&&decide (cnt M4 bq=0)||(true&&decide (cnt M4 kz=0)||(false&&decide (cnt M4 fK=0)||(false&&decide (cnt M4 iU=0)||false))))=_
  rw[k1,k2];rfl
 rw[zB,if_neg (by decide)]at hb
 simp only[if_true]at Fm Fo Je
 have hk:ri.p.k=st.p.k+3+(toks (ZF x)).length:=by
  unfold ZF
  rw[e4,e3,e2,e1,bu,bu,bu]
  simp only[hU]
  show st.p.k+1+2+_+_+_+_=_
  omega
 refine⟨[(x.addr,bA s l (st.p.k+1+2+1),false)],?_,λy hy=>?_⟩
 ·unfold dh
  rw[N5 hT c.name c.n40 hn]
  show Oi (bL s l (bN s l) {aA st {st.p with k:=st.p.k+1}with bk:=⟨x.name,⟨#[]⟩,EE,0,1⟩})=_
  rw[hb,hk]
  have key:ri={st with p:={st.p with k:=ri.p.k,ag:=st.p.ag++[(x.addr,bA s l (st.p.k+1+2+1),false)]},bk:=x}:=by
   by_cases hp:x.port=0
   ·have hb0:decide (x.port≠0)=false:=by simp[hp]
    rw[hb0]at Dg
    rw[Je,Dg,Fo,Fm]
    obtain⟨nm,ad,cd,po,we⟩:=x
    obtain rfl:po=0:=hp
    rfl
   ·have hb0:decide (x.port≠0)=true:=by simp[hp]
    rw[hb0]at Dg
    rw[Je,Dg,Fo,Fm]
    rfl
  rw[key]
  rfl
 ·obtain rfl:=List.mem_singleton.1 hy
  exact⟨rfl,rfl⟩
abbrev SpS(A:Nat)(V:List Bs)(sp:List (Bs×Int×Bool)):Prop:=abR sp λa v=>a.size=A/\(v=true->a∈V)
theorem SpS.app{A:Nat}{V:List Bs}{a b:List (Bs×Int×Bool)}(h1:SpS A V a)(h2:SpS A V b):SpS A V (a++b):=λx hx=>(List.mem_append.1 hx).elim (h1 x) (h2 x)
theorem MT{A:Nat}(hA:A=4∨A=16)(V:List Bs):∀(bs':List Bk) (M:List (Bs×Int)) (st:St) (ts:List Bs),(∀x∈bs',BkC A x)->((st.sv.bf++bs').map (·.name)).Nodup->cnt M cP+bs'.length<=16->Tk l st.p.k (toks (bs'.flatMap D6)++ts)->
  ∃M2 sp y,uS s l (bR s l) M st M2 {st with p:={st.p with k:=st.p.k+(toks (bs'.flatMap D6)).length,ag:=st.p.ag++sp},sv:={st.sv with bf:=st.sv.bf++bs'},bk:=y}/\cnt M2 cP=cnt M cP+bs'.length/\(∀w,w≠cP->cnt M2 w=cnt M w)/\SpS A V sp
 | [],M,st,ts,_,_,_,hT=>⟨M,[],st.bk,by
   have:({st with p:={st.p with k:=st.p.k+(toks (([]:List Bk).flatMap D6)).length,ag:=st.p.ag++[]},sv:={st.sv with bf:=st.sv.bf++[]},bk:=st.bk}:St)=st:=by
    simp[toks]
   rw[this];exact .refl _ _,by simp,λ_ _=>rfl,λx hx=>by cases hx⟩
 | x::bs',M,st,ts,hs,hn,hc,hT=>by
  have hlen:toks ((x::bs').flatMap D6)=cP::x.name::gJ::nl::(toks (ZF x)++(bI::nl::toks (bs'.flatMap D6))):=by
   rw[List.flatMap_cons,akA,bu,oe,bu,oe,UU]
   simp
  have hT:Tk l st.p.k (cP::x.name::gJ::nl::(toks (ZF x)++(bI::nl::(toks (bs'.flatMap D6)++ts)))):=by
   rw[hlen]at hT
   simpa using hT
  simp only[List.length_cons]at hc
  have hna:x.name∉st.sv.bf.map (·.name):=λh=>by
   rw[List.map_append]at hn
   exact(List.nodup_append.1 hn).2.2 x.name h x.name (by simp) rfl
  obtain⟨sp1,h1,q1⟩:=Vz (s:=s) (l:=l) hA (hs x (by simp)) (st:=aR st (st.p.k+1)) hna hT.next
  have w1:uS s l (bR s l) M st (pt M cP (cnt M cP+1)) _:=uS.one (key:=(ou cP 16 true (dh s l)).2) hT (by decide) rfl (by show cnt M cP<16;omega) h1 (by show st.p.k<st.p.k+1+3+_+2;omega)
  have hT2:Tk l (st.p.k+1+3+(toks (ZF x)).length+2) (toks (bs'.flatMap D6)++ts):=(Tk.app hT.next.next.next.next).next.next
  obtain⟨M2,Vf,y,w2,c2,d2,q2⟩:=MT hA V bs' (pt M cP (cnt M cP+1)) ({aR st (st.p.k+1)with p:={(aR st (st.p.k+1)).p with k:=(aR st (st.p.k+1)).p.k+3+(toks (ZF x)).length+2,ag:=(aR st (st.p.k+1)).p.ag++sp1},sv:={(aR st (st.p.k+1)).sv with bf:=(aR st (st.p.k+1)).sv.bf++[x]},bk:=x}) ts (λy hy=>hs y (by simp[hy])) (by
   show(((st.sv.bf++[x])++bs').map (·.name)).Nodup
   simpa using hn) (by rw[aB,if_pos rfl];omega) hT2
  refine⟨M2,sp1++Vf,y,w1.trans ?_,?_,λw hw=>by rw[d2 w hw,aB,if_neg hw],SpS.app (λz hz=>?_) q2⟩
  ·have e:∀k1 k2:Nat,k1=k2->({aR st (st.p.k+1)with p:={(aR st (st.p.k+1)).p with k:=k1,ag:=(st.p.ag++sp1)++Vf},sv:={(aR st (st.p.k+1)).sv with bf:=(st.sv.bf++[x])++bs'},bk:=y}:St)
     = {st with p:={st.p with k:=k2,ag:=st.p.ag++(sp1++Vf)},sv:={st.sv with bf:=st.sv.bf++x::bs'},bk:=y}:=by
    rintro k1 _ rfl
    simp[aA,aR]
   rw[<-e _ _ ?_]
   ·exact w2
   ·show st.p.k+1+3+(toks (ZF x)).length+2+(toks (bs'.flatMap D6)).length=st.p.k+(toks ((x::bs').flatMap D6)).length
    rw[hlen]
    simp only[List.length_cons,hU];omega
  ·rw[c2,aB,if_pos rfl];simp only[List.length_cons];push_cast;omega
  ·obtain⟨h2,h3⟩:=q1 z hz
   exact⟨by rw[h3];exact(hs x (by simp)).addr,λh=>by rw[h2]at h;cases h⟩
def svT(x:Sv):List (List Bs):=xu true [nj,if x.proto=6 then HV else HW]++(xu true [jt,pT x.D1]++(xu true [fK,bX x.port]++(xu true [th,qY [HU,Ws,zF] x.mode]++(xu true [qw,qY [oR,oS] x.sched]++(xu true [vT,bX x.ju]++(xu true [vS,bX x.jr]++(xu true [qv,bX x.probe]++x.bf.flatMap D6)))))))
theorem anV(x:Sv):UP x=[bF,x.name,gJ]::(svT x++[[bI]]):=by
 unfold UP svT svH xu
 simp
theorem Xm{A:Nat}(hA:A=4∨A=16){V:List Bs}(hV:∀a∈V,a.size=A){x:Sv}(c:SvC A V x){st:St}(hn:x.name∉st.p.bB.map (·.name)){ts:List Bs}(hT:Tk l st.p.k (x.name::gJ::nl::(toks (svT x)++bI::nl::ts))):
  ∃sp y,ew s l st=({st with p:={st.p with k:=st.p.k+3+(toks (svT x)).length+2,ag:=st.p.ag++sp,bB:=st.p.bB++[x]},sv:=Y8,bk:=y},true)/\SpS A V sp:=by
 have hT0:Tk l ({aA st {st.p with k:=st.p.k+1}with sv:=iq x.name}:St).p.k (gJ::nl::(toks (svT x)++bI::nl::ts)):=hT.next
 have Wg:=hT0.next.next
 unfold svT at Wg
 rw[bu,bu,bu,bu,bu,bu,bu,bu,List.append_assoc,List.append_assoc,List.append_assoc,List.append_assoc,List.append_assoc,List.append_assoc,List.append_assoc,List.append_assoc]at Wg
 have alj:x.D1.size=4∨x.D1.size=16:=by rw[hV _ c.D1];exact hA
 have hpr:lk zU (if x.proto=6 then HV else HW)=some x.proto/\iI (if x.proto=6 then HV else HW)=false:=by
  rcases c.proto with h | h<;>rw[h]<;>exact⟨rfl,by decide⟩
 have hmo:lk Fx (qY [HU,Ws,zF] x.mode)=some x.mode/\iI (qY [HU,Ws,zF] x.mode)=false:=by
  rcases c.mode with h | h | h<;>rw[h]<;>exact⟨rfl,by decide⟩
 have hsc:lk zT (qY [oR,oS] x.sched)=some x.sched/\iI (qY [oR,oS] x.sched)=false:=by
  rcases c.sched with h | h<;>rw[h]<;>exact⟨rfl,by decide⟩
 obtain⟨M1,vV,Fm,w1,t1,c1,d1,e1⟩:=gV (s:=s) (L:=bR s l) (b:=true) (M:=[]) (st:=aR {aA st {st.p with k:=st.p.k+1}with sv:=iq x.name} (st.p.k+1+2)) (w:=nj) (vs:=[if x.proto=6 then HV else HW]) (key:=(ou nj 1 true (cM s l lu zU)).2) rfl (by decide) (λ_=>(by decide:cnt [] nj<1)) Wg
  (λ_ h=>Gf (st:=aR (aR {aA st {st.p with k:=st.p.k+1}with sv:=iq x.name} (st.p.k+1+2)) (st.p.k+1+2+1)) (put:=lu) (λ_ _=>rfl) h hpr.2 hpr.1) rfl
 obtain⟨M2,tK,Fo,w2,t2,c2,d2,e2⟩:=gV (s:=s) (L:=bR s l) (b:=true) (M:=M1) (st:=vV) (w:=jt) (vs:=[pT x.D1]) (key:=(ou jt 1 true (bt s l true (j8 AN))).2) rfl (by decide) (λ_=>by rw[d1 _ (by decide)];exact(by decide:cnt [] jt<1)) t1
  (λ_ h=>CB (st:=aR vV (vV.p.k+1)) (put:=AN) (λ_ _=>rfl) alj h) rfl
 obtain⟨M3,OL,Dg,w3,t3,c3,d3,e3⟩:=gV (s:=s) (L:=bR s l) (b:=true) (M:=M2) (st:=tK) (w:=fK) (vs:=[bX x.port]) (key:=(ou fK 1 true (bC s l pU 1 65535)).2) rfl (by decide) (λ_=>by rw[d2 _ (by decide),d1 _ (by decide)];exact(by decide:cnt [] fK<1)) t2
  (λ_ h=>sA (st:=aR tK (tK.p.k+1)) (put:=pU) (λ_ _=>rfl) h (kE (by have:=c.port;omega) (by have:=c.port;omega)) (rS (by have:=c.port;omega) (by have:=c.port;omega)) c.port.1 c.port.2) rfl
 obtain⟨M4,ri,Je,w4,t4,c4,d4,e4⟩:=gV (s:=s) (L:=bR s l) (b:=true) (M:=M3) (st:=OL) (w:=th) (vs:=[qY [HU,Ws,zF] x.mode]) (key:=(ou th 1 true (cM s l pS Fx)).2) rfl (by decide) (λ_=>by rw[d3 _ (by decide),d2 _ (by decide),d1 _ (by decide)];exact(by decide:cnt [] th<1)) t3
  (λ_ h=>Gf (st:=aR OL (OL.p.k+1)) (put:=pS) (λ_ _=>rfl) h hmo.2 hmo.1) rfl
 obtain⟨M5,st5,arM,w5,t5,c5,d5,e5⟩:=gV (s:=s) (L:=bR s l) (b:=true) (M:=M4) (st:=ri) (w:=qw) (vs:=[qY [oR,oS] x.sched]) (key:=(ou qw 1 false (cM s l lz zT)).2) rfl (by decide) (λ_=>by rw[d4 _ (by decide),d3 _ (by decide),d2 _ (by decide),d1 _ (by decide)];exact(by decide:cnt [] qw<1)) t4
  (λ_ h=>Gf (st:=aR ri (ri.p.k+1)) (put:=lz) (λ_ _=>rfl) h hsc.2 hsc.1) rfl
 obtain⟨M6,st6,arN,w6,t6,c6,d6,e6⟩:=gV (s:=s) (L:=bR s l) (b:=true) (M:=M5) (st:=st5) (w:=vT) (vs:=[bX x.ju]) (key:=(ou vT 1 false (bC s l pW 1 20)).2) rfl (by decide) (λ_=>by rw[d5 _ (by decide),d4 _ (by decide),d3 _ (by decide),d2 _ (by decide),d1 _ (by decide)];exact(by decide:cnt [] vT<1)) t5
  (λ_ h=>sA (st:=aR st5 (st5.p.k+1)) (put:=pW) (λ_ _=>rfl) h (kE (by have:=c.ju;omega) (by have:=c.ju;omega)) (rS (by have:=c.ju;omega) (by have:=c.ju;omega)) c.ju.1 c.ju.2) rfl
 obtain⟨M7,st7,arO,w7,t7,c7,d7,e7⟩:=gV (s:=s) (L:=bR s l) (b:=true) (M:=M6) (st:=st6) (w:=vS) (vs:=[bX x.jr]) (key:=(ou vS 1 false (bC s l pR 1 20)).2) rfl (by decide) (λ_=>by rw[d6 _ (by decide),d5 _ (by decide),d4 _ (by decide),d3 _ (by decide),d2 _ (by decide),d1 _ (by decide)];exact(by decide:cnt [] vS<1)) t6
  (λ_ h=>sA (st:=aR st6 (st6.p.k+1)) (put:=pR) (λ_ _=>rfl) h (kE (by have:=c.jr;omega) (by have:=c.jr;omega)) (rS (by have:=c.jr;omega) (by have:=c.jr;omega)) c.jr.1 c.jr.2) rfl
 obtain⟨M8,OM,arP,w8,t8,c8,d8,e8⟩:=gV (s:=s) (L:=bR s l) (b:=true) (M:=M7) (st:=st7) (w:=qv) (vs:=[bX x.probe]) (key:=(ou qv 1 false (bC s l lq 1 10000)).2) rfl (by decide) (λ_=>by rw[d7 _ (by decide),d6 _ (by decide),d5 _ (by decide),d4 _ (by decide),d3 _ (by decide),d2 _ (by decide),d1 _ (by decide)];exact(by decide:cnt [] qv<1)) t7
  (λ_ h=>sA (st:=aR st7 (st7.p.k+1)) (put:=lq) (λ_ _=>rfl) h (kE (by have:=c.probe;omega) (by have:=c.probe;omega)) (rS (by have:=c.probe;omega) (by have:=c.probe;omega)) c.probe.1 c.probe.2) rfl
 simp only[if_true]at Fm Fo Dg Je arM arN arO arP
 obtain⟨n1,h1⟩:∃n,vV={st with p:={st.p with k:=n},sv:={iq x.name with proto:=x.proto}}:=⟨_,Fm⟩
 obtain⟨n2,h2⟩:∃n,tK={vV with p:={vV.p with k:=n,ag:=vV.p.ag++[(x.D1,bA s l (vV.p.k+1),true)]},sv:={vV.sv with D1:=x.D1}}:=⟨_,Fo⟩
 obtain⟨n3,h3⟩:∃n,OL={tK with p:={tK.p with k:=n},sv:={tK.sv with port:=x.port}}:=⟨_,Dg⟩
 obtain⟨n4,h4⟩:∃n,ri={OL with p:={OL.p with k:=n},sv:={OL.sv with mode:=x.mode}}:=⟨_,Je⟩
 obtain⟨n5,h5⟩:∃n,st5={ri with p:={ri.p with k:=n},sv:={ri.sv with sched:=x.sched}}:=⟨_,arM⟩
 obtain⟨n6,h6⟩:∃n,st6={st5 with p:={st5.p with k:=n},sv:={st5.sv with ju:=x.ju}}:=⟨_,arN⟩
 obtain⟨n7,h7⟩:∃n,st7={st6 with p:={st6.p with k:=n},sv:={st6.sv with jr:=x.jr}}:=⟨_,arO⟩
 obtain⟨n8,h8⟩:∃n,OM={st7 with p:={st7.p with k:=n},sv:={st7.sv with probe:=x.probe}}:=⟨_,arP⟩
 have key:OM={st with p:={st.p with k:=OM.p.k,ag:=st.p.ag++[(x.D1,bA s l (vV.p.k+1),true)]},sv:={x with bf:=[]}}:=by
  have ar8:OM={st with p:={st.p with k:=n8,ag:=st.p.ag++[(x.D1,bA s l (vV.p.k+1),true)]},sv:={x with bf:=[]}}:=by
   generalize bA s l (vV.p.k+1)=z at h2 ⊢
   rw[h8,h7,h6,h5,h4,h3,h2,h1]
   rfl
  have hn:OM.p.k=n8:=by rw[ar8]
  rw[hn]
  exact ar8
 have hk8:OM.p.k+(toks (x.bf.flatMap D6)).length=st.p.k+3+(toks (svT x)).length:=by
  unfold svT
  rw[e8,e7,e6,e5,e4,e3,e2,e1,bu,bu,bu,bu,bu,bu,bu,bu]
  simp only[hU]
  show st.p.k+1+2+_+_+_+_+_+_+_+_+_=_
  omega
 have hcb:cnt M8 cP=0:=by rw[d8 _ (by decide),d7 _ (by decide),d6 _ (by decide),d5 _ (by decide),d4 _ (by decide),d3 _ (by decide),d2 _ (by decide),d1 _ (by decide)];rfl
 obtain⟨M9,sp,y,w9,c9,d9,q9⟩:=MT (s:=s) hA V x.bf M8 OM (bI::nl::ts) c.bf (by rw[key];exact c.nd) (by rw[hcb];have:=c.n;omega) t8
 have t9:Tk l (OM.p.k+(toks (x.bf.flatMap D6)).length) (bI::nl::ts):=Tk.app t8
 have hb:=CE hT0 (w1.trans (w2.trans (w3.trans (w4.trans (w5.trans (w6.trans (w7.trans (w8.trans w9)))))))) t9
 have zB:sI (bR s l) M9=false:=by
  have k1:cnt M9 nj=1:=by rw[d9 _ (by decide),d8 _ (by decide),d7 _ (by decide),d6 _ (by decide),d5 _ (by decide),d4 _ (by decide),d3 _ (by decide),d2 _ (by decide),c1];rfl
  have k2:cnt M9 jt=1:=by rw[d9 _ (by decide),d8 _ (by decide),d7 _ (by decide),d6 _ (by decide),d5 _ (by decide),d4 _ (by decide),d3 _ (by decide),c2,d1 _ (by decide)];rfl
  have k3:cnt M9 fK=1:=by rw[d9 _ (by decide),d8 _ (by decide),d7 _ (by decide),d6 _ (by decide),d5 _ (by decide),d4 _ (by decide),c3,d2 _ (by decide),d1 _ (by decide)];rfl
  have k4:cnt M9 th=1:=by rw[d9 _ (by decide),d8 _ (by decide),d7 _ (by decide),d6 _ (by decide),d5 _ (by decide),c4,d3 _ (by decide),d2 _ (by decide),d1 _ (by decide)];rfl
  have k5:decide (cnt M9 cP=0)=false:=by
   rw[c9,hcb]
   have:=c.n
   simp;intro h;rw[h]at this;simp at this
  show(true&&decide (cnt M9 nj=0)||(true&&decide (cnt M9 jt=0)||(true&&decide (cnt M9 fK=0)||(true&&decide (cnt M9 th=0)||(false&&decide (cnt M9 qw=0)||(false&&decide (cnt M9 vT=0)||(false&&decide (cnt M9 vS=0)||(false&&decide (cnt M9 qv=0)||(true&&decide (cnt M9 cP=0)||false)))))))))=_
  rw[k1,k2,k3,k4,k5];simp
 rw[zB,if_neg (by decide)]at hb
 refine⟨(x.D1,bA s l (vV.p.k+1),true)::sp,y,?_,λz hz=>?_⟩
 ·unfold ew
  rw[N5 hT c.name c.n40 hn]
  show FK (bL s l (bR s l) {aA st {st.p with k:=st.p.k+1}with sv:=iq x.name})=_
  rw[hb]
  have hsp:OM.p.ag++sp=st.p.ag++(x.D1,bA s l (vV.p.k+1),true)::sp:=by
   rw[key]
   simp
  have e:∀k:Nat,FK (aR {OM with p:={OM.p with k:=OM.p.k+(toks (x.bf.flatMap D6)).length,ag:=OM.p.ag++sp},sv:={OM.sv with bf:=OM.sv.bf++x.bf},bk:=y} k,true)
    = ({st with p:={st.p with k:=k,ag:=st.p.ag++(x.D1,bA s l (vV.p.k+1),true)::sp,bB:=st.p.bB++[x]},sv:=Y8,bk:=y},true):=by
   intro k
   rw[hsp,key]
   rfl
  refine(e _).trans ?_
  show(_,true)=(_,true)
  rw[show({OM with p:={OM.p with k:=OM.p.k+(toks (x.bf.flatMap D6)).length,ag:=OM.p.ag++sp},sv:={OM.sv with bf:=OM.sv.bf++x.bf},bk:=y}:St).p.k=OM.p.k+(toks (x.bf.flatMap D6)).length from rfl,hk8]
 ·rcases List.mem_cons.1 hz with rfl | hz
  ·exact⟨hV _ c.D1,λ_=>c.D1⟩
  ·exact q9 z hz
theorem UR{A:Nat}(hA:A=4∨A=16){V:List Bs}(hV:∀a∈V,a.size=A):∀(xs:List Sv) (M:List (Bs×Int)) (st:St) (ts:List Bs),(∀x∈xs,SvC A V x)->((st.p.bB++xs).map (·.name)).Nodup->cnt M bF+xs.length<=4->Tk l st.p.k (toks (kG xs)++ts)->
  ∃M2 sp y z,uS s l (uU s l) M st M2 {st with p:={st.p with k:=st.p.k+(toks (kG xs)).length,ag:=st.p.ag++sp,bB:=st.p.bB++xs},sv:=z,bk:=y}/\(∀w,w≠bF->cnt M2 w=cnt M w)/\SpS A V sp
 | [],M,st,ts,_,_,_,hT=>⟨M,[],st.bk,st.sv,by
   have:({st with p:={st.p with k:=st.p.k+(toks (kG [])).length,ag:=st.p.ag++[],bB:=st.p.bB++[]},sv:=st.sv,bk:=st.bk}:St)=st:=by
    simp[toks,kG]
   rw[this];exact .refl _ _,λ_ _=>rfl,λx hx=>by cases hx⟩
 | x::xs,M,st,ts,hs,hn,hc,hT=>by
  have hlen:toks (kG (x::xs))=bF::x.name::gJ::nl::(toks (svT x)++(bI::nl::toks (kG xs))):=by
   show toks (UP x++kG xs)=_
   rw[anV,bu,oe,bu,oe,UU]
   simp
  have hT:Tk l st.p.k (bF::x.name::gJ::nl::(toks (svT x)++(bI::nl::(toks (kG xs)++ts)))):=by
   rw[hlen]at hT
   simpa using hT
  simp only[List.length_cons]at hc
  have hna:x.name∉st.p.bB.map (·.name):=λh=>by
   rw[List.map_append]at hn
   exact(List.nodup_append.1 hn).2.2 x.name h x.name (by simp) rfl
  obtain⟨sp1,y1,h1,q1⟩:=Xm (s:=s) (l:=l) hA hV (hs x (by simp)) (st:=aR st (st.p.k+1)) hna hT.next
  have w1:uS s l (uU s l) M st (pt M bF (cnt M bF+1)) _:=uS.one (key:=(ou bF 4 false (ew s l)).2) hT (by decide) rfl (by show cnt M bF<4;omega) h1 (by show st.p.k<st.p.k+1+3+_+2;omega)
  have hT2:Tk l (st.p.k+1+3+(toks (svT x)).length+2) (toks (kG xs)++ts):=(Tk.app hT.next.next.next.next).next.next
  obtain⟨M2,Vf,y,z,w2,d2,q2⟩:=UR hA hV xs (pt M bF (cnt M bF+1)) ({aR st (st.p.k+1)with p:={(aR st (st.p.k+1)).p with k:=(aR st (st.p.k+1)).p.k+3+(toks (svT x)).length+2,ag:=(aR st (st.p.k+1)).p.ag++sp1,bB:=(aR st (st.p.k+1)).p.bB++[x]},sv:=Y8,bk:=y1}) ts (λy hy=>hs y (by simp[hy])) (by
   show(((st.p.bB++[x])++xs).map (·.name)).Nodup
   simpa using hn) (by rw[aB,if_pos rfl];omega) hT2
  refine⟨M2,sp1++Vf,y,z,w1.trans ?_,λw hw=>by rw[d2 w hw,aB,if_neg hw],SpS.app q1 q2⟩
  have e:∀k1 k2:Nat,k1=k2->({aR st (st.p.k+1)with p:={(aR st (st.p.k+1)).p with k:=k1,ag:=(st.p.ag++sp1)++Vf,bB:=(st.p.bB++[x])++xs},sv:=z,bk:=y}:St)
    = {st with p:={st.p with k:=k2,ag:=st.p.ag++(sp1++Vf),bB:=st.p.bB++x::xs},sv:=z,bk:=y}:=by
   rintro k1 _ rfl
   simp[aA,aR]
  rw[<-e _ _ ?_]
  ·exact w2
  ·show st.p.k+1+3+(toks (svT x)).length+2+(toks (kG xs)).length=st.p.k+(toks (kG (x::xs))).length
   rw[hlen]
   simp only[List.length_cons,hU];omega
end
def Ca(b1 b2 b3:Bool)(p:Ps):List (List Bs):=[gz,gJ]::Ht b1 b2 b3 p
def D2(b1 b2 b3:Bool)(p:Ps):List (List Bs):=[fq,gJ]::Cs b1 b2 b3 p
theorem Qg(p:Ps):jY p=Ca true true true p++([bI]::(D2 true true true p++([bI]::kG p.bB))):=by
 simp[jY,K9,Ca,D2,Ht,Cs,xu]
section
variable {s:Bs}{l:List Wd}{p:Ps}
theorem ahp(b1 b2 b3:Bool)(ls:List (List Bs))(ts:List Bs):toks (Ca b1 b2 b3 p++([bI]::ls))++ts=gz::gJ::nl::(toks (Ht b1 b2 b3 p)++bI::nl::(toks ls++ts)):=by
 unfold Ca
 rw[bu,oe,oe]
 simp
theorem aiz(b1 b2 b3:Bool)(ls:List (List Bs))(ts:List Bs):toks (D2 b1 b2 b3 p++([bI]::ls))++ts=fq::gJ::nl::(toks (Cs b1 b2 b3 p)++bI::nl::(toks ls++ts)):=by
 unfold D2
 rw[bu,oe,oe]
 simp
theorem aa2(c:Lx p){ts:List Bs}(hT:Tk l 0 (gz::gJ::nl::(toks (Ht true true true p)++bI::nl::ts))):
  ∃M st,uS s l (uU s l) [] GQ M st/\Tk l st.p.k ts/\cnt M gz=1/\cnt M fq=0/\cnt M bF=0/\st.p.k=(toks (Ca true true true p++[[bI]])).length/\∃k sp,st.p={ps0 with k:=k,bH:=p.bH,addr:=p.addr,peer:=p.peer,ag:=sp}/\SpS p.addr.size p.au sp:=by
 obtain⟨tK,t2,c2,k2,hn,hall⟩:=ahn (s:=s) (l:=l) true true true c.bH c.addr (by rw[c.peer];exact c.addr) (st:=aR GQ 1) hT.next
 obtain⟨k,sp,e2,hsp⟩:=hall rfl
 rw[if_pos (show(true&&(true&&true))=true from rfl)]at hn
 have k2:tK.p.k=1+2+(toks (Ht true true true p)).length:=k2
 refine⟨_,aR tK (tK.p.k+2),.one (key:=(ou gz 1 true (vv s l)).2) hT (by decide) rfl (by exact(by decide:cnt [] gz<1)) hn (by show 0<tK.p.k+2;omega),t2.next.next,by rw[aB];rfl,by rw[aB];rfl,by rw[aB];rfl,?_,tK.p.k+2,sp,?_,λx hx=>?_⟩
 ·show tK.p.k+2=_
  rw[k2]
  unfold Ca
  rw[bu,oe,hU,hU]
  show _=2+1+_+2
  omega
 ·have:tK.p={ps0 with k:=k,bH:=p.bH,addr:=p.addr,peer:=p.peer,ag:=sp}:=by rw[e2];rfl
  show{tK.p with k:=tK.p.k+2}=_
  rw[this]
 ·obtain⟨h1,h2⟩:=hsp x hx
  refine⟨?_,λh=>by rw[h1]at h;cases h⟩
  rcases h2 with h | h
  ·rw[h]
  ·rw[h];exact c.peer
theorem aeI(c:Lx p){ts:List Bs}(hT:Tk l 0 (gz::gJ::nl::(toks (Ht true true true p)++bI::nl::(fq::gJ::nl::(toks (Cs true true true p)++bI::nl::ts))))):
  ∃M st,uS s l (uU s l) [] GQ M st/\Tk l st.p.k ts/\cnt M gz=1/\cnt M fq=1/\cnt M bF=0/\st.p.k=(toks (Ca true true true p++([bI]::(D2 true true true p++[[bI]])))).length/\∃k sp,st.p={p with k:=k,bB:=[],ag:=sp,bad:=0,code:=0}/\SpS p.addr.size p.au sp:=by
 obtain⟨M1,vV,w1,t1,a1,a2,a3,k1,k,sp,e1,hsp⟩:=aa2 (s:=s) c hT
 obtain⟨-,hall⟩:=aix (s:=s) true true true c (st:=aR vV (vV.p.k+1)) (by show vV.p.au=[];rw[e1];rfl) (by show vV.p.bh=[];rw[e1];rfl) (by show vV.p.code=0;rw[e1];rfl) t1.next
 obtain⟨Vf,y,e2,alE⟩:=hall rfl
 refine⟨_,_,w1.trans (.one (key:=(ou fq 1 true (oE s l)).2) t1 (by decide) rfl (by rw[a2];exact(by decide:(0:Int)<1)) e2 (by show vV.p.k<vV.p.k+1+2+_+2;omega)),?_,?_,?_,?_,?_,vV.p.k+1+2+(toks (Cs true true true p)).length+2,sp++Vf,?_,hsp.app λx hx=>?_⟩
 ·exact(Tk.app t1.next.next.next).next.next
 ·rw[aB,if_neg (by decide)];exact a1
 ·rw[aB,if_pos rfl,a2];rfl
 ·rw[aB,if_neg (by decide)];exact a3
 ·show vV.p.k+1+2+(toks (Cs true true true p)).length+2=_
  rw[k1]
  have:Ca true true true p++([bI]::(D2 true true true p++[[bI]]))=(Ca true true true p++[[bI]])++(D2 true true true p++[[bI]]):=by simp
  rw[this,bu (Ca true true true p++[[bI]]),hU]
  have:(toks (D2 true true true p++[[bI]])).length=2+1+(toks (Cs true true true p)).length+2:=by
   unfold D2
   rw[bu,oe,hU,hU]
   rfl
  omega
 ·show({vV.p with k:=_,id:=p.id,prio:=p.prio,every:=p.every,pre:=p.pre,au:=p.au,bh:=p.bh,ag:=vV.p.ag++Vf}:Ps)=_
  rw[e1]
  rfl
 ·obtain⟨h1,h2⟩:=alE x hx
  exact⟨c.au _ h2,λh=>by rw[h1]at h;cases h⟩
theorem Xh(c:Lx p){ts:List Bs}(hT:Tk l 0 (toks (jY p)++ts)):
  ∃F M st,yy s l GQ=oG s l (uU s l) F M st/\l.length<F+st.p.k/\st.p.k=(toks (jY p)).length/\Tk l st.p.k ts/\cnt M gz=1/\cnt M fq=1/\∃k sp,st.p={p with k:=k,ag:=sp,bad:=0,code:=0}/\SpS p.addr.size p.au sp:=by
 have hT0:=hT
 rw[Qg,ahp,aiz]at hT0
 obtain⟨M1,vV,w1,t1,a1,a2,a3,k1,k,sp,e1,hsp⟩:=aeI (s:=s) c hT0
 obtain⟨M2,Vf,y,z,w2,d2,alE⟩:=UR (s:=s) c.addr c.au p.bB M1 vV ts c.bB (by rw[e1];exact c.snd) (by rw[a3];have:=c.sn;omega) t1
 have t2:Tk l (vV.p.k+(toks (kG p.bB)).length) ts:=Tk.app t1
 obtain⟨F,hF,e⟩:=(w1.trans w2).all (l.length+1) (Nat.lt_succ_self _)
 refine⟨F,M2,_,e,hF,?_,t2,by rw[d2 _ (by decide),a1],by rw[d2 _ (by decide),a2],vV.p.k+(toks (kG p.bB)).length,sp++Vf,?_,hsp.app alE⟩
 ·show vV.p.k+(toks (kG p.bB)).length=_
  rw[k1,Qg,show Ca true true true p++([bI]::(D2 true true true p++([bI]::kG p.bB)))=(Ca true true true p++([bI]::(D2 true true true p++[[bI]])))++kG p.bB by simp,bu (Ca true true true p++([bI]::(D2 true true true p++[[bI]]))),hU]
 ·show({vV.p with k:=_,ag:=vV.p.ag++Vf,bB:=vV.p.bB++p.bB}:Ps)=_
  rw[e1]
  rfl
theorem aa1(c:Lx p)(hT:Tk l 0 (toks (jY p))):∃k sp,(yy s l GQ).2=true/\(yy s l GQ).1.p={p with k:=k,ag:=sp,bad:=0,code:=0}:=by
 obtain⟨F,M,st,e,hF,hk,hT2,a1,a2,k,sp,ep,hsp⟩:=Xh (s:=s) (ts:=[]) c (by rwa [List.append_nil])
 have hlen:l.length=(toks (jY p)).length:=by
  have:=congrArg List.length hT
  simpa using this
 obtain⟨F,rfl⟩:∃G,F=G+1:=⟨F - 1,by omega⟩
 have hend:oG s l (uU s l) (F+1) M st=(st,true):=by
  rw[oG,if_neg (by omega)]
  unfold Tz
  rw[if_neg (by rw[a1,a2];decide)]
  have h1:st.p.ag.find? (qJ st.p)=none:=Gp λx hx=>by
   rw[ep]at hx ⊢
   exact decide_eq_false (by have:=(hsp x hx).1;simpa using this)
  have h2:st.p.ag.find? (vU st.p)=none:=Gp λx hx=>by
   rw[ep]at hx ⊢
   unfold vU
   cases hv:x.2.2 with
   | false=>rfl
   | true=>
    have:=vq.2 ((hsp x hx).2 hv)
    show(true&&!uO x.1 p.au)=false
    rw[this];rfl
  unfold Bw
  rw[h1]
  unfold Hy
  rw[h2]
  rfl
 rw[e,hend]
 exact⟨k,sp,rfl,ep⟩
end
def ru(l:List Wd):Prop:=∀w∈l,w.1=nl∨qE w.1
structure RdG(s:Bs)(st:Rd)(k:Nat):Prop where
 l:ru st.l
 from_:0<=st.from'->st.from'<k/\∀c∈bs (cut s st.from' k),aX c=true
 note:st.note=true->st.from'<0
theorem Tv{s:Bs}{x:Int}{k:Nat}(h0:0<=x)(h1:x<k)(h2:k<=s.size):1<=(cut s x k).size:=by
 unfold cut
 rw[<-aP,ko,List.length_take,List.length_drop,aP]
 omega
theorem ru.snoc{l:List Wd}(h:ru l){w:Wd}(hw:w.1=nl∨qE w.1):ru (l++[w]):=λx hx=>by
 rcases List.mem_append.1 hx with hx | hx
 ·exact h x hx
 ·obtain rfl:=List.mem_singleton.1 hx;exact hw
theorem BZ{s:Bs}{st:Rd}{k:Nat}(g:RdG s st k)(hk:k<=s.size)(h:(gr s st k).2=true):ru (gr s st k).1.l/\(gr s st k).1.from'<0/\(gr s st k).1.note=st.note:=by
 unfold gr at h ⊢
 split
 ·next h0=>exact⟨g.l,h0,rfl⟩
 ·next h0=>
  rw[if_neg h0]at h
  obtain⟨h1,h2⟩:=g.from_ (by omega)
  exact⟨g.l.snoc (.inr (.inl ⟨Tv (by omega) h1 hk,of_decide_eq_true h,h2⟩)),(by decide:(-1:Int)<0),rfl⟩
theorem Xw{s:Bs}{st:Rd}{k:Nat}(g:RdG s st k){c:UInt8}(hc:(bs s)[k]?=some c)(hm:H7 c.toNat=true)(h:(ir s st c.toNat k).2=true):RdG s (ir s st c.toNat k).1 (k+1):=by
  have hk:k<s.size:=by
    rw[<-aP];exact(sS hc).1
  have Yv:cut s k ((k+1:Nat):Int)=mk [c]:=by
    have:=Nl (s:=s) (x:=k) (k:=k) (by omega) (Int.le_refl _) (c:=c) hc
    rw[show((k+1:Nat):Int)=(k:Int)+1 from rfl,this]
    unfold cut
    simp[ko]
  have gone:∀st':Rd,ru st'.l->st'.from'<0->RdG s st' (k+1):=λst' h1 h2=>⟨h1,λh=>by omega,λ_=>h2⟩
  unfold ir at h ⊢
  split
  · next h10=>
    rw[if_pos h10]at h
    obtain⟨h1,h2,h3⟩:=BZ g (by omega) h
    refine gone _ ?_ h2
    unfold D0
    simp only
    split
    · exact h1.snoc (.inl rfl)
    · exact h1
  next h10=>
  rw[if_neg h10]at h
  split
  · next hn=>
    exact⟨g.l,λh0=>by have h0:0<=st.from':=h0;have:=g.note hn;omega,g.note⟩
  next hn=>
  rw[if_neg hn]at h
  split
  · next h35=>
    rw[if_pos h35]at h
    obtain⟨h1,h2,h3⟩:=BZ g (by omega) h
    exact gone _ h1 h2
  next h35=>
  rw[if_neg h35]at h
  split
  · next hb=>
    rw[if_pos hb]at h
    obtain⟨h1,h2,h3⟩:=BZ g (by omega) h
    exact gone _ h1 h2
  next hb=>
  rw[if_neg hb]at h
  split
  · next hbr=>
    rw[if_pos hbr]at h
    obtain⟨h1,h2,h3⟩:=BZ g (by omega) h
    refine gone _ ?_ ?_
    · unfold gr
      rw[if_neg (by show ¬((k:Nat):Int)<0;omega)]
      refine h1.snoc (.inr (.inr ?_))
      show cut s k ((k:Int)+1)=gJ∨cut s k ((k:Int)+1)=bI
      have Yv:cut s k ((k:Int)+1)=mk [c]:=Yv
      rw[Yv]
      rcases hbr with e | e
      · left
        have:c=123:=UInt8.toNat_inj.1 (by
          have:c.toNat=123:=by omega
          rw[this];rfl)
        rw[this];rfl
      · right
        have:c=125:=UInt8.toNat_inj.1 (by
          have:c.toNat=125:=by omega
          rw[this];rfl)
        rw[this];rfl
    · unfold gr
      rw[if_neg (by show ¬((k:Nat):Int)<0;omega)]
      exact(by decide:(-1:Int)<0)
  next hbr=>
  have hp:aX c=true:=by
    simp only[H7,Bool.or_eq_true,Bool.and_eq_true,decide_eq_true_eq]at hm
    simp only[aX,Bool.and_eq_true,decide_eq_true_eq]
    omega
  split
  · next h0=>
    refine⟨g.l,λ_=>⟨by show((k:Nat):Int)<_;omega,λx hx=>?_⟩,λhh=>absurd hh hn⟩
    have hx:x∈bs (cut s k ((k+1:Nat):Int)):=hx
    rw[Yv,ko]at hx
    obtain rfl:=List.mem_singleton.1 hx
    exact hp
  · next h0=>
    obtain⟨h1,h2⟩:=g.from_ (by omega)
    refine⟨g.l,λ_=>⟨by show st.from'<_;omega,λx hx=>?_⟩,λhh=>absurd hh hn⟩
    have e:=Nl (s:=s) (x:=st.from') (k:=k) (by omega) (by omega) (c:=c) hc
    have hx:x∈bs (cut s st.from' ((k:Int)+1)):=hx
    rw[e,ko]at hx
    rcases List.mem_append.1 hx with hx | hx
    · exact h2 x hx
    · obtain rfl:=List.mem_singleton.1 hx
      exact hp
theorem Pw{s:Bs}:∀(r:List UInt8) (k:Nat) (st:Rd),(bs s).drop k=r->RdG s st k->k<=s.size->∀l,eU s st k r=.inl l->ru l
 | [],k,st,hd,g,hk,l,e=>by
  unfold eU at e
  split at e
  ·next h=>
   obtain⟨h1,h2,h3⟩:=BZ g hk h
   obtain rfl:=Sum.inl.inj e
   unfold D0
   simp only
   split
   ·exact h1.snoc (.inl rfl)
   ·exact h1
  ·cases e
 | c::r,k,st,hd,g,hk,l,e=>by
  have hc:(bs s)[k]?=some c:=by rw[<-List.head?_drop,hd];rfl
  have hd':(bs s).drop (k+1)=r:=by rw[<-List.drop_drop,hd];rfl
  have hlt:k<s.size:=by rw[<-aP];exact(sS hc).1
  unfold eU at e
  split at e
  ·cases e
  split at e
  ·next hm=>
   split at e
   ·next ht=>exact Pw r (k+1) _ hd' (Xw g hc hm ht) hlt l e
   ·cases e
  ·cases e
theorem Zs{s:Bs}{l:List Wd}(h:HE s=.inl l):ru l:=
 Pw (bs s) 0 rd0 rfl ⟨λx hx=>(by cases hx),λh=>(by have:(0:Int) <= -1:=h;omega),λh=>(by cases h)⟩ (uQ _) l h
theorem Z3{l:List Wd}(g:ru l){k:Nat}(h:iI (aa l k)=false):qd (aa l k):=by
 unfold aa at h ⊢
 cases hk:l[k]? with
 | none=>rw[hk]at h;exact absurd (show iI ⟨#[]⟩=false from h) (by decide)
 | some w=>
  rw[hk]at h
  simp only at h ⊢
  rcases g w (Hq hk)with e | e | e | e
  ·rw[e]at h;exact absurd h (by decide)
  ·exact e
  ·rw[e]at h;exact absurd h (by decide)
  ·rw[e]at h;exact absurd h (by decide)
end Go.Ev.Tryz
