/- Own texts, joined: . -/
import Derived.Test.YtongjlmclckboaaGreatDoorM10
set_option linter.all false
namespace Go.Ev.Tryz
set_option maxRecDepth 10000
open Go.Proofs
def Bb(xs:List Bs):Ps×Bs×Int×Bool->Ps×Bs×Bool
 | (p,_,_,false)=>(p,⟨#[]⟩,false)
 | (p,w,at',true)=>if 40<w.size then(bE p at' 182,⟨#[]⟩,false)else if uO w xs=true then(bE p at' 181,⟨#[]⟩,false)else(p,w,true)
def cB(s:Bs)(l:List Wd)(xs:List Bs)(p:Ps):Ps×Bs×Bool:=Bb xs (aS s l p)
def jA(s:Bs)(l:List Wd)(nm:Bs)(st:St):Ps×Bs×Int×Bool->St×Bool
 | (p,_,_,false)=>(aA st p,false)
 | (p,w,at',true)=>
  if(cl (bs (cH w).1)).2=true/\1<=(cl (bs (cH w).1)).1/\(cl (bs (cH w).1)).1<=254 then
   k8 s l (aA st {p with bh:=p.bh++[(nm,if(cH w).2=true then - (cl (bs (cH w).1)).1 else(cl (bs (cH w).1)).1)]})
  else(aA st (bE p at' 182),false)
def Xx(s:Bs)(l:List Wd)(st:St):Ps×Bs×Bool->St×Bool
 | (p,_,false)=>(aA st p,false)
 | (p,nm,true)=>jA s l nm st (aS s l p)
def pF(s:Bs)(l:List Wd)(st:St):St×Bool:=Xx s l st (cB s l (st.p.bh.map (·.1)) st.p)
theorem N4(s:Bs)(l:List Wd)(xs:List Bs)(p:Ps):(cB s l xs p).2.2=true->(cB s l xs p).1={p with k:=p.k+1}:=by
 unfold cB
 have hk:=Oz s l p
 generalize aS s l p=v at hk
 obtain⟨p1,w,a1,is⟩:=v
 cases is with
 | false=>intro h;cases h
 | true=>
  rw[show Bb xs (p1,w,a1,true)=if 40<w.size then(bE p1 a1 182,⟨#[]⟩,false)else if uO w xs=true then(bE p1 a1 181,⟨#[]⟩,false)else(p1,w,true)from rfl]
  split
  ·intro h;cases h
  ·split
   ·intro h;cases h
   ·intro _;exact hk rfl
section
variable {e:En}{S:List Nat}{h:H}{st:St}
theorem Inv.WR(i:Inv e h st S):∀x∈S,x<h.next:=by
 obtain⟨g,rfl,i⟩:=i
 intro x hx
 obtain⟨j,e⟩:=i.ow.mem.1 hx
 exact i.ow.lt j x e
theorem Kt(i:Inv e h st S){q:Pt}{c:aM}{xs:List Bs}(r:Row h 1 q xs.length c (xs.map .str))(hx:xs.length<=400000)(hq:∀b∈own q,b∉S){n:Nat}(hn:xs.length+10<=n):
  cg (ca n iD [.ptr (some (e.b,0)),.slice q xs.length c] h) λr h'=>r=.dJ [.str (cB e.s e.l xs st.p).2.1,.bool (cB e.s e.l xs st.p).2.2]/\Fr S h S h'/\Inv e h' (aA st (cB e.s e.l xs st.p).1) S:=by
 obtain⟨n,rfl⟩:∃m,n=m+3:=⟨n - 3,by omega⟩
 rw[CL]
 refine(y9 i n).bind ?_
 unfold cB
 generalize aS e.s e.l st.p=v
 obtain⟨p1,w,a1,is⟩:=v
 rintro _ h1 ⟨rfl,g1,j1⟩
 simp only[ay,dx,cu,fV,aE]
 cases is with
 | false=>
  rw[Bool.not_false,bM]
  exact .pure ⟨rfl,g1,j1⟩
 | true=>
  rw[Bool.not_true,br,show Bb xs (p1,w,a1,true)=if 40<w.size then(bE p1 a1 182,⟨#[]⟩,false)else if uO w xs=true then(bE p1 a1 181,⟨#[]⟩,false)else(p1,w,true)from rfl]
  by_cases It:40<w.size
  ·rw[show decide ((Nat.cast w.size:Int)>40)=true by simp;omega,bM,if_pos It]
   refine(gu j1 (n+1) _ _).bind ?_
   rintro _ h4 ⟨rfl,f3,j3⟩
   simp only[aq]
   exact .pure ⟨rfl,g1.trans f3,j3⟩
  ·rw[show decide ((Nat.cast w.size:Int)>40)=false by simp;omega,br,if_neg It,ad2 (r.mod g1.mod hq) hx w (by omega),fD,aq]
   cases uO w xs with
   | true=>
    rw[bM,if_pos rfl]
    refine(gu j1 (n+1) _ _).bind ?_
    rintro _ h4 ⟨rfl,f3,j3⟩
    simp only[aq]
    exact .pure ⟨rfl,g1.trans f3,j3⟩
   | false=>
    rw[br,if_neg (by decide)]
    exact .pure ⟨rfl,g1,j1⟩
theorem Lu{a:H}{q:Pt}{c:aM}{xs:List (Bs×Int)}(r:Row a 2 q xs.length c (xs.flatMap wm))(hx:xs.length<=400000)(a0:Pt)(n:Nat):∀(rest pre:List (Bs×Int)) (m:Nat) (h:H) (p:Pt) (d:aM),xs=pre++rest->rest.length<m->Mod [] a h->Grow a h 1 p pre.length d ((pre.map (·.1)).map .str)->
  ∃m' p' d' h',eZ n m a0 p pre.length d q xs.length c (Nat.cast xs.length) (pre.length:Nat) h=eZ n (m'+1) a0 p' xs.length d' q xs.length c (Nat.cast xs.length) (Nat.cast xs.length) h'/\Mod [] a h'/\Grow a h' 1 p' xs.length d' ((xs.map (·.1)).map .str)
 | [],pre,m+1,h,p,d,e,_,hm,g=>by
  rw[List.append_nil]at e
  subst e
  exact⟨m,p,d,h,rfl,hm,g⟩
 | t::ts,pre,m+1,h,p,d,e,hl,hm,g=>by
  have j9:xs[pre.length]?=some t:=by rw[e];simp
  have hlt:pre.length<xs.length:=(sS j9).1
  rw[sG,cL hlt,bM,(r.ak hm).ix E7 (by decide) j9]
  simp only[wm,dx,cu,aE]
  rw[aL,mZ (n:=2) rfl rfl rfl,cW (aY _ _) rfl,az,aL]
  have m1:Mod [] h (h.new (.cells [.str t.1,.int .i64 t.2] false)):=(Mod.refl _ _).new _
  obtain⟨p',d',h',e1,g',m',hn⟩:=(g.ak m1).YW (bytes:=16) (hm.trans m1).next (xs:=[.str t.1]) rfl rfl (by decide) (by omega) (by omega)
  rw[e1,aG (by omega)]
  have hm':Mod [] a h':=(hm.trans m1).trans' m' λx hx hl=>by have:=(g.iy x hx).1;omega
  have:=Lu r hx a0 n ts (pre++[t]) m h' p' d' (by rw[e];simp) (by simp at hl;omega) hm' (by simpa using g')
  simpa using this
theorem ae8(e:En)(S0:List Nat)(h0:H){N:Nat}(hN:e.l.length+40<=N):oF e S0 h0 N iE [.ptr (some (e.b,0))] [] (pF e.s e.l):=by
 refine⟨λb k=>by kernel_rfl,λn hn h S st fr i=>acO (by kernel_rfl) ?_⟩
 obtain⟨n,rfl⟩:∃m,n=m+5:=⟨n - 5,by omega⟩
 show cg (ca (n+4+1) iE [.ptr (some (e.b,0))] h) _
 have ok:=i.okp
 have hk:=ok.k
 have hll:=ok.len
 have htr:=ok.bh
 have i0:=i
 obtain⟨g,rfl,i⟩:=i
 rw[CN]
 simp only[ai,Nat.zero_add]
 rw[i.cell (o:=16) rfl,ah]
 obtain⟨m',p',d',h1,e1,m1,g1⟩:=Lu (i.tp.grow i.ow).row (by omega) (some (e.b,0)) (n+4) st.p.bh [] (n+4) h none (.known 0) rfl (by omega) (.refl _ _) .nil
 rw[show eZ (n+4) (n+4) (some (e.b,0)) none 0 (.known 0) (nu g.f 3) st.p.bh.length g.tc (Nat.cast st.p.bh.length) 0 h=_ from e1]
 rw[sG,aT (cF _),br]
 have i1:=i0.frame m1
 have f1:Fr (oO g.f) h (oO g.f) h1:=.ak m1
 have hS:∀b∈own p',b∉oO g.f:=λb hb hm=>by
  have:=(g1.iy b hb).1
  have:=i0.WR b hm
  omega
 have hr:Row h1 1 p' (st.p.bh.map (·.1)).length d' ((st.p.bh.map (·.1)).map .str):=by rw[List.length_map];exact g1.row
 have hnm:=Kt i1 hr (by rw[List.length_map];omega) hS (n:=n+4) (by rw[List.length_map];omega)
 rw[List.length_map]at hnm
 refine hnm.bind ?_
 unfold pF
 have TZ:=N4 e.s e.l (st.p.bh.map (·.1)) st.p
 generalize cB e.s e.l (st.p.bh.map (·.1)) st.p=v at TZ
 obtain⟨p1,nm,is⟩:=v
 rintro _ h2 ⟨rfl,f2,j2⟩
 simp only[ay,dx,cu,fV,aE]
 cases is with
 | false=>
  rw[Bool.not_false,bM]
  exact .pure ⟨_,rfl,f1.trans f2,j2⟩
 | true=>
  obtain rfl:p1={st.p with k:=st.p.k+1}:=TZ rfl
  rw[Bool.not_true,br]
  have hv:=y9 j2 (n+2)
  rw[show(aA st ({st.p with k:=st.p.k+1},nm,true).1).p={st.p with k:=st.p.k+1}from rfl]at hv
  have TZ:=Oz e.s e.l {st.p with k:=st.p.k+1}
  rw[show Xx e.s e.l st ({st.p with k:=st.p.k+1},nm,true)=jA e.s e.l nm st (aS e.s e.l {st.p with k:=st.p.k+1})from rfl]
  generalize aS e.s e.l {st.p with k:=st.p.k+1}=v at TZ hv ⊢
  obtain⟨p1,w,a1,is⟩:=v
  refine hv.bind ?_
  rintro _ h3 ⟨rfl,f3,j3⟩
  simp only[ay,dx,cu,fV,aE]
  have f13:=(f1.trans f2).trans f3
  cases is with
  | false=>
   rw[Bool.not_false,bM]
   exact .pure ⟨_,rfl,f13,j3⟩
  | true=>
   obtain rfl:p1={st.p with k:=st.p.k+1+1}:=TZ rfl
   rw[Bool.not_true,br,agx,fD,ay,dx,fV,aE]
   refine(HA _ (by omega) h3).bind ?_
   rintro _ h4 ⟨m4,rfl⟩
   unfold tV
   simp only[ay,cu,fV,aE]
   replace j3:=j3.frame m4
   replace f13:=f13.trans (.ak m4)
   rw[show jA e.s e.l nm st ({st.p with k:=st.p.k+1+1},w,a1,true)=if(cl (bs (cH w).1)).2=true/\1<=(cl (bs (cH w).1)).1/\(cl (bs (cH w).1)).1<=254 then
   k8 e.s e.l (aA st {st.p with k:=st.p.k+1+1,bh:=st.p.bh++[(nm,if(cH w).2=true then - (cl (bs (cH w).1)).1 else(cl (bs (cH w).1)).1)]})
  else(aA st (bE {st.p with k:=st.p.k+1+1} a1 182),false)from rfl]
   have key:∀b:Bool,b=!(decide ((cl (bs (cH w).1)).2=true/\1<=(cl (bs (cH w).1)).1/\(cl (bs (cH w).1)).1<=254))->
     cg (gO (n+4) (some (e.b,0)) nm a1 (cH w).2 (cl (bs (cH w).1)).1 b h4) λr h'=>∃S',r=.bool (if(cl (bs (cH w).1)).2=true/\1<=(cl (bs (cH w).1)).1/\(cl (bs (cH w).1)).1<=254 then
   k8 e.s e.l (aA st {st.p with k:=st.p.k+1+1,bh:=st.p.bh++[(nm,if(cH w).2=true then - (cl (bs (cH w).1)).1 else(cl (bs (cH w).1)).1)]})
  else(aA st (bE {st.p with k:=st.p.k+1+1} a1 182),false)).2/\Fr (oO g.f) h S' h'/\Inv e h' (if(cl (bs (cH w).1)).2=true/\1<=(cl (bs (cH w).1)).1/\(cl (bs (cH w).1)).1<=254 then
   k8 e.s e.l (aA st {st.p with k:=st.p.k+1+1,bh:=st.p.bh++[(nm,if(cH w).2=true then - (cl (bs (cH w).1)).1 else(cl (bs (cH w).1)).1)]})
  else(aA st (bE {st.p with k:=st.p.k+1+1} a1 182),false)).1 S':=by
    intro b hb
    rw[Ah]
    by_cases hc:(cl (bs (cH w).1)).2=true/\1<=(cl (bs (cH w).1)).1/\(cl (bs (cH w).1)).1<=254
    ·rw[decide_eq_true hc]at hb
     rw[hb,Bool.not_true,br,if_pos hc]
     have push:∀x:Int,cg (jR (n+4) (some (e.b,0)) nm x h4) λr h'=>∃S',r=.bool (k8 e.s e.l (aA st {st.p with k:=st.p.k+1+1,bh:=st.p.bh++[(nm,x)]})).2/\Fr (oO g.f) h S' h'/\Inv e h' (k8 e.s e.l (aA st {st.p with k:=st.p.k+1+1,bh:=st.p.bh++[(nm,x)]})).1 S':=by
      intro x
      obtain⟨g3,hg3,j3⟩:=j3
      rw[Ai]
      simp only[ai,Nat.zero_add]
      rw[j3.cell (o:=16) rfl,ah]
      obtain⟨y',cap',h5,h6,S',e5,f5,e6,f6,j6⟩:=j3.anF (nm,x) (by show st.p.bh.length+1<=st.p.k+1+1;omega)
      dsimp only[wm,aA]at e5 e6 ⊢
      rw[aL,e5,e6]
      refine(Fu j6 (n+2)).mono ?_
      rintro _ h7 ⟨rfl,f7,j7⟩
      rw[<-hg3]at f6
      exact⟨_,rfl,(f13.trans f6).trans f7,j7⟩
     cases(cH w).2 with
     | true=>
      rw[bM,wrap_i64 (by omega) (by omega),if_pos rfl,Int.zero_sub]
      exact push _
     | false=>
      rw[br,if_neg (by decide)]
      exact push _
    ·rw[decide_eq_false hc]at hb
     rw[hb,Bool.not_false,bM,if_neg hc]
     refine(gu j3 (n+3) _ _).bind ?_
     rintro _ h5 ⟨rfl,f5,j5⟩
     simp only[aq]
     exact .pure ⟨_,rfl,f13.trans f5,j5⟩
   cases hg:(cl (bs (cH w).1)).2 with
   | false=>
    rw[Bool.not_false,bM]
    rw[hg]at key
    exact key _ (by simp)
   | true=>
    rw[Bool.not_true,br]
    rw[hg]at key
    by_cases h1:(cl (bs (cH w).1)).1<1
    ·rw[decide_eq_true h1,bM]
     exact key _ (by simp;omega)
    ·rw[decide_eq_false h1,br]
     refine key _ ?_
     by_cases h2:254<(cl (bs (cH w).1)).1
     ·rw[decide_eq_true h2,decide_eq_false (by rintro ⟨_,_,h⟩;omega)];rfl
     ·rw[decide_eq_false h2,decide_eq_true ⟨rfl,by omega,by omega⟩];rfl
end
end Go.Ev.Tryz
namespace Go.Ev
section
variable {K V:Type}
theorem RU{α β:Type}{f:α->β}{l:List β}{L:List α}(h:l.Perm (L.map f)):∃L':List α,L'.Perm L/\l=L'.map f:=by
 generalize hM:L.map f=M at h
 induction h generalizing L with
 | nil=>exact⟨[],by rw[List.map_eq_nil_iff]at hM;rw[hM],rfl⟩
 | cons x p ih=>
  cases L with
  | nil=>cases hM
  | cons y L=>
   simp only[List.map_cons,List.cons.injEq]at hM
   obtain⟨L',h1,rfl⟩:=ih hM.2
   exact⟨y::L',h1.cons y,by rw[List.map_cons,hM.1]⟩
 | swap x y l=>
  match L,hM with
  | a::b::L,hM=>
   simp only[List.map_cons,List.cons.injEq]at hM
   obtain⟨rfl,rfl,rfl⟩:=hM
   exact⟨b::a::L,.swap _ _ _,rfl⟩
 | trans p q ih1 ih2=>
  obtain⟨L1,h1,e1⟩:=ih2 hM
  obtain⟨L2,h2,e2⟩:=ih1 e1.symm
  exact⟨L2,h2.trans h1,e2⟩
theorem X3{ek:K->AV}{ev:V->AV}:∀{es:List (AV×AV×Nat)} {L:List (K×V)},(es.map λe=>(e.1,e.2.1))=L.map (λe=>(ek e.1,ev e.2))->∃LL:List (K×V×Nat),es=LL.map (λx=>(ek x.1,ev x.2.1,x.2.2))/\LL.map (λx=>(x.1,x.2.1))=L
 | [],[],_=>⟨[],rfl,rfl⟩
 | [],_::_,h=>by cases h
 | _::_,[],h=>by cases h
 | (a,b,c)::es,(k,v)::L,h=>by
  simp only[List.map_cons,List.cons.injEq,Prod.mk.injEq]at h
  obtain⟨⟨rfl,rfl⟩,h⟩:=h
  obtain⟨LL,rfl,rfl⟩:=X3 h
  exact⟨(k,v,c)::LL,rfl,rfl⟩
theorem yx.YS{ek:K->AV}{ev:V->AV}{es:List (AV×AV×Nat)}{eO:Nat}{L:List (K×V)}(hp:(es.map λe=>(e.1,e.2.1)).Perm (L.map λe=>(ek e.1,ev e.2)))(hn:(es.map (·.2.2)).Nodup)(hb:∀e∈es,e.2.2<eO):
  ∃L',L'.Perm L/\yx ek ev L' (.map es eO):=by
 obtain⟨L',h1,e1⟩:=RU hp
 obtain⟨LL,rfl,e2⟩:=X3 e1
 refine⟨L',h1,LL,eO,rfl,e2,?_,?_⟩
 ·simpa[List.map_map,Function.comp_def]using hn
 ·intro x hx
  exact hb _ (List.mem_map_of_mem hx)
theorem Rz[DecidableEq K]{L L':List (K×V)}(hp:L'.Perm L)(hn:(L.map (·.1)).Nodup)(k:K):lk L' k=lk L k:=by
 induction hp with
 | nil=>rfl
 | cons x p ih=>
  rw[aQ,aQ]
  simp only[List.map_cons,List.nodup_cons]at hn
  rw[ih hn.2]
 | swap x y l=>
  simp only[List.map_cons,List.nodup_cons,List.mem_cons,not_or]at hn
  rw[aQ,aQ,aQ,aQ]
  by_cases h1:k=x.1<;>by_cases h2:k=y.1
  ·exact absurd (h1.symm.trans h2) hn.1.1
  ·simp only[if_pos h1,if_neg h2]
  ·simp only[if_neg h1,if_pos h2]
  ·simp only[if_neg h1,if_neg h2]
 | trans p q ih1 ih2=>rw[ih1 ((q.map _).nodup_iff.2 hn),ih2 hn]
theorem wE[DecidableEq K]{L:List (K×V)}{k:K}{v:V}(h:lk L k=some v):(k,v)∈L:=by
 unfold lk at h
 cases hf:L.find? λe=>decide (k=e.1)with
 | none=>rw[hf]at h;cases h
 | some e=>
  rw[hf]at h
  obtain rfl:e.2=v:=by simpa using h
  have h1:=List.find?_some hf
  have h2:=List.mem_of_find?_eq_some hf
  obtain rfl:k=e.1:=by simpa using h1
  exact h2
end
end Go.Ev
namespace Go.Ev.Tryz
set_option maxRecDepth 10000
open Go.Proofs
structure Key where
 (most:Int) (need:Bool) (f:Nat) (x y:List AV) (sem:St->St×Bool)
def G0(k:Key):AV:=.agg [.int .i64 k.most,.bool k.need,.func k.f k.x k.y]
def ZS(v:Int):AV:=.int .i64 v
def cnt(M:List (Bs×Int))(w:Bs):Int:=(lk M w).getD 0
def sI(L:List (Bs×Key))(M:List (Bs×Int)):Bool:=L.any λx=>x.2.need&&decide (cnt M x.1=0)
def tU(s:Bs)(l:List Wd)(L:List (Bs×Key))(M:List (Bs×Int))(st:St):St×Bool:=
 if sI L M=true then(aA st (bE st.p (bA s l st.p.k) 183),false)else k8 s l (aA st {st.p with k:=st.p.k+1})
def cJ(s:Bs)(l:List Wd)(L:List (Bs×Key)):Nat->List (Bs×Int)->St->St×Bool
 | 0,_,st=>(st,false)
 | F+1,M,st=>
  if aa l st.p.k=⟨#[125]⟩then tU s l L M st
  else match lk L (aa l st.p.k)with
   | none=>(aA st (bE st.p (bA s l st.p.k) 180),false)
   | some key=>
    if key.most<=cnt M (aa l st.p.k)then(aA st (bE st.p (bA s l st.p.k) (if key.most=1 then 181 else 184)),false)
    else if(key.sem (aA st {st.p with k:=st.p.k+1})).2=true then cJ s l L F (pt M (aa l st.p.k) (cnt M (aa l st.p.k)+1)) (key.sem (aA st {st.p with k:=st.p.k+1})).1
    else((key.sem (aA st {st.p with k:=st.p.k+1})).1,false)
def bL(s:Bs)(l:List Wd)(L:List (Bs×Key))(st:St):St×Bool:=
 if(dS s l ⟨#[123]⟩ st.p).2=true then
  if(dS s l nl (dS s l ⟨#[123]⟩ st.p).1).2=true then cJ s l L (l.length+1) [] (aA st (dS s l nl (dS s l ⟨#[123]⟩ st.p).1).1)
  else(aA st (dS s l nl (dS s l ⟨#[123]⟩ st.p).1).1,false)
 else(aA st (dS s l ⟨#[123]⟩ st.p).1,false)
theorem WO{L L':List (Bs×Key)}(hp:L'.Perm L)(M:List (Bs×Int)):sI L' M=sI L M:=by
 unfold sI
 rw[Bool.eq_iff_iff,List.any_eq_true,List.any_eq_true]
 exact⟨λ⟨x,h,k⟩=>⟨x,hp.mem_iff.1 h,k⟩,λ⟨x,h,k⟩=>⟨x,hp.mem_iff.2 h,k⟩⟩
theorem uX{β:Type}{h:H}{m:Nat}{o:cK}{M:List (Bs×Int)}(hg:h.get m=some o)(ho:yx AV.str ZS M o)(w:Bs)(f:Int->Option β):(xp (.int .i64 0) (some m) (.str w) h λv _=>asInt .i64 v f)=f (cnt M w):=by
 rw[Jl vl hg ho]
 unfold cnt
 cases lk M w<;>rfl
section
variable {e:En}{S0 S:List Nat}{h0 h hb:H}{st:St}
theorem Th(i:Inv e hb st S){im mm it n:Nat}{M:List (Bs×Int)}{oM:cK}(kM:At hb mm oM)(hM:yx AV.str ZS M oM){LL:List (Bs×Key×Nat)}{eO:Nat}(hn:6<=n)(him:im<hb.next)(hit:hb.next<=it)(hk:st.p.k<e.l.length)
  {kk:AV->H->Option Unit} (hkk:∀r h',(r=.bool (tU e.s e.l (LL.map λx=>(x.1,x.2.1)) M st).2/\Fr S hb S h'/\Inv e h' (tU e.s e.l (LL.map λx=>(x.1,x.2.1)) M st).1 S)->kk r h'=some ()):
  ∀(c m:Nat) (h:H) (done rest:List (Bs×Key×Nat)),rest.length=c->c<m->Mod [] hb h->it<h.next->Iter h it im AV.str G0 LL eO done rest->(∀x∈done,(x.2.1.need&&decide (cnt M x.1=0))=false)->gM n m (some (e.b,0)) (some mm) (some (it,0)) h kk=some ():=by
 classical
 intro c
 induction c with
 | zero=>
  intro m h done rest hr hm md hi itr hd
  obtain⟨m,rfl⟩:∃k,m=k+1:=⟨m - 1,by omega⟩
  obtain rfl:rest=[]:=List.length_eq_zero_iff.1 hr
  rw[sF]
  simp only[ai]
  refine itr.next (λx rest' h' hp=>absurd hp.length_eq (by simp)) λ_=>?_
  have hl:sI (LL.map λx=>(x.1,x.2.1)) M=false:=by
   cases hq:sI (LL.map λx=>(x.1,x.2.1)) M with
   | false=>rfl
   | true=>
    obtain⟨x,hx,hx2⟩:=List.any_eq_true.1 hq
    obtain⟨y,hy,rfl⟩:=List.mem_map.1 hx
    have:=itr.perm.mem_iff.2 hy
    rw[List.append_nil]at this
    rw[hd y this]at hx2;cases hx2
  have j:=i.frame md
  unfold tU at hkk
  rw[if_neg (by rw[hl];decide)]at hkk
  obtain⟨h1,e1,f1,j1⟩:=j.step hk
  simp only[Nat.zero_add]
  rw[e1]
  obtain⟨n,rfl⟩:∃k,n=k+2:=⟨n - 2,by omega⟩
  obtain⟨r,h2,e2,rfl,f2,j2⟩:=Jp j1 n (w:=nl) (by decide)
  rw[e2,fD,aq]
  exact hkk _ _ ⟨rfl,((Fr.ak md).trans f1).trans f2,j2⟩
 | succ c ih=>
  intro m h done rest hr hm md hi itr hd
  obtain⟨m,rfl⟩:∃k,m=k+1:=⟨m - 1,by omega⟩
  rw[sF]
  simp only[ai]
  refine itr.next (λx rest' h' hp h1 h2 it'=>?_) λhr'=>by rw[hr']at hr;cases hr
  have md':Mod [] hb h':=⟨by rw[h1];exact md.next,λj hj _=>by rw[h2 j (by omega)];exact md.get j hj (by simp)⟩
  rw[it'.entry,az]
  simp only[G0,bG,cu,fV,oT,aE]
  rw[aL,mZ (n:=3) rfl rfl rfl,cW (aY _ _) rfl,aq]
  have md2:Mod [] hb (h'.new (.cells [.int .i64 x.2.1.most,.bool x.2.1.need,.func x.2.1.f x.2.1.x x.2.1.y] false)):=md'.new _
  have hx:x∈rest:=hp.mem_iff.2 (by simp)
  have key:∀b:Bool,b=(x.2.1.need&&decide (cnt M x.1=0))->jQ n m (some (e.b,0)) (some mm) (some (it,0)) b (h'.new (.cells [.int .i64 x.2.1.most,.bool x.2.1.need,.func x.2.1.f x.2.1.x x.2.1.y] false)) kk=some ():=by
   intro b hb'
   rw[Ad]
   cases b with
   | true=>
    have hl:sI (LL.map λx=>(x.1,x.2.1)) M=true:=List.any_eq_true.2 ⟨(x.1,x.2.1),List.mem_map.2 ⟨x,itr.perm.mem_iff.1 (by simp[hx]),rfl⟩,hb'.symm⟩
    unfold tU at hkk
    rw[if_pos hl]at hkk
    have j:=i.frame md2
    obtain⟨n,rfl⟩:∃k,n=k+1:=⟨n - 1,by omega⟩
    rw[bM,FI j,fD,aj]
    obtain⟨r,h3,e3,rfl,f3,j3⟩:=gu j n (bA e.s e.l st.p.k) 183
    rw[e3,fD,aq]
    exact hkk _ _ ⟨rfl,(Fr.ak md2).trans f3,j3⟩
   | false=>
    rw[br]
    refine ih m _ (done++[x]) rest' (by have:=hp.length_eq;simp at this;omega) (by omega) md2 (by show it<h'.next+1;omega) (it'.move (wA (md'.lt him)) (wA (by omega))) λy hy=>?_
    ·rcases List.mem_append.1 hy with hy | hy
     ·exact hd y hy
     ·obtain rfl:=List.mem_singleton.1 hy
      exact hb'.symm
  generalize h'.new (.cells [.int .i64 x.2.1.most,.bool x.2.1.need,.func x.2.1.f x.2.1.x x.2.1.y] false)=h2 at md2 key ⊢
  cases hnd:x.2.1.need with
  | true=>
   rw[bM,uX ((md2.get _ kM.lt (by simp)).trans kM.get) hM]
   rw[hnd]at key
   exact key _ (by by_cases hq:cnt M x.1=0<;>simp[hq])
  | false=>
   rw[br]
   rw[hnd]at key
   exact key _ rfl
theorem Row.agv{h:H}{size:Nat}{p:Option (Nat×Nat)}{len:Nat}{c:aM}{vs:List AV}(s:Row h size p len c vs):∀b∈own p,∃cs ro,h.get b=some (.cells cs ro):=by
  cases s with
  | nil=>simp
  | row _ hg=>
    intro b hb;obtain rfl:=by simpa using hb
    exact⟨_,_,hg⟩
theorem Inv.aeU(i:Inv e h st S){mm:Nat}{es:List (AV×AV×Nat)}{eO:Nat}(k:Kept S h mm (.map es eO))(o':cK):Inv e (h.set mm o') st S:=by
 obtain⟨g,rfl,i⟩:=i
 have m:Mod [mm] h (h.set mm o'):=(Mod.refl _ _).set (.inr (by simp)) _
 have hr:∀{size:Nat} {p:Option (Nat×Nat)} {len:Nat} {c:aM} {vs:List AV},Row h size p len c vs->Row (h.set mm o') size p len c vs:=λr=>r.mod m λb hb hm=>by
  obtain rfl:b=mm:=by simpa using hm
  obtain⟨cs,ro,e1⟩:=Row.agv r b hb
  rw[k.at_.get]at e1;cases e1
 exact⟨g,rfl,⟨i.ow.le,λj x e1=>(m.get x (i.ow.lt j x e1) (by
  simp only[List.mem_singleton]
  rintro rfl
  exact k.out (i.ow.mem.2 ⟨j,e1⟩))).trans (i.ow.get j x e1),i.ow.lt,i.ow.ge,i.ow.inj,i.ow.top⟩,i.fb,i.cb,hr i.B8,i.sp,i.vp,i.tp,i.gp,i.PI,λx hx=>hr (i.rows x hx),i.Ux,i.fy,i.cy,i.fv,i.cv,i.bp,i.fk,i.ck,i.kl,i.ok⟩
theorem Kept.set{i mm:Nat}{o:cK}(k:Kept S h i o)(hi:i≠mm)(o':cK):Kept S (h.set mm o') i o:=⟨⟨k.at_.lt,(ng hi).trans k.at_.get⟩,k.out⟩
theorem Y4(f:Fr S0 h0 S h){mm:Nat}(hm:h0.next<=mm)(o':cK):Fr S0 h0 S (h.set mm o'):=⟨f.mod.set (.inl hm) _,f.own⟩
theorem aB(M:List (Bs×Int))(w w':Bs)(v:Int):cnt (pt M w v) w'=if w'=w then v else cnt M w':=by
 unfold cnt
 rw[asu]
 split<;>rfl
structure Hz(e:En)(S0:List Nat)(h0:H)(N:Nat)(L:List (Bs×Key)):Prop where
 rd:∀x∈L,oF e S0 h0 N x.2.f x.2.x x.2.y x.2.sem
 mono:∀x∈L,∀st:St,st.p.k<=(x.2.sem st).1.p.k
 none:lk L ⟨#[]⟩=none
 most:∀x∈L,x.2.most<=1000
 few:L.length<=1000
theorem VA{N n:Nat}{L:List (Bs×Key)}(ks:Hz e S0 h0 N L)(hN:N<=n)(hn:1100<=n){im mm:Nat}{oL:cK}(kL:Kept S0 h0 im oL)(hL:yx AV.str G0 L oL)
  (kk:AV->H->Option Unit):∀(F m:Nat) (M:List (Bs×Int)) (oM:cK) (h:H) (S:List Nat) (st:St),Inv e h st S->Fr S0 h0 S h->Kept S h mm oM->yx AV.str ZS M oM->h0.next<=mm->(∀w,0<=cnt M w/\cnt M w<=1000)->e.l.length<st.p.k+F->F<=m->
   (∀r h',(∃S',r=.bool (cJ e.s e.l L F M st).2/\Fr S0 h0 S' h'/\Inv e h' (cJ e.s e.l L F M st).1 S')->kk r h'=some ())->
   eY n m (some (e.b,0)) (some im) (some mm) h kk=some ():=by
 intro F
 induction F with
 | zero=>
  intro m M oM h S st i fr km hM hne Vc hF _ _
  have:=i.okp.k
  omega
 | succ F ih=>
  intro m M oM h S st i fr km hM hne Vc hF hm hkk
  obtain⟨m,rfl⟩:∃k,m=k+1:=⟨m - 1,by omega⟩
  obtain⟨n',rfl⟩:∃k,n=k+1:=⟨n - 1,by omega⟩
  have kim:=kL.fr fr
  rw[Ae,FI i,fD,aj,Mo i,fD,az,Jl vl kim.at_.get hL,yb]
  unfold cJ at hkk
  by_cases hsh:aa e.l st.p.k=⟨#[125]⟩
  ·rw[if_pos hsh]at hkk
   rw[decide_eq_true hsh]
   have hk:st.p.k<e.l.length:=kD (by rw[hsh];decide)
   have fin:∀h2:H,Mod [] h h2->(AO (some im) h2 λi23 U9=>gM (n'+1) (n'+1) (some (e.b,0)) (some mm) (some (i23,0)) U9 kk)=some ():=by
    intro h2 md
    have alP:Kept S h2 im oL:=kim.fr (.ak md)
    obtain⟨LL,eO,hLL,it,e1,itr⟩:=Iter.begin alP.at_.get hL alP.at_.lt
    rw[e1]
    have km2:Kept S h2 mm oM:=km.fr (.ak md)
    have hlen:LL.length<=1000:=by have:=ks.few;rw[<-hLL,List.length_map]at this;exact this
    refine Th (i.frame md) km2.at_ hM (by omega) alP.at_.lt (cF _) hk (λr h' hq=>?_) LL.length (n'+1) _ [] LL rfl (by omega) ((Mod.refl _ _).new _) (Nat.lt_succ_self _) itr (by simp)
    rw[hLL]at hq
    obtain⟨h3,h4,h5⟩:=hq
    exact hkk r h' ⟨S,h3,(fr.trans (Fr.ak md)).trans h4,h5⟩
   cases lk L (aa e.l st.p.k)with
   | none=>
    simp only[bG,cu,fV,oT,aE]
    rw[aL,mZ (n:=3) rfl rfl rfl,bM]
    exact fin _ ((Mod.refl _ _).new _)
   | some key=>
    simp only[G0,bG,cu,fV,oT,aE]
    rw[aL,mZ (n:=3) rfl rfl rfl,bM]
    exact fin _ ((Mod.refl _ _).new _)
  ·rw[if_neg hsh]at hkk
   rw[decide_eq_false hsh]
   cases hlk:lk L (aa e.l st.p.k)with
   | none=>
    rw[hlk]at hkk
    simp only[bG,cu,fV,oT,aE]
    rw[aL,mZ (n:=3) rfl rfl rfl,br,Bool.not_false,bM]
    obtain⟨r,h2,e2,rfl,f2,j2⟩:=gu (i.frame (((Mod.refl [] h).new (.cells [.int .i64 0,.bool false,.nilFunc] false)))) n' (bA e.s e.l st.p.k) 180
    rw[e2,fD,aq]
    exact hkk _ _ ⟨S,rfl,(fr.trans (Fr.ak ((Mod.refl [] h).new _))).trans f2,j2⟩
   | some key=>
    rw[hlk]at hkk
    have hmem:(aa e.l st.p.k,key)∈L:=wE hlk
    have arz:aa e.l st.p.k≠⟨#[]⟩:=λe'=>by rw[e',ks.none]at hlk;cases hlk
    have hk:=kD arz
    generalize hw:aa e.l st.p.k=w at hkk hmem hsh hlk arz ⊢
    simp only[G0,bG,cu,fV,oT,aE]
    rw[aL,mZ (n:=3) rfl rfl rfl,br,Bool.not_true,br]
    have md:Mod [] h (h.new (.cells [.int .i64 key.most,.bool key.need,.func key.f key.x key.y] false)):=(Mod.refl _ _).new _
    have kb:Kept S (h.new (.cells [.int .i64 key.most,.bool key.need,.func key.f key.x key.y] false)) h.next (.cells [.int .i64 key.most,.bool key.need,.func key.f key.x key.y] false):=⟨.new _ _,λhx=>by have:=i.WR _ hx;omega⟩
    have Vb:mm≠h.next:=λe'=>by have:=km.at_.lt;omega
    generalize h.next=b at kb Vb ⊢
    generalize h.new (.cells [.int .i64 key.most,.bool key.need,.func key.f key.x key.y] false)=h1 at md kb ⊢
    have i1:=i.frame md
    have Wt:=km.fr (.ak md)
    rw[uX Wt.at_.get hM,kb.cell,aj]
    have ady:∀d:Bool,d=decide (key.most<=cnt M w/\key.most=1)->jP (n'+1) m (some (e.b,0)) (some im) (some mm) (bA e.s e.l st.p.k) w (some (b,0)) d h1 kk=some ():=by
     intro d hd
     rw[Ac]
     cases d with
     | true=>
      have hd':=of_decide_eq_true hd.symm
      rw[bM]
      obtain⟨r,h2,e2,rfl,f2,j2⟩:=gu i1 n' (bA e.s e.l st.p.k) 181
      rw[e2,fD,aq]
      refine hkk _ _ ⟨S,?_,(fr.trans (Fr.ak md)).trans f2,?_⟩
      ·simp only[if_pos hd'.1]
      ·simp only[if_pos hd'.1,if_pos hd'.2];exact j2
     | false=>
      have hd':=of_decide_eq_false hd.symm
      rw[br,uX Wt.at_.get hM,ai,kb.cell,aj]
      by_cases hmo:key.most<=cnt M w
      ·have Rc:key.most≠1:=λe'=>hd' ⟨hmo,e'⟩
       rw[decide_eq_true (show cnt M w>=key.most from hmo),bM]
       obtain⟨r,h2,e2,rfl,f2,j2⟩:=gu i1 n' (bA e.s e.l st.p.k) 184
       rw[e2,fD,aq]
       refine hkk _ _ ⟨S,?_,(fr.trans (Fr.ak md)).trans f2,?_⟩
       ·simp only[if_pos hmo]
       ·simp only[if_pos hmo,if_neg Rc];exact j2
      ·rw[decide_eq_false (show ¬cnt M w>=key.most from hmo),br,uX Wt.at_.get hM]
       obtain⟨o',hM',e3⟩:=RV (β:=Unit) vl Wt.at_.get hM w (cnt M w+1)
       have hwr:IntKind.i64.wrap (cnt M w+1)=cnt M w+1:=by have:=Vc w;exact wrap_i64 (by omega) (by omega)
       rw[hwr,show(AV.int .i64 (cnt M w+1))=ZS (cnt M w+1)from rfl,e3,ai]
       simp only[Nat.zero_add,ai]
       obtain⟨LM,awG,hoM,_⟩:=hM
       have i2:Inv e (h1.set mm o') st S:=i1.aeU (hoM▸Wt) o'
       obtain⟨h3,e4,f4,i3⟩:=i2.step hk
       rw[e4]
       have kb3:=(kb.set Vb.symm o').fr f4
       rw[cW kb3.at_.get rfl,wO]
       have fr3:Fr S0 h0 S h3:=(Y4 (fr.trans (.ak md)) hne o').trans f4
       have rd:=ks.rd _ hmem
       have mono:=ks.mono _ hmem (aA st {st.p with k:=st.p.k+1})
       have adq:=ks.most _ hmem
       have km3:Kept S h3 mm o':=Kept.fr (h:=h1.set mm o') ⟨⟨Wt.at_.lt,aW _ _ _⟩,Wt.out⟩ f4
       refine rd.run (n'+1) hN h3 S _ fr3 i3 _ λr h4 hq=>?_
       obtain⟨S4,rfl,f5,i5⟩:=hq
       rw[rd.K6,aq]
       simp only[if_neg hmo]at hkk
       change ∀r h',(∃S',r=.bool (if(key.sem (aA st {st.p with k:=st.p.k+1})).2=true then cJ e.s e.l L F (pt M w (cnt M w+1)) (key.sem (aA st {st.p with k:=st.p.k+1})).1 else((key.sem (aA st {st.p with k:=st.p.k+1})).1,false)).2/\Fr S0 h0 S' h'/\Inv e h' (if(key.sem (aA st {st.p with k:=st.p.k+1})).2=true then cJ e.s e.l L F (pt M w (cnt M w+1)) (key.sem (aA st {st.p with k:=st.p.k+1})).1 else((key.sem (aA st {st.p with k:=st.p.k+1})).1,false)).1 S')->kk r h'=some ()at hkk
       change Inv e h4 (key.sem (aA st {st.p with k:=st.p.k+1})).1 S4 at i5
       change st.p.k+1<=(key.sem (aA st {st.p with k:=st.p.k+1})).1.p.k at mono
       show(bif !(key.sem (aA st {st.p with k:=st.p.k+1})).2 then kk (.bool false) h4 else eY (n'+1) m (some (e.b,0)) (some im) (some mm) h4 kk)=some ()
       cases ql:(key.sem (aA st {st.p with k:=st.p.k+1})).2 with
       | false=>
        rw[Bool.not_false,bM]
        rw[ql]at hkk
        exact hkk _ _ ⟨S4,rfl,fr3.trans f5,i5⟩
       | true=>
        rw[Bool.not_true,br]
        rw[ql]at hkk
        refine ih m (pt M w (cnt M w+1)) o' h4 S4 _ i5 (fr3.trans f5) (km3.fr f5) hM' hne (λw'=>?_) (by omega) (by omega) λr h' hq=>hkk r h' ?_
        ·rw[aB]
         have:=Vc w
         split
         ·simp only at adq;omega
         ·exact Vc w'
        ·simpa using hq
    by_cases hmo:cnt M w>=key.most
    ·rw[decide_eq_true hmo,bM,kb.cell,aj]
     refine ady _ ?_
     by_cases Rc:key.most=1
     ·rw[decide_eq_true (show key.most<=cnt M w/\key.most=1 from⟨hmo,Rc⟩),Rc];rfl
     ·rw[decide_eq_false (λq=>Rc q.2)];simpa using Rc
    ·rw[decide_eq_false hmo,br]
     exact ady _ (decide_eq_false λq=>hmo q.1).symm
end
section
variable {e:En}{S:List Nat}{h:H}{st:St}
theorem Pz{n N:Nat}{L L0:List (Bs×Key)}(ks:Hz e S h N L)(i:Inv e h st S){im:Nat}{oL:cK}(kL:Kept S h im oL)(hL:yx AV.str G0 L oL)(hN:N+2<=n)(h1:1110<=n)(h2:e.l.length+5<=n)(he:bL e.s e.l L st=bL e.s e.l L0 st):
  JZ (λkk=>cr n dD [.ptr (some (e.b,0)),.map (some im)] h kk) λr h'=>∃S',r=.bool (bL e.s e.l L0 st).2/\Fr S h S' h'/\Inv e h' (bL e.s e.l L0 st).1 S':=by
 rw[<-he]
 intro kk hkk
 obtain⟨n,rfl⟩:∃k,n=k+3:=⟨n - 3,by omega⟩
 show cr (n+2+1) dD [.ptr (some (e.b,0)),.map (some im)] h kk=some ()
 rw[CJ]
 obtain⟨r,h3,e3,rfl,f3,j3⟩:=Jp i n (w:=⟨#[123]⟩) (by decide)
 rw[e3,fD,aq]
 unfold bL at hkk
 cases hm:(dS e.s e.l ⟨#[123]⟩ st.p).2 with
 | false=>
  rw[if_neg (by rw[hm];decide)]at hkk
  rw[Bool.not_false,bM,sE,bM]
  exact hkk _ _ ⟨S,rfl,f3,j3⟩
 | true=>
  rw[if_pos hm]at hkk
  rw[Bool.not_true,br]
  obtain⟨r,h4,e4,rfl,f4,j4⟩:=Jp j3 n (w:=nl) (by decide)
  rw[e4,fD,aq,sE]
  change Inv e h4 (aA st (dS e.s e.l nl (dS e.s e.l ⟨#[123]⟩ st.p).1).1) S at j4
  show(bif !(dS e.s e.l nl (dS e.s e.l ⟨#[123]⟩ st.p).1).2 then kk (.bool false) h4 else aD (.map [] 0) h4 λi5 h6=>eY (n+2) (n+2) (some (e.b,0)) (some im) (some i5) h6 kk)=some ()
  cases hm2:(dS e.s e.l nl (dS e.s e.l ⟨#[123]⟩ st.p).1).2 with
  | false=>
   rw[if_neg (by rw[hm2];decide)]at hkk
   rw[Bool.not_false,bM]
   exact hkk _ _ ⟨S,rfl,f3.trans f4,j4⟩
  | true=>
   rw[if_pos hm2]at hkk
   rw[Bool.not_true,br,aL]
   have md:Mod [] h4 (h4.new (.map [] 0)):=(Mod.refl _ _).new _
   refine VA ks (by omega) (by omega) kL hL kk (e.l.length+1) (n+2) [] (.map [] 0) _ S _ (j4.frame md) ((f3.trans f4).trans (.ak md)) ⟨.new _ _,λhx=>by have:=j4.WR _ hx;omega⟩ .nil (f3.trans f4).mod.next (λw=>by simp[cnt,lk]) (by omega) (by omega) λr h' hq=>?_
   exact hkk r h' hq
theorem MY{s:Bs}{l:List Wd}{L L':List (Bs×Key)}(hp:L'.Perm L)(hn:(L.map (·.1)).Nodup):∀(F:Nat) (M:List (Bs×Int)) (st:St),cJ s l L' F M st=cJ s l L F M st
 | 0,_,_=>rfl
 | F+1,M,st=>by
  unfold cJ tU
  rw[WO hp,Rz hp hn]
  cases lk L (aa l st.p.k)with
  | none=>rfl
  | some key=>simp only[MY hp hn F]
theorem Tg{s:Bs}{l:List Wd}{L L':List (Bs×Key)}(hp:L'.Perm L)(hn:(L.map (·.1)).Nodup)(st:St):bL s l L' st=bL s l L st:=by
 unfold bL
 rw[MY hp hn]
theorem Hz.perm{S0:List Nat}{h0:H}{N:Nat}{L L':List (Bs×Key)}(ks:Hz e S0 h0 N L)(hp:L'.Perm L)(hn:(L.map (·.1)).Nodup):Hz e S0 h0 N L':=
 ⟨λx hx=>ks.rd x (hp.mem_iff.1 hx),λx hx=>ks.mono x (hp.mem_iff.1 hx),by rw[Rz hp hn];exact ks.none,λx hx=>ks.most x (hp.mem_iff.1 hx),by rw[hp.length_eq];exact ks.few⟩
def Made(e:En)(S:List Nat)(N:Nat)(sem:St->St×Bool)(h:H)(r:AV)(h':H):Prop:=Mod [] h h'/\∃f x y,r=.func f x y/\oF e S h' N f x y sem
def abK(e:En)(S:List Nat)(N:Nat)(tk:St->Bs->Int->St×Bool)(h:H)(r:AV)(h':H):Prop:=Mod [] h h'/\∃f x y,r=.func f x y/\J0 e S h' N f x y tk
theorem gA{h:H}(hS:∀x∈S,x<h.next)(o:cK):Kept S (h.new o) h.next o:=⟨.new _ _,λhx=>by have:=hS _ hx;omega⟩
theorem Kept.ak{h':H}{i:Nat}{o:cK}(k:Kept S h i o)(m:Mod [] h h'):Kept S h' i o:=k.fr (.ak m)
theorem sy(hS:∀x∈S,x<h.next){q:Nat×Nat}{put:St->Int->St}(hp:kW e q 1 (λv=>[.int .i64 v]) put)(lo hi:Int)(n:Nat):
  cg (ca (n+1) bO [.ptr (some (e.b,0)),.ptr (some q),.int .i64 lo,.int .i64 hi] h) (Made e S 30 (bC e.s e.l put lo hi) h):=by
 rw[BS]
 simp only[aL]
 have m1:Mod [] h (h.new (.cells [.ptr (some (e.b,0))] false)):=(Mod.refl _ _).new _
 have m2:=m1.new (.cells [.ptr (some q)] false)
 have m3:=m2.new (.cells [.int .i64 lo] false)
 have m4:=m3.new (.cells [.int .i64 hi] false)
 have hl:∀{h':H},Mod [] h h'->∀x∈S,x<h'.next:=λm x hx=>m.lt (hS x hx)
 refine .pure ⟨m4,_,_,_,rfl,aaA hp ?_ ?_ ?_ ?_⟩
 ·exact(((gA hS _).ak ((Mod.refl _ _).new _)).ak ((Mod.refl _ _).new _)).ak ((Mod.refl _ _).new _)
 ·exact(gA (hl m2) _).ak ((Mod.refl _ _).new _)
 ·exact gA (hl m3) _
 ·exact((gA (hl m1) _).ak ((Mod.refl _ _).new _)).ak ((Mod.refl _ _).new _)
theorem PC(hS:∀x∈S,x<h.next){q:Nat×Nat}{put:St->Int->St}(hp:kW e q 1 (λv=>[.int .i64 v]) put){m:Nat}(hm:m<h.next)(n:Nat):
  cg (ca (n+1) ef [.ptr (some (e.b,0)),.ptr (some q),.map (some m)] h) λr h'=>Mod [] h h'/\∃y,r=.func aU [] y/\∀(S2:List Nat) (h2:H) (o:cK) (L:List (Bs×Int)),(∀j oj,Kept S h' j oj->j≠m->Kept S2 h2 j oj)->Kept S2 h2 m o->yx AV.str (λv=>.int .i64 v) L o->oF e S2 h2 30 aU [] y (cM e.s e.l put L):=by
 rw[BR]
 simp only[aL]
 have m1:Mod [] h (h.new (.cells [.ptr (some (e.b,0))] false)):=(Mod.refl _ _).new _
 have m2:=m1.new (.cells [.ptr (some q)] false)
 have m3:=m2.new (.cells [.map (some m)] false)
 have hl:∀{h':H},Mod [] h h'->∀x∈S,x<h'.next:=λm x hx=>m.lt (hS x hx)
 refine .pure ⟨m3,_,rfl,λS2 h2 o L hk km hm'=>ZO hp (hk _ _ ?_ ?_) (hk _ _ ?_ ?_) (hk _ _ ?_ ?_) km hm'⟩
 ·exact((gA hS _).ak ((Mod.refl _ _).new _)).ak ((Mod.refl _ _).new _)
 ·omega
 ·exact(gA (hl m2) _)
 ·show h.next+1+1≠m;omega
 ·exact(gA (hl m1) _).ak ((Mod.refl _ _).new _)
 ·show h.next+1≠m;omega
theorem X4(hS:∀x∈S,x<h.next){N:Nat}(hw:∀w∈e.l,w.1.size<90000/\w.1.size+70<=N)(hN:70<=N){q:Nat×Nat}{put:St->Cd->St}(hp:kW e q 6 xQ put)(n:Nat):
  cg (ca (n+1) lR [.ptr (some (e.b,0)),.ptr (some q)] h) (Made e S N (nF e.s e.l put) h):=by
 rw[D8]
 simp only[aL]
 have m1:Mod [] h (h.new (.cells [.ptr (some (e.b,0))] false)):=(Mod.refl _ _).new _
 have m2:=m1.new (.cells [.ptr (some q)] false)
 have hl:∀{h':H},Mod [] h h'->∀x∈S,x<h'.next:=λm x hx=>m.lt (hS x hx)
 refine .pure ⟨m2,_,_,_,rfl,agt hp hw hN ?_ ?_⟩
 ·exact(gA hS _).ak ((Mod.refl _ _).new _)
 ·exact gA (hl m1) _
theorem Mg(hS:∀x∈S,x<h.next){q:Nat×Nat}{put:St->Bs->St}(hp:kW e q 1 (λa=>[.str a]) put)(n:Nat):
  cg (ca (n+1) p9 [.ptr (some q)] h) (abK e S 1 (j8 put) h):=by
 rw[Nd,aL]
 exact .pure ⟨(Mod.refl _ _).new _,_,_,_,rfl,ag4 hp (gA hS _)⟩
theorem J0.fr{S0 S1:List Nat}{h0 h1:H}{N f:Nat}{x y:List AV}{tk:St->Bs->Int->St×Bool}(r:J0 e S0 h0 N f x y tk)(fr:Fr S0 h0 S1 h1):J0 e S1 h1 N f x y tk:=
 ⟨r.K6,λn hn h S st a at' f' i=>r.run n hn h S st a at' (fr.trans f') i⟩
theorem J0.more{S0:List Nat}{h0:H}{N N' f:Nat}{x y:List AV}{tk:St->Bs->Int->St×Bool}(r:J0 e S0 h0 N f x y tk)(h:N<=N'):J0 e S0 h0 N' f x y tk:=⟨r.K6,λn hn=>r.run n (by omega)⟩
theorem oF.more{S0:List Nat}{h0:H}{N N' f:Nat}{x y:List AV}{sem:St->St×Bool}(r:oF e S0 h0 N f x y sem)(h:N<=N'):oF e S0 h0 N' f x y sem:=⟨r.K6,λn hn=>r.run n (by omega)⟩
theorem ze(hS:∀x∈S,x<h.next){N:Nat}(hw:∀w∈e.l,w.1.size<90000/\w.1.size+70<=N)(hN:70<=N)(xE:Bool){f:Nat}{x y:List AV}{tk:St->Bs->Int->St×Bool}(ht:J0 e S h (N - 1) f x y tk)(n:Nat):
  cg (ca (n+1) dM [.ptr (some (e.b,0)),.bool xE,.func f x y] h) (Made e S N (bt e.s e.l xE tk) h):=by
 rw[AW]
 simp only[aL]
 have m1:Mod [] h (h.new (.cells [.ptr (some (e.b,0))] false)):=(Mod.refl _ _).new _
 have m2:=m1.new (.cells [.bool xE] false)
 have m3:=m2.new (.cells [.func f x y] false)
 have hl:∀{h':H},Mod [] h h'->∀x∈S,x<h'.next:=λm x hx=>m.lt (hS x hx)
 refine .pure ⟨m3,_,_,_,rfl,Vn hw hN (ht.fr (.ak m3)) ?_ ?_ ?_⟩
 ·exact((gA hS _).ak ((Mod.refl _ _).new _)).ak ((Mod.refl _ _).new _)
 ·exact(gA (hl m1) _).ak ((Mod.refl _ _).new _)
 ·exact gA (hl m2) _
theorem Jt(need:Bool)(f:Nat)(x y:List AV)(h:H)(n:Nat):ca (n+1) bn [.bool need,.func f x y] h=some (.agg [.int .i64 1,.bool need,.func f x y],h.new (.cells [.int .i64 1,.bool need,.func f x y] false)):=by
 rw[Nf,aL,mZ (n:=3) rfl rfl rfl,jF (n:=3) (aY _ _) rfl]
 simp only[cu,fV,oT,aE]
end
end Go.Ev.Tryz
namespace Go.Ev
theorem Mod.jm{S:List Nat}{a h:H}(q:Mod S a h)(o:Option cK):Mod S a (h.jm o):=⟨by rw[jw];exact Nat.le_succ_of_le q.next,λi hi hS=>by
 have hl:=Ep hi q.next
 rw[Ja (by omega)];exact q.get i hi hS⟩
theorem KA{hid:List Nat}{ins:List (Nat×AV×AV)}{h:H}{f:H->Option Unit}(h1:∀q∈ins,q.1∈hid)(h2:∀i∈hid,i<h.next)(h3:ins.Pairwise λa b=>a.1=b.1->bZ a.2.1 b.2.1=some false)(hf:∀h',DU hid ins h h'->f h'=some ()):Lq hid ins h f=some ():=by
 unfold Lq
 exact if_pos ⟨⟨h1,h2,h3⟩,hf⟩
theorem DU.fr{hid S:List Nat}{ins:List (Nat×AV×AV)}{h h':H}(r:DU hid ins h h'):Fr (hid++S) h S h':=
 ⟨⟨Nat.le_of_eq r.1.symm,λi _ hS=>r.2.1 i λhi=>hS (List.mem_append_left _ hi)⟩,λi hi=>.inl (List.mem_append_right _ hi)⟩
theorem DU.mod{hid:List Nat}{ins:List (Nat×AV×AV)}{h0 h h':H}(r:DU hid ins h h')(m:Mod [] h0 h)(hh:∀i∈hid,h0.next<=i):Mod [] h0 h':=
 ⟨by rw[r.1];exact m.next,λi hi _=>by
  rw[r.2.1 i λhm=>by have:=hh i hm;omega]
  exact m.get i hi (by simp)⟩
end Go.Ev
namespace Go.Ev.Tryz
set_option maxRecDepth 10000
open Go.Proofs
def V7(x:Bs×Key):Bs×Key:=(x.1,{x.2 with f:=0,x:=[],y:=[]})
theorem YL(L:List (Bs×Key))(w:Bs):lk (L.map V7) w=(lk L w).map λk=>(V7 (w,k)).2:=by
 induction L with
 | nil=>rfl
 | cons x L ih=>
  rw[List.map_cons,aQ,aQ,ih]
  show(if w=x.1 then _ else _)=_
  split<;>rfl
theorem WN(L:List (Bs×Key))(M:List (Bs×Int)):sI (L.map V7) M=sI L M:=by
 unfold sI
 rw[List.any_map];rfl
theorem MX{s:Bs}{l:List Wd}{L:List (Bs×Key)}:∀(F:Nat) (M:List (Bs×Int)) (st:St),cJ s l (L.map V7) F M st=cJ s l L F M st
 | 0,_,_=>rfl
 | F+1,M,st=>by
  unfold cJ tU
  rw[WN,YL]
  cases lk L (aa l st.p.k)with
  | none=>rfl
  | some key=>simp only[Option.map_some,MX F];rfl
theorem KY{s:Bs}{l:List Wd}{L:List (Bs×Key)}(st:St):bL s l (L.map V7) st=bL s l L st:=by
 unfold bL
 rw[MX]
def ou(w:Bs)(most:Int)(need:Bool)(sem:St->St×Bool):Bs×Key:=(w,⟨most,need,0,[],[],sem⟩)
def vB(st:St)(v:Cd):St:=aA st {st.p with bH:=v}
def AK(st:St)(v:Bs):St:=aA st {st.p with addr:=v}
def AM(st:St)(v:Bs):St:=aA st {st.p with peer:=v}
def FL(st:St)(v:Int):St:=aA st {st.p with id:=v}
def vC(st:St)(v:Int):St:=aA st {st.p with prio:=v}
def rY(st:St)(v:Int):St:=aA st {st.p with every:=v}
def kz:Bs:=⟨#[109,97,99]⟩
def bq:Bs:=⟨#[97,100,100,114,101,115,115]⟩
def rQ:Bs:=⟨#[112,101,101,114]⟩
def vu(s:Bs)(l:List Wd):List (Bs×Key):=[ou kz 1 true (nF s l vB),ou bq 1 true (bt s l false (j8 AK)),ou rQ 1 true (bt s l false (j8 AM))]
def vv(s:Bs)(l:List Wd)(st:St):St×Bool:=bL s l (vu s l) st
theorem GF{e:En}{α:Type}{o n:Nat}{enc:α->List AV}{put:Ps->α->Ps}(hn:∀v,(enc v).length=n)(hl:o+n<=21)(hc:∀v,(enc v).all cT=true)(hv:∀g p v,My (sQ e g p) o (enc v)=sQ e g (put p v))
  (hs:∀p v,(put p v).ag=p.ag/\(put p v).au=p.au/\(put p v).bh=p.bh/\(put p v).bB=p.bB/\(put p v).k=p.k):kW e (e.b,o) n enc (λst v=>aA st (put st.p v)):=by
 intro h st S v i
 obtain⟨h1,h2,h3,h4,h5⟩:=hs st.p v
 have ok:=i.okp
 exact i.wrP (hn v) hl (hc v) (λg=>hv g st.p v) h1 h2 h3 h4 ⟨by show(put st.p v).k<=_;rw[h5];exact ok.k,by show(put st.p v).ag.length<=(put st.p v).k;rw[h1,h5];exact ok.ag,by show(put st.p v).au.length<=(put st.p v).k;rw[h2,h5];exact ok.au,by show(put st.p v).bh.length<=(put st.p v).k;rw[h3,h5];exact ok.bh,by show(put st.p v).bB.length<=(put st.p v).k;rw[h4,h5];exact ok.bB,by show st.sv.bf.length<=(put st.p v).k;rw[h5];exact ok.bf,ok.len⟩
theorem aet(e:En):kW e (e.b,3) 6 xQ vB:=GF (put:=λp v=>{p with bH:=v}) (λ_=>rfl) (by decide) (λ_=>rfl) (λ_ _ _=>rfl) λ_ _=>⟨rfl,rfl,rfl,rfl,rfl⟩
theorem aes(e:En):kW e (e.b,9) 1 (λa=>[.str a]) AK:=GF (put:=λp v=>{p with addr:=v}) (λ_=>rfl) (by decide) (λ_=>rfl) (λ_ _ _=>rfl) λ_ _=>⟨rfl,rfl,rfl,rfl,rfl⟩
theorem aeu(e:En):kW e (e.b,10) 1 (λa=>[.str a]) AM:=GF (put:=λp v=>{p with peer:=v}) (λ_=>rfl) (by decide) (λ_=>rfl) (λ_ _ _=>rfl) λ_ _=>⟨rfl,rfl,rfl,rfl,rfl⟩
theorem anG(e:En):kW e (e.b,11) 1 (λv=>[.int .i64 v]) FL:=GF (put:=λp v=>{p with id:=v}) (λ_=>rfl) (by decide) (λ_=>rfl) (λ_ _ _=>rfl) λ_ _=>⟨rfl,rfl,rfl,rfl,rfl⟩
theorem aev(e:En):kW e (e.b,12) 1 (λv=>[.int .i64 v]) vC:=GF (put:=λp v=>{p with prio:=v}) (λ_=>rfl) (by decide) (λ_=>rfl) (λ_ _ _=>rfl) λ_ _=>⟨rfl,rfl,rfl,rfl,rfl⟩
theorem aaS(e:En):kW e (e.b,13) 1 (λv=>[.int .i64 v]) rY:=GF (put:=λp v=>{p with every:=v}) (λ_=>rfl) (by decide) (λ_=>rfl) (λ_ _ _=>rfl) λ_ _=>⟨rfl,rfl,rfl,rfl,rfl⟩
theorem RK(s:Bs)(l:List Wd)(w:Bs)(p:Ps):p.k<=(dS s l w p).1.k:=by
 unfold dS
 split
 ·exact dW _
 ·rw[(kJ _ _ _).1];exact cF _
theorem wK(s:Bs)(l:List Wd)(p:Ps):p.k<=(aS s l p).1.k:=by
 unfold aS
 split
 ·rw[(kJ _ _ _).1];exact cF _
 ·exact dW _
theorem J6(s:Bs)(l:List Wd)(st:St):st.p.k<=(k8 s l st).1.p.k:=RK s l nl st.p
theorem eB{s:Bs}{l:List Wd}{put:St->Int->St}(hp:∀st v,(put st v).p.k=st.p.k)(lo hi:Int)(st:St):st.p.k<=(bC s l put lo hi st).1.p.k:=by
 unfold bC
 have hv:=wK s l st.p
 generalize aS s l st.p=v at hv
 obtain⟨p,w,a,is⟩:=v
 cases is with
 | false=>exact hv
 | true=>
  rw[show yL s l put lo hi st (p,w,a,true)=if(cl (bs w)).2=true/\lo<=(cl (bs w)).1/\(cl (bs w)).1<=hi then k8 s l (put (aA st p) (cl (bs w)).1)else(aA st (bE p a 182),false)from rfl]
  split
  ·refine qb hv (qb ?_ (J6 _ _ _))
   rw[hp];exact cF _
  ·show st.p.k<=(bE p a 182).k
   rw[(kJ _ _ _).1];exact hv
theorem sj{s:Bs}{l:List Wd}{put:St->Int->St}(hp:∀st v,(put st v).p.k=st.p.k)(L:List (Bs×Int))(st:St):st.p.k<=(cM s l put L st).1.p.k:=by
 unfold cM
 have hv:=wK s l st.p
 generalize aS s l st.p=v at hv
 obtain⟨p,w,a,is⟩:=v
 cases is with
 | false=>exact hv
 | true=>
  rw[show wP s l put L st (p,w,a,true)=(match lk L w with | some v=>k8 s l (put (aA st p) v) | none=>(aA st (bE p a 182),false))from rfl]
  split
  ·refine qb hv (qb ?_ (J6 _ _ _))
   rw[hp];exact cF _
  ·show st.p.k<=(bE p a 182).k
   rw[(kJ _ _ _).1];exact hv
theorem IC{s:Bs}{l:List Wd}{put:St->Cd->St}(hp:∀st v,(put st v).p.k=st.p.k)(st:St):st.p.k<=(nF s l put st).1.p.k:=by
 unfold nF
 have hv:=wK s l st.p
 generalize aS s l st.p=v at hv
 obtain⟨p,w,a,is⟩:=v
 cases is with
 | false=>exact hv
 | true=>
  rw[show ID s l put st (p,w,a,true)=if(eM w).2=true then k8 s l (put (aA st p) (xO (eM w).1))else(aA st (bE p a 182),false)from rfl]
  split
  ·refine qb hv (qb ?_ (J6 _ _ _))
   rw[hp];exact cF _
  ·show st.p.k<=(bE p a 182).k
   rw[(kJ _ _ _).1];exact hv
theorem iJ{s:Bs}{l:List Wd}{xE:Bool}{tk:St->Bs->Int->St×Bool}(hp:∀st a at',(tk st a at').1.p.k=st.p.k)(st:St):st.p.k<=(bt s l xE tk st).1.p.k:=by
 unfold bt
 have hv:=wK s l st.p
 generalize aS s l st.p=v at hv
 obtain⟨p,w,a,is⟩:=v
 cases is with
 | false=>exact hv
 | true=>
  rw[show pJ s l xE tk st (p,w,a,true)=if(eL w).2=true then pE s l (tk (aA st {p with ag:=p.ag++[((eL w).1,a,xE)]}) (eL w).1 a)else(aA st (bE p a 182),false)from rfl]
  split
  ·have:=hp (aA st {p with ag:=p.ag++[((eL w).1,a,xE)]}) (eL w).1 a
   unfold pE
   split
   ·refine qb hv (qb ?_ (J6 _ _ _))
    rw[this];exact cF _
   ·refine qb hv ?_
    show p.k<=(tk _ _ _).1.p.k
    rw[this];exact cF _
  ·show st.p.k<=(bE p a 182).k
   rw[(kJ _ _ _).1];exact hv
theorem X1{s:Bs}{l:List Wd}{L:List (Bs×Key)}(hL:∀x∈L,∀st:St,st.p.k<=(x.2.sem st).1.p.k):∀(F:Nat) (M:List (Bs×Int)) (st:St),st.p.k<=(cJ s l L F M st).1.p.k
 | 0,_,_=>cF _
 | F+1,M,st=>by
  unfold cJ
  split
  ·unfold tU
   split
   ·show st.p.k<=(bE _ _ _).k
    rw[(kJ _ _ _).1];exact cF _
   ·exact qb (dW _) (J6 s l (aA st {st.p with k:=st.p.k+1}))
  ·split
   ·show st.p.k<=(bE _ _ _).k
    rw[(kJ _ _ _).1];exact cF _
   ·next key hlk=>
    have h1:st.p.k<=(key.sem (aA st {st.p with k:=st.p.k+1})).1.p.k:=qb (dW _) (hL _ (wE hlk) (aA st {st.p with k:=st.p.k+1}))
    split
    ·show st.p.k<=(bE _ _ _).k
     rw[(kJ _ _ _).1];exact cF _
    ·split
     ·exact qb h1 (X1 hL F _ _)
     ·exact h1
theorem uW{s:Bs}{l:List Wd}{L:List (Bs×Key)}(hL:∀x∈L,∀st:St,st.p.k<=(x.2.sem st).1.p.k)(st:St):st.p.k<=(bL s l L st).1.p.k:=by
 unfold bL
 have h1:=RK s l ⟨#[123]⟩ st.p
 have h2:=RK s l nl (dS s l ⟨#[123]⟩ st.p).1
 split
 ·split
  ·exact qb (qb h1 h2) (X1 hL _ _ (aA st (dS s l nl (dS s l ⟨#[123]⟩ st.p).1).1))
  ·exact qb h1 h2
 ·exact h1
theorem ah4{f:Nat}(hf:(V6 T.Pm f).isSome=true){n:Nat}{args:List AV}{h:H}{Q:AV->H->Prop}(r:JZ (λkk=>cr n f args h kk) Q):JZ (λkk=>Hf T n f args h kk) Q:=by
 intro kk hk
 show Hf T n f args h kk=some ()
 unfold Hf
 rw[hf]
 exact r kk hk
theorem zJ{β:Type}(h:H)(f:Nat->H->Option β):Lj h f=f h.next (h.jm none):=rfl
def arZ(m:Nat)(L:List (Bs×Key)):List (Nat×AV×AV):=L.map λx=>(m,.str x.1,G0 x.2)
theorem Pf{m:Nat}{L:List (Bs×Key)}(hn:(L.map (·.1)).Nodup):(arZ m L).Pairwise λa b=>a.1=b.1->bZ a.2.1 b.2.1=some false:=by
 unfold arZ
 rw[List.pairwise_map]
 rw[List.Nodup,List.pairwise_map]at hn
 refine hn.imp λ{a b} h _=>?_
 rw[vl]
 simp[h]
section
variable {e:En}{S:List Nat}{h:H}{st:St}
theorem HX{hid:List Nat}{m:Nat}{L L0:List (Bs×Key)}{ins:List (Nat×AV×AV)}{hb h:H}(i:Inv e hb st S)(md:Mod [] hb h)(hh:∀x∈hid,hb.next<=x)(hm:m∈hid)(hlt:m<h.next)(Kh:(ins.filter λq=>q.1==m).map (·.2)=L.map λx=>(.str x.1,G0 x.2))
  {h':H} (r:DU hid ins h h') {N n:Nat} (ks:Hz e S h' N L) (hn:(L.map (·.1)).Nodup) (hL0:L.map V7=L0) (hN:N+2<=n) (h1:1110<=n) (h2:e.l.length+5<=n):
  JZ (λkk=>cr n dD [.ptr (some (e.b,0)),.map (some m)] h' kk) λr h''=>∃S',r=.bool (bL e.s e.l L0 st).2/\Fr S hb S' h''/\Inv e h'' (bL e.s e.l L0 st).1 S':=by
 have md':Mod [] hb h':=r.mod md hh
 obtain⟨es,eO,hg,hp,hnd,Vb⟩:=r.2.2 m hm
 rw[Kh]at hp
 obtain⟨L',hp',hM⟩:=yx.YS (ek:=AV.str) (ev:=G0) hp hnd Vb
 replace hlt:m<h'.next:=by rw[r.1];exact hlt
 have i':=i.frame md'
 refine(Pz (ks.perm hp' hn) i' ⟨⟨hlt,hg⟩,λhx=>by have:=i.WR _ hx;have:=hh m hm;omega⟩ hM hN h1 h2 (L0:=L0) ?_).mono ?_
 ·rw[Tg hp' hn,<-hL0,KY]
 ·rintro r h2 ⟨S',e1,f1,j1⟩
  exact⟨S',e1,(Fr.ak md').trans f1,j1⟩
def Words(l:List Wd):Prop:=∀w∈l,w.1.size<=80000
theorem Bc{S:List Nat}{h:H}{N n:Nat}{sem:St->St×Bool}{c:Option (AV×H)}(r:cg c (Made e S N sem h)){need:Bool}{k:Int->Bool->AV->AV×H->Option Unit}
  (hk:∀f x y h' v,Mod [] h h'->oF e S h' N f x y sem->k 1 need (.func f x y) (v,h')=some ()):
  (c.bind λq=>pK q.1 λf x y=>(ca (n+1) bn [.bool need,.func f x y] q.2).bind λq'=>asAgg q'.1 λl=>lI l λi l=>lB l λb l=>lc l λv l=>l0 l (k i b v q'))=some ():=by
 obtain⟨r,h1,rfl,m1,f,x,y,rfl,rd⟩:=r
 rw[fD,wO,Jt,fD]
 simp only[bG,cu,fV,oT,aE]
 exact hk f x y _ _ (m1.new _) (rd.fr (.ak ((Mod.refl _ _).new _)))
theorem akT{S:List Nat}{h:H}{N:Nat}{tk:St->Bs->Int->St×Bool}{c:Option (AV×H)}(r:cg c (abK e S N tk h)){k:Nat->List AV->List AV->AV×H->Option Unit}
  (hk:∀f x y h' v,Mod [] h h'->J0 e S h' N f x y tk->k f x y (v,h')=some ()):(c.bind λq=>pK q.1 λf x y=>k f x y q)=some ():=by
 obtain⟨r,h1,rfl,m1,f,x,y,rfl,rd⟩:=r
 rw[fD,wO]
 exact hk f x y _ _ m1 rd
theorem aho(e:En)(S0:List Nat)(h0:H)(hw:Words e.l){N:Nat}(hN:90000+e.l.length<=N):oF e S0 h0 N cN [.ptr (some (e.b,0))] [] (vv e.s e.l):=by
 refine⟨λb k=>by kernel_rfl,λn hn h S st _ i=>ah4 (by kernel_rfl) ?_⟩
 intro kk hkk
 obtain⟨n,rfl⟩:∃k,n=k+2:=⟨n - 2,by omega⟩
 show cr (n+1+1) cN [.ptr (some (e.b,0))] h kk=some ()
 have hw':∀w∈e.l,w.1.size<90000/\w.1.size+70<=80070:=λw hx=>by have:=hw w hx;omega
 rw[Eb,zJ]
 simp only[ai,Nat.zero_add]
 have hS:=i.WR
 have m0:Mod [] h (h.jm none):=(Mod.refl _ _).jm _
 have hS0:∀x∈[h.next]++S,x<(h.jm none).next:=by
  intro x hx
  rw[jw]
  rcases List.mem_append.1 hx with hx | hx
  ·obtain rfl:=List.mem_singleton.1 hx;exact Nat.lt_succ_self _
  ·exact Nat.lt_succ_of_lt (hS x hx)
 have up:∀{h' h'':H},Mod [] h' h''->(∀x∈[h.next]++S,x<h'.next)->∀x∈[h.next]++S,x<h''.next:=λm hh x hx=>m.lt (hh x hx)
 refine Bc (X4 hS0 hw' (by omega) (aet e) n) λf1 x1 y1 h1 v1 m1 d1=>?_
 have u1:=up m1 hS0
 refine akT (Mg u1 (aes e) n) λf2 x2 y2 h2 v2 m2 d2=>?_
 have u2:=up m2 u1
 refine Bc (ze u2 hw' (by omega) false (d2.more (N':=80069) (by omega)) n) λf3 x3 y3 h3 v3 m3 d3=>?_
 have u3:=up m3 u2
 refine akT (Mg u3 (aeu e) n) λf4 x4 y4 h4 v4 m4 d4=>?_
 have u4:=up m4 u3
 refine Bc (ze u4 hw' (by omega) false (d4.more (N':=80069) (by omega)) n) λf5 x5 y5 h5 v5 m5 d5=>?_
 have md:Mod [] h h5:=((((m0.trans m1).trans m2).trans m3).trans m4).trans m5
 have d3':=(d3.fr (.ak (m4.trans m5)))
 have d1':=(d1.fr (.ak (((m2.trans m3).trans m4).trans m5)))
 have hlt:h.next<h5.next:=up m5 u4 h.next (by simp)
 refine KA (by simp) (by simpa using hlt) (Pf (m:=h.next) (L:=[(kz,⟨1,true,f1,x1,y1,nF e.s e.l vB⟩),(bq,⟨1,true,f3,x3,y3,bt e.s e.l false (j8 AK)⟩),(rQ,⟨1,true,f5,x5,y5,bt e.s e.l false (j8 AM)⟩)]) (by simp[kz,bq,rQ])) λh6 r=>?_
 have fr:Fr ([h.next]++S) h5 S h6:=r.fr
 refine HX (n:=n+1) (N:=80070) (L:=[(kz,⟨1,true,f1,x1,y1,nF e.s e.l vB⟩),(bq,⟨1,true,f3,x3,y3,bt e.s e.l false (j8 AK)⟩),(rQ,⟨1,true,f5,x5,y5,bt e.s e.l false (j8 AM)⟩)]) (L0:=vu e.s e.l) i md (by simp) (List.mem_singleton.2 rfl) hlt (by simp[G0,kz,bq,rQ]) r ⟨?_,?_,rfl,?_,by simp⟩ (by simp[kz,bq,rQ]) rfl (by omega) (by omega) (by omega) _ λr' h7 hq=>?_
 ·intro x hx
  simp only[List.mem_cons,List.not_mem_nil,or_false]at hx
  rcases hx with rfl | rfl | rfl
  ·exact d1'.fr fr
  ·exact d3'.fr fr
  ·exact d5.fr fr
 ·intro x hx
  simp only[List.mem_cons,List.not_mem_nil,or_false]at hx
  rcases hx with rfl | rfl | rfl
  ·exact IC λ_ _=>rfl
  ·exact iJ λ_ _ _=>rfl
  ·exact iJ λ_ _ _=>rfl
 ·intro x hx
  simp only[List.mem_cons,List.not_mem_nil,or_false]at hx
  rcases hx with rfl | rfl | rfl<;>exact(by decide:(1:Int)<=1000)
 ·obtain⟨S',rfl,f7,j7⟩:=hq
  rw[aq]
  exact hkk _ _ ⟨S',rfl,f7,j7⟩
end
def xY(st:St)(v:Int):St:={st with yes:=v}
def Pd:Bs:=⟨#[105,100]⟩
def tr:Bs:=⟨#[112,114,105,111,114,105,116,121]⟩
def ni:Bs:=⟨#[101,118,101,114,121]⟩
def Dk:Bs:=⟨#[121,101,115]⟩
def Rq:Bs:=⟨#[110,111]⟩
def fL:Bs:=⟨#[112,114,101,101,109,112,116]⟩
def jt:Bs:=⟨#[118,105,112]⟩
def iL:Bs:=⟨#[116,114,97,99,107]⟩
def JS:List (Bs×Int):=[(Dk,1),(Rq,0)]
def iO(s:Bs)(l:List Wd):List (Bs×Key):=[ou Pd 1 true (bC s l FL 1 255),ou tr 1 true (bC s l vC 1 255),ou ni 1 true (bC s l rY 1 4095),ou fL 1 false (cM s l xY JS),ou jt 8 true (bt s l false zY),ou iL 8 false (pF s l)]
def aep(r:St×Bool):St×Bool:=(aA r.1 {r.1.p with pre:=r.1.yes==1},r.2)
def oE(s:Bs)(l:List Wd)(st:St):St×Bool:=aep (bL s l (iO s l) {st with yes:=1})
theorem yz{s:Bs}{l:List Wd}{put:St->Int->St}{L L':List (Bs×Int)}(hp:L'.Perm L)(hn:(L.map (·.1)).Nodup):cM s l put L'=cM s l put L:=by
 funext st
 unfold cM
 generalize aS s l st.p=v
 obtain⟨p,w,a,is⟩:=v
 cases is with
 | false=>rfl
 | true=>
  show(match lk L' w with | some v=>k8 s l (put (aA st p) v) | none=>(aA st (bE p a 182),false))=(match lk L w with | some v=>k8 s l (put (aA st p) v) | none=>(aA st (bE p a 182),false))
  rw[Rz hp hn]
theorem Oy(s:Bs)(l:List Wd)(st:St):st.p.k<=(pF s l st).1.p.k:=by
 have hn:st.p.k<=(cB s l (st.p.bh.map (·.1)) st.p).1.k:=by
  unfold cB
  have hv:=wK s l st.p
  generalize aS s l st.p=v at hv
  obtain⟨p,w,a,is⟩:=v
  cases is with
  | false=>exact hv
  | true=>
   rw[show Bb (st.p.bh.map (·.1)) (p,w,a,true)=if 40<w.size then(bE p a 182,⟨#[]⟩,false)else if uO w (st.p.bh.map (·.1))=true then(bE p a 181,⟨#[]⟩,false)else(p,w,true)from rfl]
   split
   ·show st.p.k<=(bE p a 182).k
    rw[(kJ _ _ _).1];exact hv
   ·split
    ·show st.p.k<=(bE p a 181).k
     rw[(kJ _ _ _).1];exact hv
    ·exact hv
 unfold pF
 generalize cB s l (st.p.bh.map (·.1)) st.p=v at hn
 obtain⟨p,nm,is⟩:=v
 cases is with
 | false=>exact hn
 | true=>
  show st.p.k<=(jA s l nm st (aS s l p)).1.p.k
  have hv:=qb hn (wK s l p)
  generalize aS s l p=v at hv
  obtain⟨p,w,a,is⟩:=v
  cases is with
  | false=>exact hv
  | true=>
   unfold jA
   simp only
   split
   ·exact qb hv (J6 s l (aA st {p with bh:=p.bh++[(nm,if(cH w).2=true then - (cl (bs (cH w).1)).1 else(cl (bs (cH w).1)).1)]}))
   ·show st.p.k<=(bE p a 182).k
    rw[(kJ _ _ _).1];exact hv
theorem Xz(st:St)(a:Bs)(at':Int):(zY st a at').1.p.k=st.p.k:=by
 unfold zY
 split
 ·exact(kJ _ _ _).1
 ·rfl
section
variable {e:En}{S:List Nat}{h:H}{st:St}
theorem anx{h:H}{n:Nat}{P:Nat->List AV->List AV->H->Prop}{c:Option (AV×H)}(r:cg c λr h'=>Mod [] h h'/\∃f x y,r=.func f x y/\P f x y h'){need:Bool}{k:Int->Bool->AV->AV×H->Option Unit}
  (hk:∀f x y h' h'' v,Mod [] h h'->P f x y h'->Mod [] h' h''->k 1 need (.func f x y) (v,h'')=some ()):
  (c.bind λq=>pK q.1 λf x y=>(ca (n+1) bn [.bool need,.func f x y] q.2).bind λq'=>asAgg q'.1 λl=>lI l λi l=>lB l λb l=>lc l λv l=>l0 l (k i b v q'))=some ():=by
 obtain⟨r,h1,rfl,m1,f,x,y,rfl,rd⟩:=r
 rw[fD,wO,Jt,fD]
 simp only[bG,cu,fV,oT,aE]
 exact hk f x y _ _ _ m1 rd ((Mod.refl _ _).new _)
theorem aqM{S:List Nat}{h:H}{N:Nat}{sem:St->St×Bool}{c:Option (AV×H)}(r:cg c (Made e S N sem h)){k:Nat->List AV->List AV->AV×H->Option Unit}
  (hk:∀f x y h' v,Mod [] h h'->oF e S h' N f x y sem->k f x y (v,h')=some ()):(c.bind λq=>pK q.1 λf x y=>k f x y q)=some ():=by
 obtain⟨r,h1,rfl,m1,f,x,y,rfl,rd⟩:=r
 rw[fD,wO]
 exact hk f x y _ _ m1 rd
theorem ahJ{e:En}{b:Nat}(he:e.yes=some b):kW e (b,0) 1 (λv=>[.int .i64 v]) xY:=λ_ _ _ v i=>i.wrY he v
theorem Inv.aqC(i:Inv e h st S){b:Nat}(he:e.yes=some b){β:Type}(k:AV->Option β):af h b 0 k=k (.int .i64 st.yes):=by
 obtain⟨g,rfl,i⟩:=i
 exact i.ow.cell (i.fy.trans he) (by rw[i.cy];rfl) k
theorem DJ{hid S:List Nat}{ins:List (Nat×AV×AV)}{h h':H}(r:DU hid ins h h'){m:Nat}(hm:m∈hid)(hlt:m<h.next)(hS:m∉S){L:List (Bs×Int)}(Kh:(ins.filter λq=>q.1==m).map (·.2)=L.map λx=>(AV.str x.1,AV.int .i64 x.2)):
  ∃L' o,L'.Perm L/\Kept S h' m o/\yx AV.str (λv=>.int .i64 v) L' o:=by
 obtain⟨es,eO,hg,hp,hnd,Vb⟩:=r.2.2 m hm
 rw[Kh]at hp
 obtain⟨L',hp',hM⟩:=yx.YS (ek:=AV.str) (ev:=λv=>AV.int .i64 v) hp hnd Vb
 exact⟨L',_,hp',⟨⟨by rw[r.1];exact hlt,hg⟩,hS⟩,hM⟩
theorem YF(a b:Bs):bZ (.str a) (.str b)=some (decide (a=b)):=vl a b
theorem aiy(e:En)(hy:e.yes=none)(S0:List Nat)(h0:H)(hw:Words e.l){N:Nat}(hN:90000+e.l.length<=N):oF e S0 h0 N cO [.ptr (some (e.b,0))] [] (oE e.s e.l):=by
 refine⟨λb k=>by kernel_rfl,λn hn h S st _ i0=>ah4 (by kernel_rfl) ?_⟩
 intro kk hkk
 obtain⟨n,rfl⟩:∃k,n=k+2:=⟨n - 2,by omega⟩
 show cr (n+1+1) cO [.ptr (some (e.b,0))] h kk=some ()
 have hw':∀w∈e.l,w.1.size<90000/\w.1.size+70<=80100+e.l.length:=λw hx=>by have:=hw w hx;omega
 rw[Ed,aL,mZ (n:=1) rfl rfl rfl]
 have ma:Mod [] h (h.new (.cells [.int .i64 1] false)):=(Mod.refl _ _).new _
 obtain⟨S,fa,i⟩:=i0.as0 hy (cF h.next) (.new h (.cells [.int .i64 1] false)) ma
 generalize h.next=by_ at i ⊢
 generalize h.new (.cells [.int .i64 1] false)=ha at i fa ⊢
 rw[zJ]
 simp only[ai,Nat.zero_add]
 have hS:=i.WR
 have m0:Mod [] ha (ha.jm none):=(Mod.refl _ _).jm _
 have hS0:∀x∈[ha.next]++S,x<(ha.jm none).next:=by
  intro x hx
  rw[jw]
  rcases List.mem_append.1 hx with hx | hx
  ·obtain rfl:=List.mem_singleton.1 hx;exact Nat.lt_succ_self _
  ·exact Nat.lt_succ_of_lt (hS x hx)
 have up:∀{T:List Nat} {h' h'':H},Mod [] h' h''->(∀x∈T,x<h'.next)->∀x∈T,x<h''.next:=λm hh x hx=>m.lt (hh x hx)
 refine Bc (sy hS0 (anG {e with yes:=some by_}) 1 255 n) λf1 x1 y1 h1 v1 m1 d1=>?_
 have u1:=up m1 hS0
 refine Bc (sy u1 (aev {e with yes:=some by_}) 1 255 n) λf2 x2 y2 h2 v2 m2 d2=>?_
 have u2:=up m2 u1
 refine Bc (sy u2 (aaS {e with yes:=some by_}) 1 4095 n) λf3 x3 y3 h3 v3 m3 d3=>?_
 have u3:=up m3 u2
 rw[zJ]
 have m4:Mod [] h3 (h3.jm none):=(Mod.refl _ _).jm _
 have u4:∀x∈[ha.next,h3.next]++S,x<(h3.jm none).next:=by
  intro x hx
  rw[jw]
  simp only[List.cons_append,List.nil_append,List.mem_cons]at hx
  rcases hx with rfl | rfl | hx
  ·exact Nat.lt_succ_of_lt (u3 _ (by simp))
  ·exact Nat.lt_succ_self _
  ·exact Nat.lt_succ_of_lt (u3 _ (by simp[hx]))
 have hne:ha.next≠h3.next:=λe'=>by have:=u3 ha.next (by simp);omega
 have T:∀{h' h'':H},Mod [] h' h''->h'.next<=h3.next->Fr ([ha.next]++S) h' ([ha.next,h3.next]++S) h'':=λm hl=>⟨m.of_nil,λy hy=>by
  simp only[List.cons_append,List.nil_append,List.mem_cons]at hy ⊢
  rcases hy with rfl | rfl | hy
  ·exact .inl (.inl rfl)
  ·exact .inr hl
  ·exact .inl (.inr hy)⟩
 have hc:=PC (e:={e with yes:=some by_}) (S:=[ha.next,h3.next]++S) u4 (ahJ rfl) (m:=h3.next) (u4 h3.next (by simp)) (n:=n)
 refine anx (P:=λf x y h'=>f=aU/\x=[]/\∀(S2:List Nat) (h2:H) (o:cK) (L:List (Bs×Int)),(∀j oj,Kept ([ha.next,h3.next]++S) h' j oj->j≠h3.next->Kept S2 h2 j oj)->Kept S2 h2 h3.next o->yx AV.str (λv=>.int .i64 v) L o->oF {e with yes:=some by_} S2 h2 30 aU [] y (cM e.s e.l xY L)) (hc.mono λr h' ⟨q1,y,q2,q3⟩=>⟨q1,_,_,y,q2,rfl,rfl,q3⟩) λf5 x5 y5 h5 h6 v6 m5 P5 m6=>?_
 obtain⟨rfl,rfl,P5⟩:=P5
 have u6:=up (m5.trans m6) u4
 refine aqM (ze (e:={e with yes:=some by_}) (N:=80100+e.l.length) u6 hw' (by omega) false (aod (by show e.l.length+10<=_;omega)) n) λf7 x7 y7 h7 v7 m7 d7=>?_
 have u7:=up m7 u6
 have m47:Mod [] h3 h7:=((m4.trans m5).trans m6).trans m7
 have md:Mod [] ha h7:=(((m0.trans m1).trans m2).trans m3).trans m47
 have g1:=d1.fr (T ((m2.trans m3).trans m47) (m2.trans m3).next)
 have g2:=d2.fr (T (m3.trans m47) m3.next)
 have g3:=d3.fr (T m47 (cF _))
 refine KA (by simp) (by simpa using⟨u7 ha.next (by simp),u7 h3.next (by simp)⟩) (by simp[List.pairwise_cons,YF,hne,hne.symm]) λh8 r=>?_
 dsimp only at r ⊢
 have fr:Fr ([ha.next,h3.next]++S) h7 S h8:=r.fr
 have hout:h3.next∉S:=λhx=>by have:=hS _ hx;have:=(m0.trans ((m1.trans m2).trans m3)).next;omega
 obtain⟨LC,oC,hpC,kC,hC⟩:=DJ r (S:=S) (m:=h3.next) (by simp) (u7 h3.next (by simp)) hout (L:=JS) (by simp[JS,Dk,Rq,hne])
 have g5:=P5 S h8 oC LC (λj oj k _=>(k.ak (m6.trans m7)).fr fr) kC hC
 rw[yz hpC (by simp[JS,Dk,Rq])]at g5
 refine HX (n:=n+1) (N:=80200+e.l.length) (L:=[(Pd,⟨1,true,f1,x1,y1,bC e.s e.l FL 1 255⟩),(tr,⟨1,true,f2,x2,y2,bC e.s e.l vC 1 255⟩),(ni,⟨1,true,f3,x3,y3,bC e.s e.l rY 1 4095⟩),(fL,⟨1,false,aU,[],y5,cM e.s e.l xY JS⟩),(jt,⟨8,true,f7,x7,y7,bt e.s e.l false zY⟩),(iL,⟨8,false,iE,[.ptr (some (e.b,0))],[],pF e.s e.l⟩)]) (L0:=iO e.s e.l) i md (by simp;exact(m0.trans ((m1.trans m2).trans m3)).next) (by simp) (u7 ha.next (by simp)) (by simp[G0,Pd,tr,ni,fL,jt,iL,hne.symm]) r ⟨?_,?_,rfl,?_,by simp⟩ (by simp[Pd,tr,ni,fL,jt,iL]) rfl (by omega) (by omega) (by simp;omega) _ λr' h9 hq=>?_
 ·intro x hx
  simp only[List.mem_cons,List.not_mem_nil,or_false]at hx
  rcases hx with rfl | rfl | rfl | rfl | rfl | rfl
  ·exact oF.more (N:=30) (g1.fr fr) (by omega)
  ·exact oF.more (N:=30) (g2.fr fr) (by omega)
  ·exact oF.more (N:=30) (g3.fr fr) (by omega)
  ·exact oF.more (N:=30) g5 (by omega)
  ·exact oF.more (N:=80100+e.l.length) (d7.fr fr) (by omega)
  ·exact ae8 _ _ _ (by simp;omega)
 ·intro x hx
  simp only[List.mem_cons,List.not_mem_nil,or_false]at hx
  rcases hx with rfl | rfl | rfl | rfl | rfl | rfl
  ·exact eB (put:=FL) (λ_ _=>rfl) _ _
  ·exact eB (put:=vC) (λ_ _=>rfl) _ _
  ·exact eB (put:=rY) (λ_ _=>rfl) _ _
  ·exact sj (put:=xY) (λ_ _=>rfl) _
  ·exact iJ Xz
  ·exact Oy _ _
 ·intro x hx
  simp only[List.mem_cons,List.not_mem_nil,or_false]at hx
  rcases hx with rfl | rfl | rfl | rfl | rfl | rfl<;>first | exact(by decide:(1:Int)<=1000) | exact(by decide:(8:Int)<=1000)
 ·obtain⟨S',rfl,f7,j7⟩:=hq
  rw[aq,j7.aqC rfl,aj]
  have ok:=j7.okp
  obtain⟨h10,e10,f10,j10⟩:=j7.wrP (p':={(bL e.s e.l (iO e.s e.l) {st with yes:=1}).1.p with pre:=(bL e.s e.l (iO e.s e.l) {st with yes:=1}).1.yes==1}) (o:=14) (n:=1) (xs:=[.bool ((bL e.s e.l (iO e.s e.l) {st with yes:=1}).1.yes==1)]) rfl (by decide) rfl (λ_=>rfl) rfl rfl rfl rfl ⟨ok.k,ok.ag,ok.au,ok.bh,ok.bB,ok.bf,ok.len⟩
  obtain⟨S'',fc,jc⟩:=Inv.akK hy j10
  rw[e10]
  exact hkk _ _ ⟨S'',rfl,((fa.trans f7).trans f10).trans fc,jc⟩
end
structure Steps(R:St->St->Prop):Prop where
 refl:∀st,R st st
 trans:∀{a b c},R a b->R b c->R a c
 set:∀st p,p.bB=st.p.bB->R st (aA st p)
theorem nI(p:Ps)(a c:Int):(bE p a c).bB=p.bB:=(kJ p a c).2.2.2.2
theorem Kr(s:Bs)(l:List Wd)(w:Bs)(p:Ps):(dS s l w p).1.bB=p.bB:=by
 unfold dS;split
 ·rfl
 ·exact nI _ _ _
theorem zW(s:Bs)(l:List Wd)(p:Ps):(aS s l p).1.bB=p.bB:=by
 unfold aS;split
 ·exact nI _ _ _
 ·rfl
section
variable {R:St->St->Prop}(hR:Steps R){s:Bs}{l:List Wd}
include hR
theorem Nr(st:St):R st (k8 s l st).1:=hR.set _ _ (Kr s l nl st.p)
theorem yZ{put:St->Int->St}(hp:∀st v,R st (put st v))(lo hi:Int)(st:St):R st (bC s l put lo hi st).1:=by
 unfold bC
 have hv:=zW s l st.p
 generalize aS s l st.p=v at hv
 obtain⟨p,w,a,is⟩:=v
 cases is with
 | false=>exact hR.set _ _ hv
 | true=>
  rw[show yL s l put lo hi st (p,w,a,true)=if(cl (bs w)).2=true/\lo<=(cl (bs w)).1/\(cl (bs w)).1<=hi then k8 s l (put (aA st p) (cl (bs w)).1)else(aA st (bE p a 182),false)from rfl]
  split
  ·exact hR.trans (hR.trans (hR.set st p hv) (hp _ _)) (Nr hR _)
  ·exact hR.set _ _ ((nI _ _ _).trans hv)
theorem J4{put:St->Int->St}(hp:∀st v,R st (put st v))(L:List (Bs×Int))(st:St):R st (cM s l put L st).1:=by
 unfold cM
 have hv:=zW s l st.p
 generalize aS s l st.p=v at hv
 obtain⟨p,w,a,is⟩:=v
 cases is with
 | false=>exact hR.set _ _ hv
 | true=>
  rw[show wP s l put L st (p,w,a,true)=(match lk L w with | some v=>k8 s l (put (aA st p) v) | none=>(aA st (bE p a 182),false))from rfl]
  split
  ·exact hR.trans (hR.trans (hR.set st p hv) (hp _ _)) (Nr hR _)
  ·exact hR.set _ _ ((nI _ _ _).trans hv)
theorem agr{put:St->Cd->St}(hp:∀st v,R st (put st v))(st:St):R st (nF s l put st).1:=by
 unfold nF
 have hv:=zW s l st.p
 generalize aS s l st.p=v at hv
 obtain⟨p,w,a,is⟩:=v
 cases is with
 | false=>exact hR.set _ _ hv
 | true=>
  rw[show ID s l put st (p,w,a,true)=if(eM w).2=true then k8 s l (put (aA st p) (xO (eM w).1))else(aA st (bE p a 182),false)from rfl]
  split
  ·exact hR.trans (hR.trans (hR.set st p hv) (hp _ _)) (Nr hR _)
  ·exact hR.set _ _ ((nI _ _ _).trans hv)
theorem MM{xE:Bool}{put:St->Bs->St}(hp:∀st v,R st (put st v))(st:St):R st (bt s l xE (j8 put) st).1:=by
 unfold bt
 have hv:=zW s l st.p
 generalize aS s l st.p=v at hv
 obtain⟨p,w,a,is⟩:=v
 cases is with
 | false=>exact hR.set _ _ hv
 | true=>
  rw[show pJ s l xE (j8 put) st (p,w,a,true)=if(eL w).2=true then pE s l (j8 put (aA st {p with ag:=p.ag++[((eL w).1,a,xE)]}) (eL w).1 a)else(aA st (bE p a 182),false)from rfl]
  split
  ·have h1:R st (put (aA st {p with ag:=p.ag++[((eL w).1,a,xE)]}) (eL w).1):=hR.trans (hR.set st {p with ag:=p.ag++[((eL w).1,a,xE)]} hv) (hp _ _)
   exact hR.trans h1 (Nr hR _)
  ·exact hR.set _ _ ((nI _ _ _).trans hv)
theorem X0{L:List (Bs×Key)}(hL:∀x∈L,∀st:St,R st (x.2.sem st).1):∀(F:Nat) (M:List (Bs×Int)) (st:St),R st (cJ s l L F M st).1
 | 0,_,_=>hR.refl _
 | F+1,M,st=>by
  unfold cJ
  split
  ·unfold tU
   split
   ·exact hR.set _ _ (nI _ _ _)
   ·exact hR.trans (hR.set st {st.p with k:=st.p.k+1} rfl) (Nr hR _)
  ·split
   ·exact hR.set _ _ (nI _ _ _)
   ·next key hlk=>
    have h1:R st (key.sem (aA st {st.p with k:=st.p.k+1})).1:=hR.trans (hR.set st {st.p with k:=st.p.k+1} rfl) (hL _ (wE hlk) _)
    split
    ·exact hR.set _ _ (nI _ _ _)
    ·split
     ·exact hR.trans h1 (X0 hL F _ _)
     ·exact h1
theorem MV{L:List (Bs×Key)}(hL:∀x∈L,∀st:St,R st (x.2.sem st).1)(st:St):R st (bL s l L st).1:=by
 unfold bL
 have h1:=Kr s l ⟨#[123]⟩ st.p
 have h2:=(Kr s l nl (dS s l ⟨#[123]⟩ st.p).1).trans h1
 split
 ·split
  ·exact hR.trans (hR.set st _ h2) (X0 hR hL _ _ _)
  ·exact hR.set _ _ h2
 ·exact hR.set _ _ h1
end
def Y3(a b:St):Prop:=b.sv.bf=a.sv.bf
theorem Qs:Steps Y3:=⟨λ_=>rfl,λh k=>Eq.trans k h,λ_ _ _=>rfl⟩
def Mw(a b:St):Prop:=b.p.bB=a.p.bB
theorem oc:Steps Mw:=⟨λ_=>rfl,λh k=>Eq.trans k h,λ_ _ h=>h⟩
def xy(st:St)(v:Bs):St:={st with bk:={st.bk with addr:=v}}
def pP(st:St)(v:Cd):St:={st with bk:={st.bk with bH:=v}}
def pQ(st:St)(v:Int):St:={st with bk:={st.bk with port:=v}}
def jE(st:St)(v:Int):St:={st with bk:={st.bk with weight:=v}}
def fK:Bs:=⟨#[112,111,114,116]⟩
def iU:Bs:=⟨#[119,101,105,103,104,116]⟩
def bN(s:Bs)(l:List Wd):List (Bs×Key):=[ou bq 1 true (bt s l false (j8 xy)),ou kz 1 true (nF s l pP),ou fK 1 false (bC s l pQ 1 65535),ou iU 1 false (bC s l jE 1 100)]
def Oi(r:St×Bool):St×Bool:=({r.1 with sv:={r.1.sv with bf:=r.1.sv.bf++[r.1.bk]}},r.2)
def acj(s:Bs)(l:List Wd)(st:St):Ps×Bs×Bool->St×Bool
 | (p,_,false)=>(aA st p,false)
 | (p,nm,true)=>Oi (bL s l (bN s l) {aA st p with bk:=⟨nm,⟨#[]⟩,EE,0,1⟩})
def dh(s:Bs)(l:List Wd)(st:St):St×Bool:=acj s l st (cB s l (st.sv.bf.map (·.name)) st.p)
theorem HF(s:Bs)(l:List Wd):∀x∈bN s l,∀st:St,st.p.k<=(x.2.sem st).1.p.k:=by
 intro x hx
 simp only[bN,ou,List.mem_cons,List.not_mem_nil,or_false]at hx
 rcases hx with rfl | rfl | rfl | rfl
 ·exact iJ λ_ _ _=>rfl
 ·exact IC (put:=pP) λ_ _=>rfl
 ·exact eB (put:=pQ) (λ_ _=>rfl) _ _
 ·exact eB (put:=jE) (λ_ _=>rfl) _ _
theorem MQ{R:St->St->Prop}(hR:Steps R)(hb:∀st b,R st {st with bk:=b})(s:Bs)(l:List Wd):∀x∈bN s l,∀st:St,R st (x.2.sem st).1:=by
 intro x hx
 simp only[bN,ou,List.mem_cons,List.not_mem_nil,or_false]at hx
 rcases hx with rfl | rfl | rfl | rfl
 ·exact MM hR λst v=>hb st _
 ·exact agr hR (put:=pP) λst v=>hb st _
 ·exact yZ hR (put:=pQ) (λst v=>hb st _) _ _
 ·exact yZ hR (put:=jE) (λst v=>hb st _) _ _
theorem Ks(s:Bs)(l:List Wd)(xs:List Bs)(p:Ps):p.k<=(cB s l xs p).1.k/\(cB s l xs p).1.bB=p.bB:=by
 unfold cB
 have hv:=wK s l p
 have hs:=zW s l p
 generalize aS s l p=v at hv hs
 obtain⟨p1,w,a,is⟩:=v
 cases is with
 | false=>exact⟨hv,hs⟩
 | true=>
  rw[show Bb xs (p1,w,a,true)=if 40<w.size then(bE p1 a 182,⟨#[]⟩,false)else if uO w xs=true then(bE p1 a 181,⟨#[]⟩,false)else(p1,w,true)from rfl]
  split
  ·exact⟨by show p.k<=(bE p1 a 182).k;rw[(kJ _ _ _).1];exact hv,(nI _ _ _).trans hs⟩
  ·split
   ·exact⟨by show p.k<=(bE p1 a 181).k;rw[(kJ _ _ _).1];exact hv,(nI _ _ _).trans hs⟩
   ·exact⟨hv,hs⟩
theorem MR(s:Bs)(l:List Wd)(st:St):st.p.k<=(dh s l st).1.p.k:=by
 unfold dh
 have hn:=(Ks s l (st.sv.bf.map (·.name)) st.p).1
 generalize cB s l (st.sv.bf.map (·.name)) st.p=v at hn
 obtain⟨p,nm,is⟩:=v
 cases is with
 | false=>exact hn
 | true=>exact qb hn (uW (HF s l) {aA st p with bk:=⟨nm,⟨#[]⟩,EE,0,1⟩})
theorem QM(s:Bs)(l:List Wd)(st:St):Mw st (dh s l st).1:=by
 unfold dh
 have hn:=(Ks s l (st.sv.bf.map (·.name)) st.p).2
 generalize cB s l (st.sv.bf.map (·.name)) st.p=v at hn
 obtain⟨p,nm,is⟩:=v
 cases is with
 | false=>exact hn
 | true=>exact(MV oc (s:=s) (l:=l) (MQ oc (λ_ _=>rfl) s l) {aA st p with bk:=⟨nm,⟨#[]⟩,EE,0,1⟩}).trans hn
section
variable {e:En}{S:List Nat}{h:H}{st:St}
theorem aaP{b:Nat}(he:e.bk=some b):kW e (b,1) 1 (λa=>[.str a]) xy:=λ_ st _ v i=>i.wrB he (x':={st.bk with addr:=v}) rfl (by decide:1+1<=10) rfl rfl
theorem aaQ{b:Nat}(he:e.bk=some b):kW e (b,2) 6 xQ pP:=λ_ st _ v i=>i.wrB he (x':={st.bk with bH:=v}) rfl (by decide:2+6<=10) rfl rfl
theorem aaR{b:Nat}(he:e.bk=some b):kW e (b,8) 1 (λv=>[.int .i64 v]) pQ:=λ_ st _ v i=>i.wrB he (x':={st.bk with port:=v}) rfl (by decide:8+1<=10) rfl rfl
theorem Up{b:Nat}(he:e.bk=some b):kW e (b,9) 1 (λv=>[.int .i64 v]) jE:=λ_ st _ v i=>i.wrB he (x':={st.bk with weight:=v}) rfl (by decide:9+1<=10) rfl rfl
theorem He{a:H}{q:Pt}{c:aM}{xs:List Bk}(r:Row a 10 q xs.length c (xs.flatMap dV))(hx:xs.length<=400000)(a0 a1:Pt)(n:Nat)(kk:KK):∀(rest pre:List Bk) (m:Nat) (h:H) (p:Pt) (d:aM),xs=pre++rest->rest.length<m->Mod [] a h->Grow a h 1 p pre.length d ((pre.map (·.name)).map .str)->
  ∃m' p' d' h',ez n m a0 a1 p pre.length d q xs.length c (Nat.cast xs.length) (pre.length:Nat) h kk=ez n (m'+1) a0 a1 p' xs.length d' q xs.length c (Nat.cast xs.length) (Nat.cast xs.length) h' kk/\Mod [] a h'/\Grow a h' 1 p' xs.length d' ((xs.map (·.name)).map .str)
 | [],pre,m+1,h,p,d,e,_,hm,g=>by
  rw[List.append_nil]at e
  subst e
  exact⟨m,p,d,h,rfl,hm,g⟩
 | t::ts,pre,m+1,h,p,d,e,hl,hm,g=>by
  have j9:xs[pre.length]?=some t:=by rw[e];simp
  have hlt:pre.length<xs.length:=(sS j9).1
  rw[qF,cL hlt,bM,(r.ak hm).ix E5 (by decide) j9]
  rw[aL,mZ (n:=10) rfl rfl rfl,cW (aY _ _) rfl,az,aL]
  have m1:Mod [] h (h.new (.cells (dV t) false)):=(Mod.refl _ _).new _
  obtain⟨p',d',h',e1,g',m',hn⟩:=(g.ak m1).YW (bytes:=16) (hm.trans m1).next (xs:=[.str t.name]) rfl rfl (by decide) (by omega) (by omega)
  rw[e1,aG (by omega)]
  have hm':Mod [] a h':=(hm.trans m1).trans' m' λx hx hl=>by have:=(g.iy x hx).1;omega
  have:=He r hx a0 a1 n kk ts (pre++[t]) m h' p' d' (by rw[e];simp) (by simp at hl;omega) hm' (by simpa using g')
  simpa using this
theorem putKey{m:Nat}{o:cK}{L:List (Bs×Key)}(hg:h.get m=some o)(ho:yx AV.str G0 L o)(w:Bs)(k:Key)(hw:∀x∈L,w≠x.1):∃o',yx AV.str G0 (L++[(w,k)]) o'/\∀f:H->Option Unit,Ic (some m) (.str w) (.agg [.int .i64 k.most,.bool k.need,.func k.f k.x k.y]) h f=f (h.set m o'):=by
 obtain⟨o',h1,h2⟩:=RV (β:=Unit) vl hg ho w k
 refine⟨o',?_,h2⟩
 have:pt L w k=L++[(w,k)]:=by
  unfold pt
  rw[if_neg]
  rw[List.any_eq_true]
  rintro ⟨x,hx,e'⟩
  exact hw x hx (of_decide_eq_true e')
 rwa [this]at h1
end
section
variable {e:En}{S:List Nat}{h:H}{st:St}
theorem Inv.Vo(i:Inv e h st S){b:Nat}(he:e.bk=some b){β:Type}(k:List AV->Option β):aI h b 0 10 k=k (dV st.bk):=by
 obtain⟨g,rfl,i⟩:=i
 have:=i.ow.get 8 b (i.fk.trans he)
 rw[i.ck]at this
 exact jF (n:=10) this rfl k
theorem Dl{S:List Nat}{h:H}{m:Nat}{o:cK}(k:Kept S h m o)(o':cK):Kept S (h.set m o') m o':=⟨⟨k.at_.lt,aW _ _ _⟩,k.out⟩
theorem Yg{S:List Nat}{m:Nat}(hm:m∈S)(h:H)(o':cK):Fr S h S (h.set m o'):=⟨(Mod.refl _ _).set (.inr hm) _,λ_ h=>.inl h⟩
theorem akU{S T:List Nat}(hs:∀x∈S,x∈T)(h:H):Fr T h S h:=⟨Mod.refl _ _,λx hx=>.inl (hs x hx)⟩
theorem SZ{X:Nat}(hs:e.sv=some X)(hb0:e.bk=none)(hw:Words e.l)(i:Inv e h st S){n:Nat}(hn:81000+e.l.length<=n):
  JZ (λkk=>cr n jv [.ptr (some (e.b,0)),.ptr (some (X,0))] h kk) λr h'=>∃S',r=.bool (dh e.s e.l st).2/\Fr S h S' h'/\Inv e h' (dh e.s e.l st).1 S':=by
 intro kk hkk
 obtain⟨n,rfl⟩:∃k,n=k+2:=⟨n - 2,by omega⟩
 show cr (n+1+1) jv [.ptr (some (e.b,0)),.ptr (some (X,0))] h kk=some ()
 have hw':∀w∈e.l,w.1.size<90000/\w.1.size+70<=80070:=λw hx=>by have:=hw w hx;omega
 have ok:=i.okp
 have okb:=ok.bf
 have hk:=ok.k
 have hll:=ok.len
 have i0:=i
 obtain⟨g,rfl,i⟩:=i
 rw[AX]
 simp only[ai,Nat.zero_add]
 rw[i.ow.cell (i.fv.trans hs) (p:=9) (v:=.slice (nu g.f 7) st.sv.bf.length g.bc) (by rw[i.cv];rfl),ah]
 obtain⟨m',p',d',h1,e1,m1,g1⟩:=He (i.bp.grow i.ow).row (by omega) (some (e.b,0)) (some (X,0)) (n+1) kk st.sv.bf [] (n+1) h none (.known 0) rfl (by omega) (.refl _ _) .nil
 rw[show ez (n+1) (n+1) (some (e.b,0)) (some (X,0)) none 0 (.known 0) (nu g.f 7) st.sv.bf.length g.bc (Nat.cast st.sv.bf.length) 0 h kk=_ from e1]
 rw[qF,aT (cF _),br]
 have i1:=i0.frame m1
 have f1:Fr (oO g.f) h (oO g.f) h1:=.ak m1
 have hS:∀b∈own p',b∉oO g.f:=λb hb hm=>by
  have:=(g1.iy b hb).1
  have:=i0.WR b hm
  omega
 generalize hSS:oO g.f=S at *
 have hr:Row h1 1 p' (st.sv.bf.map (·.name)).length d' ((st.sv.bf.map (·.name)).map .str):=by rw[List.length_map];exact g1.row
 have hnm:=Kt i1 hr (by rw[List.length_map];omega) hS (n:=n+1) (by rw[List.length_map];omega)
 rw[List.length_map]at hnm
 unfold dh at hkk
 have TZ:=N4 e.s e.l (st.sv.bf.map (·.name)) st.p
 generalize cB e.s e.l (st.sv.bf.map (·.name)) st.p=v at TZ hnm hkk
 obtain⟨p1,nm,is⟩:=v
 obtain⟨r,h2,e2,rfl,f2,j2⟩:=hnm
 rw[e2,fD]
 simp only[ay,dx,cu,fV,aE]
 cases is with
 | false=>
  rw[Bool.not_false,bM]
  exact hkk _ _ ⟨S,rfl,f1.trans f2,j2⟩
 | true=>
  obtain rfl:p1={st.p with k:=st.p.k+1}:=TZ rfl
  rw[Bool.not_true,br,aL,mZ (n:=10) rfl rfl rfl]
  obtain⟨S1,f3,j3⟩:=j2.asY hb0 (y:=⟨nm,⟨#[]⟩,EE,0,1⟩) (cF h2.next) (.new h2 (.cells (dV ⟨nm,⟨#[]⟩,EE,0,1⟩) false)) ((Mod.refl _ _).new _)
  show(aD (.map [] 0) (h2.new (.cells (dV ⟨nm,⟨#[]⟩,EE,0,1⟩) false)) λi30 h31=>_)=_
  generalize h2.next=bb at j3 ⊢
  generalize hb_:h2.new (.cells (dV ⟨nm,⟨#[]⟩,EE,0,1⟩) false)=hb at j3 f3 ⊢
  have f03:=(f1.trans f2).trans f3
  rw[aL]
  have hS1:=j3.WR
  have m0:Mod [] hb (hb.new (.map [] 0)):=(Mod.refl _ _).new _
  have k0:Kept S1 (hb.new (.map [] 0)) hb.next (.map [] 0):=gA hS1 _
  have u0:∀x∈[hb.next]++S1,x<(hb.new (.map [] 0)).next:=by
   intro x hx
   show x<hb.next+1
   rcases List.mem_append.1 hx with hx | hx
   ·obtain rfl:=List.mem_singleton.1 hx;exact Nat.lt_succ_self _
   ·exact Nat.lt_succ_of_lt (hS1 x hx)
  have up:∀{T:List Nat} {h' h'':H},Mod [] h' h''->(∀x∈T,x<h'.next)->∀x∈T,x<h''.next:=λm hh x hx=>m.lt (hh x hx)
  generalize hb.new (.map [] 0)=c0 at m0 k0 u0 ⊢
  refine akT (Mg (e:={e with bk:=some bb}) u0 (aaP rfl) n) λfA xA yA c1 v1 mA dA=>?_
  have u1:=up mA u0
  refine Bc (ze (e:={e with bk:=some bb}) u1 hw' (by omega) false (dA.more (N':=80069) (by omega)) n) λf1' x1 y1 c2 v2 mB d1=>?_
  have u2:=up mB u1
  have k2:Kept S1 c2 hb.next (.map [] 0):=(k0.ak mA).ak mB
  obtain⟨o1,hM1,e1'⟩:=putKey k2.at_.get .nil bq ⟨1,true,f1',x1,y1,bt e.s e.l false (j8 xy)⟩ (by simp)
  dsimp only
  rw[show(⟨#[97,100,100,114,101,115,115]⟩:ByteArray)=bq from rfl,e1']
  have t2:=Yg (m:=hb.next) (S:=[hb.next]++S1) (by simp) c2 o1
  have k2':=Dl k2 o1
  have md2:Mod [] hb (c2.set hb.next o1):=((m0.trans mA).trans mB).set (.inl (cF _)) _
  have u2':∀x∈[hb.next]++S1,x<(c2.set hb.next o1).next:=u2
  generalize c2.set hb.next o1=c2' at t2 k2' md2 u2' ⊢
  refine Bc (X4 (e:={e with bk:=some bb}) u2' hw' (by omega) (aaQ rfl) n) λf2' x2 y2 c3 v3 mC d2=>?_
  have u3:=up mC u2'
  have k3:=k2'.ak mC
  obtain⟨o2,hM2,e2'⟩:=putKey k3.at_.get hM1 kz ⟨1,true,f2',x2,y2,nF e.s e.l pP⟩ (by simp[kz,bq])
  dsimp only
  rw[show(⟨#[109,97,99]⟩:ByteArray)=kz from rfl,e2']
  have t3:=Yg (m:=hb.next) (S:=[hb.next]++S1) (by simp) c3 o2
  have k3':=Dl k3 o2
  have md3:Mod [] hb (c3.set hb.next o2):=(md2.trans mC).set (.inl (cF _)) _
  have u3':∀x∈[hb.next]++S1,x<(c3.set hb.next o2).next:=u3
  generalize c3.set hb.next o2=c3' at t3 k3' md3 u3' ⊢
  refine Bc (sy (e:={e with bk:=some bb}) u3' (aaR rfl) 1 65535 n) λf3' x3 y3 c4 v4 mD d3=>?_
  have u4:=up mD u3'
  have k4:=k3'.ak mD
  obtain⟨o3,hM3,e3'⟩:=putKey k4.at_.get hM2 fK ⟨1,false,f3',x3,y3,bC e.s e.l pQ 1 65535⟩ (by simp[kz,bq,fK])
  dsimp only
  rw[show(⟨#[112,111,114,116]⟩:ByteArray)=fK from rfl,e3']
  have t4:=Yg (m:=hb.next) (S:=[hb.next]++S1) (by simp) c4 o3
  have k4':=Dl k4 o3
  have md4:Mod [] hb (c4.set hb.next o3):=(md3.trans mD).set (.inl (cF _)) _
  have u4':∀x∈[hb.next]++S1,x<(c4.set hb.next o3).next:=u4
  generalize c4.set hb.next o3=c4' at t4 k4' md4 u4' ⊢
  refine Bc (sy (e:={e with bk:=some bb}) u4' (Up rfl) 1 100 n) λf4' x4 y4 c5 v5 mE d4=>?_
  have k5:=k4'.ak mE
  obtain⟨o4,hM4,e4'⟩:=putKey k5.at_.get hM3 iU ⟨1,false,f4',x4,y4,bC e.s e.l jE 1 100⟩ (by simp[kz,bq,fK,iU])
  dsimp only
  rw[show(⟨#[119,101,105,103,104,116]⟩:ByteArray)=iU from rfl,e4']
  have t5:=Yg (m:=hb.next) (S:=[hb.next]++S1) (by simp) c5 o4
  have k5':=Dl k5 o4
  have md5:Mod [] hb (c5.set hb.next o4):=(md4.trans mE).set (.inl (cF _)) _
  generalize c5.set hb.next o4=c5' at t5 k5' md5 ⊢
  have less:Fr ([hb.next]++S1) c5' S1 c5':=akU (by simp +contextual) _
  have F4:=t5.trans less
  have F3:=((t4.trans (.ak mE)).trans F4)
  have F2:=((t3.trans (.ak mD)).trans F3)
  have F1:=((t2.trans (.ak mC)).trans F2)
  have q1:=d1.fr F1
  have q2:=d2.fr F2
  have q3:=d3.fr F3
  have q4:=d4.fr F4
  refine Pz (n:=n+1) (N:=80070) (e:={e with bk:=some bb}) (L0:=bN e.s e.l) ⟨?_,?_,rfl,?_,by simp⟩ (j3.frame md5) k5' hM4 (by omega) (by omega) (by show e.l.length+5<=_;omega) (KY (L:=[(bq,⟨1,true,f1',x1,y1,bt e.s e.l false (j8 xy)⟩),(kz,⟨1,true,f2',x2,y2,nF e.s e.l pP⟩),(fK,⟨1,false,f3',x3,y3,bC e.s e.l pQ 1 65535⟩),(iU,⟨1,false,f4',x4,y4,bC e.s e.l jE 1 100⟩)]) _).symm _ λr' h9 hq=>?_
  ·intro x hx
   simp only[List.nil_append,List.cons_append,List.mem_cons,List.not_mem_nil,or_false]at hx
   rcases hx with rfl | rfl | rfl | rfl
   ·exact q1
   ·exact q2
   ·exact oF.more (N:=30) q3 (by omega)
   ·exact oF.more (N:=30) q4 (by omega)
  ·intro x hx
   simp only[List.nil_append,List.cons_append,List.mem_cons,List.not_mem_nil,or_false]at hx
   rcases hx with rfl | rfl | rfl | rfl
   ·exact iJ λ_ _ _=>rfl
   ·exact IC (put:=pP) λ_ _=>rfl
   ·exact eB (put:=pQ) (λ_ _=>rfl) _ _
   ·exact eB (put:=jE) (λ_ _=>rfl) _ _
  ·intro x hx
   simp only[List.nil_append,List.cons_append,List.mem_cons,List.not_mem_nil,or_false]at hx
   rcases hx with rfl | rfl | rfl | rfl<;>exact(by decide:(1:Int)<=1000)
  ·obtain⟨S',rfl,f7,j7⟩:=hq
   rw[aq]
   have hbk:Y3 _ _:=MV Qs (s:=e.s) (l:=e.l) (MQ Qs (λ_ _=>rfl) e.s e.l) {aA st {st.p with k:=st.p.k+1}with bk:=⟨nm,⟨#[]⟩,EE,0,1⟩}
   have hkk':=uW (s:=e.s) (l:=e.l) (HF e.s e.l) {aA st {st.p with k:=st.p.k+1}with bk:=⟨nm,⟨#[]⟩,EE,0,1⟩}
   change ∀r h',(∃S',r=.bool (Oi (bL e.s e.l (bN e.s e.l) {aA st {st.p with k:=st.p.k+1}with bk:=⟨nm,⟨#[]⟩,EE,0,1⟩})).2/\Fr S h S' h'/\Inv e h' (Oi (bL e.s e.l (bN e.s e.l) {aA st {st.p with k:=st.p.k+1}with bk:=⟨nm,⟨#[]⟩,EE,0,1⟩})).1 S')->kk r h'=some ()at hkk
   change Inv _ h9 (bL e.s e.l (bN e.s e.l) {aA st {st.p with k:=st.p.k+1}with bk:=⟨nm,⟨#[]⟩,EE,0,1⟩}).1 S' at j7
   change (_:St).sv.bf=st.sv.bf at hbk
   change st.p.k+1<=_ at hkk'
   show(af h9 X 9 λv94=>_)=some ()
   change (af h9 X 9 λv94=>asSlice v94 λx95 n96 c97=>aI h9 bb 0 10 λl98=>if l98.length=10/\0+10<=10 then aD (.cells (List.append (List.append [] l98) []) false) h9 λi99 O3=>fS 10 56 x95 n96 c97 (di 10 (.slice (some (i99,0)) 1 (.known 1)) O3) O3 λaem n102 acr TR=>bK TR X 9 1 [.slice aem n102 acr] λZ4=>kk (.bool (bL e.s e.l (bN e.s e.l) {aA st {st.p with k:=st.p.k+1}with bk:=⟨nm,⟨#[]⟩,EE,0,1⟩}).2) Z4 else none)=some ()
   generalize bL e.s e.l (bN e.s e.l) {aA st {st.p with k:=st.p.k+1}with bk:=⟨nm,⟨#[]⟩,EE,0,1⟩}=w at hkk j7 hbk hkk' ⊢
   have j7':=j7
   obtain⟨g7,rfl,j7⟩:=j7
   rw[j7.ow.cell (j7.fv.trans hs) (p:=9) (v:=.slice (nu g7.f 7) w.1.sv.bf.length g7.bc) (by rw[j7.cv];rfl),ah,j7'.Vo rfl,if_pos ⟨rfl,by decide⟩]
   obtain⟨y',cap',h10,h11,S10,e10,f10,e11,f11,j11⟩:=j7.anD hs w.1.bk (by rw[hbk];omega)
   rw[aL,show List.append (List.append [] (dV w.1.bk)) []=dV w.1.bk by simp,e10,e11]
   obtain⟨S12,f12,j12⟩:=Inv.akJ hb0 j11
   exact hkk _ _ ⟨S12,rfl,(((f03.trans (.ak md5)).trans f7).trans f11).trans f12,j12⟩
theorem UE{X i1 i2:Nat}{S0:List Nat}{h0:H}(hs:e.sv=some X)(hb0:e.bk=none)(hw:Words e.l)(k1:Kept S0 h0 i1 (.cells [.ptr (some (e.b,0))] false))(k2:Kept S0 h0 i2 (.cells [.ptr (some (X,0))] false)){N:Nat}(hN:81010+e.l.length<=N):
  oF e S0 h0 N dZ [] [.ptr (some (i1,0)),.ptr (some (i2,0))] (dh e.s e.l):=by
 refine⟨λb k=>by kernel_rfl,λn hn h S st fr i=>ah4 (by kernel_rfl) ?_⟩
 intro kk hkk
 obtain⟨n,rfl⟩:∃k,n=k+1:=⟨n - 1,by omega⟩
 show cr (n+1) dZ [.ptr (some (i1,0)),.ptr (some (i2,0))] h kk=some ()
 rw[zm]
 simp only[ai]
 rw[(k1.fr fr).cell,bg,(k2.fr fr).cell,bg]
 refine SZ hs hb0 hw i (by omega) _ λr h' hq=>?_
 obtain⟨S',rfl,f7,j7⟩:=hq
 rw[aq]
 exact hkk _ _ ⟨S',rfl,f7,j7⟩
end
end Go.Ev.Tryz
namespace Go.Ev
theorem ax{S:Nat->Prop}{x h h':H}(m:Mod [] h h'):x.minus (bD S h h')=x.minus S:=by rw[Zq λi hi=>m.get i hi (by simp)]
theorem oU(x:H):x.minus Gz=x:=P6 x
end Go.Ev
namespace Go.Ev.Tryz
set_option maxRecDepth 10000
open Go.Proofs
def lu(st:St)(v:Int):St:={st with sv:={st.sv with proto:=v}}
def AN(st:St)(v:Bs):St:={st with sv:={st.sv with D1:=v}}
def pU(st:St)(v:Int):St:={st with sv:={st.sv with port:=v}}
def pS(st:St)(v:Int):St:={st with sv:={st.sv with mode:=v}}
def lz(st:St)(v:Int):St:={st with sv:={st.sv with sched:=v}}
def pW(st:St)(v:Int):St:={st with sv:={st.sv with ju:=v}}
def pR(st:St)(v:Int):St:={st with sv:={st.sv with jr:=v}}
def lq(st:St)(v:Int):St:={st with sv:={st.sv with probe:=v}}
def HV:Bs:=⟨#[116,99,112]⟩
def HW:Bs:=⟨#[117,100,112]⟩
def nj:Bs:=⟨#[112,114,111,116,111]⟩
def HU:Bs:=⟨#[110,97,116]⟩
def Ws:Bs:=⟨#[100,114]⟩
def zF:Bs:=⟨#[105,112,105,112]⟩
def th:Bs:=⟨#[109,111,100,101]⟩
def oR:Bs:=⟨#[109,97,103,108,101,118]⟩
def oS:Bs:=⟨#[115,111,117,114,99,101]⟩
def qw:Bs:=⟨#[115,99,104,101,100,117,108,101]⟩
def vT:Bs:=⟨#[114,105,115,101]⟩
def vS:Bs:=⟨#[102,97,108,108]⟩
def qv:Bs:=⟨#[112,114,111,98,101]⟩
def cP:Bs:=⟨#[98,97,99,107,101,110,100]⟩
def zU:List (Bs×Int):=[(HV,6),(HW,17)]
def Fx:List (Bs×Int):=[(HU,1),(Ws,2),(zF,3)]
def zT:List (Bs×Int):=[(oR,1),(oS,2)]
def bR(s:Bs)(l:List Wd):List (Bs×Key):=[ou nj 1 true (cM s l lu zU),ou jt 1 true (bt s l true (j8 AN)),ou fK 1 true (bC s l pU 1 65535),ou th 1 true (cM s l pS Fx),ou qw 1 false (cM s l lz zT),
 ou vT 1 false (bC s l pW 1 20),ou vS 1 false (bC s l pR 1 20),ou qv 1 false (bC s l lq 1 10000),ou cP 16 true (dh s l)]
def FK(r:St×Bool):St×Bool:=({r.1 with p:={r.1.p with bB:=r.1.p.bB++[r.1.sv]},sv:=Y8},r.2)
def iq(nm:Bs):Sv:=⟨nm,⟨#[]⟩,0,0,0,1,1,1,100,[]⟩
def aeS(s:Bs)(l:List Wd)(st:St):Ps×Bs×Bool->St×Bool
 | (p,_,false)=>(aA st p,false)
 | (p,nm,true)=>FK (bL s l (bR s l) {aA st p with sv:=iq nm})
def ew(s:Bs)(l:List Wd)(st:St):St×Bool:=aeS s l st (cB s l (st.p.bB.map (·.name)) st.p)
theorem Ot(s:Bs)(l:List Wd):∀x∈bR s l,∀st:St,st.p.k<=(x.2.sem st).1.p.k:=by
 intro x hx
 simp only[bR,ou,List.mem_cons,List.not_mem_nil,or_false]at hx
 rcases hx with rfl | rfl | rfl | rfl | rfl | rfl | rfl | rfl | rfl
 ·exact sj (put:=lu) (λ_ _=>rfl) _
 ·exact iJ λ_ _ _=>rfl
 ·exact eB (put:=pU) (λ_ _=>rfl) _ _
 ·exact sj (put:=pS) (λ_ _=>rfl) _
 ·exact sj (put:=lz) (λ_ _=>rfl) _
 ·exact eB (put:=pW) (λ_ _=>rfl) _ _
 ·exact eB (put:=pR) (λ_ _=>rfl) _ _
 ·exact eB (put:=lq) (λ_ _=>rfl) _ _
 ·exact MR _ _
theorem R1(s:Bs)(l:List Wd):∀x∈bR s l,∀st:St,Mw st (x.2.sem st).1:=by
 intro x hx
 simp only[bR,ou,List.mem_cons,List.not_mem_nil,or_false]at hx
 rcases hx with rfl | rfl | rfl | rfl | rfl | rfl | rfl | rfl | rfl
 ·exact J4 oc (put:=lu) (λ_ _=>rfl) _
 ·exact MM oc λ_ _=>rfl
 ·exact yZ oc (put:=pU) (λ_ _=>rfl) _ _
 ·exact J4 oc (put:=pS) (λ_ _=>rfl) _
 ·exact J4 oc (put:=lz) (λ_ _=>rfl) _
 ·exact yZ oc (put:=pW) (λ_ _=>rfl) _ _
 ·exact yZ oc (put:=pR) (λ_ _=>rfl) _ _
 ·exact yZ oc (put:=lq) (λ_ _=>rfl) _ _
 ·exact QM _ _
theorem Ou(s:Bs)(l:List Wd)(st:St):st.p.k<=(ew s l st).1.p.k:=by
 unfold ew
 have hn:=(Ks s l (st.p.bB.map (·.name)) st.p).1
 generalize cB s l (st.p.bB.map (·.name)) st.p=v at hn
 obtain⟨p,nm,is⟩:=v
 cases is with
 | false=>exact hn
 | true=>exact qb hn (uW (Ot s l) {aA st p with sv:=iq nm})
section
variable {e:En}{S:List Nat}{h:H}{st:St}
theorem AL{α:Type}{b o n:Nat}{enc:α->List AV}{put:Sv->α->Sv}(he:e.sv=some b)(hn:∀v,(enc v).length=n)(hl:o+n<=10)(hc:∀v,(enc v).all cT=true)(hv:∀x v w,My (cU x w) o (enc v)=cU (put x v) w)(hs:∀x v,(put x v).bf=x.bf):kW e (b,o) n enc (λst v=>{st with sv:=put st.sv v}):=
 λ_ st _ v i=>i.wrS he (hn v) hl (hc v) (λw=>hv st.sv v w) (hs _ _)
theorem W9{b:Nat}(he:e.sv=some b):kW e (b,2) 1 (λv=>[.int .i64 v]) lu:=AL he (put:=λx v=>{x with proto:=v}) (λ_=>rfl) (by decide) (λ_=>rfl) (λ_ _ _=>rfl) λ_ _=>rfl
theorem aew{b:Nat}(he:e.sv=some b):kW e (b,1) 1 (λv=>[.str v]) AN:=AL he (put:=λx v=>{x with D1:=v}) (λ_=>rfl) (by decide) (λ_=>rfl) (λ_ _ _=>rfl) λ_ _=>rfl
theorem aaV{b:Nat}(he:e.sv=some b):kW e (b,3) 1 (λv=>[.int .i64 v]) pU:=AL he (put:=λx v=>{x with port:=v}) (λ_=>rfl) (by decide) (λ_=>rfl) (λ_ _ _=>rfl) λ_ _=>rfl
theorem aaU{b:Nat}(he:e.sv=some b):kW e (b,4) 1 (λv=>[.int .i64 v]) pS:=AL he (put:=λx v=>{x with mode:=v}) (λ_=>rfl) (by decide) (λ_=>rfl) (λ_ _ _=>rfl) λ_ _=>rfl
theorem Xa{b:Nat}(he:e.sv=some b):kW e (b,5) 1 (λv=>[.int .i64 v]) lz:=AL he (put:=λx v=>{x with sched:=v}) (λ_=>rfl) (by decide) (λ_=>rfl) (λ_ _ _=>rfl) λ_ _=>rfl
theorem aaW{b:Nat}(he:e.sv=some b):kW e (b,6) 1 (λv=>[.int .i64 v]) pW:=AL he (put:=λx v=>{x with ju:=v}) (λ_=>rfl) (by decide) (λ_=>rfl) (λ_ _ _=>rfl) λ_ _=>rfl
theorem aaT{b:Nat}(he:e.sv=some b):kW e (b,7) 1 (λv=>[.int .i64 v]) pR:=AL he (put:=λx v=>{x with jr:=v}) (λ_=>rfl) (by decide) (λ_=>rfl) (λ_ _ _=>rfl) λ_ _=>rfl
theorem W8{b:Nat}(he:e.sv=some b):kW e (b,8) 1 (λv=>[.int .i64 v]) lq:=AL he (put:=λx v=>{x with probe:=v}) (λ_=>rfl) (by decide) (λ_=>rfl) (λ_ _ _=>rfl) λ_ _=>rfl
theorem Hx{a:H}{q:Pt}{c:aM}{xs:List U7}(r:Row a 10 q xs.length c (xs.flatMap yE))(hx:xs.length<=400000)(a1:Pt)(n:Nat)(kk:KK):∀(rest pre:List U7) (m:Nat) (h:H) (p:Pt) (d:aM),xs=pre++rest->rest.length<m->Mod [] a h->Grow a h 1 p pre.length d ((pre.map (·.1.name)).map .str)->
  ∃m' p' d' h',eA n m a1 p pre.length d q xs.length c (Nat.cast xs.length) (pre.length:Nat) h kk=eA n (m'+1) a1 p' xs.length d' q xs.length c (Nat.cast xs.length) (Nat.cast xs.length) h' kk/\Mod [] a h'/\Grow a h' 1 p' xs.length d' ((xs.map (·.1.name)).map .str)
 | [],pre,m+1,h,p,d,e,_,hm,g=>by
  rw[List.append_nil]at e
  subst e
  exact⟨m,p,d,h,rfl,hm,g⟩
 | t::ts,pre,m+1,h,p,d,e,hl,hm,g=>by
  have j9:xs[pre.length]?=some t:=by rw[e];simp
  have hlt:pre.length<xs.length:=(sS j9).1
  rw[qG,cL hlt,bM,(r.ak hm).ix E6 (by decide) j9]
  simp only[yE,cU,dx,cu,ux,aE]
  rw[aL,mZ (n:=10) rfl rfl rfl,cW (aY _ _) rfl,az,aL]
  have m1:Mod [] h (h.new (.cells (cU t.1 (.slice t.2.1 t.1.bf.length t.2.2)) false)):=(Mod.refl _ _).new _
  obtain⟨p',d',h',e1,g',m',hn⟩:=(g.ak m1).YW (bytes:=16) (hm.trans m1).next (xs:=[.str t.1.name]) rfl rfl (by decide) (by omega) (by omega)
  dsimp only[cU]at e1
  rw[e1,aG (by omega)]
  have hm':Mod [] a h':=(hm.trans m1).trans' m' λx hx hl=>by have:=(g.iy x hx).1;omega
  have:=Hx r hx a1 n kk ts (pre++[t]) m h' p' d' (by rw[e];simp) (by simp at hl;omega) hm' (by simpa using g')
  simpa using this
theorem FB{h:H}{n b1:Nat}(hb:b1<h.next){P:Nat->List AV->List AV->H->Prop}{c:Option (AV×H)}(r:cg c λr h'=>Mod [] h h'/\∃f x y,r=.func f x y/\P f x y h'){need:Bool}{k:Int->Bool->AV->AV×H->AV×H->Option Unit}
  (hk:∀f x y h' h'' v v',Mod [] h h'->P f x y h'->Mod [] h' h''->k 1 need (.func f x y) (v,h') (v',h'')=some ()):
  (c.bind λq=>pK q.1 λf x y=>dU h q.2 (kj (some (b1,0))) ((ca (n+1) bn [.bool need,.func f x y] q.2).bind λq'=>asAgg q'.1 λl=>lI l λi l=>lB l λb l=>lc l λv l=>l0 l (dU q.2 q'.2 (kj (some (b1,0))) (k i b v q q'))))=some ():=by
 obtain⟨r,h1,rfl,m1,f,x,y,rfl,rd⟩:=r
 rw[fD,wO,Jt,fD]
 simp only[bG,cu,fV,oT,aE]
 have m2:Mod [] h1 (h1.new (.cells [.int .i64 1,.bool need,.func f x y] false)):=(Mod.refl _ _).new _
 rw[show kj (some (b1,0))=some b1 from rfl,GN m1 hb (by simp),GN m2 (m1.lt hb) (by simp)]
 exact hk f x y _ _ _ _ m1 rd m2
theorem awQ{S:List Nat}{h:H}{N b1:Nat}(hb:b1<h.next){tk:St->Bs->Int->St×Bool}{c:Option (AV×H)}(r:cg c (abK e S N tk h)){k:Nat->List AV->List AV->AV×H->Option Unit}
  (hk:∀f x y h' v,Mod [] h h'->J0 e S h' N f x y tk->k f x y (v,h')=some ()):(c.bind λq=>pK q.1 λf x y=>dU h q.2 (kj (some (b1,0))) (dU h q.2 (kj (some (b1,0))) (k f x y q)))=some ():=by
 obtain⟨r,h1,rfl,m1,f,x,y,rfl,rd⟩:=r
 rw[fD,wO,show kj (some (b1,0))=some b1 from rfl,GN m1 hb (by simp),GN m1 hb (by simp)]
 exact hk f x y _ _ m1 rd
theorem N3{S:List Nat}{h:H}{N:Nat}{sem:St->St×Bool}{c:Option (AV×H)}(r:cg c (Made e S N sem h)):cg c λr h'=>Mod [] h h'/\∃f x y,r=.func f x y/\oF e S h' N f x y sem:=r
def ChP(e:En)(S:List Nat)(m:Nat)(put:St->Int->St)(f:Nat)(x y:List AV)(h':H):Prop:=
 f=aU/\x=[]/\∀(S2:List Nat) (h2:H) (o:cK) (L:List (Bs×Int)),(∀j oj,Kept S h' j oj->j≠m->Kept S2 h2 j oj)->Kept S2 h2 m o->yx AV.str (λv=>.int .i64 v) L o->oF e S2 h2 30 aU [] y (cM e.s e.l put L)
theorem Na(hS:∀x∈S,x<h.next){q:Nat×Nat}{put:St->Int->St}(hp:kW e q 1 (λv=>[.int .i64 v]) put){m:Nat}(hm:m<h.next)(n:Nat):
  cg (ca (n+1) ef [.ptr (some (e.b,0)),.ptr (some q),.map (some m)] h) λr h'=>Mod [] h h'/\∃f x y,r=.func f x y/\ChP e S m put f x y h':=
 (PC hS hp hm n).mono λr h' ⟨q1,y,q2,q3⟩=>⟨q1,_,_,y,q2,rfl,rfl,q3⟩
end
end Go.Ev.Tryz
