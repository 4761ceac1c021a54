/- Own texts, joined: . -/
import Derived.Test.YtongjlmclckboaaGreatDoorM14
set_option linter.all false
namespace Go.Ev.Tryz
set_option maxRecDepth 10000
set_option maxHeartbeats 1000000
open Go.Proofs
section
variable {s:Bs}(hs:s.size<=100000)
theorem Oo{p:UInt8->Bool}{c:UInt8}{r:List UInt8}(h:p c=true):eD p (c::r)=eD p r+1:=by rw[eD,if_pos h]
theorem RZ(p:UInt8->Bool):∀(l:List UInt8) (d:Nat),d<=eD p l->eD p (l.drop d)=eD p l - d
 | l,0,_=>by simp
 | [],d+1,h=>by simp[eD]at h
 | c::l,d+1,h=>by
  by_cases hc:p c=true
  ·rw[Oo hc]at h ⊢
   rw[List.drop_succ_cons,RZ p l d (by omega)];omega
  ·rw[eD,if_neg hc]at h;omega
include hs
theorem Mq{a:H}{n:Nat}(hn:100020<=n){l:List Wd}:∀(d k m1 m2:Nat) (L:List Wd) (line:Nat) (b:Bool) (e:Nat) (p:Pt) (c:aM) (h:H),k<=s.size->s.size - k<=d->d<=100000->e=k+eD sJ ((bs s).drop k)->d+1<m1->d<m2->line+(s.size - k)<=1000000->L.length<=k->Mod [] a h->Grow a h 3 p L.length c (L.flatMap HJ)->
  eU s (rs L line b) k ((bs s).drop k)=.inl l->cg (dX n m1 m2 s p L.length c (k:Nat) (line:Nat) (e:Nat) b h) λr h'=>Mod [] a h'/\Iv a h' r (.inl l)
 | d,k,m1,0,_,_,_,_,_,_,_,_,_,_,_,_,hm2,_,_,_,_,_=>absurd hm2 (Nat.not_lt_zero _)
 | d,k,m1,m2+1,L,line,b,e,p,c,h,hk,hd,hd5,he,hm1,hm2,aDl,hL,hm,g,hall=>by
  have hel:e<=s.size:=by
   have:=Mv sJ ((bs s).drop k)
   rw[List.length_drop,aP]at this
   omega
  have more:∀(k':Nat) (w:Wd) (b':Bool) (q:Pt) (c':aM) (h':H),k<k'->k'<=e->(0<d)->Mod [] a h'->Grow a h' 3 q (L.length+1) c' (L.flatMap HJ++HJ w)->eU s (rs (L++[w]) line b') k' ((bs s).drop k')=.inl l->
    cg (dX n m1 m2 s q (L.length+1) c' (k':Nat) (line:Nat) (e:Nat) b' h') λr h'=>Mod [] a h'/\Iv a h' r (.inl l):=by
   intro k' w b' q c' h' h1 h2 h0 hm' g' ha
   have hlen:L.length+1=(L++[w]).length:=by simp
   rw[hlen]at g' ⊢
   refine Mq hn (d - 1) k' m1 m2 (L++[w]) line b' e q c' h' (by omega) (by omega) (by omega) ?_ (by omega) (by omega) (by omega) (by rw[<-hlen];omega) hm' (by rw[List.flatMap_append,List.flatMap_singleton];exact g') ha
   have:=RZ sJ ((bs s).drop k) (k' - k) (by omega)
   rw[List.drop_drop,show k+(k' - k)=k' by omega]at this
   omega
  have same:∀(k':Nat),k<k'->k'<=e->(0<d)->eU s (rs L line b) k' ((bs s).drop k')=.inl l->
    cg (dX n m1 m2 s p L.length c (k':Nat) (line:Nat) (e:Nat) b h) λr h'=>Mod [] a h'/\Iv a h' r (.inl l):=by
   intro k' h1 h2 h0 ha
   refine Mq hn (d - 1) k' m1 m2 L line b e p c h (by omega) (by omega) (by omega) ?_ (by omega) (by omega) (by omega) (by omega) hm g ha
   have:=RZ sJ ((bs s).drop k) (k' - k) (by omega)
   rw[List.drop_drop,show k+(k' - k)=k' by omega]at this
   omega
  rw[Cc]
  by_cases hke:k<e
  ·rw[cL hke,bM]
   have hd0:0<d:=by omega
   have hlt:k<(bs s).length:=by rw[aP];omega
   obtain⟨y,hx⟩:∃y,(bs s)[k]?=some y:=⟨_,List.getElem?_eq_getElem hlt⟩
   have Wi:(bs s).drop k=y::(bs s).drop (k+1):=by
    have e1:=List.drop_eq_getElem_cons hlt
    rw[List.getElem?_eq_getElem hlt]at hx
    rw[e1,oh hx]
   have arY:sJ y=true:=by
    cases hy:sJ y with
    | true=>rfl
    | false=>rw[Wi,eD,if_neg (by rw[hy];decide)]at he;omega
   have aDv:y.toNat≠10:=of_decide_eq_true arY
   obtain⟨n,rfl⟩:∃j,n=j+1:=⟨n - 1,by omega⟩
   rw[cC hx,Tf,fD]
   simp only[aq]
   rw[Wi]at hall
   cases hb:AU y with
   | true=>
    rw[bM,aG (by omega)]
    exact same (k+1) (by omega) (by omega) hd0 (by rw[<-Xr hb];exact hall)
   | false=>
    rw[br,cC hx]
    by_cases h35:y.toNat=35
    ·
     rw[show(((y.toNat:Nat):Int)==35)=true by simp;omega,bM]
     rw[Xt h35]at hall
     have hrun:eD sJ ((bs s).drop (k+1))=e - (k+1):=by
      rw[Wi,Oo arY]at he;omega
     obtain⟨q1,q2⟩:=Qr (e - (k+1)) (k+1) ((bs s).drop (k+1)) (by rw[List.length_drop,aP];omega) (λx hx=>by
      rw[<-hrun]at hx
      exact of_decide_eq_true (KB sJ _ x hx)) hall
     rw[show k+1+(e - (k+1))=e by omega,List.drop_drop,show k+1+(e - (k+1))=e by omega]at q2
     have hend:(bs s).drop e=[]∨∃q,(bs s).drop e=10::q:=by
      cases hq:(bs s).drop e with
      | nil=>exact .inl rfl
      | cons z q=>
       right
       have hz:sJ z=false:=GK sJ ((bs s).drop k) z q (by rw[List.drop_drop,<-he];exact hq)
       have:z.toNat=10:=by simpa[sJ]using hz
       exact⟨q,by rw[show z=10 from UInt8.toNat_inj.1 (by rw[this];rfl)]⟩
     rw[ad5 hend]at q2
     have JV:∀x∈((bs s).drop k).take (e - k),Lo x=true:=by
      rw[Wi,show e - k=(e - (k+1))+1 by omega,List.take_succ_cons]
      intro x hx
      rcases List.mem_cons.1 hx with hxy | hx
      ·rw[hxy];simp[Lo,h35]
      ·exact q1 x hx
     have agN:=agn hs (k:=k) (d:=e - k) (by omega) JV (n:=n+1) (by omega) h
     rw[show k+(e - k)=e by omega]at agN
     rw[agN,fD]
     simp only[aj]
     rw[aT (cF _),br]
     exact same e hke (cF _) hd0 q2
    ·rw[show(((y.toNat:Nat):Int)==35)=false by simp;omega,br,U0 hs hx (by omega),fD]
     simp only[aj]
     cases hbr:wh y with
     | true=>
      rw[if_pos rfl]
      rw[Xs hbr hx]at hall
      rw[show(((k+1:Nat):Int)==((k:Nat):Int))=false by simp;omega,br,wrap_i64 (by omega) (by omega),show decide (((k+1:Nat):Int) - ((k:Nat):Int)>60)=false by simp;omega,br,BK (by omega) (by omega) (by omega)]
      simp only[aL]
      have hex:s.extract ((k:Nat):Int).toNat ((k+1:Nat):Int).toNat=mk [y]:=oI (by rw[jB,ko,show((k:Nat):Int).toNat=k from rfl,show((k+1:Nat):Int).toNat=k+1 from rfl,Wi,show k+1 - k=1 by omega];rfl)
      rw[hex]
      refine g.push hm.next rfl rfl (by decide) (by omega) (by omega) λp' c' h' g' m'=>?_
      exact more (k+1) (wd (mk [y]) k line) true p' c' h' (by omega) (by omega) hd0 (hm.push g m') g' hall
     | false=>
      rw[if_neg (by decide)]
      have hp:aX y=true:=by
       rw[eU]at hall
       rw[if_neg (by intro h;have:(0:Int) <= -1:=h.1;omega)]at hall
       split at hall
       ·next hmy=>
        simp only[H7,Bool.or_eq_true,Bool.and_eq_true,decide_eq_true_eq]at hmy
        have h1:¬(y.toNat=9∨y.toNat=13∨y.toNat=32):=λhh=>by
         have:AU y=true:=by simp[AU,or_assoc,hh]
         rw[hb]at this;cases this
        have h2:¬(y.toNat=123∨y.toNat=125):=λhh=>by
         have:wh y=true:=by simp[wh,hh]
         rw[hbr]at this;cases this
        simp only[aX,Bool.and_eq_true,decide_eq_true_eq]
        omega
       ·cases hall
      obtain⟨q1,q2⟩:=aa9 Wi hp hall
      rw[<-Wi]at q1 q2
      have hr1:1<=eD aX ((bs s).drop k):=by rw[Wi,Oo hp];omega
      have hrl:eD aX ((bs s).drop k)<=e - k:=by
       have:∀r:List UInt8,eD aX r<=eD sJ r:=by
        intro r
        induction r with
        | nil=>exact cF _
        | cons z r ih=>
         unfold eD
         split
         ·next hz=>
          have:sJ z=true:=by
           have:=uH hz
           exact decide_eq_true (by omega)
          rw[if_pos this];omega
         ·exact uQ _
       have:=this ((bs s).drop k)
       omega
      generalize hto:eD aX ((bs s).drop k)=w at q1 q2 hr1 hrl ⊢
      rw[show(((k+w:Nat):Int)==((k:Nat):Int))=false by simp;omega,br,wrap_i64 (by omega) (by omega),show decide (((k+w:Nat):Int) - ((k:Nat):Int)>60)=false by simp;omega,br,BK (by omega) (by omega) (by omega)]
      simp only[aL]
      have hex:s.extract ((k:Nat):Int).toNat ((k+w:Nat):Int).toNat=mk (((bs s).drop k).take w):=oI (by rw[jB,ko,show((k:Nat):Int).toNat=k from rfl,show((k+w:Nat):Int).toNat=k+w from rfl,show k+w - k=w by omega])
      rw[hex]
      refine g.push hm.next rfl rfl (by decide) (by omega) (by omega) λp' c' h' g' m'=>?_
      rw[List.drop_drop]at q2
      exact more (k+w) (wd (mk (((bs s).drop k).take w)) k line) true p' c' h' (by omega) (by omega) hd0 (hm.push g m') g' q2
  ·
   obtain rfl:k=e:=by omega
   rw[aT (cF _),br]
   have fin:∀(L':List Wd) (q:Pt) (c':aM) (h':H),L'.length<=k+1->Mod [] a h'->Grow a h' 3 q L'.length c' (L'.flatMap HJ)->(∀r,(bs s).drop k=10::r->eU s (rs L' ((line+1:Nat):Int) false) ((k+1:Nat):Int) r=.inl l)->((bs s).drop k=[]->L'=l)->
     cg (jn n m1 s q L'.length c' ((k+1:Nat):Int) ((line+1:Nat):Int) h') λr h'=>Mod [] a h'/\Iv a h' r (.inl l):=by
    intro L' q c' h' hL' hm' g' h1 h2
    obtain⟨m1,rfl⟩:∃j,m1=j+1:=⟨m1 - 1,by omega⟩
    rw[uz]
    cases hq:(bs s).drop k with
    | nil=>
     have hks:k=s.size:=by
      have:=congrArg List.length hq
      rw[List.length_drop,aP]at this
      simp at this;omega
     rw[show decide (((k+1:Nat):Int)<=(Nat.cast s.size))=false by simp;omega,br]
     obtain rfl:=h2 hq
     exact .pure ⟨hm',q,c',rfl,g'⟩
    | cons z r=>
     have hz:z=10:=by
      have hz:sJ z=false:=GK sJ ((bs s).drop k) z r (by
       have:eD sJ ((bs s).drop k)=0:=by omega
       rw[this];exact hq)
      have:z.toNat=10:=by simpa[sJ]using hz
      exact UInt8.toNat_inj.1 (by rw[this];rfl)
     rw[hz]at hq
     have hlt:k<s.size:=by
      have:=congrArg List.length hq
      rw[List.length_drop,aP]at this
      simp at this;omega
     have Wi:(bs s).drop (k+1)=r:=by rw[<-List.drop_drop,hq];rfl
     rw[show decide (((k+1:Nat):Int)<=(Nat.cast s.size))=true by simp;omega,bM,Lg hs (k:=k+1) (by omega) (by omega),fD]
     simp only[aj]
     exact Mq hn (d - 1) (k+1) m1 n L' (line+1) false _ q c' h' (by omega) (by omega) (by omega) rfl (by omega) (by omega) (by omega) hL' hm' g' (by rw[Wi];exact h1 r hq)
   cases b with
   | true=>
    rw[bM]
    simp only[aL]
    refine g.push hm.next rfl rfl (by decide) (by omega) (by omega) λp' c' h' g' m'=>?_
    rw[aG (by omega),aG (by omega)]
    have hlen:L.length+1=(L++[wd nl k line]).length:=by simp
    rw[hlen]at g' ⊢
    refine fin (L++[wd nl k line]) p' c' h' (by rw[<-hlen];omega) (hm.push g m') (by rw[List.flatMap_append,List.flatMap_singleton];exact g') (λr hr=>?_) λhr=>?_
    ·rw[hr,Y7,if_pos rfl]at hall
     exact hall
    ·rw[hr,step_end,if_pos rfl]at hall
     exact Sum.inl.inj hall
   | false=>
    rw[br,aG (by omega),aG (by omega)]
    refine fin L p c h (by omega) hm g (λr hr=>?_) λhr=>?_
    ·rw[hr,Y7,if_neg (by decide)]at hall
     exact hall
    ·rw[hr,step_end,if_neg (by decide)]at hall
     exact Sum.inl.inj hall
 termination_by d=>d
theorem aeH{n:Nat}(hn:200040<=n){l:List Wd}(hall:HE s=.inl l)(h:H):cg (ca n sU [.str s] h) λr h'=>Mod [] h h'/\Iv h h' r (.inl l):=by
 obtain⟨n,rfl⟩:∃j,n=j+1:=⟨n - 1,by omega⟩
 rw[FD]
 obtain⟨j,rfl⟩:∃j,n=j+1:=⟨n - 1,by omega⟩
 rw[uz,show decide ((0:Int)<=(Nat.cast s.size))=true by simp,bM]
 have e0:=Lg hs (k:=0) (uQ _) (n:=j+1) (by omega) h
 rw[show(((0:Nat):Int))=(0:Int)from rfl]at e0
 rw[e0,fD]
 simp only[aj]
 exact Mq hs (a:=h) (n:=j+1) (by omega) s.size 0 j (j+1) [] 1 false _ none (.known 0) h (uQ _) (cF _) hs rfl (by omega) (by omega) (by omega) (cF _) (.refl _ _) .nil hall
end
structure LV(a h:H)(f:Nat->Option Nat)(c:Nat->List AV):Prop where
 ow:EG a f c h
 m:Mod [] a h
section
variable {a h h':H}{f:Nat->Option Nat}{c:Nat->List AV}{i x n:Nat}{α β:Type}
theorem LV.nil(a:H):LV a a (λ_=>none) (λ_=>[]):=⟨.nil _ _,.refl _ _⟩
theorem LV.ak(v:LV a h f c)(m:Mod [] h h'):LV a h' f c:=⟨v.ow.ak m,v.m.trans m⟩
theorem LV.all(v:LV a h f c)(hf:f i=some x){w:List AV}(hx:c i=w)(hl:w.length=n)(F:List AV->Option β):aI h x 0 n F=F w:=by
 have g:=v.ow.at hf
 rw[hx]at g
 exact g.all hl F
theorem LV.cell(v:LV a h f c)(hf:f i=some x){w:List AV}(hx:c i=w){p:Nat}{y:AV}(hy:w[p]?=some y)(F:AV->Option β):af h x p F=F y:=by
 have g:=v.ow.at hf
 rw[hx]at g
 exact g.cell hy F
theorem LV.put(v:LV a h f c)(hf:f i=some x){w w':List AV}(hx:c i=w)(hl:w.length=n)(hl':w'.length=n)(hc:w'.all cT=true):∃h',(∀(γ:Type) (F:H->Option γ),bK h x 0 n w' F=F h')/\LV a h' f (up c i w')/\Mod [x] h h':=by
 have g:=v.ow.at hf
 obtain⟨o,fr⟩:=v.ow.wr hf w'
 refine⟨_,λγ F=>FY (n:=n) g (by rw[hx];exact hl) hl' hc F,⟨o,v.m.trans' fr.mod λy hy hl=>?_⟩,(Mod.refl _ _).set (.inr (by simp)) _⟩
 obtain⟨j,e⟩:=v.ow.mem.1 hy
 have:=v.ow.ge j y e
 omega
theorem LV.wG(v:LV a h f c)(hf:f i=some x){w:List AV}(hx:c i=w){p:Nat}{y:AV}(hp:p<w.length)(hc:cT y=true):∃h',(∀(γ:Type) (F:H->Option γ),bK h x p 1 [y] F=F h')/\LV a h' f (up c i (w.set p y))/\Mod [x] h h':=by
 have g:=v.ow.at hf
 obtain⟨o,fr⟩:=v.ow.wr hf (w.set p y)
 refine⟨_,λγ F=>by rw[pH g.get (by rw[hx];exact hp) hc,hx],⟨o,v.m.trans' fr.mod λy hy hl=>?_⟩,(Mod.refl _ _).set (.inr (by simp)) _⟩
 obtain⟨j,e⟩:=v.ow.mem.1 hy
 have:=v.ow.ge j y e
 omega
theorem LV.as5(v:LV a h f c)(hf:f i=some x){w xs w':List AV}(hx:c i=w){p:Nat}(hn:xs.length=n)(hl:p+n<=w.length)(hc:xs.all cT=true)(hw:My w p xs=w'):∃h',(∀(γ:Type) (F:H->Option γ),bK h x p n xs F=F h')/\LV a h' f (up c i w')/\Mod [x] h h':=by
 obtain⟨o,fr⟩:=v.ow.wr hf w'
 refine⟨_,λγ F=>v.ow.bK hf hn (by rw[hx];exact hl) hc (by rw[hx];exact hw) F,⟨o,v.m.trans' fr.mod λy hy hl=>?_⟩,(Mod.refl _ _).set (.inr (by simp)) _⟩
 obtain⟨j,e⟩:=v.ow.mem.1 hy
 have:=v.ow.ge j y e
 omega
theorem LV.new(v:LV a h f c)(hi:i<12)(hf:f i=none)(w:List AV):LV a (h.new (.cells w false)) (up f i (some h.next)) (up c i w):=by
 obtain⟨o,fr⟩:=v.ow.put (i:=i) (x:=h.next) (h':=h.new (.cells w false)) hi (cF _) (.new _ _) (by rw[hf];exact(Mod.refl _ _).new _)
 exact⟨o,v.m.trans ((Mod.refl _ _).new _)⟩
theorem LV.aD(v:LV a h f c)(hi:i<12)(hf:f i=none){w:List AV}{K:Nat->H->Option (α×H)}{Q:α->H->Prop}(hK:∀x h',LV a h' (up f i (some x)) (up c i w)->Mod [] h h'->At h' x (.cells w false)->cg (K x h') Q):cg (Ev.aD (.cells w false) h K) Q:=by
 rw[aL]
 exact hK _ _ (v.new hi hf w) ((Mod.refl _ _).new _) (.new _ _)
theorem tF{w y:List AV}{K:Nat->Nat->H->Option (α×H)}{Q:α->H->Prop}(hK:∀i j h',LV h h' (up (up (λ_=>none) 0 (some i)) 1 (some j)) (up (up (λ_=>[]) 0 w) 1 y)->cg (K i j h') Q):
  cg (Ev.aD (.cells w false) h λi h1=>Ev.aD (.cells y false) h1 λj h2=>K i j h2) Q:=by
 refine(LV.nil h).aD (i:=0) (by decide) rfl λi h1 v1 _ _=>?_
 exact v1.aD (i:=1) (by decide) rfl λj h2 v2 _ _=>hK i j h2 v2
end
def aiX(W S:AV)(z:Nat)(p:Ps)(V T G:AV):List AV:=
 [W,.int .i64 p.k,.int .i64 z,.int .u8 p.bH.a,.int .u8 p.bH.b,.int .u8 p.bH.c,.int .u8 p.bH.d,.int .u8 p.bH.e,.int .u8 p.bH.f,.str p.addr,.str p.peer,.int .i64 p.id,.int .i64 p.prio,.int .i64 p.every,.bool p.pre,V,T,G,S,.int .i64 0,.int .i64 0]
structure fG(G:Nat->Prop)(h:H)(size:Nat)(p:Pt)(len:Nat)(c:aM)(vs:List AV):Prop where
 row:Row h size p len c vs
 own:∀b∈own p,G b
theorem fG.ak{G:Nat->Prop}{h h':H}{size len:Nat}{p:Pt}{c:aM}{vs:List AV}(r:fG G h size p len c vs)(m:Mod [] h h'):fG G h' size p len c vs:=⟨r.row.ak m,r.own⟩
theorem fG.sx{G:Nat->Prop}{h h':H}{x size len:Nat}{p:Pt}{c:aM}{vs:List AV}(r:fG G h size p len c vs)(m:Mod [x] h h')(hx:¬G x):fG G h' size p len c vs:=⟨r.row.mod m λb hb hm=>hx (by obtain rfl:=List.mem_singleton.1 hm;exact r.own b hb),r.own⟩
theorem fG.more{G G':Nat->Prop}{h:H}{size len:Nat}{p:Pt}{c:aM}{vs:List AV}(r:fG G h size p len c vs)(hG:∀b,G b->G' b):fG G' h size p len c vs:=⟨r.row,λb hb=>hG b (r.own b hb)⟩
structure cS(G:Nat->Prop)(h:H)(s:Bs)(l:List Wd)(p:Ps)(v:List AV):Prop where
 ex:∃(wp:Pt) (wc:aM) (vp:Pt) (vc:aM) (tp:Pt) (tc:aM) (gp:Pt) (gc:aM) (sp:Pt) (sc:aM) (fm:List U7),v=aiX (.slice wp l.length wc) (.slice sp p.ag.length sc) s.size p (.slice vp p.au.length vc) (.slice tp p.bh.length tc) (.slice gp fm.length gc)/\
  fG G h 3 wp l.length wc (l.flatMap HJ)/\fG G h 1 vp p.au.length vc (p.au.map .str)/\fG G h 2 tp p.bh.length tc (p.bh.flatMap wm)/\fG G h 10 gp fm.length gc (fm.flatMap yE)/\fm.map (·.1)=p.bB/\(∀x∈fm,fG G h 10 x.2.1 x.1.bf.length x.2.2 (x.1.bf.flatMap dV))/\fG G h 3 sp p.ag.length sc (p.ag.flatMap uk)
theorem cS.ak{G:Nat->Prop}{h h':H}{s:Bs}{l:List Wd}{p:Ps}{v:List AV}(r:cS G h s l p v)(m:Mod [] h h'):cS G h' s l p v:=by
 obtain⟨wp,wc,vp,vc,tp,tc,gp,gc,sp,sc,fm,e,h1,h2,h3,h4,h5,h6,h7⟩:=r
 exact⟨wp,wc,vp,vc,tp,tc,gp,gc,sp,sc,fm,e,h1.ak m,h2.ak m,h3.ak m,h4.ak m,h5,λx hx=>(h6 x hx).ak m,h7.ak m⟩
theorem cS.sx{G:Nat->Prop}{h h':H}{x:Nat}{s:Bs}{l:List Wd}{p:Ps}{v:List AV}(r:cS G h s l p v)(m:Mod [x] h h')(hx:¬G x):cS G h' s l p v:=by
 obtain⟨wp,wc,vp,vc,tp,tc,gp,gc,sp,sc,fm,e,h1,h2,h3,h4,h5,h6,h7⟩:=r
 exact⟨wp,wc,vp,vc,tp,tc,gp,gc,sp,sc,fm,e,h1.sx m hx,h2.sx m hx,h3.sx m hx,h4.sx m hx,h5,λx hx'=>(h6 x hx').sx m hx,h7.sx m hx⟩
theorem cS.more{G G':Nat->Prop}{h:H}{s:Bs}{l:List Wd}{p:Ps}{v:List AV}(r:cS G h s l p v)(hG:∀b,G b->G' b):cS G' h s l p v:=by
 obtain⟨wp,wc,vp,vc,tp,tc,gp,gc,sp,sc,fm,e,h1,h2,h3,h4,h5,h6,h7⟩:=r
 exact⟨wp,wc,vp,vc,tp,tc,gp,gc,sp,sc,fm,e,h1.more hG,h2.more hG,h3.more hG,h4.more hG,h5,λx hx=>(h6 x hx).more hG,h7.more hG⟩
section
variable {G:Nat->Prop}{h h':H}{s:Bs}{l:List Wd}{p:Ps}{v:List AV}
theorem cS.len(r:cS G h s l p v):v.length=21/\v.all cT=true:=by
 obtain⟨wp,wc,vp,vc,tp,tc,gp,gc,sp,sc,fm,rfl,_⟩:=r
 exact⟨rfl,rfl⟩
theorem cS.code(r:cS G h s l p v):v[20]?=some (.int .i64 0):=by
 obtain⟨wp,wc,vp,vc,tp,tc,gp,gc,sp,sc,fm,rfl,_⟩:=r
 rfl
theorem cS.atK(r:cS G h s l p v):v[1]?=some (.int .i64 p.k):=by
 obtain⟨wp,wc,vp,vc,tp,tc,gp,gc,sp,sc,fm,rfl,_⟩:=r
 rfl
end
def Jz(p:Ps)(k:Nat):Ps:={p with k:=k}
theorem cS.aR{G:Nat->Prop}{h:H}{s:Bs}{l:List Wd}{p:Ps}{v:List AV}(r:cS G h s l p v)(k:Nat):cS G h s l (Jz p k) (v.set 1 (.int .i64 k)):=by
 obtain⟨wp,wc,vp,vc,tp,tc,gp,gc,sp,sc,fm,rfl,hr⟩:=r
 exact⟨wp,wc,vp,vc,tp,tc,gp,gc,sp,sc,fm,rfl,hr⟩
def Zh(G:Nat->Prop)(h:H)(s:Bs)(l:List Wd)(p:Ps)(r:AV)(h':H):Prop:=Mod [] h h'/\∃v,r=.agg v/\cS G h' s l p v
def Old(G:Nat->Prop)(h:H):Prop:=∀b,G b->b<h.next
theorem Old.no{G:Nat->Prop}{a h:H}{f:Nat->Option Nat}{c:Nat->List AV}{i x:Nat}(o:Old G a)(v:LV a h f c)(hf:f i=some x):¬G x:=λhg=>by
 have:=o x hg
 have:=v.ow.ge i x hf
 omega
section
variable {G:Nat->Prop}{s:Bs}{l:List Wd}{p:Ps}{v:List AV}{h:H}
theorem R6(r:cS G h s l p v)(n:Nat):cg (ca (n+1) jl [.agg v] h) λq h'=>Mod [] h h'/\q=.str (aa l p.k):=by
 rw[Ez]
 refine(LV.nil h).aD (i:=0) (by decide) rfl λi h1 v1 m1 _=>?_
 obtain⟨wp,wc,vp,vc,tp,tc,gp,gc,sp,sc,fm,rfl,hw,_⟩:=r
 rw[v1.cell (i:=0) rfl rfl (p:=1) (y:=.int .i64 p.k) rfl,aj,v1.cell (i:=0) rfl rfl (p:=0) (y:=.slice wp l.length wc) rfl,ah]
 unfold aa
 cases hl:l[p.k]? with
 | none=>
  have:l.length<=p.k:=List.getElem?_eq_none_iff.1 hl
  rw[aT this,br]
  exact .pure ⟨m1,rfl⟩
 | some w=>
  have:p.k<l.length:=(sS hl).1
  rw[cL this,bM,v1.cell (i:=0) rfl rfl (p:=0) (y:=.slice wp l.length wc) rfl,ah,v1.cell (i:=0) rfl rfl (p:=1) (y:=.int .i64 p.k) rfl,aj,(hw.row.ak m1).Wq BY hl (v:=.str w.1) rfl,az]
  exact .pure ⟨m1,rfl⟩
theorem ahC(r:cS G h s l p v)(n:Nat):cg (ca (n+1) cY [.agg v] h) λq h'=>Mod [] h h'/\q=.int .i64 (bA s l p.k):=by
 rw[DF]
 refine(LV.nil h).aD (i:=0) (by decide) rfl λi h1 v1 m1 _=>?_
 obtain⟨wp,wc,vp,vc,tp,tc,gp,gc,sp,sc,fm,rfl,hw,_⟩:=r
 rw[v1.cell (i:=0) rfl rfl (p:=1) (y:=.int .i64 p.k) rfl,aj,v1.cell (i:=0) rfl rfl (p:=0) (y:=.slice wp l.length wc) rfl,ah]
 unfold bA
 cases hl:l[p.k]? with
 | none=>
  have:l.length<=p.k:=List.getElem?_eq_none_iff.1 hl
  rw[aT this,br,v1.cell (i:=0) rfl rfl (p:=2) (y:=.int .i64 s.size) rfl,aj]
  exact .pure ⟨m1,rfl⟩
 | some w=>
  have:p.k<l.length:=(sS hl).1
  rw[cL this,bM,v1.cell (i:=0) rfl rfl (p:=0) (y:=.slice wp l.length wc) rfl,ah,v1.cell (i:=0) rfl rfl (p:=1) (y:=.int .i64 p.k) rfl,aj,(hw.row.ak m1).ix2 BY hl 1 (v:=.int .i64 w.2.1) rfl,aj]
  exact .pure ⟨m1,rfl⟩
theorem od{a b:Bs}(h:a≠b):(a.toList==b.toList)=false:=by
 have hne:a.toList≠b.toList:=λh'=>h (by
  have:a.data.toList=b.data.toList:=by simpa[ByteArray.toList_eq]using h'
  exact oI this)
 simpa using hne
theorem Ds(r:cS G h s l p v)(hl:l.length<=400000){w:Bs}(hw:aa l p.k=w)(hne:w≠⟨#[]⟩){n:Nat}(hn:2<=n):cg (ca n cA [.agg v,.str w] h) (Zh G h s l (Jz p (p.k+1))):=by
 obtain⟨n,rfl⟩:∃j,n=j+1+1:=⟨n - 2,by omega⟩
 have hk:p.k<l.length:=kD (by rw[hw];exact hne)
 rw[Eu]
 refine tF λi j h2 v2=>?_
 rw[v2.cell (i:=0) rfl rfl r.code,aj,show((0:Int) != 0)=false from rfl,br,v2.all (i:=0) rfl rfl r.len.1]
 refine(R6 (r.ak v2.m) n).bind ?_
 rintro _ h3 ⟨m3,rfl⟩
 simp only[az]
 have v3:=v2.ak m3
 rw[hw,show(!(w.toList==w.toList))=false by simp,br,v3.cell (i:=0) rfl rfl r.atK,aj,aG (by omega)]
 obtain⟨h4,e4,v4,m4⟩:=v3.wG (i:=0) (p:=1) (y:=.int .i64 ((p.k+1:Nat):Int)) rfl rfl (by show 1<v.length;rw[r.len.1];decide) rfl
 rw[e4]
 have r4:=(r.aR (p.k+1)).ak v4.m
 rw[v4.all (i:=0) rfl (w:=v.set 1 (.int .i64 ((p.k+1:Nat):Int))) rfl r4.len.1]
 obtain⟨h5,e5,v5,m5⟩:=v4.put (i:=1) rfl rfl (n:=21) rfl r4.len.1 r4.len.2
 rw[e5,v5.all (i:=1) rfl rfl r4.len.1]
 exact .pure ⟨v5.m,_,rfl,(r.aR (p.k+1)).ak v5.m⟩
theorem Ju(r:cS G h s l p v)(hG:Old G h)(hl:l.length<=400000)(h1:aa l p.k=gJ)(h2:aa l (p.k+1)=nl){n:Nat}(hn:3<=n):cg (ca n fh [.agg v] h) (Zh G h s l (Jz p (p.k+2))):=by
 obtain⟨n,rfl⟩:∃j,n=j+1:=⟨n - 1,by omega⟩
 rw[Cl]
 refine tF λi j h0 v0=>?_
 rw[v0.all (i:=0) rfl rfl r.len.1]
 refine(Ds (r.ak v0.m) hl h1 (by decide) (by omega)).bind ?_
 rintro _ h3 ⟨m3,v',rfl,r3⟩
 simp only[bG]
 refine(Ds r3 hl h2 (by decide) (by omega)).bind ?_
 rintro _ h4 ⟨m4,v'',rfl,r4⟩
 simp only[bG]
 have v4:=(v0.ak m3).ak m4
 obtain⟨h5,e5,v5,m5⟩:=v4.put (i:=1) rfl rfl (n:=21) rfl r4.len.1 r4.len.2
 rw[e5,v5.all (i:=1) rfl rfl r4.len.1]
 exact .pure ⟨v5.m,_,rfl,r4.sx m5 (hG.no v5 (i:=1) rfl)⟩
end
def U6(G:Nat->Prop)(h:H)(s:Bs)(l:List Wd)(p:Ps)(xs:List AV)(r:AV)(h':H):Prop:=Mod [] h h'/\∃v,r=.dJ (.agg v::xs)/\cS G h' s l p v
theorem UL{w:Bs}(h:iI w=false):w≠⟨#[]⟩/\w≠⟨#[10]⟩/\w≠⟨#[123]⟩/\w≠⟨#[125]⟩:=by
 refine⟨?_,?_,?_,?_⟩<;>(rintro rfl;revert h;decide)
theorem VH{α:Type}{h h1:H}{size bytes n:Nat}{q:Pt}{cq:aM}{vs:List AV}(r:Row h1 size q n cq vs)(hc:vs.all cT=true)(hb:n*bytes<=140737488355328)(h63:n<=9223372036854775807)(hz:n=0->vs=[]){i:Nat}(gi:At h1 i (.cells [] false))(hi:h.next<=i)(hn:h.next<=h1.next)
  {f:Pt->Nat->aM->H->Option (α×H)} {Q:α->H->Prop} (k:∀p' c' h',Grow h h' size p' n c' vs->Mod [i] h1 h'->cg (f p' n c' h') Q):cg (fS size bytes (some (i,0)) 0 (.known 0) (di size (.slice q n cq) h1) h1 f) Q:=by
 have g:Grow h h1 size (some (i,0)) 0 (.known 0) []:=⟨.inr ⟨i,rfl,hi,gi.lt,gi.get,by simp,.inr rfl⟩⟩
 refine g.ret hn r.src r.length hc (by simpa using hb) (by simpa using h63) hz λp' c' h' g' m'=>?_
 rw[Nat.zero_add]at g' ⊢
 exact k p' c' h' g' m'
section
variable {G:Nat->Prop}{s:Bs}{l:List Wd}{p:Ps}{v:List AV}{h:H}
theorem GR(r:cS G h s l p v)(hG:Old G h)(hl:l.length<=400000)(hw:iI (aa l p.k)=false){n:Nat}(hn:3<=n):cg (ca n dG [.agg v] h) (U6 G h s l (Jz p (p.k+1)) [.str (aa l p.k),.int .i64 (bA s l p.k)]):=by
 obtain⟨n,rfl⟩:∃j,n=j+1+1:=⟨n - 2,by omega⟩
 obtain⟨w1,w2,w3,w4⟩:=UL hw
 have hk:p.k<l.length:=kD w1
 rw[DH]
 refine tF λi j h0 v0=>?_
 rw[v0.all (i:=0) rfl rfl r.len.1]
 refine(R6 (r.ak v0.m) n).bind ?_
 rintro _ h1 ⟨m1,rfl⟩
 simp only[az]
 have v1:=v0.ak m1
 rw[v1.all (i:=0) rfl rfl r.len.1]
 refine(ahC (r.ak v1.m) n).bind ?_
 rintro _ h2 ⟨m2,rfl⟩
 simp only[aj]
 have v2:=v1.ak m2
 rw[od w1,br,od w2,br,od w3,br,od w4,Az,br]
 simp only[ai,Nat.zero_add]
 rw[v2.cell (i:=0) rfl rfl r.atK,aj,aG (by omega)]
 obtain⟨h3,e3,v3,m3⟩:=v2.wG (i:=0) (p:=1) (y:=.int .i64 ((p.k+1:Nat):Int)) rfl rfl (by show 1<v.length;rw[r.len.1];decide) rfl
 have r3:=(r.aR (p.k+1)).ak v3.m
 rw[e3,v3.all (i:=0) rfl (w:=v.set 1 (.int .i64 ((p.k+1:Nat):Int))) rfl r3.len.1]
 obtain⟨h4,e4,v4,m4⟩:=v3.put (i:=1) rfl rfl (n:=21) rfl r3.len.1 r3.len.2
 rw[e4,v4.all (i:=1) rfl rfl r3.len.1]
 exact .pure ⟨v4.m,_,rfl,(r.aR (p.k+1)).ak v4.m⟩
theorem vw(r:cS G h s l p v)(hG:Old G h)(hl:l.length<=400000)(hw:iI (aa l p.k)=false){lo hi x:Int}(hx:cl (bs (aa l p.k))=(x,true))(h0:lo<=x)(h1:x<=hi)(he:aa l (p.k+1)=nl){n:Nat}(hn:30<=n):
  cg (ca n bP [.agg v,.int .i64 lo,.int .i64 hi] h) (U6 G h s l (Jz p (p.k+2)) [.int .i64 x]):=by
 obtain⟨n,rfl⟩:∃j,n=j+1:=⟨n - 1,by omega⟩
 rw[Ck]
 refine tF λi j h2 v2=>?_
 rw[v2.all (i:=0) rfl rfl r.len.1]
 refine(GR (r.ak v2.m) (λb hb=>Ep (hG b hb) v2.m.next) hl hw (by omega)).bind ?_
 rintro _ h3 ⟨m3,v',rfl,r3⟩
 simp only[ay,eV,dx,cu,aE]
 have v3:=v2.ak m3
 obtain⟨h4,e4,v4,m4⟩:=v3.put (i:=0) rfl rfl (n:=21) r.len.1 r3.len.1 r3.len.2
 have r4:=r3.sx m4 (hG.no v4 (i:=0) rfl)
 rw[e4,Ig _ (by omega) h4,fD,hx]
 simp only[tV,ay,cu,fV,aE]
 rw[v4.cell (i:=0) rfl rfl r4.code,aj,show((0:Int)==0)=true from rfl,bM,Bool.not_true,br,decide_eq_false (by omega),br,show decide (x>hi)=false from decide_eq_false (by omega),zM,br,zN]
 simp only[ai]
 rw[v4.all (i:=0) rfl rfl r4.len.1]
 refine(Ds r4 hl (w:=nl) he (by decide) (by omega)).bind ?_
 rintro _ h5 ⟨m5,v'',rfl,r5⟩
 simp only[bG]
 have v5:=v4.ak m5
 obtain⟨h6,e6,v6,m6⟩:=v5.put (i:=1) rfl rfl (n:=21) rfl r5.len.1 r5.len.2
 rw[e6,v6.all (i:=1) rfl rfl r5.len.1]
 exact .pure ⟨v6.m,_,rfl,r5.sx m6 (hG.no v6 (i:=1) rfl)⟩
theorem K1(hG:Old G h)(hl:l.length<=400000){n:Nat}(hn:10<=n){i j:Nat}{h1:H}{v':List AV}{f:Nat->Option Nat}{c:Nat->List AV}(v1:LV h h1 f c)(dr:f 0=some i)(jD:f 1=some j)(hij:c 0=v')(uo:(c 1).length=21)(r1:cS G h1 s l p v')(he:aa l p.k=nl){q:Pt}{cq:aM}{L:List Bs}(rq:Row h1 1 q L.length cq (L.map .str))(hL:L.length<=100){w:Bs}(at':Int):
  ∀(rest pre:List Bs) (m k:Nat),L=pre++rest->rest.length<m->w∉pre->L[k]?=some w->pre.length<=k->L.Nodup->cg (jy n m q L.length cq (some (i,0)) (some (j,0)) w at' (pre.length:Nat) h1) (U6 G h s l (Jz p (p.k+1)) [.int .i64 ((k+1:Nat):Int)])
 | [],pre,m,k,e,_,hp,hk,_,_=>by
  rw[e,List.append_nil]at hk
  exact absurd (Hq hk) hp
 | y::rest,pre,m+1,k,e,hm,hp,hk,hle,hnd=>by
  have hlt:pre.length<L.length:=by rw[e];simp
  have hy:L[pre.length]?=some y:=by rw[e];simp
  rw[zL,cL hlt,bM,rq.Mh hy,az]
  by_cases hyw:y=w
  ·subst hyw
   have hkp:k=pre.length:=by
    have hkl:k<L.length:=(sS hk).1
    exact(List.getElem?_inj hkl hnd).1 (hk.trans hy.symm)
   subst hkp
   rw[show(y.toList==y.toList)=true by simp,bM]
   simp only[ai]
   rw[v1.all dr hij r1.len.1]
   refine(Ds r1 hl (w:=nl) he (by decide) (by omega)).bind ?_
   rintro _ h2 ⟨m2,v'',rfl,r2⟩
   simp only[bG]
   have v2:=v1.ak m2
   obtain⟨h3,e3,v3,m3⟩:=v2.put (i:=1) jD rfl (n:=21) uo r2.len.1 r2.len.2
   rw[e3,v3.all (i:=1) jD (aF c 1 v'') r2.len.1,aG (by omega)]
   exact .pure ⟨v3.m,_,rfl,r2.sx m3 (hG.no v3 (i:=1) jD)⟩
  ·rw[od hyw,br,aG (by omega)]
   have:=K1 hG hl hn v1 dr jD hij uo r1 he rq hL at' rest (pre++[y]) m k (by rw[e];simp) (by simp at hm;omega) (by simp only[List.mem_append,List.mem_singleton,not_or];exact⟨hp,λh=>hyw h.symm⟩) hk (by
    simp only[hU,Lf]
    have hne:k≠pre.length:=λh=>by
     rw[h,hy]at hk
     exact hyw (oh hk)
    omega) hnd
   rw[hU,Lf]at this
   exact this
theorem IE(r:cS G h s l p v)(hG:Old G h)(hl:l.length<=400000)(hw:iI (aa l p.k)=false){q:Pt}{cq:aM}{L:List Bs}(rq:Row h 1 q L.length cq (L.map .str))(hL:L.length<=100){k:Nat}(hk:L[k]?=some (aa l p.k))(hnd:L.Nodup)(he:aa l (p.k+1)=nl){n:Nat}(hn:120<=n):
  cg (ca n ff [.agg v,.slice q L.length cq] h) (U6 G h s l (Jz p (p.k+2)) [.int .i64 ((k+1:Nat):Int)]):=by
 obtain⟨n,rfl⟩:∃j,n=j+1:=⟨n - 1,by omega⟩
 rw[Ch]
 refine tF λi j h2 v2=>?_
 rw[v2.all (i:=0) rfl rfl r.len.1]
 refine(GR (r.ak v2.m) (λb hb=>Ep (hG b hb) v2.m.next) hl hw (by omega)).bind ?_
 rintro _ h3 ⟨m3,v',rfl,r3⟩
 simp only[ay,eV,dx,cu,aE]
 have v3:=v2.ak m3
 obtain⟨h4,e4,v4,m4⟩:=v3.put (i:=0) rfl rfl (n:=21) r.len.1 r3.len.1 r3.len.2
 have r4:=r3.sx m4 (hG.no v4 (i:=0) rfl)
 rw[e4]
 exact K1 hG hl (by omega) v4 rfl rfl rfl rfl r4 he (rq.ak v4.m) hL _ L [] n k rfl (by omega) (by simp) hk (uQ _) hnd
theorem acB(r:cS G h s l p v)(hG:Old G h)(hl:l.length<=400000)(hw:iI (aa l p.k)=false)(hsz:(aa l p.k).size<90000)(hx:(eM (aa l p.k)).2=true)(he:aa l (p.k+1)=nl){n:Nat}(hn:90100<=n):
  cg (ca n lU [.agg v] h) (U6 G h s l (Jz p (p.k+2)) [.agg (xQ (xO (eM (aa l p.k)).1))]):=by
 obtain⟨n,rfl⟩:∃j,n=j+1:=⟨n - 1,by omega⟩
 rw[Et]
 refine tF λi j h2 v2=>?_
 refine v2.aD (i:=2) (by decide) rfl λic h3 v3 m3 _=>?_
 rw[v3.all (i:=0) rfl rfl r.len.1]
 refine(GR (r.ak v3.m) (λb hb=>Ep (hG b hb) v3.m.next) hl hw (by omega)).bind ?_
 rintro _ h4 ⟨m4,v',rfl,r4⟩
 simp only[ay,eV,dx,cu,aE]
 have v4:=v3.ak m4
 obtain⟨h5,e5,v5,m5⟩:=v4.put (i:=0) rfl rfl (n:=21) r.len.1 r4.len.1 r4.len.2
 have r5:=r4.sx m5 (hG.no v5 (i:=0) rfl)
 rw[e5]
 refine(aaZ hsz (by omega) h5).bind ?_
 rintro _ h6 ⟨m6,rfl⟩
 simp only[QZ,ay,eV,fV,aE]
 have v6:=v5.ak m6
 refine v6.aD (i:=3) (by decide) rfl λid h7 v7 m7 _=>?_
 have hlen:(vX (eM (aa l p.k)).1).length=6:=by simpa using Gd (aa l p.k)
 obtain⟨h8,e8,v8,m8⟩:=v7.put (i:=3) rfl rfl (n:=6) rfl hlen (JK _)
 have r8:=((r5.ak m6).ak m7).sx m8 (hG.no v8 (i:=3) rfl)
 rw[e8,hx,Bool.not_true,br,Bl]
 simp only[ai]
 rw[v8.all (i:=0) rfl rfl r8.len.1]
 refine(Ds r8 hl (w:=nl) he (by decide) (by omega)).bind ?_
 rintro _ h9 ⟨m9,v'',rfl,r9⟩
 simp only[bG]
 have v9:=v8.ak m9
 rw[ax m9,oU,v9.all (i:=3) (w:=vX (eM (aa l p.k)).1) rfl rfl hlen]
 obtain⟨h10,e10,v10,m10⟩:=v9.put (i:=1) rfl rfl (n:=21) rfl r9.len.1 r9.len.2
 have r10:=r9.sx m10 (hG.no v10 (i:=1) rfl)
 have hjd:id≠j:=λh=>by
  have:=v9.ow.inj 3 1 id rfl (by rw[h];rfl)
  cases this
 rw[e10,show kj (some (id,0))=some id from rfl,zS (m10.get id (v9.ow.lt 3 id rfl) (by simpa using hjd))]
 obtain⟨h11,e11,v11,m11⟩:=v10.put (i:=2) rfl rfl (n:=6) rfl hlen (JK _)
 have r11:=r10.sx m11 (hG.no v11 (i:=2) rfl)
 rw[e11,v11.all (i:=1) (w:=v'') rfl rfl r9.len.1,v11.all (i:=2) (w:=vX (eM (aa l p.k)).1) rfl rfl hlen]
 exact .pure ⟨v11.m,_,by rw[Tq (Gd _)],r11⟩
theorem acw(r:cS G h s l p v)(hG:Old G h)(hl:l.length<=400000)(hw:iI (aa l p.k)=false)(hsz:(aa l p.k).size<90000)(hx:(eM (aa l p.k)).2=true)(he:aa l (p.k+1)=nl){n:Nat}(hn:90101<=n):
  cg (ca n oQ [.agg v] h) (U6 G h s l (Jz p (p.k+2)) [.agg (xQ (xO (eM (aa l p.k)).1))]):=by
 obtain⟨n,rfl⟩:∃j,n=j+1:=⟨n - 1,by omega⟩
 rw[Cg]
 refine tF λi j h2 v2=>?_
 refine v2.aD (i:=2) (by decide) rfl λic h3 v3 m3 _=>?_
 rw[v3.all (i:=0) rfl rfl r.len.1]
 refine(acB (r.ak v3.m) (λb hb=>Ep (hG b hb) v3.m.next) hl hw hsz hx he (by omega)).bind ?_
 rintro _ h4 ⟨m4,v',rfl,r4⟩
 simp only[ay,eV,aE]
 have v4:=v3.ak m4
 obtain⟨h5,e5,v5,m5⟩:=v4.put (i:=1) rfl rfl (n:=21) rfl r4.len.1 r4.len.2
 have r5:=r4.sx m5 (hG.no v5 (i:=1) rfl)
 obtain⟨h6,e6,v6,m6⟩:=v5.put (i:=2) rfl rfl (n:=6) rfl (w':=xQ (xO (eM (aa l p.k)).1)) rfl rfl
 have r6:=r5.sx m6 (hG.no v6 (i:=2) rfl)
 rw[e5,e6,v6.all (i:=1) (w:=v') rfl rfl r4.len.1,v6.all (i:=2) (n:=6) (w:=xQ (xO (eM (aa l p.k)).1)) rfl rfl rfl]
 exact .pure ⟨v6.m,_,rfl,r6⟩
end
def Nw(G:Nat->Prop)(h:H)(b:Nat):Prop:=G b∨h.next<=b
def Ib(p:Ps)(x:Bs×Int×Bool):Ps:={p with ag:=p.ag++[x]}
section
variable {G:Nat->Prop}{s:Bs}{l:List Wd}{p:Ps}{v:List AV}{h:H}
theorem cS.ag(r:cS G h s l p v):∃sp sc,v[18]?=some (.slice sp p.ag.length sc)/\fG G h 3 sp p.ag.length sc (p.ag.flatMap uk):=by
 obtain⟨wp,wc,vp,vc,tp,tc,gp,gc,sp,sc,fm,rfl,_,_,_,_,_,_,h7⟩:=r
 exact⟨sp,sc,rfl,h7⟩
theorem cS.aih{G':Nat->Prop}(r:cS G h s l p v)(hG:∀b,G b->G' b){x:Bs×Int×Bool}{sp:Pt}{sc:aM}(row:fG G' h 3 sp (p.ag.length+1) sc (p.ag.flatMap uk++uk x)):cS G' h s l (Ib p x) (v.set 18 (.slice sp (p.ag.length+1) sc)):=by
 obtain⟨wp,wc,vp,vc,tp,tc,gp,gc,sp0,sc0,fm,rfl,h1,h2,h3,h4,h5,h6,h7⟩:=r
 have hlen:p.ag.length+1=(Ib p x).ag.length:=by simp[Ib]
 refine⟨wp,wc,vp,vc,tp,tc,gp,gc,sp,sc,fm,?_,h1.more hG,h2.more hG,h3.more hG,h4.more hG,h5,λx hx=>(h6 x hx).more hG,?_⟩
 ·rw[<-hlen];rfl
 ·rw[<-hlen]
  unfold Ib
  rw[List.flatMap_append,List.flatMap_singleton]
  exact row
theorem Xp(xs:List (Bs×Int×Bool)):(xs.flatMap uk).all cT=true:=by
 simp[List.all_flatMap,uk,cT]
theorem Ix(hG:Old G h)(hl:l.length<=400000){n:Nat}(hn:10<=n){i j:Nat}{h1:H}{v':List AV}{f:Nat->Option Nat}{c:Nat->List AV}(v1:LV h h1 f c)(dr:f 0=some i)(jD:f 1=some j)(hc0:c 0=v')(uo:(c 1).length=21)(r1:cS G h1 s l p v')(he:aa l p.k=nl)(hsp:p.ag.length<=400000){xE:Bool}{q:Pt}{cq:aM}{L:List Bs}(rq:Row h1 1 q L.length cq (L.map .str))(hL:L.length<=80100){a:Bs}(ha:a∉L)(at':Int):
  ∀(rest pre:List Bs) (m:Nat),L=pre++rest->rest.length<m->cg (fN n m xE q L.length cq (some (i,0)) (some (j,0)) at' a (pre.length:Nat) h1) (U6 (Nw G h) h s l (Ib (Jz p (p.k+1)) (a,at',xE)) [.str a])
 | y::rest,pre,m+1,e,hm=>by
  have hlt:pre.length<L.length:=by rw[e];simp
  have hy:L[pre.length]?=some y:=by rw[e];simp
  rw[qS,cL hlt,bM,rq.Mh hy,az,od (λh=>ha (by rw[<-h];exact Hq hy)),br,aG (by omega)]
  have:=Ix hG hl hn v1 dr jD hc0 uo r1 he hsp (xE:=xE) rq hL ha at' rest (pre++[y]) m (by rw[e];simp) (by simp at hm;omega)
  rw[hU,Lf]at this
  exact this
 | [],pre,m+1,e,_=>by
  have NR:pre.length=L.length:=by rw[e,List.append_nil]
  rw[qS,aT (by omega),br]
  rw[aL]
  have m2:Mod [] h1 (h1.new (.cells [] false)):=(Mod.refl _ _).new _
  have a2:At (h1.new (.cells [] false)) h1.next (.cells [] false):=.new _ _
  have n2:h1.next<(h1.new (.cells [] false)).next:=Nat.lt_succ_self _
  generalize h1.new (.cells [] false)=h2 at m2 a2 n2 ⊢
  generalize hib:h1.next=ib at a2 n2 ⊢
  have v2:=v1.ak m2
  have r2:=r1.ak m2
  simp only[ai,Nat.zero_add]
  obtain⟨sp,sc,hsc,row⟩:=r2.ag
  rw[v2.cell (i:=0) dr hc0 hsc,ah]
  have hbase:h.next<=h1.next:=v1.m.next
  have hix:=v1.ow.lt 0 i dr
  have hjx:=v1.ow.lt 1 j jD
  refine VH (h:=h1) row.row (Xp _) (by omega) (by omega) (λhz=>by rw[List.length_eq_zero_iff.1 hz];rfl) a2 (by omega) (by omega) λp3 c3 h3 g3 m3=>?_
  have m13:Mod [] h1 h3:=m2.trans' m3 λx hx hl=>by obtain rfl:=List.mem_singleton.1 hx;omega
  simp only[aL]
  refine g3.push m13.next (xs:=uk (a,at',xE)) rfl rfl (by decide) (by omega) (by omega) λp4 c4 h4 g4 m4=>?_
  have m14:Mod [] h1 h4:=m13.trans' m4 λx hx hl=>by have:=(g3.iy x hx).1;omega
  have v4:=v1.ak m14
  obtain⟨h5,e5,v5,m5⟩:=v4.wG (i:=0) (p:=18) (y:=.slice p4 (p.ag.length+1) c4) dr hc0 (by rw[r1.len.1];decide) rfl
  have aeO:fG (Nw G h1) h5 3 p4 (p.ag.length+1) c4 (p.ag.flatMap uk++uk (a,at',xE)):=⟨g4.row.mod m5 λb hb hm=>by
   obtain rfl:=List.mem_singleton.1 hm
   have:=(g4.iy _ hb).1;omega,λb hb=>.inr (g4.iy b hb).1⟩
  have r5:=((r1.ak m14).sx m5 (hG.no v5 (i:=0) dr)).aih (λb hb=>.inl hb) aeO
  rw[e5,v5.all (i:=0) dr (aF c 0 _) r5.len.1]
  refine(Ds r5 hl (w:=nl) he (by decide) (by omega)).bind ?_
  rintro _ h6 ⟨m6,v6',rfl,r6⟩
  simp only[bG]
  have v6:=v5.ak m6
  obtain⟨h7,e7,v7,m7⟩:=v6.put (i:=1) jD rfl (n:=21) uo r6.len.1 r6.len.2
  rw[e7,v7.all (i:=1) jD (aF _ 1 v6') r6.len.1]
  refine .pure ⟨v7.m,_,rfl,(r6.sx m7 ?_).more λb hb=>hb.elim .inl λh=>.inr (qb v1.m.next h)⟩
  rintro (hg | hg)
  ·exact hG.no v7 (i:=1) jD hg
  ·omega
theorem Ga(r:cS G h s l p v)(hG:Old G h)(hl:l.length<=400000)(hw:iI (aa l p.k)=false)(hsz:(aa l p.k).size<90000)(hx:(eL (aa l p.k)).2=true)(he:aa l (p.k+1)=nl)(hsp:p.ag.length<=400000){xE:Bool}{q:Pt}{cq:aM}{L:List Bs}(rq:Row h 1 q L.length cq (L.map .str))(hL:L.length<=80100)(ha:(eL (aa l p.k)).1∉L){n:Nat}(hn:90100<=n):
  cg (ca n eN [.agg v,.bool xE,.slice q L.length cq] h) (U6 (Nw G h) h s l (Ib (Jz p (p.k+2)) ((eL (aa l p.k)).1,bA s l p.k,xE)) [.str (eL (aa l p.k)).1]):=by
 obtain⟨n,rfl⟩:∃j,n=j+1:=⟨n - 1,by omega⟩
 rw[Bi]
 refine tF λi j h2 v2=>?_
 rw[v2.all (i:=0) rfl rfl r.len.1]
 refine(GR (r.ak v2.m) (λb hb=>Ep (hG b hb) v2.m.next) hl hw (by omega)).bind ?_
 rintro _ h3 ⟨m3,v',rfl,r3⟩
 simp only[ay,eV,dx,cu,aE]
 have v3:=v2.ak m3
 obtain⟨h4,e4,v4,m4⟩:=v3.put (i:=0) rfl rfl (n:=21) r.len.1 r3.len.1 r3.len.2
 have r4:=r3.sx m4 (hG.no v4 (i:=0) rfl)
 rw[e4]
 refine(RW hsz (by omega) h4).bind ?_
 rintro _ h5 ⟨m5,rfl⟩
 rw[<-abZ]
 simp only[IP,ay,dx,fV,aE]
 have v5:=v4.ak m5
 rw[hx,Bool.not_true,br,yN]
 exact Ix hG hl (by omega) v5 rfl rfl rfl rfl (r4.ak m5) he hsp (rq.ak v5.m) hL ha _ L [] n rfl (by omega)
theorem KU(r:cS G h s l p v)(hG:Old G h)(hl:l.length<=400000)(hw:iI (aa l p.k)=false)(hsz:(aa l p.k).size<90000)(hx:(eL (aa l p.k)).2=true)(he:aa l (p.k+1)=nl)(hsp:p.ag.length<=400000){n:Nat}(hn:90101<=n):
  cg (ca n iA [.agg v] h) (U6 (Nw G h) h s l (Ib (Jz p (p.k+2)) ((eL (aa l p.k)).1,bA s l p.k,false)) [.str (eL (aa l p.k)).1]):=by
 obtain⟨n,rfl⟩:∃j,n=j+1:=⟨n - 1,by omega⟩
 rw[zK]
 refine tF λi j h2 v2=>?_
 rw[v2.all (i:=0) rfl rfl r.len.1]
 refine(Ga (L:=[]) (r.ak v2.m) (λb hb=>Ep (hG b hb) v2.m.next) hl hw hsz hx he hsp (q:=none) (cq:=.known 0) .nil (by decide) (by simp) (by omega)).bind ?_
 rintro _ h3 ⟨m3,v',rfl,r3⟩
 simp only[ay,eV,dx,aE]
 have v3:=v2.ak m3
 obtain⟨h4,e4,v4,m4⟩:=v3.put (i:=1) rfl rfl (n:=21) rfl r3.len.1 r3.len.2
 rw[e4,v4.all (i:=1) (w:=v') rfl rfl r3.len.1]
 refine .pure ⟨v4.m,_,rfl,(r3.sx m4 ?_).more λb hb=>hb.elim .inl λh=>.inr (qb v2.m.next h)⟩
 rintro (hg | hg)
 ·exact hG.no v4 (i:=1) rfl hg
 ·have:=v2.ow.lt 1 j rfl
  omega
theorem P8(hG:Old G h){n:Nat}{i j:Nat}{h1:H}{v':List AV}{f:Nat->Option Nat}{c:Nat->List AV}(v1:LV h h1 f c)(dr:f 0=some i)(jD:f 1=some j)(hc0:c 0=v')(uo:(c 1).length=21)(r1:cS G h1 s l p v'){q:Pt}{cq:aM}{L:List Bs}(rq:Row h1 1 q L.length cq (L.map .str))(hL:L.length<=80100){a:Bs}(ha:a∉L)(at':Int):
  ∀(rest pre:List Bs) (m:Nat),L=pre++rest->rest.length<m->cg (iG n m q L.length cq (some (i,0)) (some (j,0)) a at' (pre.length:Nat) h1) (U6 G h s l p [.str a])
 | y::rest,pre,m+1,e,hm=>by
  have hlt:pre.length<L.length:=by rw[e];simp
  have hy:L[pre.length]?=some y:=by rw[e];simp
  rw[tC,cL hlt,bM,rq.Mh hy,az,od (λh=>ha (by rw[<-h];exact Hq hy)),br,aG (by omega)]
  have:=P8 (n:=n) hG v1 dr jD hc0 uo r1 rq hL ha at' rest (pre++[y]) m (by rw[e];simp) (by simp at hm;omega)
  rw[hU,Lf]at this
  exact this
 | [],pre,m+1,e,_=>by
  have NR:pre.length=L.length:=by rw[e,List.append_nil]
  rw[tC,aT (by omega),br]
  simp only[ai]
  rw[v1.all (i:=0) dr hc0 r1.len.1]
  obtain⟨h2,e2,v2,m2⟩:=v1.put (i:=1) jD rfl (n:=21) uo r1.len.1 r1.len.2
  rw[e2,v2.all (i:=1) jD (aF _ 1 v') r1.len.1]
  exact .pure ⟨v2.m,_,rfl,r1.sx m2 (hG.no v2 (i:=1) jD)⟩
theorem WT(r:cS G h s l p v)(hG:Old G h)(hl:l.length<=400000)(hw:iI (aa l p.k)=false)(It:(aa l p.k).size<=40){q:Pt}{cq:aM}{L:List Bs}(rq:Row h 1 q L.length cq (L.map .str))(hL:L.length<=80100)(ha:aa l p.k∉L){n:Nat}(hn:80210<=n):
  cg (ca n jk [.agg v,.slice q L.length cq] h) (U6 G h s l (Jz p (p.k+1)) [.str (aa l p.k)]):=by
 obtain⟨n,rfl⟩:∃j,n=j+1:=⟨n - 1,by omega⟩
 rw[Ew]
 refine tF λi j h2 v2=>?_
 rw[v2.all (i:=0) rfl rfl r.len.1]
 refine(GR (r.ak v2.m) (λb hb=>Ep (hG b hb) v2.m.next) hl hw (by omega)).bind ?_
 rintro _ h3 ⟨m3,v',rfl,r3⟩
 simp only[ay,eV,dx,cu,aE]
 have v3:=v2.ak m3
 obtain⟨h4,e4,v4,m4⟩:=v3.put (i:=0) rfl rfl (n:=21) r.len.1 r3.len.1 r3.len.2
 have r4:=r3.sx m4 (hG.no v4 (i:=0) rfl)
 rw[e4,show decide (((aa l p.k).size:Int)>40)=false by simp;omega,br,Bo]
 exact P8 (n:=n) hG v4 rfl rfl rfl rfl r4 (rq.ak v4.m) hL ha _ L [] n rfl (by omega)
end
def cn(L:List Bs)(w:Bs):Nat:=L.countP λx=>decide (x=w)
theorem acF(a b:List Bs)(w:Bs):cn (a++b) w=cn a w+cn b w:=List.countP_append
theorem aqE(L:List Bs)(w:Bs):cn L w<=L.length:=List.countP_le_length
theorem acG(y w:Bs):cn [y] w=if y=w then 1 else 0:=by
 unfold cn
 by_cases h:y=w<;>simp[h]
def Mt(met:List Bs)(M:List (Bs×Int)):Prop:=∀w,cnt M w=(cn met w:Nat)
theorem Mt.nil:Mt [] []:=λ_=>rfl
theorem Mt.push{met:List Bs}{M:List (Bs×Int)}(m:Mt met M)(w:Bs):Mt (met++[w]) (pt M w (cnt M w+1)):=λx=>by
 rw[aB,acF,acG]
 by_cases h:x=w
 ·rw[if_pos h,if_pos h.symm,m w,h];push_cast;rfl
 ·rw[if_neg h,if_neg λe=>h e.symm,m x];rfl
theorem toList_eq(a:Bs):(a.toList==a.toList)=true:=by simp
section
variable {h:H}{n:Nat}{q:Pt}{cq:aM}{met:List Bs}
theorem Ni(rq:Row h 1 q met.length cq (met.map .str))(hl:met.length<=80100)(w:Bs):∀(rest pre:List Bs) (m:Nat),met=pre++rest->rest.length<m->gY n m q met.length cq w (cn pre w:Nat) (pre.length:Nat) h=some (.int .i64 (cn met w:Nat),h)
 | [],pre,m+1,e,_=>by
  have NR:pre.length=met.length:=by rw[e,List.append_nil]
  rw[sM,aT (by omega),br,e,List.append_nil]
 | y::rest,pre,m+1,e,hm=>by
  have hlt:pre.length<met.length:=by rw[e];simp
  have hy:met[pre.length]?=some y:=by rw[e];simp
  have hc:=aqE pre w
  have ih:=Ni rq hl w rest (pre++[y]) m (by rw[e];simp) (by simp at hm;omega)
  rw[hU,Lf,acF,acG]at ih
  rw[sM,cL hlt,bM,rq.Mh hy,az,aG (by omega),aG (by omega)]
  by_cases h:y=w
  ·subst h
   rw[if_pos rfl]at ih
   rw[toList_eq,bM]
   exact ih
  ·rw[if_neg h]at ih
   rw[od h,br]
   exact ih
theorem Ma(rq:Row h 1 q met.length cq (met.map .str))(hl:met.length<=80100)(w:Bs)(hn:80210<=n):ca n fF [.slice q met.length cq,.str w] h=some (.int .i64 (cn met w:Nat),h):=by
 obtain⟨n,rfl⟩:∃j,n=j+1:=⟨n - 1,by omega⟩
 rw[DD]
 exact Ni rq hl w met [] n rfl (by omega)
end
section
variable {G:Nat->Prop}{s:Bs}{l:List Wd}{p:Ps}{v:List AV}{h:H}
theorem T8(hG:Old G h)(hl:l.length<=400000){n:Nat}(hn:80220<=n){i j:Nat}{h1:H}{v':List AV}{f:Nat->Option Nat}{c:Nat->List AV}(v1:LV h h1 f c)(dr:f 0=some i)(jD:f 1=some j)(hc0:c 0=v')(uo:(c 1).length=21)(r1:cS G h1 s l p v')(hk:p.k<l.length)
  {q qm qt:Pt} {cq cm ct:aM} {K met:List Bs} {Ms:List Int} (rq:Row h1 1 q K.length cq (K.map .str)) (rm:Row h1 1 qm K.length cm (Ms.map λx=>.int .i64 x)) (rt:Row h1 1 qt met.length ct (met.map .str)) (hK:K.length<=100) (Jb:met.length<=80100) {w:Bs} {y:Int}:
  ∀(rest pre:List Bs) (m k:Nat),K=pre++rest->rest.length<m->w∉pre->K[k]?=some w->pre.length<=k->K.Nodup->Ms[k]?=some y->(cn met w:Int)<y->cg (mo n m q K.length cq qm K.length cm qt met.length ct (some (i,0)) (some (j,0)) w (pre.length:Nat) h1) (U6 G h s l (Jz p (p.k+1)) [.str w])
 | [],pre,m,k,e,_,hp,hk',_,_,_,_=>by
  rw[e,List.append_nil]at hk'
  exact absurd (Hq hk') hp
 | x::rest,pre,m+1,k,e,hm,hp,hk',hle,hnd,hy,hlt'=>by
  have hlt:pre.length<K.length:=by rw[e];simp
  have hx:K[pre.length]?=some x:=by rw[e];simp
  rw[Cj,cL hlt,bM,rq.Mh hx,az]
  by_cases hxw:x=w
  ·subst hxw
   have hkp:k=pre.length:=(List.getElem?_inj (sS hk').1 hnd).1 (hk'.trans hx.symm)
   subst hkp
   rw[toList_eq,bM,Ma rt Jb x (by omega),fD]
   simp only[aj]
   rw[rm.Mh hy,aj,decide_eq_false (by omega),br,Ci,br,rm.Mh hy,aj,decide_eq_false (by omega),br]
   simp only[ai,Nat.zero_add]
   rw[v1.cell (i:=0) dr hc0 r1.atK,aj,aG (by omega)]
   obtain⟨h3,e3,v3,m3⟩:=v1.wG (i:=0) (p:=1) (y:=.int .i64 ((p.k+1:Nat):Int)) dr hc0 (by rw[r1.len.1];decide) rfl
   have r3:=(r1.aR (p.k+1)).sx m3 (hG.no v3 (i:=0) dr)
   rw[e3,v3.all (i:=0) dr (aF c 0 _) r3.len.1]
   obtain⟨h4,e4,v4,m4⟩:=v3.put (i:=1) jD rfl (n:=21) uo r3.len.1 r3.len.2
   rw[e4,v4.all (i:=1) jD (aF _ 1 _) r3.len.1]
   exact .pure ⟨v4.m,_,rfl,r3.sx m4 (hG.no v4 (i:=1) jD)⟩
  ·rw[od hxw,br,aG (by omega)]
   have:=T8 hG hl hn v1 dr jD hc0 uo r1 hk rq rm rt hK Jb rest (pre++[x]) m k (by rw[e];simp) (by simp at hm;omega) (by simp only[List.mem_append,List.mem_singleton,not_or];exact⟨hp,λh=>hxw h.symm⟩) hk' (by
    simp only[hU,Lf]
    have hne:k≠pre.length:=λh=>by
     rw[h,hx]at hk'
     exact hxw (oh hk')
    omega) hnd hy hlt'
   rw[hU,Lf]at this
   exact this
theorem T9(r:cS G h s l p v)(hG:Old G h)(hl:l.length<=400000){q qm qt:Pt}{cq cm ct:aM}{K met:List Bs}{Ms:List Int}(rq:Row h 1 q K.length cq (K.map .str))(rm:Row h 1 qm K.length cm (Ms.map λx=>.int .i64 x))(rt:Row h 1 qt met.length ct (met.map .str))(hK:K.length<=100)(Jb:met.length<=80100){y:Int}{k:Nat}
  (hne:aa l p.k≠⟨#[]⟩) (Lb:aa l p.k≠⟨#[125]⟩) (hk:K[k]?=some (aa l p.k)) (hnd:K.Nodup) (hy:Ms[k]?=some y) (hc:(cn met (aa l p.k):Int)<y) {n:Nat} (hn:80300<=n):
  cg (ca n eE [.agg v,.slice q K.length cq,.slice qm K.length cm,.slice qt met.length ct] h) (U6 G h s l (Jz p (p.k+1)) [.str (aa l p.k)]):=by
 obtain⟨n,rfl⟩:∃j,n=j+1+1:=⟨n - 2,by omega⟩
 rw[xw]
 refine tF λi j h2 v2=>?_
 rw[v2.all (i:=0) rfl rfl r.len.1]
 refine(R6 (r.ak v2.m) n).bind ?_
 rintro _ h3 ⟨m3,rfl⟩
 simp only[az]
 have v3:=v2.ak m3
 have r3:=r.ak v3.m
 rw[od Lb,br,v3.cell (i:=0) rfl rfl r.code,aj,show((0:Int) != 0)=false from rfl,uG,br]
 exact T8 hG hl (by omega) v3 rfl rfl rfl rfl r3 (kD hne) (rq.ak v3.m) (rm.ak v3.m) (rt.ak v3.m) hK Jb K [] _ k rfl (by omega) (by simp) hk (uQ _) hnd hy hc
theorem Mi(r:cS G h s l p v)(hG:Old G h){q qm qt:Pt}{cq cm ct:aM}{K met:List Bs}{lm:Nat}(he:aa l p.k=⟨#[125]⟩){n:Nat}(hn:10<=n):
  cg (ca n eE [.agg v,.slice q K.length cq,.slice qm lm cm,.slice qt met.length ct] h) (U6 G h s l p [.str ⟨#[]⟩]):=by
 obtain⟨n,rfl⟩:∃j,n=j+1+1:=⟨n - 2,by omega⟩
 rw[xw]
 refine tF λi j h2 v2=>?_
 rw[v2.all (i:=0) rfl rfl r.len.1]
 refine(R6 (r.ak v2.m) n).bind ?_
 rintro _ h3 ⟨m3,rfl⟩
 simp only[az]
 have v3:=v2.ak m3
 have r3:=r.ak v3.m
 rw[he,toList_eq,bM,uG,bM]
 simp only[ai]
 rw[v3.all (i:=0) (w:=v) rfl rfl r.len.1]
 obtain⟨h4,e4,v4,m4⟩:=v3.put (i:=1) rfl rfl (n:=21) rfl r.len.1 r.len.2
 rw[e4,v4.all (i:=1) rfl rfl r.len.1]
 exact .pure ⟨v4.m,_,rfl,r3.sx m4 (hG.no v4 (i:=1) rfl)⟩
theorem Qp(hG:Old G h)(hl:l.length<=400000){n:Nat}(hn:80220<=n){i j:Nat}{h1:H}{v':List AV}{f:Nat->Option Nat}{c:Nat->List AV}(v1:LV h h1 f c)(dr:f 0=some i)(jD:f 1=some j)(hc0:c 0=v')(uo:(c 1).length=21)(r1:cS G h1 s l p v')(agG:aa l p.k=⟨#[125]⟩)(he:aa l (p.k+1)=nl)
  {q qt:Pt} {cq ct:aM} {N met:List Bs} (rq:Row h1 1 q N.length cq (N.map .str)) (rt:Row h1 1 qt met.length ct (met.map .str)) (hN:N.length<=100) (Jb:met.length<=80100) (hall:∀w∈N,cn met w≠0):
  ∀(rest pre:List Bs) (m:Nat),N=pre++rest->rest.length<m->cg (iH n m q N.length cq qt met.length ct (some (i,0)) (some (j,0)) (pre.length:Nat) h1) (Zh G h s l (Jz p (p.k+2)))
 | x::rest,pre,m+1,e,hm=>by
  have hlt:pre.length<N.length:=by rw[e];simp
  have hx:N[pre.length]?=some x:=by rw[e];simp
  have hx0:=hall x (Hq hx)
  rw[tD,cL hlt,bM]
  simp only[ai,Nat.zero_add]
  rw[v1.cell (i:=0) dr hc0 r1.code,aj,show((0:Int)==0)=true from rfl,bM,rq.Mh hx,az,Ma rt Jb x (by omega),fD]
  simp only[aj]
  rw[show(((cn met x:Nat):Int)==0)=false by simpa using hx0,Br,br,aG (by omega)]
  have:=Qp hG hl hn v1 dr jD hc0 uo r1 agG he rq rt hN Jb hall rest (pre++[x]) m (by rw[e];simp) (by simp at hm;omega)
  rw[hU,Lf]at this
  exact this
 | [],pre,m+1,e,_=>by
  have NR:pre.length=N.length:=by rw[e,List.append_nil]
  rw[tD,aT (by omega),br]
  simp only[ai]
  rw[v1.all (i:=0) dr hc0 r1.len.1]
  refine(Ds r1 hl agG (by decide) (by omega)).bind ?_
  rintro _ h3 ⟨m3,w3,rfl,r3⟩
  simp only[bG]
  refine(Ds r3 hl he (by decide) (by omega)).bind ?_
  rintro _ h4 ⟨m4,w4,rfl,r4⟩
  simp only[bG]
  have v4:=(v1.ak m3).ak m4
  obtain⟨h5,e5,v5,m5⟩:=v4.put (i:=1) jD rfl (n:=21) uo r4.len.1 r4.len.2
  rw[e5,v5.all (i:=1) jD (aF _ 1 _) r4.len.1]
  exact .pure ⟨v5.m,_,rfl,r4.sx m5 (hG.no v5 (i:=1) jD)⟩
theorem R3(r:cS G h s l p v)(hG:Old G h)(hl:l.length<=400000)(agG:aa l p.k=⟨#[125]⟩)(he:aa l (p.k+1)=nl){q qt:Pt}{cq ct:aM}{N met:List Bs}(rq:Row h 1 q N.length cq (N.map .str))(rt:Row h 1 qt met.length ct (met.map .str))(hN:N.length<=100)(Jb:met.length<=80100)(hall:∀w∈N,cn met w≠0){n:Nat}(hn:80300<=n):
  cg (ca n gy [.agg v,.slice q N.length cq,.slice qt met.length ct] h) (Zh G h s l (Jz p (p.k+2))):=by
 obtain⟨n,rfl⟩:∃j,n=j+1:=⟨n - 1,by omega⟩
 rw[Ey]
 refine tF λi j h2 v2=>?_
 exact Qp hG hl (by omega) v2 rfl rfl rfl rfl (r.ak v2.m) agG he (rq.ak v2.m) (rt.ak v2.m) hN Jb hall N [] _ rfl (by omega)
end
def Fb(a:H)(G:Nat->Prop)(f:Nat->Option Nat)(h:H)(b:Nat):Prop:=(G b∨a.next<=b)/\(∀i,f i≠some b)/\b<h.next
theorem fG.lt{G:Nat->Prop}{h:H}{size len:Nat}{p:Pt}{c:aM}{vs:List AV}(r:fG G h size p len c vs):fG (λb=>G b/\b<h.next) h size p len c vs:=⟨r.row,λb hb=>⟨r.own b hb,r.row.lt b hb⟩⟩
section
variable {G:Nat->Prop}{s:Bs}{l:List Wd}{p:Ps}{v:List AV}{a h h':H}{f:Nat->Option Nat}{c:Nat->List AV}
theorem cS.lt(r:cS G h s l p v):cS (λb=>G b/\b<h.next) h s l p v:=by
 obtain⟨wp,wc,vp,vc,tp,tc,gp,gc,sp,sc,fm,e,h1,h2,h3,h4,h5,h6,h7⟩:=r
 exact⟨wp,wc,vp,vc,tp,tc,gp,gc,sp,sc,fm,e,h1.lt,h2.lt,h3.lt,h4.lt,h5,λx hx=>(h6 x hx).lt,h7.lt⟩
theorem Fb.old:Old (Fb a G f h) h:=λ_ hb=>hb.2.2
theorem cS.enter(r:cS G h s l p v)(hG:Old G a)(w:LV a h f c):cS (Fb a G f h) h s l p v:=r.more λb hb=>⟨.inl hb,λi hi=>by have:=w.ow.ge i b hi;have:=hG b hb;omega,Ep (hG b hb) w.m.next⟩
theorem cS.step0(r:cS (Fb a G f h) h s l p v)(m:Mod [] h h'):cS (Fb a G f h') h' s l p v:=(r.ak m).more λb hb=>⟨hb.1,hb.2.1,Ep hb.2.2 m.next⟩
theorem cS.aV(r:cS (Fb a G f h) h s l p v){i x:Nat}(hf:f i=some x)(m:Mod [x] h h'):cS (Fb a G f h') h' s l p v:=(r.sx m λhx=>hx.2.1 i hf).more λb hb=>⟨hb.1,hb.2.1,Ep hb.2.2 m.next⟩
theorem cS.call(w:LV a h f c)(m:Mod [] h h')(r:cS (Nw (Fb a G f h) h) h' s l p v):cS (Fb a G f h') h' s l p v:=r.lt.more λb hb=>by
 obtain⟨h1 | h1,h2⟩:=hb
 ·exact⟨h1.1,h1.2.1,h2⟩
 ·exact⟨.inr (qb w.m.next h1),λi hi=>by have:=w.ow.lt i b hi;omega,h2⟩
theorem cS.ia(w:LV a h f c)(m:Mod [] h h')(r:cS (Fb a G f h) h' s l p v):cS (Fb a G f h') h' s l p v:=cS.call w m (r.more λ_ hb=>.inl hb)
theorem cS.leave(r:cS (Fb a G f h) h s l p v):cS (Nw G a) h s l p v:=r.more λ_ hb=>hb.1
theorem wS{α:Type}{n:Nat}{z x:List AV}(hz:z.length=n)(hx:x.length=n)(hc:x.all cT=true){K:List AV->H->Option (α×H)}{Q:α->H->Prop}(k:∀h',Mod [] h h'->cg (K x h') Q):cg (aD (.cells z false) h λi h1=>bK h1 i 0 n x λh2=>aI h2 i 0 n λl=>K l h2) Q:=by
 refine(LV.nil h).aD (i:=0) (by decide) rfl λi h1 v1 _ _=>?_
 obtain⟨h2,e2,v2,m2⟩:=v1.put (i:=0) rfl rfl hz hx hc
 rw[e2,v2.all (i:=0) rfl rfl hx]
 exact k h2 v2.m
end
section
variable {s:Bs}{l:List Wd}{st:St}
theorem WS{w:Bs}{p:Ps}(h:(dS s l w p).2=true):aa l p.k=w/\(dS s l w p).1={p with k:=p.k+1}:=by
 refine⟨?_,Jo h⟩
 unfold dS at h
 split at h
 ·assumption
 ·cases h
theorem aqI(h:(k8 s l st).2=true):aa l st.p.k=nl/\(k8 s l st).1=aR st (st.p.k+1):=by
 unfold k8 at h ⊢
 obtain⟨h1,h2⟩:=WS h
 exact⟨h1,by rw[h2];rfl⟩
theorem HK{k:Nat}(hk:st.p.k=k)(h:(k8 s l st).2=true):aa l k=nl/\(k8 s l st).1=aR st (k+1):=by
 subst hk
 exact aqI h
theorem vz{put:St->Int->St}(hp:∀st v,(put st v).p.k=st.p.k){lo hi:Int}(h:(bC s l put lo hi st).2=true):iI (aa l st.p.k)=false/\aa l (st.p.k+1)=nl/\∃x,cl (bs (aa l st.p.k))=(x,true)/\lo<=x/\x<=hi/\(bC s l put lo hi st).1=aR (put (aR st (st.p.k+1)) x) (st.p.k+2):=by
 unfold bC at h ⊢
 rcases jz (s:=s) (l:=l) (p:=st.p)with⟨p',w,a,e⟩ | ⟨e,hs⟩
 ·rw[e]at h;cases h
 ·rw[e]at h ⊢
  unfold yL at h ⊢
  simp only at h ⊢
  split
  ·next hc=>
   rw[if_pos hc]at h
   obtain⟨h1,h2⟩:=HK (k:=st.p.k+1) (by rw[hp];rfl) h
   exact⟨hs,h1,_,Prod.ext rfl hc.1,hc.2.1,hc.2.2,h2⟩
  ·next hc=>rw[if_neg hc]at h;cases h
theorem IF{put:St->Int->St}(hp:∀st v,(put st v).p.k=st.p.k){L:List (Bs×Int)}(h:(cM s l put L st).2=true):iI (aa l st.p.k)=false/\aa l (st.p.k+1)=nl/\∃x,lk L (aa l st.p.k)=some x/\(cM s l put L st).1=aR (put (aR st (st.p.k+1)) x) (st.p.k+2):=by
 unfold cM at h ⊢
 rcases jz (s:=s) (l:=l) (p:=st.p)with⟨p',w,a,e⟩ | ⟨e,hs⟩
 ·rw[e]at h;cases h
 ·rw[e]at h ⊢
  unfold wP at h ⊢
  simp only at h ⊢
  cases hl:lk L (aa l st.p.k)with
  | none=>rw[hl]at h;cases h
  | some v=>
   rw[hl]at h
   obtain⟨h1,h2⟩:=HK (k:=st.p.k+1) (by rw[hp];rfl) h
   exact⟨hs,h1,v,rfl,h2⟩
theorem acC{put:St->Cd->St}(hp:∀st v,(put st v).p.k=st.p.k)(h:(nF s l put st).2=true):iI (aa l st.p.k)=false/\aa l (st.p.k+1)=nl/\(eM (aa l st.p.k)).2=true/\(nF s l put st).1=aR (put (aR st (st.p.k+1)) (xO (eM (aa l st.p.k)).1)) (st.p.k+2):=by
 unfold nF at h ⊢
 rcases jz (s:=s) (l:=l) (p:=st.p)with⟨p',w,a,e⟩ | ⟨e,hs⟩
 ·rw[e]at h;cases h
 ·rw[e]at h ⊢
  unfold ID at h ⊢
  simp only at h ⊢
  split
  ·next hc=>
   rw[if_pos hc]at h
   obtain⟨h1,h2⟩:=HK (k:=st.p.k+1) (by rw[hp];rfl) h
   exact⟨hs,h1,hc,h2⟩
  ·next hc=>rw[if_neg hc]at h;cases h
theorem Gb{put:St->Bs->St}(hp:∀st v,(put st v).p.k=st.p.k){xE:Bool}(h:(bt s l xE (j8 put) st).2=true):iI (aa l st.p.k)=false/\aa l (st.p.k+1)=nl/\(eL (aa l st.p.k)).2=true/\(bt s l xE (j8 put) st).1=aR (put (aeX (aR st (st.p.k+1)) ((eL (aa l st.p.k)).1,bA s l st.p.k,xE)) (eL (aa l st.p.k)).1) (st.p.k+2):=by
 unfold bt at h ⊢
 rcases jz (s:=s) (l:=l) (p:=st.p)with⟨p',w,a,e⟩ | ⟨e,hs⟩
 ·rw[e]at h;cases h
 ·rw[e]at h ⊢
  unfold pJ at h ⊢
  simp only at h ⊢
  split
  ·next hc=>
   rw[if_pos hc]at h
   unfold pE j8 at h ⊢
   simp only[if_true]at h ⊢
   obtain⟨h1,h2⟩:=HK (k:=st.p.k+1) (by rw[hp];rfl) h
   exact⟨hs,h1,hc,h2⟩
  ·next hc=>rw[if_neg hc]at h;cases h
theorem atH(h:(bt s l false zY st).2=true):iI (aa l st.p.k)=false/\aa l (st.p.k+1)=nl/\(eL (aa l st.p.k)).2=true/\(eL (aa l st.p.k)).1∉st.p.au/\(bt s l false zY st).1=aA st {st.p with k:=st.p.k+2,ag:=st.p.ag++[((eL (aa l st.p.k)).1,bA s l st.p.k,false)],au:=st.p.au++[(eL (aa l st.p.k)).1]}:=by
 unfold bt at h ⊢
 rcases jz (s:=s) (l:=l) (p:=st.p)with⟨p',w,a,e⟩ | ⟨e,hs⟩
 ·rw[e]at h;cases h
 ·rw[e]at h ⊢
  unfold pJ at h ⊢
  simp only at h ⊢
  split
  ·next hc=>
   rw[if_pos hc]at h
   unfold pE zY at h ⊢
   cases hm:uO (eL (aa l st.p.k)).1 (aA st {st.p with k:=st.p.k+1,ag:=st.p.ag++[((eL (aa l st.p.k)).1,bA s l st.p.k,false)]}).p.au with
   | true=>rw[hm]at h;cases h
   | false=>
    rw[hm]at h
    simp only[Bool.false_eq_true,if_false,if_true]at h ⊢
    obtain⟨h1,h2⟩:=HK (k:=st.p.k+1) rfl h
    refine⟨hs,h1,hc,λhx=>?_,h2⟩
    have:uO (eL (aa l st.p.k)).1 st.p.au=true:=vq.2 hx
    rw[show uO (eL (aa l st.p.k)).1 st.p.au=false from hm]at this
    cases this
  ·next hc=>rw[if_neg hc]at h;cases h
theorem Ml(xs:List Bs)(p:Ps):(cB s l xs p).2.2=false∨(cB s l xs p=({p with k:=p.k+1},aa l p.k,true)/\iI (aa l p.k)=false/\(aa l p.k).size<=40/\aa l p.k∉xs):=by
 unfold cB
 rcases jz (s:=s) (l:=l) (p:=p)with⟨p',w,a,e⟩ | ⟨e,hs⟩
 ·rw[e];exact .inl rfl
 ·rw[e]
  unfold Bb
  simp only
  split
  ·exact .inl rfl
  ·split
   ·exact .inl rfl
   ·next hc hm=>exact .inr ⟨rfl,hs,by omega,λhx=>hm (vq.2 hx)⟩
theorem aip(h:(pF s l st).2=true):iI (aa l st.p.k)=false/\(aa l st.p.k).size<=40/\aa l st.p.k∉st.p.bh.map (·.1)/\iI (aa l (st.p.k+1))=false/\aa l (st.p.k+2)=nl/\∃x,cl (bs (cH (aa l (st.p.k+1))).1)=(x,true)/\1<=x/\x<=254/\
  (pF s l st).1=aA st {st.p with k:=st.p.k+3,bh:=st.p.bh++[(aa l st.p.k,if(cH (aa l (st.p.k+1))).2=true then -x else x)]}:=by
 unfold pF at h ⊢
 rcases Ml (s:=s) (l:=l) (st.p.bh.map (·.1)) st.p with e | ⟨e,h1,h2,h3⟩
 ·generalize cB s l (st.p.bh.map (·.1)) st.p=r at h e
  obtain⟨r1,r2,r3⟩:=r
  obtain rfl:r3=false:=e
  cases h
 ·rw[e]at h ⊢
  change (jA s l (aa l st.p.k) st (aS s l {st.p with k:=st.p.k+1})).2=true at h
  rw[show Xx s l st ({st.p with k:=st.p.k+1},aa l st.p.k,true)=jA s l (aa l st.p.k) st (aS s l {st.p with k:=st.p.k+1})from rfl]
  rcases jz (s:=s) (l:=l) (p:={st.p with k:=st.p.k+1})with⟨p',w,a,e⟩ | ⟨e,hs⟩
  ·rw[e]at h;cases h
  ·rw[e]at h ⊢
   unfold jA at h ⊢
   simp only at h ⊢
   split
   ·next hc=>
    rw[if_pos hc]at h
    obtain⟨h4,h5⟩:=HK (k:=st.p.k+2) rfl h
    exact⟨h1,h2,h3,hs,h4,_,Prod.ext rfl hc.1,hc.2.1,hc.2.2,h5⟩
   ·next hc=>rw[if_neg hc]at h;cases h
theorem ZH{L:List (Bs×Key)}{F:Nat}{M:List (Bs×Int)}:cJ s l L (F+1) M st=if aa l st.p.k=⟨#[125]⟩then tU s l L M st else match lk L (aa l st.p.k)with
   | none=>(aA st (bE st.p (bA s l st.p.k) 180),false)
   | some key=>
    if key.most<=cnt M (aa l st.p.k)then(aA st (bE st.p (bA s l st.p.k) (if key.most=1 then 181 else 184)),false)
    else if(key.sem (aR st (st.p.k+1))).2=true then cJ s l L F (pt M (aa l st.p.k) (cnt M (aa l st.p.k)+1)) (key.sem (aR st (st.p.k+1))).1
    else((key.sem (aR st (st.p.k+1))).1,false):=rfl
theorem QO{L:List (Bs×Key)}{F:Nat}{M:List (Bs×Int)}(h:(cJ s l L F M st).2=true):∃F',F=F'+1/\
  ((aa l st.p.k=⟨#[125]⟩/\sI L M=false/\aa l (st.p.k+1)=nl/\(cJ s l L F M st).1=aR st (st.p.k+2))∨
  (aa l st.p.k≠⟨#[125]⟩/\∃key,lk L (aa l st.p.k)=some key/\cnt M (aa l st.p.k)<key.most/\(key.sem (aR st (st.p.k+1))).2=true/\
   cJ s l L F M st=cJ s l L F' (pt M (aa l st.p.k) (cnt M (aa l st.p.k)+1)) (key.sem (aR st (st.p.k+1))).1)):=by
 cases F with
 | zero=>cases h
 | succ F=>
  refine⟨F,rfl,?_⟩
  rw[ZH]at h ⊢
  split
  ·next hsh=>
   rw[if_pos hsh]at h
   unfold tU at h ⊢
   cases hl:sI L M with
   | true=>rw[hl,if_pos rfl]at h;cases h
   | false=>
    rw[hl,if_neg (by decide)]at h
    rw[if_neg (by decide)]
    obtain⟨h1,h2⟩:=HK (k:=st.p.k+1) rfl h
    exact .inl ⟨hsh,rfl,h1,h2⟩
  ·next hsh=>
   rw[if_neg hsh]at h
   cases hl:lk L (aa l st.p.k)with
   | none=>rw[hl]at h;cases h
   | some key=>
    rw[hl]at h
    simp only at h ⊢
    split
    ·next hc=>rw[if_pos hc]at h;cases h
    ·next hc=>
     rw[if_neg hc]at h
     split
     ·next hs=>exact .inr ⟨hsh,key,rfl,by omega,hs,rfl⟩
     ·next hs=>rw[if_neg hs]at h;cases h
theorem L9{L:List (Bs×Key)}(h:(bL s l L st).2=true):aa l st.p.k=gJ/\aa l (st.p.k+1)=nl/\bL s l L st=cJ s l L (l.length+1) [] (aR st (st.p.k+2)):=by
 unfold bL at h ⊢
 split
 ·next h1=>
  rw[if_pos h1]at h
  obtain⟨q1,q2⟩:=WS h1
  split
  ·next h2=>
   obtain⟨q3,q4⟩:=WS h2
   rw[q2]at q3 q4
   exact⟨q1,q3,by rw[q2,q4];rfl⟩
  ·next h2=>rw[if_neg h2]at h;cases h
 ·next h1=>rw[if_neg h1]at h;cases h
theorem Ud{L:List (Bs×Key)}{w:Bs}{key:Key}(h:lk L w=some key):∃i:Nat,(L.map (·.1))[i]?=some w/\(L.map (·.2.most))[i]?=some key.most:=by
 obtain⟨i,hi⟩:=List.getElem?_of_mem (wE h)
 exact⟨i,by rw[List.getElem?_map,hi];rfl,by rw[List.getElem?_map,hi];rfl⟩
theorem Rx{L:List (Bs×Key)}{M:List (Bs×Int)}{met:List Bs}(h:sI L M=false)(m:Mt met M):∀w∈(L.filter λx=>x.2.need).map (·.1),cn met w≠0:=by
 intro w hw h0
 obtain⟨x,hx,rfl⟩:=List.mem_map.1 hw
 obtain⟨h1,h2⟩:=List.mem_filter.1 hx
 unfold sI at h
 rw[List.any_eq_false]at h
 refine h x h1 ?_
 rw[h2,m x.1,h0]
 rfl
end
theorem ey{α:Type}{a b:Bs}(h:a=b)(x y:α):cond (a.toList==b.toList) x y=x:=by rw[h,toList_eq];rfl
theorem eX{α:Type}{a b:Bs}(h:a≠b)(x y:α):cond (a.toList==b.toList) x y=y:=by rw[od h];rfl
structure Bn(p:Ps):Prop where
 ag:p.ag.length<=p.k
 au:p.au.length<=p.k
 bh:p.bh.length<=p.k
 bB:p.bB.length<=p.k
theorem Bn.up{p p':Ps}(b:Bn p)(hk:p.k+1<=p'.k)(h1:p'.ag.length<=p.ag.length+1)(h2:p'.au.length<=p.au.length+1)(h3:p'.bh.length<=p.bh.length+1)(h4:p'.bB.length<=p.bB.length+1):Bn p':=by
 obtain⟨b1,b2,b3,b4⟩:=b
 exact⟨by omega,by omega,by omega,by omega⟩
theorem xo{α:Type}(xs:List α)(x:α):(xs++[x]).length<=xs.length+1:=by simp
theorem lX{n:Nat}{h:H}{vs:List AV}(hl:vs.length=n){α:Type}{K:Nat->H->Option (α×H)}{Q:α->H->Prop}(k:∀b h',Row h' 1 (some (b,0)) n (.known n) vs->Mod [] h h'->cg (K b h') Q):cg (aD (.cells vs false) h K) Q:=
 N7 λb h1 g _ _ m=>k b h1 (g.row (by rw[List.drop_zero,Nat.mul_one,<-hl,List.take_length]) (by omega) (.inr ⟨n,rfl,cF _⟩)) m
section
variable {G:Nat->Prop}{s:Bs}{l:List Wd}{p:Ps}{v:List AV}{a h h':H}{f:Nat->Option Nat}{c:Nat->List AV}
theorem fG.RJ{size len:Nat}{q:Pt}{cq:aM}{vs:List AV}{S:List Nat}(r:fG G h size q len cq vs)(m:Mod S h h')(hS:∀b,G b->b∉S):fG G h' size q len cq vs:=⟨r.row.mod m λb hb=>hS b (r.own b hb),r.own⟩
theorem cS.RJ{S:List Nat}(r:cS G h s l p v)(m:Mod S h h')(hS:∀b,G b->b∉S):cS G h' s l p v:=by
 obtain⟨wp,wc,vp,vc,tp,tc,gp,gc,sp,sc,fm,e,h1,h2,h3,h4,h5,h6,h7⟩:=r
 exact⟨wp,wc,vp,vc,tp,tc,gp,gc,sp,sc,fm,e,h1.RJ m hS,h2.RJ m hS,h3.RJ m hS,h4.RJ m hS,h5,λx hx=>(h6 x hx).RJ m hS,h7.RJ m hS⟩
theorem cS.push(r:cS (Fb a G f h) h s l p v){i x:Nat}(m:Mod (own (nu f i)) h h')(hx:h.next<=x):cS (Fb a G (up f i (some x)) h') h' s l p v:=(r.RJ m λb hb hm=>by
  unfold nu at hm
  cases Wj:f i with
  | none=>rw[Wj]at hm;cases hm
  | some y=>
   rw[Wj]at hm
   obtain rfl:b=y:=by simpa[own]using hm
   exact hb.2.1 i Wj).more λb hb=>⟨hb.1,λj hj=>by
  by_cases hji:j=i
  ·rw[hji,aF]at hj
   have:=hb.2.2
   have:=oh hj
   omega
  ·rw[eW hji]at hj
   exact hb.2.1 j hj,Ep hb.2.2 m.next⟩
theorem LV.push{i size bytes len:Nat}{cap:aM}{vs:List AV}(v:LV a h f c)(hi:i<12)(r:yw f c i size len cap vs){xs:List AV}(hx:xs.length=size)(hc:xs.all cT=true)(h0:0<size)(hb:(len+1)*bytes<=140737488355328)(h63:len+1<=9223372036854775807):
  ∃x cap' h',(∀(β:Type) (k:Option (Nat×Nat)->Nat->aM->H->Option β),Ev.aD (.cells xs false) h (λb h1=>fS size bytes (nu f i) len cap (di size (.slice (some (b,0)) 1 (.known 1)) h1) h1 k)=k (some (x,0)) (len+1) cap' h')/\
   h.next<=x/\LV a h' (up f i (some x)) (up c i (vs++xs))/\yw (up f i (some x)) (up c i (vs++xs)) i size (len+1) cap' (vs++xs)/\Mod (own (nu f i)) h h':=by
 obtain⟨x,cap',h',e,h1,h2,h3,h4,h5⟩:=v.ow.push (bytes:=bytes) hi r hx hc h0 hb h63
 refine⟨x,cap',h',λβ k=>by rw[aL];exact e β k,h1,⟨h2,v.m.trans' h5 λy hy hl=>?_⟩,h3,h5⟩
 have:=((r.grow v.ow).iy y hy).1
 omega
theorem cS.aic(r:cS G h s l p v)(x:Cd):cS G h s l {p with bH:=x} (My v 3 (xQ x)):=by
 obtain⟨wp,wc,vp,vc,tp,tc,gp,gc,sp,sc,fm,rfl,hr⟩:=r
 exact⟨wp,wc,vp,vc,tp,tc,gp,gc,sp,sc,fm,rfl,hr⟩
theorem cS.aib(r:cS G h s l p v)(x:Bs):cS G h s l {p with addr:=x} (v.set 9 (.str x)):=by
 obtain⟨wp,wc,vp,vc,tp,tc,gp,gc,sp,sc,fm,rfl,hr⟩:=r
 exact⟨wp,wc,vp,vc,tp,tc,gp,gc,sp,sc,fm,rfl,hr⟩
theorem cS.aie(r:cS G h s l p v)(x:Bs):cS G h s l {p with peer:=x} (v.set 10 (.str x)):=by
 obtain⟨wp,wc,vp,vc,tp,tc,gp,gc,sp,sc,fm,rfl,hr⟩:=r
 exact⟨wp,wc,vp,vc,tp,tc,gp,gc,sp,sc,fm,rfl,hr⟩
theorem GA(hl:l.length<=80100)(hw:∀k,(aa l k).size<90000){n:Nat}(hn:90200<=n){i j:Nat}:∀(F m:Nat) (M:List (Bs×Int)) (met:List Bs) (st:St) (h:H) (f:Nat->Option Nat) (c:Nat->List AV) (cq:aM),
  (cJ s l (vu s l) F M st).2=true->l.length<m+st.p.k->Mt met M->met.length<=st.p.k->Bn st.p->LV a h f c->f 0=some i->f 1=some j->(c 1).length=21->yw f c 2 1 met.length cq (met.map .str)->cS (Fb a G f h) h s l st.p (c 0)->
  cg (eJ n m (some (i,0)) (some (j,0)) (nu f 2) met.length cq h) λr h'=>Zh (Nw G a) a s l (cJ s l (vu s l) F M st).1.p r h'/\Bn (cJ s l (vu s l) F M st).1.p
 | 0,_,_,_,_,_,_,_,_,hs,_,_,_,_,_,_,_,_,_,_=>by cases hs
 | F+1,m,M,met,st,h,f,c,cq,hs,hm,hM,Jb,hB,v,dr,jD,uo,ar,r=>by
  obtain⟨F',eF,hx⟩:=QO hs
  obtain rfl:F=F':=Nat.succ.inj eF
  have hne:aa l st.p.k≠⟨#[]⟩:=by
   rcases hx with⟨e,_⟩ | ⟨_,key,e,_⟩
   ·rw[e];decide
   ·intro h0
    rw[h0]at e
    cases e
  have hk:=kD hne
  obtain⟨m,rfl⟩:∃x,m=x+1:=⟨m - 1,by omega⟩
  rw[Bp]
  simp only[ai,Nat.zero_add]
  rw[v.cell dr rfl r.code,aj,show((0:Int)==0)=true from rfl,bM,v.all dr rfl r.len.1]
  refine lX rfl λb1 h1 q1 m1=>lX rfl λb2 h2 q2 m2=>?_
  have v2:=(v.ak m1).ak m2
  have r2:=(r.step0 m1).step0 m2
  have rt:=(ar.grow v2.ow).row
  rcases hx with⟨hsh,zB,Jc,eb⟩ | ⟨Lb,key,hkey,Rg,ql,eb⟩
  ·refine(Mi r2 Fb.old (K:=[kz,bq,rQ]) (lm:=3) hsh (by omega)).bind ?_
   rintro _ h3 ⟨m3,w3,rfl,r3⟩
   simp only[ay,eV,dx,aE]
   refine wS rfl r3.len.1 r3.len.2 λh4 m4=>?_
   have r4:=(cS.ia v2 m3 r3).step0 m4
   have v4:=(v2.ak m3).ak m4
   obtain⟨h5,e5,v5,m5⟩:=v4.put (i:=0) dr rfl (n:=21) r.len.1 r4.len.1 r4.len.2
   have r5:=r4.aV dr m5
   rw[e5,ey rfl,v5.all (i:=0) dr (aF c 0 w3) r5.len.1]
   refine lX rfl λb6 h6 q6 m6=>?_
   have v6:=v5.ak m6
   have AT:yw f (up c 0 w3) 2 1 met.length cq (met.map .str):=ar.lY (by decide)
   refine(R3 (r5.step0 m6) Fb.old (by omega) hsh Jc (N:=[kz,bq,rQ]) q6 (AT.grow v6.ow).row (by decide) (by omega) (Rx zB hM) (by omega)).bind ?_
   rintro _ h7 ⟨m7,w7,rfl,r7⟩
   simp only[bG]
   have v7:=v6.ak m7
   have r7:=cS.ia v6 m7 r7
   obtain⟨h8,e8,v8,m8⟩:=v7.put (i:=1) jD rfl (n:=21) uo r7.len.1 r7.len.2
   have r8:=r7.aV jD m8
   rw[e8,v8.all (i:=1) jD (aF _ 1 w7) r7.len.1,eb]
   exact .pure ⟨⟨v8.m,_,rfl,r8.leave⟩,⟨qb hB.ag (Nat.le_add_right _ _),qb hB.au (Nat.le_add_right _ _),qb hB.bh (Nat.le_add_right _ _),qb hB.bB (Nat.le_add_right _ _)⟩⟩
  ·obtain⟨ix,hK,hMs⟩:=Ud hkey
   refine(T9 r2 Fb.old (by omega) (K:=[kz,bq,rQ]) (Ms:=[1,1,1]) (q1.ak m2) q2 rt (by decide) (by omega) hne Lb hK (by decide) hMs (by rw[<-hM];exact Rg) (by omega)).bind ?_
   rintro _ h3 ⟨m3,w3,rfl,r3⟩
   simp only[ay,eV,dx,aE]
   refine wS rfl r3.len.1 r3.len.2 λh4 m4=>?_
   have r4:=(cS.ia v2 m3 r3).step0 m4
   have v4:=(v2.ak m3).ak m4
   obtain⟨h5,e5,v5,m5⟩:=v4.put (i:=0) dr rfl (n:=21) r.len.1 r4.len.1 r4.len.2
   have r5:=r4.aV dr m5
   have ar5:yw f (up c 0 w3) 2 1 met.length cq (met.map .str):=ar.lY (by decide)
   rw[e5,eX hne]
   obtain⟨x6,c6,h6,e6,T2,v6,AT,m6⟩:=v5.push (bytes:=16) (by decide) ar5 (xs:=[.str (aa l st.p.k)]) rfl rfl (by decide) (by omega) (by omega)
   have r6:=r5.push m6 T2
   have qI:(met++[aa l st.p.k]).length=met.length+1:=by simp
   rw[e6,<-qI,<-wH f 2 x6]
   have AT:yw (up f 2 (some x6)) (up (up c 0 w3) 2 (met.map .str++[.str (aa l st.p.k)])) 2 1 (met++[aa l st.p.k]).length c6 ((met++[aa l st.p.k]).map .str):=by
    rw[hU,List.map_append]
    exact AT
   have Rf:=hM.push (aa l st.p.k)
   have cV:up f 2 (some x6) 0=some i:=dr
   have qk:up (up c 0 w3) 2 (met.map .str++[.str (aa l st.p.k)]) 0=w3:=rfl
   simp only[vu,ou]at hkey
   rw[aQ]at hkey
   split at hkey
   ·next yJ=>
    have e:aa l st.p.k=kz:=yJ
    obtain rfl:=oh hkey
    obtain⟨x1,x2,x3,x4⟩:=acC (st:=aR st (st.p.k+1)) (put:=vB) (λ_ _=>rfl) ql
    rw[ey (by exact e),v6.all cV qk r6.len.1]
    refine(acw r6 Fb.old (by omega) x1 (hw _) x3 x2 (by omega)).bind ?_
    rintro _ h7 ⟨m7,w7,rfl,r7⟩
    simp only[ay,eV,aE]
    have r7:=cS.ia v6 m7 r7
    have v7:=v6.ak m7
    obtain⟨h8,e8,v8,m8⟩:=v7.put (i:=0) cV qk (n:=21) r6.len.1 r7.len.1 r7.len.2
    have r8:=r7.aV cV m8
    rw[e8]
    have r8':=r8.aic (xO (eM (aa l (Jz st.p (st.p.k+1)).k)).1)
    obtain⟨h9,e9,v9,m9⟩:=v8.as5 (i:=0) (p:=3) (n:=6) cV (aF _ 0 w7) (xs:=xQ (xO (eM (aa l (Jz st.p (st.p.k+1)).k)).1)) rfl (by rw[r8.len.1];decide) rfl rfl
    rw[e9]
    have r9:=r8'.aV cV m9
    have eb':=eb.trans (congrArg (cJ s l (vu s l) F _) x4)
    rw[eb']at hs ⊢
    exact GA hl hw hn F m _ _ _ h9 _ _ c6 hs (by show l.length<m+(st.p.k+1+2);omega) Rf (by rw[qI];show met.length+1<=st.p.k+1+2;omega) (hB.up (by show _<=st.p.k+1+2;omega) (dW _) (dW _) (dW _) (dW _)) v9 cV jD uo ((AT.lY (by decide)).lY (by decide)) r9
   ·next hw1=>
    have n1:aa l st.p.k≠kz:=hw1
    rw[aQ]at hkey
    rw[eX (by exact n1)]
    split at hkey
    ·next yJ=>
     have e:aa l st.p.k=bq:=yJ
     obtain rfl:=oh hkey
     obtain⟨x1,x2,x3,x4⟩:=Gb (st:=aR st (st.p.k+1)) (put:=AK) (λ_ _=>rfl) ql
     rw[ey (by exact e),v6.all cV qk r6.len.1]
     refine(KU r6 Fb.old (by omega) x1 (hw _) x3 x2 (qb hB.ag (by omega)) (by omega)).bind ?_
     rintro _ h7 ⟨m7,w7,rfl,r7⟩
     simp only[ay,eV,dx,aE]
     have r7:=cS.call v6 m7 r7
     have v7:=v6.ak m7
     obtain⟨h8,e8,v8,m8⟩:=v7.put (i:=0) cV qk (n:=21) r6.len.1 r7.len.1 r7.len.2
     have r8:=r7.aV cV m8
     rw[e8]
     have r8':=r8.aib (eL (aa l (Jz st.p (st.p.k+1)).k)).1
     obtain⟨h9,e9,v9,m9⟩:=v8.wG (i:=0) (p:=9) cV (aF _ 0 w7) (y:=.str (eL (aa l (Jz st.p (st.p.k+1)).k)).1) (by rw[r8.len.1];decide) rfl
     rw[e9]
     have r9:=r8'.aV cV m9
     have eb':=eb.trans (congrArg (cJ s l (vu s l) F _) x4)
     rw[eb']at hs ⊢
     exact GA hl hw hn F m _ _ _ h9 _ _ c6 hs (by show l.length<m+(st.p.k+1+2);omega) Rf (by rw[qI];show met.length+1<=st.p.k+1+2;omega) (hB.up (by show _<=st.p.k+1+2;omega) (xo _ _) (dW _) (dW _) (dW _)) v9 cV jD uo ((AT.lY (by decide)).lY (by decide)) r9
    ·next hw2=>
     have n2:aa l st.p.k≠bq:=hw2
     rw[aQ]at hkey
     rw[eX (by exact n2)]
     split at hkey
     ·next yJ=>
      have e:aa l st.p.k=rQ:=yJ
      obtain rfl:=oh hkey
      obtain⟨x1,x2,x3,x4⟩:=Gb (st:=aR st (st.p.k+1)) (put:=AM) (λ_ _=>rfl) ql
      rw[ey (by exact e),v6.all cV qk r6.len.1]
      refine(KU r6 Fb.old (by omega) x1 (hw _) x3 x2 (qb hB.ag (by omega)) (by omega)).bind ?_
      rintro _ h7 ⟨m7,w7,rfl,r7⟩
      simp only[ay,eV,dx,aE]
      have r7:=cS.call v6 m7 r7
      have v7:=v6.ak m7
      obtain⟨h8,e8,v8,m8⟩:=v7.put (i:=0) cV qk (n:=21) r6.len.1 r7.len.1 r7.len.2
      have r8:=r7.aV cV m8
      rw[e8]
      have r8':=r8.aie (eL (aa l (Jz st.p (st.p.k+1)).k)).1
      obtain⟨h9,e9,v9,m9⟩:=v8.wG (i:=0) (p:=10) cV (aF _ 0 w7) (y:=.str (eL (aa l (Jz st.p (st.p.k+1)).k)).1) (by rw[r8.len.1];decide) rfl
      rw[e9]
      have r9:=r8'.aV cV m9
      have eb':=eb.trans (congrArg (cJ s l (vu s l) F _) x4)
      rw[eb']at hs ⊢
      exact GA hl hw hn F m _ _ _ h9 _ _ c6 hs (by show l.length<m+(st.p.k+1+2);omega) Rf (by rw[qI];show met.length+1<=st.p.k+1+2;omega) (hB.up (by show _<=st.p.k+1+2;omega) (xo _ _) (dW _) (dW _) (dW _)) v9 cV jD uo ((AT.lY (by decide)).lY (by decide)) r9
     ·cases hkey
theorem amX(hl:l.length<=80100)(hw:∀k,(aa l k).size<90000){st:St}(hs:(vv s l st).2=true)(hG:Old G h)(hB:Bn st.p)(r:cS G h s l st.p v){n:Nat}(hn:90300<=n):
  cg (ca n rK [.agg v] h) λr h'=>Zh (Nw G h) h s l (vv s l st).1.p r h'/\Bn (vv s l st).1.p:=by
 obtain⟨n,rfl⟩:∃j,n=j+1:=⟨n - 1,by omega⟩
 obtain⟨x1,x2,x3⟩:=L9 hs
 rw[Ex]
 refine tF λi j h2 v2=>?_
 rw[v2.all (i:=0) rfl rfl r.len.1]
 refine(Ju ((r.ak v2.m).enter hG v2) Fb.old (by omega) x1 x2 (by omega)).bind ?_
 rintro _ h3 ⟨m3,w3,rfl,r3⟩
 simp only[bG]
 have r3:=cS.ia v2 m3 r3
 have v3:=v2.ak m3
 obtain⟨h4,e4,v4,m4⟩:=v3.put (i:=0) rfl (w:=v) rfl (n:=21) r.len.1 r3.len.1 r3.len.2
 rw[e4]
 have r4:=r3.aV (i:=0) rfl m4
 unfold vv at hs ⊢
 rw[x3]at hs ⊢
 exact GA hl hw (by omega) _ _ _ [] (aR st (st.p.k+2)) h4 _ _ (.known 0) hs (by show l.length<n+(st.p.k+2);omega) Mt.nil (uQ _) (hB.up (by show _<=st.p.k+2;omega) (dW _) (dW _) (dW _) (dW _)) v4 rfl rfl rfl (.nil rfl) r4
end
theorem agw{w:Bs}(hw:w≠⟨#[]⟩):∃b,(bs w)[0]?=some b/\cH w=if(b.toNat:Int)=45 then(w.extract 1 w.size,true)else(w,false):=by
 unfold cH
 cases e:bs w with
 | nil=>exact absurd (oI (b:=⟨#[]⟩) e) hw
 | cons x xs=>
  refine⟨x,rfl,?_⟩
  have hx:w.extract 1 w.size=mk xs:=oI (by rw[jB,ko,e];show xs.take (w.size - 1)=xs;rw[List.take_of_length_le];have:=aP w;rw[e]at this;simp at this;omega)
  by_cases h:x=45
  ·subst h
   rw[if_pos (show(45::xs:List UInt8).head?=some 45 from rfl),if_pos (show(((45:UInt8).toNat:Nat):Int)=45 from rfl),hx];rfl
  ·rw[if_neg (by simpa using h),if_neg λh'=>h (UInt8.toNat_inj.1 (show x.toNat=(45:UInt8).toNat by rw[show(45:UInt8).toNat=45 from rfl];omega))]
section
variable {G:Nat->Prop}{s:Bs}{l:List Wd}{p:Ps}{v:List AV}{a h h':H}{f:Nat->Option Nat}{c:Nat->List AV}
theorem cS.bh(r:cS G h s l p v):∃tp tc,v[16]?=some (.slice tp p.bh.length tc)/\fG G h 2 tp p.bh.length tc (p.bh.flatMap wm):=by
 obtain⟨wp,wc,vp,vc,tp,tc,gp,gc,sp,sc,fm,rfl,_,_,h3,_⟩:=r
 exact⟨tp,tc,rfl,h3⟩
theorem cS.atw{G':Nat->Prop}(r:cS G h s l p v)(hG:∀b,G b->G' b){x:Bs×Int}{tp:Pt}{tc:aM}(row:fG G' h 2 tp (p.bh.length+1) tc (p.bh.flatMap wm++wm x)):cS G' h s l {p with bh:=p.bh++[x]} (v.set 16 (.slice tp (p.bh.length+1) tc)):=by
 obtain⟨wp,wc,vp,vc,tp0,tc0,gp,gc,sp,sc,fm,rfl,h1,h2,h3,h4,h5,h6,h7⟩:=r
 have hlen:p.bh.length+1=(p.bh++[x]).length:=by simp
 refine⟨wp,wc,vp,vc,tp,tc,gp,gc,sp,sc,fm,?_,h1.more hG,h2.more hG,?_,h4.more hG,h5,λx hx=>(h6 x hx).more hG,h7.more hG⟩
 ·rw[hlen];rfl
 ·rw[hlen]at row
  rw[List.flatMap_append,List.flatMap_singleton]
  exact row
theorem ae9(xs:List (Bs×Int)):(xs.flatMap wm).all cT=true:=by
 simp[List.all_flatMap,wm,cT]
theorem JJ{Q:AV->H->Prop}{n i j:Nat}(hp:p.bh.length<=80100)
  (k:∀h f c cq m,LV a h f c->f 0=some i->f 1=some j->(c 1).length=21->yw f c 2 1 (p.bh.map (·.1)).length cq ((p.bh.map (·.1)).map .str)->cS (Fb a G f h) h s l p (c 0)->cg (gZ n (m+1) (some (i,0)) (some (j,0)) (nu f 2) (p.bh.map (·.1)).length cq (p.bh.length:Nat) h) Q):
  ∀(rest pre:List (Bs×Int)) (m:Nat) (h:H) (f:Nat->Option Nat) (c:Nat->List AV) (cq:aM),p.bh=pre++rest->rest.length<m->LV a h f c->f 0=some i->f 1=some j->(c 1).length=21->yw f c 2 1 (pre.map (·.1)).length cq ((pre.map (·.1)).map .str)->cS (Fb a G f h) h s l p (c 0)->cg (gZ n m (some (i,0)) (some (j,0)) (nu f 2) (pre.map (·.1)).length cq (pre.length:Nat) h) Q
 | [],pre,m,h,f,c,cq,e,hm,v,dr,jD,uo,ar,r=>by
  obtain⟨m,rfl⟩:∃x,m=x+1:=⟨m - 1,by simp at hm;omega⟩
  rw[List.append_nil]at e
  subst e
  exact k h f c cq m v dr jD uo ar r
 | x::rest,pre,m+1,h,f,c,cq,e,hm,v,dr,jD,uo,ar,r=>by
  have hlt:pre.length<p.bh.length:=by rw[e];simp
  have hx:p.bh[pre.length]?=some x:=by rw[e];simp
  obtain⟨tp,tc,htp,row⟩:=r.bh
  rw[sN]
  simp only[ai,Nat.zero_add]
  rw[v.cell (i:=0) (p:=16) dr rfl htp,ah,cL hlt,bM,v.cell (i:=0) (p:=16) dr rfl htp,ah,row.row.Wq E7 hx (v:=.str x.1) rfl,az]
  have NR:(pre.map (·.1)).length=pre.length:=List.length_map _
  obtain⟨x6,c6,h6,e6,T2,v6,AT,m6⟩:=v.push (bytes:=16) (i:=2) (by decide) ar (xs:=[.str x.1]) rfl rfl (by decide) (by omega) (by omega)
  rw[e6,aG (by omega)]
  have e1:(pre.map (·.1)).length+1=((pre++[x]).map (·.1)).length:=by simp
  have e2:(pre.map (·.1)).map AV.str++[.str x.1]=((pre++[x]).map (·.1)).map .str:=by simp
  have e3:((pre.length:Nat):Int)+1=((pre++[x]).length:Nat):=by simp
  have ih:=JJ hp k rest (pre++[x]) m h6 _ _ c6 (by rw[e];simp) (by simp at hm;omega) v6 dr jD uo (by rw[<-e1,<-e2];exact AT) (r.push m6 T2)
  rw[wH,<-e1,hU,Lf]at ih
  exact ih
theorem aio(r:cS G h s l p v)(hG:Old G h)(hl:l.length<=80100)(hw:∀k,(aa l k).size<90000)(hB:p.bh.length<=80100)
  (x1:iI (aa l p.k)=false) (x2:(aa l p.k).size<=40) (x3:aa l p.k∉p.bh.map (·.1)) (x4:iI (aa l (p.k+1))=false) (x5:aa l (p.k+2)=nl) {x:Int} (x6:cl (bs (cH (aa l (p.k+1))).1)=(x,true)) (x7:1<=x) (x8:x<=254) {n:Nat} (hn:80300<=n):
  cg (ca n qu [.agg v] h) (Zh (Nw G h) h s l {p with k:=p.k+3,bh:=p.bh++[(aa l p.k,if(cH (aa l (p.k+1))).2=true then -x else x)]}):=by
 obtain⟨n,rfl⟩:∃j,n=j+1:=⟨n - 1,by omega⟩
 rw[DG]
 refine tF λi j h0 v0=>?_
 refine JJ (a:=h) (G:=G) (s:=s) (l:=l) (p:=p) hB ?_ p.bh [] n h0 _ _ (.known 0) rfl (by omega) v0 rfl rfl rfl (.nil rfl) ((r.ak v0.m).enter hG v0)
 intro h1 f c cq m v1 dr jD uo ar r1
 obtain⟨tp,tc,htp,row⟩:=r1.bh
 rw[sN]
 simp only[ai,Nat.zero_add]
 rw[v1.cell (i:=0) (p:=16) dr rfl htp,ah,aT (cF _),br,v1.all (i:=0) dr rfl r1.len.1]
 have hlm:(p.bh.map (·.1)).length=p.bh.length:=List.length_map _
 refine(WT r1 Fb.old (by omega) x1 x2 (ar.grow v1.ow).row (by omega) x3 (by omega)).bind ?_
 rintro _ h2 ⟨m2,w2,rfl,r2⟩
 simp only[ay,eV,dx,aE]
 have v2:=v1.ak m2
 have r2:=cS.ia v1 m2 r2
 obtain⟨h3,e3,v3,m3⟩:=v2.put (i:=0) dr rfl (n:=21) r1.len.1 r2.len.1 r2.len.2
 have r3:=r2.aV dr m3
 rw[e3,v3.cell (i:=0) dr (aF c 0 w2) r3.code,aj,show((0:Int) != 0)=false from rfl,br,v3.all (i:=0) dr (aF c 0 w2) r3.len.1]
 refine(GR r3 Fb.old (by omega) x4 (by omega)).bind ?_
 rintro _ h4 ⟨m4,w4,rfl,r4⟩
 simp only[ay,eV,dx,cu,aE]
 have v4:=v3.ak m4
 have r4:=cS.ia v3 m4 r4
 obtain⟨h5,e5,v5,m5⟩:=v4.put (i:=0) dr (aF c 0 w2) (n:=21) r3.len.1 r4.len.1 r4.len.2
 have r5:=r4.aV dr m5
 rw[e5]
 have ar5:yw f (up (up c 0 w2) 0 w4) 2 1 (p.bh.map (·.1)).length cq ((p.bh.map (·.1)).map .str):=(ar.lY (by decide)).lY (by decide)
 obtain⟨hne,_⟩:=UL x4
 obtain⟨b,hb,hd⟩:=agw hne
 have hpos:0<(aa l (p.k+1)).size:=by
  have:=(sS hb).1
  rwa [aP]at this
 rw[show decide (((Nat.cast (aa l (Jz p (p.k+1)).k).size):Int)>0)=true from decide_eq_true (by exact_mod_cast hpos),bM,show(0:Int)=((0:Nat):Int)from rfl,cC (i:=0) (show(bs (aa l (Jz p (p.k+1)).k))[0]?=some b from hb)]
 suffices hh:∀(w:Bs) (sg:Int),w=(cH (aa l (p.k+1))).1->(sg=if(cH (aa l (p.k+1))).2=true then -1 else 1)->cg (jW n (some (i,0)) (some (j,0)) (aa l p.k) w (bA s l (Jz p (p.k+1)).k) sg h5) (Zh (Nw G h) h s l {p with k:=p.k+3,bh:=p.bh++[(aa l p.k,if(cH (aa l (p.k+1))).2=true then -x else x)]})by
  rw[Aw]
  by_cases h45:(b.toNat:Int)=45
  ·rw[show((b.toNat:Int)==45)=true by simpa using h45,bM,Iz (by omega) (by exact_mod_cast hpos)]
   rw[if_pos h45]at hd
   exact hh _ _ (by rw[hd];rfl) (by rw[hd];rfl)
  ·rw[show((b.toNat:Int)==45)=false by simpa using h45,br]
   rw[if_neg h45]at hd
   exact hh _ _ (by rw[hd];rfl) (by rw[hd];rfl)
 rintro w sg rfl rfl
 rw[Ax,Ig _ (by omega) h5,fD,x6]
 simp only[tV,ay,cu,fV,aE]
 rw[Bool.not_true,br,decide_eq_false (by omega),br,show decide (x>254)=false from decide_eq_false (by omega),Ay,br]
 have hsx:IntKind.i64.wrap ((if(cH (aa l (p.k+1))).2=true then -1 else 1)*x)=if(cH (aa l (p.k+1))).2=true then -x else x:=by
  split
  ·rw[wrap_i64 (by omega) (by omega)];omega
  ·rw[wrap_i64 (by omega) (by omega)];omega
 rw[hsx]
 refine N7 λib h6 a6 eib nib m6=>?_
 have v6:=v5.ak m6
 have r6:=r5.step0 m6
 obtain⟨tp,tc,htp,row⟩:=r6.bh
 simp only[ai,Nat.zero_add]
 rw[v6.cell (i:=0) (p:=16) dr (aF _ 0 w4) htp,ah]
 refine VH (h:=h5) row.row (ae9 _) (by show p.bh.length*_<=_;omega) (by show p.bh.length<=_;omega) (λhz=>by rw[List.length_eq_zero_iff.1 hz];rfl) a6 (by omega) m6.next λp3 c3 h7 g7 m7=>?_
 have m57:Mod [] h5 h7:=m6.trans' m7 λy hy hl=>by obtain rfl:=List.mem_singleton.1 hy;omega
 simp only[aL]
 refine g7.push m57.next (xs:=wm (aa l p.k,if(cH (aa l (p.k+1))).2=true then -x else x)) rfl rfl (by decide) (by show(p.bh.length+1)*_<=_;omega) (by show p.bh.length+1<=_;omega) λp4 c4 h8 g8 m8=>?_
 have m58:Mod [] h5 h8:=m57.trans' m8 λy hy hl=>by have:=(g7.iy y hy).1;omega
 have v8:=v5.ak m58
 obtain⟨h9,e9,v9,m9⟩:=v8.wG (i:=0) (p:=16) (y:=.slice p4 (p.bh.length+1) c4) dr (aF _ 0 w4) (by rw[r5.len.1];decide) rfl
 have hi5:=v5.ow.lt 0 i dr
 have hf5:∀y b,f y=some b->b<h5.next:=λy b hy=>v5.ow.lt y b hy
 have g9:Row h9 2 p4 (p.bh.length+1) c4 (p.bh.flatMap wm++wm (aa l p.k,if(cH (aa l (p.k+1))).2=true then -x else x)):=g8.row.mod m9 λb hb hm=>by
  obtain rfl:=List.mem_singleton.1 hm
  have:=(g8.iy _ hb).1
  omega
 have r9:=((r5.ak m58).sx m9 λhx=>hx.2.1 0 dr).atw (G':=Nw (Fb h G f h5) h5) (λb hb=>.inl hb) ⟨g9,λb hb=>.inr (g8.iy b hb).1⟩
 have r9:cS (Fb h G f h9) h9 s l _ _:=r9.lt.more λb hb=>by
  obtain⟨h1 | h1,h2⟩:=hb
  ·exact⟨h1.1,h1.2.1,h2⟩
  ·exact⟨.inr (qb v5.m.next h1),λy hy=>by have:=hf5 y b hy;omega,h2⟩
 refine Eq.mpr (congrArg (λz=>cg z _) (e9 _ _)) ?_
 rw[v9.all (i:=0) dr (aF _ 0 _) r9.len.1]
 refine(Ds r9 (by omega) (w:=nl) x5 (by decide) (by omega)).bind ?_
 rintro _ h10 ⟨m10,w10,rfl,r10⟩
 simp only[bG]
 have v10:=v9.ak m10
 have r10:=cS.ia v9 m10 r10
 obtain⟨h11,e11,v11,m11⟩:=v10.put (i:=1) jD rfl (n:=21) uo r10.len.1 r10.len.2
 have r11:=r10.aV jD m11
 rw[e11,v11.all (i:=1) jD (aF _ 1 w10) r10.len.1]
 exact .pure ⟨v11.m,_,rfl,r11.leave⟩
end
section
variable {G:Nat->Prop}{s:Bs}{l:List Wd}{p:Ps}{v:List AV}{a h h':H}{f:Nat->Option Nat}{c:Nat->List AV}
theorem Nh{α:Type}{size bytes n:Nat}{q:Pt}{cq:aM}{vs:List AV}(r:Row h size q n cq vs)(hc:vs.all cT=true)(hb:n*bytes<=140737488355328)(h63:n<=9223372036854775807)(hz:n=0->vs=[]){S:H->(Pt->Nat->aM->Option (α×H))->Option (α×H)}(hS:∀h',Mod [] h h'->∀F,S h' F=F q n cq)
  {K:Pt->Nat->aM->H->Option (α×H)} {Q:α->H->Prop} (k:∀p' c' h',Grow h h' size p' n c' vs->Mod [] h h'->cg (K p' n c' h') Q):cg (aD (.cells [] false) h λi h1=>S h1 λx m cx=>fS size bytes (some (i,0)) 0 (.known 0) (di size (.slice x m cx) h1) h1 K) Q:=by
 refine N7 λb h1 a1 eb nb m1=>?_
 rw[hS h1 m1]
 refine VH (h:=h) (r.ak m1) hc hb h63 hz a1 (by omega) m1.next λp' c' h' g m=>k p' c' h' g (m1.trans' m λy hy hl=>?_)
 obtain rfl:=List.mem_singleton.1 hy
 omega
theorem cS.mix(w:LV a h f c)(r:cS (Nw (Fb a G f h) h) h' s l p v):cS (Fb a G f h') h' s l p v:=r.lt.more λb hb=>by
 obtain⟨h1 | h1,h2⟩:=hb
 ·exact⟨h1.1,h1.2.1,h2⟩
 ·exact⟨.inr (qb w.m.next h1),λi hi=>by have:=w.ow.lt i b hi;omega,h2⟩
theorem NL{size len i:Nat}{q:Pt}{cq:aM}{vs:List AV}{h8 h9:H}(g:Grow h h8 size q len cq vs)(m:Mod [i] h8 h9)(hi:i<h.next)(P:Nat->Prop):fG (Nw P h) h9 size q len cq vs:=⟨g.row.mod m λb hb hm=>by
  obtain rfl:=List.mem_singleton.1 hm
  have:=(g.iy _ hb).1
  omega,λb hb=>.inr (g.iy b hb).1⟩
theorem cS.au(r:cS G h s l p v):∃tp tc,v[15]?=some (.slice tp p.au.length tc)/\fG G h 1 tp p.au.length tc (p.au.map .str):=by
 obtain⟨wp,wc,vp,vc,tp,tc,gp,gc,sp,sc,fm,rfl,_,h2,_⟩:=r
 exact⟨vp,vc,rfl,h2⟩
theorem cS.anR{G':Nat->Prop}(r:cS G h s l p v)(hG:∀b,G b->G' b){x:Bs}{vp:Pt}{vc:aM}(row:fG G' h 1 vp (p.au.length+1) vc (p.au.map .str++[.str x])):cS G' h s l {p with au:=p.au++[x]} (v.set 15 (.slice vp (p.au.length+1) vc)):=by
 obtain⟨wp,wc,vp0,vc0,tp,tc,gp,gc,sp,sc,fm,rfl,h1,h2,h3,h4,h5,h6,h7⟩:=r
 have hlen:p.au.length+1=(p.au++[x]).length:=by simp
 refine⟨wp,wc,vp,vc,tp,tc,gp,gc,sp,sc,fm,?_,h1.more hG,?_,h3.more hG,h4.more hG,h5,λx hx=>(h6 x hx).more hG,h7.more hG⟩
 ·rw[hlen];rfl
 ·rw[hlen]at row
  rw[List.map_append]
  exact row
theorem abb(xs:List Bs):(xs.map AV.str).all cT=true:=by simp[cT]
theorem cS.atv(r:cS G h s l p v)(x:Int):cS G h s l {p with id:=x} (v.set 11 (.int .i64 x)):=by
 obtain⟨wp,wc,vp,vc,tp,tc,gp,gc,sp,sc,fm,rfl,hr⟩:=r
 exact⟨wp,wc,vp,vc,tp,tc,gp,gc,sp,sc,fm,rfl,hr⟩
theorem cS.aif(r:cS G h s l p v)(x:Int):cS G h s l {p with prio:=x} (v.set 12 (.int .i64 x)):=by
 obtain⟨wp,wc,vp,vc,tp,tc,gp,gc,sp,sc,fm,rfl,hr⟩:=r
 exact⟨wp,wc,vp,vc,tp,tc,gp,gc,sp,sc,fm,rfl,hr⟩
theorem cS.aeT(r:cS G h s l p v)(x:Int):cS G h s l {p with every:=x} (v.set 13 (.int .i64 x)):=by
 obtain⟨wp,wc,vp,vc,tp,tc,gp,gc,sp,sc,fm,rfl,hr⟩:=r
 exact⟨wp,wc,vp,vc,tp,tc,gp,gc,sp,sc,fm,rfl,hr⟩
theorem cS.aeV(r:cS G h s l p v)(x:Bool):cS G h s l {p with pre:=x} (v.set 14 (.bool x)):=by
 obtain⟨wp,wc,vp,vc,tp,tc,gp,gc,sp,sc,fm,rfl,hr⟩:=r
 exact⟨wp,wc,vp,vc,tp,tc,gp,gc,sp,sc,fm,rfl,hr⟩
theorem atY{w:Bs}{x:Int}(h:lk JS w=some x):∃k:Nat,[Dk,Rq][k]?=some w/\((((k+1:Nat):Int)==1)=(x==1)):=by
 simp only[JS]at h
 rw[aQ]at h
 split at h
 ·next e=>exact⟨0,by rw[e];rfl,by rw[<-oh h];rfl⟩
 ·rw[aQ]at h
  split at h
  ·next e=>exact⟨1,by rw[e];rfl,by rw[<-oh h];rfl⟩
  ·cases h
def pV(st:St):Ps:={st.p with pre:=st.yes==1}
def Zc:List Bs:=[Pd,tr,ni,fL,jt,iL]
theorem wL(hl:l.length<=80100)(hw:∀k,(aa l k).size<90000){n:Nat}(hn:90200<=n){i j kb:Nat}:∀(F m:Nat) (M:List (Bs×Int)) (met:List Bs) (st:St) (h:H) (f:Nat->Option Nat) (c:Nat->List AV) (cq:aM),
  (cJ s l (iO s l) F M st).2=true->l.length<m+st.p.k->Mt met M->met.length<=st.p.k->Bn (pV st)->LV a h f c->f 0=some i->f 1=some j->f 3=some kb->(c 1).length=21->c 3=Zc.map .str->yw f c 2 1 met.length cq (met.map .str)->cS (Fb a G f h) h s l (pV st) (c 0)->
  cg (cG n m (some (i,0)) (some (j,0)) (nu f 2) met.length cq (some (kb,0)) 6 (.known 6) h) λr h'=>Zh (Nw G a) a s l (pV (cJ s l (iO s l) F M st).1) r h'/\Bn (pV (cJ s l (iO s l) F M st).1)
 | 0,_,_,_,_,_,_,_,_,hs,_,_,_,_,_,_,_,_,_,_,_,_=>by cases hs
 | F+1,m,M,met,st,h,f,c,cq,hs,hm,hM,Jb,hB,v,dr,jD,La,uo,O8,ar,r=>by
  obtain⟨F',eF,hx⟩:=QO hs
  obtain rfl:F=F':=Nat.succ.inj eF
  have hne:aa l st.p.k≠⟨#[]⟩:=by
   rcases hx with⟨e,_⟩ | ⟨_,key,e,_⟩
   ·rw[e];decide
   ·intro h0
    rw[h0]at e
    cases e
  have hk:=kD hne
  obtain⟨m,rfl⟩:∃x,m=x+1:=⟨m - 1,by omega⟩
  rw[Bt]
  simp only[ai,Nat.zero_add]
  rw[v.cell dr rfl r.code,aj,show((0:Int)==0)=true from rfl,bM,v.all dr rfl r.len.1]
  refine lX rfl λb2 h2 q2 m2=>?_
  have v2:=v.ak m2
  have r2:=r.step0 m2
  have rt:=(ar.grow v2.ow).row
  have gk:=v2.ow.at La
  rw[O8]at gk
  have q1:Row h2 1 (some (kb,0)) 6 (.known 6) (Zc.map .str):=gk.row rfl (cF _) (.inr ⟨6,rfl,cF _⟩)
  rcases hx with⟨hsh,zB,Jc,eb⟩ | ⟨Lb,key,hkey,Rg,ql,eb⟩
  ·refine(Mi r2 Fb.old (K:=Zc) (lm:=6) hsh (by omega)).bind ?_
   rintro _ h3 ⟨m3,w3,rfl,r3⟩
   simp only[ay,eV,dx,aE]
   refine wS rfl r3.len.1 r3.len.2 λh4 m4=>?_
   have r4:=(cS.ia v2 m3 r3).step0 m4
   have v4:=(v2.ak m3).ak m4
   obtain⟨h5,e5,v5,m5⟩:=v4.put (i:=0) dr rfl (n:=21) r.len.1 r4.len.1 r4.len.2
   have r5:=r4.aV dr m5
   rw[e5,ey rfl,v5.all (i:=0) dr (aF c 0 w3) r5.len.1]
   refine lX rfl λb6 h6 q6 m6=>?_
   have v6:=v5.ak m6
   have AT:yw f (up c 0 w3) 2 1 met.length cq (met.map .str):=ar.lY (by decide)
   refine(R3 (r5.step0 m6) Fb.old (by omega) hsh Jc (N:=[Pd,tr,ni,jt]) q6 (AT.grow v6.ow).row (by decide) (by omega) (Rx zB hM) (by omega)).bind ?_
   rintro _ h7 ⟨m7,w7,rfl,r7⟩
   simp only[bG]
   have v7:=v6.ak m7
   have r7:=cS.ia v6 m7 r7
   obtain⟨h8,e8,v8,m8⟩:=v7.put (i:=1) jD rfl (n:=21) uo r7.len.1 r7.len.2
   have r8:=r7.aV jD m8
   rw[e8,v8.all (i:=1) jD (aF _ 1 w7) r7.len.1,eb]
   exact .pure ⟨⟨v8.m,_,rfl,r8.leave⟩,hB.up (by show _<=st.p.k+2;exact dW _) (dW _) (dW _) (dW _) (dW _)⟩
  ·obtain⟨ix,hK,hMs⟩:=Ud hkey
   refine(T9 r2 Fb.old (by omega) (K:=Zc) (Ms:=[1,1,1,1,8,8]) q1 q2 rt (by decide) (by omega) hne Lb hK (by decide) hMs (by rw[<-hM];exact Rg) (by omega)).bind ?_
   rintro _ h3 ⟨m3,w3,rfl,r3⟩
   simp only[ay,eV,dx,aE]
   refine wS rfl r3.len.1 r3.len.2 λh4 m4=>?_
   have r4:=(cS.ia v2 m3 r3).step0 m4
   have v4:=(v2.ak m3).ak m4
   obtain⟨h5,e5,v5,m5⟩:=v4.put (i:=0) dr rfl (n:=21) r.len.1 r4.len.1 r4.len.2
   have r5:=r4.aV dr m5
   have ar5:yw f (up c 0 w3) 2 1 met.length cq (met.map .str):=ar.lY (by decide)
   rw[e5,show aa l (pV st).k=aa l st.p.k from rfl,eX hne]
   obtain⟨x6,c6,h6,e6,T2,v6,AT,m6⟩:=v5.push (bytes:=16) (by decide) ar5 (xs:=[.str (aa l st.p.k)]) rfl rfl (by decide) (by omega) (by omega)
   have r6:=r5.push m6 T2
   have qI:(met++[aa l st.p.k]).length=met.length+1:=by simp
   rw[e6,<-qI,<-wH f 2 x6]
   have AT:yw (up f 2 (some x6)) (up (up c 0 w3) 2 (met.map .str++[.str (aa l st.p.k)])) 2 1 (met++[aa l st.p.k]).length c6 ((met++[aa l st.p.k]).map .str):=by
    rw[hU,List.map_append]
    exact AT
   have Rf:=hM.push (aa l st.p.k)
   have cV:up f 2 (some x6) 0=some i:=dr
   have qk:up (up c 0 w3) 2 (met.map .str++[.str (aa l st.p.k)]) 0=w3:=rfl
   simp only[iO,ou]at hkey
   rw[aQ]at hkey
   split at hkey
   ·next yJ=>
    have e:aa l st.p.k=Pd:=yJ
    obtain rfl:=oh hkey
    obtain⟨x1,x2,x,x3,x5,U4,x4⟩:=vz (st:=aR st (st.p.k+1)) (put:=FL) (λ_ _=>rfl) ql
    rw[ey (by exact e),v6.all cV qk r6.len.1]
    refine(vw r6 Fb.old (by omega) x1 x3 x5 U4 x2 (by omega)).bind ?_
    rintro _ h7 ⟨m7,w7,rfl,r7⟩
    simp only[ay,eV,cu,aE]
    have r7:=cS.ia v6 m7 r7
    have v7:=v6.ak m7
    obtain⟨h8,e8,v8,m8⟩:=v7.put (i:=0) cV qk (n:=21) r6.len.1 r7.len.1 r7.len.2
    have r8:=r7.aV cV m8
    rw[e8]
    have r8':=r8.atv x
    obtain⟨h9,e9,v9,m9⟩:=v8.wG (i:=0) (p:=11) cV (aF _ 0 w7) (y:=.int .i64 x) (by rw[r8.len.1];decide) rfl
    rw[e9]
    have r9:=r8'.aV cV m9
    have eb':=eb.trans (congrArg (cJ s l (iO s l) F _) x4)
    rw[eb']at hs ⊢
    exact wL hl hw hn F m _ _ _ h9 _ _ c6 hs (by show l.length<m+(st.p.k+3);omega) Rf (by rw[qI];show met.length+1<=st.p.k+3;omega) (hB.up (by show st.p.k+1<=st.p.k+3;omega) (dW _) (dW _) (dW _) (dW _)) v9 cV jD La uo O8 ((AT.lY (by decide)).lY (by decide)) r9
   ·next hw0=>
    have n0:aa l st.p.k≠Pd:=hw0
    rw[eX (by exact n0)]
    rw[aQ]at hkey
    split at hkey
    ·next yJ=>
     have e:aa l st.p.k=tr:=yJ
     obtain rfl:=oh hkey
     obtain⟨x1,x2,x,x3,x5,U4,x4⟩:=vz (st:=aR st (st.p.k+1)) (put:=vC) (λ_ _=>rfl) ql
     rw[ey (by exact e),v6.all cV qk r6.len.1]
     refine(vw r6 Fb.old (by omega) x1 x3 x5 U4 x2 (by omega)).bind ?_
     rintro _ h7 ⟨m7,w7,rfl,r7⟩
     simp only[ay,eV,cu,aE]
     have r7:=cS.ia v6 m7 r7
     have v7:=v6.ak m7
     obtain⟨h8,e8,v8,m8⟩:=v7.put (i:=0) cV qk (n:=21) r6.len.1 r7.len.1 r7.len.2
     have r8:=r7.aV cV m8
     rw[e8]
     have r8':=r8.aif x
     obtain⟨h9,e9,v9,m9⟩:=v8.wG (i:=0) (p:=12) cV (aF _ 0 w7) (y:=.int .i64 x) (by rw[r8.len.1];decide) rfl
     rw[e9]
     have r9:=r8'.aV cV m9
     have eb':=eb.trans (congrArg (cJ s l (iO s l) F _) x4)
     rw[eb']at hs ⊢
     exact wL hl hw hn F m _ _ _ h9 _ _ c6 hs (by show l.length<m+(st.p.k+3);omega) Rf (by rw[qI];show met.length+1<=st.p.k+3;omega) (hB.up (by show st.p.k+1<=st.p.k+3;omega) (dW _) (dW _) (dW _) (dW _)) v9 cV jD La uo O8 ((AT.lY (by decide)).lY (by decide)) r9
    ·next hw1=>
     have n1:aa l st.p.k≠tr:=hw1
     rw[eX (by exact n1)]
     rw[aQ]at hkey
     split at hkey
     ·next yJ=>
      have e:aa l st.p.k=ni:=yJ
      obtain rfl:=oh hkey
      obtain⟨x1,x2,x,x3,x5,U4,x4⟩:=vz (st:=aR st (st.p.k+1)) (put:=rY) (λ_ _=>rfl) ql
      rw[ey (by exact e),v6.all cV qk r6.len.1]
      refine(vw r6 Fb.old (by omega) x1 x3 x5 U4 x2 (by omega)).bind ?_
      rintro _ h7 ⟨m7,w7,rfl,r7⟩
      simp only[ay,eV,cu,aE]
      have r7:=cS.ia v6 m7 r7
      have v7:=v6.ak m7
      obtain⟨h8,e8,v8,m8⟩:=v7.put (i:=0) cV qk (n:=21) r6.len.1 r7.len.1 r7.len.2
      have r8:=r7.aV cV m8
      rw[e8]
      have r8':=r8.aeT x
      obtain⟨h9,e9,v9,m9⟩:=v8.wG (i:=0) (p:=13) cV (aF _ 0 w7) (y:=.int .i64 x) (by rw[r8.len.1];decide) rfl
      rw[e9]
      have r9:=r8'.aV cV m9
      have eb':=eb.trans (congrArg (cJ s l (iO s l) F _) x4)
      rw[eb']at hs ⊢
      exact wL hl hw hn F m _ _ _ h9 _ _ c6 hs (by show l.length<m+(st.p.k+3);omega) Rf (by rw[qI];show met.length+1<=st.p.k+3;omega) (hB.up (by show st.p.k+1<=st.p.k+3;omega) (dW _) (dW _) (dW _) (dW _)) v9 cV jD La uo O8 ((AT.lY (by decide)).lY (by decide)) r9
     ·next hw2=>
      have n2:aa l st.p.k≠ni:=hw2
      rw[eX (by exact n2)]
      rw[aQ]at hkey
      split at hkey
      ·next yJ=>
       have e:aa l st.p.k=fL:=yJ
       obtain rfl:=oh hkey
       obtain⟨x1,x2,x,x3,x4⟩:=IF (st:=aR st (st.p.k+1)) (put:=xY) (λ_ _=>rfl) ql
       obtain⟨kk,k1,k2⟩:=atY x3
       rw[ey (by exact e),v6.all cV qk r6.len.1]
       refine lX rfl λb7 h7 q7 m7=>?_
       have v7:=v6.ak m7
       refine(IE (r6.step0 m7) Fb.old (by omega) x1 (L:=[Dk,Rq]) q7 (by decide) k1 (by decide) x2 (by omega)).bind ?_
       rintro _ h8 ⟨m8,w8,rfl,r8⟩
       simp only[ay,eV,cu,aE]
       have r8:=cS.ia v7 m8 r8
       have v8:=v7.ak m8
       obtain⟨h8',e8,v8',m8'⟩:=v8.put (i:=0) cV qk (n:=21) r6.len.1 r8.len.1 r8.len.2
       have r8':=(r8.aV cV m8').aeV (x==1)
       rw[e8,k2]
       obtain⟨h9,e9,v9,m9⟩:=v8'.wG (i:=0) (p:=14) cV (aF _ 0 w8) (y:=.bool (x==1)) (by rw[r8.len.1];decide) rfl
       rw[e9]
       have r9:=r8'.aV cV m9
       have eb':=eb.trans (congrArg (cJ s l (iO s l) F _) x4)
       rw[eb']at hs ⊢
       exact wL hl hw hn F m _ _ _ h9 _ _ c6 hs (by show l.length<m+(st.p.k+3);omega) Rf (by rw[qI];show met.length+1<=st.p.k+3;omega) (hB.up (by show st.p.k+1<=st.p.k+3;omega) (dW _) (dW _) (dW _) (dW _)) v9 cV jD La uo O8 ((AT.lY (by decide)).lY (by decide)) r9
      ·next hw3=>
       have n3:aa l st.p.k≠fL:=hw3
       rw[eX (by exact n3)]
       rw[aQ]at hkey
       split at hkey
       ·next yJ=>
        have e:aa l st.p.k=jt:=yJ
        obtain rfl:=oh hkey
        obtain⟨x1,x2,x3,x5,x4⟩:=atH (st:=aR st (st.p.k+1)) ql
        obtain⟨vp,vc,hvp,row⟩:=r6.au
        rw[ey (by exact e),v6.all cV qk r6.len.1,v6.cell (i:=0) (p:=15) cV qk hvp,ah]
        have hvl:st.p.au.length<=80100:=qb hB.au (by show st.p.k<=_;omega)
        refine(Ga r6 Fb.old (by omega) x1 (hw _) x3 x2 (qb hB.ag (by show st.p.k<=_;omega)) (L:=st.p.au) row.row hvl x5 (by omega)).bind ?_
        rintro _ h7 ⟨m7,w7,rfl,r7⟩
        simp only[ay,eV,dx,aE]
        have r7:=cS.call v6 m7 r7
        have v7:=v6.ak m7
        refine wS rfl r7.len.1 r7.len.2 λh7' m7'=>?_
        have v7:=v7.ak m7'
        have r7:=r7.step0 m7'
        obtain⟨h8,e8,v8,m8⟩:=v7.put (i:=0) cV qk (n:=21) r6.len.1 r7.len.1 r7.len.2
        have r8:=r7.aV cV m8
        rw[e8]
        obtain⟨vp,vc,hvp,row⟩:=r8.au
        refine Nh (h:=h8) (S:=λh1 F=>af h1 i 15 λz=>asSlice z F) row.row (abb _) (by show st.p.au.length*_<=_;omega) (by show st.p.au.length<=_;omega) (λhz=>by rw[List.length_eq_zero_iff.1 hz];rfl) (λh1 m1 F=>by
         show af h1 i 15 _=_
         rw[(v8.ak m1).cell (i:=0) (p:=15) cV (aF _ 0 w7) hvp,ah]) λp3 c3 h10 g10 m10=>?_
        simp only[aL]
        refine g10.push m10.next (xs:=[.str (eL (aa l (aR st (st.p.k+1)).p.k)).1]) rfl rfl (by decide) (by show(st.p.au.length+1)*_<=_;omega) (by show st.p.au.length+1<=_;omega) λp4 c4 h11 g11 m11=>?_
        have m12:Mod [] h8 h11:=m10.trans' m11 λy hy hl=>by have:=(g10.iy y hy).1;omega
        have v11:=v8.ak m12
        obtain⟨h9,e9,v9,m9⟩:=v11.wG (i:=0) (p:=15) (y:=.slice p4 (st.p.au.length+1) c4) cV (aF _ 0 w7) (by rw[r8.len.1];decide) rfl
        have hi8:=v8.ow.lt 0 i cV
        have r9:=((r8.ak m12).sx m9 λhx=>hx.2.1 0 cV).anR (G':=Nw (Fb a G (up f 2 (some x6)) h8) h8) (λb hb=>.inl hb) (NL g11 m9 hi8 _)
        have r9:=cS.mix v8 r9
        refine Eq.mpr (congrArg (λz=>cg z _) (e9 _ _)) ?_
        have eb':=eb.trans (congrArg (cJ s l (iO s l) F _) x4)
        rw[eb']at hs ⊢
        exact wL hl hw hn F m _ _ _ h9 _ _ c6 hs (by show l.length<m+(st.p.k+3);omega) Rf (by rw[qI];show met.length+1<=st.p.k+3;omega) (hB.up (by show st.p.k+1<=st.p.k+3;omega) (xo _ _) (xo _ _) (dW _) (dW _)) v9 cV jD La uo O8 ((AT.lY (by decide)).lY (by decide)) r9
       ·next hw4=>
        have n4:aa l st.p.k≠jt:=hw4
        rw[eX (by exact n4)]
        rw[aQ]at hkey
        split at hkey
        ·next yJ=>
         have e:aa l st.p.k=iL:=yJ
         obtain rfl:=oh hkey
         obtain⟨x1,x2,x3,x5,x7,x,x8,x9,sD,x4⟩:=aip (st:=aR st (st.p.k+1)) ql
         rw[ey (by exact e),v6.all cV qk r6.len.1]
         refine(aio r6 Fb.old hl hw (qb hB.bh (by show st.p.k<=_;omega)) x1 x2 x3 x5 x7 x8 x9 sD (by omega)).bind ?_
         rintro _ h7 ⟨m7,w7,rfl,r7⟩
         simp only[bG]
         have r7:=cS.call v6 m7 r7
         have v7:=v6.ak m7
         obtain⟨h9,e9,v9,m9⟩:=v7.put (i:=0) cV qk (n:=21) r6.len.1 r7.len.1 r7.len.2
         have r9:=r7.aV cV m9
         rw[e9]
         have eb':=eb.trans (congrArg (cJ s l (iO s l) F _) x4)
         rw[eb']at hs ⊢
         exact wL hl hw hn F m _ _ _ h9 _ _ c6 hs (by show l.length<m+(st.p.k+4);omega) Rf (by rw[qI];show met.length+1<=st.p.k+4;omega) (hB.up (by show st.p.k+1<=st.p.k+4;omega) (dW _) (dW _) (xo _ _) (dW _)) v9 cV jD La uo O8 (AT.lY (by decide)) r9
        ·next hw5=>
         have n5:aa l st.p.k≠iL:=hw5
         rw[eX (by exact n5)]
         cases hkey
theorem aoe(hl:l.length<=80100)(hw:∀k,(aa l k).size<90000){st:St}(hs:(oE s l st).2=true)(hG:Old G h)(hB:Bn st.p)(r:cS G h s l st.p v){n:Nat}(hn:90300<=n):
  cg (ca n rL [.agg v] h) λr h'=>Zh (Nw G h) h s l (oE s l st).1.p r h'/\Bn (oE s l st).1.p:=by
 obtain⟨n,rfl⟩:∃j,n=j+1:=⟨n - 1,by omega⟩
 obtain⟨x1,x2,x3⟩:=L9 (st:={st with yes:=1}) (L:=iO s l) hs
 rw[EA]
 refine tF λi j h2 v2=>?_
 refine v2.aD (i:=3) (by decide) rfl λkb h3 v3 m3 _=>?_
 obtain⟨h4,e4,v4,m4⟩:=v3.wG (i:=0) (w:=v) (p:=14) (y:=.bool true) rfl rfl (by rw[r.len.1];decide) rfl
 have r4:=(((r.ak v3.m).enter hG v3).aV (i:=0) rfl m4).aeV true
 rw[e4,v4.all (i:=0) rfl (aF _ 0 _) r4.len.1]
 refine(Ju r4 Fb.old (by omega) x1 x2 (by omega)).bind ?_
 rintro _ h5 ⟨m5,w5,rfl,r5⟩
 simp only[bG]
 have r5:=cS.ia v4 m5 r5
 have v5:=v4.ak m5
 obtain⟨h6,e6,v6,m6⟩:=v5.put (i:=0) rfl (aF _ 0 _) (n:=21) r4.len.1 r5.len.1 r5.len.2
 rw[e6]
 have r6:=r5.aV (i:=0) rfl m6
 have hs':(cJ s l (iO s l) (l.length+1) [] (aR {st with yes:=1} (st.p.k+2))).2=true:=by rw[<-x3];exact hs
 have e7:(oE s l st).1.p=pV (cJ s l (iO s l) (l.length+1) [] (aR {st with yes:=1} (st.p.k+2))).1:=by
  unfold oE aep
  rw[x3];rfl
 rw[e7]
 exact wL hl hw (by omega) _ _ _ [] (aR {st with yes:=1} (st.p.k+2)) h6 _ _ (.known 0) hs' (by show l.length<n+(st.p.k+2);omega) Mt.nil (uQ _) (hB.up (by show _<=st.p.k+2;omega) (dW _) (dW _) (dW _) (dW _)) v6 rfl rfl rfl rfl rfl (.nil rfl) r6
end
end Go.Ev.Tryz
