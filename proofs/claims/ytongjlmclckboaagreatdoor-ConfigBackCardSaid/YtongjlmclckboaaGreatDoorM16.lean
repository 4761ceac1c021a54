/- Own texts, joined: . -/
import Derived.Test.YtongjlmclckboaaGreatDoorM15
import Derived.Test.YtongjlmclckboaaGreatDoorM14
set_option linter.all false
namespace Go.Ev.Tryz
set_option maxRecDepth 10000
set_option maxHeartbeats 1000000
open Go.Proofs
section
variable {G:Nat->Prop}{s:Bs}{l:List Wd}{p:Ps}{v:List AV}{a h h':H}{f:Nat->Option Nat}{c:Nat->List AV}
theorem fG.enter{size len:Nat}{q:Pt}{cq:aM}{vs:List AV}(r:fG G h size q len cq vs)(hG:Old G a)(w:LV a h f c):fG (Fb a G f h) h size q len cq vs:=r.more λb hb=>⟨.inl hb,λi hi=>by have:=w.ow.ge i b hi;have:=hG b hb;omega,Ep (hG b hb) w.m.next⟩
theorem fG.step0{size len:Nat}{q:Pt}{cq:aM}{vs:List AV}(r:fG (Fb a G f h) h size q len cq vs)(m:Mod [] h h'):fG (Fb a G f h') h' size q len cq vs:=(r.ak m).more λb hb=>⟨hb.1,hb.2.1,Ep hb.2.2 m.next⟩
theorem fG.aV{size len:Nat}{q:Pt}{cq:aM}{vs:List AV}(r:fG (Fb a G f h) h size q len cq vs){i x:Nat}(hf:f i=some x)(m:Mod [x] h h'):fG (Fb a G f h') h' size q len cq vs:=(r.sx m λhx=>hx.2.1 i hf).more λb hb=>⟨hb.1,hb.2.1,Ep hb.2.2 m.next⟩
theorem fG.push{size len:Nat}{q:Pt}{cq:aM}{vs:List AV}(r:fG (Fb a G f h) h size q len cq vs){i x:Nat}(m:Mod (Ev.own (nu f i)) h h')(hx:h.next<=x):fG (Fb a G (up f i (some x)) h') h' size q len cq vs:=(r.RJ m λb hb hm=>by
  unfold nu at hm
  cases Wj:f i with
  | none=>rw[Wj]at hm;cases hm
  | some y=>
   rw[Wj]at hm
   obtain rfl:b=y:=by simpa[Ev.own]using hm
   exact hb.2.1 i Wj).more λb hb=>⟨hb.1,λj hj=>by
  by_cases hji:j=i
  ·rw[hji,aF]at hj
   have:=hb.2.2
   have:=oh hj
   omega
  ·rw[eW hji]at hj
   exact hb.2.1 j hj,Ep hb.2.2 m.next⟩
theorem LV.asF{i:Nat}{α:Type}(v:LV a h f c)(hi:i<12)(hf:f i=none){w u:List AV}(r:cS (Fb a G f h) h s l p u){K:Nat->H->Option (α×H)}{Q:α->H->Prop}(hK:∀x h',LV a h' (up f i (some x)) (up c i w)->cS (Fb a G (up f i (some x)) h') h' s l p u->cg (K x h') Q):cg (Ev.aD (.cells w false) h K) Q:=by
 rw[aL]
 exact hK _ _ (v.new hi hf w) (r.push (i:=i) ((Mod.refl _ _).new _) (cF _))
theorem uV(hl:l.length<=80100)(hw:∀k,(aa l k).size<90000){n:Nat}(hn:90200<=n){i j jb ib:Nat}:∀(F m:Nat) (M:List (Bs×Int)) (met:List Bs) (st:St) (h:H) (f:Nat->Option Nat) (c:Nat->List AV) (cq:aM),
  (cJ s l (bN s l) F M st).2=true->l.length<m+st.p.k->Mt met M->met.length<=st.p.k->Bn st.p->LV a h f c->f 0=some i->f 1=some j->f 3=some jb->f 4=some ib->(c 1).length=21->(c 3).length=10->c 4=dV st.bk->yw f c 2 1 met.length cq (met.map .str)->cS (Fb a G f h) h s l st.p (c 0)->
  cg (cR n m (some (i,0)) (some (j,0)) (some (jb,0)) (some (ib,0)) (nu f 2) met.length cq h) λr h'=>U6 (Nw G a) a s l (cJ s l (bN s l) F M st).1.p [.agg (dV (cJ s l (bN s l) F M st).1.bk)] r h'/\Bn (cJ s l (bN s l) F M st).1.p/\(cJ s l (bN s l) F M st).1.sv=st.sv
 | 0,_,_,_,_,_,_,_,_,hs,_,_,_,_,_,_,_,_,_,_,_,_,_,_=>by cases hs
 | F+1,m,M,met,st,h,f,c,cq,hs,hm,hM,Jb,hB,v,dr,jD,La,Ri,uo,O8,hc4,ar,r=>by
  obtain⟨F',eF,hx⟩:=QO hs
  obtain rfl:F=F':=Nat.succ.inj eF
  have hne:aa l st.p.k≠⟨#[]⟩:=by
   rcases hx with⟨e,_⟩ | ⟨_,key,e,_⟩
   ·rw[e];decide
   ·intro h0
    rw[h0]at e
    cases e
  have hk:=kD hne
  obtain⟨m,rfl⟩:∃x,m=x+1:=⟨m - 1,by omega⟩
  rw[yO]
  simp only[ai,Nat.zero_add]
  rw[v.cell dr rfl r.code,aj,show((0:Int)==0)=true from rfl,bM,v.all dr rfl r.len.1]
  refine lX rfl λb1 h1 q1 m1=>lX rfl λb2 h2 q2 m2=>?_
  have v2:=(v.ak m1).ak m2
  have r2:=(r.step0 m1).step0 m2
  have rt:=(ar.grow v2.ow).row
  rcases hx with⟨hsh,zB,Jc,eb⟩ | ⟨Lb,key,hkey,Rg,ql,eb⟩
  ·refine(Mi r2 Fb.old (K:=[bq,kz,fK,iU]) (lm:=4) hsh (by omega)).bind ?_
   rintro _ h3 ⟨m3,w3,rfl,r3⟩
   simp only[ay,eV,dx,aE]
   refine wS rfl r3.len.1 r3.len.2 λh4 m4=>?_
   have r4:=(cS.ia v2 m3 r3).step0 m4
   have v4:=(v2.ak m3).ak m4
   obtain⟨h5,e5,v5,m5⟩:=v4.put (i:=0) dr rfl (n:=21) r.len.1 r4.len.1 r4.len.2
   have r5:=r4.aV dr m5
   rw[e5,ey rfl,v5.all (i:=0) dr (aF c 0 w3) r5.len.1]
   refine lX rfl λb6 h6 q6 m6=>?_
   have v6:=v5.ak m6
   have AT:yw f (up c 0 w3) 2 1 met.length cq (met.map .str):=ar.lY (by decide)
   refine(R3 (r5.step0 m6) Fb.old (by omega) hsh Jc (N:=[bq,kz]) q6 (AT.grow v6.ow).row (by decide) (by omega) (Rx zB hM) (by omega)).bind ?_
   rintro _ h7 ⟨m7,w7,rfl,r7⟩
   simp only[bG]
   have v7:=v6.ak m7
   have r7:=cS.ia v6 m7 r7
   rw[ax m7,oU,v7.all (i:=4) (n:=10) (w:=dV st.bk) Ri hc4 rfl]
   obtain⟨h8,e8,v8,m8⟩:=v7.put (i:=1) jD rfl (n:=21) uo r7.len.1 r7.len.2
   have r8:=r7.aV jD m8
   have hij:ib≠j:=λh=>by
    have:=v7.ow.inj 4 1 ib Ri (by rw[h];exact jD)
    cases this
   rw[e8,show kj (some (ib,0))=some ib from rfl,zS (m8.get ib (v7.ow.lt 4 ib Ri) (by simpa using hij))]
   obtain⟨h9,e9,v9,m9⟩:=v8.put (i:=3) La rfl (n:=10) O8 (w':=dV st.bk) rfl rfl
   have r9:=r8.aV La m9
   rw[e9,v9.all (i:=1) (w:=w7) jD rfl r7.len.1,v9.all (i:=3) (n:=10) (w:=dV st.bk) La rfl rfl,eb]
   exact .pure ⟨⟨v9.m,_,rfl,r9.leave⟩,hB.up (by show _<=st.p.k+2;exact dW _) (dW _) (dW _) (dW _) (dW _),rfl⟩
  ·obtain⟨ix,hK,hMs⟩:=Ud hkey
   refine(T9 r2 Fb.old (by omega) (K:=[bq,kz,fK,iU]) (Ms:=[1,1,1,1]) (q1.ak m2) q2 rt (by decide) (by omega) hne Lb hK (by decide) hMs (by rw[<-hM];exact Rg) (by omega)).bind ?_
   rintro _ h3 ⟨m3,w3,rfl,r3⟩
   simp only[ay,eV,dx,aE]
   refine wS rfl r3.len.1 r3.len.2 λh4 m4=>?_
   have r4:=(cS.ia v2 m3 r3).step0 m4
   have v4:=(v2.ak m3).ak m4
   obtain⟨h5,e5,v5,m5⟩:=v4.put (i:=0) dr rfl (n:=21) r.len.1 r4.len.1 r4.len.2
   have r5:=r4.aV dr m5
   have ar5:yw f (up c 0 w3) 2 1 met.length cq (met.map .str):=ar.lY (by decide)
   rw[e5,eX hne]
   obtain⟨x6,c6,h6,e6,T2,v6,AT,m6⟩:=v5.push (bytes:=16) (by decide) ar5 (xs:=[.str (aa l st.p.k)]) rfl rfl (by decide) (by omega) (by omega)
   have r6:=r5.push m6 T2
   have qI:(met++[aa l st.p.k]).length=met.length+1:=by simp
   rw[e6,<-qI,<-wH f 2 x6]
   have AT:yw (up f 2 (some x6)) (up (up c 0 w3) 2 (met.map .str++[.str (aa l st.p.k)])) 2 1 (met++[aa l st.p.k]).length c6 ((met++[aa l st.p.k]).map .str):=by
    rw[hU,List.map_append]
    exact AT
   have Rf:=hM.push (aa l st.p.k)
   have cV:up f 2 (some x6) 0=some i:=dr
   have Em:up f 2 (some x6) 4=some ib:=Ri
   have qk:up (up c 0 w3) 2 (met.map .str++[.str (aa l st.p.k)]) 0=w3:=rfl
   simp only[bN,ou]at hkey
   rw[aQ]at hkey
   split at hkey
   ·next yJ=>
    have e:aa l st.p.k=bq:=yJ
    obtain rfl:=oh hkey
    obtain⟨x1,x2,x3,x4⟩:=Gb (st:=aR st (st.p.k+1)) (put:=xy) (λ_ _=>rfl) ql
    rw[ey (by exact e),v6.all cV qk r6.len.1]
    refine(Ga r6 Fb.old (by omega) x1 (hw _) x3 x2 (qb hB.ag (by omega)) (L:=[]) .nil (by decide) (by simp) (by omega)).bind ?_
    rintro _ h7 ⟨m7,w7,rfl,r7⟩
    simp only[ay,eV,dx,aE]
    have r7:=cS.call v6 m7 r7
    have v7:=v6.ak m7
    obtain⟨h8,e8,v8,m8⟩:=v7.put (i:=0) cV qk (n:=21) r6.len.1 r7.len.1 r7.len.2
    have r8:=r7.aV cV m8
    rw[e8]
    obtain⟨h9,e9,v9,m9⟩:=v8.wG (i:=4) (w:=dV st.bk) (p:=1) Em hc4 (y:=.str (eL (aa l (Jz st.p (st.p.k+1)).k)).1) (by show 1<10;decide) rfl
    rw[e9]
    have r9:=r8.aV Em m9
    have eb':=eb.trans (congrArg (cJ s l (bN s l) F _) x4)
    rw[eb']at hs ⊢
    exact uV hl hw hn F m _ _ _ h9 _ _ c6 hs (by show l.length<m+(st.p.k+3);omega) Rf (by rw[qI];show met.length+1<=st.p.k+3;omega) (hB.up (by show st.p.k+1<=st.p.k+3;omega) (xo _ _) (dW _) (dW _) (dW _)) v9 cV jD La Em uo O8 rfl ((AT.lY (by decide)).lY (by decide)) r9
   ·next hw0=>
    have n0:aa l st.p.k≠bq:=hw0
    rw[eX (by exact n0)]
    rw[aQ]at hkey
    split at hkey
    ·next yJ=>
     have e:aa l st.p.k=kz:=yJ
     obtain rfl:=oh hkey
     obtain⟨x1,x2,x3,x4⟩:=acC (st:=aR st (st.p.k+1)) (put:=pP) (λ_ _=>rfl) ql
     rw[ey (by exact e),v6.all cV qk r6.len.1]
     refine(acB r6 Fb.old (by omega) x1 (hw _) x3 x2 (by omega)).bind ?_
     rintro _ h7 ⟨m7,w7,rfl,r7⟩
     simp only[ay,eV,aE]
     have r7:=cS.ia v6 m7 r7
     have v7:=v6.ak m7
     obtain⟨h8,e8,v8,m8⟩:=v7.put (i:=0) cV qk (n:=21) r6.len.1 r7.len.1 r7.len.2
     have r8:=r7.aV cV m8
     rw[e8]
     obtain⟨h9,e9,v9,m9⟩:=v8.as5 (i:=4) (w:=dV st.bk) (p:=2) (n:=6) Em hc4 (xs:=xQ (xO (eM (aa l (Jz st.p (st.p.k+1)).k)).1)) (w':=dV {st.bk with bH:=xO (eM (aa l (Jz st.p (st.p.k+1)).k)).1}) rfl (by show 2+6<=10;decide) rfl rfl
     rw[e9]
     have r9:=r8.aV Em m9
     have eb':=eb.trans (congrArg (cJ s l (bN s l) F _) x4)
     rw[eb']at hs ⊢
     exact uV hl hw hn F m _ _ _ h9 _ _ c6 hs (by show l.length<m+(st.p.k+3);omega) Rf (by rw[qI];show met.length+1<=st.p.k+3;omega) (hB.up (by show st.p.k+1<=st.p.k+3;omega) (dW _) (dW _) (dW _) (dW _)) v9 cV jD La Em uo O8 rfl ((AT.lY (by decide)).lY (by decide)) r9
    ·next hw1=>
     have n1:aa l st.p.k≠kz:=hw1
     rw[eX (by exact n1)]
     rw[aQ]at hkey
     split at hkey
     ·next yJ=>
      have e:aa l st.p.k=fK:=yJ
      obtain rfl:=oh hkey
      obtain⟨x1,x2,x,x3,x5,U4,x4⟩:=vz (st:=aR st (st.p.k+1)) (put:=pQ) (λ_ _=>rfl) ql
      rw[ey (by exact e),v6.all cV qk r6.len.1]
      refine(vw r6 Fb.old (by omega) x1 x3 x5 U4 x2 (by omega)).bind ?_
      rintro _ h7 ⟨m7,w7,rfl,r7⟩
      simp only[ay,eV,cu,aE]
      have r7:=cS.ia v6 m7 r7
      have v7:=v6.ak m7
      obtain⟨h8,e8,v8,m8⟩:=v7.put (i:=0) cV qk (n:=21) r6.len.1 r7.len.1 r7.len.2
      have r8:=r7.aV cV m8
      rw[e8]
      obtain⟨h9,e9,v9,m9⟩:=v8.wG (i:=4) (w:=dV st.bk) (p:=8) Em hc4 (y:=.int .i64 x) (by show 8<10;decide) rfl
      rw[e9]
      have r9:=r8.aV Em m9
      have eb':=eb.trans (congrArg (cJ s l (bN s l) F _) x4)
      rw[eb']at hs ⊢
      exact uV hl hw hn F m _ _ _ h9 _ _ c6 hs (by show l.length<m+(st.p.k+3);omega) Rf (by rw[qI];show met.length+1<=st.p.k+3;omega) (hB.up (by show st.p.k+1<=st.p.k+3;omega) (dW _) (dW _) (dW _) (dW _)) v9 cV jD La Em uo O8 rfl ((AT.lY (by decide)).lY (by decide)) r9
     ·next hw2=>
      have n2:aa l st.p.k≠fK:=hw2
      rw[eX (by exact n2)]
      rw[aQ]at hkey
      split at hkey
      ·next yJ=>
       have e:aa l st.p.k=iU:=yJ
       obtain rfl:=oh hkey
       obtain⟨x1,x2,x,x3,x5,U4,x4⟩:=vz (st:=aR st (st.p.k+1)) (put:=jE) (λ_ _=>rfl) ql
       rw[ey (by exact e),v6.all cV qk r6.len.1]
       refine(vw r6 Fb.old (by omega) x1 x3 x5 U4 x2 (by omega)).bind ?_
       rintro _ h7 ⟨m7,w7,rfl,r7⟩
       simp only[ay,eV,cu,aE]
       have r7:=cS.ia v6 m7 r7
       have v7:=v6.ak m7
       obtain⟨h8,e8,v8,m8⟩:=v7.put (i:=0) cV qk (n:=21) r6.len.1 r7.len.1 r7.len.2
       have r8:=r7.aV cV m8
       rw[e8]
       obtain⟨h9,e9,v9,m9⟩:=v8.wG (i:=4) (w:=dV st.bk) (p:=9) Em hc4 (y:=.int .i64 x) (by show 9<10;decide) rfl
       rw[e9]
       have r9:=r8.aV Em m9
       have eb':=eb.trans (congrArg (cJ s l (bN s l) F _) x4)
       rw[eb']at hs ⊢
       exact uV hl hw hn F m _ _ _ h9 _ _ c6 hs (by show l.length<m+(st.p.k+3);omega) Rf (by rw[qI];show met.length+1<=st.p.k+3;omega) (hB.up (by show st.p.k+1<=st.p.k+3;omega) (dW _) (dW _) (dW _) (dW _)) v9 cV jD La Em uo O8 rfl ((AT.lY (by decide)).lY (by decide)) r9
      ·next hw3=>
       have n3:aa l st.p.k≠iU:=hw3
       rw[eX (by exact n3)]
       cases hkey
theorem EK{Q:AV->H->Prop}{n i j jb:Nat}{B:List Bk}(hp:B.length<=80100){q:Pt}{cr:aM}
  (k:∀h f c cq m,LV a h f c->f 0=some i->f 1=some j->f 3=some jb->f 4=none->f 2=none->(c 1).length=21->(c 3).length=10->yw f c 5 1 (B.map (·.name)).length cq ((B.map (·.name)).map .str)->cS (Fb a G f h) h s l p (c 0)->cg (fO n (m+1) q B.length cr (some (i,0)) (some (j,0)) (some (jb,0)) (nu f 5) (B.map (·.name)).length cq (B.length:Nat) h) Q):
  ∀(rest pre:List Bk) (m:Nat) (h:H) (f:Nat->Option Nat) (c:Nat->List AV) (cq:aM),B=pre++rest->rest.length<m->LV a h f c->f 0=some i->f 1=some j->f 3=some jb->f 4=none->f 2=none->(c 1).length=21->(c 3).length=10->yw f c 5 1 (pre.map (·.name)).length cq ((pre.map (·.name)).map .str)->fG (Fb a G f h) h 10 q B.length cr (B.flatMap dV)->cS (Fb a G f h) h s l p (c 0)->cg (fO n m q B.length cr (some (i,0)) (some (j,0)) (some (jb,0)) (nu f 5) (pre.map (·.name)).length cq (pre.length:Nat) h) Q
 | [],pre,m,h,f,c,cq,e,hm,v,dr,jD,La,Ri,O9,uo,O8,ar,row,r=>by
  obtain⟨m,rfl⟩:∃x,m=x+1:=⟨m - 1,by simp at hm;omega⟩
  rw[List.append_nil]at e
  subst e
  exact k h f c cq m v dr jD La Ri O9 uo O8 ar r
 | x::rest,pre,m+1,h,f,c,cq,e,hm,v,dr,jD,La,Ri,O9,uo,O8,ar,row,r=>by
  have hlt:pre.length<B.length:=by rw[e];simp
  have hx:B[pre.length]?=some x:=by rw[e];simp
  rw[qT]
  simp only[ai,Nat.zero_add]
  rw[cL hlt,bM,row.row.Wq E5 hx (v:=.str x.name) rfl,az]
  have NR:(pre.map (·.name)).length=pre.length:=List.length_map _
  obtain⟨x6,c6,h6,e6,T2,v6,AT,m6⟩:=v.push (bytes:=16) (i:=5) (by decide) ar (xs:=[.str x.name]) rfl rfl (by decide) (by omega) (by omega)
  rw[e6,aG (by omega)]
  have e1:(pre.map (·.name)).length+1=((pre++[x]).map (·.name)).length:=by simp
  have e2:(pre.map (·.name)).map AV.str++[.str x.name]=((pre++[x]).map (·.name)).map .str:=by simp
  have ih:=EK hp k rest (pre++[x]) m h6 _ _ c6 (by rw[e];simp) (by simp at hm;omega) v6 dr jD La Ri O9 uo O8 (by rw[<-e1,<-e2];exact AT) (row.push m6 T2) (r.push m6 T2)
  rw[wH,<-e1,hU,Lf]at ih
  exact ih
theorem ZD(hl:l.length<=80100)(hw:∀k,(aa l k).size<90000){st:St}(hs:(dh s l st).2=true)(hG:Old G h)(hB:Bn st.p)(hb:st.sv.bf.length<=80100)(r:cS G h s l st.p v){q:Pt}{cr:aM}(row:fG G h 10 q st.sv.bf.length cr (st.sv.bf.flatMap dV)){n:Nat}(hn:90300<=n):
  cg (ca n nQ [.agg v,.slice q st.sv.bf.length cr] h) λr h'=>∃x,U6 (Nw G h) h s l (dh s l st).1.p [.agg (dV x)] r h'/\Bn (dh s l st).1.p/\(dh s l st).1.sv={st.sv with bf:=st.sv.bf++[x]}:=by
 obtain⟨n,rfl⟩:∃j,n=j+1:=⟨n - 1,by omega⟩
 rw[Bj]
 refine tF λi j h0 v0=>?_
 refine v0.aD (i:=3) (by decide) rfl λjb h1 v1 m1 _=>?_
 refine EK (a:=h) (G:=G) (s:=s) (l:=l) (p:=st.p) hb ?_ st.sv.bf [] n h1 _ _ (.known 0) rfl (by omega) v1 rfl rfl rfl rfl rfl rfl rfl (.nil rfl) ((row.ak v1.m).enter hG v1) ((r.ak v1.m).enter hG v1)
 intro h1 f c cq m v1 dr jD La Ri O9 uo O8 ar r1
 rw[qT]
 simp only[ai,Nat.zero_add]
 rw[aT (cF _),br,v1.all (i:=0) dr rfl r1.len.1]
 unfold dh at hs ⊢
 have hlm:(st.sv.bf.map (·.name)).length=st.sv.bf.length:=List.length_map _
 rcases Ml (s:=s) (l:=l) (st.sv.bf.map (·.name)) st.p with e | ⟨e,x1,x2,x3⟩
 ·generalize cB s l (st.sv.bf.map (·.name)) st.p=r at hs e
  obtain⟨r1,r2,r3⟩:=r
  obtain rfl:r3=false:=e
  cases hs
 rw[e]at hs ⊢
 refine(WT r1 Fb.old (by omega) x1 x2 (ar.grow v1.ow).row (by omega) x3 (by omega)).bind ?_
 rintro _ h2 ⟨m2,w2,rfl,r2⟩
 simp only[ay,eV,dx,aE]
 have v2:=v1.ak m2
 have r2:=cS.ia v1 m2 r2
 obtain⟨h3,e3,v3,m3⟩:=v2.put (i:=0) dr rfl (n:=21) r1.len.1 r2.len.1 r2.len.2
 have r3:=r2.aV dr m3
 rw[e3]
 refine v3.asF (i:=4) (by decide) Ri r3 λib h4 v4 r4=>?_
 obtain⟨h5,e5,v5,m5⟩:=v4.put (i:=4) (aF _ _ _) (aF _ _ _) (n:=10) rfl (w':=[.str (aa l st.p.k),.str .empty,.int .u8 0,.int .u8 0,.int .u8 0,.int .u8 0,.int .u8 0,.int .u8 0,.int .i64 0,.int .i64 1]) rfl rfl
 have r5:=r4.aV (i:=4) (aF _ _ _) m5
 have hs':(bL s l (bN s l) {aA st {st.p with k:=st.p.k+1}with bk:=⟨aa l st.p.k,⟨#[]⟩,EE,0,1⟩}).2=true:=hs
 obtain⟨y1,y2,y3⟩:=L9 hs'
 have cV:up f 4 (some ib) 0=some i:=dr
 rw[e5,v5.all (i:=0) (w:=w2) cV rfl r5.len.1]
 refine(Ju r5 Fb.old (by omega) y1 y2 (by omega)).bind ?_
 rintro _ h6 ⟨m6,w6,rfl,r6⟩
 simp only[bG]
 have r6:=cS.ia v5 m6 r6
 have v6:=v5.ak m6
 obtain⟨h7,e7,v7,m7⟩:=v6.put (i:=0) (w:=w2) cV rfl (n:=21) r5.len.1 r6.len.1 r6.len.2
 rw[e7]
 have r7:=r6.aV (i:=0) cV m7
 rw[y3]at hs'
 have:=uV (n:=n) hl hw (by omega) _ n [] [] _ h7 _ _ (.known 0) hs' (by show l.length<n+(st.p.k+1+2);omega) Mt.nil (uQ _) (hB.up (by show st.p.k+1<=st.p.k+1+2;omega) (dW _) (dW _) (dW _) (dW _)) v7 cV jD La (aF _ _ _) uo O8 rfl (.nil O9) r7
 have e8:nu (up f 4 (some ib)) 2=none:=by unfold nu;rw[eW (by decide),O9];rfl
 rw[e8,<-y3]at this
 refine this.mono ?_
 rintro _ h8 ⟨p1,p2,p3⟩
 exact⟨_,p1,p2,congrArg (λz:Sv=>({z with bf:=z.bf++[(bL s l (bN s l) {aA st {st.p with k:=st.p.k+1}with bk:=⟨aa l st.p.k,⟨#[]⟩,EE,0,1⟩}).1.bk]}:Sv)) p3⟩
end
def apQ(G:Nat->Prop)(a:H)(s:Bs)(l:List Wd)(p:Ps)(x:Sv)(r:AV)(h':H):Prop:=
 Mod [] a h'/\∃v bp bc,r=.dJ [.agg v,.agg (cU x (.slice bp x.bf.length bc))]/\cS G h' s l p v/\fG G h' 10 bp x.bf.length bc (x.bf.flatMap dV)
theorem acm(xs:List Bk):(xs.flatMap dV).all cT=true:=by
 simp[List.all_flatMap,dV,cT]
theorem ZC{s:Bs}{l:List Wd}{st:St}(h:(dh s l st).2=true):st.p.k+1<=(dh s l st).1.p.k:=by
 unfold dh at h ⊢
 rcases Ml (s:=s) (l:=l) (st.sv.bf.map (·.name)) st.p with e | ⟨e,x1,x2,x3⟩
 ·generalize cB s l (st.sv.bf.map (·.name)) st.p=r at h e
  obtain⟨r1,r2,r3⟩:=r
  obtain rfl:r3=false:=e
  cases h
 rw[e]at h ⊢
 have:=uW (s:=s) (l:=l) (HF s l) {aA st {st.p with k:=st.p.k+1}with bk:=⟨aa l st.p.k,⟨#[]⟩,EE,0,1⟩}
 exact this
theorem ahF{w:Bs}{x:Int}(h:lk zU w=some x):∃k:Nat,[HV,HW][k]?=some w/\((k=0/\x=6)∨(k=1/\x=17)):=by
 simp only[zU]at h
 rw[aQ]at h
 split at h
 ·next e=>exact⟨0,by rw[e];rfl,.inl ⟨rfl,(oh h).symm⟩⟩
 ·rw[aQ]at h
  split at h
  ·next e=>exact⟨1,by rw[e];rfl,.inr ⟨rfl,(oh h).symm⟩⟩
  ·cases h
theorem amU{w:Bs}{x:Int}(h:lk Fx w=some x):∃k:Nat,[HU,Ws,zF][k]?=some w/\((k+1:Nat):Int)=x:=by
 simp only[Fx]at h
 rw[aQ]at h
 split at h
 ·next e=>exact⟨0,by rw[e];rfl,oh h⟩
 ·rw[aQ]at h
  split at h
  ·next e=>exact⟨1,by rw[e];rfl,oh h⟩
  ·rw[aQ]at h
   split at h
   ·next e=>exact⟨2,by rw[e];rfl,oh h⟩
   ·cases h
theorem aia{w:Bs}{x:Int}(h:lk zT w=some x):∃k:Nat,[oR,oS][k]?=some w/\((k+1:Nat):Int)=x:=by
 simp only[zT]at h
 rw[aQ]at h
 split at h
 ·next e=>exact⟨0,by rw[e];rfl,oh h⟩
 ·rw[aQ]at h
  split at h
  ·next e=>exact⟨1,by rw[e];rfl,oh h⟩
  ·cases h
section
variable {G:Nat->Prop}{s:Bs}{l:List Wd}{p:Ps}{v:List AV}{a h h':H}{f:Nat->Option Nat}{c:Nat->List AV}
theorem LV.ajo{i:Nat}{α:Type}(v:LV a h f c)(hi:i<12)(hf:f i=none){w u:List AV}(r:cS (Fb a G f h) h s l p u){size len:Nat}{q:Pt}{cq:aM}{vs:List AV}(row:fG (Fb a G f h) h size q len cq vs){K:Nat->H->Option (α×H)}{Q:α->H->Prop}(hK:∀x h',LV a h' (up f i (some x)) (up c i w)->cS (Fb a G (up f i (some x)) h') h' s l p u->fG (Fb a G (up f i (some x)) h') h' size q len cq vs->cg (K x h') Q):cg (Ev.aD (.cells w false) h K) Q:=by
 rw[aL]
 exact hK _ _ (v.new hi hf w) (r.push (i:=i) ((Mod.refl _ _).new _) (cF _)) (fG.push row (i:=i) ((Mod.refl _ _).new _) (cF _))
theorem p8{n i ix j jx:Nat}{x:Sv}{bp:Pt}{bc:aM}{w:List AV}(v:LV a h f c)(dr:f 0=some i)(jD:f 1=some j)(O9:f 2=some ix)(La:f 3=some jx)(hc0:c 0=w)(uo:(c 1).length=21)(O8:(c 3).length=10)(hc2:c 2=cU x (.slice bp x.bf.length bc))(r:cS (Fb a G f h) h s l p w)(row:fG (Fb a G f h) h 10 bp x.bf.length bc (x.bf.flatMap dV)):
  cg (bw n (some (i,0)) (some (ix,0)) (some (j,0)) (some (jx,0)) h) (apQ (Nw G a) a s l p x):=by
 rw[Av]
 simp only[ai]
 rw[v.all (i:=0) dr hc0 r.len.1,v.all (i:=2) (n:=10) O9 hc2 rfl]
 simp only[cU,dx,cu,ux,aE]
 obtain⟨h1,e1,v1,m1⟩:=v.put (i:=1) jD rfl (n:=21) uo r.len.1 r.len.2
 have r1:=r.aV jD m1
 have aAR:=row.aV jD m1
 have hij:ix≠j:=λh=>by
  have:=v.ow.inj 2 1 ix O9 (by rw[h];exact jD)
  cases this
 rw[e1,show kj (some (ix,0))=some ix from rfl,zS (m1.get ix (v.ow.lt 2 ix O9) (by simpa using hij))]
 obtain⟨h2,e2,v2,m2⟩:=v1.put (i:=3) La rfl (n:=10) O8 (w':=cU x (.slice bp x.bf.length bc)) rfl rfl
 have r2:=r1.aV La m2
 have ah7:=aAR.aV La m2
 simp only[cU]at e2
 rw[e2,v2.all (i:=1) (w:=w) jD rfl r.len.1,v2.all (i:=3) (n:=10) (w:=cU x (.slice bp x.bf.length bc)) La rfl rfl]
 simp only[cU,dx,cu,ux,aE]
 exact .pure ⟨v2.m,w,bp,bc,rfl,r2.leave,ah7.more λb hb=>hb.1⟩
theorem agB(hl:l.length<=80100)(hw:∀k,(aa l k).size<90000){st:St}{w:Bs}{key:Key}(hkey:lk (bR s l) w=some key)(ql:(key.sem st).2=true)(hG:Old G h)(hB:Bn st.p)(hb:st.sv.bf.length<=st.p.k)(hkl:st.p.k<=l.length)(r:cS G h s l st.p v){q:Pt}{cr:aM}(row:fG G h 10 q st.sv.bf.length cr (st.sv.bf.flatMap dV)){n:Nat}(hn:90400<=n):
  cg (ca n qq [.agg v,.agg (cU st.sv (.slice q st.sv.bf.length cr)),.str w] h) λr h'=>apQ (Nw G h) h s l (key.sem st).1.p (key.sem st).1.sv r h'/\Bn (key.sem st).1.p/\st.p.k+1<=(key.sem st).1.p.k/\(key.sem st).1.sv.bf.length<=st.sv.bf.length+1:=by
 obtain⟨n,rfl⟩:∃j,n=j+1:=⟨n - 1,by omega⟩
 simp only[cU]
 rw[DE]
 refine(LV.nil h).aD (i:=0) (by decide) rfl λi h1 v1 _ _=>?_
 refine v1.aD (i:=2) (by decide) rfl λix h2 v2 _ _=>?_
 refine v2.aD (i:=1) (by decide) rfl λj h3 v3 _ _=>?_
 refine v3.aD (i:=3) (by decide) rfl λjx h6 v6 _ _=>?_
 have r6:=(r.ak v6.m).enter hG v6
 have Co:=(row.ak v6.m).enter hG v6
 simp only[bR,ou]at hkey
 rw[aQ]at hkey
 split at hkey
 ·next yJ=>
  have e:w=nj:=yJ
  obtain rfl:=oh hkey
  obtain⟨x1,x2,x,x3,x4⟩:=IF (put:=lu) (λ_ _=>rfl) ql
  obtain⟨kk,k1,k2⟩:=ahF x3
  rw[ey (by exact e),v6.all (i:=0) (w:=v) rfl rfl r.len.1]
  refine lX rfl λb7 h6' q7 m6'=>?_
  have v6:=v6.ak m6'
  have Co:=Co.step0 m6'
  refine(IE (r6.step0 m6') Fb.old (by omega) x1 (L:=[HV,HW]) q7 (by decide) k1 (by decide) x2 (by omega)).bind ?_
  rintro _ h7 ⟨m7,w7,rfl,r7⟩
  simp only[ay,eV,cu,aE]
  have r7:=cS.ia v6 m7 r7
  have v7:=v6.ak m7
  have zR:=Co.step0 m7
  obtain⟨h8,e8,v8,m8⟩:=v7.put (i:=0) (w:=v) rfl rfl (n:=21) r.len.1 r7.len.1 r7.len.2
  have r8:=r7.aV (i:=0) rfl m8
  have yS:=zR.aV (i:=0) rfl m8
  rw[e8]
  obtain⟨h9,e9,v9,m9⟩:=v8.wG (i:=2) (w:=cU st.sv (.slice q st.sv.bf.length cr)) (p:=2) rfl rfl (y:=.int .i64 17) (by show 2<10;decide) rfl
  rw[e9]
  have XL:((⟨1,true,0,[],[],cM s l lu zU⟩:Key).sem st).1=_:=x4
  rw[XL]
  rcases k2 with⟨rfl,rfl⟩ | ⟨rfl,rfl⟩
  ·rw[show((((0+1:Nat):Int))==1)=true from rfl,bM]
   have r8:=r8.aV (i:=2) rfl m9
   have yS:=yS.aV (i:=2) rfl m9
   obtain⟨h9,e9,v9,m9⟩:=v9.wG (i:=2) (w:=cU {st.sv with proto:=17} (.slice q st.sv.bf.length cr)) (p:=2) rfl rfl (y:=.int .i64 6) (by show 2<10;decide) rfl
   rw[e9]
   have r9:=r8.aV (i:=2) rfl m9
   have Bv:=yS.aV (i:=2) rfl m9
   exact(p8 (x:={st.sv with proto:=6}) (w:=w7) v9 rfl rfl rfl rfl rfl rfl rfl rfl r9 Bv).mono λ_ _ he=>⟨he,hB.up (by show st.p.k+1<=st.p.k+2;omega) (dW _) (dW _) (dW _) (dW _),(by show st.p.k+1<=st.p.k+2;omega),dW _⟩
  ·rw[show((((1+1:Nat):Int))==1)=false from rfl,br]
   have r9:=r8.aV (i:=2) rfl m9
   have Bv:=yS.aV (i:=2) rfl m9
   exact(p8 (x:={st.sv with proto:=17}) (w:=w7) v9 rfl rfl rfl rfl rfl rfl rfl rfl r9 Bv).mono λ_ _ he=>⟨he,hB.up (by show st.p.k+1<=st.p.k+2;omega) (dW _) (dW _) (dW _) (dW _),(by show st.p.k+1<=st.p.k+2;omega),dW _⟩
 ·next hw0=>
  have n0:w≠nj:=hw0
  rw[eX (by exact n0)]
  rw[aQ]at hkey
  split at hkey
  ·next yJ=>
   have e:w=jt:=yJ
   obtain rfl:=oh hkey
   obtain⟨x1,x2,x3,x4⟩:=Gb (put:=AN) (λ_ _=>rfl) ql
   rw[ey (by exact e),v6.all (i:=0) (w:=v) rfl rfl r.len.1]
   refine(Ga r6 Fb.old (by omega) x1 (hw _) x3 x2 (qb hB.ag (by omega)) (L:=[]) .nil (by decide) (by simp) (by omega)).bind ?_
   rintro _ h7 ⟨m7,w7,rfl,r7⟩
   simp only[ay,eV,dx,aE]
   have r7:=cS.call v6 m7 r7
   have v7:=v6.ak m7
   have zR:=Co.step0 m7
   obtain⟨h8,e8,v8,m8⟩:=v7.put (i:=0) (w:=v) rfl rfl (n:=21) r.len.1 r7.len.1 r7.len.2
   have r8:=r7.aV (i:=0) rfl m8
   have yS:=zR.aV (i:=0) rfl m8
   rw[e8]
   obtain⟨h9,e9,v9,m9⟩:=v8.wG (i:=2) (w:=cU st.sv (.slice q st.sv.bf.length cr)) (p:=1) rfl rfl (y:=.str (eL (aa l st.p.k)).1) (by show 1<10;decide) rfl
   rw[e9]
   have XL:((⟨1,true,0,[],[],bt s l true (j8 AN)⟩:Key).sem st).1=_:=x4
   rw[XL]
   have r9:=r8.aV (i:=2) rfl m9
   have Bv:=yS.aV (i:=2) rfl m9
   exact(p8 (x:={st.sv with D1:=(eL (aa l st.p.k)).1}) (w:=w7) v9 rfl rfl rfl rfl rfl rfl rfl rfl r9 Bv).mono λ_ _ he=>⟨he,hB.up (by show st.p.k+1<=st.p.k+2;omega) (xo _ _) (dW _) (dW _) (dW _),(by show st.p.k+1<=st.p.k+2;omega),dW _⟩
  ·next hw1=>
   have n1:w≠jt:=hw1
   rw[eX (by exact n1)]
   rw[aQ]at hkey
   split at hkey
   ·next yJ=>
    have e:w=fK:=yJ
    obtain rfl:=oh hkey
    obtain⟨x1,x2,x,x3,x5,U4,x4⟩:=vz (put:=pU) (λ_ _=>rfl) ql
    rw[ey (by exact e),v6.all (i:=0) (w:=v) rfl rfl r.len.1]
    refine(vw r6 Fb.old (by omega) x1 x3 x5 U4 x2 (by omega)).bind ?_
    rintro _ h7 ⟨m7,w7,rfl,r7⟩
    simp only[ay,eV,cu,aE]
    have r7:=cS.ia v6 m7 r7
    have v7:=v6.ak m7
    have zR:=Co.step0 m7
    obtain⟨h8,e8,v8,m8⟩:=v7.put (i:=0) (w:=v) rfl rfl (n:=21) r.len.1 r7.len.1 r7.len.2
    have r8:=r7.aV (i:=0) rfl m8
    have yS:=zR.aV (i:=0) rfl m8
    rw[e8]
    obtain⟨h9,e9,v9,m9⟩:=v8.wG (i:=2) (w:=cU st.sv (.slice q st.sv.bf.length cr)) (p:=3) rfl rfl (y:=.int .i64 x) (by show 3<10;decide) rfl
    rw[e9]
    have XL:((⟨1,true,0,[],[],bC s l pU 1 65535⟩:Key).sem st).1=_:=x4
    rw[XL]
    have r9:=r8.aV (i:=2) rfl m9
    have Bv:=yS.aV (i:=2) rfl m9
    exact(p8 (x:={st.sv with port:=x}) (w:=w7) v9 rfl rfl rfl rfl rfl rfl rfl rfl r9 Bv).mono λ_ _ he=>⟨he,hB.up (by show st.p.k+1<=st.p.k+2;omega) (dW _) (dW _) (dW _) (dW _),(by show st.p.k+1<=st.p.k+2;omega),dW _⟩
   ·next hw2=>
    have n2:w≠fK:=hw2
    rw[eX (by exact n2)]
    rw[aQ]at hkey
    split at hkey
    ·next yJ=>
     have e:w=th:=yJ
     obtain rfl:=oh hkey
     obtain⟨x1,x2,x,x3,x4⟩:=IF (put:=pS) (λ_ _=>rfl) ql
     obtain⟨kk,k1,rfl⟩:=amU x3
     rw[ey (by exact e),v6.all (i:=0) (w:=v) rfl rfl r.len.1]
     refine lX rfl λb7 h6' q7 m6'=>?_
     have v6:=v6.ak m6'
     have Co:=Co.step0 m6'
     refine(IE (r6.step0 m6') Fb.old (by omega) x1 (L:=[HU,Ws,zF]) q7 (by decide) k1 (by decide) x2 (by omega)).bind ?_
     rintro _ h7 ⟨m7,w7,rfl,r7⟩
     simp only[ay,eV,cu,aE]
     have r7:=cS.ia v6 m7 r7
     have v7:=v6.ak m7
     have zR:=Co.step0 m7
     obtain⟨h8,e8,v8,m8⟩:=v7.put (i:=0) (w:=v) rfl rfl (n:=21) r.len.1 r7.len.1 r7.len.2
     have r8:=r7.aV (i:=0) rfl m8
     have yS:=zR.aV (i:=0) rfl m8
     rw[e8]
     obtain⟨h9,e9,v9,m9⟩:=v8.wG (i:=2) (w:=cU st.sv (.slice q st.sv.bf.length cr)) (p:=4) rfl rfl (y:=.int .i64 ((kk+1:Nat):Int)) (by show 4<10;decide) rfl
     rw[e9]
     have XL:((⟨1,true,0,[],[],cM s l pS Fx⟩:Key).sem st).1=_:=x4
     rw[XL]
     have r9:=r8.aV (i:=2) rfl m9
     have Bv:=yS.aV (i:=2) rfl m9
     exact(p8 (x:={st.sv with mode:=((kk+1:Nat):Int)}) (w:=w7) v9 rfl rfl rfl rfl rfl rfl rfl rfl r9 Bv).mono λ_ _ he=>⟨he,hB.up (by show st.p.k+1<=st.p.k+2;omega) (dW _) (dW _) (dW _) (dW _),(by show st.p.k+1<=st.p.k+2;omega),dW _⟩
    ·next hw3=>
     have n3:w≠th:=hw3
     rw[eX (by exact n3)]
     rw[aQ]at hkey
     split at hkey
     ·next yJ=>
      have e:w=qw:=yJ
      obtain rfl:=oh hkey
      obtain⟨x1,x2,x,x3,x4⟩:=IF (put:=lz) (λ_ _=>rfl) ql
      obtain⟨kk,k1,rfl⟩:=aia x3
      rw[ey (by exact e),v6.all (i:=0) (w:=v) rfl rfl r.len.1]
      refine lX rfl λb7 h6' q7 m6'=>?_
      have v6:=v6.ak m6'
      have Co:=Co.step0 m6'
      refine(IE (r6.step0 m6') Fb.old (by omega) x1 (L:=[oR,oS]) q7 (by decide) k1 (by decide) x2 (by omega)).bind ?_
      rintro _ h7 ⟨m7,w7,rfl,r7⟩
      simp only[ay,eV,cu,aE]
      have r7:=cS.ia v6 m7 r7
      have v7:=v6.ak m7
      have zR:=Co.step0 m7
      obtain⟨h8,e8,v8,m8⟩:=v7.put (i:=0) (w:=v) rfl rfl (n:=21) r.len.1 r7.len.1 r7.len.2
      have r8:=r7.aV (i:=0) rfl m8
      have yS:=zR.aV (i:=0) rfl m8
      rw[e8]
      obtain⟨h9,e9,v9,m9⟩:=v8.wG (i:=2) (w:=cU st.sv (.slice q st.sv.bf.length cr)) (p:=5) rfl rfl (y:=.int .i64 ((kk+1:Nat):Int)) (by show 5<10;decide) rfl
      rw[e9]
      have XL:((⟨1,false,0,[],[],cM s l lz zT⟩:Key).sem st).1=_:=x4
      rw[XL]
      have r9:=r8.aV (i:=2) rfl m9
      have Bv:=yS.aV (i:=2) rfl m9
      exact(p8 (x:={st.sv with sched:=((kk+1:Nat):Int)}) (w:=w7) v9 rfl rfl rfl rfl rfl rfl rfl rfl r9 Bv).mono λ_ _ he=>⟨he,hB.up (by show st.p.k+1<=st.p.k+2;omega) (dW _) (dW _) (dW _) (dW _),(by show st.p.k+1<=st.p.k+2;omega),dW _⟩
     ·next hw4=>
      have n4:w≠qw:=hw4
      rw[eX (by exact n4)]
      rw[aQ]at hkey
      split at hkey
      ·next yJ=>
       have e:w=vT:=yJ
       obtain rfl:=oh hkey
       obtain⟨x1,x2,x,x3,x5,U4,x4⟩:=vz (put:=pW) (λ_ _=>rfl) ql
       rw[ey (by exact e),v6.all (i:=0) (w:=v) rfl rfl r.len.1]
       refine(vw r6 Fb.old (by omega) x1 x3 x5 U4 x2 (by omega)).bind ?_
       rintro _ h7 ⟨m7,w7,rfl,r7⟩
       simp only[ay,eV,cu,aE]
       have r7:=cS.ia v6 m7 r7
       have v7:=v6.ak m7
       have zR:=Co.step0 m7
       obtain⟨h8,e8,v8,m8⟩:=v7.put (i:=0) (w:=v) rfl rfl (n:=21) r.len.1 r7.len.1 r7.len.2
       have r8:=r7.aV (i:=0) rfl m8
       have yS:=zR.aV (i:=0) rfl m8
       rw[e8]
       obtain⟨h9,e9,v9,m9⟩:=v8.wG (i:=2) (w:=cU st.sv (.slice q st.sv.bf.length cr)) (p:=6) rfl rfl (y:=.int .i64 x) (by show 6<10;decide) rfl
       rw[e9]
       have XL:((⟨1,false,0,[],[],bC s l pW 1 20⟩:Key).sem st).1=_:=x4
       rw[XL]
       have r9:=r8.aV (i:=2) rfl m9
       have Bv:=yS.aV (i:=2) rfl m9
       exact(p8 (x:={st.sv with ju:=x}) (w:=w7) v9 rfl rfl rfl rfl rfl rfl rfl rfl r9 Bv).mono λ_ _ he=>⟨he,hB.up (by show st.p.k+1<=st.p.k+2;omega) (dW _) (dW _) (dW _) (dW _),(by show st.p.k+1<=st.p.k+2;omega),dW _⟩
      ·next hw5=>
       have n5:w≠vT:=hw5
       rw[eX (by exact n5)]
       rw[aQ]at hkey
       split at hkey
       ·next yJ=>
        have e:w=vS:=yJ
        obtain rfl:=oh hkey
        obtain⟨x1,x2,x,x3,x5,U4,x4⟩:=vz (put:=pR) (λ_ _=>rfl) ql
        rw[ey (by exact e),v6.all (i:=0) (w:=v) rfl rfl r.len.1]
        refine(vw r6 Fb.old (by omega) x1 x3 x5 U4 x2 (by omega)).bind ?_
        rintro _ h7 ⟨m7,w7,rfl,r7⟩
        simp only[ay,eV,cu,aE]
        have r7:=cS.ia v6 m7 r7
        have v7:=v6.ak m7
        have zR:=Co.step0 m7
        obtain⟨h8,e8,v8,m8⟩:=v7.put (i:=0) (w:=v) rfl rfl (n:=21) r.len.1 r7.len.1 r7.len.2
        have r8:=r7.aV (i:=0) rfl m8
        have yS:=zR.aV (i:=0) rfl m8
        rw[e8]
        obtain⟨h9,e9,v9,m9⟩:=v8.wG (i:=2) (w:=cU st.sv (.slice q st.sv.bf.length cr)) (p:=7) rfl rfl (y:=.int .i64 x) (by show 7<10;decide) rfl
        rw[e9]
        have XL:((⟨1,false,0,[],[],bC s l pR 1 20⟩:Key).sem st).1=_:=x4
        rw[XL]
        have r9:=r8.aV (i:=2) rfl m9
        have Bv:=yS.aV (i:=2) rfl m9
        exact(p8 (x:={st.sv with jr:=x}) (w:=w7) v9 rfl rfl rfl rfl rfl rfl rfl rfl r9 Bv).mono λ_ _ he=>⟨he,hB.up (by show st.p.k+1<=st.p.k+2;omega) (dW _) (dW _) (dW _) (dW _),(by show st.p.k+1<=st.p.k+2;omega),dW _⟩
       ·next hw6=>
        have n6:w≠vS:=hw6
        rw[eX (by exact n6)]
        rw[aQ]at hkey
        split at hkey
        ·next yJ=>
         have e:w=qv:=yJ
         obtain rfl:=oh hkey
         obtain⟨x1,x2,x,x3,x5,U4,x4⟩:=vz (put:=lq) (λ_ _=>rfl) ql
         rw[ey (by exact e),v6.all (i:=0) (w:=v) rfl rfl r.len.1]
         refine(vw r6 Fb.old (by omega) x1 x3 x5 U4 x2 (by omega)).bind ?_
         rintro _ h7 ⟨m7,w7,rfl,r7⟩
         simp only[ay,eV,cu,aE]
         have r7:=cS.ia v6 m7 r7
         have v7:=v6.ak m7
         have zR:=Co.step0 m7
         obtain⟨h8,e8,v8,m8⟩:=v7.put (i:=0) (w:=v) rfl rfl (n:=21) r.len.1 r7.len.1 r7.len.2
         have r8:=r7.aV (i:=0) rfl m8
         have yS:=zR.aV (i:=0) rfl m8
         rw[e8]
         obtain⟨h9,e9,v9,m9⟩:=v8.wG (i:=2) (w:=cU st.sv (.slice q st.sv.bf.length cr)) (p:=8) rfl rfl (y:=.int .i64 x) (by show 8<10;decide) rfl
         rw[e9]
         have XL:((⟨1,false,0,[],[],bC s l lq 1 10000⟩:Key).sem st).1=_:=x4
         rw[XL]
         have r9:=r8.aV (i:=2) rfl m9
         have Bv:=yS.aV (i:=2) rfl m9
         exact(p8 (x:={st.sv with probe:=x}) (w:=w7) v9 rfl rfl rfl rfl rfl rfl rfl rfl r9 Bv).mono λ_ _ he=>⟨he,hB.up (by show st.p.k+1<=st.p.k+2;omega) (dW _) (dW _) (dW _) (dW _),(by show st.p.k+1<=st.p.k+2;omega),dW _⟩
        ·next hw7=>
         have n7:w≠qv:=hw7
         rw[eX (by exact n7)]
         rw[aQ]at hkey
         split at hkey
         ·next yJ=>
          have e:w=cP:=yJ
          obtain rfl:=oh hkey
          rw[ey (by exact e),v6.all (i:=0) (w:=v) rfl rfl r.len.1,v6.cell (i:=2) (w:=cU st.sv (.slice q st.sv.bf.length cr)) (p:=9) rfl rfl rfl,ah]
          have ajg:(dh s l st).2=true:=ql
          refine(ZD hl hw ajg Fb.old hB (by omega) r6 Co (by omega)).bind ?_
          rintro _ h7 ⟨xb,⟨m7,w7,rfl,r7⟩,b7,sv7⟩
          simp only[ay,eV,aE]
          have r7:=cS.call v6 m7 r7
          have v7:=v6.ak m7
          have zR:=Co.step0 m7
          refine v7.ajo (i:=4) (by decide) rfl r7 zR λit h8 v8 r8 yS=>?_
          refine v8.ajo (i:=5) (by decide) rfl r8 yS λib h9 v9 r9 Bv=>?_
          obtain⟨h10,e10,v10,m10⟩:=v9.put (i:=4) rfl rfl (n:=21) rfl r7.len.1 r7.len.2
          have r10:=r9.aV (i:=4) rfl m10
          have atq:=Bv.aV (i:=4) rfl m10
          obtain⟨h11,e11,v11,m11⟩:=v10.put (i:=5) rfl rfl (n:=10) rfl (w':=dV xb) rfl rfl
          have r11:=r10.aV (i:=5) rfl m11
          have atr:=atq.aV (i:=5) rfl m11
          rw[e10,e11,v11.all (i:=4) (w:=w7) rfl rfl r7.len.1]
          obtain⟨h12,e12,v12,m12⟩:=v11.put (i:=0) (w:=v) rfl rfl (n:=21) r.len.1 r7.len.1 r7.len.2
          have r12:=r11.aV (i:=0) rfl m12
          have att:=atr.aV (i:=0) rfl m12
          rw[e12]
          refine Nh (h:=h12) (S:=λh1 F=>af h1 ix 9 λz=>asSlice z F) att.row (acm _) (by omega) (by omega) (λhz=>by rw[List.length_eq_zero_iff.1 hz];rfl) (λh1 m1 F=>by
           show af h1 ix 9 _=_
           rw[(v12.ak m1).cell (i:=2) (w:=cU st.sv (.slice q st.sv.bf.length cr)) (p:=9) rfl rfl rfl,ah]) λp3 c3 JT g13 m13=>?_
          rw[(v12.ak m13).all (i:=5) (n:=10) (w:=dV xb) rfl rfl rfl,if_pos ⟨rfl,by decide⟩,show List.append (List.append [] (dV xb)) []=dV xb from rfl]
          simp only[aL]
          refine g13.push m13.next (xs:=dV xb) rfl rfl (by decide) (by omega) (by omega) λp4 c4 JU g14 m14=>?_
          have m15:Mod [] h12 JU:=m13.trans' m14 λy hy hl=>by have:=(g13.iy y hy).1;omega
          have v14:=v12.ak m15
          obtain⟨NM,e15,v15,m16⟩:=v14.wG (i:=2) (w:=cU st.sv (.slice q st.sv.bf.length cr)) (p:=9) (y:=.slice p4 (st.sv.bf.length+1) c4) rfl rfl (by show 9<10;decide) rfl
          have adl:=v12.ow.lt 2 ix rfl
          have r15:cS (Fb h G _ NM) NM s l _ w7:=cS.mix v12 (((r12.ak m15).sx m16 λhx=>hx.2.1 2 rfl).more λb hb=>.inl hb)
          have Uy:=NL (P:=Fb h G (up (up (up (up (up (up (λ_=>none) 0 (some i)) 2 (some ix)) 1 (some j)) 3 (some jx)) 4 (some it)) 5 (some ib)) h12) g14 m16 adl
          have Uy:fG (Fb h G (up (up (up (up (up (up (λ_=>none) 0 (some i)) 2 (some ix)) 1 (some j)) 3 (some jx)) 4 (some it)) 5 (some ib)) NM) NM 10 p4 (st.sv.bf.length+1) c4 (st.sv.bf.flatMap dV++dV xb):=(fG.lt Uy).more λb hb=>by
           obtain⟨h1 | h1,h2⟩:=hb
           ·exact⟨h1.1,h1.2.1,h2⟩
           ·exact⟨.inr (qb v12.m.next h1),λi hi=>by have:=v12.ow.lt i b hi;omega,h2⟩
          refine Eq.mpr (congrArg (λz=>cg z _) (e15 _ _)) ?_
          have hlen:st.sv.bf.length+1=(st.sv.bf++[xb]).length:=by simp
          have hfm:st.sv.bf.flatMap dV++dV xb=(st.sv.bf++[xb]).flatMap dV:=by simp
          rw[hlen]at Uy v15 ⊢
          rw[hfm]at Uy
          rw[sv7]
          have hk7:=ZC ajg
          exact(p8 (x:={st.sv with bf:=st.sv.bf++[xb]}) (w:=w7) v15 rfl rfl rfl rfl rfl rfl rfl rfl r15 Uy).mono λ_ _ he=>⟨he,b7,hk7,cF _⟩
         ·next hw8=>
          have n8:w≠cP:=hw8
          rw[eX (by exact n8)]
          cases hkey
end
section
variable {G:Nat->Prop}{s:Bs}{l:List Wd}{p:Ps}{v:List AV}{a h h':H}{f:Nat->Option Nat}{c:Nat->List AV}
theorem fG.mix{size len:Nat}{q:Pt}{cq:aM}{vs:List AV}(w:LV a h f c)(r:fG (Nw (Fb a G f h) h) h' size q len cq vs):fG (Fb a G f h') h' size q len cq vs:=r.lt.more λb hb=>by
 obtain⟨h1 | h1,h2⟩:=hb
 ·exact⟨h1.1,h1.2.1,h2⟩
 ·exact⟨.inr (qb w.m.next h1),λi hi=>by have:=w.ow.lt i b hi;omega,h2⟩
theorem cS.bB(r:cS G h s l p v):∃gp gc,∃fm:List U7,v[17]?=some (.slice gp fm.length gc)/\fG G h 10 gp fm.length gc (fm.flatMap yE)/\fm.map (·.1)=p.bB/\
  ∀(G':Nat->Prop) (h':H) (x:Sv) (bp:Pt) (bc:aM) (O2:Pt) (gc':aM),(∀size q len cq vs,fG G h size q len cq vs->fG G' h' size q len cq vs)->fG G' h' 10 bp x.bf.length bc (x.bf.flatMap dV)->fG G' h' 10 O2 (fm.length+1) gc' (fm.flatMap yE++yE (x,bp,bc))->
   cS G' h' s l {p with bB:=p.bB++[x]} (v.set 17 (.slice O2 (fm.length+1) gc')):=by
 obtain⟨wp,wc,vp,vc,tp,tc,gp,gc,sp,sc,fm,rfl,h1,h2,h3,h4,h5,h6,h7⟩:=r
 refine⟨gp,gc,fm,rfl,h4,h5,λG' h' x bp bc O2 gc' T row rows=>?_⟩
 have hlen:fm.length+1=(fm++[(x,bp,bc)]).length:=by simp
 refine⟨wp,wc,vp,vc,tp,tc,O2,gc',sp,sc,fm++[(x,bp,bc)],?_,T _ _ _ _ _ h1,T _ _ _ _ _ h2,T _ _ _ _ _ h3,?_,?_,?_,T _ _ _ _ _ h7⟩
 ·rw[hlen];rfl
 ·rw[<-hlen,List.flatMap_append,List.flatMap_singleton]
  exact rows
 ·rw[List.map_append,h5];rfl
 ·intro y hy
  rcases List.mem_append.1 hy with hy | hy
  ·exact T _ _ _ _ _ (h6 y hy)
  ·obtain rfl:=List.mem_singleton.1 hy
   exact row
theorem ae3(xs:List U7):(xs.flatMap yE).all cT=true:=by
 simp[List.all_flatMap,yE,cU,cT]
def ajG:List Bs:=[nj,jt,fK,th,qw,vT,vS,qv,cP]
theorem JD(hl:l.length<=80100)(hw:∀k,(aa l k).size<90000){n:Nat}(hn:90500<=n){i j ix:Nat}:∀(F m:Nat) (M:List (Bs×Int)) (met:List Bs) (st:St) (h:H) (f:Nat->Option Nat) (c:Nat->List AV) (cq:aM) (bp:Pt) (bc:aM),
  (cJ s l (bR s l) F M st).2=true->l.length<m+st.p.k->Mt met M->met.length<=st.p.k->Bn st.p->st.sv.bf.length<=st.p.k->LV a h f c->f 0=some i->f 1=some j->f 4=some ix->(c 1).length=21->c 4=cU st.sv (.slice bp st.sv.bf.length bc)->yw f c 2 1 met.length cq (met.map .str)->fG (Fb a G f h) h 10 bp st.sv.bf.length bc (st.sv.bf.flatMap dV)->cS (Fb a G f h) h s l st.p (c 0)->
  cg (jd n m (some (i,0)) (some (j,0)) (some (ix,0)) (nu f 2) met.length cq h) λr h'=>Zh (Nw G a) a s l (FK (cJ s l (bR s l) F M st)).1.p r h'/\Bn (FK (cJ s l (bR s l) F M st)).1.p
 | 0,_,_,_,_,_,_,_,_,_,_,hs,_,_,_,_,_,_,_,_,_,_,_,_,_,_=>by cases hs
 | F+1,m,M,met,st,h,f,c,cq,bp,bc,hs,hm,hM,Jb,hB,hbk,v,dr,jD,Ri,uo,hc4,ar,row,r=>by
  obtain⟨F',eF,hx⟩:=QO hs
  obtain rfl:F=F':=Nat.succ.inj eF
  have hne:aa l st.p.k≠⟨#[]⟩:=by
   rcases hx with⟨e,_⟩ | ⟨_,key,e,_⟩
   ·rw[e];decide
   ·intro h0
    rw[h0]at e
    cases e
  have hk:=kD hne
  obtain⟨m,rfl⟩:∃x,m=x+1:=⟨m - 1,by omega⟩
  rw[yQ]
  simp only[ai,Nat.zero_add]
  rw[v.cell dr rfl r.code,aj,show((0:Int)==0)=true from rfl,bM,v.all dr rfl r.len.1]
  refine lX rfl λb1 h1 q1 m1=>lX rfl λb2 h2 q2 m2=>?_
  have v2:=(v.ak m1).ak m2
  have r2:=(r.step0 m1).step0 m2
  have ah7:=(row.step0 m1).step0 m2
  have rt:=(ar.grow v2.ow).row
  rcases hx with⟨hsh,zB,Jc,eb⟩ | ⟨Lb,key,hkey,Rg,ql,eb⟩
  ·refine(Mi r2 Fb.old (K:=ajG) (lm:=9) hsh (by omega)).bind ?_
   rintro _ h3 ⟨m3,w3,rfl,r3⟩
   simp only[ay,eV,dx,aE]
   refine wS rfl r3.len.1 r3.len.2 λh4 m4=>?_
   have r4:=(cS.ia v2 m3 r3).step0 m4
   have v4:=(v2.ak m3).ak m4
   have anN:=(ah7.step0 m3).step0 m4
   obtain⟨h5,e5,v5,m5⟩:=v4.put (i:=0) dr rfl (n:=21) r.len.1 r4.len.1 r4.len.2
   have r5:=r4.aV dr m5
   have aeO:=anN.aV dr m5
   rw[e5,ey rfl,v5.all (i:=0) dr (aF c 0 w3) r5.len.1]
   refine lX rfl λb6 h6 q6 m6=>?_
   have v6:=v5.ak m6
   have Co:=aeO.step0 m6
   have AT:yw f (up c 0 w3) 2 1 met.length cq (met.map .str):=ar.lY (by decide)
   refine(R3 (r5.step0 m6) Fb.old (by omega) hsh Jc (N:=[nj,jt,fK,th,cP]) q6 (AT.grow v6.ow).row (by decide) (by omega) (Rx zB hM) (by omega)).bind ?_
   rintro _ h7 ⟨m7,w7,rfl,r7⟩
   simp only[bG]
   have v7:=v6.ak m7
   have r7:=cS.ia v6 m7 r7
   have zR:=Co.step0 m7
   obtain⟨h8,e8,v8,m8⟩:=v7.put (i:=0) (w:=w3) dr rfl (n:=21) r5.len.1 r7.len.1 r7.len.2
   have r8:=r7.aV dr m8
   have yS:=zR.aV dr m8
   rw[e8]
   obtain⟨gp,gc,fm,hgp,aAS,hsv,Rk⟩:=r8.bB
   have hsl:fm.length=st.p.bB.length:=by rw[<-List.length_map (f:=(·.1)),hsv];rfl
   have aGf:=hB.bB
   refine Nh (h:=h8) (S:=λh1 F=>af h1 i 17 λz=>asSlice z F) aAS.row (ae3 _) (by omega) (by omega) (λhz=>by rw[List.length_eq_zero_iff.1 hz];rfl) (λh1 m1 F=>by
    show af h1 i 17 _=_
    rw[(v8.ak m1).cell (i:=0) (w:=w7) (p:=17) dr rfl hgp,ah]) λp3 c3 h9 g9 m9=>?_
   rw[(v8.ak m9).all (i:=4) (n:=10) (w:=cU st.sv (.slice bp st.sv.bf.length bc)) Ri hc4 rfl]
   simp only[cU,dx,cu,ux,aE,aL]
   refine g9.push m9.next (xs:=yE (st.sv,bp,bc)) rfl rfl (by decide) (by omega) (by omega) λp4 c4 h10 g10 m10=>?_
   have m11:Mod [] h8 h10:=m9.trans' m10 λy hy hl=>by have:=(g9.iy y hy).1;omega
   have v10:=v8.ak m11
   obtain⟨h11,e11,v11,m12⟩:=v10.wG (i:=0) (w:=w7) (p:=17) (y:=.slice p4 (fm.length+1) c4) dr rfl (by rw[r8.len.1];decide) rfl
   have hi8:=v8.ow.lt 0 i dr
   have T:∀size q len cq vs,fG (Fb a G f h8) h8 size q len cq vs->fG (Nw (Fb a G f h8) h8) h11 size q len cq vs:=λ_ _ _ _ _ x=>((x.ak m11).sx m12 λhx=>hx.2.1 0 dr).more λb hb=>.inl hb
   have r11:=cS.mix v8 (Rk (Nw (Fb a G f h8) h8) h11 st.sv bp bc p4 c4 T (T _ _ _ _ _ yS) (NL g10 m12 hi8 _))
   refine Eq.mpr (congrArg (λz=>cg z _) (e11 _ _)) ?_
   rw[v11.all (i:=0) dr (aF _ 0 _) r11.len.1]
   obtain⟨h12,e12,v12,m13⟩:=v11.put (i:=1) jD rfl (n:=21) uo r11.len.1 r11.len.2
   have r12:=r11.aV jD m13
   rw[e12,v12.all (i:=1) jD (aF _ 1 _) r11.len.1]
   unfold FK
   rw[eb]
   exact .pure ⟨⟨v12.m,_,rfl,r12.leave⟩,hB.up (by show _<=st.p.k+2;exact dW _) (dW _) (dW _) (dW _) (xo _ _)⟩
  ·obtain⟨ix',hK,hMs⟩:=Ud hkey
   refine(T9 r2 Fb.old (by omega) (K:=ajG) (Ms:=[1,1,1,1,1,1,1,1,16]) (q1.ak m2) q2 rt (by decide) (by omega) hne Lb hK (by decide) hMs (by rw[<-hM];exact Rg) (by omega)).bind ?_
   rintro _ h3 ⟨m3,w3,rfl,r3⟩
   simp only[ay,eV,dx,aE]
   refine wS rfl r3.len.1 r3.len.2 λh4 m4=>?_
   have r4:=(cS.ia v2 m3 r3).step0 m4
   have v4:=(v2.ak m3).ak m4
   have anN:=(ah7.step0 m3).step0 m4
   obtain⟨h5,e5,v5,m5⟩:=v4.put (i:=0) dr rfl (n:=21) r.len.1 r4.len.1 r4.len.2
   have r5:=r4.aV dr m5
   have aeO:=anN.aV dr m5
   have ar5:yw f (up c 0 w3) 2 1 met.length cq (met.map .str):=ar.lY (by decide)
   rw[e5,eX hne]
   obtain⟨x6,c6,h6,e6,T2,v6,AT,m6⟩:=v5.push (bytes:=16) (by decide) ar5 (xs:=[.str (aa l st.p.k)]) rfl rfl (by decide) (by omega) (by omega)
   have r6:=r5.push m6 T2
   have Co:=aeO.push m6 T2
   have qI:(met++[aa l st.p.k]).length=met.length+1:=by simp
   rw[e6,<-qI,<-wH f 2 x6]
   have AT:yw (up f 2 (some x6)) (up (up c 0 w3) 2 (met.map .str++[.str (aa l st.p.k)])) 2 1 (met++[aa l st.p.k]).length c6 ((met++[aa l st.p.k]).map .str):=by
    rw[hU,List.map_append]
    exact AT
   have Rf:=hM.push (aa l st.p.k)
   have cV:up f 2 (some x6) 0=some i:=dr
   have Em:up f 2 (some x6) 4=some ix:=Ri
   have qk:up (up c 0 w3) 2 (met.map .str++[.str (aa l st.p.k)]) 0=w3:=rfl
   rw[v6.all cV qk r6.len.1,v6.all (i:=4) (n:=10) (w:=cU st.sv (.slice bp st.sv.bf.length bc)) Em hc4 rfl]
   simp only[cU,dx,cu,ux,aE]
   refine(agB (st:=aR st (st.p.k+1)) hl hw hkey ql Fb.old (hB.up (cF _) (dW _) (dW _) (dW _) (dW _)) (Nat.le_succ_of_le hbk) hk r6 Co (by omega)).bind ?_
   rintro _ h7 ⟨⟨m7,w7,bp7,bc7,rfl,r7,zR⟩,b7,hk7,hb7⟩
   simp only[ay,eV,oT,bG,cU,dx,cu,ux,aE]
   have r7:=cS.mix v6 r7
   have zR:=fG.mix v6 zR
   have v7:=v6.ak m7
   obtain⟨h8,e8,v8,m8⟩:=v7.put (i:=0) cV qk (n:=21) r6.len.1 r7.len.1 r7.len.2
   have r8:=r7.aV cV m8
   have yS:=zR.aV cV m8
   obtain⟨h9,e9,v9,m9⟩:=v8.put (i:=4) (w:=cU st.sv (.slice bp st.sv.bf.length bc)) Em hc4 (n:=10) rfl (w':=cU (key.sem (aR st (st.p.k+1))).1.sv (.slice bp7 (key.sem (aR st (st.p.k+1))).1.sv.bf.length bc7)) rfl rfl
   have r9:=r8.aV Em m9
   have Bv:=yS.aV Em m9
   simp only[cU]at e9
   rw[e8,e9]
   rw[eb]at hs ⊢
   have hk7:st.p.k+1+1<=(key.sem (aR st (st.p.k+1))).1.p.k:=hk7
   have hb7:(key.sem (aR st (st.p.k+1))).1.sv.bf.length<=st.sv.bf.length+1:=hb7
   exact JD hl hw hn F m _ _ _ h9 _ _ c6 bp7 bc7 hs (by omega) Rf (by rw[qI];omega) b7 (by omega) v9 cV jD Em uo (aF _ _ _) ((AT.lY (by decide)).lY (by decide)) Bv r9
theorem FN{Q:AV->H->Prop}{n i j:Nat}(hp:p.bB.length<=80100)
  (k:∀h f c cq m,LV a h f c->f 0=some i->f 1=some j->f 4=none->f 2=none->(c 1).length=21->yw f c 5 1 (p.bB.map (·.name)).length cq ((p.bB.map (·.name)).map .str)->cS (Fb a G f h) h s l p (c 0)->cg (fR n (m+1) (some (i,0)) (some (j,0)) (nu f 5) (p.bB.map (·.name)).length cq (p.bB.length:Nat) h) Q):
  ∀(rest pre:List Sv) (m:Nat) (h:H) (f:Nat->Option Nat) (c:Nat->List AV) (cq:aM),p.bB=pre++rest->rest.length<m->LV a h f c->f 0=some i->f 1=some j->f 4=none->f 2=none->(c 1).length=21->yw f c 5 1 (pre.map (·.name)).length cq ((pre.map (·.name)).map .str)->cS (Fb a G f h) h s l p (c 0)->cg (fR n m (some (i,0)) (some (j,0)) (nu f 5) (pre.map (·.name)).length cq (pre.length:Nat) h) Q
 | [],pre,m,h,f,c,cq,e,hm,v,dr,jD,Ri,O9,uo,ar,r=>by
  obtain⟨m,rfl⟩:∃x,m=x+1:=⟨m - 1,by simp at hm;omega⟩
  rw[List.append_nil]at e
  subst e
  exact k h f c cq m v dr jD Ri O9 uo ar r
 | x::rest,pre,m+1,h,f,c,cq,e,hm,v,dr,jD,Ri,O9,uo,ar,r=>by
  have hlt:pre.length<p.bB.length:=by rw[e];simp
  have hx:p.bB[pre.length]?=some x:=by rw[e];simp
  obtain⟨gp,gc,fm,hgp,row,hsv,_⟩:=r.bB
  have hsl:fm.length=p.bB.length:=by rw[<-List.length_map (f:=(·.1)),hsv]
  have hy:∃y,fm[pre.length]?=some y/\y.1=x:=by
   rw[<-hsv,List.getElem?_map]at hx
   cases hq:fm[pre.length]? with
   | none=>rw[hq]at hx;cases hx
   | some y=>rw[hq]at hx;exact⟨y,rfl,oh hx⟩
  obtain⟨y,hy,rfl⟩:=hy
  rw[qX]
  simp only[ai,Nat.zero_add]
  rw[v.cell (i:=0) (p:=17) dr rfl hgp,ah,cL (by omega),bM,v.cell (i:=0) (p:=17) dr rfl hgp,ah,row.row.Wq E6 hy (v:=.str y.1.name) rfl,az]
  have NR:(pre.map (·.name)).length=pre.length:=List.length_map _
  obtain⟨x6,c6,h6,e6,T2,v6,AT,m6⟩:=v.push (bytes:=16) (i:=5) (by decide) ar (xs:=[.str y.1.name]) rfl rfl (by decide) (by omega) (by omega)
  rw[e6,aG (by omega)]
  have e1:(pre.map (·.name)).length+1=((pre++[y.1]).map (·.name)).length:=by simp
  have e2:(pre.map (·.name)).map AV.str++[.str y.1.name]=((pre++[y.1]).map (·.name)).map .str:=by simp
  have ih:=FN hp k rest (pre++[y.1]) m h6 _ _ c6 (by rw[e];simp) (by simp at hm;omega) v6 dr jD Ri O9 uo (by rw[<-e1,<-e2];exact AT) (r.push m6 T2)
  rw[wH,<-e1,hU,Lf]at ih
  exact ih
theorem aa6(hl:l.length<=80100)(hw:∀k,(aa l k).size<90000){st:St}(hs:(ew s l st).2=true)(hG:Old G h)(hB:Bn st.p)(hkl:st.p.k<=l.length)(r:cS G h s l st.p v){n:Nat}(hn:90600<=n):
  cg (ca n nT [.agg v] h) λr h'=>Zh (Nw G h) h s l (ew s l st).1.p r h'/\Bn (ew s l st).1.p:=by
 obtain⟨n,rfl⟩:∃j,n=j+1:=⟨n - 1,by omega⟩
 rw[Bq]
 refine tF λi j h0 v0=>?_
 have hsv:=hB.bB
 refine FN (a:=h) (G:=G) (s:=s) (l:=l) (p:=st.p) (by omega) ?_ st.p.bB [] n h0 _ _ (.known 0) rfl (by omega) v0 rfl rfl rfl rfl rfl (.nil rfl) ((r.ak v0.m).enter hG v0)
 intro h1 f c cq m v1 dr jD Ri O9 uo ar r1
 obtain⟨gp,gc,fm,hgp,row,ayh,_⟩:=r1.bB
 have hsl:fm.length=st.p.bB.length:=by rw[<-List.length_map (f:=(·.1)),ayh]
 rw[qX]
 simp only[ai,Nat.zero_add]
 rw[v1.cell (i:=0) (p:=17) dr rfl hgp,ah,aT (by omega),br,v1.all (i:=0) dr rfl r1.len.1]
 unfold ew at hs ⊢
 have hlm:(st.p.bB.map (·.name)).length=st.p.bB.length:=List.length_map _
 rcases Ml (s:=s) (l:=l) (st.p.bB.map (·.name)) st.p with e | ⟨e,x1,x2,x3⟩
 ·generalize cB s l (st.p.bB.map (·.name)) st.p=r at hs e
  obtain⟨r1,r2,r3⟩:=r
  obtain rfl:r3=false:=e
  cases hs
 rw[e]at hs ⊢
 refine(WT r1 Fb.old (by omega) x1 x2 (ar.grow v1.ow).row (by omega) x3 (by omega)).bind ?_
 rintro _ h2 ⟨m2,w2,rfl,r2⟩
 simp only[ay,eV,dx,aE]
 have v2:=v1.ak m2
 have r2:=cS.ia v1 m2 r2
 obtain⟨h3,e3,v3,m3⟩:=v2.put (i:=0) dr rfl (n:=21) r1.len.1 r2.len.1 r2.len.2
 have r3:=r2.aV dr m3
 rw[e3]
 refine v3.asF (i:=4) (by decide) Ri r3 λix h4 v4 r4=>?_
 obtain⟨h5,e5,v5,m5⟩:=v4.put (i:=4) (aF _ _ _) (aF _ _ _) (n:=10) rfl (w':=[.str (aa l st.p.k),.str .empty,.int .i64 0,.int .i64 0,.int .i64 0,.int .i64 1,.int .i64 1,.int .i64 1,.int .i64 100,.slice none 0 (.known 0)]) rfl rfl
 have r5:=r4.aV (i:=4) (aF _ _ _) m5
 have hs':(bL s l (bR s l) {aA st {st.p with k:=st.p.k+1}with sv:=iq (aa l st.p.k)}).2=true:=hs
 obtain⟨y1,y2,y3⟩:=L9 hs'
 have cV:up f 4 (some ix) 0=some i:=dr
 rw[e5,v5.all (i:=0) (w:=w2) cV rfl r5.len.1]
 refine(Ju r5 Fb.old (by omega) y1 y2 (by omega)).bind ?_
 rintro _ h6 ⟨m6,w6,rfl,r6⟩
 simp only[bG]
 have r6:=cS.ia v5 m6 r6
 have v6:=v5.ak m6
 obtain⟨h7,e7,v7,m7⟩:=v6.put (i:=0) (w:=w2) cV rfl (n:=21) r5.len.1 r6.len.1 r6.len.2
 rw[e7]
 have r7:=r6.aV (i:=0) cV m7
 rw[y3]at hs'
 have:=JD (n:=n) hl hw (by omega) _ n [] [] _ h7 _ _ (.known 0) none (.known 0) hs' (by show l.length<n+(st.p.k+1+2);omega) Mt.nil (uQ _) (hB.up (by show st.p.k+1<=st.p.k+1+2;omega) (dW _) (dW _) (dW _) (dW _)) (uQ _) v7 cV jD (aF _ _ _) uo rfl (.nil O9) ⟨.nil,λb hb=>by cases hb⟩ r7
 have e8:nu (up f 4 (some ix)) 2=none:=by unfold nu;rw[eW (by decide),O9];rfl
 rw[e8,<-y3]at this
 exact this
end
theorem aaw(w y:Bs)(xs:List Bs):uO w (xs++[y])=(uO w xs||decide (w=y)):=by simp[uO]
section
variable {G:Nat->Prop}{s:Bs}{l:List Wd}{p:Ps}{v:List AV}{a h h':H}{f:Nat->Option Nat}{c:Nat->List AV}
theorem cS.aj1(r:cS G h s l p v):v[9]?=some (.str p.addr):=by
 obtain⟨wp,wc,vp,vc,tp,tc,gp,gc,sp,sc,fm,rfl,_⟩:=r
 rfl
theorem cS.words(r:cS G h s l p v):∃wp wc,v[0]?=some (.slice wp l.length wc):=by
 obtain⟨wp,wc,vp,vc,tp,tc,gp,gc,sp,sc,fm,rfl,_⟩:=r
 exact⟨wp,wc,rfl⟩
theorem cS.cfg(r:cS G h s l p v):3+15<=v.length/\nD h p ((v.drop 3).take 15):=by
 obtain⟨wp,wc,vp,vc,tp,tc,gp,gc,sp,sc,fm,rfl,_,h2,h3,h4,h5,h6,_⟩:=r
 have hsl:fm.length=p.bB.length:=by rw[<-List.length_map (f:=(·.1)),h5]
 exact⟨by show 3+15<=21;decide,vp,vc,tp,tc,gp,gc,fm,by rw[<-hsl];rfl,h2.row,h3.row,h4.row,h5,λx hx=>(h6 x hx).row⟩
theorem K2{Q:AV->H->Prop}{n i j:Nat}(hp:p.ag.length<=80100)(w:LV a h f c)(dr:f 0=some i)(r:cS (Fb a G f h) h s l p (c 0))(aaf:∀x∈p.ag,x.1.size=p.addr.size)(k:cg (eC n n (some (i,0)) (some (j,0)) 0 h) Q):
  ∀(rest pre:List (Bs×Int×Bool)) (m:Nat),p.ag=pre++rest->rest.length<m->cg (fP n m (some (i,0)) (some (j,0)) (pre.length:Nat) h) Q
 | [],pre,m,e,hm=>by
  obtain⟨m,rfl⟩:∃x,m=x+1:=⟨m - 1,by simp at hm;omega⟩
  have NR:pre.length=p.ag.length:=by rw[e,List.append_nil]
  obtain⟨sp,sc,hsp,row⟩:=r.ag
  rw[qU]
  simp only[ai,Nat.zero_add]
  rw[w.cell (i:=0) (p:=18) dr rfl hsp,ah,aT (by omega),br]
  exact k
 | x::rest,pre,m+1,e,hm=>by
  have hlt:pre.length<p.ag.length:=by rw[e];simp
  have hx:p.ag[pre.length]?=some x:=by rw[e];simp
  obtain⟨sp,sc,hsp,row⟩:=r.ag
  rw[qU]
  simp only[ai,Nat.zero_add]
  rw[w.cell (i:=0) (p:=18) dr rfl hsp,ah,cL hlt,bM,w.cell (i:=0) (p:=18) dr rfl hsp,ah,row.row.Wq BX hx (v:=.str x.1) rfl,az,w.cell (i:=0) (p:=9) dr rfl r.aj1,az,aaf x (Hq hx),show(((Nat.cast p.addr.size):Int) != (Nat.cast p.addr.size))=false by simp,br,aG (by omega)]
  have:=K2 hp w dr r aaf k rest (pre++[x]) m (by rw[e];simp) (by simp at hm;omega)
  rw[hU,Lf]at this
  exact this
theorem II{Q:AV->H->Prop}{n m1 i j:Nat}(hp:p.au.length<=80100)(w:LV a h f c)(dr:f 0=some i)(r:cS (Fb a G f h) h s l p (c 0)){x:Bs×Int×Bool}{ix:Nat}(hx:p.ag[ix]?=some x)(hno:vU p x=false)(k:cg (ja n m1 (some (i,0)) (some (j,0)) (ix:Nat) false h) Q):
  ∀(rest pre:List Bs) (m:Nat) (b:Bool),p.au=pre++rest->rest.length<m->b=uO x.1 pre->cg (fQ n m1 m (some (i,0)) (some (j,0)) (ix:Nat) b (pre.length:Nat) h) Q
 | [],pre,m,b,e,hm,hb=>by
  obtain⟨m,rfl⟩:∃x,m=x+1:=⟨m - 1,by simp at hm;omega⟩
  rw[List.append_nil]at e
  subst e
  obtain⟨vp,vc,hvp,atu⟩:=r.au
  obtain⟨sp,sc,hsp,row⟩:=r.ag
  rw[qW]
  simp only[ai,Nat.zero_add]
  rw[w.cell (i:=0) (p:=15) dr rfl hvp,ah,aT (cF _),br,w.cell (i:=0) (p:=18) dr rfl hsp,ah,row.row.ix2 BX hx 2 (v:=.bool x.2.2) rfl,aq]
  unfold vU at hno
  cases h2:x.2.2 with
  | false=>rw[br];exact k
  | true=>
   rw[h2,<-hb]at hno
   rw[bM,show(!b)=false by simpa using hno]
   exact k
 | y::rest,pre,m+1,b,e,hm,hb=>by
  have hlt:pre.length<p.au.length:=by rw[e];simp
  have hy:p.au[pre.length]?=some y:=by rw[e];simp
  obtain⟨vp,vc,hvp,atu⟩:=r.au
  obtain⟨sp,sc,hsp,row⟩:=r.ag
  rw[qW]
  simp only[ai,Nat.zero_add]
  rw[w.cell (i:=0) (p:=15) dr rfl hvp,ah,cL hlt,bM]
  have ih:=II hp w dr r hx hno k rest (pre++[y]) m (uO x.1 (pre++[y])) (by rw[e];simp) (by simp at hm;omega) rfl
  rw[hU,Lf,aaw,<-hb]at ih
  cases b with
  | true=>
   rw[bM,aG (by omega)]
   exact ih
  | false=>
   rw[br,w.cell (i:=0) (p:=15) dr rfl hvp,ah,atu.row.Mh hy,az,w.cell (i:=0) (p:=18) dr rfl hsp,ah,row.row.Wq BX hx (v:=.str x.1) rfl,az,aG (by omega),yb,show decide (y=x.1)=decide (x.1=y)by simp[eq_comm]]
   exact ih
theorem Nk{Q:AV->H->Prop}{n i j:Nat}(hn:80200<=n)(hp:p.ag.length<=80100)(hpv:p.au.length<=80100)(w:LV a h f c)(dr:f 0=some i)(r:cS (Fb a G f h) h s l p (c 0))(hno:∀x∈p.ag,vU p x=false)
  (k:cg (aI h i 0 21 λl51=>aC (some (j,0)) λZA o53=>bK h ZA o53 21 l51 λh54=>aC (some (j,0)) λb55 o56=>aI h54 b55 o56 21 λWM=>some ((.agg WM),h54)) Q):
  ∀(rest pre:List (Bs×Int×Bool)) (m:Nat),p.ag=pre++rest->rest.length<m->cg (eC n m (some (i,0)) (some (j,0)) (pre.length:Nat) h) Q
 | [],pre,m,e,hm=>by
  obtain⟨m,rfl⟩:∃x,m=x+1:=⟨m - 1,by simp at hm;omega⟩
  have NR:pre.length=p.ag.length:=by rw[e,List.append_nil]
  obtain⟨sp,sc,hsp,row⟩:=r.ag
  rw[qV,ai,w.cell (i:=0) (p:=0+18) dr rfl hsp,ah,aT (by omega),br]
  exact k
 | x::rest,pre,m+1,e,hm=>by
  have hlt:pre.length<p.ag.length:=by rw[e];simp
  have hx:p.ag[pre.length]?=some x:=by rw[e];simp
  obtain⟨sp,sc,hsp,row⟩:=r.ag
  rw[qV,ai,w.cell (i:=0) (p:=0+18) dr rfl hsp,ah,cL hlt,bM]
  refine II hpv w dr r hx (hno x (Hq hx)) ?_ p.au [] n false rfl (by omega) rfl
  rw[yP,br,aG (by omega)]
  have:=Nk hn hp hpv w dr r hno k rest (pre++[x]) m (by rw[e];simp) (by simp at hm;omega)
  rw[hU,Lf]at this
  exact this
theorem ZQ(hp:p.ag.length<=80100)(hpv:p.au.length<=80100)(aaf:p.ag.find? (qJ p)=none)(hno:p.ag.find? (vU p)=none)(hG:Old G h)(r:cS G h s l p v){n:Nat}(hn:80300<=n):
  cg (ca n nR [.agg v] h) (Zh G h s l p):=by
 obtain⟨n,rfl⟩:∃j,n=j+1:=⟨n - 1,by omega⟩
 rw[Bm]
 refine tF λi j h2 v2=>?_
 have r2:=(r.ak v2.m).enter hG v2
 refine K2 hp v2 rfl r2 (λx hx=>?_) ?_ p.ag [] n rfl (by omega)
 ·have:=List.find?_eq_none.1 aaf x hx
  simpa[qJ]using this
 refine Nk (by omega) hp hpv v2 rfl r2 (λx hx=>?_) ?_ p.ag [] n rfl (by omega)
 ·have:=List.find?_eq_none.1 hno x hx
  simpa using this
 simp only[ai]
 rw[v2.all (i:=0) (w:=v) rfl rfl r2.len.1]
 obtain⟨h3,e3,v3,m3⟩:=v2.put (i:=1) rfl rfl (n:=21) rfl r2.len.1 r2.len.2
 rw[e3,v3.all (i:=1) rfl (aF _ 1 _) r2.len.1]
 exact .pure ⟨v3.m,_,rfl,r.ak v3.m⟩
theorem Zr{L:List (Bs×Key)}{F:Nat}{M:List (Bs×Int)}{st:St}:oG s l L (F+1) M st=if st.p.k<l.length then match lk L (aa l st.p.k)with
   | none=>(aA st (bE st.p (bA s l st.p.k) 180),false)
   | some key=>
    if key.most<=cnt M (aa l st.p.k)then(aA st (bE st.p (bA s l st.p.k) (if key.most=1 then 181 else 184)),false)
    else if(key.sem (aR st (st.p.k+1))).2=true then oG s l L F (pt M (aa l st.p.k) (cnt M (aa l st.p.k)+1)) (key.sem (aR st (st.p.k+1))).1
    else((key.sem (aR st (st.p.k+1))).1,false)
  else Tz s M st:=rfl
theorem aqd{L:List (Bs×Key)}{F:Nat}{M:List (Bs×Int)}{st:St}(h:(oG s l L F M st).2=true):∃F',F=F'+1/\
  ((¬st.p.k<l.length/\cnt M gz≠0/\cnt M fq≠0/\st.p.ag.find? (qJ st.p)=none/\st.p.ag.find? (vU st.p)=none/\(oG s l L F M st).1=st)∨
  (st.p.k<l.length/\∃key,lk L (aa l st.p.k)=some key/\cnt M (aa l st.p.k)<key.most/\(key.sem (aR st (st.p.k+1))).2=true/\
   oG s l L F M st=oG s l L F' (pt M (aa l st.p.k) (cnt M (aa l st.p.k)+1)) (key.sem (aR st (st.p.k+1))).1)):=by
 cases F with
 | zero=>cases h
 | succ F=>
  refine⟨F,rfl,?_⟩
  rw[Zr]at h ⊢
  split
  ·next hk=>
   rw[if_pos hk]at h
   cases hl:lk L (aa l st.p.k)with
   | none=>rw[hl]at h;cases h
   | some key=>
    rw[hl]at h
    simp only at h ⊢
    split
    ·next hc=>rw[if_pos hc]at h;cases h
    ·next hc=>
     rw[if_neg hc]at h
     split
     ·next hs=>exact .inr ⟨hk,key,rfl,by omega,hs,rfl⟩
     ·next hs=>rw[if_neg hs]at h;cases h
  ·next hk=>
   rw[if_neg hk]at h
   unfold Tz at h ⊢
   split
   ·next hc=>rw[if_pos hc]at h;cases h
   ·next hc=>
    rw[if_neg hc]at h
    unfold Bw at h ⊢
    cases ho:st.p.ag.find? (qJ st.p)with
    | some x=>rw[ho]at h;cases h
    | none=>
     rw[ho]at h
     simp only at h ⊢
     unfold Hy at h ⊢
     cases hv:st.p.ag.find? (vU st.p)with
     | some x=>rw[hv]at h;cases h
     | none=>exact .inl ⟨hk,λh=>hc (.inl h),λh=>hc (.inr h),by first | rfl | trivial,by first | rfl | trivial,rfl⟩
end
theorem ajZ(s:Bs)(l:List Wd):∀x∈uU s l,∀st:St,st.p.k<=(x.2.sem st).1.p.k:=by
 intro x hx
 simp only[uU,ou,List.mem_cons,List.not_mem_nil,or_false]at hx
 rcases hx with rfl | rfl | rfl
 ·intro st
  refine uW (λx hx=>?_) st
  simp only[vu,ou,List.mem_cons,List.not_mem_nil,or_false]at hx
  rcases hx with rfl | rfl | rfl
  ·exact IC (put:=vB) λ_ _=>rfl
  ·exact iJ λ_ _ _=>rfl
  ·exact iJ λ_ _ _=>rfl
 ·intro st
  refine uW (st:={st with yes:=1}) (λx hx=>?_)
  simp only[iO,ou,List.mem_cons,List.not_mem_nil,or_false]at hx
  rcases hx with rfl | rfl | rfl | rfl | rfl | rfl
  ·exact eB (put:=FL) (λ_ _=>rfl) _ _
  ·exact eB (put:=vC) (λ_ _=>rfl) _ _
  ·exact eB (put:=rY) (λ_ _=>rfl) _ _
  ·exact sj (put:=xY) (λ_ _=>rfl) _
  ·exact iJ Xz
  ·exact Oy _ _
 ·exact Ou _ _
section
variable {G:Nat->Prop}{s:Bs}{l:List Wd}{p:Ps}{v:List AV}{a h h':H}{f:Nat->Option Nat}{c:Nat->List AV}
theorem Oc(hl:l.length<=80100)(hw:∀k,(aa l k).size<90000){n:Nat}(hn:91000<=n){i ic:Nat}:∀(F m:Nat) (M:List (Bs×Int)) (met:List Bs) (st:St) (h:H) (f:Nat->Option Nat) (c:Nat->List AV) (cq:aM),
  (oG s l (uU s l) F M st).2=true->l.length<m+st.p.k->st.p.k<=l.length->Mt met M->met.length<=st.p.k->Bn st.p->LV a h f c->f 0=some i->f 1=some ic->(c 1).length=15->yw f c 2 1 met.length cq (met.map .str)->cS (Fb a G f h) h s l st.p (c 0)->
  cg (dm n m s (some (ic,0)) (some (i,0)) (nu f 2) met.length cq h) λr h'=>Mod [] a h'/\∃cs,r=.dJ [.agg cs,.int .i64 0,.int .i64 0]/\nD h' (oG s l (uU s l) F M st).1.p cs
 | 0,_,_,_,_,_,_,_,_,hs,_,_,_,_,_,_,_,_,_,_,_=>by cases hs
 | F+1,m,M,met,st,h,f,c,cq,hs,hm,hkl,hM,Jb,hB,v,dr,jD,uo,ar,r=>by
  obtain⟨F',eF,hx⟩:=aqd hs
  obtain rfl:F=F':=Nat.succ.inj eF
  obtain⟨m,rfl⟩:∃x,m=x+1:=⟨m - 1,by omega⟩
  obtain⟨wp,wc,hwp⟩:=r.words
  rw[Au]
  simp only[ai,Nat.zero_add]
  rw[v.cell (i:=0) dr rfl r.code,aj,show((0:Int)==0)=true from rfl,bM,v.cell (i:=0) dr rfl r.atK,aj,v.cell (i:=0) dr rfl hwp,ah,Ap]
  rcases hx with⟨hk,axv,axw,aaf,hno,eb⟩ | ⟨hk,key,hkey,Rg,ql,eb⟩
  ·have rt:=(ar.grow v.ow).row
   rw[aT (by omega),br,Ma rt (by omega) _ (by omega),fD]
   simp only[aj]
   rw[show(((cn met ⟨#[110,111,100,101]⟩:Nat):Int)==0)=false by rw[<-hM];exact beq_false_of_ne axv,br,Ma rt (by omega) _ (by omega),fD]
   simp only[aj]
   rw[show(((cn met ⟨#[118,114,114,112]⟩:Nat):Int)==0)=false by rw[<-hM];exact beq_false_of_ne axw,Aq,br,Ar]
   simp only[ai,Nat.zero_add]
   rw[v.cell (i:=0) dr rfl r.code,aj,show((0:Int)==0)=true from rfl,bM,v.all (i:=0) dr rfl r.len.1]
   refine(ZQ (qb hB.ag (by omega)) (qb hB.au (by omega)) aaf hno Fb.old r (by omega)).bind ?_
   rintro _ h3 ⟨m3,w3,rfl,r3⟩
   simp only[bG]
   have r3:=cS.ia v m3 r3
   have v3:=v.ak m3
   obtain⟨h4,e4,v4,m4⟩:=v3.put (i:=0) dr rfl (n:=21) r.len.1 r3.len.1 r3.len.2
   have r4:=r3.aV dr m4
   rw[e4,As]
   simp only[ai,Nat.zero_add]
   rw[v4.cell (i:=0) dr (aF _ 0 _) r4.code,aj,show((0:Int) != 0)=false from rfl,br]
   have g4:=v4.ow.at dr
   rw[show up c 0 w3 0=w3 from rfl]at g4
   obtain⟨hl3,hcf⟩:=r4.cfg
   obtain⟨vp,vc,tp,tc,gp,gc,fm,ecs,q2,q3,q4,q5,q6⟩:=hcf.ex
   rw[g4.agg (n:=15) (o:=3) rfl hl3,ecs]
   obtain⟨h5,e5,v5,m5⟩:=v4.put (i:=1) jD rfl (n:=15) uo (w':=vM st.p (.slice vp st.p.au.length vc) (.slice tp st.p.bh.length tc) (.slice gp st.p.bB.length gc)) rfl rfl
   have r5:=r4.aV jD m5
   rw[e5,v5.all (i:=1) (n:=15) jD (aF _ 1 _) rfl,eb]
   exact .pure ⟨v5.m,_,rfl,ecs▸r5.cfg.2⟩
  ·rw[cL hk,bM]
   simp only[ai,Nat.zero_add]
   rw[v.all dr rfl r.len.1]
   refine lX rfl λb1 h1 q1 m1=>lX rfl λb2 h2 q2 m2=>?_
   have v2:=(v.ak m1).ak m2
   have r2:=(r.step0 m1).step0 m2
   have rt:=(ar.grow v2.ow).row
   obtain⟨ix',hK,hMs⟩:=Ud hkey
   have hne:aa l st.p.k≠⟨#[]⟩:=λh0=>by rw[h0]at hkey;cases hkey
   have Lb:aa l st.p.k≠⟨#[125]⟩:=λh0=>by rw[h0]at hkey;cases hkey
   refine(T9 r2 Fb.old (by omega) (K:=[gz,fq,bF]) (Ms:=[1,1,4]) (q1.ak m2) q2 rt (by decide) (by omega) hne Lb hK (by decide) hMs (by rw[<-hM];exact Rg) (by omega)).bind ?_
   rintro _ h3 ⟨m3,w3,rfl,r3⟩
   simp only[ay,eV,dx,aE]
   refine wS rfl r3.len.1 r3.len.2 λh4 m4=>?_
   have r4:=(cS.ia v2 m3 r3).step0 m4
   have v4:=(v2.ak m3).ak m4
   obtain⟨h5,e5,v5,m5⟩:=v4.put (i:=0) dr rfl (n:=21) r.len.1 r4.len.1 r4.len.2
   have r5:=r4.aV dr m5
   have ar5:yw f (up c 0 w3) 2 1 met.length cq (met.map .str):=ar.lY (by decide)
   rw[e5]
   obtain⟨x6,c6,h6,e6,T2,v6,AT,m6⟩:=v5.push (bytes:=16) (by decide) ar5 (xs:=[.str (aa l st.p.k)]) rfl rfl (by decide) (by omega) (by omega)
   have r6:=r5.push m6 T2
   have qI:(met++[aa l st.p.k]).length=met.length+1:=by simp
   rw[e6,<-qI,<-wH f 2 x6]
   have AT:yw (up f 2 (some x6)) (up (up c 0 w3) 2 (met.map .str++[.str (aa l st.p.k)])) 2 1 (met++[aa l st.p.k]).length c6 ((met++[aa l st.p.k]).map .str):=by
    rw[hU,List.map_append]
    exact AT
   have Rf:=hM.push (aa l st.p.k)
   have cV:up f 2 (some x6) 0=some i:=dr
   have qk:up (up c 0 w3) 2 (met.map .str++[.str (aa l st.p.k)]) 0=w3:=rfl
   have hB6:Bn (aR st (st.p.k+1)).p:=hB.up (cF _) (dW _) (dW _) (dW _) (dW _)
   have hk7:st.p.k+1<=(key.sem (aR st (st.p.k+1))).1.p.k:=ajZ s l _ (wE hkey) (aR st (st.p.k+1))
   rw[eb]at hs ⊢
   have axW:(key.sem (aR st (st.p.k+1))).1.p.k<=l.length:=by
    have hz:Fz l key.sem:=by
     have hx:=wE hkey
     simp only[uU,ou,List.mem_cons,List.not_mem_nil,or_false]at hx
     rcases hx with hx | hx | hx
     ·rw[show key=_ from(Prod.ext_iff.1 hx).2];exact Yl _ _
     ·rw[show key=_ from(Prod.ext_iff.1 hx).2];exact Ym _ _
     ·rw[show key=_ from(Prod.ext_iff.1 hx).2];exact NH _ _
    exact(hz (aR st (st.p.k+1)) hk).1
   have fin:∀(h7:H) (w7:List AV),Mod [] h6 h7->cS (Nw (Fb a G (up f 2 (some x6)) h6) h6) h7 s l (key.sem (aR st (st.p.k+1))).1.p w7->Bn (key.sem (aR st (st.p.k+1))).1.p->cg (bK h7 i 0 21 w7 λh65=>dm n m s (some (ic,0)) (some (i,0)) (nu (up f 2 (some x6)) 2) (met++[aa l st.p.k]).length c6 h65) λr h'=>Mod [] a h'/\∃cs,r=.dJ [.agg cs,.int .i64 0,.int .i64 0]/\nD h' (oG s l (uU s l) F (pt M (aa l st.p.k) (cnt M (aa l st.p.k)+1)) (key.sem (aR st (st.p.k+1))).1).1.p cs:=by
    intro h7 w7 m7 r7 b7
    have r7:=cS.mix v6 r7
    have v7:=v6.ak m7
    obtain⟨h8,e8,v8,m8⟩:=v7.put (i:=0) cV qk (n:=21) r6.len.1 r7.len.1 r7.len.2
    have r8:=r7.aV cV m8
    rw[e8]
    exact Oc hl hw hn F m _ _ _ h8 _ _ c6 hs (by omega) axW Rf (by rw[qI];omega) b7 v8 cV jD uo (AT.lY (by decide)) r8
   have Fl:=hkey
   simp only[uU,ou]at Fl
   rw[aQ]at Fl
   split at Fl
   ·next yJ=>
    have e:aa l st.p.k=gz:=yJ
    obtain rfl:=oh Fl
    rw[ey (by exact e),v6.all cV qk r6.len.1]
    refine(amX (st:=aR st (st.p.k+1)) hl hw ql Fb.old hB6 r6 (by omega)).bind ?_
    rintro _ h7 ⟨⟨m7,w7,rfl,r7⟩,b7⟩
    simp only[bG]
    exact fin h7 w7 m7 r7 b7
   ·next hw0=>
    have n0:aa l st.p.k≠gz:=hw0
    rw[aQ]at Fl
    rw[eX (by exact n0)]
    split at Fl
    ·next yJ=>
     have e:aa l st.p.k=fq:=yJ
     obtain rfl:=oh Fl
     rw[ey (by exact e),v6.all cV qk r6.len.1]
     refine(aoe (st:=aR st (st.p.k+1)) hl hw ql Fb.old hB6 r6 (by omega)).bind ?_
     rintro _ h7 ⟨⟨m7,w7,rfl,r7⟩,b7⟩
     simp only[bG]
     exact fin h7 w7 m7 r7 b7
    ·next hw1=>
     have n1:aa l st.p.k≠fq:=hw1
     rw[aQ]at Fl
     rw[eX (by exact n1)]
     split at Fl
     ·next yJ=>
      have e:aa l st.p.k=bF:=yJ
      obtain rfl:=oh Fl
      rw[ey (by exact e),v6.all cV qk r6.len.1]
      refine(aa6 (st:=aR st (st.p.k+1)) hl hw ql Fb.old hB6 hk r6 (by omega)).bind ?_
      rintro _ h7 ⟨⟨m7,w7,rfl,r7⟩,b7⟩
      simp only[bG]
      exact fin h7 w7 m7 r7 b7
     ·cases Fl
theorem Xf(hs:s.size<=20000){p:Ps}(hp:fl s=.inl p){n:Nat}(hn:300000<=n)(h:H):
  cg (ca n qp [.str s] h) λr h'=>Mod [] h h'/\∃cs,r=.dJ [.agg cs,.int .i64 0,.int .i64 0]/\nD h' p cs:=by
 obtain⟨n,rfl⟩:∃j,n=j+1:=⟨n - 1,by omega⟩
 unfold fl at hp
 cases hall:HE s with
 | inr k=>rw[hall]at hp;cases hp
 | inl l=>
  rw[hall]at hp
  simp only at hp
  split at hp
  ·next hok=>
   obtain rfl:=Sum.inl.inj hp
   obtain⟨z1,z2⟩:=HD (s:=s) (bs s) 0 rd0 (by decide) ⟨by decide,by decide,by decide,by decide,by decide⟩ (λw hw=>by cases hw) l hall
   rw[aP]at z2
   have hl:l.length<=80100:=by omega
   have hw:∀k,(aa l k).size<90000:=λk=>by
    unfold aa
    cases hk:l[k]? with
    | none=>decide
    | some w=>
     have:=z1 w (Hq hk)
     show w.1.size<90000
     omega
   rw[DC]
   refine(LV.nil h).aD (i:=1) (by decide) rfl λic h1 v1 _ _=>?_
   refine(aeH (by omega) (by omega) hall h1).bind ?_
   rintro _ h2 ⟨m2,q,cq,rfl,g2⟩
   simp only[ay,ux,cu,aE]
   have v2:=v1.ak m2
   rw[show((0:Int) != 0)=false from rfl,br]
   have gq:∀b∈own q,h1.next<=b/\b<h2.next:=g2.iy
   rw[aL]
   have v3:=v2.new (i:=0) (by decide) rfl [.slice none 0 (.known 0),.int .i64 0,.int .i64 0,.int .u8 0,.int .u8 0,.int .u8 0,.int .u8 0,.int .u8 0,.int .u8 0,.str .empty,.str .empty,.int .i64 0,.int .i64 0,.int .i64 0,.bool false,.slice none 0 (.known 0),.slice none 0 (.known 0),.slice none 0 (.known 0),.slice none 0 (.known 0),.int .i64 0,.int .i64 0]
   have m3:Mod [] h2 (h2.new (.cells [.slice none 0 (.known 0),.int .i64 0,.int .i64 0,.int .u8 0,.int .u8 0,.int .u8 0,.int .u8 0,.int .u8 0,.int .u8 0,.str .empty,.str .empty,.int .i64 0,.int .i64 0,.int .i64 0,.bool false,.slice none 0 (.known 0),.slice none 0 (.known 0),.slice none 0 (.known 0),.slice none 0 (.known 0),.int .i64 0,.int .i64 0] false)):=(Mod.refl _ _).new _
   generalize h2.new (.cells [.slice none 0 (.known 0),.int .i64 0,.int .i64 0,.int .u8 0,.int .u8 0,.int .u8 0,.int .u8 0,.int .u8 0,.int .u8 0,.str .empty,.str .empty,.int .i64 0,.int .i64 0,.int .i64 0,.bool false,.slice none 0 (.known 0),.slice none 0 (.known 0),.slice none 0 (.known 0),.slice none 0 (.known 0),.int .i64 0,.int .i64 0] false)=h3 at v3 m3 ⊢
   obtain⟨h4,e4,v4,m4⟩:=v3.put (i:=0) (aF _ _ _) (aF _ _ _) (n:=21) rfl (w':=aiX (.slice q l.length cq) (.slice none 0 (.known 0)) s.size ps0 (.slice none 0 (.known 0)) (.slice none 0 (.known 0)) (.slice none 0 (.known 0))) rfl rfl
   have e4':∀(γ:Type) (F:H->Option γ),bK h3 h2.next 0 21 [(.slice q l.length cq),(.int .i64 0),(.int .i64 (Nat.cast s.size)),(.int .u8 0),(.int .u8 0),(.int .u8 0),(.int .u8 0),(.int .u8 0),(.int .u8 0),(.str .empty),(.str .empty),(.int .i64 0),(.int .i64 0),(.int .i64 0),(.bool false),(.slice none 0 (.known 0)),(.slice none 0 (.known 0)),(.slice none 0 (.known 0)),(.slice none 0 (.known 0)),(.int .i64 0),(.int .i64 0)] F=F h4:=e4
   rw[e4']
   have hic:=v1.ow.lt 1 ic rfl
   have hid:=v1.ow.ge 1 ic rfl
   have g4:fG (Fb h (λ_=>False) (up (up (λ_=>none) 1 (some ic)) 0 (some h2.next)) h4) h4 3 q l.length cq (l.flatMap HJ):=⟨(g2.row.ak m3).mod m4 λb hb hm=>by
     obtain rfl:=List.mem_singleton.1 hm
     have:=(gq _ hb).2
     omega,λb hb=>by
    obtain⟨k1,k2⟩:=gq b hb
    have OI:=v1.m.next
    have hn3:=m3.next
    have hn4:=m4.next
    refine⟨.inr (by omega),λy hy=>?_,by omega⟩
    by_cases hy0:y=0
    ·subst hy0
     have:=oh hy
     omega
    ·rw[eW hy0]at hy
     by_cases hy1:y=1
     ·subst hy1
      have:=oh hy
      omega
     ·rw[eW hy1]at hy
      cases hy⟩
   have agW:∀size,fG (Fb h (λ_=>False) (up (up (λ_=>none) 1 (some ic)) 0 (some h2.next)) h4) h4 size none 0 (.known 0) []:=λsize=>⟨.nil,λb hb=>by cases hb⟩
   exact Oc (a:=h) (G:=λ_=>False) (s:=s) hl hw (by omega) (l.length+1) n [] [] GQ h4 _ _ (.known 0) hok (by show l.length<n+0;omega) (uQ _) Mt.nil (uQ _) ⟨cF _,cF _,cF _,cF _⟩ v4 rfl rfl rfl (.nil rfl)
    ⟨q,cq,none,.known 0,none,.known 0,none,.known 0,none,.known 0,[],rfl,g4,agW 1,agW 2,agW 10,rfl,(λx hx=>by cases hx),agW 3⟩
  ·cases hp
end
theorem awL{β:Type}(x:Cd)(f:Bool->Option β):agC Tryz.prog 24 (.agg (xQ x)) (.agg (xQ x)) f=f ((x.a==x.a)&&((x.b==x.b)&&((x.c==x.c)&&((x.d==x.d)&&((x.e==x.e)&&((x.f==x.f)&&true)))))):=by kernel_rfl
theorem aqK{β:Type}(x:Bk)(f:Bool->Option β):agC Tryz.prog 136 (.agg (dV x)) (.agg (dV x)) f=f ((x.name.toList==x.name.toList)&&((x.addr.toList==x.addr.toList)&&(((x.bH.a==x.bH.a)&&((x.bH.b==x.bH.b)&&((x.bH.c==x.bH.c)&&((x.bH.d==x.bH.d)&&((x.bH.e==x.bH.e)&&((x.bH.f==x.bH.f)&&true))))))&&((x.port==x.port)&&((x.weight==x.weight)&&true))))):=by kernel_rfl
theorem int_ne(x:Int):(x != x)=false:=by simp
section
variable {h h':H}{n:Nat}{p:Ps}{cs cs':List AV}
theorem MO{x:Sv}{q1 q2:Pt}{c1 c2:aM}(hb:x.bf.length<=1000){i j:Nat}{f:Nat->Option Nat}{c:Nat->List AV}{a:H}(v:LV a h f c)(dr:f 0=some i)(jD:f 1=some j)(hc0:c 0=cU x (.slice q1 x.bf.length c1))(uo:c 1=cU x (.slice q2 x.bf.length c2))(r1:Row h 10 q1 x.bf.length c1 (x.bf.flatMap dV))(r2:Row h 10 q2 x.bf.length c2 (x.bf.flatMap dV)):
  ∀(rest pre:List Bk) (m:Nat),x.bf=pre++rest->rest.length<m->jU n m (some (i,0)) (some (j,0)) (x.bf.length:Nat) (pre.length:Nat) h=some (.bool true,h)
 | [],pre,m,e,hm=>by
  obtain⟨m,rfl⟩:∃y,m=y+1:=⟨m - 1,by simp at hm;omega⟩
  have NR:pre.length=x.bf.length:=by rw[e,List.append_nil]
  rw[sK,decide_eq_false (by omega),br]
 | b::rest,pre,m+1,e,hm=>by
  have hlt:pre.length<x.bf.length:=by rw[e];simp
  have hx:x.bf[pre.length]?=some b:=by rw[e];simp
  rw[sK,decide_eq_true (by omega),bM]
  simp only[ai,Nat.zero_add]
  rw[v.cell (i:=0) (p:=9) dr hc0 rfl,ah,r1.ix E5 (by decide) hx,v.cell (i:=1) (p:=9) jD uo rfl,ah,r2.ix E5 (by decide) hx,aqK]
  simp only[toList_eq,beq_self_eq_true,Bool.and_self,Bool.not_true,br]
  rw[aG (by omega)]
  have:=MO hb v dr jD hc0 uo r1 r2 rest (pre++[b]) m (by rw[e];simp) (by simp at hm;omega)
  rw[hU,Lf]at this
  exact this
theorem af8{x:Sv}{q1 q2:Pt}{c1 c2:aM}(hb:x.bf.length<=1000)(r1:Row h 10 q1 x.bf.length c1 (x.bf.flatMap dV))(r2:Row h 10 q2 x.bf.length c2 (x.bf.flatMap dV))(hn:1010<=n):
  cg (ca n qo [.agg (cU x (.slice q1 x.bf.length c1)),.agg (cU x (.slice q2 x.bf.length c2))] h) λr h'=>Mod [] h h'/\r=.bool true:=by
 obtain⟨n,rfl⟩:∃j,n=j+1:=⟨n - 1,by omega⟩
 simp only[cU]
 rw[Dy]
 refine tF λi j h2 v=>?_
 have go:∀{β:Type} (k:Nat) (y:AV) (F:AV->Option β),k<9->(cU x (.slice q1 x.bf.length c1))[k]?=some y->af h2 i k F=F y/\af h2 j k F=F y:=λk y F hk hy=>⟨v.cell (i:=0) (w:=cU x (.slice q1 x.bf.length c1)) rfl rfl hy F,v.cell (i:=1) (w:=cU x (.slice q2 x.bf.length c2)) rfl rfl (by
  rw[<-hy]
  match k,hk with
  | 0,_=>rfl
  | 1,_=>rfl
  | 2,_=>rfl
  | 3,_=>rfl
  | 4,_=>rfl
  | 5,_=>rfl
  | 6,_=>rfl
  | 7,_=>rfl
  | 8,_=>rfl) F⟩
 rw[(go 0 (.str x.name) _ (by decide) rfl).1,az,(go 0 (.str x.name) _ (by decide) rfl).2,az,toList_eq,Bool.not_true,br]
 rw[(go 1 (.str x.D1) _ (by decide) rfl).1,az,(go 1 (.str x.D1) _ (by decide) rfl).2,az,toList_eq,Bool.not_true,br]
 rw[(go 2 (.int .i64 x.proto) _ (by decide) rfl).1,aj,(go 2 (.int .i64 x.proto) _ (by decide) rfl).2,aj,int_ne,br]
 rw[(go 3 (.int .i64 x.port) _ (by decide) rfl).1,aj,(go 3 (.int .i64 x.port) _ (by decide) rfl).2,aj,int_ne,br]
 rw[(go 4 (.int .i64 x.mode) _ (by decide) rfl).1,aj,(go 4 (.int .i64 x.mode) _ (by decide) rfl).2,aj,int_ne,br]
 rw[(go 5 (.int .i64 x.sched) _ (by decide) rfl).1,aj,(go 5 (.int .i64 x.sched) _ (by decide) rfl).2,aj,int_ne,br]
 rw[(go 6 (.int .i64 x.ju) _ (by decide) rfl).1,aj,(go 6 (.int .i64 x.ju) _ (by decide) rfl).2,aj,int_ne,br]
 rw[(go 7 (.int .i64 x.jr) _ (by decide) rfl).1,aj,(go 7 (.int .i64 x.jr) _ (by decide) rfl).2,aj,int_ne,br]
 rw[(go 8 (.int .i64 x.probe) _ (by decide) rfl).1,aj,(go 8 (.int .i64 x.probe) _ (by decide) rfl).2,aj,int_ne,br]
 rw[v.cell (i:=0) (w:=cU x (.slice q1 x.bf.length c1)) (p:=9) (y:=.slice q1 x.bf.length c1) rfl rfl rfl,ah,v.cell (i:=1) (w:=cU x (.slice q2 x.bf.length c2)) (p:=9) (y:=.slice q2 x.bf.length c2) rfl rfl rfl,ah,int_ne,Ao,br]
 simp only[ai,Nat.zero_add]
 rw[v.cell (i:=0) (w:=cU x (.slice q1 x.bf.length c1)) (p:=9) (y:=.slice q1 x.bf.length c1) rfl rfl rfl,ah]
 have:=MO (n:=n) hb v rfl rfl rfl rfl (r1.ak v.m) (r2.ak v.m) x.bf [] n rfl (by omega)
 rw[show((([]:List Bk).length:Nat):Int)=0 from rfl]at this
 rw[this]
 exact .pure ⟨v.m,rfl⟩
structure Two(a h:H)(p:Ps)(fm KH:List U7)(f:Nat->Option Nat)(c:Nat->List AV)(vp Vj tp Vh gp O2:Pt)(vc Vi tc Vg gc gc':aM):Prop where
 lv:LV a h f c
 c0:c 0=vM p (.slice vp p.au.length vc) (.slice tp p.bh.length tc) (.slice gp p.bB.length gc)
 c1:c 1=vM p (.slice Vj p.au.length Vi) (.slice Vh p.bh.length Vg) (.slice O2 p.bB.length gc')
 v0:Row h 1 vp p.au.length vc (p.au.map .str)
 v1:Row h 1 Vj p.au.length Vi (p.au.map .str)
 t0:Row h 2 tp p.bh.length tc (p.bh.flatMap wm)
 t1:Row h 2 Vh p.bh.length Vg (p.bh.flatMap wm)
 g0:Row h 10 gp fm.length gc (fm.flatMap yE)
 g1:Row h 10 O2 KH.length gc' (KH.flatMap yE)
 e0:fm.map (·.1)=p.bB
 e1:KH.map (·.1)=p.bB
 b0:∀x∈fm,Row h 10 x.2.1 x.1.bf.length x.2.2 (x.1.bf.flatMap dV)
 b1:∀x∈KH,Row h 10 x.2.1 x.1.bf.length x.2.2 (x.1.bf.flatMap dV)
 n:p.au.length<=1000/\p.bh.length<=1000/\p.bB.length<=1000/\∀x∈p.bB,x.bf.length<=1000
section
variable {a:H}{fm KH:List U7}{f:Nat->Option Nat}{c:Nat->List AV}{vp Vj tp Vh gp O2:Pt}{vc Vi tc Vg gc gc':aM}{i j:Nat}
theorem Two.ak(t:Two a h p fm KH f c vp Vj tp Vh gp O2 vc Vi tc Vg gc gc')(m:Mod [] h h'):Two a h' p fm KH f c vp Vj tp Vh gp O2 vc Vi tc Vg gc gc':=
 ⟨t.lv.ak m,t.c0,t.c1,t.v0.ak m,t.v1.ak m,t.t0.ak m,t.t1.ak m,t.g0.ak m,t.g1.ak m,t.e0,t.e1,λx hx=>(t.b0 x hx).ak m,λx hx=>(t.b1 x hx).ak m,t.n⟩
theorem UC(hn:1100<=n)(dr:f 0=some i)(jD:f 1=some j):∀(rest pre:List Sv) (m:Nat) (h:H),Two a h p fm KH f c vp Vj tp Vh gp O2 vc Vi tc Vg gc gc'->p.bB=pre++rest->rest.length<m->cg (kQ n m (some (i,0)) (some (j,0)) (p.bB.length:Nat) (pre.length:Nat) h) λr h'=>Mod [] a h'/\r=.bool true
 | [],pre,m,h,t,e,hm=>by
  obtain⟨m,rfl⟩:∃y,m=y+1:=⟨m - 1,by simp at hm;omega⟩
  have NR:pre.length=p.bB.length:=by rw[e,List.append_nil]
  rw[tw,decide_eq_false (by omega),br]
  exact .pure ⟨t.lv.m,rfl⟩
 | b::rest,pre,m+1,h,t,e,hm=>by
  have hlt:pre.length<p.bB.length:=by rw[e];simp
  have hx:p.bB[pre.length]?=some b:=by rw[e];simp
  have Yy:=t.n.2.2.1
  have pick:∀{sv:List U7},sv.map (·.1)=p.bB->∃y,sv[pre.length]?=some y/\y.1=b:=λ{sv} he=>by
   rw[<-he,List.getElem?_map]at hx
   cases hq:sv[pre.length]? with
   | none=>rw[hq]at hx;cases hx
   | some y=>rw[hq]at hx;exact⟨y,rfl,oh hx⟩
  obtain⟨⟨x,q1,d1⟩,hy,rfl⟩:=pick t.e0
  obtain⟨⟨x',q2,d2⟩,hy',ex⟩:=pick t.e1
  obtain rfl:x'=x:=ex
  have hl0:fm.length=p.bB.length:=by rw[<-List.length_map (f:=(·.1)),t.e0]
  have hl1:KH.length=p.bB.length:=by rw[<-List.length_map (f:=(·.1)),t.e1]
  have g0:=t.g0
  have g1:=t.g1
  rw[hl0]at g0
  rw[hl1]at g1
  rw[tw,decide_eq_true (by omega),bM]
  simp only[ai,Nat.zero_add]
  rw[t.lv.cell (i:=0) (p:=14) dr t.c0 rfl,ah,g0.ix E6 (by decide) hy]
  simp only[yE,cU,dx,cu,ux,aE]
  rw[t.lv.cell (i:=1) (p:=14) jD t.c1 rfl,ah,g1.ix E6 (by decide) hy']
  simp only[yE,cU,dx,cu,ux,aE]
  have hbk:x'.bf.length<=1000:=t.n.2.2.2 x' (by rw[e];simp)
  refine(af8 (x:=x') hbk (t.b0 _ (Hq hy)) (t.b1 _ (Hq hy')) (by omega)).bind ?_
  rintro _ h2 ⟨m2,rfl⟩
  simp only[aq]
  rw[Bool.not_true,br,aG (by omega)]
  have:=UC hn dr jD rest (pre++[x']) m h2 (t.ak m2) (by rw[e];simp) (by simp at hm;omega)
  rw[hU,Lf]at this
  exact this
theorem UD(hn:1100<=n)(dr:f 0=some i)(jD:f 1=some j)(t:Two a h p fm KH f c vp Vj tp Vh gp O2 vc Vi tc Vg gc gc'):∀(rest pre:List (Bs×Int)) (m:Nat),p.bh=pre++rest->rest.length<m->cg (kP n m (some (i,0)) (some (j,0)) (p.bh.length:Nat) (pre.length:Nat) h) λr h'=>Mod [] a h'/\r=.bool true
 | [],pre,m,e,hm=>by
  obtain⟨m,rfl⟩:∃y,m=y+1:=⟨m - 1,by simp at hm;omega⟩
  have NR:pre.length=p.bh.length:=by rw[e,List.append_nil]
  have Yy:=t.n.2.2.1
  rw[tv,decide_eq_false (by omega),br]
  simp only[ai,Nat.zero_add]
  rw[t.lv.cell (i:=0) (p:=14) dr t.c0 rfl,ah]
  exact UC hn dr jD p.bB [] n h t rfl (by omega)
 | b::rest,pre,m+1,e,hm=>by
  have hlt:pre.length<p.bh.length:=by rw[e];simp
  have hx:p.bh[pre.length]?=some b:=by rw[e];simp
  have Yy:=t.n.2.1
  rw[tv,decide_eq_true (by omega),bM]
  simp only[ai,Nat.zero_add]
  rw[t.lv.cell (i:=0) (p:=13) dr t.c0 rfl,ah,t.t0.ix E7 (by decide) hx]
  simp only[wm,dx,cu,ux,aE]
  rw[t.lv.cell (i:=1) (p:=13) jD t.c1 rfl,ah,t.t1.ix E7 (by decide) hx]
  simp only[wm,dx,cu,ux,aE]
  simp only[toList_eq,beq_self_eq_true,Bool.and_self,Bool.not_true,br]
  rw[aG (by omega)]
  have:=UD hn dr jD t rest (pre++[b]) m (by rw[e];simp) (by simp at hm;omega)
  rw[hU,Lf]at this
  exact this
theorem Qo(hn:1100<=n)(dr:f 0=some i)(jD:f 1=some j)(t:Two a h p fm KH f c vp Vj tp Vh gp O2 vc Vi tc Vg gc gc'):∀(rest pre:List Bs) (m:Nat),p.au=pre++rest->rest.length<m->cg (kO n m (some (i,0)) (some (j,0)) (p.au.length:Nat) (pre.length:Nat) h) λr h'=>Mod [] a h'/\r=.bool true
 | [],pre,m,e,hm=>by
  obtain⟨m,rfl⟩:∃y,m=y+1:=⟨m - 1,by simp at hm;omega⟩
  have NR:pre.length=p.au.length:=by rw[e,List.append_nil]
  have Yy:=t.n.2.1
  rw[tu,decide_eq_false (by omega),br]
  simp only[ai,Nat.zero_add]
  rw[t.lv.cell (i:=0) (p:=13) dr t.c0 rfl,ah]
  exact UD hn dr jD t p.bh [] n rfl (by omega)
 | b::rest,pre,m+1,e,hm=>by
  have hlt:pre.length<p.au.length:=by rw[e];simp
  have hx:p.au[pre.length]?=some b:=by rw[e];simp
  have Yy:=t.n.1
  rw[tu,decide_eq_true (by omega),bM]
  simp only[ai,Nat.zero_add]
  rw[t.lv.cell (i:=0) (p:=12) dr t.c0 rfl,ah,t.v0.Mh hx,az,t.lv.cell (i:=1) (p:=12) jD t.c1 rfl,ah,t.v1.Mh hx,az,toList_eq,Bool.not_true,br,aG (by omega)]
  have:=Qo hn dr jD t rest (pre++[b]) m (by rw[e];simp) (by simp at hm;omega)
  rw[hU,Lf]at this
  exact this
end
theorem aeQ(c1:nD h p cs)(c2:nD h p cs')(hb:p.au.length<=1000/\p.bh.length<=1000/\p.bB.length<=1000/\∀x∈p.bB,x.bf.length<=1000)(hn:1200<=n):
  cg (ca n lT [.agg cs,.agg cs'] h) λr h'=>Mod [] h h'/\r=.bool true:=by
 obtain⟨n,rfl⟩:∃j,n=j+1:=⟨n - 1,by omega⟩
 obtain⟨vp,vc,tp,tc,gp,gc,fm,rfl,v0,t0,g0,e0,b0⟩:=c1.ex
 obtain⟨Vj,Vi,Vh,Vg,O2,gc',KH,rfl,v1,t1,g1,e1,b1⟩:=c2.ex
 rw[Er]
 refine tF λi j h2 v=>?_
 have t:Two h h2 p fm KH _ _ vp Vj tp Vh gp O2 vc Vi tc Vg gc gc':=⟨v,rfl,rfl,v0.ak v.m,v1.ak v.m,t0.ak v.m,t1.ak v.m,g0.ak v.m,g1.ak v.m,e0,e1,λx hx=>(b0 x hx).ak v.m,λx hx=>(b1 x hx).ak v.m,hb⟩
 have a0:=v.ow.at (i:=0) rfl
 have a1:=v.ow.at (i:=1) rfl
 rw[a0.agg (n:=6) (o:=0) (vs:=xQ p.bH) rfl (by show 0+6<=15;decide),a1.agg (n:=6) (o:=0) (vs:=xQ p.bH) rfl (by show 0+6<=15;decide),awL]
 simp only[beq_self_eq_true,Bool.and_self,Bool.not_true,br]
 rw[v.cell (i:=0) (w:=vM p (.slice vp p.au.length vc) (.slice tp p.bh.length tc) (.slice gp p.bB.length gc)) (y:=.str p.addr) rfl rfl rfl,az,v.cell (i:=1) (w:=vM p (.slice Vj p.au.length Vi) (.slice Vh p.bh.length Vg) (.slice O2 p.bB.length gc')) (y:=.str p.addr) rfl rfl rfl,az,toList_eq,Bool.not_true,br]
 rw[v.cell (i:=0) (w:=vM p (.slice vp p.au.length vc) (.slice tp p.bh.length tc) (.slice gp p.bB.length gc)) (y:=.str p.peer) rfl rfl rfl,az,v.cell (i:=1) (w:=vM p (.slice Vj p.au.length Vi) (.slice Vh p.bh.length Vg) (.slice O2 p.bB.length gc')) (y:=.str p.peer) rfl rfl rfl,az,toList_eq,Bool.not_true,br]
 rw[v.cell (i:=0) (w:=vM p (.slice vp p.au.length vc) (.slice tp p.bh.length tc) (.slice gp p.bB.length gc)) (y:=.int .i64 p.id) rfl rfl rfl,aj,v.cell (i:=1) (w:=vM p (.slice Vj p.au.length Vi) (.slice Vh p.bh.length Vg) (.slice O2 p.bB.length gc')) (y:=.int .i64 p.id) rfl rfl rfl,aj,int_ne,br]
 rw[v.cell (i:=0) (w:=vM p (.slice vp p.au.length vc) (.slice tp p.bh.length tc) (.slice gp p.bB.length gc)) (y:=.int .i64 p.prio) rfl rfl rfl,aj,v.cell (i:=1) (w:=vM p (.slice Vj p.au.length Vi) (.slice Vh p.bh.length Vg) (.slice O2 p.bB.length gc')) (y:=.int .i64 p.prio) rfl rfl rfl,aj,int_ne,br]
 rw[v.cell (i:=0) (w:=vM p (.slice vp p.au.length vc) (.slice tp p.bh.length tc) (.slice gp p.bB.length gc)) (y:=.int .i64 p.every) rfl rfl rfl,aj,v.cell (i:=1) (w:=vM p (.slice Vj p.au.length Vi) (.slice Vh p.bh.length Vg) (.slice O2 p.bB.length gc')) (y:=.int .i64 p.every) rfl rfl rfl,aj,int_ne,br]
 rw[v.cell (i:=0) (w:=vM p (.slice vp p.au.length vc) (.slice tp p.bh.length tc) (.slice gp p.bB.length gc)) (y:=.bool p.pre) rfl rfl rfl,aq,v.cell (i:=1) (w:=vM p (.slice Vj p.au.length Vi) (.slice Vh p.bh.length Vg) (.slice O2 p.bB.length gc')) (y:=.bool p.pre) rfl rfl rfl,aq,show(!(p.pre==p.pre))=false by simp,Bd,br]
 simp only[ai,Nat.zero_add]
 rw[v.cell (i:=0) (p:=12) rfl t.c0 rfl,ah,v.cell (i:=1) (p:=12) rfl t.c1 rfl,ah,int_ne,br]
 rw[v.cell (i:=0) (p:=13) rfl t.c0 rfl,ah,v.cell (i:=1) (p:=13) rfl t.c1 rfl,ah,int_ne,br]
 rw[v.cell (i:=0) (p:=14) rfl t.c0 rfl,ah,v.cell (i:=1) (p:=14) rfl t.c1 rfl,ah,int_ne,Be,br]
 simp only[ai,Nat.zero_add]
 rw[v.cell (i:=0) (p:=12) rfl t.c0 rfl,ah]
 exact Qo (n:=n) (f:=up (up (λ_=>none) 0 (some i)) 1 (some j)) (by omega) rfl rfl t p.au [] n rfl (by omega)
end
theorem aen{ls:List (List Bs)}(g:pI ls)(h3:Few ls)(hn:ls.length<=1000){n:Nat}(hN:1200000<=n){h:H}{K:List AV->Int->Int->H->Option Unit}
  (hk:∀cs h',Mod [] h h'->nD h' (M0 (fl (mk (pY ls)))) cs->(M0 (fl (mk (pY ls)))).k<=300000->K cs (atP (fl (mk (pY ls)))) (Nb (fl (mk (pY ls)))) h'=some ()):
  cr n fH [.str (mk (pY ls))] h (λv h'=>aO v λl=>lA l λx l=>lI l λy l=>lI l λz l=>l0 l (K x y z h'))=some ():=by
 have h1:=(NJ g h3).1
 have:(mk (pY ls)).size=(pY ls).length:=rfl
 exact Ul (by omega) (V9 g h3 hn) (by omega) hk
theorem nD.same{h:H}{p:Ps}{cs:List AV}{k:Nat}{sp:za}{b e:Int}(c:nD h {p with k:=k,ag:=sp,bad:=b,code:=e} cs):nD h p cs:=c.ex.elim λvp h=>⟨vp,h⟩
theorem Nc{s:Bs}{n:Nat}(hN:2100001<=n){h:H}(tb:Tb h):JZ (λkk=>cr n ku [.str s] h kk) λr _=>r=.bool true:=by
 intro kk hkk
 obtain⟨n,rfl⟩:∃k,n=k+1:=⟨n - 1,by omega⟩
 show cr (n+1) ku [.str s] h kk=some ()
 rw[yM]
 by_cases h1:((s.size:Nat):Int)>20000
 ·rw[decide_eq_true h1,bM]
  exact QJ (by omega) λh' m'=>hkk _ _ rfl
 rw[decide_eq_false h1,br]
 obtain⟨st,g,ep⟩:=akI s
 refine RT (by omega) (by omega) λcs Rc m1 c1 k1=>?_
 refine Tl rfl c1 λi h2 hi m2 a2 c2=>?_
 by_cases hc:Nb (fl s)=0
 ·rw[hc,show((0:Int) != 0)=false from rfl,br]
  obtain⟨p,e,c⟩:=W4 hc
  have hp:M0 (fl s)=p:=by rw[e];rfl
  rw[hp]at ep c1 c2 k1
  have few:Few (jY p):=by rw[<-ep];exact ZZ g
  have hg:=Og c
  have adb:=Uo c
  have tb2:=(tb.ak m1).ak m2
  refine ahE (n:=n) a2 c2 (by rw[<-ep]at k1 ⊢;exact ahH g k1) (by rw[<-ep]at k1 ⊢;exact aaM g k1) tb2 (by omega) λv3 h3 m3=>?_
  dsimp only
  refine aen hg few (by omega) (by omega) λcs4 h4 m4 c4 _=>?_
  obtain⟨k5,sp5,e5⟩:=Vy c
  rw[e5]at c4 ⊢
  have c4:nD h4 p cs4:=nD.same c4
  refine Tl rfl c4 λj h5 hj m5 a5 c5=>?_
  obtain⟨r6,h6,er,m6,cs6,rfl,c6⟩:=Xf (s:=s) (by omega) e (n:=n) (by omega) h5
  rw[er,fD]
  simp only[ay,eV,cu,aE]
  refine Tl rfl c6 λq h7 hq m7 a7 c7=>?_
  refine QJ (by omega) λh8 m8=>?_
  have m28:Mod [] h2 h8:=((((m3.trans m4).trans m5).trans m6).trans m7).trans m8
  have m58:Mod [] h5 h8:=(m6.trans m7).trans m8
  have a2':=a2.ak m28
  have a5':=a5.ak m58
  have a7':=a7.ak m8
  have hb:p.au.length<=1000/\p.bh.length<=1000/\p.bB.length<=1000/\∀x∈p.bB,x.bf.length<=1000:=⟨by have:=c.vn;omega,by have:=c.tn;omega,by have:=c.sn;omega,λx hx=>by have:=(c.bB x hx).n;omega⟩
  rw[bM]
  show cond ((0:Int)==0) (cond ((0:Int)==0) _ _) _=some ()
  rw[show((0:Int)==0)=true from rfl,bM,bM,a2'.all (n:=15) c2.len.1,a7'.all (n:=15) c7.len.1]
  obtain⟨r9,h9,e9,m9,rfl⟩:=aeQ (c2.ak m28) (c7.ak m8) hb (n:=n) (by omega)
  rw[e9,fD]
  simp only[aq]
  rw[bM,(a5'.ak m9).all (n:=15) c5.len.1,(a7'.ak m9).all (n:=15) c7.len.1]
  obtain⟨r10,h10,e10,m10,rfl⟩:=aeQ ((c5.ak m58).ak m9) ((c7.ak m8).ak m9) hb (n:=n) (by omega)
  rw[e10,fD]
  simp only[aq]
  exact hkk _ _ rfl
 ·rw[show(Nb (fl s) != 0)=true by simpa using hc,bM]
  refine QJ (by omega) λh' m'=>?_
  cases e:fl s with
  | inl p=>rw[e]at hc;exact absurd rfl hc
  | inr x=>
   rw[e]at c2
   have a3:=a2.ak m'
   obtain⟨vp,vc,tp,tc,gp,gc,fm,rfl,_⟩:=c2
   rw[bM,a3.cell (o:=6) (v:=.str ⟨#[]⟩) rfl,az,ey rfl,a3.cell (o:=12) rfl,ah]
   show cond (((0:Nat):Int)==0) _ _=some ()
   rw[show(((0:Nat):Int)==0)=true from rfl,bM,a3.cell (o:=14) rfl,ah]
   exact hkk _ _ rfl
end Go.Ev.Tryz
