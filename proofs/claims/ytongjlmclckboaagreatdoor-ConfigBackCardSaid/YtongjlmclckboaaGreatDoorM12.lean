/- Own texts, joined: . -/
import Derived.Test.YtongjlmclckboaaGreatDoorM11
import Derived.Test.YtongjlmclckboaaGreatDoorM10
import Derived.Test.YtongjlmclckboaaGreatDoorM6
import Derived.KernelRfl
set_option linter.all false
namespace Go.Ev.Tryz
set_option maxRecDepth 10000
set_option maxHeartbeats 1000000
open Go.Proofs
theorem agD{T T':List Nat}{a b:H}(m:Mod [] a b)(hT:∀y∈T',y∈T∨a.next<=y):Fr T a T' b:=⟨m.of_nil,hT⟩
theorem Xn(e:En)(hs0:e.sv=none)(hb0:e.bk=none)(S0:List Nat)(h0:H)(hw:Words e.l){N:Nat}(hN:90000+e.l.length<=N):oF e S0 h0 N dc [.ptr (some (e.b,0))] [] (ew e.s e.l):=by
  refine⟨λb k=>by kernel_rfl,λn hn h S st _ i=>ah4 (by kernel_rfl) ?_⟩
  intro kk hkk
  obtain⟨n,rfl⟩:∃k,n=k+2:=⟨n - 2,by omega⟩
  show cr (n+1+1) dc [.ptr (some (e.b,0))] h kk=some ()
  have hw':∀w∈e.l,w.1.size<90000/\w.1.size+70<=80070:=λw hx=>by have:=hw w hx;omega
  have ok:=i.okp
  have oks:=ok.bB
  have hk:=ok.k
  have hll:=ok.len
  rw[AY,aL]
  have ma:Mod [] h (h.new (.cells [.ptr (some (e.b,0))] false)):=(Mod.refl _ _).new _
  have k1:Kept S (h.new (.cells [.ptr (some (e.b,0))] false)) h.next (.cells [.ptr (some (e.b,0))] false):=gA i.WR _
  replace i:=i.frame ma
  have fa:Fr S h S (h.new (.cells [.ptr (some (e.b,0))] false)):=.ak ma
  generalize h.new (.cells [.ptr (some (e.b,0))] false)=ha at k1 i fa ⊢
  generalize h.next=b1 at k1 ⊢
  have i0:=i
  obtain⟨g,rfl,i⟩:=i
  rw[k1.cell,bg]
  simp only[ai,Nat.zero_add]
  rw[i.cell (o:=17) rfl,ah]
  have hsv:st.p.bB.length=g.fm.length:=by rw[<-i.PI,List.length_map]
  have alw:g.fm.map (·.1.name)=st.p.bB.map (·.name):=by rw[<-i.PI,List.map_map];rfl
  have hrow:Row ha 10 (nu g.f 4) g.fm.length g.gc (g.fm.flatMap yE):=by rw[<-hsv];exact(i.gp.grow i.ow).row
  obtain⟨m',p',d',h1,e1,m1,g1⟩:=Hx hrow (by omega) (some (b1,0)) (n+1) kk g.fm [] (n+1) ha none (.known 0) rfl (by omega) (.refl _ _) .nil
  rw[alw]at g1
  rw[hsv]
  rw[show eA (n+1) (n+1) (some (b1,0)) none 0 (.known 0) (nu g.f 4) g.fm.length g.gc (Nat.cast g.fm.length) 0 ha kk=_ from e1]
  rw[qG,aT (cF _),br]
  have i1:=i0.frame m1
  have f1:Fr (oO g.f) ha (oO g.f) h1:=.ak m1
  have k2:=k1.ak m1
  have hS:∀b∈own p',b∉oO g.f:=λb hb hm=>by
    have:=(g1.iy b hb).1
    have:=i0.WR b hm
    omega
  generalize hSS:oO g.f=S at *
  have hr:Row h1 1 p' (st.p.bB.map (·.name)).length d' ((st.p.bB.map (·.name)).map .str):=by rw[List.length_map,hsv];exact g1.row
  have hnm:=Kt i1 hr (by rw[List.length_map];omega) hS (n:=n+1) (by rw[List.length_map];omega)
  rw[List.length_map,hsv]at hnm
  simp only[ai]
  rw[k2.cell,bg]
  unfold ew at hkk
  have TZ:=N4 e.s e.l (st.p.bB.map (·.name)) st.p
  generalize cB e.s e.l (st.p.bB.map (·.name)) st.p=v at TZ hnm hkk
  obtain⟨p1,nm,is⟩:=v
  obtain⟨r,h2,e2,rfl,f2,j2⟩:=hnm
  rw[e2,fD]
  simp only[ay,dx,fV,aE]
  cases is with
  | false=>
    rw[Bool.not_false,bM]
    exact hkk _ _ ⟨S,rfl,(fa.trans f1).trans f2,j2⟩
  | true=>
    obtain rfl:p1={st.p with k:=st.p.k+1}:=TZ rfl
    rw[Bool.not_true,br,aL]
    obtain⟨S1,f3,j3⟩:=j2.asZ hs0 (y:=iq nm) rfl (cF h2.next) (.new h2 (.cells (cU (iq nm) (.slice none 0 (.known 0))) false)) ((Mod.refl _ _).new _)
    have k3:=(k2.fr f2).fr f3
    rw[show(cK.cells [(.str nm),(.str .empty),(.int .i64 0),(.int .i64 0),(.int .i64 0),(.int .i64 1),(.int .i64 1),(.int .i64 1),(.int .i64 100),(.slice none 0 (.known 0))] false)=.cells (cU (iq nm) (.slice none 0 (.known 0))) false from rfl]
    generalize h2.next=X at j3 ⊢
    generalize h2.new (.cells (cU (iq nm) (.slice none 0 (.known 0))) false)=hA at j3 f3 k3 ⊢
    rw[aL,mZ (n:=1) rfl rfl rfl]
    have mb:Mod [] hA (hA.new (.cells [.ptr (some (X,0))] false)):=(Mod.refl _ _).new _
    have kX:Kept S1 (hA.new (.cells [.ptr (some (X,0))] false)) hA.next (.cells [.ptr (some (X,0))] false):=gA j3.WR _
    replace j3:=j3.frame mb
    have k4:=k3.ak mb
    have f4:Fr S1 hA S1 (hA.new (.cells [.ptr (some (X,0))] false)):=.ak mb
    generalize hA.new (.cells [.ptr (some (X,0))] false)=hb at j3 k4 kX f4 ⊢
    generalize hA.next=X2 at kX ⊢
    have f04:=(((fa.trans f1).trans f2).trans f3).trans f4
    have hS1:=j3.WR
    have rd1:∀{β:Type} {hh:H},Mod [] hb hh->∀f:AV->Option β,af hh b1 0 f=f (.ptr (some (e.b,0))):=λm f=>(k4.ak m).cell f
    have rdX:∀{β:Type} {hh:H},Mod [] hb hh->∀f:AV->Option β,af hh X2 0 f=f (.ptr (some (X,0))):=λm f=>(kX.ak m).cell f
    have lt1:∀{hh:H},Mod [] hb hh->b1<hh.next:=λm=>(k4.ak m).at_.lt
    have m66:Mod [] hb (hb.jm none):=(Mod.refl _ _).jm _
    have m76:Mod [] hb ((hb.jm none).jm none):=m66.jm _
    rw[rd1 (.refl _ _),bg,zJ,rd1 m66,bg,rdX m66,bg,ai,zJ]
    have n66:(hb.jm none).next=hb.next+1:=jw _ _
    have n76:((hb.jm none).jm none).next=hb.next+2:=by rw[jw,n66]
    rw[n66]
    have u1:∀x∈[hb.next,hb.next+1]++S1,x<((hb.jm none).jm none).next:=by
      intro x hx
      rw[n76]
      simp only[List.cons_append,List.nil_append,List.mem_cons]at hx
      rcases hx with rfl | rfl | hx
      · omega
      · omega
      · have:=hS1 x hx;omega
    have up:∀{T:List Nat} {h' h'':H},Mod [] h' h''->(∀x∈T,x<h'.next)->∀x∈T,x<h''.next:=λm hh x hx=>m.lt (hh x hx)
    generalize (hb.jm none).jm none=Re at m76 n76 u1 ⊢
    refine FB (lt1 m76) (Na (e:={e with sv:=some X}) u1 (W9 rfl) (m:=hb.next+1) (by omega) n) λf1' x1 y1 c1 c2 v1 w1 mA P1 mB=>?_
    have M2:=(m76.trans mA).trans mB
    dsimp only
    simp only[ax mA,ax mB,oU]
    rw[rd1 M2,bg,rdX M2,bg,ai]
    have u2:=up (mA.trans mB) u1
    refine awQ (lt1 M2) (Mg (e:={e with sv:=some X}) u2 (aew rfl) n) λfI xI yI c3 v3 mC dI=>?_
    have M3:=M2.trans mC
    have u3:=up mC u2
    dsimp only
    refine FB (lt1 M3) (N3 (ze (e:={e with sv:=some X}) u3 hw' (by omega) true (dI.more (N':=80069) (by omega)) n)) λf2' x2 y2 c4 c5 v4 w4 mD q2 mE=>?_
    have M5:=(M3.trans mD).trans mE
    dsimp only
    simp only[ax mA,ax mB,ax mC,ax mD,ax mE,oU]
    rw[rd1 M5,bg,rdX M5,bg,ai]
    have u5:=up (mD.trans mE) u3
    refine FB (lt1 M5) (N3 (sy (e:={e with sv:=some X}) u5 (aaV rfl) 1 65535 n)) λf3' x3 y3 c6 c7 v6 w6 mF q3 mG=>?_
    have M7:=(M5.trans mF).trans mG
    dsimp only
    simp only[ax mA,ax mB,ax mC,ax mD,ax mE,ax mF,ax mG,oU]
    rw[rd1 M7,bg,rdX M7,bg,ai,zJ]
    have u7:=up (mF.trans mG) u5
    have mH:Mod [] c7 (c7.jm none):=(Mod.refl _ _).jm _
    have M8:=M7.trans mH
    have n8:(c7.jm none).next=c7.next+1:=jw _ _
    have u8:∀x∈[hb.next,hb.next+1,c7.next]++S1,x<(c7.jm none).next:=by
      intro x hx
      rw[n8]
      simp only[List.cons_append,List.nil_append,List.mem_cons]at hx
      rcases hx with rfl | rfl | rfl | hx
      · have:=u7 hb.next (by simp);omega
      · have:=u7 (hb.next+1) (by simp);omega
      · omega
      · have:=u7 x (by simp[hx]);omega
    generalize c7.jm none=c8 at mH M8 n8 u8 ⊢
    refine FB (lt1 M8) (Na (e:={e with sv:=some X}) u8 (aaU rfl) (m:=c7.next) (by omega) n) λf4' x4 y4 c9 D7 v9 w9 mI P4 mJ=>?_
    have M10:=(M8.trans mI).trans mJ
    dsimp only
    simp only[ax mA,ax mB,ax mC,ax mD,ax mE,ax mF,ax mG,ax mI,ax mJ,oU]
    rw[rd1 M10,bg,rdX M10,bg,ai,zJ]
    have u10:=up (mI.trans mJ) u8
    have mK:Mod [] D7 (D7.jm none):=(Mod.refl _ _).jm _
    have M11:=M10.trans mK
    have n11:(D7.jm none).next=D7.next+1:=jw _ _
    have u11:∀x∈[hb.next,hb.next+1,c7.next,D7.next]++S1,x<(D7.jm none).next:=by
      intro x hx
      rw[n11]
      simp only[List.cons_append,List.nil_append,List.mem_cons]at hx
      rcases hx with rfl | rfl | rfl | rfl | hx
      · have:=u10 hb.next (by simp);omega
      · have:=u10 (hb.next+1) (by simp);omega
      · have:=u10 c7.next (by simp);omega
      · omega
      · have:=u10 x (by simp[hx]);omega
    generalize D7.jm none=c11 at mK M11 n11 u11 ⊢
    refine FB (lt1 M11) (Na (e:={e with sv:=some X}) u11 (Xa rfl) (m:=D7.next) (by omega) n) λf5' x5 y5 c12 c13 v12 w12 mL P5 mM=>?_
    have M13:=(M11.trans mL).trans mM
    dsimp only
    simp only[ax mA,ax mB,ax mC,ax mD,ax mE,ax mF,ax mG,ax mI,ax mJ,ax mL,ax mM,oU]
    rw[rd1 M13,bg,rdX M13,bg,ai]
    have u13:=up (mL.trans mM) u11
    refine FB (lt1 M13) (N3 (sy (e:={e with sv:=some X}) u13 (aaW rfl) 1 20 n)) λf6' x6 y6 c14 c15 v14 w14 mN q6 mO=>?_
    have M15:=(M13.trans mN).trans mO
    dsimp only
    simp only[ax mA,ax mB,ax mC,ax mD,ax mE,ax mF,ax mG,ax mI,ax mJ,ax mL,ax mM,ax mN,ax mO,oU]
    rw[rd1 M15,bg,rdX M15,bg,ai]
    have u15:=up (mN.trans mO) u13
    refine FB (lt1 M15) (N3 (sy (e:={e with sv:=some X}) u15 (aaT rfl) 1 20 n)) λf7' x7 y7 c16 c17 v16 w16 mP q7 mQ=>?_
    have M17:=(M15.trans mP).trans mQ
    dsimp only
    simp only[ax mA,ax mB,ax mC,ax mD,ax mE,ax mF,ax mG,ax mI,ax mJ,ax mL,ax mM,ax mN,ax mO,ax mP,ax mQ,oU]
    rw[rd1 M17,bg,rdX M17,bg,ai]
    have u17:=up (mP.trans mQ) u15
    refine FB (lt1 M17) (N3 (sy (e:={e with sv:=some X}) u17 (W8 rfl) 1 10000 n)) λf8' x8 y8 c18 c19 v18 w18 mR q8 mS=>?_
    have M19:=(M17.trans mR).trans mS
    have u19:=up (mR.trans mS) u17
    dsimp only
    have o7:hb.next+2<=c7.next:=by rw[<-n76];exact((((((mA.trans mB).trans mC).trans mD).trans mE).trans mF).trans mG).next
    have o10:c7.next+1<=D7.next:=by rw[<-n8];exact(mI.trans mJ).next
    have z16:=mQ.trans (mR.trans mS)
    have z14:=mO.trans (mP.trans z16)
    have z12:=mM.trans (mN.trans z14)
    have z9:=mJ.trans (mK.trans (mL.trans z12))
    have z6:=mG.trans (mH.trans (mI.trans z9))
    have z4:=mE.trans (mF.trans z6)
    have z1:=mB.trans (mC.trans (mD.trans z4))
    have t9:Fr ([hb.next,hb.next+1,c7.next]++S1) c9 ([hb.next,hb.next+1,c7.next,D7.next]++S1) c19:=agD z9 λy hy=>by
      have:=mJ.next
      simp only[List.cons_append,List.nil_append,List.mem_cons]at hy ⊢
      rcases hy with rfl | rfl | rfl | rfl | hy<;>simp_all
    have t6:Fr ([hb.next,hb.next+1]++S1) c6 ([hb.next,hb.next+1,c7.next,D7.next]++S1) c19:=agD z6 λy hy=>by
      have:=mG.next
      simp only[List.cons_append,List.nil_append,List.mem_cons]at hy ⊢
      rcases hy with rfl | rfl | rfl | rfl | hy
      · simp
      · simp
      · right;omega
      · right;omega
      · simp[hy]
    have t4:Fr ([hb.next,hb.next+1]++S1) c4 ([hb.next,hb.next+1,c7.next,D7.next]++S1) c19:=agD z4 λy hy=>by
      have:=(mE.trans (mF.trans mG)).next
      simp only[List.cons_append,List.nil_append,List.mem_cons]at hy ⊢
      rcases hy with rfl | rfl | rfl | rfl | hy
      · simp
      · simp
      · right;omega
      · right;omega
      · simp[hy]
    have t1:Fr ([hb.next,hb.next+1]++S1) c1 ([hb.next,hb.next+1,c7.next,D7.next]++S1) c19:=agD z1 λy hy=>by
      have:=(mB.trans (mC.trans (mD.trans (mE.trans (mF.trans mG))))).next
      simp only[List.cons_append,List.nil_append,List.mem_cons]at hy ⊢
      rcases hy with rfl | rfl | rfl | rfl | hy
      · simp
      · simp
      · right;omega
      · right;omega
      · simp[hy]
    obtain⟨rfl,rfl,P1⟩:=P1
    obtain⟨rfl,rfl,P4⟩:=P4
    obtain⟨rfl,rfl,P5⟩:=P5
    have asv:=u19 hb.next (by simp)
    have asw:=u19 (hb.next+1) (by simp)
    have ajl:=u19 c7.next (by simp)
    have ajm:=u19 D7.next (by simp)
    have d1:hb.next≠c7.next:=by omega
    have d1':hb.next≠D7.next:=by omega
    have d2:hb.next+1≠c7.next:=by omega
    have d2':hb.next+1≠D7.next:=by omega
    have d3:c7.next≠D7.next:=by omega
    refine KA (by simp) (by simp;exact⟨asv,asw,ajl,ajm⟩) (by simp[List.pairwise_cons,YF,d1,d1',d2,d2',d3,d1.symm,d1'.symm,d2.symm,d2'.symm,d3.symm]) λHP r=>?_
    have fr:Fr ([hb.next,hb.next+1,c7.next,D7.next]++S1) c19 S1 HP:=r.fr
    have hout:∀{x:Nat},hb.next<=x->x∉S1:=λhx hm=>by have:=hS1 _ hm;omega
    obtain⟨LA,oA,hpA,kA,hMA⟩:=DJ r (S:=S1) (m:=hb.next+1) (by simp) asw (hout (by omega)) (L:=zU) (by simp[zU,HV,HW,d2.symm,d2'.symm])
    obtain⟨LB,oB,hpB,kB,hMB⟩:=DJ r (S:=S1) (m:=c7.next) (by simp) ajl (hout (by omega)) (L:=Fx) (by simp[Fx,HU,Ws,zF,d1,d2,d3.symm])
    obtain⟨LC,oC,hpC,kC,hMC⟩:=DJ r (S:=S1) (m:=D7.next) (by simp) ajm (hout (by omega)) (L:=zT) (by simp[zT,oR,oS,d1',d2',d3])
    have g1':=P1 S1 HP oA LA (λj oj k _=>(k.fr t1).fr fr) kA hMA
    rw[yz hpA (by simp[zU,HV,HW])]at g1'
    have g4':=P4 S1 HP oB LB (λj oj k _=>(k.fr t9).fr fr) kB hMB
    rw[yz hpB (by simp[Fx,HU,Ws,zF])]at g4'
    have g5':=P5 S1 HP oC LC (λj oj k _=>(k.ak z12).fr fr) kC hMC
    rw[yz hpC (by simp[zT,oR,oS])]at g5'
    have g2':=(q2.fr t4).fr fr
    have g3':=(q3.fr t6).fr fr
    have g6':=(q6.fr (.ak z14)).fr fr
    have g7':=(q7.fr (.ak z16)).fr fr
    have g8':=(q8.fr (.ak mS)).fr fr
    have M20:Mod [] hb HP:=r.mod M19 (by simp;omega)
    have g9':oF {e with sv:=some X} S1 HP (81010+e.l.length) dZ [] [.ptr (some (b1,0)),.ptr (some (X2,0))] (dh e.s e.l):=UE (e:={e with sv:=some X}) rfl hb0 hw (k4.ak M20) (kX.ak M20) (cF _)
    refine HX (n:=n+1) (N:=81010+e.l.length) (e:={e with sv:=some X}) (L:=[(nj,⟨1,true,aU,[],y1,cM e.s e.l lu zU⟩),(jt,⟨1,true,f2',x2,y2,bt e.s e.l true (j8 AN)⟩),(fK,⟨1,true,f3',x3,y3,bC e.s e.l pU 1 65535⟩),(th,⟨1,true,aU,[],y4,cM e.s e.l pS Fx⟩),(qw,⟨1,false,aU,[],y5,cM e.s e.l lz zT⟩),
      (vT,⟨1,false,f6',x6,y6,bC e.s e.l pW 1 20⟩),(vS,⟨1,false,f7',x7,y7,bC e.s e.l pR 1 20⟩),(qv,⟨1,false,f8',x8,y8,bC e.s e.l lq 1 10000⟩),(cP,⟨16,true,dZ,[],[.ptr (some (b1,0)),.ptr (some (X2,0))],dh e.s e.l⟩)]) (L0:=bR e.s e.l) j3 M19 (by simp;omega) (by simp) asv (by simp[G0,nj,jt,fK,th,qw,vT,vS,qv,cP,d1.symm,d1'.symm]) r ⟨?_,?_,rfl,?_,by simp⟩ (by simp[nj,jt,fK,th,qw,vT,vS,qv,cP]) rfl (by omega) (by omega) (by show e.l.length+5<=_;omega) _ λr' Me hq=>?_
    · intro x hx
      simp only[List.mem_cons,List.not_mem_nil,or_false]at hx
      rcases hx with rfl | rfl | rfl | rfl | rfl | rfl | rfl | rfl | rfl
      · exact oF.more (N:=30) g1' (by omega)
      · exact oF.more (N:=80070) g2' (by omega)
      · exact oF.more (N:=30) g3' (by omega)
      · exact oF.more (N:=30) g4' (by omega)
      · exact oF.more (N:=30) g5' (by omega)
      · exact oF.more (N:=30) g6' (by omega)
      · exact oF.more (N:=30) g7' (by omega)
      · exact oF.more (N:=30) g8' (by omega)
      · exact g9'
    · intro x hx
      simp only[List.mem_cons,List.not_mem_nil,or_false]at hx
      rcases hx with rfl | rfl | rfl | rfl | rfl | rfl | rfl | rfl | rfl
      · exact sj (put:=lu) (λ_ _=>rfl) _
      · exact iJ λ_ _ _=>rfl
      · exact eB (put:=pU) (λ_ _=>rfl) _ _
      · exact sj (put:=pS) (λ_ _=>rfl) _
      · exact sj (put:=lz) (λ_ _=>rfl) _
      · exact eB (put:=pW) (λ_ _=>rfl) _ _
      · exact eB (put:=pR) (λ_ _=>rfl) _ _
      · exact eB (put:=lq) (λ_ _=>rfl) _ _
      · exact MR _ _
    · intro x hx
      simp only[List.mem_cons,List.not_mem_nil,or_false]at hx
      rcases hx with rfl | rfl | rfl | rfl | rfl | rfl | rfl | rfl | rfl<;>first | exact(by decide:(1:Int)<=1000) | exact(by decide:(16:Int)<=1000)
    · obtain⟨S',rfl,f7,j7⟩:=hq
      have hbk:Mw _ _:=MV oc (s:=e.s) (l:=e.l) (R1 e.s e.l) {aA st {st.p with k:=st.p.k+1}with sv:=iq nm}
      have hkk':=uW (s:=e.s) (l:=e.l) (Ot e.s e.l) {aA st {st.p with k:=st.p.k+1}with sv:=iq nm}
      have aru:∀r h',(∃S',r=.bool (FK (bL e.s e.l (bR e.s e.l) {aA st {st.p with k:=st.p.k+1}with sv:=iq nm})).2/\Fr S h S' h'/\Inv e h' (FK (bL e.s e.l (bR e.s e.l) {aA st {st.p with k:=st.p.k+1}with sv:=iq nm})).1 S')->kk r h'=some ():=hkk
      clear hkk
      change Inv _ Me (bL e.s e.l (bR e.s e.l) {aA st {st.p with k:=st.p.k+1}with sv:=iq nm}).1 S' at j7
      change (_:St).p.bB=st.p.bB at hbk
      change st.p.k+1<=_ at hkk'
      rw[aq]
      have kk1:=k4.fr f7
      have kkX:=kX.fr f7
      rw[kk1.cell,bg,kk1.cell,bg]
      simp only[ai,Nat.zero_add]
      show(af Me e.b 17 λais=>_)=some ()
      change (af Me e.b 17 λais=>asSlice ais λaoJ n255 akE=>af Me X2 0 λan4=>cZ an4 λaoK=>aC aoK λakl anj=>aI Me akl anj 10 λamv=>lS amv λaoL amw=>lS amw λaoM amx=>lI amx λaoN amy=>lI amy λaoO amz=>lI amz λaoP amA=>lI amA λaoQ amB=>lI amB λaoR amC=>lI amC λaoS amD=>lI amD λaoT amE=>lL amE λaoU n282 akF amF=>l0 amF (aD (.cells [(.str aoL),(.str aoM),(.int .i64 aoN),(.int .i64 aoO),(.int .i64 aoP),(.int .i64 aoQ),(.int .i64 aoR),(.int .i64 aoS),(.int .i64 aoT),(.slice aoU n282 akF)] false) Me λalM Wc=>fS 10 112 aoJ n255 akE (di 10 (.slice (some (alM,0)) 1 (.known 1)) Wc) Wc λanz n287 akG ac6=>dU Wc ac6 (kj (some (b1,0))) (bK ac6 e.b 17 1 [.slice anz n287 akG] λak6=>kk (.bool (bL e.s e.l (bR e.s e.l) {aA st {st.p with k:=st.p.k+1}with sv:=iq nm}).2) ak6)))=some ()
      generalize bL e.s e.l (bR e.s e.l) {aA st {st.p with k:=st.p.k+1}with sv:=iq nm}=w at aru j7 hbk hkk' ⊢
      obtain⟨g7,rfl,j7⟩:=j7
      rw[j7.cell (o:=17) rfl,ah,kkX.cell,bg,ai]
      have hX:=j7.ow.get 6 X j7.fv
      rw[j7.cv]at hX
      rw[jF (n:=10) hX rfl]
      simp only[cU,dx,cu,ux,aE]
      obtain⟨y',cap',K7,h23,S23,e22,m22,e23,f23,j23⟩:=AR.anE hs0 j7 (by rw[hbk];omega)
      dsimp only[cU]at e22 e23
      rw[aL,e22,show kj (some (b1,0))=some b1 from rfl,zS (by rw[m22.get _ kk1.at_.lt (λhm=>kk1.out (j7.ow.mem.2 ⟨4,by
        cases h4:g7.f 4 with
        | none=>rw[nu,h4]at hm;simp at hm
        | some z=>
          rw[nu,h4]at hm;obtain rfl:b1=z:=by simpa using hm
          rfl⟩)),wA kk1.at_.lt]),e23]
      exact aru _ _ ⟨S23,rfl,(f04.trans f7).trans f23,j23⟩
def gz:Bs:=⟨#[110,111,100,101]⟩
def fq:Bs:=⟨#[118,114,114,112]⟩
def bF:Bs:=⟨#[115,101,114,118,105,99,101]⟩
def uU(s:Bs)(l:List Wd):List (Bs×Key):=[ou gz 1 true (vv s l),ou fq 1 true (oE s l),ou bF 4 false (ew s l)]
def qJ(p:Ps)(x:Bs×Int×Bool):Bool:=decide (x.1.size≠p.addr.size)
def vU(p:Ps)(x:Bs×Int×Bool):Bool:=x.2.2&&!uO x.1 p.au
def aeY(st:St):Option (Bs×Int×Bool)->St×Bool
 | some x=>(aA st (bE st.p x.2.1 182),false)
 | none=>(st,true)
def Hy(st:St):St×Bool:=aeY st (st.p.ag.find? (vU st.p))
def Bw(st:St):St×Bool:=match st.p.ag.find? (qJ st.p)with
 | some x=>(aA st (bE st.p x.2.1 182),false)
 | none=>Hy st
def Tz(s:Bs)(M:List (Bs×Int))(st:St):St×Bool:=if cnt M gz=0∨cnt M fq=0 then(aA st (bE st.p s.size 183),false)else Bw st
def oG(s:Bs)(l:List Wd)(L:List (Bs×Key)):Nat->List (Bs×Int)->St->St×Bool
 | 0,_,st=>(st,false)
 | F+1,M,st=>
  if st.p.k<l.length then
   match lk L (aa l st.p.k)with
   | none=>(aA st (bE st.p (bA s l st.p.k) 180),false)
   | some key=>
    if key.most<=cnt M (aa l st.p.k)then(aA st (bE st.p (bA s l st.p.k) (if key.most=1 then 181 else 184)),false)
    else if(key.sem (aA st {st.p with k:=st.p.k+1})).2=true then oG s l L F (pt M (aa l st.p.k) (cnt M (aa l st.p.k)+1)) (key.sem (aA st {st.p with k:=st.p.k+1})).1
    else((key.sem (aA st {st.p with k:=st.p.k+1})).1,false)
  else Tz s M st
def yy(s:Bs)(l:List Wd)(st:St):St×Bool:=oG s l (uU s l) (l.length+1) [] st
theorem Ye{α:Type}{p:α->Bool}{xs pre ts:List α}{x:α}(e:xs=pre++x::ts)(h:∀y∈pre,p y=false)(hx:p x=true):xs.find? p=some x:=by
 rw[e,List.find?_append,List.find?_eq_none.2 λy hy=>by rw[h y hy];decide,List.find?_cons,hx];rfl
theorem Gp{α:Type}{p:α->Bool}{xs:List α}(h:∀y∈xs,p y=false):xs.find? p=none:=List.find?_eq_none.2 λy hy=>by rw[h y hy];decide
theorem Pv{s:Bs}{l:List Wd}{L:List (Bs×Key)}:∀(F:Nat) (M:List (Bs×Int)) (st:St),oG s l (L.map V7) F M st=oG s l L F M st
 | 0,_,_=>rfl
 | F+1,M,st=>by
  unfold oG
  rw[YL]
  cases lk L (aa l st.p.k)with
  | none=>rfl
  | some key=>simp only[Option.map_some,Pv F];rfl
section
variable {e:En}{S0 S:List Nat}{h0 h hb:H}{st:St}
theorem Qw{g:Gh}(i:AR e g hb st){n:Nat}(hn:400010<=n){kk:AV->H->Option Unit}(hkk:∀r h',(r=.bool (Hy st).2/\Fr (oO g.f) hb (oO g.f) h'/\Inv e h' (Hy st).1 (oO g.f))->kk r h'=some ()):
  ∀(rest pre:List (Bs×Int×Bool)) (m:Nat) (h:H),st.p.ag=pre++rest->rest.length<m->Mod [] hb h->(∀y∈pre,vU st.p y=false)->
   lK n m (some (e.b,0)) (nu g.f 1) st.p.ag.length g.sc (Nat.cast st.p.ag.length) (pre.length:Nat) h kk=some ()
 | [],pre,m+1,h,e1,_,md,hp=>by
  rw[uj,aT (by rw[e1];simp),br]
  have hf:st.p.ag.find? (vU st.p)=none:=Gp (by rw[e1,List.append_nil];exact hp)
  unfold Hy at hkk
  rw[hf]at hkk
  exact hkk _ _ ⟨rfl,.ak md,Inv.frame ⟨g,rfl,i⟩ md⟩
 | t::ts,pre,m+1,h,e1,hm,md,hp=>by
  obtain⟨n,rfl⟩:∃k,n=k+1:=⟨n - 1,by omega⟩
  have j9:st.p.ag[pre.length]?=some t:=by rw[e1];simp
  have hlt:pre.length<st.p.ag.length:=(sS j9).1
  have ok:=i.ok
  have o1:=ok.ag
  have o2:=ok.k
  have o3:=ok.len
  have o4:=ok.au
  rw[uj,cL hlt,bM,((i.sp.grow i.ow).row.ak md).ix BX (by decide) j9]
  simp only[uk,dx,cu,fV,aE]
  rw[aL,mZ (n:=3) rfl rfl rfl]
  have m1:Mod [] hb (h.new (.cells [.str t.1,.int .i64 t.2.1,.bool t.2.2] false)):=md.new _
  have Vs:At (h.new (.cells [.str t.1,.int .i64 t.2.1,.bool t.2.2] false)) h.next (.cells [.str t.1,.int .i64 t.2.1,.bool t.2.2] false):=.new _ _
  generalize h.new (.cells [.str t.1,.int .i64 t.2.1,.bool t.2.2] false)=h1 at m1 Vs ⊢
  rw[Vs.cell (v:=.bool t.2.2) rfl,aq]
  have key:∀b:Bool,b=vU st.p t->lH (n+1) m (some (e.b,0)) (some (h.next,0)) (nu g.f 1) st.p.ag.length g.sc (Nat.cast st.p.ag.length) (pre.length:Nat) b h1 kk=some ():=by
   rintro b hb'
   rw[BO]
   cases b with
   | true=>
    rw[bM,ai,Nat.zero_add,Vs.cell (v:=.int .i64 t.2.1) rfl,aj]
    obtain⟨r,h2,e2,rfl,f2,j2⟩:=gu (Inv.frame ⟨g,rfl,i⟩ m1) n t.2.1 182
    rw[e2,fD,aq]
    have hf:st.p.ag.find? (vU st.p)=some t:=Ye e1 hp hb'.symm
    unfold Hy at hkk
    rw[hf]at hkk
    exact hkk _ _ ⟨rfl,(Fr.ak m1).trans f2,j2⟩
   | false=>
    rw[br,aG (by omega)]
    have:=Qw i hn hkk ts (pre++[t]) m h1 (by rw[e1];simp) (by simp at hm;omega) m1 (by
     intro y hy
     rcases List.mem_append.1 hy with hy | hy
     ·exact hp y hy
     ·obtain rfl:=List.mem_singleton.1 hy;exact hb'.symm)
    simpa using this
  cases ht:t.2.2 with
  | true=>
   rw[bM]
   obtain⟨_,_,j⟩:Inv e h1 st (oO g.f):=Inv.frame ⟨g,rfl,i⟩ m1
   have jc:∀{o:Nat} {v:AV} (hv:(sQ e g st.p)[o]?=some v) (k:AV->Option Unit),af h1 e.b o k=k v:=λhv k=>by
    have hg:h1.get e.b=some (.cells (g.c 0) false):=(m1.get _ (i.ow.lt 0 _ i.fb) (by simp)).trans (i.ow.get 0 _ i.fb)
    exact cW hg (by rw[i.cb];exact hv) k
   simp only[ai,Nat.zero_add]
   rw[jc (o:=15) rfl,ah,Vs.cell (v:=.str t.1) (by rw[ht];rfl),az,SU ((i.vp.grow i.ow).row.ak m1) (by omega) t.1 (by omega),fD,aq]
   exact key _ (by unfold vU;rw[ht];rfl)
  | false=>
   rw[br]
   exact key _ (by unfold vU;rw[ht];rfl)
theorem Ow{g:Gh}(i:AR e g hb st){n:Nat}(hn:400010<=n){kk:AV->H->Option Unit}(hkk:∀r h',(r=.bool (Bw st).2/\Fr (oO g.f) hb (oO g.f) h'/\Inv e h' (Bw st).1 (oO g.f))->kk r h'=some ()):
  ∀(rest pre:List (Bs×Int×Bool)) (m:Nat) (h:H),st.p.ag=pre++rest->rest.length<m->Mod [] hb h->(∀y∈pre,qJ st.p y=false)->
   lJ n m (some (e.b,0)) (nu g.f 1) st.p.ag.length g.sc (Nat.cast st.p.ag.length) (pre.length:Nat) h kk=some ()
 | [],pre,m+1,h,e1,_,md,hp=>by
  have ok:=i.ok
  have o1:=ok.ag
  have o2:=ok.k
  have o3:=ok.len
  rw[uh,aT (by rw[e1];simp),br]
  have hf:st.p.ag.find? (qJ st.p)=none:=Gp (by rw[e1,List.append_nil];exact hp)
  unfold Bw at hkk
  rw[hf]at hkk
  have hg:h.get e.b=some (.cells (g.c 0) false):=(md.get _ (i.ow.lt 0 _ i.fb) (by simp)).trans (i.ow.get 0 _ i.fb)
  simp only[ai,Nat.zero_add]
  rw[cW hg (o:=18) (by rw[i.cb];rfl),ah]
  exact Qw i hn hkk st.p.ag [] n h rfl (by omega) md (by simp)
 | t::ts,pre,m+1,h,e1,hm,md,hp=>by
  obtain⟨n,rfl⟩:∃k,n=k+1:=⟨n - 1,by omega⟩
  have j9:st.p.ag[pre.length]?=some t:=by rw[e1];simp
  have hlt:pre.length<st.p.ag.length:=(sS j9).1
  have ok:=i.ok
  have o1:=ok.ag
  have o2:=ok.k
  have o3:=ok.len
  rw[uh,cL hlt,bM,((i.sp.grow i.ow).row.ak md).ix BX (by decide) j9]
  simp only[uk,dx,cu,fV,aE]
  rw[aL,mZ (n:=3) rfl rfl rfl]
  have m1:Mod [] hb (h.new (.cells [.str t.1,.int .i64 t.2.1,.bool t.2.2] false)):=md.new _
  have Vs:At (h.new (.cells [.str t.1,.int .i64 t.2.1,.bool t.2.2] false)) h.next (.cells [.str t.1,.int .i64 t.2.1,.bool t.2.2] false):=.new _ _
  generalize h.new (.cells [.str t.1,.int .i64 t.2.1,.bool t.2.2] false)=h1 at m1 Vs ⊢
  have hg:h1.get e.b=some (.cells (g.c 0) false):=(m1.get _ (i.ow.lt 0 _ i.fb) (by simp)).trans (i.ow.get 0 _ i.fb)
  rw[Vs.cell (v:=.str t.1) rfl,az]
  simp only[ai,Nat.zero_add]
  rw[cW hg (o:=9) (v:=.str st.p.addr) (by rw[i.cb];rfl),az]
  by_cases hs:t.1.size=st.p.addr.size
  ·rw[show(((Nat.cast t.1.size):Int) != (Nat.cast st.p.addr.size))=false by simp[hs],br,aG (by omega)]
   have:=Ow i hn hkk ts (pre++[t]) m h1 (by rw[e1];simp) (by simp at hm;omega) m1 (by
    intro y hy
    rcases List.mem_append.1 hy with hy | hy
    ·exact hp y hy
    ·obtain rfl:=List.mem_singleton.1 hy
     unfold qJ;simp[hs])
   simpa using this
  ·rw[show(((Nat.cast t.1.size):Int) != (Nat.cast st.p.addr.size))=true by simp;omega,bM,Vs.cell (v:=.int .i64 t.2.1) rfl,aj]
   obtain⟨r,h2,e2,rfl,f2,j2⟩:=gu (Inv.frame ⟨g,rfl,i⟩ m1) n t.2.1 182
   rw[e2,fD,aq]
   have hf:st.p.ag.find? (qJ st.p)=some t:=Ye e1 hp (by unfold qJ;simp[hs])
   unfold Bw at hkk
   rw[hf]at hkk
   exact hkk _ _ ⟨rfl,(Fr.ak m1).trans f2,j2⟩
end
section
variable {e:En}{S0 S:List Nat}{h0 h hb:H}{st:St}
theorem ab2{N n:Nat}{L:List (Bs×Key)}(ks:Hz e S0 h0 N L)(hN:N<=n)(hn:400020<=n){im:Nat}{oL:cK}(kL:Kept S0 h0 im oL)(hL:yx AV.str G0 L oL)
  (kk:AV->H->Option Unit):∀(F m mm:Nat) (M:List (Bs×Int)) (oM:cK) (h:H) (S:List Nat) (st:St),Inv e h st S->Fr S0 h0 S h->Kept S h mm oM->yx AV.str ZS M oM->h0.next<=mm->(∀w,0<=cnt M w/\cnt M w<=1000)->e.l.length<st.p.k+F->F<=m->
   (∀r h',(∃S',r=.bool (oG e.s e.l L F M st).2/\Fr S0 h0 S' h'/\Inv e h' (oG e.s e.l L F M st).1 S')->kk r h'=some ())->
   jf n m (some (e.b,0)) (some im) (some mm) h kk=some ():=by
 intro F
 induction F with
 | zero=>
  intro m mm M oM h S st i fr km hM hne Vc hF hm _
  have:=i.okp.k
  omega
 | succ F ih=>
  intro m mm M oM h S st i fr km hM hne Vc hF hm hkk
  obtain⟨m,rfl⟩:∃k,m=k+1:=⟨m - 1,by omega⟩
  obtain⟨n',rfl⟩:∃k,n=k+1:=⟨n - 1,by omega⟩
  have kim:=kL.fr fr
  have ok:=i.okp
  have jc:∀{o:Nat} {v:AV} (hv:∀g,nu g.f 1=nu g.f 1->(sQ e g st.p)[o]?=some v) (k:AV->Option Unit),af h e.b o k=k v:=λhv k=>by
   obtain⟨g,rfl,i⟩:=i
   exact i.cell (hv g rfl) k
  rw[BP]
  simp only[ai,Nat.zero_add]
  rw[jc (o:=2) (v:=.int .i64 st.p.k) (λ_ _=>rfl),aj]
  have alD:∀k:Pt->Nat->aM->Option Unit,(∀p c,k p e.l.length c=some ())->(af h e.b 1 λv=>asSlice v k)=some ():=λk hk=>by
   obtain⟨g,rfl,i⟩:=i
   rw[i.cell (o:=1) rfl,ah]
   exact hk _ _
  refine alD _ λp c=>?_
  unfold oG at hkk
  by_cases hk:st.p.k<e.l.length
  ·rw[if_pos hk]at hkk
   rw[cL hk,bM,FI i,fD,aj,Mo i,fD,az,Jl vl kim.at_.get hL]
   cases hlk:lk L (aa e.l st.p.k)with
   | none=>
    rw[hlk]at hkk
    simp only[bG,cu,fV,oT,aE]
    rw[aL,mZ (n:=3) rfl rfl rfl,Bool.not_false,bM]
    obtain⟨r,h2,e2,rfl,f2,j2⟩:=gu (i.frame (((Mod.refl [] h).new (.cells [.int .i64 0,.bool false,.nilFunc] false)))) n' (bA e.s e.l st.p.k) 180
    rw[e2,fD,aq]
    exact hkk _ _ ⟨S,rfl,(fr.trans (Fr.ak ((Mod.refl [] h).new _))).trans f2,j2⟩
   | some key=>
    rw[hlk]at hkk
    have hmem:(aa e.l st.p.k,key)∈L:=wE hlk
    generalize hw:aa e.l st.p.k=w at hkk hmem hlk ⊢
    simp only[G0,bG,cu,fV,oT,aE]
    rw[aL,mZ (n:=3) rfl rfl rfl,Bool.not_true,br]
    have md:Mod [] h (h.new (.cells [.int .i64 key.most,.bool key.need,.func key.f key.x key.y] false)):=(Mod.refl _ _).new _
    have kb:Kept S (h.new (.cells [.int .i64 key.most,.bool key.need,.func key.f key.x key.y] false)) h.next (.cells [.int .i64 key.most,.bool key.need,.func key.f key.x key.y] false):=⟨.new _ _,λhx=>by have:=i.WR _ hx;omega⟩
    have Vb:mm≠h.next:=λe'=>by have:=km.at_.lt;omega
    generalize h.next=b at kb Vb ⊢
    generalize h.new (.cells [.int .i64 key.most,.bool key.need,.func key.f key.x key.y] false)=h1 at md kb ⊢
    have i1:=i.frame md
    have Wt:=km.fr (.ak md)
    rw[uX Wt.at_.get hM,kb.cell,aj]
    have ady:∀d:Bool,d=decide (key.most<=cnt M w/\key.most=1)->lF (n'+1) m (some (e.b,0)) (some im) (some mm) (bA e.s e.l st.p.k) w (some (b,0)) d h1 kk=some ():=by
     intro d hd
     rw[BM]
     cases d with
     | true=>
      have hd':=of_decide_eq_true hd.symm
      rw[bM]
      obtain⟨r,h2,e2,rfl,f2,j2⟩:=gu i1 n' (bA e.s e.l st.p.k) 181
      rw[e2,fD,aq]
      refine hkk _ _ ⟨S,?_,(fr.trans (Fr.ak md)).trans f2,?_⟩
      ·simp only[if_pos hd'.1]
      ·simp only[if_pos hd'.1,if_pos hd'.2];exact j2
     | false=>
      have hd':=of_decide_eq_false hd.symm
      rw[br,uX Wt.at_.get hM,ai,kb.cell,aj]
      by_cases hmo:key.most<=cnt M w
      ·have Rc:key.most≠1:=λe'=>hd' ⟨hmo,e'⟩
       rw[decide_eq_true (show cnt M w>=key.most from hmo),bM]
       obtain⟨r,h2,e2,rfl,f2,j2⟩:=gu i1 n' (bA e.s e.l st.p.k) 184
       rw[e2,fD,aq]
       refine hkk _ _ ⟨S,?_,(fr.trans (Fr.ak md)).trans f2,?_⟩
       ·simp only[if_pos hmo]
       ·simp only[if_pos hmo,if_neg Rc];exact j2
      ·rw[decide_eq_false (show ¬cnt M w>=key.most from hmo),br,uX Wt.at_.get hM]
       obtain⟨o',hM',e3⟩:=RV (β:=Unit) vl Wt.at_.get hM w (cnt M w+1)
       have hwr:IntKind.i64.wrap (cnt M w+1)=cnt M w+1:=by have:=Vc w;exact wrap_i64 (by omega) (by omega)
       rw[hwr,show(AV.int .i64 (cnt M w+1))=ZS (cnt M w+1)from rfl,e3,ai]
       simp only[Nat.zero_add,ai]
       obtain⟨LM,awG,hoM,_⟩:=hM
       have i2:Inv e (h1.set mm o') st S:=i1.aeU (hoM▸Wt) o'
       obtain⟨h3,e4,f4,i3⟩:=i2.step hk
       rw[e4]
       have kb3:=(kb.set Vb.symm o').fr f4
       rw[cW kb3.at_.get rfl,wO]
       have fr3:Fr S0 h0 S h3:=(Y4 (fr.trans (.ak md)) hne o').trans f4
       have rd:=ks.rd _ hmem
       have mono:=ks.mono _ hmem (aA st {st.p with k:=st.p.k+1})
       have adq:=ks.most _ hmem
       have km3:Kept S h3 mm o':=Kept.fr (h:=h1.set mm o') ⟨⟨Wt.at_.lt,aW _ _ _⟩,Wt.out⟩ f4
       refine rd.run (n'+1) hN h3 S _ fr3 i3 _ λr h4 hq=>?_
       obtain⟨S4,rfl,f5,i5⟩:=hq
       rw[rd.K6,aq]
       simp only[if_neg hmo]at hkk
       change ∀r h',(∃S',r=.bool (if(key.sem (aA st {st.p with k:=st.p.k+1})).2=true then oG e.s e.l L F (pt M w (cnt M w+1)) (key.sem (aA st {st.p with k:=st.p.k+1})).1 else((key.sem (aA st {st.p with k:=st.p.k+1})).1,false)).2/\Fr S0 h0 S' h'/\Inv e h' (if(key.sem (aA st {st.p with k:=st.p.k+1})).2=true then oG e.s e.l L F (pt M w (cnt M w+1)) (key.sem (aA st {st.p with k:=st.p.k+1})).1 else((key.sem (aA st {st.p with k:=st.p.k+1})).1,false)).1 S')->kk r h'=some ()at hkk
       change Inv e h4 (key.sem (aA st {st.p with k:=st.p.k+1})).1 S4 at i5
       change st.p.k+1<=(key.sem (aA st {st.p with k:=st.p.k+1})).1.p.k at mono
       show(bif !(key.sem (aA st {st.p with k:=st.p.k+1})).2 then kk (.bool false) h4 else jf (n'+1) m (some (e.b,0)) (some im) (some mm) h4 kk)=some ()
       cases ql:(key.sem (aA st {st.p with k:=st.p.k+1})).2 with
       | false=>
        rw[Bool.not_false,bM]
        rw[ql]at hkk
        exact hkk _ _ ⟨S4,rfl,fr3.trans f5,i5⟩
       | true=>
        rw[Bool.not_true,br]
        rw[ql]at hkk
        refine ih m mm (pt M w (cnt M w+1)) o' h4 S4 _ i5 (fr3.trans f5) (km3.fr f5) hM' hne (λw'=>?_) (by omega) (by omega) λr h' hq=>hkk r h' ?_
        ·rw[aB]
         have:=Vc w
         split
         ·simp only at adq;omega
         ·exact Vc w'
        ·simpa using hq
    by_cases hmo:cnt M w>=key.most
    ·rw[decide_eq_true hmo,bM,kb.cell,aj]
     refine ady _ ?_
     by_cases Rc:key.most=1
     ·rw[decide_eq_true (show key.most<=cnt M w/\key.most=1 from⟨hmo,Rc⟩),Rc];rfl
     ·rw[decide_eq_false (λq=>Rc q.2)];simpa using Rc
    ·rw[decide_eq_false hmo,br]
     exact ady _ (decide_eq_false λq=>hmo q.1).symm
  ·rw[if_neg hk]at hkk
   rw[aT (by omega),br]
   have fin:∀d:Bool,d=decide (cnt M gz=0∨cnt M fq=0)->lG (n'+1) (some (e.b,0)) d h kk=some ():=by
    intro d hd
    rw[BN]
    simp only[ai,Nat.zero_add]
    unfold Tz at hkk
    cases d with
    | true=>
     rw[if_pos (of_decide_eq_true hd.symm)]at hkk
     rw[bM,jc (o:=0) (v:=.str e.s) (λ_ _=>rfl),az]
     obtain⟨r,h2,e2,rfl,f2,j2⟩:=gu i n' e.s.size 183
     rw[e2,fD,aq]
     exact hkk _ _ ⟨S,rfl,fr.trans f2,j2⟩
    | false=>
     rw[if_neg (of_decide_eq_false hd.symm)]at hkk
     rw[br]
     obtain⟨g,rfl,i⟩:=i
     rw[i.cell (o:=18) rfl,ah]
     refine Ow i (by omega) (λr h' hq=>hkk r h' ⟨_,hq.1,fr.trans hq.2.1,hq.2.2⟩) st.p.ag [] (n'+1) h rfl (by have:=ok.ag;have:=ok.k;have:=ok.len;omega) (.refl _ _) (by simp)
   rw[show(⟨#[110,111,100,101]⟩:ByteArray)=gz from rfl,uX km.at_.get hM]
   by_cases hc:cnt M gz=0
   ·rw[hc,show((0:Int)==0)=true from rfl,bM]
    exact fin _ (by rw[hc];simp)
   ·rw[show(cnt M gz==0)=false by simpa using hc,br,show(⟨#[118,114,114,112]⟩:ByteArray)=fq from rfl,uX km.at_.get hM]
    exact fin _ (by by_cases hv:cnt M fq=0<;>simp[hc,hv])
end
def DV(B:Nat)(l:List Wd):Prop:=∀w∈l,w.1.size<=B
theorem DV.app{B:Nat}{l:List Wd}(h:DV B l){w:Wd}(hw:w.1.size<=B):DV B (l++[w]):=λx hx=>by
 rcases List.mem_append.1 hx with hx | hx
 ·exact h x hx
 ·obtain rfl:=List.mem_singleton.1 hx;exact hw
theorem acL(s:ByteArray)(x y:Int):(cut s x y).size<=s.size:=by
 unfold cut
 rw[size_mk,List.length_take,List.length_drop,aP]
 omega
theorem wo{s:ByteArray}{st:Rd}(h:DV (s.size+1) st.l)(k:Int):DV (s.size+1) (gr s st k).1.l:=by
 unfold gr
 split
 ·exact h
 ·exact h.app (Nat.le_succ_of_le (acL s _ _))
theorem Lt{B:Nat}{st:Rd}(h:DV (B+1) st.l)(k:Int):DV (B+1) (D0 st k).l:=by
 unfold D0
 show DV (B+1) (if st.vF=true then st.l++[(mk [10],k,st.line)]else st.l)
 split
 ·exact h.app (by rw[size_mk];simp)
 ·exact h
theorem UT{s:ByteArray}{st:Rd}(h:DV (s.size+1) st.l)(c k:Int):DV (s.size+1) (ir s st c k).1.l:=by
 unfold ir
 split
 ·exact Lt (wo h k) k
 split
 ·exact h
 split
 ·exact wo h k
 split
 ·exact wo h k
 split
 ·exact wo (st:={(gr s st k).1 with from':=k}) (wo h k) (k+1)
 split
 ·exact h
 ·exact h
theorem HD{s:ByteArray}:∀(l:List UInt8) (k:Int) (st:Rd),0<=k->abS st k->DV (s.size+1) st.l->∀ws,eU s st k l=.inl ws->DV (s.size+1) ws/\(ws.length:Int)<=4*(k+l.length)+2
 | [],k,st,hk,ok,hs,ws,e=>by
  unfold eU at e
  split at e
  ·obtain rfl:=Sum.inl.inj e
   refine⟨Lt (wo hs k) k,?_⟩
   have:=(E8 s st k).1
   have h2:=ok.len
   unfold D0
   show((if(gr s st k).1.vF=true then(gr s st k).1.l++[(mk [10],k,(gr s st k).1.line)]else(gr s st k).1.l).length:Int)<=_
   split
   ·simp;omega
   ·simp;omega
  ·cases e
 | c::l,k,st,hk,ok,hs,ws,e=>by
  unfold eU at e
  split at e
  ·cases e
  ·split at e
   ·split at e
    ·have:=HD l (k+1) _ (by omega) (US hk ok c.toNat) (UT hs c.toNat k) ws e
     refine⟨this.1,?_⟩
     have:=this.2
     simp only[List.length_cons]
     push_cast
     omega
    ·cases e
   ·cases e
theorem Vp{s:ByteArray}(hs:s.size<=70000){l:List Wd}(h:HE s=.inl l):Words l/\l.length<=300000:=by
 obtain⟨h1,h2⟩:=HD (s:=s) (bs s) 0 rd0 (by decide) ⟨by decide,by decide,by decide,by decide,by decide⟩ (λw hw=>by cases hw) l h
 rw[aP]at h2
 exact⟨λw hw=>by have:=h1 w hw;omega,by omega⟩
theorem af9{e:En}{S:List Nat}{h:H}{st:St}(hy:e.yes=none)(hs:e.sv=none)(hb:e.bk=none)(hw:Words e.l)(i:Inv e h st S){n:Nat}(hn:600000+e.l.length<=n):
  JZ (λkk=>cr n jK [.ptr (some (e.b,0))] h kk) λr h'=>∃S',r=.bool (yy e.s e.l st).2/\Fr S h S' h'/\Inv e h' (yy e.s e.l st).1 S':=by
 intro kk hkk
 obtain⟨n,rfl⟩:∃k,n=k+2:=⟨n - 2,by omega⟩
 show cr (n+1+1) jK [.ptr (some (e.b,0))] h kk=some ()
 rw[ES,aL]
 have hS:=i.WR
 have m0:Mod [] h (h.new (.map [] 0)):=(Mod.refl _ _).new _
 have k0:Kept S (h.new (.map [] 0)) h.next (.map [] 0):=gA hS _
 generalize h.new (.map [] 0)=c0 at m0 k0 ⊢
 rw[Jt,fD]
 simp only[bG,cu,fV,oT,aE]
 have m1:Mod [] c0 (c0.new (.cells [.int .i64 1,.bool true,.func cN [.ptr (some (e.b,0))] []] false)):=(Mod.refl _ _).new _
 generalize c0.new (.cells [.int .i64 1,.bool true,.func cN [.ptr (some (e.b,0))] []] false)=c1 at m1 ⊢
 have k1:=k0.ak m1
 obtain⟨o1,hM1,e1⟩:=putKey k1.at_.get .nil gz ⟨1,true,cN,[.ptr (some (e.b,0))],[],vv e.s e.l⟩ (by simp)
 dsimp only at e1
 rw[show(⟨#[110,111,100,101]⟩:ByteArray)=gz from rfl,e1]
 have k1':=Dl k1 o1
 have md1:Mod [] h (c1.set h.next o1):=(m0.trans m1).set (.inl (cF _)) _
 generalize c1.set h.next o1=c1' at k1' md1 ⊢
 rw[Jt,fD]
 simp only[bG,cu,fV,oT,aE]
 have m2:Mod [] c1' (c1'.new (.cells [.int .i64 1,.bool true,.func cO [.ptr (some (e.b,0))] []] false)):=(Mod.refl _ _).new _
 generalize c1'.new (.cells [.int .i64 1,.bool true,.func cO [.ptr (some (e.b,0))] []] false)=c2 at m2 ⊢
 have k2:=k1'.ak m2
 obtain⟨o2,hM2,e2⟩:=putKey k2.at_.get hM1 fq ⟨1,true,cO,[.ptr (some (e.b,0))],[],oE e.s e.l⟩ (by simp[gz,fq])
 dsimp only at e2
 rw[show(⟨#[118,114,114,112]⟩:ByteArray)=fq from rfl,e2]
 have k2':=Dl k2 o2
 have md2:Mod [] h (c2.set h.next o2):=(md1.trans m2).set (.inl (cF _)) _
 generalize c2.set h.next o2=c2' at k2' md2 ⊢
 obtain⟨o3,hM3,e3⟩:=putKey k2'.at_.get hM2 bF ⟨4,false,dc,[.ptr (some (e.b,0))],[],ew e.s e.l⟩ (by simp[gz,fq,bF])
 dsimp only at e3
 rw[show(⟨#[115,101,114,118,105,99,101]⟩:ByteArray)=bF from rfl,e3]
 have k3':=Dl k2' o3
 have md3:Mod [] h (c2'.set h.next o3):=md2.set (.inl (cF _)) _
 generalize c2'.set h.next o3=c3 at k3' md3 ⊢
 rw[aL]
 have i3:=i.frame md3
 refine ab2 (N:=90000+e.l.length) (n:=n+1) (L:=[(gz,⟨1,true,cN,[.ptr (some (e.b,0))],[],vv e.s e.l⟩),(fq,⟨1,true,cO,[.ptr (some (e.b,0))],[],oE e.s e.l⟩),(bF,⟨4,false,dc,[.ptr (some (e.b,0))],[],ew e.s e.l⟩)]) (S0:=S) (h0:=c3) ⟨?_,?_,rfl,?_,by simp⟩ (by omega) (by omega) k3' hM3 kk (e.l.length+1) (n+1) c3.next [] (.map [] 0) _ S st (i3.frame ((Mod.refl _ _).new _)) (.ak ((Mod.refl _ _).new _)) (gA i3.WR _) .nil (cF _) (λw=>by simp[cnt,lk]) (by omega) (by omega) λr h' hq=>?_
 ·intro x hx
  simp only[List.mem_cons,List.not_mem_nil,or_false]at hx
  rcases hx with rfl | rfl | rfl
  ·exact aho e _ _ hw (cF _)
  ·exact aiy e hy _ _ hw (cF _)
  ·exact Xn e hs hb _ _ hw (cF _)
 ·intro x hx
  simp only[List.mem_cons,List.not_mem_nil,or_false]at hx
  rcases hx with rfl | rfl | rfl
  ·intro st
   refine uW (λx hx=>?_) st
   simp only[vu,ou,List.mem_cons,List.not_mem_nil,or_false]at hx
   rcases hx with rfl | rfl | rfl
   ·exact IC (put:=vB) λ_ _=>rfl
   ·exact iJ λ_ _ _=>rfl
   ·exact iJ λ_ _ _=>rfl
  ·intro st
   refine uW (st:={st with yes:=1}) (λx hx=>?_)
   simp only[iO,ou,List.mem_cons,List.not_mem_nil,or_false]at hx
   rcases hx with rfl | rfl | rfl | rfl | rfl | rfl
   ·exact eB (put:=FL) (λ_ _=>rfl) _ _
   ·exact eB (put:=vC) (λ_ _=>rfl) _ _
   ·exact eB (put:=rY) (λ_ _=>rfl) _ _
   ·exact sj (put:=xY) (λ_ _=>rfl) _
   ·exact iJ Xz
   ·exact Oy _ _
  ·exact Ou _ _
 ·intro x hx
  simp only[List.mem_cons,List.not_mem_nil,or_false]at hx
  rcases hx with rfl | rfl | rfl<;>first | exact(by decide:(1:Int)<=1000) | exact(by decide:(4:Int)<=1000)
 ·obtain⟨S',h1,f1,j1⟩:=hq
  have he:oG e.s e.l [(gz,⟨1,true,cN,[.ptr (some (e.b,0))],[],vv e.s e.l⟩),(fq,⟨1,true,cO,[.ptr (some (e.b,0))],[],oE e.s e.l⟩),(bF,⟨4,false,dc,[.ptr (some (e.b,0))],[],ew e.s e.l⟩)] (e.l.length+1) [] st=yy e.s e.l st:=(Pv (L:=[(gz,⟨1,true,cN,[.ptr (some (e.b,0))],[],vv e.s e.l⟩),(fq,⟨1,true,cO,[.ptr (some (e.b,0))],[],oE e.s e.l⟩),(bF,⟨4,false,dc,[.ptr (some (e.b,0))],[],ew e.s e.l⟩)]) _ _ _).symm
  rw[he]at h1 j1
  exact hkk _ _ ⟨S',h1,(Fr.ak md3).trans f1,j1⟩
def ps0:Ps:=⟨0,EE,⟨#[]⟩,⟨#[]⟩,0,0,0,false,[],[],[],[],0,0⟩
def bk0:Bk:=⟨⟨#[]⟩,⟨#[]⟩,EE,0,0⟩
def GQ:St:=⟨ps0,0,Y8,bk0⟩
def fl(s:Bs):Ps ⊕ (Int×Int):=
 match HE s with
 | .inr k=>.inr (k,170)
 | .inl l=>if(yy s l GQ).2=true then .inl (yy s l GQ).1.p else .inr ((yy s l GQ).1.p.bad,(yy s l GQ).1.p.code)
def vM(p:Ps)(v t g:AV):List AV:=[.int .u8 p.bH.a,.int .u8 p.bH.b,.int .u8 p.bH.c,.int .u8 p.bH.d,.int .u8 p.bH.e,.int .u8 p.bH.f,.str p.addr,.str p.peer,.int .i64 p.id,.int .i64 p.prio,.int .i64 p.every,.bool p.pre,v,t,g]
structure nD(h:H)(p:Ps)(cs:List AV):Prop where
 ex:∃(vp:Pt) (vc:aM) (tp:Pt) (tc:aM) (gp:Pt) (gc:aM) (fm:List U7),cs=vM p (.slice vp p.au.length vc) (.slice tp p.bh.length tc) (.slice gp p.bB.length gc)/\
  Row h 1 vp p.au.length vc (p.au.map .str)/\Row h 2 tp p.bh.length tc (p.bh.flatMap wm)/\Row h 10 gp fm.length gc (fm.flatMap yE)/\fm.map (·.1)=p.bB/\∀x∈fm,Row h 10 x.2.1 x.1.bf.length x.2.2 (x.1.bf.flatMap dV)
def QD(h':H)(r:AV):Ps ⊕ (Int×Int)->Prop
 | .inl p=>∃cs,r=.dJ [.agg cs,.int .i64 0,.int .i64 0]/\nD h' p cs/\p.k<=300000
 | .inr (k,c)=>r=.dJ [.agg (vM ps0 (.slice none 0 (.known 0)) (.slice none 0 (.known 0)) (.slice none 0 (.known 0))),.int .i64 k,.int .i64 c]
theorem anC(e:En)(hl:e.l.length<=400000):Okp e GQ:=⟨uQ _,cF _,cF _,cF _,cF _,cF _,hl⟩
theorem FY{h:H}{b n:Nat}{cs ys:List AV}(g:At h b (.cells cs false))(hc:cs.length=n)(hn:ys.length=n)(hi:ys.all cT=true){β:Type}(k:H->Option β):bK h b 0 n ys k=k (h.set b (.cells ys false)):=by
 rw[DT g.get hn (by omega) hi]
 have:My cs 0 ys=ys:=by
  refine List.ext_getElem? λk=>?_
  rw[Mz ys cs 0 (by omega)]
  by_cases hk:k<ys.length
  ·rw[if_pos ⟨uQ _,by omega⟩,Nat.sub_zero]
  ·rw[if_neg (by omega),List.getElem?_eq_none_iff.2 (by omega),List.getElem?_eq_none_iff.2 (by omega)]
 rw[this]
theorem At.Mx{h:H}{b:Nat}{o:cK}(g:At h b o)(o':cK):At (h.set b o') b o':=⟨g.lt,aW _ _ _⟩
def zC:List AV:=vM ps0 (.slice none 0 (.known 0)) (.slice none 0 (.known 0)) (.slice none 0 (.known 0))
def c00:Nat->List AV:=up (up (up (λ_=>[]) 5 [.int .i64 0]) 6 (cU Y8 (.slice none 0 (.known 0)))) 8 (dV bk0)
theorem Vl{s:Bs}(hs:s.size<=2000000)(hsw:∀l,HE s=.inl l->Words l/\l.length<=300000){n:Nat}(hn:1000000+s.size<=n)(h:H):JZ (λkk=>cr n fH [.str s] h kk) λr h'=>Mod [] h h'/\QD h' r (fl s):=by
 intro kk hkk
 obtain⟨n,rfl⟩:∃k,n=k+1:=⟨n - 1,by omega⟩
 show cr (n+1) fH [.str s] h kk=some ()
 rw[LH,aL]
 rw[show(cK.cells [(.int .u8 0),(.int .u8 0),(.int .u8 0),(.int .u8 0),(.int .u8 0),(.int .u8 0),(.str .empty),(.str .empty),(.int .i64 0),(.int .i64 0),(.int .i64 0),(.bool false),(.slice none 0 (.known 0)),(.slice none 0 (.known 0)),(.slice none 0 (.known 0))] false)=.cells zC false from rfl]
 have m0:Mod [] h (h.new (.cells zC false)):=(Mod.refl _ _).new _
 have a0:At (h.new (.cells zC false)) h.next (.cells zC false):=.new _ _
 have hn0:h.next<=h.next:=cF _
 generalize hz:h.next=z at a0 ⊢
 have hz':h.next<=z:=by omega
 clear hn0
 generalize h.new (.cells zC false)=h1 at m0 a0 ⊢
 obtain⟨r,h2,e2,m2,ok⟩:=afV (s:=s) (by omega) (n:=n) (by omega) h1
 rw[e2,fD]
 have a2:=a0.ak m2
 unfold fl at hkk
 cases hall:HE s with
 | inr k=>
  rw[hall]at ok hkk
  obtain rfl:r=.dJ [.slice none 0 (.known 0),.int .i64 k,.int .i64 170]:=ok
  simp only[ay,ux,cu,aE]
  rw[show((170:Int) != 0)=true from rfl,bM]
  change bK h2 z 0 15 zC (λJT=>_)=some ()
  rw[FY (n:=15) a2 rfl rfl rfl,(At.Mx a2 _).all (n:=15) rfl]
  exact hkk _ _ ⟨(m0.trans m2).set (.inl hz') _,rfl⟩
 | inl l=>
  rw[hall]at ok hkk
  obtain⟨p,c,rfl,gl⟩:=ok
  obtain⟨hw,hlen⟩:=hsw l hall
  simp only[ay,ux,cu,aE]
  rw[show((0:Int) != 0)=false from rfl,br,aL]
  obtain⟨e,he⟩:∃e:En,e=⟨h2,h2.next,s,l,none,none,none⟩:=⟨_,rfl⟩
  obtain⟨g,hg⟩:∃g:Gh,g=⟨up (λ_=>none) 0 (some h2.next),up c00 0 (sQ ⟨h2,h2.next,s,l,none,none,none⟩ ⟨up (λ_=>none) 0 (some h2.next),c00,p,c,.known 0,.known 0,.known 0,.known 0,.known 0,[]⟩ ps0),p,c,.known 0,.known 0,.known 0,.known 0,.known 0,[]⟩:=⟨_,rfl⟩
  obtain⟨h3,hh3⟩:∃h3,h3=h2.new (.cells (sQ e g ps0) false):=⟨_,rfl⟩
  have m3:Mod [] h2 h3:=by rw[hh3];exact(Mod.refl _ _).new _
  obtain⟨ow,_⟩:=(EG.nil h2 c00).put (i:=0) (h':=h3) (v:=sQ e g ps0) (by decide) (cF h2.next) (by rw[hh3];exact .new _ _) m3.of_nil
  have ig:AR e g h3 GQ:=by
   subst he;subst hg
   refine⟨ow,rfl,rfl,gl.row.ak m3,.nil rfl,.nil rfl,.nil rfl,.nil rfl,rfl,(by intro x hx;cases hx),(by intro x hx;cases hx),rfl,rfl,rfl,rfl,.nil rfl,rfl,rfl,?_,anC _ (by show l.length<=_;omega)⟩
   intro x hx j
   have hlx:x<h2.next:=by
    rcases hx with hx | ⟨y,hy,_⟩
    ·exact gl.row.lt x hx
    ·cases hy
   show up (λ_=>none) 0 (some h2.next) j≠some x
   unfold up
   split
   ·intro e';have:=oh e';omega
   ·simp
  have hinv:Inv e h3 GQ (oO g.f):=⟨g,rfl,ig⟩
  show(cr n jK [.ptr (some (h2.next,0))] (h2.new (.cells [(.str s),(.slice p l.length c),_,_,_,_,_,_,_,_,_,_,_,_,_,_,_,_,_,_,_] false)) λv18 h19=>_)=some ()
  rw[show h2.new (.cells [(.str s),(.slice p l.length c),(.int .i64 0),(.int .u8 0),(.int .u8 0),(.int .u8 0),(.int .u8 0),(.int .u8 0),(.int .u8 0),(.str .empty),(.str .empty),(.int .i64 0),(.int .i64 0),(.int .i64 0),(.bool false),(.slice none 0 (.known 0)),(.slice none 0 (.known 0)),(.slice none 0 (.known 0)),(.slice none 0 (.known 0)),(.int .i64 0),(.int .i64 0)] false)=h3 by rw[hh3,he,hg];rfl]
  have hb:e.b=h2.next:=by rw[he]
  rw[<-hb]
  refine af9 (by rw[he]) (by rw[he]) (by rw[he]) (by rw[he];exact hw) hinv (by rw[he];show 600000+l.length<=n;omega) _ λr h4 hq=>?_
  obtain⟨S',rfl,f4,j4⟩:=hq
  have hes:e.s=s:=by rw[he]
  have hel:e.l=l:=by rw[he]
  have hea:e.a=h2:=by rw[he]
  rw[hes,hel]at j4
  rw[hes,hel,aq]
  simp only at hkk
  have hzS:z∉oO g.f:=λhm=>by
   obtain⟨k,e'⟩:=ig.ow.mem.1 hm
   have:=ig.ow.ge k z e'
   rw[hea]at this
   have:=a2.lt;omega
  have a3:=a2.ak m3
  have a4:=a3.mod f4.mod hzS
  have hbz:e.b≠z:=by rw[hb];have:=a2.lt;omega
  have m4:Mod [] h h4:=((m0.trans m2).trans m3).trans' f4.mod λx hx hl=>by
   obtain⟨k,e'⟩:=ig.ow.mem.1 hx
   have:=ig.ow.ge k x e'
   rw[hea]at this
   have:=(m0.trans m2).next;omega
  generalize yy s l GQ=w at j4 hkk ⊢
  obtain⟨g4,hg4,j4⟩:=j4
  cases hw2:w.2 with
  | false=>
   rw[hw2,if_neg (by decide)]at hkk
   rw[Bool.not_false,bM,j4.cell (o:=19) rfl,aj,j4.cell (o:=20) rfl,aj]
   change bK h4 z 0 15 zC (λPT=>_)=some ()
   rw[FY (n:=15) a4 rfl rfl rfl]
   have hs1:∀{β:Type} (y:Option β),dU h4 (h4.set z (.cells zC false)) (some e.b) y=y:=λy=>zS (ng hbz) y
   show dU h4 (h4.set z (.cells zC false)) (some e.b) (dU h4 (h4.set z (.cells zC false)) (some e.b) _)=some ()
   rw[hs1,hs1,(At.Mx a4 _).all (n:=15) rfl]
   exact hkk _ _ ⟨m4.set (.inl hz') _,rfl⟩
  | true=>
   rw[hw2,if_pos rfl]at hkk
   rw[Bool.not_true,br]
   have hP:At h4 e.b (.cells (sQ e g4 w.1.p) false):=⟨j4.ow.lt 0 _ j4.fb,by rw[j4.ow.get 0 _ j4.fb,j4.cb]⟩
   rw[hP.agg (o:=3) (n:=15) (vs:=vM w.1.p (.slice (nu g4.f 2) w.1.p.au.length g4.vc) (.slice (nu g4.f 3) w.1.p.bh.length g4.tc) (.slice (nu g4.f 4) w.1.p.bB.length g4.gc)) rfl (by exact(by decide:3+15<=21)),FY (n:=15) a4 rfl rfl rfl,(At.Mx a4 _).all (n:=15) rfl]
   have mz:Mod [z] h4 (h4.set z (.cells (vM w.1.p (.slice (nu g4.f 2) w.1.p.au.length g4.vc) (.slice (nu g4.f 3) w.1.p.bh.length g4.tc) (.slice (nu g4.f 4) w.1.p.bB.length g4.gc)) false)):=(Mod.refl _ _).set (.inr (by simp)) _
   have hza:z<e.a.next:=by rw[hea];exact a2.lt
   have hge:∀k,∀x∈own (nu g4.f k),x∉[z]:=λk x hx hm=>by
    obtain rfl:x=z:=by simpa using hm
    cases hk:g4.f k with
    | none=>rw[nu,hk]at hx;simp at hx
    | some y=>
     rw[nu,hk]at hx
     obtain rfl:x=y:=by simpa using hx
     have:=j4.ow.ge k x hk;omega
   refine hkk _ _ ⟨m4.set (.inl hz') _,_,rfl,⟨_,_,_,_,_,_,g4.fm,rfl,?_,?_,?_,j4.PI,?_⟩,by have:=j4.ok.k;rw[hel]at this;omega⟩
   ·exact(j4.vp.grow j4.ow).row.mod mz (hge 2)
   ·exact(j4.tp.grow j4.ow).row.mod mz (hge 3)
   ·have:=(j4.gp.grow j4.ow).row
    rw[<-j4.PI,List.length_map]at this
    exact this.mod mz (hge 4)
   ·intro x hx
    refine(j4.rows x hx).mod mz λy hy hm=>?_
    obtain rfl:y=z:=by simpa using hm
    have:=j4.Ux x hx y hy
    omega
abbrev sp:Bs:=⟨#[32]⟩
def dO(ws:List Bs):List UInt8:=bs (gI ws sp)++[10]
def pY(ls:List (List Bs)):List UInt8:=ls.flatMap dO
inductive Wr(h:H)(w:Nat):List UInt8->List Nat->Prop
 | none (lt:w<h.next) (g:h.get w=some (.tc 57 [.ptr none,.slice none 0 (.known 0)] true)):Wr h w [] [w]
 | some {j:Nat} {t:List UInt8} (lt:w<h.next) (h0:t≠[]) (g:h.get w=some (.tc 57 [.ptr (some (w,0)),.slice (some (j,0)) t.length (.rest 1)] true)) (gj:h.get j=some (.tc 5 (fT (mk t)) false)) (lj:j<h.next) (ne:j≠w):Wr h w t [w,j]
theorem Wr.lt{h:H}{w:Nat}{t:List UInt8}{S:List Nat}(x:Wr h w t S):∀i∈S,i<h.next:=by
 cases x with
 | none lt g=>intro i hi;obtain rfl:=List.mem_singleton.1 hi;exact lt
 | some lt h0 g gj lj ne=>
  intro i hi
  simp only[List.mem_cons,List.not_mem_nil,or_false]at hi
  rcases hi with rfl | rfl
  ·exact lt
  ·exact lj
theorem Wr.ak{h h':H}{w:Nat}{t:List UInt8}{S:List Nat}(x:Wr h w t S)(m:Mod [] h h'):Wr h' w t S:=by
 cases x with
 | none lt g=>exact .none (m.lt lt) ((m.get _ lt (by simp)).trans g)
 | some lt h0 g gj lj ne=>exact .some (m.lt lt) h0 ((m.get _ lt (by simp)).trans g) ((m.get _ lj (by simp)).trans gj) (m.lt lj) ne
theorem Tn(a b:List UInt8):fT (mk (a++b))=fT (mk a)++fT (mk b):=by simp[fT,mk]
theorem KZ(a:List UInt8):(fT (mk a)).length=a.length:=by simp[fT,mk]
theorem Wr.write{h:H}{w:Nat}{t:List UInt8}{S:List Nat}(x:Wr h w t S){s:List UInt8}(hs:s≠[])(hb:t.length+s.length<=140737488355328):
  ∃h' S',wsF 57 5 (.some (w,0)) (mk s) h=.some h'/\Fr S h S' h'/\Wr h' w (t++s) S':=by
 have hpos:0<(mk s).size:=by rw[size_mk];exact List.length_pos_iff.2 hs
 cases x with
 | none lt g=>
  have hne:h.next≠w:=by omega
  refine⟨(h.new (.tc 5 (fT (mk s)) false)).set w (.tc 57 [.ptr (.some (w,0)),.slice (.some (h.next,0)) (mk s).size (.rest 1)] true),[w,h.next],?_,⟨((Mod.refl _ _).new _).set (.inr (by simp)) _,λi hi=>?_⟩,?_⟩
  ·unfold wsF
   simp only[g]
   rw[if_pos ⟨trivial,.inl trivial,hpos⟩,if_pos (by rw[size_mk];simpa using hb)]
  ·simp only[List.mem_cons,List.not_mem_nil,or_false]at hi ⊢
   rcases hi with rfl | rfl
   ·exact .inl rfl
   ·exact .inr (cF _)
  ·rw[List.nil_append]
   exact .some (Nat.lt_succ_of_lt lt) hs (by rw[aW,size_mk]) (by rw[ng hne];exact aY _ _) (Nat.lt_succ_self _) hne
 | @some j t lt h0 g gj lj ne=>
  have hne:h.next≠w:=by omega
  refine⟨((h.kill j).new (.tc 5 (fT (mk t)++fT (mk s)) false)).set w (.tc 57 [.ptr (.some (w,0)),.slice (.some (h.next,0)) (t.length+(mk s).size) (.rest 1)] true),[w,h.next],?_,⟨(((Mod.refl _ _).kill (.inr (by simp))).new _).set (.inr (by simp)) _,λi hi=>?_⟩,?_⟩
  ·unfold wsF
   simp only[g]
   rw[if_pos ⟨trivial,.inr trivial,hpos⟩]
   simp only[gj]
   rw[if_pos ⟨trivial,KZ t,List.length_pos_iff.2 h0,by rw[size_mk];exact hb,IA _⟩]
  ·simp only[List.mem_cons,List.not_mem_nil,or_false]at hi ⊢
   rcases hi with rfl | rfl
   ·exact .inl (.inl rfl)
   ·exact .inr (cF _)
  ·refine .some (j:=h.next) (Nat.lt_succ_of_lt lt) (by simp[h0]) ?_ ?_ (Nat.lt_succ_self _) hne
   ·rw[aW,size_mk,hU]
   ·rw[ng hne,Tn]
    exact aY _ _
theorem aal(ws:List Bs):(Lib.join (ws.map (·.data.toList)) sp.data.toList).length=(gI ws sp).size:=rfl
theorem ah9{h:H}{w:Nat}{t:List UInt8}{S:List Nat}(x:Wr h w t S){p:Pt}{c:aM}{ws:List Bs}(r:Row h 1 p ws.length c (ws.map .str))(hw:ws.length<=100)(hb:t.length+(dO ws).length<=1000000000000)(n:Nat):
  cg (ca (n+2) aJ [.ptr (some (w,0)),.slice p ws.length c] h) λr h'=>r=.dJ []/\∃S',Fr S h S' h'/\Wr h' w (t++dO ws) S':=by
 have hl:(gI ws sp).size<=1000000000000:=by
  unfold dO at hb
  rw[hU,aP]at hb
  omega
 rw[EU,ai,tL,pz,Ji r (by omega) (by rw[aal];omega),fD,fD,az]
 unfold VE
 dsimp only
 have hl':(gI ws (⟨#[32]⟩:ByteArray)).size<=1000000000000:=hl
 rw[if_neg (by rw[show(⟨#[10]⟩:ByteArray).size=1 from rfl];omega)]
 have hm:gI ws sp++(⟨#[10]⟩:ByteArray)=mk (dO ws):=oI (by rw[PA,ko];rfl)
 obtain⟨h',S',e1,f1,x1⟩:=x.write (s:=dO ws) (by unfold dO;simp) (by omega)
 rw[hm,wJ,uP,e1]
 simp only[fD,ay,cu,oT,aE]
 exact .pure ⟨rfl,S',f1,x1⟩
theorem nk{α:Type}{h:H}{w:Nat}{t:List UInt8}{S:List Nat}(x:Wr h w t S)(ws:List Bs)(hw:ws.length<=100)(hb:t.length+(dO ws).length<=1000000000000)(n:Nat){k:AV×H->Option (α×H)}{Q:α->H->Prop}
  (hk:∀v h' S',Fr S h S' h'->Wr h' w (t++dO ws) S'->cg (k (v,h')) Q):
  cg (aD (.cells (ws.map .str) false) h λi h'=>(ca (n+2) aJ [.ptr (some (w,0)),.slice (some (i,0)) ws.length (.known ws.length)] h').bind λq=>aO q.1 λl=>l0 l (k q)) Q:=by
 rw[aL]
 have m1:Mod [] h (h.new (.cells (ws.map .str) false)):=(Mod.refl _ _).new _
 have row:Row (h.new (.cells (ws.map .str) false)) 1 (some (h.next,0)) ws.length (.known ws.length) (ws.map .str):=.row (Nat.lt_succ_self _) (aY _ _) (by rw[List.drop_zero,List.take_of_length_le (by simp)]) (by simp) (.inr ⟨_,rfl,cF _⟩)
 refine(ah9 (x.ak m1) row hw hb n).bind ?_
 rintro _ h2 ⟨rfl,S',f1,x1⟩
 simp only[ay,aE]
 exact hk _ _ S' ((Fr.ak m1).trans f1) x1
theorem yD{α:Type}{h:H}{w:Nat}{t:List UInt8}{S:List Nat}(x:Wr h w t S)(h0:h.get 0=some (.Xv wQ))(key:Bs){v:Int}(hv0 : -9223372036854775808<=v)(hv1:v<=9223372036854775807)(hb:t.length+(dO [key,bX v]).length<=1000000000000)(n:Nat){k:AV×H->Option (α×H)}{Q:α->H->Prop}
  (hk:∀v' h' S',Fr S h S' h'->Wr h' w (t++dO [key,bX v]) S'->cg (k (v',h')) Q):
  cg ((ca (n+3) bW [.ptr (some (w,0)),.str key,.int .i64 v] h).bind λq=>aO q.1 λl=>l0 l (k q)) Q:=by
 rw[CP,yd,uc,NW h0 hv0 hv1]
 simp only[fD,az]
 refine cg.bind (P:=λr h'=>r=.dJ []/\∃S',Fr S h S' h'/\Wr h' w (t++dO [key,bX v]) S') ?_ ?_
 ·refine nk x [key,bX v] (by simp) hb n λv' h' S' f1 x1=>?_
  exact .pure ⟨rfl,S',f1,x1⟩
 ·rintro _ h2 ⟨rfl,S',f1,x1⟩
  simp only[ay,aE]
  exact hk _ _ S' f1 x1
def qY(l:List Bs)(v:Int):Bs:=l.getD (if v<1∨(l.length:Int)<v then l.length - 1 else(v - 1).toNat) ⟨#[]⟩
theorem ahB{h:H}{p:Pt}{c:aM}{l:List Bs}(r:Row h 1 p l.length c (l.map .str))(hl:0<l.length)(hl2:l.length<=1000){v:Int}(n:Nat):ca (n+1) td [.int .i64 v,.slice p l.length c] h=some (.str (qY l v),h):=by
 rw[Ng]
 have key:∀b:Bool,b=decide (v<1∨(l.length:Int)<v)->uY n v p l.length c b h=some (.str (qY l v),h):=by
  intro b hb
  rw[IG]
  unfold qY
  cases b with
  | true=>
   have hc:=of_decide_eq_true hb.symm
   have hg:l[l.length - 1]?=some (l[l.length - 1]'(by omega)):=List.getElem?_eq_getElem (by omega)
   rw[bM,if_pos hc,wrap_i64 (by omega) (by omega),show((Nat.cast l.length:Int) - 1)=((l.length - 1:Nat):Int)by omega,r.Mh hg,az,List.getD_eq_getElem?_getD,hg]
   rfl
  | false=>
   have hc:=of_decide_eq_false hb.symm
   obtain⟨k,hk⟩:∃k:Nat,v - 1=k:=⟨(v - 1).toNat,by omega⟩
   have hg:l[k]?=some (l[k]'(by omega)):=List.getElem?_eq_getElem (by omega)
   rw[br,if_neg hc,wrap_i64 (by omega) (by omega),hk,r.Mh hg,az,List.getD_eq_getElem?_getD,show((k:Nat):Int).toNat=k from rfl,hg]
   rfl
 by_cases h1:v<1
 ·rw[decide_eq_true h1,bM]
  exact key _ (by rw[decide_eq_true (.inl h1)])
 ·rw[decide_eq_false h1,br]
  refine key _ ?_
  by_cases h2:v>(l.length:Int)
  ·rw[decide_eq_true h2,decide_eq_true (Or.inr h2)]
  ·rw[decide_eq_false h2,decide_eq_false (λq=>q.elim h1 h2)]
structure xJ(x:Cd):Prop where
 ok:∀y∈[x.a,x.b,x.c,x.d,x.e,x.f],0<=y/\y<256
def Sf(x:Cd):Bs:=gI ([x.a,x.b,x.c,x.d,x.e,x.f].map hx2) (mk [58])
theorem ags{x:Cd}(ok:xJ x){n:Nat}(hn:11<=n)(h:H):cg (ca n kf [.agg (xQ x)] h) λr h'=>Mod [] h h'/\r=.str (Sf x):=
 QA (m:=[x.a,x.b,x.c,x.d,x.e,x.f]) rfl ok.ok hn h
def DY(v:Int):Prop := -9223372036854775808<=v/\v<=9223372036854775807
structure apP(x:Bk):Prop where
 bH:xJ x.bH
 port:DY x.port
 weight:DY x.weight
def gJ:Bs:=⟨#[123]⟩
def bI:Bs:=⟨#[125]⟩
def D6(x:Bk):List (List Bs):=[[cP,x.name,gJ],[bq,pT x.addr],[kz,Sf x.bH]]++(if x.port=0 then[]else[[fK,bX x.port]])++[[iU,bX x.weight],[bI]]
structure Ss(S:List Nat)(h:H):Prop where
 t0:Kept S h 0 (.Xv wQ)
 t1:Kept S h 1 (.cells Xy true)
theorem Ss.fr{S S':List Nat}{h h':H}(t:Ss S h)(f:Fr S h S' h'):Ss S' h':=⟨t.t0.fr f,t.t1.fr f⟩
theorem Ol(a:List Bs)(l:List (List Bs)):pY (a::l)=dO a++pY l:=rfl
theorem ML{α:Type}{h:H}{S:List Nat}(tb:Ss S h)(s:Bs){n:Nat}(hn:40<=n){k:Bs->AV×H->Option (α×H)}{Q:α->H->Prop}(hk:∀v h',Mod [] h h'->cg (k (pT s) (v,h')) Q):
  cg ((ca n eG [.str s] h).bind λq=>aZ q.1 λx=>k x q) Q:=by
 refine(Lv s hn (h:=h) (by have:=tb.t1.at_.lt;omega) tb.t0.at_.get tb.t1.at_.get).bind ?_
 rintro _ h' ⟨m,rfl⟩
 simp only[az]
 exact hk _ _ m
theorem acA{α:Type}{h:H}{x:Cd}(ok:xJ x){n:Nat}(hn:11<=n){k:Bs->AV×H->Option (α×H)}{Q:α->H->Prop}(hk:∀v h',Mod [] h h'->cg (k (Sf x) (v,h')) Q):
  cg ((ca n kf [.agg (xQ x)] h).bind λq=>aZ q.1 λx=>k x q) Q:=by
 refine(ags ok hn h).bind ?_
 rintro _ h' ⟨m,rfl⟩
 simp only[az]
 exact hk _ _ m
theorem Rl{x:Nat}(hx:x<256):bs (hx2 (x:Int))=[PD (x / 16),PD (x % 16)]:=by
 have:∀k:Fin 256,bs (hx2 ((k.val:Nat):Int))=[PD (k.val / 16),PD (k.val % 16)]:=by decide +kernel
 exact this ⟨x,hx⟩
def mT(m:List Int):ByteArray:=gI (m.map hx2) (mk [58])
def Za(c:UInt8)(ps:List ByteArray):List UInt8:=ps.flatMap λp=>c::bs p
theorem PZ(c:UInt8):∀ps:List ByteArray,bs (gI ps (mk [c]))=(Za c ps).drop 1
 | []=>rfl
 | [p]=>by simp[Za,gI,bs,Lib.join,List.intercalate]
 | p::q::ps=>by
  have ih:=PZ c (q::ps)
  unfold gI Lib.join bs at ih ⊢
  simp only[List.map_cons]at ih ⊢
  rw[List.intercalate_cons_cons]
  rw[ih]
  simp[Za,bs,mk]
theorem Oe(c:UInt8):∀{ps:List (List UInt8)},ps≠[]->(∀p∈ps,c∉p)->parts c (Lib.join ps [c])=ps
 | [],h,_=>absurd rfl h
 | [p],_,h=>by rw[Lib.join_one];exact wF (h p (by simp))
 | p::q::ps,_,h=>by
  have ih:=Oe c (ps:=q::ps) (by simp) λx hx=>h x (by simp[hx])
  have e:Lib.join (p::q::ps) [c]=p++c::Lib.join (q::ps) [c]:=by
   unfold Lib.join
   rw[List.intercalate_cons_cons]
   simp
  rw[e,AJ _ (h p (by simp)),ih]
theorem FG(c:UInt8){ps:List ByteArray}(h0:ps≠[])(h:∀p∈ps,c∉bs p):bJ c (gI ps (mk [c]))=ps:=by
 unfold bJ
 have e:bs (gI ps (mk [c]))=Lib.join (ps.map bs) [c]:=rfl
 rw[e,Oe c (by simpa using h0) (λp hp=>by obtain⟨q,hq,rfl⟩:=List.mem_map.1 hp;exact h q hq),List.map_map]
 exact(List.map_congr_left λx _=>Li x).trans (List.map_id _)
theorem QW{b:Nat}(hb:0<b):∀{k u:Nat} {x:UInt8},x∈dg b k u->∃d,d<b/\x=PD d
 | 0,_,_,h=>by simp[dg]at h
 | k+1,u,x,h=>by
  unfold dg at h
  split at h
  ·rename_i hu
   simp at h
   exact⟨u,hu,h⟩
  ·rcases List.mem_append.1 h with h | h
   ·exact QW hb h
   ·simp at h
    exact⟨_,Nat.mod_lt _ hb,h⟩
theorem QX{d:Nat}(h:d<16):PD d≠58/\PD d≠46:=by
 have:∀k:Fin 16,PD k.val≠58/\PD k.val≠46:=by decide +kernel
 exact this ⟨d,h⟩
theorem VL(b:Nat):∀{k:Nat} (u:Nat),0<k->0<(dg b k u).length
 | 0,_,h=>by cases h
 | k+1,u,_=>by unfold dg;split<;>simp
theorem TU:∀(l m:List UInt8) (n:Int),su n (l++m)=(su n l).bind λv=>su v m
 | [],_,_=>rfl
 | x::l,m,n=>by
  rw[List.cons_append,su,su.eq_2 n x l]
  cases xR x with
  | none=>rfl
  | some d=>
   simp only
   split
   ·rfl
   ·exact TU l m _
theorem TT{d:Nat}(h:d<16):xR (PD d)=some (d:Int):=by
 have:∀k:Fin 16,xR (PD k.val)=some ((k.val:Nat):Int):=by decide +kernel
 exact this ⟨d,h⟩
theorem Yw:∀{k u:Nat},0<k->u<16 ^ k->u<65536->su 0 (dg 16 k u)=some (u:Int)
 | 0,_,h,_,_=>by cases h
 | k+1,u,_,hu,Pa=>by
  unfold dg
  split
  ·rename_i h
   unfold su
   rw[TT h]
   simp only
   rw[if_neg (by omega)]
   simp[su]
  ·rename_i h
   have hlt:u / 16<16 ^ k:=by
    rw[Nat.div_lt_iff_lt_mul (by omega)];rw[Nat.pow_succ]at hu;exact hu
   have hk0:0<k:=by
    rcases Nat.eq_zero_or_pos k with e | e
    ·subst e
     simp at hlt;omega
    ·exact e
   rw[TU,Yw hk0 hlt (by omega),fD]
   unfold su
   rw[TT (Nat.mod_lt _ (by omega))]
   simp only
   rw[if_neg (by omega)]
   simp only[su]
   congr 1
   omega
theorem agT{u:Nat}(hu:u<65536):oP 1 4 (hT u)=((u:Int),true):=by
 have h1:=Nn 16 4 u
 have h2:=VL 16 (k:=4) u (by omega)
 unfold oP hT
 rw[ko,Yw (by omega) (by omega) hu]
 rw[decide_eq_true (by rw[size_mk];omega),decide_eq_true (by rw[size_mk];omega)]
 rfl
theorem ahV(c:UInt8):xZ (dT c)=((c.toNat:Int),true):=by
 rw[X6]
 have:∀k:Fin 256,xZ (mk (dg 10 3 k.val))=(((k.val:Nat):Int),true):=by decide +kernel
 exact this ⟨c.toNat,c.toNat_lt⟩
theorem Yo:∀l:List UInt8,fX xZ 1 (l.map dT)=some (l.map λc=>(c.toNat:Int))
 | []=>rfl
 | c::l=>by
  have hc:=c.toNat_lt
  simp only[List.map_cons,fX,ahV,if_true]
  rw[Yo l,Option.map_some]
  have:PB 1 (c.toNat:Int)=[(c.toNat:Int)]:=by
   have:∀k:Fin 256,PB 1 ((k.val:Nat):Int)=[((k.val:Nat):Int)]:=by decide +kernel
   exact this ⟨c.toNat,hc⟩
  rw[this]
  rfl
theorem ZI{x y:Nat}(hx:x<256)(hy:y<256):PB 2 ((256*x+y:Nat):Int)=[(x:Int),(y:Int)]:=by
 unfold PB
 rw[if_neg (by decide)]
 have e1:B7 .i64 ((256*x+y:Nat):Int) 8=(x:Int):=by
  unfold B7
  rw[show min (8:Int).toNat IntKind.i64.bits=8 from rfl,show((2:Int) ^ 8)=256 from rfl,Int.fdiv_eq_ediv_of_nonneg _ (by omega)]
  omega
 have e2:B7 .i64 ((256*x+y:Nat):Int) 0=((256*x+y:Nat):Int):=by
  unfold B7
  rw[show min (0:Int).toNat IntKind.i64.bits=0 from rfl,show((2:Int) ^ 0)=1 from rfl,Int.fdiv_eq_ediv_of_nonneg _ (by omega)]
  omega
 have w:∀z:Int,IntKind.u8.wrap z=z % 256:=λz=>by
  simp only[IntKind.wrap,IntKind.bits,IntKind.signed];simp
 rw[e1,e2,w,w]
 congr 1
 ·omega
 ·congr 1;omega
theorem Yp:∀l:List UInt8,l.length % 2=0->fX (oP 1 4) 2 ((Ky l).map hT)=some (l.map λc=>(c.toNat:Int))
 | [],_=>rfl
 | [_],h=>by simp at h
 | x::y::l,h=>by
  have hx:=x.toNat_lt
  have hy:=y.toNat_lt
  simp only[Ky,List.map_cons,fX]
  rw[agT (by omega)]
  simp only[if_true]
  rw[Yp l (by simp at h;omega),Option.map_some,ZI (by omega) (by omega)]
  rfl
theorem YR(s:ByteArray):strOfNums ((bs s).map λc=>(c.toNat:Int))=s:=by rw[ae1,Li]
theorem ahG:∀{l:List UInt8} {u:Nat},u∈Ky l->u<65536
 | [],_,h=>by simp[Ky]at h
 | [_],_,h=>by simp[Ky]at h
 | x::y::l,u,h=>by
  have hx:=x.toNat_lt
  have hy:=y.toNat_lt
  simp only[Ky,List.mem_cons]at h
  rcases h with rfl | h
  ·omega
  ·exact ahG h
theorem Jy:∀l:List UInt8,(Ky l).length=l.length / 2
 | []=>rfl
 | [_]=>by simp[Ky]
 | x::y::l=>by simp only[Ky,List.length_cons,Jy l];omega
theorem YE(c:UInt8):∀ps:List ByteArray,(∀p∈ps,0<p.size)->2*ps.length<=(Lib.join (ps.map bs) [c]).length+1
 | [],_=>by simp
 | [p],h=>by have:=h p (by simp);simp only[List.map_cons,List.map_nil,Lib.join_one,aP,List.length_cons,List.length_nil];omega
 | p::q::ps,h=>by
  have ih:=YE c (q::ps) λx hx=>h x (by simp[hx])
  have h1:=h p (by simp)
  have e:Lib.join ((p::q::ps).map bs) [c]=bs p++c::Lib.join ((q::ps).map bs) [c]:=by
   unfold Lib.join
   simp only[List.map_cons]
   rw[List.intercalate_cons_cons]
   simp
  rw[e]
  simp only[hU,List.length_cons,aP]at ih ⊢
  omega
theorem af7(s:ByteArray):eL (pT s)=if s.size=4∨s.size=16 then(s,true)else(⟨#[]⟩,false):=by
 unfold pT
 by_cases h4:s.size=4
 ·rw[if_pos h4,if_pos (.inl h4)]
  unfold eL
  rw[FG 46 (λe=>by have:=congrArg List.length e;simp[aP,h4]at this) (λp hp hm=>by
   obtain⟨c,_,rfl⟩:=List.mem_map.1 hp
   rw[X6,ko]at hm
   obtain⟨d,hd,e⟩:=QW (by omega) hm
   exact(QX (by omega)).2 e.symm),Yo]
  simp only
  rw[if_pos (by simp[aP,h4]),YR]
 ·rw[if_neg h4]
  by_cases Gu:s.size=16
  ·rw[if_pos Gu,if_pos (.inr Gu)]
   have hno:∀p∈(Ky (bs s)).map hT,∀x∈bs p,x≠58/\x≠46:=λp hp x hx=>by
    obtain⟨u,_,rfl⟩:=List.mem_map.1 hp
    unfold hT at hx
    rw[ko]at hx
    obtain⟨d,hd,rfl⟩:=QW (by omega) hx
    exact QX hd
   have hlen:(Ky (bs s)).length=8:=by rw[Jy,aP,Gu]
   have hne:(Ky (bs s)).map hT≠[]:=λe=>by have:=congrArg List.length e;simp[hlen]at this
   have axp:=YE 58 ((Ky (bs s)).map hT) λp hp=>by
    obtain⟨u,_,rfl⟩:=List.mem_map.1 hp
    unfold hT;rw[size_mk];exact VL 16 u (by omega)
   simp only[List.length_map,hlen]at axp
   have hrd:∀t∈bJ 46 (gI ((Ky (bs s)).map hT) (mk [58])),t=gI ((Ky (bs s)).map hT) (mk [58]):=by
    intro t ht
    have hnot:(46:UInt8)∉bs (gI ((Ky (bs s)).map hT) (mk [58])):=by
     rw[PZ]
     intro hm
     have hm:=List.mem_of_mem_drop hm
     unfold Za at hm
     obtain⟨p,hp,hx⟩:=List.mem_flatMap.1 hm
     rcases List.mem_cons.1 hx with e | hx
     ·cases e
     ·exact(hno p hp _ hx).2 rfl
    unfold bJ at ht
    rw[wF hnot]at ht
    simpa[Li]using ht
   have aye:eL (gI ((Ky (bs s)).map hT) (mk [58]))=Il (gI ((Ky (bs s)).map hT) (mk [58])):=by
    unfold eL
    have:fX xZ 1 (bJ 46 (gI ((Ky (bs s)).map hT) (mk [58])))=none:=by
     have hpn:bJ 46 (gI ((Ky (bs s)).map hT) (mk [58]))≠[]:=by unfold bJ;simpa using Um 46 _
     obtain⟨t,l,htl⟩:=List.exists_cons_of_ne_nil hpn
     rw[htl]
     have ht:=hrd t (by rw[htl];simp)
     have hf:(xZ t).2=false:=by
      rw[ht]
      unfold xZ
      have:cl (bs (gI ((Ky (bs s)).map hT) (mk [58])))=(0,false):=by
       unfold cl
       rw[if_pos (.inr (.inl (by show 9<(Lib.join (((Ky (bs s)).map hT).map bs) [58]).length;omega)))]
      rw[this]
      rfl
     unfold fX
     rw[hf]
     rfl
    rw[this]
   rw[aye]
   unfold Il
   rw[FG 58 hne (λp hp hm=>(hno p hp _ hm).1 rfl),Yp _ (by rw[aP,Gu])]
   simp only
   rw[if_pos (by simp[aP,Gu]),YR]
  ·rw[if_neg Gu,if_neg (by omega)]
   decide +kernel
theorem adf{x:Int}(h0:0<=x)(h1:x<256):oP 2 2 (hx2 x)=(x,true):=by
 have:∀k:Fin 256,oP 2 2 (hx2 ((k.val:Nat):Int))=(((k.val:Nat):Int),true):=by decide +kernel
 obtain⟨m,rfl⟩:=Int.eq_ofNat_of_zero_le h0
 exact this ⟨m,by omega⟩
theorem TP:∀l:List Int,(∀x∈l,0<=x/\x<256)->fX (oP 2 2) 1 (l.map hx2)=some l
 | [],_=>rfl
 | x::l,h=>by
  have hx:=h x (by simp)
  simp only[List.map_cons,fX]
  rw[adf hx.1 hx.2]
  simp only[if_true]
  rw[TP l λy hy=>h y (by simp[hy]),Option.map_some]
  have:PB 1 x=[x]:=by
   have:∀k:Fin 256,PB 1 ((k.val:Nat):Int)=[((k.val:Nat):Int)]:=by decide +kernel
   obtain⟨m,rfl⟩:=Int.eq_ofNat_of_zero_le hx.1
   exact this ⟨m,by omega⟩
  rw[this]
  rfl
theorem acz{m:List Int}(hm6:m.length=6)(hb:∀x∈m,0<=x/\x<256):eM (mT m)=(m,true):=by
 unfold eM mT
 rw[FG 58 (λe=>by have:=congrArg List.length e;simp[hm6]at this) (λp hp hm=>by
  obtain⟨x,hx,rfl⟩:=List.mem_map.1 hp
  have hxb:=hb x hx
  obtain⟨k,rfl⟩:=Int.eq_ofNat_of_zero_le hxb.1
  rw[Rl (by omega)]at hm
  simp only[List.mem_cons,List.not_mem_nil,or_false]at hm
  rcases hm with e | e
  ·exact(QX (by omega)).1 e.symm
  ·exact(QX (by omega)).1 e.symm),TP m hb]
 simp only
 rw[if_pos hm6]
theorem ab0(s:ByteArray):(pT s).size<2000:=by
 unfold pT
 have key:∀(c:UInt8) (ps:List ByteArray),(∀p∈ps,p.size<=100)->ps.length<=16->(gI ps (mk [c])).size<2000:=by
  intro c ps h hl
  have h1:=join_le c (ps.map (·.data.toList))
  have h2:=Df h
  simp only[List.length_map]at h1
  have h3:(gI ps (mk [c])).size=(Lib.join (ps.map (·.data.toList)) [c]).length:=by rw[<-aP];rfl
  omega
 split
 ·rename_i h
  exact key 46 _ (λp hp=>by obtain⟨x,_,rfl⟩:=List.mem_map.1 hp;exact X7 x) (by simp[aP,h])
 ·split
  ·rename_i h
   exact key 58 _ (λp hp=>by obtain⟨x,_,rfl⟩:=List.mem_map.1 hp;exact Yt x) (by simp[Jy,aP,h])
  ·decide
theorem adW{m:List Int}(hm6:m.length=6)(hb:∀x∈m,0<=x/\x<256):(mT m).size<2000:=by
 unfold mT
 have h1:=join_le 58 ((m.map hx2).map (·.data.toList))
 have h2:=Df (k:=100) (xs:=m.map hx2) λp hp=>by
  obtain⟨x,hx,rfl⟩:=List.mem_map.1 hp
  have hxb:=hb x hx
  obtain⟨k,rfl⟩:=Int.eq_ofNat_of_zero_le hxb.1
  rw[<-aP,Rl (by omega)]
  simp
 simp only[List.length_map]at h1 h2
 have h3:(gI (m.map hx2) (mk [58])).size=(Lib.join ((m.map hx2).map (·.data.toList)) [58]).length:=by rw[<-aP];rfl
 omega
structure Lz(S:List Nat)(h:H)(size:Nat)(p:Pt)(len:Nat)(c:aM)(vs:List AV):Prop where
 row:Row h size p len c vs
 out:∀b∈own p,b∉S
theorem Lz.fr{S S':List Nat}{h h':H}{size:Nat}{p:Pt}{len:Nat}{c:aM}{vs:List AV}(r:Lz S h size p len c vs)(f:Fr S h S' h'):Lz S' h' size p len c vs:=
 ⟨r.row.mod f.mod r.out,λb hb=>(f.keep (r.row.lt b hb) (r.out b hb)).2.2⟩
theorem Kept.cellAt{β:Type}{S:List Nat}{h:H}{i o:Nat}{v:AV}{cs:List AV}{ro:Bool}(k:Kept S h i (.cells cs ro))(hv:cs[o]?=some v)(f:AV->Option β):af h i o f=f v:=cW k.at_.get hv f
def MG(w:Nat)(S:List Nat)(h:H)(t:List UInt8)(r:AV)(h':H):Prop:=r=.dJ []/\∃S',Fr S h S' h'/\Wr h' w t S'
theorem MS{w:Nat}{p:Pt}{c:aM}{xs:List Bk}(hx:xs.length<=1000000)(hok:∀x∈xs,apP x)(n:Nat):∀(rest pre:List Bk) (m:Nat) (h:H) (t:List UInt8) (S:List Nat),xs=pre++rest->rest.length<m->Wr h w t S->Ss S h->Lz S h 10 p xs.length c (xs.flatMap dV)->t.length+(pY (rest.flatMap D6++[[bI]])).length<=1000000000000->
  cg (iR (n+60) m (some (w,0)) p xs.length c (Nat.cast xs.length) (pre.length:Nat) h) (MG w S h (t++pY (rest.flatMap D6++[[bI]])))
 | [],pre,m+1,h,t,S,e1,_,x,tb,r,hb=>by
  rw[qH,aT (by rw[e1];simp),br]
  refine nk x [bI] (by simp) (by simpa[pY]using hb) (n+58) λv h1 S1 f1 x1=>?_
  exact .pure ⟨rfl,S1,f1,by simpa[pY]using x1⟩
 | y::ys,pre,m+1,h,t,S,e1,hm,x,tb,r,hb=>by
  have j9:xs[pre.length]?=some y:=by rw[e1];simp
  have hlt:pre.length<xs.length:=(sS j9).1
  have ok:=hok y (Hq j9)
  have hl:pY ((y::ys).flatMap D6++[[bI]])=dO [cP,y.name,gJ]++(dO [bq,pT y.addr]++(dO [kz,Sf y.bH]++(pY (if y.port=0 then[]else[[fK,bX y.port]])++(dO [iU,bX y.weight]++(dO [bI]++pY (ys.flatMap D6++[[bI]])))))):=by
   simp[pY,D6]
  rw[hl]at hb ⊢
  simp only[hU]at hb
  rw[qH,cL hlt,bM,r.row.ix E5 (by decide) j9,aL,mZ (n:=10) rfl rfl rfl]
  have m1:Mod [] h (h.new (.cells (dV y) false)):=(Mod.refl _ _).new _
  have kb:Kept S (h.new (.cells (dV y) false)) h.next (.cells (dV y) false):=gA x.lt _
  have x1:=x.ak m1
  have F1:Fr S h S (h.new (.cells (dV y) false)):=.ak m1
  generalize h.new (.cells (dV y) false)=h1 at x1 kb F1 ⊢
  generalize h.next=b at kb ⊢
  rw[kb.cellAt (v:=.str y.name) rfl,az]
  refine nk x1 [cP,y.name,gJ] (by simp) (by omega) (n+58) λv2 h2 S2 f2 x2=>?_
  have F2:=F1.trans f2
  have kb2:=kb.fr f2
  rw[kb2.cellAt (v:=.str y.addr) rfl,az]
  refine ML (tb.fr F2) y.addr (by omega) λv3 h3 m3=>?_
  have F3:=F2.trans (.ak m3)
  refine nk (x2.ak m3) [bq,pT y.addr] (by simp) (by simp only[hU];omega) (n+58) λv4 h4 S4 f4 x4=>?_
  have F4:=F3.trans f4
  have kb4:=(kb2.ak m3).fr f4
  rw[kb4.at_.agg (o:=2) (n:=6) (vs:=xQ y.bH) rfl (by exact(by decide:2+6<=10))]
  refine acA ok.bH (by omega) λv5 h5 m5=>?_
  have F5:=F4.trans (.ak m5)
  refine nk (x4.ak m5) [kz,Sf y.bH] (by simp) (by simp only[hU];omega) (n+58) λv6 h6 S6 f6 x6=>?_
  have F6:=F5.trans f6
  have kb6:=(kb4.ak m5).fr f6
  dsimp only
  rw[kb6.cellAt (v:=.int .i64 y.port) rfl,aj]
  have last:∀(h7:H) (S7:List Nat) (t7:List UInt8),Fr S h S7 h7->Kept S7 h7 b (.cells (dV y) false)->Wr h7 w t7 S7->t7.length+(dO [iU,bX y.weight]).length+(dO [bI]).length+(pY (ys.flatMap D6++[[bI]])).length<=1000000000000->
    cg (iQ (n+60) m (some (w,0)) (some (b,0)) p xs.length c (Nat.cast xs.length) (pre.length:Nat) h7) (MG w S h (t7++(dO [iU,bX y.weight]++(dO [bI]++pY (ys.flatMap D6++[[bI]]))))):=by
   intro h7 S7 t7 F7 kb7 x7 hb7
   rw[yC]
   simp only[ai,Nat.zero_add]
   rw[kb7.cellAt (v:=.int .i64 y.weight) rfl,aj]
   refine yD x7 (tb.fr F7).t0.at_.get iU ok.weight.1 ok.weight.2 (by omega) (n+57) λv8 h8 S8 f8 x8=>?_
   refine nk x8 [bI] (by simp) (by simp only[hU];omega) (n+58) λv9 h9 S9 f9 x9=>?_
   have F9:=(F7.trans f8).trans f9
   rw[aG (by omega)]
   have:=MS hx hok n ys (pre++[y]) m h9 _ S9 (by rw[e1];simp) (by simp at hm;omega) x9 (tb.fr F9) (r.fr F9) (by simp only[hU];omega)
   refine cg.mono (by simpa using this) ?_
   rintro r' h10 ⟨q1,S10,f10,sD⟩
   exact⟨q1,S10,F9.trans f10,by simpa using sD⟩
  by_cases hp:y.port=0
  ·rw[show(y.port != 0)=false by simpa using hp,br]
   rw[if_pos hp]at hb ⊢
   have hb0:(pY ([]:List (List Bs))).length=0:=rfl
   rw[hb0]at hb
   have:=last h6 S6 _ F6 kb6 x6 (by simp only[hU];omega)
   simpa[pY]using this
  ·rw[show(y.port != 0)=true by simpa using hp,bM,kb6.cellAt (v:=.int .i64 y.port) rfl,aj]
   rw[if_neg hp]at hb ⊢
   have hb1:(pY [[fK,bX y.port]]).length=(dO [fK,bX y.port]).length:=by simp[pY]
   rw[hb1]at hb
   refine yD x6 (tb.fr F6).t0.at_.get fK ok.port.1 ok.port.2 (by simp only[hU];omega) (n+57) λv8 h8 S8 f8 x8=>?_
   have:=last h8 S8 _ (F6.trans f8) (kb6.fr f8) x8 (by simp only[hU];omega)
   simpa[pY]using this
theorem aeo{α:Type}{h:H}(l:List Bs)(hl:0<l.length)(hl2:l.length<=1000)(v:Int)(n:Nat){k:Bs->AV×H->Option (α×H)}{Q:α->H->Prop}(hk:∀v' h',Mod [] h h'->cg (k (qY l v) (v',h')) Q):
  cg (aD (.cells (l.map .str) false) h λi h'=>(ca (n+1) td [.int .i64 v,.slice (some (i,0)) l.length (.known l.length)] h').bind λq=>aZ q.1 λx=>k x q) Q:=by
 rw[aL]
 have row:Row (h.new (.cells (l.map .str) false)) 1 (some (h.next,0)) l.length (.known l.length) (l.map .str):=.row (Nat.lt_succ_self _) (aY _ _) (by rw[List.drop_zero,List.take_of_length_le (by simp)]) (by simp) (.inr ⟨_,rfl,cF _⟩)
 rw[ahB row hl hl2,fD]
 simp only[az]
 exact hk _ _ ((Mod.refl _ _).new _)
structure ajU(x:Sv):Prop where
 port:DY x.port
 ju:DY x.ju
 jr:DY x.jr
 probe:DY x.probe
 bf:∀b∈x.bf,apP b
 few:x.bf.length<=1000000
def svH(x:Sv):List (List Bs):=[[jt,pT x.D1],[fK,bX x.port],[th,qY [HU,Ws,zF] x.mode],[qw,qY [oR,oS] x.sched],[vT,bX x.ju],[vS,bX x.jr],[qv,bX x.probe]]
def UP(x:Sv):List (List Bs):=[bF,x.name,gJ]::[nj,if x.proto=6 then HV else HW]::(svH x++(x.bf.flatMap D6++[[bI]]))
theorem aa7{x:Sv}(ok:ajU x){w:Nat}{h:H}{t:List UInt8}{S:List Nat}(wr:Wr h w t S)(tb:Ss S h){p:Pt}{c:aM}(r:Lz S h 10 p x.bf.length c (x.bf.flatMap dV))(hb:t.length+(pY (UP x)).length<=1000000000000){n:Nat}(hn:1000100<=n):
  cg (ca n gw [.ptr (some (w,0)),.agg (cU x (.slice p x.bf.length c))] h) (MG w S h (t++pY (UP x))):=by
 obtain⟨n,rfl⟩:∃k,n=k+61:=⟨n - 61,by omega⟩
 show cg (ca (n+60+1) gw [.ptr (some (w,0)),.agg [.str x.name,.str x.D1,.int .i64 x.proto,.int .i64 x.port,.int .i64 x.mode,.int .i64 x.sched,.int .i64 x.ju,.int .i64 x.jr,.int .i64 x.probe,.slice p x.bf.length c]] h) _
 have hl:pY (UP x)=dO [bF,x.name,gJ]++(dO [nj,if x.proto=6 then HV else HW]++(dO [jt,pT x.D1]++(dO [fK,bX x.port]++(dO [th,qY [HU,Ws,zF] x.mode]++(dO [qw,qY [oR,oS] x.sched]++(dO [vT,bX x.ju]++(dO [vS,bX x.jr]++(dO [qv,bX x.probe]++pY (x.bf.flatMap D6++[[bI]]))))))))):=by
  simp[pY,UP,svH]
 rw[hl]at hb ⊢
 simp only[hU]at hb
 rw[AZ,aL]
 have m1:Mod [] h (h.new (.cells (cU x (.slice p x.bf.length c)) false)):=(Mod.refl _ _).new _
 have kb:Kept S (h.new (.cells (cU x (.slice p x.bf.length c)) false)) h.next (.cells (cU x (.slice p x.bf.length c)) false):=gA wr.lt _
 have x1:=wr.ak m1
 have F1:Fr S h S (h.new (.cells (cU x (.slice p x.bf.length c)) false)):=.ak m1
 rw[show(cK.cells [.str x.name,.str x.D1,.int .i64 x.proto,.int .i64 x.port,.int .i64 x.mode,.int .i64 x.sched,.int .i64 x.ju,.int .i64 x.jr,.int .i64 x.probe,.slice p x.bf.length c] false)=.cells (cU x (.slice p x.bf.length c)) false from rfl]
 generalize h.new (.cells (cU x (.slice p x.bf.length c)) false)=h1 at x1 kb F1 ⊢
 generalize h.next=b at kb ⊢
 rw[kb.cellAt (v:=.str x.name) rfl,az]
 refine nk x1 [bF,x.name,gJ] (by simp) (by omega) (n+58) λv2 h2 S2 f2 x2=>?_
 have F2:=F1.trans f2
 have kb2:=kb.fr f2
 dsimp only
 rw[kb2.cellAt (v:=.int .i64 x.proto) rfl,aj]
 have rest:∀pr:Bs,pr=(if x.proto=6 then HV else HW)->cg (iP (n+60) (some (w,0)) (some (b,0)) pr h2) (MG w S h (t++(dO [bF,x.name,gJ]++(dO [nj,if x.proto=6 then HV else HW]++(dO [jt,pT x.D1]++(dO [fK,bX x.port]++(dO [th,qY [HU,Ws,zF] x.mode]++(dO [qw,qY [oR,oS] x.sched]++(dO [vT,bX x.ju]++(dO [vS,bX x.jr]++(dO [qv,bX x.probe]++pY (x.bf.flatMap D6++[[bI]])))))))))))):=by
  rintro pr rfl
  generalize (if x.proto=6 then HV else HW)=pr at hb ⊢
  rw[yB]
  simp only[ai,Nat.zero_add]
  refine nk x2 [nj,pr] (by simp) (by simp only[hU];omega) (n+58) λv3 h3 S3 f3 x3=>?_
  have F3:=F2.trans f3
  have kb3:=kb2.fr f3
  rw[kb3.cellAt (v:=.str x.D1) rfl,az]
  refine ML (tb.fr F3) x.D1 (by omega) λv4 h4 m4=>?_
  have F4:=F3.trans (.ak m4)
  refine nk (x3.ak m4) [jt,pT x.D1] (by simp) (by simp only[hU];omega) (n+58) λv5 h5 S5 f5 x5=>?_
  have F5:=F4.trans f5
  have kb5:=(kb3.ak m4).fr f5
  rw[kb5.cellAt (v:=.int .i64 x.port) rfl,aj]
  refine yD x5 (tb.fr F5).t0.at_.get fK ok.port.1 ok.port.2 (by simp only[hU];omega) (n+57) λv6 h6 S6 f6 x6=>?_
  have F6:=F5.trans f6
  have kb6:=kb5.fr f6
  rw[kb6.cellAt (v:=.int .i64 x.mode) rfl,aj]
  refine aeo [HU,Ws,zF] (by simp) (by simp) x.mode (n+59) λv7 h7 m7=>?_
  have F7:=F6.trans (.ak m7)
  refine nk (x6.ak m7) [th,qY [HU,Ws,zF] x.mode] (by simp) (by simp only[hU];omega) (n+58) λv8 h8 S8 f8 x8=>?_
  have F8:=F7.trans f8
  have kb8:=(kb6.ak m7).fr f8
  rw[kb8.cellAt (v:=.int .i64 x.sched) rfl,aj]
  refine aeo [oR,oS] (by simp) (by simp) x.sched (n+59) λv9 h9 m9=>?_
  have F9:=F8.trans (.ak m9)
  refine nk (x8.ak m9) [qw,qY [oR,oS] x.sched] (by simp) (by simp only[hU];omega) (n+58) λv10 h10 S10 f10 sD=>?_
  have F10:=F9.trans f10
  have ar2:=(kb8.ak m9).fr f10
  rw[ar2.cellAt (v:=.int .i64 x.ju) rfl,aj]
  refine yD sD (tb.fr F10).t0.at_.get vT ok.ju.1 ok.ju.2 (by simp only[hU];omega) (n+57) λv11 h11 S11 f11 KL=>?_
  have F11:=F10.trans f11
  have ar3:=ar2.fr f11
  rw[ar3.cellAt (v:=.int .i64 x.jr) rfl,aj]
  refine yD KL (tb.fr F11).t0.at_.get vS ok.jr.1 ok.jr.2 (by simp only[hU];omega) (n+57) λv12 h12 S12 f12 BG=>?_
  have F12:=F11.trans f12
  have ar4:=ar3.fr f12
  rw[ar4.cellAt (v:=.int .i64 x.probe) rfl,aj]
  refine yD BG (tb.fr F12).t0.at_.get qv ok.probe.1 ok.probe.2 (by simp only[hU];omega) (n+57) λJY JT S13 f13 JQ=>?_
  have F13:=F12.trans f13
  have ayv:=ar4.fr f13
  rw[ayv.cellAt (v:=.slice p x.bf.length c) rfl,ah]
  have:=MS ok.few ok.bf n x.bf [] (n+60) JT _ S13 rfl (by have:=ok.few;omega) JQ (tb.fr F13) (r.fr F13) (by simp only[hU];omega)
  refine cg.mono this ?_
  rintro r' JU ⟨q1,S14,f14,ED⟩
  exact⟨q1,S14,F13.trans f14,by simpa using ED⟩
 by_cases h6:x.proto=6
 ·rw[show(x.proto==6)=true by simpa using h6,bM]
  exact rest _ (by rw[if_pos h6];rfl)
 ·rw[show(x.proto==6)=false by simpa using h6,br]
  exact rest _ (by rw[if_neg h6];rfl)
structure abP(p:Ps):Prop where
 bH:xJ p.bH
 id:DY p.id
 prio:DY p.prio
 every:DY p.every
 bh:∀x∈p.bh,DY x.2
 bB:∀x∈p.bB,ajU x
 fv:p.au.length<=1000000
 ft:p.bh.length<=1000000
 fs:p.bB.length<=1000000
def K9(p:Ps):List (List Bs):=[[gz,gJ],[kz,Sf p.bH],[bq,pT p.addr],[rQ,pT p.peer],[bI],[fq,gJ],[Pd,bX p.id],[tr,bX p.prio],[ni,bX p.every]]
def jN(l:List Bs):List (List Bs):=l.map λa=>[jt,pT a]
def ud(l:List (Bs×Int)):List (List Bs):=l.map λx=>[iL,x.1,bX x.2]
def kG(l:List Sv):List (List Bs):=l.flatMap UP
def jY(p:Ps):List (List Bs):=K9 p++([fL,if p.pre=true then Dk else Rq]::(jN p.au++(ud p.bh++([bI]::kG p.bB))))
def Told(S:List Nat)(h:H)(t:List UInt8)(r:AV)(h':H):Prop:=r=.str (mk t)/\∃S',Fr S h S' h'
theorem WV(t:List UInt8):Fc (fT (mk t))=some (t.map λc=>(c.toNat:Int)):=by
 have:fT (mk t)=(t.map λc=>(c.toNat:Int)).map (.int .u8):=by simp[fT,mk]
 rw[this,HL]
theorem UO(t:List UInt8):strOfNums (t.map λc=>(c.toNat:Int))=mk t:=by
 unfold strOfNums mk
 congr 2
 rw[List.map_map]
 refine(List.map_congr_left λc _=>?_).trans (List.map_id t)
 simp
theorem ain{h:H}{w:Nat}{t:List UInt8}{S:List Nat}(x:Wr h w t S)(h0:t≠[])(hb:t.length<=140737488355328):∃h',stF 57 5 (some (w,0)) h=some (mk t,h')/\∃S',Fr S h S' h':=by
 cases x with
 | none lt g=>exact absurd rfl h0
 | @some j t lt _ g gj lj ne=>
  refine⟨h.kill j,?_,[w,j],⟨(Mod.refl _ _).kill (.inr (by simp)),λi hi=>.inl hi⟩⟩
  unfold stF
  simp only[g,gj]
  rw[if_pos ⟨trivial,trivial,KZ t,List.length_pos_iff.2 h0,hb,ne⟩,WV,fD,if_pos,UO]
  rw[List.all_eq_true]
  intro y hy
  obtain⟨c,_,rfl⟩:=List.mem_map.1 hy
  have:=c.toNat_lt
  simp
  omega
theorem UQ{w:Nat}{p:Pt}{c:aM}{xs:List U7}(hx:xs.length<=1000000)(hok:∀x∈xs,ajU x.1){n:Nat}(hn:1000200<=n):∀(rest pre:List U7) (m:Nat) (h:H) (t:List UInt8) (S:List Nat),xs=pre++rest->rest.length<m->Wr h w t S->t≠[]->Ss S h->Lz S h 10 p xs.length c (xs.flatMap yE)->(∀x∈xs,Lz S h 10 x.2.1 x.1.bf.length x.2.2 (x.1.bf.flatMap dV))->t.length+(pY (kG (rest.map (·.1)))).length<=1000000000000->
  cg (pL n m (some (w,0)) p xs.length c (Nat.cast xs.length) (pre.length:Nat) h) (Told S h (t++pY (kG (rest.map (·.1)))))
 | [],pre,m+1,h,t,S,e1,_,x,h0,tb,r,rs,hb=>by
  obtain⟨n,rfl⟩:∃k,n=k+1:=⟨n - 1,by omega⟩
  rw[zk,aT (by rw[e1];simp),br,ai,AA,ye]
  obtain⟨h',e2,S',f1⟩:=ain x h0 (by omega)
  rw[e2]
  simp only[fD,az]
  exact .pure ⟨by simp[pY,kG],S',f1⟩
 | y::ys,pre,m+1,h,t,S,e1,hm,x,h0,tb,r,rs,hb=>by
  have j9:xs[pre.length]?=some y:=by rw[e1];simp
  have hlt:pre.length<xs.length:=(sS j9).1
  have hmem:=Hq j9
  have hl:pY (kG ((y::ys).map (·.1)))=pY (UP y.1)++pY (kG (ys.map (·.1))):=by simp[pY,kG]
  rw[hl]at hb ⊢
  rw[hU]at hb
  rw[zk,cL hlt,bM,r.row.ix E6 (by decide) j9]
  simp only[yE,cU,dx,cu,ux,aE]
  rw[aL,mZ (n:=10) rfl rfl rfl,jF (n:=10) (aY _ _) rfl]
  simp only[dx,cu,ux,aE]
  have m1:Mod [] h (h.new (.cells (cU y.1 (.slice y.2.1 y.1.bf.length y.2.2)) false)):=(Mod.refl _ _).new _
  change cg ((ca n gw [.ptr (some (w,0)),.agg (cU y.1 (.slice y.2.1 y.1.bf.length y.2.2))] (h.new (.cells (cU y.1 (.slice y.2.1 y.1.bf.length y.2.2)) false))).bind λUq=>aO Uq.1 λamb=>l0 amb (pL n m (some (w,0)) p xs.length c (Nat.cast xs.length) (IntKind.i64.wrap (((pre.length:Nat):Int)+1)) Uq.2)) _
  have F1:Fr S h S (h.new (.cells (cU y.1 (.slice y.2.1 y.1.bf.length y.2.2)) false)):=.ak m1
  refine(aa7 (hok y hmem) (x.ak m1) (tb.fr F1) ((rs y hmem).fr F1) (by omega) (n:=n) (by omega)).bind ?_
  rintro _ h2 ⟨rfl,S2,f2,x2⟩
  have F2:=F1.trans f2
  simp only[ay,aE]
  rw[aG (by omega)]
  have:=UQ hx hok hn ys (pre++[y]) m h2 _ S2 (by rw[e1];simp) (by simp at hm;omega) x2 (by simp[h0]) (tb.fr F2) (r.fr F2) (λz hz=>(rs z hz).fr F2) (by rw[hU];omega)
  refine cg.mono (by simpa using this) ?_
  rintro r' h3 ⟨q1,S3,f3⟩
  exact⟨by simpa using q1,S3,F2.trans f3⟩
structure Zi(S:List Nat)(h:H)(b:Nat)(p:Ps)(vp tp gp:Pt)(vc tc gc:aM)(fm:List U7):Prop where
 box:Kept S h b (.cells (vM p (.slice vp p.au.length vc) (.slice tp p.bh.length tc) (.slice gp fm.length gc)) false)
 tb:Ss S h
 rv:Lz S h 1 vp p.au.length vc (p.au.map .str)
 rt:Lz S h 2 tp p.bh.length tc (p.bh.flatMap wm)
 rg:Lz S h 10 gp fm.length gc (fm.flatMap yE)
 rs:∀x∈fm,Lz S h 10 x.2.1 x.1.bf.length x.2.2 (x.1.bf.flatMap dV)
theorem Zi.fr{S S':List Nat}{h h':H}{b:Nat}{p:Ps}{vp tp gp:Pt}{vc tc gc:aM}{fm:List U7}(i:Zi S h b p vp tp gp vc tc gc fm)(f:Fr S h S' h'):Zi S' h' b p vp tp gp vc tc gc fm:=
 ⟨i.box.fr f,i.tb.fr f,i.rv.fr f,i.rt.fr f,i.rg.fr f,λx hx=>(i.rs x hx).fr f⟩
section
variable {p:Ps}{vp tp gp:Pt}{vc tc gc:aM}{fm:List U7}{b w:Nat}
theorem UW(ok:abP p)(es:fm.map (·.1)=p.bB){n:Nat}(hn:1000200<=n):∀(rest pre:List (Bs×Int)) (m:Nat) (h:H) (t:List UInt8) (S:List Nat),p.bh=pre++rest->rest.length<m->Wr h w t S->t≠[]->Zi S h b p vp tp gp vc tc gc fm->t.length+(pY (ud rest++([bI]::kG p.bB))).length<=1000000000000->
  cg (tI n m (some (b,0)) (some (w,0)) tp p.bh.length tc (Nat.cast p.bh.length) (pre.length:Nat) h) (Told S h (t++pY (ud rest++([bI]::kG p.bB))))
 | [],pre,m+1,h,t,S,e1,_,x,h0,i,hb=>by
  obtain⟨n,rfl⟩:∃k,n=k+60:=⟨n - 60,by omega⟩
  have hl:pY (ud []++([bI]::kG p.bB))=dO [bI]++pY (kG p.bB):=rfl
  rw[hl]at hb ⊢
  rw[hU]at hb
  rw[zj,aT (by rw[e1];simp),br]
  refine nk x [bI] (by simp) (by omega) (n+58) λv2 h2 S2 f2 x2=>?_
  have i2:=i.fr f2
  dsimp only
  simp only[ai,Nat.zero_add]
  rw[i2.box.cellAt (v:=.slice gp fm.length gc) rfl,ah]
  have hs:fm.length=p.bB.length:=by rw[<-es,List.length_map]
  have:=UQ (w:=w) (xs:=fm) (by rw[hs];exact ok.fs) (λy hy=>ok.bB _ (by rw[<-es];exact List.mem_map_of_mem hy)) hn fm [] (n+60) h2 _ S2 rfl (by have:=ok.fs;omega) x2 (by simp[h0]) i2.tb i2.rg i2.rs (by rw[es,hU];omega)
  rw[es]at this
  refine cg.mono this ?_
  rintro r' h3 ⟨q1,S3,f3⟩
  exact⟨by simpa using q1,S3,f2.trans f3⟩
 | y::ys,pre,m+1,h,t,S,e1,hm,x,h0,i,hb=>by
  obtain⟨n,rfl⟩:∃k,n=k+60:=⟨n - 60,by omega⟩
  have j9:p.bh[pre.length]?=some y:=by rw[e1];simp
  have hlt:pre.length<p.bh.length:=(sS j9).1
  have hmem:=Hq j9
  have ft:=ok.ft
  have hl:pY (ud (y::ys)++([bI]::kG p.bB))=dO [iL,y.1,bX y.2]++pY (ud ys++([bI]::kG p.bB)):=rfl
  rw[hl]at hb ⊢
  rw[hU]at hb
  rw[zj,cL hlt,bM,i.rt.row.ix E7 (by decide) j9]
  simp only[wm,dx,cu,aE]
  rw[aL,mZ (n:=2) rfl rfl rfl]
  have m1:Mod [] h (h.new (.cells [.str y.1,.int .i64 y.2] false)):=(Mod.refl _ _).new _
  have Vs:At (h.new (.cells [.str y.1,.int .i64 y.2] false)) h.next (.cells [.str y.1,.int .i64 y.2] false):=.new _ _
  have F1:Fr S h S (h.new (.cells [.str y.1,.int .i64 y.2] false)):=.ak m1
  generalize h.new (.cells [.str y.1,.int .i64 y.2] false)=h1 at m1 Vs F1 ⊢
  have ht:=(i.fr F1).tb.t0.at_.get
  rw[Vs.cell (v:=.str y.1) rfl,az,Vs.cell (v:=.int .i64 y.2) rfl,aj,yd,uc,NW ht (ok.bh y hmem).1 (ok.bh y hmem).2]
  simp only[fD,az]
  rw[Xl]
  refine nk (x.ak m1) [iL,y.1,bX y.2] (by simp) (by omega) (n+58) λv2 h2 S2 f2 x2=>?_
  have F2:=F1.trans f2
  dsimp only
  rw[aG (by omega)]
  have:=UW ok es hn ys (pre++[y]) m h2 _ S2 (by rw[e1];simp) (by simp at hm;omega) x2 (by simp[h0]) (i.fr F2) (by rw[hU];omega)
  refine cg.mono (by simpa using this) ?_
  rintro r' h3 ⟨q1,S3,f3⟩
  exact⟨by simpa using q1,S3,F2.trans f3⟩
theorem OA(ok:abP p)(es:fm.map (·.1)=p.bB){n:Nat}(hn:1000200<=n):∀(rest pre:List Bs) (m:Nat) (h:H) (t:List UInt8) (S:List Nat),p.au=pre++rest->rest.length<m->Wr h w t S->t≠[]->Zi S h b p vp tp gp vc tc gc fm->t.length+(pY (jN rest++(ud p.bh++([bI]::kG p.bB)))).length<=1000000000000->
  cg (tH n m (some (b,0)) (some (w,0)) vp p.au.length vc (Nat.cast p.au.length) (pre.length:Nat) h) (Told S h (t++pY (jN rest++(ud p.bh++([bI]::kG p.bB)))))
 | [],pre,m+1,h,t,S,e1,_,x,h0,i,hb=>by
  rw[zi,aT (by rw[e1];simp),br]
  simp only[ai,Nat.zero_add]
  rw[i.box.cellAt (v:=.slice tp p.bh.length tc) rfl,ah]
  exact UW ok es hn p.bh [] n h t S rfl (by have:=ok.ft;omega) x h0 i hb
 | y::ys,pre,m+1,h,t,S,e1,hm,x,h0,i,hb=>by
  obtain⟨n,rfl⟩:∃k,n=k+60:=⟨n - 60,by omega⟩
  have j9:p.au[pre.length]?=some y:=by rw[e1];simp
  have hlt:pre.length<p.au.length:=(sS j9).1
  have fv:=ok.fv
  have hl:pY (jN (y::ys)++(ud p.bh++([bI]::kG p.bB)))=dO [jt,pT y]++pY (jN ys++(ud p.bh++([bI]::kG p.bB))):=rfl
  rw[hl]at hb ⊢
  rw[hU]at hb
  rw[zi,cL hlt,bM,i.rv.row.Mh j9,az]
  refine ML i.tb y (by omega) λv1 h1 m1=>?_
  have F1:Fr S h S h1:=.ak m1
  refine nk (x.ak m1) [jt,pT y] (by simp) (by omega) (n+58) λv2 h2 S2 f2 x2=>?_
  have F2:=F1.trans f2
  dsimp only
  rw[aG (by omega)]
  have:=OA ok es hn ys (pre++[y]) m h2 _ S2 (by rw[e1];simp) (by simp at hm;omega) x2 (by simp[h0]) (i.fr F2) (by rw[hU];omega)
  refine cg.mono (by simpa using this) ?_
  rintro r' h3 ⟨q1,S3,f3⟩
  exact⟨by simpa using q1,S3,F2.trans f3⟩
end
theorem Zj{p:Ps}(ok:abP p){h:H}(h1:1<h.next)(ht0:h.get 0=some (.Xv wQ))(ht1:h.get 1=some (.cells Xy true)){cs:List AV}(hc:nD h p cs)(hb:(pY (jY p)).length<=1000000000000){n:Nat}(hn:1000300<=n):
  cg (ca n rI [.agg cs] h) λr h'=>Mod [] h h'/\r=.str (mk (pY (jY p))):=by
 obtain⟨vp,vc,tp,tc,gp,gc,fm,rfl,rv,rt,rg,es,rs⟩:=hc
 have hs:fm.length=p.bB.length:=by rw[<-es,List.length_map]
 obtain⟨n,rfl⟩:∃k,n=k+61:=⟨n - 61,by omega⟩
 have hl:pY (jY p)=dO [gz,gJ]++(dO [kz,Sf p.bH]++(dO [bq,pT p.addr]++(dO [rQ,pT p.peer]++(dO [bI]++(dO [fq,gJ]++(dO [Pd,bX p.id]++(dO [tr,bX p.prio]++(dO [ni,bX p.every]++(dO [fL,if p.pre=true then Dk else Rq]++pY (jN p.au++(ud p.bh++([bI]::kG p.bB)))))))))))):=by
  simp[pY,jY,K9]
 rw[hl]at hb ⊢
 simp only[hU]at hb
 show cg (ca (n+60+1) rI [.agg (vM p (.slice vp p.au.length vc) (.slice tp p.bh.length tc) (.slice gp p.bB.length gc))] h) _
 rw[LI,aL,aL]
 have ma:Mod [] h (h.new (.cells (vM p (.slice vp p.au.length vc) (.slice tp p.bh.length tc) (.slice gp p.bB.length gc)) false)):=(Mod.refl _ _).new _
 have ab:At (h.new (.cells (vM p (.slice vp p.au.length vc) (.slice tp p.bh.length tc) (.slice gp p.bB.length gc)) false)) h.next (.cells (vM p (.slice vp p.au.length vc) (.slice tp p.bh.length tc) (.slice gp p.bB.length gc)) false):=.new _ _
 have nb:(h.new (.cells (vM p (.slice vp p.au.length vc) (.slice tp p.bh.length tc) (.slice gp p.bB.length gc)) false)).next=h.next+1:=rfl
 generalize h.new (.cells (vM p (.slice vp p.au.length vc) (.slice tp p.bh.length tc) (.slice gp p.bB.length gc)) false)=ha at ma ab nb ⊢
 have mw:Mod [] ha (ha.new (.tc 57 [.ptr none,.slice none 0 (.known 0)] true)):=(Mod.refl _ _).new _
 have x0:Wr (ha.new (.tc 57 [.ptr none,.slice none 0 (.known 0)] true)) ha.next [] [ha.next]:=.none (Nat.lt_succ_self _) (aY _ _)
 have mm:=ma.trans mw
 generalize ha.new (.tc 57 [.ptr none,.slice none 0 (.known 0)] true)=h0 at mw x0 mm ⊢
 have low:∀x,x<ha.next->x∉[ha.next]:=λx hx hm=>by have:=List.mem_singleton.1 hm;omega
 have aeP:∀{size len:Nat} {q:Pt} {c:aM} {vs:List AV},Row h size q len c vs->Lz [ha.next] h0 size q len c vs:=λr=>⟨r.ak mm,λy hy=>low y (by have:=r.lt y hy;omega)⟩
 have i0:Zi [ha.next] h0 h.next p vp tp gp vc tc gc fm:=⟨by rw[hs];exact⟨ab.ak mw,low _ (by omega)⟩,⟨⟨⟨mm.lt (by omega),(mm.get _ (by omega) (by simp)).trans ht0⟩,low _ (by omega)⟩,⟨⟨mm.lt h1,(mm.get _ h1 (by simp)).trans ht1⟩,low _ (by omega)⟩⟩,aeP rv,aeP rt,aeP rg,λy hy=>aeP (rs y hy)⟩
 have hw:h.next<=ha.next:=by omega
 generalize ha.next=w at x0 i0 hw low aeP ⊢
 have fin:∀{S':List Nat} {h':H},Fr [w] h0 S' h'->Mod [] h h':=λf=>mm.trans' f.mod λx hx hl=>by have:=List.mem_singleton.1 hx;omega
 generalize h.next=b at i0 ⊢
 refine nk x0 [gz,gJ] (by simp) (by simp only[List.length_nil];omega) (n+58) λv1 g1 S1 f1 x1=>?_
 have I1:=i0.fr f1
 dsimp only
 rw[I1.box.at_.agg (o:=0) (n:=6) (vs:=xQ p.bH) rfl (by exact(by decide:0+6<=15))]
 refine acA ok.bH (by omega) λv2 g2 m2=>?_
 have F2:=f1.trans (.ak m2)
 refine nk (x1.ak m2) [kz,Sf p.bH] (by simp) (by simp only[hU,List.length_nil];omega) (n+58) λv3 g3 S3 f3 x3=>?_
 have F3:=F2.trans f3
 have I3:=i0.fr F3
 dsimp only
 rw[I3.box.cellAt (v:=.str p.addr) rfl,az]
 refine ML I3.tb p.addr (by omega) λv4 g4 m4=>?_
 have F4:=F3.trans (.ak m4)
 refine nk (x3.ak m4) [bq,pT p.addr] (by simp) (by simp only[hU,List.length_nil];omega) (n+58) λv5 g5 S5 f5 x5=>?_
 have F5:=F4.trans f5
 have I5:=i0.fr F5
 dsimp only
 rw[I5.box.cellAt (v:=.str p.peer) rfl,az]
 refine ML I5.tb p.peer (by omega) λv6 g6 m6=>?_
 have F6:=F5.trans (.ak m6)
 refine nk (x5.ak m6) [rQ,pT p.peer] (by simp) (by simp only[hU,List.length_nil];omega) (n+58) λv7 g7 S7 f7 x7=>?_
 have F7:=F6.trans f7
 refine nk x7 [bI] (by simp) (by simp only[hU,List.length_nil];omega) (n+58) λv8 g8 S8 f8 x8=>?_
 have F8:=F7.trans f8
 refine nk x8 [fq,gJ] (by simp) (by simp only[hU,List.length_nil];omega) (n+58) λv9 g9 S9 f9 x9=>?_
 have F9:=F8.trans f9
 have I9:=i0.fr F9
 dsimp only
 rw[I9.box.cellAt (v:=.int .i64 p.id) rfl,aj]
 refine yD x9 I9.tb.t0.at_.get Pd ok.id.1 ok.id.2 (by simp only[hU,List.length_nil];omega) (n+57) λv10 g10 S10 f10 sD=>?_
 have F10:=F9.trans f10
 have I10:=i0.fr F10
 dsimp only
 rw[I10.box.cellAt (v:=.int .i64 p.prio) rfl,aj]
 refine yD sD I10.tb.t0.at_.get tr ok.prio.1 ok.prio.2 (by simp only[hU,List.length_nil];omega) (n+57) λv11 g11 S11 f11 KL=>?_
 have F11:=F10.trans f11
 have I11:=i0.fr F11
 dsimp only
 rw[I11.box.cellAt (v:=.int .i64 p.every) rfl,aj]
 refine yD KL I11.tb.t0.at_.get ni ok.every.1 ok.every.2 (by simp only[hU,List.length_nil];omega) (n+57) λv12 g12 S12 f12 BG=>?_
 have F12:=F11.trans f12
 have I12:=i0.fr F12
 dsimp only
 rw[I12.box.cellAt (v:=.bool p.pre) rfl,aq]
 have rest:∀y:Bs,y=(if p.pre=true then Dk else Rq)->cg (lf (n+60) (some (b,0)) (some (w,0)) y g12) λr h'=>Mod [] h h'/\r=.str (mk (dO [gz,gJ]++(dO [kz,Sf p.bH]++(dO [bq,pT p.addr]++(dO [rQ,pT p.peer]++(dO [bI]++(dO [fq,gJ]++(dO [Pd,bX p.id]++(dO [tr,bX p.prio]++(dO [ni,bX p.every]++(dO [fL,if p.pre=true then Dk else Rq]++pY (jN p.au++(ud p.bh++([bI]::kG p.bB)))))))))))))):=by
  rintro y rfl
  generalize (if p.pre=true then Dk else Rq)=y at hb ⊢
  rw[HH]
  refine nk BG [fL,y] (by simp) (by simp only[hU,List.length_nil];omega) (n+58) λJY g13 S13 f13 JQ=>?_
  have F13:=F12.trans f13
  have I13:=i0.fr F13
  dsimp only
  simp only[ai,Nat.zero_add]
  rw[I13.box.cellAt (v:=.slice vp p.au.length vc) rfl,ah]
  have:=OA (w:=w) ok es (n:=n+60) (by omega) p.au [] (n+60) g13 _ S13 rfl (by have:=ok.fv;omega) JQ (by unfold dO;simp) I13 (by simp only[hU,List.length_nil];omega)
  refine cg.mono this ?_
  rintro r' g14 ⟨q1,S14,f14⟩
  exact⟨fin (F13.trans f14),by simpa using q1⟩
 have r1:=rest Dk
 have r0:=rest Rq
 generalize hQ:(λ(r:AV) (h':H)=>Mod [] h h'/\r=.str (mk _))=Q at r1 r0 ⊢
 have awP:∀c:Bool,p.pre=c->cg (cond c (lf (n+60) (some (b,0)) (some (w,0)) Dk g12) (lf (n+60) (some (b,0)) (some (w,0)) Rq g12)) Q:=by
  intro c hc
  cases c with
  | true=>exact r1 (by rw[if_pos hc])
  | false=>exact r0 (by rw[if_neg (by rw[hc];decide)])
 exact awP _ rfl
def nP(p:Ps):Ps:={p with bad:=0,ag:=p.ag.map λx=>(x.1,0,x.2.2)}
def nS(st:St):St:={st with p:=nP st.p}
abbrev e0:Bs:=⟨#[]⟩
section
variable (s:Bs)(l:List Wd)
end
structure BkG(x:Bk):Prop where
 bH:xJ x.bH
 port:0<=x.port/\x.port<=65535
 weight:0<=x.weight/\x.weight<=65535
 name:x.name.size<=40
structure SvG(x:Sv):Prop where
 port:0<=x.port/\x.port<=65535
 ju:0<=x.ju/\x.ju<=65535
 jr:0<=x.jr/\x.jr<=65535
 probe:0<=x.probe/\x.probe<=65535
 name:x.name.size<=40
 bf:∀b∈x.bf,BkG b
def QN(l:List Sv):Nat:=(l.map λx=>x.bf.length).sum
structure GG(d:Nat)(st:St):Prop where
 bH:xJ st.p.bH
 id:0<=st.p.id/\st.p.id<=65535
 prio:0<=st.p.prio/\st.p.prio<=65535
 every:0<=st.p.every/\st.p.every<=65535
 bh:∀x∈st.p.bh,-254<=x.2/\x.2<=254/\x.1.size<=40
 bB:∀x∈st.p.bB,SvG x
 sv:SvG st.sv
 bk:BkG st.bk
 tot:st.p.bB.length+QN st.p.bB+st.sv.bf.length+d<=st.p.k
 au:st.p.au.length+d<=st.p.k
 JX:st.p.bh.length+d<=st.p.k
def Sh(e:Nat)(p p':Ps):Prop:=∃k b c sp,p.k+e<=k/\p'={p with k:=k,bad:=b,code:=c,ag:=sp}
theorem Sh.set{d e:Nat}{st:St}{p':Ps}(g:GG d st)(h:Sh e st.p p'):GG (d+e) (aA st p'):=by
 obtain⟨k,b,c,sp,hk,rfl⟩:=h
 have h1:=g.tot;have h2:=g.au;have h3:=g.JX
 exact⟨g.bH,g.id,g.prio,g.every,g.bh,g.bB,g.sv,g.bk,by show st.p.bB.length+QN st.p.bB+st.sv.bf.length+(d+e)<=k;omega,by show st.p.au.length+(d+e)<=k;omega,by show st.p.bh.length+(d+e)<=k;omega⟩
theorem GG.less{d d':Nat}{st:St}(g:GG d st)(h:d'<=d):GG d' st:=by
 have h1:=g.tot;have h2:=g.au;have h3:=g.JX
 exact⟨g.bH,g.id,g.prio,g.every,g.bh,g.bB,g.sv,g.bk,by omega,by omega,by omega⟩
theorem mq(p:Ps)(a c:Int):Sh 0 p (bE p a c):=by
 unfold bE;split
 ·exact⟨p.k,a,c,p.ag,cF _,rfl⟩
 ·exact⟨p.k,p.bad,p.code,p.ag,cF _,rfl⟩
theorem R2(s:Bs)(l:List Wd)(w:Bs)(p:Ps):Sh 0 p (dS s l w p).1:=by
 unfold dS;split
 ·exact⟨p.k+1,p.bad,p.code,p.ag,dW _,rfl⟩
 ·exact mq _ _ _
theorem Cp(s:Bs)(l:List Wd)(p:Ps):Sh 0 p (aS s l p).1/\((aS s l p).2.2.2=true->Sh 1 p (aS s l p).1):=by
 unfold aS;split
 ·exact⟨mq _ _ _,λh=>by cases h⟩
 ·exact⟨⟨p.k+1,p.bad,p.code,p.ag,dW _,rfl⟩,λ_=>⟨p.k+1,p.bad,p.code,p.ag,cF _,rfl⟩⟩
def Kp(f:St->St×Bool):Prop:=∀d st,GG d st->GG d (f st).1
section
variable (s:Bs)(l:List Wd)
theorem Km:Kp (k8 s l):=λ_ st g=>(R2 s l nl st.p).set g
theorem sw{put:St->Int->St}{lo hi:Int}(hp:∀d st v,lo<=v->v<=hi->GG d st->GG d (put st v)):Kp (bC s l put lo hi):=λd st g=>by
 unfold bC
 have hv:=(Cp s l st.p).1
 generalize aS s l st.p=v at hv
 obtain⟨p,w,a,is⟩:=v
 cases is with
 | false=>exact hv.set g
 | true=>
  unfold yL
  simp only
  split
  ·next h=>exact Km s l d _ (hp d _ _ h.2.1 h.2.2 (hv.set g))
  ·exact(mq p a 182).set (st:=aA st p) (hv.set g)
theorem Gx{put:St->Int->St}{L:List (Bs×Int)}(hp:∀d st v,v∈L.map (·.2)->GG d st->GG d (put st v)):Kp (cM s l put L):=λd st g=>by
 unfold cM
 have hv:=(Cp s l st.p).1
 generalize aS s l st.p=v at hv
 obtain⟨p,w,a,is⟩:=v
 cases is with
 | false=>exact hv.set g
 | true=>
  unfold wP
  simp only
  cases hl:lk L w with
  | some v=>exact Km s l d _ (hp d _ _ (List.mem_map_of_mem (wE hl)) (hv.set g))
  | none=>exact(mq p a 182).set (st:=aA st p) (hv.set g)
theorem YI{put:St->Cd->St}(hc:∀w,xJ (xO (eM w).1))(hp:∀d st v,xJ v->GG d st->GG d (put st v)):Kp (nF s l put):=λd st g=>by
 unfold nF
 have hv:=(Cp s l st.p).1
 generalize aS s l st.p=v at hv
 obtain⟨p,w,a,is⟩:=v
 cases is with
 | false=>exact hv.set g
 | true=>
  unfold ID
  simp only
  split
  ·exact Km s l d _ (hp d _ _ (hc w) (hv.set g))
  ·exact(mq p a 182).set (st:=aA st p) (hv.set g)
theorem zH{xE:Bool}{tk:St->Bs->Int->St×Bool}(ht:∀d st a at',GG (d+1) st->GG d (tk st a at').1):Kp (bt s l xE tk):=λd st g=>by
 unfold bt
 have hv:=Cp s l st.p
 generalize aS s l st.p=v at hv
 obtain⟨p,w,a,is⟩:=v
 cases is with
 | false=>exact hv.1.set g
 | true=>
  unfold pJ
  simp only
  split
  ·have g1:GG (d+1) (aA st {p with ag:=p.ag++[((eL w).1,a,xE)]}):=by
    obtain⟨k,b,c,sp,hk,e⟩:=hv.2 rfl
    simp only at e
    refine Sh.set g ⟨k,b,c,p.ag++[((eL w).1,a,xE)],hk,?_⟩
    rw[e]
   have g2:=ht d _ (eL w).1 a g1
   unfold pE
   split
   ·exact Km s l d _ g2
   ·exact g2
  ·exact(mq p a 182).set (st:=aA st p) (hv.1.set g)
end
end Go.Ev.Tryz
