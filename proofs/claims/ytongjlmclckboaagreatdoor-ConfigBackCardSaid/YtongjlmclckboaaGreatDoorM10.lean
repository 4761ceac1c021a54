/- Own texts, joined: . -/
import Derived.Test.YtongjlmclckboaaGreatDoorM9
import Derived.Test.YtongjlmclckboaaGreatDoorM7
set_option linter.all false
namespace Go.Ev.Tryz
set_option maxRecDepth 10000
open Go.Proofs
def avc(a h':H)(q:Option (Nat×Nat))(l:Nat)(d:aM)(ok:Bool):Option (List Int)->Prop
 | none=>ok=false
 | some x=>ok=true/\Grow a h' 1 q l d (vX x)
theorem Pu.open{a h':H}{r:AV}{o:Option (List Int)}(g:Pu a h' r o):∃q l d ok,r=.dJ [.slice q l d,.bool ok]/\avc a h' q l d ok o:=by
 cases o with
 | none=>obtain⟨q,l,d,e⟩:=g;exact⟨q,l,d,_,e,rfl⟩
 | some x=>obtain⟨q,l,d,e,g⟩:=g;exact⟨q,l,d,_,e,rfl,g⟩
def IP(r:ByteArray×Bool):AV:=.dJ [.str r.1,.bool r.2]
def QZ(r:List AV×Bool):AV:=.dJ [.agg r.1,.bool r.2]
def Il(s:ByteArray):ByteArray×Bool:=match fX (oP 1 4) 2 (bJ 58 s)with | some y=>if y.length=16 then(strOfNums y,true)else(⟨#[]⟩,false) | none=>(⟨#[]⟩,false)
def eL(s:ByteArray):ByteArray×Bool:=match fX xZ 1 (bJ 46 s)with | some x=>if x.length=4 then(strOfNums x,true)else Il s | none=>Il s
theorem So{s:ByteArray}(hs:s.size<90000){n:Nat}(hn:s.size+61<=n)(h:H):cg (ca n xV [.str s] h) λr h'=>Mod [] h h'/\r=IP (eL s):=by
 obtain⟨n,rfl⟩:∃m,n=m+1:=⟨n - 1,by omega⟩
 rw[KI]
 refine(acZ hs 46 (by omega) h).bind ?_
 rintro _ h1 ⟨m1,g1⟩
 replace g1:=g1.open
 obtain⟨p,l,c,ok,rfl,g1⟩:=g1
 simp only[ay,ux,fV,aE]
 have six:cg (sC n s p l c false h1) λr h'=>Mod [] h h'/\r=IP (Il s):=by
  rw[yt,br]
  refine(ac0 hs 58 (by omega) h1).bind ?_
  rintro _ h2 ⟨m2,g2⟩
  replace g2:=g2.open
  obtain⟨p2,l2,c2,ok2,rfl,g2⟩:=g2
  simp only[ay,ux,fV,aE]
  unfold Il
  cases hg:fX (oP 1 4) 2 (bJ 58 s)with
  | none=>
   rw[hg]at g2
   obtain rfl:ok2=false:=g2
   rw[br,yu,br]
   exact .pure ⟨m1.trans m2,rfl⟩
  | some y=>
   rw[hg]at g2
   obtain⟨h3,g3⟩:=g2
   skip
   subst h3
   obtain rfl:=g3.row.adT
   rw[bM,yu]
   by_cases Gu:y.length=16
   ·rw[Gu,show((Nat.cast 16:Int)==16)=true by decide,bM,MZ (by rw[Gu]at g3;exact g3.row.sl)]
    exact .pure ⟨m1.trans m2,by simp[IP,Gu]⟩
   ·rw[show(((y.length:Nat):Int)==16)=false by simp;omega,br]
    exact .pure ⟨m1.trans m2,by simp[IP,Gu]⟩
 unfold eL
 cases hg:fX xZ 1 (bJ 46 s)with
 | none=>
  rw[hg]at g1
  obtain rfl:ok=false:=g1
  rw[br]
  exact six
 | some x=>
  rw[hg]at g1
  obtain⟨h3,g3⟩:=g1
  skip
  subst h3
  obtain rfl:=g3.row.adT
  rw[bM]
  by_cases h4:x.length=4
  ·rw[h4,show((Nat.cast 4:Int)==4)=true by decide,yt,bM,MZ (by rw[h4]at g3;exact g3.row.sl)]
   exact .pure ⟨m1,by simp[IP,h4]⟩
  ·rw[show(((x.length:Nat):Int)==4)=false by simp;omega]
   simp only[h4,if_false]
   exact six
def eM(s:ByteArray):List Int×Bool:=match fX (oP 2 2) 1 (bJ 58 s)with | some x=>if x.length=6 then(x,true)else([0,0,0,0,0,0],false) | none=>([0,0,0,0,0,0],false)
theorem JK(l:List Int):(vX l).all cT=true:=by simp[vX,cT]
theorem abH{s:ByteArray}(hs:s.size<90000){n:Nat}(hn:s.size+61<=n)(h:H):cg (ca n Di [.str s] h) λr h'=>Mod [] h h'/\r=QZ (vX (eM s).1,(eM s).2):=by
 obtain⟨n,rfl⟩:∃m,n=m+1:=⟨n - 1,by omega⟩
 rw[Pn]
 simp only[aL]
 have m0:Mod [] h (h.new (.cells (vX [0,0,0,0,0,0]) false)):=(Mod.refl _ _).new _
 have g0:(h.new (.cells (vX [0,0,0,0,0,0]) false)).get h.next=some (.cells (vX [0,0,0,0,0,0]) false):=aY _ _
 have l0:h.next<(h.new (.cells (vX [0,0,0,0,0,0]) false)).next:=by simp
 change cg (Option.bind (ca n gT [.str s,.str (mk [58]),.int .i64 1,.func nV [] []] (h.new (.cells (vX [0,0,0,0,0,0]) false))) _) _
 generalize h.new (.cells (vX [0,0,0,0,0,0]) false)=h0 at *
 refine(agF hs 58 (by omega) h0).bind ?_
 rintro _ h1 ⟨m1,g1⟩
 replace g1:=g1.open
 obtain⟨p,l,c,ok,rfl,g1⟩:=g1
 simp only[ay,ux,fV,aE]
 have gb:=(m1.get _ l0 (by simp)).trans g0
 have bad:cg (wT n (some (h.next,0)) p l c true h1) λr h'=>Mod [] h h'/\r=QZ (vX [0,0,0,0,0,0],false):=by
  rw[Ct,bM]
  simp only[ai]
  rw[DT (n:=6) gb rfl (by simp) rfl,GP _ _ (by simp),jF (n:=6) (aW _ _ _) rfl]
  exact .pure ⟨(m0.trans m1).set (.inl (cF _)) _,rfl⟩
 unfold eM
 cases hg:fX (oP 2 2) 1 (bJ 58 s)with
 | none=>
  rw[hg]at g1
  obtain rfl:ok=false:=g1
  rw[Bool.not_false,bM]
  exact bad
 | some x=>
  rw[hg]at g1
  obtain⟨h3,g3⟩:=g1
  skip
  subst h3
  obtain rfl:=g3.row.adT
  rw[Bool.not_true,br]
  by_cases h6:x.length=6
  ·rw[h6,show((Nat.cast 6:Int) != 6)=false by decide,Ct,br,if_pos ⟨by omega,by omega⟩]
   rw[h6]at g3
   rcases g3.look with⟨_,h0',_⟩ | ⟨b,rfl,hb1,hb2,hb3,hb4,hb5⟩
   ·cases h0'
   ·simp only[ai]
    rw[jF (n:=6) hb3 (by simpa using h6),DT (n:=6) gb (by simpa using h6) (by simp) (JK x),GP _ _ (by simpa using h6),jF (n:=6) (aW _ _ _) (by simpa using h6)]
    exact .pure ⟨(m0.trans m1).set (.inl (cF _)) _,by simp[QZ,h6]⟩
  ·rw[show(((x.length:Nat):Int) != 6)=true by simp;omega]
   simp only[h6,if_false]
   exact bad
abbrev Ze:ByteArray:=ua
def hx2(x:Int):ByteArray:=Ze.extract (x / 16).toNat (x / 16+1).toNat++Ze.extract (x % 16).toNat (x % 16+1).toNat
theorem ahm{x:Int}(h0:0<=x)(h1:x<256):B7 .u8 x 4=x / 16/\Rm .u8 x 15=x % 16:=by
 have:∀k:Fin 256,B7 .u8 (k.val:Int) 4=(k.val:Int) / 16/\Rm .u8 (k.val:Int) 15=(k.val:Int) % 16:=by decide +kernel
 obtain⟨m,rfl⟩:=Int.eq_ofNat_of_zero_le h0
 exact this ⟨m,by omega⟩
theorem size_extract_le(s:ByteArray)(a b:Nat):(s.extract a b).size<=s.size:=by
 rw[<-aP,jB,<-aP];simp;omega
theorem G8{a:H}{m:List Int}(hm6:m.length=6)(hb:∀x∈m,0<=x/\x<256)(n:Nat)(OI:1<=n):∀(ts pre:List Int) (k:Nat) (h:H) (p:Option (Nat×Nat)) (c:aM),m=pre++ts->ts.length<k->Mod [] a h->Grow a h 1 p pre.length c ((pre.map hx2).map AV.str)->
  cg (qZ n k p pre.length c (vX m) pre.length h) λr h'=>Mod [] a h'/\r=.str (gI (m.map hx2) (mk [58]))
 | [],pre,k+1,h,p,c,hx,_,hm,g=>by
  have:pre.length=6:=by rw[<-hm6,hx];simp
  rw[xG,show decide (((pre.length:Nat):Int)<6)=false by simp;omega,br]
  obtain⟨n,rfl⟩:∃k,n=k+1:=⟨n - 1,by omega⟩
  rw[tL,pz]
  rw[List.append_nil]at hx
  subst hx
  change cg (Option.bind (Option.bind (Jh p m.length c (mk [58]) h) _) _) _
  have hlen:(Lib.join ((m.map hx2).map (·.data.toList)) (mk [58]).data.toList).length<=140737488355328:=by
   have h1:∀l:List Int,l.length<=6->((l.map hx2).map (·.data.toList)).flatten.length<=32*l.length:=by
    intro l
    induction l with
    | nil=>simp
    | cons x l ih=>
     intro hl
     have h2:(hx2 x).data.toList.length<=32:=by
      show(bs (hx2 x)).length<=32
      unfold hx2
      rw[PA,hU,aP,aP]
      have h3:=size_extract_le Ze (x / 16).toNat (x / 16+1).toNat
      have h4:=size_extract_le Ze (x % 16).toNat (x % 16+1).toNat
      have h5:Ze.size=16:=rfl
      omega
     have:=ih (by simp at hl;omega)
     simp only[List.map_cons,List.flatten_cons,hU,List.length_cons]
     omega
   have h2:∀l:List (List UInt8),(Lib.join l [58]).length<=l.flatten.length+l.length:=by
    intro l
    unfold Lib.join
    induction l with
    | nil=>simp
    | cons x l ih=>
     cases l with
     | nil=>simp
     | cons y l=>
      rw[List.intercalate_cons_cons]
      simp only[hU,List.flatten_cons,List.length_cons,List.length_nil]at ih ⊢
      omega
   have h3:=h1 m (by omega)
   have h4:=h2 ((m.map hx2).map (·.data.toList))
   have h5:(mk [58]).data.toList=[58]:=rfl
   rw[h5]
   simp only[List.length_map]at h4
   omega
  rw[Ji g.row (by simp;omega) hlen,fD,fD]
  simp only[az]
  exact .pure ⟨hm,rfl⟩
 | t::ts,pre,k+1,h,p,c,hx,hl,hm,g=>by
  have NR:pre.length<6:=by rw[<-hm6,hx];simp
  have ht:=hb t (by rw[hx];simp)
  have hn:=ahm ht.1 ht.2
  rw[xG,show decide (((pre.length:Nat):Int)<6)=true by simp;omega,bM,if_pos ⟨by omega,by omega⟩,Nat.zero_add,aj2 (v:=.int .u8 t) (by rw[List.getElem?_map,hx];simp),aj,hn.1,hn.2]
  rw[wrap_u8 (x:=t / 16+1) (by omega) (by omega),wrap_u8 (x:=t % 16+1) (by omega) (by omega)]
  rw[BK (s:=Ze) (by omega) (by omega) (by show t / 16+1<=16;omega),BK (s:=Ze) (by omega) (by omega) (by show t % 16+1<=16;omega)]
  have Wh:∀f:ByteArray->R,VE (Ze.extract (t / 16).toNat (t / 16+1).toNat) (Ze.extract (t % 16).toNat (t % 16+1).toNat) f=f (hx2 t):=λf=>by
   unfold VE
   have h3:=size_extract_le Ze (t / 16).toNat (t / 16+1).toNat
   have h4:=size_extract_le Ze (t % 16).toNat (t % 16+1).toNat
   have h5:Ze.size=16:=rfl
   rw[if_neg (by omega)]
   rfl
  rw[Wh]
  simp only[aL]
  refine g.push hm.next rfl rfl (by decide) (by omega) (by omega) λp' c' h' g' m'=>?_
  rw[aG (by omega),show pre.length+1=(pre++[t]).length by simp]
  refine G8 hm6 hb n OI ts (pre++[t]) k h' p' c' (by rw[hx];simp) (by simp at hl;omega) (hm.push g m') (by simpa using g')
theorem QA{m:List Int}(hm6:m.length=6)(hb:∀x∈m,0<=x/\x<256){n:Nat}(hn:11<=n)(h:H):cg (ca n kf [.agg (vX m)] h) λr h'=>Mod [] h h'/\r=.str (gI (m.map hx2) (mk [58])):=by
 obtain⟨n,rfl⟩:∃m,n=m+1:=⟨n - 1,by omega⟩
 rw[JN]
 simp only[aL]
 have m0:Mod [] h (h.new (.cells (vX m) false)):=(Mod.refl _ _).new _
 rw[jF (n:=6) (aY _ _) (by simpa using hm6)]
 exact(G8 hm6 hb n (by omega) m [] n _ none (.known 0) rfl (by omega) (.refl _ _) .nil).mono λr h' ⟨q1,q2⟩=>⟨m0.trans q1,q2⟩
abbrev Wd:=ByteArray×Int×Int
def HJ(w:Wd):List AV:=[.str w.1,.int .i64 w.2.1,.int .i64 w.2.2]
theorem BY:∀x,(HJ x).length=3:=λ_=>rfl
structure Rd where
 l:List Wd
 line:Int
 from':Int
 vF:Bool
 note:Bool
structure uR(a h:H)(b:Nat)(s:ByteArray)(st:Rd):Prop where
 lb:b<a.next
 m:Mod [b] a h
 obj:∃p n c,h.get b=some (.cells [.str s,.slice p n c,.int .i64 st.line,.int .i64 st.from',.bool st.vF,.bool st.note] false)/\Grow a h 3 p n c (st.l.flatMap HJ)
def cut(s:ByteArray)(x y:Int):ByteArray:=mk (((bs s).drop x.toNat).take (y.toNat - x.toNat))
def gr(s:ByteArray)(st:Rd)(k:Int):Rd×Bool:=
 if st.from'<0 then(st,true)else({st with l:=st.l++[(cut s st.from' k,st.from',st.line)],vF:=true,from' := -1},decide ((cut s st.from' k).size<=60))
def D0(st:Rd)(k:Int):Rd:={st with l:=if st.vF=true then st.l++[(mk [10],k,st.line)]else st.l,vF:=false,note:=false,line:=st.line+1}
def ir(s:ByteArray)(st:Rd)(c:Int)(k:Int):Rd×Bool:=
 if c=10 then(D0 (gr s st k).1 k,(gr s st k).2)
 else if st.note=true then(st,true)
 else if c=35 then({(gr s st k).1 with note:=true},(gr s st k).2)
 else if c=32∨c=9∨c=13 then gr s st k
 else if c=123∨c=125 then((gr s {(gr s st k).1 with from':=k} (k+1)).1,(gr s st k).2)
 else if st.from'<0 then({st with from':=k},true)
 else(st,true)
def H7(c:Int):Bool:=decide (c=9)||decide (c=10)||decide (c=13)||(decide (32<=c)&&decide (c<=126))
theorem TL{s:ByteArray}{x y:Int}:s.extract x.toNat y.toNat=cut s x y:=oI (by rw[jB];unfold cut;rw[ko])
theorem Qi{a h:H}{b:Nat}{s:ByteArray}{line from':Int}{vF note:Bool}{p:Option (Nat×Nat)}{nn:Nat}{c:aM}{l:List Wd}(lb:b<a.next)(m:Mod [b] a h)(hg:h.get b=some (.cells [.str s,.slice p nn c,.int .i64 line,.int .i64 from',.bool vF,.bool note] false))(g:Grow a h 3 p nn c (l.flatMap HJ))(hl:l.length<1000000000)(w:Wd)
  {α:Type} {f:Option (Nat×Nat)->Nat->aM->H->Option (α×H)} {Q:α->H->Prop}
  (k:∀p' n' c' h',Mod [b] a h'->Mod (own p) h h'->h'.get b=some (.cells [.str s,.slice p nn c,.int .i64 line,.int .i64 from',.bool vF,.bool note] false)->Grow a h' 3 p' n' c' ((l++[w]).flatMap HJ)->cg (f p' n' c' h') Q):
  cg (fS 3 32 p nn c (di 3 (.slice (some (h.next,0)) 1 (.known 1)) (h.new (.cells (HJ w) false))) (h.new (.cells (HJ w) false)) f) Q:=by
 have hlen:=g.row.len BY (by decide)
 refine g.push m.next rfl rfl (by decide) (by omega) (by omega) λp' c' h' g' m'=>?_
 refine k p' _ c' h' (m.push g m') m' ((m'.get _ (m.lt lb) λhi=>?_).trans hg) (by rw[List.flatMap_append];simpa using g')
 have:=(g.iy b hi).1;omega
theorem Q0{a h:H}{b:Nat}{s:ByteArray}{st:Rd}(r:uR a h b s st){k:Int}(h1 : -1<=st.from')(h2:st.from'<=k)(h3:k<=s.size)(h4:st.l.length<1000000000)(n:Nat):
  cg (ca (n+1) eg [.ptr (some (b,0)),.int .i64 k] h) λx h'=>x=.bool (gr s st k).2/\uR a h' b s (gr s st k).1:=by
 obtain⟨lb,hm,p,nn,c,hg,g⟩:=r
 rw[G5]
 simp only[ai,Nat.zero_add]
 rw[cW hg (o:=3) rfl,aj]
 unfold gr
 by_cases h0:st.from'<0
 ·rw[decide_eq_true h0,bM,if_pos h0]
  exact .pure ⟨rfl,lb,hm,p,nn,c,hg,g⟩
 ·rw[decide_eq_false h0,br,if_neg h0,cW hg (o:=0) rfl,az,cW hg (o:=3) rfl,aj,BK (by omega) h2 h3,cW hg (o:=3) rfl,aj,cW hg (o:=2) rfl,aj,TL,aL,mZ (n:=3) rfl rfl rfl]
  have m1:Mod [] h (h.new (.cells [.str (cut s st.from' k),.int .i64 st.from',.int .i64 st.line] false)):=(Mod.refl _ _).new _
  have gx:(h.new (.cells [.str (cut s st.from' k),.int .i64 st.from',.int .i64 st.line] false)).get h.next=some (.cells [.str (cut s st.from' k),.int .i64 st.from',.int .i64 st.line] false):=aY _ _
  have lx:h.next<(h.new (.cells [.str (cut s st.from' k),.int .i64 st.from',.int .i64 st.line] false)).next:=by simp
  have Vb:=hm.lt lb
  have hg1:=(m1.get _ Vb (by simp)).trans hg
  have g1:=g.ak m1
  have hm1:Mod [b] a _:=hm.trans m1.of_nil
  have hno:h.next∉own p:=λhi=>by have:=(g.iy _ hi).2;omega
  generalize h.new (.cells [.str (cut s st.from' k),.int .i64 st.from',.int .i64 st.line] false)=h5 at *
  rw[cW hg1 (o:=1) rfl,ah,jF (n:=3) gx rfl]
  simp only[dx,cu,aE,aL]
  refine Qi lb hm1 hg1 g1 h4 (cut s st.from' k,st.from',st.line) λp' n' c' h' hm' m' hg' g'=>?_
  have gx':=(m'.get _ lx hno).trans gx
  have hb':b∉own p':=λhi=>by have:=(g'.iy b hi).1;omega
  rw[pH hg' (by simp) rfl,pH (aW _ _ _) (by simp) rfl,pH (aW _ _ _) (by simp) rfl]
  simp only[List.set_cons_succ,List.set_cons_zero,set_set]
  rw[cW ((ng (by omega)).trans gx') (o:=0) rfl,az]
  have m2:Mod [b] h' (h'.set b (.cells [.str s,.slice p' n' c',.int .i64 st.line,.int .i64 (-1),.bool true,.bool st.note] false)):=(Mod.refl _ _).set (.inr (by simp)) _
  refine .pure ⟨?_,lb,hm'.trans m2,p',n',c',aW _ _ _,g'.mod m2 λi hi=>by simp;exact λe=>hb' (e▸hi)⟩
  congr 1
  rw[decide_eq_decide]
  omega
theorem UM{a h:H}{b:Nat}{s:ByteArray}{st:Rd}(r:uR a h b s st){k:Int}(h4:st.l.length<1000000000)(h5:0<=st.line)(h6:st.line<1000000000)(n:Nat):
  cg (ca (n+1) nA [.ptr (some (b,0)),.int .i64 k] h) λr h'=>r=.dJ []/\uR a h' b s (D0 st k):=by
 obtain⟨lb,hm,p,nn,c,hg,g⟩:=r
 have fin:∀(h':H) (p':Option (Nat×Nat)) (n':Nat) (c':aM) (l:List Wd) (sm:Bool),Mod [b] a h'->h'.get b=some (.cells [.str s,.slice p' n' c',.int .i64 st.line,.int .i64 st.from',.bool sm,.bool st.note] false)->Grow a h' 3 p' n' c' (l.flatMap HJ)->
   cg (mX n (some (b,0)) h') λr h'=>r=.dJ []/\uR a h' b s {st with l:=l,vF:=false,note:=false,line:=st.line+1}:=by
  intro h' p' n' c' l sm hm' hg' g'
  have hb':b∉own p':=λhi=>by have:=(g'.iy b hi).1;omega
  rw[Cu]
  simp only[ai,Nat.zero_add]
  rw[pH hg' (by simp) rfl,pH (aW _ _ _) (by simp) rfl]
  simp only[List.set_cons_succ,List.set_cons_zero,set_set]
  rw[cW (aW _ _ _) (o:=2) rfl,aj,pH (aW _ _ _) (by simp) rfl,wrap_i64 (by omega) (by omega)]
  simp only[List.set_cons_succ,List.set_cons_zero,set_set]
  have m2:Mod [b] h' (h'.set b (.cells [.str s,.slice p' n' c',.int .i64 (st.line+1),.int .i64 st.from',.bool false,.bool false] false)):=(Mod.refl _ _).set (.inr (by simp)) _
  exact .pure ⟨rfl,lb,hm'.trans m2,p',n',c',aW _ _ _,g'.mod m2 λi hi=>by simp;exact λe=>hb' (e▸hi)⟩
 rw[FW]
 simp only[ai,Nat.zero_add]
 rw[cW hg (o:=4) rfl,aq]
 unfold D0
 cases hs:st.vF with
 | false=>
  rw[br]
  rw[hs]at hg
  simpa using fin h p nn c st.l false hm hg g
 | true=>
  rw[bM,cW hg (o:=1) rfl,ah,cW hg (o:=2) rfl,aj,aL]
  refine Qi lb hm hg g h4 (mk [10],k,st.line) λp' n' c' h' hm' m' hg' g'=>?_
  have hb':b∉own p':=λhi=>by have:=(g'.iy b hi).1;omega
  rw[pH hg' (by simp) rfl]
  simp only[List.set_cons_succ,List.set_cons_zero]
  have m2:Mod [b] h' (h'.set b (.cells [.str s,.slice p' n' c',.int .i64 st.line,.int .i64 st.from',.bool st.vF,.bool st.note] false)):=(Mod.refl _ _).set (.inr (by simp)) _
  simpa using fin _ p' n' c' (st.l++[(mk [10],k,st.line)]) st.vF (hm'.trans m2) (aW _ _ _) (g'.mod m2 λi hi=>by simp;exact λe=>hb' (e▸hi))
theorem uR.from{a h:H}{b:Nat}{s:ByteArray}{st:Rd}(r:uR a h b s st)(k:Int){β:Type}(f:H->Option β):
  ∃h',bK h b 3 1 [.int .i64 k] f=f h'/\uR a h' b s {st with from':=k}:=by
 obtain⟨lb,hm,p,nn,c,hg,g⟩:=r
 refine⟨_,pH hg (by simp) rfl f,?_⟩
 simp only[List.set_cons_succ,List.set_cons_zero]
 have hb':b∉own p:=λhi=>by have:=(g.iy b hi).1;omega
 have m2:Mod [b] h (h.set b (.cells [.str s,.slice p nn c,.int .i64 st.line,.int .i64 k,.bool st.vF,.bool st.note] false)):=(Mod.refl _ _).set (.inr (by simp)) _
 exact⟨lb,hm.trans m2,p,nn,c,aW _ _ _,g.mod m2 λi hi=>by simp;exact λe=>hb' (e▸hi)⟩
theorem uR.aid{a h:H}{b:Nat}{s:ByteArray}{st:Rd}(r:uR a h b s st)(k:Bool){β:Type}(f:H->Option β):
  ∃h',bK h b 5 1 [.bool k] f=f h'/\uR a h' b s {st with note:=k}:=by
 obtain⟨lb,hm,p,nn,c,hg,g⟩:=r
 refine⟨_,pH hg (by simp) rfl f,?_⟩
 simp only[List.set_cons_succ,List.set_cons_zero]
 have hb':b∉own p:=λhi=>by have:=(g.iy b hi).1;omega
 have m2:Mod [b] h (h.set b (.cells [.str s,.slice p nn c,.int .i64 st.line,.int .i64 st.from',.bool st.vF,.bool k] false)):=(Mod.refl _ _).set (.inr (by simp)) _
 exact⟨lb,hm.trans m2,p,nn,c,aW _ _ _,g.mod m2 λi hi=>by simp;exact λe=>hb' (e▸hi)⟩
theorem QS{α:Type}{b:Bool}(h:b=true)(x y:α):cond b x y=x:=by rw[h];rfl
theorem OU{α:Type}{b:Bool}(h:b=false)(x y:α):cond b x y=y:=by rw[h];rfl
theorem E8(s:ByteArray)(st:Rd)(k:Int):(gr s st k).1.l.length<=st.l.length+1/\(gr s st k).1.line=st.line:=by
 unfold gr;split<;>simp
theorem PG(s:ByteArray)(st:Rd)(k:Int):(gr s st k).1.from'=st.from'∨(gr s st k).1.from' = -1:=by
 unfold gr;split<;>simp
theorem ae5{a h:H}{b:Nat}{s:ByteArray}{st:Rd}(r:uR a h b s st){k:Int}(h1 : -1<=st.from')(h2:st.from'<=k)(h0:0<=k)(h3:k+1<=s.size)(h4:st.l.length<900000000)(h5:0<=st.line)(h6:st.line<100000000)(hs:s.size<100000000)(c:Int)(n:Nat):
  cg (ca (n+2) sY [.ptr (some (b,0)),.int .u8 c,.int .i64 k] h) λx h'=>x=.bool (ir s st c k).2/\uR a h' b s (ir s st c k).1:=by
 have hl:=E8 s st k
 have e1:=Q0 r h1 h2 (by omega) (by omega) n
 rw[FX]
 unfold ir
 by_cases D7:c=10
 ·rw[show(c==10)=true by simpa using D7,bM,if_pos D7]
  refine e1.bind ?_
  rintro _ Rc ⟨rfl,r1⟩
  simp only[aq]
  refine(UM r1 (k:=k) (by omega) (by omega) (by omega) n).bind ?_
  rintro _ h2' ⟨rfl,r2⟩
  simp only[ay,aE]
  exact .pure ⟨rfl,r2⟩
 rw[show(c==10)=false by simpa using D7,br,if_neg D7]
 obtain⟨lb,hm,p,nn,cc,hg,g⟩:=r
 have r:uR a h b s st:=⟨lb,hm,p,nn,cc,hg,g⟩
 simp only[ai,Nat.zero_add]
 rw[cW hg (o:=5) rfl,aq]
 by_cases Yz:st.note=true
 ·rw[QS Yz,if_pos Yz]
  exact .pure ⟨rfl,r⟩
 ·rw[OU (by simpa using Yz),if_neg Yz]
  by_cases c35:c=35
  ·rw[show(c==35)=true by simpa using c35,bM,if_pos c35]
   refine e1.bind ?_
   rintro _ Rc ⟨rfl,r1⟩
   obtain⟨h2',e,r2⟩:=r1.aid true (λh10=>(some (.bool (gr s st k).2,h10):R))
   simp only[aq]
   rw[e]
   exact .pure ⟨rfl,r2⟩
  rw[show(c==35)=false by simpa using c35,br,if_neg c35]
  have j0t:cg (jq (n+1) (some (b,0)) c k true true h) λx h'=>x=.bool (gr s st k).2/\uR a h' b s (gr s st k).1:=by
   rw[uM,bM]
   refine e1.bind ?_
   rintro _ Rc ⟨rfl,r1⟩
   simp only[aq]
   exact .pure ⟨rfl,r1⟩
  by_cases c32:c=32
  ·rw[show(c==32)=true by simpa using c32,bM,if_pos (.inl c32)]
   exact j0t
  rw[show(c==32)=false by simpa using c32,br]
  by_cases c9:c=9
  ·rw[show(c==9)=true by simpa using c9,bM,if_pos (.inr (.inl c9))]
   exact j0t
  rw[show(c==9)=false by simpa using c9,br]
  by_cases c13:c=13
  ·rw[show(c==13)=true by simpa using c13,if_pos (.inr (.inr c13))]
   exact j0t
  rw[show(c==13)=false by simpa using c13,if_neg (by simp[c32,c9,c13]),uM,br]
  have j1t:cg (mY (n+1) (some (b,0)) k true true h) λx h'=>x=.bool (gr s st k).2/\uR a h' b s (gr s {(gr s st k).1 with from':=k} (k+1)).1:=by
   rw[uN,bM]
   refine e1.bind ?_
   rintro _ Rc ⟨rfl,r1⟩
   simp only[ai,Nat.zero_add,aq]
   obtain⟨h2',e,r2⟩:=r1.from k (λNM=>((ca (n+1) eg [.ptr (some (b,0)),.int .i64 (IntKind.i64.wrap (k+1))] NM).bind λq=>asBool q.1 λPo=>some (.bool (gr s st k).2,q.2):R))
   rw[e,wrap_i64 (by omega) (by omega)]
   refine(Q0 r2 (k:=k+1) (by first | omega | (simp only;omega)) (by first | omega | (simp only;omega)) h3 (by first | omega | (simp only;omega)) n).bind ?_
   rintro _ h3' ⟨rfl,r3⟩
   simp only[aq]
   exact .pure ⟨rfl,r3⟩
  by_cases ZJ:c=123
  ·rw[show(c==123)=true by simpa using ZJ,bM,if_pos (.inl ZJ)]
   exact j1t
  rw[show(c==123)=false by simpa using ZJ,br]
  by_cases ZK:c=125
  ·rw[show(c==125)=true by simpa using ZK,if_pos (.inr ZK)]
   exact j1t
  rw[show(c==125)=false by simpa using ZK,if_neg (by simp[ZJ,ZK]),uN,br]
  simp only[ai,Nat.zero_add]
  rw[cW hg (o:=3) rfl,aj]
  by_cases hf:st.from'<0
  ·rw[decide_eq_true hf,bM,if_pos hf]
   obtain⟨h2',e,r2⟩:=r.from k (λh23=>(some (.bool true,h23):R))
   rw[e]
   exact .pure ⟨rfl,r2⟩
  ·rw[decide_eq_false hf,br,if_neg hf]
   exact .pure ⟨rfl,r⟩
def eU(s:ByteArray)(st:Rd)(k:Int):List UInt8->(List Wd) ⊕ Int
 | []=>if(gr s st k).2=true then .inl (D0 (gr s st k).1 k).l else .inr st.from'
 | c::l=>if 0<=st.from'/\60<k - st.from' then .inr st.from'
  else if H7 c.toNat=true then(if(ir s st c.toNat k).2=true then eU s (ir s st c.toNat k).1 (k+1) l else .inr st.from')else .inr k
def rd0:Rd:=⟨[],1,-1,false,false⟩
def HE(s:ByteArray):(List Wd) ⊕ Int:=eU s rd0 0 (bs s)
theorem amT(n:Nat)(c:Int)(h:H):ca (n+1) Fq [.int .u8 c] h=some (.bool (H7 c),h):=by
 rw[Sa]
 unfold H7
 by_cases c9:c=9
 ·simp[c9]
 by_cases D7:c=10
 ·simp[D7]
 by_cases c13:c=13
 ·simp[c13]
 rw[show(c==9)=false by simpa using c9,show(c==10)=false by simpa using D7,show(c==13)=false by simpa using c13,br,br,br,decide_eq_false c9,decide_eq_false D7,decide_eq_false c13]
 by_cases h32:32<=c
 ·rw[decide_eq_true (show c>=32 from h32),bM];rfl
 ·rw[decide_eq_false (show ¬c>=32 from h32),br];rfl
def Iv(a h':H)(r:AV):(List Wd) ⊕ Int->Prop
 | .inl l=>∃p c,r=.dJ [.slice p l.length c,.int .i64 0,.int .i64 0]/\Grow a h' 3 p l.length c (l.flatMap HJ)
 | .inr k=>r=.dJ [.slice none 0 (.known 0),.int .i64 k,.int .i64 170]
structure abS(st:Rd)(k:Int):Prop where
 f0 : -1<=st.from'
 fk:st.from'<=k
 len:(st.l.length:Int)<=4*k
 line:0<=st.line
 aDI:st.line<=k+1
theorem agA{s:ByteArray}{st:Rd}{k:Int}(h:abS st k)(j:Int): -1<=(gr s st j).1.from'/\(gr s st j).1.from'<=k:=by
 have:=h.f0;have:=h.fk
 rcases PG s st j with e | e<;>rw[e]<;>omega
theorem US{s:ByteArray}{st:Rd}{k:Int}(h0:0<=k)(h:abS st k)(c:Int):abS (ir s st c k).1 (k+1):=by
 obtain⟨f0,fk,hl,l1,l2⟩:=h
 have he:=E8 s st k
 have hf:=agA (s:=s) ⟨f0,fk,hl,l1,l2⟩ k
 have he2:=E8 s {(gr s st k).1 with from':=k} (k+1)
 have O9:=PG s {(gr s st k).1 with from':=k} (k+1)
 simp only at he2 O9
 unfold ir
 split
 ·unfold D0
  refine⟨hf.1,by first | omega | (simp only;omega),?_,by first | omega | (simp only;omega),by first | omega | (simp only;omega)⟩
  simp only
  split
  ·simp;omega
  ·omega
 split
 ·exact⟨f0,by first | omega | (simp only;omega),by first | omega | (simp only;omega),l1,by first | omega | (simp only;omega)⟩
 split
 ·exact⟨hf.1,by first | omega | (simp only;omega),by first | omega | (simp only;omega),by first | omega | (simp only;omega),by first | omega | (simp only;omega)⟩
 split
 ·exact⟨hf.1,by first | omega | (simp only;omega),by first | omega | (simp only;omega),by first | omega | (simp only;omega),by first | omega | (simp only;omega)⟩
 split
 ·refine⟨?_,?_,by first | omega | (simp only;omega),by first | omega | (simp only;omega),by first | omega | (simp only;omega)⟩
  ·rcases O9 with e | e<;>simp only[e]<;>omega
  ·rcases O9 with e | e<;>simp only[e]<;>omega
 split
 ·exact⟨by first | omega | (simp only;omega),by first | omega | (simp only;omega),by first | omega | (simp only;omega),l1,by first | omega | (simp only;omega)⟩
 ·exact⟨f0,by first | omega | (simp only;omega),by first | omega | (simp only;omega),l1,by first | omega | (simp only;omega)⟩
theorem Sp{a:H}{b:Nat}{s:ByteArray}(hs:s.size<20000000)(n:Nat):∀(l:List UInt8) (k m:Nat) (h:H) (st:Rd),(bs s).drop k=l->k+l.length=s.size->l.length+1<m->uR a h b s st->abS st k->
  cg (vJ (n+2) m s (some (b,0)) ((s.size+1:Nat):Int) k h) λr h'=>Mod [b] a h'/\Iv a h' r (eU s st k l)
 | [],k,m+1+1,h,st,hd,hk,_,r,ok=>by
  obtain⟨f0,fk,hl,l1,l2⟩:=ok
  simp only[List.length_nil,Nat.add_zero]at hk
  obtain⟨lb,hm,p,nn,cc,hg,g⟩:=r
  have r:uR a h b s st:=⟨lb,hm,p,nn,cc,hg,g⟩
  rw[yg,cL (by omega),bM]
  simp only[ai,Nat.zero_add]
  rw[cW hg (o:=3) rfl,aj,show(((k:Nat):Int)==(s.size:Nat))=true by simp;omega,bM]
  refine(Q0 r f0 fk (by omega) (by omega) (n+1)).bind ?_
  rintro _ h1 ⟨rfl,r1⟩
  simp only[aq]
  unfold eU
  cases hok:(gr s st k).2 with
  | false=>
   rw[Bool.not_false,bM]
   exact .pure ⟨r1.m,rfl⟩
  | true=>
   rw[Bool.not_true,br]
   have he:=E8 s st k
   refine(UM r1 (k:=k) (by omega) (by omega) (by omega) (n+1)).bind ?_
   rintro _ h2 ⟨rfl,r2⟩
   simp only[ay,aE]
   obtain⟨lb2,hm2,p2,n2,c2,Rj,g2⟩:=r2
   rw[aG (by omega),yg,aT (by omega),br]
   simp only[ai,Nat.zero_add]
   rw[cW Rj (o:=1) rfl,ah]
   have hlen:=g2.row.len BY (by decide)
   obtain rfl:=hlen
   exact .pure ⟨hm2,p2,c2,rfl,g2⟩
 | c::l,k,m+1,h,st,hd,hk,hlm,r,ok=>by
  obtain⟨f0,fk,hl,l1,l2⟩:=ok
  simp only[List.length_cons]at hk hlm
  have hx:(bs s)[k]?=some c:=by have:=congrArg (·[0]?) hd;simpa using this
  have hd':(bs s).drop (k+1)=l:=by rw[<-List.drop_drop,hd];rfl
  obtain⟨lb,hm,p,nn,cc,hg,g⟩:=r
  have r:uR a h b s st:=⟨lb,hm,p,nn,cc,hg,g⟩
  rw[yg,cL (by omega),bM]
  simp only[ai,Nat.zero_add]
  rw[cW hg (o:=3) rfl,aj,show(((k:Nat):Int)==(s.size:Nat))=false by simp;omega,br]
  have j1:∀d:Bool,d=decide (0<=st.from'/\60<(k:Int) - st.from')->cg (yU (n+2) m s (some (b,0)) k st.from' ((s.size+1:Nat):Int) k d h) λr h'=>Mod [b] a h'/\Iv a h' r (eU s st k (c::l)):=by
   intro d hd0
   rw[L3]
   unfold eU
   by_cases hc:0<=st.from'/\60<(k:Int) - st.from'
   ·rw[hd0,decide_eq_true hc,bM,if_pos hc]
    exact .pure ⟨hm,rfl⟩
   ·rw[hd0,decide_eq_false hc,br,if_neg hc,cC hx,amT,fD]
    simp only[aq]
    cases hmay:H7 c.toNat with
    | false=>
     rw[Bool.not_false,bM]
     exact .pure ⟨hm,rfl⟩
    | true=>
     rw[Bool.not_true,br,cC hx]
     refine(ae5 r f0 fk (by omega) (by omega) (by omega) l1 (by omega) (by omega) c.toNat n).bind ?_
     rintro _ h1 ⟨rfl,r1⟩
     simp only[aq]
     cases htk:(ir s st c.toNat k).2 with
     | false=>
      rw[Bool.not_false,bM]
      exact .pure ⟨r1.m,rfl⟩
     | true=>
      rw[Bool.not_true,br,aG (by omega)]
      have:=Sp hs n l (k+1) m h1 _ hd' (by omega) (by omega) r1 (US (by omega) ⟨f0,fk,hl,l1,l2⟩ c.toNat)
      simpa using this
  by_cases hf:st.from'>=0
  ·rw[decide_eq_true hf,bM]
   refine j1 _ ?_
   rw[wrap_i64 (by omega) (by omega),decide_eq_decide]
   exact⟨λh=>⟨hf,h⟩,λh=>h.2⟩
  ·rw[decide_eq_false hf,br]
   refine j1 _ ?_
   rw[eq_comm,decide_eq_false_iff_not]
   exact λh=>hf h.1
theorem afV{s:ByteArray}(hs:s.size<20000000){n:Nat}(hn:s.size+11<=n)(h:H):cg (ca n Fp [.str s] h) λr h'=>Mod [] h h'/\Iv h h' r (HE s):=by
 obtain⟨n,rfl⟩:∃m,n=m+2+1:=⟨n - 3,by omega⟩
 rw[R8]
 simp only[aL]
 rw[aG (by omega)]
 have m1:Mod [] h (h.new (.cells [.str s,.slice none 0 (.known 0),.int .i64 1,.int .i64 (-1),.bool false,.bool false] false)):=(Mod.refl _ _).new _
 refine(Sp (a:=h.new (.cells [.str s,.slice none 0 (.known 0),.int .i64 1,.int .i64 (-1),.bool false,.bool false] false)) (b:=h.next) hs n (bs s) 0 (n+2) _ rd0 rfl (by rw[aP];omega) (by rw[aP];omega) ⟨by simp,.refl _ _,none,0,.known 0,aY _ _,.nil⟩ ⟨by decide,by decide,by decide,by decide,by decide⟩).mono λr h' ⟨q1,q2⟩=>⟨m1.trans' q1 λi hi hl=>by simp at hi;omega,?_⟩
 change Iv h h' r (eU s rd0 ((0:Nat):Int) (bs s))
 cases hall:eU s rd0 ((0:Nat):Int) (bs s)with
 | inl l=>rw[hall]at q2;obtain⟨p,c,e,q2⟩:=q2;exact⟨p,c,e,q2.base m1.next⟩
 | inr k=>rw[hall]at q2;exact q2
def PD(d:Nat):UInt8:=(bs Ze).getD d 0
def dg(b:Nat):Nat->Nat->List UInt8
 | 0,_=>[]
 | k+1,u=>if u<b then[PD u]else dg b k (u / b)++[PD (u % b)]
theorem Nn(b:Nat):∀(k u:Nat),(dg b k u).length<=k
 | 0,_=>by simp[dg]
 | k+1,u=>by
  unfold dg
  split
  ·simp
  ·have:=Nn b k (u / b);simp;omega
abbrev b8(l:List UInt8):List AV:=l.map λc=>.int .u8 c.toNat
theorem aqH{d:Nat}(h:d<16):(bs DK)[d]?=some (PD d):=by
 have:∀k:Fin 16,(bs DK)[k.val]?=some (PD k.val):=by decide +kernel
 exact this ⟨d,h⟩
theorem ae1(l:List UInt8):strOfNums (l.map λc=>(c.toNat:Int))=mk l:=by
 refine oI ?_
 rw[ko]
 unfold bs strOfNums
 simp[Function.comp_def]
theorem aci{i:Nat}(l:List UInt8)(c:UInt8)(hi:0<i):(List.replicate i (AV.int .u8 0)++b8 l).set (i - 1) (.int .u8 c.toNat)=List.replicate (i - 1) (AV.int .u8 0)++b8 (c::l):=by
 obtain⟨j,rfl⟩:∃j,i=j+1:=⟨i - 1,by omega⟩
 simp only[Nat.add_sub_cancel]
 rw[List.set_append_left _ _ (by simp),List.replicate_succ',List.set_append_right _ _ (by simp)]
 simp[b8]
theorem akR{n b i:Nat}{l:List UInt8}{h:H}(hi:i+l.length=65)(hl:0<l.length)(hb:b<h.next)(hg:h.get b=some (.cells (List.replicate i (AV.int .u8 0)++b8 l) false)):
  qB n none 0 (.known 0) false false none 0 (.known 0) ⟨#[]⟩ (some (b,0)) i h=some (.dJ [.slice none 0 (.known 0),.str (mk l)],h):=by
 rw[BA,br,BB,br]
 simp only[ai,Nat.zero_add,Nat.mul_one]
 have e1:∀f:Nat->Nat->Nat->R,xM 65 65 0 (some (.int .i64 (i:Nat))) none none f=f i 65 65:=λf=>by
  have:(i:Int)<=65:=by omega
  simp[xM,eo,kI,this,show i<=65 by omega]
 rw[e1,if_neg (by omega)]
 have row:Row h 1 (some (b,i)) (65 - i) (.known (65 - i)) ((l.map λc=>(c.toNat:Int)).map (.int .u8)):=by
  refine .row hb hg ?_ (by simp;omega) (.inr ⟨_,rfl,cF _⟩)
  rw[List.drop_append_of_le_length (by simp)]
  simp only[List.drop_replicate,Nat.sub_self,List.replicate_zero,List.nil_append]
  rw[List.take_of_length_le (by simp;omega)]
  simp[b8,Function.comp_def]
 rw[MZ row.sl,ae1]
theorem aAT{u:Nat}(h:u<65536):B7 .u64 (u:Nat) 4=((u / 16:Nat):Int):=by
 unfold B7
 rw[show(min (4:Int).toNat IntKind.u64.bits)=4 from rfl]
 rw[show((2:Int) ^ 4)=((16:Nat):Int)from rfl,Int.fdiv_eq_ediv_of_nonneg _ (by omega)]
 rfl
theorem aqe{u:Nat}(h:u<65536):Rm .u64 (u:Nat) 15=((u % 16:Nat):Int):=by
 unfold Rm
 have e:(BitVec.ofInt IntKind.u64.bits (u:Nat) &&& BitVec.ofInt IntKind.u64.bits 15).toNat=u % 16:=by
  rw[BitVec.toNat_and]
  rw[show(BitVec.ofInt IntKind.u64.bits (u:Nat)).toNat=u by simp[IntKind.bits];omega,show(BitVec.ofInt IntKind.u64.bits 15).toNat=2 ^ 4 - 1 from rfl,Nat.and_two_pow_sub_one_eq_mod]
 rw[e]
 exact wrap_u64 (by omega) (by omega)
theorem Yd{b n:Nat}:∀(k u i m:Nat) (l:List UInt8) (h:H),0<k->u<16 ^ k->u<65536->k<=i->i+l.length=65->k<m->b<h.next->h.get b=some (.cells (List.replicate i (AV.int .u8 0)++b8 l) false)->
  cg (kU n m none 0 (.known 0) u false false none 0 (.known 0) ⟨#[]⟩ (some (b,0)) i 4 16 15 h) λr h'=>Mod [b] h h'/\r=.dJ [.slice none 0 (.known 0),.str (mk (dg 16 k u++l))]
 | 0,_,_,_,_,_,h0,_,_,_,_,_,_,_=>by cases h0
 | k+1,u,i,m+1,l,h,_,hu,Pa,hki,hi,hm,hb,hg=>by
  rw[BC]
  have ei:IntKind.i64.wrap ((i:Nat) - 1:Int)=((i - 1:Nat):Int):=by rw[wrap_i64 (by omega) (by omega)];omega
  have hlen:i - 1<(List.replicate i (AV.int .u8 0)++b8 l).length:=by simp;omega
  unfold dg
  by_cases h1:u<16
  ·rw[show decide (((u:Nat):Int)>=16)=false by simp;omega,br,cC (aqH h1),if_pos h1]
   simp only[ai,Nat.zero_add]
   rw[ei,if_pos ⟨by omega,by omega⟩,show((i - 1:Nat):Int).toNat=i - 1 from rfl,pH hg hlen rfl,aci l _ (by omega)]
   rw[akR (i:=i - 1) (l:=PD u::l) (by simp;omega) (by simp) (by simpa using hb) (aW _ _ _)]
   exact .pure ⟨(Mod.refl _ _).set (.inr (by simp)) _,rfl⟩
  ·rw[show decide (((u:Nat):Int)>=16)=true by simp;omega,bM,aqe Pa,cC (aqH (Nat.mod_lt _ (by omega))),if_neg h1]
   simp only[ai,Nat.zero_add]
   rw[ei,if_pos ⟨by omega,by omega⟩,show((i - 1:Nat):Int).toNat=i - 1 from rfl,pH hg hlen rfl,aci l _ (by omega),if_neg (by omega),aAT Pa]
   have hlt:u / 16<16 ^ k:=by
    rw[Nat.div_lt_iff_lt_mul (by omega)];rw[Nat.pow_succ]at hu;exact hu
   have hk0:0<k:=by
    rcases Nat.eq_zero_or_pos k with e | e
    ·subst e
     simp at hlt;omega
    ·exact e
   have m1:Mod [b] h (h.set b (.cells (List.replicate (i - 1) (AV.int .u8 0)++b8 (PD (u % 16)::l)) false)):=(Mod.refl _ _).set (.inr (by simp)) _
   refine(Yd k (u / 16) (i - 1) m (PD (u % 16)::l) _ hk0 hlt (by omega) (by omega) (by simp;omega) (by omega) (by simpa using hb) (aW _ _ _)).mono λr h' ⟨q1,q2⟩=>⟨m1.trans q1,?_⟩
   rw[q2,List.append_assoc]
   rfl
def tzs:List Int:=[0,1,56,2,57,49,28,3,61,58,42,50,38,29,17,4,62,47,59,36,45,43,51,22,53,39,33,30,24,18,12,5,63,55,48,27,60,41,37,16,46,35,44,21,52,32,23,11,54,26,40,15,34,20,31,10,25,14,19,9,13,8,7,6]
def Xy:List AV:=tzs.map (.int .u8)
theorem adh{u:Nat}(hu:u<65536){n:Nat}(hn:20<=n){h:H}(h1n:1<h.next)(ht:h.get 1=some (.cells Xy true)):cg (ca n sW [.int .i64 u,.int .i64 16] h) λr h'=>Mod [] h h'/\r=.str (mk (dg 16 4 u)):=by
 obtain⟨n,rfl⟩:∃m,n=m+6:=⟨n - 6,by omega⟩
 rw[FQ,DN,show((16:Int)==10)=false by decide,br,EC]
 rw[show decide ((16:Int)<2)=false by decide,br,show((16:Int)==10)=false by decide,br,show decide ((16:Int)>36)=false by decide,Bx,br,By]
 rw[show decide (((u:Nat):Int)<0)=false by simp]
 simp only[aL,br]
 rw[Bz,Cq,show((Rm .i64 16 (IntKind.i64.wrap (16 - 1)):Int)==0)=true by decide +kernel]
 simp only[fD,aq,bM]
 rw[D5,show IntKind.u64.wrap 16=16 by decide,BJ]
 have m1:Mod [] h (h.new (.cells (List.replicate 65 (AV.int .u8 0)) false)):=(Mod.refl _ _).new _
 change cg (Option.bind (Option.bind (Option.bind (Option.bind (af (h.new (.cells (List.replicate 65 (AV.int .u8 0)) false)) 1 15 _) _) _) _) _) _
 rw[cW ((m1.get 1 h1n (by simp)).trans ht) (o:=15) rfl]
 simp only[aj,fD]
 rw[show IntKind.i64.wrap 4=4 by decide]
 rw[show IntKind.u64.wrap 4=4 by decide,show IntKind.u64.wrap (16 - 1)=15 by decide,show IntKind.u64.wrap ((u:Nat):Int)=(u:Nat)from wrap_u64 (by omega) (by omega)]
 have k:=Yd (n:=n+3) (b:=h.next) 4 u 65 (n+3) [] (h.new (.cells (List.replicate 65 (AV.int .u8 0)) false)) (by omega) (by omega) hu (by omega) rfl (by omega) (by simp) (by simpa[b8]using aY h _)
 refine cg.bind (P:=λr h'=>Mod [] h h'/\r=.str (mk (dg 16 4 u))) (k.bind ?_) ?_
 ·rintro _ h1 ⟨q1,rfl⟩
  simp only[ay,ux,dx,aE,List.append_nil]
  exact .pure ⟨m1.trans' q1 λi hi hl=>by simp at hi;omega,rfl⟩
 ·rintro _ h1 ⟨q1,rfl⟩
  simp only[az]
  exact .pure ⟨q1,rfl⟩
theorem join_le(c:UInt8)(l:List (List UInt8)):(Lib.join l [c]).length<=l.flatten.length+l.length:=by
 unfold Lib.join
 induction l with
 | nil=>simp
 | cons x l ih=>
  cases l with
  | nil=>simp
  | cons y l=>
   rw[List.intercalate_cons_cons]
   simp only[hU,List.flatten_cons,List.length_cons,List.length_nil]at ih ⊢
   omega
theorem Df{k:Nat}:∀{xs:List ByteArray},(∀x∈xs,x.size<=k)->(xs.map (·.data.toList)).flatten.length<=k*xs.length
 | [],_=>by simp
 | x::xs,h=>by
  have h1:=Df (k:=k) (xs:=xs) λy hy=>h y (by simp[hy])
  have h2:x.data.toList.length<=k:=by have:=h x (by simp);simpa using this
  simp only[List.map_cons,List.flatten_cons,hU,List.length_cons,Nat.mul_add]
  omega
theorem NX{c:UInt8}{xs:List ByteArray}(h:∀x∈xs,x.size<=100)(hl:xs.length<=1000):(Lib.join (xs.map (·.data.toList)) (mk [c]).data.toList).length<=140737488355328:=by
 have h1:=join_le c (xs.map (·.data.toList))
 have h2:=Df h
 simp only[List.length_map]at h1
 have:(mk [c]).data.toList=[c]:=rfl
 rw[this]
 omega
def dT(c:UInt8):ByteArray:=bX c.toNat
theorem X6(c:UInt8):dT c=mk (dg 10 3 c.toNat):=by
 have:∀k:Fin 256,Lib.itoa ((k.val:Nat):Int)=dg 10 3 k.val:=by decide +kernel
 refine oI ?_
 rw[ko]
 have:=this ⟨c.toNat,c.toNat_lt⟩
 simp only at this
 rw[<-this]
 rfl
theorem X7(c:UInt8):(dT c).size<=100:=by
 rw[X6,size_mk]
 have:=Nn 10 3 c.toNat
 omega
theorem afX{n:Nat}{h:H}(ht:h.get 0=some (.Xv wQ))(c:UInt8):ca (n+1) rM [.int .i64 (c.toNat:Nat)] h=some (.str (dT c),h):=by
 have:=c.toNat_lt
 rw[yd,uc,NW ht (by omega) (by omega),fD]
 rfl
theorem Sn{a:H}{n:Nat}(hn:2<=n){bl:List UInt8}{p:Option (Nat×Nat)}{c:aM}(row:Row a 1 p bl.length c (bl.map λx=>AV.int .u8 x.toNat))(alu:bl.length<=100)(ht:a.get 0=some (.Xv wQ))(h0:0<a.next):
  ∀(ts pre:List UInt8) (m:Nat) (h:H) (q:Option (Nat×Nat)) (d:aM),bl=pre++ts->ts.length<m->Mod [] a h->Grow a h 1 q pre.length d ((pre.map dT).map AV.str)->
   cg (mV n m q pre.length d p bl.length c bl.length pre.length h) λr h'=>Mod [] a h'/\r=.str (gI (bl.map dT) (mk [46]))
 | [],pre,m+1,h,q,d,hx,_,hm,g=>by
  obtain⟨n,rfl⟩:∃k,n=k+1:=⟨n - 1,by omega⟩
  rw[List.append_nil]at hx
  subst hx
  rw[uK,aT (by omega),br,tL,pz]
  change cg (Option.bind (Option.bind (Jh q bl.length d (mk [46]) h) _) _) _
  rw[Ji g.row (by simp;omega) (NX (λx hx=>by obtain⟨y,_,rfl⟩:=List.mem_map.1 hx;exact X7 y) (by simp;omega)),fD,fD]
  simp only[az]
  exact .pure ⟨hm,rfl⟩
 | t::ts,pre,m+1,h,q,d,hx,hl,hm,g=>by
  obtain⟨n,rfl⟩:∃k,n=k+1:=⟨n - 1,by omega⟩
  have NR:pre.length<bl.length:=by rw[hx];simp
  have htn:=t.toNat_lt
  rw[uK,cL NR,bM,(row.ak hm).Mh (x:=t) (by rw[hx];simp),aj,wrap_i64 (by omega) (by omega),afX ((hm.get 0 h0 (by simp)).trans ht),fD]
  simp only[az,aL]
  refine g.push hm.next rfl rfl (by decide) (by omega) (by omega) λq' d' h' g' m'=>?_
  rw[aG (by omega),show pre.length+1=(pre++[t]).length by simp]
  exact Sn hn row alu ht h0 ts (pre++[t]) m h' q' d' (by rw[hx];simp) (by simp at hl;omega) (hm.push g m') (by simpa using g')
theorem ayt{a b:Nat}(ha:a<256)(hb:b<256):ior .i64 (Pc .i64 (a:Int) 8) (b:Int)=((256*a+b:Nat):Int):=by
 have h1:Pc .i64 (a:Int) 8=((a*256:Nat):Int):=by
  unfold Pc
  rw[show min (8:Int).toNat IntKind.i64.bits=8 from rfl,wrap_i64 (by omega) (by omega)]
  omega
 rw[h1]
 have h4:(BitVec.ofInt 64 ((a*256:Nat):Int) ||| BitVec.ofInt 64 (b:Int)).toNat=a*256+b:=by
  rw[BitVec.toNat_or,BitVec.ofInt_natCast,BitVec.ofInt_natCast,BitVec.toNat_ofNat,BitVec.toNat_ofNat,Nat.mod_eq_of_lt (by omega),Nat.mod_eq_of_lt (by omega)]
  rw[Nat.mul_comm,show(256:Nat)=2 ^ 8 from rfl,<-Nat.two_pow_add_eq_or_of_lt (by omega)]
 show IntKind.i64.wrap ((BitVec.ofInt 64 ((a*256:Nat):Int) ||| BitVec.ofInt 64 (b:Int)).toNat:Nat)=_
 rw[h4,wrap_i64 (by omega) (by omega)]
 omega
def hT(u:Nat):ByteArray:=mk (dg 16 4 u)
theorem Yt(u:Nat):(hT u).size<=100:=by
 have:=Nn 16 4 u
 unfold hT;rw[size_mk];omega
def Ky:List UInt8->List Nat
 | x::y::l=>(256*x.toNat+y.toNat)::Ky l
 | _=>[]
theorem Pq{a:H}{n:Nat}(hn:22<=n)(h1a:1<a.next){s:ByteArray}(hs:s.size=16)(ht:a.get 1=some (.cells Xy true)):
  ∀(ts:List UInt8) (j m:Nat) (pre:List Nat) (h:H) (q:Option (Nat×Nat)) (d:aM),(bs s).drop (2*j)=ts->j<=8->ts.length+2*j=16->ts.length<m->pre.length=j->Mod [] a h->Grow a h 1 q j d ((pre.map hT).map AV.str)->
   cg (mW n m s q j d ((2*j:Nat):Int) h) λr h'=>Mod [] a h'/\r=.str (gI ((pre++Ky ts).map hT) (mk [58]))
 | [],j,m+1,pre,h,q,d,hd,hj,hl,_,hp,hm,g=>by
  obtain⟨n,rfl⟩:∃k,n=k+1:=⟨n - 1,by omega⟩
  simp only[List.length_nil]at hl
  subst hp
  rw[uL,show decide (((2*pre.length:Nat):Int)<16)=false by simp;omega,br,tL,pz]
  change cg (Option.bind (Option.bind (Jh q pre.length d (mk [58]) h) _) _) _
  rw[Ji g.row (by simp;omega) (NX (λx hx=>by obtain⟨y,_,rfl⟩:=List.mem_map.1 hx;exact Yt y) (by simp;omega)),fD,fD]
  simp only[az]
  exact .pure ⟨hm,by simp[Ky]⟩
 | [_],j,_,_,_,_,_,_,_,hl,_,_,_,_=>by simp at hl;omega
 | x::y::ts,j,m+1,pre,h,q,d,hd,hj,hl,hlm,hp,hm,g=>by
  simp only[List.length_cons]at hl hlm
  have hx:(bs s)[2*j]?=some x:=by have:=congrArg (·[0]?) hd;simpa using this
  have hy:(bs s)[2*j+1]?=some y:=by have:=congrArg (·[1]?) hd;simpa using this
  have hd':(bs s).drop (2*(j+1))=ts:=by rw[show 2*(j+1)=2*j+2 by omega,<-List.drop_drop,hd];rfl
  have hxn:=x.toNat_lt
  have hyn:=y.toNat_lt
  rw[uL,show decide (((2*j:Nat):Int)<16)=true by simp;omega,bM,cC hx,aG (by omega),cC hy,wrap_i64 (x:=(x.toNat:Int)) (by omega) (by omega),wrap_i64 (x:=(y.toNat:Int)) (by omega) (by omega),ayt (by omega) (by omega)]
  refine(adh (u:=256*x.toNat+y.toNat) (by omega) (by omega) (hm.lt h1a) ((hm.get 1 h1a (by simp)).trans ht)).bind ?_
  rintro _ h1 ⟨m1,rfl⟩
  simp only[az,aL]
  have hm1:=hm.trans m1
  have g1:=g.ak m1
  refine g1.push hm1.next rfl rfl (by decide) (by omega) (by omega) λq' d' h' g' m'=>?_
  rw[wrap_i64 (by omega) (by omega),show(((2*j:Nat):Int)+2)=((2*(j+1):Nat):Int)by omega]
  have:=Pq hn h1a hs ht ts (j+1) m (pre++[256*x.toNat+y.toNat]) h' q' d' hd' (by omega) (by omega) (by omega) (by simp[hp]) (hm1.push g1 m') (by simpa[hT]using g')
  simpa[Ky]using this
def pT(s:ByteArray):ByteArray:=if s.size=4 then gI ((bs s).map dT) (mk [46])else if s.size=16 then gI ((Ky (bs s)).map hT) (mk [58])else⟨#[]⟩
theorem Lv(s:ByteArray){n:Nat}(hn:40<=n){h:H}(h1:1<h.next)(ht0:h.get 0=some (.Xv wQ))(ht1:h.get 1=some (.cells Xy true)):cg (ca n eG [.str s] h) λr h'=>Mod [] h h'/\r=.str (pT s):=by
 obtain⟨n,rfl⟩:∃k,n=k+1:=⟨n - 1,by omega⟩
 rw[FV]
 unfold pT
 by_cases h4:s.size=4
 ·rw[show(((s.size:Nat):Int)==4)=true by simp;omega,bM,if_pos h4]
  simp only[aL]
  have m1:Mod [] h (h.new (.cells (s.data.toList.map λc=>AV.int .u8 c.toNat) false)):=(Mod.refl _ _).new _
  have row:Row (h.new (.cells (s.data.toList.map λc=>AV.int .u8 c.toNat) false)) 1 (some (h.next,0)) (bs s).length (.rest 1) ((bs s).map λx=>AV.int .u8 x.toNat):=
   .row (by simp) (aY _ _) (by rw[List.drop_zero,List.take_of_length_le (by simp[bs])];rfl) (by simp[bs]) (.inl rfl)
  have hl:(bs s).length=s.size:=aP s
  rw[<-hl]
  exact(Sn (by omega) row (by omega) ((m1.get 0 (by omega) (by simp)).trans ht0) (by simp) (bs s) [] n _ none (.known 0) rfl (by omega) (.refl _ _) .nil).mono λr h' ⟨q1,q2⟩=>⟨m1.trans q1,q2⟩
 ·rw[show(((s.size:Nat):Int)==4)=false by simp;omega,br,if_neg h4]
  by_cases Gu:s.size=16
  ·rw[show(((s.size:Nat):Int)==16)=true by simp;omega,bM,if_pos Gu]
   have:=Pq (n:=n) (by omega) h1 Gu ht1 (bs s) 0 n [] h none (.known 0) rfl (by omega) (by rw[aP];omega) (by rw[aP];omega) rfl (.refl _ _) .nil
   simpa using this
  ·rw[show(((s.size:Nat):Int)==16)=false by simp;omega,br,if_neg Gu]
   exact .pure ⟨.refl _ _,rfl⟩
structure Cd where
 (a b c d e f:Int)
def xQ(x:Cd):List AV:=[.int .u8 x.a,.int .u8 x.b,.int .u8 x.c,.int .u8 x.d,.int .u8 x.e,.int .u8 x.f]
def EE:Cd:=⟨0,0,0,0,0,0⟩
def xO:List Int->Cd
 | [a,b,c,d,e,f]=>⟨a,b,c,d,e,f⟩
 | _=>EE
structure Bk where
 (name addr:Bs) (bH:Cd) (port weight:Int)
structure Sv where
 (name D1:Bs) (proto port mode sched ju jr probe:Int) (bf:List Bk)
structure Ps where
 (k:Nat) (bH:Cd) (addr peer:Bs) (id prio every:Int) (pre:Bool) (au:List Bs) (bh:List (Bs×Int)) (bB:List Sv) (ag:List (Bs×Int×Bool)) (bad code:Int)
structure St where
 (p:Ps) (yes:Int) (sv:Sv) (bk:Bk)
def dV(x:Bk):List AV:=[.str x.name,.str x.addr,.int .u8 x.bH.a,.int .u8 x.bH.b,.int .u8 x.bH.c,.int .u8 x.bH.d,.int .u8 x.bH.e,.int .u8 x.bH.f,.int .i64 x.port,.int .i64 x.weight]
def cU(x:Sv)(v:AV):List AV:=[.str x.name,.str x.D1,.int .i64 x.proto,.int .i64 x.port,.int .i64 x.mode,.int .i64 x.sched,.int .i64 x.ju,.int .i64 x.jr,.int .i64 x.probe,v]
abbrev U7:=Sv×Pt×aM
def yE(x:U7):List AV:=cU x.1 (.slice x.2.1 x.1.bf.length x.2.2)
def uk(x:Bs×Int×Bool):List AV:=[.str x.1,.int .i64 x.2.1,.bool x.2.2]
def wm(x:Bs×Int):List AV:=[.str x.1,.int .i64 x.2]
theorem E5:∀x,(dV x).length=10:=λ_=>rfl
theorem E6:∀x,(yE x).length=10:=λ_=>rfl
theorem BX:∀x,(uk x).length=3:=λ_=>rfl
theorem E7:∀x,(wm x).length=2:=λ_=>rfl
structure En where
 (a:H) (b:Nat) (s:Bs) (l:List Wd) (yes sv bk:Option Nat)
structure Gh where
 (f:Nat->Option Nat) (c:Nat->List AV) (lp:Pt) (lc sc vc tc gc bc:aM) (fm:List U7)
def sQ(e:En)(g:Gh)(p:Ps):List AV:=
 [.str e.s,.slice g.lp e.l.length g.lc,.int .i64 p.k,.int .u8 p.bH.a,.int .u8 p.bH.b,.int .u8 p.bH.c,.int .u8 p.bH.d,.int .u8 p.bH.e,.int .u8 p.bH.f,
  .str p.addr,.str p.peer,.int .i64 p.id,.int .i64 p.prio,.int .i64 p.every,.bool p.pre,
  .slice (nu g.f 2) p.au.length g.vc,.slice (nu g.f 3) p.bh.length g.tc,.slice (nu g.f 4) p.bB.length g.gc,.slice (nu g.f 1) p.ag.length g.sc,.int .i64 p.bad,.int .i64 p.code]
structure Okp(e:En)(st:St):Prop where
 k:st.p.k<=e.l.length
 ag:st.p.ag.length<=st.p.k
 au:st.p.au.length<=st.p.k
 bh:st.p.bh.length<=st.p.k
 bB:st.p.bB.length<=st.p.k
 bf:st.sv.bf.length<=st.p.k
 len:e.l.length<=400000
structure AR(e:En)(g:Gh)(h:H)(st:St):Prop where
 ow:EG e.a g.f g.c h
 fb:g.f 0=some e.b
 cb:g.c 0=sQ e g st.p
 B8:Row h 3 g.lp e.l.length g.lc (e.l.flatMap HJ)
 sp:yw g.f g.c 1 3 st.p.ag.length g.sc (st.p.ag.flatMap uk)
 vp:yw g.f g.c 2 1 st.p.au.length g.vc (st.p.au.map .str)
 tp:yw g.f g.c 3 2 st.p.bh.length g.tc (st.p.bh.flatMap wm)
 gp:yw g.f g.c 4 10 st.p.bB.length g.gc (g.fm.flatMap yE)
 PI:g.fm.map (·.1)=st.p.bB
 rows:∀x∈g.fm,Row h 10 x.2.1 x.1.bf.length x.2.2 (x.1.bf.flatMap dV)
 Ux:∀x∈g.fm,∀i∈own x.2.1,e.a.next<=i
 fy:g.f 5=e.yes
 cy:g.c 5=[.int .i64 st.yes]
 fv:g.f 6=e.sv
 cv:g.c 6=cU st.sv (.slice (nu g.f 7) st.sv.bf.length g.bc)
 bp:yw g.f g.c 7 10 st.sv.bf.length g.bc (st.sv.bf.flatMap dV)
 fk:g.f 8=e.bk
 ck:g.c 8=dV st.bk
 kl:∀i,(i∈own g.lp∨∃x∈g.fm,i∈own x.2.1)->∀j,g.f j≠some i
 ok:Okp e st
def Inv(e:En)(h:H)(st:St)(S:List Nat):Prop:=∃g,S=oO g.f/\AR e g h st
section
variable {e:En}{g:Gh}{h:H}{st:St}{S:List Nat}
theorem AR.Si(i:AR e g h st){x:Nat}(hx:x∈own g.lp∨∃y∈g.fm,x∈own y.2.1):x∉oO g.f:=λhm=>by
 obtain⟨j,ej⟩:=i.ow.mem.1 hm
 exact i.kl x hx j ej
theorem AR.cell{β:Type}(i:AR e g h st){o:Nat}{v:AV}(hv:(sQ e g st.p)[o]?=some v)(k:AV->Option β):af h e.b o k=k v:=i.ow.cell i.fb (by rw[i.cb];exact hv) k
theorem Inv.frame{h':H}(i:Inv e h st S)(m:Mod [] h h'):Inv e h' st S:=by
 obtain⟨g,rfl,i⟩:=i
 exact⟨g,rfl,i.ow.ak m,i.fb,i.cb,i.B8.ak m,i.sp,i.vp,i.tp,i.gp,i.PI,λx hx=>(i.rows x hx).ak m,i.Ux,i.fy,i.cy,i.fv,i.cv,i.bp,i.fk,i.ck,i.kl,i.ok⟩
theorem Inv.wrP(i:Inv e h st S){p':Ps}{o n:Nat}{xs:List AV}(hn:xs.length=n)(hl:o+n<=21)(hc:xs.all cT=true)(hv:∀g,My (sQ e g st.p) o xs=sQ e g p')
  (h1:p'.ag=st.p.ag) (h2:p'.au=st.p.au) (h3:p'.bh=st.p.bh) (h4:p'.bB=st.p.bB) (ok:Okp e {st with p:=p'}):
  ∃h',(∀(β:Type) (k:H->Option β),bK h e.b o n xs k=k h')/\Fr S h S h'/\Inv e h' {st with p:=p'} S:=by
 obtain⟨g,rfl,i⟩:=i
 obtain⟨ow,fr⟩:=i.ow.wr i.fb (sQ e g p')
 refine⟨_,λβ k=>i.ow.bK i.fb hn (by rw[i.cb];exact hl) hc (by rw[i.cb];exact hv g) k,fr,{g with c:=up g.c 0 (sQ e g p')},rfl,ow,i.fb,aF g.c 0 (sQ e g p'),i.B8.mod fr.mod λb hb=>i.Si (.inl hb),?_,?_,?_,?_,?_,λx hx=>(i.rows x hx).mod fr.mod λb hb=>i.Si (.inr ⟨x,hx,hb⟩),i.Ux,i.fy,i.cy,i.fv,i.cv,i.bp.lY (by decide),i.fk,i.ck,i.kl,ok⟩
 ·rw[show({st with p:=p'}:St).p.ag=st.p.ag from h1];exact i.sp.lY (by decide)
 ·rw[show({st with p:=p'}:St).p.au=st.p.au from h2];exact i.vp.lY (by decide)
 ·rw[show({st with p:=p'}:St).p.bh=st.p.bh from h3];exact i.tp.lY (by decide)
 ·rw[show({st with p:=p'}:St).p.bB=st.p.bB from h4];exact i.gp.lY (by decide)
 ·exact i.PI.trans h4.symm
theorem Inv.wrY(i:Inv e h st S){b:Nat}(hb:e.yes=some b)(y:Int):
  ∃h',(∀(β:Type) (k:H->Option β),bK h b 0 1 [.int .i64 y] k=k h')/\Fr S h S h'/\Inv e h' {st with yes:=y} S:=by
 obtain⟨g,rfl,i⟩:=i
 have hf:=i.fy.trans hb
 obtain⟨ow,fr⟩:=i.ow.wr hf [.int .i64 y]
 refine⟨_,λβ k=>i.ow.bK hf rfl (by rw[i.cy];exact cF 1) rfl (by rw[i.cy];rfl) k,fr,{g with c:=up g.c 5 [.int .i64 y]},rfl,ow,i.fb,i.cb,i.B8.mod fr.mod λb hb=>i.Si (.inl hb),i.sp.lY (by decide),i.vp.lY (by decide),i.tp.lY (by decide),i.gp.lY (by decide),i.PI,λx hx=>(i.rows x hx).mod fr.mod λb hb=>i.Si (.inr ⟨x,hx,hb⟩),i.Ux,i.fy,aF g.c 5 [.int .i64 y],i.fv,i.cv,i.bp.lY (by decide),i.fk,i.ck,i.kl,⟨i.ok.k,i.ok.ag,i.ok.au,i.ok.bh,i.ok.bB,i.ok.bf,i.ok.len⟩⟩
theorem Inv.wrS(i:Inv e h st S){b:Nat}(hb:e.sv=some b){x':Sv}{o n:Nat}{xs:List AV}(hn:xs.length=n)(hl:o+n<=10)(hc:xs.all cT=true)(hv:∀v,My (cU st.sv v) o xs=cU x' v)(h1:x'.bf=st.sv.bf):
  ∃h',(∀(β:Type) (k:H->Option β),bK h b o n xs k=k h')/\Fr S h S h'/\Inv e h' {st with sv:=x'} S:=by
 obtain⟨g,rfl,i⟩:=i
 have hf:=i.fv.trans hb
 obtain⟨ow,fr⟩:=i.ow.wr hf (cU x' (.slice (nu g.f 7) st.sv.bf.length g.bc))
 refine⟨_,λβ k=>i.ow.bK hf hn (by rw[i.cv];exact hl) hc (by rw[i.cv];exact hv _) k,fr,{g with c:=up g.c 6 (cU x' (.slice (nu g.f 7) st.sv.bf.length g.bc))},rfl,ow,i.fb,i.cb,i.B8.mod fr.mod λb hb=>i.Si (.inl hb),i.sp.lY (by decide),i.vp.lY (by decide),i.tp.lY (by decide),i.gp.lY (by decide),i.PI,λx hx=>(i.rows x hx).mod fr.mod λb hb=>i.Si (.inr ⟨x,hx,hb⟩),i.Ux,i.fy,i.cy,i.fv,?_,?_,i.fk,i.ck,i.kl,⟨i.ok.k,i.ok.ag,i.ok.au,i.ok.bh,i.ok.bB,?_,i.ok.len⟩⟩
 ·show up g.c 6 (cU x' (.slice (nu g.f 7) st.sv.bf.length g.bc)) 6=cU x' (.slice (nu g.f 7) x'.bf.length g.bc)
  rw[aF,h1]
 ·rw[show({st with sv:=x'}:St).sv.bf=st.sv.bf from h1];exact i.bp.lY (by decide)
 ·rw[show({st with sv:=x'}:St).sv.bf=st.sv.bf from h1];exact i.ok.bf
theorem Inv.wrB(i:Inv e h st S){b:Nat}(hb:e.bk=some b){x':Bk}{o n:Nat}{xs:List AV}(hn:xs.length=n)(hl:o+n<=10)(hc:xs.all cT=true)(hv:My (dV st.bk) o xs=dV x'):
  ∃h',(∀(β:Type) (k:H->Option β),bK h b o n xs k=k h')/\Fr S h S h'/\Inv e h' {st with bk:=x'} S:=by
 obtain⟨g,rfl,i⟩:=i
 have hf:=i.fk.trans hb
 obtain⟨ow,fr⟩:=i.ow.wr hf (dV x')
 refine⟨_,λβ k=>i.ow.bK hf hn (by rw[i.ck];exact hl) hc (by rw[i.ck];exact hv) k,fr,{g with c:=up g.c 8 (dV x')},rfl,ow,i.fb,i.cb,i.B8.mod fr.mod λb hb=>i.Si (.inl hb),i.sp.lY (by decide),i.vp.lY (by decide),i.tp.lY (by decide),i.gp.lY (by decide),i.PI,λx hx=>(i.rows x hx).mod fr.mod λb hb=>i.Si (.inr ⟨x,hx,hb⟩),i.Ux,i.fy,i.cy,i.fv,i.cv,i.bp.lY (by decide),i.fk,aF g.c 8 (dV x'),i.kl,⟨i.ok.k,i.ok.ag,i.ok.au,i.ok.bh,i.ok.bB,i.ok.bf,i.ok.len⟩⟩
end
end Go.Ev.Tryz
namespace Go.Ev
theorem EG.lY{a h:H}{f:Nat->Option Nat}{c:Nat->List AV}{i:Nat}(o:EG a f c h)(hi:f i=none)(v:List AV):EG a f (up c i v) h:=
 ⟨o.le,λj y e=>by
  by_cases hj:j=i
  ·rw[hj,hi]at e;cases e
  ·rw[eW hj];exact o.get j y e,o.lt,o.ge,o.inj,o.top⟩
end Go.Ev
namespace Go.Ev.Tryz
set_option maxRecDepth 10000
open Go.Proofs
section
variable {e:En}{g:Gh}{h:H}{st:St}{S:List Nat}
theorem AR.WU{f':Nat->Option Nat}{y:Nat}(i:AR e g h st)(hn:h.next<=y)(ho:∀k,f' k=some y∨f' k=g.f k∨f' k=none):∀x,(x∈own g.lp∨∃z∈g.fm,x∈own z.2.1)->∀k,f' k≠some x:=by
 intro x hx k hk
 have hl:x<h.next:=by
  rcases hx with hx | ⟨z,hz,hx⟩
  ·exact i.B8.lt x hx
  ·exact(i.rows z hz).lt x hx
 rcases ho k with e' | e' | e'
 ·rw[hk]at e';have:=oh e';omega
 ·rw[hk]at e';exact i.kl x hx k e'.symm
 ·rw[hk]at e';cases e'
theorem zV(f:Nat->Option Nat)(j y k:Nat):up f j (some y) k=some y∨up f j (some y) k=f k∨up f j (some y) k=none:=by
 by_cases h:k=j
 ·rw[h,aF];exact .inl rfl
 ·rw[eW h];exact .inr (.inl rfl)
def abQ(e:En)(g:Gh)(h:H)(st:St)(j size bytes len o:Nat)(cap:aM)(xs:List AV)(st':St):Prop:=
 ∃y cap' h1 h2 S',(∀(β:Type) (k:Option (Nat×Nat)->Nat->aM->H->Option β),fS size bytes (nu g.f j) len cap (di size (.slice (some (h.next,0)) 1 (.known 1)) (h.new (.cells xs false))) (h.new (.cells xs false)) k=k (some (y,0)) (len+1) cap' h1)/\
  Fr (oO g.f) h S' h1/\(∀(β:Type) (k:H->Option β),bK h1 e.b o 1 [.slice (some (y,0)) (len+1) cap'] k=k h2)/\Fr (oO g.f) h S' h2/\Inv e h2 st' S'
theorem AR.aer(i:AR e g h st)(x:Bs×Int×Bool)(hk:st.p.ag.length+1<=st.p.k):abQ e g h st 1 3 32 st.p.ag.length 18 g.sc (uk x) {st with p:={st.p with ag:=st.p.ag++[x]}}:=by
 have hl:=i.ok.k;have hl2:=i.ok.len
 obtain⟨y,cap',h1,e1,hn,YT,ar1,OH,m1⟩:=i.ow.push (bytes:=32) (by decide:1<12) i.sp (xs:=uk x) rfl rfl (by decide) (by omega) (by omega)
 have dr:up g.f 1 (some y) 0=some e.b:=(eW (by decide)).trans i.fb
 obtain⟨ow2,Z0⟩:=YT.wr dr (sQ e {g with f:=up g.f 1 (some y),sc:=cap'} {st.p with ag:=st.p.ag++[x]})
 have hc0:up g.c 1 (st.p.ag.flatMap uk++uk x) 0=sQ e g st.p:=(eW (by decide)).trans i.cb
 refine⟨y,cap',h1,_,_,e1,OH,λβ k=>YT.bK dr rfl (by rw[hc0];exact(by decide:19<=21)) rfl ?_ k,OH.trans Z0,?_⟩
 ·rw[hc0]
  simp only[sQ,wH,ya (f:=g.f) (i:=1) (j:=2) (v:=some y) (by decide),ya (f:=g.f) (i:=1) (j:=3) (v:=some y) (by decide),ya (f:=g.f) (i:=1) (j:=4) (v:=some y) (by decide),hU]
  rfl
 ·have fr:=OH.trans Z0
  refine⟨{g with f:=up g.f 1 (some y),sc:=cap',c:=up (up g.c 1 (st.p.ag.flatMap uk++uk x)) 0 (sQ e {g with f:=up g.f 1 (some y),sc:=cap'} {st.p with ag:=st.p.ag++[x]})},rfl,ow2,dr,by simp only[aF];rfl,i.B8.mod fr.mod λb hb=>i.Si (.inl hb),?_,(i.vp.ne (by decide)).lY (by decide),(i.tp.ne (by decide)).lY (by decide),(i.gp.ne (by decide)).lY (by decide),i.PI,λx hx=>(i.rows x hx).mod fr.mod λb hb=>i.Si (.inr ⟨x,hx,hb⟩),i.Ux,i.fy,i.cy,i.fv,?_,(i.bp.ne (by decide)).lY (by decide),i.fk,i.ck,i.WU (f':=up g.f 1 (some y)) hn (zV g.f 1 y),⟨i.ok.k,?_,i.ok.au,i.ok.bh,i.ok.bB,i.ok.bf,i.ok.len⟩⟩
  ·have:=ar1.lY (j:=0) (v:=sQ e {g with f:=up g.f 1 (some y),sc:=cap'} {st.p with ag:=st.p.ag++[x]}) (by decide)
   simpa using this
  ·exact i.cv
  ·simpa using hk
theorem AR.ahI(i:AR e g h st)(x:Bs)(hk:st.p.au.length+1<=st.p.k):abQ e g h st 2 1 16 st.p.au.length 15 g.vc [.str x] {st with p:={st.p with au:=st.p.au++[x]}}:=by
 have hl:=i.ok.k;have hl2:=i.ok.len
 obtain⟨y,cap',h1,e1,hn,YT,ar1,OH,m1⟩:=i.ow.push (bytes:=16) (by decide:2<12) i.vp (xs:=[.str x]) rfl rfl (by decide) (by omega) (by omega)
 have dr:up g.f 2 (some y) 0=some e.b:=(eW (by decide)).trans i.fb
 obtain⟨ow2,Z0⟩:=YT.wr dr (sQ e {g with f:=up g.f 2 (some y),vc:=cap'} {st.p with au:=st.p.au++[x]})
 have hc0:up g.c 2 (st.p.au.map .str++[.str x]) 0=sQ e g st.p:=(eW (by decide)).trans i.cb
 refine⟨y,cap',h1,_,_,e1,OH,λβ k=>YT.bK dr rfl (by rw[hc0];exact(by decide:16<=21)) rfl ?_ k,OH.trans Z0,?_⟩
 ·rw[hc0]
  simp only[sQ,wH,ya (f:=g.f) (i:=2) (j:=1) (v:=some y) (by decide),ya (f:=g.f) (i:=2) (j:=3) (v:=some y) (by decide),ya (f:=g.f) (i:=2) (j:=4) (v:=some y) (by decide),hU]
  rfl
 ·have fr:=OH.trans Z0
  refine⟨{g with f:=up g.f 2 (some y),vc:=cap',c:=up (up g.c 2 (st.p.au.map .str++[.str x])) 0 (sQ e {g with f:=up g.f 2 (some y),vc:=cap'} {st.p with au:=st.p.au++[x]})},rfl,ow2,dr,by simp only[aF];rfl,i.B8.mod fr.mod λb hb=>i.Si (.inl hb),(i.sp.ne (by decide)).lY (by decide),?_,(i.tp.ne (by decide)).lY (by decide),(i.gp.ne (by decide)).lY (by decide),i.PI,λx hx=>(i.rows x hx).mod fr.mod λb hb=>i.Si (.inr ⟨x,hx,hb⟩),i.Ux,i.fy,i.cy,i.fv,?_,(i.bp.ne (by decide)).lY (by decide),i.fk,i.ck,i.WU (f':=up g.f 2 (some y)) hn (zV g.f 2 y),⟨i.ok.k,i.ok.ag,?_,i.ok.bh,i.ok.bB,i.ok.bf,i.ok.len⟩⟩
  ·have:=ar1.lY (j:=0) (v:=sQ e {g with f:=up g.f 2 (some y),vc:=cap'} {st.p with au:=st.p.au++[x]}) (by decide)
   simpa using this
  ·exact i.cv
  ·simpa using hk
theorem AR.anF(i:AR e g h st)(x:Bs×Int)(hk:st.p.bh.length+1<=st.p.k):abQ e g h st 3 2 24 st.p.bh.length 16 g.tc (wm x) {st with p:={st.p with bh:=st.p.bh++[x]}}:=by
 have hl:=i.ok.k;have hl2:=i.ok.len
 obtain⟨y,cap',h1,e1,hn,YT,ar1,OH,m1⟩:=i.ow.push (bytes:=24) (by decide:3<12) i.tp (xs:=wm x) rfl rfl (by decide) (by omega) (by omega)
 have dr:up g.f 3 (some y) 0=some e.b:=(eW (by decide)).trans i.fb
 obtain⟨ow2,Z0⟩:=YT.wr dr (sQ e {g with f:=up g.f 3 (some y),tc:=cap'} {st.p with bh:=st.p.bh++[x]})
 have hc0:up g.c 3 (st.p.bh.flatMap wm++wm x) 0=sQ e g st.p:=(eW (by decide)).trans i.cb
 refine⟨y,cap',h1,_,_,e1,OH,λβ k=>YT.bK dr rfl (by rw[hc0];exact(by decide:17<=21)) rfl ?_ k,OH.trans Z0,?_⟩
 ·rw[hc0]
  simp only[sQ,wH,ya (f:=g.f) (i:=3) (j:=1) (v:=some y) (by decide),ya (f:=g.f) (i:=3) (j:=2) (v:=some y) (by decide),ya (f:=g.f) (i:=3) (j:=4) (v:=some y) (by decide),hU]
  rfl
 ·have fr:=OH.trans Z0
  refine⟨{g with f:=up g.f 3 (some y),tc:=cap',c:=up (up g.c 3 (st.p.bh.flatMap wm++wm x)) 0 (sQ e {g with f:=up g.f 3 (some y),tc:=cap'} {st.p with bh:=st.p.bh++[x]})},rfl,ow2,dr,by simp only[aF];rfl,i.B8.mod fr.mod λb hb=>i.Si (.inl hb),(i.sp.ne (by decide)).lY (by decide),(i.vp.ne (by decide)).lY (by decide),?_,(i.gp.ne (by decide)).lY (by decide),i.PI,λx hx=>(i.rows x hx).mod fr.mod λb hb=>i.Si (.inr ⟨x,hx,hb⟩),i.Ux,i.fy,i.cy,i.fv,?_,(i.bp.ne (by decide)).lY (by decide),i.fk,i.ck,i.WU (f':=up g.f 3 (some y)) hn (zV g.f 3 y),⟨i.ok.k,i.ok.ag,i.ok.au,?_,i.ok.bB,i.ok.bf,i.ok.len⟩⟩
  ·have:=ar1.lY (j:=0) (v:=sQ e {g with f:=up g.f 3 (some y),tc:=cap'} {st.p with bh:=st.p.bh++[x]}) (by decide)
   simpa using this
  ·exact i.cv
  ·simpa using hk
theorem AR.anD(i:AR e g h st){b:Nat}(hb:e.sv=some b)(x:Bk)(hk:st.sv.bf.length+1<=st.p.k):
  ∃y cap' h1 h2 S',(∀(β:Type) (k:Option (Nat×Nat)->Nat->aM->H->Option β),fS 10 56 (nu g.f 7) st.sv.bf.length g.bc (di 10 (.slice (some (h.next,0)) 1 (.known 1)) (h.new (.cells (dV x) false))) (h.new (.cells (dV x) false)) k=k (some (y,0)) (st.sv.bf.length+1) cap' h1)/\
  Fr (oO g.f) h S' h1/\(∀(β:Type) (k:H->Option β),bK h1 b 9 1 [.slice (some (y,0)) (st.sv.bf.length+1) cap'] k=k h2)/\Fr (oO g.f) h S' h2/\Inv e h2 {st with sv:={st.sv with bf:=st.sv.bf++[x]}} S':=by
 have hl:=i.ok.k;have hl2:=i.ok.len
 obtain⟨y,cap',h1,e1,hn,YT,ar1,OH,m1⟩:=i.ow.push (bytes:=56) (by decide:7<12) i.bp (xs:=dV x) rfl rfl (by decide) (by omega) (by omega)
 have dr:up g.f 7 (some y) 6=some b:=(eW (by decide)).trans (i.fv.trans hb)
 obtain⟨ow2,Z0⟩:=YT.wr dr (cU st.sv (.slice (some (y,0)) (st.sv.bf.length+1) cap'))
 have hc0:up g.c 7 (st.sv.bf.flatMap dV++dV x) 6=cU st.sv (.slice (nu g.f 7) st.sv.bf.length g.bc):=(eW (by decide)).trans i.cv
 refine⟨y,cap',h1,_,_,e1,OH,λβ k=>YT.bK dr rfl (by rw[hc0];exact(by decide:10<=10)) rfl (by rw[hc0];rfl) k,OH.trans Z0,?_⟩
 have fr:=OH.trans Z0
 refine⟨{g with f:=up g.f 7 (some y),bc:=cap',c:=up (up g.c 7 (st.sv.bf.flatMap dV++dV x)) 6 (cU st.sv (.slice (some (y,0)) (st.sv.bf.length+1) cap'))},rfl,ow2,i.fb,i.cb.trans ?_,i.B8.mod fr.mod λb hb=>i.Si (.inl hb),(i.sp.ne (by decide)).lY (by decide),(i.vp.ne (by decide)).lY (by decide),(i.tp.ne (by decide)).lY (by decide),(i.gp.ne (by decide)).lY (by decide),i.PI,λx hx=>(i.rows x hx).mod fr.mod λb hb=>i.Si (.inr ⟨x,hx,hb⟩),i.Ux,i.fy,i.cy,i.fv,?_,?_,i.fk,i.ck,i.WU (f':=up g.f 7 (some y)) hn (zV g.f 7 y),⟨i.ok.k,i.ok.ag,i.ok.au,i.ok.bh,i.ok.bB,?_,i.ok.len⟩⟩
 ·rfl
 ·show up (up g.c 7 (st.sv.bf.flatMap dV++dV x)) 6 (cU st.sv (.slice (some (y,0)) (st.sv.bf.length+1) cap')) 6=cU {st.sv with bf:=st.sv.bf++[x]} (.slice (nu (up g.f 7 (some y)) 7) (st.sv.bf++[x]).length cap')
  rw[aF,wH,hU]
  rfl
 ·have:=ar1.lY (j:=6) (v:=cU st.sv (.slice (some (y,0)) (st.sv.bf.length+1) cap')) (by decide)
  simpa using this
 ·simpa using hk
end
section
variable {e:En}{h h':H}{st:St}{S:List Nat}
theorem Inv.as0(i:Inv e h st S)(he:e.yes=none){b:Nat}{y:Int}(hb:h.next<=b)(ha:At h' b (.cells [.int .i64 y] false))(m:Mod [] h h'):
  ∃S',Fr S h S' h'/\Inv {e with yes:=some b} h' {st with yes:=y} S':=by
 obtain⟨g,rfl,i⟩:=i
 have hf:=i.fy.trans he
 obtain⟨ow,fr⟩:=i.ow.put (i:=5) (by decide) hb ha m.of_nil
 exact⟨_,fr,{g with f:=up g.f 5 (some b),c:=up g.c 5 [.int .i64 y]},rfl,ow,i.fb,i.cb,i.B8.ak m,i.sp.ne (by decide),i.vp.ne (by decide),i.tp.ne (by decide),i.gp.ne (by decide),i.PI,λx hx=>(i.rows x hx).ak m,i.Ux,aF g.f 5 _,aF g.c 5 _,i.fv,i.cv,i.bp.ne (by decide),i.fk,i.ck,i.WU (f':=up g.f 5 (some b)) hb (zV g.f 5 b),⟨i.ok.k,i.ok.ag,i.ok.au,i.ok.bh,i.ok.bB,i.ok.bf,i.ok.len⟩⟩
theorem Inv.akK{b:Nat}(he:e.yes=none)(i:Inv {e with yes:=some b} h st S):∃S',Fr S h S' h/\Inv e h st S':=by
 obtain⟨g,rfl,i⟩:=i
 refine⟨_,i.ow.Tx 5,{g with f:=up g.f 5 none},rfl,i.ow.drop 5,i.fb,i.cb,i.B8,i.sp.OK (by decide),i.vp.OK (by decide),i.tp.OK (by decide),i.gp.OK (by decide),i.PI,i.rows,i.Ux,(aF g.f 5 none).trans he.symm,i.cy,i.fv,i.cv,i.bp.OK (by decide),i.fk,i.ck,λx hx j=>?_,⟨i.ok.k,i.ok.ag,i.ok.au,i.ok.bh,i.ok.bB,i.ok.bf,i.ok.len⟩⟩
 show up g.f 5 none j≠some x
 by_cases hj:j=5
 ·rw[hj,aF];simp
 ·rw[eW hj];exact i.kl x hx j
theorem Inv.asY(i:Inv e h st S)(he:e.bk=none){b:Nat}{y:Bk}(hb:h.next<=b)(ha:At h' b (.cells (dV y) false))(m:Mod [] h h'):
  ∃S',Fr S h S' h'/\Inv {e with bk:=some b} h' {st with bk:=y} S':=by
 obtain⟨g,rfl,i⟩:=i
 have hf:=i.fk.trans he
 obtain⟨ow,fr⟩:=i.ow.put (i:=8) (by decide) hb ha m.of_nil
 exact⟨_,fr,{g with f:=up g.f 8 (some b),c:=up g.c 8 (dV y)},rfl,ow,i.fb,i.cb,i.B8.ak m,i.sp.ne (by decide),i.vp.ne (by decide),i.tp.ne (by decide),i.gp.ne (by decide),i.PI,λx hx=>(i.rows x hx).ak m,i.Ux,i.fy,i.cy,i.fv,i.cv,i.bp.ne (by decide),aF g.f 8 _,aF g.c 8 _,i.WU (f':=up g.f 8 (some b)) hb (zV g.f 8 b),⟨i.ok.k,i.ok.ag,i.ok.au,i.ok.bh,i.ok.bB,i.ok.bf,i.ok.len⟩⟩
theorem Inv.akJ{b:Nat}(he:e.bk=none)(i:Inv {e with bk:=some b} h st S):∃S',Fr S h S' h/\Inv e h st S':=by
 obtain⟨g,rfl,i⟩:=i
 refine⟨_,i.ow.Tx 8,{g with f:=up g.f 8 none},rfl,i.ow.drop 8,i.fb,i.cb,i.B8,i.sp.OK (by decide),i.vp.OK (by decide),i.tp.OK (by decide),i.gp.OK (by decide),i.PI,i.rows,i.Ux,i.fy,i.cy,i.fv,i.cv,i.bp.OK (by decide),(aF g.f 8 none).trans he.symm,i.ck,λx hx j=>?_,⟨i.ok.k,i.ok.ag,i.ok.au,i.ok.bh,i.ok.bB,i.ok.bf,i.ok.len⟩⟩
 show up g.f 8 none j≠some x
 by_cases hj:j=8
 ·rw[hj,aF];simp
 ·rw[eW hj];exact i.kl x hx j
theorem Inv.asZ(i:Inv e h st S)(he:e.sv=none){b:Nat}{y:Sv}(hy:y.bf=[])(hb:h.next<=b)(ha:At h' b (.cells (cU y (.slice none 0 (.known 0))) false))(m:Mod [] h h'):
  ∃S',Fr S h S' h'/\Inv {e with sv:=some b} h' {st with sv:=y} S':=by
 obtain⟨g,rfl,i⟩:=i
 have hf:=i.fv.trans he
 obtain⟨ow,fr⟩:=(i.ow.drop 7).put (i:=6) (by decide) hb ha m.of_nil
 have hf7:up (up g.f 7 none) 6 (some b) 7=none:=by rw[eW (by decide),aF]
 refine⟨_,(i.ow.Tx 7).trans fr,{g with f:=up (up g.f 7 none) 6 (some b),c:=up g.c 6 (cU y (.slice none 0 (.known 0))),bc:=.known 0},rfl,ow,i.fb,i.cb,i.B8.ak m,(i.sp.OK (by decide)).ne (by decide),(i.vp.OK (by decide)).ne (by decide),(i.tp.OK (by decide)).ne (by decide),(i.gp.OK (by decide)).ne (by decide),i.PI,λx hx=>(i.rows x hx).ak m,i.Ux,i.fy,i.cy,aF (up g.f 7 none) 6 (some b),?_,?_,i.fk,i.ck,i.WU (f':=up (up g.f 7 none) 6 (some b)) hb λk=>?_,⟨i.ok.k,i.ok.ag,i.ok.au,i.ok.bh,i.ok.bB,?_,i.ok.len⟩⟩
 ·show up g.c 6 (cU y (.slice none 0 (.known 0))) 6=cU y (.slice (nu (up (up g.f 7 none) 6 (some b)) 7) y.bf.length (.known 0))
  rw[aF,hy]
  unfold nu
  rw[hf7];rfl
 ·show yw _ _ 7 10 y.bf.length _ (y.bf.flatMap dV)
  rw[hy]
  exact .nil hf7
 ·rcases zV (up g.f 7 none) 6 b k with e' | e' | e'
  ·exact .inl e'
  ·by_cases hk:k=7
   ·rw[hk];exact .inr (.inr hf7)
   ·rw[eW hk]at e';exact .inr (.inl e')
  ·exact .inr (.inr e')
 ·show y.bf.length<=_
  rw[hy];exact uQ _
def Y8:Sv:=⟨⟨#[]⟩,⟨#[]⟩,0,0,0,0,0,0,0,[]⟩
theorem AR.anE{g:Gh}{b:Nat}(he:e.sv=none)(i:AR {e with sv:=some b} g h st)(hk:st.p.bB.length+1<=st.p.k):
    ∃y cap' h1 h2 S',(∀(β:Type) (k:Option (Nat×Nat)->Nat->aM->H->Option β),fS 10 112 (nu g.f 4) st.p.bB.length g.gc (di 10 (.slice (some (h.next,0)) 1 (.known 1)) (h.new (.cells (cU st.sv (.slice (nu g.f 7) st.sv.bf.length g.bc)) false))) (h.new (.cells (cU st.sv (.slice (nu g.f 7) st.sv.bf.length g.bc)) false)) k=k (some (y,0)) (st.p.bB.length+1) cap' h1)/\
    Mod (own (nu g.f 4)) h h1/\(∀(β:Type) (k:H->Option β),bK h1 e.b 17 1 [.slice (some (y,0)) (st.p.bB.length+1) cap'] k=k h2)/\Fr (oO g.f) h S' h2/\Inv e h2 {st with p:={st.p with bB:=st.p.bB++[st.sv]},sv:=Y8} S':=by
  have hl:st.p.k<=e.l.length:=i.ok.k
  have hl2:e.l.length<=400000:=i.ok.len
  obtain⟨y,cap',h1,e1,hn,YT,ar1,OH,m1⟩:=i.ow.push (bytes:=112) (by decide:4<12) i.gp (xs:=cU st.sv (.slice (nu g.f 7) st.sv.bf.length g.bc)) rfl rfl (by decide) (by omega) (by omega)
  have dr:up g.f 4 (some y) 0=some e.b:=(eW (by decide)).trans i.fb
  have hc0:up g.c 4 (g.fm.flatMap yE++cU st.sv (.slice (nu g.f 7) st.sv.bf.length g.bc)) 0=sQ e g st.p:=(eW (by decide)).trans i.cb
  obtain⟨v,hv⟩:∃v,v=sQ e {g with f:=up g.f 4 (some y),gc:=cap'} {st.p with bB:=st.p.bB++[st.sv]}:=⟨_,rfl⟩
  obtain⟨ow2,Z0⟩:=YT.wr dr v
  have fr:=OH.trans Z0
  have hr:Row h 10 (nu g.f 7) st.sv.bf.length g.bc (st.sv.bf.flatMap dV):=(i.bp.grow i.ow).row
  have hr7:∀x,x∈own (nu g.f 7)->g.f 7=some x:=by
    intro x hx
    cases h7:g.f 7 with
    | none=>rw[nu,h7]at hx;simp at hx
    | some z=>
      rw[nu,h7]at hx;obtain rfl:x=z:=by simpa using hx
      rfl
  refine⟨y,cap',h1,_,_,e1,m1,λβ k=>YT.bK dr rfl (by rw[hc0];exact(by decide:18<=21)) rfl ?_ k,(fr.trans (ow2.Tx 6)).trans ((ow2.drop 6).Tx 7),?_⟩
  · rw[hc0,hv]
    simp only[sQ,wH,ya (f:=g.f) (i:=4) (j:=1) (v:=some y) (by decide),ya (f:=g.f) (i:=4) (j:=2) (v:=some y) (by decide),ya (f:=g.f) (i:=4) (j:=3) (v:=some y) (by decide),hU]
    rfl
  · have hff:up (up (up g.f 4 (some y)) 6 none) 7 none 6=none:=by rw[eW (by decide),aF]
    have ow3:=((ow2.drop 6).drop 7).lY hff (cU Y8 (.slice none 0 (.known 0)))
    refine⟨{g with f:=up (up (up g.f 4 (some y)) 6 none) 7 none,c:=up (up (up g.c 4 (g.fm.flatMap yE++cU st.sv (.slice (nu g.f 7) st.sv.bf.length g.bc))) 0 v) 6 (cU Y8 (.slice none 0 (.known 0))),gc:=cap',bc:=.known 0,fm:=g.fm++[(st.sv,nu g.f 7,g.bc)]},rfl,ow3,?_,?_,i.B8.mod fr.mod λb hb=>i.Si (.inl hb),
      ((((i.sp.ne (by decide)).lY (by decide)).OK (by decide)).OK (by decide)).lY (by decide),((((i.vp.ne (by decide)).lY (by decide)).OK (by decide)).OK (by decide)).lY (by decide),((((i.tp.ne (by decide)).lY (by decide)).OK (by decide)).OK (by decide)).lY (by decide),?_,?_,?_,?_,i.fy,i.cy,?_,?_,?_,i.fk,i.ck,?_,⟨i.ok.k,i.ok.ag,i.ok.au,i.ok.bh,?_,uQ _,i.ok.len⟩⟩
    · exact i.fb
    · exact hv
    · have:=((((ar1.lY (j:=0) (v:=v) (by decide)).OK (j:=6) (w:=none) (by decide)).OK (j:=7) (w:=none) (by decide)).lY (j:=6) (v:=cU Y8 (.slice none 0 (.known 0))) (by decide))
      simpa[yE]using this
    · show(g.fm++[(st.sv,nu g.f 7,g.bc)]).map (·.1)=st.p.bB++[st.sv]
      rw[List.map_append,i.PI];rfl
    · intro x hx
      rcases List.mem_append.1 hx with hx | hx
      · exact(i.rows x hx).mod fr.mod λb hb=>i.Si (.inr ⟨x,hx,hb⟩)
      · obtain rfl:=List.mem_singleton.1 hx
        refine(hr.mod m1 λb hb hb4=>?_).mod (S:=[e.b]) ((Mod.refl _ _).set (.inr (by simp)) _) λb hb he'=>?_
        · have h7:=hr7 b hb
          cases h4:g.f 4 with
          | none=>rw[nu,h4]at hb4;simp at hb4
          | some z=>
            rw[nu,h4]at hb4;obtain rfl:b=z:=by simpa using hb4
            exact absurd (i.ow.inj _ _ _ h7 h4) (by decide)
        · have h7:=hr7 b hb
          obtain rfl:b=e.b:=by simpa using he'
          exact absurd (i.ow.inj _ _ _ h7 i.fb) (by decide)
    · intro x hx
      rcases List.mem_append.1 hx with hx | hx
      · exact i.Ux x hx
      · obtain rfl:=List.mem_singleton.1 hx
        intro z hz
        exact i.ow.ge 7 z (hr7 z hz)
    · exact(show up (up (up g.f 4 (some y)) 6 none) 7 none 6=none from hff).trans he.symm
    · show up (up (up g.c 4 (g.fm.flatMap yE++cU st.sv (.slice (nu g.f 7) st.sv.bf.length g.bc))) 0 v) 6 (cU Y8 (.slice none 0 (.known 0))) 6=cU Y8 (.slice (nu (up (up (up g.f 4 (some y)) 6 none) 7 none) 7) 0 (.known 0))
      rw[aF]
      unfold nu
      rw[aF];rfl
    · exact .nil (aF (up (up g.f 4 (some y)) 6 none) 7 none)
    · intro x hx j
      show up (up (up g.f 4 (some y)) 6 none) 7 none j≠some x
      have hx':x<h.next/\((∀k,g.f k≠some x)∨g.f 7=some x):=by
        rcases hx with hx | ⟨z,hz,hx⟩
        · exact⟨i.B8.lt x hx,.inl (i.kl x (.inl hx))⟩
        · rcases List.mem_append.1 hz with hz | hz
          · exact⟨(i.rows z hz).lt x hx,.inl (i.kl x (.inr ⟨z,hz,hx⟩))⟩
          · obtain rfl:=List.mem_singleton.1 hz
            exact⟨hr.lt x hx,.inr (hr7 x hx)⟩
      by_cases h7:j=7
      · rw[h7,aF];simp
      · rw[eW h7]
        by_cases h6:j=6
        · rw[h6,aF];simp
        · rw[eW h6]
          by_cases h4:j=4
          · rw[h4,aF];intro e';have:=oh e';omega
          · rw[eW h4]
            rcases hx'.2 with hx2 | hx2
            · exact hx2 j
            · intro e';exact h7 (i.ow.inj _ _ _ e' hx2)
    · simpa using hk
end
def aa(l:List Wd)(k:Nat):Bs:=match l[k]? with | some w=>w.1 | none=>⟨#[]⟩
def bA(s:Bs)(l:List Wd)(k:Nat):Int:=match l[k]? with | some w=>w.2.1 | none=>s.size
def bE(p:Ps)(at' c:Int):Ps:=if p.code=0 then{p with bad:=at',code:=c}else p
def dS(s:Bs)(l:List Wd)(w:Bs)(p:Ps):Ps×Bool:=if aa l p.k=w then({p with k:=p.k+1},true)else(bE p (bA s l p.k) 180,false)
def iI(w:Bs):Bool:=decide (w=⟨#[]⟩)||decide (w=⟨#[10]⟩)||decide (w=⟨#[123]⟩)||decide (w=⟨#[125]⟩)
def aS(s:Bs)(l:List Wd)(p:Ps):Ps×Bs×Int×Bool:=if iI (aa l p.k)=true then(bE p (bA s l p.k) 180,⟨#[]⟩,bA s l p.k,false)else({p with k:=p.k+1},aa l p.k,bA s l p.k,true)
theorem kD{l:List Wd}{k:Nat}(h:aa l k≠⟨#[]⟩):k<l.length:=by
 unfold aa at h
 split at h
 ·next w hw=>exact(sS hw).1
 ·exact absurd rfl h
theorem UK{w:Bs}(h:iI w=false):w≠⟨#[]⟩:=by
 rintro rfl;simp[iI]at h
theorem kJ(p:Ps)(a c:Int):(bE p a c).k=p.k/\(bE p a c).ag=p.ag/\(bE p a c).au=p.au/\(bE p a c).bh=p.bh/\(bE p a c).bB=p.bB:=by
 unfold bE;split<;>exact⟨rfl,rfl,rfl,rfl,rfl⟩
section
variable {e:En}{h:H}{st:St}{S:List Nat}
theorem Inv.okp(i:Inv e h st S):Okp e st:=by obtain⟨_,_,i⟩:=i;exact i.ok
theorem Okp.fail(o:Okp e st)(a c:Int):Okp e {st with p:=bE st.p a c}:=by
 obtain⟨h1,h2,h3,h4,h5⟩:=kJ st.p a c
 exact⟨h1▸o.k,by rw[h1,h2];exact o.ag,by rw[h1,h3];exact o.au,by rw[h1,h4];exact o.bh,by rw[h1,h5];exact o.bB,by rw[h1];exact o.bf,o.len⟩
theorem Okp.step(o:Okp e st)(hk:st.p.k<e.l.length):Okp e {st with p:={st.p with k:=st.p.k+1}}:=
 ⟨hk,Nat.le_succ_of_le o.ag,Nat.le_succ_of_le o.au,Nat.le_succ_of_le o.bh,Nat.le_succ_of_le o.bB,Nat.le_succ_of_le o.bf,o.len⟩
theorem Mo(i:Inv e h st S)(n:Nat):ca (n+1) gv [.ptr (some (e.b,0))] h=some (.str (aa e.l st.p.k),h):=by
 obtain⟨g,rfl,i⟩:=i
 rw[Ec]
 simp only[ai,Nat.zero_add]
 rw[i.cell (o:=2) rfl,aj,i.cell (o:=1) rfl,ah]
 unfold aa
 cases hw:e.l[st.p.k]? with
 | none=>
  have:e.l.length<=st.p.k:=List.getElem?_eq_none_iff.1 hw
  rw[show decide ((st.p.k:Int)>=(Nat.cast e.l.length))=true by simp;omega,bM]
 | some w=>
  have:st.p.k<e.l.length:=(sS hw).1
  rw[show decide ((st.p.k:Int)>=(Nat.cast e.l.length))=false by simp;omega,br,i.cell (o:=1) rfl,ah,i.cell (o:=2) rfl,aj,i.B8.Wq BY hw (v:=.str w.1) rfl,az]
theorem FI(i:Inv e h st S)(n:Nat):ca (n+1) eI [.ptr (some (e.b,0))] h=some (.int .i64 (bA e.s e.l st.p.k),h):=by
 obtain⟨g,rfl,i⟩:=i
 rw[CM]
 simp only[ai,Nat.zero_add]
 rw[i.cell (o:=2) rfl,aj,i.cell (o:=1) rfl,ah]
 unfold bA
 cases hw:e.l[st.p.k]? with
 | none=>
  have:e.l.length<=st.p.k:=List.getElem?_eq_none_iff.1 hw
  rw[show decide ((st.p.k:Int)>=(Nat.cast e.l.length))=true by simp;omega,bM,i.cell (o:=0) rfl,az]
 | some w=>
  have:st.p.k<e.l.length:=(sS hw).1
  rw[show decide ((st.p.k:Int)>=(Nat.cast e.l.length))=false by simp;omega,br,i.cell (o:=1) rfl,ah,i.cell (o:=2) rfl,aj,i.B8.ix2 BY hw 1 (v:=.int .i64 w.2.1) rfl,aj]
theorem gu(i:Inv e h st S)(n:Nat)(a c:Int):cg (ca (n+1) aK [.ptr (some (e.b,0)),.int .i64 a,.int .i64 c] h) λr h'=>r=.bool false/\Fr S h S h'/\Inv e h' {st with p:=bE st.p a c} S:=by
 have ok:=i.okp.fail a c
 have i0:=i
 obtain⟨g,rfl,i⟩:=i
 rw[D9]
 simp only[ai,Nat.zero_add]
 rw[i.cell (o:=20) rfl,aj]
 unfold bE at ok ⊢
 by_cases hc:st.p.code=0
 ·rw[if_pos hc]at ok ⊢
  rw[hc,show((0:Int)==0)=true from rfl,bM]
  obtain⟨h1,e1,f1,i1⟩:=i0.wrP (p':={st.p with bad:=a}) (o:=19) (n:=1) (xs:=[.int .i64 a]) rfl (by decide) rfl (λ_=>rfl) rfl rfl rfl rfl ⟨ok.k,ok.ag,ok.au,ok.bh,ok.bB,ok.bf,ok.len⟩
  obtain⟨h2,e2,f2,i2⟩:=i1.wrP (p':={st.p with bad:=a,code:=c}) (o:=20) (n:=1) (xs:=[.int .i64 c]) rfl (by decide) rfl (λ_=>rfl) rfl rfl rfl rfl ok
  rw[e1,e2]
  exact .pure ⟨rfl,f1.trans f2,i2⟩
 ·rw[if_neg hc]at ok ⊢
  rw[show(st.p.code==0)=false by simpa using hc,br]
  exact .pure ⟨rfl,.refl _ _,i0⟩
theorem Inv.step(i:Inv e h st S)(hk:st.p.k<e.l.length):∃h',(∀(β:Type) (k:H->Option β),(af h e.b 2 λv=>asInt .i64 v λx=>bK h e.b 2 1 [.int .i64 (IntKind.i64.wrap (x+1))] k)=k h')/\Fr S h S h'/\Inv e h' {st with p:={st.p with k:=st.p.k+1}} S:=by
 have ok:=i.okp
 have i0:=i
 obtain⟨g,rfl,i⟩:=i
 obtain⟨h1,e1,f1,i1⟩:=i0.wrP (p':={st.p with k:=st.p.k+1}) (o:=2) (n:=1) (xs:=[.int .i64 ((st.p.k+1:Nat):Int)]) rfl (by decide) rfl (λ_=>rfl) rfl rfl rfl rfl (ok.step hk)
 refine⟨h1,λβ k=>?_,f1,i1⟩
 rw[i.cell (o:=2) rfl,aj,aG (by have:=ok.len;omega),e1]
theorem Jp(i:Inv e h st S)(n:Nat){w:Bs}(hw:w≠⟨#[]⟩):cg (ca (n+2) cz [.ptr (some (e.b,0)),.str w] h) λr h'=>r=.bool (dS e.s e.l w st.p).2/\Fr S h S h'/\Inv e h' {st with p:=(dS e.s e.l w st.p).1} S:=by
 rw[Ea,Mo i,fD,az,yb]
 unfold dS
 by_cases hp:aa e.l st.p.k=w
 ·rw[decide_eq_true hp,Bool.not_true,br,if_pos hp]
  simp only[ai,Nat.zero_add]
  obtain⟨h1,e1,f1,i1⟩:=i.step (kD (by rw[hp];exact hw))
  rw[e1]
  exact .pure ⟨rfl,f1,i1⟩
 ·rw[decide_eq_false hp,Bool.not_false,bM,if_neg hp,FI i,fD,aj]
  refine(gu i n _ _).bind ?_
  rintro _ h1 ⟨rfl,f1,i1⟩
  simp only[aq]
  exact .pure ⟨rfl,f1,i1⟩
theorem y9(i:Inv e h st S)(n:Nat):cg (ca (n+2) dF [.ptr (some (e.b,0))] h) λr h'=>r=.dJ [.str (aS e.s e.l st.p).2.1,.int .i64 (aS e.s e.l st.p).2.2.1,.bool (aS e.s e.l st.p).2.2.2]/\Fr S h S h'/\Inv e h' {st with p:=(aS e.s e.l st.p).1} S:=by
 rw[CO,Mo i,fD,az,FI i,fD,aj]
 have key:∀b:Bool,b=iI (aa e.l st.p.k)->cg (fe (n+1) (some (e.b,0)) (aa e.l st.p.k) (bA e.s e.l st.p.k) b h) λr h'=>r=.dJ [.str (aS e.s e.l st.p).2.1,.int .i64 (aS e.s e.l st.p).2.2.1,.bool (aS e.s e.l st.p).2.2.2]/\Fr S h S h'/\Inv e h' {st with p:=(aS e.s e.l st.p).1} S:=by
  rintro _ rfl
  rw[Aj]
  unfold aS
  cases hs:iI (aa e.l st.p.k)with
  | true=>
   rw[bM,if_pos rfl]
   refine(gu i n _ _).bind ?_
   rintro _ h1 ⟨rfl,f1,i1⟩
   simp only[aq]
   exact .pure ⟨rfl,f1,i1⟩
  | false=>
   rw[br,if_neg (by decide)]
   simp only[ai,Nat.zero_add]
   obtain⟨h1,e1,f1,i1⟩:=i.step (kD (UK hs))
   rw[e1]
   exact .pure ⟨rfl,f1,i1⟩
 simp only[yb]
 unfold iI at key
 by_cases h1:aa e.l st.p.k=⟨#[]⟩
 ·rw[decide_eq_true h1,bM]
  exact key _ (by rw[decide_eq_true h1];rfl)
 rw[decide_eq_false h1,br]
 by_cases h2:aa e.l st.p.k=⟨#[10]⟩
 ·rw[decide_eq_true h2,bM]
  exact key _ (by rw[decide_eq_true h2];simp)
 rw[decide_eq_false h2,br]
 by_cases h3:aa e.l st.p.k=⟨#[123]⟩
 ·rw[decide_eq_true h3,bM]
  exact key _ (by rw[decide_eq_true h3];simp)
 rw[decide_eq_false h3,br]
 exact key _ (by rw[decide_eq_false h1,decide_eq_false h2,decide_eq_false h3];simp)
end
def uO(w:Bs)(xs:List Bs):Bool:=xs.any λt=>decide (w=t)
theorem vq{w:Bs}{xs:List Bs}:uO w xs=true↔w∈xs:=by simp[uO]
theorem Jn{w:Bs}{xs:List Bs}(h:w∉xs):uO w xs=false:=by
 cases hm:uO w xs with
 | false=>rfl
 | true=>exact absurd (vq.1 hm) h
theorem MN{h:H}{p:Pt}{c:aM}{xs:List Bs}(r:Row h 1 p xs.length c (xs.map .str))(hx:xs.length<=400000)(w:Bs)(n:Nat):∀(rest pre:List Bs) (m:Nat),xs=pre++rest->w∉pre->rest.length<m->
  ∃q:Int,s6 n m p xs.length c w (Nat.cast xs.length) (pre.length:Nat) h=some (.int .i64 q,h)/\decide (q>=0)=uO w xs
 | [],pre,m+1,e,hw,_=>by
  rw[BI,aT (by rw[e];simp),br]
  exact⟨-1,rfl,by rw[e,List.append_nil,Jn hw];rfl⟩
 | t::ts,pre,m+1,e,hw,hm=>by
  have j9:xs[pre.length]?=some t:=by rw[e];simp
  have hlt:pre.length<xs.length:=(sS j9).1
  rw[BI,cL hlt,bM,r.Mh j9,az,yb]
  by_cases ht:w=t
  ·rw[decide_eq_true ht,bM]
   exact⟨_,rfl,by rw[decide_eq_true (show((pre.length:Nat):Int)>=0 by omega),vq.2 (by rw[e,ht];simp)]⟩
  ·rw[decide_eq_false ht,br,aG (by omega)]
   have:=MN r hx w n ts (pre++[t]) m (by rw[e];simp) (by simp[hw,ht]) (by simp at hm;omega)
   simpa using this
theorem SU{h:H}{p:Pt}{c:aM}{xs:List Bs}(r:Row h 1 p xs.length c (xs.map .str))(hx:xs.length<=400000)(w:Bs){n:Nat}(hn:xs.length+4<=n):ca n Dh [.slice p xs.length c,.str w] h=some (.bool (uO w xs),h):=by
 obtain⟨n,rfl⟩:∃m,n=m+2:=⟨n - 2,by omega⟩
 obtain⟨q,e1,e2⟩:=MN r hx w n xs [] n rfl (by simp) (by omega)
 rw[SX,OS]
 rw[show s6 n n p xs.length c w (Nat.cast xs.length) 0 h=some (.int .i64 q,h)from e1,fD,aj,e2]
theorem N6{h:H}{p:Pt}{c:aM}{xs:List Bs}(r:Row h 1 p xs.length c (xs.map .str))(hx:xs.length<=400000)(w:Bs)(n:Nat):∀(rest pre:List Bs) (m:Nat),xs=pre++rest->w∉pre->rest.length<m->
  ∃q:Int,dY n m p xs.length c w (Nat.cast xs.length) (pre.length:Nat) h=some (.int .i64 q,h)/\decide (q>=0)=uO w xs
 | [],pre,m+1,e,hw,_=>by
  rw[mU,aT (by rw[e];simp),br]
  exact⟨-1,rfl,by rw[e,List.append_nil,Jn hw];rfl⟩
 | t::ts,pre,m+1,e,hw,hm=>by
  have j9:xs[pre.length]?=some t:=by rw[e];simp
  have hlt:pre.length<xs.length:=(sS j9).1
  rw[mU,cL hlt,bM,r.Mh j9,az,yb]
  by_cases ht:w=t
  ·rw[decide_eq_true ht,bM]
   exact⟨_,rfl,by rw[decide_eq_true (show((pre.length:Nat):Int)>=0 by omega),vq.2 (by rw[e,ht];simp)]⟩
  ·rw[decide_eq_false ht,br,aG (by omega)]
   have:=N6 r hx w n ts (pre++[t]) m (by rw[e];simp) (by simp[hw,ht]) (by simp at hm;omega)
   simpa using this
theorem ad2{h:H}{p:Pt}{c:aM}{xs:List Bs}(r:Row h 1 p xs.length c (xs.map .str))(hx:xs.length<=400000)(w:Bs){n:Nat}(hn:xs.length+4<=n):ca n iw [.slice p xs.length c,.str w] h=some (.bool (uO w xs),h):=by
 obtain⟨n,rfl⟩:∃m,n=m+2:=⟨n - 2,by omega⟩
 obtain⟨q,e1,e2⟩:=N6 r hx w n xs [] n rfl (by simp) (by omega)
 rw[vE,xC]
 rw[show dY n n p xs.length c w (Nat.cast xs.length) 0 h=some (.int .i64 q,h)from e1,fD,aj,e2]
def cH(w:Bs):Bs×Bool:=if(bs w).head?=some 45 then(mk ((bs w).drop 1),true)else(w,false)
theorem agx(w:Bs)(n:Nat)(h:H):ca (n+3) sX [.str w,.str (⟨#[45]⟩:ByteArray)] h=some (.dJ [.str (cH w).1,.bool (cH w).2],h):=by
 rw[FT,BD,BE]
 unfold cH
 have e1:(Nat.cast (⟨#[45]⟩:ByteArray).size:Int)=1:=rfl
 rw[e1]
 by_cases h0:1<=w.size
 ·rw[show decide (((Nat.cast w.size):Int)>=1)=true by simp;omega,bM,Ti (by omega) (by omega),fD,aq,yb]
  have hx:(w.extract 0 1=(⟨#[45]⟩:ByteArray))↔(bs w).head?=some 45:=by
   constructor
   ·intro e
    have:=congrArg bs e
    rw[jB]at this
    cases hb:bs w with
    | nil=>rw[<-aP,hb]at h0;simp at h0
    | cons x l=>
     rw[hb]at this
     have:[x]=[45]:=this
     simpa using this
   ·intro e
    refine oI ?_
    rw[jB]
    cases hb:bs w with
    | nil=>rw[hb]at e;simp at e
    | cons x l=>
     rw[hb]at e
     obtain rfl:x=45:=by simpa using e
     rfl
  rw[show(1:Int).toNat=1 from rfl]
  by_cases hc:(bs w).head?=some 45
  ·rw[decide_eq_true (hx.2 hc),Bool.not_true,br,Iz (by omega) (by omega),if_pos hc,fD,ay,dx,fV,aE]
   have:w.extract 1 w.size=mk ((bs w).drop 1):=oI (by rw[jB,ko,<-aP,List.take_of_length_le (by simp)])
   rw[<-this]
   rfl
  ·rw[decide_eq_false (λe=>hc (hx.1 e)),Bool.not_false,bM,if_neg hc,fD,ay,dx,fV,aE]
 ·rw[show decide (((Nat.cast w.size):Int)>=1)=false by simp;omega,br,fD,aq,Bool.not_false,bM]
  have hb:bs w=[]:=List.length_eq_zero_iff.1 (by rw[aP];omega)
  rw[hb]
  simp
abbrev nl:Bs:=⟨#[10]⟩
structure Kept(S:List Nat)(h:H)(i:Nat)(o:cK):Prop where
 at_:At h i o
 out:i∉S
theorem Kept.fr{S S':List Nat}{h h':H}{i:Nat}{o:cK}(k:Kept S h i o)(f:Fr S h S' h'):Kept S' h' i o:=by
 obtain⟨h1,h2,h3⟩:=f.keep k.at_.lt k.out
 exact⟨⟨h2,h1.trans k.at_.get⟩,h3⟩
theorem Kept.cell{β:Type}{S:List Nat}{h:H}{i:Nat}{v:AV}{cs:List AV}{ro:Bool}(k:Kept S h i (.cells (v::cs) ro))(f:AV->Option β):af h i 0 f=f v:=cW k.at_.get rfl f
theorem ZL{f:Nat}(hf:(V6 T.Pm f).isSome=false)(n:Nat)(args:List AV)(h:H)(k:AV->H->Option Unit):Hf T n f args h k=(ca n f args h).bind λq=>k q.1 q.2:=by
 unfold Hf;rw[hf]
theorem acO{f:Nat}(hf:(V6 T.Pm f).isSome=false){n:Nat}{args:List AV}{h:H}{Q:AV->H->Prop}(r:cg (ca n f args h) Q):JZ (λkk=>Hf T n f args h kk) Q:=by
 intro kk hk
 show Hf T n f args h kk=some ()
 rw[ZL hf]
 obtain⟨v,h',e,q⟩:=r
 rw[e,fD]
 exact hk v h' q
def ajQ(f:Nat):Prop:=∀(b:Bool) (k:AV->Option Unit),VI T.toTab f (.bool b) k=k (.bool b)
def afW(f:Nat):Prop:=∀(b:Bool) (k:AV->R),VI T.toTab f (.bool b) k=k (.bool b)
structure oF(e:En)(S0:List Nat)(h0:H)(N:Nat)(f:Nat)(x y:List AV)(sem:St->St×Bool):Prop where
 K6:ajQ f
 run:∀n,N<=n->∀h S st,Fr S0 h0 S h->Inv e h st S->JZ (λkk=>Hf T n f (x++[]++y) h kk) λr h'=>∃S',r=.bool (sem st).2/\Fr S h S' h'/\Inv e h' (sem st).1 S'
theorem oF.fr{e:En}{S0 S1:List Nat}{h0 h1:H}{N f:Nat}{x y:List AV}{sem:St->St×Bool}(r:oF e S0 h0 N f x y sem)(fr:Fr S0 h0 S1 h1):oF e S1 h1 N f x y sem:=
 ⟨r.K6,λn hn h S st f' i=>r.run n hn h S st (fr.trans f') i⟩
def kW{α:Type}(e:En)(q:Nat×Nat)(n:Nat)(enc:α->List AV)(put:St->α->St):Prop:=
 ∀h st S v,Inv e h st S->∃h',(∀(β:Type) (k:H->Option β),bK h q.1 q.2 n (enc v) k=k h')/\Fr S h S h'/\Inv e h' (put st v) S
def aA(st:St)(p:Ps):St:={st with p:=p}
def k8(s:Bs)(l:List Wd)(st:St):St×Bool:=(aA st (dS s l nl st.p).1,(dS s l nl st.p).2)
def yL(s:Bs)(l:List Wd)(put:St->Int->St)(lo hi:Int)(st:St):Ps×Bs×Int×Bool->St×Bool
 | (p,_,_,false)=>(aA st p,false)
 | (p,w,at',true)=>if(cl (bs w)).2=true/\lo<=(cl (bs w)).1/\(cl (bs w)).1<=hi then k8 s l (put (aA st p) (cl (bs w)).1)else(aA st (bE p at' 182),false)
def bC(s:Bs)(l:List Wd)(put:St->Int->St)(lo hi:Int)(st:St):St×Bool:=yL s l put lo hi st (aS s l st.p)
section
variable {e:En}{S0:List Nat}{h0:H}
theorem Fu{h:H}{S:List Nat}{st:St}(i:Inv e h st S)(n:Nat):cg ((ca (n+2) cz [.ptr (some (e.b,0)),.str nl] h).bind λq=>asBool q.1 λx=>some (AV.bool x,q.2):R) λr h'=>r=.bool (k8 e.s e.l st).2/\Fr S h S h'/\Inv e h' (k8 e.s e.l st).1 S:=by
 refine(Jp i n (by decide)).bind ?_
 rintro _ h1 ⟨rfl,f1,i1⟩
 simp only[aq]
 exact .pure ⟨rfl,f1,i1⟩
theorem aaA{i1 i2 i3 i4:Nat}{q:Nat×Nat}{lo hi:Int}{put:St->Int->St}(hp:kW e q 1 (λv=>[.int .i64 v]) put)
  (k1:Kept S0 h0 i1 (.cells [.ptr (some (e.b,0))] false)) (k2:Kept S0 h0 i2 (.cells [.int .i64 lo] false)) (k3:Kept S0 h0 i3 (.cells [.int .i64 hi] false)) (k4:Kept S0 h0 i4 (.cells [.ptr (some q)] false)):
  oF e S0 h0 30 iT [] [.ptr (some (i1,0)),.ptr (some (i2,0)),.ptr (some (i3,0)),.ptr (some (i4,0))] (bC e.s e.l put lo hi):=by
 refine⟨λb k=>by kernel_rfl,λn hn h S st fr i=>acO (by kernel_rfl) ?_⟩
 obtain⟨n,rfl⟩:∃m,n=m+3:=⟨n - 3,by omega⟩
 show cg (ca (n+2+1) iT [.ptr (some (i1,0)),.ptr (some (i2,0)),.ptr (some (i3,0)),.ptr (some (i4,0))] h) _
 rw[Ag]
 simp only[ai,Nat.zero_add]
 rw[(k1.fr fr).cell,bg]
 refine(y9 i n).bind ?_
 unfold bC
 generalize aS e.s e.l st.p=v
 obtain⟨p1,w,a1,is⟩:=v
 rintro _ h1 ⟨rfl,f1,j1⟩
 simp only[ay,dx,cu,fV,aE]
 refine(HA w (by omega) h1).bind ?_
 rintro _ h2 ⟨m2,rfl⟩
 unfold tV
 simp only[ay,cu,fV,aE]
 have g1:Fr S h S h2:=f1.trans (.ak m2)
 replace j1:=j1.frame m2
 cases is with
 | false=>
  rw[Bool.not_false,bM]
  exact .pure ⟨S,rfl,g1,j1⟩
 | true=>
  rw[Bool.not_true,br]
  rw[show yL e.s e.l put lo hi st (p1,w,a1,true)=if(cl (bs w)).2=true/\lo<=(cl (bs w)).1/\(cl (bs w)).1<=hi then k8 e.s e.l (put (aA st p1) (cl (bs w)).1)else(aA st (bE p1 a1 182),false)from rfl]
  have key:∀b:Bool,b=!(decide ((cl (bs w)).2=true/\lo<=(cl (bs w)).1/\(cl (bs w)).1<=hi))->
    cg (fo (n+2) (some (i1,0)) (some (i4,0)) a1 (cl (bs w)).1 b h2) λr h'=>∃S',r=.bool (if(cl (bs w)).2=true/\lo<=(cl (bs w)).1/\(cl (bs w)).1<=hi then k8 e.s e.l (put (aA st p1) (cl (bs w)).1)
  else(aA st (bE p1 a1 182),false)).2/\Fr S h S' h'/\Inv e h' (if(cl (bs w)).2=true/\lo<=(cl (bs w)).1/\(cl (bs w)).1<=hi then k8 e.s e.l (put (aA st p1) (cl (bs w)).1)
  else(aA st (bE p1 a1 182),false)).1 S':=by
   rintro b hb
   rw[xP]
   simp only[ai,Nat.zero_add]
   by_cases hc:(cl (bs w)).2=true/\lo<=(cl (bs w)).1/\(cl (bs w)).1<=hi
   ·rw[decide_eq_true hc]at hb
    rw[hb,Bool.not_true,br,if_pos hc,((k4.fr fr).fr g1).cell,bg]
    obtain⟨h3,e3,f3,j3⟩:=hp h2 _ S (cl (bs w)).1 j1
    rw[ai,e3,(((k1.fr fr).fr g1).fr f3).cell,bg]
    refine(Fu j3 n).mono ?_
    rintro _ h4 ⟨rfl,f4,j4⟩
    exact⟨S,rfl,(g1.trans f3).trans f4,j4⟩
   ·rw[decide_eq_false hc]at hb
    rw[hb,Bool.not_false,bM,if_neg hc,((k1.fr fr).fr g1).cell,bg]
    refine(gu j1 (n+1) _ _).bind ?_
    rintro _ h3 ⟨rfl,f3,j3⟩
    simp only[aq]
    exact .pure ⟨S,rfl,g1.trans f3,j3⟩
  cases hg:(cl (bs w)).2 with
  | false=>
   rw[Bool.not_false,bM]
   rw[hg]at key
   exact key _ (by simp)
  | true=>
   rw[Bool.not_true,br,((k2.fr fr).fr g1).cell,aj]
   rw[hg]at key
   by_cases h1:(cl (bs w)).1<lo
   ·rw[decide_eq_true h1,bM]
    exact key _ (by simp;omega)
   ·rw[decide_eq_false h1,br,((k3.fr fr).fr g1).cell,aj]
    refine key _ ?_
    by_cases h2:hi<(cl (bs w)).1
    ·rw[decide_eq_true h2,decide_eq_false (by rintro ⟨_,_,h⟩;omega)];rfl
    ·rw[decide_eq_false h2,decide_eq_true ⟨rfl,by omega,by omega⟩];rfl
end
def wP(s:Bs)(l:List Wd)(put:St->Int->St)(L:List (Bs×Int))(st:St):Ps×Bs×Int×Bool->St×Bool
 | (p,_,_,false)=>(aA st p,false)
 | (p,w,at',true)=>match lk L w with | some v=>k8 s l (put (aA st p) v) | none=>(aA st (bE p at' 182),false)
def cM(s:Bs)(l:List Wd)(put:St->Int->St)(L:List (Bs×Int))(st:St):St×Bool:=wP s l put L st (aS s l st.p)
def ID(s:Bs)(l:List Wd)(put:St->Cd->St)(st:St):Ps×Bs×Int×Bool->St×Bool
 | (p,_,_,false)=>(aA st p,false)
 | (p,w,at',true)=>if(eM w).2=true then k8 s l (put (aA st p) (xO (eM w).1))else(aA st (bE p at' 182),false)
def nF(s:Bs)(l:List Wd)(put:St->Cd->St)(st:St):St×Bool:=ID s l put st (aS s l st.p)
def pE(s:Bs)(l:List Wd)(r:St×Bool):St×Bool:=if r.2=true then k8 s l r.1 else(r.1,false)
def pJ(s:Bs)(l:List Wd)(xE:Bool)(tk:St->Bs->Int->St×Bool)(st:St):Ps×Bs×Int×Bool->St×Bool
 | (p,_,_,false)=>(aA st p,false)
 | (p,w,at',true)=>if(eL w).2=true then pE s l (tk (aA st {p with ag:=p.ag++[((eL w).1,at',xE)]}) (eL w).1 at')else(aA st (bE p at' 182),false)
def bt(s:Bs)(l:List Wd)(xE:Bool)(tk:St->Bs->Int->St×Bool)(st:St):St×Bool:=pJ s l xE tk st (aS s l st.p)
structure J0(e:En)(S0:List Nat)(h0:H)(N:Nat)(f:Nat)(x y:List AV)(tk:St->Bs->Int->St×Bool):Prop where
 K6:afW f
 run:∀n,N<=n->∀h S st a at',Fr S0 h0 S h->Inv e h st S->st.p.au.length+1<=st.p.k->cg (ca n f (x++[.str a,.int .i64 at']++y) h) λr h'=>∃S',r=.bool (tk st a at').2/\Fr S h S' h'/\Inv e h' (tk st a at').1 S'
def j8(put:St->Bs->St)(st:St)(a:Bs)(_:Int):St×Bool:=(put st a,true)
def zY(st:St)(a:Bs)(at':Int):St×Bool:=if uO a st.p.au=true then(aA st (bE st.p at' 181),false)else(aA st {st.p with au:=st.p.au++[a]},true)
theorem Oz(s:Bs)(l:List Wd)(p:Ps):(aS s l p).2.2.2=true->(aS s l p).1={p with k:=p.k+1}:=by
 unfold aS
 split
 ·intro h;cases h
 ·intro _;rfl
theorem UZ(s:Bs)(l:List Wd)(p:Ps):(aS s l p).2.1=⟨#[]⟩∨∃w∈l,(aS s l p).2.1=w.1:=by
 unfold aS
 split
 ·exact .inl rfl
 ·unfold aa
  cases hw:l[p.k]? with
  | none=>exact .inl rfl
  | some w=>exact .inr ⟨w,Hq hw,rfl⟩
theorem Gd(w:Bs):(eM w).1.length=6:=by
 unfold eM
 split
 ·split
  ·assumption
  ·rfl
 ·rfl
theorem Tq:∀{l:List Int},l.length=6->vX l=xQ (xO l)
 | [a,b,c,d,e,f],_=>rfl
section
variable {e:En}{S0:List Nat}{h0:H}
theorem ZO{i1 i2 i3 m:Nat}{o:cK}{q:Nat×Nat}{L:List (Bs×Int)}{put:St->Int->St}(hp:kW e q 1 (λv=>[.int .i64 v]) put)
  (k1:Kept S0 h0 i1 (.cells [.ptr (some (e.b,0))] false)) (k2:Kept S0 h0 i2 (.cells [.map (some m)] false)) (k3:Kept S0 h0 i3 (.cells [.ptr (some q)] false)) (km:Kept S0 h0 m o) (hm:yx AV.str (λv=>.int .i64 v) L o):
  oF e S0 h0 30 aU [] [.ptr (some (i1,0)),.ptr (some (i2,0)),.ptr (some (i3,0))] (cM e.s e.l put L):=by
 refine⟨λb k=>by kernel_rfl,λn hn h S st fr i=>acO (by kernel_rfl) ?_⟩
 obtain⟨n,rfl⟩:∃m,n=m+3:=⟨n - 3,by omega⟩
 show cg (ca (n+2+1) aU [.ptr (some (i1,0)),.ptr (some (i2,0)),.ptr (some (i3,0))] h) _
 rw[Af]
 simp only[ai]
 rw[(k1.fr fr).cell,bg]
 refine(y9 i n).bind ?_
 unfold cM
 generalize aS e.s e.l st.p=v
 obtain⟨p1,w,a1,is⟩:=v
 rintro _ h1 ⟨rfl,g1,j1⟩
 simp only[ay,dx,cu,fV,aE]
 rw[((k2.fr fr).fr g1).cell,Zu,Jl vl ((km.fr fr).fr g1).at_.get hm]
 cases is with
 | false=>
  rw[show wP e.s e.l put L st (p1,w,a1,false)=(aA st p1,false)from rfl]
  cases lk L w with
  | none=>rw[aj,Bool.not_false,bM];exact .pure ⟨S,rfl,g1,j1⟩
  | some v=>rw[aj,Bool.not_false,bM];exact .pure ⟨S,rfl,g1,j1⟩
 | true=>
  rw[show wP e.s e.l put L st (p1,w,a1,true)=(match lk L w with | some v=>k8 e.s e.l (put (aA st p1) v) | none=>(aA st (bE p1 a1 182),false))from rfl]
  cases lk L w with
  | none=>
   simp only
   rw[aj,Bool.not_true,br,Bool.not_false,bM,((k1.fr fr).fr g1).cell,bg]
   refine(gu j1 (n+1) _ _).bind ?_
   rintro _ h3 ⟨rfl,f3,j3⟩
   simp only[aq]
   exact .pure ⟨S,rfl,g1.trans f3,j3⟩
  | some v=>
   simp only
   rw[aj,Bool.not_true,br,br,((k3.fr fr).fr g1).cell,bg]
   obtain⟨h3,e3,f3,j3⟩:=hp h1 _ S v j1
   rw[ai,e3,(((k1.fr fr).fr g1).fr f3).cell,bg]
   refine(Fu j3 n).mono ?_
   rintro _ h4 ⟨rfl,f4,j4⟩
   exact⟨S,rfl,(g1.trans f3).trans f4,j4⟩
theorem agt{i1 i2:Nat}{q:Nat×Nat}{N:Nat}{put:St->Cd->St}(hp:kW e q 6 xQ put)(hw:∀w∈e.l,w.1.size<90000/\w.1.size+70<=N)(hN:70<=N)
  (k1:Kept S0 h0 i1 (.cells [.ptr (some (e.b,0))] false)) (k2:Kept S0 h0 i2 (.cells [.ptr (some q)] false)):
  oF e S0 h0 N jS [] [.ptr (some (i1,0)),.ptr (some (i2,0))] (nF e.s e.l put):=by
 refine⟨λb k=>by kernel_rfl,λn hn h S st fr i=>acO (by kernel_rfl) ?_⟩
 obtain⟨n,rfl⟩:∃m,n=m+3:=⟨n - 3,by omega⟩
 show cg (ca (n+2+1) jS [.ptr (some (i1,0)),.ptr (some (i2,0))] h) _
 rw[BQ]
 simp only[ai]
 rw[(k1.fr fr).cell,bg]
 refine(y9 i n).bind ?_
 unfold nF
 have hws:=UZ e.s e.l st.p
 generalize aS e.s e.l st.p=v at hws
 obtain⟨p1,w,a1,is⟩:=v
 have hsz:w.size<90000/\w.size+70<=N:=by
  rcases hws with e' | ⟨x,hx,e'⟩
  ·obtain rfl:w=⟨#[]⟩:=e'
   exact⟨by decide,hN⟩
  ·obtain rfl:w=x.1:=e'
   exact hw x hx
 rintro _ h1 ⟨rfl,g1,j1⟩
 simp only[ay,dx,cu,fV,aE]
 refine(abH hsz.1 (by omega) h1).bind ?_
 rintro _ h2 ⟨m2,rfl⟩
 unfold QZ
 simp only[ay,eV,fV,aE]
 rw[Tq (Gd w),aL,mZ (n:=6) rfl rfl rfl]
 have m3:Mod [] h1 (h2.new (.cells (xQ (xO (eM w).1)) false)):=m2.new _
 have g2:Fr S h S (h2.new (.cells (xQ (xO (eM w).1)) false)):=g1.trans (.ak m3)
 replace j1:=j1.frame m3
 have hg:(h2.new (.cells (xQ (xO (eM w).1)) false)).get h2.next=some (.cells (xQ (xO (eM w).1)) false):=aY _ _
 generalize h2.new (.cells (xQ (xO (eM w).1)) false)=h3 at *
 cases is with
 | false=>
  rw[Bool.not_false,bM]
  exact .pure ⟨S,rfl,g2,j1⟩
 | true=>
  rw[Bool.not_true,br,show ID e.s e.l put st (p1,w,a1,true)=if(eM w).2=true then k8 e.s e.l (put (aA st p1) (xO (eM w).1))else(aA st (bE p1 a1 182),false)from rfl]
  cases hc:(eM w).2 with
  | false=>
   rw[Bool.not_false,bM,if_neg (by decide),((k1.fr fr).fr g2).cell,bg]
   refine(gu j1 (n+1) _ _).bind ?_
   rintro _ h4 ⟨rfl,f3,j3⟩
   simp only[aq]
   exact .pure ⟨S,rfl,g2.trans f3,j3⟩
  | true=>
   rw[Bool.not_true,br,if_pos rfl,((k2.fr fr).fr g2).cell,bg,jF (n:=6) hg rfl]
   obtain⟨h4,e3,f3,j3⟩:=hp h3 _ S (xO (eM w).1) j1
   rw[ai,e3,(((k1.fr fr).fr g2).fr f3).cell,bg]
   refine(Fu j3 n).mono ?_
   rintro _ h5 ⟨rfl,f4,j4⟩
   exact⟨S,rfl,(g2.trans f3).trans f4,j4⟩
theorem ag4{i1:Nat}{q:Nat×Nat}{put:St->Bs->St}(hp:kW e q 1 (λa=>[.str a]) put)(k1:Kept S0 h0 i1 (.cells [.ptr (some q)] false)):
  J0 e S0 h0 1 tJ [] [.ptr (some (i1,0))] (j8 put):=by
 refine⟨λb k=>by kernel_rfl,λn hn h S st a at' fr i _=>?_⟩
 obtain⟨n,rfl⟩:∃m,n=m+1:=⟨n - 1,by omega⟩
 show cg (ca (n+1) tJ [.str a,.int .i64 at',.ptr (some (i1,0))] h) _
 rw[J5,ai,(k1.fr fr).cell,bg,ai]
 obtain⟨h3,e3,f3,j3⟩:=hp h _ S a i
 rw[e3]
 exact .pure ⟨S,rfl,f3,j3⟩
theorem aod{N:Nat}(hN:e.l.length+10<=N):J0 e S0 h0 N nx [.ptr (some (e.b,0))] [] zY:=by
 refine⟨λb k=>by kernel_rfl,λn hn h S st a at' fr i hk=>?_⟩
 obtain⟨n,rfl⟩:∃m,n=m+2:=⟨n - 2,by omega⟩
 show cg (ca (n+1+1) nx [.ptr (some (e.b,0)),.str a,.int .i64 at'] h) _
 have i0:=i
 have ok:=i.okp
 obtain⟨g,rfl,i⟩:=i
 rw[ET]
 simp only[ai,Nat.zero_add]
 rw[i.cell (o:=15) rfl,ah,SU (i.vp.grow i.ow).row (by have:=ok.au;have:=ok.k;have:=ok.len;omega) a (by have:=ok.au;have:=ok.k;omega),fD,aq]
 unfold zY
 cases hm:uO a st.p.au with
 | true=>
  rw[bM,if_pos rfl]
  refine(gu i0 n _ _).bind ?_
  rintro _ h4 ⟨rfl,f3,j3⟩
  simp only[aq]
  exact .pure ⟨_,rfl,f3,j3⟩
 | false=>
  rw[br,if_neg (by decide),i.cell (o:=15) rfl,ah]
  obtain⟨y,cap',h1,h2,S',e1,f1,e2,f2,j⟩:=i.ahI a hk
  rw[aL,e1,e2]
  exact .pure ⟨S',rfl,f2,j⟩
theorem Vn{i1 i2 i3:Nat}{N f:Nat}{x y:List AV}{xE:Bool}{tk:St->Bs->Int->St×Bool}(hw:∀w∈e.l,w.1.size<90000/\w.1.size+70<=N)(hN:70<=N)(ht:J0 e S0 h0 (N - 1) f x y tk)
  (k1:Kept S0 h0 i1 (.cells [.ptr (some (e.b,0))] false)) (k2:Kept S0 h0 i2 (.cells [.bool xE] false)) (k3:Kept S0 h0 i3 (.cells [.func f x y] false)):
  oF e S0 h0 N iz [] [.ptr (some (i1,0)),.ptr (some (i2,0)),.ptr (some (i3,0))] (bt e.s e.l xE tk):=by
 refine⟨λb k=>by kernel_rfl,λn hn h S st fr i=>acO (by kernel_rfl) ?_⟩
 obtain⟨n,rfl⟩:∃m,n=m+3:=⟨n - 3,by omega⟩
 show cg (ca (n+2+1) iz [.ptr (some (i1,0)),.ptr (some (i2,0)),.ptr (some (i3,0))] h) _
 rw[zl]
 simp only[ai]
 rw[(k1.fr fr).cell,bg]
 refine(y9 i n).bind ?_
 unfold bt
 have hws:=UZ e.s e.l st.p
 have TZ:=Oz e.s e.l st.p
 generalize aS e.s e.l st.p=v at hws TZ
 obtain⟨p1,w,a1,is⟩:=v
 have hsz:w.size<90000/\w.size+70<=N:=by
  rcases hws with e' | ⟨x,hx,e'⟩
  ·obtain rfl:w=⟨#[]⟩:=e'
   exact⟨by decide,hN⟩
  ·obtain rfl:w=x.1:=e'
   exact hw x hx
 rintro _ h1 ⟨rfl,g1,j1⟩
 simp only[ay,dx,cu,fV,aE]
 refine(So hsz.1 (by omega) h1).bind ?_
 rintro _ h2 ⟨m2,rfl⟩
 unfold IP
 simp only[ay,dx,fV,aE]
 have g2:Fr S h S h2:=g1.trans (.ak m2)
 replace j1:=j1.frame m2
 cases is with
 | false=>
  rw[Bool.not_false,bM]
  exact .pure ⟨S,rfl,g2,j1⟩
 | true=>
  rw[Bool.not_true,br,show pJ e.s e.l xE tk st (p1,w,a1,true)=if(eL w).2=true then pE e.s e.l (tk (aA st {p1 with ag:=p1.ag++[((eL w).1,a1,xE)]}) (eL w).1 a1)else(aA st (bE p1 a1 182),false)from rfl]
  cases hc:(eL w).2 with
  | false=>
   rw[Bool.not_false,bM,if_neg (by decide),((k1.fr fr).fr g2).cell,bg]
   refine(gu j1 (n+1) _ _).bind ?_
   rintro _ h4 ⟨rfl,f3,j3⟩
   simp only[aq]
   exact .pure ⟨S,rfl,g2.trans f3,j3⟩
  | true=>
   obtain rfl:p1={st.p with k:=st.p.k+1}:=TZ rfl
   have ok:=i.okp
   obtain⟨g,rfl,j1⟩:=j1
   rw[Bool.not_true,br,if_pos rfl,((k1.fr fr).fr g2).cell,bg,((k1.fr fr).fr g2).cell,bg]
   simp only[ai,Nat.zero_add]
   rw[j1.cell (o:=18) rfl,ah,((k2.fr fr).fr g2).cell,aq]
   obtain⟨y',cap',h3,h4,S',e1,f1,e2,f2,j⟩:=j1.aer ((eL w).1,a1,xE) (Nat.succ_le_succ ok.ag)
   have Vd:=((k1.fr fr).fr g2)
   dsimp only[uk]at e1 e2 ⊢
   rw[aL,e1,show kj (some (i1,0))=some i1 from rfl,zS (by rw[(Vd.fr f1).at_.get,wA Vd.at_.lt,Vd.at_.get])]
   rw[e2,(((k3.fr fr).fr g2).fr f2).cell,wO]
   refine(ht.run (n+2) (by omega) h4 S' _ (eL w).1 a1 ((fr.trans g2).trans f2) j (Nat.succ_le_succ ok.au)).bind ?_
   rintro _ h5 ⟨S5,rfl,f5,j5⟩
   rw[ht.K6,aq]
   unfold pE
   unfold aA at *
   generalize tk {st with p:={{st.p with k:=st.p.k+1}with ag:=st.p.ag++[((eL w).1,a1,xE)]}} (eL w).1 a1=r at *
   obtain⟨st5,b5⟩:=r
   cases b5 with
   | false=>exact .pure ⟨S5,rfl,(g2.trans f2).trans f5,j5⟩
   | true=>
    rw[bM,((((k1.fr fr).fr g2).fr f2).fr f5).cell,bg]
    refine(Fu j5 n).mono ?_
    rintro _ h6 ⟨rfl,f6,j6⟩
    exact⟨S5,rfl,((g2.trans f2).trans f5).trans f6,j6⟩
end
end Go.Ev.Tryz
