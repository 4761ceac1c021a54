/- Own texts, joined: . -/
import Derived.Test.YtongjlmclckboaaGreatDoorM6
import Derived.Test.YtongjlmclckboaaGreatDoorM4
import Derived.Shelf.Strings.OnBuilder
import Derived.Test.YtongjlmclckboaaGreatDoorProg
import Derived.KernelRfl
import Derived.Shelf.LaysM
import Derived.Shelf.Strconv.Itoa3
set_option linter.all false
namespace Go.Ev
open Go.Proofs Go.Shelf Go.RowKit
def cK.oo:cK->cK
 | .tc _ cs _=>.cells cs false
 | o=>o
def H.oo(h:H):H:=⟨h.next,λi=>(h.get i).map cK.oo⟩
theorem AQ(o:cK):o.oo.ro=o.ro:=by cases o<;>rfl
theorem OR.oo{r:Ren}{w:World}{t:D4}{o:cK}(h:OR r w t o):OR r w t o.oo:=by
 cases o with
 | tc e cs ex=>
  obtain⟨C,h1,h2,h3,h4,h5,_,h6⟩:=h
  exact⟨C,e,(0,0),h1,by omega,by omega,λi a v ha hv=>h6 i a v ha (by rw[h2,Nat.zero_add]at hv;exact hv),λ_ off _=>by simp⟩
 | _=>exact h
theorem zz{h:H}{i:Nat}{o:cK}(e:h.oo.get i=some o):∃o',h.get i=some o'/\o=o'.oo:=by
 simp only[H.oo,Option.map_eq_some_iff]at e
 obtain⟨o',h1,rfl⟩:=e
 exact⟨o',h1,rfl⟩
theorem xF{h:H}{i:Nat}{o:cK}(e:h.get i=some o):h.oo.get i=some o.oo:=by simp only[H.oo,e,Option.map_some]
theorem Rel.oo{r:Ren}{h:H}{w:World}(an:Rel r h w):Rel r h.oo w where
 wf:=λi o e=>by
  obtain⟨o',h1,_⟩:=zz e
  exact an.wf i o' h1
 obj:=λi t o hr e=>by
  obtain⟨o',h1,rfl⟩:=zz e
  exact(an.obj i t o' hr h1).oo
 inj:=λi j ti tj oi oj hi hj e1 e2 e=>by
  obtain⟨o1,h1,rfl⟩:=zz e1
  obtain⟨o2,h2,rfl⟩:=zz e2
  rw[AQ,AQ]
  exact an.inj i j ti tj o1 o2 hi hj h1 h2 e
 bound:=an.bound
 rH:=an.rH
theorem Post.aAQ{r r':Ren}{h h' h1:H}{w w':World}(an:Rel r h w)(p:Post r h.oo w r' h1 w')(hu:h'.oo=h1)(ht:∀i t e cs ex,r' i=some t->h'.get i=some (.tc e cs ex)->OR r' w' t (.tc e cs ex))(hs:∀i,i<h.next->h'.oo.get i=h.oo.get i->h'.get i=h.get i):Post r h w r' h' w':=by
 subst hu
 refine⟨p.le,p.dom,⟨λi o e=>p.rel.wf i _ (xF e),λi t o hr e=>?_,λi j ti tj oi oj hi hj e1 e2 e=>?_,p.rel.bound,p.rel.rH⟩,λb hb hk=>p.keep b hb λi t o h2 h3 h4=>?_,p.env,p.size,p.next,λi t h2 h3=>?_,λi o hi e=>?_,p.Sg,λi hi hne=>p.oD i hi λe=>hne (hs i hi e)⟩
 ·cases o with
  | tc e2 cs ex=>exact ht i t e2 cs ex hr e
  | _=>exact p.rel.obj i t _ hr (xF e)
 ·have:=p.rel.inj i j ti tj _ _ hi hj (xF e1) (xF e2) e
  rwa [AQ,AQ]at this
 ·obtain⟨o',g1,rfl⟩:=zz h4
  rw[AQ]
  exact hk i t o' h2 h3 g1
 ·rcases p.fresh i t h2 h3 with hf | ⟨j,tj,o,g1,g2,g3,g4⟩
  ·exact .inl hf
  ·obtain⟨o',g5,rfl⟩:=zz g3
   rw[AQ]at g4
   exact .inr ⟨j,tj,o',g1,g2,g5,g4⟩
 ·obtain⟨o',g1,g2⟩:=p.pq i _ hi (xF e)
  obtain⟨o2,g3,rfl⟩:=zz g1
  rw[AQ,AQ]at g2
  exact⟨o2,g3,g2⟩
def fT(s:ByteArray):List AV:=s.data.toList.map λc=>.int .u8 c.toNat
def wsF(T U:TypeId)(p:Option (Nat×Nat))(s:ByteArray)(h:H):Option H:=
  match p with
  | some (i,0)=>
    (match h.get i with
     | some (.tc e [.ptr q,.slice b len cap] true)=>
       if e=T/\(q=none∨q=some (i,0))/\0<s.size then
         (match b,len,cap with
          | none,0,.known 0=>if s.size<=140737488355328 then some ((h.new (.tc U (fT s) false)).set i (.tc T [.ptr (some (i,0)),.slice (some (h.next,0)) s.size (.rest 1)] true))else none
          | some (j,0),len,.rest 1=>
            (match h.get j with
             | some (.tc e' bs false)=>if e'=U/\bs.length=len/\0<len/\len+s.size<=140737488355328/\bs.all cT=true then some (((h.kill j).new (.tc U (bs++fT s) false)).set i (.tc T [.ptr (some (i,0)),.slice (some (h.next,0)) (len+s.size) (.rest 1)] true))else none
             | _=>none)
          | _,_,_=>none)
       else none
     | _=>none)
  | _=>none
def stF(T U:TypeId)(p:Option (Nat×Nat))(h:H):Option (ByteArray×H):=
  match p with
  | some (i,0)=>
    (match h.get i with
     | some (.tc e [.ptr _,.slice (some (j,0)) len (.rest 1)] true)=>
       (match h.get j with
        | some (.tc e' bs false)=>if e=T/\e'=U/\bs.length=len/\0<len/\len<=140737488355328/\j≠i then(Fc bs).bind λns=>if ns.all (λn=>decide (0<=n)&&decide (n<256))=true then some (strOfNums ns,h.kill j)else none else none
        | _=>none)
     | _=>none)
  | _=>none
theorem IA(s:ByteArray):(fT s).all cT=true:=by
 unfold fT
 rw[List.all_map]
 exact List.all_eq_true.2 λ_ _=>rfl
variable {P:Program}{ρ:Shelf.Ren}
theorem Ns(L:Lays.n166 P ρ)(X:Builder.Extra P ρ)(sl:AV)(s:ByteArray)(h:H):xe P [ρ.t 37,ρ.t 9] [sl,.str s] h=uZ 1 1 s.size (fT s) sl h:=by
 obtain⟨i0,hi,hz0,hz1,hz2⟩:=info_parts X.infoByte
 have hz:wz P (ρ.t 5)=some [.int .u8 0]:=by
  unfold wz
  rw[hi,fD,hz0]
  rfl
 unfold xe
 simp only[List.getElem?_cons_zero,List.getElem?_cons_succ,L.t37,L.t9,Wp,hi,fD,hz,hz1,hz2,di]
 simp only[Bool.false_eq_true,if_false,if_true,fD,Lf]
 rw[if_pos ⟨trivial,by decide⟩]
 rfl
theorem U2(L:Lays.n166 P ρ)(X:Builder.Extra P ρ){T:TypeId}(hl:liesAt P P.depth T (2 / P.cellsOf T) 0 (ρ.t 72) 1=true)(hTU:T≠ρ.t 5){r:Ren}{h:H}{w:World}(an:Rel r h w){i:Nat}{t:D4}(ht:r i=some t){q:Option (Nat×Nat)}{b:Option (Nat×Nat)}{len:Nat}{cap:aM}
  (hg:h.get i=some (.tc T [.ptr q,.slice b len cap] true)) (hq:q=none∨q=some (i,0)) (s:ByteArray) {h2:H} {sl':AV}
  (hnt:∀j tj,b=some (j,0)->r j=some tj->j≠i/\∃bs,h.get j=some (.tc (ρ.t 5) bs false)/\bs.length=len) (hb0:b=none->len=0/\cap=.known 0) (hb1:∀p,b=some p->p.2=0/\cap=.rest 1/\0<len) (hlen:len+s.size<=140737488355328) (hs:0<s.size)
  (hap:uZ 1 1 s.size (fT s) (.slice b len cap) (h.oo.set i (.cells [.ptr (some (i,0)),.slice b len cap] false))=some (sl',h2)) (hfree:∀k,h.next<=k->k<h2.next->r k=none):
  Calls P (ρ.f 166) #[.pointer (some ⟨t.blk,0,none⟩),.string s] w λe w'=>e=.returned (.tuple #[.int .i64 s.size,.nilIface])/\∃r' v' w2 g cur cp,w'=w2.setCell ⟨t.blk,1,none⟩ v'/\VR r' sl' v'/\Post r h.oo w r' h2 w2/\v'=.slice (some ⟨g,0,none⟩) (len+s.size) cp/\w2.heap[g]?=some (.cells cur (ρ.t 5) (0,0))/\cp=cur.size/\cp<=9223372036854775807/\
   (∃v,w2.heap[t.blk]?=some (.cells #[.pointer (some ⟨t.blk,0,none⟩),v] T (0,0)))/\∀k,k<w.heap.size->k≠t.blk->(∀j tj,b=some (j,0)->r j=some tj->k≠tj.blk)->w2.heap[k]?=w.heap[k]?:=by
 obtain⟨i0,hi,hz0,hz1,hz2⟩:=info_parts X.infoByte
 obtain⟨C,hC,hbase,hrow,hle,hex,aFM,hcell⟩:=an.obj i t _ ht hg
 have hCs:C.size=2:=hex rfl
 obtain⟨p,v,rfl⟩:∃p v,C=#[p,v]:=by
  refine⟨C[0],C[1],?_⟩
  apply Array.ext'
  rcases C with⟨l⟩
  simp at hCs
  match l,hCs with
  | [x,y],_=>rfl
 have hvp:VR r (.ptr q) p:=hcell 0 _ _ rfl rfl
 have YC:VR r (.slice b len cap) v:=hcell 1 _ _ rfl rfl
 have hp:p=.pointer none∨p=.pointer (some ⟨t.blk,0,none⟩):=by
  rcases hq with rfl | rfl
  ·cases hvp;exact .inl rfl
  ·cases hvp with
   | ptr h3=>rw[ht]at h3;cases h3;right;rw[hbase]
 have axr:=an.bound i t ht
 let w1:=chk t.blk p w
 have arV:w1.heap[t.blk]?=some (.cells #[.pointer (some ⟨t.blk,0,none⟩),v] T (0,0)):=by
  rcases hp with rfl | rfl
  ·simp[w1,chk,World.setCell,Array.getElem?_modify,hC]
  ·exact hC
 have alI:∀k,k≠t.blk->w1.heap[k]?=w.heap[k]?:=by
  intro k hk
  rcases hp with rfl | rfl
  ·simp[w1,chk,World.setCell,Array.getElem?_modify,Ne.symm hk]
  ·rfl
 have alJ:w1.heap.size=w.heap.size:=by
  rcases hp with rfl | rfl
  ·simp[w1,chk,World.setCell]
  ·rfl
 have adr:VR r (.ptr (some (i,0))) (.pointer (some ⟨t.blk,0,none⟩)):=by
  have:=VR.ptr (r:=r) (o:=0) ht
  rw[hbase]at this
  exact this
 have p1:Post r h.oo w r (h.oo.set i (.cells [.ptr (some (i,0)),.slice b len cap] false)) w1:=by
  refine Post.Kv an.oo ht (xF hg) rfl rfl alJ (by rcases hp with rfl | rfl<;>exact⟨rfl,rfl,rfl,λ_=>cF _⟩) alI ⟨_,T,(0,0),arV,by rw[hrow];simp,by rw[hbase,hrow];simp,λk a u ha hu=>?_,λ_ off _=>by simp⟩
  rw[hbase,Nat.zero_add]at hu
  match k,ha,hu with
  | 0,ha,hu=>simp at ha hu;subst ha;subst hu;exact adr
  | 1,ha,hu=>simp at ha hu;subst ha;subst hu;exact YC
  | k+2,ha,hu=>simp at ha
 have hown:w1.ownsRow 0 (ρ.t 5) 1 v len (match b with | none=>[] | some (j,_)=>match r j with | some tj=>(match w.heap[tj.blk]? with | some (.cells cur _ _)=>cur.toList.take len | _=>[]) | none=>[]):=by
  cases b with
  | none=>
   obtain⟨rfl,rfl⟩:=hb0 rfl
   cases YC
   exact⟨rfl,.inl ⟨rfl,rfl⟩⟩
  | some jo=>
   obtain⟨j,o⟩:=jo
   obtain⟨h3,rfl,hl0⟩:=hb1 _ rfl
   simp only at h3
   subst h3
   cases YC with
   | gF a sz h4=>omega
   | ec _ _ cp h4 h5 h6=>
    rename_i tj
    obtain⟨hji,bs,uq,hbl⟩:=hnt j tj rfl h4
    obtain⟨cur,k1,k2,k3,k4,k7,k6,k5⟩:=an.obj j tj _ h4 uq
    have hne:tj.blk≠t.blk:=λe=>by
     rcases an.inj j i tj t _ _ h4 ht uq hg e with h7 | h7
     ·exact hji h7
     ·cases h7.1
    have agR:w1.heap[tj.blk]?=some (.cells cur (ρ.t 5) (0,0)):=by rw[alI _ hne];exact k1
    have Z9:cp=cur.size:=by rw[k2,k3]at h5;omega
    simp only[h4,k1]
    refine⟨by simp;omega,.inr ⟨tj.blk,cp,cur,by rw[k2],uQ _,agR,h6,by rw[Z9];unfold maxLen;have:=k6 rfl;omega,by omega,by simp⟩⟩
 obtain⟨v',w2,hr1,arD,hgrow,hiff⟩:=Lib.run_append_own_string (P:=P) w1 0 (ρ.t 37) (ρ.t 9) (ρ.t 37) (ρ.t 5) i0 L.t37 L.t9 hi hz0 hz1 hz2 v len _ hown s (by unfold maxLen;omega) hlen (uQ _)
 have hsl:kg r [.slice b len cap,.str s] (#[v,.string s]:Array Value).toList:=.cons YC (.cons (.str s) .nil)
 obtain⟨r',v2,w3,hr2,hv2,p2⟩:=IS (P:=P) (ty:=ρ.t 37) p1.rel (λk h3 h4=>by
   simp only[H.set]at h3
   exact hfree k h3 h4) (by rw[Ns L X];exact hap) hsl
 rw[hr1]at hr2
 cases hr2
 have are:w2.heap[t.blk]?=some (.cells #[.pointer (some ⟨t.blk,0,none⟩),v] T (0,0)):=by
  rw[hgrow.block t.blk (by rw[alJ];exact axr) λe=>?_]
  ·exact arV
  ·cases b with
   | none=>cases YC;cases e
   | some jo=>
    obtain⟨j,o⟩:=jo
    obtain⟨h3,rfl,hl0⟩:=hb1 _ rfl
    simp only at h3
    subst h3
    cases YC with
    | gF a sz h4=>omega
    | ec _ _ cp h4 h5 h6=>
     rename_i tj
     obtain⟨hji,bs,uq,hbl⟩:=hnt j tj rfl h4
     simp only[Value.ownBlock,Option.some.injEq]at e
     rcases an.inj j i tj t _ _ h4 ht uq hg e.symm with h7 | h7
     ·exact hji h7
     ·cases h7.1
 have arU:∃g cp cur,v'=.slice (some ⟨g,0,none⟩) (len+s.size) cp/\w2.heap[g]?=some (.cells cur (ρ.t 5) (0,0))/\cp<=maxLen/\cur.size=cp*1:=by
  rcases arD.2 with⟨_,h0⟩ | ⟨g,cp,cur,e1,_,e2,_,e3,e4,_⟩
  ·omega
  ·exact⟨g,cp,cur,e1,e2,e3,e4⟩
 obtain⟨g,cp,cur,rfl,Rj,Z9,hcs⟩:=arU
 have hvs:∃a n c,v=.slice a n c:=by cases YC<;>exact⟨_,_,_,rfl⟩
 refine(OC L X hl t.blk w w2 hC hp s hr1 are hvs ⟨_,_,_,rfl⟩).mono λe w' ⟨he,hw'⟩=>⟨he,r',_,w2,g,cur,cp,hw',hv2,p1.trans p2,rfl,Rj,by omega,by unfold maxLen at Z9;omega,⟨v,are⟩,λk hk hkt hkj=>?_⟩
 ·rw[hgrow.block k (by rw[alJ];exact hk) λe=>?_,alI k hkt]
  cases b with
  | none=>cases YC;cases e
  | some jo=>
   obtain⟨j,o⟩:=jo
   obtain⟨h3,rfl,hl0⟩:=hb1 _ rfl
   simp only at h3
   subst h3
   cases YC with
   | gF a sz h4=>omega
   | ec _ _ cp h4 h5 h6=>
    simp only[Value.ownBlock,Option.some.injEq]at e
    exact hkj _ _ rfl h4 e
theorem afc{r r':Ren}{h h2:H}{w w2:World}(an:Rel r h w){i:Nat}{t:D4}(ht:r i=some t){T U:TypeId}(hTU:T≠U){cs0:List AV}(hg:h.get i=some (.tc T cs0 true))(hi:i<h.next)(p:Post r h.oo w r' h2 w2)(hnx:h2.next=h.next+1){len:Nat}{v v':Value}{g cp:Nat}{cur:Array Value}{bs:List AV}(hlen:0<len)
  (hv':v'=.slice (some ⟨g,0,none⟩) len cp) (Z9:cp=cur.size) (agQ:cp<=9223372036854775807) (hvr:VR r' (.slice (some (h.next,0)) len (.rest 1)) v') (Rj:w2.heap[g]?=some (.cells cur U (0,0))) (hb2:w2.heap[t.blk]?=some (.cells #[.pointer (some ⟨t.blk,0,none⟩),v] T (0,0))) (hbase:t.base=0) (hrow:t.row=2)
  (hgi:∃cs,h2.get i=some (.cells cs false)) (hgn:h2.get h.next=some (.cells bs false)) {h':H} (hn':h'.next=h2.next) (hi':h'.get i=some (.tc T [.ptr (some (i,0)),.slice (some (h.next,0)) len (.rest 1)] true)) (hx':h'.get h.next=some (.tc U bs false)) (ho':∀k,k≠i->k≠h.next->(h'.get k).map cK.oo=h2.get k/\(h'.get k=none∨h'.get k=h.get k))
  (hkeep:∀k tk e cs ex,k≠i->k≠h.next->h'.get k=some (.tc e cs ex)->r k=some tk->tk.blk≠t.blk->w2.heap[tk.blk]?=w.heap[tk.blk]?) (hkn:∀k,k≠i->k<h.next->h'.get k=none->h.get k≠none->(h2.get k=h.oo.get k->False)):Post r h w r' h' (w2.setCell ⟨t.blk,1,none⟩ v'):=by
 have ht':r' i=some t:=p.le i t ht
 obtain⟨cs,hgi⟩:=hgi
 have hgb:g≠t.blk:=λe=>by
  rw[e,hb2]at Rj
  simp only[Option.some.injEq,Obj.cells.injEq]at Rj
  exact hTU Rj.2.1
 have tX:∀k,k≠t.blk->(w2.setCell ⟨t.blk,1,none⟩ v').heap[k]?=w2.heap[k]?:=λk hk=>by simp[World.setCell,Array.getElem?_modify,Ne.symm hk]
 have hbk:(w2.setCell ⟨t.blk,1,none⟩ v').heap[t.blk]?=some (.cells #[.pointer (some ⟨t.blk,0,none⟩),v'] T (0,0)):=by simp[World.setCell,Array.getElem?_modify,hb2]
 have adr:VR r' (.ptr (some (i,0))) (.pointer (some ⟨t.blk,0,none⟩)):=by
  have:=VR.ptr (r:=r') (o:=0) ht'
  rw[hbase]at this
  exact this
 have hcells:∀(k:Nat) (a:AV) (u:Value),([.ptr (some (i,0)),.slice (some (h.next,0)) len (.rest 1)]:List AV)[k]?=some a->(#[.pointer (some ⟨t.blk,0,none⟩),v']:Array Value)[k]?=some u->VR r' a u:=by
  intro k a u ha hu
  match k,ha,hu with
  | 0,ha,hu=>simp at ha hu;subst ha;subst hu;exact adr
  | 1,ha,hu=>simp at ha hu;subst ha;subst hu;exact hvr
  | k+2,ha,hu=>simp at ha
 have p3:Post r' h2 w2 r' (h2.set i (.cells [.ptr (some (i,0)),.slice (some (h.next,0)) len (.rest 1)] false)) (w2.setCell ⟨t.blk,1,none⟩ v'):=by
  refine Post.Kv p.rel ht' hgi rfl rfl (by simp[World.setCell]) ⟨rfl,rfl,rfl,λ_=>cF _⟩ tX ⟨_,T,(0,0),hbk,by rw[hrow];simp,by rw[hbase,hrow];simp,λk a u ha hu=>?_,λ_ off _=>by simp⟩
  rw[hbase,Nat.zero_add]at hu
  exact hcells k a u ha hu
 have hin:i≠h.next:=by omega
 obtain⟨tg,htg,arS,alG,arT⟩:∃tg,r' h.next=some tg/\tg.blk=g/\tg.base=0/\tg.row=cur.size:=by
  subst hv'
  generalize hz:(Value.slice (some ⟨g,0,none⟩) len cp)=z at hvr
  cases hvr with
  | gF a sz h4=>omega
  | ec _ _ cap h4 h5 h6=>
   rename_i tg
   simp only[Value.slice.injEq,Option.some.injEq,Addr.mk.injEq]at hz
   exact⟨tg,h4,by omega,by omega,by omega⟩
 refine Post.aAQ an (p.trans p3) ?_ (λk tk e cs2 ex hk Iu=>?_) λk hk hsame=>?_
 ·unfold H.oo H.set
  simp only[H.mk.injEq]
  refine⟨hn',funext λk=>?_⟩
  by_cases hki:k=i
  ·subst hki;rw[if_pos rfl,hi'];rfl
  ·rw[if_neg hki]
   by_cases hkx:k=h.next
   ·subst hkx;rw[hx',hgn];rfl
   ·exact(ho' k hki hkx).1
 ·by_cases hki:k=i
  ·subst hki
   rw[hi']at Iu;cases Iu
   rw[ht']at hk;cases hk
   exact⟨_,hbk,hbase,by rw[hrow];rfl,by simp,λ_=>rfl,(λh=>by cases h),hcells⟩
  ·by_cases hkx:k=h.next
   ·subst hkx
    rw[hx']at Iu;cases Iu
    rw[htg]at hk;cases hk
    obtain⟨C,e2,fz,k1,k2,k3,k4,k5⟩:=p.rel.obj _ _ _ htg hgn
    rw[arS,Rj]at k1
    cases k1
    refine⟨cur,by rw[arS,tX g hgb];exact Rj,alG,arT,by rw[alG,arT]at k3;omega,(λh=>by cases h),λ_=>by omega,λq a u ha hu=>?_⟩
    exact k4 q a u ha (by rw[alG,Nat.zero_add];exact hu)
   ·obtain⟨h5,h6⟩:=ho' k hki hkx
    rcases h6 with h6 | h6
    ·rw[h6]at Iu;cases Iu
    ·rw[Iu]at h6
     have hkl:=an.wf k _ h6.symm
     have hrk:r k=some tk:=by
      cases hr:r k with
      | some t0=>have:=p.le k t0 hr;rw[hk]at this;rw[this]
      | none=>have:=p.dom k tk hk hr;simp only[H.oo]at this;omega
     have hne:tk.blk≠t.blk:=λe2=>by
      rcases an.inj k i tk t _ _ hrk ht h6.symm hg e2 with h7 | h7
      ·exact hki h7
      ·cases h7.1
     exact(an.obj k tk _ hrk h6.symm).move (p.le) (by rw[tX _ hne];exact hkeep k tk e cs2 ex hki hkx Iu hrk hne)
 ·by_cases hki:k=i
  ·subst hki
   have h3:=xF hi'
   rw[hsame,xF hg]at h3
   simp only[cK.oo,Option.some.injEq,cK.cells.injEq]at h3
   rw[hi',hg,h3.1]
  ·obtain⟨h5,h6⟩:=ho' k hki (by omega)
   rcases h6 with h6 | h6
   ·rw[h6]
    cases Iu:h.get k with
    | none=>rfl
    | some o=>
     exfalso
     refine hkn k hki hk h6 (by rw[Iu];simp) ?_
     rw[<-h5,<-hsame]
     simp only[H.oo]
   ·exact h6
theorem gS(h:H)(i k:Nat)(o:cK):(h.set i o).get k=if k=i then some o else h.get k:=rfl
theorem gN(h:H)(k:Nat)(o:cK):(h.new o).get k=if k=h.next then some o else h.get k:=rfl
theorem gK(h:H)(i k:Nat):(h.kill i).get k=if k=i then none else h.get k:=rfl
theorem gU(h:H)(k:Nat):h.oo.get k=(h.get k).map cK.oo:=rfl
theorem nS(h:H)(i:Nat)(o:cK):(h.set i o).next=h.next:=rfl
theorem nN(h:H)(o:cK):(h.new o).next=h.next+1:=rfl
theorem nK(h:H)(i:Nat):(h.kill i).next=h.next:=rfl
theorem nU(h:H):h.oo.next=h.next:=rfl
theorem XB(L:Lays.n166 P ρ)(X:Builder.Extra P ρ){T:TypeId}(hl:liesAt P P.depth T (2 / P.cellsOf T) 0 (ρ.t 72) 1=true)(hTU:T≠ρ.t 5){fn:Func}(hf:P.funcs[ρ.f 166]?=some fn)(hb:fn.body.isNone=false)(hn:(fn.name == "runtime.NumGoroutine")=false)
  {p:Option (Nat×Nat)} {s:ByteArray} {h h':H} (e:wsF T (ρ.t 5) p s h=some h'):xH P (ρ.f 166) [.ptr p,.str s] h (.dJ [.int .i64 s.size,.fJ]) h':=by
 unfold wsF at e
 split at e
 ·rename_i i
  split at e
  ·rename_i T' q b len cap hg
   split at e
   ·rename_i hc
    obtain⟨rfl,hq,hs⟩:=hc
    have atI:∀r:Ren,VR r (.dJ [.int .i64 s.size,.fJ]) (.tuple #[.int .i64 s.size,.nilIface]):=λr=>by
     refine .dJ _ _ (by simp) λk a u ha hu=>?_
     match k,ha,hu with
     | 0,ha,hu=>simp at ha hu;subst ha;subst hu;exact .int _ _
     | 1,ha,hu=>simp at ha hu;subst ha;exact .fJ _
     | k+2,ha,hu=>simp at ha
    split at e
    ·
     split at e
     ·rename_i hsz
      cases e
      refine .inl ⟨⟨fn,hf,hb,hn⟩,by simp[H.set,H.new],λhw k o hk=>?_,λr w args' an hfree ha=>?_⟩
      ·simp only[H.set,H.new]at hk ⊢
       split at hk
       ·have:=hw i _ hg;omega
       ·split at hk
        ·omega
        ·have:=hw k o hk;omega
      ·obtain⟨v0,u0,rfl,hv0,hu0⟩:=ha.two
       cases hu0
       cases hv0 with
       | ptr ht=>
       rename_i t
       have Jd:=an.obj i t _ ht hg
       obtain⟨C,hC,hbase,hrow,_,hex,_,_⟩:=Jd
       have hCs:C.size=2:=hex rfl
       have hin:i<h.next:=an.wf i _ hg
       have adn:i≠h.next:=by omega
       have hap:uZ 1 1 s.size (fT s) (.slice none 0 (.known 0)) (h.oo.set i (.cells [.ptr (some (i,0)),.slice none 0 (.known 0)] false))=some (.slice (some (h.next,0)) (0+s.size) (.rest 1),(h.oo.set i (.cells [.ptr (some (i,0)),.slice none 0 (.known 0)] false)).new (.cells (fT s) false)):=by
        unfold uZ
        rw[if_neg (by omega),if_pos ⟨by omega,by omega⟩,Nat.zero_add]
        rfl
       have st:=U2 L X hl hTU an ht hg hq s (λj tj hj=>by cases hj) (λ_=>⟨rfl,rfl⟩) (λp hp=>by cases hp) (by omega) hs hap (λk h1 h2=>hfree k h1 (by simp only[H.set,H.new,H.oo]at h2 ⊢;exact h2))
       rw[hbase]
       refine st.mono λe w' ⟨he,r',v',w2,g,cur,cp,hw',hvr,p,hv',Rj,Z9,agQ,⟨v,hb2⟩,hk⟩=>?_
       subst hw'
       refine⟨r',_,he,atI r',?_⟩
       rw[Nat.zero_add]at hv' hvr
       refine afc (bs:=fT s) an ht hTU hg hin p (by simp[H.set,H.new,H.oo]) hs hv' Z9 agQ hvr Rj hb2 hbase (by rw[hrow,hCs]) ⟨[.ptr (some (i,0)),.slice none 0 (.known 0)],by simp[gS,gN,gK,gU,nS,nN,nK,nU,adn]⟩ (by simp[gS,gN,gK,gU,nS,nN,nK,nU]) (by simp[gS,gN,gK,gU,nS,nN,nK,nU]) (by simp[gS,gN,gK,gU,nS,nN,nK,nU]) (by simp[gS,gN,gK,gU,nS,nN,nK,nU,Ne.symm adn]) (λk h1 h2=>?_) (λk tk e2 cs2 ex h1 h2 h3 h4 h5=>hk tk.blk (an.bound k tk h4) h5 λj tj hj=>by cases hj) (λk h1 h2 h3 h4=>?_)
       ·simp[gS,gN,gK,gU,nS,nN,nK,nU,h1,h2]
       ·have hk2:k≠h.next:=by omega
        simp[gS,gN,gK,gU,nS,nN,nK,nU,h1,hk2]at h3
        exact absurd h3 h4
     ·cases e
    ·
     rename_i aER j
     split at e
     ·rename_i e' bs uq
      split at e
      ·rename_i hc2
       obtain⟨rfl,hbl,hl0,hsz,hcell⟩:=hc2
       cases e
       have hji:j≠i:=λe2=>by subst e2;rw[hg]at uq;cases uq
       refine .inl ⟨⟨fn,hf,hb,hn⟩,by simp[H.set,H.new,H.kill],λhw k o hk=>?_,λr w args' an hfree ha=>?_⟩
       ·have hi:=hw i _ hg
        by_cases hki:k=i
        ·simp only[nS,nN,nK];omega
        ·by_cases hkx:k=h.next
         ·simp only[nS,nN,nK];omega
         ·by_cases hkj:k=j
          ·subst hkj
           simp[gS,gN,gK,nK,hki,hkx]at hk
          ·simp[gS,gN,gK,nK,hki,hkx,hkj]at hk
           have:=hw k o hk
           simp only[nS,nN,nK];omega
       ·obtain⟨v0,u0,rfl,hv0,hu0⟩:=ha.two
        cases hu0
        cases hv0 with
        | ptr ht=>
        rename_i t
        have Jd:=an.obj i t _ ht hg
        obtain⟨C,hC,hbase,hrow,_,hex,_,_⟩:=Jd
        have hCs:C.size=2:=hex rfl
        have hin:i<h.next:=an.wf i _ hg
        have hjn:j<h.next:=an.wf j _ uq
        have adn:i≠h.next:=by omega
        let hA:H:=h.oo.set i (.cells [.ptr (some (i,0)),.slice (some (j,0)) len (.rest 1)] false)
        have hAj:hA.get j=some (.cells bs false):=by simp[hA,gS,gN,gK,gU,nS,nN,nK,nU,hji,uq,cK.oo]
        have hap:uZ 1 1 s.size (fT s) (.slice (some (j,0)) len (.rest 1)) hA=some (.slice (some (h.next,0)) (len+s.size) (.rest 1),(hA.kill j).new (.cells (bs++fT s) false)):=by
         simp only[uZ]
         rw[if_neg (show ¬s.size=0 by omega),if_pos ⟨trivial,show(len+s.size)*1<=140737488355328 by omega,show len+s.size<=9223372036854775807 by omega⟩,hAj]
         simp only
         rw[if_pos ⟨show 0+len*1=bs.length by omega,IA s⟩,List.drop_zero]
         rfl
        have st:=U2 L X hl hTU an ht hg hq s (λj2 tj hj _=>by cases hj;exact⟨hji,bs,uq,hbl⟩) (λh=>by cases h) (λp hp=>by cases hp;exact⟨rfl,rfl,hl0⟩) hsz hs hap (λk h1 h2=>hfree k h1 (by simp only[hA,H.set,H.new,H.kill,H.oo]at h2 ⊢;exact h2))
        rw[hbase]
        refine st.mono λe w' ⟨he,r',v',w2,g,cur,cp,hw',hvr,p,hv',Rj,Z9,agQ,⟨v,hb2⟩,hk⟩=>?_
        subst hw'
        refine⟨r',_,he,atI r',?_⟩
        refine afc (bs:=bs++fT s) an ht hTU hg hin p (by simp[hA,gS,gN,gK,gU,nS,nN,nK,nU]) (by omega) hv' Z9 agQ hvr Rj hb2 hbase (by rw[hrow,hCs]) ⟨[.ptr (some (i,0)),.slice (some (j,0)) len (.rest 1)],by simp[hA,gS,gN,gK,gU,nS,nN,nK,nU,adn,Ne.symm hji]⟩ (by simp[hA,gS,gN,gK,gU,nS,nN,nK,nU]) (by simp[hA,gS,gN,gK,gU,nS,nN,nK,nU]) (by simp[gS,gN,gK,gU,nS,nN,nK,nU]) (by simp[gS,gN,gK,gU,nS,nN,nK,nU,Ne.symm adn]) (λk h1 h2=>?_) (λk tk e2 cs2 ex h1 h2 h3 h4 h5=>hk tk.blk (an.bound k tk h4) h5 λj2 tj hj hrj e3=>?_) (λk h1 h2 h3 h4 h5=>?_)
        ·by_cases hkj:k=j
         ·subst hkj;simp[hA,gS,gN,gK,gU,nS,nN,nK,nU,h1,h2]
         ·simp[hA,gS,gN,gK,gU,nS,nN,nK,nU,h1,h2,hkj]
        ·cases hj
         by_cases hkj:k=j
         ·subst hkj
          simp[gS,gN,gK,gU,nS,nN,nK,nU,h1,h2]at h3
         ·simp[gS,gN,gK,gU,nS,nN,nK,nU,h1,h2,hkj]at h3
          rcases an.inj k j tk tj _ _ h4 hrj h3 uq e3 with h7 | h7
          ·exact hkj h7
          ·cases h7.1
        ·have hk2:k≠h.next:=by omega
         by_cases hkj:k=j
         ·subst hkj
          simp[hA,gS,gN,gK,gU,nS,nN,nK,nU,h1,hk2,uq]at h5
         ·simp[gS,gN,gK,gU,nS,nN,nK,nU,h1,hk2,hkj]at h3
          exact h4 h3
      ·cases e
     ·cases e
    ·cases e
   ·cases e
  ·cases e
 ·cases e
theorem Xq(L:Lays.n169 P ρ)(X:Builder.Extra P ρ){T:TypeId}{fn:Func}(hf:P.funcs[ρ.f 169]?=some fn)(hb:fn.body.isNone=false)(hn:(fn.name == "runtime.NumGoroutine")=false)
  {p:Option (Nat×Nat)} {h:H} {q:ByteArray×H} (e:stF T (ρ.t 5) p h=some q):xH P (ρ.f 169) [.ptr p] h (.str q.1) q.2:=by
 unfold stF at e
 split at e
 ·rename_i i
  split at e
  ·rename_i T' q0 j len hg
   split at e
   ·rename_i e' bs uq
    split at e
    ·rename_i hc
     obtain⟨rfl,rfl,hbl,hl0,hsz,hji⟩:=hc
     obtain⟨ns,Lb,e⟩:=Option.bind_eq_some_iff.1 e
     split at e
     case isFalse=>cases e
     rename_i alB
     cases e
     refine .inl ⟨⟨fn,hf,hb,hn⟩,cF _,λhw k o hk=>?_,λr w args' an hfree ha=>?_⟩
     ·simp only[H.kill]at hk ⊢
      split at hk
      ·cases hk
      ·exact hw k o hk
     ·obtain⟨v0,rfl,hv0⟩:=ha.one
      cases hv0 with
      | ptr ht=>
      rename_i t
      obtain⟨C,hC,hbase,hrow,hle0,hex,aFL,hcell⟩:=an.obj i t _ ht hg
      have hCs:C.size=2:=hex rfl
      obtain⟨p0,v,rfl⟩:∃p v,C=#[p,v]:=by
       refine⟨C[0],C[1],?_⟩
       apply Array.ext'
       rcases C with⟨l⟩
       simp at hCs
       match l,hCs with
       | [x,y],_=>rfl
      have YC:VR r (.slice (some (j,0)) len (.rest 1)) v:=hcell 1 _ _ rfl rfl
      cases YC with
      | gF a sz h4=>omega
      | ec _ _ cp h4 h5 h6=>
      rename_i tj
      obtain⟨cur,k1,k2,k3,k4,k7,k6,k5⟩:=an.obj j tj _ h4 uq
      rw[hbase]
      have hbytes:∃l:List UInt8,l.length=len/\strOfNums ns=⟨l.toArray⟩/\∀(y:Nat) x,l[y]?=some x->cur[y]?=some (.int .u8 x.toNat):=by
       have hv:kg r bs (cur.toList.take len):=⟨by simp;omega,λy a u ha hu=>by
        rw[List.getElem?_take]at hu
        split at hu
        ·exact k5 y a u ha (by rw[Array.getElem?_toList]at hu;exact hu)
        ·cases hu⟩
       have agR:=HM Lb hv
       have Jc:ns.length=len:=by
        have:=congrArg List.length agR
        simp at this;omega
       refine⟨ns.map λn=>UInt8.ofNat n.toNat,by simp[Jc],rfl,λy x hx=>?_⟩
       rw[List.getElem?_map]at hx
       obtain⟨n,hn2,rfl⟩:=Option.map_eq_some_iff.1 hx
       have hr2:=List.all_eq_true.1 alB n (Hq hn2)
       simp only[Bool.and_eq_true,decide_eq_true_eq]at hr2
       have hy:y<len:=by rw[<-Jc];exact(sS hn2).1
       have h8:(cur.toList.take len)[y]?=some (.int .u8 n):=by rw[agR,List.getElem?_map,hn2];rfl
       rw[List.getElem?_take,if_pos hy,Array.getElem?_toList]at h8
       rw[h8]
       congr 2
       have:(UInt8.ofNat n.toNat).toNat=n.toNat:=by
        simp;omega
       rw[this];omega
      have hne:tj.blk≠t.blk:=λe2=>by
       rcases an.inj j i tj t _ _ h4 ht uq hg e2 with h7 | h7
       ·exact hji h7
       ·cases h7.1
      obtain⟨l,hll,ayf,hlc⟩:=hbytes
      rw[k2,Nat.zero_add]at hC
      subst hll
      refine(aba L X t.blk tj.blk cp p0 T' cur l w (λh=>by rw[h]at hl0;simp at hl0) hC k1 h6 (by omega) hsz hlc).mono λe w' ⟨he,hw',yH⟩=>⟨r,_,he,by rw[ayf];exact .str _,?_⟩
      have arC:∀k,k≠tj.blk->w'.heap[k]?=w.heap[k]?:=λk hk=>by
       rw[hw']
       unfold World.freeze
       split
       ·rfl
       ·simp only[]
        rw[Array.getElem?_modify,if_neg (Ne.symm hk)]
      have Ki:w'.heap.size=w.heap.size:=by rw[hw'];exact B5 _ _ _
      have pk:=Post.RM h4 an
      refine⟨r.le_refl,(λk tk g1 g2=>by rw[g1]at g2;cases g2),⟨pk.rel.wf,λk tk o g1 g2=>?_,pk.rel.inj,λk tk g1=>by rw[Ki];exact an.bound k tk g1,an.rH⟩,λb hb hk=>arC b λe2=>?_,yH,by rw[Ki];exact cF _,cF _,(λk tk g1 g2=>by rw[g1]at g2;cases g2),pk.pq,pk.Sg,pk.oD⟩
      ·have hkj:k≠j:=λe2=>by subst e2;simp[gK]at g2
       refine(pk.rel.obj k tk o g1 g2).move r.le_refl (arC _ λe2=>?_)
       simp only[gK,if_neg hkj]at g2
       rcases an.inj k j tk tj _ _ g1 h4 g2 uq e2 with h7 | h7
       ·exact hkj h7
       ·cases h7.2
      ·have:=hk j tj _ h4 e2.symm uq
       cases this
    ·cases e
   ·cases e
  ·cases e
 ·cases e
end Go.Ev
namespace Go.Ev
structure At(h:H)(b:Nat)(o:cK):Prop where
 lt:b<h.next
 get:h.get b=some o
theorem At.mod{h h':H}{b:Nat}{o:cK}{S:List Nat}(g:At h b o)(m:Mod S h h')(hS:b∉S):At h' b o:=⟨m.lt g.lt,(m.get _ g.lt hS).trans g.get⟩
theorem At.ak{h h':H}{b:Nat}{o:cK}(g:At h b o)(m:Mod [] h h'):At h' b o:=g.mod m (by simp)
theorem At.new(h:H)(o:cK):At (h.new o) h.next o:=⟨Nat.lt_succ_self _,aY h o⟩
theorem At.row{h:H}{b n:Nat}{cs vs:List AV}{ro:Bool}{size len:Nat}{c:aM}(g:At h b (.cells cs ro))(hv:(cs.drop n).take (len*size)=vs)(hl:n+len*size<=cs.length)(hc:c=.rest size∨∃k,c=.known k/\len<=k):Row h size (some (b,n)) len c vs:=.row g.lt g.get hv hl hc
section
variable {α β:Type}
theorem At.cell{h:H}{b o:Nat}{cs:List AV}{ro:Bool}(g:At h b (.cells cs ro)){v:AV}(hv:cs[o]?=some v)(f:AV->Option β):af h b o f=f v:=cW g.get hv f
theorem At.agg{h:H}{b o n:Nat}{cs vs:List AV}{ro:Bool}(g:At h b (.cells cs ro))(hv:(cs.drop o).take n=vs)(hl:o+n<=cs.length)(f:List AV->Option β):aI h b o n f=f vs:=by rw[QI g.get hl,hv]
theorem At.all{h:H}{b n:Nat}{cs:List AV}{ro:Bool}(g:At h b (.cells cs ro))(hn:cs.length=n)(f:List AV->Option β):aI h b 0 n f=f cs:=jF g.get hn f
theorem N7{o:cK}{h:H}{f:Nat->H->Option (α×H)}{Q:α->H->Prop}(k:∀b h',At h' b o->b=h.next->h'.next=b+1->Mod [] h h'->cg (f b h') Q):cg (aD o h f) Q:=
 k h.next (h.new o) (.new h o) rfl rfl ((Mod.refl _ _).new _)
end
def up{α:Type}(f:Nat->α)(i:Nat)(v:α):Nat->α:=λj=>if j=i then v else f j
@[simp] theorem aF{α:Type}(f:Nat->α)(i:Nat)(v:α):up f i v i=v:=if_pos rfl
theorem eW{α:Type}{f:Nat->α}{i j:Nat}{v:α}(h:j≠i):up f i v j=f j:=if_neg h
def oO(f:Nat->Option Nat):List Nat:=(List.range 12).filterMap f
structure Fr(S:List Nat)(h:H)(S':List Nat)(h':H):Prop where
 mod:Mod S h h'
 own:∀i∈S',i∈S∨h.next<=i
theorem Fr.refl(S:List Nat)(h:H):Fr S h S h:=⟨Mod.refl _ _,λ_ h=>.inl h⟩
theorem Fr.trans{S S' S'':List Nat}{a b c:H}(p:Fr S a S' b)(q:Fr S' b S'' c):Fr S a S'' c:=
  ⟨p.mod.trans' q.mod λi hi hl=>(p.own i hi).elim id λh=>absurd h (by omega),
   λi hi=>(q.own i hi).elim (p.own i) λh=>.inr (qb p.mod.next h)⟩
theorem Fr.ak{S:List Nat}{a b:H}(m:Mod [] a b):Fr S a S b:=⟨m.of_nil,λ_ h=>.inl h⟩
theorem Fr.keep{S S':List Nat}{a b:H}(p:Fr S a S' b){i:Nat}(hi:i<a.next)(hS:i∉S):b.get i=a.get i/\i<b.next/\i∉S':=
 ⟨p.mod.get i hi hS,p.mod.lt hi,λh=>(p.own i h).elim hS λh=>by omega⟩
structure EG(a:H)(f:Nat->Option Nat)(c:Nat->List AV)(h:H):Prop where
 le:a.next<=h.next
 get:∀i x,f i=some x->h.get x=some (.cells (c i) false)
 lt:∀i x,f i=some x->x<h.next
 ge:∀i x,f i=some x->a.next<=x
 inj:∀i j x,f i=some x->f j=some x->i=j
 top:∀i,12<=i->f i=none
section
variable {a h h':H}{f:Nat->Option Nat}{c:Nat->List AV}{i x:Nat}
theorem EG.mem(o:EG a f c h){x:Nat}:x∈oO f↔∃i,f i=some x:=by
 simp only[oO,List.mem_filterMap,List.mem_range]
 constructor
 ·rintro ⟨i,_,e⟩;exact⟨i,e⟩
 ·rintro ⟨i,e⟩
  refine⟨i,?_,e⟩
  by_cases hi:i<12
  ·exact hi
  ·rw[o.top i (by omega)]at e;cases e
theorem EG.at(o:EG a f c h)(hf:f i=some x):At h x (.cells (c i) false):=⟨o.lt i x hf,o.get i x hf⟩
theorem EG.ak(o:EG a f c h)(m:Mod [] h h'):EG a f c h':=
 ⟨qb o.le m.next,λi x e=>(m.get x (o.lt i x e) (by simp)).trans (o.get i x e),λi x e=>m.lt (o.lt i x e),o.ge,o.inj,o.top⟩
theorem EG.nil(a:H)(c:Nat->List AV):EG a (λ_=>none) c a:=⟨cF _,by simp,by simp,by simp,by simp,by simp⟩
theorem EG.wr(o:EG a f c h)(hf:f i=some x)(v:List AV):EG a f (up c i v) (h.set x (.cells v false))/\Fr (oO f) h (oO f) (h.set x (.cells v false)):=by
 refine⟨⟨o.le,λj y e=>?_,o.lt,o.ge,o.inj,o.top⟩,(Mod.refl _ _).set (.inr (o.mem.2 ⟨i,hf⟩)) _,λ_ h=>.inl h⟩
 by_cases hj:j=i
 ·subst hj
  obtain rfl:y=x:=by rw[hf]at e;exact(oh e).symm
  rw[aF];exact aW _ _ _
 ·rw[eW hj,ng]
  ·exact o.get j y e
  ·rintro rfl
   exact hj (o.inj _ _ _ e hf)
theorem EG.bK{β:Type}(o:EG a f c h)(hf:f i=some x){p n:Nat}{xs v:List AV}(hn:xs.length=n)(hl:p+n<=(c i).length)(hc:xs.all cT=true)(hv:My (c i) p xs=v)(k:H->Option β):bK h x p n xs k=k (h.set x (.cells v false)):=by
 rw[DT (o.get i x hf) hn hl hc,hv]
theorem EG.cell{β:Type}(o:EG a f c h)(hf:f i=some x){p:Nat}{v:AV}(hv:(c i)[p]?=some v)(k:AV->Option β):af h x p k=k v:=cW (o.get i x hf) hv k
theorem EG.put(o:EG a f c h)(hi:i<12){v:List AV}(hb:h.next<=x)(ha:At h' x (.cells v false))(m:Mod (own ((f i).map λb=>(b,0))) h h'):EG a (up f i (some x)) (up c i v) h'/\Fr (oO f) h (oO (up f i (some x))) h':=by
 have hne:∀j y,j≠i->f j=some y->y∉own ((f i).map λb=>(b,0)):=by
  intro j y hj e hm
  cases Wj:f i with
  | none=>rw[Wj]at hm;simp at hm
  | some z=>
   rw[Wj]at hm
   obtain rfl:y=z:=by simpa using hm
   exact hj (o.inj _ _ _ e Wj)
 have ow:EG a (up f i (some x)) (up c i v) h':=by
  refine⟨qb o.le m.next,?_,?_,?_,?_,?_⟩
  ·intro j y e
   by_cases hj:j=i
   ·subst hj
    rw[aF]at e ⊢
    obtain rfl:=oh e
    exact ha.get
   ·rw[eW hj]at e ⊢
    exact(m.get y (o.lt j y e) (hne j y hj e)).trans (o.get j y e)
  ·intro j y e
   by_cases hj:j=i
   ·subst hj
    rw[aF]at e
    obtain rfl:=oh e
    exact ha.lt
   ·rw[eW hj]at e
    exact m.lt (o.lt j y e)
  ·intro j y e
   by_cases hj:j=i
   ·subst hj
    rw[aF]at e
    obtain rfl:=oh e
    exact qb o.le hb
   ·rw[eW hj]at e
    exact o.ge j y e
  ·intro j l y e e'
   by_cases hj:j=i
   ·by_cases hl:l=i
    ·rw[hj,hl]
    ·rw[hj,aF]at e;rw[eW hl]at e'
     obtain rfl:=oh e
     exact absurd (o.lt l _ e') (by omega)
   ·by_cases hl:l=i
    ·rw[hl,aF]at e';rw[eW hj]at e
     obtain rfl:=oh e'
     exact absurd (o.lt j _ e) (by omega)
    ·rw[eW hj]at e;rw[eW hl]at e'
     exact o.inj _ _ _ e e'
  ·intro j hj
   rw[eW (by omega)];exact o.top j hj
 refine⟨ow,⟨m.sub λy hy _=>?_,λy hy=>?_⟩⟩
 ·cases Wj:f i with
  | none=>rw[Wj]at hy;simp at hy
  | some z=>
   rw[Wj]at hy
   obtain rfl:y=z:=by simpa using hy
   exact o.mem.2 ⟨i,Wj⟩
 ·obtain⟨j,e⟩:=ow.mem.1 hy
  by_cases hj:j=i
  ·rw[hj,aF]at e
   obtain rfl:=oh e
   exact .inr hb
  ·rw[eW hj]at e
   exact .inl (o.mem.2 ⟨j,e⟩)
theorem EG.drop(o:EG a f c h)(i:Nat):EG a (up f i none) c h:=by
 have hs:∀j y,up f i none j=some y->f j=some y:=by
  intro j y e
  by_cases hj:j=i
  ·rw[hj,aF]at e;cases e
  ·rwa [eW hj]at e
 refine⟨o.le,λj y e=>o.get j y (hs j y e),λj y e=>o.lt j y (hs j y e),λj y e=>o.ge j y (hs j y e),λj l y e e'=>o.inj _ _ _ (hs _ _ e) (hs _ _ e'),λj hj=>?_⟩
 by_cases hi:j=i
 ·rw[hi,aF]
 ·rw[eW hi];exact o.top j hj
theorem EG.Tx(o:EG a f c h)(i:Nat):Fr (oO f) h (oO (up f i none)) h:=by
 refine⟨Mod.refl _ _,λy hy=>.inl ?_⟩
 obtain⟨j,e⟩:=(o.drop i).mem.1 hy
 by_cases hj:j=i
 ·rw[hj,aF]at e;cases e
 ·rw[eW hj]at e;exact o.mem.2 ⟨j,e⟩
def nu(f:Nat->Option Nat)(i:Nat):Option (Nat×Nat):=(f i).map λb=>(b,0)
theorem wH(f:Nat->Option Nat)(i x:Nat):nu (up f i (some x)) i=some (x,0):=by simp[nu]
theorem ya{f:Nat->Option Nat}{i j:Nat}{v:Option Nat}(h:j≠i):nu (up f i v) j=nu f j:=by unfold nu;rw[eW h]
structure yw(f:Nat->Option Nat)(c:Nat->List AV)(i size len:Nat)(cap:aM)(vs:List AV):Prop where
 look:(f i=none/\len=0/\cap=.known 0/\vs=[])∨∃x,f i=some x/\c i=vs/\vs.length=len*size/\(cap=.rest size∨cap=.known len)
theorem yw.grow{size len:Nat}{cap:aM}{vs:List AV}(r:yw f c i size len cap vs)(o:EG a f c h):Grow a h size (nu f i) len cap vs:=by
 rcases r.look with⟨h1,h2,h3,h4⟩ | ⟨x,h1,h2,h3,h4⟩
 ·exact⟨.inl ⟨by simp[nu,h1],h2,h3,h4⟩⟩
 ·exact⟨.inr ⟨x,by simp[nu,h1],o.ge _ _ h1,o.lt _ _ h1,by rw[o.get _ _ h1,h2],h3,h4⟩⟩
theorem yw.ne{size len j:Nat}{cap:aM}{vs v:List AV}{w:Option Nat}(r:yw f c i size len cap vs)(hj:i≠j):yw (up f j w) (up c j v) i size len cap vs:=by
 rcases r.look with h | ⟨x,h⟩
 ·exact⟨.inl (by rw[eW hj];exact h)⟩
 ·exact⟨.inr ⟨x,by rw[eW hj,eW hj];exact h⟩⟩
theorem yw.lY{size len j:Nat}{cap:aM}{vs v:List AV}(r:yw f c i size len cap vs)(hj:i≠j):yw f (up c j v) i size len cap vs:=by
 rcases r.look with h | ⟨x,h⟩
 ·exact⟨.inl h⟩
 ·exact⟨.inr ⟨x,by rw[eW hj];exact h⟩⟩
theorem yw.OK{size len j:Nat}{cap:aM}{vs:List AV}{w:Option Nat}(r:yw f c i size len cap vs)(hj:i≠j):yw (up f j w) c i size len cap vs:=by
 rcases r.look with h | ⟨x,h⟩
 ·exact⟨.inl (by rw[eW hj];exact h)⟩
 ·exact⟨.inr ⟨x,by rw[eW hj];exact h⟩⟩
theorem yw.nil{size:Nat}(h:f i=none):yw f c i size 0 (.known 0) []:=⟨.inl ⟨h,rfl,rfl,rfl⟩⟩
theorem Grow.YW{a h:H}{size bytes:Nat}{p:Option (Nat×Nat)}{len:Nat}{c:aM}{vs:List AV}(g:Grow a h size p len c vs)(ha:a.next<=h.next){xs:List AV}(hx:xs.length=size)(hc:xs.all cT=true)(h0:0<size)(hb:(len+1)*bytes<=140737488355328)(h63:len+1<=9223372036854775807):
  ∃p' c' h',(∀(β:Type) (k:Option (Nat×Nat)->Nat->aM->H->Option β),fS size bytes p len c (di size (.slice (some (h.next,0)) 1 (.known 1)) (h.new (.cells xs false))) (h.new (.cells xs false)) k=k p' (len+1) c' h')/\Grow a h' size p' (len+1) c' (vs++xs)/\Mod (own p) h h'/\∀x∈own p',h.next<=x:=by
 have m2:Mod [] h (h.new (.cells xs false)):=(Mod.refl _ _).new _
 have r2:Row (h.new (.cells xs false)) size (some (h.next,0)) 1 (.known 1) xs:=.row (by simp) (aY _ _) (by rw[List.drop_zero,Nat.one_mul,<-hx,List.take_length]) (by omega) (.inr ⟨1,rfl,cF _⟩)
 rw[r2.src]
 rcases (g.ak m2).look with⟨rfl,rfl,rfl,rfl⟩ | ⟨b,rfl,h1,h2,h3,h4,h5⟩
 ·refine⟨_,_,_,λβ k=>by simp only[fS,uZ];rw[if_neg (by omega),if_pos ⟨by simpa using hb,by omega⟩],?_,(m2.new _).of_nil,by simp⟩
  rw[List.nil_append]
  exact Grow.fresh (qb ha m2.next) (by rw[hx];simp) (.inl rfl)
 ·rcases h5 with rfl | rfl
  ·refine⟨_,_,_,λβ k=>by simp only[fS,uZ];rw[if_neg (by omega),if_pos ⟨trivial,hb,h63⟩,h3];simp only[Nat.zero_add];rw[if_pos ⟨h4.symm,hc⟩,List.drop_zero];rfl,Grow.fresh (h:=(h.new (.cells xs false)).kill b) (qb ha m2.next) (by rw[hU,h4,hx,Nat.add_mul,Nat.one_mul]) (.inl rfl),(m2.of_nil.kill (.inr (by simp))).new _,by simp⟩
  ·refine⟨_,_,_,λβ k=>by simp only[fS,uZ];rw[if_neg (show ¬len+1<=len by omega),if_pos ⟨hb,h63⟩,h3];simp only[Nat.zero_add];rw[if_pos (Nat.le_of_eq h4.symm),List.drop_zero,<-h4,List.take_length],Grow.fresh (qb ha m2.next) (by rw[hU,h4,hx,Nat.add_mul,Nat.one_mul]) (.inl rfl),(m2.new _).of_nil,by simp⟩
theorem EG.push{size bytes len:Nat}{cap:aM}{vs:List AV}(o:EG a f c h)(hi:i<12)(r:yw f c i size len cap vs){xs:List AV}(hx:xs.length=size)(hc:xs.all cT=true)(h0:0<size)(hb:(len+1)*bytes<=140737488355328)(h63:len+1<=9223372036854775807):
  ∃x cap' h',(∀(β:Type) (k:Option (Nat×Nat)->Nat->aM->H->Option β),fS size bytes (nu f i) len cap (di size (.slice (some (h.next,0)) 1 (.known 1)) (h.new (.cells xs false))) (h.new (.cells xs false)) k=k (some (x,0)) (len+1) cap' h')/\
   h.next<=x/\EG a (up f i (some x)) (up c i (vs++xs)) h'/\yw (up f i (some x)) (up c i (vs++xs)) i size (len+1) cap' (vs++xs)/\Fr (oO f) h (oO (up f i (some x))) h'/\Mod (own (nu f i)) h h':=by
 obtain⟨p',c',h',e,g,m,hn⟩:=(r.grow o).YW (bytes:=bytes) o.le hx hc h0 hb h63
 rcases g.look with⟨_,h2,_⟩ | ⟨x,rfl,h1,h2,h3,h4,h5⟩
 ·omega
 ·obtain⟨o',fr⟩:=o.put hi (hn x (by simp)) ⟨h2,h3⟩ m
  exact⟨x,c',h',e,hn x (by simp),o',⟨.inr ⟨x,aF _ _ _,aF _ _ _,h4,h5⟩⟩,fr,m⟩
end
end Go.Ev
namespace Go.Proofs
open Go.Shelf
def Tryz.uy:Go.Shelf.Ren:=⟨λ| 156=>42 | 165=>74 | 166=>41 | 169=>18 | 240=>73 | 241=>96 | 276=>95 | 277=>111 | n=>n,λ| 31=>75 | 9=>9 | 3=>3 | 4=>4 | 0=>0 | 20=>20 | 72=>55 | 76=>108 | 70=>52 | 37=>53 | 75=>107 | 127=>116 | 164=>168 | 5=>5 | 80=>43 | n=>n,λ| n=>n⟩
theorem Tryz.Mj:Go.Proofs.Lays.n156 Tryz.prog Tryz.uy:={
 mixed:=by kernel_rfl
 f156:=Tryz.func42.trans (congrArg some (by kernel_rfl))
 f165:=Tryz.func74.trans (congrArg some (by kernel_rfl))
 f166:=Tryz.func41.trans (congrArg some (by kernel_rfl))
 f169:=Tryz.func18.trans (congrArg some (by kernel_rfl))
 f240:=Tryz.func73.trans (congrArg some (by kernel_rfl))
 f241:=Tryz.func96.trans (congrArg some (by kernel_rfl))
 f276:=Tryz.func95.trans (congrArg some (by kernel_rfl))
 f277:=Tryz.func111.trans (congrArg some (by kernel_rfl))
 t0:=Tryz.underlying0
 a0:=Tryz.isAgg0
 z0:=Tryz.sizeOf0
 v0:=Tryz.zeroValue0
 t3:=Tryz.underlying3
 a3:=Tryz.isAgg3
 z3:=Tryz.sizeOf3
 v3:=Tryz.zeroValue3
 t4:=Tryz.underlying4
 a4:=Tryz.isAgg4
 z4:=Tryz.sizeOf4
 v4:=Tryz.zeroValue4
 t9:=Tryz.underlying9
 a9:=Tryz.isAgg9
 z9:=Tryz.sizeOf9
 v9:=Tryz.zeroValue9
 t20:=Tryz.underlying20
 a20:=Tryz.isAgg20
 z20:=Tryz.sizeOf20
 v20:=Tryz.zeroValue20
 t31:=Tryz.underlying75
 a31:=Tryz.isAgg75
 z31:=Tryz.sizeOf75
 v31:=Tryz.zeroValue75
 t37:=Tryz.underlying53
 a37:=Tryz.isAgg53
 z37:=Tryz.sizeOf53
 v37:=Tryz.zeroValue53
 t70:=Tryz.underlying52
 a70:=Tryz.isAgg52
 z70:=Tryz.sizeOf52
 v70:=Tryz.zeroValue52
 t72:=Tryz.underlying55
 a72:=Tryz.isAgg55
 z72:=Tryz.sizeOf55
 v72:=Tryz.zeroValue55
 t75:=Tryz.underlying107
 a75:=Tryz.isAgg107
 z75:=Tryz.sizeOf107
 v75:=Tryz.zeroValue107
 t76:=Tryz.underlying108
 a76:=Tryz.isAgg108
 z76:=Tryz.sizeOf108
 v76:=Tryz.zeroValue108
 t127:=Tryz.underlying116
 a127:=Tryz.isAgg116
 z127:=Tryz.sizeOf116
 v127:=Tryz.zeroValue116
 t164:=Tryz.underlying168
 a164:=Tryz.isAgg168
 z164:=Tryz.sizeOf168
 v164:=Tryz.zeroValue168}
theorem Tryz.qD:Builder.Extra Tryz.prog Tryz.uy:={
 sizeBuilder:=by kernel_rfl
 liesBuilder:=by kernel_rfl
 t5:=Tryz.underlying5
 a5:=Tryz.isAgg5
 z5:=Tryz.sizeOf5
 v5:=Tryz.zeroValue5
 infoByte:=by kernel_rfl
 cellsByte:=by kernel_rfl
 sizeByte:=by kernel_rfl
 neB5:=by decide}
open Go.RowKit in
theorem Tryz.strings_Join_none(a:Option Addr)(c:Nat)(sep:ByteArray)(w:World):
  Calls Tryz.prog 42 #[.slice a 0 c,.string sep] w λe w'=>e=.returned (.string ⟨#[]⟩)/\w'=w:=Any.strings_Join_none Tryz.Mj Tryz.qD a c sep w
open Go.RowKit in
theorem Tryz.strings_Join(bk o c:Nat)(xs:List ByteArray)(sep:ByteArray)(w:World)(hcells:∀(j:Nat) x,xs[j]?=some x->w.cell? ⟨bk,o+j,none⟩=some (.string x))(hbk:bk<w.heap.size)(hN:xs.length<=140737488355328)(hcap:xs.length<=c)(hlen:(Lib.join (xs.map (·.data.toList)) sep.data.toList).length<=140737488355328):
  Calls Tryz.prog 42 #[.slice (some ⟨bk,o,none⟩) xs.length c,.string sep] w λe w'=>e=.returned (.string ⟨(Lib.join (xs.map (·.data.toList)) sep.data.toList).toArray⟩)/\Below w.heap.size w w':=Any.strings_Join Tryz.Mj Tryz.qD bk o c xs sep w hcells hbk hN hcap hlen
def Tryz.Ry:Go.Shelf.Ren:=⟨λ| 171=>16 | 243=>44 | 246=>75 | 283=>97 | 284=>98 | 285=>99 | 286=>100 | 129=>113 | 317=>112 | 318=>114 | 319=>115 | 320=>116 | 337=>119 | 338=>120 | n=>n,λ| 3=>3 | 9=>9 | 2=>2 | 4=>4 | 171=>170 | 0=>0 | 53=>171 | 37=>53 | 5=>5 | 173=>174 | 212=>184 | 51=>185 | 20=>20 | 213=>186 | 46=>111 | 232=>192 | 233=>193 | n=>n,λ| 17=>0 | 18=>2 | 19=>3 | n=>n⟩
theorem Tryz.adS:Go.Proofs.LaysM.n171 Tryz.prog Tryz.Ry:={
 mixed:=by kernel_rfl
 f129:=Tryz.func113.trans (congrArg some (by kernel_rfl))
 f171:=Tryz.func16.trans (congrArg some (by kernel_rfl))
 f243:=Tryz.func44.trans (congrArg some (by kernel_rfl))
 f246:=Tryz.func75.trans (congrArg some (by kernel_rfl))
 f283:=Tryz.func97.trans (congrArg some (by kernel_rfl))
 f284:=Tryz.func98.trans (congrArg some (by kernel_rfl))
 f285:=Tryz.func99.trans (congrArg some (by kernel_rfl))
 f286:=Tryz.func100.trans (congrArg some (by kernel_rfl))
 f317:=Tryz.func112.trans (congrArg some (by kernel_rfl))
 f318:=Tryz.func114.trans (congrArg some (by kernel_rfl))
 f319:=Tryz.func115.trans (congrArg some (by kernel_rfl))
 f320:=Tryz.func116.trans (congrArg some (by kernel_rfl))
 f337:=Tryz.func119.trans (congrArg some (by kernel_rfl))
 f338:=Tryz.func120.trans (congrArg some (by kernel_rfl))
 t0:=Tryz.underlying0
 a0:=Tryz.isAgg0
 z0:=Tryz.sizeOf0
 v0:=Tryz.zeroValue0
 t2:=Tryz.underlying2
 a2:=Tryz.isAgg2
 z2:=Tryz.sizeOf2
 v2:=Tryz.zeroValue2
 t3:=Tryz.underlying3
 a3:=Tryz.isAgg3
 z3:=Tryz.sizeOf3
 v3:=Tryz.zeroValue3
 t4:=Tryz.underlying4
 a4:=Tryz.isAgg4
 z4:=Tryz.sizeOf4
 v4:=Tryz.zeroValue4
 t5:=Tryz.underlying5
 a5:=Tryz.isAgg5
 z5:=Tryz.sizeOf5
 v5:=Tryz.zeroValue5
 t9:=Tryz.underlying9
 a9:=Tryz.isAgg9
 z9:=Tryz.sizeOf9
 v9:=Tryz.zeroValue9
 t20:=Tryz.underlying20
 a20:=Tryz.isAgg20
 z20:=Tryz.sizeOf20
 v20:=Tryz.zeroValue20
 t37:=Tryz.underlying53
 a37:=Tryz.isAgg53
 z37:=Tryz.sizeOf53
 v37:=Tryz.zeroValue53
 t46:=Tryz.underlying111
 a46:=Tryz.isAgg111
 z46:=Tryz.sizeOf111
 v46:=Tryz.zeroValue111
 t51:=Tryz.underlying185
 a51:=Tryz.isAgg185
 z51:=Tryz.sizeOf185
 v51:=Tryz.zeroValue185
 t53:=Tryz.underlying171
 a53:=Tryz.isAgg171
 z53:=Tryz.sizeOf171
 v53:=Tryz.zeroValue171
 t171:=Tryz.underlying170
 a171:=Tryz.isAgg170
 z171:=Tryz.sizeOf170
 v171:=Tryz.zeroValue170
 t173:=Tryz.underlying174
 a173:=Tryz.isAgg174
 z173:=Tryz.sizeOf174
 v173:=Tryz.zeroValue174
 t212:=Tryz.underlying184
 a212:=Tryz.isAgg184
 z212:=Tryz.sizeOf184
 v212:=Tryz.zeroValue184
 t213:=Tryz.underlying186
 a213:=Tryz.isAgg186
 z213:=Tryz.sizeOf186
 t232:=Tryz.underlying192
 a232:=Tryz.isAgg192
 z232:=Tryz.sizeOf192
 v232:=Tryz.zeroValue192
 t233:=Tryz.underlying193
 a233:=Tryz.isAgg193
 z233:=Tryz.sizeOf193
 v233:=Tryz.zeroValue193
 g17:=by kernel_rfl
 g18:=by kernel_rfl
 g19:=by kernel_rfl
 i0:=by kernel_rfl
 i2:=by kernel_rfl
 i3:=by kernel_rfl
 i4:=by kernel_rfl
 i5:=by kernel_rfl
 i9:=by kernel_rfl
 i20:=by kernel_rfl
 i37:=by kernel_rfl
 i46:=by kernel_rfl
 i51:=by kernel_rfl
 i53:=by kernel_rfl
 i171:=by kernel_rfl
 i173:=by kernel_rfl
 i212:=by kernel_rfl
 i232:=by kernel_rfl
 i233:=by kernel_rfl
 m17:=by kernel_rfl
 m18:=by kernel_rfl
 m19:=by kernel_rfl}
open Go.RowKit Go.Sort Go.Lib in
theorem Tryz.strconv_Itoa(n:Int)(h0 : -9223372036854775808<=n)(h1:n<=9223372036854775807)(w:World)(htab:Lib.TabIs Tryz.prog w "internal/strconv.uint64pow10" .u64 Lib.pow10Tab):
  Calls Tryz.prog 16 #[.int .i64 n] w λe w'=>e=.returned (.string ⟨(Lib.itoa n).toArray⟩)/\∃k os,w'=grow (w.drewN k) os:=Any.strconv_Itoa Tryz.adS n h0 h1 w htab
end Go.Proofs
set_option maxRecDepth 100000
set_option linter.all false
namespace Go.Ev.Tryz
open Go.Proofs
theorem mixed:Tryz.prog.follows .mixedOrders=true:=by kernel_rfl
noncomputable def yc(n:Nat)(a0:Int)(h:H):Option ((ByteArray)×H):=T4 0 a0 h
theorem uc(n:Nat)(a0:Int)(h:H):yc n a0 h=T4 0 a0 h:=rfl
noncomputable def JH(n:Nat):Entry Tryz.prog where
 id:=16
 run:=λargs h k=>lc args λv1 l2=>asInt .i64 v1 λx3=>l0 l2 ((yc n x3 h).bind λr=>k (.str r.1) r.2)
 nat:=by intro β args h k;simp only[Dp,Dm,tO,rz,tR,tQ,oH,tP,ry,tT,uf,Option.bind_assoc,fD]
 sound:=by
  intro args h v h' e0
  obtain⟨_,_,rfl,e1⟩:=vm e0
  obtain⟨_,rfl,e2⟩:=CD e1
  obtain⟨rfl,e3⟩:=Dn e2
  obtain⟨r,hr,e4⟩:=Option.bind_eq_some_iff.1 e3
  cases e4
  exact Ro (g:=0) Go.Proofs.Tryz.func16 (by kernel_rfl) (by kernel_rfl) (by kernel_rfl) (by kernel_rfl) Go.Proofs.Tryz.strconv_Itoa hr
noncomputable def ld(n:Nat)(a0:Option (Nat×Nat))(h:H):Option ((ByteArray)×H):=stF 57 5 a0 h
theorem ye(n:Nat)(a0:Option (Nat×Nat))(h:H):ld n a0 h=stF 57 5 a0 h:=rfl
noncomputable def yT(n:Nat):Entry Tryz.prog where
 id:=18
 run:=λargs h k=>lc args λv1 l2=>cZ v1 λx3=>l0 l2 ((ld n x3 h).bind λr=>k (.str r.1) r.2)
 nat:=by intro β args h k;simp only[Dp,Dm,tO,rz,tR,tQ,oH,tP,ry,tT,uf,Option.bind_assoc,fD]
 sound:=by
  intro args h v h' e0
  obtain⟨_,_,rfl,e1⟩:=vm e0
  obtain⟨_,rfl,e2⟩:=gL e1
  obtain⟨rfl,e3⟩:=Dn e2
  obtain⟨r,hr,e4⟩:=Option.bind_eq_some_iff.1 e3
  cases e4
  exact Xq (T:=57) (ρ:=Go.Proofs.Tryz.uy) ({Go.Proofs.Tryz.Mj with}:Go.Proofs.Lays.n169 Go.Proofs.Tryz.prog Go.Proofs.Tryz.uy) Go.Proofs.Tryz.qD Go.Proofs.Tryz.func18 (by kernel_rfl) (by kernel_rfl) hr
noncomputable def iN(n:Nat)(a0:Option (Nat×Nat))(a1:ByteArray)(h:H):Option ((Int×AV)×H):=(wsF 57 5 a0 a1 h).bind λh2=>some ((Nat.cast a1.size,AV.fJ),h2)
theorem uP(n:Nat)(a0:Option (Nat×Nat))(a1:ByteArray)(h:H):iN n a0 a1 h=(wsF 57 5 a0 a1 h).bind λh2=>some ((Nat.cast a1.size,AV.fJ),h2):=rfl
noncomputable def vH(n:Nat):Entry Tryz.prog where
 id:=41
 run:=λargs h k=>lc args λv1 l2=>cZ v1 λx3=>lc l2 λv4 l5=>aZ v4 λx6=>l0 l5 ((iN n x3 x6 h).bind λr=>k (.dJ [(.int .i64 r.1.1),r.1.2]) r.2)
 nat:=by intro β args h k;simp only[Dp,Dm,tO,rz,tR,tQ,oH,tP,ry,tT,uf,Option.bind_assoc,fD]
 sound:=by
  intro args h v h' e0
  obtain⟨_,_,rfl,e1⟩:=vm e0
  obtain⟨_,rfl,e2⟩:=gL e1
  obtain⟨_,_,rfl,e3⟩:=vm e2
  obtain⟨_,rfl,e4⟩:=tS e3
  obtain⟨rfl,e5⟩:=Dn e4
  obtain⟨r,hr,e6⟩:=Option.bind_eq_some_iff.1 e5
  cases e6
  obtain⟨h2,e9,e10⟩:=Option.bind_eq_some_iff.1 hr
  cases e10
  exact XB (T:=57) (ρ:=Go.Proofs.Tryz.uy) ({Go.Proofs.Tryz.Mj with}:Go.Proofs.Lays.n166 Go.Proofs.Tryz.prog Go.Proofs.Tryz.uy) Go.Proofs.Tryz.qD (by kernel_rfl) (show(57:Nat)≠5 by decide) Go.Proofs.Tryz.func41 (by kernel_rfl) (by kernel_rfl) e9
noncomputable def yf(n:Nat)(dy:Option (Nat×Nat))(dn:Nat)(dN:aM)(a1:ByteArray)(h:H):Option ((ByteArray)×H):=Jh dy dn dN a1 h
theorem pz(n:Nat)(dy:Option (Nat×Nat))(dn:Nat)(dN:aM)(a1:ByteArray)(h:H):yf n dy dn dN a1 h=Jh dy dn dN a1 h:=rfl
noncomputable def JI(n:Nat):Entry Tryz.prog where
 id:=42
 run:=λargs h k=>lc args λv1 l2=>asSlice v1 λx3 n4 c5=>lc l2 λv6 l7=>aZ v6 λx8=>l0 l7 ((yf n x3 n4 c5 x8 h).bind λr=>k (.str r.1) r.2)
 nat:=by intro β args h k;simp only[Dp,Dm,tO,rz,tR,tQ,oH,tP,ry,tT,uf,Option.bind_assoc,fD]
 sound:=by
  intro args h v h' e0
  obtain⟨_,_,rfl,e1⟩:=vm e0
  obtain⟨_,_,_,rfl,e2⟩:=si e1
  obtain⟨_,_,rfl,e3⟩:=vm e2
  obtain⟨_,rfl,e4⟩:=tS e3
  obtain⟨rfl,e5⟩:=Dn e4
  obtain⟨r,hr,e6⟩:=Option.bind_eq_some_iff.1 e5
  cases e6
  exact Rp Go.Proofs.Tryz.func42 (by kernel_rfl) (by kernel_rfl) Go.Proofs.Tryz.strings_Join_none Go.Proofs.Tryz.strings_Join hr
noncomputable def nE(n:Nat)(a0:ByteArray)(a1:Int)(h:H):Option ((Int)×H):=some (QU a0 a1,h)
theorem zg(n:Nat)(a0:ByteArray)(a1:Int)(h:H):nE n a0 a1 h=some (QU a0 a1,h):=rfl
noncomputable def Ab(n:Nat):Entry Tryz.prog where
 id:=127
 run:=λargs h k=>lc args λv1 l2=>aZ v1 λx3=>lc l2 λv4 l5=>asInt .u8 v4 λx6=>l0 l5 ((nE n x3 x6 h).bind λr=>k (.int .i64 r.1) r.2)
 nat:=by intro β args h k;simp only[Dp,Dm,tO,rz,tR,tQ,oH,tP,ry,tT,uf,Option.bind_assoc,fD]
 sound:=by
  intro args h v h' e0
  obtain⟨_,_,rfl,e1⟩:=vm e0
  obtain⟨_,rfl,e2⟩:=tS e1
  obtain⟨_,_,rfl,e3⟩:=vm e2
  obtain⟨_,rfl,e4⟩:=CD e3
  obtain⟨rfl,e5⟩:=Dn e4
  obtain⟨r,hr,e6⟩:=Option.bind_eq_some_iff.1 e5
  cases e6
  exact OX Go.Proofs.Tryz.func127 (by kernel_rfl) (by kernel_rfl) (by kernel_rfl) (by kernel_rfl) hr
noncomputable def jO(n:Nat)(a0:ByteArray)(a1:Int)(h:H):Option ((Int)×H):=some (Rn a0 a1,h)
theorem wj(n:Nat)(a0:ByteArray)(a1:Int)(h:H):jO n a0 a1 h=some (Rn a0 a1,h):=rfl
noncomputable def wY(n:Nat):Entry Tryz.prog where
 id:=134
 run:=λargs h k=>lc args λv1 l2=>aZ v1 λx3=>lc l2 λv4 l5=>asInt .u8 v4 λx6=>l0 l5 ((jO n x3 x6 h).bind λr=>k (.int .i64 r.1) r.2)
 nat:=by intro β args h k;simp only[Dp,Dm,tO,rz,tR,tQ,oH,tP,ry,tT,uf,Option.bind_assoc,fD]
 sound:=by
  intro args h v h' e0
  obtain⟨_,_,rfl,e1⟩:=vm e0
  obtain⟨_,rfl,e2⟩:=tS e1
  obtain⟨_,_,rfl,e3⟩:=vm e2
  obtain⟨_,rfl,e4⟩:=CD e3
  obtain⟨rfl,e5⟩:=Dn e4
  obtain⟨r,hr,e6⟩:=Option.bind_eq_some_iff.1 e5
  cases e6
  exact Pb Go.Proofs.Tryz.func134 (by kernel_rfl) (by kernel_rfl) (by kernel_rfl) (by kernel_rfl) hr
end Go.Ev.Tryz
set_option maxRecDepth 100000
set_option linter.all false
namespace Go.Ev.Tryz
open Go.Proofs
def Ij:Bs:=⟨#[110,111,100,101,32,123,10,109,97,99,32,48,50,58,48,48,58,48,48,58,48,48,58,48,48,58,48,49,10,97,100,100,114,101,115,115,32,49,48,46,48,46,48,46,49,10,112,101,101,114,32,49,48,46,48,46,48,46,50,10,125,10,118,114,114,112,32,123,10,105,100,32,55,10,112,114,105,111,114,105,116,121,32,49,48,48,10,101,118,101,114,121,32,49,48,48,10,118,105,112,32,49,48,46,48,46,48,46,49,48,48,10,125,10]⟩
def ua:Bs:=⟨#[48,49,50,51,52,53,54,55,56,57,97,98,99,100,101,102]⟩
def DK:Bs:=⟨#[48,49,50,51,52,53,54,55,56,57,97,98,99,100,101,102,103,104,105,106,107,108,109,110,111,112,113,114,115,116,117,118,119,120,121,122]⟩
def ku:Nat:=3
def iF:Nat:=4
def fH:Nat:=5
def rI:Nat:=6
def qp:Nat:=7
def lT:Nat:=8
def vj:Nat:=9
def Fp:Nat:=10
def jK:Nat:=11
def aJ:Nat:=12
def kf:Nat:=13
def eG:Nat:=14
def bW:Nat:=15
def rM:Nat:=16
def gw:Nat:=17
def tf:Nat:=18
def sU:Nat:=19
def eE:Nat:=20
def rK:Nat:=21
def rL:Nat:=22
def nT:Nat:=23
def aN:Nat:=24
def cY:Nat:=25
def fF:Nat:=26
def nR:Nat:=27
def qo:Nat:=28
def eg:Nat:=29
def nA:Nat:=30
def Fq:Nat:=31
def sY:Nat:=32
def bn:Nat:=33
def cN:Nat:=34
def cO:Nat:=35
def dc:Nat:=36
def eI:Nat:=37
def gv:Nat:=38
def aK:Nat:=39
def Dh:Nat:=40
def ot:Nat:=41
def rN:Nat:=42
def sW:Nat:=43
def td:Nat:=45
def nM:Nat:=46
def kK:Nat:=47
def sV:Nat:=48
def nO:Nat:=49
def jl:Nat:=50
def fh:Nat:=51
def gy:Nat:=52
def oQ:Nat:=53
def iA:Nat:=54
def bP:Nat:=55
def ff:Nat:=56
def eN:Nat:=57
def qu:Nat:=58
def jk:Nat:=59
def qq:Nat:=60
def dD:Nat:=61
def lR:Nat:=62
def dM:Nat:=63
def p9:Nat:=64
def bO:Nat:=65
def ef:Nat:=66
def nx:Nat:=67
def iE:Nat:=68
def iD:Nat:=69
def dZ:Nat:=70
def jv:Nat:=71
def Jf:Nat:=72
def vR:Nat:=75
def jT:Nat:=76
def cA:Nat:=77
def lU:Nat:=78
def dG:Nat:=79
def gR:Nat:=80
def nL:Nat:=81
def nQ:Nat:=82
def cz:Nat:=83
def jS:Nat:=84
def dF:Nat:=85
def Di:Nat:=86
def iz:Nat:=87
def xV:Nat:=88
def tJ:Nat:=89
def iT:Nat:=90
def rO:Nat:=91
def aU:Nat:=92
def sX:Nat:=93
def iw:Nat:=94
def xm:Nat:=100
def rJ:Nat:=101
def fE:Nat:=102
def ny:Nat:=103
def gT:Nat:=104
def nV:Nat:=105
def AG:Nat:=106
def lV:Nat:=107
def lW:Nat:=108
def ur:Nat:=109
def pN:Nat:=110
def vk:Nat:=115
def xl:Nat:=116
def xU:Nat:=117
def uu:Nat:=118
def vi:Nat:=120
def zE:Nat:=121
def Jg:Nat:=122
def xT:Nat:=123
def pO:Nat:=124
def Ba:Nat:=125
def vQ:Nat:=127
def yp:Nat:=128
def uv:Nat:=130
def sH:Nat:=134
noncomputable def zn:bx Tryz.prog:=⟨3,Tryz.f3,[],[],Go.Proofs.Tryz.func3,by kernel_rfl,by kernel_rfl⟩
noncomputable def Eh:bx Tryz.prog:=⟨4,Tryz.f4,[],[],Go.Proofs.Tryz.func4,by kernel_rfl,by kernel_rfl⟩
noncomputable def Np:bx Tryz.prog:=⟨5,Tryz.f5,[],[],Go.Proofs.Tryz.func5,by kernel_rfl,by kernel_rfl⟩
noncomputable def gP:bx Tryz.prog:=⟨6,Tryz.f6,[(16383,[1,3,4])],[(262138,[1,3,59,60,61]),(524282,[1,3,72,73,74]),(2097146,[3,91,92,93])],Go.Proofs.Tryz.func6,by kernel_rfl,by kernel_rfl⟩
noncomputable def bV:bx Tryz.prog:=⟨7,Tryz.f7,[(255,[2,8]),(509,[0,2,8,75]),(511,[2,8]),(2017,[0,2,8,9,37])],[(252,[0,2,8,9])],Go.Proofs.Tryz.func7,by kernel_rfl,by kernel_rfl⟩
noncomputable def cw:bx Tryz.prog:=⟨8,Tryz.f8,[(13,[2,3,54]),(29,[2,3,79])],[(122,[2,3,82,83]),(250,[2,3,100,101]),(506,[2,3,118,119])],Go.Proofs.Tryz.func8,by kernel_rfl,by kernel_rfl⟩
noncomputable def CX:bx Tryz.prog:=⟨9,Tryz.f9,[],[],Go.Proofs.Tryz.func9,by kernel_rfl,by kernel_rfl⟩
noncomputable def xd:bx Tryz.prog:=⟨10,Tryz.f10,[(119607,[0,5,6,7,13,14,34])],[(58,[0,5,13,14])],Go.Proofs.Tryz.func10,by kernel_rfl,by kernel_rfl⟩
noncomputable def bS:bx Tryz.prog:=⟨11,Tryz.f11,[(125,[0,98]),(61799,[0,3,4,5,6,7,51]),(130355,[0,12,133,134,135,151])],[(60,[0,3,4]),(506,[0,109,110,111]),(1018,[0,133,134,135])],Go.Proofs.Tryz.func11,by kernel_rfl,by kernel_rfl⟩
noncomputable def GU:bx Tryz.prog:=⟨12,Tryz.f12,[],[],Go.Proofs.Tryz.func12,by kernel_rfl,by kernel_rfl⟩
noncomputable def wk:bx Tryz.prog:=⟨13,Tryz.f13,[],[(58,[3,6,7])],Go.Proofs.Tryz.func13,by kernel_rfl,by kernel_rfl⟩
noncomputable def jI:bx Tryz.prog:=⟨14,Tryz.f14,[],[(1874,[3,12,13,14]),(7538,[0,3,6])],Go.Proofs.Tryz.func14,by kernel_rfl,by kernel_rfl⟩
noncomputable def Eg:bx Tryz.prog:=⟨15,Tryz.f15,[],[],Go.Proofs.Tryz.func15,by kernel_rfl,by kernel_rfl⟩
noncomputable def dL:bx Tryz.prog:=⟨17,Tryz.f17,[(31,[0,3,4]),(67103135,[0,6,56,57,58])],[(65530,[0,56,57,58])],Go.Proofs.Tryz.func17,by kernel_rfl,by kernel_rfl⟩
noncomputable def jG:bx Tryz.prog:=⟨19,Tryz.f19,[],[(124,[0,5,6,7]),(15916,[0,5,6,7,8,9])],Go.Proofs.Tryz.func19,by kernel_rfl,by kernel_rfl⟩
noncomputable def fC:bx Tryz.prog:=⟨20,Tryz.f20,[(29,[1,2,3,4,8,10,21]),(62613,[2,4,8,10,11,12,50])],[(122,[1,2,3,4,8,10,11])],Go.Proofs.Tryz.func20,by kernel_rfl,by kernel_rfl⟩
noncomputable def rD:bx Tryz.prog:=⟨21,Tryz.f21,[],[(60,[1,2,3])],Go.Proofs.Tryz.func21,by kernel_rfl,by kernel_rfl⟩
noncomputable def rE:bx Tryz.prog:=⟨22,Tryz.f22,[],[(252,[1,2,3,4])],Go.Proofs.Tryz.func22,by kernel_rfl,by kernel_rfl⟩
noncomputable def gh:bx Tryz.prog:=⟨23,Tryz.f23,[],[(58,[1,2,3,4]),(1020,[1,2,6,7])],Go.Proofs.Tryz.func23,by kernel_rfl,by kernel_rfl⟩
noncomputable def Ej:bx Tryz.prog:=⟨24,Tryz.f24,[(7,[3,6])],[],Go.Proofs.Tryz.func24,by kernel_rfl,by kernel_rfl⟩
noncomputable def Ek:bx Tryz.prog:=⟨25,Tryz.f25,[],[],Go.Proofs.Tryz.func25,by kernel_rfl,by kernel_rfl⟩
noncomputable def qg:bx Tryz.prog:=⟨26,Tryz.f26,[],[(58,[0,1,5,6])],Go.Proofs.Tryz.func26,by kernel_rfl,by kernel_rfl⟩
noncomputable def cE:bx Tryz.prog:=⟨27,Tryz.f27,[(7463,[1,2,4,74])],[(26,[1,2,3]),(58,[1,2,4]),(14922,[1,2,4,5,6])],Go.Proofs.Tryz.func27,by kernel_rfl,by kernel_rfl⟩
noncomputable def iC:bx Tryz.prog:=⟨28,Tryz.f28,[(13,[2,3,75])],[(58,[2,3,78,79])],Go.Proofs.Tryz.func28,by kernel_rfl,by kernel_rfl⟩
noncomputable def HI:bx Tryz.prog:=⟨29,Tryz.f29,[],[],Go.Proofs.Tryz.func29,by kernel_rfl,by kernel_rfl⟩
noncomputable def sP:bx Tryz.prog:=⟨30,Tryz.f30,[(3,[0])],[],Go.Proofs.Tryz.func30,by kernel_rfl,by kernel_rfl⟩
noncomputable def Ty:bx Tryz.prog:=⟨31,Tryz.f31,[],[],Go.Proofs.Tryz.func31,by kernel_rfl,by kernel_rfl⟩
noncomputable def jJ:bx Tryz.prog:=⟨32,Tryz.f32,[(3711,[0,1,2,7,31]),(14847,[0,2,7,45])],[],Go.Proofs.Tryz.func32,by kernel_rfl,by kernel_rfl⟩
noncomputable def OZ:bx Tryz.prog:=⟨33,Tryz.f33,[],[],Go.Proofs.Tryz.func33,by kernel_rfl,by kernel_rfl⟩
noncomputable def EZ:bx Tryz.prog:=⟨34,Tryz.f34,[],[],Go.Proofs.Tryz.func34,by kernel_rfl,by kernel_rfl⟩
noncomputable def E1:bx Tryz.prog:=⟨35,Tryz.f35,[],[],Go.Proofs.Tryz.func35,by kernel_rfl,by kernel_rfl⟩
noncomputable def nH:bx Tryz.prog:=⟨36,Tryz.f36,[],[(58,[1,3,14,15,16])],Go.Proofs.Tryz.func36,by kernel_rfl,by kernel_rfl⟩
noncomputable def Ef:bx Tryz.prog:=⟨37,Tryz.f37,[],[],Go.Proofs.Tryz.func37,by kernel_rfl,by kernel_rfl⟩
noncomputable def E0:bx Tryz.prog:=⟨38,Tryz.f38,[],[],Go.Proofs.Tryz.func38,by kernel_rfl,by kernel_rfl⟩
noncomputable def EX:bx Tryz.prog:=⟨39,Tryz.f39,[],[],Go.Proofs.Tryz.func39,by kernel_rfl,by kernel_rfl⟩
noncomputable def VM:bx Tryz.prog:=⟨40,Tryz.f40,[],[],Go.Proofs.Tryz.func40,by kernel_rfl,by kernel_rfl⟩
noncomputable def GV:bx Tryz.prog:=⟨43,Tryz.f43,[],[],Go.Proofs.Tryz.func43,by kernel_rfl,by kernel_rfl⟩
noncomputable def A6:bx Tryz.prog:=⟨45,Tryz.f45,[(13,[0,1,12])],[],Go.Proofs.Tryz.func45,by kernel_rfl,by kernel_rfl⟩
noncomputable def fY:bx Tryz.prog:=⟨46,Tryz.f46,[(97,[0,1,14])],[(12,[0,1])],Go.Proofs.Tryz.func46,by kernel_rfl,by kernel_rfl⟩
noncomputable def Ei:bx Tryz.prog:=⟨47,Tryz.f47,[],[],Go.Proofs.Tryz.func47,by kernel_rfl,by kernel_rfl⟩
noncomputable def jH:bx Tryz.prog:=⟨48,Tryz.f48,[(97,[0,1,2,27])],[(12,[0,1,2])],Go.Proofs.Tryz.func48,by kernel_rfl,by kernel_rfl⟩
noncomputable def fZ:bx Tryz.prog:=⟨49,Tryz.f49,[(225,[0,1,39])],[(28,[0,1])],Go.Proofs.Tryz.func49,by kernel_rfl,by kernel_rfl⟩
noncomputable def E4:bx Tryz.prog:=⟨50,Tryz.f50,[],[],Go.Proofs.Tryz.func50,by kernel_rfl,by kernel_rfl⟩
noncomputable def C1:bx Tryz.prog:=⟨51,Tryz.f51,[],[],Go.Proofs.Tryz.func51,by kernel_rfl,by kernel_rfl⟩
noncomputable def ji:bx Tryz.prog:=⟨52,Tryz.f52,[(841,[1,2,3,6,7,25])],[(26,[1,2,3,6,7])],Go.Proofs.Tryz.func52,by kernel_rfl,by kernel_rfl⟩
noncomputable def CZ:bx Tryz.prog:=⟨53,Tryz.f53,[],[],Go.Proofs.Tryz.func53,by kernel_rfl,by kernel_rfl⟩
noncomputable def Am:bx Tryz.prog:=⟨54,Tryz.f54,[],[],Go.Proofs.Tryz.func54,by kernel_rfl,by kernel_rfl⟩
noncomputable def gQ:bx Tryz.prog:=⟨55,Tryz.f55,[(31,[3,6,10]),(61,[3,6,9,10,39])],[],Go.Proofs.Tryz.func55,by kernel_rfl,by kernel_rfl⟩
noncomputable def oK:bx Tryz.prog:=⟨56,Tryz.f56,[],[(58,[1,2,4,6,7,8])],Go.Proofs.Tryz.func56,by kernel_rfl,by kernel_rfl⟩
noncomputable def gd:bx Tryz.prog:=⟨57,Tryz.f57,[(31,[1,2,3,6,9,10])],[(250,[1,2,3,6,9,10,12])],Go.Proofs.Tryz.func57,by kernel_rfl,by kernel_rfl⟩
noncomputable def cX:bx Tryz.prog:=⟨58,Tryz.f58,[(511,[1,2,5,6,7,8]),(1021,[1,2,5,6,7,8,53]),(4093,[1,2,5,7,8,9,70])],[(58,[1,2,3,4])],Go.Proofs.Tryz.func58,by kernel_rfl,by kernel_rfl⟩
noncomputable def jh:bx Tryz.prog:=⟨59,Tryz.f59,[(15,[1,2,4,6,7])],[(122,[1,2,4,6,7,8])],Go.Proofs.Tryz.func59,by kernel_rfl,by kernel_rfl⟩
noncomputable def qh:bx Tryz.prog:=⟨60,Tryz.f60,[(7,[3,4,6,7])],[],Go.Proofs.Tryz.func60,by kernel_rfl,by kernel_rfl⟩
noncomputable def bU:bx Tryz.prog:=⟨61,Tryz.f61,[(25,[0,1,19]),(56987,[0,5,81,94]),(450975,[0,1,5,6,7,8,40])],[(220,[0,1,5]),(890,[0,5,81])],Go.Proofs.Tryz.func61,by kernel_rfl,by kernel_rfl⟩
noncomputable def EW:bx Tryz.prog:=⟨62,Tryz.f62,[],[],Go.Proofs.Tryz.func62,by kernel_rfl,by kernel_rfl⟩
noncomputable def BT:bx Tryz.prog:=⟨63,Tryz.f63,[],[],Go.Proofs.Tryz.func63,by kernel_rfl,by kernel_rfl⟩
noncomputable def OY:bx Tryz.prog:=⟨64,Tryz.f64,[],[],Go.Proofs.Tryz.func64,by kernel_rfl,by kernel_rfl⟩
noncomputable def CW:bx Tryz.prog:=⟨65,Tryz.f65,[],[],Go.Proofs.Tryz.func65,by kernel_rfl,by kernel_rfl⟩
noncomputable def CV:bx Tryz.prog:=⟨66,Tryz.f66,[],[],Go.Proofs.Tryz.func66,by kernel_rfl,by kernel_rfl⟩
noncomputable def GS:bx Tryz.prog:=⟨67,Tryz.f67,[],[],Go.Proofs.Tryz.func67,by kernel_rfl,by kernel_rfl⟩
noncomputable def eH:bx Tryz.prog:=⟨68,Tryz.f68,[(4093,[0,6,9,11,12,65]),(4095,[0,6,12])],[(58,[0,3,18,19,20])],Go.Proofs.Tryz.func68,by kernel_rfl,by kernel_rfl⟩
noncomputable def Ee:bx Tryz.prog:=⟨69,Tryz.f69,[],[],Go.Proofs.Tryz.func69,by kernel_rfl,by kernel_rfl⟩
noncomputable def Al:bx Tryz.prog:=⟨70,Tryz.f70,[],[],Go.Proofs.Tryz.func70,by kernel_rfl,by kernel_rfl⟩
noncomputable def nG:bx Tryz.prog:=⟨71,Tryz.f71,[],[(58,[0,1,5,15,16,17])],Go.Proofs.Tryz.func71,by kernel_rfl,by kernel_rfl⟩
noncomputable def CQ:bx Tryz.prog:=⟨72,Tryz.f72,[],[(26,[0,1,7,8])],Go.Proofs.Tryz.func72,by kernel_rfl,by kernel_rfl⟩
noncomputable def vO:bx Tryz.prog:=⟨75,Tryz.f75,[(105,[0,17]),(431,[0,5,6])],[],Go.Proofs.Tryz.func75,by kernel_rfl,by kernel_rfl⟩
noncomputable def CY:bx Tryz.prog:=⟨76,Tryz.f76,[],[],Go.Proofs.Tryz.func76,by kernel_rfl,by kernel_rfl⟩
noncomputable def E3:bx Tryz.prog:=⟨77,Tryz.f77,[],[],Go.Proofs.Tryz.func77,by kernel_rfl,by kernel_rfl⟩
noncomputable def rC:bx Tryz.prog:=⟨78,Tryz.f78,[(31,[1,2,3,6])],[],Go.Proofs.Tryz.func78,by kernel_rfl,by kernel_rfl⟩
noncomputable def qi:bx Tryz.prog:=⟨79,Tryz.f79,[(61,[1,2,5,6,24])],[],Go.Proofs.Tryz.func79,by kernel_rfl,by kernel_rfl⟩
noncomputable def ee:bx Tryz.prog:=⟨80,Tryz.f80,[(13,[0,23]),(7825,[0,4,5,39])],[(122,[0,4,5])],Go.Proofs.Tryz.func80,by kernel_rfl,by kernel_rfl⟩
noncomputable def cD:bx Tryz.prog:=⟨81,Tryz.f81,[(125221,[4,5,6,7,33]),(130341,[4,5,9,10,72])],[(978,[4,5,6]),(1018,[4,5,9])],Go.Proofs.Tryz.func81,by kernel_rfl,by kernel_rfl⟩
noncomputable def gf:bx Tryz.prog:=⟨82,Tryz.f82,[],[(58,[1,2,4,5,6,7]),(1020,[2,4,5,9,10])],Go.Proofs.Tryz.func82,by kernel_rfl,by kernel_rfl⟩
noncomputable def EY:bx Tryz.prog:=⟨83,Tryz.f83,[],[],Go.Proofs.Tryz.func83,by kernel_rfl,by kernel_rfl⟩
noncomputable def CU:bx Tryz.prog:=⟨84,Tryz.f84,[],[],Go.Proofs.Tryz.func84,by kernel_rfl,by kernel_rfl⟩
noncomputable def qe:bx Tryz.prog:=⟨85,Tryz.f85,[(29,[0,5,6,24])],[],Go.Proofs.Tryz.func85,by kernel_rfl,by kernel_rfl⟩
noncomputable def C4:bx Tryz.prog:=⟨86,Tryz.f86,[(29,[2,4,17])],[],Go.Proofs.Tryz.func86,by kernel_rfl,by kernel_rfl⟩
noncomputable def Ak:bx Tryz.prog:=⟨87,Tryz.f87,[],[],Go.Proofs.Tryz.func87,by kernel_rfl,by kernel_rfl⟩
noncomputable def pM:bx Tryz.prog:=⟨88,Tryz.f88,[(29,[0,4,17]),(125,[6,30])],[],Go.Proofs.Tryz.func88,by kernel_rfl,by kernel_rfl⟩
noncomputable def LJ:bx Tryz.prog:=⟨89,Tryz.f89,[],[],Go.Proofs.Tryz.func89,by kernel_rfl,by kernel_rfl⟩
noncomputable def nc:bx Tryz.prog:=⟨90,Tryz.f90,[(487,[0,3,6,8,24])],[],Go.Proofs.Tryz.func90,by kernel_rfl,by kernel_rfl⟩
noncomputable def kq:bx Tryz.prog:=⟨91,Tryz.f91,[(13,[0,22]),(15669,[4,6,24,33])],[(122,[4,24])],Go.Proofs.Tryz.func91,by kernel_rfl,by kernel_rfl⟩
noncomputable def A5:bx Tryz.prog:=⟨92,Tryz.f92,[],[],Go.Proofs.Tryz.func92,by kernel_rfl,by kernel_rfl⟩
noncomputable def GZ:bx Tryz.prog:=⟨93,Tryz.f93,[],[],Go.Proofs.Tryz.func93,by kernel_rfl,by kernel_rfl⟩
noncomputable def vL:bx Tryz.prog:=⟨94,Tryz.f94,[],[],Go.Proofs.Tryz.func94,by kernel_rfl,by kernel_rfl⟩
noncomputable def LK:bx Tryz.prog:=⟨97,Tryz.f97,[],[],Go.Proofs.Tryz.func97,by kernel_rfl,by kernel_rfl⟩
noncomputable def GY:bx Tryz.prog:=⟨98,Tryz.f98,[],[],Go.Proofs.Tryz.func98,by kernel_rfl,by kernel_rfl⟩
noncomputable def C2:bx Tryz.prog:=⟨99,Tryz.f99,[(31,[0,4,12]),(63,[0,4,12])],[(12,[0,1,4])],Go.Proofs.Tryz.func99,by kernel_rfl,by kernel_rfl⟩
noncomputable def bz:bx Tryz.prog:=⟨100,Tryz.f100,[(7,[0,1,2,3,4,10,11]),(13,[0,1,2,3,4,10,11,28]),(63,[0,1,2,3,4,10,11,12,13]),(127,[0,3,4,10,11,12,13]),(255,[0,4,10,11,12,13])],[(4060,[0,1,3,4,10,11,12,13,17]),(16220,[0,1,3,4,10,11,12,13,14,15,16])],Go.Proofs.Tryz.func100,by kernel_rfl,by kernel_rfl⟩
noncomputable def jg:bx Tryz.prog:=⟨101,Tryz.f101,[(32037,[2,4,5,6,7,32])],[(250,[2,4,5,6])],Go.Proofs.Tryz.func101,by kernel_rfl,by kernel_rfl⟩
noncomputable def qf:bx Tryz.prog:=⟨102,Tryz.f102,[],[(122,[0,1,5,6,7])],Go.Proofs.Tryz.func102,by kernel_rfl,by kernel_rfl⟩
noncomputable def bT:bx Tryz.prog:=⟨103,Tryz.f103,[(465,[0,3,4,17]),(3731,[0,3,4,5]),(7461,[0,3,4,5,29]),(7463,[0,3,4,5]),(14925,[0,3,4,5,44])],[(58,[0,3,4])],Go.Proofs.Tryz.func103,by kernel_rfl,by kernel_rfl⟩
noncomputable def rF:bx Tryz.prog:=⟨104,Tryz.f104,[],[(58,[2,3,10,18,19,20]),(59806,[2,3,10,13,15,18,19,20])],Go.Proofs.Tryz.func104,by kernel_rfl,by kernel_rfl⟩
noncomputable def Nq:bx Tryz.prog:=⟨105,Tryz.f105,[],[],Go.Proofs.Tryz.func105,by kernel_rfl,by kernel_rfl⟩
noncomputable def lN:bx Tryz.prog:=⟨106,Tryz.f106,[(3739,[0,1,2,8,12]),(14953,[0,1,2,8,10,12,16]),(59815,[0,1,2,8,10,12,29])],[(58,[0,1,2,8,12])],Go.Proofs.Tryz.func106,by kernel_rfl,by kernel_rfl⟩
noncomputable def IM:bx Tryz.prog:=⟨107,Tryz.f107,[],[],Go.Proofs.Tryz.func107,by kernel_rfl,by kernel_rfl⟩
noncomputable def IN:bx Tryz.prog:=⟨108,Tryz.f108,[],[],Go.Proofs.Tryz.func108,by kernel_rfl,by kernel_rfl⟩
noncomputable def BU:bx Tryz.prog:=⟨109,Tryz.f109,[],[],Go.Proofs.Tryz.func109,by kernel_rfl,by kernel_rfl⟩
noncomputable def jC:bx Tryz.prog:=⟨110,Tryz.f110,[],[(26,[0,1,7,8])],Go.Proofs.Tryz.func110,by kernel_rfl,by kernel_rfl⟩
noncomputable def GX:bx Tryz.prog:=⟨112,Tryz.f112,[],[],Go.Proofs.Tryz.func112,by kernel_rfl,by kernel_rfl⟩
noncomputable def QY:bx Tryz.prog:=⟨113,Tryz.f113,[(7,[0,2]),(15,[0,2]),(31,[0,2])],[],Go.Proofs.Tryz.func113,by kernel_rfl,by kernel_rfl⟩
noncomputable def GW:bx Tryz.prog:=⟨114,Tryz.f114,[],[],Go.Proofs.Tryz.func114,by kernel_rfl,by kernel_rfl⟩
noncomputable def C3:bx Tryz.prog:=⟨115,Tryz.f115,[],[],Go.Proofs.Tryz.func115,by kernel_rfl,by kernel_rfl⟩
noncomputable def EV:bx Tryz.prog:=⟨116,Tryz.f116,[],[],Go.Proofs.Tryz.func116,by kernel_rfl,by kernel_rfl⟩
noncomputable def LO:bx Tryz.prog:=⟨117,Tryz.f117,[],[],Go.Proofs.Tryz.func117,by kernel_rfl,by kernel_rfl⟩
noncomputable def BV:bx Tryz.prog:=⟨118,Tryz.f118,[],[],Go.Proofs.Tryz.func118,by kernel_rfl,by kernel_rfl⟩
noncomputable def CS:bx Tryz.prog:=⟨119,Tryz.f119,[],[],Go.Proofs.Tryz.func119,by kernel_rfl,by kernel_rfl⟩
noncomputable def CT:bx Tryz.prog:=⟨120,Tryz.f120,[],[],Go.Proofs.Tryz.func120,by kernel_rfl,by kernel_rfl⟩
noncomputable def fW:bx Tryz.prog:=⟨121,Tryz.f121,[(31,[0,1,2,3]),(1023,[0,9,10])],[(2044,[0,1,2,3,9,10])],Go.Proofs.Tryz.func121,by kernel_rfl,by kernel_rfl⟩
noncomputable def IL:bx Tryz.prog:=⟨122,Tryz.f122,[(15,[0,1]),(29,[0,1,5,18])],[(250,[0,1,6,7])],Go.Proofs.Tryz.func122,by kernel_rfl,by kernel_rfl⟩
noncomputable def DW:bx Tryz.prog:=⟨123,Tryz.f123,[],[(62,[0,1,5])],Go.Proofs.Tryz.func123,by kernel_rfl,by kernel_rfl⟩
noncomputable def LN:bx Tryz.prog:=⟨124,Tryz.f124,[],[],Go.Proofs.Tryz.func124,by kernel_rfl,by kernel_rfl⟩
noncomputable def A7:bx Tryz.prog:=⟨125,Tryz.f125,[],[(26,[2,4])],Go.Proofs.Tryz.func125,by kernel_rfl,by kernel_rfl⟩
noncomputable def An:bx Tryz.prog:=⟨126,Tryz.f126,[(13,[0,10])],[],Go.Proofs.Tryz.func126,by kernel_rfl,by kernel_rfl⟩
noncomputable def sO:bx Tryz.prog:=⟨128,Tryz.f128,[(57,[0,1,5,16]),(3711,[0,1,5,36]),(32709,[0,1,5,6,7,8,9,10]),(130837,[0,1,5,6,7,8,9,10,93]),(523359,[0,1,5,6,7,8,9,10,107]),(2093439,[0,1,5,6,7,8,9,10,132])],[(2044,[0,1,5,6,7,8,9,10])],Go.Proofs.Tryz.func128,by kernel_rfl,by kernel_rfl⟩
noncomputable def wZ:bx Tryz.prog:=⟨129,Tryz.f129,[(8189,[0,5,8,10,57]),(65533,[0,5,8,10,11,75]),(524285,[5,10,11,12,98])],[],Go.Proofs.Tryz.func129,by kernel_rfl,by kernel_rfl⟩
noncomputable def BW:bx Tryz.prog:=⟨130,Tryz.f130,[],[],Go.Proofs.Tryz.func130,by kernel_rfl,by kernel_rfl⟩
noncomputable def IK:bx Tryz.prog:=⟨132,Tryz.f132,[],[],Go.Proofs.Tryz.func132,by kernel_rfl,by kernel_rfl⟩
noncomputable def vK:bx Tryz.prog:=⟨133,Tryz.f133,[(253,[0,1,5,6,7,8,39]),(260703,[0,1,5,6,7,8,10,77])],[(250,[0,1,5,6,7,8,9]),(1018,[0,1,5,6,7,8,10])],Go.Proofs.Tryz.func133,by kernel_rfl,by kernel_rfl⟩
noncomputable def A4:bx Tryz.prog:=⟨135,Tryz.f135,[],[(58,[0,4,5]),(250,[4,6,7,8])],Go.Proofs.Tryz.func135,by kernel_rfl,by kernel_rfl⟩
noncomputable def T:MF Tryz.prog:=⟨⟨[gP,bV,cw,CX,xd,GU,wk,jI,Eg,dL,jG,fC,rD,rE,gh,Ej,Ek,qg,cE,iC,HI,sP,Ty,jJ,OZ,Ef,E0,EX,VM,GV,A6,fY,Ei,jH,fZ,E4,C1,ji,CZ,Am,gQ,oK,gd,cX,jh,qh,EW,BT,OY,CW,CV,GS,eH,Ee,CQ,vO,CY,E3,rC,qi,ee,cD,gf,EY,CU,qe,C4,Ak,pM,LJ,nc,kq,A5,GZ,vL,LK,GY,C2,bz,jg,qf,bT,rF,Nq,lN,IM,IN,BU,jC,GX,QY,GW,C3,EV,LO,BV,CS,CT,fW,IL,DW,LN,A7,An,sO,wZ,BW,IK,vK,A4],(λn=>Y9 [JH n,yT n,vH n,JI n,Ab n,wY n]),(λn=>Pk _),[(3,[4]),(4,[4]),(5,[30,3,31]),(6,[9]),(7,[38,3,31]),(8,[4]),(9,[9]),(10,[44,3,31]),(11,[4]),(12,[]),(13,[9]),(14,[9]),(15,[]),(16,[9]),(17,[]),(18,[9]),(19,[69,3,31]),(20,[74,9]),(21,[74]),(22,[74]),(23,[74]),(24,[74]),(25,[3]),(26,[3]),(27,[74]),(28,[4]),(29,[4]),(30,[]),(31,[4]),(32,[4]),(33,[96]),(34,[4]),(35,[4]),(36,[4]),(37,[3]),(38,[9]),(39,[4]),(40,[4]),(41,[3,107]),(42,[9]),(43,[9]),(45,[9]),(46,[3]),(47,[4]),(48,[3]),(49,[3]),(50,[9]),(51,[74]),(52,[74]),(53,[74,24]),(54,[74,25]),(55,[74,3]),(56,[74,3]),(57,[74,25]),(58,[74]),(59,[74,9]),(60,[74,87]),(61,[4]),(62,[22]),(63,[22]),(64,[142]),(65,[22]),(66,[22]),(67,[4]),(68,[4]),(69,[9,4]),(70,[4]),(71,[4]),(72,[3]),(75,[9]),(76,[4]),(77,[74]),(78,[74,24]),(79,[74,9,3]),(80,[3,4]),(81,[25,4]),(82,[74,136]),(83,[4]),(84,[4]),(85,[9,3,4]),(86,[24,4]),(87,[4]),(88,[25,4]),(89,[4]),(90,[4]),(91,[3,4]),(92,[4]),(93,[9,4]),(94,[4]),(97,[9]),(98,[3]),(99,[]),(100,[53,9]),(101,[24,4]),(102,[75]),(103,[3]),(104,[53,4]),(105,[3,4]),(106,[3,4]),(107,[3,4]),(108,[3,4]),(109,[9,4]),(110,[3]),(112,[3]),(113,[3]),(114,[3]),(115,[4]),(116,[3]),(117,[75]),(118,[4]),(119,[3]),(120,[3]),(121,[75]),(122,[75]),(123,[3]),(124,[3]),(125,[3]),(126,[21,3]),(127,[3]),(128,[3]),(129,[21,3]),(130,[3]),(131,[3]),(132,[3]),(133,[3]),(134,[3]),(135,[185,185])]⟩,[zn,Eh,Np,bS,EZ,E1,nH,bU,Al,nG]⟩
abbrev wN:List AV:=[(.slice none 0 (.known 0)),(.int .i64 0),(.int .i64 0),(.int .u8 0),(.int .u8 0),(.int .u8 0),(.int .u8 0),(.int .u8 0),(.int .u8 0),(.str .empty),(.str .empty),(.int .i64 0),(.int .i64 0),(.int .i64 0),(.bool false),(.slice none 0 (.known 0)),(.slice none 0 (.known 0)),(.slice none 0 (.known 0)),(.slice none 0 (.known 0)),(.int .i64 0),(.int .i64 0)]
noncomputable abbrev cr:Nat->Pr:=IB T
abbrev KK:=AV->H->Option Unit
noncomputable abbrev ca:Nat->dK:=EO T.toTab
abbrev R:=Option (AV×H)
end Go.Ev.Tryz
set_option maxRecDepth 100000
set_option linter.all false
namespace Go.Ev.Tryz
noncomputable section
open Go.Proofs
def eA(n m1:Nat)(a1 eR:Pt)(eS:Nat)(eT:aM)(SA:Pt)(SB:Nat)(XS:aM)(QH Is:Int)(h:H)(kk:KK):Option Unit:=JR T n nH [1,1,0,1,0] [m1] [(1,(.ptr a1)),(3,(.slice eR eS eT)),(14,(.slice SA SB XS)),(15,(.int .i64 QH)),(16,(.int .i64 Is))] h kk
theorem qG(n m1:Nat)(a1 eR:Pt)(eS:Nat)(eT:aM)(SA:Pt)(SB:Nat)(XS:aM)(QH Is:Int)(h:H)(kk:KK):eA n (m1+1) a1 eR eS eT SA SB XS QH Is h kk=cond (decide (Is<QH)) (if 0<=(Is:Int)/\Is<(Nat.cast (SB):Int)then aC SA λJ2 Ku=>aI h J2 (Ku+Is.toNat*10) 10 λRs=>lS Rs λOD Kn=>lS Kn λL8 Rv=>lI Rv λx19 l18=>lI l18 λXG l20=>lI l20 λPp l22=>lI l22 λG7 WK=>lI WK λXH l26=>lI l26 λx29 l28=>lI l28 λx31 l30=>lL l30 λx33 n34 c35 Rw=>l0 Rw (aD (.cells [(.str .empty),(.str .empty),(.int .i64 0),(.int .i64 0),(.int .i64 0),(.int .i64 0),(.int .i64 0),(.int .i64 0),(.int .i64 0),(.slice none 0 (.known 0))] false) h λi36 h37=>bK h37 i36 0 10 [(.str OD),(.str L8),(.int .i64 x19),(.int .i64 XG),(.int .i64 Pp),(.int .i64 G7),(.int .i64 XH),(.int .i64 x29),(.int .i64 x31),(.slice x33 n34 c35)] λK8=>af K8 i36 0 λv39=>aZ v39 λx40=>aD (.cells [(.str x40)] false) K8 λi41 h42=>fS 1 16 eR eS eT (di 1 (.slice (some (i41,0)) 1 (.known 1)) h42) h42 λp43 n44 c45 h46=>eA n m1 a1 p43 n44 c45 SA SB XS QH (IntKind.i64.wrap (Is+1)) h46 kk)else none) (aC a1 λb47 o48=>af h b47 o48 λv49=>cZ v49 λx50=>(ca n iD [(.ptr x50),(.slice eR eS eT)] h).bind λq51=>aO q51.1 λl52=>lS l52 λx54 l53=>lB l53 λQy l55=>l0 l55 (cond (!Qy) (kk (.bool false) q51.2) (aD (.cells [(.str x54),(.str .empty),(.int .i64 0),(.int .i64 0),(.int .i64 0),(.int .i64 1),(.int .i64 1),(.int .i64 1),(.int .i64 100),(.slice none 0 (.known 0))] false) q51.2 λi57 h58=>aD (.cells [(.ptr none)] false) h58 λi59 LS=>bK LS i59 0 1 [(.ptr (some (i57,0)))] λVa=>aC a1 λb62 o63=>af Va b62 o63 λv64=>cZ v64 λx65=>Lj Va λi66 h67=>aC a1 λb68 o69=>af h67 b68 o69 λv70=>cZ v70 λx71=>af h67 i59 0 λv72=>cZ v72 λx73=>aC x73 λZB o75=>Lj h67 λi76 Re=>(ca n ef [(.ptr x71),(.ptr (some (ZB,(o75+2)))),(.map (some i76))] Re).bind λHu=>pK Hu.1 λf79 x80 y81=>dU Re Hu.2 (kj a1) ((ca n bn [(.bool true),(.func f79 x80 y81)] Hu.2).bind λG3=>asAgg G3.1 λl83=>lI l83 λx85 l84=>lB l84 λx87 l86=>lc l86 λv89 l88=>l0 l88 (dU Hu.2 G3.2 (kj a1) (aC a1 λb90 o91=>af (G3.2.minus (bD (bD Gz Re Hu.2) Hu.2 G3.2)) b90 o91 λv92=>cZ v92 λx93=>af (G3.2.minus (bD (bD Gz Re Hu.2) Hu.2 G3.2)) i59 0 λv94=>cZ v94 λx95=>aC x95 λb96 o97=>(ca n p9 [(.ptr (some (b96,(o97+1))))] G3.2).bind λHv=>pK Hv.1 λf99 Sb aCs=>dU G3.2 Hv.2 (kj a1) (dU G3.2 Hv.2 (kj a1) ((ca n dM [(.ptr x93),(.bool true),(.func f99 Sb aCs)] Hv.2).bind λpX=>pK pX.1 λf103 afe aCt=>dU Hv.2 pX.2 (kj a1) ((ca n bn [(.bool true),(.func f103 afe aCt)] pX.2).bind λvN=>asAgg vN.1 λadB=>lI adB λaoi alV=>lB alV λaBE alW=>lc alW λaA1 Wx=>l0 Wx (dU pX.2 vN.2 (kj a1) (aC a1 λavn azD=>af (vN.2.minus (bD (bD (bD (bD (bD Gz Re Hu.2) Hu.2 G3.2) G3.2 Hv.2) Hv.2 pX.2) pX.2 vN.2)) avn azD λaA3=>cZ aA3 λaBG=>af (vN.2.minus (bD (bD (bD (bD (bD Gz Re Hu.2) Hu.2 G3.2) G3.2 Hv.2) Hv.2 pX.2) pX.2 vN.2)) i59 0 λanZ=>cZ anZ λaok=>aC aok λavq azG=>(ca n bO [(.ptr aBG),(.ptr (some (avq,(azG+3)))),(.int .i64 1),(.int .i64 65535)] vN.2).bind λyR=>pK yR.1 λf123 aon aCv=>dU vN.2 yR.2 (kj a1) ((ca n bn [(.bool true),(.func f123 aon aCv)] yR.2).bind λIe=>asAgg Ie.1 λWA=>lI WA λabg alZ=>lB alZ λaor al1=>lc al1 λaBa al3=>l0 al3 (dU yR.2 Ie.2 (kj a1) (aC a1 λVv WY=>af (Ie.2.minus (bD (bD (bD (bD (bD (bD (bD Gz Re Hu.2) Hu.2 G3.2) G3.2 Hv.2) Hv.2 pX.2) pX.2 vN.2) vN.2 yR.2) yR.2 Ie.2)) Vv WY λaBb=>cZ aBb λaBM=>af (Ie.2.minus (bD (bD (bD (bD (bD (bD (bD Gz Re Hu.2) Hu.2 G3.2) G3.2 Hv.2) Hv.2 pX.2) pX.2 vN.2) vN.2 yR.2) yR.2 Ie.2)) i59 0 λv138=>cZ v138 λaBO=>aC aBO λake anb=>Lj Ie.2 λi142 O5=>(ca n ef [(.ptr aBM),(.ptr (some (ake,(anb+4)))),(.map (some i142))] O5).bind λCn=>pK Cn.1 λf145 Sd aCw=>dU O5 Cn.2 (kj a1) ((ca n bn [(.bool true),(.func f145 Sd aCw)] Cn.2).bind λKz=>asAgg Kz.1 λWE=>lI WE λaov al7=>lB al7 λaBR ayJ=>lc ayJ λaBd al8=>l0 al8 (dU Cn.2 Kz.2 (kj a1) (aC a1 λakh anf=>af (Kz.2.minus (bD (bD (bD (bD (bD (bD (bD (bD (bD Gz Re Hu.2) Hu.2 G3.2) G3.2 Hv.2) Hv.2 pX.2) pX.2 vN.2) vN.2 yR.2) yR.2 Ie.2) O5 Cn.2) Cn.2 Kz.2)) akh anf λan2=>cZ an2 λaow=>af (Kz.2.minus (bD (bD (bD (bD (bD (bD (bD (bD (bD Gz Re Hu.2) Hu.2 G3.2) G3.2 Hv.2) Hv.2 pX.2) pX.2 vN.2) vN.2 yR.2) yR.2 Ie.2) O5 Cn.2) Cn.2 Kz.2)) i59 0 λv160=>cZ v160 λaoy=>aC aoy λab6 ad8=>Lj Kz.2 λi164 O6=>(ca n ef [(.ptr aow),(.ptr (some (ab6,(ad8+5)))),(.map (some i164))] O6).bind λDI=>pK DI.1 λf167 afs aCx=>dU O6 DI.2 (kj a1) ((ca n bn [(.bool false),(.func f167 afs aCx)] DI.2).bind λG2=>asAgg G2.1 λadJ=>lI adJ λaoB ame=>lB ame λaoC WJ=>lc WJ λaBf amg=>l0 amg (dU DI.2 G2.2 (kj a1) (aC a1 λavM az3=>af (G2.2.minus (bD (bD (bD (bD (bD (bD (bD (bD (bD (bD (bD Gz Re Hu.2) Hu.2 G3.2) G3.2 Hv.2) Hv.2 pX.2) pX.2 vN.2) vN.2 yR.2) yR.2 Ie.2) O5 Cn.2) Cn.2 Kz.2) O6 DI.2) DI.2 G2.2)) avM az3 λaBh=>cZ aBh λaft=>af (G2.2.minus (bD (bD (bD (bD (bD (bD (bD (bD (bD (bD (bD Gz Re Hu.2) Hu.2 G3.2) G3.2 Hv.2) Hv.2 pX.2) pX.2 vN.2) vN.2 yR.2) yR.2 Ie.2) O5 Cn.2) Cn.2 Kz.2) O6 DI.2) DI.2 G2.2)) i59 0 λv182=>cZ v182 λafu=>aC afu λavN az4=>(ca n bO [(.ptr aft),(.ptr (some (avN,(az4+6)))),(.int .i64 1),(.int .i64 20)] G2.2).bind λLX=>pK LX.1 λf187 aB4 aCz=>dU G2.2 LX.2 (kj a1) ((ca n bn [(.bool false),(.func f187 aB4 aCz)] LX.2).bind λLY=>asAgg LY.1 λayT=>lI ayT λaoI amq=>lB amq λafv amr=>lc amr λaBi ams=>l0 ams (dU LX.2 LY.2 (kj a1) (aC a1 λavO az5=>af (LY.2.minus (bD (bD (bD (bD (bD (bD (bD (bD (bD (bD (bD (bD (bD Gz Re Hu.2) Hu.2 G3.2) G3.2 Hv.2) Hv.2 pX.2) pX.2 vN.2) vN.2 yR.2) yR.2 Ie.2) O5 Cn.2) Cn.2 Kz.2) O6 DI.2) DI.2 G2.2) G2.2 LX.2) LX.2 LY.2)) avO az5 λaBj=>cZ aBj λaB7=>af (LY.2.minus (bD (bD (bD (bD (bD (bD (bD (bD (bD (bD (bD (bD (bD Gz Re Hu.2) Hu.2 G3.2) G3.2 Hv.2) Hv.2 pX.2) pX.2 vN.2) vN.2 yR.2) yR.2 Ie.2) O5 Cn.2) Cn.2 Kz.2) O6 DI.2) DI.2 G2.2) G2.2 LX.2) LX.2 LY.2)) i59 0 λaBk=>cZ aBk λaB8=>aC aB8 λavQ az7=>(ca n bO [(.ptr aB7),(.ptr (some (avQ,(az7+7)))),(.int .i64 1),(.int .i64 20)] LY.2).bind λUr=>pK Ur.1 λf207 aB9 aCA=>dU LY.2 Ur.2 (kj a1) ((ca n bn [(.bool false),(.func f207 aB9 aCA)] Ur.2).bind λUs=>asAgg Us.1 λayW=>lI ayW λaCa ayX=>lB ayX λaCb ayY=>lc ayY λaBl amt=>l0 amt (dU Ur.2 Us.2 (kj a1) (aC a1 λavV aAc=>af (Us.2.minus (bD (bD (bD (bD (bD (bD (bD (bD (bD (bD (bD (bD (bD (bD (bD Gz Re Hu.2) Hu.2 G3.2) G3.2 Hv.2) Hv.2 pX.2) pX.2 vN.2) vN.2 yR.2) yR.2 Ie.2) O5 Cn.2) Cn.2 Kz.2) O6 DI.2) DI.2 G2.2) G2.2 LX.2) LX.2 LY.2) LY.2 Ur.2) Ur.2 Us.2)) avV aAc λaBm=>cZ aBm λaCc=>af (Us.2.minus (bD (bD (bD (bD (bD (bD (bD (bD (bD (bD (bD (bD (bD (bD (bD Gz Re Hu.2) Hu.2 G3.2) G3.2 Hv.2) Hv.2 pX.2) pX.2 vN.2) vN.2 yR.2) yR.2 Ie.2) O5 Cn.2) Cn.2 Kz.2) O6 DI.2) DI.2 G2.2) G2.2 LX.2) LX.2 LY.2) LY.2 Ur.2) Ur.2 Us.2)) i59 0 λv222=>cZ v222 λaCd=>aC aCd λavW aAd=>(ca n bO [(.ptr aCc),(.ptr (some (avW,(aAd+8)))),(.int .i64 1),(.int .i64 10000)] Us.2).bind λahM=>pK ahM.1 λf227 aCe aCB=>dU Us.2 ahM.2 (kj a1) ((ca n bn [(.bool false),(.func f227 aCe aCB)] ahM.2).bind λanI=>asAgg anI.1 λayZ=>lI ayZ λaCf ay0=>lB ay0 λaCg ay1=>lc ay1 λaBn ay2=>l0 ay2 (dU ahM.2 anI.2 (kj a1) (Lq [i66,i76,i142,i164] [(i76,(.str (⟨#[116,99,112]⟩:ByteArray)),(.int .i64 6)),(i76,(.str (⟨#[117,100,112]⟩:ByteArray)),(.int .i64 17)),(i66,(.str (⟨#[112,114,111,116,111]⟩:ByteArray)),(.agg [(.int .i64 x85),(.bool x87),v89])),(i66,(.str (⟨#[118,105,112]⟩:ByteArray)),(.agg [(.int .i64 aoi),(.bool aBE),aA1])),(i66,(.str (⟨#[112,111,114,116]⟩:ByteArray)),(.agg [(.int .i64 abg),(.bool aor),aBa])),(i142,(.str (⟨#[110,97,116]⟩:ByteArray)),(.int .i64 1)),(i142,(.str (⟨#[100,114]⟩:ByteArray)),(.int .i64 2)),(i142,(.str (⟨#[105,112,105,112]⟩:ByteArray)),(.int .i64 3)),(i66,(.str (⟨#[109,111,100,101]⟩:ByteArray)),(.agg [(.int .i64 aov),(.bool aBR),aBd])),(i164,(.str (⟨#[109,97,103,108,101,118]⟩:ByteArray)),(.int .i64 1)),(i164,(.str (⟨#[115,111,117,114,99,101]⟩:ByteArray)),(.int .i64 2)),(i66,(.str (⟨#[115,99,104,101,100,117,108,101]⟩:ByteArray)),(.agg [(.int .i64 aoB),(.bool aoC),aBf])),(i66,(.str (⟨#[114,105,115,101]⟩:ByteArray)),(.agg [(.int .i64 aoI),(.bool afv),aBi])),(i66,(.str (⟨#[102,97,108,108]⟩:ByteArray)),(.agg [(.int .i64 aCa),(.bool aCb),aBl])),(i66,(.str (⟨#[112,114,111,98,101]⟩:ByteArray)),(.agg [(.int .i64 aCf),(.bool aCg),aBn])),(i66,(.str (⟨#[98,97,99,107,101,110,100]⟩:ByteArray)),(.agg [(.int .i64 16),(.bool true),(.func dZ [] [(.ptr a1),(.ptr (some (i59,0)))])]))] anI.2 λaw4=>cr n dD [(.ptr x65),(.map (some i66))] aw4 λaBo Z7=>asBool aBo λaCh=>aC a1 λavX aAe=>af Z7 avX aAe λaBp=>cZ aBp λaCi=>aC a1 λavY aAf=>af Z7 avY aAf λaBq=>cZ aBq λaCj=>aC aCj λavZ aAg=>af Z7 avZ ((aAg+3)+14) λais=>asSlice ais λaoJ n255 akE=>af Z7 i59 0 λan4=>cZ an4 λaoK=>aC aoK λakl anj=>aI Z7 akl anj 10 λamv=>lS amv λaoL amw=>lS amw λaoM amx=>lI amx λaoN amy=>lI amy λaoO amz=>lI amz λaoP amA=>lI amA λaoQ amB=>lI amB λaoR amC=>lI amC λaoS amD=>lI amD λaoT amE=>lL amE λaoU n282 akF amF=>l0 amF (aD (.cells [(.str aoL),(.str aoM),(.int .i64 aoN),(.int .i64 aoO),(.int .i64 aoP),(.int .i64 aoQ),(.int .i64 aoR),(.int .i64 aoS),(.int .i64 aoT),(.slice aoU n282 akF)] false) Z7 λalM Wc=>fS 10 112 aoJ n255 akE (di 10 (.slice (some (alM,0)) 1 (.known 1)) Wc) Wc λanz n287 akG ac6=>dU Wc ac6 (kj a1) (aC aCi λav0 aAh=>bK ac6 av0 ((aAh+3)+14) 1 [(.slice anz n287 akG)] λak6=>kk (.bool aCh) ak6))))))))))))))))))))))))))))))):=(BH T n nH [1,1,0,1,0] [m1+1] _ h kk).trans (by kernel_rfl)
theorem AY(n:Nat)(a0:Pt)(h:H)(kk:KK):cr (n+1) dc [(.ptr a0)] h kk=aD (.cells [(.ptr a0)] false) h λi1 h2=>af h2 i1 0 λv3=>cZ v3 λx4=>aC x4 λb5 o6=>af h2 b5 ((o6+3)+14) λv7=>asSlice v7 λx8 n9 D7=>eA n n (some (i1,0)) none 0 (.known 0) x8 n9 D7 (Nat.cast n9) 0 h2 kk:=by kernel_rfl
def eJ(n m1:Nat)(a1 a2 eR:Pt)(eS:Nat)(eT:aM)(h:H):R:=J T.toTab n rD [1,1,1,0,0] [m1] [(1,(.ptr a1)),(2,(.ptr a2)),(3,(.slice eR eS eT))] h
theorem Bp(n m1:Nat)(a1 a2 eR:Pt)(eS:Nat)(eT:aM)(h:H):eJ n (m1+1) a1 a2 eR eS eT h=aC a1 λb9 o10=>af h b9 (o10+20) λv11=>asInt .i64 v11 λBG=>cond ((BG:Int)==(0:Int)) (aC a1 λb13 o14=>aI h b13 o14 21 λWG=>aD (.cells [(.str (⟨#[109,97,99]⟩:ByteArray)),(.str (⟨#[97,100,100,114,101,115,115]⟩:ByteArray)),(.str (⟨#[112,101,101,114]⟩:ByteArray))] false) h λi16 h17=>aD (.cells [(.int .i64 1),(.int .i64 1),(.int .i64 1)] false) h17 λi18 h19=>(ca n eE [(.agg WG),(.slice (some (i16,0)) 3 (.known 3)),(.slice (some (i18,0)) 3 (.known 3)),(.slice eR eS eT)] h19).bind λq20=>aO q20.1 λl21=>lA l21 λPp l22=>lS l22 λG7 WK=>l0 WK (aD (.cells wN false) q20.2 λi26 h27=>bK h27 i26 0 21 Pp λKd=>aI Kd i26 0 21 λl29=>aC a1 λb30 o31=>bK Kd b30 o31 21 l29 λh32=>cond (G7.toList==(⟨#[]⟩:ByteArray).toList) (aC a1 λb33 o34=>aI h32 b33 o34 21 λl35=>aD (.cells [(.str (⟨#[109,97,99]⟩:ByteArray)),(.str (⟨#[97,100,100,114,101,115,115]⟩:ByteArray)),(.str (⟨#[112,101,101,114]⟩:ByteArray))] false) h32 λi36 h37=>(ca n gy [(.agg l35),(.slice (some (i36,0)) 3 (.known 3)),(.slice eR eS eT)] h37).bind λq38=>asAgg q38.1 λx39=>aC a2 λb40 o41=>bK q38.2 b40 o41 21 x39 λh42=>aC a2 λb43 o44=>aI h42 b43 o44 21 λl45=>some ((.agg l45),h42)) (aD (.cells [(.str G7)] false) h32 λi46 h47=>fS 1 16 eR eS eT (di 1 (.slice (some (i46,0)) 1 (.known 1)) h47) h47 λp48 n49 c50 Ys=>cond (G7.toList==(⟨#[109,97,99]⟩:ByteArray).toList) (aC a1 λZA o53=>aI Ys ZA o53 21 λl54=>(ca n oQ [(.agg l54)] Ys).bind λYY=>aO YY.1 λl56=>lA l56 λU3 WM=>lA WM λx60 l59=>l0 l59 (aC a1 λb61 o62=>bK YY.2 b61 o62 21 U3 λh63=>aC a1 λb64 o65=>bK h63 b64 (o65+3) 6 x60 λh66=>eJ n m1 a1 a2 p48 n49 c50 h66)) (cond (G7.toList==(⟨#[97,100,100,114,101,115,115]⟩:ByteArray).toList) (aC a1 λb67 o68=>aI Ys b67 o68 21 λl69=>(ca n iA [(.agg l69)] Ys).bind λq70=>aO q70.1 λl71=>lA l71 λx73 l72=>lS l72 λx75 l74=>l0 l74 (aC a1 λb76 o77=>bK q70.2 b76 o77 21 x73 λh78=>aC a1 λb79 o80=>bK h78 b79 ((o80+3)+6) 1 [(.str x75)] λh81=>eJ n m1 a1 a2 p48 n49 c50 h81)) (cond (G7.toList==(⟨#[112,101,101,114]⟩:ByteArray).toList) (aC a1 λb82 o83=>aI Ys b82 o83 21 λl84=>(ca n iA [(.agg l84)] Ys).bind λq85=>aO q85.1 λl86=>lA l86 λx88 l87=>lS l87 λx90 l89=>l0 l89 (aC a1 λb91 o92=>bK q85.2 b91 o92 21 x88 λh93=>aC a1 λb94 o95=>bK h93 b94 ((o95+3)+7) 1 [(.str x90)] λh96=>eJ n m1 a1 a2 p48 n49 c50 h96)) (eJ n m1 a1 a2 p48 n49 c50 Ys)))))) (aC a1 λb97 o98=>aI h b97 o98 21 λl99=>aC a2 λaj3 amZ=>bK h aj3 amZ 21 l99 λO4=>aC a2 λaj4 am0=>aI O4 aj4 am0 21 λRr=>some ((.agg Rr),O4)):=(bY T.toTab n rD [1,1,1,0,0] [m1+1] _ h).trans (by kernel_rfl)
theorem Ex(n:Nat)(a0:List AV)(h:H):ca (n+1) rK [(.agg a0)] h=aD (.cells a0 false) h λi1 h2=>aD (.cells wN false) h2 λi3 h4=>aI h4 i1 0 21 λl5=>(ca n fh [(.agg l5)] h4).bind λq6=>asAgg q6.1 λx7=>bK q6.2 i1 0 21 x7 λh8=>eJ n n (some (i1,0)) (some (i3,0)) none 0 (.known 0) h8:=by kernel_rfl
def mj(n m1:Nat)(a0:Bs)(a3 a4:Int)(h:H):R:=J T.toTab n bT [1,1,0,1,0] [m1] [(0,(.str a0)),(3,(.int .i64 a3)),(4,(.int .i64 a4))] h
def mc(n m1:Nat)(a0:Bs)(a3 a4:Int)(J1:Bool)(h:H):R:=J T.toTab n bT [1,1,0,1,0,0,0,1] [m1] [(0,(.str a0)),(3,(.int .i64 a3)),(4,(.int .i64 a4)),(17,(.bool J1))] h
def rV(n m1:Nat)(a0:Bs)(a3 a4 a5:Int)(a29:Bool)(h:H):R:=J T.toTab n bT [1,1,0,1,0,0,1,0,0,1,0,1] [m1] [(0,(.str a0)),(3,(.int .i64 a3)),(4,(.int .i64 a4)),(5,(.int .i64 a5)),(29,(.bool a29))] h
def me(n m1:Nat)(a0:Bs)(a3 a4 a5:Int)(h:H):R:=J T.toTab n bT [1,1,0,1,0,0,1,0,0,1,1] [m1] [(0,(.str a0)),(3,(.int .i64 a3)),(4,(.int .i64 a4)),(5,(.int .i64 a5))] h
def mg(n m1:Nat)(a0:Bs)(a3 a4 a5:Int)(a44:Bool)(h:H):R:=J T.toTab n bT [1,1,0,1,0,0,1,0,0,1,1,0,1] [m1] [(0,(.str a0)),(3,(.int .i64 a3)),(4,(.int .i64 a4)),(5,(.int .i64 a5)),(44,(.bool a44))] h
def mh(n m1:Nat)(a0:Bs)(a3 a4 a5:Int)(h:H):R:=J T.toTab n bT [1,1,0,1,0,0,1,0,0,1,1,1] [m1] [(0,(.str a0)),(3,(.int .i64 a3)),(4,(.int .i64 a4)),(5,(.int .i64 a5))] h
theorem uF(n m1:Nat)(a0:Bs)(a3 a4:Int)(h:H):mj n (m1+1) a0 a3 a4 h=cond (decide (a4<(Nat.cast a0.size))) (cond (decide (a3>=(0:Int))) (mc n m1 a0 a3 a4 (decide (a3<(65536:Int))) h) (mc n m1 a0 a3 a4 false h)) (mc n m1 a0 a3 a4 false h):=(bY T.toTab n bT [1,1,0,1,0] [m1+1] _ h).trans (by kernel_rfl)
theorem uC(n m1:Nat)(a0:Bs)(a3 a4:Int)(J1:Bool)(h:H):mc n m1 a0 a3 a4 J1 h=cond J1 (iB a0 a4 λy1=>cond (decide (y1>=(48:Int))) (iB a0 a4 λy2=>rV n m1 a0 a3 a4 (-1) (decide (y2<=(57:Int))) h) (rV n m1 a0 a3 a4 (-1) false h)) (some ((.int .i64 a3),h)):=(bY T.toTab n bT [1,1,0,1,0,0,0,1] [m1] _ h).trans (by kernel_rfl)
theorem nY(n m1:Nat)(a0:Bs)(a3 a4 a5:Int)(a29:Bool)(h:H):rV n m1 a0 a3 a4 a5 a29 h=cond a29 (iB a0 a4 λy3=>me n m1 a0 a3 a4 (IntKind.i64.wrap ((IntKind.i64.wrap y3) - 48)) h) (me n m1 a0 a3 a4 a5 h):=(bY T.toTab n bT [1,1,0,1,0,0,1,0,0,1,0,1] [m1] _ h).trans (by kernel_rfl)
theorem uD(n m1:Nat)(a0:Bs)(a3 a4 a5:Int)(h:H):me n m1 a0 a3 a4 a5 h=iB a0 a4 λy4=>cond (decide (y4>=(97:Int))) (iB a0 a4 λy5=>mg n m1 a0 a3 a4 a5 (decide (y5<=(102:Int))) h) (mg n m1 a0 a3 a4 a5 false h):=(bY T.toTab n bT [1,1,0,1,0,0,1,0,0,1,1] [m1] _ h).trans (by kernel_rfl)
theorem nZ(n m1:Nat)(a0:Bs)(a3 a4 a5:Int)(a44:Bool)(h:H):mg n m1 a0 a3 a4 a5 a44 h=cond a44 (iB a0 a4 λy6=>mh n m1 a0 a3 a4 (IntKind.i64.wrap ((IntKind.i64.wrap y6) - 87)) h) (mh n m1 a0 a3 a4 a5 h):=(bY T.toTab n bT [1,1,0,1,0,0,1,0,0,1,1,0,1] [m1] _ h).trans (by kernel_rfl)
theorem uE(n m1:Nat)(a0:Bs)(a3 a4 a5:Int)(h:H):mh n m1 a0 a3 a4 a5 h=cond (decide (a5<(0:Int))) (some ((.int .i64 (-1)),h)) (mj n m1 a0 (IntKind.i64.wrap ((IntKind.i64.wrap (a3*16))+a5)) (IntKind.i64.wrap (a4+1)) h):=(bY T.toTab n bT [1,1,0,1,0,0,1,0,0,1,1,1] [m1] _ h).trans (by kernel_rfl)
theorem FF(n:Nat)(a0:Bs)(h:H):ca (n+1) ny [(.str a0)] h=mj n n a0 0 0 h:=by kernel_rfl
def kS(n m1:Nat)(a2 a4 fu:Pt)(fB:Nat)(gG:aM)(a6:Int)(h:H):R:=J T.toTab n jg [1,1,1,1,0,1,0] [m1] [(2,(.ptr a2)),(4,(.ptr a4)),(5,(.slice fu fB gG)),(6,(.int .i64 a6))] h
def kR(n m1:Nat)(a2 a4 fu:Pt)(fB:Nat)(gG:aM)(a6 a7:Int)(a32:Bool)(h:H):R:=J T.toTab n jg [1,1,1,1,0,1,0,0,1,0,0,1,0,1] [m1] [(2,(.ptr a2)),(4,(.ptr a4)),(5,(.slice fu fB gG)),(6,(.int .i64 a6)),(7,(.int .i64 a7)),(32,(.bool a32))] h
theorem tB(n m1:Nat)(a2 a4 fu:Pt)(fB:Nat)(gG:aM)(a6:Int)(h:H):kS n (m1+1) a2 a4 fu fB gG a6 h=cond (decide (a6<(6:Int))) (if 0<=(a6:Int)/\a6<(Nat.cast (fB):Int)then aC fu λb12 o13=>af h b12 (o13+a6.toNat) λv14=>aZ v14 λOD=>(ca n ny [(.str OD)] h).bind λq16=>asInt .i64 q16.1 λL8=>if 0<=(a6:Int)/\a6<(Nat.cast (fB):Int)then aC fu λb18 o19=>af q16.2 b18 (o19+a6.toNat) λv20=>aZ v20 λXG=>cond (((Nat.cast XG.size):Int) != (2:Int)) (kR n m1 a2 a4 fu fB gG a6 L8 true q16.2) (kR n m1 a2 a4 fu fB gG a6 L8 (decide (L8<(0:Int))) q16.2)else none else none) (aC a4 λb22 o23=>aI h b22 o23 6 λWK=>aC a2 λVw WZ=>bK h Vw WZ 6 WK λh27=>aC a2 λZy o29=>aI h27 Zy o29 6 λl30=>some ((.dJ [(.agg l30),(.bool true)]),h27)):=(bY T.toTab n jg [1,1,1,1,0,1,0] [m1+1] _ h).trans (by kernel_rfl)
theorem tA(n m1:Nat)(a2 a4 fu:Pt)(fB:Nat)(gG:aM)(a6 a7:Int)(a32:Bool)(h:H):kR n m1 a2 a4 fu fB gG a6 a7 a32 h=cond a32 (aC a2 λb31 o32=>bK h b31 o32 6 [(.int .u8 0),(.int .u8 0),(.int .u8 0),(.int .u8 0),(.int .u8 0),(.int .u8 0)] λh33=>aC a2 λVx W0=>aI h33 Vx W0 6 λl36=>some ((.dJ [(.agg l36),(.bool false)]),h33)) (aC a4 λb37 o38=>if 0<=a6/\a6<((6:Nat):Int)then bK h b37 (o38+a6.toNat) 1 [(.int .u8 (IntKind.u8.wrap a7))] λh39=>kS n m1 a2 a4 fu fB gG (IntKind.i64.wrap (a6+1)) h39 else none):=(bY T.toTab n jg [1,1,1,1,0,1,0,0,1,0,0,1,0,1] [m1] _ h).trans (by kernel_rfl)
theorem Es(n:Nat)(a0:Bs)(h:H):ca (n+1) rJ [(.str a0)] h=aD (.cells [(.int .u8 0),(.int .u8 0),(.int .u8 0),(.int .u8 0),(.int .u8 0),(.int .u8 0)] false) h λi1 h2=>aD (.cells [(.int .u8 0),(.int .u8 0),(.int .u8 0),(.int .u8 0),(.int .u8 0),(.int .u8 0)] false) h2 λi3 h4=>(ca n fE [(.str a0),(.int .u8 58)] h4).bind λq5=>asSlice q5.1 λx6 n7 c8=>cond (((Nat.cast n7):Int) != (6:Int)) (aI q5.2 i3 0 6 λl9=>bK q5.2 i1 0 6 l9 λh10=>aI h10 i1 0 6 λNZ=>some ((.dJ [(.agg NZ),(.bool false)]),h10)) (kS n n (some (i1,0)) (some (i3,0)) x6 n7 c8 0 q5.2):=by kernel_rfl
theorem Ed(n:Nat)(a0:Pt)(h:H)(kk:KK):cr (n+1) cO [(.ptr a0)] h kk=aD (.cells [(.int .i64 0)] false) h λi1 h2=>bK h2 i1 0 1 [(.int .i64 1)] λh3=>Lj h3 λi4 h5=>aC a0 λb6 o7=>(ca n bO [(.ptr a0),(.ptr (some (b6,((o7+3)+8)))),(.int .i64 1),(.int .i64 255)] h5).bind λq8=>pK q8.1 λf9 sD y11=>(ca n bn [(.bool true),(.func f9 sD y11)] q8.2).bind λq12=>asAgg q12.1 λRs=>lI Rs λOD Kn=>lB Kn λL8 Rv=>lc Rv λR7 l18=>l0 l18 (aC a0 λb20 o21=>(ca n bO [(.ptr a0),(.ptr (some (b20,((o21+3)+9)))),(.int .i64 1),(.int .i64 255)] q12.2).bind λXc=>pK Xc.1 λf23 OE y25=>(ca n bn [(.bool true),(.func f23 OE y25)] Xc.2).bind λYX=>asAgg YX.1 λl27=>lI l27 λx29 l28=>lB l28 λx31 l30=>lc l30 λv33 Rw=>l0 Rw (aC a0 λVx W0=>(ca n bO [(.ptr a0),(.ptr (some (Vx,((W0+3)+10)))),(.int .i64 1),(.int .i64 4095)] YX.2).bind λq36=>pK q36.1 λf37 x38 y39=>(ca n bn [(.bool true),(.func f37 x38 y39)] q36.2).bind λq40=>asAgg q40.1 λl41=>lI l41 λx43 l42=>lB l42 λx45 l44=>lc l44 λv47 WL=>l0 WL (Lj q40.2 λi48 h49=>(ca n ef [(.ptr a0),(.ptr (some (i1,0))),(.map (some i48))] h49).bind λq50=>pK q50.1 λf51 x52 y53=>(ca n bn [(.bool false),(.func f51 x52 y53)] q50.2).bind λq54=>asAgg q54.1 λl55=>lI l55 λx57 l56=>lB l56 λx59 l58=>lc l58 λv61 l60=>l0 l60 ((ca n dM [(.ptr a0),(.bool false),(.func nx [(.ptr a0)] [])] q54.2).bind λq62=>pK q62.1 λf63 x64 y65=>Lq [i4,i48] [(i4,(.str (⟨#[105,100]⟩:ByteArray)),(.agg [(.int .i64 OD),(.bool L8),R7])),(i4,(.str (⟨#[112,114,105,111,114,105,116,121]⟩:ByteArray)),(.agg [(.int .i64 x29),(.bool x31),v33])),(i4,(.str (⟨#[101,118,101,114,121]⟩:ByteArray)),(.agg [(.int .i64 x43),(.bool x45),v47])),(i48,(.str (⟨#[121,101,115]⟩:ByteArray)),(.int .i64 1)),(i48,(.str (⟨#[110,111]⟩:ByteArray)),(.int .i64 0)),(i4,(.str (⟨#[112,114,101,101,109,112,116]⟩:ByteArray)),(.agg [(.int .i64 x57),(.bool x59),v61])),(i4,(.str (⟨#[118,105,112]⟩:ByteArray)),(.agg [(.int .i64 8),(.bool true),(.func f63 x64 y65)])),(i4,(.str (⟨#[116,114,97,99,107]⟩:ByteArray)),(.agg [(.int .i64 8),(.bool false),(.func iE [(.ptr a0)] [])]))] q62.2 λh66=>cr n dD [(.ptr a0),(.map (some i4))] h66 λv68 h69=>asBool v68 λx70=>af h69 i1 0 λv71=>asInt .i64 v71 λx72=>aC a0 λb73 o74=>bK h69 b73 ((o74+3)+11) 1 [(.bool ((x72:Int)==(1:Int)))] λh75=>kk (.bool x70) h75)))):=by kernel_rfl
def qx(n:Nat)(a1 a2 a3 a6:Pt)(h:H):R:=J T.toTab n rC [1,1,1,1] [] [(1,(.ptr a1)),(2,(.ptr a2)),(3,(.ptr a3)),(6,(.ptr a6))] h
theorem Bl(n:Nat)(a1 a2 a3 a6:Pt)(h:H):qx n a1 a2 a3 a6 h=aC a1 λb30 o31=>aI h b30 o31 21 λRw=>(ca n cA [(.agg Rw),(.str (⟨#[10]⟩:ByteArray))] h).bind λq33=>asAgg q33.1 λVk=>aC a6 λb35 o36=>aI (q33.2.minus (bD Gz h q33.2)) b35 o36 6 λl37=>aC a2 λb38 o39=>bK q33.2 b38 o39 21 Vk λIt=>dU q33.2 It (kj a6) (aC a3 λb41 o42=>bK It b41 o42 6 l37 λh43=>aC a2 λb44 o45=>aI h43 b44 o45 21 λWL=>aC a3 λb47 o48=>aI h43 b47 o48 6 λl49=>some ((.dJ [(.agg WL),(.agg l49)]),h43)):=(bY T.toTab n rC [1,1,1,1] [] _ h).trans (by kernel_rfl)
theorem Et(n:Nat)(a0:List AV)(h:H):ca (n+1) lU [(.agg a0)] h=aD (.cells a0 false) h λi1 h2=>aD (.cells wN false) h2 λi3 h4=>aD (.cells [(.int .u8 0),(.int .u8 0),(.int .u8 0),(.int .u8 0),(.int .u8 0),(.int .u8 0)] false) h4 λi5 h6=>aI h6 i1 0 21 λl7=>(ca n dG [(.agg l7)] h6).bind λq8=>aO q8.1 λl9=>lA l9 λKL l10=>lS l10 λJQ Ua=>lI Ua λOD Kn=>l0 Kn (bK q8.2 i1 0 21 KL λGu=>(ca n rJ [(.str JQ)] Gu).bind λq17=>aO q17.1 λl18=>lA l18 λKM l19=>lB l19 λPo l21=>l0 l21 (aD (.cells [(.int .u8 0),(.int .u8 0),(.int .u8 0),(.int .u8 0),(.int .u8 0),(.int .u8 0)] false) q17.2 λi23 U9=>bK U9 i23 0 6 KM λPT=>cond (!Po) (aI PT i1 0 21 λl26=>(ca n aN [(.agg l26),(.int .i64 OD),(.int .i64 182)] PT).bind λq27=>asAgg q27.1 λSe=>bK q27.2 i1 0 21 Se λWe=>qx n (some (i1,0)) (some (i3,0)) (some (i5,0)) (some (i23,0)) We) (qx n (some (i1,0)) (some (i3,0)) (some (i5,0)) (some (i23,0)) PT))):=by kernel_rfl
def iZ(n m1:Nat)(a0:Bs)(a1:Int)(h:H):R:=J T.toTab n fZ [1,1,0,0] [m1] [(0,(.str a0)),(1,(.int .i64 a1))] h
def cQ(n m1:Nat)(a0:Bs)(a1:Int)(XU:Bool)(h:H):R:=J T.toTab n fZ [1,1,0,0,0,0,1] [m1] [(0,(.str a0)),(1,(.int .i64 a1)),(39,(.bool XU))] h
theorem qQ(n m1:Nat)(a0:Bs)(a1:Int)(h:H):iZ n (m1+1) a0 a1 h=cond (decide (a1<(Nat.cast a0.size))) (iB a0 a1 λy4=>cond (decide (y4>(32:Int))) (iB a0 a1 λy5=>cond (decide (y5<(127:Int))) (iB a0 a1 λy6=>cond ((y6:Int) != (35:Int)) (iB a0 a1 λy7=>(ca n jT [(.int .u8 y7)] h).bind λq8=>asBool q8.1 λx9=>cQ n m1 a0 a1 (!x9) q8.2) (cQ n m1 a0 a1 false h)) (cQ n m1 a0 a1 false h)) (cQ n m1 a0 a1 false h)) (cQ n m1 a0 a1 false h):=(bY T.toTab n fZ [1,1,0,0] [m1+1] _ h).trans (by kernel_rfl)
theorem jV(n m1:Nat)(a0:Bs)(a1:Int)(XU:Bool)(h:H):cQ n m1 a0 a1 XU h=cond XU (iZ n m1 a0 (IntKind.i64.wrap (a1+1)) h) (some ((.int .i64 a1),h)):=(bY T.toTab n fZ [1,1,0,0,0,0,1] [m1] _ h).trans (by kernel_rfl)
theorem Bh(n:Nat)(a0:Bs)(a1:Int)(h:H):ca (n+1) nO [(.str a0),(.int .i64 a1)] h=iB a0 a1 λy1=>(ca n jT [(.int .u8 y1)] h).bind λq2=>asBool q2.1 λx3=>cond x3 (some ((.int .i64 (IntKind.i64.wrap (a1+1))),q2.2)) (iZ n n a0 a1 q2.2):=by kernel_rfl
def fe(n:Nat)(a0:Pt)(a5:Bs)(a6:Int)(a24:Bool)(h:H):R:=J T.toTab n qe [1,1,0,1] [] [(0,(.ptr a0)),(5,(.str a5)),(6,(.int .i64 a6)),(24,(.bool a24))] h
theorem Aj(n:Nat)(a0:Pt)(a5:Bs)(a6:Int)(a24:Bool)(h:H):fe n a0 a5 a6 a24 h=cond a24 ((ca n aK [(.ptr a0),(.int .i64 a6),(.int .i64 180)] h).bind λq5=>asBool q5.1 λx6=>some ((.dJ [(.str (⟨#[]⟩:ByteArray)),(.int .i64 a6),(.bool x6)]),q5.2)) (aC a0 λb7 o8=>af h b7 (o8+2) λv9=>asInt .i64 v9 λsD=>aC a0 λJ2 Ku=>bK h J2 (Ku+2) 1 [(.int .i64 (IntKind.i64.wrap (sD+1)))] λJT=>some ((.dJ [(.str a5),(.int .i64 a6),(.bool true)]),JT)):=(bY T.toTab n qe [1,1,0,1] [] _ h).trans (by kernel_rfl)
theorem CO(n:Nat)(a0:Pt)(h:H):ca (n+1) dF [(.ptr a0)] h=(ca n gv [(.ptr a0)] h).bind λq1=>aZ q1.1 λx2=>(ca n eI [(.ptr a0)] q1.2).bind λq3=>asInt .i64 q3.1 λx4=>cond (x2.toList==(⟨#[]⟩:ByteArray).toList) (fe n a0 x2 x4 true q3.2) (cond (x2.toList==(⟨#[10]⟩:ByteArray).toList) (fe n a0 x2 x4 true q3.2) (cond (x2.toList==(⟨#[123]⟩:ByteArray).toList) (fe n a0 x2 x4 true q3.2) (fe n a0 x2 x4 (x2.toList==(⟨#[125]⟩:ByteArray).toList) q3.2))):=by kernel_rfl
def uY(n:Nat)(a0:Int)(de:Pt)(cI:Nat)(dz:aM)(a12:Bool)(h:H):R:=J T.toTab n A6 [1,0,1] [] [(0,(.int .i64 a0)),(1,(.slice de cI dz)),(12,(.bool a12))] h
theorem IG(n:Nat)(a0:Int)(de:Pt)(cI:Nat)(dz:aM)(a12:Bool)(h:H):uY n a0 de cI dz a12 h=cond a12 (if 0<=((IntKind.i64.wrap ((Nat.cast cI) - 1)):Int)/\(IntKind.i64.wrap ((Nat.cast cI) - 1))<(Nat.cast (cI):Int)then aC de λb1 o2=>af h b1 (o2+((IntKind.i64.wrap ((Nat.cast cI) - 1))).toNat) λv3=>aZ v3 λx4=>some ((.str x4),h)else none) (if 0<=((IntKind.i64.wrap (a0 - 1)):Int)/\(IntKind.i64.wrap (a0 - 1))<(Nat.cast (cI):Int)then aC de λb5 o6=>af h b5 (o6+((IntKind.i64.wrap (a0 - 1))).toNat) λv7=>aZ v7 λx8=>some ((.str x8),h)else none):=(bY T.toTab n A6 [1,0,1] [] _ h).trans (by kernel_rfl)
theorem Ng(n:Nat)(a0:Int)(de:Pt)(cI:Nat)(dz:aM)(h:H):ca (n+1) td [(.int .i64 a0),(.slice de cI dz)] h=cond (decide (a0<(1:Int))) (uY n a0 de cI dz true h) (uY n a0 de cI dz (decide (a0>(Nat.cast cI))) h):=by kernel_rfl
def dY(n m1:Nat)(dy:Pt)(dn:Nat)(dN:aM)(a1:Bs)(a7 a8:Int)(h:H):R:=J T.toTab n jC [1,0,1,0] [m1] [(0,(.slice dy dn dN)),(1,(.str a1)),(7,(.int .i64 a7)),(8,(.int .i64 a8))] h
theorem mU(n m1:Nat)(dy:Pt)(dn:Nat)(dN:aM)(a1:Bs)(a7 a8:Int)(h:H):dY n (m1+1) dy dn dN a1 a7 a8 h=cond (decide (a8<a7)) (if 0<=(a8:Int)/\a8<(Nat.cast (dn):Int)then aC dy λb1 o2=>af h b1 (o2+a8.toNat) λv3=>aZ v3 λx4=>cond (a1.toList==x4.toList) (some ((.int .i64 a8),h)) (dY n m1 dy dn dN a1 a7 (IntKind.i64.wrap (a8+1)) h)else none) (some ((.int .i64 (-1)),h)):=(bY T.toTab n jC [1,0,1,0] [m1+1] _ h).trans (by kernel_rfl)
theorem xC(n:Nat)(dy:Pt)(dn:Nat)(dN:aM)(a1:Bs)(h:H):ca (n+1) pN [(.slice dy dn dN),(.str a1)] h=dY n n dy dn dN a1 (Nat.cast dn) 0 h:=by kernel_rfl
theorem ET(n:Nat)(a0:Pt)(a1:Bs)(a2:Int)(h:H):ca (n+1) nx [(.ptr a0),(.str a1),(.int .i64 a2)] h=aC a0 λb1 o2=>af h b1 ((o2+3)+12) λv3=>asSlice v3 λx4 n5 c6=>(ca n Dh [(.slice x4 n5 c6),(.str a1)] h).bind λq7=>asBool q7.1 λx8=>cond x8 ((ca n aK [(.ptr a0),(.int .i64 a2),(.int .i64 181)] q7.2).bind λq9=>asBool q9.1 λsD=>some ((.bool sD),q9.2)) (aC a0 λJ2 Ku=>af q7.2 J2 ((Ku+3)+12) λJY=>asSlice JY λED n15 c16=>aD (.cells [(.str a1)] false) q7.2 λi17 Wb=>fS 1 16 ED n15 c16 (di 1 (.slice (some (i17,0)) 1 (.known 1)) Wb) Wb λp19 n20 c21 K7=>aC a0 λZw o24=>bK K7 Zw ((o24+3)+12) 1 [(.slice p19 n20 c21)] λPT=>some ((.bool true),PT)):=by kernel_rfl
theorem Ea(n:Nat)(a0:Pt)(a1:Bs)(h:H):ca (n+1) cz [(.ptr a0),(.str a1)] h=(ca n gv [(.ptr a0)] h).bind λq1=>aZ q1.1 λx2=>cond (!(x2.toList==a1.toList)) ((ca n eI [(.ptr a0)] q1.2).bind λq3=>asInt .i64 q3.1 λx4=>(ca n aK [(.ptr a0),(.int .i64 x4),(.int .i64 180)] q3.2).bind λq5=>asBool q5.1 λx6=>some ((.bool x6),q5.2)) (aC a0 λb7 o8=>af q1.2 b7 (o8+2) λv9=>asInt .i64 v9 λsD=>aC a0 λJ2 Ku=>bK q1.2 J2 (Ku+2) 1 [(.int .i64 (IntKind.i64.wrap (sD+1)))] λJT=>some ((.bool true),JT)):=by kernel_rfl
theorem D9(n:Nat)(a0:Pt)(a1 a2:Int)(h:H):ca (n+1) aK [(.ptr a0),(.int .i64 a1),(.int .i64 a2)] h=aC a0 λb1 o2=>af h b1 (o2+20) λv3=>asInt .i64 v3 λx4=>cond ((x4:Int)==(0:Int)) (aC a0 λb5 o6=>bK h b5 (o6+19) 1 [(.int .i64 a1)] λh7=>aC a0 λb8 o9=>bK h7 b8 (o9+20) 1 [(.int .i64 a2)] λh10=>some ((.bool false),h10)) (some ((.bool false),h)):=by kernel_rfl
theorem Nf(n:Nat)(a0:Bool)(de:Nat)(cI dz:List AV)(h:H):ca (n+1) bn [(.bool a0),(.func de cI dz)] h=aD (.cells [(.int .i64 0),(.bool false),.nilFunc] false) h λi1 h2=>bK h2 i1 0 3 [(.int .i64 1),(.bool a0),(.func de cI dz)] λh3=>aI h3 i1 0 3 λl4=>lI l4 λx6 l5=>lB l5 λx8 l7=>lc l7 λv10 l9=>l0 l9 (some ((.agg [(.int .i64 x6),(.bool x8),v10]),h3)):=by kernel_rfl
theorem Iq(n:Nat)(a0:Bs)(h:H):ca (n+1) lW [(.str a0)] h=(ca n AG [(.str a0),(.int .i64 1),(.int .i64 4)] h).bind λq1=>aO q1.1 λl2=>lI l2 λx4 l3=>lB l3 λx6 l5=>l0 l5 (some ((.dJ [(.int .i64 x4),(.bool x6)]),q1.2)):=by kernel_rfl
theorem L4(n:Nat)(a0:Bs)(h:H):ca (n+1) nV [(.str a0)] h=(ca n AG [(.str a0),(.int .i64 2),(.int .i64 2)] h).bind λq1=>aO q1.1 λl2=>lI l2 λx4 l3=>lB l3 λx6 l5=>l0 l5 (some ((.dJ [(.int .i64 x4),(.bool x6)]),q1.2)):=by kernel_rfl
theorem wJ(n:Nat)(a0:Pt)(a1:Bs)(h:H):ca (n+1) ot [(.ptr a0),(.str a1)] h=(iN n a0 a1 h).bind λr=>some ((.dJ [(.int .i64 r.1.1),r.1.2]),r.2):=by kernel_rfl
theorem AA(n:Nat)(a0:Pt)(h:H):ca (n+1) tf [(.ptr a0)] h=(ld n a0 h).bind λr=>some ((.str r.1),r.2):=by kernel_rfl
end
end Go.Ev.Tryz
