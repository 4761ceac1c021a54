/- Own texts, joined: . -/
import Derived.Test.YtongjlmclckboaaGreatDoorM5
import Derived.Test.YtongjlmclckboaaGreatDoorM4
import Derived.Lib.Join
import Derived.Below
import Derived.Sort.Grow
import Derived.Deep.Draws
import Derived.Lib.ItoaNum
import Derived.Lib.LaidTab
import Derived.Shelf.Strings.Builder1
set_option linter.all false
namespace Go.Ev
open Go.RowKit
def aa4(σ:Nat->Nat)(o:Oper):Oper:={o with after:=(o.after.toList.map λe=>{e with on:=σ e.on}).toArray,guard:=o.guard.map λg=>(σ g.1,g.2)}
theorem Td(md:Region.Mode)(e:Edge)(j:Nat):Region.binds md {e with on:=j}=Region.binds md e:=by
 cases e;cases md<;>rfl
section
variable {P:Program}{ops ops':Array Oper}{σ:Nat->Nat}{Q:Exit->Act->World->Prop}
structure MC(ops ops':Array Oper)(σ:Nat->Nat):Prop where
 size:ops'.size=ops.size
 lt:∀j,j<ops.size->σ j<ops.size
 inj:∀i j,i<ops.size->j<ops.size->σ i=σ j->i=j
 aAx:∀i,i<ops.size->∃j,j<ops.size/\σ j=i
 get:∀(j:Nat) o,ops[j]?=some o->ops'[σ j]?=some (aa4 σ o)
 on:∀(j:Nat) o,ops[j]?=some o->∀e∈o.after,Region.binds .any e=true->e.on<ops.size
 guard:∀(j:Nat) o g b,ops[j]?=some o->o.guard=some (g,b)->g<ops.size
theorem MC.op(m:MC ops ops' σ){j:Nat}{o:Oper}(ho:ops[j]?=some o){a:Act}{w:World}{K K':Act->World->Prop}(hK:∀a w,K' a w->K a w)(h:wpOp P ops' Q (σ j) K' a w):wpOp P ops Q j K a w:=by
 unfold wpOp at h ⊢
 rw[m.get j o ho]at h
 rw[ho]
 simp only at h ⊢
 have hw:Region.wanted (aa4 σ o) (yielded ops' a.tmps)=Region.wanted o (yielded ops a.tmps):=by
  unfold Region.wanted aa4
  cases hg:o.guard with
  | none=>rfl
  | some q=>
   obtain⟨g,b⟩:=q
   have hgl:=m.guard j o g b ho hg
   simp only[Option.map_some]
   have:yielded ops' a.tmps (σ g)=yielded ops a.tmps g:=by
    unfold yielded
    rw[m.get g _ (Array.getElem?_eq_getElem hgl),Array.getElem?_eq_getElem hgl]
    rfl
   rw[this]
 rw[hw]at h
 split
 ·rename_i hb
  rw[if_pos hb]at h
  exact h.imp (λh=>Oper.wp_mono hK h) id
 ·rename_i hb
  rw[if_neg hb]at h
  exact hK _ _ h
theorem MC.ready(m:MC ops ops' σ){listed fU:Array Bool}(hs:listed.size=ops.size)(hs':fU.size=ops.size)(hl:∀j,j<ops.size->fU.getD (σ j) true=listed.getD j true){j:Nat}(hj:j<ops.size):
  σ j∈Region.ready .any ops' fU↔j∈Region.ready .any ops listed:=by
 have ho:ops[j]?=some ops[j]:=Array.getElem?_eq_getElem hj
 have hon:∀e∈ops[j].after,Region.binds .any e=true->(fU.getD (σ e.on) false=true↔listed.getD e.on false=true):=λe he hb=>by
  have h1:=m.on j _ ho e he hb
  have h2:=m.lt _ h1
  rw[<-lg (by omega),<-lg (by omega),hl _ h1]
 rw[mem_ready,mem_ready,hl j hj]
 refine and_congr Iff.rfl ⟨?_,?_⟩
 ·rintro ⟨o',h1,h2⟩
  rw[m.get j _ ho]at h1
  cases h1
  refine⟨_,ho,λe he hb=>(hon e he hb).1 ?_⟩
  have:=h2 {e with on:=σ e.on} (by simp only[aa4,List.mem_toArray,List.mem_map];exact⟨e,by simpa using he,rfl⟩) (by rw[Td];exact hb)
  exact this
 ·rintro ⟨o',h1,h2⟩
  rw[ho]at h1
  cases h1
  refine⟨_,m.get j _ ho,λe he hb=>?_⟩
  simp only[aa4,List.mem_toArray,List.mem_map]at he
  obtain⟨e0,he0,rfl⟩:=he
  rw[Td]at hb
  exact(hon e0 (by simpa using he0) hb).2 (h2 e0 (by simpa using he0) hb)
theorem MC.any(m:MC ops ops' σ):∀(fuel:Nat) (listed fU:Array Bool) (a:Act) (w:World),listed.size=ops.size->fU.size=ops.size->(∀j,j<ops.size->fU.getD (σ j) true=listed.getD j true)->wpAny P .any ops' Q fuel fU a w->wpAny P .any ops Q fuel listed a w:=by
 have nil:∀{listed fU:Array Bool},listed.size=ops.size->fU.size=ops.size->(∀j,j<ops.size->fU.getD (σ j) true=listed.getD j true)->(Region.ready .any ops listed=[]↔Region.ready .any ops' fU=[]):=by
  intro listed fU hs hs' hl
  constructor
  ·intro h
   rw[List.eq_nil_iff_forall_not_mem]
   intro i hi
   obtain⟨_,o,h1,_⟩:=mem_ready.1 hi
   have:=(Array.getElem?_eq_some_iff.1 h1).1
   obtain⟨j,hj,rfl⟩:=m.aAx i (by rw[<-m.size];exact this)
   have:=(m.ready hs hs' hl hj).1 hi
   rw[h]at this;cases this
  ·intro h
   rw[List.eq_nil_iff_forall_not_mem]
   intro j hj
   obtain⟨_,o,h1,_⟩:=mem_ready.1 hj
   have:=(m.ready hs hs' hl (Array.getElem?_eq_some_iff.1 h1).1).2 hj
   rw[h]at this;cases this
 intro fuel
 induction fuel with
 | zero=>exact λlisted fU a w hs hs' hl h=>⟨(nil hs hs' hl).2 h.1,h.2⟩
 | succ fuel ih=>
  intro listed fU a w hs hs' hl h
  refine⟨λhr=>h.1 ((nil hs hs' hl).1 hr),λj hj=>?_⟩
  obtain⟨_,o,ho,_⟩:=mem_ready.1 hj
  have hjs:=(Array.getElem?_eq_some_iff.1 ho).1
  refine m.op ho (λa w hk=>ih _ (fU.setIfInBounds (σ j) true) a w (by simp[hs]) (by simp[hs']) (λi hi=>?_) hk) (h.2 (σ j) ((m.ready hs hs' hl hjs).2 hj))
  rw[xB (by have:=m.lt j hjs;omega),xB (by omega)]
  by_cases e:i=j
  ·subst e;simp
  ·rw[if_neg e,if_neg λe2=>e (m.inj i j hi hjs e2)]
   exact hl i hi
end
section
variable {E:Nat->Prop}{P:Program}{call:dK}{ops:Array Oper}{N n:Nat}{F F':Nat->List AV}{Hs Hs':Nat->H}{V V':Nat->AV}{r0:Ren}{w0:World}{ds:List Deferred}
theorem W6{α:Type}{init:α}{val val':Nat->α}{W W':Nat->Prop}:∀{k:Nat},(∀m,m<k->(W m↔W' m))->(∀m,m<k->W m->val m=val' m)->pr init val W k=pr init val' W' k
 | 0,_,_=>rfl
 | k+1,h1,h2=>by
  simp only[pr]
  by_cases h:W k
  ·rw[if_pos h,if_pos ((h1 k (by omega)).1 h),h2 k (by omega) h]
  ·rw[if_neg h,if_neg λh'=>h ((h1 k (by omega)).2 h')]
   exact W6 (λm hm=>h1 m (by omega)) λm hm=>h2 m (by omega)
theorem Inv.shared{D:Nat->Prop}{r:Ren}{a:Act}{w:World}(inv:Inv P ops N F Hs V r0 w0 ds D r a w)(hD:∀m,D m->m<n)(hF:F 0=F' 0)(hH:∀k,k<=n->Hs k=Hs' k)(hV:∀k,k<n->V k=V' k):Inv P ops N F' Hs' V' r0 w0 ds D r a w:=by
 have hc:∀i,ij N Hs D i=ij N Hs' D i:=λi=>by
  unfold ij
  rw[hH 0 (uQ _)]
  refine W6 (λm hm=>?_) λm hm h=>by rw[hH (m+1) (hD m h.1)]
  constructor
  ·rintro ⟨h1,h2⟩
   have:=hD m h1
   refine⟨h1,?_⟩
   unfold Tc at h2 ⊢
   rw[<-hH (m+1) this,<-hH m (by omega)];exact h2
  ·rintro ⟨h1,h2⟩
   have:=hD m h1
   refine⟨h1,?_⟩
   unfold Tc at h2 ⊢
   rw[hH (m+1) this,hH m (by omega)];exact h2
 refine⟨inv.le,λi t h1 h2=>?_,by rw[inv.sz,hF],λt ht=>?_,λi t o h1 h2=>inv.obj i t o h1 (by rw[hc];exact h2),λi j ti tj oi oj h1 h2 h3 h4=>inv.inj i j ti tj oi oj h1 h2 (by rw[hc];exact h3) (by rw[hc];exact h4),inv.bound,?_,inv.size,inv.env,?_,λm hm hDm i hi ht=>?_,λm hm hDm i o hi ho=>?_,inv.defers,inv.gl⟩
 ·obtain⟨k,hk,hDk,h3,h4⟩:=inv.dom i t h1 h2
  have:=hD k hDk
  exact⟨k,hk,hDk,by rw[<-hH k (by omega)];exact h3,by rw[<-hH (k+1) this];exact h4⟩
 ·rw[<-hF]at ht
  have:=inv.slot t ht
  have he:FO ops N F V D t=FO ops N F' V' D t:=by
   unfold FO
   rw[hF]
   exact W6 (λm _=>Iff.rfl) λm hm h=>hV m (hD m h.1)
  rw[<-he];exact this
 ·rw[<-hH 0 (uQ _)];exact inv.keep
 ·rw[<-hH 0 (uQ _)];exact inv.fresh
 ·have hmn:=hD m hDm
  rw[<-hH m (by omega)]at hi
  refine inv.oD m hm hDm i hi ?_
  unfold Tc at ht ⊢
  rw[hH (m+1) hmn,hH m (by omega)];exact ht
 ·have hmn:=hD m hDm
  rw[<-hH m (by omega)]at hi ⊢
  rw[<-hH (m+1) hmn]at ho
  exact inv.ro m hm hDm i o hi ho
end
def Y1(cr:CR)(o:Oper):Bool:=match o.op with | .call c=>(match c.callee with | .value (.func f)=>cr.isR f | _=>false) | _=>false
def Im(P:Program)(o:Oper):Bool:=match cls P o.op with | .pure=>true | .alloc=>true | _=>false
def okE(P:Program)(cr:CR)(ops:Array Oper)(n:Nat):Bool:=
 (match ops[n]? with | some o=>Y1 cr o | none=>false)&&nW P ops&&FA ops &&
  ((List.range n).all λk=>match ops[k]? with | some o=>Im P o||(masks ops n).testBit k | none=>true) &&
  ((List.range ops.size).all λk=>decide (k<=n)||((masks ops k).testBit n&&(List.range n).all λj=>match ops[j]? with | some o=>Im P o||(masks ops k).testBit j | none=>true))
section
variable {P:Program}{ops:Array Oper}
noncomputable def aij(P:Program)(ck:CK)(N:Nat)(ops:Array Oper)(n:Nat)(A:KF)(o:Oper)(v:AV)(h:H)(kn:KF->H->Option Unit):Option Unit:=
 zv P ck ops N true (ops.toList.drop (n+1)) (n+1) (xW N A o.dst v) h Gz [] kn
noncomputable def Uu(P:Program)(ck:CK)(cr:CR)(N:Nat)(ops:Array Oper)(n:Nat)(A:KF)(h:H)(kn:KF->H->Option Unit):Option Unit:=
 zv P ck ops N true (ops.toList.take n) 0 A h Gz [] λA1 h1=>
  match ops[n]? with
  | some o=>Gl P ck cr ops N A1 o h1 λA2 v h2=>aij P ck N ops n A2 o v h2 kn
  | none=>none
theorem Qj{ck:CK}(sr:ck.call.Sound P){cr:CR}(zA:cr.Sound P){N n:Nat}{A:KF}{h:H}{kn:KF->H->Option Unit}(e:Uu P ck cr N ops n A h kn=some ()):∃A' h',kn A' h'=some ()/\h.next<=h'.next/\(h.WF->h'.WF):=by
 unfold Uu at e
 obtain⟨fr',A',h',h1,h2,h3⟩:=jj (fr:=(List.range N).map (look A)) e ⟨by simp,λt ht=>by rw[List.getD_eq_getElem?_getD,List.getElem?_map,List.getElem?_range ht];rfl⟩
 simp only[if_true]at h1
 have g1:=iS sr h1
 split at h3
 ·rename_i o ho
  obtain⟨A2,v,h4,h5,g2,w2⟩:=Ox sr zA h3
  unfold aij at h5
  obtain⟨fr3,A3,h6,h7,h8,h9⟩:=jj (fr:=(List.range N).map (look (xW N A2 o.dst v))) h5 ⟨by simp,λt ht=>by rw[List.getD_eq_getElem?_getD,List.getElem?_map,List.getElem?_range ht];rfl⟩
  simp only[if_true]at h7
  have g3:=iS sr h7
  exact⟨A3,h6,h9,qb g1.1 (qb g2 g3.1),λhw=>g3.2 (w2 (g1.2 hw))⟩
 ·cases h3
theorem B6{M:Nat->Nat}{k j:Nat}(h:(M k).testBit j=true∨(M j).testBit k=true):nh M k j=false:=by
 unfold nh
 rcases h with h | h<;>simp[h]
theorem Uv{ck:CK}(sr:ck.call.Sound P){cr:CR}(zA:cr.Sound P){N n:Nat}(hok:okE P cr ops n=true){A:KF}{h:H}{kn:KF->H->Option Unit}(e:Uu P ck cr N ops n A h kn=some ())
  {r:Ren} {a:Act} {w:World} (hfr:KO r A a) (hsz:a.tmps.size=N) (an:Rel r h w) (hfree:∀i,h.next<=i->r i=none) {Q:Exit->Act->World->Prop}
  (hQ:∀r' a' w' A' h',KO r' A' a'->a'.tmps.size=N->a'.defers=a.defers->Post r h w r' h' w'->kn A' h'=some ()->Q .normal a' w'):
  wpAny P .any ops Q ops.size (Array.replicate ops.size false) a w:=by
 simp only[okE,Bool.and_eq_true]at hok
 obtain⟨⟨⟨⟨alC,arH⟩,hgd⟩,hpre⟩,ayg⟩:=hok
 have aje:=arH
 simp only[nW,Bool.and_eq_true]at aje
 obtain⟨⟨hM,hH⟩,hP⟩:=aje
 obtain⟨o,ho,hro⟩:∃o,ops[n]?=some o/\Y1 cr o=true:=by
  split at alC
  ·rename_i o ho;exact⟨o,ho,alC⟩
  ·cases alC
 have Lb:=(Array.getElem?_eq_some_iff.1 ho).1
 have ht:Su ops:=⟨λj q hq=>(vA hM hq).1,λj q g b hq hg=>by
  have hj:=(Array.getElem?_eq_some_iff.1 hq).1
  have:=List.all_eq_true.1 hgd j (List.mem_range.2 (by omega))
  rw[hq]at this
  simp only[hg,decide_eq_true_eq]at this
  exact this⟩
 obtain⟨c,f,hop,agP,alr⟩:∃c f,o.op=.call c/\c.callee=.value (.func f)/\cr.isR f=true:=by
  unfold Y1 at hro
  split at hro
  ·rename_i c hop
   split at hro
   ·rename_i f hc;exact⟨c,f,hop,hc,hro⟩
   ·cases hro
  ·cases hro
 have Yu:cls P o.op=.full:=by rw[hop];simp only[cls,agP]
 have T0:∀k,n<k->k<ops.size->(masks ops k).testBit n=true/\∀j oj,j<n->ops[j]?=some oj->Im P oj=true∨(masks ops k).testBit j=true:=by
  intro k hk hks
  have:=List.all_eq_true.1 ayg k (List.mem_range.2 hks)
  simp only[Bool.or_eq_true,decide_eq_true_eq,Bool.and_eq_true]at this
  rcases this with h1 | h1
  ·omega
  ·refine⟨h1.1,λj oj hj kY=>?_⟩
   have:=List.all_eq_true.1 h1.2 j (List.mem_range.2 hj)
   rw[kY]at this
   simpa using this
 have arE:∀j oj,j<n->ops[j]?=some oj->Im P oj=true∨(masks ops n).testBit j=true:=by
  intro j oj hj kY
  have:=List.all_eq_true.1 hpre j (List.mem_range.2 hj)
  rw[kY]at this
  simpa using this
 unfold Uu at e
 obtain⟨OH,A1,h1,e1,hA1,e2⟩:=jj (fr:=(List.range N).map (look A)) e ⟨by simp,λt ht=>by rw[List.getD_eq_getElem?_getD,List.getElem?_map,List.getElem?_range ht];rfl⟩
 simp only[if_true]at e1
 rw[ho]at e2
 simp only at e2
 obtain⟨F1,Hs1,V1,q1,q2,q3,q4,q5,q6,q7⟩:=qc e1 (λj hj=>by
  rw[List.getElem?_take,if_pos (by simp at hj;omega)];simp)
 have arw:(ops.toList.take n).length=n:=by simp;omega
 rw[arw]at q3 q4 q5 q6 q7
 have Wk:FR r ((List.range N).map (look A)) a:=by
  refine⟨by simpa using hsz.symm,λt x v hx hv=>?_⟩
  have ht:t<N:=by have:=(sS hx).1;simpa using this
  rw[List.getElem?_map,List.getElem?_range ht]at hx
  simp at hx
  subst hx
  have:=hfr t (by rw[hsz];exact ht)
  simp only[Act.eval,Array.getD_eq_getD_getElem?]at this
  rw[<-Array.getElem?_toList,hv]at this
  exact this
 have mk:∀(E:Nat->Prop) (F:Nat->List AV) (Hs:Nat->H) (V:Nat->AV),(∀k,k<=n->F k=F1 k)->(∀k,k<=n->Hs k=Hs1 k)->(∀k,k<n->V k=V1 k)->
   (∀k,n<=k->k<ops.size->∃o,ops[k]?=some o/\(eu P ck.call ops o (oW (F k)) (Hs k)=some (V k,Hs (k+1))∨(E k/\((Hs k).next<=(Hs (k+1)).next/\((Hs k).WF->(Hs (k+1)).WF))/\((∃i,i<(Hs k).next/\(Hs (k+1)).get i≠(Hs k).get i)->cls P o.op=.full)))/\F (k+1)=zQ (F k) o.dst (V k))->
   (∀k,n<k->k<ops.size->iM P ops (masks ops) k=true->∀j oj,n<j->j<k->ops[j]?=some oj->cls P oj.op=.read->nh (masks ops) k j=true->∀b,yq (vo (oW (F j)) oj.op)=some b->(Hs (k+1)).get b=(Hs k).get b)->
   (∀k,n<k->k<ops.size->¬E k->LZ P ops (masks ops) k=true->∃S:Nat->Prop,(∀m,n<m->m<k->iM P ops (masks ops) m=true->∀i,i<(Hs m).next->(Hs (m+1)).get i≠(Hs m).get i->S i)/\∀o,ops[k]?=some o->eu P ck.call ops o (oW (F k)) ((Hs k).minus S)=some (V k,(Hs k).minus S))->
   LD E P ck.call ops ops.size F Hs V:=by
  intro E F Hs V hF hHs hV hst adp ayd
  refine⟨λk hk=>?_,λk hk hq j oj hj kY hc hi b hb=>?_,λk hk hE hs=>?_⟩
  ·rcases Nat.lt_or_ge k n with hlt | hge
   ·obtain⟨o',g1,g2,g3⟩:=q5 k hlt
    rw[Nat.zero_add]at g1
    exact⟨o',g1,.inl (by rw[hF k (by omega),hHs k (by omega),hV k hlt,hHs (k+1) hlt];exact g2),by rw[hF (k+1) hlt,hF k (by omega),hV k hlt];exact g3⟩
   ·exact hst k hge hk
  ·rcases Nat.lt_trichotomy k n with hlt | rfl | hgt
   ·have:=(q6 k hlt (by simpa using hq)).2 j oj hj (by simpa using kY) hc (by simpa using hi) b (by rw[<-hF j (by omega)];exact hb)
    rw[hHs (k+1) hlt,hHs k (by omega)];exact this
   ·exfalso
    rcases arE j oj hj kY with h5 | h5
    ·unfold Im at h5;rw[hc]at h5;cases h5
    ·rw[B6 (.inl h5)]at hi;cases hi
   ·rcases Nat.lt_trichotomy j n with hjn | rfl | hjn
    ·exfalso
     rcases (T0 k hgt hk).2 j oj hjn kY with h5 | h5
     ·unfold Im at h5;rw[hc]at h5;cases h5
     ·rw[B6 (.inl h5)]at hi;cases hi
    ·exfalso
     rw[B6 (.inl (T0 k hgt hk).1)]at hi;cases hi
    ·exact adp k hgt hk hq j oj hjn hj kY hc hi b hb
  ·rcases Nat.lt_trichotomy k n with hlt | rfl | hgt
   ·obtain⟨S,_,g1,g2⟩:=q7 k hlt (by simpa using hs)
    refine⟨S,λm hm hq _ i hi hne=>g1 m hm (by simpa using hq) i (by rw[<-hHs m (by omega)];exact hi) (by rw[<-hHs (m+1) (by omega),<-hHs m (by omega)];exact hne),λo' ho'=>?_⟩
    rw[hF k (by omega),hHs k (by omega),hV k hlt]
    exact g2 o' (by simpa using ho')
   ·exfalso
    have:=UG ho hs
    rw[Yu]at this;cases this
   ·obtain⟨S,g1,g2⟩:=ayd k hgt hk hE hs
    refine⟨S,λm hm hq hi i hin hne=>?_,g2⟩
    rcases Nat.lt_trichotomy m n with hmn | rfl | hmn
    ·exfalso
     have zD:ops[m]?=some ops[m]:=Array.getElem?_eq_getElem (by omega)
     rcases (T0 k hgt hk).2 m _ hmn zD with h5 | h5
     ·unfold iM at hq
      rw[zD]at hq
      simp only[Bool.and_eq_true,beq_iff_eq]at hq
      unfold Im at h5
      rw[hq.1]at h5;cases h5
     ·rw[B6 (.inr h5)]at hi;cases hi
    ·rw[B6 (.inr (T0 k hgt hk).1)]at hi;cases hi
    ·exact g1 m hmn hm hq i hin hne
 let G:Nat->List AV:=λm=>Nat.rec OH (λm g=>zQ g ((ops[n+m]?).bind (·.dst)) .fJ) m
 let F0:Nat->List AV:=λk=>if k<=n then F1 k else G (k - n)
 let MB:Nat->H:=λk=>if k<=n then Hs1 k else h1
 let V0:Nat->AV:=λk=>if k<n then V1 k else .fJ
 have Ph:LD (λk=>n<=k) P ck.call ops ops.size F0 MB V0:=by
  refine mk _ F0 MB V0 (λk hk=>if_pos hk) (λk hk=>if_pos hk) (λk hk=>if_pos hk) (λk hk hks=>?_) (λk hk hks _ j oj hnj hjk _ _ _ b _=>?_) (λk hk hks hE hs=>absurd (Nat.le_of_lt hk) hE)
  ·have arB:ops[k]?=some ops[k]:=Array.getElem?_eq_getElem hks
   have hHk:MB k=h1:=by
    simp only[MB]
    split
    ·rw[show k=n by omega];exact q4
    ·rfl
   have aq9:MB (k+1)=h1:=by simp only[MB];rw[if_neg (by omega)]
   refine⟨_,arB,.inr ⟨hk,by rw[hHk,aq9];exact⟨cF _,id⟩,λ⟨i,_,hne⟩=>absurd (by rw[hHk,aq9]) hne⟩,?_⟩
   have hGk:F0 k=G (k - n):=by
    simp only[F0]
    split
    ·rw[show k=n by omega,Nat.sub_self];exact q3
    ·rfl
   have hVk:V0 k=.fJ:=by simp only[V0];rw[if_neg (by omega)]
   rw[hGk,hVk]
   simp only[F0]
   rw[if_neg (by omega),show k+1 - n=(k - n)+1 by omega]
   show zQ (G (k - n)) ((ops[n+(k - n)]?).bind (·.dst)) .fJ=_
   rw[show n+(k - n)=k by omega,arB]
   rfl
  ·simp only[MB];rw[if_neg (by omega),if_neg (by omega)]
 have sd:(MB 0).WF:=by
  have:MB 0=h:=by simp only[MB];rw[if_pos (uQ _)];exact q2
  rw[this];exact an.wf
 have agL:MB 0=h:=by simp only[MB];rw[if_pos (uQ _)];exact q2
 have aiZ:∀i,(MB 0).next<=i->i<(MB ops.size).next->r i=none:=λi hi _=>hfree i (by rw[<-agL];exact hi)
 have axh:F0 n=OH:=by simp only[F0];rw[if_pos (cF _)];exact q3
 have alf:MB n=h1:=by simp only[MB];rw[if_pos (cF _)];exact q4
 obtain⟨A2,b,hsame,T1,e3⟩:=FP e2
 have aGe:∀k,k<=n->MB k=Hs1 k:=λk hk=>if_pos hk
 have after:∀(fuel:Nat) (listed:Array Bool) (r1 r':Ren) (a1:Act) (w1 w':World) (v:AV) (v':Value) (h2:H),listed.size=ops.size->listed.getD n true=false->(∀m o,ops[m]?=some o->listed.getD m false=true->∀e∈o.after,Region.binds .any e=true->listed.getD e.on false=true)->
   (∀e∈o.after,Region.binds .any e=true->listed.getD e.on false=true)->(∀m,listed.getD m false=true->m<n)->((List.range ops.size).filter λi=>!listed.getD i true).length<=fuel+1->
   Inv P ops ops.size F0 MB V0 r w a.defers (λm=>listed.getD m false=true) r1 a1 w1->VR r' v v'->Post r1 h1 w1 r' h2 w'->aij P ck N ops n A2 o v h2 kn=some ()->wpAny P .any ops Q fuel (listed.setIfInBounds n true) (a1.put o.dst v') w':=by
  intro fuel listed r1 r' a1 w1 w' v v' h2 hls Yy JV vh NQ hfu inv hv hp hk
  unfold aij at hk
  obtain⟨fr3,A3,h3,k1,k2,k3⟩:=jj (fr:=zQ OH o.dst v) hk ((hA1.of_same hsame).put o.dst v)
  simp only[if_true]at k1
  have hL:(ops.toList.drop (n+1)).length=ops.size - (n+1):=by simp
  obtain⟨F2,Hs2,V2,p1,p2,p3,p4,p5,p6,p7⟩:=qc k1 (λj _=>by simp)
  rw[hL]at p3 p4 p5 p6 p7
  let F:Nat->List AV:=λk=>if k<=n then F1 k else F2 (k - (n+1))
  let Hs:Nat->H:=λk=>if k<=n then Hs1 k else Hs2 (k - (n+1))
  let V:Nat->AV:=λk=>if k<n then V1 k else if k=n then v else V2 (k - (n+1))
  have Wf:∀k,n<k->F k=F2 (k - (n+1)):=λk hk=>if_neg (by omega)
  have O7:∀k,n<k->Hs k=Hs2 (k - (n+1)):=λk hk=>if_neg (by omega)
  have ali:∀k,n<k->V k=V2 (k - (n+1)):=λk hk=>by simp only[V];rw[if_neg (by omega),if_neg (by omega)]
  have hFn:F n=OH:=by simp only[F];rw[if_pos (cF _)];exact q3
  have hHn:Hs n=h1:=by simp only[Hs];rw[if_pos (cF _)];exact q4
  have ara:Hs (n+1)=h2:=by rw[O7 (n+1) (by omega),Nat.sub_self];exact p2
  have hVn:V n=v:=by simp[V]
  have hrun:LD (λk=>k=n) P ck.call ops ops.size F Hs V:=by
   refine mk _ F Hs V (λk hk=>if_pos hk) (λk hk=>if_pos hk) (λk hk=>if_pos hk) (λk hk hks=>?_) (λk hk hks hq j oj hnj hjk kY hc hi b hb=>?_) (λk hk hks hE hs=>?_)
   ·rcases Nat.lt_or_ge n k with hgt | hle
    ·obtain⟨o',g1,g2,g3⟩:=p5 (k - (n+1)) (by omega)
     rw[show n+1+(k - (n+1))=k by omega]at g1
     refine⟨o',g1,.inl ?_,?_⟩
     ·rw[Wf k hgt,O7 k hgt,ali k hgt,O7 (k+1) (by omega),show k+1 - (n+1)=(k - (n+1))+1 by omega];exact g2
     ·rw[Wf (k+1) (by omega),Wf k hgt,ali k hgt,show k+1 - (n+1)=(k - (n+1))+1 by omega];exact g3
    ·obtain rfl:k=n:=by omega
     refine⟨o,ho,.inr ⟨rfl,by rw[hHn,ara];exact⟨hp.next,λ_=>hp.rel.wf⟩,λ_=>Yu⟩,?_⟩
     rw[Wf (k+1) (by omega),Nat.sub_self,p1,hFn,hVn]
   ·have:=(p6 (k - (n+1)) (by omega) (by rw[show n+1+(k - (n+1))=k by omega];exact hq)).2 (j - (n+1)) oj (by omega) (by rw[show n+1+(j - (n+1))=j by omega];exact kY) hc (by
     rw[show n+1+(k - (n+1))=k by omega,show n+1+(j - (n+1))=j by omega];exact hi) b (by rw[<-Wf j hnj];exact hb)
    rw[O7 (k+1) (by omega),O7 k hk,show k+1 - (n+1)=(k - (n+1))+1 by omega];exact this
   ·obtain⟨S,_,g1,g2⟩:=p7 (k - (n+1)) (by omega) (by rw[show n+1+(k - (n+1))=k by omega];exact hs)
    refine⟨S,λm hm hmk hq i hi hne=>?_,λo' ho'=>?_⟩
    ·refine g1 (m - (n+1)) (by omega) (by rw[show n+1+(m - (n+1))=m by omega];exact hq) i (by rw[<-O7 m hm];exact hi) ?_
     rw[O7 (m+1) (by omega),O7 m hm,show m+1 - (n+1)=(m - (n+1))+1 by omega]at hne
     exact hne
    ·rw[Wf k hk,O7 k hk,ali k hk]
     exact g2 o' (by rw[show n+1+(k - (n+1))=k by omega];exact ho')
  have alg:Hs 0=h:=by simp only[Hs];rw[if_pos (uQ _)];exact q2
  have hwf:(Hs 0).WF:=by rw[alg];exact an.wf
  have arp:∀i,(Hs 0).next<=i->i<(Hs ops.size).next->r i=none:=λi hi _=>hfree i (by rw[<-alg];exact hi)
  have inv1:Inv P ops ops.size F Hs V r w a.defers (λm=>listed.getD m false=true) r1 a1 w1:=
   inv.shared (n:=n) NQ (by simp only[F0,F];rw[if_pos (uQ _),if_pos (uQ _)]) (λk hk=>by simp only[MB,Hs];rw[if_pos hk,if_pos hk]) (λk hk=>by simp only[V0,V];rw[if_pos hk,if_pos hk])
  have hDn:¬(listed.getD n false=true):=λh=>Nat.lt_irrefl _ (NQ n h)
  have jM:=MA (P:=P) hM hH hP (D:=λm=>listed.getD m false=true) JV ho hDn vh
  have hpp:Post r1 (Hs n) w1 r' (Hs (n+1)) w':=by rw[hHn,ara];exact hp
  have hb:=EL sr hrun hwf rfl arp inv1 Lb ho jM hDn Yu hpp
  have inv2:=rP hrun rfl inv1 Lb ho jM hDn hb (by rw[hVn];exact hv)
  refine Ih sr arH hrun (w0:=w) hwf arp (ds:=a.defers) (λr3 a3 w3 g1 g2 g3=>?_) fuel _ r' _ w' (by simp[hls]) (λm _ hm=>?_) (λm om zD hmm e he hb=>?_) ?_ (λD hD=>?_)
  ·have hFe:F ops.size=fr3:=by rw[Wf _ Lb];exact p3
   have hHe:Hs ops.size=h3:=by rw[O7 _ Lb];exact p4
   rw[hFe]at g1
   rw[alg,hHe]at g3
   have arQ:a3.tmps.size=N:=by rw[<-k2.1];simpa using g1.1.symm
   exact hQ r3 a3 w3 A3 h3 (λt ht=>by
    rw[k2.2 t (by rw[<-arQ];exact ht)]
    exact Dw g1 g3.rel.rH (.tmp t)) arQ g2 g3 k3
  ·subst hm
   rw[<-lg (by simp;omega),xB (by omega),if_pos rfl]
  ·by_cases hmn:n=m
   ·subst hmn
    rw[ho]at zD;cases zD
    exact getD_set_true (vh e he hb)
   ·rw[getD_set_ne false hmn]at hmm
    exact getD_set_true (JV m om zD hmm e he hb)
  ·have:=filter_lt (l:=List.range ops.size) (p:=λi=>!listed.getD i true) (p':=λi=>!(listed.setIfInBounds n true).getD i true) (x:=n) (λy hy=>by
     by_cases hyj:n=y
     ·subst hyj;rw[Yy];rfl
     ·rw[getD_set_ne true hyj]at hy;exact hy) (List.mem_range.2 Lb) (by rw[Yy];rfl) (by
     have h3:n<listed.size:=by omega
     simp[h3])
   omega
  ·have hDe:D=rf (λm=>listed.getD m false=true) n:=by
    funext m
    refine propext ((hD m).trans ?_)
    unfold rf
    by_cases hmn:n=m
    ·subst hmn
     have h3:n<listed.size:=by omega
     simp[h3]
    ·rw[getD_set_ne false hmn]
     exact⟨.inl,λh=>h.resolve_right λe=>hmn e.symm⟩
   rw[hDe];exact inv2
 have main:∀(fuel:Nat) (listed:Array Bool) (r1:Ren) (a1:Act) (w1:World),listed.size=ops.size->(∀m o,ops[m]?=some o->listed.getD m false=true->∀e∈o.after,Region.binds .any e=true->listed.getD e.on false=true)->(∀m,listed.getD m false=true->m<n)->
   ((List.range ops.size).filter λi=>!listed.getD i true).length<=fuel->Inv P ops ops.size F0 MB V0 r w a.defers (λm=>listed.getD m false=true) r1 a1 w1->wpAny P .any ops Q fuel listed a1 w1:=by
  intro fuel
  induction fuel with
  | zero=>
   intro listed r1 a1 w1 hls JV NQ hfu inv
   exfalso
   have Yy:listed.getD n true=false:=by
    cases hl:listed.getD n true with
    | false=>rfl
    | true=>rw[lg (by omega)]at hl;exact absurd (NQ n hl) (Nat.lt_irrefl _)
   have hm:n∈(List.range ops.size).filter λi=>!listed.getD i true:=List.mem_filter.2 ⟨List.mem_range.2 Lb,by rw[Yy];rfl⟩
   have:(List.range ops.size).filter (λi=>!listed.getD i true)=[]:=List.eq_nil_of_length_eq_zero (by omega)
   rw[this]at hm;cases hm
  | succ fuel ih=>
   intro listed r1 a1 w1 hls JV NQ hfu inv
   have Yy:listed.getD n true=false:=by
    cases hl:listed.getD n true with
    | false=>rfl
    | true=>rw[lg (by omega)]at hl;exact absurd (NQ n hl) (Nat.lt_irrefl _)
   refine⟨λhr=>?_,λj hj=>?_⟩
   ·have:=Dv ht hls hr n Lb
    rw[this]at Yy;cases Yy
   obtain⟨hjl,oj,kY,vh⟩:=mem_ready.1 hj
   have hjs:=(Array.getElem?_eq_some_iff.1 kY).1
   have wB:¬(listed.getD j false=true):=λh=>by
    have h3:j<listed.size:=by omega
    simp[h3]at h hjl;rw[h]at hjl;cases hjl
   have jM:=MA (P:=P) hM hH hP (D:=λm=>listed.getD m false=true) JV kY wB vh
   rcases Nat.lt_trichotomy j n with hlt | hjn | hgt
   ·refine NU sr Ph sd rfl aiZ inv hjs kY jM wB (by omega) Q _ λr' a' w' inv' _ _ _=>ih _ r' a' w' (by simp[hls]) (λm o zD hmm e he hb=>?_) (λm hm=>?_) ?_ ?_
    ·by_cases Gv:j=m
     ·subst Gv
      rw[kY]at zD
      cases zD
      exact getD_set_true (vh e he hb)
     ·rw[getD_set_ne false Gv]at hmm
      exact getD_set_true (JV m o zD hmm e he hb)
    ·by_cases Gv:j=m
     ·omega
     ·rw[getD_set_ne false Gv]at hm;exact NQ m hm
    ·have:=filter_lt (l:=List.range ops.size) (p:=λi=>!listed.getD i true) (p':=λi=>!(listed.setIfInBounds j true).getD i true) (x:=j) (λy hy=>by
       by_cases hyj:j=y
       ·subst hyj;rw[hjl];rfl
       ·rw[getD_set_ne true hyj]at hy;exact hy) (List.mem_range.2 hjs) (by rw[hjl];rfl) (by
       have h3:j<listed.size:=by omega
       simp[h3])
     omega
    ·have hDe:(λm=>(listed.setIfInBounds j true).getD m false=true)=rf (λm=>listed.getD m false=true) j:=by
      funext m
      refine propext ?_
      unfold rf
      by_cases Gv:j=m
      ·subst Gv
       have h3:j<listed.size:=by omega
       simp[h3]
      ·rw[getD_set_ne false Gv]
       exact⟨.inl,λh=>h.resolve_right λe=>Gv e.symm⟩
     rw[hDe];exact inv'
   ·subst hjn
    rw[ho]at kY;cases kY
    have hρ:=FC (Hs:=MB) Ph rfl inv hjs ho jM wB
    have YA:Rel r1 h1 w1:=by
     have:=aeK sr Ph sd rfl aiZ inv hjs ho jM wB Yu
     rwa [alf]at this
    have alo:∀i,h1.next<=i->r1 i=none:=by
     intro i hi
     cases hr1:r1 i with
     | none=>rfl
     | some t=>
      cases hr0:r i with
      | some t0=>
       have h5:=hfree i (by
        have:=dw sr Ph (uQ j) (Nat.le_of_lt hjs)
        rw[agL,alf]at this;omega)
       rw[h5]at hr0;cases hr0
      | none=>
       obtain⟨k,hk,hDk,h3,h4⟩:=inv.dom i t hr1 hr0
       have hkn:=NQ k hDk
       have:=dw sr Ph (show k+1<=j from hkn) (Nat.le_of_lt hjs)
       rw[alf]at this;omega
    have agZ:oW (F0 j)=fj N A1:=by rw[axh];exact hA1.oW
    have ajb:∀x,(x∈o.op.operands∨∃t,x=.tmp t/\t∈o.looksAt ops)->VR r1 (fj N A1 x) (a1.eval x):=by
     intro x hx
     have:=hρ x
     have he:restrict ops o (F0 j) x=oW (F0 j) x:=by
      cases x with
      | tmp t=>
       have ht:t∈o.looksAt ops:=by
        rcases hx with hx | ⟨t',e,ht⟩
        ·exact List.mem_append_left _ (List.mem_filterMap.2 ⟨.tmp t,by simpa using hx,rfl⟩)
        ·cases e;exact ht
       simp[restrict,ht,oW]
      | _=>rfl
     rw[he,agZ]at this
     exact this
    have hw:Region.wanted o (yielded ops a1.tmps)=b:=DR T1 λt ht=>ajb _ (.inr ⟨t,rfl,by
     obtain⟨g,b',h5,h6⟩:=ht
     exact List.mem_append_right _ (by simp[h5,h6])⟩)
    unfold wpOp
    simp only[ho]
    rw[hw]
    cases b with
    | false=>
     simp only[Bool.false_eq_true,if_false]at e3 ⊢
     exact after fuel listed r1 r1 a1 w1 w1 (.dJ []) undef h1 hls Yy JV vh NQ hfu inv (vY (vs:=[]) .nil) (Post.refl YA) e3
    | true=>
     simp only[if_true]at e3 ⊢
     refine .inl ?_
     unfold yF at e3
     rw[hop]at e3
     simp only[agP,fj,alr,List.nil_append,List.append_nil]at e3
     have hargs:kg r1 (c.args.toList.map (fj N A1)) (c.args.map a1.eval).toList:=by
      rw[Array.toList_map]
      exact kg.map _ _ _ λx hx=>ajb x (.inl (by rw[hop];simp only[Op.operands,Call.operands,agP];simp;right;simpa using hx))
     obtain⟨fn,hfn,hbody,hname⟩:=zA.there _ alr
     have Wl:=zA.GO f _ h1 _ r1 w1 _ alr e3 YA alo hargs
     unfold Oper.wp
     have hr:(execOp a1.eval o).run P w1=.ok (.enter f (c.args.map a1.eval)) w1:=by
      have OI:¬fn.name = "runtime.NumGoroutine" := by simpa using hname
      have hb1:¬fn.body=none:=λe=>by rw[e]at hbody;cases hbody
      simp[execOp,hop,resolve,agP,Act.eval,Deferred.ofValue,invoke,callFunc,hfn,hb1,OI]
     rw[hr,Oper.upon_enter]
     refine Wl.mono λe w' he=>?_
     obtain⟨r',v,v',h',rfl,hv',hp,hk⟩:=he
     exact after fuel listed r1 r' a1 w1 w' v v' h' hls Yy JV vh NQ hfu inv hv' hp (wI hk)
   ·exfalso
    have hb:=(T0 j hgt hjs).1
    exact absurd (NQ n (MU hM JV kY vh n hgt hb)) (Nat.lt_irrefl _)
 refine main ops.size _ r a w (by simp) (λm o _ hm=>by rw[s8]at hm;cases hm) (λm hm=>by rw[s8]at hm;cases hm) ?_ ?_
 ·have:=List.length_filter_le (λi=>!(Array.replicate ops.size false).getD i true) (List.range ops.size)
  simpa using this
 ·have hno:∀m,¬((Array.replicate ops.size false).getD m false=true):=λm h=>by rw[s8]at h;cases h
  have vg:∀i,ij ops.size MB (λm=>(Array.replicate ops.size false).getD m false=true) i=(MB 0).get i:=λi=>jZ (uQ _) λm _ _=>⟨λh=>absurd h (hno m),λh=>by omega⟩
  have aq8:F0 0=(List.range N).map (look A):=by simp only[F0];rw[if_pos (uQ _)];exact q1
  refine⟨Ren.le_refl _,(λi t h1 h2=>by rw[h1]at h2;cases h2),by rw[aq8];simpa using hsz,λt ht=>?_,λi t o h1 h2=>?_,λi k ti tk oi ok h1 h2 h3 h4=>?_,an.bound,λ_ _ _=>rfl,cF _,.refl _,(λi t h1 h2=>by rw[h1]at h2;cases h2),λm _ h=>absurd h (hno m),λm _ h=>absurd h (hno m),rfl,an.rH⟩
  ·rw[uI Ph ht (uQ _) λm _ _=>⟨λh=>absurd h (hno m),λh=>by omega⟩,aq8]
   exact Dw Wk an.rH (.tmp t)
  ·rw[vg,agL]at h2
   exact an.obj i t o h1 h2
  ·rw[vg,agL]at h3 h4
   exact an.inj i k ti tk oi ok h1 h2 h3 h4
end
def NT:List Nat->Nat->Nat
 | [],_=>0
 | x::l,j=>match Nat.beq x j with | true=>0 | false=>NT l j+1
def piE(ops:Array Oper)(n:Nat):List Nat:=((List.range ops.size).filter λi=>!(Nat.beq i n)&&!((masks ops i).testBit n))++n::((List.range ops.size).filter λi=>(masks ops i).testBit n)
def Qf(π:List Nat)(ops:Array Oper):Array Oper:=(π.map λi=>match ops[i]? with | some o=>aa4 (NT π) o | none=>⟨none,.move (.tmp 0),0, "",#[],none⟩).toArray
def anw(N:Nat)(π:List Nat):Bool:=
 Nat.beq π.length N&&((List.range N).all λj=>Nat.blt (NT π j) N&&(match π[NT π j]? with | some i=>Nat.beq i j | none=>false))&&((List.range N).all λi=>match π[i]? with | some j=>Nat.blt j N&&Nat.beq (NT π j) i | none=>false)
def RQ(P:Program)(cr:CR)(ops:Array Oper)(n:Nat):Bool:=anw ops.size (piE ops n)&&okM ops (masks ops)&&FA ops&&okE P cr (Qf (piE ops n) ops) (NT (piE ops n) n)
theorem adZ{ops:Array Oper}{π:List Nat}(hp:anw ops.size π=true)(hM:okM ops (masks ops)=true)(hg:FA ops=true):MC ops (Qf π ops) (NT π):=by
 simp only[anw,Bool.and_eq_true]at hp
 obtain⟨⟨h1,h2⟩,h3⟩:=hp
 have hl:π.length=ops.size:=Nat.eq_of_beq_eq_true h1
 have hσ:∀j,j<ops.size->NT π j<ops.size/\π[NT π j]?=some j:=λj hj=>by
  have:=List.all_eq_true.1 h2 j (List.mem_range.2 hj)
  simp only[Bool.and_eq_true]at this
  refine⟨H9 this.1,?_⟩
  have h:=this.2
  split at h
  ·rename_i i hi;rw[hi,Nat.eq_of_beq_eq_true h]
  ·cases h
 refine⟨by simp[Qf,hl],λj hj=>(hσ j hj).1,λi j hi hj e=>?_,λi hi=>?_,λj o ho=>?_,λj o ho e he hb=>?_,λj o g b ho hgd=>?_⟩
 ·have:=(hσ i hi).2
  rw[e,(hσ j hj).2]at this
  exact(oh this).symm
 ·have:=List.all_eq_true.1 h3 i (List.mem_range.2 hi)
  split at this
  ·rename_i j hj
   simp only[Bool.and_eq_true]at this
   exact⟨j,H9 this.1,Nat.eq_of_beq_eq_true this.2⟩
  ·cases this
 ·have hj:=(Array.getElem?_eq_some_iff.1 ho).1
  simp only[Qf,List.getElem?_toArray,List.getElem?_map,(hσ j hj).2,Option.map_some,ho]
 ·have hj:=(Array.getElem?_eq_some_iff.1 ho).1
  have:=(vA hM ho).1 e he hb
  omega
 ·have hj:=(Array.getElem?_eq_some_iff.1 ho).1
  have:=List.all_eq_true.1 hg j (List.mem_range.2 hj)
  rw[ho]at this
  simp only[hgd,decide_eq_true_eq]at this
  omega
theorem dj.ah0{P:Program}(hm:P.follows .mixedOrders=true){ck:CK}(sr:ck.call.Sound P){cr:CR}(zA:cr.Sound P){N id n:Nat}{ops:Array Oper}(hok:okE P cr ops n=true):dj true P N (.region id ops true) (λA h kn _ _=>Uu P ck cr N ops n A h kn):=by
 refine⟨λA h kn ke kr x e=>?_,λr a w A h kn ke kr x B e hfr hsz an hfree hB Q hQ=>?_⟩
 ·cases x
  obtain⟨A',h',h1,h2,h3⟩:=Qj sr zA e
  exact⟨.normal,A',h',h1,h2,h3⟩
 ·cases x
  have hw0:Post r h w r h {w with drawn:=w.drawn+1}:=Post.same an rfl ⟨rfl,rfl,rfl,λ_=>dW _⟩
  refine wp_region_any hm ?_
  exact Uv sr zA hok e hfr hsz hw0.rel (λi hi=>hfree i hi (B.all rfl i)) λr' a' w' A' h' q1 q2 q3 q4 q5=>hQ r' a' w' A' h' .normal q1 q2 q3 (hw0.trans q4) q5
theorem dj.aeJ{P:Program}(hm:P.follows .mixedOrders=true){ck:CK}(sr:ck.call.Sound P){cr:CR}(zA:cr.Sound P){N id n:Nat}{ops:Array Oper}(hok:RQ P cr ops n=true):dj true P N (.region id ops true) (λA h kn _ _=>Uu P ck cr N (Qf (piE ops n) ops) (NT (piE ops n) n) A h kn):=by
 simp only[RQ,Bool.and_eq_true]at hok
 obtain⟨⟨⟨hp,hM⟩,hg⟩,hE⟩:=hok
 have hmv:=adZ hp hM hg
 refine⟨λA h kn ke kr x e=>?_,λr a w A h kn ke kr x B e hfr hsz an hfree hB Q hQ=>?_⟩
 ·cases x
  obtain⟨A',h',h1,h2,h3⟩:=Qj sr zA e
  exact⟨.normal,A',h',h1,h2,h3⟩
 ·cases x
  have hw0:Post r h w r h {w with drawn:=w.drawn+1}:=Post.same an rfl ⟨rfl,rfl,rfl,λ_=>dW _⟩
  refine wp_region_any hm ?_
  have:=Uv sr zA hE e hfr hsz hw0.rel (λi hi=>hfree i hi (B.all rfl i)) (Q:=Q) λr' a' w' A' h' q1 q2 q3 q4 q5=>hQ r' a' w' A' h' .normal q1 q2 q3 (hw0.trans q4) q5
  rw[hmv.size]at this
  exact hmv.any _ _ _ _ _ (by simp) (by simp) (λj hj=>by have:=hmv.lt j hj;simp[hj,this]) this
def JZ{α:Type}(c:(α->H->Option Unit)->Option Unit)(P:α->H->Prop):Prop:=∀kk:α->H->Option Unit,(∀r h',P r h'->kk r h'=some ())->c kk=some ()
section
variable {α γ:Type}
theorem JZ.mono{c:(α->H->Option Unit)->Option Unit}{P P':α->H->Prop}(d:JZ c P)(hp:∀r h,P r h->P' r h):JZ c P':=λkk k=>d kk λr h p=>k r h (hp r h p)
end
theorem aay{h:H}{i:Nat}{f:AV->AV->H->Option Unit}{g:Option Unit}(ha:KN h i)(hn:yo h i none->g=some ())(hs:∀k v h',yo h i (some (k,v,h'))->f k v h'=some ()):H8 h i f g=some ():=by
 unfold H8
 refine if_pos ⟨ha,λc hc=>?_⟩
 match c,hc with
 | none,hc=>exact hn hc
 | some (k,v,h'),hc=>exact hs k v h' hc
section
variable {K V:Type}
structure Iter(h:H)(i m:Nat)(ek:K->AV)(ev:V->AV)(L:List (K×V×Nat))(eO:Nat)(done rest:List (K×V×Nat)):Prop where
 gm:h.xq m=some (L.map λx=>(ek x.1,ev x.2.1,x.2.2),eO)
 gi:h.get i=some (.AI (some m) eO (done.map (·.2.2)) eO)
 im:i≠m
 perm:(done++rest).Perm L
 nodup:(L.map (·.2.2)).Nodup
 born:∀x∈L,x.2.2<eO
variable {h:H}{i m:Nat}{ek:K->AV}{ev:V->AV}{L:List (K×V×Nat)}{eO:Nat}{done rest:List (K×V×Nat)}
theorem Iter.move{h':H}(it:Iter h i m ek ev L eO done rest)(h1:h'.get m=h.get m)(h2:h'.get i=h.get i):Iter h' i m ek ev L eO done rest:=
 ⟨(Fw h1).trans it.gm,h2.trans it.gi,it.im,it.perm,it.nodup,it.born⟩
theorem Iter.apart(it:Iter h i m ek ev L eO done rest):∀x∈rest,x.2.2∉done.map (·.2.2):=by
 have hn:((done++rest).map (·.2.2)).Nodup:=(it.perm.map _).nodup_iff.2 it.nodup
 rw[List.map_append,List.nodup_append]at hn
 intro x hx hd
 exact hn.2.2 _ hd _ (List.mem_map_of_mem hx) rfl
theorem Iter.next[DecidableEq K][DecidableEq V](it:Iter h i m ek ev L eO done rest){f:AV->AV->H->Option Unit}{g:Option Unit}
  (hf:∀x rest' h',rest.Perm (x::rest')->h'.next=h.next->(∀j,j≠i->h'.get j=h.get j)->Iter h' i m ek ev L eO (done++[x]) rest'->f (ek x.1) (ev x.2.1) h'=some ()) (hg:rest=[]->g=some ()):H8 h i f g=some ():=by
 refine aay ?_ (λhc=>?_) λk v h' hc=>?_
 ·unfold KN
  rw[it.gi]
  simp only[it.gm]
  rintro ⟨_,h2,h3⟩
  cases hL:L with
  | nil=>rw[hL]at h2;exact h2 rfl
  | cons x l=>
   have h4:=h3 (ek x.1,ev x.2.1,x.2.2) (List.mem_map.2 ⟨x,by rw[hL];simp,rfl⟩)
   have:=it.born x (by rw[hL];simp)
   simp only at h4
   omega
 ·unfold yo at hc
  rw[it.gi]at hc
  simp only[it.gm]at hc
  refine hg ?_
  cases hr:rest with
  | nil=>rfl
  | cons x l=>
   have hx:x∈rest:=by rw[hr];simp
   have hL:x∈L:=it.perm.mem_iff.1 (List.mem_append_right _ hx)
   have:=hc (ek x.1,ev x.2.1,x.2.2) (List.mem_map.2 ⟨x,hL,rfl⟩) (it.apart x hx)
   have:=it.born x hL
   simp only at *
   omega
 ·unfold yo at hc
  rw[it.gi]at hc
  simp only[it.gm]at hc
  obtain⟨e,he,hs,rfl,rfl,rfl⟩:=hc
  obtain⟨x,hx,rfl⟩:=List.mem_map.1 he
  simp only at hs ⊢
  have hxr:x∈rest:=by
   rcases List.mem_append.1 (it.perm.mem_iff.2 hx)with hd | hr
   ·exact absurd (List.mem_map_of_mem hd) hs
   ·exact hr
  have hp:rest.Perm (x::rest.erase x):=List.perm_cons_erase hxr
  refine hf x (rest.erase x) _ hp rfl (λj hj=>ng hj) ⟨?_,?_,it.im,?_,it.nodup,it.born⟩
  ·exact(Fw (ng (Ne.symm it.im))).trans it.gm
  ·rw[aW,List.map_append];rfl
  ·refine List.Perm.trans ?_ it.perm
   rw[List.append_assoc]
   exact(List.Perm.append_left done hp).symm
theorem Iter.entry{x:K×V×Nat}(it:Iter h i m ek ev L eO (done++[x]) rest){β:Type}(f:AV->AV->Option β):J7 h i f=f (ek x.1) (ev x.2.1):=by
 have hx:x∈L:=it.perm.mem_iff.1 (by simp)
 have axF:(L.map λy=>(ek y.1,ev y.2.1,y.2.2)).filter (λe=>e.2.2==x.2.2)=[(ek x.1,ev x.2.1,x.2.2)]:=by
  rw[List.filter_map]
  have:L.filter ((λe:AV×AV×Nat=>e.2.2==x.2.2) ∘ λy=>(ek y.1,ev y.2.1,y.2.2))=[x]:=by
   have hn:=it.nodup
   clear it
   induction L with
   | nil=>cases hx
   | cons y l ih=>
    rw[List.map_cons,List.nodup_cons]at hn
    rw[List.filter_cons]
    simp only[Function.comp]
    rcases List.mem_cons.1 hx with rfl | hx
    ·simp only[beq_self_eq_true,if_true]
     congr 1
     rw[List.filter_eq_nil_iff]
     intro z hz e
     have e:z.2.2=x.2.2:=by simpa using e
     exact hn.1 (List.mem_map.2 ⟨z,hz,e⟩)
    ·have hne:¬(y.2.2==x.2.2)=true:=by
      intro e
      have e:y.2.2=x.2.2:=by simpa using e
      exact hn.1 (List.mem_map.2 ⟨x,hx,e.symm⟩)
     rw[if_neg hne]
     exact ih hx hn.2
  rw[this];rfl
 unfold J7 Mb
 rw[it.gi]
 simp only[it.gm,List.map_append,List.map_cons,List.map_nil,List.getLast?_append,List.getLast?_singleton,Option.some_or,if_true,axF]
theorem Iter.aky(hg:h.xq m=some (L.map λx=>(ek x.1,ev x.2.1,x.2.2),eO))(hn:(L.map (·.2.2)).Nodup)(hb:∀x∈L,x.2.2<eO)(hm:m<h.next):
  ∃it:cK,(∀{β:Type} (k:Nat->H->Option β),AO (some m) h k=k h.next (h.new it))/\Iter (h.new it) h.next m ek ev L eO [] L:=
 ⟨.AI (some m) eO [] eO,λk=>by simp only[AO,Fh,hg],⟨(Fw (wA hm)).trans hg,aY _ _,by omega,.refl _,hn,hb⟩⟩
theorem Iter.begin{o:cK}{l:List (K×V)}(hg:h.get m=some o)(ho:yx ek ev l o)(hm:m<h.next):
  ∃L eO,L.map (λx=>(x.1,x.2.1))=l/\∃it:cK,(∀{β:Type} (k:Nat->H->Option β),AO (some m) h k=k h.next (h.new it))/\Iter (h.new it) h.next m ek ev L eO [] L:=by
 obtain⟨L,eO,rfl,hl,hn,hb⟩:=ho
 exact⟨L,eO,hl,Iter.aky (aav hg) hn hb hm⟩
end
theorem Post.below{r:Ren}{h:H}{w w':World}(an:Rel r h w)(b:Below w.heap.size w w'):Post r h w r h w' where
 le:=r.le_refl
 dom:=λi t h1 h2=>by rw[h1]at h2;cases h2
 rel:=⟨an.wf,λi t o h1 h2=>(an.obj i t o h1 h2).move r.le_refl (b.block _ (an.bound i t h1)),an.inj,λi t h=>Ep (an.bound i t h) b.size,an.rH⟩
 keep:=λk hk _=>b.block k hk
 env:=⟨b.os,b.tape,b.output,λh=>by cases h⟩
 size:=b.size
 next:=cF _
 fresh:=λi t h1 h2=>by rw[h1]at h2;cases h2
 pq:=λi o _ h=>⟨o,h,rfl⟩
 Sg:=λi t _=>by omega
 oD:=λi _ h=>absurd rfl h
theorem SS{P:Program}{f:FuncId}{fn:Func}(hf:P.funcs[f]?=some fn)(hb:fn.body.isNone=false)(hn:(fn.name == "runtime.NumGoroutine")=false){args:List AV}{v:AV}{h:H}
  (hrun:∀(r:Ren) (w:World) (args':Array Value),Rel r h w->kg r args args'.toList->Calls P f args' w λe w'=>(∃v',e=.returned v'/\VR r v v')/\Below w.heap.size w w'):XN P f args h v h where
 there:=⟨fn,hf,hb,hn⟩
 next:=cF _
 wf:=λh=>h
 GO:=λr w args' an _ ha=>(hrun r w args' an ha).mono λe w' ⟨⟨v',he,hv⟩,b⟩=>⟨r,v',he,hv,Post.below an b⟩
def gI(xs:List ByteArray)(sep:ByteArray):ByteArray:=⟨(Lib.join (xs.map (·.data.toList)) sep.data.toList).toArray⟩
def XO(p:Option (Nat×Nat))(len:Nat)(c:aM)(sep:ByteArray)(h:H)(xs:List ByteArray):Prop:=
 Row h 1 p len c (xs.map AV.str)/\xs.length<=140737488355328/\(Lib.join (xs.map (·.data.toList)) sep.data.toList).length<=140737488355328
open Classical in
noncomputable def Jh(p:Option (Nat×Nat))(len:Nat)(c:aM)(sep:ByteArray)(h:H):Option (ByteArray×H):=
 if hx:∃xs,XO p len c sep h xs then some (gI (Classical.choose hx) sep,h)else none
theorem Lh:∀{xs ys:List ByteArray},xs.map AV.str=ys.map AV.str->xs=ys
 | [],[],_=>rfl
 | x::xs,y::ys,h=>by
  simp only[List.map_cons,List.cons.injEq,AV.str.injEq]at h
  rw[h.1,Lh h.2]
 | [],_::_,h=>by simp at h
 | _::_,[],h=>by simp at h
theorem Ji{p:Option (Nat×Nat)}{len:Nat}{c:aM}{sep:ByteArray}{h:H}{xs:List ByteArray}(r:Row h 1 p len c (xs.map AV.str))(hN:xs.length<=140737488355328)(hlen:(Lib.join (xs.map (·.data.toList)) sep.data.toList).length<=140737488355328):Jh p len c sep h=some (gI xs sep,h):=by
 have hx:∃xs,XO p len c sep h xs:=⟨xs,r,hN,hlen⟩
 unfold Jh
 rw[dif_pos hx]
 have:=Lh ((Classical.choose_spec hx).1.unique r)
 rw[this]
theorem Rp{P:Program}{f:FuncId}{fn:Func}(hf:P.funcs[f]?=some fn)(hb:fn.body.isNone=false)(hn:(fn.name == "runtime.NumGoroutine")=false)
  (h0:∀(a:Option Addr) (c:Nat) (sep:ByteArray) (w:World),Calls P f #[.slice a 0 c,.string sep] w λe w'=>e=.returned (.string ⟨#[]⟩)/\w'=w)
  (h1:∀(bk o c:Nat) (xs:List ByteArray) (sep:ByteArray) (w:World),(∀(j:Nat) x,xs[j]?=some x->w.cell? ⟨bk,o+j,none⟩=some (.string x))->bk<w.heap.size->xs.length<=140737488355328->xs.length<=c->(Lib.join (xs.map (·.data.toList)) sep.data.toList).length<=140737488355328->
   Calls P f #[.slice (some ⟨bk,o,none⟩) xs.length c,.string sep] w λe w'=>e=.returned (.string ⟨(Lib.join (xs.map (·.data.toList)) sep.data.toList).toArray⟩)/\Below w.heap.size w w')
  {p:Option (Nat×Nat)} {len:Nat} {c:aM} {sep:ByteArray} {h:H} {q:ByteArray×H} (e:Jh p len c sep h=some q):xH P f [.slice p len c,.str sep] h (.str q.1) q.2:=by
 unfold Jh at e
 split at e
 ·rename_i hx
  cases e
  obtain⟨row,hN,hlen⟩:=Classical.choose_spec hx
  generalize Classical.choose hx=xs at row hN hlen
  refine .inl (SS hf hb hn λr w args' an ha=>?_)
  obtain⟨v,u,rfl,hv,hu⟩:=ha.two
  cases hu
  have hl:=row.length
  simp only[List.length_map,Nat.mul_one]at hl
  by_cases hz:xs=[]
  ·subst hz
   obtain rfl:len=0:=by simpa using hl.symm
   have:∃a c',v=.slice a 0 c':=by cases hv<;>exact⟨_,_,rfl⟩
   obtain⟨a,c',rfl⟩:=this
   exact(h0 a c' sep w).mono λe w' ⟨he,hw⟩=>⟨⟨_,he,.str _⟩,by rw[hw];exact .refl _ _⟩
  ·have hpos:0<xs.length:=List.length_pos_iff.2 hz
   generalize hgx:xs.map AV.str=vs at row
   cases row with
   | nil=>have:=congrArg List.length hgx;simp at this;exact absurd this hz
   | row hb' hg hvs hle hc=>
    rename_i b o cs ro
    rw[<-hgx]at hvs
    have go:∀(t:D4) (cap:Nat),r b=some t->xs.length<=cap->Calls P f #[.slice (some ⟨t.blk,t.base+o,none⟩) len cap,.string sep] w λe w'=>(∃v',e=.returned v'/\VR r (.str (gI xs sep)) v')/\Below w.heap.size w w':=by
     intro t cap hr hcap
     have hcell:∀(j:Nat) x,xs[j]?=some x->w.cell? ⟨t.blk,t.base+o+j,none⟩=some (.string x)/\t.blk<w.heap.size:=by
      intro j x hj
      have hj':cs[o+j]?=some (.str x):=by
       have:(xs.map AV.str)[j]?=some (.str x):=by rw[List.getElem?_map,hj];rfl
       rw[<-hvs,List.getElem?_take]at this
       split at this
       ·rwa [List.getElem?_drop]at this
       ·cases this
      obtain⟨v,h1,h2,h3⟩:=acD an hr hg hj'
      cases h2
      exact⟨by rw[Nat.add_assoc];exact h1,h3⟩
     have h00:=hcell 0 _ (List.getElem?_eq_getElem hpos)
     rw[<-hl]
     exact(h1 t.blk (t.base+o) cap xs sep w (λj x hj=>(hcell j x hj).1) h00.2 hN hcap hlen).mono λe w' ⟨he,hw⟩=>⟨⟨_,he,.str _⟩,hw⟩
    cases hv with
    | slice len c hr=>
     rcases hc with hc | ⟨k,hc,hk⟩
     ·cases hc
     ·cases hc;exact go _ _ hr (by omega)
    | ec len size cap hr Z9 hlc=>exact go _ _ hr (by omega)
    | lC a=>omega
    | gF a size hr=>omega
 ·cases e
open Go.RowKit Go.Sort
abbrev abO:=List (Option D4×cK)
def HR(objs:abO):H:=⟨objs.length,λi=>(objs[i]?).map (·.2)⟩
def rR(objs:abO):Ren:=λi=>(objs[i]?).bind (·.1)
theorem aAP{objs:abO}{w:World}(h:∀x∈objs,∀t,x.1=some t->OR (rR objs) w t x.2/\t.blk<w.heap.size)(hro:∀x∈objs,x.2.ro=true)(hg:GL (rR objs)):Rel (rR objs) (HR objs) w where
 wf:=λi o hi=>by
  simp only[HR,Option.map_eq_some_iff]at hi ⊢
  obtain⟨x,hx,_⟩:=hi
  exact(sS hx).1
 obj:=λi t o hr hi=>by
  simp only[HR,Option.map_eq_some_iff,rR,Option.bind_eq_some_iff]at hi hr
  obtain⟨x,hx,rfl⟩:=hi
  obtain⟨y,hy,ht⟩:=hr
  rw[hx]at hy;cases hy
  exact(h x (Hq hx) t ht).1
 inj:=λi j ti tj oi oj _ _ hi hj _=>by
  simp only[HR,Option.map_eq_some_iff]at hi hj
  obtain⟨x,hx,rfl⟩:=hi
  obtain⟨y,hy,rfl⟩:=hj
  exact .inr ⟨hro x (Hq hx),hro y (Hq hy)⟩
 bound:=λi t hr=>by
  simp only[rR,Option.bind_eq_some_iff]at hr
  obtain⟨y,hy,ht⟩:=hr
  exact(h y (Hq hy) t ht).2
 rH:=hg
theorem Post.aqN{r:Ren}{h:H}{w:World}(an:Rel r h w)(k:Nat)(os:Array Obj):Post r h w r h (grow (w.drewN k) os) where
 env:=⟨rfl,rfl,rfl,λ_=>Nat.le_add_right _ _⟩
 le:=r.le_refl
 dom:=λi t h1 h2=>by rw[h1]at h2;cases h2
 rel:=⟨an.wf,λi t o h1 h2=>(an.obj i t o h1 h2).move r.le_refl (by have:=an.bound i t h1;simp[grow,World.drewN,Array.getElem?_append,this]),an.inj,λi t h=>by have:=an.bound i t h;simp[grow,World.drewN];omega,an.rH⟩
 keep:=λb hb _=>by simp[grow,World.drewN,Array.getElem?_append,hb]
 size:=by simp[grow,World.drewN]
 next:=cF _
 fresh:=λi t h1 h2=>by rw[h1]at h2;cases h2
 pq:=λi o _ h=>⟨o,h,rfl⟩
 Sg:=λi t _=>by omega
 oD:=λi _ h=>absurd rfl h
def wQ:List AV:=Lib.pow10Tab.map (.int .u64)
def bX(n:Int):ByteArray:=⟨(Lib.itoa n).toArray⟩
open Classical in
noncomputable def T4(i:Nat)(n:Int)(h:H):Option (ByteArray×H):=
 if h.get i=some (.Xv wQ) /\ -9223372036854775808<=n/\n<=9223372036854775807 then some (bX n,h)else none
theorem NW{i:Nat}{n:Int}{h:H}(hg:h.get i=some (.Xv wQ))(h0 : -9223372036854775808<=n)(h1:n<=9223372036854775807):T4 i n h=some (bX n,h):=if_pos ⟨hg,h0,h1⟩
theorem ae4{P:Program}{r:Ren}{h:H}{w:World}(an:Rel r h w){name:String}{g i:Nat}(hn:P.globalNamed name=some g)(hi:Kc TO g=some i){k:IntKind}{zs:List Int}(hg:h.get i=some (.Xv (zs.map (.int k)))):Lib.TabIs P w name k zs:=by
 obtain⟨row,hr⟩:=an.rH g i hi
 obtain⟨C,e,fz,h1,h2,h3,h4⟩:=an.obj i _ _ hr hg
 unfold Lib.TabIs World.var?
 rw[hn,fD]
 simp only at h1
 rw[h1]
 simp only[Option.some.injEq]
 apply Array.ext_getElem?
 intro j
 simp only[List.length_map]at h3
 by_cases hj:j<zs.length
 ·have hc:C[j]?=some (C[j]'(by omega)):=Array.getElem?_eq_getElem (by omega)
  have:=h4 j (.int k zs[j]) _ (by simp[hj]) hc
  rw[hc]
  generalize C[j]'(by omega)=v at this
  cases this
  simp[hj]
 ·rw[Array.getElem?_eq_none (by omega),Array.getElem?_eq_none (by simp;omega)]
theorem Ro{P:Program}{f:FuncId}{fn:Func}(hf:P.funcs[f]?=some fn)(hb:fn.body.isNone=false)(hn:(fn.name == "runtime.NumGoroutine")=false){g i:Nat}(hg:P.globalNamed "internal/strconv.uint64pow10" = some g)(hi:Kc TO g=some i)
  (hit:∀(n:Int),-9223372036854775808<=n->n<=9223372036854775807->∀w:World,Lib.TabIs P w "internal/strconv.uint64pow10" .u64 Lib.pow10Tab->Calls P f #[.int .i64 n] w λe w'=>e=.returned (.string ⟨(Lib.itoa n).toArray⟩)/\∃k os,w'=grow (w.drewN k) os)
  {n:Int} {h:H} {q:ByteArray×H} (e:T4 i n h=some q):xH P f [.int .i64 n] h (.str q.1) q.2:=by
 unfold T4 at e
 split at e
 ·rename_i hx
  cases e
  refine .inl ⟨⟨fn,hf,hb,hn⟩,cF _,λh=>h,λr w args' an _ ha=>?_⟩
  obtain⟨v,rfl,hv⟩:=ha.one
  cases hv
  refine(hit n hx.2.1 hx.2.2 w (ae4 an hg hi hx.1)).mono λe w' ⟨he,k,os,hw⟩=>?_
  subst hw
  exact⟨r,_,he,.str _,Post.aqN an k os⟩
 ·cases e
end Go.Ev
namespace Go.Ev
theorem Qu{P:Program}{W:World}{name:String}{k:IntKind}{zs:List Int}{g:Nat}(h:Lib.TabIs P W name k zs)(hg:P.globalNamed name=some g):∃e fz,W.heap[g]?=some (.cells (zs.map λz=>Value.int k z).toArray e fz):=by
 unfold Lib.TabIs World.var? at h
 rw[hg,fD]at h
 split at h
 ·rename_i cs e fz hc
  cases h
  exact⟨e,fz,hc⟩
 ·cases h
theorem anX{P:Program}{W:World}{name:String}{k:IntKind}{zs:List Int}{g:Nat}(h:Lib.TabIs P W name k zs)(hg:P.globalNamed name=some g)(r:Ren)(row:Nat):OR r W ⟨g,0,row⟩ (.Xv (zs.map (.int k)))/\g<W.heap.size:=by
 obtain⟨e,fz,hb⟩:=Qu h hg
 refine⟨⟨_,e,fz,hb,rfl,by simp,λi a v ha hv=>?_⟩,World.EM hb⟩
 simp only[List.getElem?_map,Option.map_eq_some_iff,List.getElem?_toArray]at ha hv
 obtain⟨x,hx,rfl⟩:=ha
 obtain⟨y,hy,rfl⟩:=hv
 rw[hx]at hy;cases hy
 exact .int _ _
theorem anO{P:Program}{W:World}{name:String}{k:IntKind}{zs:List Int}{g:Nat}(h:Lib.TabIs P W name k zs)(hg:P.globalNamed name=some g)(r:Ren):OR r W ⟨g,0,zs.length⟩ (.cells (zs.map (.int k)) true)/\g<W.heap.size:=by
 obtain⟨e,fz,hb⟩:=Qu h hg
 refine⟨⟨_,e,fz,hb,by simp,by simp,λi a v ha hv=>?_,λh=>by cases h⟩,World.EM hb⟩
 simp only[List.getElem?_map,Option.map_eq_some_iff,List.getElem?_toArray,Nat.zero_add]at ha hv
 obtain⟨x,hx,rfl⟩:=ha
 obtain⟨y,hy,rfl⟩:=hv
 rw[hx]at hy;cases hy
 exact .int _ _
section
variable {β:Type}
abbrev Ly:=List (Nat×List Nat)
def cutAt:Ly->Nat->Option (List Nat)
 | [],_=>none
 | (q,l)::cs,p=>match Nat.beq q p with | true=>some l | false=>cutAt cs p
noncomputable def Tt(js:Ly)(p:Nat)(X:KC β):KC β:=match cutAt js p with | some l=>ad4 l (JE X) | none=>X
noncomputable def acK(ls:Ly)(p n:Nat)(X:KC β):KC β:=match cutAt ls p with | some l=>ad4 l (Fv l (JE X) n) | none=>λ_ _ _ _ _=>none
noncomputable def RX(P:Program)(ck:CK)(N:Nat)(ops:Array Oper)(draw:Bool):KC β:=match !draw||nW P ops with | true=>atn P ck N ops draw | false=>λ_ _ _ _ _=>none
abbrev Zk(β:Type):=Array Oper->Bool->KC β
noncomputable def den(g:Zk β)(N:Nat)(js ls:Ly)(n:Nat)(c:Code):Nat->KC β:=
 Code.rec (motive:=λ_=>Nat->KC β) (λ_=>Y5) (λ_ ops draw _=>g ops draw)
  (λ_ _ A B p=>anQ (A (2*p)) (Tt js (2*p+1) (B (2*p+1))))
  (λx _ _ A B p=>aiV N x (A (2*p)) (B (2*p+1)))
  (λi _ A p=>acp i (A (2*p)))
  (λ_ A p=>acK ls p n (A (2*p)))
  (λ_ _ _ _ _ _ _=>λ_ _ _ _ _=>none)
  (λi _=>aiY i)
  (λ_ A p=>A (2*p))
  (λ_ _=>Y5)
  (λ_ _=>λ_ _ _ _ _=>none)
  (λ_=>atp)
  (λ_ _=>λ_ _ _ _ _=>none) c
theorem dj.none{S:Bool}{P:Program}{N:Nat}{c:Code}:dj S P N c (λ_ _ _ _ _=>none:KC β) where
 ends:=λ_ _ _ _ _ _ e=>by cases e
 GO:=λ_ _ _ _ _ _ _ _ _ _ e=>by cases e
theorem dj.Tt{S:Bool}{P:Program}{N:Nat}{c:Code}{js:Ly}{p:Nat}{X:KC β}(d:dj S P N c X):dj S P N c (Tt js p X):=by
 unfold Ev.Tt
 split
 ·exact dj.norm _ (ajH d)
 ·exact d
theorem dj.acK{S:Bool}{P:Program}{N:Nat}{c:Code}{ls:Ly}{p n:Nat}{X:KC β}(d:dj S P N c X):dj S P N (.loop c) (acK ls p n X):=by
 unfold Ev.acK
 split
 ·exact dj.norm _ (dj.Fv _ (ajH d) n)
 ·exact dj.none
theorem dj.RX{S:Bool}{P:Program}(hm:P.follows .mixedOrders=true){ck:CK}(sr:ck.call.Sound P){N id:Nat}{ops:Array Oper}{draw:Bool}:dj S P N (.region id ops draw) (RX P ck N ops draw:KC β):=by
 unfold Ev.RX
 split
 ·rename_i h;exact dj.region hm sr h
 ·exact dj.none
theorem sk{S:Bool}{P:Program}{g:Zk β}{N:Nat}(hg:∀id ops draw,dj S P N (.region id ops draw) (g ops draw)){js ls:Ly}{n:Nat}:∀(c:Code) (p:Nat),dj S P N c (den g N js ls n c p:KC β)
 | .skip,_=>dj.skip
 | .region id ops draw,_=>hg id ops draw
 | .seq a b,p=>by
  show dj S P N (.seq a b) (anQ (den g N js ls n a (2*p)) (Ev.Tt js (2*p+1) (den g N js ls n b (2*p+1))))
  exact dj.seq (sk hg a (2*p)) (dj.Tt (sk hg b (2*p+1)))
 | .cond _ a b,p=>dj.cond (sk hg a (2*p)) (sk hg b (2*p+1))
 | .block _ c,p=>dj.block (sk hg c (2*p))
 | .loop c,p=>dj.acK (sk hg c (2*p))
 | .rangeFunc _ _ _ _,_=>dj.none
 | .exit _,_=>dj.exit
 | .scope c,p=>dj.scope (sk hg c (2*p))
 | .label _,_=>dj.label
 | .goto _,_=>dj.none
 | .ret,_=>dj.ret
 | .refuse _,_=>dj.none
noncomputable def jmp(g:Zk β)(N:Nat)(js ls:Ly)(n:Nat):List Nat->Code->Nat->List Nat->KC β
 | [],.loop c,p,m::_=>match cutAt ls p with | some l=>Fv l (JE (den g N js ls n c (2*p))) m | none=>λ_ _ _ _ _=>none
 | [],c,p,_=>JE (den g N js ls n c p)
 | 0::t,.seq a b,p,ms=>λA h kn ke kr=>jmp g N js ls n t a (2*p) ms A h (λA h=>Tt js (2*p+1) (den g N js ls n b (2*p+1)) A h kn ke kr) ke kr
 | _::t,.seq _ b,p,ms=>λA h kn ke kr=>jmp g N js ls n t b (2*p+1) ms A h kn ke kr
 | 0::t,.cond _ a _,p,ms=>λA h kn ke kr=>jmp g N js ls n t a (2*p) ms A h kn ke kr
 | _::t,.cond _ _ b,p,ms=>λA h kn ke kr=>jmp g N js ls n t b (2*p+1) ms A h kn ke kr
 | _::t,.block i c,p,ms=>λA h kn ke kr=>jmp g N js ls n t c (2*p) ms A h kn (λj A h=>cond (Nat.beq j i) (kn A h) (ke j A h)) kr
 | _::t,.scope c,p,ms=>λA h kn ke kr=>jmp g N js ls n t c (2*p) ms A h kn ke kr
 | _::t,.loop c,p,m::ms=>λA h kn ke kr=>
  match cutAt ls p with
  | some l=>jmp g N js ls n t c (2*p) ms A h (λA h=>Fv l (JE (den g N js ls n c (2*p))) m (norm l A) h kn ke kr) ke kr
  | none=>none
 | _,_,_,_=>λ_ _ _ _ _=>none
noncomputable def Dj(g:Zk β)(N:Nat)(js ls:Ly)(n:Nat):List Nat->Code->Nat->List Nat->KC β
 | [],.loop c,p,m::_=>match cutAt ls p with | some l=>(match m with | 0=>λ_ _ _ _ _=>none | m+1=>λA h kn ke kr=>den g N js ls n c (2*p) A h (λA h=>Fv l (JE (den g N js ls n c (2*p))) m (norm l A) h kn ke kr) ke kr) | none=>λ_ _ _ _ _=>none
 | [],c,p,_=>den g N js ls n c p
 | 0::t,.seq a b,p,ms=>λA h kn ke kr=>Dj g N js ls n t a (2*p) ms A h (λA h=>Tt js (2*p+1) (den g N js ls n b (2*p+1)) A h kn ke kr) ke kr
 | _::t,.seq _ b,p,ms=>λA h kn ke kr=>Dj g N js ls n t b (2*p+1) ms A h kn ke kr
 | 0::t,.cond _ a _,p,ms=>λA h kn ke kr=>Dj g N js ls n t a (2*p) ms A h kn ke kr
 | _::t,.cond _ _ b,p,ms=>λA h kn ke kr=>Dj g N js ls n t b (2*p+1) ms A h kn ke kr
 | _::t,.block i c,p,ms=>λA h kn ke kr=>Dj g N js ls n t c (2*p) ms A h kn (λj A h=>cond (Nat.beq j i) (kn A h) (ke j A h)) kr
 | _::t,.scope c,p,ms=>λA h kn ke kr=>Dj g N js ls n t c (2*p) ms A h kn ke kr
 | _::t,.loop c,p,m::ms=>λA h kn ke kr=>
  match cutAt ls p with
  | some l=>Dj g N js ls n t c (2*p) ms A h (λA h=>Fv l (JE (den g N js ls n c (2*p))) m (norm l A) h kn ke kr) ke kr
  | none=>none
 | _,_,_,_=>λ_ _ _ _ _=>none
theorem T5{g:Zk β}{N:Nat}{js ls:Ly}{n:Nat}(t:List Nat):∀(c:Code) (p:Nat) (ms:List Nat) (A:KF) (h:H) (kn:KF->H->Option β) (ke:Nat->KF->H->Option β) (kr:KF->H->Option β),
  jmp g N js ls n t c p ms A h kn ke kr=Dj g N js ls n t c p ms A h kn ke kr:=by
 induction t with
 | nil=>
  intro c p ms A h kn ke kr
  cases c with
  | loop c=>
   cases ms with
   | nil=>simp only[jmp,Dj,JF]
   | cons m ms=>
    simp only[jmp,Dj]
    cases cutAt ls p with
    | none=>rfl
    | some l=>
     cases m with
     | zero=>rfl
     | succ m=>simp only[Fv,JF]
  | _=>simp only[jmp,Dj,JF]
 | cons x t ih=>
  intro c p ms A h kn ke kr
  cases c with
  | seq a b=>cases x<;>simp only[jmp,Dj,ih]
  | cond y a b=>cases x<;>simp only[jmp,Dj,ih]
  | block i c=>simp only[jmp,Dj,ih]
  | scope c=>simp only[jmp,Dj,ih]
  | loop c=>cases ms<;>simp only[jmp,Dj,ih]
  | _=>simp only[jmp,Dj]
structure bx(P:Program) where
 id:Nat
 fn:Func
 js:Ly
 ls:Ly
 ok:P.funcs[id]?=some fn
 nm:(fn.name == "runtime.NumGoroutine")=false
 bd:fn.body.isSome=true
def V6{P:Program}:List (bx P)->Nat->Option (bx P)
 | [],_=>none
 | e::l,f=>match Nat.beq e.id f with | true=>some e | false=>V6 l f
theorem NC{P:Program}{f:Nat}{e:bx P}:∀{l:List (bx P)},V6 l f=some e->e.id=f
 | [],h=>by cases h
 | x::l,h=>by
  unfold V6 at h
  split at h
  ·rename_i hb;cases h;exact Nat.eq_of_beq_eq_true hb
  ·exact NC h
def anY(ss:List Shape)(v:AV)(f:AV->Option β):Option β:=aO v λl=>wR ss l λus=>f (.dJ us)
def pK(v:AV)(f:Nat->List AV->List AV->Option β):Option β:=match v with | .func g a b=>f g a b | _=>none
def crc(P:Program)(rts:List TypeId)(v:AV)(f:AV->Option β):Option β:=
 match rts with
 | [t]=>(match P.underlying t with | some (.func _ _ _)=>pK v λg a b=>f (.func g a b) | _=>gH (xz P t) v f)
 | ts=>anY (ts.map (xz P)) v f
theorem acJ{P:Program}{rts:List TypeId}{v:AV}{f:AV->Option β}{x:β}(h:crc P rts v f=some x):f v=some x:=by
 unfold crc at h
 split at h
 ·split at h
  ·unfold pK at h
   split at h
   ·exact h
   ·cases h
  ·exact mu _ h
 ·unfold anY at h
  obtain⟨vs,rfl,h⟩:=Vr h
  exact DM _ (f:=λus=>f (.dJ us)) h
end
section
variable {β γ:Type}(g:β->Option γ)
mutual
theorem Ls:∀(s:Shape) (v:AV) (f:AV->Option β),(gH s v f).bind g=gH s v λu=>(f u).bind g
 | .int k,v,f=>by simp only[gH,tO]
 | .bool,v,f=>by simp only[gH,rz]
 | .str,v,f=>by simp only[gH,tR]
 | .ptr,v,f=>by simp only[gH,tQ]
 | .slice,v,f=>by simp only[gH,oH]
 | .map,v,f=>by simp only[gH,tP]
 | .any,v,f=>by simp only[gH]
 | .row,v,f=>by simp only[gH,ry]
 | .cells l,v,f=>by
  simp only[gH,ry]
  congr 1
  funext vs
  exact DL l vs λus=>f (.agg us)
theorem DL:∀(ss:List Shape) (vs:List AV) (f:List AV->Option β),(wR ss vs f).bind g=wR ss vs λus=>(f us).bind g
 | [],vs,f=>by simp only[wR,Dm]
 | s::ss,vs,f=>by
  simp only[wR,Dp]
  congr 1
  funext v vs
  rw[Ls s v]
  congr 1
  funext u
  exact DL ss vs λus=>f (u::us)
end
theorem acI(P:Program)(rts:List TypeId)(v:AV)(f:AV->Option β):(crc P rts v f).bind g=crc P rts v λu=>(f u).bind g:=by
 unfold crc
 split
 ·split
  ·unfold pK
   split<;>rfl
  ·exact Ls g _ v f
 ·unfold anY
  rw[tT]
  congr 1
  funext l
  exact DL g _ l λus=>f (.dJ us)
end
section
def ajF:List (Nat×List TypeId)->Nat->Option (List TypeId)
 | [],_=>none
 | (g,l)::t,f=>match Nat.beq g f with | true=>some l | false=>ajF t f
noncomputable def aa5(P:Program)(N:Nat)(rs:Array ResultVar):KF->H->Option (AV×H):=λA h=>Bu P N A h rs.toList λvs=>some (oneOf vs,h)
structure Tab(P:Program) where
 tbl:List (bx P)
 leaf:Nat->CK
 sound:∀n,(leaf n).call.Sound P
 rts:List (Nat×List TypeId)
def VI{β:Type}{P:Program}(T:Tab P)(f:Nat)(v:AV)(k:AV->Option β):Option β:=match ajF T.rts f with | some l=>crc P l v k | none=>k v
theorem Nj{β:Type}{P:Program}{T:Tab P}{f:Nat}{v:AV}{k:AV->Option β}{x:β}(h:VI T f v k=some x):k v=some x:=by
 unfold VI at h
 split at h
 ·exact acJ h
 ·exact h
theorem acH{β γ:Type}{P:Program}{T:Tab P}(g:β->Option γ)(f:Nat)(v:AV)(k:AV->Option β):(VI T f v k).bind g=VI T f v λu=>(k u).bind g:=by
 unfold VI
 split
 ·exact acI g P _ v k
 ·rfl
def OT{P:Program}(T:Tab P)(call:dK):CK where
 run:=λf args h k=>(call f args h).bind λq=>VI T f q.1 λv=>k v q.2
 nat:=by
  intro β f args h k
  rw[Option.bind_assoc]
  congr 1
  funext q
  rw[acH]
  rfl
noncomputable def ah8{P:Program}(ck:CK)(n:Nat)(e:bx P)(args:List AV)(h:H):Option (AV×H):=
 match Nat.ble args.length e.fn.ntmps with
 | true=>den (RX P ck e.fn.ntmps) e.fn.ntmps e.js e.ls n (xN e.fn) 1 (Py args 0) h (aa5 P e.fn.ntmps e.fn.results) (λ_ _ _=>none) (aa5 P e.fn.ntmps e.fn.results)
 | false=>none
noncomputable def EO{P:Program}(T:Tab P)(n:Nat):dK:=
 Nat.rec (motive:=λ_=>dK) (λ_ _ _=>none)
  (λn c f args h=>match V6 T.tbl f with | some e=>ah8 (OT T c) n e args h | none=>(T.leaf n).call f args h) n
theorem HG{P:Program}{T:Tab P}{call:dK}(hc:call.Sound P):(OT T call).call.Sound P:=by
 intro f args h v h' e
 obtain⟨q,h1,h2⟩:=Option.bind_eq_some_iff.1 e
 have:=Nj h2
 cases this
 exact hc _ _ _ _ _ h1
theorem Xk{P:Program}(hm:P.follows .mixedOrders=true){ck:CK}(sr:ck.call.Sound P){n:Nat}{e:bx P}{args:List AV}{h h':H}{v:AV}(r:ah8 ck n e args h=some (v,h')):XN P e.id args h v h':=by
 obtain⟨c,hb⟩:=Option.isSome_iff_exists.1 e.bd
 unfold ah8 at r
 split at r
 ·rename_i hl
  have hbo:xN e.fn=c:=by unfold xN;rw[hb]
  rw[hbo]at r
  exact abY (k:=λv h=>some (v,h)) (sk (S:=false) (λ_ _ _=>dj.RX hm sr) c 1) e.ok hb e.nm rfl (Nat.le_of_ble_eq_true hl) r λv1 h1 e1=>by cases e1;exact⟨rfl,rfl⟩
 ·cases r
theorem EP{P:Program}(hm:P.follows .mixedOrders=true)(T:Tab P):∀n,(EO T n).Sound P
 | 0=>λ_ _ _ _ _ e=>by cases e
 | n+1=>λf args h v h' e=>by
  change (match V6 T.tbl f with | some e=>ah8 (OT T (EO T n)) n e args h | none=>(T.leaf n).call f args h)=some (v,h')at e
  split at e
  ·rename_i en he
   have:=NC he
   subst this
   exact .inl (Xk hm (HG (EP hm T n)) e)
  ·exact T.sound n _ _ _ _ _ e
noncomputable def J{P:Program}(T:Tab P)(n:Nat)(e:bx P)(t ms:List Nat)(A:KF)(h:H):Option (AV×H):=
 jmp (RX P (OT T (EO T n)) e.fn.ntmps) e.fn.ntmps e.js e.ls n t (xN e.fn) 1 ms A h (aa5 P e.fn.ntmps e.fn.results) (λ_ _ _=>none) (aa5 P e.fn.ntmps e.fn.results)
noncomputable def JO{P:Program}(T:Tab P)(n:Nat)(e:bx P)(t ms:List Nat)(A:KF)(h:H):Option (AV×H):=
 Dj (RX P (OT T (EO T n)) e.fn.ntmps) e.fn.ntmps e.js e.ls n t (xN e.fn) 1 ms A h (aa5 P e.fn.ntmps e.fn.results) (λ_ _ _=>none) (aa5 P e.fn.ntmps e.fn.results)
theorem bY{P:Program}(T:Tab P)(n:Nat)(e:bx P)(t ms:List Nat)(A:KF)(h:H):J T n e t ms A h=JO T n e t ms A h:=T5 t _ 1 ms A h _ _ _
variable {β:Type}
def lI(l:List AV)(f:Int->List AV->Option β):Option β:=lc l λv l=>asInt .i64 v λx=>f x l
def lB(l:List AV)(f:Bool->List AV->Option β):Option β:=lc l λv l=>asBool v λx=>f x l
def lS(l:List AV)(f:ByteArray->List AV->Option β):Option β:=lc l λv l=>aZ v λx=>f x l
def lP(l:List AV)(f:Option (Nat×Nat)->List AV->Option β):Option β:=lc l λv l=>cZ v λx=>f x l
def lL(l:List AV)(f:Option (Nat×Nat)->Nat->aM->List AV->Option β):Option β:=lc l λv l=>asSlice v λx n c=>f x n c l
def lA(l:List AV)(f:List AV->List AV->Option β):Option β:=lc l λv l=>asAgg v λx=>f x l
def lM(l:List AV)(f:Option Nat->List AV->Option β):Option β:=lc l λv l=>zf v λx=>f x l
@[simp] theorem Yc{vs:List AV}{i:Nat}{v:AV}(hv:vs[i]?=some v)(k:AV->Option β):V4 (.dJ vs) i k=k v:=by simp only[V4,hv]
@[simp] theorem ay(l:List AV)(f:List AV->Option β):aO (.dJ l) f=f l:=nr rfl
abbrev Pt:=Option (Nat×Nat)
abbrev Bs:=ByteArray
@[simp] theorem cu(x:Int)(l:List AV)(f:Int->List AV->Option β):lI (.int .i64 x::l) f=f x l:=nr rfl
@[simp] theorem fV(x:Bool)(l:List AV)(f:Bool->List AV->Option β):lB (.bool x::l) f=f x l:=nr rfl
@[simp] theorem dx(x:ByteArray)(l:List AV)(f:ByteArray->List AV->Option β):lS (.str x::l) f=f x l:=nr rfl
@[simp] theorem aDH(x:Option (Nat×Nat))(l:List AV)(f:Option (Nat×Nat)->List AV->Option β):lP (.ptr x::l) f=f x l:=nr rfl
@[simp] theorem ux(x:Option (Nat×Nat))(n:Nat)(c:aM)(l:List AV)(f:Option (Nat×Nat)->Nat->aM->List AV->Option β):lL (.slice x n c::l) f=f x n c l:=nr rfl
@[simp] theorem eV(x:List AV)(l:List AV)(f:List AV->List AV->Option β):lA (.agg x::l) f=f x l:=nr rfl
@[simp] theorem aDG(x:Option Nat)(l:List AV)(f:Option Nat->List AV->Option β):lM (.map x::l) f=f x l:=nr rfl
@[simp] theorem wO(g:Nat)(a b:List AV)(f:Nat->List AV->List AV->Option β):pK (.func g a b) f=f g a b:=nr rfl
end
open Go.RowKit
abbrev Pr:=FuncId->List AV->H->(AV->H->Option Unit)->Option Unit
def ajE(cr:CR):List Oper->Nat->Option Nat
 | [],_=>none
 | o::l,i=>match Y1 cr o with | true=>some i | false=>ajE cr l (i+1)
def ac9:List Oper->Bool
 | []=>false
 | o::l=>DZ o.op||ac9 l
noncomputable def Ok(P:Program)(ck:CK)(cr:CR)(N:Nat):Zk Unit:=λops draw=>
 match draw with
 | false=>ato P ck cr N ops
 | true=>match ajE cr ops.toList 0 with
  | some n=>(match ac9 (ops.toList.take n)with
   | true=>(match RR P ops n with | true=>ahY P ck cr N ops n | false=>λ_ _ _ _ _=>none)
   | false=>(match W2 P ops n with | true=>ahZ P ck cr N ops n | false=>(match okE P cr ops n with | true=>λA h kn _ _=>Uu P ck cr N ops n A h kn | false=>(match RQ P cr ops n with | true=>λA h kn _ _=>Uu P ck cr N (Qf (piE ops n) ops) (NT (piE ops n) n) A h kn | false=>λ_ _ _ _ _=>none))))
  | none=>RX P ck N ops true
theorem dj.Ok{P:Program}(hm:P.follows .mixedOrders=true){ck:CK}(sr:ck.call.Sound P){cr:CR}(zA:cr.Sound P){N:Nat}(id:Nat)(ops:Array Oper)(draw:Bool):dj true P N (.region id ops draw) (Ok P ck cr N ops draw):=by
 unfold Ev.Ok
 cases draw with
 | false=>exact dj.ah2 sr zA
 | true=>
  simp only
  split
  ·split
   ·split
    ·rename_i h;exact dj.ah1 hm sr zA h
    ·exact dj.none
   ·split
    ·rename_i h;exact dj.ah3 hm sr zA h
    ·split
     ·rename_i h;exact dj.ah0 hm sr zA h
     ·split
      ·rename_i h;exact dj.aeJ hm sr zA h
      ·exact dj.none
  ·exact dj.RX hm sr
structure MF(P:Program) extends Tab P where
 Pm:List (bx P)
variable {P:Program}
noncomputable def ZP(T:MF P)(call:Pr):CR:=⟨λf=>(V6 T.Pm f).isSome,λf args h k=>call f args h λv h'=>VI T.toTab f v λv=>k v h'⟩
noncomputable def aiW(T:MF P)(call:Pr):CR:=⟨λf=>(V6 T.Pm f).isSome,call⟩
theorem VJ{T:MF P}{call:Pr}(s:(aiW T call).Sound P):(ZP T call).Sound P where
 there:=s.there
 ends:=λf args h k hf e=>by
  obtain⟨v,h',h1,h2⟩:=s.ends f args h _ hf e
  exact⟨v,h',Nj h1,h2⟩
 GO:=λf args h k r w args' hf e an hfree ha=>(s.GO f args h _ r w args' hf e an hfree ha).mono λe w' ⟨r',v,v',h',h1,h2,h3,h4⟩=>⟨r',v,v',h',h1,h2,h3,Nj h4⟩
noncomputable def Ql(P:Program)(N:Nat)(rs:Array ResultVar)(k:AV->H->Option Unit):KF->H->Option Unit:=λA h=>Bu P N A h rs.toList λvs=>k (oneOf vs) h
noncomputable def Uz(ck:CK)(cr:CR)(n:Nat)(e:bx P)(args:List AV)(h:H)(k:AV->H->Option Unit):Option Unit:=
 match Nat.ble args.length e.fn.ntmps with
 | true=>den (Ok P ck cr e.fn.ntmps) e.fn.ntmps e.js e.ls n (xN e.fn) 1 (Py args 0) h (Ql P e.fn.ntmps e.fn.results k) (λ_ _ _=>none) (Ql P e.fn.ntmps e.fn.results k)
 | false=>none
noncomputable def IB(T:MF P)(n:Nat):Pr:=
 Nat.rec (motive:=λ_=>Pr) (λ_ _ _ _=>none)
  (λn c f args h k=>match V6 T.Pm f with | some e=>Uz (OT T.toTab (EO T.toTab n)) (ZP T c) n e args h k | none=>none) n
noncomputable def aqJ(hm:P.follows .mixedOrders=true){ck:CK}(sr:ck.call.Sound P){cr:CR}(zA:cr.Sound P)(n:Nat)(e:bx P):QB P:=
 QB.of (c:=xN e.fn) (sk (dj.Ok hm sr zA) (xN e.fn) 1 (js:=e.js) (ls:=e.ls) (n:=n)) e.ok (by
  obtain⟨c,hb⟩:=Option.isSome_iff_exists.1 e.bd
  rw[hb,show xN e.fn=c by unfold xN;rw[hb]]) e.nm rfl (Uz ck cr n e) λargs h k hr=>by
  unfold Uz at hr
  split at hr
  ·rename_i hl
   exact⟨Nat.le_of_ble_eq_true hl,k,λ_ _ h=>h,hr⟩
  ·cases hr
theorem K0(hm:P.follows .mixedOrders=true)(T:MF P):∀n,(aiW T (IB T n)).Sound P
 | 0=>by
  refine⟨λf hf=>?_,λf args h k _ (e:(none:Option Unit)=some ())=>(by cases e),λf args h k r w args' _ (e:(none:Option Unit)=some ()) _ _ _=>(by cases e)⟩
  obtain⟨e,he⟩:=Option.isSome_iff_exists.1 hf
  have:=NC he
  subst this
  exact⟨e.fn,e.ok,by have:=e.bd;simpa using this,e.nm⟩
 | n+1=>by
  have ih:=VJ (K0 hm T n)
  have key:∀f args h k,IB T (n+1) f args h k=some ()->∃e,V6 T.Pm f=some e/\Uz (OT T.toTab (EO T.toTab n)) (ZP T (IB T n)) n e args h k=some ():=by
   intro f args h k e
   change (match V6 T.Pm f with | some e=>Uz (OT T.toTab (EO T.toTab n)) (ZP T (IB T n)) n e args h k | none=>none)=some ()at e
   split at e
   ·rename_i en he;exact⟨en,he,e⟩
   ·cases e
  refine⟨λf hf=>?_,λf args h k _ e=>?_,λf args h k r w args' _ e an hfree ha=>?_⟩
  ·obtain⟨e,he⟩:=Option.isSome_iff_exists.1 hf
   have:=NC he
   subst this
   exact⟨e.fn,e.ok,by have:=e.bd;simpa using this,e.nm⟩
  ·obtain⟨en,he,e⟩:=key f args h k e
   exact(aqJ hm (HG (EP hm T.toTab n)) ih n en).ends args h k e
  ·obtain⟨en,he,e1⟩:=key f args h k e
   have:=NC he
   subst this
   exact(aqJ hm (HG (EP hm T.toTab n)) ih n en).GO args h k r w args' e1 an hfree ha
noncomputable def JR(T:MF P)(n:Nat)(e:bx P)(t ms:List Nat)(A:KF)(h:H)(k:AV->H->Option Unit):Option Unit:=
 jmp (Ok P (OT T.toTab (EO T.toTab n)) (ZP T (IB T n)) e.fn.ntmps) e.fn.ntmps e.js e.ls n t (xN e.fn) 1 ms A h (Ql P e.fn.ntmps e.fn.results k) (λ_ _ _=>none) (Ql P e.fn.ntmps e.fn.results k)
noncomputable def JRO(T:MF P)(n:Nat)(e:bx P)(t ms:List Nat)(A:KF)(h:H)(k:AV->H->Option Unit):Option Unit:=
 Dj (Ok P (OT T.toTab (EO T.toTab n)) (ZP T (IB T n)) e.fn.ntmps) e.fn.ntmps e.js e.ls n t (xN e.fn) 1 ms A h (Ql P e.fn.ntmps e.fn.results k) (λ_ _ _=>none) (Ql P e.fn.ntmps e.fn.results k)
theorem BH(T:MF P)(n:Nat)(e:bx P)(t ms:List Nat)(A:KF)(h:H)(k:AV->H->Option Unit):JR T n e t ms A h k=JRO T n e t ms A h k:=T5 t _ 1 ms A h _ _ _
noncomputable def Hf(T:MF P)(n:Nat)(f:FuncId)(args:List AV)(h:H)(k:AV->H->Option Unit):Option Unit:=
 match (V6 T.Pm f).isSome with
 | true=>IB T n f args h k
 | false=>(EO T.toTab n f args h).bind λq=>k q.1 q.2
theorem VD(hm:P.follows .mixedOrders=true)(T:MF P){n:Nat}{f:FuncId}(hf:(V6 T.Pm f).isSome=true){args:List AV}{objs:abO}
  (c:IB T n f args (HR objs) (λv _=>match v with | .bool true=>some () | _=>none)=some ()) {w:World} {args':Array Value}
  (h:∀x∈objs,∀t,x.1=some t->OR (rR objs) w t x.2/\t.blk<w.heap.size) (hro:∀x∈objs,x.2.ro=true) (hg:GL (rR objs)) (ha:kg (rR objs) args args'.toList):
  Calls P f args' w λe w'=>e=.returned (.bool true)/\Below w.heap.size w w':=by
 refine((K0 hm T n).GO f args _ _ (rR objs) w args' hf c (aAP h hro hg) (λi hi=>?_) ha).mono λe w' ⟨r',v,v',h',he,hv,hp,hk⟩=>⟨?_,⟨hp.env.1,hp.env.2.1,hp.env.2.2.1,hp.size,λb hb=>hp.keep b hb λi t o _ _ ho=>?_⟩⟩
 ·simp only[HR]at hi
  simp[rR,List.getElem?_eq_none hi]
 ·split at hk
  ·cases hv;exact he
  ·cases hk
 ·simp only[HR,Option.map_eq_some_iff]at ho
  obtain⟨x,hx,rfl⟩:=ho
  exact hro x (Hq hx)
end Go.Ev
set_option linter.unusedVariables false
namespace Go.Ev
open Go.Proofs Go.Shelf Go.RowKit
theorem JP{P:Program}{ops:Array Oper}{rest:List Oper}{o:Oper}{a:Act}{w w':World}{Q:Exit->Act->World->Prop}(hgd:o.guard=none)(sl x:Operand)(t u:TypeId)
  (ho:o.op=.call {callee:=.builtin .append,args:=#[sl,x],argTypes:=#[t,u]}) {v v':Value} {s:ByteArray} (hs:a.eval sl=v) (hx:a.eval x=.string s)
  (hr:(Builtin.append_ #[t,u] o.type #[v,.string s]).run P w=.ok v' w') (h:wpList P ops Q rest (a.put o.dst v') w'):wpList P ops Q (o::rest) a w:=by
 refine wpList_plain hgd λK hK=>?_
 unfold Oper.wp execOp
 simp only[ho,resolve,invoke,builtin,Sem.run_bind,Sem.run_pure,Result.andThen_ok,List.map_toArray,List.map_cons,List.map_nil,hs,hx,hr]
 exact hK _ _ h
variable {P:Program}{ρ:Shelf.Ren}
set_option maxHeartbeats 1000000 in
set_option maxRecDepth 100000 in
theorem OW(L:Lays.n240 P ρ)(X:Builder.X72 P ρ){T:TypeId}(hl:liesAt P P.depth T (2 / P.cellsOf T) 0 (ρ.t 72) 1=true)(b:Nat)(w:World)(h0:w.cell? ⟨b,0,none⟩=some (.pointer none))(hsh:w.shape? b=some (T,2))(hfz:w.frozen? ⟨b,0,none⟩=false):
  Calls P (ρ.f 240) #[.pointer (some ⟨b,0,none⟩)] w λe w'=>e=.returned (.tuple #[])/\w'=w.setCell ⟨b,0,none⟩ (.pointer (some ⟨b,0,none⟩)):=by
 obtain⟨j,hj,hjs⟩:=Option.map_eq_some_iff.1 X.sizeBuilder
 have mixed:=L.mixed
 have t72:=L.t72;have a72:=L.a72;have z72:=L.z72;have v72:=L.v72;have u72:=run_underlying L.t72
 have t70:=L.t70;have a70:=L.a70;have z70:=L.z70;have v70:=L.v70;have u70:=run_underlying L.t70
 have t9:=L.t9;have a9:=L.a9;have z9:=L.z9;have v9:=L.v9;have u9:=run_underlying L.t9
 have t4:=L.t4;have a4:=L.a4;have z4:=L.z4;have v4:=L.v4;have u4:=run_underlying L.t4
 have t164:=L.t164;have a164:=L.a164;have z164:=L.z164;have v164:=L.v164;have u164:=run_underlying L.t164
 go_enter L.f240,Body.n240_ntmps ρ
 go_wp2
 rw[Lib.run_to_unsafe w ⟨b,0,none⟩ L.t70 L.t164 hj (by rw[hjs];decide) hsh (Nat.zero_lt_succ 1)]
 simp only[Result.andThen]
 rw[Oper.upon_value]
 go_wp2
 rw[run_callFunc_extern L.f276 (by kernel_rfl) (by kernel_rfl) (by kernel_rfl) (e:=Extern.AbiNoEscape.same) (by kernel_rfl)]
 rw[Lib.run_noEscape]
 simp only[Result.andThen]
 rw[Oper.upon_value]
 go_wp2
 rw[Lib.run_from_unsafe w ⟨b,0,none⟩ L.t164 L.t70 hj hsh hl]
 simp only[Result.andThen]
 rw[Oper.upon_value]
 go_wp2
 go_end0
 exact⟨rfl,rfl⟩
def chk(b:Nat)(p:Value)(w:World):World:=match p with | .pointer none=>w.setCell ⟨b,0,none⟩ (.pointer (some ⟨b,0,none⟩)) | _=>w
theorem OV(L:Lays.n240 P ρ)(X:Builder.X72 P ρ){T:TypeId}(hl:liesAt P P.depth T (2 / P.cellsOf T) 0 (ρ.t 72) 1=true)(b:Nat)(w:World){p v:Value}(hb:w.heap[b]?=some (.cells #[p,v] T (0,0)))(hp:p=.pointer none∨p=.pointer (some ⟨b,0,none⟩)):
  Calls P (ρ.f 240) #[.pointer (some ⟨b,0,none⟩)] w λe w'=>e=.returned (.tuple #[])/\w'=chk b p w:=by
 have h0:w.cell? ⟨b,0,none⟩=some p:=by simp[World.cell?,hb]
 rcases hp with rfl | rfl
 ·exact OW L X hl b w h0 (by simp[World.shape?,hb]) (by simp[World.frozen?,hb])
 ·exact Any.Builder_copyCheck_used L X b w h0
set_option maxHeartbeats 2000000 in
set_option maxRecDepth 100000 in
theorem OC(L:Lays.n166 P ρ)(X:Builder.Extra P ρ){T:TypeId}(hl:liesAt P P.depth T (2 / P.cellsOf T) 0 (ρ.t 72) 1=true)(b:Nat)(w w2:World){p v v':Value}(hb:w.heap[b]?=some (.cells #[p,v] T (0,0)))(hp:p=.pointer none∨p=.pointer (some ⟨b,0,none⟩))(s:ByteArray)
  (hr:(Builtin.append_ #[ρ.t 37,ρ.t 9] (ρ.t 37) #[v,.string s]).run P (chk b p w)=.ok v' w2) (hb2:w2.heap[b]?=some (.cells #[.pointer (some ⟨b,0,none⟩),v] T (0,0))) (hv:∃a n c,v=.slice a n c) (hv':∃a n c,v'=.slice a n c):
  Calls P (ρ.f 166) #[.pointer (some ⟨b,0,none⟩),.string s] w λe w'=>e=.returned (.tuple #[.int .i64 s.size,.nilIface])/\w'=w2.setCell ⟨b,1,none⟩ v':=by
 obtain⟨i0,hi,hz0,hz1,hz2⟩:=info_parts X.infoByte
 have mixed:=L.mixed
 have t72:=L.t72;have a72:=L.a72;have z72:=L.z72;have v72:=L.v72;have u72:=run_underlying L.t72
 have t70:=L.t70;have a70:=L.a70;have z70:=L.z70;have v70:=L.v70;have u70:=run_underlying L.t70
 have t37:=L.t37;have a37:=L.a37;have z37:=L.z37;have v37:=L.v37;have u37:=run_underlying L.t37
 have t3:=L.t3;have a3:=L.a3;have z3:=L.z3;have v3:=L.v3;have u3:=run_underlying L.t3
 have t9:=L.t9;have a9:=L.a9;have z9:=L.z9;have v9:=L.v9;have u9:=run_underlying L.t9
 have t4:=L.t4;have a4:=L.a4;have z4:=L.z4;have v4:=L.v4;have u4:=run_underlying L.t4
 have t164:=L.t164;have a164:=L.a164;have z164:=L.z164;have v164:=L.v164;have u164:=run_underlying L.t164
 have t5:=X.t5;have a5:=X.a5;have z5:=X.z5;have v5:=X.v5;have u5:=run_underlying X.t5
 have e240:∀args w,(callFunc (ρ.f 240) args).run P w=.ok (.enter (ρ.f 240) args) w:=enters_of L.f240 (by kernel_rfl) rfl
 obtain⟨av,nv,cv,rfl⟩:=hv
 obtain⟨av',nv',cv',rfl⟩:=hv'
 go_enter L.f166,Body.n166_ntmps ρ
 go_wp2_with (go_at_fn (ρ.f 240);refine(OV {L with} X.toX72 hl b _ hb hp).mono ?_)
 rintro e w1 ⟨rfl,rfl⟩
 have hb1:(chk b p w).heap[b]?=some (.cells #[.pointer (some ⟨b,0,none⟩),.slice av nv cv] T (0,0)):=by
  rcases hp with rfl | rfl
  ·simp[chk,World.setCell,Array.getElem?_modify,hb]
  ·exact hb
 have c0:(chk b p w).cell? ⟨b,0,none⟩=some (.pointer (some ⟨b,0,none⟩)):=by simp[World.cell?,hb1]
 have c1:(chk b p w).cell? ⟨b,1,none⟩=some (.slice av nv cv):=by simp[World.cell?,hb1]
 have d0:w2.cell? ⟨b,0,none⟩=some (.pointer (some ⟨b,0,none⟩)):=by simp[World.cell?,hb2]
 have d1:w2.cell? ⟨b,1,none⟩=some (.slice av nv cv):=by simp[World.cell?,hb2]
 have f1:w2.frozen? ⟨b,1,none⟩=false:=by simp[World.frozen?,hb2]
 go_wp2_with (at_builtin;refine JP rfl _ _ (ρ.t 37) (ρ.t 9) rfl rfl rfl hr ?_)
 go_ret2
 exact⟨rfl,rfl⟩
set_option maxHeartbeats 2000000 in
set_option maxRecDepth 100000 in
theorem aba(L:Lays.n169 P ρ)(X:Builder.Extra P ρ)(b g cap:Nat)(p:Value)(T:TypeId)(cur:Array Value)(l:List UInt8)(w:World)(h0:l≠[])(hbk:w.heap[b]?=some (.cells #[p,.slice (some ⟨g,0,none⟩) l.length cap] T (0,0)))
  (hg:w.heap[g]?=some (.cells cur (ρ.t 5) (0,0))) (hlc:l.length<=cap) (hcs:l.length<=cur.size) (hm:l.length<=140737488355328) (hc:∀(j:Nat) x,l[j]?=some x->cur[j]?=some (.int .u8 x.toNat)):
  Calls P (ρ.f 169) #[.pointer (some ⟨b,0,none⟩)] w λe w'=>e=.returned (.string ⟨l.toArray⟩)/\w'.heap=(w.freeze ⟨g,0,none⟩ l.length).heap/\Env w w':=by
 have hl0:l.length≠0:=by simpa using h0
 have c1:w.drew.cell? ⟨b,1,none⟩=some (.slice (some ⟨g,0,none⟩) l.length cap):=by
  have:w.drew.heap[b]?=some (.cells #[p,.slice (some ⟨g,0,none⟩) l.length cap] T (0,0)):=hbk
  simp[World.cell?,this]
 have hSD:(Builtin.unsafeSliceData_ #[(ρ.t 37)] (ρ.t 127) #[.slice (some ⟨g,0,none⟩) l.length cap]).run P w.drew=.ok (.pointer (some ⟨g,0,none⟩)) w.drew:=
  Lib.run_unsafeSliceData_row _ _ _ _ _ _ (by omega)
 have hUS:(Builtin.unsafeString_ #[(ρ.t 127),(ρ.t 3)] (ρ.t 9) #[.pointer (some ⟨g,0,none⟩),.int .i64 l.length]).run P w.drew=.ok (.string ⟨l.toArray⟩) (w.drew.freeze ⟨g,0,none⟩ l.length):=by
  refine Lib.run_unsafeString_row w.drew (ρ.t 127) (ρ.t 3) (ρ.t 9) (ρ.t 5) L.t127 X.cellsByte g cur.size (by have hg':w.drew.heap[g]?=some (.cells cur (ρ.t 5) (0,0)):=hg;simp[World.shape?,hg']) l h0 (by omega) (by omega) ?_
  intro j x hx
  have hg':w.drew.heap[g]?=some (.cells cur (ρ.t 5) (0,0)):=hg
  rw[s3,Nat.zero_add]
  unfold World.cell?
  simp only[hg']
  exact hc j x hx
 have mixed:=L.mixed
 have t72:=L.t72;have a72:=L.a72;have z72:=L.z72;have v72:=L.v72;have u72:=run_underlying L.t72
 have t70:=L.t70;have a70:=L.a70;have z70:=L.z70;have v70:=L.v70;have u70:=run_underlying L.t70
 have t37:=L.t37;have a37:=L.a37;have z37:=L.z37;have v37:=L.v37;have u37:=run_underlying L.t37
 have t127:=L.t127;have a127:=L.a127;have z127:=L.z127;have v127:=L.v127;have u127:=run_underlying L.t127
 have t3:=L.t3;have a3:=L.a3;have z3:=L.z3;have v3:=L.v3;have u3:=run_underlying L.t3
 have t9:=L.t9;have a9:=L.a9;have z9:=L.z9;have v9:=L.v9;have u9:=run_underlying L.t9
 have t5:=X.t5;have a5:=X.a5;have z5:=X.z5;have v5:=X.v5;have u5:=run_underlying X.t5
 go_enter L.f169,Body.n169_ntmps ρ
 go_wp2
 go_region_o
 all_goals (go_wp2;go_ret;exact⟨rfl,by(unfold World.freeze;split<;>rfl),by(unfold World.freeze;split<;>exact⟨rfl,rfl,rfl,λ_=>dW _⟩)⟩)
end Go.Ev
