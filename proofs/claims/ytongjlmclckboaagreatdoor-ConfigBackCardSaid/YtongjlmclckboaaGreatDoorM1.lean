/- Own texts, joined: . -/
import Derived.WalkKit
set_option linter.all false
namespace Go.Ev
def TO:List (Nat×Nat):=[(0,0),(3,1)]
def atz:List Nat:=[57]
def aty:List Nat->Nat->Bool
 | [],_=>false
 | x::l,e=>match Nat.beq x e with | true=>true | false=>aty l e
def akM:Bool:=false
theorem br.{u}{α:Sort u}(a b:α):cond false a b=b:=rfl
theorem bM.{u}{α:Sort u}(a b:α):cond true a b=a:=rfl
theorem fD.{u,v}{α:Type u}{β:Type v}(a:α)(f:α->Option β):(some a).bind f=f a:=rfl
theorem sS.{u}{α:Type u}{l:List α}{i:Nat}{a:α}(h:l[i]?=some a):∃h:i<l.length,l[i]=a:=List.getElem?_eq_some_iff.1 h
theorem hU.{u}{α:Type u}{a b:List α}:(a++b).length=a.length+b.length:=List.length_append
theorem Lf.{u}{α:Type u}{a:α}:[a].length=1:=rfl
theorem cF(n:Nat):n<=n:=Nat.le_refl n
theorem dW(n:Nat):n<=n+1:=Nat.le_succ n
theorem Hq.{u}{α:Type u}{l:List α}{i:Nat}{a:α}(h:l[i]?=some a):a∈l:=List.mem_of_getElem? h
theorem qb{a b c:Nat}(h:a<=b)(k:b<=c):a<=c:=Nat.le_trans h k
theorem uQ(n:Nat):0<=n:=Nat.zero_le n
theorem oh.{u}{α:Type u}{a b:α}(h:some a=some b):a=b:=Option.some.inj h
theorem Ep{a b c:Nat}(h:a<b)(k:b<=c):a<c:=Nat.lt_of_lt_of_le h k
structure D4 where
 blk:Nat
 base:Nat
 row:Nat
inductive aM where
 | known (c:Nat)
 | rest (size:Nat)
inductive AV where
 | fJ
 | bool (b:Bool)
 | int (k:IntKind) (n:Int)
 | str (s:ByteArray)
 | ptr (p:Option (Nat×Nat))
 | slice (p:Option (Nat×Nat)) (len:Nat) (cap:aM)
 | map (m:Option Nat)
 | func (f:FuncId) (first caps:List AV)
 | nilFunc
 | agg (cs:List AV)
 | dJ (vs:List AV)
instance:Inhabited AV:=⟨.fJ⟩
abbrev Ren:=Nat->Option D4
inductive VR(r:Ren):AV->Value->Prop
 | fJ (v:Value):VR r .fJ v
 | bool (b:Bool):VR r (.bool b) (.bool b)
 | int (k:IntKind) (n:Int):VR r (.int k n) (.int k n)
 | str (s:ByteArray):VR r (.str s) (.string s)
 | nil:VR r (.ptr none) (.pointer none)
 | ptr {i o:Nat} {t:D4} (h:r i=some t):VR r (.ptr (some (i,o))) (.pointer (some ⟨t.blk,t.base+o,none⟩))
 | Jq:VR r (.slice none 0 (.known 0)) (.slice none 0 0)
 | slice {i o:Nat} {t:D4} (len c:Nat) (h:r i=some t):VR r (.slice (some (i,o)) len (.known c)) (.slice (some ⟨t.blk,t.base+o,none⟩) len c)
 | ec {i o:Nat} {t:D4} (len size cap:Nat) (h:r i=some t) (hc:t.base+o+cap*size=t.row) (hl:len<=cap):
   VR r (.slice (some (i,o)) len (.rest size)) (.slice (some ⟨t.blk,t.base+o,none⟩) len cap)
 | lC {i o:Nat} (a:Addr):VR r (.slice (some (i,o)) 0 (.known 0)) (.slice (some a) 0 0)
 | gF {i o:Nat} {t:D4} (a:Addr) (size:Nat) (h:r i=some t):VR r (.slice (some (i,o)) 0 (.rest size)) (.slice (some a) 0 0)
 | Dt:VR r (.map none) (.map none)
 | map {i:Nat} {t:D4} (h:r i=some t):VR r (.map (some i)) (.map (some t.blk))
 | func (f:FuncId) (first caps:List AV) (first' BL:Array Value) (h1:first.length=first'.size) (h2:caps.length=BL.size)
   (h3:∀(i:Nat) (a:AV) (v:Value),first[i]?=some a->first'[i]?=some v->VR r a v) (h4:∀(i:Nat) (a:AV) (v:Value),caps[i]?=some a->BL[i]?=some v->VR r a v):
   VR r (.func f first caps) (.func (.func f) first' BL)
 | nilFunc:VR r .nilFunc .nilFunc
 | agg (cs:List AV) (vs:Array Value) (h1:cs.length=vs.size) (h2:∀(i:Nat) (a:AV) (v:Value),cs[i]?=some a->vs[i]?=some v->VR r a v):VR r (.agg cs) (.agg vs)
 | dJ (cs:List AV) (vs:Array Value) (h1:cs.length=vs.size) (h2:∀(i:Nat) (a:AV) (v:Value),cs[i]?=some a->vs[i]?=some v->VR r a v):VR r (.dJ cs) (.tuple vs)
def Ren.le(r r':Ren):Prop:=∀i t,r i=some t->r' i=some t
theorem Ren.le_refl(r:Ren):r.le r:=λ_ _ h=>h
theorem Ren.le_trans{r r' r'':Ren}(h:r.le r')(h':r'.le r''):r.le r'':=λi t e=>h' i t (h i t e)
theorem VR.mono{r r':Ren}(hr:r.le r'){a:AV}{v:Value}(h:VR r a v):VR r' a v:=by
 induction h with
 | fJ v=>exact .fJ v
 | bool b=>exact .bool b
 | int k n=>exact .int k n
 | str s=>exact .str s
 | nil=>exact .nil
 | ptr h=>exact .ptr (hr _ _ h)
 | Jq=>exact .Jq
 | slice len c h=>exact .slice len c (hr _ _ h)
 | ec len size cap h hc hl=>exact .ec len size cap (hr _ _ h) hc hl
 | lC a=>exact .lC a
 | gF a size h=>exact .gF a size (hr _ _ h)
 | Dt=>exact .Dt
 | map h=>exact .map (hr _ _ h)
 | func f first caps first' BL h1 h2 _ _ ih3 ih4=>exact .func f first caps first' BL h1 h2 ih3 ih4
 | nilFunc=>exact .nilFunc
 | agg cs vs h1 _ ih=>exact .agg cs vs h1 ih
 | dJ cs vs h1 _ ih=>exact .dJ cs vs h1 ih
def kg(r:Ren)(as:List AV)(vs:List Value):Prop:=as.length=vs.length/\∀(i:Nat) (a:AV) (v:Value),as[i]?=some a->vs[i]?=some v->VR r a v
theorem kg.mono{r r':Ren}(hr:r.le r'){as:List AV}{vs:List Value}(h:kg r as vs):kg r' as vs:=
 ⟨h.1,λi a v h1 h2=>(h.2 i a v h1 h2).mono hr⟩
theorem kg.nil{r:Ren}:kg r [] []:=⟨rfl,λi a v h=>by simp at h⟩
theorem kg.cons{r:Ren}{a:AV}{v:Value}{as:List AV}{vs:List Value}(h:VR r a v)(hs:kg r as vs):kg r (a::as) (v::vs):=by
 refine⟨by simp[hs.1],λi a' v' h1 h2=>?_⟩
 cases i with
 | zero=>simp at h1 h2;subst h1;subst h2;exact h
 | succ i=>simp at h1 h2;exact hs.2 i a' v' h1 h2
theorem kg.jL{r:Ren}{a:AV}{as:List AV}{vs:List Value}(h:kg r (a::as) vs):∃v vs',vs=v::vs'/\VR r a v/\kg r as vs':=by
 cases vs with
 | nil=>have:=h.1;simp at this
 | cons v vs'=>exact⟨v,vs',rfl,h.2 0 a v rfl rfl,by have:=h.1;simpa using this,λi a' v' h1 h2=>h.2 (i+1) a' v' (by simpa using h1) (by simpa using h2)⟩
theorem kg.append{r:Ren}{as bs:List AV}{vs us:List Value}(h:kg r as vs)(h':kg r bs us):kg r (as++bs) (vs++us):=by
 refine⟨by simp[h.1,h'.1],λi a v h1 h2=>?_⟩
 rcases Nat.lt_or_ge i as.length with hi | hi
 ·rw[List.getElem?_append_left hi]at h1
  rw[List.getElem?_append_left (h.1▸hi)]at h2
  exact h.2 i a v h1 h2
 ·rw[List.getElem?_append_right hi]at h1
  rw[List.getElem?_append_right (h.1▸hi),<-h.1]at h2
  exact h'.2 _ a v h1 h2
theorem kg.drop{r:Ren}{as:List AV}{vs:List Value}(h:kg r as vs)(n:Nat):kg r (as.drop n) (vs.drop n):=
 ⟨by simp[h.1],λi a v h1 h2=>h.2 (n+i) a v (by simpa using h1) (by simpa using h2)⟩
theorem kg.take{r:Ren}{as:List AV}{vs:List Value}(h:kg r as vs)(n:Nat):kg r (as.take n) (vs.take n):=by
 refine⟨by simp[h.1],λi a v h1 h2=>?_⟩
 rw[List.getElem?_take]at h1 h2
 split at h1
 ·rename_i hi;rw[if_pos hi]at h2;exact h.2 i a v h1 h2
 ·cases h1
theorem kg.set{r:Ren}{as:List AV}{vs:List Value}(h:kg r as vs)(n:Nat){a:AV}{v:Value}(hv:VR r a v):kg r (as.set n a) (vs.set n v):=by
 refine⟨by simp[h.1],λi a' v' h1 h2=>?_⟩
 rw[List.getElem?_set]at h1 h2
 split at h1
 ·rename_i hi
  rw[if_pos hi]at h2
  subst hi
  split at h1
  ·rename_i hl;rw[h.1]at hl;rw[if_pos hl]at h2;cases h1;cases h2;exact hv
  ·cases h1
 ·rename_i hi;rw[if_neg hi]at h2;exact h.2 i a' v' h1 h2
theorem kg.map{r:Ren}{α:Type}(l:List α)(f:α->AV)(g:α->Value)(h:∀x∈l,VR r (f x) (g x)):kg r (l.map f) (l.map g):=by
 refine⟨by simp,λi a v h1 h2=>?_⟩
 rw[List.getElem?_map]at h1 h2
 cases hl:l[i]? with
 | none=>simp[hl]at h1
 | some x=>simp[hl]at h1 h2;subst h1;subst h2;exact h x (Hq hl)
inductive cK where
 | cells (cs:List AV) (ro:Bool)
 | map (es:List (AV×AV×Nat)) (eO:Nat)
 | aeN (es:List (AV×AV×Nat)) (eO:Nat)
 | hid
 | tc (e:TypeId) (cs:List AV) (ex:Bool)
 | AI (m:Option Nat) (since:Nat) (seen:List Nat) (last:Nat)
 | tE (s:ByteArray) (pos:Nat)
 | Xv (cs:List AV)
def cK.ro:cK->Bool
 | .cells _ ro=>ro
 | .aeN _ _=>true
 | .hid=>true
 | .Xv _=>true
 | _=>false
structure H where
 next:Nat
 get:Nat->Option cK
def H.set(h:H)(i:Nat)(o:cK):H:=⟨h.next,λj=>if j=i then some o else h.get j⟩
def H.new(h:H)(o:cK):H:=⟨h.next+1,λj=>if j=h.next then some o else h.get j⟩
def H.kill(h:H)(i:Nat):H:=⟨h.next,λj=>if j=i then none else h.get j⟩
def bZ:AV->AV->Option Bool
 | .int k a,.int k' b=>if k=k' then some (a==b)else none
 | .str a,.str b=>some (a==b)
 | .bool a,.bool b=>some (a==b)
 | _,_=>none
def eK(r:Ren)(es:List (AV×AV×Nat))(E:List MapEntry):Prop:=
 ∃E':List MapEntry,E'.Perm E/\es.length=E'.length/\∀(i:Nat) (x:AV×AV×Nat) (e:MapEntry),es[i]?=some x->E'[i]?=some e->VR r x.1 e.key/\VR r x.2.1 e.val/\x.2.2=e.born
def OR(r:Ren)(w:World)(t:D4):cK->Prop
 | .cells cs ro=>∃C e fz,w.heap[t.blk]?=some (.cells C e fz)/\t.row<=C.size/\t.base+cs.length<=t.row/\
   (∀(i:Nat) (a:AV) (v:Value),cs[i]?=some a->C[t.base+i]?=some v->VR r a v)/\(ro=false->∀off,off<C.size->¬(fz.1<=off/\off<fz.2))
 | .map es eO=>∃E,w.heap[t.blk]?=some (.map E eO)/\eK r es E.toList/\es.Pairwise λa b=>bZ a.1 b.1=some false
 | .aeN es eO=>∃E,w.heap[t.blk]?=some (.map E eO)/\eK r es E.toList/\es.Pairwise λa b=>bZ a.1 b.1=some false
 | .hid=>True
 | .tc e cs ex=>∃C,w.heap[t.blk]?=some (.cells C e (0,0))/\t.base=0/\t.row=C.size/\cs.length<=C.size/\(ex=true->C.size=cs.length)/\(ex=false->C.size<=9223372036854775807)/\∀(i:Nat) (a:AV) (v:Value),cs[i]?=some a->C[i]?=some v->VR r a v
 | .AI m since seen last=>∃m',w.heap[t.blk]?=some (.mapIter m' since seen.toArray last)/\t.base=0/\VR r (.map m) (.map m')
 | .tE s p=>w.heap[t.blk]?=some (.stringIter s p)/\t.base=0
 | .Xv cs=>∃C e fz,w.heap[t.blk]?=some (.cells C e fz)/\t.base=0/\C.size=cs.length/\∀(i:Nat) (a:AV) (v:Value),cs[i]?=some a->C[i]?=some v->VR r a v
def Kc:List (Nat×Nat)->Nat->Option Nat
 | [],_=>none
 | (a,i)::l,g=>match Nat.beq a g with | true=>some i | false=>Kc l g
def glV(g:Nat):AV:=match Kc TO g with | some i=>.ptr (some (i,0)) | none=>.fJ
def GL(r:Ren):Prop:=∀g i,Kc TO g=some i->∃row,r i=some ⟨g,0,row⟩
theorem GL.mono{r r':Ren}(hr:r.le r')(h:GL r):GL r':=λg i e=>(h g i e).imp λ_ h=>hr _ _ h
theorem GL.vr{r:Ren}(h:GL r)(g:Nat):VR r (glV g) (.pointer (some ⟨g,0,none⟩)):=by
 unfold glV
 split
 ·rename_i i e
  obtain⟨row,hr⟩:=h g i e
  exact .ptr (o:=0) hr
 ·exact .fJ _
structure Rel(r:Ren)(h:H)(w:World):Prop where
 wf:∀i o,h.get i=some o->i<h.next
 obj:∀i t o,r i=some t->h.get i=some o->OR r w t o
 inj:∀i j ti tj oi oj,r i=some ti->r j=some tj->h.get i=some oi->h.get j=some oj->ti.blk=tj.blk->i=j∨(oi.ro=true/\oj.ro=true)
 bound:∀i t,r i=some t->t.blk<w.heap.size
 rH:GL r
def ajR(r:Ren)(h:H)(w w':World):Prop:=
 ∀b,b<w.heap.size->(∀i t o,r i=some t->t.blk=b->h.get i=some o->o.ro=true)->w'.heap[b]?=w.heap[b]?
def Env(w w':World):Prop:=w'.os=w.os/\w'.tape=w.tape/\w'.output=w.output/\(akM=true->w.drawn<=w'.drawn)
theorem Env.refl(w:World):Env w w:=⟨rfl,rfl,rfl,λ_=>cF _⟩
theorem Env.trans{a b c:World}(h:Env a b)(k:Env b c):Env a c:=⟨k.1.trans h.1,k.2.1.trans h.2.1,k.2.2.1.trans h.2.2.1,λe=>qb (h.2.2.2 e) (k.2.2.2 e)⟩
structure Post(r:Ren)(h:H)(w:World)(r':Ren)(h':H)(w':World):Prop where
 le:r.le r'
 dom:∀i t,r' i=some t->r i=none->h.next<=i/\i<h'.next
 rel:Rel r' h' w'
 keep:ajR r h w w'
 env:Env w w'
 size:w.heap.size<=w'.heap.size
 next:h.next<=h'.next
 fresh:∀i t,r i=none->r' i=some t->w.heap.size<=t.blk∨∃j tj o,r j=some tj/\tj.blk=t.blk/\h.get j=some o/\o.ro=false
 pq:∀i o,i<h.next->h'.get i=some o->∃o',h.get i=some o'/\o'.ro=o.ro
 Sg:∀i t,r i=some t->i<h.next∨h'.next<=i
 oD:∀i,i<h.next->h'.get i≠h.get i->∃t,r i=some t
theorem eK.mono{r r':Ren}(hr:r.le r'){es:List (AV×AV×Nat)}{E:List MapEntry}(h:eK r es E):eK r' es E:=by
 obtain⟨E',h1,h2,h3⟩:=h
 exact⟨E',h1,h2,λi x e hx he=>⟨(h3 i x e hx he).1.mono hr,(h3 i x e hx he).2.1.mono hr,(h3 i x e hx he).2.2⟩⟩
theorem OR.move{r r':Ren}{w w':World}{t:D4}{o:cK}(hr:r.le r')(hw:w'.heap[t.blk]?=w.heap[t.blk]?)(h:OR r w t o):OR r' w' t o:=by
 cases o with
 | cells cs ro=>
  obtain⟨C,e,fz,h1,h2,h3,h4,h5⟩:=h
  exact⟨C,e,fz,hw▸h1,h2,h3,λi a v ha hv=>(h4 i a v ha hv).mono hr,h5⟩
 | map es eO=>
  obtain⟨E,h1,h2,h3⟩:=h
  exact⟨E,hw▸h1,h2.mono hr,h3⟩
 | aeN es eO=>
  obtain⟨E,h1,h2,h3⟩:=h
  exact⟨E,hw▸h1,h2.mono hr,h3⟩
 | hid=>exact trivial
 | tc e cs ex=>
  obtain⟨C,h1,h2,h3,h4,h5,h7,h6⟩:=h
  exact⟨C,hw▸h1,h2,h3,h4,h5,h7,λi a v ha hv=>(h6 i a v ha hv).mono hr⟩
 | AI m since seen last=>
  obtain⟨m',h1,h2,h3⟩:=h
  exact⟨m',hw▸h1,h2,h3.mono hr⟩
 | tE s p=>exact⟨hw▸h.1,h.2⟩
 | Xv cs=>
  obtain⟨C,e,fz,h1,h2,h3,h4⟩:=h
  exact⟨C,e,fz,hw▸h1,h2,h3,λi a v ha hv=>(h4 i a v ha hv).mono hr⟩
theorem Post.refl{r:Ren}{h:H}{w:World}(an:Rel r h w):Post r h w r h w where
 le:=r.le_refl
 dom:=λi t h1 h2=>by rw[h1]at h2;cases h2
 rel:=an
 keep:=λ_ _ _=>rfl
 env:=.refl w
 size:=cF _
 next:=cF _
 fresh:=λi t h1 h2=>by rw[h1]at h2;cases h2
 pq:=λi o _ h=>⟨o,h,rfl⟩
 Sg:=λi t _=>by omega
 oD:=λi _ h=>absurd rfl h
theorem Post.same{r:Ren}{h:H}{w w':World}(an:Rel r h w)(hw:w'.heap=w.heap)(yH:Env w w'):Post r h w r h w' where
 env:=yH
 le:=r.le_refl
 dom:=λi t h1 h2=>by rw[h1]at h2;cases h2
 rel:=⟨an.wf,λi t o h1 h2=>(an.obj i t o h1 h2).move r.le_refl (by rw[hw]),an.inj,λi t h=>by rw[hw];exact an.bound i t h,an.rH⟩
 keep:=λ_ _ _=>by rw[hw]
 size:=by rw[hw];exact cF _
 next:=cF _
 fresh:=λi t h1 h2=>by rw[h1]at h2;cases h2
 pq:=λi o _ h=>⟨o,h,rfl⟩
 Sg:=λi t _=>by omega
 oD:=λi _ h=>absurd rfl h
theorem Post.trans{r r' r'':Ren}{h h' h'':H}{w w' w'':World}(p:Post r h w r' h' w')(q:Post r' h' w' r'' h'' w''):Post r h w r'' h'' w'' where
 le:=Ren.le_trans p.le q.le
 dom:=λi t h1 h2=>by
  cases hr:r' i with
  | none=>have:=q.dom i t h1 hr;exact⟨qb p.next this.1,this.2⟩
  | some t'=>have:=p.dom i t' hr h2;exact⟨this.1,Ep this.2 q.next⟩
 rel:=q.rel
 env:=p.env.trans q.env
 keep:=λb hb hk=>by
  rw[q.keep b (Ep hb p.size) ?_,p.keep b hb hk]
  intro i t o h1 h2 h3
  cases hr:r i with
  | none=>
   rcases p.fresh i t hr h1 with hf | ⟨j,tj,oj,hj,hbj,kY,arI⟩
   ·omega
   ·have:=hk j tj oj hj (hbj.trans h2) kY;rw[this]at arI;cases arI
  | some t'=>
   have he:=p.le i t' hr
   rw[h1]at he;cases he
   by_cases hlt:i<h.next
   ·obtain⟨o',ho',hro⟩:=p.pq i o hlt h3
    rw[<-hro];exact hk i _ o' hr h2 ho'
   ·have h5:=p.rel.wf i o h3
    rcases p.Sg i _ hr with h4 | h4<;>omega
 size:=qb p.size q.size
 next:=qb p.next q.next
 fresh:=λi t h1 h2=>by
  cases hr:r' i with
  | none=>
   rcases q.fresh i t hr h2 with hf | ⟨j,tj,o,hj,hb,ho,hro⟩
   ·exact .inl (qb p.size hf)
   ·cases hrj:r j with
    | none=>
     rcases p.fresh j tj hrj hj with hf' | ⟨j2,tj2,o2,Me,K7,h23,U9⟩
     ·exact .inl (hb▸hf')
     ·exact .inr ⟨j2,tj2,o2,Me,K7.trans hb,h23,U9⟩
    | some tj'=>
     have he:=p.le j tj' hrj
     rw[hj]at he;cases he
     have hlt:j<h.next:=by
      have h5:=p.rel.wf j o ho
      rcases p.Sg j _ hrj with h4 | h4<;>omega
     obtain⟨o',ho',aaj⟩:=p.pq j o hlt ho
     exact .inr ⟨j,_,o',hrj,hb,ho',aaj.trans hro⟩
  | some t'=>
   have:=q.le i t' hr
   rw[this]at h2;cases h2
   exact p.fresh i t h1 hr
 pq:=λi o hi ho=>by
  obtain⟨o',ho',hro⟩:=q.pq i o (Ep hi p.next) ho
  obtain⟨o'',ax2,aaj⟩:=p.pq i o' hi ho'
  exact⟨o'',ax2,aaj.trans hro⟩
 Sg:=λi t hi=>by
  have h1:=p.Sg i t hi
  have h2:=q.Sg i t (p.le i t hi)
  have:=p.next;have:=q.next
  omega
 oD:=λi hi hne=>by
  by_cases e:h'.get i=h.get i
  ·obtain⟨t,ht⟩:=q.oD i (Ep hi p.next) (by rw[e];exact hne)
   cases hr:r i with
   | none=>have:=p.dom i t ht hr;omega
   | some t'=>exact⟨t',rfl⟩
  ·exact p.oD i hi e
def aeR:Value->AV
 | .bool b=>.bool b
 | .int k n=>.int k n
 | .string s=>.str s
 | .pointer none=>.ptr none
 | .slice none 0 0=>.slice none 0 (.known 0)
 | .map none=>.map none
 | .nilFunc=>.nilFunc
 | _=>.fJ
def ofValue:Value->AV
 | .agg cs=>.agg (cs.toList.map aeR)
 | v=>aeR v
theorem QE(r:Ren)(v:Value):VR r (aeR v) v:=by
 unfold aeR
 split<;>first | constructor
theorem Cy(r:Ren)(v:Value):VR r (ofValue v) v:=by
 unfold ofValue
 split
 ·rename_i cs
  refine .agg _ _ (by simp) λi a v h1 h2=>?_
  rw[List.getElem?_map]at h1
  rw[<-Array.getElem?_toList]at h2
  rw[h2]at h1
  simp at h1
  subst h1
  exact QE r v
 ·exact QE r _
def oW(fr:List AV):Operand->AV
 | .tmp t=>fr.getD t .fJ
 | .const v=>ofValue v
 | .global g=>glV g
 | .func f=>.func f [] []
def FR(r:Ren)(fr:List AV)(a:Act):Prop:=kg r fr a.tmps.toList
theorem Dw{r:Ren}{fr:List AV}{a:Act}(h:FR r fr a)(hg:GL r)(x:Operand):VR r (oW fr x) (a.eval x):=by
 cases x with
 | tmp t=>
  simp only[oW,Act.eval]
  cases hf:fr[t]? with
  | none=>rw[List.getD_eq_getElem?_getD,hf];exact .fJ _
  | some av=>
   have hl:t<a.tmps.toList.length:=by rw[<-h.1];exact(sS hf).1
   have h2:a.tmps.toList[t]?=some a.tmps.toList[t]:=List.getElem?_eq_getElem hl
   have:=h.2 t av _ hf h2
   rw[List.getD_eq_getElem?_getD,hf]
   rw[Array.getD_eq_getD_getElem?,<-Array.getElem?_toList,h2]
   exact this
 | const v=>exact Cy r v
 | global g=>exact hg.vr g
 | func f=>exact .func f [] [] #[] #[] rfl rfl (λi a v h=>by simp at h) (λi a v h=>by simp at h)
theorem FR.put{r:Ren}{fr:List AV}{a:Act}(h:FR r fr a)(d:Option Tmp){x:AV}{v:Value}(hv:VR r x v):
  FR r (match d with | some d=>fr.set d x | none=>fr) (a.put d v):=by
 cases d with
 | none=>exact h
 | some d=>
  have:=kg.set h d hv
  simpa[FR,Act.put]using this
def TH(op:BinOp)(k:IntKind)(a b:Int):Option AV:=
 match op with
 | .add=>some (.int k (k.wrap (a+b)))
 | .sub=>some (.int k (k.wrap (a - b)))
 | .mul=>some (.int k (k.wrap (a*b)))
 | .quo=>if b=0 then none else some (.int k (k.wrap (a.tdiv b)))
 | .rem=>if b=0 then none else some (.int k (a.tmod b))
 | .and=>some (.int k (k.wrap (BitVec.ofInt k.bits a &&& BitVec.ofInt k.bits b).toNat))
 | .or=>some (.int k (k.wrap (BitVec.ofInt k.bits a ||| BitVec.ofInt k.bits b).toNat))
 | .xor=>some (.int k (k.wrap (BitVec.ofInt k.bits a ^^^ BitVec.ofInt k.bits b).toNat))
 | .andNot=>some (.int k (k.wrap (BitVec.ofInt k.bits a &&& ~~~ BitVec.ofInt k.bits b).toNat))
 | .eql=>some (.bool (a==b))
 | .neq=>some (.bool (a != b))
 | .lss=>some (.bool (a<b))
 | .leq=>some (.bool (a<=b))
 | .gtr=>some (.bool (a>b))
 | .geq=>some (.bool (a>=b))
 | .shl=>none
 | .shr=>none
def Yb(op:BinOp)(a b:ByteArray):Option AV:=
 match op with
 | .add=>if((a.size+b.size:Nat):Int)>9223372036854775807 then none else some (.str (a++b))
 | .eql=>some (.bool (a.toList==b.toList))
 | .neq=>some (.bool (!(a.toList==b.toList)))
 | .lss=>some (.bool (Op.bytesLess a.toList b.toList))
 | .leq=>some (.bool (Op.bytesLess a.toList b.toList||a.toList==b.toList))
 | .gtr=>some (.bool (!(Op.bytesLess a.toList b.toList||a.toList==b.toList)))
 | .geq=>some (.bool (!(Op.bytesLess a.toList b.toList)))
 | _=>none
def Hh(op:BinOp)(x y:AV):Option AV:=
 match x,y with
 | .int k a,.int k' b=>
  match op with
  | .shl=>if b<0 then none else some (.int k (k.wrap (a*2 ^ min b.toNat k.bits)))
  | .shr=>if b<0 then none else some (.int k (a.fdiv (2 ^ min b.toNat k.bits)))
  | op=>if k=k' then TH op k a b else none
 | .str a,.str b=>Yb op a b
 | _,_=>none
theorem ZV{P:Program}{r:Ren}{op:BinOp}{t:TypeId}{x y v:AV}{x' y':Value}(h:Hh op x y=some v)(hx:VR r x x')(hy:VR r y y')(ox oy:Operand):
    ∃v',VR r v v'/\∀w,((do eqGuard op t ox oy x' y';binOp op t x' y'):Sem Value).run P w=.ok v' w:=by
  unfold Hh at h
  split at h
  · rename_i k a k' b
    cases hx
    cases hy
    have hg:∀w,(eqGuard op t ox oy (.int k a) (.int k' b)).run P w=.ok () w:=by intro w;unfold eqGuard;split<;>rfl
    split at h
    · split at h
      · cases h
      · rename_i hb
        cases h
        exact⟨_,.int _ _,λw=>by simp[hg,binOp,Op.shift,hb]⟩
    · split at h
      · cases h
      · rename_i hb
        cases h
        exact⟨_,.int _ _,λw=>by simp[hg,binOp,Op.shift,hb]⟩
    · rename_i hs1 hs2
      split at h
      · rename_i hk
        subst hk
        cases op<;>simp only[TH]at h<;>first
          | exact absurd rfl hs1
          | exact absurd rfl hs2
          | (cases h;first
              | exact⟨_,.int _ _,λw=>by simp[hg,binOp,Op.intArith,Op.intBits]⟩
              | exact⟨_,.bool _,λw=>by simp[hg,binOp,Op.intCmp]⟩)
          | (split at h
             · cases h
             · rename_i hb;cases h;exact⟨_,.int _ _,λw=>by simp[hg,binOp,Op.intDiv,hb]⟩)
      · cases h
  · rename_i a b
    cases hx
    cases hy
    have hg:∀w,(eqGuard op t ox oy (.string a) (.string b)).run P w=.ok () w:=by intro w;unfold eqGuard;split<;>rfl
    cases op<;>simp only[Yb]at h<;>first
      | (cases h;done)
      | (cases h;exact⟨_,.bool _,λw=>by simp[hg,binOp,Op.stringOp]⟩)
      | (split at h
         · cases h
         · rename_i hb
           cases h
           refine⟨_,.str _,λw=>?_⟩
           have hb':¬(((a.size+b.size:Nat):Int)>IntKind.i64.max):=hb
           simp only[Sem.run_bind,hg,Result.andThen_ok,binOp,Op.stringOp]
           rw[if_neg hb'];rfl)
  · cases h
def Vo:TypeDesc->Bool
 | .struct _=>true
 | .array _ _=>true
 | _=>false
def tW(P:Program)(t:TypeId)(cs:List AV)(off:Nat):Option AV:=
 match P.underlying t with
 | none=>none
 | some d=>if Vo d then(if(P.info? t).isSome then some (.agg ((cs.drop off).take (P.cellsOf t)))else none)else cs[off]?
theorem GM{P:Program}{t:TypeId}{d:TypeDesc}(h:P.underlying t=some d)(w:World):(isAgg t).run P w=.ok (Vo d) w:=by
 unfold isAgg
 simp only[Sem.run_bind,run_underlying h,Result.andThen_ok]
 cases d<;>rfl
theorem Vm{r:Ren}{cs:List AV}{vs:Array Value}(h1:cs.length=vs.size)(h2:∀(i:Nat) (a:AV) (v:Value),cs[i]?=some a->vs[i]?=some v->VR r a v)(off n:Nat):
  VR r (.agg ((cs.drop off).take n)) (.agg (vs.extract off (off+n))):=by
 refine .agg _ _ (by simp[h1];omega) λi a v ha hv=>?_
 rw[Array.getElem?_extract]at hv
 rw[List.getElem?_take]at ha
 split at ha
 ·rw[List.getElem?_drop]at ha
  split at hv
  ·exact h2 _ a v ha hv
  ·cases hv
 ·cases ha
theorem wv{P:Program}{r:Ren}{t:TypeId}{cs:List AV}{off:Nat}{v:AV}{vs:Array Value}(h:tW P t cs off=some v)
  (h1:cs.length=vs.size) (h2:∀(i:Nat) (a:AV) (v:Value),cs[i]?=some a->vs[i]?=some v->VR r a v):
  ∃v',VR r v v'/\∀w,(part t vs off).run P w=.ok v' w:=by
 unfold tW at h
 split at h
 ·cases h
 ·rename_i d hu
  split at h
  ·rename_i ha
   split at h
   ·rename_i hi
    cases h
    obtain⟨i,hi⟩:=Option.isSome_iff_exists.1 hi
    exact⟨_,Vm h1 h2 off (P.cellsOf t),λw=>by simp[part,GM hu,ha,run_sizeOf w hi]⟩
   ·cases h
  ·rename_i ha
   have hlt:off<vs.size:=by rw[<-h1];exact(sS h).1
   have hv:vs[off]?=some vs[off]:=Array.getElem?_eq_getElem hlt
   exact⟨vs[off],h2 off v _ h hv,λw=>by simp[part,GM hu,ha,hv]⟩
def xh(P:Program)(eq:TypeId->AV->AV->Option Bool)(xs ys:List AV):List Field->Option Bool
 | []=>some true
 | f::fs=>
  if f.name ≠ "_" then
   match tW P f.type xs f.offset,tW P f.type ys f.offset with
   | some a,some b=>(eq f.type a b).bind λr=>if r then xh P eq xs ys fs else some false
   | _,_=>none
  else xh P eq xs ys fs
def Da(P:Program)(eq:TypeId->AV->AV->Option Bool)(e:TypeId)(c:Nat)(xs ys:List AV):List Nat->Option Bool
 | []=>some true
 | i::is=>
  match tW P e xs (i*c),tW P e ys (i*c)with
  | some a,some b=>(eq e a b).bind λr=>if r then Da P eq e c xs ys is else some false
  | _,_=>none
def IU(P:Program):Nat->TypeId->AV->AV->Option Bool
 | 0=>λ_ _ _=>none
 | d+1=>λt x y=>
  match P.underlying t with
  | some .bool=>match x,y with | .bool a,.bool b=>some (a==b) | _,_=>none
  | some (.int _)=>match x,y with | .int k a,.int k' b=>if k=k' then some (a==b)else none | _,_=>none
  | some .string=>match x,y with | .str a,.str b=>some (a.toList==b.toList) | _,_=>none
  | some (.pointer _)=>match x,y with | .ptr none,.ptr b=>some b.isNone | .ptr (some _),.ptr none=>some false | _,_=>none
  | some (.slice _)=>match x,y with | .slice none _ _,.slice b _ _=>some b.isNone | .slice (some _) _ _,.slice none _ _=>some false | _,_=>none
  | some (.map _ _)=>match x,y with | .map none,.map b=>some b.isNone | .map (some _),.map none=>some false | _,_=>none
  | some (.func _ _ _)=>match x,y with | .nilFunc,.nilFunc=>some true | .nilFunc,.func _ _ _=>some false | .func _ _ _,.nilFunc=>some false | _,_=>none
  | some (.struct fs)=>match x,y with | .agg xs,.agg ys=>if P.stoodInHeld t then none else xh P (IU P d) xs ys fs.toList | _,_=>none
  | some (.array n e)=>match x,y with | .agg xs,.agg ys=>if(P.info? e).isSome then Da P (IU P d) e (P.cellsOf e) xs ys (List.range n)else none | _,_=>none
  | _=>none
theorem C7{P:Program}{r:Ren}{d:Nat}{eq:TypeId->AV->AV->Option Bool}
  (heq:∀t x y b x' y',eq t x y=some b->VR r x x'->VR r y y'->∀w,(Op.equalIn d t x' y').run P w=.ok b w)
  {xs ys:List AV} {xs' ys':Array Value} (hx1:xs.length=xs'.size) (hx2:∀(i:Nat) (a:AV) (v:Value),xs[i]?=some a->xs'[i]?=some v->VR r a v)
  (hy1:ys.length=ys'.size) (Ve:∀(i:Nat) (a:AV) (v:Value),ys[i]?=some a->ys'[i]?=some v->VR r a v):
  ∀(fs:List Field) (b:Bool),xh P eq xs ys fs=some b->∀w,(Op.eqFields d xs' ys' fs).run P w=.ok b w
 | [],b,h,w=>by simp only[xh]at h;cases h;rfl
 | f::fs,b,h,w=>by
  simp only[xh]at h
  simp only[Op.eqFields]
  split at h
  ·rename_i hn
   rw[if_pos hn]
   split at h
   ·rename_i a c ha hc
    obtain⟨a',va,ra⟩:=wv ha hx1 hx2
    obtain⟨c',vc,rc⟩:=wv hc hy1 Ve
    obtain⟨q,hq,h⟩:=Option.bind_eq_some_iff.1 h
    simp only[Sem.run_bind,ra,rc,Result.andThen_ok,heq _ _ _ _ _ _ hq va vc]
    cases q
    ·simp at h;subst h;simp
    ·simp at h;simp;exact C7 heq hx1 hx2 hy1 Ve fs b h w
   ·cases h
  ·rename_i hn
   rw[if_neg hn]
   exact C7 heq hx1 hx2 hy1 Ve fs b h w
theorem K4{P:Program}{r:Ren}{d:Nat}{e:TypeId}{c:Nat}{eq:TypeId->AV->AV->Option Bool}
  (heq:∀t x y b x' y',eq t x y=some b->VR r x x'->VR r y y'->∀w,(Op.equalIn d t x' y').run P w=.ok b w)
  {xs ys:List AV} {xs' ys':Array Value} (hx1:xs.length=xs'.size) (hx2:∀(i:Nat) (a:AV) (v:Value),xs[i]?=some a->xs'[i]?=some v->VR r a v)
  (hy1:ys.length=ys'.size) (Ve:∀(i:Nat) (a:AV) (v:Value),ys[i]?=some a->ys'[i]?=some v->VR r a v):
  ∀(is:List Nat) (b:Bool),Da P eq e c xs ys is=some b->∀w,(Op.eqItems d e c xs' ys' is).run P w=.ok b w
 | [],b,h,w=>by simp only[Da]at h;cases h;rfl
 | i::is,b,h,w=>by
  simp only[Da]at h
  simp only[Op.eqItems]
  split at h
  ·rename_i a c ha hc
   obtain⟨a',va,ra⟩:=wv ha hx1 hx2
   obtain⟨c',vc,rc⟩:=wv hc hy1 Ve
   obtain⟨q,hq,h⟩:=Option.bind_eq_some_iff.1 h
   simp only[Sem.run_bind,ra,rc,Result.andThen_ok,heq _ _ _ _ _ _ hq va vc]
   cases q
   ·simp at h;subst h;simp
   ·simp at h;simp;exact K4 heq hx1 hx2 hy1 Ve is b h w
  ·cases h
theorem Nv{P:Program}{r:Ren}:∀(d:Nat) (t:TypeId) (x y:AV) (b:Bool) (x' y':Value),IU P d t x y=some b->VR r x x'->VR r y y'->
  ∀w,(Op.equalIn d t x' y').run P w=.ok b w
 | 0,t,x,y,b,x',y',h,hx,hy,w=>by simp[IU]at h
 | d+1,t,x,y,b,x',y',h,hx,hy,w=>by
  have ih:=Nv (P:=P) (r:=r) d
  simp only[IU]at h
  split at h
  ·rename_i hu
   split at h
   ·cases h;cases hx;cases hy;exact run_equalIn_bool' w d t _ _ hu
   ·cases h
  ·rename_i hu
   split at h
   ·split at h
    ·rename_i hk;subst hk;cases h;cases hx;cases hy;exact run_equalIn_int w d t _ _ _ _ hu
    ·cases h
   ·cases h
  ·rename_i hu
   split at h
   ·cases h;cases hx;cases hy;exact run_equalIn_string w d t _ _ hu
   ·cases h
  ·rename_i hu
   split at h
   ·cases h;cases hx;cases hy<;>simp[Op.equalIn,run_underlying hu]
   ·cases h;cases hx;cases hy;simp[Op.equalIn,run_underlying hu]
   ·cases h
  ·rename_i hu
   split at h
   ·cases h;cases hx;cases hy<;>simp[Op.equalIn,run_underlying hu]
   ·cases h;cases hy;cases hx<;>simp[Op.equalIn,run_underlying hu]
   ·cases h
  ·rename_i hu
   split at h
   ·cases h;cases hx;cases hy<;>simp[Op.equalIn,run_underlying hu]
   ·cases h;cases hy;cases hx;simp[Op.equalIn,run_underlying hu]
   ·cases h
  ·rename_i hu
   split at h
   ·cases h;cases hx;cases hy;simp[Op.equalIn,run_underlying hu]
   ·cases h;cases hx;cases hy;simp[Op.equalIn,run_underlying hu]
   ·cases h;cases hx;cases hy;simp[Op.equalIn,run_underlying hu]
   ·cases h
  ·rename_i fs hu
   split at h
   ·split at h
    ·cases h
    ·rename_i xs ys hp
     cases hx with
     | agg _ xs' hx1 hx2=>
     cases hy with
     | agg _ ys' hy1 Ve=>
     have hf:P.fieldsOf t=fs:=by simp[Program.fieldsOf,hu]
     rw[run_equalIn_struct w d t _ _ (by rw[hf];exact hu) (by simpa using hp),hf]
     exact C7 ih hx1 hx2 hy1 Ve _ b h w
   ·cases h
  ·rename_i n e hu
   split at h
   ·split at h
    ·rename_i xs ys hi
     obtain⟨i,hi⟩:=Option.isSome_iff_exists.1 hi
     cases hx with
     | agg _ xs' hx1 hx2=>
     cases hy with
     | agg _ ys' hy1 Ve=>
     rw[run_equalIn_array w d xs' ys' hu hi]
     exact K4 ih hx1 hx2 hy1 Ve _ b h w
    ·cases h
   ·cases h
  ·cases h
def J9(P:Program)(op:BinOp)(t:TypeId)(x y:AV):Option AV:=
 match op with
 | .eql=>if P.eqGuardType P.depth t then none else(IU P Op.maxDepth t x y).map .bool
 | .neq=>if P.eqGuardType P.depth t then none else(IU P Op.maxDepth t x y).map λb=>.bool (!b)
 | _=>none
def yY:AV->Bool
 | .int _ _=>false
 | .str _=>false
 | .fJ=>false
 | _=>true
theorem AP{P:Program}{t:TypeId}(hg:P.eqGuardType P.depth t=false)(op:BinOp)(ox oy:Operand){x' y':Value}(hn:¬(x'=.nilIface/\y'=.nilIface))(w:World):
    (eqGuard op t ox oy x' y').run P w=.ok () w:=by
  unfold eqGuard
  cases op<;>first
    | rfl
    | (simp only[Bool.not_true,Bool.false_eq_true,if_false]
       split
       · exact absurd ⟨rfl,rfl⟩ hn
       · simp[hg]
       · rfl)
theorem VQ{P:Program}{r:Ren}{op:BinOp}{t:TypeId}{x y v:AV}{x' y':Value}(h:J9 P op t x y=some v)(hnx:yY x=true)
  (hx:VR r x x') (hy:VR r y y') (ox oy:Operand):
  ∃v',VR r v v'/\∀w,((do eqGuard op t ox oy x' y';binOp op t x' y'):Sem Value).run P w=.ok v' w:=by
 have hn:¬(x'=.nilIface/\y'=.nilIface):=λe=>by obtain⟨rfl,_⟩:=e;cases hx;simp[yY]at hnx
 have hb1:binOp .eql t x' y'=(do pure (.bool (<-Op.equal t x' y'))):=by
  cases hx<;>simp[yY]at hnx<;>cases y'<;>rfl
 have hb2:binOp .neq t x' y'=(do pure (.bool (!(<-Op.equal t x' y')))):=by
  cases hx<;>simp[yY]at hnx<;>cases y'<;>rfl
 unfold J9 at h
 split at h
 ·split at h
  ·cases h
  ·rename_i hg
   obtain⟨b,hb,rfl⟩:=Option.map_eq_some_iff.1 h
   refine⟨_,.bool _,λw=>?_⟩
   simp only[Sem.run_bind,AP (by simpa using hg) _ ox oy hn,Result.andThen_ok,hb1,Op.equal,Nv _ _ _ _ _ _ _ hb hx hy w]
   rfl
 ·split at h
  ·cases h
  ·rename_i hg
   obtain⟨b,hb,rfl⟩:=Option.map_eq_some_iff.1 h
   refine⟨_,.bool _,λw=>?_⟩
   simp only[Sem.run_bind,AP (by simpa using hg) _ ox oy hn,Result.andThen_ok,hb2,Op.equal,Nv _ _ _ _ _ _ _ hb hx hy w]
   rfl
 ·cases h
def akQ(op:UnOp)(x:AV):Option AV:=
 match op,x with
 | .neg,.int k n=>some (.int k (k.wrap (0 - n)))
 | .xor,.int k n=>some (.int k (k.wrap (BitVec.ofInt k.bits (if k.signed then -1 else k.max) ^^^ BitVec.ofInt k.bits n).toNat))
 | .not,.bool b=>some (.bool (!b))
 | _,_=>none
theorem acT{P:Program}{r:Ren}{op:UnOp}{x v:AV}{x':Value}(h:akQ op x=some v)(hx:VR r x x'):
  ∃v',VR r v v'/\∀w,(Op.unary op x').run P w=.ok v' w:=by
 unfold akQ at h
 split at h
 ·cases h;cases hx;exact⟨_,.int _ _,λw=>rfl⟩
 ·cases h;cases hx;exact⟨_,.int _ _,λw=>rfl⟩
 ·cases h;cases hx;exact⟨_,.bool _,λw=>rfl⟩
 ·cases h
def VN(P:Program)(src dst:TypeId)(x:AV):Option AV:=
 match P.underlying src,P.underlying dst with
 | some _,some (.int k)=>match x with | .int _ n=>some (.int k (k.wrap n)) | _=>none
 | some _,some .string=>match x with | .str s=>some (.str s) | .int _ n=>some (.str (Utf8.encode n)) | _=>none
 | _,_=>none
theorem VO{P:Program}{r:Ren}{src dst:TypeId}{x v:AV}{x':Value}(h:VN P src dst x=some v)(hx:VR r x x'):
  ∃v',VR r v v'/\∀w,(convert src dst x').run P w=.ok v' w:=by
 unfold VN at h
 split at h
 ·rename_i d k hs hd
  split at h
  ·cases h;cases hx;exact⟨_,.int _ _,λw=>by simp[convert,run_underlying hs,run_underlying hd,Conv.intToInt]⟩
  ·cases h
 ·rename_i d hs hd
  split at h
  ·cases h;cases hx;exact⟨_,.str _,λw=>by simp[convert,run_underlying hs,run_underlying hd]⟩
  ·cases h;cases hx;exact⟨_,.str _,λw=>by simp[convert,run_underlying hs,run_underlying hd,Conv.intToString]⟩
  ·cases h
 ·cases h
def IV(P:Program)(t:TypeId)(x:AV)(f:Nat):Option AV:=
 match P.underlying t,x with
 | some (.struct fs),.agg cs=>(fs[f]?).bind λfd=>tW P fd.type cs fd.offset
 | _,_=>none
theorem TF{P:Program}{r:Ren}{t:TypeId}{f:Nat}{x v:AV}{x':Value}(h:IV P t x f=some v)(hx:VR r x x'):
  ∃v',VR r v v'/\∀w,(Instr.field t x' f).run P w=.ok v' w:=by
 unfold IV at h
 split at h
 ·rename_i fs cs hu
  obtain⟨fd,hf,h⟩:=Option.bind_eq_some_iff.1 h
  cases hx with
  | agg _ vs h1 h2=>
   obtain⟨v',hv,hr⟩:=wv h h1 h2
   exact⟨v',hv,λw=>by simp[Instr.field,run_underlying hu,hf,asAgg,hr]⟩
 ·cases h
def Gk(P:Program)(t:TypeId)(x i:AV):Option AV:=
 match P.underlying t,x,i with
 | some (.array len e),.agg cs,.int _ n=>if 0<=n/\n<len then(if(P.info? e).isSome then tW P e cs (n.toNat*P.cellsOf e)else none)else none
 | some .string,.str s,.int _ n=>if 0<=n then(s[n.toNat]?).map λb=>.int .u8 b.toNat else none
 | _,_,_=>none
theorem TG{P:Program}{r:Ren}{t:TypeId}{x i v:AV}{x' i':Value}(h:Gk P t x i=some v)(hx:VR r x x')(hi:VR r i i'):
  ∃v',VR r v v'/\∀w,(Instr.index t x' i').run P w=.ok v' w:=by
 unfold Gk at h
 split at h
 ·rename_i len e cs k n hu
  split at h
  ·rename_i hb
   split at h
   ·rename_i hsome
    obtain⟨inf,hsome⟩:=Option.isSome_iff_exists.1 hsome
    cases hi
    cases hx with
    | agg _ vs h1 h2=>
     obtain⟨v',hv,hr⟩:=wv h h1 h2
     exact⟨v',hv,λw=>by simp[Instr.index,asIntOf,run_underlying hu,hb,run_sizeOf w hsome,hr]⟩
   ·cases h
  ·cases h
 ·rename_i s k n hu
  split at h
  ·rename_i hb
   obtain⟨b,hs,rfl⟩:=Option.map_eq_some_iff.1 h
   cases hi
   cases hx
   exact⟨_,.int _ _,λw=>by simp[Instr.index,asIntOf,run_underlying hu,hb,hs]⟩
  ·cases h
 ·cases h
def um(P:Program)(t:TypeId)(x i:AV):Option AV:=
 match P.underlying t,x,i with
 | some (.array len e),.ptr (some (b,o)),.int _ n=>if 0<=n/\n<len/\(P.info? e).isSome then some (.ptr (some (b,o+n.toNat*P.cellsOf e)))else none
 | some (.slice e),.slice (some (b,o)) len _,.int _ n=>if 0<=n/\n<len/\(P.info? e).isSome then some (.ptr (some (b,o+n.toNat*P.cellsOf e)))else none
 | _,_,_=>none
theorem s3(b o k:Nat):(⟨b,o,none⟩:Addr).add k=⟨b,o+k,none⟩:=by
 unfold Addr.add
 split
 ·rename_i h;subst h;rfl
 ·rfl
theorem Cz{r:Ren}{i o k:Nat}{t:D4}(h:r i=some t):VR r (.ptr (some (i,o+k))) (.pointer (some ((⟨t.blk,t.base+o,none⟩:Addr).add k))):=by
 rw[s3,Nat.add_assoc];exact .ptr h
theorem LQ{P:Program}{r:Ren}{t:TypeId}{x i v:AV}{x' i':Value}(h:um P t x i=some v)(hx:VR r x x')(hi:VR r i i'):
  ∃v',VR r v v'/\∀w,(Instr.indexAt t x' i').run P w=.ok v' w:=by
 unfold um at h
 split at h
 ·rename_i len e b o k n hu
  split at h
  ·rename_i hb
   obtain⟨h0,h1,hsome⟩:=hb
   obtain⟨inf,hsome⟩:=Option.isSome_iff_exists.1 hsome
   cases h
   cases hi
   cases hx with
   | ptr ht=>exact⟨_,Cz ht,λw=>by simp[Instr.indexAt,asIntOf,run_underlying hu,Instr.sureAddr,h0,h1,run_sizeOf w hsome]⟩
  ·cases h
 ·rename_i e b o len c k n hu
  split at h
  ·rename_i hb
   obtain⟨h0,h1,hsome⟩:=hb
   obtain⟨inf,hsome⟩:=Option.isSome_iff_exists.1 hsome
   cases h
   cases hi
   cases hx with
   | slice len c ht=>exact⟨_,Cz ht,λw=>by simp[Instr.indexAt,asIntOf,run_underlying hu,h0,h1,run_sizeOf w hsome]⟩
   | ec len size cap ht hc hl=>exact⟨_,Cz ht,λw=>by simp[Instr.indexAt,asIntOf,run_underlying hu,h0,h1,run_sizeOf w hsome]⟩
   | lC a=>simp at h1;omega
   | gF a size _=>simp at h1;omega
  ·cases h
 ·cases h
def xg(P:Program)(t:TypeId)(x:AV)(f:Nat):Option AV:=
 match P.underlying t,x with
 | some (.struct fs),.ptr (some (b,o))=>(fs[f]?).bind λfd=>if(P.info? fd.type).isSome/\P.cellsOf fd.type≠0 then some (.ptr (some (b,o+fd.offset)))else none
 | _,_=>none
theorem LP{P:Program}{r:Ren}{t:TypeId}{f:Nat}{x v:AV}{x':Value}(h:xg P t x f=some v)(hx:VR r x x'):
  ∃v',VR r v v'/\∀w,(Instr.fieldAt t x' f).run P w=.ok v' w:=by
 unfold xg at h
 split at h
 ·rename_i fs b o hu
  obtain⟨fd,hf,h⟩:=Option.bind_eq_some_iff.1 h
  split at h
  ·rename_i hb
   obtain⟨hsome,h0⟩:=hb
   obtain⟨inf,hsome⟩:=Option.isSome_iff_exists.1 hsome
   cases h
   cases hx with
   | ptr ht=>exact⟨_,Cz ht,λw=>by simp[Instr.fieldAt,run_underlying hu,hf,Instr.sureAddr,fieldPlace,run_sizeOf w hsome,h0]⟩
  ·cases h
 ·cases h
def Ya(x:AV):Option AV:=
 match x with
 | .ptr (some p)=>some (.ptr (some p))
 | .func f a b=>some (.func f a b)
 | _=>none
def Gj(x:AV)(i:Nat):Option AV:=
 match x with
 | .dJ vs=>vs[i]?
 | _=>none
theorem O1{P:Program}{r:Ren}{x v:AV}{x':Value}{i:Nat}(h:Gj x i=some v)(hx:VR r x x'):
  ∃v',VR r v v'/\∀w,(Instr.extract x' i).run P w=.ok v' w:=by
 unfold Gj at h
 split at h
 ·cases hx with
  | dJ _ vs h1 h2=>
   have hlt:i<vs.size:=by rw[<-h1];exact(sS h).1
   have hv:vs[i]?=some vs[i]:=Array.getElem?_eq_getElem hlt
   exact⟨_,h2 i v _ h hv,λw=>by simp[Instr.extract,hv]⟩
 ·cases h
def kI(x:AV)(y:Nat):Option Nat:=
 match x with
 | .int _ i=>if 0<=i/\i<=y then some i.toNat else none
 | _=>none
theorem lO{P:Program}{r:Ren}{x:AV}{x':Value}{y n:Nat}(h:kI x y=some n)(hx:VR r x x')(code:BoundsCode)(w:World):
  (Instr.sliceBound x' y code).run P w=.ok n w:=by
 unfold kI at h
 split at h
 ·split at h
  ·rename_i hb;cases h;cases hx;simp[Instr.sliceBound,asIntOf,hb]
  ·cases h
 ·cases h
def eo(len cap:Nat)(lo hi mx:Option AV):Option (Nat×Nat×Nat):=
 (match mx with | some v=>kI v cap | none=>some cap).bind λm=>
 (match hi,mx with | some v,_=>kI v m | none,none=>some len | none,some _=>none).bind λh=>
 (match lo with | some v=>kI v h | none=>some 0).bind λl=>some (l,h,m)
inductive U5(r:Ren):Option AV->Option Value->Prop
 | none:U5 r none none
 | some {a:AV} {v:Value} (h:VR r a v):U5 r (some a) (some v)
theorem U5.map{r:Ren}{f:Operand->AV}{g:Operand->Value}(h:∀x,VR r (f x) (g x))(x:Option Operand):U5 r (x.map f) (x.map g):=by
 cases x with
 | none=>exact .none
 | some x=>exact .some (h x)
theorem lQ{P:Program}{r:Ren}{len cap:Nat}{lo hi mx:Option AV}{lo' hi' mx':Option Value}{q:Nat×Nat×Nat}(h:eo len cap lo hi mx=some q)
  (h1:U5 r lo lo') (h2:U5 r hi hi') (h3:U5 r mx mx') (b:Bool) (w:World):(Instr.sliceBounds b len cap lo' hi' mx').run P w=.ok q w:=by
 unfold eo at h
 obtain⟨m,hm,h⟩:=Option.bind_eq_some_iff.1 h
 obtain⟨hh,hhm,h⟩:=Option.bind_eq_some_iff.1 h
 obtain⟨l,hl,h⟩:=Option.bind_eq_some_iff.1 h
 cases h
 unfold Instr.sliceBounds
 cases h3 with
 | none=>
  cases hm
  cases h2 with
  | none=>
   cases hhm
   cases h1 with
   | none=>cases hl;simp
   | some v1=>simp[lO hl v1]
  | some v2=>
   cases h1 with
   | none=>cases hl;simp[lO hhm v2]
   | some v1=>simp[lO hhm v2,lO hl v1]
 | some v3=>
  cases h2 with
  | none=>cases hhm
  | some v2=>
   cases h1 with
   | none=>cases hl;simp[lO hhm v2,lO hm v3]
   | some v1=>simp[lO hhm v2,lO hl v1,lO hm v3]
theorem E9{len cap:Nat}{lo hi mx:Option AV}{l h m:Nat}(e:eo len cap lo hi mx=some (l,h,m))(hlc:len<=cap):l<=h/\h<=m/\m<=cap/\(mx=none->m=cap):=by
 unfold eo at e
 obtain⟨m',hm,e⟩:=Option.bind_eq_some_iff.1 e
 obtain⟨h',hh,e⟩:=Option.bind_eq_some_iff.1 e
 obtain⟨l',hl,e⟩:=Option.bind_eq_some_iff.1 e
 cases e
 have bd:∀(x:AV) (y n:Nat),kI x y=some n->n<=y:=by
  intro x y n hx
  unfold kI at hx
  split at hx
  ·split at hx
   ·cases hx;omega
   ·cases hx
  ·cases hx
 have hlh:l<=h:=by
  split at hl
  ·exact bd _ _ _ hl
  ·cases hl;omega
 have hmc:m<=cap:=by
  split at hm
  ·exact bd _ _ _ hm
  ·cases hm;omega
 have hhm:h<=m:=by
  split at hh
  ·exact bd _ _ _ hh
  ·cases hh;cases hm;exact hlc
  ·cases hh
 refine⟨hlh,hhm,hmc,λe=>?_⟩
 subst e;cases hm;rfl
def xj(size:Nat)(x:AV)(lo hi mx:Option AV):Option AV:=
 match x with
 | .slice none 0 (.known 0)=>(eo 0 0 lo hi mx).bind λ_=>some (.slice none 0 (.known 0))
 | .slice (some (b,o)) len (.known c)=>if len<=c then(eo len c lo hi mx).bind λ(l,h,m)=>some (.slice (some (b,if m=l then o else o+l*size)) (h - l) (.known (m - l)))else none
 | .slice (some (b,o)) len (.rest s)=>
  if s=size then
   match mx with
   | none=>(eo len len lo hi none).bind λ(l,h,_)=>some (.slice (some (b,o+l*size)) (h - l) (.rest s))
   | some v=>if 0<len then(eo len len lo hi (some v)).bind λ(l,h,m)=>some (.slice (some (b,if m=l then o else o+l*size)) (h - l) (.known (m - l)))else none
  else none
 | _=>none
theorem IT{x:AV}{y z n:Nat}(h:kI x y=some n)(hz:y<=z):kI x z=some n:=by
 unfold kI at h ⊢
 split at h
 ·split at h
  ·rename_i hb;cases h;simp;omega
  ·cases h
 ·cases h
theorem Q1{len cap:Nat}{lo hi:Option AV}{l h m:Nat}(e:eo len len lo hi none=some (l,h,m))(hc:len<=cap):eo len cap lo hi none=some (l,h,cap):=by
 unfold eo at e ⊢
 simp only[fD]at e ⊢
 obtain⟨h',hh,e⟩:=Option.bind_eq_some_iff.1 e
 obtain⟨l',hl,e⟩:=Option.bind_eq_some_iff.1 e
 cases e
 cases hi with
 | none=>simp only[Option.some.injEq]at hh;subst hh;simp only[fD];rw[hl];rfl
 | some v=>simp only at hh;simp only[IT hh hc,fD];rw[hl];rfl
theorem O0{len cap:Nat}{lo hi:Option AV}{v:AV}{l h m:Nat}(e:eo len len lo hi (some v)=some (l,h,m))(hc:len<=cap):eo len cap lo hi (some v)=some (l,h,m):=by
 unfold eo at e ⊢
 obtain⟨m',hm,e⟩:=Option.bind_eq_some_iff.1 e
 simp only at hm
 simp only[IT hm hc,fD]
 exact e
theorem sB{P:Program}{t elem:TypeId}{inf:TypeInfo}(hu:P.underlying t=some (.slice elem))(hi:P.info? elem=some inf){a:Option Addr}{len cap:Nat}
  {lo hi' mx:Option Value} {l h m:Nat} {w:World} (hb:(Instr.sliceBounds true len cap lo hi' mx).run P w=.ok (l,h,m) w):
  (Instr.sliceAt t (.slice a len cap) lo hi' mx).run P w=.ok (.slice (if m=l then a else a.map (·.add (l*P.cellsOf elem))) (h - l) (m - l)) w:=by
 simp[Instr.sliceAt,run_underlying hu,Instr.slice,hb,run_sizeOf w hi]
theorem Ra{P:Program}{r:Ren}{t elem:TypeId}{inf:TypeInfo}(hu:P.underlying t=some (.slice elem))(hi:P.info? elem=some inf){x v:AV}{x':Value}
  {lo hi' mx:Option AV} {lo' adk mx':Option Value} (h:xj (P.cellsOf elem) x lo hi' mx=some v) (hx:VR r x x') (h1:U5 r lo lo') (h2:U5 r hi' adk) (h3:U5 r mx mx'):
  ∃v',VR r v v'/\∀w,(Instr.sliceAt t x' lo' adk mx').run P w=.ok v' w:=by
 unfold xj at h
 split at h
 ·obtain⟨⟨l,hh,m⟩,hb,h⟩:=Option.bind_eq_some_iff.1 h
  cases h
  cases hx
  have hle:=E9 hb (cF _)
  obtain⟨rfl,rfl,rfl⟩:l=0/\hh=0/\m=0:=by omega
  exact⟨_,.Jq,λw=>by rw[sB hu hi (lQ hb h1 h2 h3 true w)];simp⟩
 ·rename_i b o len c
  split at h
  ·rename_i hlc
   obtain⟨⟨l,hh,m⟩,hb,h⟩:=Option.bind_eq_some_iff.1 h
   cases h
   cases hx with
   | slice _ _ ht=>
    refine⟨_,.slice (hh - l) (m - l) ht,λw=>?_⟩
    rw[sB hu hi (lQ hb h1 h2 h3 true w)]
    split
    ·rfl
    ·simp[s3,Nat.add_assoc]
   | lC a=>
    have hle:=E9 hb (cF _)
    obtain⟨rfl,rfl,rfl⟩:l=0/\hh=0/\m=0:=by omega
    refine⟨_,.lC a,λw=>?_⟩
    rw[sB hu hi (lQ hb h1 h2 h3 true w)]
    simp
  ·cases h
 ·rename_i b o len s
  split at h
  ·rename_i hs
   subst hs
   split at h
   ·obtain⟨⟨l,hh,m⟩,hb,h⟩:=Option.bind_eq_some_iff.1 h
    cases h
    have hle:=E9 hb (cF _)
    cases h3
    cases hx with
    | ec _ _ cap ht hc hl=>
     rename_i tt
     have hb':=Q1 hb hl
     have hrun:=λ(q:Option Addr) w=>sB (w:=w) (a:=q) hu hi (lQ hb' h1 h2 .none true w)
     by_cases he:cap=l
     ·subst he
      have h0:hh - cap=0:=by omega
      rw[h0]
      refine⟨_,.gF ⟨tt.blk,tt.base+o,none⟩ _ ht,λw=>?_⟩
      rw[hrun _ w]
      simp[h0]
     ·refine⟨_,.ec (hh - l) _ (cap - l) ht ?_ (by omega),λw=>?_⟩
      ·have:l*P.cellsOf elem+(cap - l)*P.cellsOf elem=cap*P.cellsOf elem:=by rw[<-Nat.add_mul];congr 1;omega
       omega
      ·rw[hrun _ w]
       simp[he,s3,Nat.add_assoc]
    | gF a _ ht=>
     obtain⟨rfl,rfl,rfl⟩:l=0/\hh=0/\m=0:=by omega
     refine⟨_,.gF a _ ht,λw=>?_⟩
     rw[sB hu hi (lQ hb h1 h2 .none true w)]
     simp
   ·rename_i v3
    split at h
    ·rename_i hpos
     obtain⟨⟨l,hh,m⟩,hb,h⟩:=Option.bind_eq_some_iff.1 h
     cases h
     cases hx with
     | ec _ _ cap ht hc hl=>
      have hb':=O0 hb hl
      refine⟨_,.slice (hh - l) (m - l) ht,λw=>?_⟩
      rw[sB hu hi (lQ hb' h1 h2 h3 true w)]
      split
      ·rfl
      ·simp[s3,Nat.add_assoc]
     | gF a _ _=>omega
    ·cases h
  ·cases h
 ·cases h
def Dc(P:Program)(t:TypeId)(x:AV)(lo hi mx:Option AV):Option AV:=
 match P.underlying t with
 | some (.array n e)=>
  match x with
  | .ptr (some (b,o))=>if(P.info? e).isSome then(eo n n lo hi mx).bind λ(l,h,m)=>some (.slice (some (b,if m=l then o else o+l*P.cellsOf e)) (h - l) (.known (m - l)))else none
  | _=>none
 | some .string=>
  match x,mx with
  | .str s,none=>(eo s.size s.size lo hi none).bind λ(l,h,_)=>some (.str (s.extract l h))
  | _,_=>none
 | some (.slice e)=>if(P.info? e).isSome then xj (P.cellsOf e) x lo hi mx else none
 | _=>none
theorem TJ{P:Program}{r:Ren}{t:TypeId}{x v:AV}{x':Value}
  {lo hi' mx:Option AV} {lo' adk mx':Option Value} (h:Dc P t x lo hi' mx=some v) (hx:VR r x x') (h1:U5 r lo lo') (h2:U5 r hi' adk) (h3:U5 r mx mx'):
  ∃v',VR r v v'/\∀w,(Instr.sliceAt t x' lo' adk mx').run P w=.ok v' w:=by
 unfold Dc at h
 split at h
 ·rename_i n e hu
  split at h
  ·rename_i b o
   split at h
   ·rename_i hsome
    obtain⟨inf,hsome⟩:=Option.isSome_iff_exists.1 hsome
    obtain⟨⟨l,hh,m⟩,hb,h⟩:=Option.bind_eq_some_iff.1 h
    cases h
    cases hx with
    | ptr ht=>
     refine⟨_,.slice (hh - l) (m - l) ht,λw=>?_⟩
     simp only[Instr.sliceAt,Sem.run_bind,run_underlying hu,Result.andThen_ok,Instr.sureAddr,Sem.run_pure,lQ hb h1 h2 h3 false w,run_sizeOf w hsome]
     split
     ·rfl
     ·simp[s3,Nat.add_assoc]
   ·cases h
  ·cases h
 ·rename_i hu
  split at h
  ·obtain⟨⟨l,hh,m⟩,hb,h⟩:=Option.bind_eq_some_iff.1 h
   cases h
   cases h3
   cases hx
   refine⟨_,.str _,λw=>?_⟩
   have:=lQ (P:=P) hb h1 h2 .none false w
   simp[Instr.sliceAt,run_underlying hu,Instr.slice,this]
  ·cases h
 ·rename_i e hu
  split at h
  ·rename_i hsome
   obtain⟨inf,hsome⟩:=Option.isSome_iff_exists.1 hsome
   exact Ra hu hsome h hx h1 h2 h3
  ·cases h
 ·cases h
structure MG(w w':World)(b:Nat)(o:Nat)(vs:List Value):Prop where
 size:w'.heap.size=w.heap.size
 env:Env w w'
 other:∀b',b'≠b->w'.heap[b']?=w.heap[b']?
 here:∀C e fz,w.heap[b]?=some (.cells C e fz)->∃C',w'.heap[b]?=some (.cells C' e fz)/\C'.size=C.size/\
  ∀k:Nat,C'[k]?=if o<=k/\k<o+vs.length then vs[k - o]? else C[k]?
theorem Kf{w:World}{b o:Nat}{v:Value}{C:Array Value}{e:TypeId}{fz:Nat×Nat}(h:w.heap[b]?=some (.cells C e fz)):
  (w.setCell ⟨b,o,none⟩ v).heap[b]?=some (.cells (C.setIfInBounds o v) e fz):=by
 simp[World.setCell,Array.getElem?_modify,h]
theorem Pj{P:Program}{w:World}{b o:Nat}{v:Value}{C:Array Value}{e:TypeId}{fz:Nat×Nat}(h:w.heap[b]?=some (.cells C e fz))(ho:o<C.size)
  (hfz:¬(fz.1<=o/\o<fz.2)) (hv:v.oneCell'=true):(store ⟨b,o,none⟩ v).run P w=.ok () (w.setCell ⟨b,o,none⟩ v):=by
 have hc:w.cell? ⟨b,o,none⟩=some C[o]:=by simp[World.cell?,h,ho]
 have hf:w.frozen? ⟨b,o,none⟩=false:=by simp[World.frozen?,h];omega
 rw[run_store P w _ v .plain hv]
 simp[hc,hf]
theorem tZ{P:Program}{b o:Nat}:∀(vs:List Value) (i:Nat) (w:World) (C:Array Value) (e:TypeId) (fz:Nat×Nat),w.heap[b]?=some (.cells C e fz)->
  o+i+vs.length<=C.size->(∀off,off<C.size->¬(fz.1<=off/\off<fz.2))->(∀v∈vs,v.oneCell'=true)->
  ∃w',(storeCells ⟨b,o,none⟩ vs i).run P w=.ok () w'/\MG w w' b (o+i) vs
 | [],i,w,C,e,fz,h,_,_,_=>⟨w,rfl,rfl,.refl w,λ_ _=>rfl,λC' e' fz' h'=>⟨C',h',rfl,λk=>by simp;omega⟩⟩
 | v::vs,i,w,C,e,fz,h,hl,hfz,hv=>by
  simp only[List.length_cons]at hl
  have h1:=Pj (P:=P) (v:=v) h (o:=o+i) (by omega) (hfz _ (by omega)) (hv v (by simp))
  have h2:=Kf (o:=o+i) (v:=v) h
  obtain⟨w',hr,hw⟩:=tZ (P:=P) (b:=b) (o:=o) vs (i+1) (w.setCell ⟨b,o+i,none⟩ v) _ e fz h2 (by simp;omega) (by simpa using hfz) (λu hu=>hv u (by simp[hu]))
  refine⟨w',?_,?_,Env.trans ⟨rfl,rfl,rfl,λ_=>cF _⟩ hw.env,?_,?_⟩
  ·unfold storeCells
   rw[Sem.run_bind,s3,h1]
   exact hr
  ·rw[hw.size,World.size_setCell]
  ·intro b' hb'
   rw[hw.other b' hb',heap_setCell_other _ _ _ _ (by simpa using hb')]
  ·intro C0 e0 fz0 h0
   rw[h]at h0
   cases h0
   obtain⟨C',hc',hs',hk⟩:=hw.here _ _ _ h2
   refine⟨C',hc',by simpa using hs',λk=>?_⟩
   rw[hk]
   simp only[List.length_cons]
   by_cases hk0:k=o+i
   ·subst hk0
    rw[if_neg (by omega),if_pos (by omega)]
    simp[show o+i<C.size by omega]
   ·by_cases Vd:o+(i+1)<=k/\k<o+(i+1)+vs.length
    ·rw[if_pos Vd,if_pos (by omega)]
     obtain⟨j,hj⟩:∃j,k - (o+i)=j+1:=⟨k - (o+i) - 1,by omega⟩
     rw[hj,List.getElem?_cons_succ]
     congr 1
     omega
    ·rw[if_neg Vd,if_neg (by omega),Array.getElem?_setIfInBounds_ne (by omega)]
theorem World.EM{w:World}{b:Nat}{o:Obj}(h:w.heap[b]?=some o):b<w.heap.size:=by
 rcases Nat.lt_or_ge b w.heap.size with h' | h'
 ·exact h'
 ·simp[Array.getElem?_eq_none h']at h
theorem Post.Kv{r:Ren}{h:H}{w w':World}{i:Nat}{t:D4}{o o':cK}(an:Rel r h w)(hi:r i=some t)(hg:h.get i=some o)(hro:o.ro=false)(aaj:o'.ro=false)
  (hsz:w'.heap.size=w.heap.size) (yH:Env w w') (tX:∀b,b≠t.blk->w'.heap[b]?=w.heap[b]?) (Jd:OR r w' t o'):Post r h w r (h.set i o') w' where
 env:=yH
 le:=r.le_refl
 dom:=λj tj h1 h2=>by rw[h1]at h2;cases h2
 rel:={
  wf:=λj oj hj=>by
   simp only[H.set]at hj
   split at hj
   ·rename_i e;subst e;exact an.wf _ _ hg
   ·exact an.wf _ _ hj
  obj:=λj tj oj hj uq=>by
   simp only[H.set]at uq
   split at uq
   ·rename_i e;subst e;cases uq;rw[hi]at hj;cases hj;exact Jd
   ·rename_i hne
    refine(an.obj j tj oj hj uq).move r.le_refl (tX _ λe=>?_)
    rcases an.inj j i tj t oj o hj hi uq hg e with h' | ⟨_,h'⟩
    ·exact hne h'
    ·rw[h']at hro;cases hro
  inj:=λj k tj tk oj ok hj hk uq Iu e=>by
   simp only[H.set]at uq Iu
   split at uq<;>split at Iu
   ·left;omega
   ·rename_i h1 h2;subst h1;cases uq
    rcases an.inj j k tj tk o ok hj hk hg Iu e with h' | ⟨h',_⟩
    ·exact .inl h'
    ·rw[h']at hro;cases hro
   ·rename_i h1 h2;subst h2;cases Iu
    rcases an.inj j k tj tk oj o hj hk uq hg e with h' | ⟨_,h'⟩
    ·exact .inl h'
    ·rw[h']at hro;cases hro
   ·exact an.inj j k tj tk oj ok hj hk uq Iu e
  bound:=λj tj hj=>by rw[hsz];exact an.bound j tj hj
  rH:=an.rH}
 keep:=λb hb hk=>tX b λe=>by
  have:=hk i t o hi e.symm hg
  rw[this]at hro;cases hro
 size:=by rw[hsz];exact cF _
 next:=cF _
 fresh:=λj tj h1 h2=>by rw[h1]at h2;cases h2
 pq:=λj oj _ hj=>by
  simp only[H.set]at hj
  split at hj
  ·rename_i e;subst e;cases hj;exact⟨o,hg,hro.trans aaj.symm⟩
  ·exact⟨oj,hj,rfl⟩
 Sg:=λj tj _=>by simp[H.set];omega
 oD:=λj _ hne=>by
  simp only[H.set]at hne
  split at hne
  ·rename_i e;subst e;exact⟨t,hi⟩
  ·exact absurd rfl hne
def Ren.put(r:Ren)(i:Nat)(t:D4):Ren:=λj=>if j=i then some t else r j
theorem Ren.zI{r:Ren}{i:Nat}{t:D4}(h:r i=none):r.le (r.put i t):=λj tj hj=>by
 unfold Ren.put
 split
 ·rename_i e;subst e;rw[h]at hj;cases hj
 ·exact hj
theorem Post.RN{r:Ren}{h:H}{w w':World}{o:cK}{base row:Nat}(an:Rel r h w)(hn:r h.next=none)
  (hsz:w'.heap.size=w.heap.size+1) (yH:Env w w') (tX:∀b,b<w.heap.size->w'.heap[b]?=w.heap[b]?)
  (Jd:∀r':Ren,r.le r'->OR r' w' ⟨w.heap.size,base,row⟩ o):Post r h w (r.put h.next ⟨w.heap.size,base,row⟩) (h.new o) w' where
 env:=yH
 le:=Ren.zI hn
 dom:=λj tj h1 h2=>by
  unfold Ren.put at h1
  split at h1
  ·rename_i e;subst e;simp[H.new]
  ·rw[h1]at h2;cases h2
 rel:={
  wf:=λj oj hj=>by
   simp only[H.new]at hj ⊢
   split at hj
   ·omega
   ·have:=an.wf _ _ hj;omega
  obj:=λj tj oj hj uq=>by
   simp only[H.new]at uq
   unfold Ren.put at hj
   split at uq
   ·rename_i e;subst e;cases uq;simp at hj;subst hj;exact Jd _ (Ren.zI hn)
   ·rename_i hne
    rw[if_neg hne]at hj
    exact(an.obj j tj oj hj uq).move (Ren.zI hn) (tX _ (an.bound j tj hj))
  inj:=λj k tj tk oj ok hj hk uq Iu e=>by
   simp only[H.new]at uq Iu
   unfold Ren.put at hj hk
   split at uq<;>split at Iu
   ·left;omega
   ·rename_i h1 h2;rw[if_pos h1]at hj;rw[if_neg h2]at hk;cases hj
    have:=an.bound k tk hk;simp at e;omega
   ·rename_i h1 h2;rw[if_neg h1]at hj;rw[if_pos h2]at hk;cases hk
    have:=an.bound j tj hj;simp at e;omega
   ·rename_i h1 h2;rw[if_neg h1]at hj;rw[if_neg h2]at hk
    exact an.inj j k tj tk oj ok hj hk uq Iu e
  bound:=λj tj hj=>by
   unfold Ren.put at hj
   split at hj
   ·cases hj;simp;omega
   ·have:=an.bound j tj hj;omega
  rH:=an.rH.mono (Ren.zI hn)}
 keep:=λb hb _=>tX b hb
 size:=by omega
 next:=by simp[H.new]
 fresh:=λj tj h1 h2=>by
  unfold Ren.put at h2
  split at h2
  ·cases h2;exact .inl (cF _)
  ·rw[h1]at h2;cases h2
 pq:=λj oj hj hg=>by
  simp only[H.new]at hg
  split at hg
  ·omega
  ·exact⟨oj,hg,rfl⟩
 Sg:=λj tj hj=>by
  simp only[H.new]
  by_cases e:j=h.next
  ·subst e;rw[hn]at hj;cases hj
  ·omega
 oD:=λj hj hne=>by
  simp only[H.new]at hne
  rw[if_neg (by omega)]at hne
  exact absurd rfl hne
theorem adx{a b:Prop}[Decidable a][Decidable b]{α:Type}{x z:α}{y:Option α}(h:(if a then some x else if b then none else y)=some z):(a/\x=z)∨(¬a/\¬b/\y=some z):=by
 by_cases ha:a
 ·rw[if_pos ha]at h;cases h;exact .inl ⟨ha,rfl⟩
 ·rw[if_neg ha]at h
  by_cases hb:b
  ·rw[if_pos hb]at h;cases h
  ·rw[if_neg hb]at h;exact .inr ⟨ha,hb,h⟩
theorem Post.aeg{r:Ren}{h:H}{w w':World}{i:Nat}{t t':D4}{o o':cK}(an:Rel r h w)(hi:r i=some t)(hg:h.get i=some o)(hro:o.ro=false)(aaj:o'.ro=false)
  (hn:r h.next=none) (ht:t'.blk=t.blk)
  (hsz:w'.heap.size=w.heap.size) (yH:Env w w') (tX:∀b,b≠t.blk->w'.heap[b]?=w.heap[b]?) (Jd:∀r':Ren,r.le r'->OR r' w' t' o'):
  Post r h w (r.put h.next t') ((h.kill i).new o') w' where
 env:=yH
 le:=Ren.zI hn
 dom:=λj tj h1 h2=>by
  unfold Ren.put at h1
  split at h1
  ·rename_i e;subst e;simp[H.new,H.kill]
  ·rw[h1]at h2;cases h2
 rel:={
  wf:=λj oj hj=>by
   show j<h.next+1
   rcases adx hj with⟨e,_⟩ | ⟨_,_,hj⟩
   ·change j=h.next at e;omega
   ·have:=an.wf _ _ hj;omega
  obj:=λj tj oj hj uq=>by
   unfold Ren.put at hj
   rcases adx uq with⟨e,e2⟩ | ⟨hne,hji,uq⟩
   ·change j=h.next at e
    subst e;subst e2;simp at hj;subst hj;exact Jd _ (Ren.zI hn)
   ·change ¬j=h.next at hne
    rw[if_neg hne]at hj
    refine(an.obj j tj oj hj uq).move (Ren.zI hn) (tX _ λe=>?_)
    rcases an.inj j i tj t oj o hj hi uq hg e with h' | ⟨_,h'⟩
    ·exact hji h'
    ·rw[h']at hro;cases hro
  inj:=λj k tj tk oj ok hj hk uq Iu e=>by
   unfold Ren.put at hj hk
   rcases adx uq with⟨h1,_⟩ | ⟨h1,hji,uq⟩<;>rcases adx Iu with⟨h2,_⟩ | ⟨h2,hki,Iu⟩
   all_goals first | change j=h.next at h1 | change ¬j=h.next at h1
   all_goals first | change k=h.next at h2 | change ¬k=h.next at h2
   ·left;omega
   ·rw[if_pos h1]at hj;rw[if_neg h2]at hk;cases hj
    rcases an.inj k i tk t ok o hk hi Iu hg (e.symm.trans ht)with h' | ⟨_,h'⟩
    ·exact absurd h' hki
    ·rw[h']at hro;cases hro
   ·rw[if_neg h1]at hj;rw[if_pos h2]at hk;cases hk
    rcases an.inj j i tj t oj o hj hi uq hg (e.trans ht)with h' | ⟨_,h'⟩
    ·exact absurd h' hji
    ·rw[h']at hro;cases hro
   ·rw[if_neg h1]at hj;rw[if_neg h2]at hk
    exact an.inj j k tj tk oj ok hj hk uq Iu e
  bound:=λj tj hj=>by
   unfold Ren.put at hj
   rw[hsz]
   split at hj
   ·cases hj;rw[ht];exact an.bound i t hi
   ·exact an.bound j tj hj
  rH:=an.rH.mono (Ren.zI hn)}
 keep:=λb hb hk=>tX b λe=>by
  have:=hk i t o hi e.symm hg
  rw[this]at hro;cases hro
 size:=by rw[hsz];exact cF _
 next:=by simp[H.new,H.kill]
 fresh:=λj tj h1 h2=>by
  unfold Ren.put at h2
  split at h2
  ·cases h2;exact .inr ⟨i,t,o,hi,ht.symm,hg,hro⟩
  ·rw[h1]at h2;cases h2
 pq:=λj oj hj uq=>by
  rcases adx uq with⟨e,_⟩ | ⟨_,_,uq⟩
  ·change j=h.next at e;omega
  ·exact⟨oj,uq,rfl⟩
 Sg:=λj tj hj=>by
  simp only[H.new,H.kill]
  by_cases e:j=h.next
  ·subst e;rw[hn]at hj;cases hj
  ·omega
 oD:=λj hj hne=>by
  by_cases e:j=i
  ·subst e;exact⟨t,hi⟩
  ·refine absurd ?_ hne
   show(if j=h.next then some o' else if j=i then none else h.get j)=h.get j
   rw[if_neg (by omega),if_neg e]
theorem Post.RM{r:Ren}{h:H}{w:World}{i:Nat}{t:D4}(hi:r i=some t)(an:Rel r h w):Post r h w r (h.kill i) w where
 env:=.refl w
 le:=r.le_refl
 dom:=λj tj h1 h2=>by rw[h1]at h2;cases h2
 rel:={
  wf:=λj oj hj=>by
   simp only[H.kill]at hj ⊢
   split at hj
   ·cases hj
   ·exact an.wf _ _ hj
  obj:=λj tj oj hj uq=>by
   simp only[H.kill]at uq
   split at uq
   ·cases uq
   ·exact an.obj j tj oj hj uq
  inj:=λj k tj tk oj ok hj hk uq Iu e=>by
   simp only[H.kill]at uq Iu
   split at uq
   ·cases uq
   ·split at Iu
    ·cases Iu
    ·exact an.inj j k tj tk oj ok hj hk uq Iu e
  bound:=an.bound
  rH:=an.rH}
 keep:=λ_ _ _=>rfl
 size:=cF _
 next:=cF _
 fresh:=λj tj h1 h2=>by rw[h1]at h2;cases h2
 pq:=λj oj _ hj=>by
  simp only[H.kill]at hj
  split at hj
  ·cases hj
  ·exact⟨oj,hj,rfl⟩
 Sg:=λj tj _=>by simp[H.kill];omega
 oD:=λj hj hne=>by
  simp only[H.kill]at hne
  split at hne
  ·rename_i e;subst e;exact⟨t,hi⟩
  ·exact absurd rfl hne
def H.jm(h:H):Option cK->H
 | some o=>h.new o
 | none=>⟨h.next+1,h.get⟩
theorem jw(h:H)(o:Option cK):(h.jm o).next=h.next+1:=by cases o<;>rfl
theorem Ja{h:H}{o:Option cK}{i:Nat}(hi:i≠h.next):(h.jm o).get i=h.get i:=by
 cases o with
 | none=>rfl
 | some o=>simp only[H.jm,H.new,if_neg hi]
theorem Ho{h:H}{o:Option cK}(hn:h.get h.next=none):(h.jm o).get h.next=o:=by
 cases o with
 | none=>exact hn
 | some o=>simp[H.jm,H.new]
theorem Post.ahz{r:Ren}{h:H}{w w':World}{o:Option cK}{base row:Nat}(an:Rel r h w)(hn:r h.next=none)
  (hsz:w'.heap.size=w.heap.size+1) (yH:Env w w') (tX:∀b,b<w.heap.size->w'.heap[b]?=w.heap[b]?)
  (Jd:∀x,o=some x->∀r':Ren,r.le r'->OR r' w' ⟨w.heap.size,base,row⟩ x):Post r h w (r.put h.next ⟨w.heap.size,base,row⟩) (h.jm o) w':=by
 cases o with
 | some x=>exact Post.RN an hn hsz yH tX (Jd x rfl)
 | none=>
  have p:Post r h w (r.put h.next ⟨w.heap.size,base,row⟩) (h.new .hid) w':=Post.RN an hn hsz yH tX λr' _=>trivial
  have q:=Post.RM (i:=h.next) (t:=⟨w.heap.size,base,row⟩) (by simp[Ren.put]) p.rel
  have e:(h.new .hid).kill h.next=h.jm none:=by
   unfold H.kill H.new H.jm
   simp only
   congr 1
   funext j
   by_cases hj:j=h.next
   ·subst hj
    simp only[if_true]
    cases hg:h.get h.next with
    | none=>rfl
    | some x=>have:=an.wf _ _ hg;omega
   ·simp only[if_neg hj]
  rw[<-e]
  exact p.trans q
def HB:AV->Option (List AV)
 | .agg cs=>some cs
 | .fJ=>none
 | .dJ _=>none
 | v=>some [v]
theorem HC{r:Ren}{a:AV}{v:Value}{cs:List AV}(h:HB a=some cs)(hv:VR r a v):kg r cs v.cells.toList:=by
  have one:∀(a:AV) (v:Value),VR r a v->kg r [a] [v]:=λa v h=>kg.cons h kg.nil
  have hv0:=hv
  cases hv<;>simp only[HB]at h<;>first
    | (cases h;done)
    | (cases h;exact one _ _ hv0)
    | (cases h
       rename_i h1 h2
       exact⟨by simpa[Value.cells]using h1,λi a v ha hv=>h2 i a v ha (by simpa[Value.cells]using hv)⟩)
def wz(P:Program)(t:TypeId):Option (List AV):=((P.info? t).bind (·.zero)).map λv=>v.cells.toList.map aeR
theorem zw{P:Program}{t:TypeId}{zs:List AV}(h:wz P t=some zs):∃i z,P.info? t=some i/\i.zero=some z/\(∀w,(zeroValue t).run P w=.ok z w)/\∀r:Ren,kg r zs z.cells.toList:=by
 unfold wz at h
 obtain⟨z,hz,rfl⟩:=Option.map_eq_some_iff.1 h
 obtain⟨i,hi,hz⟩:=Option.bind_eq_some_iff.1 hz
 refine⟨i,z,hi,hz,λw=>by simp[zeroValue,typeInfo,hi,hz],λr=>⟨by simp,λj a v ha hv=>?_⟩⟩
 rw[List.getElem?_map,hv]at ha
 simp at ha
 subst ha
 exact QE r v
def C8(place:Nat->Option (Nat×Nat))(cells:List AV):List (Nat×AV)->Option (List AV)
 | []=>some cells
 | (i,v)::rest=>
  match place i,HB v with
  | some (off,size),some cs=>if cs.length=size/\off+size<=cells.length then C8 place (cells.take off++cs++cells.drop (off+size)) rest else none
  | _,_=>none
theorem I7(off:Nat):∀(l:List Value) (k:Nat) (A:Array Value),off+k+l.length<=A.size->
  ((l.zipIdx k).foldl (λcs (c,j)=>cs.setIfInBounds (off+j) c) A).toList=A.toList.take (off+k)++l++A.toList.drop (off+k+l.length)
 | [],k,A,_=>by simp
 | c::l,k,A,h=>by
  simp only[List.length_cons]at h
  rw[List.zipIdx_cons,List.foldl_cons,I7 off l (k+1) _ (by simp;omega)]
  have hlt:off+k<A.toList.length:=by simp;omega
  simp only[Array.toList_setIfInBounds,List.length_cons]
  rw[show off+(k+1)=off+k+1 by omega,List.take_succ_eq_append_getElem (by simp;omega),List.take_set_of_le (cF _),List.getElem_set_self,List.drop_set_of_lt (by omega),
   show off+k+(l.length+1)=off+k+1+l.length by omega]
  simp
theorem kg.splice{r:Ren}{cells cs:List AV}{A vs:List Value}(h:kg r cells A)(hc:kg r cs vs)(off:Nat):
  kg r (cells.take off++cs++cells.drop (off+cs.length)) (A.take off++vs++A.drop (off+vs.length)):=by
 rw[<-hc.1]
 exact((h.take off).append hc).append (h.drop _)
theorem C9{r:Ren}{place:Nat->Option (Nat×Nat)}:∀{parts:List (Nat×AV)} {parts':List (Nat×Value)} {cells out:List AV} {A:Array Value},C8 place cells parts=some out->kg r cells A.toList->
  parts.length=parts'.length->(∀(i:Nat) x y,parts[i]?=some x->parts'[i]?=some y->x.1=y.1/\VR r x.2 y.2)->∃B,Instr.fill place A parts'=some B/\kg r out B.toList
 | [],parts',cells,out,A,h,hA,hl,hp=>by
  cases parts' with
  | nil=>simp only[C8]at h;cases h;exact⟨A,rfl,hA⟩
  | cons _ _=>simp at hl
 | (i,v)::rest,parts',cells,out,A,h,hA,hl,hp=>by
  cases parts' with
  | nil=>simp at hl
  | cons y rest'=>
   obtain⟨i',v'⟩:=y
   obtain⟨hii,hv⟩:=hp 0 _ _ rfl rfl
   simp only at hii hv
   subst hii
   simp only[C8]at h
   split at h
   ·rename_i off size cs NR hcs
    split at h
    ·rename_i hb
     obtain⟨hb1,hb2⟩:=hb
     have hc:=HC hcs hv
     have hsz:v'.cells.size=size:=by rw[<-hb1];simpa using hc.1.symm
     have hAs:A.size=cells.length:=by simpa using hA.1.symm
     have arn:(Array.foldl (λcs (c,j)=>cs.setIfInBounds (off+j) c) A v'.cells.zipIdx).toList=A.toList.take off++v'.cells.toList++A.toList.drop (off+v'.cells.toList.length):=by
      rw[<-Array.foldl_toList,Array.toList_zipIdx]
      have:=I7 off v'.cells.toList 0 A (by simp;omega)
      simpa using this
     obtain⟨B,hB,hout⟩:=C9 (parts:=rest) (parts':=rest') (A:=Array.foldl (λcs (c,j)=>cs.setIfInBounds (off+j) c) A v'.cells.zipIdx) h (by
      rw[arn,<-hb1];exact hA.splice hc off) (by simpa using hl) (λj x y hx hy=>hp (j+1) x y (by simpa using hx) (by simpa using hy))
     refine⟨B,?_,hout⟩
     simp only[Instr.fill,NR]
     rw[if_neg (by simp[hsz];omega)]
     exact hB
    ·cases h
   ·cases h
def xk(P:Program)(fs:List Field):Option (List (Nat×Nat)):=fs.mapM λf=>(P.info? f.type).map λi=>(f.offset,i.size)
def Gg(P:Program)(t:TypeId)(parts:List (Nat×AV)):Option AV:=
 (wz P t).bind λzs=>
 match P.underlying t with
 | some (.struct fs)=>(xk P fs.toList).bind λps=>(C8 (ps[·]?) zs parts).map .agg
 | some (.array _ e)=>(P.info? e).bind λi=>(C8 (λj=>some (j*i.size,i.size)) zs parts).map .agg
 | _=>none
theorem run_places{P:Program}(w:World):∀(fs:List Field) (ps:List (Nat×Nat)),xk P fs=some ps->
  (fs.mapM (λf=>do pure (f.offset,<-sizeOf f.type)):Sem (List (Nat×Nat))).run P w=.ok ps w
 | [],ps,h=>by simp[xk]at h;subst h;rfl
 | f::fs,ps,h=>by
  simp only[xk,List.mapM_cons,bind,Option.bind_eq_some_iff,pure,Option.some.injEq]at h
  obtain⟨p,hp,qs,hq,rfl⟩:=h
  obtain⟨i,hi,rfl⟩:=Option.map_eq_some_iff.1 hp
  have ih:=run_places w fs qs hq
  rw[List.mapM_cons]
  simp only[Sem.run_bind,run_sizeOf w hi,Result.andThen_ok,Sem.run_pure,ih]
  simp[Program.cellsOf,hi]
theorem Oq{P:Program}{w:World}{α:Type}{f:Field->Sem α}{fs:Array Field}{ps:List α}(h:(fs.toList.mapM f).run P w=.ok ps w):(fs.mapM f).run P w=.ok ps.toArray w:=by
 rw[Array.mapM_eq_mapM_toList]
 simp[h]
theorem TD{P:Program}{r:Ren}{t:TypeId}{parts:List (Nat×AV)}{parts':Array (Nat×Value)}{v:AV}(h:Gg P t parts=some v)
  (hl:parts.length=parts'.size) (hp:∀(i:Nat) x y,parts[i]?=some x->parts'[i]?=some y->x.1=y.1/\VR r x.2 y.2):
  ∃v',VR r v v'/\∀w,(Instr.build t parts').run P w=.ok v' w:=by
 unfold Gg at h
 obtain⟨zs,hz,h⟩:=Option.bind_eq_some_iff.1 h
 obtain⟨i,z,hi,hzz,hrun,hvz⟩:=zw hz
 split at h
 ·rename_i fs hu
  obtain⟨ps,hps,h⟩:=Option.bind_eq_some_iff.1 h
  obtain⟨out,ho,rfl⟩:=Option.map_eq_some_iff.1 h
  obtain⟨B,hB,hout⟩:=C9 (parts':=parts'.toList) ho (hvz r) (by simpa using hl) (λj x y hx hy=>hp j x y hx (by simpa using hy))
  refine⟨.agg B,.agg _ _ (by simpa using hout.1) (λj a v ha hv=>hout.2 j a v ha (by simpa using hv)),λw=>?_⟩
  have h1:=Oq (run_places (P:=P) w fs.toList ps hps)
  have h2:Instr.fill (λx=>ps.toArray[x]?) z.cells parts'.toList=some B:=by simpa using hB
  simp only[Instr.build,Sem.run_bind,hrun,Result.andThen_ok,run_underlying hu,h1,h2,Sem.run_pure]
 ·rename_i n e hu
  obtain⟨ie,hie,h⟩:=Option.bind_eq_some_iff.1 h
  obtain⟨out,ho,rfl⟩:=Option.map_eq_some_iff.1 h
  obtain⟨B,hB,hout⟩:=C9 (parts':=parts'.toList) ho (hvz r) (by simpa using hl) (λj x y hx hy=>hp j x y hx (by simpa using hy))
  refine⟨.agg B,.agg _ _ (by simpa using hout.1) (λj a v ha hv=>hout.2 j a v ha (by simpa using hv)),λw=>?_⟩
  have hsz:P.cellsOf e=ie.size:=by simp[Program.cellsOf,hie]
  simp only[Instr.build,Sem.run_bind,hrun,Result.andThen_ok,run_underlying hu,run_sizeOf w hie,hsz,hB,Sem.run_pure]
 ·cases h
def acS(P:Program)(ts:List TypeId)(xs:List AV):Option AV:=
 match ts[0]?,xs[0]? with
 | some t,some x=>
  match P.underlying t with
  | some .string=>match x with | .str s=>some (.int .i64 s.size) | _=>none
  | some (.array n _)=>some (.int .i64 n)
  | some (.pointer arr)=>match P.underlying arr with | some (.array n _)=>some (.int .i64 n) | _=>none
  | some (.slice _)=>match x with | .slice _ n _=>some (.int .i64 n) | _=>none
  | some (.map _ _)=>match x with | .map none=>some (.int .i64 0) | _=>none
  | _=>none
 | _,_=>none
theorem ZW{P:Program}{r:Ren}{ts:Array TypeId}{ty:TypeId}{xs:List AV}{xs':Array Value}{v:AV}(h:acS P ts.toList xs=some v)(hx:kg r xs xs'.toList):
  ∃v',VR r v v'/\∀w,(Builtin.len_ ts ty xs').run P w=.ok v' w:=by
 unfold acS at h
 split at h
 ·rename_i t x ht hx0
  have hlt:0<xs'.toList.length:=by rw[<-hx.1];exact(sS hx0).1
  have hx0':xs'[0]?=some xs'.toList[0]:=by rw[<-Array.getElem?_toList];exact List.getElem?_eq_getElem hlt
  have hv:=hx.2 0 x _ hx0 (List.getElem?_eq_getElem hlt)
  have ht':ts[0]?=some t:=by rw[<-Array.getElem?_toList];exact ht
  generalize xs'.toList[0]=x' at hv hx0'
  split at h
  ·rename_i hu
   split at h
   ·cases h;cases hv;exact⟨_,.int _ _,λw=>by simp[Builtin.len_,ht',hx0',run_underlying hu,goInt]⟩
   ·cases h
  ·rename_i hu
   cases h;exact⟨_,.int _ _,λw=>by simp[Builtin.len_,ht',hx0',run_underlying hu,goInt]⟩
  ·rename_i arr hu
   split at h
   ·rename_i Pa;cases h;exact⟨_,.int _ _,λw=>by simp[Builtin.len_,ht',hx0',run_underlying hu,run_underlying Pa,goInt]⟩
   ·cases h
  ·rename_i hu
   split at h
   ·cases h;cases hv<;>exact⟨_,.int _ _,λw=>by simp[Builtin.len_,ht',hx0',run_underlying hu,goInt]⟩
   ·cases h
  ·rename_i hu
   split at h
   ·cases h;cases hv;exact⟨_,.int _ _,λw=>by simp[Builtin.len_,ht',hx0',run_underlying hu,goInt]⟩
   ·cases h
  ·cases h
 ·cases h
def akP(mx:Bool)(x y:AV):Option AV:=
 match x,y with
 | .int k a,.int _ b=>some (.int k (if mx then(if b>a then b else a)else(if b<a then b else a)))
 | _,_=>none
def IY(mx:Bool):AV->List AV->Option AV
 | x,[]=>some x
 | x,y::ys=>(akP mx x y).bind λz=>IY mx z ys
theorem Hi{P:Program}{r:Ren}:∀{ys:List AV} {ys':List Value} {x v:AV} {x':Value},IY true x ys=some v->VR r x x'->kg r ys ys'->∃v',VR r v v'/\∀w,(ys'.foldlM Builtin.max2 x').run P w=.ok v' w
 | [],ys',x,v,x',h,hx,hy=>by
  cases ys' with
  | nil=>simp only[IY]at h;cases h;exact⟨x',hx,λw=>rfl⟩
  | cons _ _=>have:=hy.1;simp at this
 | y::ys,ys',x,v,x',h,hx,hy=>by
  obtain⟨y',aCE,rfl,hy1,Ve⟩:=hy.jL
  simp only[IY]at h
  obtain⟨z,hz,h⟩:=Option.bind_eq_some_iff.1 h
  unfold akP at hz
  split at hz
  ·cases hz
   cases hx;cases hy1
   obtain⟨v',hv,hr⟩:=Hi h (.int _ _) Ve
   exact⟨v',hv,λw=>by rw[List.foldlM_cons];simpa[Builtin.max2]using hr w⟩
  ·cases hz
theorem Hj{P:Program}{r:Ren}:∀{ys:List AV} {ys':List Value} {x v:AV} {x':Value},IY false x ys=some v->VR r x x'->kg r ys ys'->∃v',VR r v v'/\∀w,(ys'.foldlM Builtin.min2 x').run P w=.ok v' w
 | [],ys',x,v,x',h,hx,hy=>by
  cases ys' with
  | nil=>simp only[IY]at h;cases h;exact⟨x',hx,λw=>rfl⟩
  | cons _ _=>have:=hy.1;simp at this
 | y::ys,ys',x,v,x',h,hx,hy=>by
  obtain⟨y',aCE,rfl,hy1,Ve⟩:=hy.jL
  simp only[IY]at h
  obtain⟨z,hz,h⟩:=Option.bind_eq_some_iff.1 h
  unfold akP at hz
  split at hz
  ·cases hz
   cases hx;cases hy1
   obtain⟨v',hv,hr⟩:=Hj h (.int _ _) Ve
   exact⟨v',hv,λw=>by rw[List.foldlM_cons];simpa[Builtin.min2]using hr w⟩
  ·cases hz
def PJ(P:Program)(b:Builtin)(ts:List TypeId)(xs:List AV):Option AV:=
 match b with
 | .len=>acS P ts xs
 | .max=>match xs with | x::ys=>IY true x ys | []=>none
 | .min=>match xs with | x::ys=>IY false x ys | []=>none
 | _=>none
def TC(P:Program)(t:TypeId)(x:AV):Option AV:=
 match P.underlying t,x with
 | some (.array n _),.slice (some (i,o)) len _=>if n<=len/\0<len then some (.ptr (some (i,o)))else none
 | _,_=>none
theorem ZU{P:Program}{r:Ren}{t:TypeId}{x v:AV}{x':Value}(h:TC P t x=some v)(hx:VR r x x'):∃v',VR r v v'/\∀w,(Instr.arrayAt t x').run P w=.ok v' w:=by
 unfold TC at h
 split at h
 ·rename_i n e i o len c hu
  split at h
  ·rename_i hb
   cases h
   cases hx with
   | slice len c hr=>exact⟨_,.ptr hr,λw=>by simp[Instr.arrayAt,run_underlying hu,Nat.not_lt.2 hb.1]⟩
   | ec len size cap hr hc hl=>exact⟨_,.ptr hr,λw=>by simp[Instr.arrayAt,run_underlying hu,Nat.not_lt.2 hb.1]⟩
   | lC a=>omega
   | gF a size hr=>omega
  ·cases h
 ·cases h
def qj(P:Program)(ρ:Operand->AV)(op:Op):Option AV:=
 match op with
 | .sliceToArrayPointer t x=>TC P t (ρ x)
 | .move x=>some (ρ x)
 | .assign x=>some (ρ x)
 | .pick c a b=>match ρ c with | .bool t=>some (if t then ρ a else ρ b) | _=>none
 | .build t parts=>Gg P t (parts.toList.map λp=>(p.1,ρ p.2))
 | .nilCheck x=>Ya (ρ x)
 | .binOp op t x y _=>if yY (ρ x)then J9 P op t (ρ x) (ρ y)else Hh op (ρ x) (ρ y)
 | .unOp op _ x=>akQ op (ρ x)
 | .convert src dst x=>VN P src dst (ρ x)
 | .makeFunc (.func f) first captured=>some (.func f (first.toList.map ρ) (captured.toList.map ρ))
 | .slice t x lo hi mx=>Dc P t (ρ x) (lo.map ρ) (hi.map ρ) (mx.map ρ)
 | .fieldAddr t x f=>xg P t (ρ x) f
 | .field t x f=>IV P t (ρ x) f
 | .indexAddr t x i=>um P t (ρ x) (ρ i)
 | .index t x i=>Gk P t (ρ x) (ρ i)
 | .extract t i=>Gj (ρ t) i
 | .call c=>match c.callee with | .builtin b=>PJ P b c.argTypes.toList (c.args.toList.map ρ) | _=>none
 | _=>none
theorem Cx{r:Ren}{ρ:Operand->AV}{ρ':Operand->Value}(hρ:∀x,VR r (ρ x) (ρ' x))(xs:Array Operand):kg r (xs.toList.map ρ) (xs.map ρ').toList:=by
 rw[Array.toList_map]
 exact kg.map _ _ _ λx _=>hρ x
theorem afZ{r:Ren}{ρ:Operand->AV}{ρ':Operand->Value}(hρ:∀x,VR r (ρ x) (ρ' x))(f:FuncId)(a b:Array Operand):
  VR r (.func f (a.toList.map ρ) (b.toList.map ρ)) (.func (.func f) (a.map ρ') (b.map ρ')):=by
 have h1:=Cx hρ a
 have h2:=Cx hρ b
 exact .func f _ _ _ _ (by simp) (by simp) (λi x v hx hv=>h1.2 i x v hx (by simpa using hv)) (λi x v hx hv=>h2.2 i x v hx (by simpa using hv))
theorem ZX{P:Program}{r:Ren}{x v:AV}{x':Value}(h:Ya x=some v)(hx:VR r x x')(o:Oper)(ρ':Operand->Value)(y:Operand)(ho:o.op=.nilCheck y)(hy:ρ' y=x'):
  ∃v',VR r v v'/\∀w,(execOp ρ' o).run P w=.ok (.value v') w:=by
 unfold Ya at h
 split at h
 ·cases h
  refine⟨x',hx,λw=>?_⟩
  cases hx
  simp[execOp,ho,hy]
 ·cases h
  refine⟨x',hx,λw=>?_⟩
  cases hx
  simp[execOp,ho,hy]
 ·cases h
theorem VW{P:Program}{r:Ren}{ρ:Operand->AV}{ρ':Operand->Value}(hρ:∀x,VR r (ρ x) (ρ' x))(o:Oper){v:AV}(h:qj P ρ o.op=some v):
  ∃v',VR r v v'/\∀w,(execOp ρ' o).run P w=.ok (.value v') w:=by
 have wrap:∀{s:Sem Value},(∃v',VR r v v'/\∀w,s.run P w=.ok v' w)->execOp ρ' o=(do pure (.value (<-s)))->∃v',VR r v v'/\∀w,(execOp ρ' o).run P w=.ok (.value v') w:=by
  intro s ⟨v',hv,hs⟩ he
  exact⟨v',hv,λw=>by rw[he];simp[hs]⟩
 unfold qj at h
 cases hop:o.op<;>simp only[hop]at h<;>try (cases h;done)
 case move x=>cases h;exact⟨_,hρ x,λw=>by simp[execOp,hop]⟩
 case assign x=>cases h;exact⟨_,hρ x,λw=>by simp[execOp,hop]⟩
 case pick c a b=>
  split at h
  ·rename_i t ht
   cases h
   have hc:=hρ c
   rw[ht]at hc
   refine⟨if t then ρ' a else ρ' b,by cases t<;>simp<;>exact hρ _,λw=>?_⟩
   cases hc':ρ' c<;>rw[hc']at hc<;>cases hc
   simp[execOp,hop,hc',asBool]
  ·cases h
 case build t parts=>
  refine wrap (TD (parts':=parts.map λp=>(p.1,ρ' p.2)) h (by simp) λi x y hx hy=>?_) (by simp[execOp,hop])
  rw[List.getElem?_map]at hx
  rw[Array.getElem?_map,<-Array.getElem?_toList]at hy
  cases hq:parts.toList[i]? with
  | none=>simp[hq]at hx
  | some p=>rw[hq]at hx hy;simp at hx hy;subst hx;subst hy;exact⟨rfl,hρ _⟩
 case nilCheck x=>exact ZX h (hρ x) o ρ' x hop rfl
 case binOp op t x y u=>
  split at h
  ·rename_i hn
   exact wrap (VQ h hn (hρ x) (hρ y) x y) (by simp[execOp,hop])
  ·exact wrap (ZV (t:=t) h (hρ x) (hρ y) x y) (by simp[execOp,hop])
 case unOp op t x=>exact wrap (acT h (hρ x)) (by simp[execOp,hop])
 case convert s d x=>exact wrap (VO h (hρ x)) (by simp[execOp,hop])
 case makeFunc fn a b=>
  cases fn<;>simp only at h<;>try (cases h;done)
  cases h
  exact⟨_,afZ hρ _ a b,λw=>by simp[execOp,hop,Instr.makeFunc]⟩
 case slice t x lo hi mx=>exact wrap (TJ h (hρ x) (U5.map hρ lo) (U5.map hρ hi) (U5.map hρ mx)) (by simp[execOp,hop])
 case fieldAddr t x f=>exact wrap (LP h (hρ x)) (by simp[execOp,hop])
 case field t x f=>exact wrap (TF h (hρ x)) (by simp[execOp,hop])
 case indexAddr t x i=>exact wrap (LQ h (hρ x) (hρ i)) (by simp[execOp,hop])
 case index t x i=>exact wrap (TG h (hρ x) (hρ i)) (by simp[execOp,hop])
 case sliceToArrayPointer t x=>exact wrap (ZU h (hρ x)) (by simp[execOp,hop])
 case extract t i=>exact wrap (O1 h (hρ t)) (by simp[execOp,hop])
 case call c=>
  split at h
  ·rename_i b hb
   have hargs:=Cx hρ c.args
   have he:execOp ρ' o=builtin b c.argTypes o.type (c.args.map λ| .const _=>true | _=>false) (c.args.map ρ'):=by simp[execOp,hop,resolve,hb,invoke];rfl
   unfold PJ at h
   split at h
   ·refine wrap (ZW (ty:=o.type) h hargs) (by rw[he];simp[builtin])
   ·split at h
    ·rename_i x ys hxs
     rw[hxs]at hargs
     obtain⟨x',ys',alK,hx,hys⟩:=hargs.jL
     refine wrap (s:=Builtin.max_ c.argTypes o.type (c.args.map ρ')) ?_ (by rw[he];simp[builtin])
     obtain⟨v',hv,hr⟩:=Hi (P:=P) h hx hys
     exact⟨v',hv,λw=>by unfold Builtin.max_;rw[alK];exact hr w⟩
    ·cases h
   ·split at h
    ·rename_i x ys hxs
     rw[hxs]at hargs
     obtain⟨x',ys',alK,hx,hys⟩:=hargs.jL
     refine wrap (s:=Builtin.min_ c.argTypes o.type (c.args.map ρ')) ?_ (by rw[he];simp[builtin])
     obtain⟨v',hv,hr⟩:=Hj (P:=P) h hx hys
     exact⟨v',hv,λw=>by unfold Builtin.min_;rw[alK];exact hr w⟩
    ·cases h
   ·cases h
  ·cases h
def cT:AV->Bool
 | .fJ=>false
 | .agg _=>false
 | .dJ _=>false
 | _=>true
theorem Wo{r:Ren}{a:AV}{v:Value}(h:cT a=true)(hv:VR r a v):v.oneCell'=true:=by
 cases hv<;>first | rfl | (simp[cT]at h)
theorem NV{r:Ren}{as:List AV}{vs:List Value}(h:as.all cT=true)(hv:kg r as vs):∀v∈vs,v.oneCell'=true:=by
 intro v hm
 obtain⟨i,hi⟩:=List.getElem?_of_mem hm
 have hlt:i<as.length:=by rw[hv.1];exact(sS hi).1
 have ha:as[i]?=some as[i]:=List.getElem?_eq_getElem hlt
 exact Wo (List.all_eq_true.1 h _ (Hq ha)) (hv.2 i _ v ha hi)
structure Made(P:Program)(r:Ren)(ob:Option cK)(mk:Nat->AV)(s:Sem Value):Prop where
 ro:True
 run:∀w,∃row v' w',s.run P w=.ok v' w'/\w'.heap.size=w.heap.size+1/\Env w w'/\(∀b,b<w.heap.size->w'.heap[b]?=w.heap[b]?)/\
  (∀x,ob=some x->∀r':Ren,r.le r'->OR r' w' ⟨w.heap.size,0,row⟩ x)/\(∀r' i,r'.le r'->r' i=some ⟨w.heap.size,0,row⟩->VR r' (mk i) v')
theorem se(w:World)(o:Obj):(w.alloc o).heap[w.heap.size]?=some o:=by
 show(w.heap.push o)[w.heap.size]?=some o
 simp
theorem alloc_old{w:World}{o:Obj}{i:Nat}(h:i<w.heap.size):(w.alloc o).heap[i]?=w.heap[i]?:=by
 show(w.heap.push o)[i]?=w.heap[i]?
 rw[Array.getElem?_push,if_neg (Nat.ne_of_lt h)]
theorem MD{r:Ren}{w:World}{cs:List AV}{C:Array Value}{e:TypeId}(h:kg r cs C.toList):∀r':Ren,r.le r'->OR r' (w.alloc (.cells C e)) ⟨w.heap.size,0,C.size⟩ (.cells cs false):=by
 intro r' hr
 refine⟨C,e,(0,0),se w _,cF _,?_,λi a v ha hv=>?_,λ_ off _=>by simp⟩
 ·have:=h.1;simp at this;simp[this]
 ·simp only[Nat.zero_add]at hv
  rw[<-Array.getElem?_toList]at hv
  exact(h.2 i a v ha hv).mono hr
theorem apW{r:Ren}{w:World}{cs:List AV}{C:Array Value}{e:TypeId}(h:kg r cs C.toList):∀r':Ren,r.le r'->OR r' (w.alloc (.cells C e)) ⟨w.heap.size,0,C.size⟩ (.tc e cs true):=by
 intro r' hr
 have hl:cs.length=C.size:=by simpa using h.1
 refine⟨C,se w _,rfl,rfl,by omega,λ_=>hl.symm,(λh=>by cases h),λi a v ha hv=>?_⟩
 rw[<-Array.getElem?_toList]at hv
 exact(h.2 i a v ha hv).mono hr
def vf(n:Nat)(zs:List AV):List AV:=(List.range n).map λi=>zs.getD (i % zs.length) .fJ
theorem NA{r:Ren}{zs:List AV}{zero:Array Value}(h:kg r zs zero.toList)(n:Nat):
  kg r (vf n zs) ((Array.range n).map (zero[· % zero.size]!)).toList:=by
 have hl:zs.length=zero.size:=by simpa using h.1
 unfold vf
 rw[Array.toList_map,Array.toList_range]
 refine kg.map _ _ _ λi _=>?_
 rw[hl]
 rcases Nat.eq_zero_or_pos zero.size with h0 | h0
 ·have:zs=[]:=List.eq_nil_of_length_eq_zero (by omega)
  subst this
  simp;exact .fJ _
 ·have hlt:i % zero.size<zero.size:=Nat.mod_lt _ h0
  have h1:zs[i % zero.size]?=some (zs[i % zero.size]'(by omega)):=List.getElem?_eq_getElem (by omega)
  rw[List.getD_eq_getElem?_getD,h1]
  have h2:zero.toList[i % zero.size]?=some (zero[i % zero.size]):=by simp[hlt]
  have:=h.2 _ _ _ h1 h2
  simpa[getElem!_pos,hlt]using this
def mkObj(e:TypeId)(zs:List AV):cK:=match aty atz e with | true=>.tc e zs true | false=>.cells zs false
def nw(P:Program)(ρ:Operand->AV)(op:Op):Option (Option cK×(Nat->AV)):=
 match op with
 | .alloc e=>(wz P e).map λzs=>(some (mkObj e zs),λi=>.ptr (some (i,0)))
 | .box e x=>(HB (ρ x)).map λcs=>(some (mkObj e cs),λi=>.ptr (some (i,0)))
 | .buildSlice t len parts=>
  match P.underlying t with
  | some (.slice e)=>(P.info? e).bind λinf=>
   if len*inf.size>2 ^ 24 then none else
   (wz P e).bind λzs=>
   (C8 (λj=>some (j*inf.size,inf.size)) (vf (len*inf.size) zs) (parts.toList.map λp=>(p.1,ρ p.2))).map λcs=>
    (some (.cells cs false),λi=>.slice (some (i,0)) len (.known len))
  | _=>none
 | .makeMap t none=>some (some (.map [] 0),λi=>.map (some i))
 | .makeMap t (some x)=>(match P.underlying t,ρ x with | some (.map _ _),.int _ _=>some (none,λi=>.map (some i)) | _,_=>none)
 | .makeSlice t l c=>
  match P.underlying t,ρ l,ρ c with
  | some (.slice e),.int _ l,.int _ c=>(P.info? e).bind λinf=>(wz P e).bind λzs=>
   if 0<=IntKind.i64.wrap l/\IntKind.i64.wrap l<=IntKind.i64.wrap c/\¬(inf.bytes*IntKind.i64.wrap c>2 ^ 48)then
    some (some (.cells (vf ((IntKind.i64.wrap c).toNat*inf.size) zs) false),λi=>.slice (some (i,0)) (IntKind.i64.wrap l).toNat (.known (IntKind.i64.wrap c).toNat))
   else none
  | _,_,_=>none
 | .convert s d x=>
  match P.underlying s,P.underlying d,ρ x with
  | some _,some (.slice e),.str b=>match P.underlying e with
   | some (.int .u8)=>some (some (.cells (b.data.toList.map λc=>.int .u8 c.toNat) false),λi=>.slice (some (i,0)) b.size (.rest 1))
   | _=>none
  | _,_,_=>none
 | .range t x=>
  match P.underlying t,ρ x with
  | some .string,.str b=>some (some (.tE b 0),λi=>.ptr (some (i,0)))
  | _,_=>none
 | _=>none
theorem Sr{r:Ren}{w:World}{cs:List AV}{C:Array Value}{e:TypeId}(h:kg r cs C.toList):∀r':Ren,r.le r'->OR r' (w.alloc (.cells C e)) ⟨w.heap.size,0,C.size⟩ (mkObj e cs):=by
 unfold mkObj
 split
 ·exact apW h
 ·exact MD h
theorem B5(w:World)(a:Addr)(n:Nat):(w.freeze a n).heap.size=w.heap.size:=by
 unfold World.freeze;split
 ·rfl
 ·simp
theorem TB{P:Program}{r:Ren}{ρ:Operand->AV}{ρ':Operand->Value}(hρ:∀x,VR r (ρ x) (ρ' x))(o:Oper){ob:Option cK}{mk:Nat->AV}(h:nw P ρ o.op=some (ob,mk)):
  ∃s,execOp ρ' o=(do pure (.value (<-s)))/\Made P r ob mk s:=by
 unfold nw at h
 cases hop:o.op<;>simp only[hop]at h<;>try (cases h;done)
 case alloc e=>
  obtain⟨zs,hz,h⟩:=Option.map_eq_some_iff.1 h
  cases h
  obtain⟨i,z,hi,hzz,hrun,hvz⟩:=zw hz
  refine⟨Instr.alloc e true (.tuple #[]),by simp only[execOp,hop],trivial,λw=>⟨z.cells.size,.pointer (some ⟨w.heap.size,0,none⟩),w.alloc (.cells z.cells e),by simp only[Instr.alloc,Sem.run_bind,hrun,Result.andThen_ok,newVar,newRow,run_newObj,Sem.run_pure,World.alloc_eq],World.size_alloc ..,⟨rfl,rfl,rfl,λ_=>cF _⟩,λb hb=>alloc_old hb,(λx e'=>by cases e';exact Sr (hvz r)),λr' i _ hi=>?_⟩⟩
  exact .ptr (t:=⟨w.heap.size,0,z.cells.size⟩) hi
 case box e x=>
  obtain⟨cs,hc,h⟩:=Option.map_eq_some_iff.1 h
  cases h
  have hv:=HC hc (hρ x)
  refine⟨Instr.box e (ρ' x),by simp only[execOp,hop],trivial,λw=>⟨(ρ' x).cells.size,.pointer (some ⟨w.heap.size,0,none⟩),w.alloc (.cells (ρ' x).cells e),by simp only[Instr.box,Sem.run_bind,Result.andThen_ok,newVar,newRow,run_newObj,Sem.run_pure,World.alloc_eq],World.size_alloc ..,⟨rfl,rfl,rfl,λ_=>cF _⟩,λb hb=>alloc_old hb,(λx e'=>by cases e';exact Sr hv),λr' i _ hi=>?_⟩⟩
  exact .ptr (t:=⟨w.heap.size,0,_⟩) hi
 case buildSlice t len parts=>
  split at h
  ·rename_i e hu
   obtain⟨inf,xS,h⟩:=Option.bind_eq_some_iff.1 h
   split at h
   ·cases h
   ·rename_i hsmall
    obtain⟨zs,hz,h⟩:=Option.bind_eq_some_iff.1 h
    obtain⟨cs,hc,h⟩:=Option.map_eq_some_iff.1 h
    cases h
    obtain⟨i,z,hi,hzz,hrun,hvz⟩:=zw hz
    have hsz:P.cellsOf e=inf.size:=by simp[Program.cellsOf,xS]
    have ajj:∀w,((if len*inf.size=0 then pure #[]else do pure (<-zeroValue e).cells):Sem (Array Value)).run P w=.ok (if len*inf.size=0 then #[]else z.cells) w:=by
     intro w;split<;>simp[hrun]
    have adt:kg r (vf (len*inf.size) zs) ((Array.range (len*inf.size)).map ((if len*inf.size=0 then #[]else z.cells)[· % (if len*inf.size=0 then #[]else z.cells).size]!)).toList:=by
     split
     ·rename_i h0;rw[h0];simp[vf];exact kg.nil
     ·exact NA (hvz r) _
    obtain⟨B,hB,hout⟩:=C9 (parts':=(parts.map λp=>(p.1,ρ' p.2)).toList) hc adt (by simp) (λi x y hx hy=>by
     rw[List.getElem?_map]at hx
     rw[Array.toList_map,List.getElem?_map]at hy
     cases hq:parts.toList[i]? with
     | none=>simp[hq]at hx
     | some p=>rw[hq]at hx hy;simp at hx hy;subst hx;subst hy;exact⟨rfl,hρ _⟩)
    refine⟨Instr.buildSlice t len (parts.map λ(i,x)=>(i,ρ' x)),by simp only[execOp,hop],trivial,λw=>⟨B.size,.slice (some ⟨w.heap.size,0,none⟩) len len,w.alloc (.cells B e),?_,World.size_alloc ..,⟨rfl,rfl,rfl,λ_=>cF _⟩,λb hb=>alloc_old hb,(λx e=>by cases e;exact MD hout),λr' i _ hi=>?_⟩⟩
    ·have hs2:¬(16777216<len*inf.size):=by simpa using hsmall
     by_cases hn:len*inf.size=0
     ·rw[hn]at hB
      simp only[if_true]at hB
      simp[Instr.buildSlice,run_underlying hu,run_sizeOf w xS,hsz,hn]
      simp at hB
      simp[hB,newRow]
     ·simp only[hn,if_false]at hB
      simp[Instr.buildSlice,run_underlying hu,run_sizeOf w xS,hsz,hn,hs2,hrun]
      simp at hB
      simp[hB,newRow]
    ·exact .slice (t:=⟨w.heap.size,0,_⟩) len len hi
  ·cases h
 case makeMap t res=>
  cases res with
  | none=>
   simp only at h
   cases h
   refine⟨Instr.makeMap t none,by simp only[execOp,hop,Option.map_none],trivial,λw=>⟨0,_,_,by simp only[Instr.makeMap,Sem.run_bind,Sem.run_pure,run_newObj,Result.andThen_ok,World.alloc_eq];rfl,World.size_alloc ..,⟨rfl,rfl,rfl,λ_=>cF _⟩,λb hb=>alloc_old hb,(λx e=>by cases e;exact λr' _=>⟨#[],se w _,⟨[],.nil,rfl,λi x e hx=>by simp at hx⟩,.nil⟩),λr' i _ hi=>?_⟩⟩
   exact .map (t:=⟨w.heap.size,0,0⟩) hi
  | some x=>
   simp only at h
   split at h
   ·rename_i kt e k n hu hx
    cases h
    have hx':=hρ x
    rw[hx]at hx'
    obtain⟨hx'⟩:∃_:True,ρ' x=.int k n:=⟨trivial,by cases hq:ρ' x<;>rw[hq]at hx'<;>cases hx';rfl⟩
    rename_i adu
    refine⟨Instr.makeMap t (some (ρ' x)),by simp only[execOp,hop,Option.map_some],trivial,λw=>⟨0,_,_,by simp only[Instr.makeMap,adu,asInt,asIntOf,run_underlying hu,Sem.run_bind,Sem.run_pure,run_newObj,Result.andThen_ok,World.alloc_eq];rfl,World.size_alloc ..,⟨rfl,rfl,rfl,λ_=>cF _⟩,λb hb=>alloc_old hb,(λx e=>by cases e),λr' i _ hi=>?_⟩⟩
    exact .map (t:=⟨w.heap.size,0,0⟩) hi
   ·cases h
 case makeSlice t l c=>
  split at h
  ·rename_i e kl ln kc cn hu hl hc
   obtain⟨inf,xS,h⟩:=Option.bind_eq_some_iff.1 h
   obtain⟨zs,hz,h⟩:=Option.bind_eq_some_iff.1 h
   split at h
   ·rename_i hb
    obtain⟨h0,h1,h2⟩:=hb
    cases h
    obtain⟨i,z,hi,hzz,hrun,hvz⟩:=zw hz
    have hsz:P.cellsOf e=inf.size:=by simp[Program.cellsOf,xS]
    have hl':=hρ l
    have hc':=hρ c
    rw[hl]at hl'
    rw[hc]at hc'
    obtain⟨hl'⟩:∃_:True,ρ' l=.int kl ln:=⟨trivial,by cases hq:ρ' l<;>rw[hq]at hl'<;>cases hl';rfl⟩
    obtain⟨hc'⟩:∃_:True,ρ' c=.int kc cn:=⟨trivial,by cases hq:ρ' c<;>rw[hq]at hc'<;>cases hc';rfl⟩
    rename_i axX axu
    have adt:kg r (vf ((IntKind.i64.wrap cn).toNat*inf.size) zs) ((Array.range ((IntKind.i64.wrap cn).toNat*inf.size)).map ((if(IntKind.i64.wrap cn).toNat*inf.size=0 then #[]else z.cells)[· % (if(IntKind.i64.wrap cn).toNat*inf.size=0 then #[]else z.cells).size]!)).toList:=by
     split
     ·rename_i h0;rw[h0];simp[vf];exact kg.nil
     ·exact NA (hvz r) _
    refine⟨Instr.makeSlice t (ρ' l) (ρ' c),by simp only[execOp,hop],trivial,λw=>⟨_,.slice (some ⟨w.heap.size,0,none⟩) (IntKind.i64.wrap ln).toNat (IntKind.i64.wrap cn).toNat,w.alloc (.cells _ e),?_,World.size_alloc ..,⟨rfl,rfl,rfl,λ_=>cF _⟩,λb hb=>alloc_old hb,(λx e=>by cases e;exact MD adt),λr' i _ hi=>?_⟩⟩
    ·have ajj:∀w,((if(IntKind.i64.wrap cn).toNat*inf.size=0 then pure #[]else do pure (<-zeroValue e).cells):Sem (Array Value)).run P w=.ok (if(IntKind.i64.wrap cn).toNat*inf.size=0 then #[]else z.cells) w:=by
      intro w;split<;>simp[hrun]
     have ari:((decide (IntKind.i64.wrap cn<0)||decide (inf.bytes*IntKind.i64.wrap cn>2 ^ 48))||decide (IntKind.i64.wrap ln<0)||decide (IntKind.i64.wrap ln>IntKind.i64.wrap cn))=false:=by
      simp only[Bool.or_eq_false_iff,decide_eq_false_iff_not]
      refine⟨⟨⟨by omega,h2⟩,by omega⟩,by omega⟩
     by_cases hn:(IntKind.i64.wrap cn).toNat*inf.size=0
     all_goals
      simp only[Instr.makeSlice,Sem.run_bind,run_underlying hu,Result.andThen_ok,axX,axu,asInt,asIntOf,Sem.run_pure,typeInfo,run_program,xS,ari,Bool.false_eq_true,if_false,run_askRoom,run_sizeOf w xS,hsz,hn,if_true,hrun]
      simp[newRow]
    ·exact .slice (t:=⟨w.heap.size,0,_⟩) _ _ hi
   ·cases h
  ·cases h
 case convert s d x=>
  split at h
  ·rename_i ds e b hs hd hx
   split at h
   ·rename_i he
    cases h
    have hx':=hρ x
    rw[hx]at hx'
    have adu:ρ' x=.string b:=by cases hq:ρ' x<;>rw[hq]at hx'<;>cases hx';rfl
    refine⟨convert s d (ρ' x),by simp only[execOp,hop],trivial,λw=>?_⟩
    have hcap:=grownCap_ge w b.size 0 e
    generalize Z9:grownCap w b.size 0 e=cap at hcap
    have alm:(Question.appendCap b.size 0 e).cut (w.tape w.drawn (.appendCap b.size 0 e))=cap:=Z9
    let C:Array Value:=b.data.map (λc=>Value.int .u8 c.toNat)++Array.replicate (cap - b.size) (.int .u8 0)
    have hCs:C.size=cap:=by
     have:b.data.size=b.size:=rfl
     simp[C,this];omega
    refine⟨cap,.slice (some ⟨w.heap.size,0,none⟩) b.size cap,(w.drew.alloc (.cells C e)).freeze {block:=w.heap.size,off:=cap} 1,?_,?_,?_,?_,?_,?_⟩
    ·have hsh:(w.drew.alloc (.cells C e)).shape? w.heap.size=some (e,cap):=by
      have:=se w.drew (.cells C e)
      simp only[World.size_drew]at this
      unfold World.shape?
      rw[this]
      simp[hCs]
     simp only[convert,Sem.run_bind,run_underlying hs,run_underlying hd,run_underlying he,Result.andThen_ok,adu,Conv.stringToBytes,run_choose,Question.forced,Bool.false_eq_true,if_false,alm,World.drew_eq,newRow,run_newObj,World.alloc_eq,Sem.run_pure,World.size_drew,markStringish,run_shape]
     simp only[C]at hsh
     simp only[hsh,Sem.run_bind,run_freeze,Result.andThen_ok,Sem.run_pure]
     rfl
    ·rw[B5,World.size_alloc];rfl
    ·unfold World.freeze;rw[if_neg (by omega)];exact⟨rfl,rfl,rfl,λ_=>dW _⟩
    ·intro b' hb'
     have h1:(w.drew.alloc (.cells C e)).heap[b']?=w.heap[b']?:=alloc_old (w:=w.drew) hb'
     rw[<-h1]
     unfold World.freeze
     rw[if_neg (by omega)]
     rw[Array.getElem?_modify,if_neg (by simp;omega)]
    ·intro x0 hx0 r' hr
     cases hx0
     refine⟨C,e,(cap,cap+1),?_,by simp[hCs],?_,λi a v ha hv=>?_,λ_ off ho=>by simp only;omega⟩
     ·have h1:=se w.drew (.cells C e)
      simp only[World.size_drew]at h1
      unfold World.freeze
      rw[if_neg (by omega)]
      simp only[]
      rw[Array.getElem?_modify,if_pos rfl,h1]
      simp
     ·have:b.data.toList.length=b.size:=rfl
      simp[this];omega
     ·simp only[Nat.zero_add]at hv
      rw[List.getElem?_map]at ha
      cases hq:b.data.toList[i]? with
      | none=>simp[hq]at ha
      | some c=>
       rw[hq]at ha
       simp at ha
       have hlt:i<b.data.size:=by simpa using(sS hq).1
       have:C[i]?=some (.int .u8 c.toNat):=by
        simp only[C]
        rw[Array.getElem?_append_left (by simpa using hlt),Array.getElem?_map,<-Array.getElem?_toList,hq]
        rfl
       rw[this]at hv
       cases hv
       subst ha
       exact .int _ _
    ·intro r' i _ hi
     exact .ec (t:=⟨w.heap.size,0,cap⟩) _ 1 cap hi (by simp) hcap
   ·cases h
  ·cases h
 case range t x=>
  split at h
  ·rename_i b hu hx
   cases h
   have hx':=hρ x
   rw[hx]at hx'
   have adu:ρ' x=.string b:=by cases hq:ρ' x<;>rw[hq]at hx'<;>cases hx';rfl
   refine⟨Instr.range t (ρ' x),by simp only[execOp,hop],trivial,λw=>⟨0,_,_,by simp only[Instr.range,Sem.run_bind,run_underlying hu,Result.andThen_ok,adu,Sem.run_pure,run_newObj,World.alloc_eq];rfl,World.size_alloc ..,⟨rfl,rfl,rfl,λ_=>cF _⟩,λb hb=>alloc_old hb,(λx e=>by cases e;exact λr' _=>⟨se w _,rfl⟩),λr' i _ hi=>?_⟩⟩
   exact .ptr (t:=⟨w.heap.size,0,0⟩) hi
  ·cases h
end Go.Ev
