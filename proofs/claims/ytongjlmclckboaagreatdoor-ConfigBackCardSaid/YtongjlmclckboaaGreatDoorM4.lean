/- Own texts, joined: . -/
import Derived.Test.YtongjlmclckboaaGreatDoorM3
import Derived.Scope
import Derived.ProofKit
import Derived.OpenShut
import Derived.ShutString
import Derived.ChangeOld
import Derived.Below
import Derived.Carry
import Derived.SizedLaws
import Derived.Laws.Strings
import Derived.Lib.Bytealg
import Derived.Laws.RangeString
set_option linter.all false
namespace Go.Ev
section
variable {β:Type}
def HN(P:Program)(t:TypeId)(x:AV)(f:Nat)(k:AV->Option β):Option β:=
  match P.underlying t with
  | some (.struct fs)=>
    (match fs[f]? with
     | none=>none
     | some fd=>match P.info? fd.type with
       | none=>none
       | some inf=>match Nat.beq inf.size 0 with | true=>none | false=>cZ x λp=>aC p λb o=>k (.ptr (some (b,o+fd.offset))))
  | _=>none
theorem LR{P:Program}{t:TypeId}{y:AV}{f:Nat}{k:AV->Option β}{x:β}(e:HN P t y f k=some x):∃v,xg P t y f=some v/\k v=some x:=by
 unfold HN at e
 split at e
 ·rename_i fs hu
  split at e
  ·cases e
  ·rename_i fd hf
   split at e
   ·cases e
   ·rename_i inf hi
    have hc:P.cellsOf fd.type=inf.size:=by simp[Program.cellsOf,hi]
    split at e
    ·cases e
    ·rename_i hz
     obtain⟨p,hx,e'⟩:=gL e
     clear e;subst hx;have e:=e';clear e'
     unfold aC at e
     split at e
     ·have hne:inf.size≠0:=λh0=>by rw[h0]at hz;cases hz
      refine⟨_,?_,e⟩
      simp[xg,hu,hf,hi,hc,hne]
     ·cases e
 ·cases e
def V5(P:Program)(t:TypeId)(x:AV)(f:Nat)(k:AV->Option β):Option β:=
 match P.underlying t with
 | some (.struct fs)=>(match fs[f]? with | none=>none | some fd=>asAgg x λcs=>YU P fd.type cs fd.offset k)
 | _=>none
theorem TM{P:Program}{t:TypeId}{y:AV}{f:Nat}{k:AV->Option β}{x:β}(e:V5 P t y f k=some x):∃v,IV P t y f=some v/\k v=some x:=by
 unfold V5 at e
 split at e
 ·rename_i fs hu
  split at e
  ·cases e
  ·rename_i fd hf
   obtain⟨p,hx,e'⟩:=CC e
   clear e;subst hx;have e:=e';clear e'
   obtain⟨v,hv,hk⟩:=Od e
   exact⟨v,by simp[IV,hu,hf,hv],hk⟩
 ·cases e
def amW(x:AV)(k:AV->Option β):Option β:=
 match x with
 | .func f a b=>k (.func f a b)
 | x=>cZ x λp=>aC p λb o=>k (.ptr (some (b,o)))
theorem aaz{y:AV}{k:AV->Option β}{x:β}(e:amW y k=some x):∃v,Ya y=some v/\k v=some x:=by
 unfold amW at e
 split at e
 ·exact⟨_,rfl,e⟩
 ·obtain⟨p,hx,e'⟩:=gL e
  clear e;subst hx;have e:=e';clear e'
  unfold aC at e
  split at e
  ·exact⟨_,rfl,e⟩
  ·cases e
def aj0(P:Program)(t:TypeId)(x:AV)(k:AV->Option β):Option β:=
 match P.underlying t with
 | some (.array n _)=>asSlice x λp len _=>if n<=len/\0<len then aC p λb o=>k (.ptr (some (b,o)))else none
 | _=>none
theorem Zt{P:Program}{t:TypeId}{y:AV}{k:AV->Option β}{x:β}(e:aj0 P t y k=some x):∃v,TC P t y=some v/\k v=some x:=by
 unfold aj0 at e
 split at e
 ·rename_i n el hu
  obtain⟨p,l,c,hx,e'⟩:=si e
  clear e;subst hx;have e:=e';clear e'
  split at e
  ·rename_i hb
   unfold aC at e
   split at e
   ·exact⟨_,by simp only[TC,hu];rw[if_pos hb],e⟩
   ·cases e
  ·cases e
 ·cases e
def PL(place:Nat->Option (Nat×Nat)):List (Nat×AV)->List AV->(List AV->Option β)->Option β
 | [],cells,f=>f cells
 | (i,v)::rest,cells,f=>
  match place i,HB v with
  | some (off,size),some cs=>if cs.length=size/\off+size<=cells.length then PL place rest (cells.take off++cs++cells.drop (off+size)) f else none
  | _,_=>none
theorem De{place:Nat->Option (Nat×Nat)}{f:List AV->Option β}{x:β}:∀{parts:List (Nat×AV)} {cells:List AV},PL place parts cells f=some x->∃out,C8 place cells parts=some out/\f out=some x
 | [],cells,e=>⟨cells,rfl,e⟩
 | (i,v)::rest,cells,e=>by
  unfold PL at e
  split at e
  ·rename_i off size cs h1 h2
   split at e
   ·rename_i hc
    obtain⟨out,h3,h4⟩:=De e
    exact⟨out,by unfold C8;simp only[h1,h2];rw[if_pos hc];exact h3,h4⟩
   ·cases e
  ·cases e
def VC(P:Program)(t:TypeId)(parts:List (Nat×AV))(f:AV->Option β):Option β:=
 match wz P t with
 | none=>none
 | some zs=>
  match P.underlying t with
  | some (.struct fs)=>(match xk P fs.toList with | some ps=>PL (ps[·]?) parts zs λout=>f (.agg out) | none=>none)
  | some (.array _ e)=>(match P.info? e with | some i=>PL (λj=>some (j*i.size,i.size)) parts zs λout=>f (.agg out) | none=>none)
  | _=>none
theorem Tm{P:Program}{t:TypeId}{parts:List (Nat×AV)}{f:AV->Option β}{x:β}(e:VC P t parts f=some x):∃v,Gg P t parts=some v/\f v=some x:=by
 unfold VC at e
 split at e
 ·cases e
 ·rename_i zs hz
  split at e
  ·rename_i fs hu
   split at e
   ·rename_i ps hp
    obtain⟨out,h1,h2⟩:=De e
    exact⟨_,by unfold Gg;simp only[hz,hu,hp,fD,h1,Option.map_some],h2⟩
   ·cases e
  ·rename_i n el hu
   split at e
   ·rename_i i hi
    obtain⟨out,h1,h2⟩:=De e
    exact⟨_,by unfold Gg;simp only[hz,hu,hi,fD,h1,Option.map_some],h2⟩
   ·cases e
  ·cases e
def EN(P:Program)(t:TypeId)(len:Nat)(parts:List (Nat×AV))(h:H)(k:AV->H->Option β):Option β:=
  match P.underlying t with
  | some (.slice e)=>
    (match P.info? e with
     | some inf=>
       (match Nat.ble (len*inf.size) 16777216 with
        | true=>(match wz P e with | some zs=>PL (λj=>some (j*inf.size,inf.size)) parts (vf (len*inf.size) zs) λcs=>k (.slice (some (h.next,0)) len (.known len)) (h.new (.cells cs false)) | none=>none)
        | false=>none)
     | none=>none)
  | _=>none
theorem J3{P:Program}{ρ:Operand->AV}{t:TypeId}{len:Nat}{parts:Array (Nat×Operand)}{h:H}{k:AV->H->Option β}{x:β}(e:EN P t len (parts.toList.map λp=>(p.1,ρ p.2)) h k=some x):
  ∃q,nw P ρ (.buildSlice t len parts)=some q/\k (q.2 h.next) (h.jm q.1)=some x:=by
 unfold EN at e
 split at e
 ·rename_i el hu
  split at e
  ·rename_i inf hi
   split at e
   ·rename_i hb
    split at e
    ·rename_i zs hz
     obtain⟨out,h1,h2⟩:=De e
     have hb':¬(len*inf.size>2 ^ 24):=by have:=Nat.le_of_ble_eq_true hb;omega
     refine⟨(some (.cells out false),λi=>.slice (some (i,0)) len (.known len)),?_,h2⟩
     unfold nw
     simp only[hu,hi,fD,if_neg hb',hz,h1,Option.map_some]
    ·cases e
   ·cases e
  ·cases e
 ·cases e
def ajr(c a b:AV)(k:AV->Option β):Option β:=
 match a,b with
 | .bool x,.bool y=>asBool c λt=>k (.bool (cond t x y))
 | a,b=>asBool c λt=>cond t (k a) (k b)
def VG(P:Program)(s d:TypeId)(x:AV)(h:H)(k:AV->Option β):Option β:=
 match P.underlying s,P.underlying d with
 | some (.slice e),some .string=>(match P.underlying e with | some (.int .u8)=>bsK h x λs=>k (.str s) | _=>none)
 | _,_=>none
theorem Ts{P:Program}{s d:TypeId}{y:AV}{h:H}{k:AV->Option β}{x:β}(e:VG P s d y h k=some x):∃v,Gi P s d y h=some v/\k v=some x:=by
 unfold VG at e
 split at e
 ·rename_i hs hd
  split at e
  ·rename_i he
   unfold bsK at e
   split at e
   ·rename_i b hb
    exact⟨_,by simp[Gi,hs,hd,he,hb],e⟩
   ·cases e
  ·cases e
 ·cases e
def aD(o:cK)(h:H)(f:Nat->H->Option β):Option β:=f h.next (h.new o)
def Ug(size bytes:Nat)(zs:List AV)(l c:Int)(h:H)(f:Nat->Nat->Nat->H->Option β):Option β:=
 if 0<=IntKind.i64.wrap l/\IntKind.i64.wrap l<=IntKind.i64.wrap c/\¬(bytes*IntKind.i64.wrap c>2 ^ 48)then
  aD (.cells (vf ((IntKind.i64.wrap c).toNat*size) zs) false) h λi h'=>f i (IntKind.i64.wrap l).toNat (IntKind.i64.wrap c).toNat h'
 else none
def H6(P:Program)(t:TypeId)(l c:AV)(h:H)(k:AV->H->Option β):Option β:=
  match P.underlying t with
  | some (.slice e)=>
    (match P.info? e,wz P e with
     | some inf,some zs=>(match l,c with | .int _ l,.int _ c=>Ug inf.size inf.bytes zs l c h λi l c h'=>k (.slice (some (i,0)) l (.known c)) h' | _,_=>none)
     | _,_=>none)
  | _=>none
theorem LW{P:Program}{ρ:Operand->AV}{t:TypeId}{l c:Operand}{h:H}{k:AV->H->Option β}{x:β}(e:H6 P t (ρ l) (ρ c) h k=some x):
  ∃q,nw P ρ (.makeSlice t l c)=some q/\k (q.2 h.next) (h.jm q.1)=some x:=by
 unfold H6 at e
 split at e
 ·rename_i el hu
  split at e
  ·rename_i inf zs hi hz
   split at e
   ·rename_i kl ln kc cn hl hc
    unfold Ug at e
    split at e
    ·rename_i hb
     refine⟨(some (.cells (vf ((IntKind.i64.wrap cn).toNat*inf.size) zs) false),λi=>.slice (some (i,0)) (IntKind.i64.wrap ln).toNat (.known (IntKind.i64.wrap cn).toNat)),?_,e⟩
     simp only[nw,hu,hl,hc,hi,hz,fD]
     rw[if_pos hb]
    ·cases e
   ·cases e
  ·cases e
 ·cases e
def adz(kd:TypeDesc)(k:AV)(x:Option β):Option β:=match nB kd k with | true=>x | false=>none
def xp(z:AV)(m:Option Nat)(k:AV)(h:H)(f:AV->Bool->Option β):Option β:=match zq z m k h with | some (v,b)=>f v b | none=>none
def Ic(m:Option Nat)(k v:AV)(h:H)(f:H->Option β):Option β:=match s7 m k v h with | some h'=>f h' | none=>none
def aqG(m:Option Nat)(k:AV)(h:H)(f:H->Option β):Option β:=match B2 m k h with | some h'=>f h' | none=>none
def aqD(m:Option Nat)(h:H)(f:H->Option β):Option β:=match wu m h with | some h'=>f h' | none=>none
def ajk(m:Option Nat)(h:H)(f:Int->Option β):Option β:=match rG m h with | some n=>f (Nat.cast n) | none=>none
theorem Kl{kd:TypeDesc}{k:AV}{y:Option β}{x:β}(e:adz kd k y=some x):nB kd k=true/\y=some x:=by
 unfold adz at e
 split at e
 ·rename_i h;exact⟨h,e⟩
 ·cases e
def RA(P:Program)(t:TypeId)(m k:AV)(ok:Bool)(h:H)(f:AV->Option β):Option β:=
  match P.underlying t with
  | some (.map kt e)=>
    (match P.underlying kt,zeroV P e with
     | some kd,some z=>zf m λm=>adz kd k (xp z m k h λv b=>gH (xz P e) v λv=>f (okV ok v b))
     | _,_=>none)
  | _=>none
theorem RB{P:Program}{t:TypeId}{m k:AV}{ok:Bool}{h:H}{f:AV->Option β}{x:β}(e:RA P t m k ok h f=some x):∃v,zu P t m k ok h=some v/\f v=some x:=by
 unfold RA at e
 split at e
 ·rename_i kt el hu
  split at e
  ·rename_i kd z HQ hz
   obtain⟨mm,rfl,e⟩:=rB e
   obtain⟨hk,e⟩:=Kl e
   unfold xp at e
   split at e
   ·rename_i v b hl
    exact⟨okV ok v b,by simp[zu,hu,HQ,hk,hz,hl],mu (xz P el) (f:=λv=>f (okV ok v b)) e⟩
   ·cases e
  ·cases e
 ·cases e
def Mk(P:Program)(t:TypeId)(m k v:AV)(h:H)(f:H->Option β):Option β:=
 match P.underlying t with
 | some (.map kt _)=>(match P.underlying kt with | some kd=>zf m λm=>adz kd k (Ic m k v h f) | none=>none)
 | _=>none
theorem Jm{P:Program}{t:TypeId}{m k v:AV}{h:H}{f:H->Option β}{x:β}(e:Mk P t m k v h f=some x):∃h',Fg P t m k v h=some h'/\f h'=some x:=by
 unfold Mk at e
 split at e
 ·rename_i kt el hu
  split at e
  ·rename_i kd HQ
   obtain⟨mm,rfl,e⟩:=rB e
   obtain⟨hk,e⟩:=Kl e
   unfold Ic at e
   split at e
   ·rename_i h' hp
    exact⟨h',by simp[Fg,hu,HQ,hk,hp],e⟩
   ·cases e
  ·cases e
 ·cases e
def RE(P:Program)(ts:List TypeId)(xs:List AV)(h:H)(f:AV->H->Option β):Option β:=
 match ts,xs with
 | [t,_],[m,k]=>(match P.underlying t with | some (.map kt _)=>(match P.underlying kt with | some kd=>zf m λm=>adz kd k (aqG m k h λh'=>f (.dJ []) h') | none=>none) | _=>none)
 | _,_=>none
theorem RF{P:Program}{ts:List TypeId}{xs:List AV}{h:H}{f:AV->H->Option β}{x:β}(e:RE P ts xs h f=some x):∃v h',J8 P ts xs h=some (v,h')/\f v h'=some x:=by
 unfold RE at e
 split at e
 ·split at e
  ·rename_i kt el hu
   split at e
   ·rename_i kd HQ
    obtain⟨mm,rfl,e⟩:=rB e
    obtain⟨hk,e⟩:=Kl e
    unfold aqG at e
    split at e
    ·rename_i h' hp
     exact⟨_,h',by simp[J8,hu,HQ,hk,hp],e⟩
    ·cases e
   ·cases e
  ·cases e
 ·cases e
def RC(P:Program)(ts:List TypeId)(xs:List AV)(h:H)(f:AV->H->Option β):Option β:=
 match ts,xs with
 | [t],[m]=>(match P.underlying t with | some (.map _ _)=>zf m λm=>aqD m h λh'=>f (.dJ []) h' | _=>none)
 | _,_=>none
theorem RD{P:Program}{ts:List TypeId}{xs:List AV}{h:H}{f:AV->H->Option β}{x:β}(e:RC P ts xs h f=some x):∃v h',B1 P ts xs h=some (v,h')/\f v h'=some x:=by
 unfold RC at e
 split at e
 ·split at e
  ·rename_i kt el hu
   obtain⟨mm,rfl,e2⟩:=rB e
   clear e;have e:=e2;clear e2
   unfold aqD at e
   split at e
   ·rename_i h' hp
    exact⟨_,h',by simp[B1,hu,hp],e⟩
   ·cases e
  ·cases e
 ·cases e
def RG(P:Program)(ts:List TypeId)(xs:List AV)(h:H)(f:AV->Option β):Option β:=
 match ts,xs with
 | [t],[m]=>(match P.underlying t with | some (.map _ _)=>zf m λm=>ajk m h λn=>f (.int .i64 n) | _=>none)
 | _,_=>none
theorem RH{P:Program}{ts:List TypeId}{xs:List AV}{h:H}{f:AV->Option β}{x:β}(e:RG P ts xs h f=some x):∃v,Ka P ts xs h=some v/\f v=some x:=by
 unfold RG at e
 split at e
 ·split at e
  ·rename_i kt el hu
   obtain⟨mm,rfl,e2⟩:=rB e
   clear e;have e:=e2;clear e2
   unfold ajk at e
   split at e
   ·rename_i n hp
    exact⟨_,by simp[Ka,hu,hp],e⟩
   ·cases e
  ·cases e
 ·cases e
def rest(P:Program)(ck:CK)(ρ:Operand->AV)(op:Op)(h:H)(k:AV->H->Option β):Option β:=
 match dB P ck.call ρ op h with
 | some q=>k q.1 q.2
 | none=>none
def V4(x:AV)(i:Nat)(k:AV->Option β):Option β:=match x with | .dJ vs=>(match vs[i]? with | some v=>k v | none=>none) | _=>none
theorem ZY{y:AV}{i:Nat}{k:AV->Option β}{x:β}(e:V4 y i k=some x):∃v,Gj y i=some v/\k v=some x:=by
 unfold V4 at e
 split at e
 ·split at e
  ·rename_i v hv;exact⟨v,hv,e⟩
  ·cases e
 ·cases e
def so(P:Program)(ck:CK)(ρ:Operand->AV)(op:Op)(h:H)(k:AV->H->Option β):Option β:=
  match op with
  | .move x=>k (ρ x) h
  | .assign x=>k (ρ x) h
  | .build t parts=>VC P t (parts.toList.map λp=>(p.1,ρ p.2)) λv=>k v h
  | .pick c a b=>ajr (ρ c) (ρ a) (ρ b) λv=>k v h
  | .nilCheck x=>amW (ρ x) λv=>k v h
  | .binOp op t x y _=>(match yY (ρ x)with | true=>eqK P op t (ρ x) (ρ y) λv=>k v h | false=>akz op (ρ x) (ρ y) λv=>k v h)
  | .slice t x lo hi mx=>Xo P t (ρ x) (lo.map ρ) (hi.map ρ) (mx.map ρ) λv=>k v h
  | .indexAddr t x i=>HS P t (ρ x) (ρ i) λv=>k v h
  | .index t x i=>Wm P t (ρ x) (ρ i) λv=>k v h
  | .sliceToArrayPointer t x=>aj0 P t (ρ x) λv=>k v h
  | .fieldAddr t x f=>HN P t (ρ x) f λv=>k v h
  | .field t x f=>V5 P t (ρ x) f λv=>k v h
  | .extract x i=>V4 (ρ x) i λv=>k v h
  | .load t a=>YN P t (ρ a) h λv=>k v h
  | .store t a x=>Xu P t (ρ a) (ρ x) h λh'=>k .fJ h'
  | .makeSlice t l c=>H6 P t (ρ l) (ρ c) h k
  | .buildSlice t len parts=>EN P t len (parts.toList.map λp=>(p.1,ρ p.2)) h k
  | .lookup t m i ok=>RA P t (ρ m) (ρ i) ok h λv=>k v h
  | .mapUpdate t m i x=>Mk P t (ρ m) (ρ i) (ρ x) h λh'=>k .fJ h'
  | .insert t m i x=>Mk P t (ρ m) (ρ i) (ρ x) h λh'=>k .fJ h'
  | .convert s d x=>(match R4 P d,R4 P s with | false,true=>VG P s d (ρ x) h λv=>k v h | _,_=>rest P ck ρ (.convert s d x) h k)
  | .next it true=>cZ (ρ it) λp=>aC p λi o=>(match o with | 0=>Hr h i (λpos c h'=>k (.dJ [.bool true,.int .i64 pos,.int .i32 c]) h') (k (.dJ [.bool false]) h) | _=>none)
  | .call c=>
    (match c.callee with
     | .value x=>match ρ x with | .func f first caps=>ck.run f (first++c.args.toList.map ρ++caps) h k | _=>none
     | .builtin .append=>QK P c.argTypes.toList (c.args.toList.map ρ) h k
     | .builtin .copy=>aqF 0 P c.argTypes.toList (c.args.toList.map ρ) h λn h'=>k (.int .i64 n) h'
     | .builtin .delete=>RE P c.argTypes.toList (c.args.toList.map ρ) h k
     | .builtin .clear=>RC P c.argTypes.toList (c.args.toList.map ρ) h k
     | .builtin .len=>(match ahl P (c.argTypes.toList.headD 0)with | true=>RG P c.argTypes.toList (c.args.toList.map ρ) h λv=>k v h | false=>rest P ck ρ (.call c) h k)
     | _=>rest P ck ρ (.call c) h k)
  | op=>rest P ck ρ op h k
theorem GJ{P:Program}{ck:CK}{ρ:Operand->AV}{op:Op}{h:H}{k:AV->H->Option β}{x:β}(e:rest P ck ρ op h k=some x):∃v h',dB P ck.call ρ op h=some (v,h')/\k v h'=some x:=by
 unfold rest at e
 split at e
 ·rename_i q hq;exact⟨q.1,q.2,hq,e⟩
 ·cases e
theorem vb{P:Program}{ck:CK}{ρ:Operand->AV}{op:Op}{h:H}{k:AV->H->Option β}{x:β}(e:so P ck ρ op h k=some x):∃v h',dB P ck.call ρ op h=some (v,h')/\k v h'=some x:=by
 have pure:∀{v:AV},cls P op=.pure->qj P ρ op=some v->k v h=some x->∃v h',dB P ck.call ρ op h=some (v,h')/\k v h'=some x:=λ{v} hc hv hk=>⟨v,h,by unfold dB;rw[hc];simp[hv],hk⟩
 have read:∀{v:AV},cls P op=.read->sR P ρ op h=some v->k v h=some x->∃v h',dB P ck.call ρ op h=some (v,h')/\k v h'=some x:=λ{v} hc hv hk=>⟨v,h,by unfold dB;rw[hc];simp[hv],hk⟩
 unfold so at e
 split at e
 ·exact pure rfl rfl e
 ·exact pure rfl rfl e
 ·obtain⟨v,hv,hk⟩:=Tm e;exact pure rfl hv hk
 ·rename_i c a b
  unfold ajr at e
  split at e
  ·rename_i p q ha hb
   obtain⟨t,ht,e⟩:=rA e
   refine pure rfl (v:=.bool (cond t p q)) ?_ e
   simp only[qj,ht,ha,hb]
   cases t<;>rfl
  ·obtain⟨t,ht,e⟩:=rA e
   cases t
   ·exact pure rfl (v:=ρ b) (by simp[qj,ht]) e
   ·exact pure rfl (v:=ρ a) (by simp[qj,ht]) e
 ·obtain⟨v,hv,hk⟩:=aaz e;exact pure rfl hv hk
 ·split at e
  ·rename_i hn
   obtain⟨v,hv,hk⟩:=acQ e
   exact pure rfl (by simp only[qj];rw[if_pos hn];exact hv) hk
  ·rename_i hn
   obtain⟨v,hv,hk⟩:=ZE e
   exact pure rfl (by simp only[qj];rw[if_neg (by simp[hn])];exact hv) hk
 ·obtain⟨v,hv,hk⟩:=UJ e;exact pure rfl hv hk
 ·obtain⟨v,hv,hk⟩:=LU e;exact pure rfl hv hk
 ·obtain⟨v,hv,hk⟩:=T3 e;exact pure rfl hv hk
 ·obtain⟨v,hv,hk⟩:=Zt e;exact pure rfl hv hk
 ·obtain⟨v,hv,hk⟩:=LR e;exact pure rfl hv hk
 ·obtain⟨v,hv,hk⟩:=TM e;exact pure rfl hv hk
 ·obtain⟨v,hv,hk⟩:=ZY e;exact pure rfl hv hk
 ·obtain⟨v,hv,hk⟩:=Dr e;exact read rfl hv hk
 ·rename_i t a y
  obtain⟨h',hv,hk⟩:=UN e
  exact⟨.fJ,h',by simp[dB,cls,k9,hv],hk⟩
 ·obtain⟨q,hv,hk⟩:=LW e
  exact⟨q.2 h.next,h.jm q.1,by simp[dB,cls,hv],hk⟩
 ·obtain⟨q,hv,hk⟩:=J3 e
  exact⟨q.2 h.next,h.jm q.1,by simp[dB,cls,hv],hk⟩
 ·obtain⟨v,hv,hk⟩:=RB e;exact read rfl hv hk
 ·obtain⟨h',hv,hk⟩:=Jm e
  exact⟨.fJ,h',by simp[dB,cls,k9,hv],hk⟩
 ·obtain⟨h',hv,hk⟩:=Jm e
  exact⟨.fJ,h',by simp[dB,cls,k9,hv],hk⟩
 ·rename_i s d y
  split at e
  ·rename_i hd hs
   obtain⟨v,hv,hk⟩:=Ts e
   exact read (by simp[cls,hd,hs]) hv hk
  ·exact GJ e
 ·rename_i it
  obtain⟨p,hp,e⟩:=gL e
  unfold aC at e
  split at e
  ·(try dsimp only at e);split at e
   ·rename_i i
    unfold Hr at e
    split at e
    ·rename_i s pos hg
     split at e
     ·rename_i hlt
      exact⟨_,_,by simp[dB,cls,k9,Kb,hp,hg,hlt]<;>exact⟨rfl,rfl⟩,e⟩
     ·rename_i hlt
      exact⟨_,_,by simp[dB,cls,k9,Kb,hp,hg,hlt]<;>exact⟨rfl,rfl⟩,e⟩
    ·cases e
   ·cases e
  ·cases e
 ·rename_i c
  split at e
  ·rename_i y hy
   split at e
   ·rename_i f first caps hf
    rw[ck.nat]at e
    obtain⟨q,hq,hk⟩:=Option.bind_eq_some_iff.1 e
    refine⟨q.1,q.2,?_,hk⟩
    simp only[dB,cls,hy,hf]
    exact hq
   ·cases e
  ·rename_i hb
   obtain⟨v,h',hv,hk⟩:=QL e
   exact⟨v,h',by simp only[dB,cls,hb,k9];exact hv,hk⟩
  ·rename_i hb
   unfold aqF at e
   split at e
   ·rename_i n h' hv
    exact⟨_,h',by simp only[dB,cls,hb,k9];exact hv,e⟩
   ·cases e
  ·rename_i hb
   obtain⟨v,h',hv,hk⟩:=RF e
   exact⟨v,h',by simp only[dB,cls,hb,k9];exact hv,hk⟩
  ·rename_i hb
   obtain⟨v,h',hv,hk⟩:=RD e
   exact⟨v,h',by simp only[dB,cls,hb,k9];exact hv,hk⟩
  ·rename_i hb
   split at e
   ·rename_i hm
    obtain⟨v,hv,hk⟩:=RH e
    exact read (by simp only[cls,hb,hm];rfl) (by simp only[sR,hb];exact hv) hk
   ·exact GJ e
  ·exact GJ e
 ·exact GJ e
def JG(P:Program)(op:Op)(t:TypeId)(v:AV)(k:AV->Option β):Option β:=
 match op with
 | .extract _ _=>gH (xz P t) v k
 | .call c=>(match c.callee with | .value _=>gH (xz P t) v k | _=>k v)
 | _=>k v
theorem wI{P:Program}{op:Op}{t:TypeId}{v:AV}{k:AV->Option β}{x:β}(e:JG P op t v k=some x):k v=some x:=by
 unfold JG at e
 split at e
 ·exact mu _ e
 ·split at e
  ·exact mu _ e
  ·exact e
 ·exact e
def Mc(P:Program)(ck:CK)(ops:Array Oper)(N:Nat)(A:KF)(o:Oper)(h:H)(k:KF->AV->H->Option β):Option β:=
 match o.guard with
 | none=>so P ck (fj N A) o.op h λv h'=>JG P o.op o.type v λv=>k A v h'
 | some (j,want)=>
  match (ops[j]?).bind (·.dst)with
  | none=>k A (.dJ []) h
  | some t=>
   match fj N A (.tmp t)with
   | .dJ []=>k A (.dJ []) h
   | v=>asBool v λb=>cond b
     (match want with | true=>so P ck (fj N (xW N A (some t) (.bool true))) o.op h λv h'=>JG P o.op o.type v λv=>k (xW N A (some t) (.bool true)) v h' | false=>k (xW N A (some t) (.bool true)) (.dJ []) h)
     (match want with | true=>k (xW N A (some t) (.bool false)) (.dJ []) h | false=>so P ck (fj N (xW N A (some t) (.bool false))) o.op h λv h'=>JG P o.op o.type v λv=>k (xW N A (some t) (.bool false)) v h')
theorem acV{r r':Ren}{h h1:H}{w w':World}{B:Nat->Prop}(p:Post r h w r' h1 w')(hfree:∀i,h.next<=i->B i->r i=none):∀i,h1.next<=i->B i->r' i=none:=by
 intro i hi1 hi2
 cases hr:r' i with
 | none=>rfl
 | some t=>
  have hn:=hfree i (qb p.next hi1) hi2
  have:=p.dom i t hr hn
  omega
theorem MW{a b:Nat}(h:a<b):Nat.blt a b=true:=by simp[Nat.blt_eq,h]
theorem H9{a b:Nat}(h:Nat.blt a b=true):a<b:=by simpa[Nat.blt_eq]using h
theorem N2{N:Nat}{A:KF}{d t:Nat}{v:AV}(hd:d<N):look (xW N A (some d) v) t=if d=t then v else look A t:=by
 simp only[xW,MW hd,look]
 by_cases e:d=t
 ·subst e;simp
 ·have:Nat.beq d t=false:=by rw[<-Bool.not_eq_true];intro h;exact e (Nat.eq_of_beq_eq_true h)
  rw[this,if_neg e]
theorem Hp{N:Nat}{A:KF}{t:Nat}{v:AV}(h:fj N A (.tmp t)=v)(hv:v≠.fJ):fj N (xW N A (some t) v)=fj N A:=by
 have ht:t<N:=by
  simp only[fj]at h
  split at h
  ·rename_i hb;exact H9 hb
  ·exact absurd h.symm hv
 funext x
 cases x with
 | tmp u=>
  simp only[fj]at h ⊢
  rw[N2 ht]
  by_cases e:t=u
  ·subst e;rw[if_pos rfl,<-h];simp[MW ht]
  ·rw[if_neg e]
 | _=>rfl
theorem Dd{P:Program}{ck:CK}{ops:Array Oper}{N:Nat}{A:KF}{o:Oper}{h:H}{k:KF->AV->H->Option β}{x:β}(e:Mc P ck ops N A o h k=some x):
  ∃v h' A',eu P ck.call ops o (fj N A) h=some (v,h')/\fj N A'=fj N A/\k A' v h'=some x:=by
 unfold Mc at e
 split at e
 ·rename_i hg
  obtain⟨v,h',h1,h2⟩:=vb e
  exact⟨v,h',A,by simp[eu,eP,hg,h1],rfl,wI h2⟩
 ·rename_i j want hg
  split at e
  ·rename_i hd
   exact⟨_,_,A,by simp only[eu,eP,hg,hd,fD];rfl,rfl,e⟩
  ·rename_i t hd
   split at e
   ·rename_i hv
    exact⟨_,_,A,by simp only[eu,eP,hg,hd,hv,fD];rfl,rfl,e⟩
   ·obtain⟨b,hb,e'⟩:=rA e
    clear e;have e:=e';clear e'
    have hsame:=Hp hb (by intro e;cases e)
    cases b<;>cases want<;>simp only[bM,br]at e
    ·obtain⟨v,h',h1,h2⟩:=vb e
     rw[hsame]at h1
     exact⟨v,h',_,by simp[eu,eP,hg,hd,hb,h1],hsame,wI h2⟩
    ·exact⟨_,_,_,by simp only[eu,eP,hg,hd,hb,fD];rfl,hsame,e⟩
    ·exact⟨_,_,_,by simp only[eu,eP,hg,hd,hb,fD];rfl,hsame,e⟩
    ·obtain⟨v,h',h1,h2⟩:=vb e
     rw[hsame]at h1
     exact⟨v,h',_,by simp[eu,eP,hg,hd,hb,h1],hsame,wI h2⟩
open Classical in
noncomputable def dU(h h':H)(b:Option Nat)(x:Option β):Option β:=match b with | none=>x | some b=>if h'.get b=h.get b then x else none
def kj(p:Option (Nat×Nat)):Option Nat:=match p with | some (b,_)=>some b | none=>none
noncomputable def Ld(M:Nat->Nat)(k:Nat)(h h':H):List (Nat×AV)->Option β->Option β
 | [],x=>x
 | (j,v)::l,x=>match nh M k j with
  | false=>Ld M k h h' l x
  | true=>match v with
   | .ptr p=>dU h h' (kj p) (Ld M k h h' l x)
   | .slice p _ _=>dU h h' (kj p) (Ld M k h h' l x)
   | .map m=>dU h h' m (Ld M k h h' l x)
   | _=>Ld M k h h' l x
theorem Ik{h h':H}{b:Option Nat}{x:Option β}{y:β}(e:dU h h' b x=some y):(∀c,b=some c->h'.get c=h.get c)/\x=some y:=by
 unfold dU at e
 split at e
 ·exact⟨λc hc=>by(cases hc),e⟩
 ·split at e
  ·rename_i hq;exact⟨λc hc=>by cases hc;exact hq,e⟩
  ·cases e
theorem aco(p:Option (Nat×Nat)):kj p=yq (.ptr p):=by cases p<;>rfl
theorem ZG(p:Option (Nat×Nat))(n:Nat)(c:aM):kj p=yq (.slice p n c):=by cases p<;>rfl
theorem mapRef(m:Option Nat):yq (.map m)=m:=by cases m<;>rfl
theorem wD{M:Nat->Nat}{k:Nat}{h h':H}{y:β}:∀{l:List (Nat×AV)} {x:Option β},Ld M k h h' l x=some y->T7 M k h h' l/\x=some y
 | [],x,e=>⟨λq hq=>by(cases hq),e⟩
 | (j,v)::l,x,e=>by
  simp only[Ld]at e
  have cons:∀(_:T7 M k h h' l),(nh M k j=true->∀b,yq v=some b->h'.get b=h.get b)->T7 M k h h' ((j,v)::l):=λhl hv q hq hi b hb=>by
   rcases List.mem_cons.1 hq with rfl | hq
   ·exact hv hi b hb
   ·exact hl q hq hi b hb
  split at e
  ·rename_i hi
   obtain⟨h1,h2⟩:=wD e
   exact⟨cons h1 λh=>absurd (h.symm.trans hi) (by decide),h2⟩
  ·split at e
   ·obtain⟨h0,e⟩:=Ik e
    obtain⟨h1,h2⟩:=wD e
    exact⟨cons h1 λ_ b hb=>h0 b (by rw[aco];exact hb),h2⟩
   ·obtain⟨h0,e⟩:=Ik e
    obtain⟨h1,h2⟩:=wD e
    exact⟨cons h1 λ_ b hb=>h0 b (by rw[ZG];exact hb),h2⟩
   ·obtain⟨h0,e⟩:=Ik e
    obtain⟨h1,h2⟩:=wD e
    exact⟨cons h1 λ_ b hb=>h0 b ((mapRef _).symm.trans hb),h2⟩
   ·obtain⟨h1,h2⟩:=wD e
    rename_i OI hn2 hn3
    refine⟨cons h1 λ_ b hb=>?_,h2⟩
    unfold yq at hb
    split at hb
    ·exact absurd rfl (OI _)
    ·exact absurd rfl (hn2 _ _ _)
    ·exact absurd rfl (hn3 _)
    ·cases hb
noncomputable def zv(P:Program)(ck:CK)(ops:Array Oper)(N:Nat)(draw:Bool):List Oper->Nat->KF->H->(Nat->Prop)->List (Nat×AV)->(KF->H->Option β)->Option β
 | [],_,A,h,_,_,k=>k A h
 | o::l,i,A,h,S,Js,k=>
  match draw&&LZ P ops (masks ops) i with
  | true=>Mc P ck ops N A o (h.minus S) λA' v _=>zv P ck ops N draw l (i+1) (xW N A' o.dst v) h S (JA P i o (vo (fj N A) o.op) Js) k
  | false=>Mc P ck ops N A o h λA' v h'=>
   match draw&&iM P ops (masks ops) i with
   | false=>zv P ck ops N draw l (i+1) (xW N A' o.dst v) h' S (JA P i o (vo (fj N A) o.op) Js) k
   | true=>Ld (masks ops) i h h' Js (zv P ck ops N draw l (i+1) (xW N A' o.dst v) h' (bD S h h') (JA P i o (vo (fj N A) o.op) Js) k)
def AF(N:Nat)(A:KF)(fr:List AV):Prop:=fr.length=N/\∀t,t<N->look A t=fr.getD t .fJ
theorem AF.oW{N:Nat}{A:KF}{fr:List AV}(h:AF N A fr):oW fr=fj N A:=by
 funext x
 cases x with
 | tmp t=>
  simp only[Ev.oW,fj]
  split
  ·rename_i hb;rw[h.2 t (H9 hb)]
  ·rename_i hb
   have:¬t<N:=λhlt=>by rw[MW hlt]at hb;cases hb
   rw[List.getD_eq_getElem?_getD,List.getElem?_eq_none (by rw[h.1];exact Nat.le_of_not_lt this)];rfl
 | _=>rfl
theorem AF.of_same{N:Nat}{A A':KF}{fr:List AV}(h:AF N A fr)(hs:fj N A'=fj N A):AF N A' fr:=by
 refine⟨h.1,λt ht=>?_⟩
 have:=congrFun hs (.tmp t)
 simp only[fj,MW ht]at this
 rw[this];exact h.2 t ht
theorem AF.put{N:Nat}{A:KF}{fr:List AV}(h:AF N A fr)(d:Option Tmp)(v:AV):AF N (xW N A d v) (zQ fr d v):=by
 cases d with
 | none=>exact h
 | some d=>
  refine⟨by simp[zQ,h.1],λt ht=>?_⟩
  by_cases hd:d<N
  ·rw[N2 hd]
   simp only[zQ]
   by_cases e:d=t
   ·subst e
    rw[if_pos rfl,List.getD_eq_getElem?_getD,List.getElem?_set_self (by rw[h.1];exact ht)];rfl
   ·rw[if_neg e,List.getD_eq_getElem?_getD,List.getElem?_set_ne e,<-List.getD_eq_getElem?_getD]
    exact h.2 t ht
  ·have hb:Nat.blt d N=false:=by rw[<-Bool.not_eq_true];intro h;exact hd (H9 h)
   simp only[xW,hb,zQ]
   have hne:d≠t:=by intro e;rw[e]at hd;exact hd ht
   rw[List.getD_eq_getElem?_getD,List.getElem?_set_ne hne,<-List.getD_eq_getElem?_getD]
   exact h.2 t ht
theorem jj{P:Program}{ck:CK}{ops:Array Oper}{N:Nat}{draw:Bool}{x:β}:∀{l:List Oper} {i:Nat} {A:KF} {h:H} {S:Nat->Prop} {Js:List (Nat×AV)} {k:KF->H->Option β} {fr:List AV},zv P ck ops N draw l i A h S Js k=some x->AF N A fr->
  ∃fr' A' h',(if draw then oN P ck.call ops l i fr h S Js else Hl P ck.call ops l fr h)=some (fr',h')/\AF N A' fr'/\k A' h'=some x
 | [],i,A,h,S,Js,k,fr,e,hA=>⟨fr,A,h,by cases draw<;>rfl,hA,e⟩
 | o::l,i,A,h,S,Js,k,fr,e,hA=>by
  simp only[zv]at e
  have hmain:vo (fj N A) o.op=vo (oW fr) o.op:=by rw[hA.oW]
  cases draw with
  | false=>
   simp only[Bool.false_and]at e
   obtain⟨v,h',A',h1,h2,e⟩:=Dd e
   rw[<-hA.oW]at h1
   obtain⟨fr',Qz,h'',g1,g2,g3⟩:=jj e ((hA.of_same h2).put o.dst v)
   exact⟨fr',Qz,h'',by simp only[Bool.false_eq_true,if_false]at g1 ⊢;simp only[Hl,h1,fD];exact g1,g2,g3⟩
  | true=>
   simp only[Bool.true_and]at e
   split at e
   ·rename_i hsh
    obtain⟨v,h',A',h1,h2,e⟩:=Dd e
    rw[<-hA.oW]at h1
    obtain⟨fr',Qz,h'',g1,g2,g3⟩:=jj e ((hA.of_same h2).put o.dst v)
    exact⟨fr',Qz,h'',by simp only[if_true]at g1 ⊢;simp only[oN];rw[if_pos hsh,h1,fD,<-hmain];exact g1,g2,g3⟩
   ·rename_i hsh
    have arL:¬LZ P ops (masks ops) i=true:=by rw[hsh];simp
    obtain⟨v,h',A',h1,h2,e⟩:=Dd e
    rw[<-hA.oW]at h1
    split at e
    ·rename_i hq
     obtain⟨fr',Qz,h'',g1,g2,g3⟩:=jj e ((hA.of_same h2).put o.dst v)
     exact⟨fr',Qz,h'',by simp only[if_true]at g1 ⊢;simp only[oN];rw[if_neg arL,h1,fD,<-hmain];simp only[hq,Bool.false_eq_true,if_false];exact g1,g2,g3⟩
    ·rename_i hq
     obtain⟨adp,e⟩:=wD e
     obtain⟨fr',Qz,h'',g1,g2,g3⟩:=jj e ((hA.of_same h2).put o.dst v)
     exact⟨fr',Qz,h'',by simp only[if_true]at g1 ⊢;simp only[oN];rw[if_neg arL,h1,fD,<-hmain];simp only[hq,if_true];rw[if_pos adp];exact g1,g2,g3⟩
abbrev KC(β:Type):=KF->H->(KF->H->Option β)->(Nat->KF->H->Option β)->(KF->H->Option β)->Option β
def Y5:KC β:=λA h kn _ _=>kn A h
noncomputable def atn(P:Program)(ck:CK)(N:Nat)(ops:Array Oper)(draw:Bool):KC β:=λA h kn _ _=>zv P ck ops N draw ops.toList 0 A h Gz [] kn
def anQ(X Y:KC β):KC β:=λA h kn ke kr=>X A h (λA h=>Y A h kn ke kr) ke kr
def aiV(N:Nat)(c:Operand)(X Y:KC β):KC β:=λA h kn ke kr=>asBool (fj N A c) λb=>cond b (X A h kn ke kr) (Y A h kn ke kr)
def acp(id:Nat)(X:KC β):KC β:=λA h kn ke kr=>X A h kn (λi A h=>cond (Nat.beq i id) (kn A h) (ke i A h)) kr
def aiY(id:Nat):KC β:=λA h _ ke _=>ke id A h
def atp:KC β:=λA h _ _ kr=>kr A h
def norm(live:List Nat)(A:KF):KF:=live.map λt=>(t,look A t)
def ad4(live:List Nat)(X:KC β):KC β:=λA h kn ke kr=>X (norm live A) h kn ke kr
def KO(r:Ren)(A:KF)(a:Act):Prop:=∀t,t<a.tmps.size->VR r (look A t) (a.eval (.tmp t))
def leaves(kn:KF->H->Option β)(ke:Nat->KF->H->Option β)(kr:KF->H->Option β):Sl->KF->H->Option β
 | .normal=>kn
 | .exit i=>ke i
 | .ret=>kr
structure Bnd(S:Bool) where
 set:Nat->Prop
 all:S=true->∀i,set i
structure dj(S:Bool)(P:Program)(N:Nat)(c:Code)(X:KC β):Prop where
 ends:∀A h kn ke kr x,X A h kn ke kr=some x->∃e A' h',leaves kn ke kr e A' h'=some x/\h.next<=h'.next/\(h.WF->h'.WF)
 GO:∀(r:Ren) (a:Act) (w:World) A h kn ke kr x (B:Bnd S),X A h kn ke kr=some x->KO r A a->a.tmps.size=N->Rel r h w->(∀i,h.next<=i->B.set i->r i=none)->
  (∀e A' h',leaves kn ke kr e A' h'=some x->∀i,i<h'.next->B.set i)->
  ∀Q:Exit->Act->World->Prop,(∀r' a' w' A' h' e,KO r' A' a'->a'.tmps.size=N->a'.defers=a.defers->Post r h w r' h' w'->leaves kn ke kr e A' h'=some x->Q e.to a' w')->c.wp P Q a w
theorem dj.TQ{S:Bool}{P:Program}{N:Nat}{c:Code}{X:KC β}(d:dj S P N c X)(A:KF)(h:H)(kn:KF->H->Option β)(ke:Nat->KF->H->Option β)(kr:KF->H->Option β)(x:β)(B:Bnd S)(e:X A h kn ke kr=some x)
  (hB:∀e A' h',leaves kn ke kr e A' h'=some x->∀i,i<h'.next->B.set i):∀i,i<h.next->B.set i:=by
 obtain⟨e',A',h',h1,h2,_⟩:=d.ends A h kn ke kr x e
 exact λi hi=>hB _ _ _ h1 i (Ep hi h2)
theorem dj.skip{S:Bool}{P:Program}{N:Nat}:dj S P N .skip (Y5:KC β) where
 ends:=λA h kn ke kr x e=>⟨.normal,A,h,e,cF _,λh=>h⟩
 GO:=λr a w A h kn ke kr x B e hfr hsz an hfree hB Q hQ=>wp_skip (hQ r a w A h .normal hfr hsz rfl (Post.refl an) e)
theorem dj.label{S:Bool}{P:Program}{N l:Nat}:dj S P N (.label l) (Y5:KC β) where
 ends:=λA h kn ke kr x e=>⟨.normal,A,h,e,cF _,λh=>h⟩
 GO:=λr a w A h kn ke kr x B e hfr hsz an hfree hB Q hQ=>wp_label (hQ r a w A h .normal hfr hsz rfl (Post.refl an) e)
theorem dj.scope{S:Bool}{P:Program}{N:Nat}{c:Code}{X:KC β}(d:dj S P N c X):dj S P N (.scope c) X where
 ends:=d.ends
 GO:=λr a w A h kn ke kr x B e hfr hsz an hfree hB Q hQ=>by
  refine wp_scope_straight (d.GO r a w A h kn ke kr x B e hfr hsz an hfree hB _ λr' a' w' A' h' e' g1 g2 g3 g4 g5=>?_)
  have:=hQ r' a' w' A' h' e' g1 g2 g3 g4 g5
  cases e' with
  | normal=>exact this
  | exit i=>exact this
  | ret=>exact this
theorem dj.exit{S:Bool}{P:Program}{N id:Nat}:dj S P N (.exit id) (aiY id:KC β) where
 ends:=λA h kn ke kr x e=>⟨.exit id,A,h,e,cF _,λh=>h⟩
 GO:=λr a w A h kn ke kr x B e hfr hsz an hfree hB Q hQ=>wp_exit (hQ r a w A h (.exit id) hfr hsz rfl (Post.refl an) e)
theorem dj.ret{S:Bool}{P:Program}{N:Nat}:dj S P N .ret (atp:KC β) where
 ends:=λA h kn ke kr x e=>⟨.ret,A,h,e,cF _,λh=>h⟩
 GO:=λr a w A h kn ke kr x B e hfr hsz an hfree hB Q hQ=>wp_ret (hQ r a w A h .ret hfr hsz rfl (Post.refl an) e)
theorem KO.norm{r:Ren}{A:KF}{a:Act}(h:KO r A a)(live:List Nat):KO r (norm live A) a:=by
 intro t ht
 have:look (Ev.norm live A) t=look A t∨look (Ev.norm live A) t=.fJ:=by
  unfold Ev.norm
  induction live with
  | nil=>exact .inr rfl
  | cons u l ih=>
   simp only[List.map_cons,look]
   split
   ·rename_i hb;have:=Nat.eq_of_beq_eq_true hb;subst this;exact .inl rfl
   ·exact ih
 rcases this with e | e
 ·rw[e];exact h t ht
 ·rw[e];exact .fJ _
theorem dj.norm{S:Bool}{P:Program}{N:Nat}{c:Code}{X:KC β}(live:List Nat)(d:dj S P N c X):dj S P N c (ad4 live X) where
 ends:=λA h kn ke kr x e=>d.ends _ h kn ke kr x e
 GO:=λr a w A h kn ke kr x B e hfr hsz an hfree hB Q hQ=>d.GO r a w _ h kn ke kr x B e (hfr.norm live) hsz an hfree hB Q hQ
theorem WQ{kn:KF->H->Option β}{ke:Nat->KF->H->Option β}{kr:KF->H->Option β}{Y:KC β}{S:Bool}{P:Program}{N:Nat}{c:Code}(d:dj S P N c Y){x:β}{B:Bnd S}(hB:∀e A' h',leaves kn ke kr e A' h'=some x->∀i,i<h'.next->B.set i):
  ∀e A' h',leaves (λA h=>Y A h kn ke kr) ke kr e A' h'=some x->∀i,i<h'.next->B.set i:=by
 intro e A' h' he
 cases e with
 | normal=>exact d.TQ A' h' kn ke kr x B he hB
 | exit i=>exact hB (.exit i) A' h' he
 | ret=>exact hB .ret A' h' he
theorem dj.seq{S:Bool}{P:Program}{N:Nat}{c1 c2:Code}{X Y:KC β}(d1:dj S P N c1 X)(d2:dj S P N c2 Y):dj S P N (.seq c1 c2) (anQ X Y) where
 ends:=λA h kn ke kr x e=>by
  obtain⟨e',A',h',h1,h2,h3⟩:=d1.ends A h _ ke kr x e
  cases e' with
  | normal=>
   obtain⟨e'',Qz,h'',k1,k2,k3⟩:=d2.ends A' h' kn ke kr x h1
   exact⟨e'',Qz,h'',k1,qb h2 k2,λhw=>k3 (h3 hw)⟩
  | exit i=>exact⟨.exit i,A',h',h1,h2,h3⟩
  | ret=>exact⟨.ret,A',h',h1,h2,h3⟩
 GO:=λr a w A h kn ke kr x B e hfr hsz an hfree hB Q hQ=>by
  refine wp_seq (d1.GO r a w A h _ ke kr x B e hfr hsz an hfree (WQ d2 hB) _ λr' a' w' A' h' e' g1 g2 g3 g4 g5=>?_)
  cases e' with
  | normal=>
   exact d2.GO r' a' w' A' h' kn ke kr x B g5 g1 g2 g4.rel (acV g4 hfree) hB Q λr'' a'' w'' Qz h'' e'' k1 k2 k3 k4 k5=>hQ r'' a'' w'' Qz h'' e'' k1 k2 (k3.trans g3) (g4.trans k4) k5
  | exit i=>exact hQ r' a' w' A' h' (.exit i) g1 g2 g3 g4 g5
  | ret=>exact hQ r' a' w' A' h' .ret g1 g2 g3 g4 g5
theorem Gn{r:Ren}{N:Nat}{A:KF}{a:Act}(hfr:KO r A a)(hsz:a.tmps.size=N)(hg:GL r)(x:Operand):VR r (fj N A x) (a.eval x):=by
 cases x with
 | tmp t=>
  simp only[fj]
  split
  ·rename_i hb;exact hfr t (by rw[hsz];exact H9 hb)
  ·exact .fJ _
 | const v=>exact Cy r v
 | global g=>exact hg.vr g
 | func f=>exact .func f [] [] #[] #[] rfl rfl (λi a v h=>by simp at h) (λi a v h=>by simp at h)
theorem dj.cond{S:Bool}{P:Program}{N:Nat}{c:Operand}{c1 c2:Code}{X Y:KC β}(d1:dj S P N c1 X)(d2:dj S P N c2 Y):dj S P N (.cond c c1 c2) (aiV N c X Y) where
 ends:=λA h kn ke kr x e=>by
  obtain⟨b,_,e⟩:=rA e
  cases b
  ·exact d2.ends A h kn ke kr x e
  ·exact d1.ends A h kn ke kr x e
 GO:=λr a w A h kn ke kr x B e hfr hsz an hfree hB Q hQ=>by
  obtain⟨b,hb,e⟩:=rA e
  have hv:=Gn hfr hsz an.rH c
  rw[hb]at hv
  have hc:a.eval c=.bool b:=by
   generalize hq:a.eval c=q at hv
   cases hv;rfl
  refine wp_cond hc ?_
  cases b
  ·exact d2.GO r a w A h kn ke kr x B e hfr hsz an hfree hB Q hQ
  ·exact d1.GO r a w A h kn ke kr x B e hfr hsz an hfree hB Q hQ
theorem Dq{kn:KF->H->Option β}{ke:Nat->KF->H->Option β}{kr:KF->H->Option β}{id:Nat}{e:Sl}{A:KF}{h:H}:
  leaves kn (λi A h=>cond (Nat.beq i id) (kn A h) (ke i A h)) kr e A h=leaves kn ke kr (if e=.exit id then .normal else e) A h:=by
 cases e with
 | normal=>rfl
 | ret=>rfl
 | exit i=>
  simp only[leaves]
  by_cases hi:i=id
  ·subst hi;simp[leaves]
  ·have:Nat.beq i id=false:=by rw[<-Bool.not_eq_true];intro h;exact hi (Nat.eq_of_beq_eq_true h)
   rw[this,if_neg (by intro e;cases e;exact hi rfl)]
   rfl
theorem dj.block{S:Bool}{P:Program}{N id:Nat}{c:Code}{X:KC β}(d:dj S P N c X):dj S P N (.block id c) (acp id X) where
 ends:=λA h kn ke kr x e=>by
  obtain⟨e',A',h',h1,h2,h3⟩:=d.ends A h kn _ kr x e
  rw[Dq]at h1
  exact⟨_,A',h',h1,h2,h3⟩
 GO:=λr a w A h kn ke kr x B e hfr hsz an hfree hB Q hQ=>by
  refine wp_block (d.GO r a w A h kn _ kr x B e hfr hsz an hfree (λe' A' h' he=>by rw[Dq]at he;exact hB _ _ _ he) _ λr' a' w' A' h' e' g1 g2 g3 g4 g5=>?_)
  rw[Dq]at g5
  have:=hQ r' a' w' A' h' _ g1 g2 g3 g4 g5
  cases e' with
  | normal=>exact this
  | ret=>exact this
  | exit j=>
   show Exit.inBlock id Q (.exit j) a' w'
   simp only[Exit.inBlock]
   by_cases hj:j=id
   ·subst hj
    simp only[if_true]at this ⊢;exact this
   ·rw[if_neg hj]
    rw[if_neg (by intro e;cases e;exact hj rfl)]at this
    exact this
theorem dj.region{S:Bool}{P:Program}(hm:P.follows .mixedOrders=true){ck:CK}(sr:ck.call.Sound P){N id:Nat}{ops:Array Oper}{draw:Bool}(hok:(!draw||nW P ops)=true):dj S P N (.region id ops draw) (atn P ck N ops draw:KC β):=by
 have key:∀A h (kn:KF->H->Option β) x,zv P ck ops N draw ops.toList 0 A h Gz [] kn=some x->∃fr' A' h',Fi P ck.call ops draw ((List.range N).map (look A),h)=some (fr',h')/\AF N A' fr'/\kn A' h'=some x:=by
  intro A h kn x e
  obtain⟨fr',A',h',h1,h2,h3⟩:=jj (fr:=(List.range N).map (look A)) e ⟨by simp,λt ht=>by rw[List.getD_eq_getElem?_getD,List.getElem?_map,List.getElem?_range ht];rfl⟩
  exact⟨fr',A',h',h1,h2,h3⟩
 refine⟨λA h kn ke kr x e=>?_,λr a w A h kn ke kr x B e hfr hsz an hfree hB Q hQ=>?_⟩
 ·obtain⟨fr',A',h',h1,h2,h3⟩:=key A h kn x e
  exact⟨.normal,A',h',h3,Nz sr h1⟩
 ·obtain⟨fr',A',h',h1,h2,h3⟩:=key A h kn x e
  have hb:=hB .normal A' h' h3
  have Wk:FR r ((List.range N).map (look A)) a:=by
   refine⟨by simpa using hsz.symm,λt x v hx hv=>?_⟩
   have ht:t<N:=by have:=(sS hx).1;simpa using this
   rw[List.getElem?_map,List.getElem?_range ht]at hx
   simp at hx
   subst hx
   have:=hfr t (by rw[hsz];exact ht)
   simp only[Act.eval,Array.getD_eq_getD_getElem?]at this
   rw[<-Array.getElem?_toList,hv]at this
   exact this
  refine Uw hm sr hok h1 Wk an (λi a b=>hfree i a (hb i b)) Q λr' a' w' g1 g2 g3=>?_
  have Ki:a'.tmps.size=N:=by rw[<-h2.1];simpa using g1.1.symm
  refine hQ r' a' w' A' h' .normal (λt ht=>?_) Ki g2 g3 h3
  rw[h2.2 t (by rw[<-Ki];exact ht)]
  exact Dw g1 g3.rel.rH (.tmp t)
abbrev Den(P:Program)(N:Nat)(c:Code)(X:KC β):Prop:=dj false P N c X
def Bu(P:Program)(N:Nat)(A:KF)(h:H):List ResultVar->(List AV->Option β)->Option β
 | [],k=>k []
 | .tmp t::xs,k=>Bu P N A h xs λvs=>k (fj N A (.tmp t)::vs)
 | .cell a t::xs,k=>YN P t (fj N A (.tmp a)) h λv=>Bu P N A h xs λvs=>k (v::vs)
def Py:List AV->Nat->KF
 | [],_=>[]
 | v::vs,i=>(i,v)::Py vs (i+1)
def aiS(P:Program)(N:Nat)(results:Array ResultVar)(X:KC β)(args:List AV)(h:H)(k:AV->H->Option β):Option β:=
 X (Py args 0) h (λA h=>Bu P N A h results.toList λvs=>k (oneOf vs) h) (λ_ _ _=>none) (λA h=>Bu P N A h results.toList λvs=>k (oneOf vs) h)
theorem GI{P:Program}{N:Nat}{A:KF}{h:H}{r:Ren}{a:Act}{w:World}(hfr:KO r A a)(hsz:a.tmps.size=N)(an:Rel r h w){x:β}:∀{xs:List ResultVar} {k:List AV->Option β},Bu P N A h xs k=some x->
  ∃vs vs',k vs=some x/\kg r vs vs'/\(xs.mapM (Om a.tmps)).run P w=.ok vs' w
 | [],k,e=>⟨[],[],e,.nil,rfl⟩
 | .tmp t::xs,k,e=>by
  simp only[Bu]at e
  obtain⟨vs,vs',h1,h2,h3⟩:=GI hfr hsz an e
  refine⟨_,a.eval (.tmp t)::vs',h1,.cons (Gn hfr hsz an.rH _) h2,?_⟩
  rw[List.mapM_cons]
  simp only[Sem.run_bind,Om,Sem.run_pure,Result.andThen_ok,h3]
  rfl
 | .cell ad t::xs,k,e=>by
  simp only[Bu]at e
  obtain⟨v,hv,e⟩:=Dr e
  obtain⟨vs,vs',h1,h2,h3⟩:=GI hfr hsz an e
  obtain⟨q,v',g1,g2,g3⟩:=Lr an hv (Gn hfr hsz an.rH (.tmp ad))
  refine⟨_,v'::vs',h1,.cons g2 h2,?_⟩
  have:a.tmps.getD ad undef=.pointer (some q):=g1
  rw[List.mapM_cons]
  simp only[Sem.run_bind,Om,this,asAddr,Sem.run_pure,Result.andThen_ok,g3,h3]
theorem HZ:∀(vs:List AV) (i t:Nat),look (Py vs i) t=if i<=t/\t<i+vs.length then vs.getD (t - i) .fJ else .fJ
 | [],i,t=>by rw[if_neg (by simp<;>omega)];rfl
 | v::vs,i,t=>by
  simp only[Py,look]
  split
  ·rename_i hb
   have:=Nat.eq_of_beq_eq_true hb
   subst this
   rw[if_pos (by simp)]
   simp
  ·rename_i hb
   have hne:i≠t:=λe=>by subst e;simp at hb
   rw[HZ vs (i+1) t]
   simp only[List.length_cons]
   by_cases hc:i+1<=t/\t<i+1+vs.length
   ·rw[if_pos hc,if_pos (by omega)]
    obtain⟨j,hj⟩:∃j,t - i=j+1:=⟨t - i - 1,by omega⟩
    rw[hj,List.getD_cons_succ]
    congr 1;omega
   ·rw[if_neg hc,if_neg (by omega)]
theorem abY{P:Program}{N:Nat}{c:Code}{X:KC β}(d:Den P N c X){f:FuncId}{fn:Func}(hfn:P.funcs[f]?=some fn)(hbody:fn.body=some c)(hname:(fn.name == "runtime.NumGoroutine")=false)(hN:fn.ntmps=N)
  {args:List AV} (hlen:args.length<=N) {h:H} {k:AV->H->Option β} {x:β} (e:aiS P N fn.results X args h k=some x) {v0:AV} {h0:H} (hk:∀v h,k v h=some x->v=v0/\h=h0):XN P f args h v0 h0:=by
 have main:∀(A':KF) (h':H) (xs:List ResultVar) (k':List AV->Option β),Bu P N A' h' xs k'=some x->∃vs,k' vs=some x:=by
  intro A' h' xs
  induction xs with
  | nil=>intro k' e;exact⟨[],e⟩
  | cons y ys ih=>
   intro k' e
   cases y with
   | tmp t=>simp only[Bu]at e;obtain⟨vs,hv⟩:=ih _ e;exact⟨_,hv⟩
   | cell ad t=>simp only[Bu]at e;obtain⟨v,_,e⟩:=Dr e;obtain⟨vs,hv⟩:=ih _ e;exact⟨_,hv⟩
 have hE:∀e A' h',leaves (λA h=>Bu P N A h fn.results.toList λvs=>k (oneOf vs) h) (λ_ _ _=>none) (λA h=>Bu P N A h fn.results.toList λvs=>k (oneOf vs) h) e A' h'=some x->h'=h0:=by
  intro e A' h' he
  cases e with
  | normal=>obtain⟨vs,hv⟩:=main _ _ _ _ he;exact(hk _ _ hv).2
  | ret=>obtain⟨vs,hv⟩:=main _ _ _ _ he;exact(hk _ _ hv).2
  | exit i=>cases he
 have hB:∀e A' h',leaves (λA h=>Bu P N A h fn.results.toList λvs=>k (oneOf vs) h) (λ_ _ _=>none) (λA h=>Bu P N A h fn.results.toList λvs=>k (oneOf vs) h) e A' h'=some x->∀i,i<h'.next->i<h0.next:=
  λe A' h' he i hi=>by rw[hE e A' h' he]at hi;exact hi
 obtain⟨e1,A1,h1,l1,g1,w1⟩:=d.ends _ h _ _ _ x e
 have h1e:=hE _ _ _ l1
 subst h1e
 refine⟨⟨fn,hfn,by rw[hbody];rfl,hname⟩,g1,w1,λr w args' an hfree hargs=>?_⟩
 refine calls_of_wp hfn hbody ?_
 have hl:args.length=args'.size:=by simpa using hargs.1
 have hsz:(args'++Array.replicate (fn.ntmps - args'.size) undef).size=N:=by simp[hN];omega
 refine d.GO r _ w _ h _ _ _ x ⟨λi=>i<h1.next,λh=>by cases h⟩ e (λt ht=>?_) hsz an hfree hB _ λr' a' w' A' h' e' g1 g2 g3 g4 g5=>?_
 ·rw[HZ]
  simp only[uQ,true_and,Nat.zero_add,Nat.sub_zero]
  split
  ·rename_i hlt
   have h1:args[t]?=some args[t]:=List.getElem?_eq_getElem hlt
   have h2:args'.toList[t]?=some (args'.toList[t]'(by simpa[<-hl]using hlt)):=List.getElem?_eq_getElem _
   have:=hargs.2 t _ _ h1 h2
   rw[List.getD_eq_getElem?_getD,h1]
   simp only[Act.eval,Array.getD_eq_getD_getElem?]
   rw[Array.getElem?_append_left (by omega),<-Array.getElem?_toList,h2]
   exact this
  ·exact .fJ _
 ·have fin:∀A' h',KO r' A' a'->Post r h w r' h' w'->Bu P N A' h' fn.results.toList (λvs=>k (oneOf vs) h')=some x->
    a'.defers=[]/\∃v,(results fn a'.tmps).run P w'=.ok v w'/\∃r' v',Ending.returned v=.returned v'/\VR r' v0 v'/\Post r h w r' h1 w':=by
   intro A' h' g1 g4 g5
   obtain⟨vs,vs',q1,q2,q3⟩:=GI g1 g2 g4.rel g5
   obtain⟨e1,e2⟩:=hk _ _ q1
   refine⟨g3,(if h:vs'.toArray.size=1 then vs'.toArray[0]else .tuple vs'.toArray),?_,r',_,rfl,?_,by rw[<-e2];exact g4⟩
   ·show Sem.run P (do let vs <-fn.results.mapM (Om a'.tmps);pure (if h:vs.size=1 then vs[0]else .tuple vs)) w'=_
    rw[Array.mapM_eq_mapM_toList]
    simp only[Sem.run_bind,Sem.run_map,q3,Result.andThen_ok,Sem.run_pure]
   ·rw[<-e1];exact Sw q2
  cases e' with
  | normal=>exact fin A' h' g1 g4 g5
  | ret=>exact fin A' h' g1 g4 g5
  | exit i=>cases g5
end
section
variable {β:Type}
def Fv(live:List Nat)(X:KC β):Nat->KC β
 | 0=>λ_ _ _ _ _=>none
 | n+1=>λA h kn ke kr=>X A h (λA h=>Fv live X n (norm live A) h kn ke kr) ke kr
theorem dj.Fv{S:Bool}{P:Program}{N:Nat}{c:Code}{X:KC β}(live:List Nat)(d:dj S P N c X)(n:Nat):dj S P N (.loop c) (Fv live X n) where
 ends:=by
  induction n with
  | zero=>intro A h kn ke kr x e;cases e
  | succ n ih=>
   intro A h kn ke kr x e
   obtain⟨e',A',h',h1,h2,h3⟩:=d.ends A h _ ke kr x e
   cases e' with
   | normal=>
    obtain⟨e'',Qz,h'',k1,k2,k3⟩:=ih _ h' kn ke kr x h1
    exact⟨e'',Qz,h'',k1,qb h2 k2,λhw=>k3 (h3 hw)⟩
   | exit i=>exact⟨.exit i,A',h',h1,h2,h3⟩
   | ret=>exact⟨.ret,A',h',h1,h2,h3⟩
 GO:=by
  have grow:∀n A h kn ke kr x (B:Bnd S),(Ev.Fv live X n:KC β) A h kn ke kr=some x->(∀e A' h',leaves kn ke kr e A' h'=some x->∀i,i<h'.next->B.set i)->∀i,i<h.next->B.set i:=by
   intro n
   induction n with
   | zero=>intro A h kn ke kr x B e hB;cases e
   | succ n ih=>
    intro A h kn ke kr x B e hB
    refine d.TQ A h _ ke kr x B e λe' A' h' he=>?_
    cases e' with
    | normal=>exact ih _ h' kn ke kr x B he hB
    | exit i=>exact hB (.exit i) A' h' he
    | ret=>exact hB .ret A' h' he
  intro r a w A h kn ke kr x B e hfr hsz an hfree hB Q hQ
  refine wp_loop_rounds n ?_
  revert r a w A h
  induction n with
  | zero=>intro r a w A h e;cases e
  | succ n ih=>
   intro r a w A h e hfr hsz an hfree hQ
   rw[rounds_succ]
   refine d.GO r a w A h _ ke kr x B e hfr hsz an hfree (λe' A' h' he=>?_) _ λr' a' w' A' h' e' g1 g2 g3 g4 g5=>?_
   ·cases e' with
    | normal=>exact grow n _ h' kn ke kr x B he hB
    | exit i=>exact hB (.exit i) A' h' he
    | ret=>exact hB .ret A' h' he
   ·cases e' with
    | normal=>exact ih r' a' w' _ h' g5 (g1.norm live) g2 g4.rel (acV g4 hfree) λr'' a'' w'' Qz h'' e'' k1 k2 k3 k4 k5=>hQ r'' a'' w'' Qz h'' e'' k1 k2 (k3.trans g3) (g4.trans k4) k5
    | exit i=>exact hQ r' a' w' A' h' (.exit i) g1 g2 g3 g4 g5
    | ret=>exact hQ r' a' w' A' h' .ret g1 g2 g3 g4 g5
def aO(v:AV)(f:List AV->Option β):Option β:=match v with | .dJ vs=>f vs | _=>none
def Vq(id:FuncId)(v:AV)(f:List AV->List AV->Option β):Option β:=match v with | .func g a b=>cond (Nat.beq g id) (f a b) none | _=>none
theorem Vr{v:AV}{f:List AV->Option β}{x:β}(h:aO v f=some x):∃vs,v=.dJ vs/\f vs=some x:=by
 unfold aO at h;split at h
 ·exact⟨_,rfl,h⟩
 ·cases h
section
variable {γ:Type}(g:β->Option γ)
theorem tO(k:IntKind)(v:AV)(f:Int->Option β):(asInt k v f).bind g=asInt k v λn=>(f n).bind g:=by unfold asInt;split<;>(try split)<;>rfl
theorem rz(v:AV)(f:Bool->Option β):(asBool v f).bind g=asBool v λn=>(f n).bind g:=by unfold asBool;split<;>rfl
theorem tR(v:AV)(f:ByteArray->Option β):(aZ v f).bind g=aZ v λn=>(f n).bind g:=by unfold aZ;split<;>rfl
theorem tQ(v:AV)(f:Option (Nat×Nat)->Option β):(cZ v f).bind g=cZ v λn=>(f n).bind g:=by unfold cZ;split<;>rfl
theorem oH(v:AV)(f:Option (Nat×Nat)->Nat->aM->Option β):(asSlice v f).bind g=asSlice v λp l c=>(f p l c).bind g:=by unfold asSlice;split<;>rfl
theorem tP(v:AV)(f:Option Nat->Option β):(zf v f).bind g=zf v λn=>(f n).bind g:=by unfold zf;split<;>rfl
theorem ry(v:AV)(f:List AV->Option β):(asAgg v f).bind g=asAgg v λn=>(f n).bind g:=by unfold asAgg;split<;>rfl
theorem tT(v:AV)(f:List AV->Option β):(aO v f).bind g=aO v λn=>(f n).bind g:=by unfold aO;split<;>rfl
theorem Dm(l:List AV)(f:Option β):(l0 l f).bind g=l0 l (f.bind g):=by unfold l0;split<;>rfl
theorem Dp(l:List AV)(f:AV->List AV->Option β):(lc l f).bind g=lc l λv vs=>(f v vs).bind g:=by unfold lc;split<;>rfl
theorem uf(id:FuncId)(v:AV)(f:List AV->List AV->Option β):(Vq id v f).bind g=Vq id v λa b=>(f a b).bind g:=by
 unfold Vq;split
 ·rename_i q a b;cases Nat.beq q id<;>rfl
 ·rfl
end
end
structure Entry(P:Program) where
 id:FuncId
 run:∀{β:Type},List AV->H->(AV->H->Option β)->Option β
 nat:∀{β:Type} (args:List AV) (h:H) (k:AV->H->Option β),run args h k=(run args h λv h'=>some (v,h')).bind λq=>k q.1 q.2
 sound:∀args h v h',(run args h λv h'=>some (v,h'))=some (v,h')->xH P id args h v h'
 fits:List AV->Bool:=λ_=>true
def On{P:Program}{β:Type}:List (Entry P)->FuncId->List AV->H->(AV->H->Option β)->Option β
 | [],_,_,_,_=>none
 | e::l,f,args,h,k=>cond (Nat.beq e.id f&&e.fits args) (e.run args h k) (On l f args h k)
theorem Qn{P:Program}{β:Type}(f:FuncId)(args:List AV)(h:H)(k:AV->H->Option β):∀l:List (Entry P),On l f args h k=(On l f args h λv h'=>some (v,h')).bind λq=>k q.1 q.2
 | []=>rfl
 | e::l=>by
  simp only[On]
  cases Nat.beq e.id f&&e.fits args with
  | true=>exact e.nat args h k
  | false=>exact Qn f args h k l
def Y9{P:Program}(l:List (Entry P)):CK:=⟨On l,λf args h k=>Qn f args h k l⟩
theorem Pk{P:Program}(l:List (Entry P)):(Y9 l).call.Sound P:=by
 intro f args h v h' e
 change On l f args h (λv h'=>some (v,h'))=some (v,h')at e
 induction l with
 | nil=>cases e
 | cons x l ih=>
  simp only[On]at e
  cases hb:Nat.beq x.id f&&x.fits args with
  | true=>
   rw[hb]at e
   have:=Nat.eq_of_beq_eq_true (Bool.and_eq_true_iff.1 hb).1
   subst this
   exact x.sound args h v h' e
  | false=>rw[hb]at e;exact ih e
def xN(f:Func):Code:=match f.body with | some c=>c | none=>.skip
def Rm(k:IntKind)(a b:Int):Int:=k.wrap (BitVec.ofInt k.bits a &&& BitVec.ofInt k.bits b).toNat
def ior(k:IntKind)(a b:Int):Int:=k.wrap (BitVec.ofInt k.bits a ||| BitVec.ofInt k.bits b).toNat
def Pc(k:IntKind)(a b:Int):Int:=k.wrap (a*2 ^ min b.toNat k.bits)
def B7(k:IntKind)(a b:Int):Int:=a.fdiv (2 ^ min b.toNat k.bits)
def agC{β:Type}(P:Program)(t:TypeId)(x y:AV)(f:Bool->Option β):Option β:=match K3 P Op.maxDepth t x y with | some b=>f b | none=>none
end Go.Ev
namespace Go.Ev
theorem aeW{α:Type}(x:α):∃y:α,y=x:=⟨x,rfl⟩
noncomputable def JE{α:Type}(x:α):α:=Classical.choose (aeW x)
theorem JF{α:Type}(x:α):JE x=x:=Classical.choose_spec (aeW x)
theorem ajH{β:Type}{S:Bool}{P:Program}{N:Nat}{c:Code}{X:KC β}(d:dj S P N c X):dj S P N c (JE X):=by rw[JF];exact d
open Go.RowKit
abbrev apY:=List (Option D4×List AV)
def r0(rows:apY):Ren:=λi=>(rows[i]?).bind λx=>x.1
section
variable {H:Type}{enc:TypeId×Value->H}{P:Program}{w:World}{base:Nat}{spare:Nat->Bool}{held:Bool}
end
theorem FU{H:Type}{enc:TypeId×Value->H}{P:Program}(hl:laidOutB P=true){W W':World}(hb:Below W.heap.size W W'):∀(ts:List TypeId) (vs:List Value) (ds:List (DataW H)) (ps:List MemPlace),
  (∀t∈ts,P.readableRec t=true/\t<P.types.size)->DataW.TrodAll enc P W 0 (λ_=>true) true ts vs ds ps->(∀x∈ps,x.block<W.heap.size)->DataW.TrodAll enc P W' 0 (λb=>decide (b<W.heap.size)) true ts vs ds ps
 | [],vs,ds,ps,_,h,_=>by
  cases vs<;>cases ds<;>first | exact h | cases h
 | t::ts,vs,ds,ps,hr,h,hlt=>by
  cases vs with
  | nil=>cases ds<;>cases h
  | cons v vs=>
   cases ds with
   | nil=>cases h
   | cons d ds=>
    obtain⟨p,q,h1,h2,rfl⟩:=h
    exact⟨p,q,Below.trod hl (hr t (by simp)).1 (hr t (by simp)).2 h1 hb (λx hx=>hlt x (by simp[hx])),FU hl hb ts vs ds q (λt ht=>hr t (by simp[ht])) h2 (λx hx=>hlt x (by simp[hx])),rfl⟩
@[simp] theorem aY(h:H)(o:cK):(h.new o).get h.next=some o:=by simp[H.new]
theorem wA{h:H}{o:cK}{i:Nat}(hi:i<h.next):(h.new o).get i=h.get i:=by simp only[H.new];rw[if_neg (by omega)]
@[simp] theorem asG(h:H)(o:cK):(h.new o).next=h.next+1:=rfl
@[simp] theorem aW(h:H)(i:Nat)(o:cK):(h.set i o).get i=some o:=by simp[H.set]
theorem ng{h:H}{i j:Nat}{o:cK}(hi:j≠i):(h.set i o).get j=h.get j:=by simp only[H.set];rw[if_neg hi]
@[simp] theorem asH(h:H)(i:Nat)(o:cK):(h.set i o).next=h.next:=rfl
@[simp] theorem set_set(h:H)(i:Nat)(o o':cK):(h.set i o).set i o'=h.set i o':=by
 simp only[H.set,H.mk.injEq,true_and];funext j;split<;>rfl
theorem nr{α:Sort _}{a b:α}(h:a=b):a=b:=h
section
variable {β:Type}
@[simp] theorem ai(b o:Nat)(f:Nat->Nat->Option β):aC (some (b,o)) f=f b o:=nr rfl
@[simp] theorem aj(k:IntKind)(n:Int)(f:Int->Option β):asInt k (.int k n) f=f n:=by simp[asInt]
@[simp] theorem aq(b:Bool)(f:Bool->Option β):asBool (.bool b) f=f b:=nr rfl
@[simp] theorem az(s:ByteArray)(f:ByteArray->Option β):aZ (.str s) f=f s:=nr rfl
@[simp] theorem bg(p:Option (Nat×Nat))(f:Option (Nat×Nat)->Option β):cZ (.ptr p) f=f p:=nr rfl
@[simp] theorem ah(p:Option (Nat×Nat))(l:Nat)(c:aM)(f:Option (Nat×Nat)->Nat->aM->Option β):asSlice (.slice p l c) f=f p l c:=nr rfl
@[simp] theorem Zu(p:Option Nat)(f:Option Nat->Option β):zf (.map p) f=f p:=nr rfl
@[simp] theorem bG(l:List AV)(f:List AV->Option β):asAgg (.agg l) f=f l:=nr rfl
@[simp] theorem aE(f:Option β):l0 [] f=f:=nr rfl
@[simp] theorem oT(v:AV)(l:List AV)(f:AV->List AV->Option β):lc (v::l) f=f v l:=nr rfl
@[simp] theorem aL(o:cK)(h:H)(f:Nat->H->Option β):aD o h f=f h.next (h.new o):=nr rfl
theorem aj2{l:List AV}{o:Nat}{v:AV}(hv:l[o]?=some v)(f:AV->Option β):atK l o f=f v:=by simp[atK,hv]
theorem cW{h:H}{i o:Nat}{cs:List AV}{ro:Bool}{v:AV}(hg:h.get i=some (.cells cs ro))(hv:cs[o]?=some v)(f:AV->Option β):af h i o f=f v:=by simp[af,hg,hv]
theorem QI{h:H}{i o n:Nat}{cs:List AV}{ro:Bool}(hg:h.get i=some (.cells cs ro))(hn:o+n<=cs.length)(f:List AV->Option β):aI h i o n f=f ((cs.drop o).take n):=by simp[aI,hg,hn]
theorem jF{h:H}{i n:Nat}{cs:List AV}{ro:Bool}(hg:h.get i=some (.cells cs ro))(hn:cs.length=n)(f:List AV->Option β):aI h i 0 n f=f cs:=by
 rw[QI hg (by omega)];simp[<-hn]
theorem DT{h:H}{i o n:Nat}{cs xs:List AV}(hg:h.get i=some (.cells cs false))(hn:xs.length=n)(hl:o+n<=cs.length)(hc:xs.all cT=true)(f:H->Option β):
  bK h i o n xs f=f (h.set i (.cells (My cs o xs) false)):=by
 simp only[bK,hg];rw[if_pos ⟨hn,by omega,hc⟩]
theorem pH{h:H}{i o:Nat}{cs:List AV}{x:AV}(hg:h.get i=some (.cells cs false))(hl:o<cs.length)(hc:cT x=true)(f:H->Option β):
  bK h i o 1 [x] f=f (h.set i (.cells (cs.set o x) false)):=DT hg rfl (show o+1<=cs.length from hl) (by simp[hc]) f
@[simp] theorem ao4(b o:Nat):kj (some (b,o))=some b:=rfl
@[simp] theorem ao3:kj none=none:=rfl
@[simp] theorem Xl(h:H)(b:Option Nat)(x:Option β):dU h h b x=x:=by cases b<;>simp[dU]
@[simp] theorem anP(h h':H)(x:Option β):dU h h' none x=x:=nr rfl
theorem zS{h h':H}{b:Nat}(e:h'.get b=h.get b)(x:Option β):dU h h' (some b) x=x:=by simp only[dU];rw[if_pos e]
end
theorem GP:∀(xs l:List AV),xs.length=l.length->My l 0 xs=xs:=by
 intro xs l h
 apply List.ext_getElem?
 intro k
 rw[Mz xs l 0 (by omega)]
 by_cases hk:k<xs.length
 ·simp[hk]
 ·rw[if_neg (by omega),List.getElem?_eq_none (by omega),List.getElem?_eq_none (by omega)]
inductive SL(h:H)(size:Nat):Option (Nat×Nat)->Nat->aM->List AV->Prop
 | nil:SL h size none 0 (.known 0) []
 | row {b o len:Nat} {c:aM} {cs:List AV} {ro:Bool} {vs:List AV} (hg:h.get b=some (.cells cs ro)) (hv:(cs.drop o).take (len*size)=vs) (hl:o+len*size<=cs.length) (hc:c=.rest size∨∃k,c=.known k/\len<=k):SL h size (some (b,o)) len c vs
theorem SL.length{h:H}{size:Nat}{p:Option (Nat×Nat)}{len:Nat}{c:aM}{vs:List AV}(s:SL h size p len c vs):vs.length=len*size:=by
 cases s with
 | nil=>simp
 | row hg hv hl hc=>subst hv;simp;omega
section
variable {β:Type}
end
end Go.Ev
namespace Go.Ev
end Go.Ev
namespace Go.Ev
end Go.Ev
namespace Go.Ev
theorem HL:∀l:List Int,Fc (l.map (.int .u8))=some l
 | []=>rfl
 | x::l=>by
  have:=HL l
  unfold Fc at this ⊢
  simp[this]
theorem MZ{β:Type}{h:H}{p:Option (Nat×Nat)}{len:Nat}{c:aM}{bs:List Int}(s:SL h 1 p len c (bs.map (.int .u8)))(f:ByteArray->Option β):bsK h (.slice p len c) f=f (strOfNums bs):=by
 have hlen:=s.length
 simp only[List.length_map,Nat.mul_one]at hlen
 generalize hvs:bs.map (AV.int .u8)=vs at s
 cases s with
 | nil=>
  have:bs=[]:=List.eq_nil_of_length_eq_zero hlen
  subst this
  rfl
 | row hg hv hl hc=>
  unfold bsK
  simp only[wq]
  by_cases h0:len=0
  ·subst h0
   have:bs=[]:=List.eq_nil_of_length_eq_zero hlen
   subst this
   rfl
  ·rw[if_neg h0,hg]
   simp only[Nat.mul_one]at hv hl
   simp only[hl,if_true,hv,<-hvs,HL,Option.map_some]
section
variable {α β:Type}
def cg(c:Option (α×H))(Q:α->H->Prop):Prop:=∃r h',c=some (r,h')/\Q r h'
theorem cg.pure{r:α}{h:H}{Q:α->H->Prop}(q:Q r h):cg (some (r,h)) Q:=⟨r,h,rfl,q⟩
theorem cg.bind{c:Option (α×H)}{P:α->H->Prop}{f:α×H->Option (β×H)}{Q:β->H->Prop}(hc:cg c P)(hf:∀r h,P r h->cg (f (r,h)) Q):cg (c.bind f) Q:=by
 obtain⟨r,h,rfl,p⟩:=hc
 exact hf r h p
theorem cg.mono{c:Option (α×H)}{P Q:α->H->Prop}(hc:cg c P)(hf:∀r h,P r h->Q r h):cg c Q:=by
 obtain⟨r,h,e,p⟩:=hc
 exact⟨r,h,e,hf r h p⟩
end
structure Mod(S:List Nat)(h h':H):Prop where
 next:h.next<=h'.next
 get:∀i,i<h.next->i∉S->h'.get i=h.get i
theorem Mod.refl(S:List Nat)(h:H):Mod S h h:=⟨cF _,λ_ _ _=>rfl⟩
theorem Mod.trans{S:List Nat}{a b c:H}(p:Mod S a b)(q:Mod S b c):Mod S a c:=⟨qb p.next q.next,λi hi hS=>(q.get i (Ep hi p.next) hS).trans (p.get i hi hS)⟩
theorem Mod.trans'{S T:List Nat}{a b c:H}(p:Mod S a b)(q:Mod T b c)(ht:∀i∈T,i<a.next->i∈S):Mod S a c:=
 ⟨qb p.next q.next,λi hi hS=>(q.get i (Ep hi p.next) λh=>hS (ht i h hi)).trans (p.get i hi hS)⟩
theorem Mod.sub{S T:List Nat}{a b:H}(p:Mod T a b)(ht:∀i∈T,i<a.next->i∈S):Mod S a b:=⟨p.next,λi hi hS=>p.get i hi λh=>hS (ht i h hi)⟩
theorem Mod.of_nil{S:List Nat}{a b:H}(p:Mod [] a b):Mod S a b:=p.sub λi h=>by cases h
theorem Mod.new{S:List Nat}{a h:H}(q:Mod S a h)(o:cK):Mod S a (h.new o):=⟨qb q.next (dW _),λi hi hS=>(wA (Ep hi q.next)).trans (q.get i hi hS)⟩
theorem Mod.set{S:List Nat}{a h:H}(q:Mod S a h){b:Nat}(hb:a.next<=b∨b∈S)(o:cK):Mod S a (h.set b o):=
 ⟨q.next,λi hi hS=>(ng λe=>by subst e;exact hb.elim (λh=>Nat.lt_irrefl _ (Ep hi h)) hS).trans (q.get i hi hS)⟩
theorem TN{h:H}{i j:Nat}(hi:j≠i):(h.kill i).get j=h.get j:=by simp only[H.kill];rw[if_neg hi]
@[simp] theorem apB(h:H)(i:Nat):(h.kill i).next=h.next:=rfl
theorem Mod.kill{S:List Nat}{a h:H}(q:Mod S a h){b:Nat}(hb:a.next<=b∨b∈S):Mod S a (h.kill b):=
 ⟨q.next,λi hi hS=>(TN λe=>by subst e;exact hb.elim (λh=>Nat.lt_irrefl _ (Ep hi h)) hS).trans (q.get i hi hS)⟩
theorem Mod.lt{S:List Nat}{a b:H}(m:Mod S a b){i:Nat}(h:i<a.next):i<b.next:=Ep h m.next
theorem GN{β:Type}{h h':H}{S:List Nat}(q:Mod S h h'){b:Nat}(hb:b<h.next)(hS:b∉S)(x:Option β):dU h h' (some b) x=x:=zS (q.get b hb hS) x
def own(p:Option (Nat×Nat)):List Nat:=match p with | some (b,_)=>[b] | none=>[]
@[simp] theorem as1:own none=[]:=rfl
@[simp] theorem as2(b o:Nat):own (some (b,o))=[b]:=rfl
theorem wrap_i64{x:Int}(h0 : -9223372036854775808<=x)(h1:x<9223372036854775808):IntKind.i64.wrap x=x:=by
 simp only[IntKind.wrap,IntKind.bits,IntKind.signed]
 simp;split<;>omega
theorem wrap_u64{x:Int}(h0:0<=x)(h1:x<18446744073709551616):IntKind.u64.wrap x=x:=by
 simp only[IntKind.wrap,IntKind.bits,IntKind.signed]
 simp;omega
theorem wrap_u8{x:Int}(h0:0<=x)(h1:x<256):IntKind.u8.wrap x=x:=by
 simp only[IntKind.wrap,IntKind.bits,IntKind.signed]
 simp;omega
theorem aG{k:Nat}(h:k<9223372036854775807):IntKind.i64.wrap ((k:Int)+1)=((k+1:Nat):Int):=by
 rw[wrap_i64 (by omega) (by omega)];rfl
theorem cL{a b:Nat}(h:a<b):decide ((a:Int)<(b:Int))=true:=by simp;omega
theorem aT{a b:Nat}(h:b<=a):decide ((a:Int)<(b:Int))=false:=by simp;omega
section
variable {α β:Type}
theorem AH{enc:α->List AV}{s:Nat}(hs:∀x,(enc x).length=s):∀xs:List α,(xs.flatMap enc).length=xs.length*s
 | []=>by simp
 | x::xs=>by rw[List.flatMap_cons,hU,AH hs xs,hs,List.length_cons,Nat.add_mul];omega
theorem PF{enc:α->List AV}{s:Nat}(hs:∀x,(enc x).length=s):∀(xs:List α) (k:Nat),(xs.flatMap enc).drop (k*s)=(xs.drop k).flatMap enc
 | xs,0=>by simp
 | [],k+1=>by simp
 | x::xs,k+1=>by
  rw[List.flatMap_cons,List.drop_succ_cons,<-PF hs xs k,Nat.add_mul,Nat.one_mul,Nat.add_comm,<-List.drop_drop,<-hs x,List.drop_left]
theorem Yf{enc:α->List AV}{s:Nat}(hs:∀x,(enc x).length=s){xs:List α}{k:Nat}{x:α}(hx:xs[k]?=some x):((xs.flatMap enc).drop (k*s)).take s=enc x:=by
 rw[PF hs]
 obtain⟨h,rfl⟩:=sS hx
 rw[List.drop_eq_getElem_cons h,List.flatMap_cons,<-hs xs[k],List.take_left]
theorem acU{enc:α->List AV}{s:Nat}(hs:∀x,(enc x).length=s){xs:List α}{k:Nat}{x:α}(hx:xs[k]?=some x){j:Nat}(hj:j<s):(xs.flatMap enc)[k*s+j]?=(enc x)[j]?:=by
 rw[<-Yf hs hx,List.getElem?_take,if_pos hj,List.getElem?_drop]
end
inductive Row(h:H)(size:Nat):Option (Nat×Nat)->Nat->aM->List AV->Prop
 | nil:Row h size none 0 (.known 0) []
 | row {b o len:Nat} {c:aM} {cs:List AV} {ro:Bool} {vs:List AV} (hb:b<h.next) (hg:h.get b=some (.cells cs ro)) (hv:(cs.drop o).take (len*size)=vs) (hl:o+len*size<=cs.length) (hc:c=.rest size∨∃k,c=.known k/\len<=k):Row h size (some (b,o)) len c vs
theorem Row.length{h:H}{size:Nat}{p:Option (Nat×Nat)}{len:Nat}{c:aM}{vs:List AV}(s:Row h size p len c vs):vs.length=len*size:=by
 cases s with
 | nil=>simp
 | row hb hg hv hl hc=>subst hv;simp;omega
theorem Row.mod{h h':H}{S:List Nat}{size:Nat}{p:Option (Nat×Nat)}{len:Nat}{c:aM}{vs:List AV}(s:Row h size p len c vs)(m:Mod S h h')(hS:∀b∈own p,b∉S):Row h' size p len c vs:=by
 cases s with
 | nil=>exact .nil
 | row hb hg hv hl hc=>exact .row (m.lt hb) ((m.get _ hb (hS _ (by simp))).trans hg) hv hl hc
theorem Row.ak{h h':H}{size:Nat}{p:Option (Nat×Nat)}{len:Nat}{c:aM}{vs:List AV}(s:Row h size p len c vs)(m:Mod [] h h'):Row h' size p len c vs:=s.mod m λb _=>by simp
theorem Row.lt{h:H}{size:Nat}{p:Option (Nat×Nat)}{len:Nat}{c:aM}{vs:List AV}(s:Row h size p len c vs):∀b∈own p,b<h.next:=by
 cases s with
 | nil=>simp
 | row hb hg hv hl hc=>simpa using hb
theorem Row.sl{h:H}{size:Nat}{p:Option (Nat×Nat)}{len:Nat}{c:aM}{vs:List AV}(s:Row h size p len c vs):SL h size p len c vs:=by
 cases s with
 | nil=>exact .nil
 | row hb hg hv hl hc=>exact .row hg hv hl hc
section
variable {α β:Type}
theorem Row.Vs{h:H}{size:Nat}{p:Option (Nat×Nat)}{len:Nat}{c:aM}{vs:List AV}(s:Row h size p len c vs){i:Nat}{v:AV}(hv:vs[i]?=some v)(f:AV->Option β):
  (aC p λb o=>af h b (o+i) f)=f v:=by
 cases s with
 | nil=>simp at hv
 | row hb hg hvs hl hc=>
  subst hvs
  have hk:i<len*size:=by have:=(sS hv).1;simp at this;omega
  rw[List.getElem?_take,if_pos (by omega),List.getElem?_drop]at hv
  exact cW hg hv f
theorem Row.at2{h:H}{size:Nat}{p:Option (Nat×Nat)}{len:Nat}{c:aM}{vs:List AV}(s:Row h size p len c vs){i j:Nat}{v:AV}(hv:vs[i+j]?=some v)(f:AV->Option β):
  (aC p λb o=>af h b (o+i+j) f)=f v:=by
 have:=s.Vs hv f
 simpa[Nat.add_assoc]using this
theorem Row.agg{enc:α->List AV}{h:H}{size:Nat}{p:Option (Nat×Nat)}{len:Nat}{c:aM}{xs:List α}(s:Row h size p len c (xs.flatMap enc))(hs:∀x,(enc x).length=size)(h0:0<size){k:Nat}{x:α}(hx:xs[k]?=some x)(f:List AV->Option β):
  (aC p λb o=>aI h b (o+k*size) size f)=f (enc x):=by
 have hlen:=s.length
 rw[AH hs]at hlen
 have hf:=Yf hs hx
 obtain⟨hk,_⟩:=sS hx
 have h1:(k+1)*size<=xs.length*size:=Nat.mul_le_mul_right _ hk
 rw[Nat.add_mul,Nat.one_mul]at h1
 generalize xs.flatMap enc=vs at s hf
 cases s with
 | nil=>omega
 | row hb hg hv hl hc=>
  rename_i b o cs ro
  show aI h b (o+k*size) size f=f (enc x)
  rw[QI hg (by omega),<-hf,<-hv]
  congr 1
  rw[List.drop_take,List.drop_drop,List.take_take,Nat.min_eq_left (by omega)]
theorem Row.ix{enc:α->List AV}{h:H}{size:Nat}{p:Option (Nat×Nat)}{len:Nat}{c:aM}{xs:List α}(s:Row h size p len c (xs.flatMap enc))(hs:∀x,(enc x).length=size)(h0:0<size){k:Nat}{x:α}(hx:xs[k]?=some x)(f:List AV->Option β):
  (if 0<=(k:Int)/\(k:Int)<(Nat.cast len:Int)then aC p λb o=>aI h b (o+(k:Int).toNat*size) size f else none)=f (enc x):=by
 have hlen:=s.length
 rw[AH hs]at hlen
 have:=Nat.eq_of_mul_eq_mul_right h0 hlen
 have hk:=(sS hx).1
 rw[if_pos ⟨by omega,by omega⟩]
 exact s.agg hs h0 hx f
theorem Row.len{enc:α->List AV}{h:H}{size:Nat}{p:Option (Nat×Nat)}{len:Nat}{c:aM}{xs:List α}(s:Row h size p len c (xs.flatMap enc))(hs:∀x,(enc x).length=size)(h0:0<size):xs.length=len:=by
 have hlen:=s.length
 rw[AH hs]at hlen
 exact Nat.eq_of_mul_eq_mul_right h0 hlen
theorem Row.ix2{enc:α->List AV}{h:H}{size:Nat}{p:Option (Nat×Nat)}{len:Nat}{c:aM}{xs:List α}(s:Row h size p len c (xs.flatMap enc))(hs:∀x,(enc x).length=size){k:Nat}{x:α}(hx:xs[k]?=some x)(j:Nat){v:AV}(hj:(enc x)[j]?=some v)(f:AV->Option β):
  (if 0<=(k:Int)/\(k:Int)<(Nat.cast len:Int)then aC p λb o=>af h b (o+(k:Int).toNat*size+j) f else none)=f v:=by
 have hj':j<size:=by have:=(sS hj).1;rw[hs]at this;exact this
 have hlen:=s.len hs (by omega)
 have hk:=(sS hx).1
 rw[if_pos ⟨by omega,by omega⟩]
 exact s.at2 (i:=k*size) (by rw[acU hs hx hj',hj]) f
theorem Row.Wq{enc:α->List AV}{h:H}{size:Nat}{p:Option (Nat×Nat)}{len:Nat}{c:aM}{xs:List α}(s:Row h size p len c (xs.flatMap enc))(hs:∀x,(enc x).length=size){k:Nat}{x:α}(hx:xs[k]?=some x){v:AV}(hj:(enc x)[0]?=some v)(f:AV->Option β):
  (if 0<=(k:Int)/\(k:Int)<(Nat.cast len:Int)then aC p λb o=>af h b (o+(k:Int).toNat*size) f else none)=f v:=s.ix2 hs hx 0 hj f
theorem Row.adT{enc:α->AV}{h:H}{p:Option (Nat×Nat)}{len:Nat}{c:aM}{xs:List α}(s:Row h 1 p len c (xs.map enc)):xs.length=len:=by
 have:=s.length;simpa using this
theorem Row.Mh{enc:α->AV}{h:H}{p:Option (Nat×Nat)}{len:Nat}{c:aM}{xs:List α}(s:Row h 1 p len c (xs.map enc)){k:Nat}{x:α}(hx:xs[k]?=some x)(f:AV->Option β):
  (if 0<=(k:Int)/\(k:Int)<(Nat.cast len:Int)then aC p λb o=>af h b (o+(k:Int).toNat) f else none)=f (enc x):=by
 have hlen:=s.adT
 have hk:=(sS hx).1
 rw[if_pos ⟨by omega,by omega⟩]
 exact s.Vs (i:=k) (by rw[List.getElem?_map,hx];rfl) f
theorem Row.src{h:H}{size:Nat}{p:Option (Nat×Nat)}{len:Nat}{c:aM}{vs:List AV}(s:Row h size p len c vs):di size (.slice p len c) h=some (len,vs):=by
 have hlen:=s.length
 cases s with
 | nil=>rfl
 | row hb hg hv hl hc=>
  by_cases h0:len=0
  ·subst h0
   have:vs=[]:=List.eq_nil_of_length_eq_zero (by rw[hlen];simp)
   subst this
   simp[di]
  ·simp[di,h0,hg,hl,hv]
theorem Row.upto{h:H}{size:Nat}{p:Option (Nat×Nat)}{len:Nat}{c:aM}{vs:List AV}(s:Row h size p len c vs){k:IntKind}{hi:Int}(h0:0<=hi)(h1:hi<=len):
  ∃p' c',Row h size p' hi.toNat c' (vs.take (hi.toNat*size))/\own p'=own p/\∀f:Option (Nat×Nat)->Nat->aM->Option β,slK size p len c none (some (.int k hi)) none f=f p' hi.toNat c':=by
 cases s with
 | nil=>
  obtain rfl:hi=0:=by omega
  exact⟨none,.known 0,by simpa using .nil,rfl,λf=>by simp[slK,xj,eo,kI]⟩
 | row hb hg hvs hl hc=>
  rename_i b o cs ro
  subst hvs
  have hmul:hi.toNat*size<=len*size:=Nat.mul_le_mul_right _ (by omega)
  have ht:(List.take (len*size) (cs.drop o)).take (hi.toNat*size)=(cs.drop o).take (hi.toNat*size):=by rw[List.take_take,Nat.min_eq_left hmul]
  rcases hc with rfl | ⟨q,rfl,hq⟩
  ·exact⟨some (b,o),.rest size,.row hb hg ht.symm (by omega) (.inl rfl),rfl,λf=>by simp[slK,xj,eo,kI,h0,h1]⟩
  ·refine⟨some (b,o),.known q,.row hb hg ht.symm (by omega) (.inr ⟨q,rfl,by omega⟩),rfl,λf=>?_⟩
   have h2:hi<=q:=by omega
   by_cases hq0:q=0
   ·subst hq0
    obtain rfl:hi=0:=by omega
    simp[slK,xj,eo,kI,hq]
   ·simp[slK,xj,eo,kI,h0,h2,hq,hq0]
structure Grow(a h:H)(size:Nat)(p:Option (Nat×Nat))(len:Nat)(c:aM)(vs:List AV):Prop where
 look:(p=none/\len=0/\c=.known 0/\vs=[])∨∃b,p=some (b,0)/\a.next<=b/\b<h.next/\h.get b=some (.cells vs false)/\vs.length=len*size/\(c=.rest size∨c=.known len)
theorem Grow.nil{a h:H}{size:Nat}:Grow a h size none 0 (.known 0) []:=⟨.inl ⟨rfl,rfl,rfl,rfl⟩⟩
theorem Grow.row{a h:H}{size:Nat}{p:Option (Nat×Nat)}{len:Nat}{c:aM}{vs:List AV}(g:Grow a h size p len c vs):Row h size p len c vs:=by
 rcases g.look with⟨rfl,rfl,rfl,rfl⟩ | ⟨b,rfl,h1,h2,h3,h4,h5⟩
 ·exact .nil
 ·exact .row h2 h3 (by rw[List.drop_zero,<-h4,List.take_length]) (by omega) (h5.elim .inl λh=>.inr ⟨_,h,cF _⟩)
theorem Grow.iy{a h:H}{size:Nat}{p:Option (Nat×Nat)}{len:Nat}{c:aM}{vs:List AV}(g:Grow a h size p len c vs):∀b∈own p,a.next<=b/\b<h.next:=by
 rcases g.look with⟨rfl,rfl,rfl,rfl⟩ | ⟨b,rfl,h1,h2,h3,h4,h5⟩
 ·simp
 ·simp[h1,h2]
theorem Grow.mod{a h h':H}{S:List Nat}{size:Nat}{p:Option (Nat×Nat)}{len:Nat}{c:aM}{vs:List AV}(g:Grow a h size p len c vs)(m:Mod S h h')(hS:∀b∈own p,b∉S):Grow a h' size p len c vs:=by
 rcases g.look with h0 | ⟨b,rfl,h1,h2,h3,h4,h5⟩
 ·exact⟨.inl h0⟩
 ·exact⟨.inr ⟨b,rfl,h1,m.lt h2,(m.get _ h2 (hS _ (by simp))).trans h3,h4,h5⟩⟩
theorem Grow.ak{a h h':H}{size:Nat}{p:Option (Nat×Nat)}{len:Nat}{c:aM}{vs:List AV}(g:Grow a h size p len c vs)(m:Mod [] h h'):Grow a h' size p len c vs:=g.mod m λb _=>by simp
theorem Grow.base{a a' h:H}{size:Nat}{p:Option (Nat×Nat)}{len:Nat}{c:aM}{vs:List AV}(g:Grow a h size p len c vs)(ha:a'.next<=a.next):Grow a' h size p len c vs:=by
 rcases g.look with h0 | ⟨b,rfl,h1,h2⟩
 ·exact⟨.inl h0⟩
 ·exact⟨.inr ⟨b,rfl,qb ha h1,h2⟩⟩
theorem Grow.fresh{a h:H}(ha:a.next<=h.next){size len:Nat}{vs:List AV}(hl:vs.length=len*size){c:aM}(hc:c=.rest size∨c=.known len):Grow a (h.new (.cells vs false)) size (some (h.next,0)) len c vs:=
 ⟨.inr ⟨h.next,rfl,ha,Nat.lt_succ_self _,aY _ _,hl,hc⟩⟩
theorem Grow.app{a h:H}{size bytes:Nat}{p:Option (Nat×Nat)}{len:Nat}{c:aM}{vs:List AV}(g:Grow a h size p len c vs)(ha:a.next<=h.next){src:Option (Nat×List AV)}{n:Nat}{news:List AV}(hs:src=some (n,news))(hn:news.length=n*size)(hcell:news.all cT=true)
  (hb:(len+n)*bytes<=140737488355328) (h63:len+n<=9223372036854775807) (hz:n=0->news=[]):
  ∃p' c' h',(∀f:Option (Nat×Nat)->Nat->aM->H->Option β,fS size bytes p len c src h f=f p' (len+n) c' h')/\Grow a h' size p' (len+n) c' (vs++news)/\Mod (own p) h h':=by
 subst hs
 by_cases h0:n=0
 ·subst h0
  obtain rfl:=hz rfl
  rw[List.append_nil]
  rcases g.look with⟨rfl,rfl,rfl,rfl⟩ | ⟨b,rfl,h1,h2,h3,h4,h5⟩
  ·exact⟨none,.known 0,h,λf=>rfl,.nil,Mod.refl _ _⟩
  ·refine⟨some (b,0),c,h,λf=>?_,g,Mod.refl _ _⟩
   rcases h5 with rfl | rfl
   ·simp[fS,uZ]
   ·simp[fS,uZ]
 ·rcases g.look with⟨rfl,rfl,rfl,rfl⟩ | ⟨b,rfl,h1,h2,h3,h4,h5⟩
  ·refine⟨some (h.next,0),.rest size,h.new (.cells news false),λf=>?_,?_,(Mod.refl _ _).new _⟩
   ·simp only[fS,uZ]
    rw[if_neg h0,if_pos ⟨by simpa using hb,by omega⟩,Nat.zero_add]
   ·rw[List.nil_append]
    exact Grow.fresh ha (by rw[Nat.zero_add,hn]) (.inl rfl)
  ·rcases h5 with rfl | rfl
   ·refine⟨some (h.next,0),.rest size,(h.kill b).new (.cells (vs++news) false),λf=>?_,?_,((Mod.refl _ _).kill (.inr (by simp))).new _⟩
    ·simp only[fS,uZ]
     rw[if_neg h0,if_pos ⟨trivial,hb,h63⟩,h3]
     simp only[Nat.zero_add]
     rw[if_pos ⟨h4.symm,hcell⟩,List.drop_zero]
    ·exact Grow.fresh (h:=h.kill b) ha (by rw[hU,h4,hn,Nat.add_mul]) (.inl rfl)
   ·refine⟨some (h.next,0),.rest size,h.new (.cells (vs++news) false),λf=>?_,?_,(Mod.refl _ _).new _⟩
    ·simp only[fS,uZ]
     rw[if_neg (show ¬len+n<=len by omega),if_pos ⟨hb,h63⟩,h3]
     simp only[Nat.zero_add]
     rw[if_pos (Nat.le_of_eq h4.symm),List.drop_zero,<-h4,List.take_length]
    ·exact Grow.fresh ha (by rw[hU,h4,hn,Nat.add_mul]) (.inl rfl)
theorem Grow.ret{a h:H}{size bytes:Nat}{p:Option (Nat×Nat)}{len:Nat}{c:aM}{vs:List AV}(g:Grow a h size p len c vs)(ha:a.next<=h.next){src:Option (Nat×List AV)}{n:Nat}{news:List AV}(hs:src=some (n,news))(hn:news.length=n*size)(hcell:news.all cT=true)
  (hb:(len+n)*bytes<=140737488355328) (h63:len+n<=9223372036854775807) (hz:n=0->news=[]) {f:Option (Nat×Nat)->Nat->aM->H->Option (α×H)} {Q:α->H->Prop}
  (k:∀p' c' h',Grow a h' size p' (len+n) c' (vs++news)->Mod (own p) h h'->cg (f p' (len+n) c' h') Q):cg (fS size bytes p len c src h f) Q:=by
 obtain⟨p',c',h',e,g',m⟩:=g.app (β:=α×H) ha hs hn hcell hb h63 hz
 rw[e]
 exact k p' c' h' g' m
theorem Grow.push{a h:H}{size bytes:Nat}{p:Option (Nat×Nat)}{len:Nat}{c:aM}{vs:List AV}(g:Grow a h size p len c vs)(ha:a.next<=h.next){xs:List AV}(hx:xs.length=size)(hc:xs.all cT=true)(h0:0<size)(hb:(len+1)*bytes<=140737488355328)(h63:len+1<=9223372036854775807)
  {f:Option (Nat×Nat)->Nat->aM->H->Option (α×H)} {Q:α->H->Prop} (k:∀p' c' h',Grow a h' size p' (len+1) c' (vs++xs)->Mod (own p) h h'->cg (f p' (len+1) c' h') Q):
  cg (fS size bytes p len c (di size (.slice (some (h.next,0)) 1 (.known 1)) (h.new (.cells xs false))) (h.new (.cells xs false)) f) Q:=by
 have m2:Mod [] h (h.new (.cells xs false)):=(Mod.refl _ _).new _
 have r2:Row (h.new (.cells xs false)) size (some (h.next,0)) 1 (.known 1) xs:=.row (by simp) (aY _ _) (by rw[List.drop_zero,Nat.one_mul,<-hx,List.take_length]) (by omega) (.inr ⟨1,rfl,cF _⟩)
 exact(g.ak m2).ret (qb ha m2.next) r2.src (by omega) hc hb h63 (λh=>by cases h) λp' c' h' g' m'=>k p' c' h' g' (m2.of_nil.trans m')
theorem Mod.push{a h h':H}{S:List Nat}{size:Nat}{p:Option (Nat×Nat)}{len:Nat}{c:aM}{vs:List AV}(m:Mod S a h)(g:Grow a h size p len c vs)(m':Mod (own p) h h'):Mod S a h':=
 m.trans' m' λi hi hl=>by have:=(g.iy i hi).1;omega
end
section
variable {K V β:Type}[DecidableEq K]
def yx(ek:K->AV)(ev:V->AV)(l:List (K×V))(o:cK):Prop:=
 ∃(L:List (K×V×Nat)) (eO:Nat),o=.map (L.map λx=>(ek x.1,ev x.2.1,x.2.2)) eO/\L.map (λx=>(x.1,x.2.1))=l/\(L.map (·.2.2)).Nodup/\∀x∈L,x.2.2<eO
def afY(ek:K->AV):Prop:=∀a b,bZ (ek a) (ek b)=some (decide (a=b))
def lk(l:List (K×V))(k:K):Option V:=(l.find? λe=>decide (k=e.1)).map (·.2)
def pt(l:List (K×V))(k:K)(v:V):List (K×V):=if(l.any λe=>decide (k=e.1))=true then l.map λe=>if k=e.1 then(k,v)else e else l++[(k,v)]
theorem vl:afY AV.str:=λa b=>by
 simp only[bZ]
 congr 1
 rw[Bool.eq_iff_iff,MapKept.bytes_beq];simp
theorem yx.nil{ek:K->AV}{ev:V->AV}:yx ek ev ([]:List (K×V)) (.map [] 0):=⟨[],0,rfl,rfl,List.nodup_nil,λx hx=>by cases hx⟩
theorem NB{ek:K->AV}{ev:V->AV}(hk:afY ek)(k:K):∀L:List (K×V×Nat),A8 (ek k) (L.map λx=>(ek x.1,ev x.2.1,x.2.2))=some ((L.find? λe=>decide (k=e.1)).map λx=>(ek x.1,ev x.2.1,x.2.2)):=by
 intro l
 unfold A8
 rw[if_pos]
 ·congr 1
  rw[List.find?_map]
  congr 2
  funext x
  simp[Function.comp,hk k x.1]
 ·simp[hk k]
theorem ahh(L:List (K×V×Nat))(k:K):lk (L.map λx=>(x.1,x.2.1)) k=(L.find? λe=>decide (k=e.1)).map (·.2.1):=by
 unfold lk
 rw[List.find?_map,Option.map_map]
 rfl
theorem Jl{h:H}{m:Nat}{o:cK}{ek:K->AV}{ev:V->AV}{l:List (K×V)}(hk:afY ek)(hg:h.get m=some o)(ho:yx ek ev l o)(z:AV)(k:K)(f:AV->Bool->Option β):
  xp z (some m) (ek k) h f=match lk l k with | some v=>f (ev v) true | none=>f z false:=by
 obtain⟨L,eO,rfl,rfl,_,_⟩:=ho
 rw[ahh]
 simp only[xp,zq,Fa,hg,NB hk]
 cases L.find? λe=>decide (k=e.1)<;>rfl
theorem RV{h:H}{m:Nat}{o:cK}{ek:K->AV}{ev:V->AV}{l:List (K×V)}(hk:afY ek)(hg:h.get m=some o)(ho:yx ek ev l o)(k:K)(v:V):
  ∃o',yx ek ev (pt l k v) o'/\∀f:H->Option β,Ic (some m) (ek k) (ev v) h f=f (h.set m o'):=by
 obtain⟨L,eO,rfl,rfl,hn,hb⟩:=ho
 cases hf:L.find? λe=>decide (k=e.1)with
 | none=>
  rw[List.find?_eq_none]at hf
  refine⟨.map ((L++[(k,v,eO)]).map λx=>(ek x.1,ev x.2.1,x.2.2)) (eO+1),⟨L++[(k,v,eO)],eO+1,rfl,?_,?_,?_⟩,λf=>?_⟩
  ·unfold pt
   rw[if_neg]
   ·simp
   ·simp only[List.any_map,List.any_eq_true,not_exists,not_and]
    exact λx hx=>hf x hx
  ·rw[List.map_append,List.nodup_append]
   refine⟨hn,by simp,λa ha b hb' e=>?_⟩
   obtain⟨x,hx,rfl⟩:=List.mem_map.1 ha
   simp at hb'
   have:=hb x hx
   omega
  ·intro x hx
   rcases List.mem_append.1 hx with hx | hx
   ·have:=hb x hx;omega
   ·obtain rfl:x=(k,v,eO):=by simpa using hx
    exact Nat.lt_succ_self _
  ·have hf':(L.find? λe=>decide (k=e.1))=none:=List.find?_eq_none.2 hf
   simp only[Ic,s7,hg,I0,NB hk,hf',Option.map_none,Option.map_some]
   rw[List.map_append]
   rfl
 | some x=>
  have axn:((L.map λx=>(x.1,x.2.1)).any λe=>decide (k=e.1))=true:=by
   rw[List.any_map,List.any_eq_true]
   exact⟨x,List.mem_of_find?_eq_some hf,List.find?_some (p:=λe:K×V×Nat=>decide (k=e.1)) hf⟩
  refine⟨.map ((L.map λe=>if k=e.1 then(k,v,e.2.2)else e).map λx=>(ek x.1,ev x.2.1,x.2.2)) eO,⟨_,eO,rfl,?_,?_,?_⟩,λf=>?_⟩
  ·unfold pt
   rw[if_pos axn,List.map_map,List.map_map]
   apply List.map_congr_left
   intro e _
   simp only[Function.comp]
   by_cases he:k=e.1<;>simp[he]
  ·rw[List.map_map]
   have:((λx:K×V×Nat=>x.2.2) ∘ λe=>if k=e.1 then(k,v,e.2.2)else e)=λx=>x.2.2:=by
    funext e;simp only[Function.comp];split<;>rfl
   rw[this];exact hn
  ·intro y hy
   obtain⟨e,he,rfl⟩:=List.mem_map.1 hy
   have:=hb e he
   split<;>exact this
  ·simp only[Ic,s7,hg,I0,NB hk,hf,Option.map_some]
   congr 3
   rw[List.map_map,List.map_map]
   apply List.map_congr_left
   intro e _
   simp only[Function.comp,hk k e.1]
   by_cases he:k=e.1<;>simp[he]
theorem adU(k:K):lk ([]:List (K×V)) k=none:=rfl
theorem aQ(e:K×V)(l:List (K×V))(k:K):lk (e::l) k=if k=e.1 then some e.2 else lk l k:=by
 unfold lk
 rw[List.find?_cons]
 by_cases h:k=e.1<;>simp[h]
theorem aau(l l':List (K×V))(k:K):lk (l++l') k=(lk l k).or (lk l' k):=by
 unfold lk
 rw[List.find?_append]
 cases List.find? (λe=>decide (k=e.1)) l<;>simp
theorem YM{l:List (K×V)}{k:K}:lk l k=none↔∀e∈l,k≠e.1:=by
 unfold lk
 rw[Option.map_eq_none_iff,List.find?_eq_none]
 simp
theorem amQ{l:List (K×V)}{k k':K}{v:V}:lk (l.map λe=>if k=e.1 then(k,v)else e) k'=if k'=k then(if(l.any λe=>decide (k=e.1))=true then some v else none)else lk l k':=by
 induction l with
 | nil=>simp[adU]
 | cons e l ih=>
  rw[List.map_cons,aQ,ih,aQ,List.any_cons]
  by_cases h1:k=e.1
  ·subst h1
   by_cases h2:k'=e.1<;>simp[h2]
  ·by_cases h2:k'=k
   ·subst h2
    simp only[h1,if_false,if_true]
    rw[show(decide False:Bool)=false from decide_eq_false id,Bool.false_or]
   ·simp[h1,h2]
theorem asu(l:List (K×V))(k:K)(v:V)(k':K):lk (pt l k v) k'=if k'=k then some v else lk l k':=by
 unfold pt
 split
 ·rename_i h;rw[amQ,if_pos h]
 ·rename_i h
  rw[aau,aQ,adU]
  by_cases h2:k'=k
  ·subst h2
   have:lk l k'=none:=YM.2 λe he hk=>h (List.any_eq_true.2 ⟨e,he,by simp[hk]⟩)
   simp[this]
  ·simp[h2]
end
theorem CG(s:ByteArray):s.toList=s.data.toList:=ByteArray.toList_eq s
theorem toList_inj{a b:ByteArray}:a.toList=b.toList↔a=b:=by
 constructor
 ·intro h
  rw[CG,CG]at h
  obtain⟨x⟩:=a
  obtain⟨y⟩:=b
  simp only at h
  rw[Array.toList_inj.1 h]
 ·intro h;rw[h]
theorem yb(a b:ByteArray):(a.toList==b.toList)=decide (a=b):=by
 by_cases h:a=b
 ·subst h;simp
 ·rw[decide_eq_false h,beq_eq_false_iff_ne]
  exact λe=>h (toList_inj.1 e)
theorem acq{β:Type}{s:ByteArray}{n:Int}(h0:0<=n)(h1:n.toNat<s.size)(f:Int->Option β):iB s n f=f (s[n.toNat]'h1).toNat:=by
 unfold iB
 rw[if_pos h0,getElem?_pos s n.toNat h1]
open Go.RowKit
theorem kg.YQ{r:Ren}{vs:List Value}(h:kg r [] vs):vs=[]:=by
 exact List.eq_nil_of_length_eq_zero h.1.symm
theorem kg.two{r:Ren}{a b:AV}{args':Array Value}(h:kg r [a,b] args'.toList):∃v u,args'=#[v,u]/\VR r a v/\VR r b u:=by
 obtain⟨v,vs,e,hv,h⟩:=h.jL
 obtain⟨u,us,e2,hu,h⟩:=h.jL
 obtain rfl:=h.YQ
 subst e2
 exact⟨v,u,by cases args';simp_all,hv,hu⟩
theorem kg.one{r:Ren}{a:AV}{args':Array Value}(h:kg r [a] args'.toList):∃v,args'=#[v]/\VR r a v:=by
 obtain⟨v,vs,e,hv,h⟩:=h.jL
 obtain rfl:=h.YQ
 exact⟨v,by cases args';simp_all,hv⟩
theorem OF{P:Program}{f:FuncId}{fn:Func}{e:Array Value->Sem Value}(hf:P.funcs[f]?=some fn)(hb:fn.body.isNone=true)(hn:(fn.name == "runtime.NumGoroutine")=false)(hx:(Extern.findNext fn).isNone=true)(he:Extern.find fn=some e)
  {args:List AV} {v:AV} {h:H} (hrun:∀(r:Ren) (w:World) (args':Array Value),kg r args args'.toList->∃v',(e args').run P w=.ok v' w/\VR r v v'):aiO P f args h v h where
 there:=⟨fn,e,hf,hb,hn,hx,he,λr w args' an _ ha=>by
  obtain⟨v',h1,h2⟩:=hrun r w args' ha
  exact⟨r,v',w,h1,h2,Post.refl an⟩⟩
 next:=cF _
 wf:=λh=>h
def QU(s:ByteArray)(c:Int):Int:=(Lib.countByte s.data.toList c.toNat.toUInt8:Nat)
def Rn(s:ByteArray)(c:Int):Int:=Lib.indexByte s.data.toList c.toNat.toUInt8
theorem OX{P:Program}{f:FuncId}{fn:Func}(hf:P.funcs[f]?=some fn)(hb:fn.body.isNone=true)(hn:(fn.name == "runtime.NumGoroutine")=false)(hx:(Extern.findNext fn).isNone=true)(he:Extern.find fn=some Extern.BytealgCount.count)
  {s:ByteArray} {c:Int} {h:H} {q:Int×H} (e:some (QU s c,h)=some q):xH P f [.str s,.int .u8 c] h (.int .i64 q.1) q.2:=by
 cases e
 refine .inr (OF hf hb hn hx he λr w args' ha=>?_)
 obtain⟨v,u,rfl,h1,h2⟩:=ha.two
 cases h1;cases h2
 exact⟨_,Lib.run_countString s c w,.int _ _⟩
theorem Pb{P:Program}{f:FuncId}{fn:Func}(hf:P.funcs[f]?=some fn)(hb:fn.body.isNone=true)(hn:(fn.name == "runtime.NumGoroutine")=false)(hx:(Extern.findNext fn).isNone=true)(he:Extern.find fn=some Extern.BytealgIndexByte.indexByte)
  {s:ByteArray} {c:Int} {h:H} {q:Int×H} (e:some (Rn s c,h)=some q):xH P f [.str s,.int .u8 c] h (.int .i64 q.1) q.2:=by
 cases e
 refine .inr (OF hf hb hn hx he λr w args' ha=>?_)
 obtain⟨v,u,rfl,h1,h2⟩:=ha.two
 cases h1;cases h2
 exact⟨_,Lib.run_indexByteString s c w,.int _ _⟩
theorem Row.unique{h:H}{size:Nat}{p:Option (Nat×Nat)}{len:Nat}{c:aM}{vs us:List AV}(r:Row h size p len c vs)(s:Row h size p len c us):vs=us:=by
 cases r with
 | nil=>cases s;rfl
 | row hb hg hv hl hc=>
  cases s with
  | row hb' hg' hv' hl' hc'=>
   rw[hg]at hg'
   cases hg'
   exact hv.symm.trans hv'
theorem acD{r:Ren}{h:H}{w:World}(an:Rel r h w){b:Nat}{t:D4}(hr:r b=some t){cs:List AV}{ro:Bool}(hg:h.get b=some (.cells cs ro)){i:Nat}{a:AV}(hi:cs[i]?=some a):∃v,w.cell? ⟨t.blk,t.base+i,none⟩=some v/\VR r a v/\t.blk<w.heap.size:=by
 obtain⟨C,e,fz,h1,h2,h3,h4,h5⟩:=an.obj b t _ hr hg
 have hlt:t.base+i<C.size:=by have:=(sS hi).1;omega
 exact⟨C[t.base+i],by simp[World.cell?,h1,hlt],h4 i a _ hi (Array.getElem?_eq_getElem hlt),an.bound b t hr⟩
theorem aii(h:H)(o o':cK):(h.new o).set h.next o'=h.new o':=by
 simp only[H.new,H.set,H.mk.injEq,true_and]
 funext j
 split<;>rfl
theorem mZ{β:Type}{h:H}{cs xs:List AV}{n:Nat}(hl:xs.length=n)(hc:cs.length=n)(ha:xs.all cT=true)(f:H->Option β):bK (h.new (.cells cs false)) h.next 0 n xs f=f (h.new (.cells xs false)):=by
 rw[DT (aY _ _) hl (by omega) ha,GP _ _ (by omega),aii]
theorem adY{β:Type}{size bytes:Nat}{zs:List AV}{l:Nat}(h:H)(hl:l<1000000)(hb:bytes<=1000)(f:Nat->Nat->Nat->H->Option β):Ug size bytes zs (l:Int) (l:Int) h f=f h.next l l (h.new (.cells (vf (l*size) zs) false)):=by
 unfold Ug
 have hw:IntKind.i64.wrap (l:Int)=l:=wrap_i64 (by omega) (by omega)
 have hm:(bytes:Int)*(l:Int)<=2 ^ 48:=by
  have:bytes*l<=1000*1000000:=Nat.mul_le_mul hb (by omega)
  have h2:((bytes*l:Nat):Int)<=1000000000:=by omega
  rw[<-Int.natCast_mul]
  omega
 rw[hw,if_pos ⟨by omega,Int.le_refl _,by omega⟩,aL]
 rfl
theorem V3(n:Nat)(v:AV):vf n [v]=List.replicate n v:=by
 apply List.ext_getElem?
 intro k
 unfold vf
 rw[List.getElem?_map,List.getElem?_replicate]
 by_cases h:k<n
 ·rw[List.getElem?_range h,if_pos h];simp[Nat.mod_one]
 ·rw[List.getElem?_eq_none (by simp;omega),if_neg h];rfl
def bs(s:ByteArray):List UInt8:=s.data.toList
def mk(l:List UInt8):ByteArray:=⟨l.toArray⟩
theorem Li(s:ByteArray):mk (bs s)=s:=by cases s;simp[mk,bs]
theorem ko(l:List UInt8):bs (mk l)=l:=by simp[mk,bs]
theorem oI{a b:ByteArray}(h:bs a=bs b):a=b:=by rw[<-Li a,h,Li]
theorem aP(s:ByteArray):(bs s).length=s.size:=rfl
theorem size_mk(l:List UInt8):(mk l).size=l.length:=rfl
theorem jB(s:ByteArray)(a b:Nat):bs (s.extract a b)=((bs s).drop a).take (b - a):=by
 have:=Lib.extract_toList s a b
 rw[CG]at this
 exact this
theorem VB{s:ByteArray}{i:Nat}(h:i<s.size):(bs s)[i]?=some s[i]:=by
 unfold bs
 rw[List.getElem?_eq_getElem (show i<s.data.toList.length from h)]
 rfl
theorem cC{β:Type}{s:ByteArray}{i:Nat}{b:UInt8}(h:(bs s)[i]?=some b)(f:Int->Option β):iB s (i:Int) f=f b.toNat:=by
 have hl:i<s.size:=by have:=(sS h).1;rw[aP]at this;exact this
 rw[acq (by omega) (by simpa using hl)]
 rw[VB hl]at h
 cases h
 rfl
theorem PA(a b:ByteArray):bs (a++b)=bs a++bs b:=by simp[bs]
theorem ZR{s:ByteArray}{pos:Nat}(h:pos<s.size)(hb:128<=(s[pos]'h).toNat):128<=(Utf8.decode s pos).1:=by
 have e:s.get! pos=s[pos]:=by
  show s.data[pos]! = s.data[pos]
  exact getElem!_pos s.data pos h
 unfold Utf8.decode
 simp only[Nat.add_zero,e]
 rw[if_neg (by omega)]
 have hr:128<=Utf8.runeError:=by decide
 split
 ·split
  ·assumption
  ·exact hr
 ·split
  ·split
   ·rename_i h;simp only[Bool.and_eq_true,decide_eq_true_eq]at h;have:=h.1;simp only;omega
   ·exact hr
  ·split
   ·split
    ·rename_i h;simp only[Bool.and_eq_true,decide_eq_true_eq]at h;have:=h.1;simp only;omega
    ·exact hr
   ·exact hr
theorem af0{r:Ren}{i b row:Nat}(h:r i=some ⟨b,0,row⟩):VR r (.ptr (some (i,0))) (.pointer (some ⟨b,0,none⟩)):=.ptr (o:=0) h
def Fh(m:Option Nat)(h:H):Option cK:=
 match m with
 | none=>some (.AI none 0 [] 0)
 | some i=>match h.xq i with | some (_,eO)=>some (.AI (some i) eO [] eO) | none=>none
theorem Q8{P:Program}{r:Ren}{h:H}{w:World}(an:Rel r h w)(hfree:r h.next=none){t kt e:TypeId}(hu:P.underlying t=some (.map kt e)){m:Option Nat}{m':Value}{o:cK}
  (hs:Fh m h=some o) (hm:VR r (.map m) m'):∃w' r',(Instr.range t m').run P w=.ok (.pointer (some ⟨w.heap.size,0,none⟩)) w'/\VR r' (.ptr (some (h.next,0))) (.pointer (some ⟨w.heap.size,0,none⟩))/\Post r h w r' (h.new o) w':=by
 have go:∀(it:Obj),(∀r':Ren,r.le r'->OR r' (w.alloc it) ⟨w.heap.size,0,0⟩ o)->Post r h w (r.put h.next ⟨w.heap.size,0,0⟩) (h.new o) (w.alloc it)/\VR (r.put h.next ⟨w.heap.size,0,0⟩) (.ptr (some (h.next,0))) (.pointer (some ⟨w.heap.size,0,none⟩)):=by
  intro it Jd
  refine⟨Post.RN an hfree (World.size_alloc ..) ⟨rfl,rfl,rfl,λ_=>cF _⟩ (λb hb=>alloc_old hb) Jd,af0 (row:=0) ?_⟩
  simp[Ren.put]
 cases hm with
 | Dt=>
  simp only[Fh,Option.some.injEq]at hs
  subst hs
  obtain⟨p,v⟩:=go (.mapIter none 0 #[] 0) (λr' hr=>⟨none,se w _,rfl,.Dt⟩)
  refine⟨_,_,?_,v,p⟩
  simp only[Instr.range,Sem.run_bind,run_underlying hu,Result.andThen_ok,Sem.run_pure,run_newObj,World.alloc_eq]
 | map ht=>
  simp only[Fh]at hs
  split at hs
  ·rename_i es eO hg
   cases hs
   obtain⟨E,hb,YB⟩:=an.xq ht hg
   rename_i j0 t0 x0
   obtain⟨p,v⟩:=go (.mapIter (some t0.blk) eO #[] eO) (λr' hr=>⟨some t0.blk,se w _,rfl,.map (hr _ _ ht)⟩)
   refine⟨_,_,?_,v,p⟩
   simp only[Instr.range,Sem.run_bind,run_underlying hu,Result.andThen_ok,Sem.run_pure,kF hb,run_newObj,World.alloc_eq]
  ·cases hs
def yo(h:H)(i:Nat)(c:Option (AV×AV×H)):Prop:=
  match h.get i with
  | some (.AI none _ _ _)=>c=none
  | some (.AI (some m) since seen _)=>
    match h.xq m with
    | some (es,eO)=>
      (match c with
       | none=>∀e∈es,e.2.2∉seen->since<=e.2.2
       | some (k,v,h')=>∃e∈es,e.2.2∉seen/\k=e.1/\v=e.2.1/\h'=h.set i (.AI (some m) since (seen++[e.2.2]) eO))
    | none=>False
  | _=>False
def KN(h:H)(i:Nat):Prop:=
 match h.get i with
 | some (.AI none _ _ _)=>True
 | some (.AI (some m) _ seen last)=>match h.xq m with | some (es,_)=>¬(seen≠[]/\es≠[]/\∀e∈es,last<=e.2.2) | none=>False
 | _=>False
def CH(E:Array MapEntry)(seen:Array Nat)(since:Nat):Array (Option MapEntry):=
 let left:=E.filter λe=>!seen.contains e.born
 let old:=left.filter (·.born<since)
 let new:=left.filter (·.born>=since)
 (if old.isEmpty then #[none]else #[])++(old++new).map some
theorem acv(E:Array MapEntry)(seen:Array Nat)(since:Nat):0<(CH E seen since).size:=by
 unfold CH
 simp only
 generalize (E.filter λe=>!seen.contains e.born).filter (·.born<since)=old
 by_cases ho:old.isEmpty=true
 ·rw[if_pos ho];simp;omega
 ·rw[if_neg ho]
  have:0<old.size:=by rw[Array.isEmpty_iff_size_eq_zero]at ho;omega
  simp;omega
theorem acu{E:Array MapEntry}{seen:List Nat}{since:Nat}{c:Option MapEntry}(h:c∈CH E seen.toArray since):
  (c=none/\∀e∈E.toList,e.born∉seen->since<=e.born)∨∃e,c=some e/\e∈E.toList/\e.born∉seen:=by
 unfold CH at h
 simp only at h
 rcases Array.mem_append.1 h with h | h
 ·left
  split at h
  ·rename_i ho
   refine⟨by simpa using h,λe he hs=>Nat.le_of_not_lt λhlt=>?_⟩
   rw[Array.isEmpty_iff]at ho
   have:e∈(E.filter λe=>!seen.toArray.contains e.born).filter (·.born<since):=Array.mem_filter.2 ⟨Array.mem_filter.2 ⟨by simpa using he,by simpa using hs⟩,by simpa using hlt⟩
   rw[ho]at this
   simp at this
  ·simp at h
 ·right
  obtain⟨e,he,rfl⟩:=Array.mem_map.1 h
  refine⟨e,rfl,?_⟩
  have:e∈E.filter λe=>!seen.toArray.contains e.born:=by
   rcases Array.mem_append.1 he with he | he
   ·exact(Array.mem_filter.1 he).1
   ·exact(Array.mem_filter.1 he).1
  have:=Array.mem_filter.1 this
  exact⟨by simpa using this.1,by simpa using this.2⟩
theorem UA{P:Program}{w:World}{n:Nat}(hn:0<n):∃(j:Nat) (w1:World),j<n/\w1.heap=w.heap/\Env w w1/\(choose (.mapNext n)).run P w=.ok j w1:=by
 by_cases hf:(Question.mapNext n).forced=true
 ·refine⟨0,w,hn,rfl,Env.refl w,?_⟩
  unfold choose
  simp only[Sem.run]
  rw[if_pos hf]
 ·refine⟨w.tape w.drawn (.mapNext n) % n,{w with drawn:=w.drawn+1},Nat.mod_lt _ hn,rfl,⟨rfl,rfl,rfl,λ_=>dW _⟩,?_⟩
  unfold choose
  simp only[Sem.run]
  rw[if_neg hf]
  rfl
theorem Zg{P:Program}{r:Ren}{h:H}{w:World}(an:Rel r h w){i:Nat}{it':Value}{ty:TypeId}(ha:KN h i)(hx:VR r (.ptr (some (i,0))) it'):
  ∃c v' w',yo h i c/\(Instr.next it' false ty).run P w=.ok v' w'/\
   match c with
   | none=>VR r (.dJ [.bool false]) v'/\Post r h w r h w'
   | some (k,v,h')=>VR r (.dJ [.bool true,k,v]) v'/\Post r h w r h' w':=by
 unfold KN at ha
 cases hx with
 | ptr ht=>
 rename_i t
 split at ha
 ·rename_i a b c hg
  obtain⟨m',hb,h0,hm⟩:=an.obj _ _ _ ht hg
  cases hm
  have j9:(getObj t.blk).run P w=.ok (.mapIter none a b.toArray c) w:=by simp[getObj,Sem.run,hb]
  refine⟨none,_,w,by unfold yo;rw[hg],?_,vY (vs:=[.bool false]) (.cons (.bool _) .nil),Post.refl an⟩
  simp only[Instr.next,h0,Nat.add_zero,Sem.run_bind,j9,Result.andThen_ok]
  rfl
 ·rename_i m since seen last hg
  obtain⟨m',hb,h0,hm⟩:=an.obj _ _ _ ht hg
  cases hm with
  | map htm=>
  rename_i tm
  have j9:(getObj t.blk).run P w=.ok (.mapIter (some tm.blk) since seen.toArray last) w:=by simp[getObj,Sem.run,hb]
  split at ha
  ·rename_i es eO hgm
   obtain⟨E,hbm,hE,hp⟩:=an.xq htm hgm
   have adj:=kF (P:=P) hbm
   obtain⟨E',vP,hl,TY⟩:=hE
   have toE:∀x∈es,∃e∈E.toList,VR r x.1 e.key/\VR r x.2.1 e.val/\x.2.2=e.born:=by
    intro x hx
    obtain⟨j,hj⟩:=List.getElem?_of_mem hx
    have hlt:j<E'.length:=by rw[<-hl];exact(sS hj).1
    exact⟨E'[j],vP.mem_iff.1 (List.getElem_mem hlt),TY j x _ hj (List.getElem?_eq_getElem hlt)⟩
   have ofE:∀e∈E.toList,∃x∈es,VR r x.1 e.key/\VR r x.2.1 e.val/\x.2.2=e.born:=by
    intro e he
    obtain⟨j,x,h1,h2,h3⟩:=Ue hl TY (vP.mem_iff.2 he)
    exact⟨x,Hq h1,h3⟩
   have alp:(!seen.toArray.isEmpty&&!E.isEmpty&&E.all (·.born>=last))=false:=by
    rw[<-Bool.not_eq_true]
    intro hq
    simp only[Bool.and_eq_true,Bool.not_eq_true',Array.all_eq_true_iff_forall_mem,decide_eq_true_eq]at hq
    obtain⟨⟨q1,q2⟩,q3⟩:=hq
    refine ha ⟨?_,?_,?_⟩
    ·rintro rfl;simp at q1
    ·rintro rfl
     have:E'=[]:=List.length_eq_zero_iff.1 hl.symm
     subst this
     have:=vP.nil_eq
     have hE0:E=#[]:=by rw[<-Array.toList_eq_nil_iff];exact this.symm
     subst hE0;simp at q2
    ·intro x hx
     obtain⟨e,he,_,_,hb'⟩:=toE x hx
     rw[hb'];exact q3 e (by simpa using he)
   obtain⟨j,w1,hj,hw1,yH,hrun⟩:=UA (P:=P) (w:=w) (acv E seen.toArray since)
   have hb1:w1.heap[t.blk]?=some (.mapIter (some tm.blk) since seen.toArray last):=by rw[hw1];exact hb
   have hp1:Post r h w r h w1:=Post.same an hw1 yH
   have hcj:(CH E seen.toArray since)[j]?=some ((CH E seen.toArray since)[j]):=Array.getElem?_eq_getElem hj
   have hcs:=acu (Array.getElem_mem hj)
   generalize (CH E seen.toArray since)[j]=cj at hcj hcs
   have hnext:(Instr.next (.pointer (some ⟨t.blk,t.base+0,none⟩)) false ty).run P w=(match (CH E seen.toArray since)[j]? with
     | some (some e)=>(do setObj t.blk (.mapIter (some tm.blk) since (seen.toArray.push e.born) eO);pure (.tuple #[.bool true,e.key,e.val]):Sem Value)
     | some none=>pure (.tuple #[.bool false])
     | none=>stuck "Next: no such candidate").run P w1:=by
    simp only[Instr.next,h0,Nat.add_zero,Sem.run_bind,j9,Result.andThen_ok,adj,alp,Bool.false_eq_true,if_false]
    change Result.andThen (Sem.run P (choose (.mapNext (CH E seen.toArray since).size)) w) _=_
    rw[hrun]
    rfl
   rcases hcs with⟨rfl,hno⟩ | ⟨e,rfl,he,Lb⟩
   ·refine⟨none,.tuple #[.bool false],w1,?_,?_,vY (vs:=[.bool false]) (.cons (.bool _) .nil),hp1⟩
    ·unfold yo
     rw[hg]
     simp only[hgm]
     intro x hx Lb
     obtain⟨e,he,_,_,Vb⟩:=toE x hx
     rw[Vb]at Lb ⊢
     exact hno e he Lb
    ·rw[hnext,hcj]
     rfl
   ·obtain⟨x,hx,hv1,hv2,Vb⟩:=ofE e he
    have hlt:=World.EM hb1
    refine⟨some (x.1,x.2.1,h.set i (.AI (some m) since (seen++[x.2.2]) eO)),.tuple #[.bool true,e.key,e.val],{w1 with heap:=w1.heap.setIfInBounds t.blk (.mapIter (some tm.blk) since (seen.toArray.push e.born) eO)},?_,?_,vY (vs:=[.bool true,e.key,e.val]) (.cons (.bool _) (.cons hv1 (.cons hv2 .nil))),?_⟩
    ·unfold yo
     rw[hg]
     simp only[hgm]
     exact⟨x,hx,by rw[Vb];exact Lb,rfl,rfl,rfl⟩
    ·rw[hnext,hcj]
     simp only[Sem.run_bind,setObj,Sem.run,hb1,Result.andThen_ok]
     rfl
    ·refine hp1.trans (Post.Kv (o':=.AI (some m) since (seen++[x.2.2]) eO) hp1.rel ht hg rfl rfl (by simp) ⟨rfl,rfl,rfl,λ_=>cF _⟩ (λb hbb=>by simp[Array.getElem?_setIfInBounds_ne (Ne.symm hbb)]) ⟨some tm.blk,?_,h0,.map htm⟩)
     simp only[Vb]
     rw[show(seen++[e.born]).toArray=seen.toArray.push e.born by simp]
     simp[hlt]
  ·exact absurd ha id
 ·exact absurd ha id
end Go.Ev
