/- The given Go law ConfigBack returns true for every input, and its arguments read behind the call as they read before: 'Rows.ConfigBack..Said'. No condition. -/
import Derived.Test.YtongjlmclckboaaGreatDoorM16
import Derived.Test.YtongjlmclckboaaGreatDoorRows
import Derived.Test.YtongjlmclckboaaGreatDoorCards
import Derived.Test.YtongjlmclckboaaGreatDoorTie
import Derived.Test.YtongjlmclckboaaGreatDoorM13
import Derived.LaidLaws
import Derived.Lay
import Derived.MakeChecks
import Derived.Handed
import Derived.SevenTiedAt
set_option linter.all false

namespace Go.Proofs.YtongjlmclckboaaGreatDoor.configBack
open Go.ChangeShapes Go.WideShapes Go.ChangeAt Go.RowKit
open Go.ChangeMaps (open_string shut_string)
open Go.Ev Go.Ev.Tryz

theorem own:ownKnob Tryz.prog.godebug=none:=by kernel_rfl
theorem laidOut:laidOutB Tryz.prog=true:=by kernel_rfl


theorem tz_eq:(Rows.laid_math_bits_deBruijn64tab:DataW Unit)=Lib.tabData .u8 tzs:=by kernel_rfl
theorem pow_eq:(Rows.laid_internal_strconv_uint64pow10:DataW Unit)=Lib.tabData .u64 Lib.pow10Tab:=by kernel_rfl
theorem laid_tail {P:Program} {x:String×DataW Unit} {l:List (String×DataW Unit)} {W:World} (h:laidMet P (x::l) W):laidMet P l W:=by
  obtain⟨ps,⟨g',t',cs,fuel,p,q,hg',ht',hvar,hd,hq,hps⟩,hnd,hc⟩:=h
  subst hps
  exact⟨q,hq,(List.nodup_append.1 hnd).2.1,λb off hm=>hc b off (List.mem_append.2 (.inr hm))⟩

set_option maxRecDepth 100000 in
theorem lifted (os:Os) (started:os.Started) (H:Type) (enc:TypeId×Value->H):
    ReturnsInHanded {} Tryz.checked os 3 .any (λw args=>(Rows.configBackSpec.pre enc Tryz.prog Tryz.f3 Rows.configBackRow.domain false w args/\laidMetH Tryz.prog Rows.configBackRow.laid w)/\sizedMet enc Tryz.prog Tryz.f3 (OpenSpec.ofChange Rows.configBackSpec) false w args) (Rows.configBackSpec.post enc Tryz.prog Tryz.f3 false true false false):=by
  refine returnsInHanded_of_change_and (C:=Tryz.checked) (X:=λw _=>laidMetH Tryz.prog Rows.configBackRow.laid w) (λ_ _ _ hh h=>h.of_heap hh) own started (by kernel_rfl) Tryz.func3
    (ChangeSpec.witness_shaped (enc:=enc) (C:=Tryz.checked) (os:=os) (X:=λw _=>laidMetH Tryz.prog Rows.configBackRow.laid w) false (World.laidAll Tryz.prog os Rows.configBackRow.laid) #[.string ByteArray.empty] 8 (World.laidAll_os _ _ _)
      (World.shaped_of_ZipB (by kernel_rfl) (by kernel_rfl)) (by kernel_rfl) (by kernel_rfl) (by kernel_rfl)
      (by rw[MakeChecks.laidMetH_plain _ _ _ (by kernel_rfl)];exact laidMet_laidAll _ (by kernel_rfl) (by kernel_rfl))) ?_
  intro W base args ds gs before hval0 hW hcnd hsz hL _
  have hval:∀(j:Nat) t v,Tryz.f3.params[j]?=some t->args[j]?=some v->Value.okWide Tryz.prog W .any base t v:=hval0
  have hW':=hW
  obtain⟨p,q,hA0,hV,rfl,hfz,hnd⟩:=hW
  have hA:DataW.TrodAll enc Tryz.prog W 0 (λ_=>true) true Tryz.f3.params.toList args.toList ds p:=hA0
  have hAk:=hA
  rw[Tryz.params3]at hA hval
  obtain⟨v0,vs0,d0,ds0,p0,q0,hargs,rfl,rfl,h0,r0⟩:=trodAll_cons hA
  obtain⟨rfl,rfl,rfl⟩:=trodAll_nil r0
  obtain rfl:args=#[v0]:=by cases args;simp_all
  obtain⟨rfl,rfl⟩:=trodVars_none hV
  obtain⟨a0,rfl,rfl,-,-⟩:=open_string Tryz.underlying9 (hval 0 9 v0 rfl rfl) h0
  have w0:a0.size<=reachBytes:=sized_string hsz (j:=0) (t:=9) (by kernel_rfl) rfl
  simp only[List.append_nil]at hW'
  have hL':laidMet Tryz.prog Rows.configBackRow.laid W:=by rwa [MakeChecks.laidMetH_plain _ _ _ (by kernel_rfl)]at hL
  have t1:Lib.TabIs Tryz.prog W "math/bits.deBruijn64tab" .u8 tzs:=by
    refine Lib.tabIs_of_head (g:=3) (t:=193) (e:=5) (n:=64) (by kernel_rfl) (by kernel_rfl) (by kernel_rfl) (by kernel_rfl) (by kernel_rfl) (by kernel_rfl) (rest:=[("internal/strconv.uint64pow10",Rows.laid_internal_strconv_uint64pow10),("unicode/utf8.acceptRanges",Rows.laid_unicode_utf8_acceptRanges),("unicode/utf8.first",Rows.laid_unicode_utf8_first)]) ?_
    rw[<-tz_eq]
    exact laid_tail hL'
  have t2:Lib.TabIs Tryz.prog W "internal/strconv.uint64pow10" .u64 Lib.pow10Tab:=by
    refine Lib.tabIs_of_head (g:=0) (t:=184) (e:=171) (n:=20) (by kernel_rfl) (by kernel_rfl) (by kernel_rfl) (by kernel_rfl) (by kernel_rfl) (by kernel_rfl) (rest:=[("unicode/utf8.acceptRanges",Rows.laid_unicode_utf8_acceptRanges),("unicode/utf8.first",Rows.laid_unicode_utf8_first)]) ?_
    rw[<-pow_eq]
    exact laid_tail (laid_tail hL')
  refine(VD mixed T (n:=5000000) (f:=3) (by kernel_rfl) (args:=[.str a0]) (objs:=Uj (some ⟨0,0,20⟩) (some ⟨3,0,64⟩)) (Nc (by omega) (aim _ _) _ λr h' hr=>adw (h:=h') hr) (λx hx t ht=>by
    simp only[Uj,List.mem_cons,List.not_mem_nil,or_false]at hx
    rcases hx with rfl | rfl
    · cases ht;exact anX t2 (by kernel_rfl) _ _
    · cases ht;exact anO t1 (by kernel_rfl) _) (λx hx=>by
    simp only[Uj,List.mem_cons,List.not_mem_nil,or_false]at hx
    rcases hx with rfl | rfl<;>rfl) agE (.cons (.str _) kg.nil)).mono λe W' ⟨he,bel⟩=>?_
  subst he
  exact⟨_,rfl,_,_,_,[],_,[],hW',trodAll_mk1 (shut_bool Tryz.underlying4 _),FU laidOut bel _ _ _ _ (by rw[Tryz.params3];decide +kernel) hAk (λx hx=>by simpa using hW'.lt x (by simpa using hx)),rfl,bel.frame _,λh=>by cases h⟩

theorem over:Rows.configBackRow.holds Tryz.pinned (OpenSpec.ofChange Rows.configBackSpec):=
  OpenClaim.holds_of_wide 3 Tryz.f3 rfl rfl rfl rfl rfl rfl rfl ⟨rfl,rfl,rfl,rfl,rfl⟩ rfl rfl rfl rfl rfl (by kernel_rfl) Tryz.func3 (by kernel_rfl)
    (of_decide_eq_true (by kernel_rfl)) (by unfold Func.isWrapper;first | (rw[if_pos (by decide +kernel)];kernel_rfl) | (rw[if_neg (by decide +kernel)];exact⟨rfl,rfl⟩))
    (λos started H enc _=>lifted os started H enc)

theorem proved:Rows.ConfigBackCardSaid:=
  Claim7.holds_tied_plain_at .later [] [.data,.data,.data,.data,.pinned] true (true, "9d38c91fa50cfba10ab1febb6f9e1bf7d18f85cefeaf9e6e86dbadb1385e8731") false over (λ_ h=>by cases h) (by kernel_rfl) (λ_ h=>by cases h) configBack_row_tie rfl ⟨rfl,rfl⟩ (by kernel_rfl) rfl
    (λf fn hf hfn=>by
      obtain rfl:f=3:=Option.some.inj ((show Tryz.prog.funcNamed "outrider/outriderlaw18.ConfigBack" = some 3 by kernel_rfl).symm.trans hf) |>.symm
      obtain rfl:fn=Tryz.f3:=(Option.some.inj (Tryz.func3.symm.trans hfn)).symm
      exact⟨by kernel_rfl,λj t ht=>by
        rw[Tryz.params3]at ht
        have hm:t∈[9]:=by simpa using Array.mem_of_getElem? ht
        have hall:([9].all λu=>!Tryz.prog.wantsStandIn u)=true:=by kernel_rfl
        exact(show Tryz.prog.wantsStandIn t=false by simpa using List.all_eq_true.1 hall t hm)⟩)
    (by kernel_rfl)

end Go.Proofs.YtongjlmclckboaaGreatDoor.configBack
