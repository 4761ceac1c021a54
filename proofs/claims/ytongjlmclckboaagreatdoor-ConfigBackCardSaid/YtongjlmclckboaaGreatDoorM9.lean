/- Own texts, joined: . -/
import Derived.Test.YtongjlmclckboaaGreatDoorM7
import Derived.Test.YtongjlmclckboaaGreatDoorM4
import Derived.Test.YtongjlmclckboaaGreatDoorM8
import Derived.KernelRfl
set_option linter.all false
set_option maxRecDepth 100000
set_option linter.all false
namespace Go.Ev.Tryz
noncomputable section
open Go.Proofs
def lf(n:Nat)(a1 a3:Pt)(a4:Bs)(h:H):R:=J T.toTab n gP [1,1,1,1,1,1,1,1,1,1,1,1,1] [] [(1,(.ptr a1)),(3,(.ptr a3)),(4,(.str a4))] h
def tH(n m1:Nat)(a1 a3 SM:Pt)(SN:Nat)(XW:aM)(a60 a61:Int)(h:H):R:=J T.toTab n gP [1,1,1,1,1,1,1,1,1,1,1,1,1,1,0,1,0] [m1] [(1,(.ptr a1)),(3,(.ptr a3)),(59,(.slice SM SN XW)),(60,(.int .i64 a60)),(61,(.int .i64 a61))] h
def tI(n m1:Nat)(a1 a3 SO:Pt)(SP:Nat)(XX:aM)(a73 Zm:Int)(h:H):R:=J T.toTab n gP [1,1,1,1,1,1,1,1,1,1,1,1,1,1,1,0,1,0] [m1] [(1,(.ptr a1)),(3,(.ptr a3)),(72,(.slice SO SP XX)),(73,(.int .i64 a73)),(74,(.int .i64 Zm))] h
def pL(n m1:Nat)(a3 SQ:Pt)(SR:Nat)(XY:aM)(a92 a93:Int)(h:H):R:=J T.toTab n gP [1,1,1,1,1,1,1,1,1,1,1,1,1,1,1,1,1,0,1,0] [m1] [(3,(.ptr a3)),(91,(.slice SQ SR XY)),(92,(.int .i64 a92)),(93,(.int .i64 a93))] h
theorem HH(n:Nat)(a1 a3:Pt)(a4:Bs)(h:H):lf n a1 a3 a4 h=aD (.cells [(.str (⟨#[112,114,101,101,109,112,116]⟩:ByteArray)),(.str a4)] false) h λi54 h55=>(ca n aJ [(.ptr a3),(.slice (some (i54,0)) 2 (.known 2))] h55).bind λq56=>aO q56.1 λWM=>l0 WM (aC a1 λb58 o59=>af q56.2 b58 (o59+12) λv60=>asSlice v60 λx61 n62 c63=>tH n n a1 a3 x61 n62 c63 (Nat.cast n62) 0 q56.2):=(bY T.toTab n gP [1,1,1,1,1,1,1,1,1,1,1,1,1] [] _ h).trans (by kernel_rfl)
theorem zi(n m1:Nat)(a1 a3 SM:Pt)(SN:Nat)(XW:aM)(a60 a61:Int)(h:H):tH n (m1+1) a1 a3 SM SN XW a60 a61 h=cond (decide (a61<a60)) (if 0<=(a61:Int)/\a61<(Nat.cast (SN):Int)then aC SM λb64 o65=>af h b64 (o65+a61.toNat) λv66=>aZ v66 λx67=>(ca n eG [(.str x67)] h).bind λq68=>aZ q68.1 λx69=>aD (.cells [(.str (⟨#[118,105,112]⟩:ByteArray)),(.str x69)] false) q68.2 λi70 h71=>(ca n aJ [(.ptr a3),(.slice (some (i70,0)) 2 (.known 2))] h71).bind λq72=>aO q72.1 λl73=>l0 l73 (tH n m1 a1 a3 SM SN XW a60 (IntKind.i64.wrap (a61+1)) q72.2)else none) (aC a1 λZB o75=>af h ZB (o75+13) λv76=>asSlice v76 λx77 n78 c79=>tI n n a1 a3 x77 n78 c79 (Nat.cast n78) 0 h):=(bY T.toTab n gP [1,1,1,1,1,1,1,1,1,1,1,1,1,1,0,1,0] [m1+1] _ h).trans (by kernel_rfl)
theorem zj(n m1:Nat)(a1 a3 SO:Pt)(SP:Nat)(XX:aM)(a73 Zm:Int)(h:H):tI n (m1+1) a1 a3 SO SP XX a73 Zm h=cond (decide (Zm<a73)) (if 0<=(Zm:Int)/\Zm<(Nat.cast (SP):Int)then aC SO λb80 o81=>aI h b80 (o81+Zm.toNat*2) 2 λl82=>lS l82 λx84 l83=>lI l83 λx86 l85=>l0 l85 (aD (.cells [(.str .empty),(.int .i64 0)] false) h λi87 h88=>bK h88 i87 0 2 [(.str x84),(.int .i64 x86)] λh89=>af h89 i87 0 λv90=>aZ v90 λx91=>af h89 i87 1 λv92=>asInt .i64 v92 λx93=>(ca n rM [(.int .i64 x93)] h89).bind λq94=>aZ q94.1 λx95=>dU h89 q94.2 (some i87) (aD (.cells [(.str (⟨#[116,114,97,99,107]⟩:ByteArray)),(.str x91),(.str x95)] false) q94.2 λi96 h97=>(ca n aJ [(.ptr a3),(.slice (some (i96,0)) 3 (.known 3))] h97).bind λHv=>aO Hv.1 λl99=>l0 l99 (tI n m1 a1 a3 SO SP XX a73 (IntKind.i64.wrap (Zm+1)) Hv.2)))else none) (aD (.cells [(.str (⟨#[125]⟩:ByteArray))] false) h λi100 awR=>(ca n aJ [(.ptr a3),(.slice (some (i100,0)) 1 (.known 1))] awR).bind λpX=>aO pX.1 λalU=>l0 alU (aC a1 λVt WW=>af pX.2 Vt (WW+14) λafa=>asSlice afa λafg n108 akD=>pL n n a3 afg n108 akD (Nat.cast n108) 0 pX.2)):=(bY T.toTab n gP [1,1,1,1,1,1,1,1,1,1,1,1,1,1,1,0,1,0] [m1+1] _ h).trans (by kernel_rfl)
theorem zk(n m1:Nat)(a3 SQ:Pt)(SR:Nat)(XY:aM)(a92 a93:Int)(h:H):pL n (m1+1) a3 SQ SR XY a92 a93 h=cond (decide (a93<a92)) (if 0<=(a93:Int)/\a93<(Nat.cast (SR):Int)then aC SQ λaj8 am4=>aI h aj8 (am4+a93.toNat*10) 10 λWx=>lS Wx λafj Wy=>lS Wy λXD Wz=>lI Wz λafk Pe=>lI Pe λaBH ayB=>lI ayB λaol adD=>lI adD λaon ayD=>lI ayD λaoo adE=>lI adE λaoq WA=>lI WA λafl al0=>lL al0 λaos n133 awn al2=>l0 al2 (aD (.cells [(.str .empty),(.str .empty),(.int .i64 0),(.int .i64 0),(.int .i64 0),(.int .i64 0),(.int .i64 0),(.int .i64 0),(.int .i64 0),(.slice none 0 (.known 0))] false) h λi135 ac3=>bK ac3 i135 0 10 [(.str afj),(.str XD),(.int .i64 afk),(.int .i64 aBH),(.int .i64 aol),(.int .i64 aon),(.int .i64 aoo),(.int .i64 aoq),(.int .i64 afl),(.slice aos n133 awn)] λaqU=>aI aqU i135 0 10 λal5=>lS al5 λaou WB=>lS WB λSc Rt=>lI Rt λXE WC=>lI WC λSd Ru=>lI Ru λafm WD=>lI WD λafn WE=>lI WE λafo adF=>lI adF λafp adG=>lI adG λafq adH=>lL adH λafr n159 awu WH=>l0 WH ((ca n gw [(.ptr a3),(.agg [(.str aou),(.str Sc),(.int .i64 XE),(.int .i64 Sd),(.int .i64 afm),(.int .i64 afn),(.int .i64 afo),(.int .i64 afp),(.int .i64 afq),(.slice afr n159 awu)])] aqU).bind λUq=>aO Uq.1 λamb=>l0 amb (pL n m1 a3 SQ SR XY a92 (IntKind.i64.wrap (a93+1)) Uq.2)))else none) (aC a3 λab7 ad9=>(ca n tf [(.ptr (some (ab7,ad9)))] h).bind λatf=>aZ atf.1 λXF=>some ((.str XF),atf.2)):=(bY T.toTab n gP [1,1,1,1,1,1,1,1,1,1,1,1,1,1,1,1,1,0,1,0] [m1+1] _ h).trans (by kernel_rfl)
theorem LI(n:Nat)(a0:List AV)(h:H):ca (n+1) rI [(.agg a0)] h=aD (.cells a0 false) h λi1 h2=>aD (.tc 57 [(.ptr none),(.slice none 0 (.known 0))] true) h2 λi3 h4=>aD (.cells [(.str (⟨#[110,111,100,101]⟩:ByteArray)),(.str (⟨#[123]⟩:ByteArray))] false) h4 λi5 h6=>(ca n aJ [(.ptr (some (i3,0))),(.slice (some (i5,0)) 2 (.known 2))] h6).bind λq7=>aO q7.1 λl8=>l0 l8 (aI q7.2 i1 0 6 λl9=>(ca n kf [(.agg l9)] q7.2).bind λq10=>aZ q10.1 λKL=>aD (.cells [(.str (⟨#[109,97,99]⟩:ByteArray)),(.str KL)] false) q10.2 λi12 JT=>(ca n aJ [(.ptr (some (i3,0))),(.slice (some (i12,0)) 2 (.known 2))] JT).bind λq14=>aO q14.1 λWG=>l0 WG (af q14.2 i1 6 λv16=>aZ v16 λL8=>(ca n eG [(.str L8)] q14.2).bind λq18=>aZ q18.1 λx19=>aD (.cells [(.str (⟨#[97,100,100,114,101,115,115]⟩:ByteArray)),(.str x19)] false) q18.2 λi20 Me=>(ca n aJ [(.ptr (some (i3,0))),(.slice (some (i20,0)) 2 (.known 2))] Me).bind λXc=>aO Xc.1 λl23=>l0 l23 (af Xc.2 i1 7 λv24=>aZ v24 λG7=>(ca n eG [(.str G7)] Xc.2).bind λYX=>aZ YX.1 λXH=>aD (.cells [(.str (⟨#[112,101,101,114]⟩:ByteArray)),(.str XH)] false) YX.2 λi28 We=>(ca n aJ [(.ptr (some (i3,0))),(.slice (some (i28,0)) 2 (.known 2))] We).bind λq30=>aO q30.1 λl31=>l0 l31 (aD (.cells [(.str (⟨#[125]⟩:ByteArray))] false) q30.2 λi32 h33=>(ca n aJ [(.ptr (some (i3,0))),(.slice (some (i32,0)) 1 (.known 1))] h33).bind λq34=>aO q34.1 λl35=>l0 l35 (aD (.cells [(.str (⟨#[118,114,114,112]⟩:ByteArray)),(.str (⟨#[123]⟩:ByteArray))] false) q34.2 λi36 h37=>(ca n aJ [(.ptr (some (i3,0))),(.slice (some (i36,0)) 2 (.known 2))] h37).bind λq38=>aO q38.1 λl39=>l0 l39 (af q38.2 i1 8 λv40=>asInt .i64 v40 λx41=>(ca n bW [(.ptr (some (i3,0))),(.str (⟨#[105,100]⟩:ByteArray)),(.int .i64 x41)] q38.2).bind λq42=>aO q42.1 λl43=>l0 l43 (af q42.2 i1 9 λv44=>asInt .i64 v44 λx45=>(ca n bW [(.ptr (some (i3,0))),(.str (⟨#[112,114,105,111,114,105,116,121]⟩:ByteArray)),(.int .i64 x45)] q42.2).bind λq46=>aO q46.1 λl47=>l0 l47 (af q46.2 i1 10 λv48=>asInt .i64 v48 λx49=>(ca n bW [(.ptr (some (i3,0))),(.str (⟨#[101,118,101,114,121]⟩:ByteArray)),(.int .i64 x49)] q46.2).bind λq50=>aO q50.1 λl51=>l0 l51 (af q50.2 i1 11 λv52=>asBool v52 λx53=>cond x53 (lf n (some (i1,0)) (some (i3,0)) (⟨#[121,101,115]⟩:ByteArray) q50.2) (lf n (some (i1,0)) (some (i3,0)) (⟨#[110,111]⟩:ByteArray) q50.2)))))))))):=by kernel_rfl
def fR(n m1:Nat)(a1 a2 eR:Pt)(eS:Nat)(eT:aM)(a4:Int)(h:H):R:=J T.toTab n gh [1,1,0,1,0] [m1] [(1,(.ptr a1)),(2,(.ptr a2)),(3,(.slice eR eS eT)),(4,(.int .i64 a4))] h
def jd(n m1:Nat)(a1 a2 a6 Zn:Pt)(Zo:Nat)(Zp:aM)(h:H):R:=J T.toTab n gh [1,1,1,1,1,1,1,0,0] [m1] [(1,(.ptr a1)),(2,(.ptr a2)),(6,(.ptr a6)),(7,(.slice Zn Zo Zp))] h
theorem qX(n m1:Nat)(a1 a2 eR:Pt)(eS:Nat)(eT:aM)(a4:Int)(h:H):fR n (m1+1) a1 a2 eR eS eT a4 h=aC a1 λb5 o6=>af h b5 ((o6+3)+14) λv7=>asSlice v7 λx8 n9 D7=>cond (decide (a4<(Nat.cast n9))) (aC a1 λJ2 Ku=>af h J2 ((Ku+3)+14) λJY=>asSlice JY λED n15 c16=>if 0<=(a4:Int)/\a4<(Nat.cast (n15):Int)then aC ED λZv o18=>af h Zv (o18+a4.toNat*10) λR7=>aZ R7 λKM=>aD (.cells [(.str KM)] false) h λi21 K7=>fS 1 16 eR eS eT (di 1 (.slice (some (i21,0)) 1 (.known 1)) K7) K7 λp23 n24 c25 Yr=>fR n m1 a1 a2 p23 n24 c25 (IntKind.i64.wrap (a4+1)) Yr else none) (aC a1 λZx o28=>aI h Zx o28 21 λl29=>(ca n jk [(.agg l29),(.slice eR eS eT)] h).bind λq30=>aO q30.1 λl31=>lA l31 λx33 Rw=>lS Rw λXJ l34=>l0 l34 (aC a1 λb36 o37=>bK q30.2 b36 o37 21 x33 λK8=>aD (.cells [(.str .empty),(.str .empty),(.int .i64 0),(.int .i64 0),(.int .i64 0),(.int .i64 0),(.int .i64 0),(.int .i64 0),(.int .i64 0),(.slice none 0 (.known 0))] false) K8 λi39 It=>bK It i39 0 10 [(.str XJ),(.str .empty),(.int .i64 0),(.int .i64 0),(.int .i64 0),(.int .i64 1),(.int .i64 1),(.int .i64 1),(.int .i64 100),(.slice none 0 (.known 0))] λh41=>aC a1 λb42 o43=>aI h41 b42 o43 21 λl44=>(ca n fh [(.agg l44)] h41).bind λq45=>asAgg q45.1 λx46=>aC a1 λb47 o48=>bK q45.2 b47 o48 21 x46 λh49=>jd n n a1 a2 (some (i39,0)) none 0 (.known 0) h49)):=(bY T.toTab n gh [1,1,0,1,0] [m1+1] _ h).trans (by kernel_rfl)
theorem yQ(n m1:Nat)(a1 a2 a6 Zn:Pt)(Zo:Nat)(Zp:aM)(h:H):jd n (m1+1) a1 a2 a6 Zn Zo Zp h=aC a1 λb50 o51=>af h b50 (o51+20) λv52=>asInt .i64 v52 λx53=>cond ((x53:Int)==(0:Int)) (aC a1 λb54 o55=>aI h b54 o55 21 λl56=>aD (.cells [(.str (⟨#[112,114,111,116,111]⟩:ByteArray)),(.str (⟨#[118,105,112]⟩:ByteArray)),(.str (⟨#[112,111,114,116]⟩:ByteArray)),(.str (⟨#[109,111,100,101]⟩:ByteArray)),(.str (⟨#[115,99,104,101,100,117,108,101]⟩:ByteArray)),(.str (⟨#[114,105,115,101]⟩:ByteArray)),(.str (⟨#[102,97,108,108]⟩:ByteArray)),(.str (⟨#[112,114,111,98,101]⟩:ByteArray)),(.str (⟨#[98,97,99,107,101,110,100]⟩:ByteArray))] false) h λi57 h58=>aD (.cells [(.int .i64 1),(.int .i64 1),(.int .i64 1),(.int .i64 1),(.int .i64 1),(.int .i64 1),(.int .i64 1),(.int .i64 1),(.int .i64 16)] false) h58 λi59 LS=>(ca n eE [(.agg l56),(.slice (some (i57,0)) 9 (.known 9)),(.slice (some (i59,0)) 9 (.known 9)),(.slice Zn Zo Zp)] LS).bind λq61=>aO q61.1 λl62=>lA l62 λx64 l63=>lS l63 λx66 l65=>l0 l65 (aD (.cells wN false) q61.2 λi67 h68=>bK h68 i67 0 21 x64 λh69=>aI h69 i67 0 21 λl70=>aC a1 λb71 o72=>bK h69 b71 o72 21 l70 λh73=>cond (x66.toList==(⟨#[]⟩:ByteArray).toList) (aC a1 λZB o75=>aI h73 ZB o75 21 λl76=>aD (.cells [(.str (⟨#[112,114,111,116,111]⟩:ByteArray)),(.str (⟨#[118,105,112]⟩:ByteArray)),(.str (⟨#[112,111,114,116]⟩:ByteArray)),(.str (⟨#[109,111,100,101]⟩:ByteArray)),(.str (⟨#[98,97,99,107,101,110,100]⟩:ByteArray))] false) h73 λi77 h78=>(ca n gy [(.agg l76),(.slice (some (i77,0)) 5 (.known 5)),(.slice Zn Zo Zp)] h78).bind λq79=>asAgg q79.1 λx80=>aC a1 λb81 o82=>bK q79.2 b81 o82 21 x80 λh83=>aD (.cells [] false) h83 λi84 h85=>aC a1 λb86 o87=>af h85 b86 ((o87+3)+14) λv88=>asSlice v88 λx89 n90 c91=>fS 10 112 (some (i84,0)) 0 (.known 0) (di 10 (.slice x89 n90 c91) h85) h85 λp92 n93 c94 h95=>aC a6 λb96 o97=>aI h95 b96 o97 10 λl98=>lS l98 λSb l99=>lS l99 λaoh alT=>lI alT λafe alU=>lI alU λaff Rr=>lI Rr λafh adB=>lI adB λXC adC=>lI adC λafi Ww=>lI Ww λafj Wy=>lI Wy λXD Wz=>lL Wz λafk n119 awl Pe=>l0 Pe (aD (.cells [(.str Sb),(.str aoh),(.int .i64 afe),(.int .i64 aff),(.int .i64 afh),(.int .i64 XC),(.int .i64 afi),(.int .i64 afj),(.int .i64 XD),(.slice afk n119 awl)] false) h95 λi121 h122=>fS 10 112 p92 n93 c94 (di 10 (.slice (some (i121,0)) 1 (.known 1)) h122) h122 λaAA n124 ZK awW=>aC a1 λagb am6=>bK awW agb ((am6+3)+14) 1 [(.slice aAA n124 ZK)] λaqR=>aC a1 λavw azN=>aI aqR avw azN 21 λal3=>aC a2 λavx azO=>bK aqR avx azO 21 al3 λaqT=>aC a2 λavy azP=>aI aqT avy azP 21 λal5=>some ((.agg al5),aqT))) (aD (.cells [(.str x66)] false) h73 λi139 aqV=>fS 1 16 Zn Zo Zp (di 1 (.slice (some (i139,0)) 1 (.known 1)) aqV) aqV λaAB n142 awo ak2=>aC a1 λavB azS=>aI ak2 avB azS 21 λWD=>aC a6 λavD azU=>aI ak2 avD azU 10 λal7=>lS al7 λafo adF=>lS adF λafp adG=>lI adG λafq adH=>lI adH λafr WH=>lI WH λaox al9=>lI al9 λaoz ama=>lI ama λaBT ayL=>lI ayL λXF amc=>lI amc λafs amd=>lL amd λaoA n171 aww adI=>l0 adI ((ca n qq [(.agg WD),(.agg [(.str afo),(.str afp),(.int .i64 afq),(.int .i64 afr),(.int .i64 aox),(.int .i64 aoz),(.int .i64 aBT),(.int .i64 XF),(.int .i64 afs),(.slice aoA n171 aww)]),(.str x66)] ak2).bind λath=>aO ath.1 λWJ=>lA WJ λaoD amf=>lc amf λaBg amh=>asAgg aBg λami=>lS ami λaft amj=>lS amj λafu amk=>lI amk λaoE aml=>lI aml λaoF amm=>lI amm λaoG amn=>lI amn λaoH amo=>lI amo λaoI amq=>lI amq λafv amr=>lI amr λaB5 ams=>lL ams λaB6 n200 awA ayU=>l0 ayU (l0 amh (aC a1 λavP az6=>bK ath.2 avP az6 21 aoD λaw2=>aC a6 λavR az8=>bK aw2 avR az8 10 [(.str aft),(.str afu),(.int .i64 aoE),(.int .i64 aoF),(.int .i64 aoG),(.int .i64 aoH),(.int .i64 aoI),(.int .i64 afv),(.int .i64 aB5),(.slice aB6 n200 awA)] λaw3=>jd n m1 a1 a2 a6 aAB n142 awo aw3)))))) (aC a1 λavS az9=>aI h avS az9 21 λayV=>aC a2 λavT aAa=>bK h avT aAa 21 ayV λaq1=>aC a2 λavU aAb=>aI aq1 avU aAb 21 λamt=>some ((.agg amt),aq1)):=(bY T.toTab n gh [1,1,1,1,1,1,1,0,0] [m1+1] _ h).trans (by kernel_rfl)
theorem Bq(n:Nat)(a0:List AV)(h:H):ca (n+1) nT [(.agg a0)] h=aD (.cells a0 false) h λi1 h2=>aD (.cells wN false) h2 λi3 h4=>fR n n (some (i1,0)) (some (i3,0)) none 0 (.known 0) 0 h4:=by kernel_rfl
def oJ(n:Nat)(a0:Pt)(a1:Option Nat)(OG:Bool)(h:H)(kk:KK):Option Unit:=JR T n bU [1,0,0,1] [] [(0,(.ptr a0)),(1,(.map a1)),(19,(.bool OG))] h kk
def eY(n m1:Nat)(a0:Pt)(a1 a5:Option Nat)(h:H)(kk:KK):Option Unit:=JR T n bU [1,0,1,1,1,0,0] [m1] [(0,(.ptr a0)),(1,(.map a1)),(5,(.map a5))] h kk
def gM(n m1:Nat)(a0:Pt)(a5:Option Nat)(a81:Pt)(h:H)(kk:KK):Option Unit:=JR T n bU [1,0,1,1,1,1,0,1,0] [m1] [(0,(.ptr a0)),(5,(.map a5)),(81,(.ptr a81))] h kk
def jP(n m1:Nat)(a0:Pt)(a1 a5:Option Nat)(a6:Int)(a7:Bs)(a8:Pt)(a40:Bool)(h:H)(kk:KK):Option Unit:=JR T n bU [1,0,1,1,1,0,0,0,0,1,1,0,0,1,1,1,1,1] [m1] [(0,(.ptr a0)),(1,(.map a1)),(5,(.map a5)),(6,(.int .i64 a6)),(7,(.str a7)),(8,(.ptr a8)),(40,(.bool a40))] h kk
def jQ(n m1:Nat)(a0:Pt)(a5:Option Nat)(a81:Pt)(a94:Bool)(h:H)(kk:KK):Option Unit:=JR T n bU [1,0,1,1,1,1,0,1,0,0,1,1,0,1,1] [m1] [(0,(.ptr a0)),(5,(.map a5)),(81,(.ptr a81)),(94,(.bool a94))] h kk
theorem sE(n:Nat)(a0:Pt)(a1:Option Nat)(OG:Bool)(h:H)(kk:KK):oJ n a0 a1 OG h kk=cond OG (kk (.bool false) h) (aD (.map [] 0) h λi5 h6=>eY n n a0 a1 (some i5) h6 kk):=(BH T n bU [1,0,0,1] [] _ h kk).trans (by kernel_rfl)
theorem Ae(n m1:Nat)(a0:Pt)(a1 a5:Option Nat)(h:H)(kk:KK):eY n (m1+1) a0 a1 a5 h kk=(ca n eI [(.ptr a0)] h).bind λq7=>asInt .i64 q7.1 λx8=>(ca n gv [(.ptr a0)] q7.2).bind λq9=>aZ q9.1 λsD=>xp (.agg [(.int .i64 0),(.bool false),.nilFunc]) a1 (.str sD) q9.2 λv11 t12=>asAgg v11 λRs=>lI Rs λOD Kn=>lB Kn λL8 Rv=>lc Rv λR7 l18=>l0 l18 (aD (.cells [(.int .i64 0),(.bool false),.nilFunc] false) q9.2 λi20 Me=>bK Me i20 0 3 [(.int .i64 OD),(.bool L8),R7] λK7=>cond (sD.toList==(⟨#[125]⟩:ByteArray).toList) (AO a1 K7 λi23 U9=>gM n n a0 a5 (some (i23,0)) U9 kk) (cond (!t12) ((ca n aK [(.ptr a0),(.int .i64 x8),(.int .i64 180)] K7).bind λq25=>asBool q25.1 λSk=>kk (.bool Sk) q25.2) (xp (.int .i64 0) a5 (.str sD) K7 λv27 t28=>asInt .i64 v27 λx29=>af K7 i20 0 λv30=>asInt .i64 v30 λx31=>cond (decide (x29>=x31)) (af K7 i20 0 λv32=>asInt .i64 v32 λx33=>jP n m1 a0 a1 a5 x8 sD (some (i20,0)) ((x33:Int)==(1:Int)) K7 kk) (jP n m1 a0 a1 a5 x8 sD (some (i20,0)) false K7 kk)))):=(BH T n bU [1,0,1,1,1,0,0] [m1+1] _ h kk).trans (by kernel_rfl)
theorem sF(n m1:Nat)(a0:Pt)(a5:Option Nat)(a81:Pt)(h:H)(kk:KK):gM n (m1+1) a0 a5 a81 h kk=aC a81 λVx W0=>match W0 with | 0=>H8 h Vx (λu36 u37 K8=>aC a81 λb39 o40=>match o40 with | 0=>J7 K8 b39 λu41 u42=>aZ u41 λx43=>asAgg u42 λl44=>lI l44 λx46 l45=>lB l45 λx48 l47=>lc l47 λv50 l49=>l0 l49 (aD (.cells [(.int .i64 0),(.bool false),.nilFunc] false) K8 λi51 PU=>bK PU i51 0 3 [(.int .i64 x46),(.bool x48),v50] λh53=>af h53 i51 1 λv54=>asBool v54 λx55=>cond x55 (xp (.int .i64 0) a5 (.str x43) h53 λv56 t57=>asInt .i64 v56 λU3=>jQ n m1 a0 a5 a81 ((U3:Int)==(0:Int)) h53 kk) (jQ n m1 a0 a5 a81 false h53 kk)) | _=>none) (aC a0 λb59 o60=>af h b59 (o60+2) λv61=>asInt .i64 v61 λx62=>aC a0 λb63 o64=>bK h b63 (o64+2) 1 [(.int .i64 (IntKind.i64.wrap (x62+1)))] λh65=>(ca n cz [(.ptr a0),(.str (⟨#[10]⟩:ByteArray))] h65).bind λq66=>asBool q66.1 λx67=>kk (.bool x67) q66.2) | _=>none:=(BH T n bU [1,0,1,1,1,1,0,1,0] [m1+1] _ h kk).trans (by kernel_rfl)
theorem Ac(n m1:Nat)(a0:Pt)(a1 a5:Option Nat)(a6:Int)(a7:Bs)(a8:Pt)(a40:Bool)(h:H)(kk:KK):jP n m1 a0 a1 a5 a6 a7 a8 a40 h kk=cond a40 ((ca n aK [(.ptr a0),(.int .i64 a6),(.int .i64 181)] h).bind λq68=>asBool q68.1 λx69=>kk (.bool x69) q68.2) (xp (.int .i64 0) a5 (.str a7) h λv70 t71=>asInt .i64 v70 λx72=>aC a8 λb73 o74=>af h b73 o74 λv75=>asInt .i64 v75 λx76=>cond (decide (x72>=x76)) ((ca n aK [(.ptr a0),(.int .i64 a6),(.int .i64 184)] h).bind λq77=>asBool q77.1 λx78=>kk (.bool x78) q77.2) (xp (.int .i64 0) a5 (.str a7) h λv79 t80=>asInt .i64 v79 λx81=>Ic a5 (.str a7) (.int .i64 (IntKind.i64.wrap (x81+1))) h λh82=>aC a0 λb83 o84=>af h82 b83 (o84+2) λv85=>asInt .i64 v85 λx86=>aC a0 λb87 o88=>bK h82 b87 (o88+2) 1 [(.int .i64 (IntKind.i64.wrap (x86+1)))] λh89=>aC a8 λb90 o91=>af h89 b90 (o91+2) λv92=>pK v92 λf94 x95 y96=>Hf T n f94 (x95++[]++y96) h89 λv98 h99=>VI T.toTab f94 v98 λv97=>asBool v97 λSb=>cond (!Sb) (kk (.bool false) h99) (eY n m1 a0 a1 a5 h99 kk))):=(BH T n bU [1,0,1,1,1,0,0,0,0,1,1,0,0,1,1,1,1,1] [m1] _ h kk).trans (by kernel_rfl)
theorem Ad(n m1:Nat)(a0:Pt)(a5:Option Nat)(a81:Pt)(a94:Bool)(h:H)(kk:KK):jQ n m1 a0 a5 a81 a94 h kk=cond a94 ((ca n eI [(.ptr a0)] h).bind λas7=>asInt .i64 as7.1 λaoh=>(ca n aK [(.ptr a0),(.int .i64 aoh),(.int .i64 183)] as7.2).bind λaex=>asBool aex.1 λafe=>kk (.bool afe) aex.2) (gM n m1 a0 a5 a81 h kk):=(BH T n bU [1,0,1,1,1,1,0,1,0,0,1,1,0,1,1] [m1] _ h kk).trans (by kernel_rfl)
theorem CJ(n:Nat)(a0:Pt)(a1:Option Nat)(h:H)(kk:KK):cr (n+1) dD [(.ptr a0),(.map a1)] h kk=(ca n cz [(.ptr a0),(.str (⟨#[123]⟩:ByteArray))] h).bind λq1=>asBool q1.1 λx2=>cond (!x2) (oJ n a0 a1 true q1.2 kk) ((ca n cz [(.ptr a0),(.str (⟨#[10]⟩:ByteArray))] q1.2).bind λq3=>asBool q3.1 λx4=>oJ n a0 a1 (!x4) q3.2 kk):=by kernel_rfl
def nt(n:Nat)(a1:Bool)(iu:Pt)(hO:Nat)(je:aM)(a3 a6:Pt)(a9:Int)(og:Bs)(h:H):R:=J T.toTab n gd [1,1,1,1] [] [(1,(.bool a1)),(2,(.slice iu hO je)),(3,(.ptr a3)),(6,(.ptr a6)),(9,(.int .i64 a9)),(10,(.str og))] h
def fN(n m1:Nat)(a1:Bool)(iu:Pt)(hO:Nat)(je:aM)(a3 a6:Pt)(a9:Int)(og:Bs)(a12:Int)(h:H):R:=J T.toTab n gd [1,1,1,1,0,1,0] [m1] [(1,(.bool a1)),(2,(.slice iu hO je)),(3,(.ptr a3)),(6,(.ptr a6)),(9,(.int .i64 a9)),(10,(.str og)),(12,(.int .i64 a12))] h
theorem yN(n:Nat)(a1:Bool)(iu:Pt)(hO:Nat)(je:aM)(a3 a6:Pt)(a9:Int)(og:Bs)(h:H):nt n a1 iu hO je a3 a6 a9 og h=fN n n a1 iu hO je a3 a6 a9 og 0 h:=(bY T.toTab n gd [1,1,1,1] [] _ h).trans (by kernel_rfl)
theorem qS(n m1:Nat)(a1:Bool)(iu:Pt)(hO:Nat)(je:aM)(a3 a6:Pt)(a9:Int)(og:Bs)(a12:Int)(h:H):fN n (m1+1) a1 iu hO je a3 a6 a9 og a12 h=cond (decide (a12<(Nat.cast hO))) (if 0<=(a12:Int)/\a12<(Nat.cast (hO):Int)then aC iu λVw WZ=>af h Vw (WZ+a12.toNat) λv27=>aZ v27 λSe=>cond (Se.toList==og.toList) (aC a3 λb29 o30=>aI h b29 o30 21 λl31=>(ca n aN [(.agg l31),(.int .i64 a9),(.int .i64 181)] h).bind λq32=>asAgg q32.1 λx33=>aC a3 λVx W0=>bK q32.2 Vx W0 21 x33 λZ8=>fN n m1 a1 iu hO je a3 a6 a9 og (IntKind.i64.wrap (a12+1)) Z8) (fN n m1 a1 iu hO je a3 a6 a9 og (IntKind.i64.wrap (a12+1)) h)else none) (aD (.cells [] false) h λi37 K8=>aC a3 λb39 o40=>af K8 b39 (o40+18) λv41=>asSlice v41 λXM n43 c44=>fS 3 32 (some (i37,0)) 0 (.known 0) (di 3 (.slice XM n43 c44) K8) K8 λp45 n46 c47 h48=>aD (.cells [(.str og),(.int .i64 a9),(.bool a1)] false) h48 λi49 h50=>fS 3 32 p45 n46 c47 (di 3 (.slice (some (i49,0)) 1 (.known 1)) h50) h50 λp51 n52 c53 h54=>aC a3 λb55 o56=>bK h54 b55 (o56+18) 1 [(.slice p51 n52 c53)] λMf=>aC a3 λb58 o59=>aI Mf b58 o59 21 λl60=>(ca n cA [(.agg l60),(.str (⟨#[10]⟩:ByteArray))] Mf).bind λq61=>asAgg q61.1 λx62=>aC a6 λb63 o64=>bK q61.2 b63 o64 21 x62 λh65=>aC a6 λb66 o67=>aI h65 b66 o67 21 λl68=>some ((.dJ [(.agg l68),(.str og)]),h65)):=(bY T.toTab n gd [1,1,1,1,0,1,0] [m1+1] _ h).trans (by kernel_rfl)
theorem Bi(n:Nat)(a0:List AV)(a1:Bool)(iu:Pt)(hO:Nat)(je:aM)(h:H):ca (n+1) eN [(.agg a0),(.bool a1),(.slice iu hO je)] h=aD (.cells a0 false) h λi1 h2=>aD (.cells wN false) h2 λi3 h4=>aI h4 i1 0 21 λl5=>(ca n dG [(.agg l5)] h4).bind λq6=>aO q6.1 λl7=>lA l7 λx9 l8=>lS l8 λKL l10=>lI l10 λJQ Ua=>l0 Ua (bK q6.2 i1 0 21 x9 λJU=>(ca n nL [(.str KL)] JU).bind λSj=>aO Sj.1 λRv=>lS Rv λG6 WI=>lB WI λKM l19=>l0 l19 (cond (!KM) (aI Sj.2 i1 0 21 λl21=>(ca n aN [(.agg l21),(.int .i64 JQ),(.int .i64 182)] Sj.2).bind λXc=>asAgg Xc.1 λPp=>bK Xc.2 i1 0 21 Pp λU9=>nt n a1 iu hO je (some (i1,0)) (some (i3,0)) JQ G6 U9) (nt n a1 iu hO je (some (i1,0)) (some (i3,0)) JQ G6 Sj.2))):=by kernel_rfl
def sZ(n:Nat)(a0 a1:Bs)(a2 a3:Int)(h:H):R:=J T.toTab n fW [1,1,1,1] [] [(0,(.str a0)),(1,(.str a1)),(2,(.int .i64 a2)),(3,(.int .i64 a3))] h
def nC(n m1:Nat)(a0 a1:Bs)(a2 a3:Int)(vZ:Pt)(wg:Nat)(xL:aM)(og:Int)(h:H):R:=J T.toTab n fW [1,1,1,1,1,1,1,1,0,0] [m1] [(0,(.str a0)),(1,(.str a1)),(2,(.int .i64 a2)),(3,(.int .i64 a3)),(9,(.slice vZ wg xL)),(10,(.int .i64 og))] h
def s0(n:Nat)(a0:Bs)(vZ:Pt)(wg:Nat)(xL:aM)(og:Int)(h:H):R:=J T.toTab n fW [1,1,1,1,1,1,1,1,1] [] [(0,(.str a0)),(9,(.slice vZ wg xL)),(10,(.int .i64 og))] h
theorem DO(n:Nat)(a0 a1:Bs)(a2 a3:Int)(h:H):sZ n a0 a1 a2 a3 h=Ug 1 16 [(.str .empty)] (if(IntKind.i64.wrap ((Nat.cast a0.size)+1))<a3 then(IntKind.i64.wrap ((Nat.cast a0.size)+1))else a3) (if(IntKind.i64.wrap ((Nat.cast a0.size)+1))<a3 then(IntKind.i64.wrap ((Nat.cast a0.size)+1))else a3) h λi7 n8 c9 h10=>nC n n a0 a1 a2 (IntKind.i64.wrap ((if(IntKind.i64.wrap ((Nat.cast a0.size)+1))<a3 then(IntKind.i64.wrap ((Nat.cast a0.size)+1))else a3) - 1)) (some (i7,0)) n8 (.known c9) 0 h10:=(bY T.toTab n fW [1,1,1,1] [] _ h).trans (by kernel_rfl)
theorem vI(n m1:Nat)(a0 a1:Bs)(a2 a3:Int)(vZ:Pt)(wg:Nat)(xL:aM)(og:Int)(h:H):nC n (m1+1) a0 a1 a2 a3 vZ wg xL og h=cond (decide (og<a3)) ((ca n pO [(.str a0),(.str a1)] h).bind λXb=>asInt .i64 Xb.1 λBG=>cond (decide (BG<(0:Int))) (s0 n a0 vZ wg xL og Xb.2) (xM a0.size a0.size 0 none (some (.int .i64 (IntKind.i64.wrap (BG+a2)))) none λamS alq azl=>if 0<=(og:Int)/\og<(Nat.cast (wg):Int)then aC vZ λb16 o17=>bK Xb.2 b16 (o17+og.toNat) 1 [(.str (a0.extract amS alq))] λWb=>xM a0.size a0.size 0 (some (.int .i64 (IntKind.i64.wrap (BG+(Nat.cast a1.size))))) none none λaze axP aGR=>nC n m1 (a0.extract aze axP) a1 a2 a3 vZ wg xL (IntKind.i64.wrap (og+1)) Wb else none)) (s0 n a0 vZ wg xL og h):=(bY T.toTab n fW [1,1,1,1,1,1,1,1,0,0] [m1+1] _ h).trans (by kernel_rfl)
theorem DP(n:Nat)(a0:Bs)(vZ:Pt)(wg:Nat)(xL:aM)(og:Int)(h:H):s0 n a0 vZ wg xL og h=if 0<=(og:Int)/\og<(Nat.cast (wg):Int)then aC vZ λb22 o23=>bK h b22 (o23+og.toNat) 1 [(.str a0)] λU9=>slK 1 vZ wg xL none (some (.int .i64 (IntKind.i64.wrap (og+1)))) none λp25 n26 c27=>some ((.slice p25 n26 c27),U9)else none:=(bY T.toTab n fW [1,1,1,1,1,1,1,1,1] [] _ h).trans (by kernel_rfl)
theorem G4(n:Nat)(a0 a1:Bs)(a2 a3:Int)(h:H):ca (n+1) zE [(.str a0),(.str a1),(.int .i64 a2),(.int .i64 a3)] h=cond ((a3:Int)==(0:Int)) (some ((.slice none 0 (.known 0)),h)) (cond (a1.toList==(⟨#[]⟩:ByteArray).toList) ((ca n Jg [(.str a0),(.int .i64 a3)] h).bind λq1=>asSlice q1.1 λx2 n3 c4=>some ((.slice x2 n3 c4),q1.2)) (cond (decide (a3<(0:Int))) ((ca n xT [(.str a0),(.str a1)] h).bind λq5=>asInt .i64 q5.1 λx6=>sZ n a0 a1 a2 (IntKind.i64.wrap (x6+1)) q5.2) (sZ n a0 a1 a2 a3 h))):=by kernel_rfl
def gE(n:Nat)(a3 a6:Pt)(a9 og:Int)(XU:Bool)(h:H):R:=J T.toTab n gQ [1,1,1,0,1] [] [(3,(.ptr a3)),(6,(.ptr a6)),(9,(.int .i64 a9)),(10,(.int .i64 og)),(39,(.bool XU))] h
def oa(n:Nat)(a3 a6:Pt)(og:Int)(h:H):R:=J T.toTab n gQ [1,1,1,1] [] [(3,(.ptr a3)),(6,(.ptr a6)),(10,(.int .i64 og))] h
theorem zM(n:Nat)(a3 a6:Pt)(a9 og:Int)(XU:Bool)(h:H):gE n a3 a6 a9 og XU h=cond XU (aC a3 λZw o24=>aI h Zw o24 21 λl25=>(ca n aN [(.agg l25),(.int .i64 a9),(.int .i64 182)] h).bind λYX=>asAgg YX.1 λXH=>aC a3 λZy o29=>bK YX.2 Zy o29 21 XH λh30=>oa n a3 a6 og h30) (oa n a3 a6 og h):=(bY T.toTab n gQ [1,1,1,0,1] [] _ h).trans (by kernel_rfl)
theorem zN(n:Nat)(a3 a6:Pt)(og:Int)(h:H):oa n a3 a6 og h=aC a3 λb31 o32=>aI h b31 o32 21 λl33=>(ca n cA [(.agg l33),(.str (⟨#[10]⟩:ByteArray))] h).bind λq34=>asAgg q34.1 λXJ=>aC a6 λb36 o37=>bK q34.2 b36 o37 21 XJ λK8=>aC a6 λb39 o40=>aI K8 b39 o40 21 λl41=>some ((.dJ [(.agg l41),(.int .i64 og)]),K8):=(bY T.toTab n gQ [1,1,1,1] [] _ h).trans (by kernel_rfl)
theorem Ck(n:Nat)(a0:List AV)(a1 a2:Int)(h:H):ca (n+1) bP [(.agg a0),(.int .i64 a1),(.int .i64 a2)] h=aD (.cells a0 false) h λi1 h2=>aD (.cells wN false) h2 λi3 h4=>aI h4 i1 0 21 λl5=>(ca n dG [(.agg l5)] h4).bind λq6=>aO q6.1 λl7=>lA l7 λx9 l8=>lS l8 λKL l10=>lI l10 λJQ Ua=>l0 Ua (bK q6.2 i1 0 21 x9 λJU=>(ca n gR [(.str KL)] JU).bind λSj=>aO Sj.1 λRv=>lI Rv λG6 WI=>lB WI λKM l19=>l0 l19 (af Sj.2 i1 20 λv21=>asInt .i64 v21 λPo=>cond ((Po:Int)==(0:Int)) (cond (!KM) (gE n (some (i1,0)) (some (i3,0)) JQ G6 true Sj.2) (cond (decide (G6<a1)) (gE n (some (i1,0)) (some (i3,0)) JQ G6 true Sj.2) (gE n (some (i1,0)) (some (i3,0)) JQ G6 (decide (G6>a2)) Sj.2))) (gE n (some (i1,0)) (some (i3,0)) JQ G6 false Sj.2))):=by kernel_rfl
def hJ(n:Nat)(a1 a2:Pt)(a5:Bs)(a6:Int)(a24:Bool)(h:H):R:=J T.toTab n qi [1,1,1,0,1] [] [(1,(.ptr a1)),(2,(.ptr a2)),(5,(.str a5)),(6,(.int .i64 a6)),(24,(.bool a24))] h
theorem Az(n:Nat)(a1 a2:Pt)(a5:Bs)(a6:Int)(a24:Bool)(h:H):hJ n a1 a2 a5 a6 a24 h=cond a24 (aC a1 λJ2 Ku=>aI h J2 Ku 21 λRs=>(ca n aN [(.agg Rs),(.int .i64 a6),(.int .i64 180)] h).bind λq14=>asAgg q14.1 λOD=>aC a2 λb16 o17=>bK q14.2 b16 o17 21 OD λWb=>aC a2 λb19 o20=>aI Wb b19 o20 21 λl21=>some ((.dJ [(.agg l21),(.str (⟨#[]⟩:ByteArray)),(.int .i64 a6)]),Wb)) (aC a1 λb22 o23=>af h b22 (o23+1) λv24=>asInt .i64 v24 λG7=>aC a1 λb26 o27=>bK h b26 (o27+1) 1 [(.int .i64 (IntKind.i64.wrap (G7+1)))] λKd=>aC a1 λb29 o30=>aI Kd b29 o30 21 λl31=>aC a2 λb32 o33=>bK Kd b32 o33 21 l31 λh34=>aC a2 λb35 o36=>aI h34 b35 o36 21 λl37=>some ((.dJ [(.agg l37),(.str a5),(.int .i64 a6)]),h34)):=(bY T.toTab n qi [1,1,1,0,1] [] _ h).trans (by kernel_rfl)
theorem DH(n:Nat)(a0:List AV)(h:H):ca (n+1) dG [(.agg a0)] h=aD (.cells a0 false) h λi1 h2=>aD (.cells wN false) h2 λi3 h4=>aI h4 i1 0 21 λl5=>(ca n jl [(.agg l5)] h4).bind λq6=>aZ q6.1 λx7=>aI q6.2 i1 0 21 λl8=>(ca n cY [(.agg l8)] q6.2).bind λq9=>asInt .i64 q9.1 λsD=>cond (x7.toList==(⟨#[]⟩:ByteArray).toList) (hJ n (some (i1,0)) (some (i3,0)) x7 sD true q9.2) (cond (x7.toList==(⟨#[10]⟩:ByteArray).toList) (hJ n (some (i1,0)) (some (i3,0)) x7 sD true q9.2) (cond (x7.toList==(⟨#[123]⟩:ByteArray).toList) (hJ n (some (i1,0)) (some (i3,0)) x7 sD true q9.2) (hJ n (some (i1,0)) (some (i3,0)) x7 sD (x7.toList==(⟨#[125]⟩:ByteArray).toList) q9.2))):=by kernel_rfl
def lD(n:Nat)(a0:Bs)(a22:Bool)(h:H):R:=J T.toTab n kq [1,0,1] [] [(0,(.str a0)),(22,(.bool a22))] h
def tM(n m1:Nat)(a4:Int)(a24:Pt)(h:H):R:=J T.toTab n kq [1,1,1,0,1,0] [m1] [(4,(.int .i64 a4)),(24,(.ptr a24))] h
def yh(n m1:Nat)(a4 a6:Int)(a24:Pt)(a33:Bool)(h:H):R:=J T.toTab n kq [1,1,1,0,1,0,0,1,1,0,1,0,1] [m1] [(4,(.int .i64 a4)),(6,(.int .i32 a6)),(24,(.ptr a24)),(33,(.bool a33))] h
theorem pG(n:Nat)(a0:Bs)(a22:Bool)(h:H):lD n a0 a22 h=cond a22 (some ((.dJ [(.int .i64 0),(.bool false)]),h)) (aD (.tE a0 0) h λi2 h3=>tM n n 0 (some (i2,0)) h3):=(bY T.toTab n kq [1,0,1] [] _ h).trans (by kernel_rfl)
theorem zZ(n m1:Nat)(a4:Int)(a24:Pt)(h:H):tM n (m1+1) a4 a24 h=aC a24 λb4 o5=>match o5 with | 0=>Hr h b4 (λq6 c7 h8=>cond (decide (c7<(48:Int))) (yh n m1 a4 c7 a24 true h8) (yh n m1 a4 c7 a24 (decide (c7>(57:Int))) h8)) (some ((.dJ [(.int .i64 a4),(.bool true)]),h)) | _=>none:=(bY T.toTab n kq [1,1,1,0,1,0] [m1+1] _ h).trans (by kernel_rfl)
theorem ue(n m1:Nat)(a4 a6:Int)(a24:Pt)(a33:Bool)(h:H):yh n m1 a4 a6 a24 a33 h=cond a33 (some ((.dJ [(.int .i64 0),(.bool false)]),h)) (tM n m1 (IntKind.i64.wrap ((IntKind.i64.wrap (10*a4))+(IntKind.i64.wrap (IntKind.i32.wrap (a6 - 48))))) a24 h):=(bY T.toTab n kq [1,1,1,0,1,0,0,1,1,0,1,0,1] [m1] _ h).trans (by kernel_rfl)
theorem L5(n:Nat)(a0:Bs)(h:H):ca (n+1) rO [(.str a0)] h=cond (a0.toList==(⟨#[]⟩:ByteArray).toList) (lD n a0 true h) (cond (decide ((Nat.cast a0.size)>(9:Int))) (lD n a0 true h) (iB a0 0 λy1=>cond ((y1:Int)==(48:Int)) (lD n a0 (!(a0.toList==(⟨#[48]⟩:ByteArray).toList)) h) (lD n a0 false h))):=by kernel_rfl
theorem Dz(n:Nat)(h:H)(kk:KK):cr (n+1) iF [] h kk=(ca n vj [] h).bind λq1=>aZ q1.1 λx2=>cr n fH [(.str x2)] q1.2 λv4 h5=>aO v4 λl6=>lA l6 λx8 l7=>lI l7 λsD l9=>lI l9 λBG NZ=>l0 NZ (aD (.cells [(.int .u8 0),(.int .u8 0),(.int .u8 0),(.int .u8 0),(.int .u8 0),(.int .u8 0),(.str .empty),(.str .empty),(.int .i64 0),(.int .i64 0),(.int .i64 0),(.bool false),(.slice none 0 (.known 0)),(.slice none 0 (.known 0)),(.slice none 0 (.known 0))] false) h5 λi13 JU=>bK JU i13 0 15 x8 λNM=>cr n fH [(.str (⟨#[110,111,100,101]⟩:ByteArray))] NM λUY Wb=>aO UY λl19=>lA l19 λXG l20=>lI l20 λPp l22=>lI l22 λG7 WK=>l0 WK (aD (.cells [(.int .u8 0),(.int .u8 0),(.int .u8 0),(.int .u8 0),(.int .u8 0),(.int .u8 0),(.str .empty),(.str .empty),(.int .i64 0),(.int .i64 0),(.int .i64 0),(.bool false),(.slice none 0 (.known 0)),(.slice none 0 (.known 0)),(.slice none 0 (.known 0))] false) Wb λi26 h27=>bK h27 i26 0 15 XG λKd=>cond ((BG:Int)==(0:Int)) (cond ((sD:Int)==(0:Int)) (af Kd i13 8 λv29=>asInt .i64 v29 λx30=>cond ((x30:Int)==(7:Int)) (af Kd i13 11 λv31=>asBool v31 λx32=>cond x32 (af Kd i13 12 λv33=>asSlice v33 λVk n35 c36=>cond (((Nat.cast n35):Int)==(1:Int)) (cond ((G7:Int)==(180:Int)) (kk (.bool ((Pp:Int)==(4:Int))) Kd) (kk (.bool false) Kd)) (kk (.bool false) Kd)) (kk (.bool false) Kd)) (kk (.bool false) Kd)) (kk (.bool false) Kd)) (kk (.bool false) Kd))):=by kernel_rfl
theorem G5(n:Nat)(a0:Pt)(a1:Int)(h:H):ca (n+1) eg [(.ptr a0),(.int .i64 a1)] h=aC a0 λb1 o2=>af h b1 (o2+3) λv3=>asInt .i64 v3 λx4=>cond (decide (x4<(0:Int))) (some ((.bool true),h)) (aC a0 λb5 o6=>af h b5 o6 λv7=>aZ v7 λx8=>aC a0 λb9 o10=>af h b9 (o10+3) λv11=>asInt .i64 v11 λBG=>xM x8.size x8.size 0 (some (.int .i64 BG)) (some (.int .i64 a1)) none λamS alq azl=>aC a0 λb16 o17=>af h b16 (o17+3) λv18=>asInt .i64 v18 λx19=>aC a0 λb20 o21=>af h b20 (o21+2) λv22=>asInt .i64 v22 λPp=>aD (.cells [(.str .empty),(.int .i64 0),(.int .i64 0)] false) h λi24 PT=>bK PT i24 0 3 [(.str (x8.extract amS alq)),(.int .i64 x19),(.int .i64 Pp)] λYr=>aC a0 λZx o28=>af Yr Zx (o28+1) λv29=>asSlice v29 λx30 n31 c32=>aI Yr i24 0 3 λl33=>lS l33 λXJ l34=>lI l34 λx37 l36=>lI l36 λx39 l38=>l0 l38 (aD (.cells [(.str XJ),(.int .i64 x37),(.int .i64 x39)] false) Yr λi40 h41=>fS 3 32 x30 n31 c32 (di 3 (.slice (some (i40,0)) 1 (.known 1)) h41) h41 λp42 n43 c44 h45=>aC a0 λb46 o47=>bK h45 b46 (o47+1) 1 [(.slice p42 n43 c44)] λh48=>aC a0 λZz o50=>bK h48 Zz (o50+4) 1 [(.bool true)] λYs=>aC a0 λZA o53=>bK Ys ZA (o53+3) 1 [(.int .i64 (-1))] λh54=>af h54 i24 0 λv55=>aZ v55 λQy=>some ((.bool (decide ((Nat.cast Qy.size)<=(60:Int)))),h54))):=by kernel_rfl
def mX(n:Nat)(a0:Pt)(h:H):R:=J T.toTab n sP [1] [] [(0,(.ptr a0))] h
theorem Cu(n:Nat)(a0:Pt)(h:H):mX n a0 h=aC a0 λb24 o25=>bK h b24 (o25+4) 1 [(.bool false)] λYr=>aC a0 λZx o28=>bK Yr Zx (o28+5) 1 [(.bool false)] λWe=>aC a0 λb30 o31=>af We b30 (o31+2) λv32=>asInt .i64 v32 λx33=>aC a0 λVx W0=>bK We Vx (W0+2) 1 [(.int .i64 (IntKind.i64.wrap (x33+1)))] λZ8=>some ((.dJ []),Z8):=(bY T.toTab n sP [1] [] _ h).trans (by kernel_rfl)
theorem FW(n:Nat)(a0:Pt)(a1:Int)(h:H):ca (n+1) nA [(.ptr a0),(.int .i64 a1)] h=aC a0 λb1 o2=>af h b1 (o2+4) λv3=>asBool v3 λx4=>cond x4 (aC a0 λb5 o6=>af h b5 (o6+1) λv7=>asSlice v7 λx8 n9 D7=>aC a0 λJ2 Ku=>af h J2 (Ku+2) λJY=>asInt .i64 JY λED=>aD (.cells [(.str (⟨#[10]⟩:ByteArray)),(.int .i64 a1),(.int .i64 ED)] false) h λi15 Gu=>fS 3 32 x8 n9 D7 (di 3 (.slice (some (i15,0)) 1 (.known 1)) Gu) Gu λp17 n18 c19 HP=>aC a0 λb21 o22=>bK HP b21 (o22+1) 1 [(.slice p17 n18 c19)] λh23=>mX n a0 h23) (mX n a0 h):=by kernel_rfl
def rZ(n:Nat)(a0 a1:Bs)(a5:Int)(Is:Bool)(h:H):R:=J T.toTab n sO [1,1,0,0,1] [] [(0,(.str a0)),(1,(.str a1)),(5,(.int .i64 a5)),(16,(.bool Is))] h
theorem uJ(n:Nat)(a0 a1:Bs)(a5:Int)(Is:Bool)(h:H):rZ n a0 a1 a5 Is h=cond Is (some ((.int .i64 0),h)) (cond ((a5:Int)==(1:Int)) (iB a1 0 λy1=>(ca n uv [(.str a0),(.int .u8 y1)] h).bind λq2=>asInt .i64 q2.1 λx3=>some ((.int .i64 x3),q2.2)) (cond (decide (a5>=(Nat.cast a0.size))) (some ((.int .i64 (-1)),h)) (none))):=(bY T.toTab n sO [1,1,0,0,1] [] _ h).trans (by kernel_rfl)
theorem xD(n:Nat)(a0 a1:Bs)(h:H):ca (n+1) yp [(.str a0),(.str a1)] h=cond (((Nat.cast a1.size):Int)==(0:Int)) (rZ n a0 a1 (Nat.cast a1.size) true h) (rZ n a0 a1 (Nat.cast a1.size) (a1.toList==a0.toList) h):=by kernel_rfl
theorem CL(n:Nat)(a0 de:Pt)(cI:Nat)(dz:aM)(h:H):ca (n+1) iD [(.ptr a0),(.slice de cI dz)] h=(ca n dF [(.ptr a0)] h).bind λq1=>aO q1.1 λl2=>lS l2 λx4 l3=>lI l3 λx6 l5=>lB l5 λx8 l7=>l0 l7 (cond (!x8) (some ((.dJ [(.str (⟨#[]⟩:ByteArray)),(.bool false)]),q1.2)) (cond (decide ((Nat.cast x4.size)>(40:Int))) ((ca n aK [(.ptr a0),(.int .i64 x6),(.int .i64 182)] q1.2).bind λq9=>asBool q9.1 λsD=>some ((.dJ [(.str (⟨#[]⟩:ByteArray)),(.bool sD)]),q9.2)) ((ca n iw [(.slice de cI dz),(.str x4)] q1.2).bind λXb=>asBool Xb.1 λBG=>cond BG ((ca n aK [(.ptr a0),(.int .i64 x6),(.int .i64 181)] Xb.2).bind λGH=>asBool GH.1 λED=>some ((.dJ [(.str (⟨#[]⟩:ByteArray)),(.bool ED)]),GH.2)) (some ((.dJ [(.str x4),(.bool true)]),Xb.2))))):=by kernel_rfl
theorem BD(n:Nat)(a0 a1:Bs)(h:H):ca (n+1) ur [(.str a0),(.str a1)] h=(ca n uu [(.str a0),(.str a1)] h).bind λq1=>asBool q1.1 λx2=>cond (!x2) (some ((.dJ [(.str a0),(.bool false)]),q1.2)) (xM a0.size a0.size 0 (some (.int .i64 (Nat.cast a1.size))) none none λlo3 hi4 mx5=>some ((.dJ [(.str (a0.extract lo3 hi4)),(.bool true)]),q1.2)):=by kernel_rfl
theorem FT(n:Nat)(a0 a1:Bs)(h:H):ca (n+1) sX [(.str a0),(.str a1)] h=(ca n ur [(.str a0),(.str a1)] h).bind λq1=>aO q1.1 λl2=>lS l2 λx4 l3=>lB l3 λx6 l5=>l0 l5 (some ((.dJ [(.str x4),(.bool x6)]),q1.2)):=by kernel_rfl
theorem J5(n:Nat)(a0:Bs)(a1:Int)(a2:Pt)(h:H):ca (n+1) tJ [(.str a0),(.int .i64 a1),(.ptr a2)] h=aC a2 λb1 o2=>af h b1 o2 λv3=>cZ v3 λx4=>aC x4 λb5 o6=>bK h b5 o6 1 [(.str a0)] λh7=>some ((.bool true),h7):=by kernel_rfl
theorem FQ(n:Nat)(a0 a1:Int)(h:H):ca (n+1) sW [(.int .i64 a0),(.int .i64 a1)] h=(ca n vR [(.int .i64 a0),(.int .i64 a1)] h).bind λq1=>aZ q1.1 λx2=>some ((.str x2),q1.2):=by kernel_rfl
theorem yd(n:Nat)(a0:Int)(h:H):ca (n+1) rM [(.int .i64 a0)] h=(yc n a0 h).bind λr=>some ((.str r.1),r.2):=by kernel_rfl
end
end Go.Ev.Tryz
set_option maxRecDepth 100000
set_option linter.all false
namespace Go.Ev.Tryz
noncomputable section
open Go.Proofs
def bw(n:Nat)(a3 a4 a6 a7:Pt)(h:H):R:=J T.toTab n qh [1,1] [] [(3,(.ptr a3)),(4,(.ptr a4)),(6,(.ptr a6)),(7,(.ptr a7))] h
theorem Av(n:Nat)(a3 a4 a6 a7:Pt)(h:H):bw n a3 a4 a6 a7 h=aC a3 λavt azK=>aI h avt azK 21 λWA=>aC a4 λavv azM=>aI h avv azM 10 λal1=>lS al1 λaos al2=>lS al2 λaBK al4=>lI al4 λaBL ayE=>lI ayE λaBN ayG=>lI ayG λaou WB=>lI WB λSc Rt=>lI Rt λXE WC=>lI WC λSd Ru=>lI Ru λafm WD=>lL WD λafn n151 awr WE=>l0 WE (aC a6 λavF azW=>bK h avF azW 21 WA λaqY=>dU h aqY (kj a4) (aC a7 λakh anf=>bK aqY akh anf 10 [(.str aos),(.str aBK),(.int .i64 aBL),(.int .i64 aBN),(.int .i64 aou),(.int .i64 Sc),(.int .i64 XE),(.int .i64 Sd),(.int .i64 afm),(.slice afn n151 awr)] λak3=>aC a6 λavG azX=>aI ak3 avG azX 21 λama=>aC a7 λab6 ad8=>aI ak3 ab6 ad8 10 λayM=>lS ayM λXF amc=>lS amc λafs amd=>lI amd λaoA adI=>lI adI λaBW adJ=>lI adJ λaBX ayP=>lI ayP λaoD amf=>lI amf λaBZ amh=>lI amh λaB1 ami=>lI ami λaB2 ayR=>lL ayR λaB3 n185 awx ayS=>l0 ayS (some ((.dJ [(.agg ama),(.agg [(.str XF),(.str afs),(.int .i64 aoA),(.int .i64 aBW),(.int .i64 aBX),(.int .i64 aoD),(.int .i64 aBZ),(.int .i64 aB1),(.int .i64 aB2),(.slice aB3 n185 awx)])]),ak3)))):=(bY T.toTab n qh [1,1] [] _ h).trans (by kernel_rfl)
theorem DE(n:Nat)(a0:List AV)(de cI:Bs)(dz SE SF SG SH SI SJ:Int)(SK:Pt)(KS:Nat)(KT:aM)(a2:Bs)(h:H):ca (n+1) qq [(.agg a0),(.agg [(.str de),(.str cI),(.int .i64 dz),(.int .i64 SE),(.int .i64 SF),(.int .i64 SG),(.int .i64 SH),(.int .i64 SI),(.int .i64 SJ),(.slice SK KS KT)]),(.str a2)] h=aD (.cells a0 false) h λi1 h2=>aD (.cells [(.str de),(.str cI),(.int .i64 dz),(.int .i64 SE),(.int .i64 SF),(.int .i64 SG),(.int .i64 SH),(.int .i64 SI),(.int .i64 SJ),(.slice SK KS KT)] false) h2 λi3 h4=>aD (.cells wN false) h4 λi5 h6=>aD (.cells [(.str .empty),(.str .empty),(.int .i64 0),(.int .i64 0),(.int .i64 0),(.int .i64 0),(.int .i64 0),(.int .i64 0),(.int .i64 0),(.slice none 0 (.known 0))] false) h6 λi7 h8=>cond (a2.toList==(⟨#[112,114,111,116,111]⟩:ByteArray).toList) (aI h8 i1 0 21 λl9=>aD (.cells [(.str (⟨#[116,99,112]⟩:ByteArray)),(.str (⟨#[117,100,112]⟩:ByteArray))] false) h8 λi10 h11=>(ca n ff [(.agg l9),(.slice (some (i10,0)) 2 (.known 2))] h11).bind λq12=>aO q12.1 λRs=>lA Rs λOD Kn=>lI Kn λL8 Rv=>l0 Rv (bK q12.2 i1 0 21 OD λWb=>bK Wb i3 2 1 [(.int .i64 17)] λh19=>cond ((L8:Int)==(1:Int)) (bK h19 i3 2 1 [(.int .i64 6)] λHP=>bw n (some (i1,0)) (some (i3,0)) (some (i5,0)) (some (i7,0)) HP) (bw n (some (i1,0)) (some (i3,0)) (some (i5,0)) (some (i7,0)) h19))) (cond (a2.toList==(⟨#[118,105,112]⟩:ByteArray).toList) (aI h8 i1 0 21 λl21=>(ca n eN [(.agg l21),(.bool true),(.slice none 0 (.known 0))] h8).bind λXc=>aO Xc.1 λl23=>lA l23 λG7 WK=>lS WK λXH l26=>l0 l26 (bK Xc.2 i1 0 21 G7 λKd=>bK Kd i3 1 1 [(.str XH)] λWe=>bw n (some (i1,0)) (some (i3,0)) (some (i5,0)) (some (i7,0)) We)) (cond (a2.toList==(⟨#[112,111,114,116]⟩:ByteArray).toList) (aI h8 i1 0 21 λl30=>(ca n bP [(.agg l30),(.int .i64 1),(.int .i64 65535)] h8).bind λq31=>aO q31.1 λRw=>lA Rw λVk l33=>lI l33 λXK l35=>l0 l35 (bK q31.2 i1 0 21 Vk λh37=>bK h37 i3 3 1 [(.int .i64 XK)] λK8=>bw n (some (i1,0)) (some (i3,0)) (some (i5,0)) (some (i7,0)) K8)) (cond (a2.toList==(⟨#[109,111,100,101]⟩:ByteArray).toList) (aI h8 i1 0 21 λl39=>aD (.cells [(.str (⟨#[110,97,116]⟩:ByteArray)),(.str (⟨#[100,114]⟩:ByteArray)),(.str (⟨#[105,112,105,112]⟩:ByteArray))] false) h8 λi40 h41=>(ca n ff [(.agg l39),(.slice (some (i40,0)) 3 (.known 3))] h41).bind λq42=>aO q42.1 λl43=>lA l43 λx45 l44=>lI l44 λx47 WL=>l0 WL (bK q42.2 i1 0 21 x45 λh48=>bK h48 i3 4 1 [(.int .i64 x47)] λh49=>bw n (some (i1,0)) (some (i3,0)) (some (i5,0)) (some (i7,0)) h49)) (cond (a2.toList==(⟨#[115,99,104,101,100,117,108,101]⟩:ByteArray).toList) (aI h8 i1 0 21 λl50=>aD (.cells [(.str (⟨#[109,97,103,108,101,118]⟩:ByteArray)),(.str (⟨#[115,111,117,114,99,101]⟩:ByteArray))] false) h8 λi51 PU=>(ca n ff [(.agg l50),(.slice (some (i51,0)) 2 (.known 2))] PU).bind λq53=>aO q53.1 λl54=>lA l54 λQy l55=>lI l55 λU3 WM=>l0 WM (bK q53.2 i1 0 21 Qy λh59=>bK h59 i3 5 1 [(.int .i64 U3)] λLS=>bw n (some (i1,0)) (some (i3,0)) (some (i5,0)) (some (i7,0)) LS)) (cond (a2.toList==(⟨#[114,105,115,101]⟩:ByteArray).toList) (aI h8 i1 0 21 λl61=>(ca n bP [(.agg l61),(.int .i64 1),(.int .i64 20)] h8).bind λq62=>aO q62.1 λl63=>lA l63 λx65 l64=>lI l64 λx67 l66=>l0 l66 (bK q62.2 i1 0 21 x65 λh68=>bK h68 i3 6 1 [(.int .i64 x67)] λh69=>bw n (some (i1,0)) (some (i3,0)) (some (i5,0)) (some (i7,0)) h69)) (cond (a2.toList==(⟨#[102,97,108,108]⟩:ByteArray).toList) (aI h8 i1 0 21 λl70=>(ca n bP [(.agg l70),(.int .i64 1),(.int .i64 20)] h8).bind λq71=>aO q71.1 λl72=>lA l72 λx74 l73=>lI l73 λx76 l75=>l0 l75 (bK q71.2 i1 0 21 x74 λRe=>bK Re i3 7 1 [(.int .i64 x76)] λh78=>bw n (some (i1,0)) (some (i3,0)) (some (i5,0)) (some (i7,0)) h78)) (cond (a2.toList==(⟨#[112,114,111,98,101]⟩:ByteArray).toList) (aI h8 i1 0 21 λl79=>(ca n bP [(.agg l79),(.int .i64 1),(.int .i64 10000)] h8).bind λq80=>aO q80.1 λl81=>lA l81 λx83 l82=>lI l82 λx85 l84=>l0 l84 (bK q80.2 i1 0 21 x83 λh86=>bK h86 i3 8 1 [(.int .i64 x85)] λh87=>bw n (some (i1,0)) (some (i3,0)) (some (i5,0)) (some (i7,0)) h87)) (cond (a2.toList==(⟨#[98,97,99,107,101,110,100]⟩:ByteArray).toList) (aI h8 i1 0 21 λl88=>af h8 i3 9 λv89=>asSlice v89 λx90 n91 c92=>(ca n nQ [(.agg l88),(.slice x90 n91 c92)] h8).bind λq93=>aO q93.1 λl94=>lA l94 λx96 l95=>lA l95 λx98 l97=>l0 l97 (aD (.cells wN false) q93.2 λi99 O3=>aD (.cells [(.str .empty),(.str .empty),(.int .u8 0),(.int .u8 0),(.int .u8 0),(.int .u8 0),(.int .u8 0),(.int .u8 0),(.int .i64 0),(.int .i64 0)] false) O3 λi101 O4=>bK O4 i99 0 21 x96 λac1=>bK ac1 i101 0 10 x98 λTR=>aI TR i99 0 21 λRr=>bK TR i1 0 21 Rr λac2=>aD (.cells [] false) ac2 λi107 akX=>af akX i3 9 λv109=>asSlice v109 λXC n111 awj=>fS 10 56 (some (i107,0)) 0 (.known 0) (di 10 (.slice XC n111 awj) akX) akX λaAy n114 awk aqP=>aI aqP i101 0 10 λPe=>if Pe.length=10/\0+10<=10 then aD (.cells (List.append (List.append [] Pe) []) false) aqP λi118 aqQ=>fS 10 56 aAy n114 awk (di 10 (.slice (some (i118,0)) 1 (.known 1)) aqQ) aqQ λaAz n121 awm ak0=>bK ak0 i3 9 1 [(.slice aAz n121 awm)] λawV=>bw n (some (i1,0)) (some (i3,0)) (some (i5,0)) (some (i7,0)) awV else none)) (bw n (some (i1,0)) (some (i3,0)) (some (i5,0)) (some (i7,0)) h8))))))))):=by kernel_rfl
def iP(n:Nat)(a0 a3:Pt)(a4:Bs)(h:H):R:=J T.toTab n dL [1,1,1,1] [] [(0,(.ptr a0)),(3,(.ptr a3)),(4,(.str a4))] h
def iR(n m1:Nat)(a0 EI:Pt)(EJ:Nat)(G9:aM)(a57 XV:Int)(h:H):R:=J T.toTab n dL [1,1,1,1,1,1,1,1,1,1,1,1,0,1,0] [m1] [(0,(.ptr a0)),(56,(.slice EI EJ G9)),(57,(.int .i64 a57)),(58,(.int .i64 XV))] h
def iQ(n m1:Nat)(a0 a6 EI:Pt)(EJ:Nat)(G9:aM)(a57 XV:Int)(h:H):R:=J T.toTab n dL [1,1,1,1,1,1,1,1,1,1,1,1,0,1,0,0,1,1,0,0,1,1,1,1,1] [m1] [(0,(.ptr a0)),(6,(.ptr a6)),(56,(.slice EI EJ G9)),(57,(.int .i64 a57)),(58,(.int .i64 XV))] h
theorem yB(n:Nat)(a0 a3:Pt)(a4:Bs)(h:H):iP n a0 a3 a4 h=aD (.cells [(.str (⟨#[112,114,111,116,111]⟩:ByteArray)),(.str a4)] false) h λi11 h12=>(ca n aJ [(.ptr a0),(.slice (some (i11,0)) 2 (.known 2))] h12).bind λGH=>aO GH.1 λKn=>l0 Kn (aC a3 λb15 o16=>af GH.2 b15 (o16+1) λUY=>aZ UY λG6=>(ca n eG [(.str G6)] GH.2).bind λq19=>aZ q19.1 λKM=>aD (.cells [(.str (⟨#[118,105,112]⟩:ByteArray)),(.str KM)] false) q19.2 λi21 K7=>(ca n aJ [(.ptr a0),(.slice (some (i21,0)) 2 (.known 2))] K7).bind λXd=>aO Xd.1 λWK=>l0 WK (aC a3 λVw WZ=>af Xd.2 Vw (WZ+3) λv27=>asInt .i64 v27 λSe=>(ca n bW [(.ptr a0),(.str (⟨#[112,111,114,116]⟩:ByteArray)),(.int .i64 Se)] Xd.2).bind λq29=>aO q29.1 λl30=>l0 l30 (aC a3 λb31 o32=>af q29.2 b31 (o32+4) λv33=>asInt .i64 v33 λVk=>aD (.cells [(.str (⟨#[110,97,116]⟩:ByteArray)),(.str (⟨#[100,114]⟩:ByteArray)),(.str (⟨#[105,112,105,112]⟩:ByteArray))] false) q29.2 λi35 Z8=>(ca n td [(.int .i64 Vk),(.slice (some (i35,0)) 3 (.known 3))] Z8).bind λq37=>aZ q37.1 λx38=>aD (.cells [(.str (⟨#[109,111,100,101]⟩:ByteArray)),(.str x38)] false) q37.2 λi39 It=>(ca n aJ [(.ptr a0),(.slice (some (i39,0)) 2 (.known 2))] It).bind λq41=>aO q41.1 λl42=>l0 l42 (aC a3 λb43 o44=>af q41.2 b43 (o44+5) λv45=>asInt .i64 v45 λx46=>aD (.cells [(.str (⟨#[109,97,103,108,101,118]⟩:ByteArray)),(.str (⟨#[115,111,117,114,99,101]⟩:ByteArray))] false) q41.2 λi47 h48=>(ca n td [(.int .i64 x46),(.slice (some (i47,0)) 2 (.known 2))] h48).bind λq49=>aZ q49.1 λx50=>aD (.cells [(.str (⟨#[115,99,104,101,100,117,108,101]⟩:ByteArray)),(.str x50)] false) q49.2 λi51 PU=>(ca n aJ [(.ptr a0),(.slice (some (i51,0)) 2 (.known 2))] PU).bind λq53=>aO q53.1 λl54=>l0 l54 (aC a3 λb55 o56=>af q53.2 b55 (o56+6) λv57=>asInt .i64 v57 λU3=>(ca n bW [(.ptr a0),(.str (⟨#[114,105,115,101]⟩:ByteArray)),(.int .i64 U3)] q53.2).bind λq59=>aO q59.1 λl60=>l0 l60 (aC a3 λb61 o62=>af q59.2 b61 (o62+7) λv63=>asInt .i64 v63 λx64=>(ca n bW [(.ptr a0),(.str (⟨#[102,97,108,108]⟩:ByteArray)),(.int .i64 x64)] q59.2).bind λXe=>aO Xe.1 λl66=>l0 l66 (aC a3 λb67 o68=>af Xe.2 b67 (o68+8) λv69=>asInt .i64 v69 λx70=>(ca n bW [(.ptr a0),(.str (⟨#[112,114,111,98,101]⟩:ByteArray)),(.int .i64 x70)] Xe.2).bind λq71=>aO q71.1 λl72=>l0 l72 (aC a3 λb73 o74=>af q71.2 b73 (o74+9) λv75=>asSlice v75 λx76 n77 c78=>iR n n a0 x76 n77 c78 (Nat.cast n77) 0 q71.2)))))))):=(bY T.toTab n dL [1,1,1,1] [] _ h).trans (by kernel_rfl)
theorem qH(n m1:Nat)(a0 EI:Pt)(EJ:Nat)(G9:aM)(a57 XV:Int)(h:H):iR n (m1+1) a0 EI EJ G9 a57 XV h=cond (decide (XV<a57)) (if 0<=(XV:Int)/\XV<(Nat.cast (EJ):Int)then aC EI λb79 o80=>aI h b79 (o80+XV.toNat*10) 10 λl81=>aD (.cells [(.str .empty),(.str .empty),(.int .u8 0),(.int .u8 0),(.int .u8 0),(.int .u8 0),(.int .u8 0),(.int .u8 0),(.int .i64 0),(.int .i64 0)] false) h λi82 h83=>bK h83 i82 0 10 l81 λh84=>af h84 i82 0 λv85=>aZ v85 λx86=>aD (.cells [(.str (⟨#[98,97,99,107,101,110,100]⟩:ByteArray)),(.str x86),(.str (⟨#[123]⟩:ByteArray))] false) h84 λi87 h88=>(ca n aJ [(.ptr a0),(.slice (some (i87,0)) 3 (.known 3))] h88).bind λq89=>aO q89.1 λl90=>l0 l90 (af q89.2 i82 1 λv91=>aZ v91 λx92=>(ca n eG [(.str x92)] q89.2).bind λq93=>aZ q93.1 λx94=>aD (.cells [(.str (⟨#[97,100,100,114,101,115,115]⟩:ByteArray)),(.str x94)] false) q93.2 λi95 h96=>(ca n aJ [(.ptr a0),(.slice (some (i95,0)) 2 (.known 2))] h96).bind λq97=>aO q97.1 λl98=>l0 l98 (aI q97.2 i82 2 6 λl99=>(ca n kf [(.agg l99)] q97.2).bind λas6=>aZ as6.1 λaog=>aD (.cells [(.str (⟨#[109,97,99]⟩:ByteArray)),(.str aog)] false) as6.2 λi102 ac1=>(ca n aJ [(.ptr a0),(.slice (some (i102,0)) 2 (.known 2))] ac1).bind λaey=>aO aey.1 λRr=>l0 Rr (af aey.2 i82 8 λafa=>asInt .i64 afa λafg=>cond ((afg:Int) != (0:Int)) (af aey.2 i82 8 λaA0=>asInt .i64 aA0 λaoi=>(ca n bW [(.ptr a0),(.str (⟨#[112,111,114,116]⟩:ByteArray)),(.int .i64 aoi)] aey.2).bind λaez=>aO aez.1 λWw=>l0 Ww (iQ n m1 a0 (some (i82,0)) EI EJ G9 a57 XV aez.2)) (iQ n m1 a0 (some (i82,0)) EI EJ G9 a57 XV aey.2))))else none) (aD (.cells [(.str (⟨#[125]⟩:ByteArray))] false) h λi112 awS=>(ca n aJ [(.ptr a0),(.slice (some (i112,0)) 1 (.known 1))] awS).bind λaeA=>aO aeA.1 λWz=>l0 Wz (some ((.dJ []),aeA.2))):=(bY T.toTab n dL [1,1,1,1,1,1,1,1,1,1,1,1,0,1,0] [m1+1] _ h).trans (by kernel_rfl)
theorem yC(n m1:Nat)(a0 a6 EI:Pt)(EJ:Nat)(G9:aM)(a57 XV:Int)(h:H):iQ n m1 a0 a6 EI EJ G9 a57 XV h=aC a6 λVu WX=>af h Vu (WX+9) λanZ=>asInt .i64 anZ λaok=>(ca n bW [(.ptr a0),(.str (⟨#[119,101,105,103,104,116]⟩:ByteArray)),(.int .i64 aok)] h).bind λata=>aO ata.1 λadD=>l0 adD (aD (.cells [(.str (⟨#[125]⟩:ByteArray))] false) ata.2 λi122 ak0=>(ca n aJ [(.ptr a0),(.slice (some (i122,0)) 1 (.known 1))] ak0).bind λaeB=>aO aeB.1 λadE=>l0 adE (iR n m1 a0 EI EJ G9 a57 (IntKind.i64.wrap (XV+1)) aeB.2)):=(bY T.toTab n dL [1,1,1,1,1,1,1,1,1,1,1,1,0,1,0,0,1,1,0,0,1,1,1,1,1] [m1] _ h).trans (by kernel_rfl)
theorem AZ(n:Nat)(a0:Pt)(de cI:Bs)(dz SE SF SG SH SI SJ:Int)(SK:Pt)(KS:Nat)(KT:aM)(h:H):ca (n+1) gw [(.ptr a0),(.agg [(.str de),(.str cI),(.int .i64 dz),(.int .i64 SE),(.int .i64 SF),(.int .i64 SG),(.int .i64 SH),(.int .i64 SI),(.int .i64 SJ),(.slice SK KS KT)])] h=aD (.cells [(.str de),(.str cI),(.int .i64 dz),(.int .i64 SE),(.int .i64 SF),(.int .i64 SG),(.int .i64 SH),(.int .i64 SI),(.int .i64 SJ),(.slice SK KS KT)] false) h λi1 h2=>af h2 i1 0 λv3=>aZ v3 λx4=>aD (.cells [(.str (⟨#[115,101,114,118,105,99,101]⟩:ByteArray)),(.str x4),(.str (⟨#[123]⟩:ByteArray))] false) h2 λi5 h6=>(ca n aJ [(.ptr a0),(.slice (some (i5,0)) 3 (.known 3))] h6).bind λq7=>aO q7.1 λl8=>l0 l8 (af q7.2 i1 2 λv9=>asInt .i64 v9 λsD=>cond ((sD:Int)==(6:Int)) (iP n a0 (some (i1,0)) (⟨#[116,99,112]⟩:ByteArray) q7.2) (iP n a0 (some (i1,0)) (⟨#[117,100,112]⟩:ByteArray) q7.2)):=by kernel_rfl
def rW(n:Nat)(de:Pt)(cI:Nat)(dz:aM)(iu:Pt)(hO:Nat)(je:aM)(eR:Pt)(eS:Nat)(eT:aM)(a4 a8:Pt)(og:Bs)(a21:Bool)(h:H):R:=J T.toTab n fC [1,1,0,1] [] [(1,(.slice de cI dz)),(2,(.slice iu hO je)),(3,(.slice eR eS eT)),(4,(.ptr a4)),(8,(.ptr a8)),(10,(.str og)),(21,(.bool a21))] h
def mo(n m1:Nat)(de:Pt)(cI:Nat)(dz:aM)(iu:Pt)(hO:Nat)(je:aM)(eR:Pt)(eS:Nat)(eT:aM)(a4 a8:Pt)(og:Bs)(tG:Int)(h:H):R:=J T.toTab n fC [1,1,1,0,1,0] [m1] [(1,(.slice de cI dz)),(2,(.slice iu hO je)),(3,(.slice eR eS eT)),(4,(.ptr a4)),(8,(.ptr a8)),(10,(.str og)),(11,(.int .i64 tG))] h
def rX(n m1:Nat)(iu:Pt)(hO:Nat)(je:aM)(a4 a8:Pt)(og:Bs)(tG a12:Int)(a50:Bool)(h:H):R:=J T.toTab n fC [1,1,1,0,1,0,0,1,0,0,1,0,1,0,1] [m1] [(2,(.slice iu hO je)),(4,(.ptr a4)),(8,(.ptr a8)),(10,(.str og)),(11,(.int .i64 tG)),(12,(.int .i64 a12)),(50,(.bool a50))] h
theorem uG(n:Nat)(de:Pt)(cI:Nat)(dz:aM)(iu:Pt)(hO:Nat)(je:aM)(eR:Pt)(eS:Nat)(eT:aM)(a4 a8:Pt)(og:Bs)(a21:Bool)(h:H):rW n de cI dz iu hO je eR eS eT a4 a8 og a21 h=cond a21 (aC a4 λb10 o11=>aI h b10 o11 21 λUa=>aC a8 λb13 o14=>bK h b13 o14 21 Ua λNM=>aC a8 λb16 o17=>aI NM b16 o17 21 λl18=>some ((.dJ [(.agg l18),(.str (⟨#[]⟩:ByteArray))]),NM)) (mo n n de cI dz iu hO je eR eS eT a4 a8 og 0 h):=(bY T.toTab n fC [1,1,0,1] [] _ h).trans (by kernel_rfl)
theorem Cj(n m1:Nat)(de:Pt)(cI:Nat)(dz:aM)(iu:Pt)(hO:Nat)(je:aM)(eR:Pt)(eS:Nat)(eT:aM)(a4 a8:Pt)(og:Bs)(tG:Int)(h:H):mo n (m1+1) de cI dz iu hO je eR eS eT a4 a8 og tG h=cond (decide (tG<(Nat.cast cI))) (if 0<=(tG:Int)/\tG<(Nat.cast (cI):Int)then aC de λb19 o20=>af h b19 (o20+tG.toNat) λv21=>aZ v21 λPo=>cond (Po.toList==og.toList) ((ca n fF [(.slice eR eS eT),(.str og)] h).bind λXd=>asInt .i64 Xd.1 λOE=>if 0<=(tG:Int)/\tG<(Nat.cast (hO):Int)then aC iu λVw WZ=>af Xd.2 Vw (WZ+tG.toNat) λv27=>asInt .i64 v27 λSe=>cond (decide (OE>=Se)) (if 0<=(tG:Int)/\tG<(Nat.cast (hO):Int)then aC iu λb29 o30=>af Xd.2 b29 (o30+tG.toNat) λv31=>asInt .i64 v31 λx32=>rX n m1 iu hO je a4 a8 og tG OE ((x32:Int)==(1:Int)) Xd.2 else none) (rX n m1 iu hO je a4 a8 og tG OE false Xd.2)else none) (mo n m1 de cI dz iu hO je eR eS eT a4 a8 og (IntKind.i64.wrap (tG+1)) h)else none) (aC a4 λb33 o34=>aI h b33 o34 21 λl35=>aC a4 λb36 o37=>aI h b36 o37 21 λl38=>(ca n cY [(.agg l38)] h).bind λq39=>asInt .i64 q39.1 λx40=>dU h q39.2 (kj a4) ((ca n aN [(.agg l35),(.int .i64 x40),(.int .i64 180)] q39.2).bind λq41=>asAgg q41.1 λXM=>aC a8 λb43 o44=>bK q41.2 b43 o44 21 XM λh45=>aC a8 λb46 o47=>aI h45 b46 o47 21 λl48=>some ((.dJ [(.agg l48),(.str (⟨#[]⟩:ByteArray))]),h45))):=(bY T.toTab n fC [1,1,1,0,1,0] [m1+1] _ h).trans (by kernel_rfl)
theorem Ci(n m1:Nat)(iu:Pt)(hO:Nat)(je:aM)(a4 a8:Pt)(og:Bs)(tG a12:Int)(a50:Bool)(h:H):rX n m1 iu hO je a4 a8 og tG a12 a50 h=cond a50 (aC a4 λZz o50=>aI h Zz o50 21 λl51=>aC a4 λZA o53=>aI h ZA o53 21 λl54=>(ca n cY [(.agg l54)] h).bind λYY=>asInt .i64 YY.1 λQy=>dU h YY.2 (kj a4) ((ca n aN [(.agg l51),(.int .i64 Qy),(.int .i64 181)] YY.2).bind λq57=>asAgg q57.1 λU3=>aC a8 λb59 o60=>bK q57.2 b59 o60 21 U3 λVa=>aC a8 λb62 o63=>aI Va b62 o63 21 λl64=>some ((.dJ [(.agg l64),(.str (⟨#[]⟩:ByteArray))]),Va))) (if 0<=(tG:Int)/\tG<(Nat.cast (hO):Int)then aC iu λb65 o66=>af h b65 (o66+tG.toNat) λv67=>asInt .i64 v67 λx68=>cond (decide (a12>=x68)) (aC a4 λb69 o70=>aI h b69 o70 21 λl71=>aC a4 λb72 o73=>aI h b72 o73 21 λl74=>(ca n cY [(.agg l74)] h).bind λq75=>asInt .i64 q75.1 λx76=>dU h q75.2 (kj a4) ((ca n aN [(.agg l71),(.int .i64 x76),(.int .i64 184)] q75.2).bind λq77=>asAgg q77.1 λx78=>aC a8 λb79 o80=>bK q77.2 b79 o80 21 x78 λh81=>aC a8 λb82 o83=>aI h81 b82 o83 21 λl84=>some ((.dJ [(.agg l84),(.str (⟨#[]⟩:ByteArray))]),h81))) (aC a4 λb85 o86=>af h b85 (o86+1) λv87=>asInt .i64 v87 λx88=>aC a4 λb89 o90=>bK h b89 (o90+1) 1 [(.int .i64 (IntKind.i64.wrap (x88+1)))] λh91=>aC a4 λb92 o93=>aI h91 b92 o93 21 λl94=>aC a8 λb95 o96=>bK h91 b95 o96 21 l94 λh97=>aC a8 λb98 o99=>aI h97 b98 o99 21 λalS=>some ((.dJ [(.agg alS),(.str og)]),h97))else none):=(bY T.toTab n fC [1,1,1,0,1,0,0,1,0,0,1,0,1,0,1] [m1] _ h).trans (by kernel_rfl)
theorem xw(n:Nat)(a0:List AV)(de:Pt)(cI:Nat)(dz:aM)(iu:Pt)(hO:Nat)(je:aM)(eR:Pt)(eS:Nat)(eT:aM)(h:H):ca (n+1) eE [(.agg a0),(.slice de cI dz),(.slice iu hO je),(.slice eR eS eT)] h=aD (.cells a0 false) h λi1 h2=>aD (.cells wN false) h2 λi3 h4=>aI h4 i1 0 21 λl5=>(ca n jl [(.agg l5)] h4).bind λq6=>aZ q6.1 λx7=>cond (x7.toList==(⟨#[125]⟩:ByteArray).toList) (rW n de cI dz iu hO je eR eS eT (some (i1,0)) (some (i3,0)) x7 true q6.2) (af q6.2 i1 20 λv8=>asInt .i64 v8 λx9=>rW n de cI dz iu hO je eR eS eT (some (i1,0)) (some (i3,0)) x7 ((x9:Int) != (0:Int)) q6.2):=by kernel_rfl
def qy(n:Nat)(de:Pt)(cI:Nat)(dz:aM)(a2 a4:Pt)(a6:Bs)(a7:Int)(h:H):R:=J T.toTab n jh [1,1,1] [] [(1,(.slice de cI dz)),(2,(.ptr a2)),(4,(.ptr a4)),(6,(.str a6)),(7,(.int .i64 a7))] h
def iG(n m1:Nat)(de:Pt)(cI:Nat)(dz:aM)(a2 a4:Pt)(a6:Bs)(a7 a8:Int)(h:H):R:=J T.toTab n jh [1,1,1,0,1,0] [m1] [(1,(.slice de cI dz)),(2,(.ptr a2)),(4,(.ptr a4)),(6,(.str a6)),(7,(.int .i64 a7)),(8,(.int .i64 a8))] h
theorem Bo(n:Nat)(de:Pt)(cI:Nat)(dz:aM)(a2 a4:Pt)(a6:Bs)(a7:Int)(h:H):qy n de cI dz a2 a4 a6 a7 h=iG n n de cI dz a2 a4 a6 a7 0 h:=(bY T.toTab n jh [1,1,1] [] _ h).trans (by kernel_rfl)
theorem tC(n m1:Nat)(de:Pt)(cI:Nat)(dz:aM)(a2 a4:Pt)(a6:Bs)(a7 a8:Int)(h:H):iG n (m1+1) de cI dz a2 a4 a6 a7 a8 h=cond (decide (a8<(Nat.cast cI))) (if 0<=(a8:Int)/\a8<(Nat.cast (cI):Int)then aC de λb19 o20=>af h b19 (o20+a8.toNat) λv21=>aZ v21 λPo=>cond (Po.toList==a6.toList) (aC a2 λZw o24=>aI h Zw o24 21 λl25=>(ca n aN [(.agg l25),(.int .i64 a7),(.int .i64 181)] h).bind λYX=>asAgg YX.1 λXH=>aC a2 λZy o29=>bK YX.2 Zy o29 21 XH λh30=>iG n m1 de cI dz a2 a4 a6 a7 (IntKind.i64.wrap (a8+1)) h30) (iG n m1 de cI dz a2 a4 a6 a7 (IntKind.i64.wrap (a8+1)) h)else none) (aC a2 λb31 o32=>aI h b31 o32 21 λl33=>aC a4 λVx W0=>bK h Vx W0 21 l33 λZ8=>aC a4 λb37 o38=>aI Z8 b37 o38 21 λl39=>some ((.dJ [(.agg l39),(.str a6)]),Z8)):=(bY T.toTab n jh [1,1,1,0,1,0] [m1+1] _ h).trans (by kernel_rfl)
theorem Ew(n:Nat)(a0:List AV)(de:Pt)(cI:Nat)(dz:aM)(h:H):ca (n+1) jk [(.agg a0),(.slice de cI dz)] h=aD (.cells a0 false) h λi1 h2=>aD (.cells wN false) h2 λi3 h4=>aI h4 i1 0 21 λl5=>(ca n dG [(.agg l5)] h4).bind λq6=>aO q6.1 λl7=>lA l7 λx9 l8=>lS l8 λKL l10=>lI l10 λJQ Ua=>l0 Ua (bK q6.2 i1 0 21 x9 λJU=>cond (decide ((Nat.cast KL.size)>(40:Int))) (aI JU i1 0 21 λWG=>(ca n aN [(.agg WG),(.int .i64 JQ),(.int .i64 182)] JU).bind λq16=>asAgg q16.1 λL8=>bK q16.2 i1 0 21 L8 λWb=>qy n de cI dz (some (i1,0)) (some (i3,0)) KL JQ Wb) (qy n de cI dz (some (i1,0)) (some (i3,0)) KL JQ JU)):=by kernel_rfl
def mV(n m1:Nat)(eR:Pt)(eS:Nat)(eT:aM)(Sy:Pt)(Sz:Nat)(XR:aM)(uT CA:Int)(h:H):R:=J T.toTab n jI [1,1,0,1,0,1,0,0,1,0] [m1] [(3,(.slice eR eS eT)),(12,(.slice Sy Sz XR)),(13,(.int .i64 uT)),(14,(.int .i64 CA))] h
def mW(n m1:Nat)(a0:Bs)(eR:Pt)(eS:Nat)(eT:aM)(a6:Int)(h:H):R:=J T.toTab n jI [1,1,0,1,0,1,1,1,0,0,1,0] [m1] [(0,(.str a0)),(3,(.slice eR eS eT)),(6,(.int .i64 a6))] h
theorem uK(n m1:Nat)(eR:Pt)(eS:Nat)(eT:aM)(Sy:Pt)(Sz:Nat)(XR:aM)(uT CA:Int)(h:H):mV n (m1+1) eR eS eT Sy Sz XR uT CA h=cond (decide (CA<uT)) (if 0<=(CA:Int)/\CA<(Nat.cast (Sz):Int)then aC Sy λb3 o4=>af h b3 (o4+CA.toNat) λv5=>asInt .u8 v5 λx6=>(ca n rM [(.int .i64 (IntKind.i64.wrap x6))] h).bind λq7=>aZ q7.1 λx8=>aD (.cells [(.str x8)] false) q7.2 λi9 h10=>fS 1 16 eR eS eT (di 1 (.slice (some (i9,0)) 1 (.known 1)) h10) h10 λp11 n12 c13 JU=>mV n m1 p11 n12 c13 Sy Sz XR uT (IntKind.i64.wrap (CA+1)) JU else none) ((ca n rN [(.slice eR eS eT),(.str (⟨#[46]⟩:ByteArray))] h).bind λSj=>aZ Sj.1 λON=>some ((.str ON),Sj.2)):=(bY T.toTab n jI [1,1,0,1,0,1,0,0,1,0] [m1+1] _ h).trans (by kernel_rfl)
theorem uL(n m1:Nat)(a0:Bs)(eR:Pt)(eS:Nat)(eT:aM)(a6:Int)(h:H):mW n (m1+1) a0 eR eS eT a6 h=cond (decide (a6<(16:Int))) (iB a0 a6 λy17=>iB a0 (IntKind.i64.wrap (a6+1)) λy18=>(ca n sW [(.int .i64 (ior .i64 (Pc .i64 (IntKind.i64.wrap y17) 8) (IntKind.i64.wrap y18))),(.int .i64 16)] h).bind λq19=>aZ q19.1 λKM=>aD (.cells [(.str KM)] false) q19.2 λi21 K7=>fS 1 16 eR eS eT (di 1 (.slice (some (i21,0)) 1 (.known 1)) K7) K7 λp23 n24 c25 Yr=>mW n m1 a0 p23 n24 c25 (IntKind.i64.wrap (a6+2)) Yr) ((ca n rN [(.slice eR eS eT),(.str (⟨#[58]⟩:ByteArray))] h).bind λq27=>aZ q27.1 λSe=>some ((.str Se),q27.2)):=(bY T.toTab n jI [1,1,0,1,0,1,1,1,0,0,1,0] [m1+1] _ h).trans (by kernel_rfl)
theorem FV(n:Nat)(a0:Bs)(h:H):ca (n+1) eG [(.str a0)] h=cond (((Nat.cast a0.size):Int)==(4:Int)) (aD (.cells (a0.data.toList.map λc=>AV.int .u8 c.toNat) false) h λi1 h2=>mV n n none 0 (.known 0) (some (i1,0)) a0.size (.rest 1) (Nat.cast a0.size) 0 h2) (cond (((Nat.cast a0.size):Int)==(16:Int)) (mW n n a0 none 0 (.known 0) 0 h) (some ((.str (⟨#[]⟩:ByteArray)),h))):=by kernel_rfl
def vJ(n m1:Nat)(a0:Bs)(a5:Pt)(uT CA:Int)(h:H):R:=J T.toTab n xd [1,1,0,1,0] [m1] [(0,(.str a0)),(5,(.ptr a5)),(13,(.int .i64 uT)),(14,(.int .i64 CA))] h
def yU(n m1:Nat)(a0:Bs)(a5:Pt)(a6 a7 uT CA:Int)(a34:Bool)(h:H):R:=J T.toTab n xd [1,1,0,1,0,0,1,1,0,0,1,1,0,1,1,1] [m1] [(0,(.str a0)),(5,(.ptr a5)),(6,(.int .i64 a6)),(7,(.int .i64 a7)),(13,(.int .i64 uT)),(14,(.int .i64 CA)),(34,(.bool a34))] h
theorem yg(n m1:Nat)(a0:Bs)(a5:Pt)(uT CA:Int)(h:H):vJ n (m1+1) a0 a5 uT CA h=cond (decide (CA<uT)) (aC a5 λb3 o4=>af h b3 (o4+3) λv5=>asInt .i64 v5 λx6=>cond ((CA:Int)==(Nat.cast a0.size)) ((ca n eg [(.ptr a5),(.int .i64 CA)] h).bind λq7=>asBool q7.1 λx8=>cond (!x8) (some ((.dJ [(.slice none 0 (.known 0)),(.int .i64 x6),(.int .i64 170)]),q7.2)) ((ca n nA [(.ptr a5),(.int .i64 CA)] q7.2).bind λq9=>aO q9.1 λl10=>l0 l10 (vJ n m1 a0 a5 uT (IntKind.i64.wrap (CA+1)) q9.2))) (cond (decide (x6>=(0:Int))) (yU n m1 a0 a5 CA x6 uT CA (decide ((IntKind.i64.wrap (CA - x6))>(60:Int))) h) (yU n m1 a0 a5 CA x6 uT CA false h))) (aC a5 λJ2 Ku=>af h J2 (Ku+1) λJY=>asSlice JY λED n15 c16=>some ((.dJ [(.slice ED n15 c16),(.int .i64 0),(.int .i64 0)]),h)):=(bY T.toTab n xd [1,1,0,1,0] [m1+1] _ h).trans (by kernel_rfl)
theorem L3(n m1:Nat)(a0:Bs)(a5:Pt)(a6 a7 uT CA:Int)(a34:Bool)(h:H):yU n m1 a0 a5 a6 a7 uT CA a34 h=cond a34 (some ((.dJ [(.slice none 0 (.known 0)),(.int .i64 a7),(.int .i64 170)]),h)) (iB a0 a6 λy17=>(ca n Fq [(.int .u8 y17)] h).bind λq18=>asBool q18.1 λx19=>cond (!x19) (some ((.dJ [(.slice none 0 (.known 0)),(.int .i64 a6),(.int .i64 170)]),q18.2)) (iB a0 a6 λy20=>(ca n sY [(.ptr a5),(.int .u8 y20),(.int .i64 a6)] q18.2).bind λq21=>asBool q21.1 λPo=>cond (!Po) (some ((.dJ [(.slice none 0 (.known 0)),(.int .i64 a7),(.int .i64 170)]),q21.2)) (vJ n m1 a0 a5 uT (IntKind.i64.wrap (CA+1)) q21.2))):=(bY T.toTab n xd [1,1,0,1,0,0,1,1,0,0,1,1,0,1,1,1] [m1] _ h).trans (by kernel_rfl)
theorem R8(n:Nat)(a0:Bs)(h:H):ca (n+1) Fp [(.str a0)] h=aD (.cells [(.str a0),(.slice none 0 (.known 0)),(.int .i64 1),(.int .i64 (-1)),(.bool false),(.bool false)] false) h λi1 h2=>vJ n n a0 (some (i1,0)) (IntKind.i64.wrap ((Nat.cast a0.size)+1)) 0 h2:=by kernel_rfl
def sC(n:Nat)(a0:Bs)(kV:Pt)(ki:Nat)(kZ:aM)(J1:Bool)(h:H):R:=J T.toTab n pM [1,1,0,1] [] [(0,(.str a0)),(4,(.slice kV ki kZ)),(17,(.bool J1))] h
def wM(n:Nat)(OO:Pt)(OP:Nat)(OQ:aM)(a30:Bool)(h:H):R:=J T.toTab n pM [1,1,1,1,0,1] [] [(6,(.slice OO OP OQ)),(30,(.bool a30))] h
theorem yt(n:Nat)(a0:Bs)(kV:Pt)(ki:Nat)(kZ:aM)(J1:Bool)(h:H):sC n a0 kV ki kZ J1 h=cond J1 (bsK h (.slice kV ki kZ) λs9=>some ((.dJ [(.str s9),(.bool true)]),h)) ((ca n gT [(.str a0),(.str (⟨#[58]⟩:ByteArray)),(.int .i64 2),(.func lW [] [])] h).bind λq10=>aO q10.1 λNZ=>lL NZ λJQ n14 c15 Ua=>lB Ua λL8 Rv=>l0 Rv (cond L8 (wM n JQ n14 c15 (((Nat.cast n14):Int)==(16:Int)) q10.2) (wM n JQ n14 c15 false q10.2))):=(bY T.toTab n pM [1,1,0,1] [] _ h).trans (by kernel_rfl)
theorem yu(n:Nat)(OO:Pt)(OP:Nat)(OQ:aM)(a30:Bool)(h:H):wM n OO OP OQ a30 h=cond a30 (bsK h (.slice OO OP OQ) λs18=>some ((.dJ [(.str s18),(.bool true)]),h)) (some ((.dJ [(.str (⟨#[]⟩:ByteArray)),(.bool false)]),h)):=(bY T.toTab n pM [1,1,1,1,0,1] [] _ h).trans (by kernel_rfl)
theorem KI(n:Nat)(a0:Bs)(h:H):ca (n+1) xV [(.str a0)] h=(ca n gT [(.str a0),(.str (⟨#[46]⟩:ByteArray)),(.int .i64 1),(.func lV [] [])] h).bind λq1=>aO q1.1 λl2=>lL l2 λx4 n5 c6 l3=>lB l3 λx8 l7=>l0 l7 (cond x8 (sC n a0 x4 n5 c6 (((Nat.cast n5):Int)==(4:Int)) q1.2) (sC n a0 x4 n5 c6 false q1.2)):=by kernel_rfl
theorem zl(n:Nat)(a0 a1 a2:Pt)(h:H):ca (n+1) iz [(.ptr a0),(.ptr a1),(.ptr a2)] h=aC a0 λb1 o2=>af h b1 o2 λv3=>cZ v3 λx4=>(ca n dF [(.ptr x4)] h).bind λq5=>aO q5.1 λl6=>lS l6 λx8 l7=>lI l7 λsD l9=>lB l9 λBG NZ=>l0 NZ ((ca n xV [(.str x8)] q5.2).bind λGH=>aO GH.1 λKn=>lS Kn λON WG=>lB WG λG6 WI=>l0 WI (cond (!BG) (some ((.bool false),GH.2)) (cond (!G6) (aC a0 λb19 o20=>af GH.2 b19 o20 λv21=>cZ v21 λPo=>(ca n aK [(.ptr Po),(.int .i64 sD),(.int .i64 182)] GH.2).bind λXd=>asBool Xd.1 λOE=>some ((.bool OE),Xd.2)) (aC a0 λVw WZ=>af GH.2 Vw WZ λv27=>cZ v27 λSe=>aC a0 λb29 o30=>af GH.2 b29 o30 λv31=>cZ v31 λx32=>aC x32 λb33 o34=>af GH.2 b33 (o34+18) λv35=>asSlice v35 λXK n37 c38=>aC a1 λb39 o40=>af GH.2 b39 o40 λv41=>asBool v41 λXM=>aD (.cells [(.str ON),(.int .i64 sD),(.bool XM)] false) GH.2 λi43 h44=>fS 3 32 XK n37 c38 (di 3 (.slice (some (i43,0)) 1 (.known 1)) h44) h44 λp45 n46 c47 h48=>dU h44 h48 (kj a0) (aC Se λZz o50=>bK h48 Zz (o50+18) 1 [(.slice p45 n46 c47)] λYs=>aC a2 λZA o53=>af Ys ZA o53 λv54=>pK v54 λf56 x57 y58=>(ca n f56 (x57++[(.str ON),(.int .i64 sD)]++y58) Ys).bind λYY=>VI T.toTab f56 YY.1 λv59=>asBool v59 λx60=>cond x60 (aC a0 λb61 o62=>af YY.2 b61 o62 λv63=>cZ v63 λx64=>(ca n cz [(.ptr x64),(.str (⟨#[10]⟩:ByteArray))] YY.2).bind λXe=>asBool Xe.1 λx66=>some ((.bool x66),Xe.2)) (some ((.bool false),YY.2))))))):=by kernel_rfl
def iY(n m1:Nat)(a0:Bs)(a1:Int)(h:H):R:=J T.toTab n fY [1,0,0] [m1] [(0,(.str a0)),(1,(.int .i64 a1))] h
def nq(n m1:Nat)(a0:Bs)(a1:Int)(CA:Bool)(h:H):R:=J T.toTab n fY [1,0,0,0,0,1] [m1] [(0,(.str a0)),(1,(.int .i64 a1)),(14,(.bool CA))] h
theorem qP(n m1:Nat)(a0:Bs)(a1:Int)(h:H):iY n (m1+1) a0 a1 h=cond (decide (a1<(Nat.cast a0.size))) (iB a0 a1 λy1=>nq n m1 a0 a1 ((y1:Int) != (10:Int)) h) (nq n m1 a0 a1 false h):=(bY T.toTab n fY [1,0,0] [m1+1] _ h).trans (by kernel_rfl)
theorem qO(n m1:Nat)(a0:Bs)(a1:Int)(CA:Bool)(h:H):nq n m1 a0 a1 CA h=cond CA (iY n m1 a0 (IntKind.i64.wrap (a1+1)) h) (some ((.int .i64 a1),h)):=(bY T.toTab n fY [1,0,0,0,0,1] [m1] _ h).trans (by kernel_rfl)
theorem Bg(n:Nat)(a0:Bs)(a1:Int)(h:H):ca (n+1) nM [(.str a0),(.int .i64 a1)] h=iY n n a0 a1 h:=by kernel_rfl
def s6(n m1:Nat)(dy:Pt)(dn:Nat)(dN:aM)(a1:Bs)(a7 a8:Int)(h:H):R:=J T.toTab n CQ [1,0,1,0] [m1] [(0,(.slice dy dn dN)),(1,(.str a1)),(7,(.int .i64 a7)),(8,(.int .i64 a8))] h
theorem BI(n m1:Nat)(dy:Pt)(dn:Nat)(dN:aM)(a1:Bs)(a7 a8:Int)(h:H):s6 n (m1+1) dy dn dN a1 a7 a8 h=cond (decide (a8<a7)) (if 0<=(a8:Int)/\a8<(Nat.cast (dn):Int)then aC dy λb1 o2=>af h b1 (o2+a8.toNat) λv3=>aZ v3 λx4=>cond (a1.toList==x4.toList) (some ((.int .i64 a8),h)) (s6 n m1 dy dn dN a1 a7 (IntKind.i64.wrap (a8+1)) h)else none) (some ((.int .i64 (-1)),h)):=(bY T.toTab n CQ [1,0,1,0] [m1+1] _ h).trans (by kernel_rfl)
theorem OS(n:Nat)(dy:Pt)(dn:Nat)(dN:aM)(a1:Bs)(h:H):ca (n+1) Jf [(.slice dy dn dN),(.str a1)] h=s6 n n dy dn dN a1 (Nat.cast dn) 0 h:=by kernel_rfl
theorem Ez(n:Nat)(a0:List AV)(h:H):ca (n+1) jl [(.agg a0)] h=aD (.cells a0 false) h λi1 h2=>af h2 i1 1 λv3=>asInt .i64 v3 λx4=>af h2 i1 0 λv5=>asSlice v5 λx6 n7 c8=>cond (decide (x4<(Nat.cast n7))) (af h2 i1 0 λv9=>asSlice v9 λsD n11 c12=>af h2 i1 1 λJY=>asInt .i64 JY λED=>if 0<=(ED:Int)/\ED<(Nat.cast (n11):Int)then aC sD λb15 o16=>af h2 b15 (o16+ED.toNat*3) λUY=>aZ UY λG6=>some ((.str G6),h2)else none) (some ((.str (⟨#[]⟩:ByteArray)),h2)):=by kernel_rfl
theorem EU(n:Nat)(a0 de:Pt)(cI:Nat)(dz:aM)(h:H):ca (n+1) aJ [(.ptr a0),(.slice de cI dz)] h=aC a0 λb1 o2=>(ca n rN [(.slice de cI dz),(.str (⟨#[32]⟩:ByteArray))] h).bind λq3=>aZ q3.1 λx4=>VE x4 (⟨#[10]⟩:ByteArray) λs5=>(ca n ot [(.ptr (some (b1,o2))),(.str s5)] q3.2).bind λq6=>aO q6.1 λl7=>lI l7 λx9 l8=>lc l8 λv11 l10=>l0 l10 (some ((.dJ []),q6.2)):=by kernel_rfl
theorem BE(n:Nat)(a0 a1:Bs)(h:H):ca (n+1) uu [(.str a0),(.str a1)] h=cond (decide (((Nat.cast a0.size):Int)>=(Nat.cast a1.size))) (xM a0.size a0.size 0 none (some (.int .i64 (Nat.cast a1.size))) none λlo1 hi2 mx3=>some ((.bool ((a0.extract lo1 hi2).toList==a1.toList)),h)) (some ((.bool false),h)):=by kernel_rfl
theorem Ip(n:Nat)(a0:Bs)(h:H):ca (n+1) lV [(.str a0)] h=(ca n rO [(.str a0)] h).bind λq1=>aO q1.1 λl2=>lI l2 λx4 l3=>lB l3 λx6 l5=>l0 l5 (cond x6 (some ((.dJ [(.int .i64 x4),(.bool (decide (x4<=(255:Int))))]),q1.2)) (some ((.dJ [(.int .i64 x4),(.bool false)]),q1.2))):=by kernel_rfl
theorem tL(n:Nat)(dy:Pt)(dn:Nat)(dN:aM)(a1:Bs)(h:H):ca (n+1) rN [(.slice dy dn dN),(.str a1)] h=(yf n dy dn dN a1 h).bind λr=>some ((.str r.1),r.2):=by kernel_rfl
theorem Cq(n:Nat)(a0:Int)(h:H):ca (n+1) vk [(.int .i64 a0)] h=some ((.bool (((Rm .i64 a0 (IntKind.i64.wrap (a0 - 1))):Int)==(0:Int))),h):=by kernel_rfl
theorem Cb(n:Nat)(h:H):ca (n+1) vj [] h=some ((.str Ij),h):=by kernel_rfl
end
end Go.Ev.Tryz
set_option maxRecDepth 100000
set_option linter.all false
namespace Go.Ev.Tryz
open Go.Proofs
theorem BJ(n:Nat)(h:H):ca (n+1) vi [(.int .u64 16)] h=af h 1 15 λv1=>asInt .u8 v1 λx2=>some ((.int .i64 (IntKind.i64.wrap x2)),h):=by kernel_rfl
set_option maxRecDepth 10000
def parts(c:UInt8):List UInt8->List (List UInt8)
 | []=>[[]]
 | b::l=>if b=c then[]::parts c l else match parts c l with | p::ps=>(b::p)::ps | []=>[[b]]
theorem Um(c:UInt8):∀l,parts c l≠[]
 | []=>by simp[parts]
 | b::l=>by
  unfold parts
  split
  ·simp
  ·split<;>simp
theorem wF{c:UInt8}:∀{l:List UInt8},c∉l->parts c l=[l]
 | [],_=>rfl
 | b::l,h=>by
  simp only[List.mem_cons,not_or]at h
  unfold parts
  rw[if_neg (λe=>h.1 e.symm),wF h.2]
theorem AJ{c:UInt8}:∀{a:List UInt8} (l:List UInt8),c∉a->parts c (a++c::l)=a::parts c l
 | [],l,_=>by simp[parts]
 | b::a,l,h=>by
  simp only[List.mem_cons,not_or]at h
  rw[List.cons_append,parts,if_neg (λe=>h.1 e.symm),AJ l h.2]
theorem GC(c:UInt8):∀l:List UInt8,(parts c l).length=l.count c+1
 | []=>rfl
 | b::l=>by
  have ih:=GC c l
  unfold parts
  split
  ·rename_i h;subst h;simp[ih]
  ·rename_i h
   rw[List.count_cons_of_ne h]
   split
   ·rename_i p ps hp;rw[hp]at ih;simpa using ih
   ·rename_i hp;exact absurd hp (Um c l)
theorem P3{c:UInt8}:∀{l:List UInt8},c∈l->∃a b,l=a++c::b/\c∉a
 | x::l,h=>by
  by_cases e:c=x
  ·subst e;exact⟨[],l,rfl,by simp⟩
  ·obtain⟨a,b,rfl,hn⟩:=P3 ((List.mem_cons.1 h).resolve_left e)
   exact⟨x::a,b,rfl,by simp[e,hn]⟩
theorem Lc{c:UInt8}:∀{a:List UInt8} (b:List UInt8),c∉a->Lib.indexByte (a++c::b) c=a.length
 | [],b,_=>by simp[Lib.indexByte]
 | x::a,b,h=>by
  simp only[List.mem_cons,not_or]at h
  rw[List.cons_append,Lib.indexByte,Lc b h.2,if_neg (by simpa using λe=>h.1 e.symm),if_neg (by simp)]
  simp
theorem ajL(c:UInt8):((c.toNat:Nat):Int).toNat.toUInt8=c:=by simp
theorem abJ(n:Nat){s:ByteArray}{c:UInt8}(hs:bs s≠[c] )(h:H):ca (n+4) pO [.str s,.str (mk [c])] h=some (.int .i64 (Lib.indexByte (bs s) c),h):=by
 rw[Cr,xD]
 rw[show(((mk [c]).size:Nat):Int)=1 from rfl,show((1:Int)==0)=false by decide,br,yb,decide_eq_false (λe=>hs (by rw[<-e,ko])),uJ,br,show((1:Int)==1)=true by decide,bM]
 rw[show(0:Int)=((0:Nat):Int)from rfl,cC (i:=0) (b:=c) rfl,BF,zh,wj]
 simp only[fD,Rn,ajL,aj]
 rfl
theorem Zf(n:Nat)(c:UInt8)(h:H):ca (n+4) pO [.str (mk [c]),.str (mk [c])] h=some (.int .i64 0,h):=by
 rw[Cr,xD]
 rw[show(((mk [c]).size:Nat):Int)=1 from rfl,show((1:Int)==0)=false by decide,br,yb,decide_eq_true rfl,uJ,bM]
 simp only[fD,aj]
theorem abI(n:Nat)(s:ByteArray)(c:UInt8)(h:H):ca (n+2) xT [.str s,.str (mk [c])] h=some (.int .i64 (((bs s).count c:Nat):Int),h):=by
 rw[KE]
 rw[show(((mk [c]).size:Nat):Int)=1 from rfl,show((1:Int)==0)=false by decide,br,show((1:Int)==1)=true by decide,bM]
 rw[show(0:Int)=((0:Nat):Int)from rfl,cC (i:=0) (b:=c) rfl,CF,zg]
 simp only[fD,QU,ajL,Lib.countByte,aj]
 rfl
theorem Iz{β:Type}{s:ByteArray}{lo:Int}(h0:0<=lo)(h1:lo<=s.size)(f:Nat->Nat->Nat->Option β):xM s.size s.size 0 (some (.int .i64 lo)) none none f=f lo.toNat s.size s.size:=by
 simp[xM,eo,kI,h0,h1]
theorem Ti{β:Type}{s:ByteArray}{hi:Int}(h0:0<=hi)(h1:hi<=s.size)(f:Nat->Nat->Nat->Option β):xM s.size s.size 0 none (some (.int .i64 hi)) none f=f 0 hi.toNat s.size:=by
 simp[xM,eo,kI,h0,h1]
theorem BK{β:Type}{s:ByteArray}{k k':IntKind}{lo hi:Int}(h0:0<=lo)(h1:lo<=hi)(h2:hi<=s.size)(f:Nat->Nat->Nat->Option β):xM s.size s.size 0 (some (.int k lo)) (some (.int k' hi)) none f=f lo.toNat hi.toNat s.size:=by
 have:0<=hi:=by omega
 have h3:lo<=((hi.toNat:Nat):Int):=by omega
 simp only[xM,eo,kI,fD]
 rw[if_pos ⟨this,h2⟩]
 simp only[fD]
 rw[if_pos ⟨h0,h3⟩]
 rfl
theorem ME{b N:Nat}(c:UInt8)(n:Nat)(hn:4<=n)(hN:N<100000):∀(k:Nat) (s:ByteArray) (ps:List ByteArray) (m:Nat) (h:H),(bs s).count c=k->ps.length+k+1=N->k<m->s.size<100000->b<h.next->h.get b=some (.cells (ps.map AV.str++List.replicate (k+1) (.str .empty)) false)->
  ∃p' c',nC n m s (mk [c]) 0 ((N - 1:Nat):Int) (some (b,0)) N (.known N) ps.length h=some (.slice p' N c',h.set b (.cells ((ps++(parts c (bs s)).map mk).map AV.str) false))/\
   Row (h.set b (.cells ((ps++(parts c (bs s)).map mk).map AV.str) false)) 1 p' N c' ((ps++(parts c (bs s)).map mk).map AV.str)
 | 0,s,ps,m+1,h,hk,hl,_,hs,hb,hg=>by
  have hno:c∉bs s:=List.count_eq_zero.1 hk
  have hp:ps++(parts c (bs s)).map mk=ps++[s]:=by rw[wF hno];simp[Li]
  rw[hp,vI,aT (by omega),br,DP,if_pos ⟨by omega,by omega⟩]
  simp only[ai,Nat.zero_add]
  rw[show((ps.length:Nat):Int).toNat=ps.length from rfl,pH hg (by simp) rfl]
  have Rk:((ps.map AV.str++List.replicate (0+1) (AV.str .empty)).set ps.length (.str s))=(ps++[s]).map AV.str:=by
   rw[List.set_append_right _ _ (by simp)];simp
  rw[Rk]
  have hrow:Row (h.set b (.cells ((ps++[s]).map AV.str) false)) 1 (some (b,0)) N (.known N) ((ps++[s]).map AV.str):=
   .row hb (aW _ _ _) (by rw[List.drop_zero,List.take_of_length_le (by simp;omega)]) (by simp;omega) (.inr ⟨N,rfl,cF _⟩)
  obtain⟨p',c',r',_,e⟩:=hrow.upto (β:=AV×H) (k:=.i64) (hi:=((ps.length+1:Nat):Int)) (by omega) (by omega)
  rw[aG (by omega),e]
  refine⟨p',c',by rw[show((ps.length+1:Nat):Int).toNat=N by omega],?_⟩
  rw[show((ps.length+1:Nat):Int).toNat=N by omega]at r'
  rwa [List.take_of_length_le (by simp;omega)]at r'
 | k+1,s,ps,m+1,h,hk,hl,hm,hs,hb,hg=>by
  have hmem:c∈bs s:=List.count_pos_iff.1 (by omega)
  obtain⟨a,r,hsp,hna⟩:=P3 hmem
  have hidx:ca n pO [.str s,.str (mk [c])] h=some (.int .i64 ((a.length:Nat):Int),h):=by
   obtain⟨n,rfl⟩:∃m,n=m+4:=⟨n - 4,by omega⟩
   by_cases h1:bs s=[c]
   ·have:s=mk [c]:=by rw[<-Li s,h1]
    rw[this,Zf]
    have ha:a=[]:=by
     rw[h1]at hsp
     cases a with
     | nil=>rfl
     | cons x a=>have:=congrArg List.length hsp;simp at this
    rw[ha];rfl
   ·rw[abJ n h1,hsp,Lc r hna]
  have hsz:s.size=a.length+1+r.length:=by rw[<-aP,hsp];simp;omega
  rw[vI,cL (by omega),bM,hidx,fD]
  simp only[aj]
  rw[show decide (((a.length:Nat):Int)<0)=false by simp,br,show IntKind.i64.wrap (((a.length:Nat):Int)+0)=((a.length:Nat):Int)by rw[wrap_i64 (by omega) (by omega)];simp,Ti (by omega) (by omega),if_pos ⟨by omega,by omega⟩]
  simp only[ai,Nat.zero_add]
  rw[show((ps.length:Nat):Int).toNat=ps.length from rfl,show((a.length:Nat):Int).toNat=a.length from rfl,pH hg (by simp) rfl,show(((mk [c]).size:Nat):Int)=1 from rfl,aG (by omega),Iz (by omega) (by omega),aG (by omega)]
  have hx1:s.extract 0 a.length=mk a:=oI (by rw[jB,ko,hsp];simp)
  have hx2:s.extract ((a.length+1:Nat):Int).toNat s.size=mk r:=oI (by
   rw[jB,ko,hsp,show((a.length+1:Nat):Int).toNat=a.length+1 from rfl,hsz,show a.length+1+r.length - (a.length+1)=r.length by omega]
   rw[List.drop_append,List.drop_of_length_le (by omega),show a.length+1 - a.length=1 by omega];simp)
  have Rk:((ps.map AV.str++List.replicate (k+1+1) (AV.str .empty)).set ps.length (.str (s.extract 0 a.length)))=(ps++[mk a]).map AV.str++List.replicate (k+1) (.str .empty):=by
   rw[hx1,List.set_append_right _ _ (by simp)]
   simp[List.replicate_succ]
  have adb:(bs (mk r)).count c=k:=by
   rw[ko]
   rw[hsp,List.count_append,List.count_eq_zero.2 hna,List.count_cons_self]at hk
   omega
  rw[Rk,hx2,show ps.length+1=(ps++[mk a]).length by simp]
  obtain⟨p',c',e,r'⟩:=ME (b:=b) (N:=N) c n hn hN k (mk r) (ps++[mk a]) m (h.set b (.cells ((ps++[mk a]).map AV.str++List.replicate (k+1) (.str .empty)) false)) adb (by simp;omega) (by omega) (by rw[size_mk];omega) hb (aW _ _ _)
  rw[set_set]at e r'
  rw[ko]at e r'
  have axG:ps++[mk a]++(parts c r).map mk=ps++(parts c (bs s)).map mk:=by rw[hsp,AJ r hna];simp
  rw[axG]at e r'
  exact⟨p',c',e,r'⟩
theorem Zl{s:ByteArray}(hs:s.size<90000)(c:UInt8){n:Nat}(hn:s.size+10<=n)(h:H):
  cg (ca n xU [.str s,.str (mk [c])] h) λv h'=>Mod [] h h'/\∃p d,v=.slice p (parts c (bs s)).length d/\Row h' 1 p (parts c (bs s)).length d (((parts c (bs s)).map mk).map AV.str):=by
 obtain⟨n,rfl⟩:∃m,n=m+4:=⟨n - 4,by omega⟩
 rw[KG,G4,show((-1:Int)==0)=false by decide,br,yb,decide_eq_false (λe=>by have:=congrArg ByteArray.size e;rw[size_mk]at this;cases this),br,show decide ((-1:Int)<0)=true by decide,bM,abI,fD]
 simp only[aj]
 have hc:(bs s).count c<=s.size:=by rw[<-aP];exact List.count_le_length
 rw[aG (by omega),DO,aG (by omega)]
 rw[if_neg (by omega),adY h (by omega) (by decide),wrap_i64 (by omega) (by omega),Nat.mul_one,V3]
 obtain⟨p',c',e,r'⟩:=ME (b:=h.next) (N:=(bs s).count c+1) c (n+2) (by omega) (by omega) ((bs s).count c) s [] (n+2) (h.new (.cells (List.replicate ((bs s).count c+1) (.str .empty)) false)) rfl (by simp) (by omega) (by omega) (by simp) (aY _ _)
 rw[show(((bs s).count c+1:Nat):Int) - 1=(((bs s).count c+1 - 1:Nat):Int)by omega]
 rw[show((([]:List ByteArray).length:Nat):Int)=0 from rfl]at e
 rw[e,fD]
 simp only[ah]
 rw[<-GC]at r' ⊢
 refine .pure ⟨?_,p',c',rfl,by simpa using r'⟩
 exact((Mod.refl _ _).new _).set (.inl (cF _)) _
theorem P9{β:Type}{h:H}{b:Nat}{s:ByteArray}{pos:Nat}(hg:h.get b=some (.tE s pos))(hp:s.size<=pos)(f:Int->Int->H->Option β)(g:Option β):Hr h b f g=g:=by
 simp only[Hr,hg];rw[if_neg (by omega)]
theorem Ll{β:Type}{h:H}{b:Nat}{s:ByteArray}{pos:Nat}{x:UInt8}(hg:h.get b=some (.tE s pos))(hx:(bs s)[pos]?=some x)(ha:x.toNat<128)(f:Int->Int->H->Option β)(g:Option β):Hr h b f g=f pos x.toNat (h.set b (.tE s (pos+1))):=by
 have hl:pos<s.size:=by have:=(sS hx).1;rw[aP]at this;exact this
 rw[VB hl]at hx
 cases hx
 simp only[Hr,hg]
 rw[if_pos hl,decode_ascii s pos hl ha]
theorem Lm{β:Type}{h:H}{b:Nat}{s:ByteArray}{pos:Nat}{x:UInt8}(hg:h.get b=some (.tE s pos))(hx:(bs s)[pos]?=some x)(ha:¬x.toNat<128):∃(c:Nat) (w:Nat),128<=c/\∀(f:Int->Int->H->Option β) (g:Option β),Hr h b f g=f pos c (h.set b (.tE s (pos+w))):=by
 have hl:pos<s.size:=by have:=(sS hx).1;rw[aP]at this;exact this
 rw[VB hl]at hx
 cases hx
 refine⟨(Utf8.decode s pos).1,(Utf8.decode s pos).2,ZR hl (by omega),λf g=>?_⟩
 simp only[Hr,hg]
 rw[if_pos hl]
def tV(r:Int×Bool):AV:=.dJ [.int .i64 r.1,.bool r.2]
def uw(x:UInt8):Bool:=decide (48<=x.toNat)&&decide (x.toNat<=57)
def G1:Int->List UInt8->Int×Bool
 | n,[]=>(n,true)
 | n,x::l=>if uw x=true then G1 (10*n+((x.toNat:Int) - 48)) l else(0,false)
def cl(l:List UInt8):Int×Bool:=if l=[]∨9<l.length∨(l.head?=some 48/\l≠[48])then(0,false)else G1 0 l
theorem Un{k:Nat}(h:k<=9):(10:Int) ^ k<=1000000000:=by
 have:∀k:Fin 10,(10:Int) ^ k.val<=1000000000:=by decide
 exact this ⟨k,by omega⟩
theorem wrap_i32{x:Int}(h0 : -2147483648<=x)(h1:x<2147483648):IntKind.i32.wrap x=x:=by
 simp only[IntKind.wrap,IntKind.bits,IntKind.signed]
 simp;split<;>omega
theorem KQ{a:H}{b:Nat}(hb:a.next<=b){s:ByteArray}(n:Nat):∀(l:List UInt8) (pos m:Nat) (acc:Int) (h:H),(bs s).drop pos=l->pos<=9->s.size<=9->l.length<m->0<=acc->acc<10 ^ pos->Mod [] a h->h.get b=some (.tE s pos)->
  cg (tM n m acc (some (b,0)) h) λr h'=>Mod [] a h'/\r=tV (G1 acc l)
 | [],pos,m+1,acc,h,hd,_,h9,_,_,_,hm,hg=>by
  rw[zZ]
  simp only[ai]
  have:=List.drop_eq_nil_iff.1 hd
  rw[aP]at this
  rw[P9 hg this]
  exact .pure ⟨hm,rfl⟩
 | x::l,pos,m+1,acc,h,hd,hp9,h9,hl,h0,h1,hm,hg=>by
  have hx:(bs s)[pos]?=some x:=by have:=congrArg (·[0]?) hd;simpa using this
  have NR:pos<s.size:=by have:=(sS hx).1;rw[aP]at this;exact this
  have hd':(bs s).drop (pos+1)=l:=by rw[<-List.drop_drop,hd];rfl
  have h10:=Un hp9
  rw[zZ]
  simp only[ai]
  by_cases ha:x.toNat<128
  ·rw[Ll hg hx ha]
   have hm':Mod [] a (h.set b (.tE s (pos+1))):=hm.set (.inl hb) _
   unfold G1 uw
   by_cases h48:48<=x.toNat
   ·rw[show decide (((x.toNat:Nat):Int)<48)=false by simp;omega,br,ue]
    by_cases Mf:x.toNat<=57
    ·rw[show decide (((x.toNat:Nat):Int)>57)=false by simp;omega,br,decide_eq_true h48,decide_eq_true Mf]
     simp only[Bool.and_self,if_true]
     rw[wrap_i64 (x:=10*acc) (by omega) (by omega),wrap_i32 (by omega) (by omega),wrap_i64 (x:=(x.toNat:Int) - 48) (by omega) (by omega),wrap_i64 (by omega) (by omega)]
     refine KQ hb n l (pos+1) m _ _ hd' (by omega) h9 (by simp at hl;omega) (by omega) ?_ hm' (aW _ _ _)
     rw[Int.pow_succ];omega
    ·rw[show decide (((x.toNat:Nat):Int)>57)=true by simp;omega,bM,decide_eq_false Mf,Bool.and_false]
     exact .pure ⟨hm',rfl⟩
   ·rw[show decide (((x.toNat:Nat):Int)<48)=true by simp;omega,bM,ue,bM,decide_eq_false h48,Bool.false_and]
    exact .pure ⟨hm',rfl⟩
  ·obtain⟨c,w,hc,e⟩:=Lm (β:=AV×H) hg hx ha
   rw[e,show decide (((c:Nat):Int)<48)=false by simp;omega,br,ue,show decide (((c:Nat):Int)>57)=true by simp;omega,bM]
   refine .pure ⟨hm.set (.inl hb) _,?_⟩
   unfold G1 uw
   rw[decide_eq_false (show ¬x.toNat<=57 by omega),Bool.and_false]
   rfl
theorem HA(s:ByteArray){n:Nat}(hn:20<=n)(h:H):cg (ca n rO [.str s] h) λr h'=>Mod [] h h'/\r=tV (cl (bs s)):=by
  obtain⟨n,rfl⟩:∃m,n=m+1:=⟨n - 1,by omega⟩
  rw[L5,yb]
  by_cases h0:s=⟨#[]⟩
  · rw[decide_eq_true h0,bM,pG,bM]
    exact .pure ⟨.refl _ _,by subst h0;rfl⟩
  · have hne:bs s≠[]:=λe=>h0 (oI (by rw[e];rfl))
    rw[decide_eq_false h0,br]
    by_cases h9:s.size<=9
    · rw[show decide ((s.size:Int)>9)=false by simp;omega,br]
      obtain⟨x,l,hxl⟩:=List.exists_cons_of_ne_nil hne
      rw[show(0:Int)=((0:Nat):Int)from rfl,cC (i:=0) (b:=x) (by rw[hxl];rfl)]
      have go:¬(bs s=[]∨9<(bs s).length∨((bs s).head?=some 48/\bs s≠[48]))->cg (lD n s false h) λr h'=>Mod [] h h'/\r=tV (cl (bs s)):=λhc=>by
        rw[pG,br]
        simp only[aL]
        rw[cl,if_neg hc]
        exact KQ (cF _) n (bs s) 0 n 0 _ rfl (by omega) h9 (by rw[aP];omega) (by omega) (by decide) ((Mod.refl _ _).new _) (aY _ _)
      by_cases h48:x=48
      · subst h48
        rw[show((((48:UInt8).toNat:Nat):Int)==48)=true by decide,bM,yb]
        by_cases hs:s=⟨#[48]⟩
        · rw[decide_eq_true hs,Bool.not_true]
          refine go ?_
          subst hs
          decide
        · rw[decide_eq_false hs,Bool.not_false,pG,bM]
          refine .pure ⟨.refl _ _,?_⟩
          rw[cl,if_pos (.inr (.inr ⟨by rw[hxl];rfl,λe=>hs (oI (by rw[e];rfl))⟩))];rfl
      · rw[show((x.toNat:Int)==48)=false by
          rw[beq_eq_false_iff_ne]
          intro e
          exact h48 (UInt8.toNat_inj.1 (by
            have:x.toNat=48:=by omega
            simpa using this)),br]
        refine go ?_
        rw[hxl]
        simp
        exact⟨by have:=aP s;rw[hxl]at this;simp at this;omega,λe=>absurd e h48⟩
    · rw[show decide ((s.size:Int)>9)=true by simp;omega,bM,pG,bM]
      refine .pure ⟨.refl _ _,?_⟩
      rw[cl,if_pos (.inr (.inl (by rw[aP];omega)))];rfl
def xR(x:UInt8):Option Int:=if uw x=true then some ((x.toNat:Int) - 48)else if 97<=x.toNat/\x.toNat<=102 then some ((x.toNat:Int) - 87)else none
def su:Int->List UInt8->Option Int
 | n,[]=>some n
 | n,x::l=>match xR x with | none=>none | some d=>if 65535<16*n+d then none else su (16*n+d) l
theorem ag5{x d:Int}(hx:0<=x)(hx2:x<1099511627776)(hd:0<=d)(hd2:d<16):ior .i64 (Pc .i64 x 4) d=16*x+d:=by
 obtain⟨a,rfl⟩:=Int.eq_ofNat_of_zero_le hx
 obtain⟨b,rfl⟩:=Int.eq_ofNat_of_zero_le hd
 have h1:Pc .i64 (a:Int) 4=((a*16:Nat):Int):=by
  unfold Pc
  rw[show min (4:Int).toNat IntKind.i64.bits=4 from rfl,wrap_i64 (by omega) (by omega)]
  omega
 rw[h1]
 have h4:(BitVec.ofInt 64 ((a*16:Nat):Int) ||| BitVec.ofInt 64 (b:Int)).toNat=a*16+b:=by
  rw[BitVec.toNat_or,BitVec.ofInt_natCast,BitVec.ofInt_natCast,BitVec.toNat_ofNat,BitVec.toNat_ofNat,Nat.mod_eq_of_lt (by omega),Nat.mod_eq_of_lt (by omega)]
  rw[Nat.mul_comm,show(16:Nat)=2 ^ 4 from rfl,<-Nat.two_pow_add_eq_or_of_lt (by omega)]
 show IntKind.i64.wrap ((BitVec.ofInt 64 ((a*16:Nat):Int) ||| BitVec.ofInt 64 (b:Int)).toNat:Nat)=_
 rw[h4,wrap_i64 (by omega) (by omega)]
 omega
def oP(least most:Int)(s:ByteArray):Int×Bool:=match su 0 (bs s)with | none=>(0,false) | some v=>(v,decide (least<=s.size)&&decide ((s.size:Int)<=most))
theorem NN{x:UInt8}{d:Int}(h:xR x=some d):0<=d/\d<16:=by
 unfold xR uw at h
 split at h
 ·rename_i hh;cases h;simp at hh;omega
 ·split at h
  ·rename_i hh;cases h;omega
  ·cases h
theorem TW{a:H}{b:Nat}(hb:a.next<=b){s:ByteArray}(least most:Int)(n:Nat):∀(l:List UInt8) (pos m:Nat) (acc:Int) (h:H),(bs s).drop pos=l->l.length<m->0<=acc->acc<=65535->Mod [] a h->h.get b=some (.tE s pos)->
  cg (yX n m s least most acc (some (b,0)) h) λr h'=>Mod [] a h'/\r=tV (match su acc l with | none=>(0,false) | some v=>(v,decide (least<=s.size)&&decide ((s.size:Int)<=most)))
 | [],pos,m+1,acc,h,hd,_,_,_,hm,hg=>by
  rw[D3]
  simp only[ai]
  have:=List.drop_eq_nil_iff.1 hd
  rw[aP]at this
  rw[P9 hg this]
  by_cases h1:(s.size:Int)>=least
  ·rw[decide_eq_true h1,bM]
   exact .pure ⟨hm,by simp[tV,su,show least<=(s.size:Int)from h1]⟩
  ·rw[decide_eq_false h1,br]
   exact .pure ⟨hm,by simp[tV,su,show ¬least<=(s.size:Int)from h1]⟩
 | x::l,pos,m+1,acc,h,hd,hl,h0,h1,hm,hg=>by
  have hx:(bs s)[pos]?=some x:=by have:=congrArg (·[0]?) hd;simpa using this
  have hd':(bs s).drop (pos+1)=l:=by rw[<-List.drop_drop,hd];rfl
  rw[D3]
  simp only[ai]
  by_cases ha:x.toNat<128
  ·rw[Ll hg hx ha]
   have hm':Mod [] a (h.set b (.tE s (pos+1))):=hm.set (.inl hb) _
   have hg':(h.set b (.tE s (pos+1))).get b=some (.tE s (pos+1)):=aW _ _ _
   generalize h.set b (.tE s (pos+1))=h' at *
   have j3:∀d:Int,xR x=some d->cg (yW n m s least most (ior .i64 (Pc .i64 acc 4) d) (some (b,0)) h') λr h'=>Mod [] a h'/\r=tV (match su acc (x::l)with | none=>(0,false) | some v=>(v,decide (least<=s.size)&&decide ((s.size:Int)<=most))):=by
    intro d hd
    have hr:=NN hd
    rw[L7,ag5 h0 (by omega) hr.1 hr.2]
    unfold su
    simp only[hd]
    by_cases hov:65535<16*acc+d
    ·rw[show decide (16*acc+d>65535)=true by simpa using hov,bM,if_pos hov]
     exact .pure ⟨hm',rfl⟩
    ·rw[show decide (16*acc+d>65535)=false by simpa using hov,br,if_neg hov]
     exact TW hb least most n l (pos+1) m _ h' hd' (by simp at hl;omega) (by omega) (by omega) hm' hg'
   have bad:xR x=none->cg (some (.dJ [.int .i64 0,.bool false],h')) λr h'=>Mod [] a h'/\r=tV (match su acc (x::l)with | none=>(0,false) | some v=>(v,decide (least<=s.size)&&decide ((s.size:Int)<=most))):=λhn=>by
    refine .pure ⟨hm',?_⟩
    unfold su
    simp only[hn,tV]
   have j1f:¬uw x=true->cg (yV n m s least most acc x.toNat (some (b,0)) false h') λr h'=>Mod [] a h'/\r=tV (match su acc (x::l)with | none=>(0,false) | some v=>(v,decide (least<=s.size)&&decide ((s.size:Int)<=most))):=by
    intro hnd
    rw[yj,br]
    by_cases h97:97<=x.toNat
    ·rw[show decide (((x.toNat:Nat):Int)>=97)=true by simp;omega,bM,yl]
     by_cases O4:x.toNat<=102
     ·rw[show decide (((x.toNat:Nat):Int)<=102)=true by simp;omega,bM,wrap_i32 (x:=(x.toNat:Int) - 97) (by omega) (by omega),wrap_i32 (by omega) (by omega),wrap_i64 (by omega) (by omega)]
      exact j3 _ (by unfold xR;rw[if_neg hnd,if_pos ⟨h97,O4⟩];congr 1;omega)
     ·rw[show decide (((x.toNat:Nat):Int)<=102)=false by simp;omega,br]
      exact bad (by unfold xR;rw[if_neg hnd,if_neg (by omega)])
    ·rw[show decide (((x.toNat:Nat):Int)>=97)=false by simp;omega,br,yl,br]
     exact bad (by unfold xR;rw[if_neg hnd,if_neg (by omega)])
   by_cases h48:48<=x.toNat
   ·rw[show decide (((x.toNat:Nat):Int)>=48)=true by simp;omega,bM]
    by_cases Mf:x.toNat<=57
    ·rw[show decide (((x.toNat:Nat):Int)<=57)=true by simp;omega,yj,bM,wrap_i32 (by omega) (by omega),wrap_i64 (by omega) (by omega)]
     exact j3 _ (by unfold xR uw;rw[decide_eq_true h48,decide_eq_true Mf];rfl)
    ·rw[show decide (((x.toNat:Nat):Int)<=57)=false by simp;omega]
     exact j1f (by unfold uw;rw[decide_eq_false Mf];simp)
   ·rw[show decide (((x.toNat:Nat):Int)>=48)=false by simp;omega,br]
    exact j1f (by unfold uw;rw[decide_eq_false h48];simp)
  ·obtain⟨c,w,hc,e⟩:=Lm (β:=AV×H) hg hx ha
   rw[e,show decide (((c:Nat):Int)>=48)=true by simp;omega,bM,show decide (((c:Nat):Int)<=57)=false by simp;omega,yj,br,show decide (((c:Nat):Int)>=97)=true by simp;omega,bM,yl,show decide (((c:Nat):Int)<=102)=false by simp;omega,br]
   refine .pure ⟨hm.set (.inl hb) _,?_⟩
   have:xR x=none:=by unfold xR uw;rw[decide_eq_false (show ¬x.toNat<=57 by omega)];simp;omega
   unfold su
   simp only[this,tV]
theorem Yx(s:ByteArray)(least most:Int){n:Nat}(hn:s.size+1<n)(h:H):cg (ca n AG [.str s,.int .i64 least,.int .i64 most] h) λr h'=>Mod [] h h'/\r=tV (oP least most s):=by
 obtain⟨n,rfl⟩:∃m,n=m+1:=⟨n - 1,by omega⟩
 rw[R9]
 simp only[aL]
 exact TW (cF _) least most n (bs s) 0 n 0 _ rfl (by rw[aP];omega) (by omega) (by omega) ((Mod.refl _ _).new _) (aY _ _)
def PB(w:Nat)(v:Int):List Int:=if w=1 then[IntKind.u8.wrap (B7 .i64 v 0)]else[IntKind.u8.wrap (B7 .i64 v 8),IntKind.u8.wrap (B7 .i64 v 0)]
def fX(rd:ByteArray->Int×Bool)(w:Nat):List ByteArray->Option (List Int)
 | []=>some []
 | p::ps=>if(rd p).2=true then(fX rd w ps).map (PB w (rd p).1++·)else none
abbrev vX(l:List Int):List AV:=l.map (.int .u8)
theorem NK{f:Nat}(zA:∀(x:Int) (b:Bool) (k:AV->R),VI T.toTab f (.dJ [.int .i64 x,.bool b]) k=k (.dJ [.int .i64 x,.bool b]))
  {rd:ByteArray->Int×Bool} {n:Nat} {ss:List ByteArray} (hR:∀s∈ss,∀h,cg (ca n f [.str s] h) λr h'=>Mod [] h h'/\r=tV (rd s)) (hn:10<=n) {w:Nat} (hw:w=1∨w=2)
  {a:H} {p:Option (Nat×Nat)} {c:aM} (row:Row a 1 p ss.length c (ss.map AV.str)) (alu:ss.length<100000):
  ∀(ts pre:List ByteArray) (m:Nat) (acc:List Int) (h:H) (q:Option (Nat×Nat)) (l:Nat) (d:aM),ss=pre++ts->ts.length<m->acc.length<=2*pre.length->Mod [] a h->Grow a h 1 q l d (vX acc)->
   cg (tN n m w (.func f [] []) q l d p ss.length c ss.length pre.length h) λr h'=>Mod [] a h'/\match fX rd w ts with | none=>∃q l d,r=.dJ [.slice q l d,.bool false] | some x=>∃q l d,r=.dJ [.slice q l d,.bool true]/\Grow a h' 1 q l d (vX (acc++x))
 | [],pre,m+1,acc,h,q,l,d,hx,_,_,hm,g=>by
  rw[z8,aT (by rw[hx];simp),br]
  exact .pure ⟨hm,by simp only[fX];exact⟨q,l,d,rfl,by simpa using g⟩⟩
 | t::ts,pre,m+1,acc,h,q,l,d,hx,hl,hacc,hm,g=>by
  have NR:pre.length<ss.length:=by rw[hx];simp
  rw[z8,cL NR,bM,(row.ak hm).Mh (x:=t) (by rw[hx];simp),az,wO,List.nil_append,List.append_nil]
  refine(hR t (by rw[hx];simp) h).bind ?_
  rintro _ h1 ⟨m1,rfl⟩
  dsimp only[tV]
  rw[zA,Yc rfl,aj,Yc rfl,aq]
  cases ht:(rd t).2 with
  | false=>
   rw[Bool.not_false,bM]
   refine .pure ⟨hm.trans m1,?_⟩
   simp only[fX,ht,Bool.false_eq_true,if_false]
   exact⟨_,_,_,rfl⟩
  | true=>
   rw[Bool.not_true,br]
   obtain⟨n',rfl⟩:∃k,n=k+1+1+1:=⟨n - 3,by omega⟩
   have push:∀(m2:Nat) (k:Nat) (acc:List Int) (h:H) (q:Option (Nat×Nat)) (l:Nat) (d:aM) (Q:AV->H->Prop),k<=1->acc.length<=2*pre.length+1->Mod [] a h->Grow a h 1 q l d (vX acc)->
     (∀(q':Option (Nat×Nat)) (l':Nat) (d':aM) (h':H),Mod [] a h'->Grow a h' 1 q' l' d' (vX (acc++[IntKind.u8.wrap (B7 .i64 (rd t).1 (8*k:Nat))]))->cg (lE (n'+1+1+1) m m2 w (.func f [] []) q' l' d' (rd t).1 (IntKind.i64.wrap ((k:Int) - 1)) p ss.length c ss.length pre.length h') Q)->
     cg (lE (n'+1+1+1) m (m2+1) w (.func f [] []) q l d (rd t).1 k p ss.length c ss.length pre.length h) Q:=by
    intro m2 k acc h q l d Q hk hacc hm g go
    have hgl:=g.row.adT
    rw[Aa,show decide (((k:Nat):Int)>=0)=true by simp,bM,show IntKind.i64.wrap (8*(k:Int))=((8*k:Nat):Int)by rw[wrap_i64 (by omega) (by omega)];omega,if_neg (by omega),aL]
    refine g.push hm.next rfl rfl (by decide) (by omega) (by omega) λq' d' h' g' m'=>?_
    exact go q' _ d' h' (hm.push g m') (by simpa[vX]using g')
   have fin:∀(m2:Nat) (acc':List Int) (h:H) (q:Option (Nat×Nat)) (l:Nat) (d:aM),acc'=acc++PB w (rd t).1->Mod [] a h->Grow a h 1 q l d (vX acc')->
     cg (lE (n'+1+1+1) m (m2+1) w (.func f [] []) q l d (rd t).1 (IntKind.i64.wrap (((0:Nat):Int) - 1)) p ss.length c ss.length pre.length h) λr h'=>Mod [] a h'/\match fX rd w (t::ts)with | none=>∃q l d,r=.dJ [.slice q l d,.bool false] | some x=>∃q l d,r=.dJ [.slice q l d,.bool true]/\Grow a h' 1 q l d (vX (acc++x)):=by
    intro m2 acc' h q l d TS hm g
    rw[Aa,show IntKind.i64.wrap (((0:Nat):Int) - 1) = -1 by decide,show decide ((-1:Int)>=0)=false by decide,br,aG (by omega),show pre.length+1=(pre++[t]).length by simp]
    have hb:(PB w (rd t).1).length<=2:=by unfold PB;split<;>simp
    refine(NK zA hR hn hw row alu ts (pre++[t]) m acc' h q l d (by rw[hx];simp) (by simp at hl;omega) (by rw[TS];simp;omega) hm g).mono λr h' ⟨q1,q2⟩=>⟨q1,?_⟩
    simp only[fX,ht,if_true]
    cases hgo:fX rd w ts with
    | none=>rw[hgo]at q2;exact q2
    | some x=>
     rw[hgo]at q2
     obtain⟨q',l',d',e,q2⟩:=q2
     refine⟨q',l',d',e,?_⟩
     rw[TS,List.append_assoc]at q2
     exact q2
   rcases hw with rfl | rfl
   ·rw[show IntKind.i64.wrap (((1:Nat):Int) - 1)=((0:Nat):Int)by decide]
    refine push _ 0 acc h1 q l d _ (by omega) (by omega) (hm.trans m1) (g.ak m1) λq' l' d' h' m' g'=>?_
    exact fin _ _ h' q' l' d' rfl m' g'
   ·rw[show IntKind.i64.wrap (((2:Nat):Int) - 1)=((1:Nat):Int)by decide]
    refine push _ 1 acc h1 q l d _ (by omega) (by omega) (hm.trans m1) (g.ak m1) λq' l' d' h' m' g'=>?_
    rw[show IntKind.i64.wrap (((1:Nat):Int) - 1)=((0:Nat):Int)by decide]
    refine push _ 0 _ h' q' l' d' _ (by omega) (by simp;omega) m' g' λq2 l2 d2 h2 m2 g2=>?_
    exact fin _ _ h2 q2 l2 d2 (by rw[List.append_assoc];rfl) m2 g2
def xZ(s:ByteArray):Int×Bool:=if(cl (bs s)).2=true then((cl (bs s)).1,decide ((cl (bs s)).1<=255))else((cl (bs s)).1,false)
theorem anL(s:ByteArray){n:Nat}(hn:21<=n)(h:H):cg (ca n lV [.str s] h) λr h'=>Mod [] h h'/\r=tV (xZ s):=by
 obtain⟨n,rfl⟩:∃m,n=m+1:=⟨n - 1,by omega⟩
 rw[Ip]
 refine(HA s (by omega) h).bind ?_
 rintro _ h1 ⟨m1,rfl⟩
 simp only[tV,ay,cu,fV,aE]
 unfold xZ
 cases hn:(cl (bs s)).2 with
 | true=>rw[bM];exact .pure ⟨m1,by simp⟩
 | false=>rw[br];exact .pure ⟨m1,by simp⟩
theorem anM(s:ByteArray){n:Nat}(hn:s.size+2<n)(h:H):cg (ca n lW [.str s] h) λr h'=>Mod [] h h'/\r=tV (oP 1 4 s):=by
 obtain⟨n,rfl⟩:∃m,n=m+1:=⟨n - 1,by omega⟩
 rw[Iq]
 refine(Yx s 1 4 (by omega) h).bind ?_
 rintro _ h1 ⟨m1,rfl⟩
 simp only[tV,ay,cu,fV,aE]
 exact .pure ⟨m1,rfl⟩
theorem atm(s:ByteArray){n:Nat}(hn:s.size+2<n)(h:H):cg (ca n nV [.str s] h) λr h'=>Mod [] h h'/\r=tV (oP 2 2 s):=by
 obtain⟨n,rfl⟩:∃m,n=m+1:=⟨n - 1,by omega⟩
 rw[L4]
 refine(Yx s 2 2 (by omega) h).bind ?_
 rintro _ h1 ⟨m1,rfl⟩
 simp only[tV,ay,cu,fV,aE]
 exact .pure ⟨m1,rfl⟩
def bJ(c:UInt8)(s:ByteArray):List ByteArray:=(parts c (bs s)).map mk
theorem zO{c:UInt8}:∀{l p:List UInt8},p∈parts c l->p.length<=l.length
 | [],p,h=>by simp[parts]at h;subst h;simp
 | b::l,p,h=>by
  unfold parts at h
  split at h
  ·rcases List.mem_cons.1 h with rfl | h
   ·simp
   ·have:=zO h;simp;omega
  ·split at h
   ·rename_i q qs hq
    rcases List.mem_cons.1 h with rfl | h
    ·have:=zO (c:=c) (l:=l) (p:=q) (by rw[hq];simp)
     simp;omega
    ·have:=zO (c:=c) (l:=l) (p:=p) (by rw[hq];simp[h])
     simp;omega
   ·simp at h;subst h;simp
def Pu(a h':H)(r:AV):Option (List Int)->Prop
 | none=>∃q l d,r=.dJ [.slice q l d,.bool false]
 | some x=>∃q l d,r=.dJ [.slice q l d,.bool true]/\Grow a h' 1 q l d (vX x)
theorem HO{f:Nat}(zA:∀(x:Int) (b:Bool) (k:AV->R),VI T.toTab f (.dJ [.int .i64 x,.bool b]) k=k (.dJ [.int .i64 x,.bool b])){rd:ByteArray->Int×Bool}{s:ByteArray}(hs:s.size<90000)(c:UInt8){w:Nat}(hw:w=1∨w=2)
  (hR:∀t:ByteArray,t.size<=s.size->∀(n:Nat) (h:H),s.size+59<=n->cg (ca n f [.str t] h) λr h'=>Mod [] h h'/\r=tV (rd t)) {n:Nat} (hn:s.size+60<=n) (h:H):
  cg (ca n gT [.str s,.str (mk [c]),.int .i64 w,.func f [] []] h) λr h'=>Mod [] h h'/\Pu h h' r (fX rd w (bJ c s)):=by
 obtain⟨n,rfl⟩:∃m,n=m+1:=⟨n - 1,by omega⟩
 rw[L6]
 refine(Zl hs c (by omega) h).bind ?_
 rintro _ h1 ⟨m1,p,d,rfl,row⟩
 simp only[ah]
 have hlen:(bJ c s).length=(parts c (bs s)).length:=by simp[bJ]
 have hle:(parts c (bs s)).length<=s.size+1:=by rw[GC,<-aP];have:=List.count_le_length (a:=c) (l:=bs s);omega
 rw[<-hlen]at row ⊢
 refine(NK zA (rd:=rd) (ss:=bJ c s) (λt ht h=>hR t (by
  obtain⟨q,hq,rfl⟩:=List.mem_map.1 ht
  have:=zO hq;rw[aP]at this;rw[size_mk];omega) n h (by omega)) (by omega) hw row (by omega) (bJ c s) [] n [] h1 none 0 (.known 0) rfl (by omega) (by simp) (.refl _ _) .nil).mono λr h' ⟨q1,q2⟩=>⟨m1.trans q1,?_⟩
 cases hg:fX rd w (bJ c s)with
 | none=>rw[hg]at q2;exact q2
 | some x=>rw[hg]at q2;obtain⟨q,l,d,e,q2⟩:=q2;exact⟨q,l,d,e,q2.base m1.next⟩
theorem acZ{s:ByteArray}(hs:s.size<90000)(c:UInt8){n:Nat}(hn:s.size+60<=n)(h:H):cg (ca n gT [.str s,.str (mk [c]),.int .i64 1,.func lV [] []] h) λr h'=>Mod [] h h'/\Pu h h' r (fX xZ 1 (bJ c s)):=
 HO (f:=lV) (by intro x b k;kernel_rfl) (rd:=xZ) hs c (w:=1) (.inl rfl) (λt ht n h hn=>anL t (by omega) h) hn h
theorem ac0{s:ByteArray}(hs:s.size<90000)(c:UInt8){n:Nat}(hn:s.size+60<=n)(h:H):cg (ca n gT [.str s,.str (mk [c]),.int .i64 2,.func lW [] []] h) λr h'=>Mod [] h h'/\Pu h h' r (fX (oP 1 4) 2 (bJ c s)):=
 HO (f:=lW) (by intro x b k;kernel_rfl) (rd:=(oP 1 4)) hs c (w:=2) (.inr rfl) (λt ht n h hn=>anM t (by omega) h) hn h
theorem agF{s:ByteArray}(hs:s.size<90000)(c:UInt8){n:Nat}(hn:s.size+60<=n)(h:H):cg (ca n gT [.str s,.str (mk [c]),.int .i64 1,.func nV [] []] h) λr h'=>Mod [] h h'/\Pu h h' r (fX (oP 2 2) 1 (bJ c s)):=
 HO (f:=nV) (by intro x b k;kernel_rfl) (rd:=(oP 2 2)) hs c (w:=1) (.inl rfl) (λt ht n h hn=>atm t (by omega) h) hn h
end Go.Ev.Tryz
