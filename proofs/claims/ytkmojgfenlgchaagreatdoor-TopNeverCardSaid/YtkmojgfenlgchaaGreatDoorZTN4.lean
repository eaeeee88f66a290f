/- What the proof leans on. Conditions: none. -/
import Derived.Test.YtkmojgfenlgchaaGreatDoorZTN3
set_option linter.all false
set_option linter.unusedSimpArgs false
set_option linter.unusedVariables false
set_option linter.unusedSectionVars false
namespace Go.Proofs.YtkmojgfenlgchaaGreatDoor.Tr
open Go Go.RowKit
set_option maxRecDepth 100000
set_option synthInstance.maxHeartbeats 400000
set_option synthInstance.maxSize 4096
def ZeG (c0:Chip):Option Bool:=
 (ZeJ c0).bind fun x_2=>some (((x_2&&(decide ((c0.Blocks.length:Int)≥(4:Int))))&&(decide (c0.Pages≥(2:Int))))&&(decide (c0.Size≥(24:Int))))
instance flash_bears_c:Fd1 64 ZeG fun r=>D r:=en1 Tryz.func64 rfl Tryz.ntmps64 fun _ _ _ _ _ H=>by
 unfold ZeG at H;exact zY H
def Zcq (s0:(List (List UInt8))) (n0:Int):Option (List (List UInt8)):=
 bif (decide (n0<(0:Int))) then (none) else (((Zgs (0:Int) (0:Int)).bind fun x_4=>(Zgs n0 x_4).bind fun x_5=>bif (decide (x_5>(0:Int))) then ((Zdv 24 x_5).bind fun u_6=>(posI x_5).bind fun u_7=>(cut (List.replicate (Int.toNat x_5) (Dat.z:(List UInt8))).length 0 (0:Int)).bind fun u_9=>(some (((List.replicate (Int.toNat x_5) (Dat.z:(List UInt8))).take (Int.toNat (0:Int))):(List (List UInt8)))).bind fun l_10=>some l_10) else (some [])).bind fun s_2=>some s_2)
theorem Zjw {s0:(List (List UInt8))} {n0:Int} {r:(List (List UInt8))} (H:Zcq s0 n0=some r):CO2 168 [] (NilS) (D n0) (fun g:Nat×Prop×Nat=>Sl g.1 g.2.1 0 (List.length r) g.2.2) fun g=>[⟨g.1,g.2.1,Row (r:List (List UInt8)) g.2.2⟩]:=eO2 Tryz.func168 rfl Tryz.ntmps168 fun A w hA hO=>by
 unfold Zcq at H;refine zg ?_;refine zc H (fun hc H=>?_) fun hc H=>?_
 ·cases H
 ·refine Zaw<|Zan<|Zau ?_;refine zh H fun o_3 H3 H=>?_
  refine Zn (fun s:(List (List UInt8))=>o_3=s) (fun (s_2:(List (List UInt8))) (⟨b_0,p_0,c_0⟩:Nat×Prop×Nat)=>(Env.set Env.nil 0 (Sl b_0 p_0 0 s_2.length c_0))) (fun (s_2:(List (List UInt8))) (⟨b_0,p_0,c_0⟩:Nat×Prop×Nat)=>[⟨b_0,p_0,(Row (s_2:List (List UInt8)) c_0)⟩]) ?_ ?_
  ·skip;refine zg ?_;refine zX (Za1 Zi5 rfl) ?_;refine TSx Zi6 ?_;refine zb H3 fun _ _ H3=>?_
   refine zb H3 fun x_5 _ H3=>?_
   refine zc H3 (fun hc H3=>?_) fun hc H3=>?_
   ·refine zg ?_;refine TSx Zi5 ?_;refine zX (Za1 (Zlx (α:=(List UInt8))) rfl) ?_;refine zn H3 fun _ eu_6 H3=>?_
    refine zn H3 fun _ eu_7 H3=>?_
    refine TS.appMake (α:=(List UInt8)) eu_6.h eu_7.h rfl fun b22_7 c22_7=>zg ?_
    refine TSx Zi6 ?_;refine zn H3 fun _ eu_9 H3=>?_
    refine TSx (Zeg (Zd4 eu_9.h rfl).2.1 (Zd4 eu_9.h rfl).2.2) ?_;refine zE ?_;refine TE.trim b22_7 (Int.toNat (0:Int)) (Zk5 eu_9.h)<|ZcF 0 _ (ZC (List.length_take_of_le (l:=(List.replicate (Int.toNat x_5) (Dat.z:(List UInt8)))) (Zk5 eu_9.h)).symm) ?_;refine zn H3 fun l_10 el_10 H3=>?_
    exact Zaf b22_7 (Zac el_10.h)<|ZcF 0 _ (ZaP el_10.h rfl)<|Zj l_10 ⟨b22_7,True,c22_7⟩ (ZZs H3) (Zk (ZC rfl) (Zd _)) (Zc rfl (Ze _))
   ·refine zg ?_;exact Zj [] ⟨0,False,0⟩ (ZZs H3) (Zk ZcV (Zd _)) (Zbq (Ze _))
  rintro s_2 ⟨b_0,p_0,c_0⟩ hp;replace hp:=hp.symm;subst hp;refine zg ?_;obtain rfl:=ZZi H;exact ZA rfl ⟨b_0,p_0,c_0⟩ (ZC rfl) (Zc rfl (Ze _))
def Zae (slices0:(List (List (List UInt8)))) (size_3:Int) (x_4:Int):Option ((Int×Int)⊕Int):=
 bif (decide (x_4<(slices0.length:Int))) then ((idx slices0 x_4).bind fun x_6=>(Zas size_3 (x_6.length:Int)).bind fun x_7=>bif (decide (x_7<(0:Int))) then (none) else ((Zas x_4 1).bind fun x_8=>some (.inl (x_7,x_8)))) else (some (.inr size_3))
def Zad (slices0:(List (List (List UInt8)))) (x_14:Int) (newslice_16:(List (List UInt8))):Option ((Int×(List (List UInt8)))⊕(List (List UInt8))):=
 bif (decide (x_14<(slices0.length:Int))) then ((idx slices0 x_14).bind fun x_18=>(Zdv 24 ((newslice_16.length+x_18.length:Nat):Int)).bind fun u_20=>(some ((newslice_16++x_18):(List (List UInt8)))).bind fun l_21=>(Zas x_14 1).bind fun x_22=>some (.inl (x_22,l_21))) else (some (.inr newslice_16))
def ZbG (slices0:(List (List (List UInt8)))):Option (List (List UInt8)):=
 (ZM (fun s=>Zae slices0 s.1 s.2) ((0:Int),(0:Int))).bind fun size_1=>(Zcq [] size_1).bind fun x_9=>(ZM (fun s=>Zad slices0 s.1 s.2) ((0:Int),x_9)).bind fun newslice_12=>some newslice_12
instance slices_Concat_Lbyte_c:Fd1 145 ZbG fun r=>D r:=en1 Tryz.func145 rfl Tryz.ntmps145 fun A w hA slices0 r H=>by
 unfold ZbG at H;refine zC ?_;refine zC ?_;refine zC ?_;refine zh H fun o_2 H2 H=>?_
 refine Zn (fun s:Int=>o_2=s) (fun (size_1:Int) (_:Unit)=>(Env.set (Env.set Env.nil 0 (D slices0)) 3 (D size_1))) (fun (size_1:Int) (_:Unit)=>[]) ?_ ?_
 ·skip;refine Zp<|Zu H2 (fun ⟨size_3,x_4⟩ (_:Unit)=>(Env.set (Env.set (Env.set (Env.set (Env.set Env.nil 0 (D slices0)) 3 (D size_3)) 9 (D slices0)) 10 (D ((slices0.length:Int):Int))) 11 (D x_4))) (fun ⟨size_3,x_4⟩ (_:Unit)=>[]) () (Za (Za (Za (Za (Za (Zd _)))))) (Ze _) ?_;rintro ⟨size_3,x_4⟩ ⟨⟩ x_5 H5 he5;dsimp only at H5;unfold Zae at H5;refine zg ?_;refine zc H5 (fun hc H5=>?_) fun hc H5=>?_
  ·refine zg ?_;refine zb H5 fun _ _ H5=>?_
   refine zb H5 fun x_7 _ H5=>?_
   refine zc H5 (fun hc H5=>?_) fun hc H5=>?_
   ·cases H5
   ·refine zg ?_;refine zb H5 fun x_8 _ H5=>?_
    exact Zq ⟨x_7,x_8⟩ () (ZZs H5) (Za (Za (Za (Za (Za (Zd _)))))) (Ze _)
  ·refine zg ?_;exact Zj size_3 () (he5 _ (ZZs H5)).symm (Za (Za (Zd _))) (Ze _)
 rintro size_1 ⟨⟩ hp;replace hp:=hp.symm;subst hp;refine zg ?_;refine zn H fun _ ex_9 H=>?_
 refine Zdw (oc2 [] (Zjw ex_9.h) id toD) rfl fun ⟨b24_9,p24_9,c24_9⟩=>?_
 dsimp only [List.cons_append,List.nil_append];refine zC ?_;refine zC ?_;refine zh H fun o_13 H13 H=>?_
 refine Zn (fun s:(List (List UInt8))=>o_13=s) (fun (newslice_12:(List (List UInt8))) (⟨b_10,p_10,c_10⟩:Nat×Prop×Nat)=>(Env.set Env.nil 6 (Sl b_10 p_10 0 newslice_12.length c_10))) (fun (newslice_12:(List (List UInt8))) (⟨b_10,p_10,c_10⟩:Nat×Prop×Nat)=>[⟨b_10,p_10,(Row (newslice_12:List (List UInt8)) c_10)⟩]) ?_ ?_
 ·skip;refine Zp<|Zu H13 (fun ⟨x_14,newslice_16⟩ (⟨b_14,p_14,c_14⟩:Nat×Prop×Nat)=>(Env.set (Env.set (Env.set (Env.set Env.nil 6 (Sl b_14 p_14 0 newslice_16.length c_14)) 25 (D slices0)) 26 (D ((slices0.length:Int):Int))) 27 (D x_14))) (fun ⟨x_14,newslice_16⟩ (⟨b_14,p_14,c_14⟩:Nat×Prop×Nat)=>[⟨b_14,p_14,(Row (newslice_16:List (List UInt8)) c_14)⟩]) ⟨b24_9,p24_9,c24_9⟩ (Za (Za (Za (Zk (ZC rfl) (Zd _))))) (Zc rfl (Ze _)) ?_;rintro ⟨x_14,newslice_16⟩ ⟨b_14,p_14,c_14⟩ x_17 H17 he17;dsimp only at H17;unfold Zad at H17;refine zg ?_;refine zc H17 (fun hc H17=>?_) fun hc H17=>?_
  ·refine zg ?_;refine zb H17 fun x_18 _ H17=>?_
   refine zn H17 fun _ eu_20 H17=>?_
   refine TS.app (ys:=x_18) inferInstance eu_20.h rfl rfl rfl fun b33_18 p33_18 c33_18=>?_
   refine zE ?_;refine zn H17 fun l_21 el_21 H17=>?_
   refine Zaf b33_18 (Zac el_21.h) ?_;refine zX (ZcF 6 _ (ZaP el_21.h rfl)) ?_;refine zb H17 fun x_22 _ H17=>?_
   exact Zq ⟨x_22,l_21⟩ ⟨b33_18,p33_18,c33_18⟩ (ZZs H17) (Za (Za (Za (Zk (ZC rfl) (Zd _))))) (Zc rfl (Ze _))
  ·refine zg ?_;exact Zj newslice_16 ⟨b_14,p_14,c_14⟩ (he17 _ (ZZs H17)).symm (Zk (ZC rfl) (Zd _)) (Zc rfl (Ze _))
 rintro newslice_12 ⟨b_10,p_10,c_10⟩ hp;replace hp:=hp.symm;subst hp;refine zC ?_;refine ZL<|TE.pub b_10 (PubE.set 2 (ZG PlS.all rfl) PubE.refl) ?_;exact zY H
def ZeE (c0:Chip) (id0:Int) (n0:Int):Option Bool:=
 (Zgs n0 1).bind fun x_2=>(ZjS x_2 c0.Pages).bind fun x_3=>(Zgs n0 1).bind fun x_4=>(remI x_4 c0.Pages).bind fun x_5=>(gb (!((decide (x_3<(2:Int)))||(decide (x_3≥(c0.Blocks.length:Int))))) (idx c0.Blocks x_3)).bind fun x_6=>bif (((decide (x_3<(2:Int)))||(decide (x_3≥(c0.Blocks.length:Int))))||(decide (x_5≥x_6.Used))) then (some false) else ((idx c0.Blocks x_3).bind fun x_7=>(idx x_7.Pages x_5).bind fun x_8=>(ZdA x_8).bind fun r_9=>some (((decide (r_9.2=(0:Int)))&&(decide (r_9.1.Kind=(1:Int))))&&(decide (r_9.1.Id=id0))))
instance flash_names_c:Fd3 169 ZeE fun r=>D r:=en3 Tryz.func169 rfl Tryz.ntmps169 fun _ _ _ _ _ _ _ H=>by
 unfold ZeE at H;exact zY H
def Zf7 (c0:Chip) (at0:(List Int)) (x_6:Int) (m_7:(List Int)):Option ((Int×(List Int))⊕((List Int)⊕Bool)):=
 bif (decide (x_6<(at0.length:Int))) then (((idx at0 x_6).bind fun x_13=>bif (decide (x_13=(0:Int))) then (some (.inl m_7)) else ((gb (!(decide (x_13∈m_7))) (ZeE c0 x_6 x_13)).bind fun x_15=>bif ((decide (x_13∈m_7))||(!x_15)) then (some (.inr false)) else ((some ((putM m_7 x_13):List Int)).bind fun m_19=>some (.inl m_19)))).bind fun o_12=>elS o_12 (fun m_10=>(Zas x_6 1).bind fun x_20=>some (.inl (x_20,m_10))) (fun q=>some (.inr (.inr q)))) else (some (.inr (.inl m_7)))
def Ze3 (c0:Chip) (at0:(List Int)):Option Bool:=
 (ZM (fun s=>Zf7 c0 at0 s.1 s.2) ((0:Int),([]:List Int))).bind fun o_5=>elS o_5 (fun m_3=>some true) (fun q=>some q)
instance flash_placed_c:Fd2 146 Ze3 fun r=>D r:=en2 Tryz.func146 rfl Tryz.ntmps146 fun A w hA c0 at0 r H=>by
 unfold Ze3 at H;refine zg ?_;refine TS.box rfl fun b2_0=>zg ?_
 refine TS.makeMapN rfl fun N_1 r_1 hr_1=>?_
 haveI:=hr_1.op
 refine zE ?_;refine Zec hr_1.rh ?_;refine zC ?_;refine zh H fun o_5 H5 H=>?_
 refine Zlb hr_1 (fun s:(List Int)=>o_5=.inl s) (fun (m_3:(List Int))=>m_3) (fun (m_3:(List Int)) (_:Unit)=>Env.nil) (fun (m_3:(List Int)) (_:Unit)=>[]) ?_ ?_
 ·skip;refine Zp<|Zl4 H5 hr_1 (fun ⟨x_6,m_7⟩=>m_7) (fun ⟨x_6,m_7⟩ (_:Unit)=>(Env.set (Env.set (Env.set (Env.set (Env.set Env.nil 2 (Pt b2_0 0)) 5 (MapT N_1)) 13 (D at0)) 14 (D ((at0.length:Int):Int))) 15 (D x_6))) (fun ⟨x_6,m_7⟩ (_:Unit)=>[⟨b2_0,True,(One c0)⟩]) () rfl (Za (Za (Za (Za (Za (Zd _)))))) (Zc rfl (Ze _)) ?_;rintro ⟨x_6,m_7⟩ ⟨⟩ x_9 H9 he9 r_7 hr_7
  haveI:=hr_7.op
  try dsimp only at H9
  unfold Zf7 at H9;refine zg ?_;refine zc H9 (fun hc H9=>?_) fun hc H9=>?_
  ·refine Zaw<|Zan<|Zau ?_;refine zh H9 fun o_12 H12 H9=>?_
   refine Zlb hr_7 (fun s:(List Int)=>o_12=.inl s) (fun (m_10:(List Int))=>m_10) (fun (m_10:(List Int)) (_:Unit)=>(Env.set (Env.set (Env.set (Env.set (Env.set Env.nil 2 (Pt b2_0 0)) 5 (MapT N_1)) 13 (D at0)) 14 (D ((at0.length:Int):Int))) 15 (D x_6))) (fun (m_10:(List Int)) (_:Unit)=>[⟨b2_0,True,(One c0)⟩]) ?_ ?_
   ·skip;refine zg ?_;refine zb H12 fun _ _ H12=>?_
    refine zc H12 (fun hc H12=>?_) fun hc H12=>?_
    ·refine zg ?_;exact ZiC hr_7 m_7 () (ZZs H12) rfl (Za (Za (Za (Za (Za (Zd _)))))) (Zc rfl (Ze _))
    ·refine zg ?_;refine zX (Ziz hr_7 rfl) ?_;refine TSx Zlh ?_;refine zX (TS.sn Zle) ?_;refine zd H12 fun _ _ H12=>?_
     refine zc H12 (fun hc H12=>?_) fun hc H12=>?_
     ·refine zC ?_;refine ZL<|Zg<|Zf<|ZhV ?_;have R15:=ZaM (ZZi H12) H9;refine Zg<|Zg<|Zf<|ZhV ?_;have R16:=ZaM (he9 _ (ZZs R15)) H;refine Zg<|ZfM hr_7 ?_;obtain rfl:=ZZi R16;exact ZaV rfl Cv.le
     ·refine zg ?_;refine TSx Zlg ?_;refine TS.mapUpdate hr_7 fun r_17 hr_17=>?_
      haveI:=hr_17.op
      refine zE ?_;refine zn H12 fun m_19 em_19 H12=>?_
      replace hr_17:=(ZZi em_19.h)▸hr_17;refine zg ?_;exact ZiC hr_17 m_19 () (ZZs H12) rfl (Za (Za (Za (Za (Za (Zd _)))))) (Zc rfl (Ze _))
   rintro m_10 ⟨⟩ hp r_10 hr_10
   haveI:=hr_10.op
   replace H9:=ZbD hp H9;refine zX (Zec (hr_10.rh.trans hr_7.rh.symm)) ?_;refine zb H9 fun x_20 _ H9=>?_
   exact Zl3 hr_10 ⟨x_20,m_10⟩ () (ZZs H9) rfl (Za (Za (Za (Za (Za (Zd _)))))) (Zc rfl (Ze _))
  ·refine zg ?_;exact ZiC hr_7 m_7 () (he9 _ (ZZs H9)).symm rfl (Zd _) (Ze _)
 rintro m_3 ⟨⟩ hp r_3 hr_3
 haveI:=hr_3.op
 replace H:=ZbD hp H;refine Zec (hr_3.rh.trans hr_1.rh.symm) ?_;refine zC ?_;refine ZL<|ZfM hr_3 ?_;exact zY H
def ZeF (c0:Chip):Option (Vol×Int):=
 (ZeG c0).bind fun x_3=>bif (!x_3) then ((some ((⟨Dat.z,[],0,0⟩:Vol):Vol)).bind fun k_4=>some (k_4,(1:Int))) else (bif c0.Off then ((some ((⟨Dat.z,[],0,0⟩:Vol):Vol)).bind fun k_5=>some (k_5,(7:Int))) else ((idx c0.Blocks 0).bind fun x_6=>(idx c0.Blocks 1).bind fun x_7=>(ZbG ([x_6.Pages,x_7.Pages]:List (List (List UInt8)))).bind fun x_8=>(Zez x_8).bind fun r_9=>bif (decide (r_9.2.2≠(0:Int))) then ((some ((⟨Dat.z,[],0,0⟩:Vol):Vol)).bind fun k_11=>some (k_11,r_9.2.2)) else ((ZjS r_9.1 c0.Pages).bind fun x_12=>(remI r_9.1 c0.Pages).bind fun x_13=>(idx c0.Blocks x_12).bind fun x_14=>(gb (!(decide (x_13≥x_14.Used))) (Ze3 c0 r_9.2.1.At)).bind fun x_15=>bif ((decide (x_13≥x_14.Used))||(!x_15)) then ((some ((⟨Dat.z,[],0,0⟩:Vol):Vol)).bind fun k_16=>some (k_16,(2:Int))) else ((some ((⟨c0,r_9.2.1.At,r_9.2.1.Gen,x_12⟩:Vol):Vol)).bind fun k_17=>some (k_17,(0:Int))))))
instance flash_found_c:Fd1 119 ZeF fun r=>Tup [D r.1,D r.2]:=en1 Tryz.func119 rfl Tryz.ntmps119 fun A w hA c0 r H=>by
 unfold ZeF at H;refine zg ?_;refine TS.box rfl fun b1_0=>?_
 refine TS.alloc rfl fun b2_1=>zg ?_
 refine zb H fun _ _ H=>?_
 refine zc H (fun hc H=>?_) fun hc H=>?_
 ·refine zg ?_;refine TSx (tB (⟨Dat.z,[],0,0⟩:Vol) rfl rfl) ?_;exact zY H
 ·refine zg ?_;refine zc H (fun hc H=>?_) fun hc H=>?_
  ·refine zg ?_;refine TSx (tB (⟨Dat.z,[],0,0⟩:Vol) rfl rfl) ?_;exact zY H
  ·refine Zaw<|Zan ?_;refine zX (ZaW [17,19] [] mix (by kernel_rfl) (by kernel_rfl)) ?_;refine zb H fun _ _ H=>?_
   refine zb H fun _ _ H=>?_
   refine TRx (OpY.buildSlice [.tmp 20,.tmp 25] rfl rfl (by decide)) ?_;refine zb H fun _ _ H=>?_
   refine zb H fun r_9 _ H=>?_
   refine zX (Zfi (fun g=>ZcD (α:=Roots)) rfl) ?_;refine Zdg (fun g=>(Zw (y:=(r_9.2.1:Roots)) Zx)) rfl ?_;refine zC ?_;rintro ⟨⟨_,⟨b5_9,_⟩⟩,_⟩;dsimp only [Fam.nextS,Fam.nextN,Fam.one,List.cons_append,List.nil_append];refine zg ?_;refine zc H (fun hc H=>?_) fun hc H=>?_
   ·refine zg ?_;refine TSx (tB (⟨Dat.z,[],0,0⟩:Vol) rfl rfl) ?_;exact zY H
   ·refine zg ?_;refine zb H fun x_12 _ H=>?_
    refine zb H fun _ _ H=>?_
    refine zb H fun _ _ H=>?_
    refine zd H fun _ _ H=>?_
    refine zc H (fun hc H=>?_) fun hc H=>?_
    ·refine zg ?_;refine TSx (tB (⟨Dat.z,[],0,0⟩:Vol) rfl rfl) ?_;exact zY H
    ·refine zg ?_;refine TSx (tB (⟨c0,r_9.2.1.At,r_9.2.1.Gen,x_12⟩:Vol) rfl rfl) ?_;exact zY H
def Ze4 (c0:Chip):Option Chip:=
 (Ziv c0 c0.Faults).bind fun r_3=>(some ((⟨r_3.1.Pages,r_3.1.Size,r_3.1.Blocks,r_3.1.Ops,c0.Off,r_3.1.Faults⟩:Chip):Chip)).bind fun d_5=>some d_5
instance flash_own_c:Fd1 66 Ze4 fun r=>D r:=en1 Tryz.func66 rfl Tryz.ntmps66 fun _ _ _ _ _ H=>by
 unfold Ze4 at H;exact zY H
def ZaL (s0:(List Int)):Option (List Int):=
 (Zdv 8 ((0+s0.length:Nat):Int)).bind fun _=>some s0
theorem ZdX {s0:(List Int)} {r:(List Int)} (H:ZaL s0=some r):CO1 99 [] (D s0) (fun g:Nat×Prop×Nat=>Sl g.1 g.2.1 0 (List.length r) g.2.2) fun g=>[⟨g.1,g.2.1,Row (r:List Int) g.2.2⟩]:=eO1 Tryz.func99 rfl Tryz.ntmps99 fun A w hA hO=>by
 unfold ZaL at H;refine zn H fun _ eu H=>?_
 obtain rfl:=ZZi H;refine zg ?_;refine TSx Zby ?_;refine zC ?_;refine ZfA (fun hc=>?_) (fun hc=>?_)
 ·obtain rfl:=hc rfl;refine zg ?_;exact ZA rfl ⟨0,False,0⟩ ZcV (Zbq (Ze _))
 ·refine zg ?_;refine TS.build [] rfl rfl (by decide) rfl fun b=>zg ?_
  refine TS.app (ys:=s0) inferInstance eu.h rfl rfl rfl fun b1 p1 c1=>zg ?_
  exact ZA rfl ⟨b1,p1,c1⟩ (ZC (by simp)) (Zc rfl (Ze _))
instance slices_Clone_int_c:Fd1 99 ZaL fun r=>D r:=⟨fun w v0 hA h0 H=>(on1 (ZdX H) w v0 hA h0).mono fun e w' h=>Zhn hA h⟩
def ZcI (v0x:Vol):Option Vol:=
 (Ze4 v0x.Chip).bind fun x_3=>(ZaL v0x.At).bind fun x_4=>(some ((⟨(⟨x_3,v0x.At,v0x.Gen,v0x.Last⟩:Vol).Chip,x_4,(⟨x_3,v0x.At,v0x.Gen,v0x.Last⟩:Vol).Gen,(⟨x_3,v0x.At,v0x.Gen,v0x.Last⟩:Vol).Last⟩:Vol):Vol)).bind fun v_5=>some v_5
instance flash_apart_c:Fd1 70 ZcI fun r=>D r:=en1 Tryz.func70 rfl Tryz.ntmps70 fun A w hA v0x r H=>by
 unfold ZcI at H;refine zg ?_;refine TS.box rfl fun b1_0=>?_
 refine TS.alloc rfl fun b2_1=>?_
 refine zC ?_;refine TC.seqPh 7 [] [7,9] [] mix (by kernel_rfl) (by kernel_rfl) rfl (by kernel_rfl) (by kernel_rfl) (by kernel_rfl)<|TRx ZaX<|TRx (ZaE (PF 0 Vol Chip Zx)) ?_;obtain ⟨x_3,ex_3,H⟩:=bnd H;refine TRx (Zho fun w v0 hA h0=>flash_own_c.h w v0 hA (toD h0) ex_3)<|TRx ZaX<|TRx (ZaE (PF 6 Vol (List Int) Zx)) ?_;obtain ⟨x_4,ex_4,H⟩:=bnd H;refine TRx (Zho fun w v0 hA h0=>slices_Clone_int_c.h w v0 hA (toD h0) ex_4)<|TRx ZaX<|TR.nil ?_;rintro _;dsimp only [Fam.nextS,Fam.nextN,Fam.one,List.cons_append,List.nil_append];refine PH.next [b1_0]<|Zdg (fun g=>(Zw (y:=(x_3:Chip)) (PF 0 Vol Chip Zx))) rfl<|TRx ZaX<|Zdg (fun g=>(Zw (y:=(x_4:(List Int))) (PF 6 Vol (List Int) Zx))) rfl<|TR.nil ?_;rintro ⟨⟨_,_⟩,_⟩;dsimp only [Fam.nextS,Fam.nextN,Fam.one,List.cons_append,List.nil_append];exact zY H
def Zga (c0:Chip):Option (Vol×Int):=
 (ZeF c0).bind fun r_3=>bif (decide (r_3.2≠(0:Int))) then ((some ((⟨Dat.z,[],0,0⟩:Vol):Vol)).bind fun k_5=>some (k_5,r_3.2)) else ((ZcI r_3.1).bind fun x_6=>some (x_6,(0:Int)))
instance flash_Mount_c:Fd1 104 Zga fun r=>Tup [D r.1,D r.2]:=en1 Tryz.func104 rfl Tryz.ntmps104 fun A w hA c0 r H=>by
 unfold Zga at H;refine zg ?_;refine TS.box rfl fun b1_0=>?_
 refine TS.alloc rfl fun b2_1=>zg ?_
 refine zb H fun _ _ H=>?_
 refine TS.alloc rfl fun b4_3=>zg ?_
 refine zc H (fun hc H=>?_) fun hc H=>?_
 ·refine zg ?_;refine TSx (tB (⟨Dat.z,[],0,0⟩:Vol) rfl rfl) ?_;exact zY H
 ·exact zY H
def Zba (s10:(List Int)) (s20:(List Int)) (x_2:Int):Option (Int⊕(Unit⊕Bool)):=
 bif (decide (x_2<(s10.length:Int))) then ((idx s10 x_2).bind fun x_4=>(idx s20 x_2).bind fun x_5=>bif (decide (x_4≠x_5)) then (some (.inr (.inr false))) else ((Zas x_2 1).bind fun x_7=>some (.inl x_7))) else (some (.inr (.inl ())))
def ZbQ (s10:(List Int)) (s20:(List Int)):Option Bool:=
 bif (decide ((s10.length:Int)≠(s20.length:Int))) then (some false) else ((ZM (fun s=>Zba s10 s20 s) (0:Int)).bind fun o_1=>elS o_1 (fun _=>some true) (fun q=>some q))
instance slices_Equal_int_c:Fd2 97 ZbQ fun r=>D r:=en2 Tryz.func97 rfl Tryz.ntmps97 fun A w hA s10 s20 r H=>by
 unfold ZbQ at H;refine zg ?_;refine zc H (fun hc H=>?_) fun hc H=>?_
 ·exact zY H
 ·refine zC ?_;refine zh H fun o_1 H1 H=>?_
  refine Zn (fun s:Unit=>o_1=.inl s) (fun (_:Unit) (_:Unit)=>Env.nil) (fun (_:Unit) (_:Unit)=>[]) ?_ ?_
  ·skip;refine Zp<|Zu H1 (fun (x_2:Int) (_:Unit)=>(Env.set (Env.set (Env.set (Env.set Env.nil 0 (D s10)) 1 (D s20)) 12 (D ((s10.length:Int):Int))) 13 (D x_2))) (fun (x_2:Int) (_:Unit)=>[]) () (Za (Za (Za (Za (Zd _))))) (Ze _) ?_;rintro x_2 ⟨⟩ x_3 H3 he3;unfold Zba at H3;refine zg ?_;refine zc H3 (fun hc H3=>?_) fun hc H3=>?_
   ·refine zg ?_;refine zb H3 fun _ _ H3=>?_
    refine zb H3 fun _ _ H3=>?_
    refine zc H3 (fun hc H3=>?_) fun hc H3=>?_
    ·refine zC ?_;refine ZL<|Zf<|Zg<|Zg<|Zf<|Zs ?_;have R5:=ZaM (he3 _ (ZZs H3)) H;refine zg ?_;obtain rfl:=ZZi R5;exact ZaV rfl Cv.le
    ·refine zg ?_;refine zb H3 fun x_7 _ H3=>?_
     exact Zq x_7 () (ZZs H3) (Za (Za (Za (Za (Zd _))))) (Ze _)
   ·refine zg ?_;exact Zj () () (he3 _ (ZZs H3)).symm (Zd _) (Ze _)
  rintro ⟨⟩ ⟨⟩ hp;replace H:=ZbD hp H;exact zY H
def ZeH (v0x:Vol):Option Bool:=
 (some ((⟨v0x.Chip.Pages,v0x.Chip.Size,v0x.Chip.Blocks,v0x.Chip.Ops,false,v0x.Chip.Faults⟩:Chip):Chip)).bind fun cx_3=>(ZeF cx_3).bind fun r_4=>(gb (((decide (r_4.2=(0:Int)))&&(decide (r_4.1.Gen=v0x.Gen)))&&(decide (r_4.1.Last=v0x.Last))) (ZbQ r_4.1.At v0x.At)).bind fun x_6=>some ((((decide (r_4.2=(0:Int)))&&(decide (r_4.1.Gen=v0x.Gen)))&&(decide (r_4.1.Last=v0x.Last)))&&x_6)
instance flash_Right_c:Fd1 68 ZeH fun r=>D r:=en1 Tryz.func68 rfl Tryz.ntmps68 fun A w hA v0x r H=>by
 unfold ZeH at H;refine zg ?_;refine TS.box rfl fun b1_0=>zg ?_
 refine TS.alloc rfl fun b3_1=>?_
 refine zC ?_;refine zC ?_;refine zn H fun _ ecx_3 H=>?_
 refine zX (ZB b3_1 (Zah ecx_3.h)) ?_;refine zb H fun _ _ H=>?_
 refine TS.alloc rfl fun b4_4=>zg ?_
 refine Zk9 16 rfl (fun hg=>ZmR) rfl ?_;exact zY H
def ZfH (v0x:Vol) (id0:Int):Option (List UInt8):=
 (idx v0x.At id0).bind fun x_2=>(Zgs x_2 1).bind fun x_3=>(ZjS x_3 v0x.Chip.Pages).bind fun x_4=>(idx v0x.Chip.Blocks x_4).bind fun x_5=>(remI x_3 v0x.Chip.Pages).bind fun x_6=>(idx x_5.Pages x_6).bind fun x_7=>(ZdA x_7).bind fun r_8=>bif (decide (r_8.2≠(0:Int))) then (some ([]:List UInt8)) else (some r_8.1.Body)
instance flash_body_c:Fd2 76 ZfH fun r=>D r:=en2 Tryz.func76 rfl Tryz.ntmps76 fun A w hA v0x id0 r H=>by
 unfold ZfH at H;refine zg ?_;refine TS.box rfl fun b2_0=>zg ?_
 refine zb H fun _ _ H=>?_
 refine zo H fun _ _ H=>?_
 refine zC ?_;refine zX (ZaW [22,23] [] mix (by kernel_rfl) (by kernel_rfl)) ?_;refine zb H fun _ _ H=>?_
 refine zb H fun _ _ H=>?_
 refine zb H fun _ _ H=>?_
 refine zb H fun _ _ H=>?_
 refine zb H fun r_8 _ H=>?_
 refine Zfi (fun g=>ZcD (α:=Page)) rfl<|Zdg (fun g=>(Zw (y:=(r_8.1:Page)) Zx)) rfl ?_;refine zC ?_;rintro ⟨⟨_,⟨b6_8,_⟩⟩,_⟩;dsimp only [Fam.nextS,Fam.nextN,Fam.one,List.cons_append,List.nil_append];exact zY H
def Zgb (blocks0:Int) (pages0:Int):Option Int:=
 bif ((((decide (blocks0<(4:Int)))||(decide (blocks0>(32:Int))))||(decide (pages0<(1:Int))))||(decide (pages0>(16:Int)))) then (some (0:Int)) else ((Zgs blocks0 4).bind fun x_1=>(mulI x_1 pages0).bind fun x_2=>some x_2)
instance flash_Limit_c:Fd2 22 Zgb fun r=>D r:=en2 Tryz.func22 rfl Tryz.ntmps22 fun _ _ _ _ _ _ H=>by
 unfold Zgb at H;exact zY H
def Zfc (v0x:Vol) (l0:(List Item)) (x_6:Int) (m_7:(List Int)):Option ((Int×(List Int))⊕((List Int)⊕Bool)):=
 bif (decide (x_6<(l0.length:Int))) then ((idx l0 x_6).bind fun x_10=>(gb (!((decide (x_10.Id<(0:Int)))||(decide (x_10.Id≥(v0x.At.length:Int))))) (Zc0 v0x.Chip.Size)).bind fun x_12=>bif (((decide (x_10.Id<(0:Int)))||(decide (x_10.Id≥(v0x.At.length:Int))))||(decide ((x_10.Body.length:Int)>x_12))) then (some (.inr (.inr false))) else (bif (decide (x_10.Id∈m_7)) then (some (.inr (.inr false))) else ((some ((putM m_7 x_10.Id):List Int)).bind fun m_17=>(Zas x_6 1).bind fun x_18=>some (.inl (x_18,m_17))))) else (some (.inr (.inl m_7)))
def Zdn (v0x:Vol) (l0:(List Item)):Option Bool:=
 (ZM (fun s=>Zfc v0x l0 s.1 s.2) ((0:Int),([]:List Int))).bind fun o_5=>elS o_5 (fun m_3=>some true) (fun q=>some q)
instance flash_fitting_c:Fd2 69 Zdn fun r=>D r:=en2 Tryz.func69 rfl Tryz.ntmps69 fun A w hA v0x l0 r H=>by
 unfold Zdn at H;refine zg ?_;refine TS.box rfl fun b2_0=>zg ?_
 refine TS.makeMap rfl fun N_1 r_1 hr_1=>?_
 haveI:=hr_1.op
 refine zE ?_;refine Zec hr_1.rh ?_;refine zC ?_;refine zh H fun o_5 H5 H=>?_
 refine Zlb hr_1 (fun s:(List Int)=>o_5=.inl s) (fun (m_3:(List Int))=>m_3) (fun (m_3:(List Int)) (_:Unit)=>Env.nil) (fun (m_3:(List Int)) (_:Unit)=>[]) ?_ ?_
 ·skip;refine Zp<|Zl4 H5 hr_1 (fun ⟨x_6,m_7⟩=>m_7) (fun ⟨x_6,m_7⟩ (_:Unit)=>(Env.set (Env.set (Env.set (Env.set (Env.set Env.nil 2 (Pt b2_0 0)) 5 (MapT N_1)) 11 (D l0)) 12 (D ((l0.length:Int):Int))) 13 (D x_6))) (fun ⟨x_6,m_7⟩ (_:Unit)=>[⟨b2_0,True,(One v0x)⟩]) () rfl (Za (Za (Za (Za (Za (Zd _)))))) (Zc rfl (Ze _)) ?_;rintro ⟨x_6,m_7⟩ ⟨⟩ x_9 H9 he9 r_7 hr_7
  haveI:=hr_7.op
  try dsimp only at H9
  unfold Zfc at H9;refine zg ?_;refine zc H9 (fun hc H9=>?_) fun hc H9=>?_
  ·refine zg ?_;refine zb H9 fun _ _ H9=>?_
   refine TS.alloc rfl fun b7_10=>zg ?_
   refine zd H9 fun _ _ H9=>?_
   refine zc H9 (fun hc H9=>?_) fun hc H9=>?_
   ·refine zC ?_;refine ZL<|Zg<|Zf<|Zg<|Zg<|Zf<|ZhV ?_;have R12:=ZaM (he9 _ (ZZs H9)) H;refine Zg<|ZfM hr_7 ?_;obtain rfl:=ZZi R12;exact ZaV rfl Cv.le
   ·refine zg ?_;refine zX (Ziz hr_7 rfl) ?_;refine TSx Zlh ?_;refine zX (TS.sn Zle) ?_;refine zc H9 (fun hc H9=>?_) fun hc H9=>?_
    ·refine zC ?_;refine ZL<|Zg<|Zf<|Zg<|Zg<|Zf<|ZhV ?_;have R14:=ZaM (he9 _ (ZZs H9)) H;refine Zg<|ZfM hr_7 ?_;obtain rfl:=ZZi R14;exact ZaV rfl Cv.le
    ·refine zg ?_;refine TSx Zlg ?_;refine TS.mapUpdate hr_7 fun r_15 hr_15=>?_
     haveI:=hr_15.op
     refine zE ?_;refine zn H9 fun m_17 em_17 H9=>?_
     replace hr_15:=(ZZi em_17.h)▸hr_15;refine ZeM ?_;refine zX (Zec (hr_15.rh.trans hr_7.rh.symm)) ?_;refine zb H9 fun x_18 _ H9=>?_
     exact Zl3 hr_15 ⟨x_18,m_17⟩ () (ZZs H9) rfl (Za (Za (Za (Za (Za (Zd _)))))) (Zc rfl (Ze _))
  ·refine zg ?_;exact ZiC hr_7 m_7 () (he9 _ (ZZs H9)).symm rfl (Zd _) (Ze _)
 rintro m_3 ⟨⟩ hp r_3 hr_3
 haveI:=hr_3.op
 replace H:=ZbD hp H;refine Zec (hr_3.rh.trans hr_1.rh.symm) ?_;refine zC ?_;refine ZL<|ZfM hr_3 ?_;exact zY H
end Go.Proofs.YtkmojgfenlgchaaGreatDoor.Tr
namespace Go.Proofs.YtkmojgfenlgchaaGreatDoor.Tr
open Go Go.RowKit
set_option maxRecDepth 100000
set_option synthInstance.maxHeartbeats 400000
set_option synthInstance.maxSize 4096
def ZgY (c0:Chip) (l_5:(List Wear)) (x_8:Int) (l_9:(List Wear)):Option ((Int×(List Wear))⊕(List Wear)):=
 bif (decide (x_8<(l_5.length:Int))) then ((Zas x_8 2).bind fun x_11=>(idx c0.Blocks x_11).bind fun x_12=>(idx l_9 x_8).bind fun x_14=>(some ((l_9.set (Int.toNat x_8) (⟨0,x_12.Used,x_12.Worn,x_12.Bad⟩:Wear)):(List Wear))).bind fun l_15=>(Zas x_8 1).bind fun x_16=>some (.inl (x_16,l_15))) else (some (.inr l_9))
def ZgW (c0:Chip) (x_27:(List Int)) (x_32:Int) (l_33:(List Wear)) (m_34:(List Int)):Option ((Int×(List Wear)×(List Int))⊕((List Wear)×(List Int))):=
 bif (decide (x_32<(x_27.length:Int))) then (((idx x_27 x_32).bind fun x_41=>bif ((decide (x_41=(0:Int)))||(decide (x_41∈m_34))) then (some (l_33,m_34)) else ((some ((putM m_34 x_41):List Int)).bind fun m_44=>(Zgs x_41 1).bind fun x_45=>(ZjS x_45 c0.Pages).bind fun x_46=>(Zgs x_46 2).bind fun x_47=>(idx l_33 x_47).bind fun x_48=>(Zas x_48.Live 1).bind fun x_49=>(idx l_33 x_47).bind fun x_50=>(some ((l_33.set (Int.toNat x_47) (⟨x_49,x_50.Used,x_50.Worn,x_50.Bad⟩:Wear)):(List Wear))).bind fun l_51=>some (l_51,m_44))).bind fun o_40=>el2 o_40 (fun l_37 m_38=>(Zas x_32 1).bind fun x_52=>some (.inl (x_52,l_37,m_38)))) else (some (.inr (l_33,m_34)))
def ZgX (c0:Chip) (lists0:(List (List Int))) (x_22:Int) (l_23:(List Wear)) (m_24:(List Int)):Option ((Int×(List Wear)×(List Int))⊕((List Wear)×(List Int))):=
 bif (decide (x_22<(lists0.length:Int))) then ((idx lists0 x_22).bind fun x_27=>(ZM (fun s=>ZgW c0 x_27 s.1 s.2.1 s.2.2) ((0:Int),l_23,m_24)).bind fun o_31=>el2 o_31 (fun l_28 m_29=>(Zas x_22 1).bind fun x_53=>some (.inl (x_53,l_28,m_29)))) else (some (.inr (l_23,m_24)))
def Zf8 (c0:Chip) (lists0:(List (List Int))):Option (List Wear):=
 (Zgs (c0.Blocks.length:Int) (2:Int)).bind fun x_2=>(Zdv 32 x_2).bind fun u_3=>(some ((List.replicate (Int.toNat x_2) (Dat.z:Wear)):(List Wear))).bind fun l_5=>(ZM (fun s=>ZgY c0 l_5 s.1 s.2) ((0:Int),l_5)).bind fun l_6=>(ZM (fun s=>ZgX c0 lists0 s.1 s.2.1 s.2.2) ((0:Int),l_6,([]:List Int))).bind fun o_21=>el2 o_21 (fun l_18 m_19=>some l_18)
theorem flash_known_o {c0:Chip} {lists0:(List (List Int))} {r:(List Wear)} (H:Zf8 c0 lists0=some r):CO2 191 [] (D c0) (D lists0) (fun g:Nat×Prop×Nat=>Sl g.1 g.2.1 0 (List.length r) g.2.2) fun g=>[⟨g.1,g.2.1,Row (r:List Wear) g.2.2⟩]:=eO2 Tryz.func191 rfl Tryz.ntmps191 fun A w hA hO=>by
 unfold Zf8 at H;refine zg ?_;refine TS.box rfl fun b2_0=>zg ?_
 refine zb H fun x_2 _ H=>?_
 refine zn H fun _ eu_3 H=>?_
 refine Zgj eu_3.h ⟨(Za3 eu_3.h).1,Int.le_refl _⟩ rfl fun b19_3=>?_
 refine zC ?_;refine zn H fun l_5 el_5 H=>?_
 refine ZB b19_3 (Zac el_5.h) ?_;refine zX (Zcg 5 _ (ZaP el_5.h (by simp))) ?_;refine TSx (Zax (n:=l_5.length) rfl) ?_;refine zC ?_;refine zh H fun o_7 H7 H=>?_
 refine Zn (fun s:(List Wear)=>o_7=s) (fun (l_6:(List Wear)) (_:Unit)=>(Env.set (Env.set (Env.set Env.nil 1 (D lists0)) 2 (Pt b2_0 0)) 5 (Sl b19_3 True 0 l_6.length (Int.toNat x_2)))) (fun (l_6:(List Wear)) (_:Unit)=>[⟨b19_3,True,(Row (l_6:List Wear) (Int.toNat x_2))⟩,⟨b2_0,True,(One c0)⟩]) ?_ ?_
 ·skip;refine Zp<|Zu H7 (fun ⟨x_8,l_9⟩ (_:Unit)=>(Env.set (Env.set (Env.set (Env.set (Env.set Env.nil 1 (D lists0)) 2 (Pt b2_0 0)) 5 (Sl b19_3 True 0 l_9.length (Int.toNat x_2))) 21 (D ((l_5.length:Int):Int))) 22 (D x_8))) (fun ⟨x_8,l_9⟩ (_:Unit)=>[⟨b19_3,True,(Row (l_9:List Wear) (Int.toNat x_2))⟩,⟨b2_0,True,(One c0)⟩]) () (Za (Za (Zk (ZC rfl) (Za (Za (Zd _)))))) (Zc rfl (Zc rfl (Ze _))) ?_;rintro ⟨x_8,l_9⟩ ⟨⟩ x_10 H10 he10;dsimp only at H10;unfold ZgY at H10;refine zg ?_;refine zc H10 (fun hc H10=>?_) fun hc H10=>?_
  ·refine zg ?_;refine zb H10 fun _ _ H10=>?_
   refine zb H10 fun x_12 _ H10=>?_
   refine TS.alloc rfl fun b7_12=>zg ?_
   refine TSx (tB (⟨0,x_12.Used,x_12.Worn,x_12.Bad⟩:Wear) rfl rfl) ?_;refine zn H10 fun _ ex_14 H10=>?_
   refine TSx (Zm (ZI ex_14.h rfl)) ?_;refine zE ?_;refine zn H10 fun l_15 el_15 H10=>?_
   refine Zaf b19_3 (Zac el_15.h) ?_;refine zX (ZcF 5 _ (ZaP el_15.h (by simp))) ?_;refine zb H10 fun x_16 _ H10=>?_
   exact Zq ⟨x_16,l_15⟩ () (ZZs H10) (Za (Za (Zk (ZC rfl) (Za (Za (Zd _)))))) (Zc rfl (Zc rfl (Ze _)))
  ·refine zg ?_;exact Zj l_9 () (he10 _ (ZZs H10)).symm (Zk (ZC rfl) (Za (Za (Zd _)))) (Zc rfl (Zc rfl (Ze _)))
 rintro l_6 ⟨⟩ hp;replace hp:=hp.symm;subst hp;refine zg ?_;refine TS.makeMap rfl fun N_16 r_16 hr_16=>?_
 haveI:=hr_16.op
 refine zE ?_;refine Zec hr_16.rh ?_;refine zC ?_;refine zh H fun o_21 H21 H=>?_
 refine Zlb hr_16 (fun s:((List Wear)×(List Int))=>o_21=s) (fun ⟨l_18,m_19⟩=>m_19) (fun ⟨l_18,m_19⟩ (_:Unit)=>(Env.set Env.nil 5 (Sl b19_3 True 0 l_18.length (Int.toNat x_2)))) (fun ⟨l_18,m_19⟩ (_:Unit)=>[⟨b19_3,True,(Row (l_18:List Wear) (Int.toNat x_2))⟩]) ?_ ?_
 ·skip;refine Zp<|Zl4 H21 hr_16 (fun ⟨x_22,l_23,m_24⟩=>m_24) (fun ⟨x_22,l_23,m_24⟩ (_:Unit)=>(Env.set (Env.set (Env.set (Env.set (Env.set (Env.set Env.nil 2 (Pt b2_0 0)) 5 (Sl b19_3 True 0 l_23.length (Int.toNat x_2))) 8 (MapT N_16)) 43 (D lists0)) 44 (D ((lists0.length:Int):Int))) 45 (D x_22))) (fun ⟨x_22,l_23,m_24⟩ (_:Unit)=>[⟨b19_3,True,(Row (l_23:List Wear) (Int.toNat x_2))⟩,⟨b2_0,True,(One c0)⟩]) () rfl (Za (Za (Za (Za (Zk (ZC rfl) (Za (Zd _))))))) (Zc rfl (Zc rfl (Ze _))) ?_;rintro ⟨x_22,l_23,m_24⟩ ⟨⟩ x_26 H26 he26 r_24 hr_24
  haveI:=hr_24.op
  try dsimp only at H26
  unfold ZgX at H26;refine zg ?_;refine zc H26 (fun hc H26=>?_) fun hc H26=>?_
  ·refine zg ?_;refine zo H26 fun x_27 _ H26=>?_
   refine zC ?_;refine zC ?_;refine zh H26 fun o_31 H31 H26=>?_
   refine Zlb hr_24 (fun s:((List Wear)×(List Int))=>o_31=s) (fun ⟨l_28,m_29⟩=>m_29) (fun ⟨l_28,m_29⟩ (_:Unit)=>(Env.set (Env.set (Env.set (Env.set (Env.set (Env.set Env.nil 2 (Pt b2_0 0)) 5 (Sl b19_3 True 0 l_28.length (Int.toNat x_2))) 8 (MapT N_16)) 43 (D lists0)) 44 (D ((lists0.length:Int):Int))) 45 (D x_22))) (fun ⟨l_28,m_29⟩ (_:Unit)=>[⟨b19_3,True,(Row (l_28:List Wear) (Int.toNat x_2))⟩,⟨b2_0,True,(One c0)⟩]) ?_ ?_
   ·skip;refine Zp<|Zl4 H31 hr_24 (fun ⟨x_32,l_33,m_34⟩=>m_34) (fun ⟨x_32,l_33,m_34⟩ (_:Unit)=>(Env.set (Env.set (Env.set (Env.set (Env.set (Env.set (Env.set (Env.set (Env.set Env.nil 2 (Pt b2_0 0)) 5 (Sl b19_3 True 0 l_33.length (Int.toNat x_2))) 8 (MapT N_16)) 43 (D lists0)) 44 (D ((lists0.length:Int):Int))) 45 (D x_22)) 49 (D x_27)) 50 (D ((x_27.length:Int):Int))) 51 (D x_32))) (fun ⟨x_32,l_33,m_34⟩ (_:Unit)=>[⟨b19_3,True,(Row (l_33:List Wear) (Int.toNat x_2))⟩,⟨b2_0,True,(One c0)⟩]) () rfl (Za (Za (Za (Za (Za (Za (Za (Zk (ZC rfl) (Za (Zd _)))))))))) (Zc rfl (Zc rfl (Ze _))) ?_;rintro ⟨x_32,l_33,m_34⟩ ⟨⟩ x_36 H36 he36 r_34 hr_34
    haveI:=hr_34.op
    try dsimp only at H36
    unfold ZgW at H36;refine zg ?_;refine zc H36 (fun hc H36=>?_) fun hc H36=>?_
    ·refine Zaw<|Zan<|Zau ?_;refine zh H36 fun o_40 H40 H36=>?_
     refine Zlb hr_34 (fun s:((List Wear)×(List Int))=>o_40=s) (fun ⟨l_37,m_38⟩=>m_38) (fun ⟨l_37,m_38⟩ (_:Unit)=>(Env.set (Env.set (Env.set (Env.set (Env.set (Env.set (Env.set (Env.set (Env.set Env.nil 2 (Pt b2_0 0)) 5 (Sl b19_3 True 0 l_37.length (Int.toNat x_2))) 8 (MapT N_16)) 43 (D lists0)) 44 (D ((lists0.length:Int):Int))) 45 (D x_22)) 49 (D x_27)) 50 (D ((x_27.length:Int):Int))) 51 (D x_32))) (fun ⟨l_37,m_38⟩ (_:Unit)=>[⟨b19_3,True,(Row (l_37:List Wear) (Int.toNat x_2))⟩,⟨b2_0,True,(One c0)⟩]) ?_ ?_
     ·skip;refine zg ?_;refine zb H40 fun _ _ H40=>?_
      refine zX (Ziz hr_34 rfl) ?_;refine TSx Zlh ?_;refine zX (TS.sn Zle) ?_;refine zc H40 (fun hc H40=>?_) fun hc H40=>?_
      ·refine zg ?_;exact ZiC hr_34 ⟨l_33,m_34⟩ () (ZZs H40) rfl (Za (Za (Za (Za (Za (Za (Za (Zk (ZC rfl) (Za (Zd _)))))))))) (Zc rfl (Zc rfl (Ze _)))
      ·refine zg ?_;refine TSx Zlg ?_;refine TS.mapUpdate hr_34 fun r_42 hr_42=>?_
       haveI:=hr_42.op
       refine zE ?_;refine Zec (hr_42.rh.trans hr_34.rh.symm) ?_;refine zn H40 fun m_44 em_44 H40=>?_
       replace hr_42:=(ZZi em_44.h)▸hr_42;refine zg ?_;refine zb H40 fun _ _ H40=>?_
       refine zb H40 fun _ _ H40=>?_
       refine zb H40 fun _ _ H40=>?_
       refine zn H40 fun _ ex_48 H40=>?_
       refine zX (Za1 (Zm (ZI ex_48.h rfl)) rfl) ?_;refine zb H40 fun _ _ H40=>?_
       refine zn H40 fun _ ex_50 H40=>?_
       refine TSx (Zm (ZI ex_50.h rfl)) ?_;refine zE ?_;refine zn H40 fun l_51 el_51 H40=>?_
       refine Zaf b19_3 (Zac el_51.h) ?_;refine zX (ZcF 5 _ (ZaP el_51.h (by simp))) ?_;exact ZiC hr_42 ⟨l_51,m_44⟩ () (ZZs H40) rfl (Za (Za (Za (Za (Za (Za (Za (Zk (ZC rfl) (Za (Zd _)))))))))) (Zc rfl (Zc rfl (Ze _)))
     rintro ⟨l_37,m_38⟩ ⟨⟩ hp r_38 hr_38
     haveI:=hr_38.op
     replace hp:=hp.symm;subst hp;replace H36:=Zeo H36;refine zX (Zec (hr_38.rh.trans hr_34.rh.symm)) ?_;refine zb H36 fun x_52 _ H36=>?_
     exact Zl3 hr_38 ⟨x_52,l_37,m_38⟩ () (ZZs H36) rfl (Za (Za (Za (Za (Za (Za (Za (Zk (ZC rfl) (Za (Zd _)))))))))) (Zc rfl (Zc rfl (Ze _)))
    ·refine zg ?_;exact ZiC hr_34 ⟨l_33,m_34⟩ () (he36 _ (ZZs H36)).symm rfl (Za (Za (Za (Za (Zk (ZC rfl) (Za (Zd _))))))) (Zc rfl (Zc rfl (Ze _)))
   rintro ⟨l_28,m_29⟩ ⟨⟩ hp r_29 hr_29
   haveI:=hr_29.op
   replace hp:=hp.symm;subst hp;replace H26:=Zeo H26;refine ZeM ?_;refine zX (Zec (hr_29.rh.trans hr_24.rh.symm)) ?_;refine zb H26 fun x_53 _ H26=>?_
   exact Zl3 hr_29 ⟨x_53,l_28,m_29⟩ () (ZZs H26) rfl (Za (Za (Za (Za (Zk (ZC rfl) (Za (Zd _))))))) (Zc rfl (Zc rfl (Ze _)))
  ·refine zg ?_;exact ZiC hr_24 ⟨l_23,m_24⟩ () (he26 _ (ZZs H26)).symm rfl (Zk (ZC rfl) (Zd _)) (Zc rfl (Ze _))
 rintro ⟨l_18,m_19⟩ ⟨⟩ hp r_19 hr_19
 haveI:=hr_19.op
 replace hp:=hp.symm;subst hp;replace H:=Zeo H;refine Zec (hr_19.rh.trans hr_16.rh.symm) ?_;refine zC ?_;refine ZL<|ZfM hr_19 ?_;obtain rfl:=ZZi H;exact ZA rfl ⟨b19_3,True,(Int.toNat x_2)⟩ (ZC rfl) (Zc rfl (Ze _))
def ZcQ (x_1:(List Wear)) (x_5:Int) (l_6:(List Wear)):Option ((Int×(List Wear))⊕(List Wear)):=
 bif (decide (x_5<(x_1.length:Int))) then (((idx l_6 x_5).bind fun x_10=>bif x_10.Bad then ((idx l_6 x_5).bind fun x_11=>(some ((l_6.set (Int.toNat x_5) (⟨0,0,0,true⟩:Wear)):(List Wear))).bind fun l_12=>some l_12) else (some l_6)).bind fun l_8=>(Zas x_5 1).bind fun x_13=>some (.inl (x_13,l_8))) else (some (.inr l_6))
def Zam (w0x:flash_writer) (lists0:(List (List Int))):Option (List Wear):=
 (Zf8 w0x.Vol.Chip lists0).bind fun x_1=>(ZM (fun s=>ZcQ x_1 s.1 s.2) ((0:Int),x_1)).bind fun l_3=>some l_3
theorem Zb7 {w0x:flash_writer} {lists0:(List (List Int))} {r:(List Wear)} (H:Zam w0x lists0=some r):CO2 170 [] (ZlO w0x) (D lists0) (fun g:Nat×Prop×Nat=>Sl g.1 g.2.1 0 (List.length r) g.2.2) fun g=>[⟨g.1,g.2.1,Row (r:List Wear) g.2.2⟩]:=eO2 Tryz.func170 rfl Tryz.ntmps170 fun A w hA hO=>by
 unfold Zam at H;refine zg ?_;refine zn H fun x_1 ex_1 H=>?_
 refine Zdw (oc2 [] (flash_known_o ex_1.h) toD toD) rfl fun ⟨b13_1,p13_1,c13_1⟩=>?_
 refine zw ?_;refine TSx (Zax (n:=x_1.length) rfl) ?_;refine zC ?_;refine zh H fun o_4 H4 H=>?_
 refine Zn (fun s:(List Wear)=>o_4=s) (fun (l_3:(List Wear)) (_:Unit)=>(Env.set Env.nil 5 (Sl b13_1 p13_1 0 l_3.length c13_1))) (fun (l_3:(List Wear)) (_:Unit)=>[⟨b13_1,p13_1,(Row (l_3:List Wear) c13_1)⟩]) ?_ ?_
 ·skip;refine Zp<|Zu H4 (fun ⟨x_5,l_6⟩ (_:Unit)=>(Env.set (Env.set (Env.set Env.nil 5 (Sl b13_1 p13_1 0 l_6.length c13_1)) 15 (D ((x_1.length:Int):Int))) 16 (D x_5))) (fun ⟨x_5,l_6⟩ (_:Unit)=>[⟨b13_1,p13_1,(Row (l_6:List Wear) c13_1)⟩]) () (Za (Za (Zk (ZC rfl) (Zd _)))) (Zc rfl (Ze _)) ?_;rintro ⟨x_5,l_6⟩ ⟨⟩ x_7 H7 he7;dsimp only at H7;unfold ZcQ at H7;refine zg ?_;refine zc H7 (fun hc H7=>?_) fun hc H7=>?_
  ·refine Zaw<|Zan<|Zau ?_;refine zh H7 fun o_9 H9 H7=>?_
   refine Zn (fun s:(List Wear)=>o_9=s) (fun (l_8:(List Wear)) (_:Unit)=>(Env.set (Env.set (Env.set Env.nil 5 (Sl b13_1 p13_1 0 l_8.length c13_1)) 15 (D ((x_1.length:Int):Int))) 16 (D x_5))) (fun (l_8:(List Wear)) (_:Unit)=>[⟨b13_1,p13_1,(Row (l_8:List Wear) c13_1)⟩]) ?_ ?_
   ·skip;refine zg ?_;refine zn H9 fun _ ex_10 H9=>?_
    refine zX (Za1 (Zm (ZI ex_10.h rfl)) rfl) ?_;refine zc H9 (fun hc H9=>?_) fun hc H9=>?_
    ·refine zg ?_;refine TSx (tB (⟨0,0,0,true⟩:Wear) rfl rfl) ?_;refine zn H9 fun _ ex_11 H9=>?_
     refine TSx (Zm (ZI ex_11.h rfl)) ?_;refine zE ?_;refine zn H9 fun l_12 el_12 H9=>?_
     refine Zaf b13_1 (Zac el_12.h) ?_;refine zX (ZcF 5 _ (ZaP el_12.h (by simp))) ?_;exact Zj l_12 () (ZZs H9) (Za (Za (Zk (ZC rfl) (Zd _)))) (Zc rfl (Ze _))
    ·refine zg ?_;exact Zj l_6 () (ZZs H9) (Za (Za (Zk (ZC rfl) (Zd _)))) (Zc rfl (Ze _))
   rintro l_8 ⟨⟩ hp;replace hp:=hp.symm;subst hp;refine zg ?_;refine zb H7 fun x_13 _ H7=>?_
   exact Zq ⟨x_13,l_8⟩ () (ZZs H7) (Za (Za (Zk (ZC rfl) (Zd _)))) (Zc rfl (Ze _))
  ·refine zg ?_;exact Zj l_6 () (he7 _ (ZZs H7)).symm (Zk (ZC rfl) (Zd _)) (Zc rfl (Ze _))
 rintro l_3 ⟨⟩ hp;replace hp:=hp.symm;subst hp;refine zg ?_;obtain rfl:=ZZi H;exact ZA rfl ⟨b13_1,p13_1,c13_1⟩ (ZC rfl) (Zc rfl (Ze _))
def Zaq (w0x:flash_writer) (block0:Int):Option Int:=
 (idx w0x.Vol.Chip.Blocks block0).bind fun x_1=>bif x_1.Bad then (some (0:Int)) else ((Zgs w0x.Vol.Chip.Pages x_1.Used).bind fun x_3=>some x_3)
theorem Zbb {A:Nat→Prop} {w0x:flash_writer} {block0:Int}  {r:Int} (w:World) (v0 v1:Value) (hA:∀ k,w.heap.size≤k→A k)  (h0:(ZlO w0x).p A w v0) (h1:(D block0).p A w v1) (H:Zaq w0x block0=some r) :
    Calls Tryz.prog 117 #[v0,v1] w (Ret A w (D r)):=by
 unfold Zaq at H;refine enter2 hA Tryz.func117 rfl Tryz.ntmps117 rfl h0 h1 ?_;exact zY H
def Zai (w0x:flash_writer) (block0:Int) (e0:Int):Option flash_writer:=
 bif (decide (e0=(9:Int))) then ((Ziw w0x.Vol.Chip block0).bind fun r_1=>(some ((⟨(⟨r_1.1,w0x.Vol.At,w0x.Vol.Gen,w0x.Vol.Last⟩:Vol),w0x.beyond⟩:flash_writer):flash_writer)).bind fun l_2=>some l_2) else (some w0x)
theorem Zf6 {w0x:flash_writer} {block0:Int} {e0:Int} {b0:Nat} {r:flash_writer} (H:Zai w0x block0 e0=some r):CO3 140 [⟨b0,True,One w0x⟩] (Pt b0 0) (D block0) (D e0) (fun g:Unit=>Tup []) fun g=>[⟨b0,True,One r⟩]:=eO3 Tryz.func140 rfl Tryz.ntmps140 fun A w hA hO=>by
 unfold Zai at H;refine zg ?_;refine zc H (fun hc H=>?_) fun hc H=>?_
 ·refine zg ?_;refine zo H fun _ _ H=>?_
  refine zE ?_;refine zn H fun _ el_2 H=>?_
  refine Zaf b0 (Zah el_2.h) ?_;obtain rfl:=ZZi H;exact Zl2 rfl rfl () .nil (Zc rfl (Ze _))
 ·refine zg ?_;obtain rfl:=ZZi H;exact Zl2 rfl rfl () .nil (Zc rfl (Ze _))
def ZK (w0x:flash_writer) (block0:Int) (b0x:(List UInt8)):Option (Int×flash_writer):=
 (idx w0x.Vol.Chip.Blocks block0).bind fun x_1=>(Ze6 w0x.Vol.Chip block0 x_1.Used b0x).bind fun r_2=>(some ((⟨(⟨r_2.1,w0x.Vol.At,w0x.Vol.Gen,w0x.Vol.Last⟩:Vol),w0x.beyond⟩:flash_writer):flash_writer)).bind fun w_4=>(Zai w_4 block0 r_2.2).bind fun x_5=>some (r_2.2,x_5)
theorem Za6 {w0x:flash_writer} {block0:Int} {b0x:(List UInt8)} {b0:Nat} {r:(Int×flash_writer)} (H:ZK w0x block0 b0x=some r):CO3 118 [⟨b0,True,One w0x⟩] (Pt b0 0) (D block0) (D b0x) (fun g:Unit=>D r.1) fun g=>[⟨b0,True,One r.2⟩]:=eO3 Tryz.func118 rfl Tryz.ntmps118 fun A w hA hO=>by
 unfold ZK at H;refine zC ?_;refine zX (ZaW [21,22] [] mix (by kernel_rfl) (by kernel_rfl)) ?_;refine zb H fun _ _ H=>?_
 refine zb H fun r_2 _ H=>?_
 refine Zfi (fun g=>ZcD (α:=Chip)) rfl<|Zdg (fun g=>(Zw (y:=(r_2.1:Chip)) Zx)) rfl ?_;refine zC ?_;rintro ⟨⟨_,⟨b7_2,_⟩⟩,_⟩;dsimp only [Fam.nextS,Fam.nextN,Fam.one,List.cons_append,List.nil_append];refine zC ?_;refine zn H fun _ ew_4 H=>?_
 refine zX (ZB b0 (Zah ew_4.h)) ?_;refine zn H fun _ ex_5 H=>?_
 refine Zdw (oc3 [b0] (Zf6 ex_5.h) id toD toD) rfl fun _=>?_
 refine zw ?_;obtain rfl:=ZZi H;exact ZA rfl () Cv.le (Zc rfl (Ze _))
def ZaI (w0x:flash_writer) (block0:Int):Option (Int×flash_writer):=
 (Zhl w0x.Vol.Chip block0).bind fun r_1=>(some ((⟨(⟨r_1.1,w0x.Vol.At,w0x.Vol.Gen,w0x.Vol.Last⟩:Vol),w0x.beyond⟩:flash_writer):flash_writer)).bind fun w_3=>(Zai w_3 block0 r_1.2).bind fun x_4=>some (r_1.2,x_4)
theorem Zdr {w0x:flash_writer} {block0:Int} {b0:Nat} {r:(Int×flash_writer)} (H:ZaI w0x block0=some r):CO2 114 [⟨b0,True,One w0x⟩] (Pt b0 0) (D block0) (fun g:Unit=>D r.1) fun g=>[⟨b0,True,One r.2⟩]:=eO2 Tryz.func114 rfl Tryz.ntmps114 fun A w hA hO=>by
 unfold ZaI at H;refine zg ?_;refine zb H fun _ _ H=>?_
 refine TS.alloc rfl fun b5_1=>?_
 refine zC ?_;refine zC ?_;refine zn H fun _ ew_3 H=>?_
 refine zX (ZB b0 (Zah ew_3.h)) ?_;refine zn H fun _ ex_4 H=>?_
 refine Zdw (oc3 [b0] (Zf6 ex_4.h) id toD toD) rfl fun _=>?_
 refine zw ?_;obtain rfl:=ZZi H;exact ZA rfl () Cv.le (Zc rfl (Ze _))
def Zc9 (block0:Int) (w_3:flash_writer):Option (flash_writer⊕(flash_writer⊕(Int×flash_writer))):=
 (Zaq w_3 block0).bind fun x_5=>bif (decide (x_5>(0:Int))) then ((Zfr (⟨(1:Int),0,0,[]⟩:Page) w_3.Vol.Chip.Size).bind fun r_6=>(ZK w_3 block0 r_6.1).bind fun x_7=>bif (decide (x_7.1≠(0:Int))) then (some (.inr (.inr (x_7.1,x_7.2)))) else (some (.inl x_7.2))) else (some (.inr (.inl w_3)))
def ZV (w0x:flash_writer) (block0:Int):Option (Int×flash_writer):=
 (ZM (fun s=>Zc9 block0 s) w0x).bind fun o_2=>elS o_2 (fun w_1=>(ZaI w_1 block0).bind fun x_10=>some (x_10.1,x_10.2)) (fun q=>some q)
theorem Zbt {w0x:flash_writer} {block0:Int} {b0:Nat} {r:(Int×flash_writer)} (H:ZV w0x block0=some r):CO2 178 [⟨b0,True,One w0x⟩] (Pt b0 0) (D block0) (fun g:Unit=>D r.1) fun g=>[⟨b0,True,One r.2⟩]:=eO2 Tryz.func178 rfl Tryz.ntmps178 fun A w hA hO=>by
 unfold ZV at H;refine zC ?_;refine Zau ?_;refine zh H fun o_2 H2 H=>?_
 refine Zn (fun s:flash_writer=>o_2=.inl s) (fun (w_1:flash_writer) (_:Unit)=>(Env.set (Env.set Env.nil 0 (Pt b0 0)) 1 (D block0))) (fun (w_1:flash_writer) (_:Unit)=>[⟨b0,True,(One w_1)⟩]) ?_ ?_
 ·skip;refine Zp<|Zu H2 (fun (w_3:flash_writer) (_:Unit)=>(Env.set (Env.set Env.nil 0 (Pt b0 0)) 1 (D block0))) (fun (w_3:flash_writer) (_:Unit)=>[⟨b0,True,(One w_3)⟩]) () (Za (Za (Zd _))) (Zc rfl (Ze _)) ?_;rintro w_3 ⟨⟩ x_4 H4 he4;unfold Zc9 at H4;refine zg ?_;refine zn H4 fun _ ex_5 H4=>?_
  refine zX (Za1 (ZcN [b0] (ZcW Zx trivial (by simp)) ArgB.d fun w v0 v1 hA h0 h1=>Zbb w v0 v1 hA h0 (toD h1) ex_5.h) rfl) ?_;refine zc H4 (fun hc H4=>?_) fun hc H4=>?_
  ·refine zg ?_;refine zX (Za1 (tB (⟨(1:Int),0,0,[]⟩:Page) rfl rfl) rfl) ?_;refine zb H4 fun _ _ H4=>?_
   refine zn H4 fun x_7 ex_7 H4=>?_
   refine Zdw (oc3 [b0] (Za6 ex_7.h) id toD toD) rfl fun _=>?_
   refine zw ?_;refine zc H4 (fun hc H4=>?_) fun hc H4=>?_
   ·refine zC ?_;refine ZL<|Zf<|Zg<|Zf<|Zs ?_;have R8:=ZaM (he4 _ (ZZs H4)) H;refine zg ?_;obtain rfl:=ZZi R8;exact ZA rfl () Cv.le (Zc rfl (Ze _))
   ·refine zg ?_;exact Zq x_7.2 () (ZZs H4) (Za (Za (Zd _))) (Zc rfl (Ze _))
  ·refine zg ?_;exact Zj w_3 () (he4 _ (ZZs H4)).symm (Za (Za (Zd _))) (Zc rfl (Ze _))
 rintro w_1 ⟨⟩ hp;replace H:=ZbD hp H;refine zg ?_;refine zn H fun _ ex_10 H=>?_
 refine Zdw (oc2 [b0] (Zdr ex_10.h) id toD) rfl fun _=>?_
 refine zw ?_;obtain rfl:=ZZi H;exact ZA rfl () Cv.le (Zc rfl (Ze _))
def ZD (w0x:flash_writer) (x_1:Int) (x_3:Int):Option (Int⊕(Unit⊕(Int×Int×flash_writer))):=
 bif (decide (x_3<(([w0x.Vol.Last,x_1]:List Int).length:Int))) then ((idx ([w0x.Vol.Last,x_1]:List Int) x_3).bind fun x_5=>(Zaq w0x x_5).bind fun x_6=>bif (decide (x_6>(0:Int))) then (some (.inr (.inr (x_5,(0:Int),w0x)))) else ((Zas x_3 1).bind fun x_8=>some (.inl x_8))) else (some (.inr (.inl ())))
def Za5 (w0x:flash_writer):Option (Int×Int×flash_writer):=
 (Zgs (1:Int) w0x.Vol.Last).bind fun x_1=>(ZM (fun s=>ZD w0x x_1 s) (0:Int)).bind fun o_2=>elS o_2 (fun _=>(idx w0x.Vol.Chip.Blocks x_1).bind fun x_9=>bif x_9.Bad then (some ((0:Int),(9:Int),w0x)) else ((ZaI w0x x_1).bind fun x_10=>some (x_1,x_10.1,x_10.2))) (fun q=>some q)
theorem Zhf {w0x:flash_writer} {b0:Nat} {r:(Int×Int×flash_writer)} (H:Za5 w0x=some r):CO1 151 [⟨b0,True,One w0x⟩] (Pt b0 0) (fun g:Unit=>Tup [D r.1,D r.2.1]) fun g=>[⟨b0,True,One r.2.2⟩]:=eO1 Tryz.func151 rfl Tryz.ntmps151 fun A w hA hO=>by
 unfold Za5 at H;refine zg ?_;refine zb H fun x_1 _ H=>?_
 refine TSx (OpY.buildSlice [.tmp 17,.tmp 18] rfl rfl (by decide)) ?_;refine zC ?_;refine zh H fun o_2 H2 H=>?_
 refine Zn (fun s:Unit=>o_2=.inl s) (fun (_:Unit) (_:Unit)=>(Env.set (Env.set Env.nil 0 (Pt b0 0)) 4 (D x_1))) (fun (_:Unit) (_:Unit)=>[⟨b0,True,(One w0x)⟩]) ?_ ?_
 ·skip;refine Zp<|Zu H2 (fun (x_3:Int) (_:Unit)=>(Env.set (Env.set (Env.set (Env.set (Env.set Env.nil 0 (Pt b0 0)) 4 (D x_1)) 19 (D (([w0x.Vol.Last,x_1]:List Int):(List Int)))) 20 (D ((([w0x.Vol.Last,x_1]:List Int).length:Int):Int))) 21 (D x_3))) (fun (x_3:Int) (_:Unit)=>[⟨b0,True,(One w0x)⟩]) () (Za (Za (Za (Za (Za (Zd _)))))) (Zc rfl (Ze _)) ?_;rintro x_3 ⟨⟩ x_4 H4 he4;unfold ZD at H4;refine zg ?_;refine zc H4 (fun hc H4=>?_) fun hc H4=>?_
  ·refine zg ?_;refine zb H4 fun _ _ H4=>?_
   refine zn H4 fun _ ex_6 H4=>?_
   refine zX (Za1 (ZcN [b0] (ZcW Zx trivial (by simp)) ArgB.d fun w v0 v1 hA h0 h1=>Zbb w v0 v1 hA h0 (toD h1) ex_6.h) rfl) ?_;refine zc H4 (fun hc H4=>?_) fun hc H4=>?_
   ·refine zC ?_;refine ZL<|Zf<|Zg<|Zg<|Zf<|Zs ?_;have R6:=ZaM (he4 _ (ZZs H4)) H;refine zg ?_;obtain rfl:=ZZi R6;exact Zap rfl rfl () (.cons Cv.le (.cons Cv.le .nil)) (Zc rfl (Ze _))
   ·refine zg ?_;refine zb H4 fun x_8 _ H4=>?_
    exact Zq x_8 () (ZZs H4) (Za (Za (Za (Za (Za (Zd _)))))) (Zc rfl (Ze _))
  ·refine zg ?_;exact Zj () () (he4 _ (ZZs H4)).symm (Za (Za (Zd _))) (Zc rfl (Ze _))
 rintro ⟨⟩ ⟨⟩ hp;replace H:=ZbD hp H;refine zg ?_;refine zb H fun _ _ H=>?_
 refine zc H (fun hc H=>?_) fun hc H=>?_
 ·refine zg ?_;obtain rfl:=ZZi H;exact Zap rfl rfl () (.cons Cv.le (.cons Cv.le .nil)) (Zc rfl (Ze _))
 ·refine zg ?_;refine zn H fun _ ex_10 H=>?_
  refine Zdw (oc2 [b0] (Zdr ex_10.h) id toD) rfl fun _=>?_
  refine zw ?_;obtain rfl:=ZZi H;exact Zap rfl rfl () (.cons Cv.le (.cons Cv.le .nil)) (Zc rfl (Ze _))
def Zcw (x_1:Block) (gen_4:UInt64) (x_5:Int):Option ((UInt64×Int)⊕UInt64):=
 bif (decide (x_5<(x_1.Pages.length:Int))) then (((idx x_1.Pages x_5).bind fun x_9=>(Zg7 x_9).bind fun r_10=>bif (decide (r_10.2=(0:Int))) then (some (max64 gen_4 r_10.1.Gen)) else (some gen_4)).bind fun gen_7=>(Zas x_5 1).bind fun x_12=>some (.inl (gen_7,x_12))) else (some (.inr gen_4))
def ZY (w0x:flash_writer) (block0:Int):Option UInt64:=
 (idx w0x.Vol.Chip.Blocks block0).bind fun x_1=>(ZM (fun s=>Zcw x_1 s.1 s.2) ((UInt64.ofNat 0),(0:Int))).bind fun gen_2=>some gen_2
theorem ZcH {A:Nat→Prop} {w0x:flash_writer} {block0:Int}  {r:UInt64} (w:World) (v0 v1:Value) (hA:∀ k,w.heap.size≤k→A k)  (h0:(ZlO w0x).p A w v0) (h1:(D block0).p A w v1) (H:ZY w0x block0=some r) :
    Calls Tryz.prog 138 #[v0,v1] w (Ret A w (D r)):=by
 unfold ZY at H;refine zX (enter2 hA Tryz.func138 rfl Tryz.ntmps138 rfl h0 h1) ?_;refine zo H fun x_1 _ H=>?_
 refine zC ?_;refine zh H fun o_3 H3 H=>?_
 refine Zn (fun s:UInt64=>o_3=s) (fun (gen_2:UInt64) (_:Unit)=>(Env.set Env.nil 5 (D gen_2))) (fun (gen_2:UInt64) (_:Unit)=>[]) ?_ ?_
 ·skip;refine Zp<|Zu H3 (fun ⟨gen_4,x_5⟩ (_:Unit)=>(Env.set (Env.set (Env.set (Env.set Env.nil 5 (D gen_4)) 19 (D x_1.Pages)) 20 (D ((x_1.Pages.length:Int):Int))) 21 (D x_5))) (fun ⟨gen_4,x_5⟩ (_:Unit)=>[]) () (Za (Za (Za (Za (Zd _))))) (Ze _) ?_;rintro ⟨gen_4,x_5⟩ ⟨⟩ x_6 H6 he6;dsimp only at H6;unfold Zcw at H6;refine zg ?_;refine zc H6 (fun hc H6=>?_) fun hc H6=>?_
  ·refine Zaw<|Zan<|Zau ?_;refine zh H6 fun o_8 H8 H6=>?_
   refine Zn (fun s:UInt64=>o_8=s) (fun (gen_7:UInt64) (_:Unit)=>(Env.set (Env.set (Env.set (Env.set Env.nil 5 (D gen_7)) 19 (D x_1.Pages)) 20 (D ((x_1.Pages.length:Int):Int))) 21 (D x_5))) (fun (gen_7:UInt64) (_:Unit)=>[]) ?_ ?_
   ·skip;refine zg ?_;refine zb H8 fun _ _ H8=>?_
    refine zb H8 fun r_10 _ H8=>?_
    refine TS.alloc rfl fun b8_10=>zg ?_
    refine zc H8 (fun hc H8=>?_) fun hc H8=>?_
    ·refine zg ?_;refine zX (Za1 OpY.max64 rfl) ?_;exact Zj (max64 gen_4 r_10.1.Gen) () (ZZs H8) (Za (Za (Za (Za (Zd _))))) (Ze _)
    ·refine zg ?_;exact Zj gen_4 () (ZZs H8) (Za (Za (Za (Za (Zd _))))) (Ze _)
   rintro gen_7 ⟨⟩ hp;replace hp:=hp.symm;subst hp;refine zg ?_;refine zb H6 fun x_12 _ H6=>?_
   exact Zq ⟨gen_7,x_12⟩ () (ZZs H6) (Za (Za (Za (Za (Zd _))))) (Ze _)
  ·refine zg ?_;exact Zj gen_4 () (he6 _ (ZZs H6)).symm (Za (Zd _)) (Ze _)
 rintro gen_2 ⟨⟩ hp;replace hp:=hp.symm;subst hp;exact zY H
def Zc5 (at0:(List Int)) (gen_1:UInt64) (r_2:((List UInt8)×Int)) (w_3:flash_writer):Option (flash_writer⊕(Int×flash_writer)):=
 (Za5 w_3).bind fun x_5=>bif (decide (x_5.2.1≠(0:Int))) then (some (.inr (x_5.2.1,x_5.2.2))) else ((ZK x_5.2.2 x_5.1 r_2.1).bind fun x_7=>bif (decide (x_7.1=(0:Int))) then (((ZY x_7.2 (1:Int)).bind fun x_11=>bif (decide (x_11=gen_1)) then (some (1:Int)) else (some x_5.1)).bind fun block_9=>(some ((⟨(⟨((⟨(⟨((⟨(⟨x_7.2.Vol.Chip,at0,x_7.2.Vol.Gen,x_7.2.Vol.Last⟩:Vol),x_7.2.beyond⟩:flash_writer).Vol).Chip,((⟨(⟨x_7.2.Vol.Chip,at0,x_7.2.Vol.Gen,x_7.2.Vol.Last⟩:Vol),x_7.2.beyond⟩:flash_writer).Vol).At,gen_1,((⟨(⟨x_7.2.Vol.Chip,at0,x_7.2.Vol.Gen,x_7.2.Vol.Last⟩:Vol),x_7.2.beyond⟩:flash_writer).Vol).Last⟩:Vol),(⟨(⟨x_7.2.Vol.Chip,at0,x_7.2.Vol.Gen,x_7.2.Vol.Last⟩:Vol),x_7.2.beyond⟩:flash_writer).beyond⟩:flash_writer).Vol).Chip,((⟨(⟨((⟨(⟨x_7.2.Vol.Chip,at0,x_7.2.Vol.Gen,x_7.2.Vol.Last⟩:Vol),x_7.2.beyond⟩:flash_writer).Vol).Chip,((⟨(⟨x_7.2.Vol.Chip,at0,x_7.2.Vol.Gen,x_7.2.Vol.Last⟩:Vol),x_7.2.beyond⟩:flash_writer).Vol).At,gen_1,((⟨(⟨x_7.2.Vol.Chip,at0,x_7.2.Vol.Gen,x_7.2.Vol.Last⟩:Vol),x_7.2.beyond⟩:flash_writer).Vol).Last⟩:Vol),(⟨(⟨x_7.2.Vol.Chip,at0,x_7.2.Vol.Gen,x_7.2.Vol.Last⟩:Vol),x_7.2.beyond⟩:flash_writer).beyond⟩:flash_writer).Vol).At,((⟨(⟨((⟨(⟨x_7.2.Vol.Chip,at0,x_7.2.Vol.Gen,x_7.2.Vol.Last⟩:Vol),x_7.2.beyond⟩:flash_writer).Vol).Chip,((⟨(⟨x_7.2.Vol.Chip,at0,x_7.2.Vol.Gen,x_7.2.Vol.Last⟩:Vol),x_7.2.beyond⟩:flash_writer).Vol).At,gen_1,((⟨(⟨x_7.2.Vol.Chip,at0,x_7.2.Vol.Gen,x_7.2.Vol.Last⟩:Vol),x_7.2.beyond⟩:flash_writer).Vol).Last⟩:Vol),(⟨(⟨x_7.2.Vol.Chip,at0,x_7.2.Vol.Gen,x_7.2.Vol.Last⟩:Vol),x_7.2.beyond⟩:flash_writer).beyond⟩:flash_writer).Vol).Gen,block_9⟩:Vol),(⟨(⟨((⟨(⟨x_7.2.Vol.Chip,at0,x_7.2.Vol.Gen,x_7.2.Vol.Last⟩:Vol),x_7.2.beyond⟩:flash_writer).Vol).Chip,((⟨(⟨x_7.2.Vol.Chip,at0,x_7.2.Vol.Gen,x_7.2.Vol.Last⟩:Vol),x_7.2.beyond⟩:flash_writer).Vol).At,gen_1,((⟨(⟨x_7.2.Vol.Chip,at0,x_7.2.Vol.Gen,x_7.2.Vol.Last⟩:Vol),x_7.2.beyond⟩:flash_writer).Vol).Last⟩:Vol),(⟨(⟨x_7.2.Vol.Chip,at0,x_7.2.Vol.Gen,x_7.2.Vol.Last⟩:Vol),x_7.2.beyond⟩:flash_writer).beyond⟩:flash_writer).beyond⟩:flash_writer):flash_writer)).bind fun l_12=>some (.inr ((0:Int),l_12))) else (bif (decide (x_7.1≠(9:Int))) then (some (.inr (x_7.1,x_7.2))) else (some (.inl x_7.2))))
def Zbl (w0x:flash_writer) (at0:(List Int)):Option (Int×flash_writer):=
 (some ((w0x.Vol.Gen+(UInt64.ofNat 1)):UInt64)).bind fun gen_1=>(ZiN (⟨gen_1,at0⟩:Roots) w0x.Vol.Chip.Size).bind fun r_2=>bif (decide (r_2.2≠(0:Int))) then (some (r_2.2,w0x)) else (ZM (fun s=>Zc5 at0 gen_1 r_2 s) w0x)
theorem Zfh {w0x:flash_writer} {at0:(List Int)} {b0:Nat} {r:(Int×flash_writer)} (H:Zbl w0x at0=some r):CO2 122 [⟨b0,True,One w0x⟩] (Pt b0 0) (D at0) (fun g:Unit=>D r.1) fun g=>[⟨b0,True,One r.2⟩]:=eO2 Tryz.func122 rfl Tryz.ntmps122 fun A w hA hO=>by
 unfold Zbl at H;refine zg ?_;refine TSx ZiH ?_;refine zC ?_;refine zn H fun gen_1 egen_1 H=>?_
 refine zX (Zcg 5 (D gen_1) (nm_cv egen_1.h)) ?_;refine zX (Za1 (tB (⟨gen_1,at0⟩:Roots) rfl rfl) rfl) ?_;refine zb H fun r_2 _ H=>?_
 refine zc H (fun hc H=>?_) fun hc H=>?_
 ·refine zg ?_;obtain rfl:=ZZi H;exact ZA rfl () Cv.le (Zc rfl (Ze _))
 ·refine Zaw<|Zan<|Zp<|Zu H (fun (w_3:flash_writer) (_:Unit)=>(Env.set (Env.set (Env.set (Env.set Env.nil 0 (Pt b0 0)) 1 (D at0)) 5 (D gen_1)) 6 (D r_2.1))) (fun (w_3:flash_writer) (_:Unit)=>[⟨b0,True,(One w_3)⟩]) () (Za (Za (Za (Za (Zd _))))) (Zc rfl (Ze _)) ?_;rintro w_3 ⟨⟩ x_4 H4 he4;unfold Zc5 at H4;refine zg ?_;refine zn H4 fun x_5 ex_5 H4=>?_
  refine Zdw (oc1 [b0] (Zhf ex_5.h) id) rfl fun _=>?_
  refine zw ?_;refine zc H4 (fun hc H4=>?_) fun hc H4=>?_
  ·refine zg ?_;obtain rfl:=(he4 _ (ZZs H4));exact ZA rfl () Cv.le (Zc rfl (Ze _))
  ·refine zg ?_;refine zn H4 fun x_7 ex_7 H4=>?_
   refine Zdw (oc3 [b0] (Za6 ex_7.h) id toD toD) rfl fun _=>?_
   refine zw ?_;refine zc H4 (fun hc H4=>?_) fun hc H4=>?_
   ·refine Zau ?_;refine zh H4 fun o_10 H10 H4=>?_
    refine Zn (fun s:Int=>o_10=s) (fun (block_9:Int) (_:Unit)=>(Env.set (Env.set (Env.set (Env.set Env.nil 0 (Pt b0 0)) 1 (D at0)) 5 (D gen_1)) 8 (D block_9))) (fun (block_9:Int) (_:Unit)=>[⟨b0,True,(One x_7.2)⟩]) ?_ ?_
    ·skip;refine zg ?_;refine zn H10 fun _ ex_11 H10=>?_
     refine zX (Za1 (ZcN [b0] (ZcW Zx trivial (by simp)) ArgB.d fun w v0 v1 hA h0 h1=>ZcH w v0 v1 hA h0 (toD h1) ex_11.h) rfl) ?_;refine zX (Za1 ZmR rfl) ?_;refine zc H10 (fun hc H10=>?_) fun hc H10=>?_
     ·refine zg ?_;exact Zj (1:Int) () (ZZs H10) (Za (Za (Za (Za (Zd _))))) (Zc rfl (Ze _))
     ·refine zg ?_;exact Zj x_5.1 () (ZZs H10) (Za (Za (Za (Za (Zd _))))) (Zc rfl (Ze _))
    rintro block_9 ⟨⟩ hp;replace hp:=hp.symm;subst hp;refine zC ?_;refine zn H4 fun _ el_12 H4=>?_
    refine zX (ZB b0 (Zah el_12.h)) ?_;obtain rfl:=(he4 _ (ZZs H4));exact ZA rfl () Cv.le (Zc rfl (Ze _))
   ·refine zg ?_;refine zc H4 (fun hc H4=>?_) fun hc H4=>?_
    ·refine zg ?_;obtain rfl:=(he4 _ (ZZs H4));exact ZA rfl () Cv.le (Zc rfl (Ze _))
    ·refine zg ?_;exact Zq x_7.2 () (ZZs H4) (Za (Za (Za (Za (Zd _))))) (Zc rfl (Ze _))
def Zav (s0:(List Wear)):Option (List Wear):=
 (Zdv 32 ((0+s0.length:Nat):Int)).bind fun _=>some s0
theorem ZdY {s0:(List Wear)} {r:(List Wear)} (H:Zav s0=some r):CO1 193 [] (D s0) (fun g:Nat×Prop×Nat=>Sl g.1 g.2.1 0 (List.length r) g.2.2) fun g=>[⟨g.1,g.2.1,Row (r:List Wear) g.2.2⟩]:=eO1 Tryz.func193 rfl Tryz.ntmps193 fun A w hA hO=>by
 unfold Zav at H;refine zn H fun _ eu H=>?_
 obtain rfl:=ZZi H;refine zg ?_;refine TSx Zby ?_;refine zC ?_;refine ZfA (fun hc=>?_) (fun hc=>?_)
 ·obtain rfl:=hc rfl;refine zg ?_;exact ZA rfl ⟨0,False,0⟩ ZcV (Zbq (Ze _))
 ·refine zg ?_;refine TS.build [] rfl rfl (by decide) rfl fun b=>zg ?_
  refine TS.app (ys:=s0) inferInstance eu.h rfl rfl rfl fun b1 p1 c1=>zg ?_
  exact ZA rfl ⟨b1,p1,c1⟩ (ZC (by simp)) (Zc rfl (Ze _))
def ZhK (rule0:(F1 Tryz.prog Wear Bool)) (x_1:(List Wear)) (x_5:Int) (some_6:(List Wear)):Option ((Int×(List Wear))⊕(List Wear)):=
 bif (decide (x_5<(x_1.length:Int))) then (((idx some_6 x_5).bind fun x_10=>(gb (!x_10.Bad) ((rule0).f x_10)).bind fun x_12=>bif (x_10.Bad||(!x_12)) then ((idx some_6 x_5).bind fun x_13=>(some ((some_6.set (Int.toNat x_5) (⟨0,0,0,true⟩:Wear)):(List Wear))).bind fun l_14=>some l_14) else (some some_6)).bind fun some_8=>(Zas x_5 1).bind fun x_15=>some (.inl (x_15,some_8))) else (some (.inr some_6))
def ZbS (l0:(List Wear)) (rule0:(F1 Tryz.prog Wear Bool)):Option (List Wear):=
 (Zav l0).bind fun x_1=>(ZM (fun s=>ZhK rule0 x_1 s.1 s.2) ((0:Int),x_1)).bind fun some_3=>some some_3
theorem Zls {l0:(List Wear)} {rule0:(F1 Tryz.prog Wear Bool)} {r:(List Wear)} (H:ZbS l0 rule0=some r):CO2 174 [] (D l0) (D rule0) (fun g:Nat×Prop×Nat=>Sl g.1 g.2.1 0 (List.length r) g.2.2) fun g=>[⟨g.1,g.2.1,Row (r:List Wear) g.2.2⟩]:=eO2 Tryz.func174 rfl Tryz.ntmps174 fun A w hA hO=>by
 unfold ZbS at H;refine zg ?_;refine zn H fun x_1 ex_1 H=>?_
 refine Zdw (oc1 [] (ZdY ex_1.h) toD) rfl fun ⟨b9_1,p9_1,c9_1⟩=>?_
 refine zw ?_;refine TSx (Zax (n:=x_1.length) rfl) ?_;refine zC ?_;refine zh H fun o_4 H4 H=>?_
 refine Zn (fun s:(List Wear)=>o_4=s) (fun (some_3:(List Wear)) (_:Unit)=>(Env.set Env.nil 5 (Sl b9_1 p9_1 0 some_3.length c9_1))) (fun (some_3:(List Wear)) (_:Unit)=>[⟨b9_1,p9_1,(Row (some_3:List Wear) c9_1)⟩]) ?_ ?_
 ·skip;refine Zp<|Zu H4 (fun ⟨x_5,some_6⟩ (_:Unit)=>(Env.set (Env.set (Env.set (Env.set (Env.set Env.nil 1 (D rule0)) 5 (Sl b9_1 p9_1 0 some_6.length c9_1)) 10 (Sl b9_1 p9_1 0 some_6.length c9_1)) 11 (D ((x_1.length:Int):Int))) 12 (D x_5))) (fun ⟨x_5,some_6⟩ (_:Unit)=>[⟨b9_1,p9_1,(Row (some_6:List Wear) c9_1)⟩]) () (Za (Za (Zk (ZC rfl) (Zk (ZC rfl) (Za (Zd _)))))) (Zc rfl (Ze _)) ?_;rintro ⟨x_5,some_6⟩ ⟨⟩ x_7 H7 he7;dsimp only at H7;unfold ZhK at H7;refine zg ?_;refine zc H7 (fun hc H7=>?_) fun hc H7=>?_
  ·refine Zaw<|Zan<|Zau ?_;refine zh H7 fun o_9 H9 H7=>?_
   refine Zn (fun s:(List Wear)=>o_9=s) (fun (some_8:(List Wear)) (_:Unit)=>(Env.set (Env.set (Env.set (Env.set (Env.set Env.nil 1 (D rule0)) 5 (Sl b9_1 p9_1 0 some_8.length c9_1)) 10 (Sl b9_1 p9_1 0 some_8.length c9_1)) 11 (D ((x_1.length:Int):Int))) 12 (D x_5))) (fun (some_8:(List Wear)) (_:Unit)=>[⟨b9_1,p9_1,(Row (some_8:List Wear) c9_1)⟩]) ?_ ?_
   ·skip;refine zg ?_;refine zn H9 fun _ ex_10 H9=>?_
    refine zX (Za1 (Zm (ZI ex_10.h rfl)) rfl) ?_;refine TS.alloc rfl fun b7_10=>zg ?_
    refine zm H9 fun _ ex_12 H9=>?_
    refine zX (Zk9 19 rfl (fun hg=>(Zlf (Zbx ex_12.h (nF hg.h)))) rfl) ?_;refine zc H9 (fun hc H9=>?_) fun hc H9=>?_
    ·refine zg ?_;refine TSx (tB (⟨0,0,0,true⟩:Wear) rfl rfl) ?_;refine zn H9 fun _ ex_13 H9=>?_
     refine TSx (Zm (ZI ex_13.h rfl)) ?_;refine zE ?_;refine zn H9 fun l_14 el_14 H9=>?_
     refine Zaf b9_1 (Zac el_14.h)<|ZcF 5 _ (ZaP el_14.h (by simp)) ?_;refine zX (ZcF 10 _ (ZaP el_14.h (by simp))) ?_;exact Zj l_14 () (ZZs H9) (Za (Za (Zk (ZC rfl) (Zk (ZC rfl) (Za (Zd _)))))) (Zc rfl (Ze _))
    ·refine zg ?_;exact Zj some_6 () (ZZs H9) (Za (Za (Zk (ZC rfl) (Zk (ZC rfl) (Za (Zd _)))))) (Zc rfl (Ze _))
   rintro some_8 ⟨⟩ hp;replace hp:=hp.symm;subst hp;refine zg ?_;refine zb H7 fun x_15 _ H7=>?_
   exact Zq ⟨x_15,some_8⟩ () (ZZs H7) (Za (Za (Zk (ZC rfl) (Zk (ZC rfl) (Za (Zd _)))))) (Zc rfl (Ze _))
  ·refine zg ?_;exact Zj some_6 () (he7 _ (ZZs H7)).symm (Zk (ZC rfl) (Zd _)) (Zc rfl (Ze _))
 rintro some_3 ⟨⟩ hp;replace hp:=hp.symm;subst hp;refine zg ?_;obtain rfl:=ZZi H;exact ZA rfl ⟨b9_1,p9_1,c9_1⟩ (ZC rfl) (Zc rfl (Ze _))
instance flash_only_c:Fd2 174 ZbS fun r=>D r:=⟨fun w v0 v1 hA h0 h1 H=>(on2 (Zls H) w v0 v1 hA h0 h1).mono fun e w' h=>Zhn hA h⟩
def Zco (x0:Wear):Option Bool:=
 some (decide (x0.Live>(0:Int)))
instance flash_writer_front_1_c:Fd1 180 Zco fun r=>D r:=en1 Tryz.func180 rfl Tryz.ntmps180 fun _ _ _ _ _ H=>by
 unfold Zco at H;exact zY H
instance {Γ:Env}:Has Γ (.func 180) (D (⟨Zco⟩:F1 Tryz.prog Wear Bool)):=⟨fun a A w _=>F1.const (P:=Tryz.prog) (f:=180) fun w v0 hA h0 e=>flash_writer_front_1_c.h w v0 hA h0 e⟩
def Zcn (x0:Wear):Option Bool:=
 some (decide (x0.Live=(0:Int)))
instance flash_writer_front_2_c:Fd1 181 Zcn fun r=>D r:=en1 Tryz.func181 rfl Tryz.ntmps181 fun _ _ _ _ _ H=>by
 unfold Zcn at H;exact zY H
instance {Γ:Env}:Has Γ (.func 181) (D (⟨Zcn⟩:F1 Tryz.prog Wear Bool)):=⟨fun a A w _=>F1.const (P:=Tryz.prog) (f:=181) fun w v0 hA h0 e=>flash_writer_front_2_c.h w v0 hA h0 e⟩
def Zb3 (x_2:(List Wear)) (idle_9:Int) (x_10:Int):Option ((Int×Int)⊕Int):=
 bif (decide (x_10<(x_2.length:Int))) then (((idx x_2 x_10).bind fun x_14=>bif ((!x_14.Bad)&&(decide (x_14.Live=(0:Int)))) then ((Zas idle_9 1).bind fun x_16=>some x_16) else (some idle_9)).bind fun idle_12=>(Zas x_10 1).bind fun x_17=>some (.inl (idle_12,x_17))) else (some (.inr idle_9))
def Zb4 (w0x:flash_writer) (lists0:((List (List Int))×(List Int))):Option (Int×Int×flash_writer):=
 (idx lists0.1 1).bind fun x_1=>(Zam w0x (lists0.1.set 1 lists0.2)).bind fun x_2=>(ZbS x_2 (⟨Zco⟩:(F1 Tryz.prog Wear Bool))).bind fun x_4=>(ZdM x_4 w0x.Vol.Chip.Pages).bind fun r_5=>bif r_5.2 then ((Zas r_5.1 2).bind fun x_6=>some (x_6,(0:Int),w0x)) else ((ZM (fun s=>Zb3 x_2 s.1 s.2) ((0:Int),(0:Int))).bind fun idle_7=>bif ((decide (idle_7=(0:Int)))||((decide (idle_7=(1:Int)))&&(!w0x.beyond))) then (some ((0:Int),(5:Int),w0x)) else ((ZbS x_2 (⟨Zcn⟩:(F1 Tryz.prog Wear Bool))).bind fun x_18=>(ZdM x_18 w0x.Vol.Chip.Pages).bind fun r_19=>bif r_19.2 then ((Zas r_19.1 2).bind fun x_20=>some (x_20,(0:Int),w0x)) else ((ZdW x_18 w0x.Vol.Chip.Pages).bind fun r_21=>(Zas r_21.1 2).bind fun x_22=>(Zas r_21.1 2).bind fun x_23=>(ZV w0x x_23).bind fun x_24=>some (x_22,x_24.1,x_24.2))))
theorem Zjg {w0x:flash_writer} {lists0:((List (List Int))×(List Int))} {b0:Nat} {b1 c1:Nat} {p1:Prop} {b1v c1v:Nat} {p1v:Prop} {r:(Int×Int×flash_writer)} (H:Zb4 w0x lists0=some r):CO2 150 [⟨b0,True,One w0x⟩,⟨b1,p1,Ct.mix (Row (lists0.1:List (List Int)) c1) 1 (Sl b1v p1v 0 (List.length lists0.2) c1v)⟩,⟨b1v,p1v,Row (lists0.2:List Int) c1v⟩] (Pt b0 0) (Sl b1 p1 0 lists0.1.length c1) (fun g:Unit=>Tup [D r.1,D r.2.1]) fun g=>[⟨b0,True,One r.2.2⟩,⟨b1,p1,Ct.mix (Row (lists0.1:List (List Int)) c1) 1 (Sl b1v p1v 0 (List.length lists0.2) c1v)⟩,⟨b1v,p1v,Row (lists0.2:List Int) c1v⟩]:=eO2 Tryz.func150 rfl Tryz.ntmps150 fun A w hA hO=>by
 unfold Zb4 at H;refine zC ?_;refine zX (ZaW [2,9] [b1,b1v] mix (by kernel_rfl) (by kernel_rfl)) ?_;refine zn H fun _ ex_1 H=>?_
 refine zn H fun x_2 ex_2 H=>?_
 refine zX (Zfi (fun g=>(Zgn (xs:=x_2) [b0,b1,b1v] (ZcW Zx trivial (by simp)) (ArgB.svMix rfl rfl rfl (by have:=(Zil ex_1.h).2;omega) (by simp) (by simp)) fun w v0 v1 hA hO hap hks h0 h1=>Zb7 ex_2.h w v0 v1 hA hO hap hks h0 (toD h1))) rfl) ?_;refine Zfi (fun g=>Zgo rfl ZeO) rfl ?_;refine zC ?_;rintro ⟨⟨_,⟨b20_2,p20_2,c20_2⟩⟩,_⟩;dsimp only [Fam.nextS,Fam.nextN,Fam.one,List.cons_append,List.nil_append];refine zg ?_;refine TS.pub b20_2 (PubE.set 28 (ZG PlS.all rfl) (PubE.set 6 (ZG PlS.all rfl) PubE.refl)) ?_;refine zb H fun _ _ H=>?_
 refine zb H fun _ _ H=>?_
 refine zc H (fun hc H=>?_) fun hc H=>?_
 ·refine zg ?_;refine zb H fun _ _ H=>?_
  obtain rfl:=ZZi H;exact Zap rfl rfl () (.cons Cv.le (.cons Cv.le .nil)) (Zc rfl (Zc rfl (Zc rfl (Ze _))))
 ·refine zC ?_;refine zC ?_;refine zh H fun o_8 H8 H=>?_
  refine Zn (fun s:Int=>o_8=s) (fun (idle_7:Int) (_:Unit)=>(Env.set (Env.set (Env.set (Env.set Env.nil 0 (Pt b0 0)) 6 (D x_2)) 7 (D w0x.Vol.Chip.Pages)) 10 (D idle_7))) (fun (idle_7:Int) (_:Unit)=>[⟨b0,True,(One w0x)⟩,⟨b1,p1,(Ct.mix (Row (lists0.1:List (List Int)) c1) 1 (Sl b1v p1v 0 lists0.2.length c1v))⟩,⟨b1v,p1v,(Row (lists0.2:List Int) c1v)⟩]) ?_ ?_
  ·skip;refine Zp<|Zu H8 (fun ⟨idle_9,x_10⟩ (_:Unit)=>(Env.set (Env.set (Env.set (Env.set (Env.set (Env.set (Env.set Env.nil 0 (Pt b0 0)) 6 (D x_2)) 7 (D w0x.Vol.Chip.Pages)) 10 (D idle_9)) 37 (D x_2)) 38 (D ((x_2.length:Int):Int))) 39 (D x_10))) (fun ⟨idle_9,x_10⟩ (_:Unit)=>[⟨b0,True,(One w0x)⟩,⟨b1,p1,(Ct.mix (Row (lists0.1:List (List Int)) c1) 1 (Sl b1v p1v 0 lists0.2.length c1v))⟩,⟨b1v,p1v,(Row (lists0.2:List Int) c1v)⟩]) () (Za (Za (Za (Za (Za (Za (Za (Zd _)))))))) (Zc rfl (Zc rfl (Zc rfl (Ze _)))) ?_;rintro ⟨idle_9,x_10⟩ ⟨⟩ x_11 H11 he11;dsimp only at H11;unfold Zb3 at H11;refine zg ?_;refine zc H11 (fun hc H11=>?_) fun hc H11=>?_
   ·refine Zaw<|Zan<|Zau ?_;refine zh H11 fun o_13 H13 H11=>?_
    refine Zn (fun s:Int=>o_13=s) (fun (idle_12:Int) (_:Unit)=>(Env.set (Env.set (Env.set (Env.set (Env.set (Env.set (Env.set Env.nil 0 (Pt b0 0)) 6 (D x_2)) 7 (D w0x.Vol.Chip.Pages)) 10 (D idle_12)) 37 (D x_2)) 38 (D ((x_2.length:Int):Int))) 39 (D x_10))) (fun (idle_12:Int) (_:Unit)=>[⟨b0,True,(One w0x)⟩,⟨b1,p1,(Ct.mix (Row (lists0.1:List (List Int)) c1) 1 (Sl b1v p1v 0 lists0.2.length c1v))⟩,⟨b1v,p1v,(Row (lists0.2:List Int) c1v)⟩]) ?_ ?_
    ·skip;refine zg ?_;refine zb H13 fun _ _ H13=>?_
     refine TS.alloc rfl fun b12_14=>zg ?_
     refine zc H13 (fun hc H13=>?_) fun hc H13=>?_
     ·refine zg ?_;refine zb H13 fun x_16 _ H13=>?_
      exact Zj x_16 () (ZZs H13) (Za (Za (Za (Za (Za (Za (Za (Zd _)))))))) (Zc rfl (Zc rfl (Zc rfl (Ze _))))
     ·refine zg ?_;exact Zj idle_9 () (ZZs H13) (Za (Za (Za (Za (Za (Za (Za (Zd _)))))))) (Zc rfl (Zc rfl (Zc rfl (Ze _))))
    rintro idle_12 ⟨⟩ hp;replace hp:=hp.symm;subst hp;refine zg ?_;refine zb H11 fun x_17 _ H11=>?_
    exact Zq ⟨idle_12,x_17⟩ () (ZZs H11) (Za (Za (Za (Za (Za (Za (Za (Zd _)))))))) (Zc rfl (Zc rfl (Zc rfl (Ze _))))
   ·refine zg ?_;exact Zj idle_9 () (he11 _ (ZZs H11)).symm (Za (Za (Za (Za (Zd _))))) (Zc rfl (Zc rfl (Zc rfl (Ze _))))
  rintro idle_7 ⟨⟩ hp;replace hp:=hp.symm;subst hp;refine zg ?_;refine zc H (fun hc H=>?_) fun hc H=>?_
  ·refine zg ?_;obtain rfl:=ZZi H;exact Zap rfl rfl () (.cons Cv.le (.cons Cv.le .nil)) (Zc rfl (Zc rfl (Zc rfl (Ze _))))
  ·refine zg ?_;refine zb H fun _ _ H=>?_
   refine zb H fun _ _ H=>?_
   refine zc H (fun hc H=>?_) fun hc H=>?_
   ·refine zg ?_;refine zb H fun _ _ H=>?_
    obtain rfl:=ZZi H;exact Zap rfl rfl () (.cons Cv.le (.cons Cv.le .nil)) (Zc rfl (Zc rfl (Zc rfl (Ze _))))
   ·refine zg ?_;refine zb H fun _ _ H=>?_
    refine zb H fun _ _ H=>?_
    refine zb H fun _ _ H=>?_
    refine zn H fun _ ex_24 H=>?_
    refine Zdw (oc2 [b0] (Zbt ex_24.h) id toD) rfl fun _=>?_
    refine zw ?_;obtain rfl:=ZZi H;exact Zap rfl rfl () (.cons Cv.le (.cons Cv.le .nil)) (Zc rfl (Zc rfl (Zc rfl (Ze _))))
def Zdp (w0x:flash_writer) (x_1:(List Wear)) (all_6:Int) (most_7:Int) (x_8:Int):Option ((Int×Int×Int)⊕(Int×Int)):=
 bif (decide (x_8<(x_1.length:Int))) then (((idx x_1 x_8).bind fun x_13=>bif x_13.Bad then (some (all_6,most_7)) else ((Zgs w0x.Vol.Chip.Pages x_13.Used).bind fun x_15=>(bif (decide (x_13.Live=(0:Int))) then ((bif (decide (x_15=(0:Int))) then (some w0x.Vol.Chip.Pages) else (some x_15)).bind fun many_19=>some ((max most_7 many_19),many_19)) else (some (most_7,x_15))).bind fun o_18=>el2 o_18 (fun most_16 many_17=>(Zas all_6 many_17).bind fun x_21=>some (x_21,most_16)))).bind fun o_12=>el2 o_12 (fun all_10 most_11=>(Zas x_8 1).bind fun x_22=>some (.inl (all_10,most_11,x_22)))) else (some (.inr (all_6,most_7)))
def Zcv (w0x:flash_writer):Option (Int×Int):=
 (Zam w0x ([w0x.Vol.At]:List (List Int))).bind fun x_1=>(ZM (fun s=>Zdp w0x x_1 s.1 s.2.1 s.2.2) ((0:Int),(0:Int),(0:Int))).bind fun o_5=>el2 o_5 (fun all_3 most_4=>(Zgs all_3 most_4).bind fun x_23=>some (x_23,all_3))
theorem ZjH {w0x:flash_writer} {b0:Nat} {r:(Int×Int)} (H:Zcv w0x=some r):CO1 147 [⟨b0,True,One w0x⟩] (Pt b0 0) (fun g:Unit=>Tup [D r.1,D r.2]) fun g=>[⟨b0,True,One w0x⟩]:=eO1 Tryz.func147 rfl Tryz.ntmps147 fun A w hA hO=>by
 unfold Zcv at H;refine zg ?_;refine TSx (OpY.buildSlice [.tmp 14] rfl rfl (by decide)) ?_;refine zn H fun x_1 ex_1 H=>?_
 refine Zdw (Zgn (xs:=x_1) [b0] (ZcW Zx trivial (by simp)) ArgB.d fun w v0 v1 hA hO hap hks h0 h1=>Zb7 ex_1.h w v0 v1 hA hO hap hks h0 (toD h1)) rfl fun ⟨b16_1,p16_1,c16_1⟩=>?_
 refine TSx (Zax (n:=x_1.length) rfl) ?_;refine zC ?_;refine zh H fun o_5 H5 H=>?_
 refine Zn (fun s:(Int×Int)=>o_5=s) (fun ⟨all_3,most_4⟩ (_:Unit)=>(Env.set (Env.set Env.nil 4 (D all_3)) 5 (D most_4))) (fun ⟨all_3,most_4⟩ (_:Unit)=>[⟨b0,True,(One w0x)⟩]) ?_ ?_
 ·skip;refine Zp<|Zu H5 (fun ⟨all_6,most_7,x_8⟩ (_:Unit)=>(Env.set (Env.set (Env.set (Env.set (Env.set (Env.set Env.nil 0 (Pt b0 0)) 4 (D all_6)) 5 (D most_7)) 16 (Sl b16_1 p16_1 0 x_1.length c16_1)) 17 (D ((x_1.length:Int):Int))) 18 (D x_8))) (fun ⟨all_6,most_7,x_8⟩ (_:Unit)=>[⟨b16_1,p16_1,(Row (x_1:List Wear) c16_1)⟩,⟨b0,True,(One w0x)⟩]) () (Za (Za (Zk (ZC rfl) (Za (Za (Za (Zd _))))))) (Zc rfl (Zc rfl (Ze _))) ?_;rintro ⟨all_6,most_7,x_8⟩ ⟨⟩ x_9 H9 he9;dsimp only at H9;unfold Zdp at H9;refine zg ?_;refine zc H9 (fun hc H9=>?_) fun hc H9=>?_
  ·refine Zaw<|Zan<|Zau ?_;refine zh H9 fun o_12 H12 H9=>?_
   refine Zn (fun s:(Int×Int)=>o_12=s) (fun ⟨all_10,most_11⟩ (_:Unit)=>(Env.set (Env.set (Env.set (Env.set (Env.set (Env.set Env.nil 0 (Pt b0 0)) 4 (D all_10)) 5 (D most_11)) 16 (Sl b16_1 p16_1 0 x_1.length c16_1)) 17 (D ((x_1.length:Int):Int))) 18 (D x_8))) (fun ⟨all_10,most_11⟩ (_:Unit)=>[⟨b16_1,p16_1,(Row (x_1:List Wear) c16_1)⟩,⟨b0,True,(One w0x)⟩]) ?_ ?_
   ·skip;refine zg ?_;refine zn H12 fun _ ex_13 H12=>?_
    refine zX (Za1 (Zm (ZI ex_13.h rfl)) rfl) ?_;refine TS.alloc rfl fun b7_13=>zg ?_
    refine zc H12 (fun hc H12=>?_) fun hc H12=>?_
    ·refine zg ?_;exact Zj ⟨all_6,most_7⟩ () (ZZs H12) (Za (Za (Zk (ZC rfl) (Za (Za (Za (Zd _))))))) (Zc rfl (Zc rfl (Ze _)))
    ·refine zg ?_;refine zo H12 fun x_15 _ H12=>?_
     refine zC ?_;refine Zau ?_;refine zh H12 fun o_18 H18 H12=>?_
     refine Zn (fun s:(Int×Int)=>o_18=s) (fun ⟨most_16,many_17⟩ (_:Unit)=>(Env.set (Env.set (Env.set (Env.set (Env.set (Env.set (Env.set Env.nil 0 (Pt b0 0)) 4 (D all_6)) 5 (D most_16)) 8 (D many_17)) 16 (Sl b16_1 p16_1 0 x_1.length c16_1)) 17 (D ((x_1.length:Int):Int))) 18 (D x_8))) (fun ⟨most_16,many_17⟩ (_:Unit)=>[⟨b16_1,p16_1,(Row (x_1:List Wear) c16_1)⟩,⟨b0,True,(One w0x)⟩]) ?_ ?_
     ·skip;refine zg ?_;refine zc H18 (fun hc H18=>?_) fun hc H18=>?_
      ·refine Zau ?_;refine zh H18 fun o_20 H20 H18=>?_
       refine Zn (fun s:Int=>o_20=s) (fun (many_19:Int) (_:Unit)=>(Env.set (Env.set (Env.set (Env.set (Env.set (Env.set (Env.set Env.nil 0 (Pt b0 0)) 4 (D all_6)) 5 (D most_7)) 8 (D many_19)) 16 (Sl b16_1 p16_1 0 x_1.length c16_1)) 17 (D ((x_1.length:Int):Int))) 18 (D x_8))) (fun (many_19:Int) (_:Unit)=>[⟨b16_1,p16_1,(Row (x_1:List Wear) c16_1)⟩,⟨b0,True,(One w0x)⟩]) ?_ ?_
       ·skip;refine zg ?_;refine zc H20 (fun hc H20=>?_) fun hc H20=>?_
        ·refine zg ?_;exact Zj w0x.Vol.Chip.Pages () (ZZs H20) (Za (Za (Zk (ZC rfl) (Za (Za (Za (Za (Zd _)))))))) (Zc rfl (Zc rfl (Ze _)))
        ·refine zg ?_;exact Zj x_15 () (ZZs H20) (Za (Za (Zk (ZC rfl) (Za (Za (Za (Za (Zd _)))))))) (Zc rfl (Zc rfl (Ze _)))
       rintro many_19 ⟨⟩ hp;replace hp:=hp.symm;subst hp;refine zg ?_;exact Zj ⟨(max most_7 many_19),many_19⟩ () (ZZs H18) (Za (Za (Zk (ZC rfl) (Za (Za (Za (Za (Zd _)))))))) (Zc rfl (Zc rfl (Ze _)))
      ·refine zg ?_;exact Zj ⟨most_7,x_15⟩ () (ZZs H18) (Za (Za (Zk (ZC rfl) (Za (Za (Za (Za (Zd _)))))))) (Zc rfl (Zc rfl (Ze _)))
     rintro ⟨most_16,many_17⟩ ⟨⟩ hp;replace hp:=hp.symm;subst hp;replace H12:=Zeo H12;refine zg ?_;refine zb H12 fun x_21 _ H12=>?_
     exact Zj ⟨x_21,most_16⟩ () (ZZs H12) (Za (Za (Zk (ZC rfl) (Za (Za (Za (Zd _))))))) (Zc rfl (Zc rfl (Ze _)))
   rintro ⟨all_10,most_11⟩ ⟨⟩ hp;replace hp:=hp.symm;subst hp;replace H9:=Zeo H9;refine zg ?_;refine zb H9 fun x_22 _ H9=>?_
   exact Zq ⟨all_10,most_11,x_22⟩ () (ZZs H9) (Za (Za (Zk (ZC rfl) (Za (Za (Za (Zd _))))))) (Zc rfl (Zc rfl (Ze _)))
  ·refine zg ?_;exact Zj ⟨all_6,most_7⟩ () (he9 _ (ZZs H9)).symm (Za (Za (Zd _))) (Zc rfl (Ze _))
 rintro ⟨all_3,most_4⟩ ⟨⟩ hp;replace hp:=hp.symm;subst hp;replace H:=Zeo H;refine zg ?_;refine zb H fun _ _ H=>?_
 obtain rfl:=ZZi H;exact Zap rfl rfl () (.cons Cv.le (.cons Cv.le .nil)) (Zc rfl (Ze _))
end Go.Proofs.YtkmojgfenlgchaaGreatDoor.Tr
namespace Go.Proofs.YtkmojgfenlgchaaGreatDoor.Tr
open Go Go.RowKit
set_option maxRecDepth 100000
set_option synthInstance.maxHeartbeats 400000
set_option synthInstance.maxSize 4096
def ZcP (l0:(List Wear)) (at_5:Int) (most_6:Int) (x_7:Int):Option ((Int×Int×Int)⊕(Int×Int)):=
 bif (decide (x_7<(l0.length:Int))) then (((idx l0 x_7).bind fun x_12=>bif ((x_12.Bad||(decide (x_12.Live=(0:Int))))||(decide (x_12.Worn≥(1099511627776:Int)))) then (some (at_5,most_6)) else ((Zgs x_12.Used x_12.Live).bind fun x_14=>bif (decide (x_14>most_6)) then (some (x_7,x_14)) else (some (at_5,most_6)))).bind fun o_11=>el2 o_11 (fun at_9 most_10=>(Zas x_7 1).bind fun x_15=>some (.inl (at_9,most_10,x_15)))) else (some (.inr (at_5,most_6)))
def ZbI (w0x:flash_writer) (l0:(List Wear)):Option (Int×Bool):=
 (ZfP l0 w0x.Vol.Chip.Pages).bind fun r_1=>bif r_1.2 then (some (r_1.1,true)) else ((ZM (fun s=>ZcP l0 s.1 s.2.1 s.2.2) ((0:Int),(0:Int),(0:Int))).bind fun o_4=>el2 o_4 (fun at_2 most_3=>some (at_2,(decide (most_3>(0:Int))))))
theorem Zip {w0x:flash_writer} {l0:(List Wear)} {b0:Nat} {r:(Int×Bool)} (H:ZbI w0x l0=some r):CO2 171 [⟨b0,True,One w0x⟩] (Pt b0 0) (D l0) (fun g:Unit=>Tup [D r.1,D r.2]) fun g=>[⟨b0,True,One w0x⟩]:=eO2 Tryz.func171 rfl Tryz.ntmps171 fun A w hA hO=>by
 unfold ZbI at H;refine zg ?_;refine zb H fun _ _ H=>?_
 refine zc H (fun hc H=>?_) fun hc H=>?_
 ·refine zg ?_;obtain rfl:=ZZi H;exact Zap rfl rfl () (.cons Cv.le (.cons Cv.le .nil)) (Zc rfl (Ze _))
 ·refine zC ?_;refine zC ?_;refine zh H fun o_4 H4 H=>?_
  refine Zn (fun s:(Int×Int)=>o_4=s) (fun ⟨at_2,most_3⟩ (_:Unit)=>(Env.set (Env.set Env.nil 8 (D at_2)) 9 (D most_3))) (fun ⟨at_2,most_3⟩ (_:Unit)=>[⟨b0,True,(One w0x)⟩]) ?_ ?_
  ·skip;refine Zp<|Zu H4 (fun ⟨at_5,most_6,x_7⟩ (_:Unit)=>(Env.set (Env.set (Env.set (Env.set (Env.set Env.nil 8 (D at_5)) 9 (D most_6)) 26 (D l0)) 27 (D ((l0.length:Int):Int))) 28 (D x_7))) (fun ⟨at_5,most_6,x_7⟩ (_:Unit)=>[⟨b0,True,(One w0x)⟩]) () (Za (Za (Za (Za (Za (Zd _)))))) (Zc rfl (Ze _)) ?_;rintro ⟨at_5,most_6,x_7⟩ ⟨⟩ x_8 H8 he8;dsimp only at H8;unfold ZcP at H8;refine zg ?_;refine zc H8 (fun hc H8=>?_) fun hc H8=>?_
   ·refine Zaw<|Zan<|Zau ?_;refine zh H8 fun o_11 H11 H8=>?_
    refine Zn (fun s:(Int×Int)=>o_11=s) (fun ⟨at_9,most_10⟩ (_:Unit)=>(Env.set (Env.set (Env.set (Env.set (Env.set Env.nil 8 (D at_9)) 9 (D most_10)) 26 (D l0)) 27 (D ((l0.length:Int):Int))) 28 (D x_7))) (fun ⟨at_9,most_10⟩ (_:Unit)=>[⟨b0,True,(One w0x)⟩]) ?_ ?_
    ·skip;refine zg ?_;refine zb H11 fun _ _ H11=>?_
     refine TS.alloc rfl fun b11_12=>zg ?_
     refine zc H11 (fun hc H11=>?_) fun hc H11=>?_
     ·refine zg ?_;exact Zj ⟨at_5,most_6⟩ () (ZZs H11) (Za (Za (Za (Za (Za (Zd _)))))) (Zc rfl (Ze _))
     ·refine zg ?_;refine zb H11 fun x_14 _ H11=>?_
      refine zc H11 (fun hc H11=>?_) fun hc H11=>?_
      ·refine zg ?_;exact Zj ⟨x_7,x_14⟩ () (ZZs H11) (Za (Za (Za (Za (Za (Zd _)))))) (Zc rfl (Ze _))
      ·refine zg ?_;exact Zj ⟨at_5,most_6⟩ () (ZZs H11) (Za (Za (Za (Za (Za (Zd _)))))) (Zc rfl (Ze _))
    rintro ⟨at_9,most_10⟩ ⟨⟩ hp;replace hp:=hp.symm;subst hp;replace H8:=Zeo H8;refine zg ?_;refine zb H8 fun x_15 _ H8=>?_
    exact Zq ⟨at_9,most_10,x_15⟩ () (ZZs H8) (Za (Za (Za (Za (Za (Zd _)))))) (Zc rfl (Ze _))
   ·refine zg ?_;exact Zj ⟨at_5,most_6⟩ () (he8 _ (ZZs H8)).symm (Za (Za (Zd _))) (Zc rfl (Ze _))
  rintro ⟨at_2,most_3⟩ ⟨⟩ hp;replace hp:=hp.symm;subst hp;replace H:=Zeo H;refine zg ?_;obtain rfl:=ZZi H;exact Zap rfl rfl () (.cons Cv.le (.cons Cv.le .nil)) (Zc rfl (Ze _))
def Zb6 (w0x:flash_writer):Option Bool:=
 some (decide ((UInt64.ofNat 281474976710656)≤(w0x.Vol.Gen+(UInt64.ofNat 2))))
theorem Zji {A:Nat→Prop} {w0x:flash_writer}  {r:Bool} (w:World) (v0:Value) (hA:∀ k,w.heap.size≤k→A k)  (h0:(ZlO w0x).p A w v0) (H:Zb6 w0x=some r) :
    Calls Tryz.prog 172 #[v0] w (Ret A w (D r)):=by
 unfold Zb6 at H;refine zX (enter1 hA Tryz.func172 rfl Tryz.ntmps172 rfl h0) ?_;refine TSx ZiH<|TSx ZkA ?_;exact zY H
def ZbZ (x0:Wear):Option Bool:=
 some (decide (x0.Used=(0:Int)))
instance flash_writer_target_1_c:Fd1 208 ZbZ fun r=>D r:=en1 Tryz.func208 rfl Tryz.ntmps208 fun _ _ _ _ _ H=>by
 unfold ZbZ at H;exact zY H
instance {Γ:Env}:Has Γ (.func 208) (D (⟨ZbZ⟩:F1 Tryz.prog Wear Bool)):=⟨fun a A w _=>F1.const (P:=Tryz.prog) (f:=208) fun w v0 hA h0 e=>flash_writer_target_1_c.h w v0 hA h0 e⟩
def Zc6 (x0:Wear) (cap1:Int):Option Bool:=
 some (decide (x0.Used=cap1))
theorem ZhJ {A:Nat→Prop} {x0:Wear} {cap1:Int}  {r:Bool} (w:World) (v0 v1:Value) (hA:∀ k,w.heap.size≤k→A k)  (h0:(D x0).p A w v0) (h1:(ZlO cap1).p A w v1) (H:Zc6 x0 cap1=some r) :
    Calls Tryz.prog 209 #[v0,v1] w (Ret A w (D r)):=by
 unfold Zc6 at H;refine enter2 hA Tryz.func209 rfl Tryz.ntmps209 rfl h0 h1 ?_;exact zY H
def ZbY (x0:Wear):Option Bool:=
 some (decide (x0.Worn<(1099511627776:Int)))
instance flash_writer_target_3_c:Fd1 210 ZbY fun r=>D r:=en1 Tryz.func210 rfl Tryz.ntmps210 fun _ _ _ _ _ H=>by
 unfold ZbY at H;exact zY H
instance {Γ:Env}:Has Γ (.func 210) (D (⟨ZbY⟩:F1 Tryz.prog Wear Bool)):=⟨fun a A w _=>F1.const (P:=Tryz.prog) (f:=210) fun w v0 hA h0 e=>flash_writer_target_3_c.h w v0 hA h0 e⟩
def ZbK (w0x:flash_writer) (l0:(List Wear)):Option (Int×Int×flash_writer):=
 (ZbS l0 (⟨ZbZ⟩:(F1 Tryz.prog Wear Bool))).bind fun x_2=>(ZdM x_2 w0x.Vol.Chip.Pages).bind fun r_3=>bif r_3.2 then ((Zas r_3.1 2).bind fun x_4=>some (x_4,(0:Int),w0x)) else ((ZbS l0 (⟨fun x0=>Zc6 x0 w0x.Vol.Chip.Pages⟩:(F1 Tryz.prog Wear Bool))).bind fun x_5=>(ZdW x_5 w0x.Vol.Chip.Pages).bind fun r_6=>bif r_6.2 then ((Zas r_6.1 2).bind fun x_7=>(Zas r_6.1 2).bind fun x_8=>(ZV w0x x_8).bind fun x_9=>some (x_7,x_9.1,x_9.2)) else ((ZbS l0 (⟨ZbY⟩:(F1 Tryz.prog Wear Bool))).bind fun x_11=>(ZdW x_11 w0x.Vol.Chip.Pages).bind fun r_12=>bif r_12.2 then ((Zas r_12.1 2).bind fun x_13=>(Zas r_12.1 2).bind fun x_14=>(ZV w0x x_14).bind fun x_15=>some (x_13,x_15.1,x_15.2)) else (some ((0:Int),(6:Int),w0x))))
theorem Ziq {w0x:flash_writer} {l0:(List Wear)} {b0:Nat} {r:(Int×Int×flash_writer)} (H:ZbK w0x l0=some r):CO2 194 [⟨b0,True,One w0x⟩] (Pt b0 0) (D l0) (fun g:Unit=>Tup [D r.1,D r.2.1]) fun g=>[⟨b0,True,One r.2.2⟩]:=eO2 Tryz.func194 rfl Tryz.ntmps194 fun A w hA hO=>by
 unfold ZbK at H;refine zg ?_;refine TS.alloc rfl fun b6_0=>zg ?_
 refine zb H fun _ _ H=>?_
 refine zb H fun _ _ H=>?_
 refine zc H (fun hc H=>?_) fun hc H=>?_
 ·refine zg ?_;refine zb H fun _ _ H=>?_
  obtain rfl:=ZZi H;exact Zap rfl rfl () (.cons Cv.le (.cons Cv.le .nil)) (Zc rfl (Ze _))
 ·refine zg ?_;refine TS.pub b6_0 (PubE.set 6 (PubC.pq Zx) PubE.refl) ?_;refine TSx (OpY.mk1_1 fun w v0 v1 hA h0 h1 e=>ZhJ w v0 v1 hA h0 h1 e) ?_;refine zb H fun _ _ H=>?_
  refine zb H fun _ _ H=>?_
  refine zc H (fun hc H=>?_) fun hc H=>?_
  ·refine zg ?_;refine zb H fun _ _ H=>?_
   refine zb H fun _ _ H=>?_
   refine zn H fun _ ex_9 H=>?_
   refine Zdw (oc2 [b0] (Zbt ex_9.h) id toD) rfl fun _=>?_
   refine zw ?_;obtain rfl:=ZZi H;exact Zap rfl rfl () (.cons Cv.le (.cons Cv.le .nil)) (Zc rfl (Ze _))
  ·refine zg ?_;refine zb H fun _ _ H=>?_
   refine zb H fun _ _ H=>?_
   refine zc H (fun hc H=>?_) fun hc H=>?_
   ·refine zg ?_;refine zb H fun _ _ H=>?_
    refine zb H fun _ _ H=>?_
    refine zn H fun _ ex_15 H=>?_
    refine Zdw (oc2 [b0] (Zbt ex_15.h) id toD) rfl fun _=>?_
    refine zw ?_;obtain rfl:=ZZi H;exact Zap rfl rfl () (.cons Cv.le (.cons Cv.le .nil)) (Zc rfl (Ze _))
   ·refine zg ?_;obtain rfl:=ZZi H;exact Zap rfl rfl () (.cons Cv.le (.cons Cv.le .nil)) (Zc rfl (Ze _))
def ZaB (e0:Int):Option Int:=
 bif (decide (e0=(9:Int))) then (some (0:Int)) else (some e0)
instance flash_settled_c:Fd1 177 ZaB fun r=>D r:=en1 Tryz.func177 rfl Tryz.ntmps177 fun _ _ _ _ _ H=>by
 unfold ZaB at H;exact zY H
def Zdq (w0x:flash_writer) (from0:Int) (to0:Int) (x_6:Int) (at_7:(List Int)) (w_8:flash_writer):Option ((Int×(List Int)×flash_writer)⊕(((List Int)×flash_writer)⊕(Bool×Int×flash_writer))):=
 bif (decide (x_6<(w0x.Vol.At.length:Int))) then (((idx w0x.Vol.At x_6).bind fun x_13=>(gb (!(decide (x_13=(0:Int)))) (Zgs x_13 1)).bind fun x_14=>(gb (!(decide (x_13=(0:Int)))) (ZjS x_14 w0x.Vol.Chip.Pages)).bind fun x_15=>bif ((decide (x_13=(0:Int)))||(decide (x_15≠from0))) then (some (.inl (at_7,w_8))) else ((bif (decide (to0<(0:Int))) then ((idx ([w_8.Vol.At,[]]:List (List Int)) 1).bind fun x_19=>(Zam w_8 (([w_8.Vol.At,[]]:List (List Int)).set 1 at_7)).bind fun x_20=>(Zgs from0 2).bind fun x_22=>(idx x_20 x_22).bind fun x_23=>(some ((x_20.set (Int.toNat x_22) (⟨0,0,0,true⟩:Wear)):(List Wear))).bind fun l_24=>(ZdM l_24 w0x.Vol.Chip.Pages).bind fun r_25=>bif (!r_25.2) then (some (.inr (false,(6:Int),w_8))) else ((Zas r_25.1 2).bind fun x_29=>some (.inl x_29))) else (some (.inl to0))).bind fun o_17=>elS o_17 (fun block_16=>(ZfH w_8.Vol x_6).bind fun x_30=>(some ((⟨(1:Int),x_6,(w_8.Vol.Gen+(UInt64.ofNat 1)),x_30⟩:Page):Page)).bind fun px_32=>(Zfr px_32 w_8.Vol.Chip.Size).bind fun r_33=>bif (decide (r_33.2≠(0:Int))) then (some (.inr (false,r_33.2,w_8))) else ((idx w_8.Vol.Chip.Blocks block_16).bind fun x_36=>(ZK w_8 block_16 r_33.1).bind fun x_37=>bif (decide (x_37.1≠(0:Int))) then ((ZaB x_37.1).bind fun x_39=>some (.inr (false,x_39,x_37.2))) else ((mulI block_16 w0x.Vol.Chip.Pages).bind fun x_42=>(Zas x_42 x_36.Used).bind fun x_43=>(Zas x_43 1).bind fun x_44=>(idx at_7 x_6).bind fun x_45=>(some ((at_7.set (Int.toNat x_6) x_44):(List Int))).bind fun l_46=>some (.inl (l_46,x_37.2))))) (fun q=>some (.inr q)))).bind fun o_12=>elS o_12 (fun s=>el2 s (fun at_10 w_11=>(Zas x_6 1).bind fun x_47=>some (.inl (x_47,at_10,w_11)))) (fun q=>some (.inr (.inr q)))) else (some (.inr (.inl (at_7,w_8))))
def ZbC (w0x:flash_writer) (from0:Int) (to0:Int):Option (Bool×Int×flash_writer):=
 (ZaL w0x.Vol.At).bind fun x_1=>(ZM (fun s=>Zdq w0x from0 to0 s.1 s.2.1 s.2.2) ((0:Int),x_1,w0x)).bind fun o_5=>elS o_5 (fun s=>el2 s (fun at_3 w_4=>(Zbl w_4 at_3).bind fun x_48=>some ((decide (x_48.1=(0:Int))),x_48.1,x_48.2))) (fun q=>some q)
theorem ZjI {w0x:flash_writer} {from0:Int} {to0:Int} {b0:Nat} {r:(Bool×Int×flash_writer)} (H:ZbC w0x from0 to0=some r):CO3 196 [⟨b0,True,One w0x⟩] (Pt b0 0) (D from0) (D to0) (fun g:Unit=>Tup [D r.1,D r.2.1]) fun g=>[⟨b0,True,One r.2.2⟩]:=eO3 Tryz.func196 rfl Tryz.ntmps196 fun A w hA hO=>by
 unfold ZbC at H;refine zg ?_;refine zn H fun _ ex_1 H=>?_
 refine Zdw (oc1 [] (ZdX ex_1.h) toD) rfl fun ⟨b32_1,p32_1,c32_1⟩=>?_
 dsimp only [List.cons_append,List.nil_append];refine zC ?_;refine zC ?_;refine zh H fun o_5 H5 H=>?_
 refine Zn (fun s:((List Int)×flash_writer)=>o_5=.inl s) (fun ⟨at_3,w_4⟩ (_:Unit)=>(Env.set (Env.set Env.nil 0 (Pt b0 0)) 9 (Sl b32_1 p32_1 0 at_3.length c32_1))) (fun ⟨at_3,w_4⟩ (_:Unit)=>[⟨b32_1,p32_1,(Row (at_3:List Int) c32_1)⟩,⟨b0,True,(One w_4)⟩]) ?_ ?_
 ·skip;refine Zp<|Zu H5 (fun ⟨x_6,at_7,w_8⟩ (_:Unit)=>(Env.set (Env.set (Env.set (Env.set (Env.set (Env.set (Env.set (Env.set Env.nil 0 (Pt b0 0)) 1 (D from0)) 2 (D to0)) 8 (D w0x.Vol.Chip.Pages)) 9 (Sl b32_1 p32_1 0 at_7.length c32_1)) 37 (D w0x.Vol.At)) 38 (D ((w0x.Vol.At.length:Int):Int))) 39 (D x_6))) (fun ⟨x_6,at_7,w_8⟩ (_:Unit)=>[⟨b32_1,p32_1,(Row (at_7:List Int) c32_1)⟩,⟨b0,True,(One w_8)⟩]) () (Za (Za (Za (Zk (ZC rfl) (Za (Za (Za (Za (Zd _))))))))) (Zc rfl (Zc rfl (Ze _))) ?_;rintro ⟨x_6,at_7,w_8⟩ ⟨⟩ x_9 H9 he9;dsimp only at H9;unfold Zdq at H9;refine zg ?_;refine zc H9 (fun hc H9=>?_) fun hc H9=>?_
  ·refine Zaw<|Zan<|Zau ?_;refine zh H9 fun o_12 H12 H9=>?_
   refine Zn (fun s:((List Int)×flash_writer)=>o_12=.inl s) (fun ⟨at_10,w_11⟩ (_:Unit)=>(Env.set (Env.set (Env.set (Env.set (Env.set (Env.set (Env.set (Env.set Env.nil 0 (Pt b0 0)) 1 (D from0)) 2 (D to0)) 8 (D w0x.Vol.Chip.Pages)) 9 (Sl b32_1 p32_1 0 at_10.length c32_1)) 37 (D w0x.Vol.At)) 38 (D ((w0x.Vol.At.length:Int):Int))) 39 (D x_6))) (fun ⟨at_10,w_11⟩ (_:Unit)=>[⟨b32_1,p32_1,(Row (at_10:List Int) c32_1)⟩,⟨b0,True,(One w_11)⟩]) ?_ ?_
   ·skip;refine zg ?_;refine zb H12 fun _ _ H12=>?_
    refine zd H12 fun _ _ H12=>?_
    refine zd H12 fun _ _ H12=>?_
    refine zc H12 (fun hc H12=>?_) fun hc H12=>?_
    ·refine zg ?_;exact Zj ⟨at_7,w_8⟩ () (ZZs H12) (Za (Za (Za (Zk (ZC rfl) (Za (Za (Za (Za (Zd _))))))))) (Zc rfl (Zc rfl (Ze _)))
    ·refine zC ?_;refine Zau ?_;refine zh H12 fun o_17 H17 H12=>?_
     refine Zn (fun s:Int=>o_17=.inl s) (fun (block_16:Int) (_:Unit)=>(Env.set (Env.set (Env.set (Env.set (Env.set (Env.set (Env.set (Env.set (Env.set (Env.set Env.nil 0 (Pt b0 0)) 1 (D from0)) 2 (D to0)) 8 (D w0x.Vol.Chip.Pages)) 9 (Sl b32_1 p32_1 0 at_7.length c32_1)) 10 (D x_6)) 12 (D block_16)) 37 (D w0x.Vol.At)) 38 (D ((w0x.Vol.At.length:Int):Int))) 39 (D x_6))) (fun (block_16:Int) (_:Unit)=>[⟨b32_1,p32_1,(Row (at_7:List Int) c32_1)⟩,⟨b0,True,(One w_8)⟩]) ?_ ?_
     ·skip;refine zg ?_;refine zc H17 (fun hc H17=>?_) fun hc H17=>?_
      ·refine zg ?_;refine TS.build2 rfl fun b64_17=>?_
       refine zn H17 fun _ ex_19 H17=>?_
       refine zn H17 fun x_20 ex_20 H17=>?_
       refine Zdw (Zgn (xs:=x_20) [b0,b64_17,b32_1] (ZcW Zx trivial (by simp)) (ArgB.svMix rfl (by simp) rfl (by have:=(Zil ex_19.h).2;omega) (by simp) (by simp)) fun w v0 v1 hA hO hap hks h0 h1=>Zb7 ex_20.h w v0 v1 hA hO hap hks h0 (toD h1)) rfl fun ⟨b65_20,p65_20,c65_20⟩=>zg ?_
       refine zb H17 fun _ _ H17=>?_
       refine TSx (tB (⟨0,0,0,true⟩:Wear) rfl rfl) ?_;refine zn H17 fun _ ex_23 H17=>?_
       refine TSx (Zm (ZI ex_23.h rfl)) ?_;refine zC ?_;refine zn H17 fun _ el_24 H17=>?_
       refine ZB b65_20 (Zac el_24.h) ?_;refine zX (Zcg 13 _ (ZaP el_24.h (by simp))) ?_;refine zn H17 fun _ er_25 H17=>?_
       refine zX (Za1 (ZcN [b65_20] (ZiK PlS.all rfl (by simp)) ArgB.d fun w v0 v1 hA h0 h1=>wear_Front_c.h w v0 v1 hA (toD h0) (toD h1) er_25.h) rfl) ?_;refine zc H17 (fun hc H17=>?_) fun hc H17=>?_
       ·refine zC ?_;refine ZL<|Zg<|Zs ?_;have R25:=ZaM (ZZi H17) H12;refine Zg<|Zf<|Zs ?_;have R26:=ZaM (ZZi R25) H9;refine Zg<|Zg<|Zf<|Zs ?_;have R27:=ZaM (he9 _ (ZZs R26)) H;refine zg ?_;obtain rfl:=ZZi R27;exact Zap rfl rfl () (.cons Cv.le (.cons Cv.le .nil)) (Zc rfl (Ze _))
       ·refine zg ?_;refine zb H17 fun x_29 _ H17=>?_
        exact Zj x_29 () (ZZs H17) (Za (Za (Za (Za (Za (Zk (ZC rfl) (Za (Za (Za (Za (Zd _))))))))))) (Zc rfl (Zc rfl (Ze _)))
      ·refine zg ?_;exact Zj to0 () (ZZs H17) (Za (Za (Za (Za (Za (Zk (ZC rfl) (Za (Za (Za (Za (Zd _))))))))))) (Zc rfl (Zc rfl (Ze _)))
     rintro block_16 ⟨⟩ hp;replace H12:=ZbD hp H12;refine Zan ?_;refine zX (ZaW [14,15] [] mix (by kernel_rfl) (by kernel_rfl)) ?_;refine zX (Zeq ZiH rfl) ?_;refine zb H12 fun x_30 _ H12=>?_
     refine TRx (tB (⟨(1:Int),x_6,(w_8.Vol.Gen+(UInt64.ofNat 1)),x_30⟩:Page) rfl rfl)<|Zfi (fun g=>ZcD (α:=Page)) rfl<|Zdg (fun g=>(Zw (y:=((⟨(1:Int),x_6,(w_8.Vol.Gen+(UInt64.ofNat 1)),x_30⟩:Page):Page)) Zx)) rfl ?_;refine zC ?_;rintro ⟨⟨_,⟨b16_30,_⟩⟩,_⟩;dsimp only [Fam.nextS,Fam.nextN,Fam.one,List.cons_append,List.nil_append];refine zn H12 fun _ epx_32 H12=>?_
     refine zX (ZB b16_30 (Zah epx_32.h)) ?_;refine zb H12 fun _ _ H12=>?_
     refine zc H12 (fun hc H12=>?_) fun hc H12=>?_
     ·refine zC ?_;refine ZL<|Zg<|Zf<|Zs ?_;have R33:=ZaM (ZZi H12) H9;refine Zg<|Zg<|Zf<|Zs ?_;have R34:=ZaM (he9 _ (ZZs R33)) H;refine zg ?_;obtain rfl:=ZZi R34;exact Zap rfl rfl () (.cons Cv.le (.cons Cv.le .nil)) (Zc rfl (Ze _))
     ·refine zg ?_;refine zb H12 fun _ _ H12=>?_
      refine zn H12 fun x_37 ex_37 H12=>?_
      refine Zdw (oc3 [b0] (Za6 ex_37.h) id toD toD) rfl fun _=>?_
      refine zw ?_;refine zc H12 (fun hc H12=>?_) fun hc H12=>?_
      ·refine zg ?_;refine zo H12 fun _ _ H12=>?_
       refine zC ?_;refine ZL<|Zg<|Zf<|Zs ?_;have R39:=ZaM (ZZi H12) H9;refine Zg<|Zg<|Zf<|Zs ?_;have R40:=ZaM (he9 _ (ZZs R39)) H;refine zg ?_;obtain rfl:=ZZi R40;exact Zap rfl rfl () (.cons Cv.le (.cons Cv.le .nil)) (Zc rfl (Ze _))
      ·refine zg ?_;refine zb H12 fun _ _ H12=>?_
       refine zb H12 fun _ _ H12=>?_
       refine zb H12 fun _ _ H12=>?_
       refine zn H12 fun _ ex_45 H12=>?_
       refine TSx (Zm (ZI ex_45.h rfl)) ?_;refine zE ?_;refine zn H12 fun l_46 el_46 H12=>?_
       refine Zaf b32_1 (Zac el_46.h) ?_;refine zX (ZcF 9 _ (ZaP el_46.h (by simp))) ?_;exact Zj ⟨l_46,x_37.2⟩ () (ZZs H12) (Za (Za (Za (Zk (ZC rfl) (Za (Za (Za (Za (Zd _))))))))) (Zc rfl (Zc rfl (Ze _)))
   rintro ⟨at_10,w_11⟩ ⟨⟩ hp;replace H9:=ZbD hp H9;replace H9:=Zeo H9;refine zg ?_;refine zb H9 fun x_47 _ H9=>?_
   exact Zq ⟨x_47,at_10,w_11⟩ () (ZZs H9) (Za (Za (Za (Zk (ZC rfl) (Za (Za (Za (Za (Zd _))))))))) (Zc rfl (Zc rfl (Ze _)))
  ·refine zg ?_;exact Zj ⟨at_7,w_8⟩ () (he9 _ (ZZs H9)).symm (Zk (ZC rfl) (Za (Zd _))) (Zc rfl (Zc rfl (Ze _)))
 rintro ⟨at_3,w_4⟩ ⟨⟩ hp;replace H:=ZbD hp H;replace H:=Zeo H;refine zg ?_;refine TS.pub b32_1 (PubE.set 138 (ZG PlS.all rfl) (PubE.set 9 (ZG PlS.all rfl) PubE.refl)) ?_;refine zn H fun _ ex_48 H=>?_
 refine Zdw (oc2 [b0] (Zfh ex_48.h) id toD) rfl fun _=>?_
 refine zw ?_;obtain rfl:=ZZi H;exact Zap rfl rfl () (.cons Cv.le (.cons Cv.le .nil)) (Zc rfl (Ze _))
def Zbr (w0x:flash_writer) (l0:(List Wear)) (i0:Int):Option (Int×flash_writer):=
 (Zav l0).bind fun x_1=>(idx x_1 i0).bind fun x_3=>(some ((x_1.set (Int.toNat i0) (⟨0,0,0,true⟩:Wear)):(List Wear))).bind fun l_4=>(ZbK w0x l_4).bind fun x_5=>((gb (decide (x_5.2.1=(6:Int))) (Zg2 l_4 x_5.2.2.Vol.Chip.Pages)).bind fun x_10=>(gb (decide (x_5.2.1=(6:Int))) (idx l0 i0)).bind fun x_11=>bif ((decide (x_5.2.1=(6:Int)))&&(decide (x_10≥x_11.Live))) then (some ((-1:Int),(0:Int))) else (some (x_5.1,x_5.2.1))).bind fun o_9=>el2 o_9 (fun to_7 e_8=>bif (decide (e_8≠(0:Int))) then ((ZaB e_8).bind fun x_12=>some (x_12,x_5.2.2)) else ((Zas i0 2).bind fun x_13=>(ZbC x_5.2.2 x_13 to_7).bind fun x_14=>(gb (!(!x_14.1)) (idx l0 i0)).bind fun x_16=>bif ((!x_14.1)||(decide (x_16.Used=x_14.2.2.Vol.Chip.Pages))) then (some (x_14.2.1,x_14.2.2)) else ((Zas i0 2).bind fun x_17=>(ZV x_14.2.2 x_17).bind fun x_18=>(ZaB x_18.1).bind fun x_20=>some (x_20,x_18.2))))
theorem Zh7 {w0x:flash_writer} {l0:(List Wear)} {i0:Int} {b0:Nat} {r:(Int×flash_writer)} (H:Zbr w0x l0 i0=some r):CO3 173 [⟨b0,True,One w0x⟩] (Pt b0 0) (D l0) (D i0) (fun g:Unit=>D r.1) fun g=>[⟨b0,True,One r.2⟩]:=eO3 Tryz.func173 rfl Tryz.ntmps173 fun A w hA hO=>by
 unfold Zbr at H;refine zg ?_;refine zn H fun _ ex_1 H=>?_
 refine Zdw (oc1 [] (ZdY ex_1.h) toD) rfl fun ⟨b12_1,p12_1,c12_1⟩=>?_
 refine zw ?_;refine TSx (tB (⟨0,0,0,true⟩:Wear) rfl rfl) ?_;refine zn H fun _ ex_3 H=>?_
 refine TSx (Zm (ZI ex_3.h rfl)) ?_;refine zC ?_;refine zn H fun _ el_4 H=>?_
 refine ZB b12_1 (Zac el_4.h) ?_;refine zX (Zcg 7 _ (ZaP el_4.h (by simp))) ?_;refine TS.pub b12_1 (PubE.set 19 (ZG PlS.all rfl) (PubE.set 7 (ZG PlS.all rfl) PubE.refl)) ?_;refine zn H fun x_5 ex_5 H=>?_
 refine Zdw (oc2 [b0] (Ziq ex_5.h) id toD) rfl fun _=>?_
 dsimp only [List.cons_append,List.nil_append];refine zC ?_;refine Zau ?_;refine zh H fun o_9 H9 H=>?_
 refine Zn (fun s:(Int×Int)=>o_9=s) (fun ⟨to_7,e_8⟩ (_:Unit)=>(Env.set (Env.set (Env.set (Env.set (Env.set Env.nil 0 (Pt b0 0)) 1 (D l0)) 2 (D i0)) 8 (D to_7)) 9 (D e_8))) (fun ⟨to_7,e_8⟩ (_:Unit)=>[⟨b0,True,(One x_5.2.2)⟩]) ?_ ?_
 ·skip;refine zg ?_;refine zd H9 fun _ _ H9=>?_
  refine zd H9 fun _ _ H9=>?_
  refine zc H9 (fun hc H9=>?_) fun hc H9=>?_
  ·refine zg ?_;exact Zj ⟨(-1:Int),(0:Int)⟩ () (ZZs H9) (Za (Za (Za (Za (Za (Zd _)))))) (Zc rfl (Ze _))
  ·refine zg ?_;exact Zj ⟨x_5.1,x_5.2.1⟩ () (ZZs H9) (Za (Za (Za (Za (Za (Zd _)))))) (Zc rfl (Ze _))
 rintro ⟨to_7,e_8⟩ ⟨⟩ hp;replace hp:=hp.symm;subst hp;replace H:=Zeo H;refine zg ?_;refine zc H (fun hc H=>?_) fun hc H=>?_
 ·refine zg ?_;refine zb H fun _ _ H=>?_
  obtain rfl:=ZZi H;exact ZA rfl () Cv.le (Zc rfl (Ze _))
 ·refine zg ?_;refine zb H fun _ _ H=>?_
  refine zn H fun _ ex_14 H=>?_
  refine Zdw (oc3 [b0] (ZjI ex_14.h) id toD toD) rfl fun _=>?_
  refine zw ?_;refine zd H fun _ _ H=>?_
  refine zc H (fun hc H=>?_) fun hc H=>?_
  ·refine zg ?_;obtain rfl:=ZZi H;exact ZA rfl () Cv.le (Zc rfl (Ze _))
  ·refine zg ?_;refine zb H fun _ _ H=>?_
   refine zn H fun _ ex_18 H=>?_
   refine Zdw (oc2 [b0] (Zbt ex_18.h) id toD) rfl fun _=>?_
   dsimp only [List.cons_append,List.nil_append];refine zb H fun _ _ H=>?_
   obtain rfl:=ZZi H;exact ZA rfl () Cv.le (Zc rfl (Ze _))
def Za7 (x0:Wear) (cap1:flash_writer):Option Bool:=
 some ((decide (x0.Used<cap1.Vol.Chip.Pages))&&(decide (x0.Worn<(1099511627776:Int))))
theorem Zhg {A:Nat→Prop} {x0:Wear} {cap1:flash_writer}  {r:Bool} (w:World) (v0 v1:Value) (hA:∀ k,w.heap.size≤k→A k)  (h0:(D x0).p A w v0) (h1:(PtrR (cap1:flash_writer)).p A w v1) (H:Za7 x0 cap1=some r) :
    Calls Tryz.prog 175 #[v0,v1] w (Ret A w (D r)):=by
 unfold Za7 at H;refine zX (enter2 hA Tryz.func175 rfl Tryz.ntmps175 rfl h0 h1) ?_;refine TS.box rfl fun b2_0=>zg ?_
 refine TRx OpY.ldR ?_;exact zY H
def Zbs (w0x:flash_writer):Option (Int×flash_writer):=
 (Zam w0x ([w0x.Vol.At]:List (List Int))).bind fun x_2=>((ZbI w0x x_2).bind fun x_6=>(gb x_6.2 (Zb6 w0x)).bind fun x_8=>bif (x_6.2&&(!x_8)) then ((Zbr w0x x_2 x_6.1).bind fun x_9=>bif (decide (x_9.1≠(6:Int))) then (some (.inr (x_9.1,x_9.2))) else (some (.inl x_9.2))) else (some (.inl w0x))).bind fun o_5=>elS o_5 (fun w_4=>(ZbS x_2 (⟨fun x0=>Za7 x0 w_4⟩:F1 Tryz.prog Wear Bool)).bind fun x_12=>(ZdW x_12 w_4.Vol.Chip.Pages).bind fun r_14=>bif (!r_14.2) then (some ((6:Int),w_4)) else ((Zas r_14.1 2).bind fun x_15=>(ZV w_4 x_15).bind fun x_16=>(ZaB x_16.1).bind fun x_18=>some (x_18,x_16.2))) (fun q=>some q)
theorem Zh8 {A:Nat→Prop} {w0x:flash_writer} {b0:Nat} {r:(Int×flash_writer)} (w:World) (v0:Value) (hA:∀ k,w.heap.size≤k→A k) (hO:OwnIn A [⟨b0,True,One w0x⟩]) (hap:ZfD [⟨b0,True,One w0x⟩]) (hks:Pks (Pub A [⟨b0,True,One w0x⟩]) [⟨b0,True,One w0x⟩] w) (h0:(Pt b0 0).p (Pub A [⟨b0,True,One w0x⟩]) w v0) (H:Zbs w0x=some r) :
    Calls Tryz.prog 149 #[v0] w (Zld A w [⟨b0,True,One w0x⟩] (fun g:Unit=>D r.1) fun g=>[⟨b0,True,One r.2⟩]):=by
 unfold Zbs at H;refine zX (enterO1 hA hap hks Tryz.func149 rfl Tryz.ntmps149 rfl h0) ?_;refine TS.boxP rfl fun b1_0=>?_
 refine zC ?_;refine ZaW [7,8] [] mix (by kernel_rfl) (by kernel_rfl)<|TRx ZeN ?_;refine zX (Zeq ZeN rfl) ?_;refine TRx (OpY.buildSlice [.tmp 15] rfl rfl (by decide)) ?_;refine zn H fun x_2 ex_2 H=>?_
 refine Zfi (fun g=>(Zgn (xs:=x_2) [b0] (ZcW Zx trivial (by simp)) ArgB.d fun w v0 v1 hA hO hap hks h0 h1=>Zb7 ex_2.h w v0 v1 hA hO hap hks h0 (toD h1))) rfl<|Zfi (fun g=>Zgo rfl ZeO) rfl ?_;refine zC ?_;rintro ⟨⟨_,⟨b17_2,p17_2,c17_2⟩⟩,_⟩;dsimp only [Fam.nextS,Fam.nextN,Fam.one,List.cons_append,List.nil_append];refine Zau ?_;refine zh H fun o_5 H5 H=>?_
 refine Zn (fun s:flash_writer=>o_5=.inl s) (fun (w_4:flash_writer) (_:Unit)=>(Env.set (Env.set Env.nil 1 (Pt b1_0 0)) 3 (D x_2))) (fun (w_4:flash_writer) (_:Unit)=>[⟨b1_0,True,(Hold (Pt b0 0))⟩,⟨b0,True,(One w_4)⟩]) ?_ ?_
 ·skip;refine zg ?_;refine zX (Za1 ZeN rfl) ?_;refine TS.pub b17_2 (PubE.set 20 (ZG PlS.all rfl) (PubE.set 3 (ZG PlS.all rfl) PubE.refl)) ?_;refine zn H5 fun _ ex_6 H5=>?_
  refine Zdw (oc2 [b0] (Zip ex_6.h) id toD) rfl fun _=>?_
  refine zw ?_;refine Zk9 25 rfl (fun hg=>ZeN) rfl ?_;refine zm H5 fun _ ex_8 H5=>?_
  refine zX (Zk9 25 rfl (fun hg=>(ZfN [b0] (ZcW Zx trivial (by simp)) fun w v0 hA h0=>Zji w v0 hA h0 (Zbx ex_8.h hg.h))) rfl) ?_;refine zc H5 (fun hc H5=>?_) fun hc H5=>?_
  ·refine zg ?_;refine zX (Za1 ZeN rfl) ?_;refine zn H5 fun x_9 ex_9 H5=>?_
   refine Zdw (oc3 [b0] (Zh7 ex_9.h) id toD toD) rfl fun _=>?_
   refine zw ?_;refine zc H5 (fun hc H5=>?_) fun hc H5=>?_
   ·refine zC ?_;refine ZL<|Zs ?_;have R10:=ZaM (ZZi H5) H;refine zg ?_;obtain rfl:=ZZi R10;exact ZA rfl () Cv.le (Zc rfl (Ze _))
   ·refine zg ?_;exact Zj x_9.2 () (ZZs H5) (Za (Za (Zd _))) (Zc rfl (Zc rfl (Ze _)))
  ·refine zg ?_;exact Zj w0x () (ZZs H5) (Za (Za (Zd _))) (Zc rfl (Zc rfl (Ze _)))
 rintro w_4 ⟨⟩ hp;replace H:=ZbD hp H;refine zg ?_;refine TSx (OpY.clo1 (Ty.le.refl _)) ?_;refine zn H fun x_12 ex_12 H=>?_
 refine Zdw (Zgn (xs:=x_12) [b1_0,b0] ArgB.d (ArgB.clo1_1 (α:=Wear) (β:=Bool) (i:=inferInstance) (j:=inferInstance) (g:=fun x0=>Za7 x0 w_4) (ArgB.ptR (Zx (x:=w_4)) trivial (by simp) (by simp)) (fun w v0 v1 hA h0 h1 e=>Zhg w v0 v1 hA (toD h0) h1 e)) fun w v0 v1 hA hO hap hks h0 h1=>Zls ex_12.h w v0 v1 hA hO hap hks (toD h0) (toD h1)) rfl fun ⟨b39_12,p39_12,c39_12⟩=>zg ?_
 refine zX (Za1 ZeN rfl) ?_;refine zn H fun _ er_14 H=>?_
 refine zX (Za1 (ZcN [b39_12] (ZiK PlS.all rfl (by simp)) ArgB.d fun w v0 v1 hA h0 h1=>wear_Dead_c.h w v0 v1 hA (toD h0) (toD h1) er_14.h) rfl) ?_;refine zc H (fun hc H=>?_) fun hc H=>?_
 ·refine zg ?_;obtain rfl:=ZZi H;exact ZA rfl () Cv.le (Zc rfl (Ze _))
 ·refine zg ?_;refine zX (Za1 ZeN rfl) ?_;refine zb H fun _ _ H=>?_
  refine zn H fun _ ex_16 H=>?_
  refine Zdw (oc2 [b0] (Zbt ex_16.h) id toD) rfl fun _=>?_
  dsimp only [List.cons_append,List.nil_append];refine zb H fun _ _ H=>?_
  obtain rfl:=ZZi H;exact ZA rfl () Cv.le (Zc rfl (Ze _))
end Go.Proofs.YtkmojgfenlgchaaGreatDoor.Tr
namespace Go.Proofs.YtkmojgfenlgchaaGreatDoor.Tr
open Go Go.RowKit
set_option maxRecDepth 100000
set_option synthInstance.maxHeartbeats 400000
set_option synthInstance.maxSize 4096
def ZdJ (w0x:flash_writer) (many_3:Int) (x_4:Int):Option ((Int×Int)⊕Int):=
 bif (decide (x_4<(w0x.Vol.Chip.Blocks.length:Int))) then (((idx w0x.Vol.Chip.Blocks x_4).bind fun x_8=>bif x_8.Bad then ((Zas many_3 1).bind fun x_10=>some x_10) else (some many_3)).bind fun many_6=>(Zas x_4 1).bind fun x_11=>some (.inl (many_6,x_11))) else (some (.inr many_3))
def ZbR (w0x:flash_writer):Option Int:=
 (ZM (fun s=>ZdJ w0x s.1 s.2) ((0:Int),(0:Int))).bind fun many_1=>some many_1
theorem ZgG {A:Nat→Prop} {w0x:flash_writer}  {r:Int} (w:World) (v0:Value) (hA:∀ k,w.heap.size≤k→A k)  (h0:(ZlO w0x).p A w v0) (H:ZbR w0x=some r) :
    Calls Tryz.prog 71 #[v0] w (Ret A w (D r)):=by
 unfold ZbR at H;refine enter1 hA Tryz.func71 rfl Tryz.ntmps71 rfl h0 ?_;refine zC ?_;refine zC ?_;refine zC ?_;refine zh H fun o_2 H2 H=>?_
 refine Zn (fun s:Int=>o_2=s) (fun (many_1:Int) (_:Unit)=>(Env.set Env.nil 3 (D many_1))) (fun (many_1:Int) (_:Unit)=>[]) ?_ ?_
 ·skip;refine Zp<|Zu H2 (fun ⟨many_3,x_4⟩ (_:Unit)=>(Env.set (Env.set (Env.set (Env.set Env.nil 3 (D many_3)) 11 (D w0x.Vol.Chip.Blocks)) 12 (D ((w0x.Vol.Chip.Blocks.length:Int):Int))) 13 (D x_4))) (fun ⟨many_3,x_4⟩ (_:Unit)=>[]) () (Za (Za (Za (Za (Zd _))))) (Ze _) ?_;rintro ⟨many_3,x_4⟩ ⟨⟩ x_5 H5 he5;dsimp only at H5;unfold ZdJ at H5;refine zg ?_;refine zc H5 (fun hc H5=>?_) fun hc H5=>?_
  ·refine Zaw<|Zan<|Zau ?_;refine zh H5 fun o_7 H7 H5=>?_
   refine Zn (fun s:Int=>o_7=s) (fun (many_6:Int) (_:Unit)=>(Env.set (Env.set (Env.set (Env.set Env.nil 3 (D many_6)) 11 (D w0x.Vol.Chip.Blocks)) 12 (D ((w0x.Vol.Chip.Blocks.length:Int):Int))) 13 (D x_4))) (fun (many_6:Int) (_:Unit)=>[]) ?_ ?_
   ·skip;refine zg ?_;refine zb H7 fun _ _ H7=>?_
    refine TS.alloc rfl fun b5_8=>zg ?_
    refine zc H7 (fun hc H7=>?_) fun hc H7=>?_
    ·refine zg ?_;refine zb H7 fun x_10 _ H7=>?_
     exact Zj x_10 () (ZZs H7) (Za (Za (Za (Za (Zd _))))) (Ze _)
    ·refine zg ?_;exact Zj many_3 () (ZZs H7) (Za (Za (Za (Za (Zd _))))) (Ze _)
   rintro many_6 ⟨⟩ hp;replace hp:=hp.symm;subst hp;refine zg ?_;refine zb H5 fun x_11 _ H5=>?_
   exact Zq ⟨many_6,x_11⟩ () (ZZs H5) (Za (Za (Za (Za (Zd _))))) (Ze _)
  ·refine zg ?_;exact Zj many_3 () (he5 _ (ZZs H5)).symm (Za (Zd _)) (Ze _)
 rintro many_1 ⟨⟩ hp;replace hp:=hp.symm;subst hp;exact zY H
def ZbL (w0x:flash_writer):Option Int:=
 (Zgs (1:Int) w0x.Vol.Last).bind fun x_1=>(idx w0x.Vol.Chip.Blocks x_1).bind fun x_2=>bif x_2.Bad then ((Zaq w0x w0x.Vol.Last).bind fun x_3=>some x_3) else ((idx w0x.Vol.Chip.Blocks w0x.Vol.Last).bind fun x_4=>(gb x_4.Bad (Zaq w0x x_1)).bind fun x_5=>bif (x_4.Bad&&(decide (x_5>(0:Int)))) then ((Zaq w0x x_1).bind fun x_6=>some x_6) else (some w0x.Vol.Chip.Pages))
theorem Zir {A:Nat→Prop} {w0x:flash_writer}  {r:Int} (w:World) (v0:Value) (hA:∀ k,w.heap.size≤k→A k)  (h0:(ZlO w0x).p A w v0) (H:ZbL w0x=some r) :
    Calls Tryz.prog 148 #[v0] w (Ret A w (D r)):=by
 unfold ZbL at H;refine zX (enter1 hA Tryz.func148 rfl Tryz.ntmps148 rfl h0) ?_;refine zb H fun _ _ H=>?_
 refine zb H fun _ _ H=>?_
 refine zc H (fun hc H=>?_) fun hc H=>?_
 ·refine zg ?_;refine zn H fun _ ex_3 H=>?_
  refine TSx (ZkC fun w v0 v1 hA h0 h1=>Zbb w v0 v1 hA h0 (toD h1) ex_3.h) ?_;exact zY H
 ·refine zg ?_;refine zb H fun _ _ H=>?_
  refine zm H fun _ ex_5 H=>?_
  refine zX (Zk9 41 rfl (fun hg=>(ZkC fun w v0 v1 hA h0 h1=>Zbb w v0 v1 hA h0 (toD h1) (Zbx ex_5.h hg.h))) rfl) ?_;refine zc H (fun hc H=>?_) fun hc H=>?_
  ·refine zg ?_;refine zn H fun _ ex_6 H=>?_
   refine TSx (ZkC fun w v0 v1 hA h0 h1=>Zbb w v0 v1 hA h0 (toD h1) ex_6.h) ?_;exact zY H
  ·exact zY H
def Zc7 (need0:Int) (w_1:flash_writer):Option (flash_writer⊕(Int×flash_writer)):=
 (Zcv w_1).bind fun x_3=>bif (decide (x_3.1≥need0)) then (some (.inr ((0:Int),w_1))) else ((gb (decide (x_3.2≥need0)) (ZbL w_1)).bind fun x_5=>bif ((decide (x_3.2≥need0))&&(decide (x_5<(2:Int)))) then ((some ((⟨w_1.Vol,true⟩:flash_writer):flash_writer)).bind fun l_6=>some (.inr ((0:Int),l_6))) else ((Zbs w_1).bind fun x_7=>bif (decide (x_7.1=(0:Int))) then (some (.inl x_7.2)) else (bif (decide (x_7.1≠(6:Int))) then (some (.inr (x_7.1,x_7.2))) else (bif (decide (x_3.2≥need0)) then ((some ((⟨x_7.2.Vol,true⟩:flash_writer):flash_writer)).bind fun l_9=>some (.inr ((0:Int),l_9))) else (some (.inr ((5:Int),x_7.2)))))))
def Zb1 (w0x:flash_writer) (need0:Int):Option (Int×flash_writer):=
 ZM (fun s=>Zc7 need0 s) w0x
theorem Zje {w0x:flash_writer} {need0:Int} {b0:Nat} {r:(Int×flash_writer)} (H:Zb1 w0x need0=some r):CO2 120 [⟨b0,True,One w0x⟩] (Pt b0 0) (D need0) (fun g:Unit=>D r.1) fun g=>[⟨b0,True,One r.2⟩]:=eO2 Tryz.func120 rfl Tryz.ntmps120 fun A w hA hO=>by
 unfold Zb1 at H;refine zC ?_;refine Zp<|Zu H (fun (w_1:flash_writer) (_:Unit)=>(Env.set (Env.set Env.nil 0 (Pt b0 0)) 1 (D need0))) (fun (w_1:flash_writer) (_:Unit)=>[⟨b0,True,(One w_1)⟩]) () (Za (Za (Zd _))) (Zc rfl (Ze _)) ?_;rintro w_1 ⟨⟩ x_2 H2 he2;unfold Zc7 at H2;refine zg ?_;refine zn H2 fun _ ex_3 H2=>?_
 refine Zdw (oc1 [b0] (ZjH ex_3.h) id) rfl fun _=>?_
 refine zw ?_;refine zc H2 (fun hc H2=>?_) fun hc H2=>?_
 ·refine zg ?_;obtain rfl:=(he2 _ (ZZs H2));exact ZA rfl () Cv.le (Zc rfl (Ze _))
 ·refine zg ?_;refine zm H2 fun _ ex_5 H2=>?_
  refine zX (Zk9 19 rfl (fun hg=>(ZfN [b0] (ZcW Zx trivial (by simp)) fun w v0 hA h0=>Zir w v0 hA h0 (Zbx ex_5.h hg.h))) rfl) ?_;refine zc H2 (fun hc H2=>?_) fun hc H2=>?_
  ·refine zC ?_;refine zn H2 fun _ el_6 H2=>?_
   refine zX (ZB b0 (Zah el_6.h)) ?_;obtain rfl:=(he2 _ (ZZs H2));exact ZA rfl () Cv.le (Zc rfl (Ze _))
  ·refine zg ?_;refine zn H2 fun x_7 ex_7 H2=>?_
   refine Zdw (Zhp [b0] fun w v0 hA hO hap hks h0=>Zh8 w v0 hA hO hap hks (id h0) ex_7.h) rfl fun _=>?_
   refine zw ?_;refine zc H2 (fun hc H2=>?_) fun hc H2=>?_
   ·refine zg ?_;exact Zq x_7.2 () (ZZs H2) (Za (Za (Zd _))) (Zc rfl (Ze _))
   ·refine zg ?_;refine zc H2 (fun hc H2=>?_) fun hc H2=>?_
    ·refine zg ?_;obtain rfl:=(he2 _ (ZZs H2));exact ZA rfl () Cv.le (Zc rfl (Ze _))
    ·refine zg ?_;refine zc H2 (fun hc H2=>?_) fun hc H2=>?_
     ·refine zC ?_;refine zn H2 fun _ el_9 H2=>?_
      refine zX (ZB b0 (Zah el_9.h)) ?_;obtain rfl:=(he2 _ (ZZs H2));exact ZA rfl () Cv.le (Zc rfl (Ze _))
     ·refine zg ?_;obtain rfl:=(he2 _ (ZZs H2));exact ZA rfl () Cv.le (Zc rfl (Ze _))
def Zc8 (lists0:((List (List Int))×(List Int))) (r_2:((List UInt8)×Int)) (w_3:flash_writer):Option (flash_writer⊕(Int×Int×flash_writer)):=
 (Zb4 w_3 (lists0.1,lists0.2)).bind fun x_5=>(bif (decide (x_5.2.1=(0:Int))) then ((mulI x_5.1 x_5.2.2.Vol.Chip.Pages).bind fun x_10=>(idx x_5.2.2.Vol.Chip.Blocks x_5.1).bind fun x_11=>(Zas x_10 x_11.Used).bind fun x_12=>(Zas x_12 1).bind fun x_13=>(ZK x_5.2.2 x_5.1 r_2.1).bind fun x_14=>bif (decide (x_14.1=(0:Int))) then (some (.inr (x_13,(0:Int),x_14.2))) else (some (.inl (x_14.1,x_14.2)))) else (some (.inl (x_5.2.1,x_5.2.2)))).bind fun o_9=>elS o_9 (fun s=>el2 s (fun e_7 w_8=>bif (decide (e_7≠(9:Int))) then (some (.inr ((0:Int),e_7,w_8))) else (some (.inl w_8)))) (fun q=>some (.inr q))
def Zb2 (w0x:flash_writer) (p0x:Page) (lists0:((List (List Int))×(List Int))):Option (Int×Int×flash_writer):=
 (Zfr p0x w0x.Vol.Chip.Size).bind fun r_2=>bif (decide (r_2.2≠(0:Int))) then (some ((0:Int),r_2.2,w0x)) else (ZM (fun s=>Zc8 lists0 r_2 s) w0x)
theorem Zjf {w0x:flash_writer} {p0x:Page} {lists0:((List (List Int))×(List Int))} {b0:Nat} {b2 c2:Nat} {p2:Prop} {b2v c2v:Nat} {p2v:Prop} {r:(Int×Int×flash_writer)} (H:Zb2 w0x p0x lists0=some r):CO3 121 [⟨b0,True,One w0x⟩,⟨b2,p2,Ct.mix (Row (lists0.1:List (List Int)) c2) 1 (Sl b2v p2v 0 (List.length lists0.2) c2v)⟩,⟨b2v,p2v,Row (lists0.2:List Int) c2v⟩] (Pt b0 0) (D p0x) (Sl b2 p2 0 lists0.1.length c2) (fun g:Unit=>Tup [D r.1,D r.2.1]) fun g=>[⟨b0,True,One r.2.2⟩,⟨b2,p2,Ct.mix (Row (lists0.1:List (List Int)) c2) 1 (Sl b2v p2v 0 (List.length lists0.2) c2v)⟩,⟨b2v,p2v,Row (lists0.2:List Int) c2v⟩]:=eO3 Tryz.func121 rfl Tryz.ntmps121 fun A w hA hO=>by
 unfold Zb2 at H;refine zg ?_;refine TS.box rfl fun b4_0=>zg ?_
 refine zb H fun r_2 _ H=>?_
 refine zc H (fun hc H=>?_) fun hc H=>?_
 ·refine zg ?_;obtain rfl:=ZZi H;exact Zap rfl rfl () (.cons Cv.le (.cons Cv.le .nil)) (Zc rfl (Zc rfl (Zc rfl (Ze _))))
 ·refine Zaw<|Zan<|Zp<|Zu H (fun (w_3:flash_writer) (_:Unit)=>(Env.set (Env.set (Env.set Env.nil 0 (Pt b0 0)) 2 (Sl b2 p2 0 lists0.1.length c2)) 8 (D r_2.1))) (fun (w_3:flash_writer) (_:Unit)=>[⟨b2,p2,(Ct.mix (Row (lists0.1:List (List Int)) c2) 1 (Sl b2v p2v 0 lists0.2.length c2v))⟩,⟨b2v,p2v,(Row (lists0.2:List Int) c2v)⟩,⟨b0,True,(One w_3)⟩]) () (Za (Zk (ZC rfl) (Za (Zd _)))) (Zc rfl (Zc rfl (Zc rfl (Ze _)))) ?_;rintro w_3 ⟨⟩ x_4 H4 he4;unfold Zc8 at H4;refine zg ?_;refine zn H4 fun x_5 ex_5 H4=>?_
  refine Zdw (oc2 [b0,b2,b2v] (Zjg ex_5.h) id (slD rfl)) rfl fun _=>?_
  dsimp only [List.cons_append,List.nil_append];refine zC ?_;refine Zau ?_;refine zh H4 fun o_9 H9 H4=>?_
  refine Zn (fun s:(Int×flash_writer)=>o_9=.inl s) (fun ⟨e_7,w_8⟩ (_:Unit)=>(Env.set (Env.set (Env.set (Env.set Env.nil 0 (Pt b0 0)) 2 (Sl b2 p2 0 lists0.1.length c2)) 8 (D r_2.1)) 11 (D e_7))) (fun ⟨e_7,w_8⟩ (_:Unit)=>[⟨b2,p2,(Ct.mix (Row (lists0.1:List (List Int)) c2) 1 (Sl b2v p2v 0 lists0.2.length c2v))⟩,⟨b2v,p2v,(Row (lists0.2:List Int) c2v)⟩,⟨b0,True,(One w_8)⟩]) ?_ ?_
  ·skip;refine zg ?_;refine zc H9 (fun hc H9=>?_) fun hc H9=>?_
   ·refine zg ?_;refine zb H9 fun _ _ H9=>?_
    refine zb H9 fun _ _ H9=>?_
    refine zb H9 fun _ _ H9=>?_
    refine zb H9 fun _ _ H9=>?_
    refine zn H9 fun x_14 ex_14 H9=>?_
    refine Zdw (oc3 [b0] (Za6 ex_14.h) id toD toD) rfl fun _=>?_
    refine zw ?_;refine zc H9 (fun hc H9=>?_) fun hc H9=>?_
    ·refine zC ?_;refine ZL<|Zs ?_;have R15:=ZaM (ZZi H9) H4;refine zg ?_;obtain rfl:=(he4 _ (ZZs R15));exact Zap rfl rfl () (.cons Cv.le (.cons Cv.le .nil)) (Zc rfl (Zc rfl (Zc rfl (Ze _))))
    ·refine zg ?_;exact Zj ⟨x_14.1,x_14.2⟩ () (ZZs H9) (Za (Za (Zk (ZC rfl) (Za (Zd _))))) (Zc rfl (Zc rfl (Zc rfl (Ze _))))
   ·refine zg ?_;exact Zj ⟨x_5.2.1,x_5.2.2⟩ () (ZZs H9) (Za (Za (Zk (ZC rfl) (Za (Zd _))))) (Zc rfl (Zc rfl (Zc rfl (Ze _))))
  rintro ⟨e_7,w_8⟩ ⟨⟩ hp;replace H4:=ZbD hp H4;replace H4:=Zeo H4;refine zg ?_;refine zc H4 (fun hc H4=>?_) fun hc H4=>?_
  ·refine zg ?_;obtain rfl:=(he4 _ (ZZs H4));exact Zap rfl rfl () (.cons Cv.le (.cons Cv.le .nil)) (Zc rfl (Zc rfl (Zc rfl (Ze _))))
  ·refine zg ?_;exact Zq w_8 () (ZZs H4) (Za (Zk (ZC rfl) (Za (Zd _)))) (Zc rfl (Zc rfl (Zc rfl (Ze _))))
def Zb9 (l0:(List Item)) (need_3:Int) (x_4:Int):Option ((Int×Int)⊕Int):=
 bif (decide (x_4<(l0.length:Int))) then (((idx l0 x_4).bind fun x_8=>bif (decide ((x_8.Body.length:Int)>(0:Int))) then ((Zas need_3 1).bind fun x_10=>some x_10) else (some need_3)).bind fun need_6=>(Zas x_4 1).bind fun x_11=>some (.inl (need_6,x_11))) else (some (.inr need_3))
def Zb8 (l0:(List Item)) (x_20:Int) (at_21:(List Int)) (w_22:flash_writer):Option ((Int×(List Int)×flash_writer)⊕(((List Int)×flash_writer)⊕(Int×flash_writer))):=
 bif (decide (x_20<(l0.length:Int))) then (((idx l0 x_20).bind fun x_27=>bif (decide ((x_27.Body.length:Int)=(0:Int))) then ((idx at_21 x_27.Id).bind fun x_29=>(some ((at_21.set (Int.toNat x_27.Id) (0:Int)):(List Int))).bind fun l_30=>some (.inl (l_30,w_22))) else ((Zb2 w_22 (⟨(1:Int),x_27.Id,(w_22.Vol.Gen+(UInt64.ofNat 1)),x_27.Body⟩:Page) (([w_22.Vol.At,[]]:List (List Int)),at_21)).bind fun x_32=>bif (decide (x_32.2.1≠(0:Int))) then (some (.inr (x_32.2.1,x_32.2.2))) else ((idx at_21 x_27.Id).bind fun x_36=>(some ((at_21.set (Int.toNat x_27.Id) x_32.1):(List Int))).bind fun l_37=>some (.inl (l_37,x_32.2.2))))).bind fun o_26=>elS o_26 (fun s=>el2 s (fun at_24 w_25=>(Zas x_20 1).bind fun x_38=>some (.inl (x_38,at_24,w_25)))) (fun q=>some (.inr (.inr q)))) else (some (.inr (.inl (at_21,w_22))))
def Zca (w0x:flash_writer) (l0:(List Item)):Option (Int×flash_writer):=
 (ZM (fun s=>Zb9 l0 s.1 s.2) ((0:Int),(0:Int))).bind fun need_1=>(some ((⟨w0x.Vol,false⟩:flash_writer):flash_writer)).bind fun w_12=>(Zb1 w_12 need_1).bind fun x_13=>bif (decide (x_13.1≠(0:Int))) then (some (x_13.1,x_13.2)) else ((ZaL x_13.2.Vol.At).bind fun x_15=>(ZM (fun s=>Zb8 l0 s.1 s.2.1 s.2.2) ((0:Int),x_15,x_13.2)).bind fun o_19=>elS o_19 (fun s=>el2 s (fun at_17 w_18=>(Zbl w_18 at_17).bind fun x_39=>some (x_39.1,x_39.2))) (fun q=>some q))
theorem Zjk {w0x:flash_writer} {l0:(List Item)} {b0:Nat} {r:(Int×flash_writer)} (H:Zca w0x l0=some r):CO2 72 [⟨b0,True,One w0x⟩] (Pt b0 0) (D l0) (fun g:Unit=>D r.1) fun g=>[⟨b0,True,One r.2⟩]:=eO2 Tryz.func72 rfl Tryz.ntmps72 fun A w hA hO=>by
 unfold Zca at H;refine zC ?_;refine zC ?_;refine zC ?_;refine zh H fun o_2 H2 H=>?_
 refine Zn (fun s:Int=>o_2=s) (fun (need_1:Int) (_:Unit)=>(Env.set (Env.set (Env.set Env.nil 0 (Pt b0 0)) 1 (D l0)) 5 (D need_1))) (fun (need_1:Int) (_:Unit)=>[⟨b0,True,(One w0x)⟩]) ?_ ?_
 ·skip;refine Zp<|Zu H2 (fun ⟨need_3,x_4⟩ (_:Unit)=>(Env.set (Env.set (Env.set (Env.set (Env.set (Env.set Env.nil 0 (Pt b0 0)) 1 (D l0)) 5 (D need_3)) 14 (D l0)) 15 (D ((l0.length:Int):Int))) 16 (D x_4))) (fun ⟨need_3,x_4⟩ (_:Unit)=>[⟨b0,True,(One w0x)⟩]) () (Za (Za (Za (Za (Za (Za (Zd _))))))) (Zc rfl (Ze _)) ?_;rintro ⟨need_3,x_4⟩ ⟨⟩ x_5 H5 he5;dsimp only at H5;unfold Zb9 at H5;refine zg ?_;refine zc H5 (fun hc H5=>?_) fun hc H5=>?_
  ·refine Zaw<|Zan<|Zau ?_;refine zh H5 fun o_7 H7 H5=>?_
   refine Zn (fun s:Int=>o_7=s) (fun (need_6:Int) (_:Unit)=>(Env.set (Env.set (Env.set (Env.set (Env.set (Env.set Env.nil 0 (Pt b0 0)) 1 (D l0)) 5 (D need_6)) 14 (D l0)) 15 (D ((l0.length:Int):Int))) 16 (D x_4))) (fun (need_6:Int) (_:Unit)=>[⟨b0,True,(One w0x)⟩]) ?_ ?_
   ·skip;refine zg ?_;refine zb H7 fun _ _ H7=>?_
    refine TS.alloc rfl fun b7_8=>zg ?_
    refine zc H7 (fun hc H7=>?_) fun hc H7=>?_
    ·refine zg ?_;refine zb H7 fun x_10 _ H7=>?_
     exact Zj x_10 () (ZZs H7) (Za (Za (Za (Za (Za (Za (Zd _))))))) (Zc rfl (Ze _))
    ·refine zg ?_;exact Zj need_3 () (ZZs H7) (Za (Za (Za (Za (Za (Za (Zd _))))))) (Zc rfl (Ze _))
   rintro need_6 ⟨⟩ hp;replace hp:=hp.symm;subst hp;refine zg ?_;refine zb H5 fun x_11 _ H5=>?_
   exact Zq ⟨need_6,x_11⟩ () (ZZs H5) (Za (Za (Za (Za (Za (Za (Zd _))))))) (Zc rfl (Ze _))
  ·refine zg ?_;exact Zj need_3 () (he5 _ (ZZs H5)).symm (Za (Za (Za (Zd _)))) (Zc rfl (Ze _))
 rintro need_1 ⟨⟩ hp;replace hp:=hp.symm;subst hp;refine zC ?_;refine zn H fun _ ew_12 H=>?_
 refine zX (ZB b0 (Zah ew_12.h)) ?_;refine zn H fun _ ex_13 H=>?_
 refine Zdw (oc2 [b0] (Zje ex_13.h) id toD) rfl fun _=>?_
 refine zw ?_;refine zc H (fun hc H=>?_) fun hc H=>?_
 ·refine zg ?_;obtain rfl:=ZZi H;exact ZA rfl () Cv.le (Zc rfl (Ze _))
 ·refine zg ?_;refine zn H fun _ ex_15 H=>?_
  refine Zdw (oc1 [] (ZdX ex_15.h) toD) rfl fun ⟨b41_15,p41_15,c41_15⟩=>?_
  dsimp only [List.cons_append,List.nil_append];refine zC ?_;refine zC ?_;refine zh H fun o_19 H19 H=>?_
  refine Zn (fun s:((List Int)×flash_writer)=>o_19=.inl s) (fun ⟨at_17,w_18⟩ (_:Unit)=>(Env.set (Env.set Env.nil 0 (Pt b0 0)) 9 (Sl b41_15 p41_15 0 at_17.length c41_15))) (fun ⟨at_17,w_18⟩ (_:Unit)=>[⟨b41_15,p41_15,(Row (at_17:List Int) c41_15)⟩,⟨b0,True,(One w_18)⟩]) ?_ ?_
  ·skip;refine Zp<|Zu H19 (fun ⟨x_20,at_21,w_22⟩ (_:Unit)=>(Env.set (Env.set (Env.set (Env.set (Env.set Env.nil 0 (Pt b0 0)) 9 (Sl b41_15 p41_15 0 at_21.length c41_15)) 42 (D l0)) 43 (D ((l0.length:Int):Int))) 44 (D x_20))) (fun ⟨x_20,at_21,w_22⟩ (_:Unit)=>[⟨b41_15,p41_15,(Row (at_21:List Int) c41_15)⟩,⟨b0,True,(One w_22)⟩]) () (Za (Za (Za (Zk (ZC rfl) (Za (Zd _)))))) (Zc rfl (Zc rfl (Ze _))) ?_;rintro ⟨x_20,at_21,w_22⟩ ⟨⟩ x_23 H23 he23;dsimp only at H23;unfold Zb8 at H23;refine zg ?_;refine zc H23 (fun hc H23=>?_) fun hc H23=>?_
   ·refine Zaw<|Zan<|Zau ?_;refine zh H23 fun o_26 H26 H23=>?_
    refine Zn (fun s:((List Int)×flash_writer)=>o_26=.inl s) (fun ⟨at_24,w_25⟩ (_:Unit)=>(Env.set (Env.set (Env.set (Env.set (Env.set Env.nil 0 (Pt b0 0)) 9 (Sl b41_15 p41_15 0 at_24.length c41_15)) 42 (D l0)) 43 (D ((l0.length:Int):Int))) 44 (D x_20))) (fun ⟨at_24,w_25⟩ (_:Unit)=>[⟨b41_15,p41_15,(Row (at_24:List Int) c41_15)⟩,⟨b0,True,(One w_25)⟩]) ?_ ?_
    ·skip;refine zg ?_;refine zb H26 fun x_27 _ H26=>?_
     refine TS.alloc rfl fun b11_27=>zg ?_
     refine zc H26 (fun hc H26=>?_) fun hc H26=>?_
     ·refine zg ?_;refine zn H26 fun _ ex_29 H26=>?_
      refine TSx (Zm (ZI ex_29.h rfl)) ?_;refine zC ?_;refine zn H26 fun l_30 el_30 H26=>?_
      refine ZB b41_15 (Zac el_30.h) ?_;refine zX (Zcg 9 _ (ZaP el_30.h (by simp))) ?_;exact Zj ⟨l_30,w_22⟩ () (ZZs H26) (Za (Za (Za (Zk (ZC rfl) (Za (Zd _)))))) (Zc rfl (Zc rfl (Ze _)))
     ·refine Zaw<|Zan<|TC.seqD2 [0,0,0,0,0,0,0,2,2,0,0,2,0,0,0,0,2,0,4,1,2,2,2,2,2] [b0,b41_15] mix (by kernel_rfl) (by kernel_rfl)<|TR2.s Zeh rfl<|TR2.s ZaX rfl<|TR2.s (ZaE (PF 0 Item Int Zx)) rfl<|TR2.s Zeh rfl<|TR2.s ZiE rfl<|TR2.s ZaX rfl<|TR2.s ZaX rfl<|TR2.r (fun g=>OpG.s (ZaE (PF 7 Vol UInt64 (PF 0 flash_writer Vol Zx)))) rfl<|TR2.r (fun g=>OpG.s ZiH) rfl<|TR2.s ZaX rfl<|TR2.s (ZaE (PF 1 Item (List UInt8) Zx)) rfl ?_;refine TR2.r (fun g=>OpG.s (tB (⟨(1:Int),x_27.Id,(w_22.Vol.Gen+(UInt64.ofNat 1)),x_27.Body⟩:Page) rfl rfl)) rfl<|TR2.s Zeh rfl<|TR2.s ZiE rfl<|TR2.s ZaX rfl<|TR2.s ZaX rfl<|TR2.r (fun g=>OpG.s (ZaE (PF 6 Vol (List Int) (PF 0 flash_writer Vol Zx)))) rfl<|TR2.s Zeh rfl ?_;refine TR2.v (OpV.of2 (C:=(Ct.mix (Row (([w_22.Vol.At,[]]:List (List Int)):List (List Int)) 2) 1 (Sl b41_15 p41_15 0 at_21.length c41_15))) fun B Ωs Ω g=>OpT.build2) rfl ?_;refine zn H26 fun x_32 ex_32 H26=>?_
      refine TR2.t (fun Ωr g=>(oc3 [b0,(g.2),b41_15] (Zjf ex_32.h) id toD (slD (by simp)))) rfl<|TR2.r (fun g=>OpG.s Zeh) rfl<|TR2.r (fun g=>OpG.s (ZjO rfl)) rfl<|TR2.r (fun g=>OpG.s (ZjO rfl)) rfl<|TR2.r (fun g=>OpG.s ZeO) rfl<|TR2.r (fun g=>OpG.s ZeO) rfl<|TR2.nil ?_;rintro ⟨⟨⟨⟨⟨⟨⟨⟨⟨⟨⟨_,_⟩,_⟩,_⟩,_⟩,b75_30⟩,_⟩,_⟩,_⟩,_⟩,_⟩,_⟩;dsimp only [Fam.nextS,Fam.nextN,Fam.one,List.cons_append,List.nil_append];refine zg ?_;refine zc H26 (fun hc H26=>?_) fun hc H26=>?_
      ·refine zC ?_;refine ZL<|Zg<|Zf<|Zs ?_;have R33:=ZaM (ZZi H26) H23;refine Zg<|Zg<|Zf<|Zs ?_;have R34:=ZaM (he23 _ (ZZs R33)) H;refine zg ?_;obtain rfl:=ZZi R34;exact ZA rfl () Cv.le (Zc rfl (Ze _))
      ·refine zg ?_;refine zn H26 fun _ ex_36 H26=>?_
       refine TSx (Zm (ZI ex_36.h rfl)) ?_;refine zE ?_;refine zn H26 fun l_37 el_37 H26=>?_
       refine Zaf b41_15 (Zac el_37.h) ?_;refine zX (ZcF 9 _ (ZaP el_37.h (by simp))) ?_;exact Zj ⟨l_37,x_32.2.2⟩ () (ZZs H26) (Za (Za (Za (Zk (ZC rfl) (Za (Zd _)))))) (Zc rfl (Zc rfl (Ze _)))
    rintro ⟨at_24,w_25⟩ ⟨⟩ hp;replace H23:=ZbD hp H23;replace H23:=Zeo H23;refine zg ?_;refine zb H23 fun x_38 _ H23=>?_
    exact Zq ⟨x_38,at_24,w_25⟩ () (ZZs H23) (Za (Za (Za (Zk (ZC rfl) (Za (Zd _)))))) (Zc rfl (Zc rfl (Ze _)))
   ·refine zg ?_;exact Zj ⟨at_21,w_22⟩ () (he23 _ (ZZs H23)).symm (Zk (ZC rfl) (Za (Zd _))) (Zc rfl (Zc rfl (Ze _)))
  rintro ⟨at_17,w_18⟩ ⟨⟩ hp;replace H:=ZbD hp H;replace H:=Zeo H;refine zg ?_;refine TS.pub b41_15 (PubE.set 89 (ZG PlS.all rfl) (PubE.set 9 (ZG PlS.all rfl) PubE.refl)) ?_;refine zn H fun _ ex_39 H=>?_
  refine Zdw (oc2 [b0] (Zfh ex_39.h) id toD) rfl fun _=>?_
  refine zw ?_;obtain rfl:=ZZi H;exact ZA rfl () Cv.le (Zc rfl (Ze _))
def ZgZ (l0:(List Item)) (w_10:flash_writer):Option (flash_writer⊕(Vol×Int)):=
 (ZbR w_10).bind fun x_12=>(Zca w_10 l0).bind fun x_13=>(gb (decide (x_13.1=(5:Int))) (ZbR x_13.2)).bind fun x_15=>bif ((decide (x_13.1=(5:Int)))&&(decide (x_15>x_12))) then (some (.inl x_13.2)) else (some (.inr (x_13.2.Vol,x_13.1)))
def Zf9 (v0x:Vol) (l0:(List Item)):Option (Vol×Int):=
 (ZeH v0x).bind fun x_3=>(gb (!((!x_3)||(decide ((UInt64.ofNat 281474976710655)≤v0x.Gen)))) (Zdn v0x l0)).bind fun x_4=>bif (((!x_3)||(decide ((UInt64.ofNat 281474976710655)≤v0x.Gen)))||(!x_4)) then ((ZcI v0x).bind fun x_5=>some (x_5,(1:Int))) else (bif v0x.Chip.Off then ((ZcI v0x).bind fun x_6=>some (x_6,(7:Int))) else ((ZcI v0x).bind fun x_7=>(some ((⟨x_7,false⟩:flash_writer):flash_writer)).bind fun w_9=>ZM (fun s=>ZgZ l0 s) w_9))
instance flash_Write_c:Fd2 25 Zf9 fun r=>Tup [D r.1,D r.2]:=en2 Tryz.func25 rfl Tryz.ntmps25 fun A w hA v0x l0 r H=>by
 unfold Zf9 at H;refine zg ?_;refine TS.box rfl fun b2_0=>?_
 refine TS.alloc rfl fun b4_1=>zg ?_
 refine zb H fun _ _ H=>?_
 refine zX (Zk9 12 rfl (fun hg=>ZkA) rfl) ?_;refine zd H fun _ _ H=>?_
 refine zc H (fun hc H=>?_) fun hc H=>?_
 ·exact zY H
 ·refine zg ?_;refine zc H (fun hc H=>?_) fun hc H=>?_
  ·exact zY H
  ·refine zg ?_;refine zb H fun x_7 _ H=>?_
   refine TSx (tB (⟨x_7,false⟩:flash_writer) rfl rfl) ?_;refine TS.box rfl fun b33_7=>?_
   refine zC ?_;refine zn H fun _ ew_9 H=>?_
   refine ZB b33_7 (Zah ew_9.h)<|Zp<|Zu H (fun (w_10:flash_writer) (_:Unit)=>(Env.set (Env.set (Env.set Env.nil 1 (D l0)) 4 (Pt b4_1 0)) 6 (Pt b33_7 0))) (fun (w_10:flash_writer) (_:Unit)=>[⟨b4_1,True,(One ((Dat.z:Vol):Vol))⟩,⟨b33_7,True,(One w_10)⟩]) () (Za (Za (Za (Zd _)))) (Zc rfl (Zc rfl (Ze _))) ?_;rintro w_10 ⟨⟩ x_11 H11 he11;unfold ZgZ at H11;refine zg ?_;refine zn H11 fun _ ex_12 H11=>?_
   refine zX (Za1 (ZfN [b33_7] (ZcW Zx trivial (by simp)) fun w v0 hA h0=>ZgG w v0 hA h0 ex_12.h) rfl) ?_;refine zn H11 fun x_13 ex_13 H11=>?_
   refine Zdw (oc2 [b33_7] (Zjk ex_13.h) id toD) rfl fun _=>?_
   refine zw ?_;refine zm H11 fun _ ex_15 H11=>?_
   refine zX (Zk9 41 rfl (fun hg=>(ZfN [b33_7] (ZcW Zx trivial (by simp)) fun w v0 hA h0=>ZgG w v0 hA h0 (Zbx ex_15.h hg.h))) rfl) ?_;refine zc H11 (fun hc H11=>?_) fun hc H11=>?_
   ·refine zg ?_;exact Zq x_13.2 () (ZZs H11) (Za (Za (Za (Zd _)))) (Zc rfl (Zc rfl (Ze _)))
   ·refine zg ?_;obtain rfl:=(he11 _ (ZZs H11));exact ZeL rfl rfl (.cons Cv.le (.cons Cv.le .nil))
def Zb0 (w0x:flash_writer) (block0:Int):Option Bool:=
 (idx w0x.Vol.Chip.Blocks block0).bind fun x_1=>(gb (((!x_1.Bad)&&(!(decide (x_1.Used>(0:Int)))))&&(decide (block0<(2:Int)))) (ZY w0x block0)).bind fun x_3=>some ((!x_1.Bad)&&((decide (x_1.Used>(0:Int)))||((decide (block0<(2:Int)))&&(decide ((UInt64.ofNat 0)<x_3)))))
theorem Zjd {w0x:flash_writer} {block0:Int} {b0:Nat} {r:Bool} (H:Zb0 w0x block0=some r):CO2 113 [⟨b0,True,One w0x⟩] (Pt b0 0) (D block0) (fun g:Unit=>D r) fun g=>[⟨b0,True,One w0x⟩]:=eO2 Tryz.func113 rfl Tryz.ntmps113 fun A w hA hO=>by
 unfold Zb0 at H;refine zg ?_;refine zb H fun _ _ H=>?_
 refine TS.alloc rfl fun b5_1=>zg ?_
 refine zm H fun _ ex_3 H=>?_
 refine TS.gg 25 rfl (fun hp hg=>haveI l0:=Ft.l hp;haveI r0:=Ft.r hp;(ZcN [b0] (ZcW Zx trivial (by simp)) ArgB.d fun w v0 v1 hA h0 h1=>ZcH w v0 v1 hA h0 (toD h1) (Zbx ex_3.h (aT (aT hp.h.1 (nF hp.h.2)) hg.h)))) rfl ?_;refine zX (TS.gg 25 rfl (fun hp hg=>haveI l0:=Ft.l hp;haveI r0:=Ft.r hp;OpY.gtr64) rfl) ?_;obtain rfl:=ZZi H;exact ZA rfl () Cv.le (Zc rfl (Ze _))
def Zb5 (w0x:flash_writer) (block0:Int):Option UInt64:=
 (Zgs (1:Int) block0).bind fun x_1=>(ZY w0x x_1).bind fun x_2=>some (max64 (UInt64.ofNat 1) (x_2+(UInt64.ofInt x_1)))
theorem Zjh {w0x:flash_writer} {block0:Int} {b0:Nat} {r:UInt64} (H:Zb5 w0x block0=some r):CO2 115 [⟨b0,True,One w0x⟩] (Pt b0 0) (D block0) (fun g:Unit=>D r) fun g=>[⟨b0,True,One w0x⟩]:=eO2 Tryz.func115 rfl Tryz.ntmps115 fun A w hA hO=>by
 unfold Zb5 at H;refine zg ?_;refine zb H fun _ _ H=>?_
 refine zn H fun _ ex_2 H=>?_
 refine zX (Za1 (ZcN [b0] (ZcW Zx trivial (by simp)) ArgB.d fun w v0 v1 hA h0 h1=>ZcH w v0 v1 hA h0 (toD h1) ex_2.h) rfl) ?_;refine TSx ZiF<|TSx ZiH ?_;refine zX (Za1 OpY.max64 rfl) ?_;obtain rfl:=ZZi H;exact ZA rfl () Cv.le (Zc rfl (Ze _))
def Zbg (w0x:flash_writer) (x_3:Int) (w_4:flash_writer):Option ((Int×flash_writer)⊕(flash_writer⊕(Int×flash_writer))):=
 bif (decide (x_3<(w0x.Vol.Chip.Blocks.length:Int))) then (((Zb0 w_4 x_3).bind fun x_8=>bif (!x_8) then (some (.inl w_4)) else ((ZaI w_4 x_3).bind fun x_10=>bif ((decide (x_10.1≠(0:Int)))&&(decide (x_10.1≠(9:Int)))) then (some (.inr (x_10.1,x_10.2))) else (some (.inl x_10.2)))).bind fun o_7=>elS o_7 (fun w_6=>(Zas x_3 1).bind fun x_14=>some (.inl (x_14,w_6))) (fun q=>some (.inr (.inr q)))) else (some (.inr (.inl w_4)))
def Zbf (ids0:Int) (x_17:Int) (w_18:flash_writer):Option ((Int×flash_writer)⊕(flash_writer⊕(Int×flash_writer))):=
 bif (decide (x_17<(2:Int))) then (((Zb5 w_18 x_17).bind fun x_22=>(Zdv 8 ids0).bind fun u_24=>(some ((⟨x_22,(List.replicate (Int.toNat ids0) (Dat.z:Int))⟩:Roots):Roots)).bind fun r_26=>(ZiN r_26 w_18.Vol.Chip.Size).bind fun r_27=>(gb (!(decide (r_27.2≠(0:Int)))) (Zaq w_18 x_17)).bind fun x_28=>bif ((decide (r_27.2≠(0:Int)))||(decide (x_28=(0:Int)))) then (some (.inl w_18)) else ((ZK w_18 x_17 r_27.1).bind fun x_29=>bif (decide (x_29.1=(0:Int))) then ((some ((⟨(⟨((⟨(⟨((⟨(⟨x_29.2.Vol.Chip,r_26.At,x_29.2.Vol.Gen,x_29.2.Vol.Last⟩:Vol),x_29.2.beyond⟩:flash_writer).Vol).Chip,((⟨(⟨x_29.2.Vol.Chip,r_26.At,x_29.2.Vol.Gen,x_29.2.Vol.Last⟩:Vol),x_29.2.beyond⟩:flash_writer).Vol).At,r_26.Gen,((⟨(⟨x_29.2.Vol.Chip,r_26.At,x_29.2.Vol.Gen,x_29.2.Vol.Last⟩:Vol),x_29.2.beyond⟩:flash_writer).Vol).Last⟩:Vol),(⟨(⟨x_29.2.Vol.Chip,r_26.At,x_29.2.Vol.Gen,x_29.2.Vol.Last⟩:Vol),x_29.2.beyond⟩:flash_writer).beyond⟩:flash_writer).Vol).Chip,((⟨(⟨((⟨(⟨x_29.2.Vol.Chip,r_26.At,x_29.2.Vol.Gen,x_29.2.Vol.Last⟩:Vol),x_29.2.beyond⟩:flash_writer).Vol).Chip,((⟨(⟨x_29.2.Vol.Chip,r_26.At,x_29.2.Vol.Gen,x_29.2.Vol.Last⟩:Vol),x_29.2.beyond⟩:flash_writer).Vol).At,r_26.Gen,((⟨(⟨x_29.2.Vol.Chip,r_26.At,x_29.2.Vol.Gen,x_29.2.Vol.Last⟩:Vol),x_29.2.beyond⟩:flash_writer).Vol).Last⟩:Vol),(⟨(⟨x_29.2.Vol.Chip,r_26.At,x_29.2.Vol.Gen,x_29.2.Vol.Last⟩:Vol),x_29.2.beyond⟩:flash_writer).beyond⟩:flash_writer).Vol).At,((⟨(⟨((⟨(⟨x_29.2.Vol.Chip,r_26.At,x_29.2.Vol.Gen,x_29.2.Vol.Last⟩:Vol),x_29.2.beyond⟩:flash_writer).Vol).Chip,((⟨(⟨x_29.2.Vol.Chip,r_26.At,x_29.2.Vol.Gen,x_29.2.Vol.Last⟩:Vol),x_29.2.beyond⟩:flash_writer).Vol).At,r_26.Gen,((⟨(⟨x_29.2.Vol.Chip,r_26.At,x_29.2.Vol.Gen,x_29.2.Vol.Last⟩:Vol),x_29.2.beyond⟩:flash_writer).Vol).Last⟩:Vol),(⟨(⟨x_29.2.Vol.Chip,r_26.At,x_29.2.Vol.Gen,x_29.2.Vol.Last⟩:Vol),x_29.2.beyond⟩:flash_writer).beyond⟩:flash_writer).Vol).Gen,x_17⟩:Vol),(⟨(⟨((⟨(⟨x_29.2.Vol.Chip,r_26.At,x_29.2.Vol.Gen,x_29.2.Vol.Last⟩:Vol),x_29.2.beyond⟩:flash_writer).Vol).Chip,((⟨(⟨x_29.2.Vol.Chip,r_26.At,x_29.2.Vol.Gen,x_29.2.Vol.Last⟩:Vol),x_29.2.beyond⟩:flash_writer).Vol).At,r_26.Gen,((⟨(⟨x_29.2.Vol.Chip,r_26.At,x_29.2.Vol.Gen,x_29.2.Vol.Last⟩:Vol),x_29.2.beyond⟩:flash_writer).Vol).Last⟩:Vol),(⟨(⟨x_29.2.Vol.Chip,r_26.At,x_29.2.Vol.Gen,x_29.2.Vol.Last⟩:Vol),x_29.2.beyond⟩:flash_writer).beyond⟩:flash_writer).beyond⟩:flash_writer):flash_writer)).bind fun l_31=>some (.inr ((0:Int),l_31))) else (bif (decide (x_29.1≠(9:Int))) then (some (.inr (x_29.1,x_29.2))) else (some (.inl x_29.2))))).bind fun o_21=>elS o_21 (fun w_20=>(Zas x_17 1).bind fun x_36=>some (.inl (x_36,w_20))) (fun q=>some (.inr (.inr q)))) else (some (.inr (.inl w_18)))
def ZcS (w0x:flash_writer) (ids0:Int):Option (Int×flash_writer):=
 (ZM (fun s=>Zbg w0x s.1 s.2) ((0:Int),w0x)).bind fun o_2=>elS o_2 (fun w_1=>(ZM (fun s=>Zbf ids0 s.1 s.2) ((0:Int),w_1)).bind fun o_16=>elS o_16 (fun w_15=>some ((9:Int),w_15)) (fun q=>some q)) (fun q=>some q)
theorem Zjj {w0x:flash_writer} {ids0:Int} {b0:Nat} {r:(Int×flash_writer)} (H:ZcS w0x ids0=some r):CO2 67 [⟨b0,True,One w0x⟩] (Pt b0 0) (D ids0) (fun g:Unit=>D r.1) fun g=>[⟨b0,True,One r.2⟩]:=eO2 Tryz.func67 rfl Tryz.ntmps67 fun A w hA hO=>by
 unfold ZcS at H;refine zC ?_;refine zC ?_;refine zh H fun o_2 H2 H=>?_
 refine Zn (fun s:flash_writer=>o_2=.inl s) (fun (w_1:flash_writer) (_:Unit)=>(Env.set (Env.set Env.nil 0 (Pt b0 0)) 1 (D ids0))) (fun (w_1:flash_writer) (_:Unit)=>[⟨b0,True,(One w_1)⟩]) ?_ ?_
 ·skip;refine Zp<|Zu H2 (fun ⟨x_3,w_4⟩ (_:Unit)=>(Env.set (Env.set (Env.set (Env.set Env.nil 0 (Pt b0 0)) 1 (D ids0)) 17 (D ((w0x.Vol.Chip.Blocks.length:Int):Int))) 18 (D x_3))) (fun ⟨x_3,w_4⟩ (_:Unit)=>[⟨b0,True,(One w_4)⟩]) () (Za (Za (Za (Za (Zd _))))) (Zc rfl (Ze _)) ?_;rintro ⟨x_3,w_4⟩ ⟨⟩ x_5 H5 he5;dsimp only at H5;unfold Zbg at H5;refine zg ?_;refine zc H5 (fun hc H5=>?_) fun hc H5=>?_
  ·refine Zaw<|Zan<|Zau ?_;refine zh H5 fun o_7 H7 H5=>?_
   refine Zn (fun s:flash_writer=>o_7=.inl s) (fun (w_6:flash_writer) (_:Unit)=>(Env.set (Env.set (Env.set (Env.set Env.nil 0 (Pt b0 0)) 1 (D ids0)) 17 (D ((w0x.Vol.Chip.Blocks.length:Int):Int))) 18 (D x_3))) (fun (w_6:flash_writer) (_:Unit)=>[⟨b0,True,(One w_6)⟩]) ?_ ?_
   ·skip;refine zg ?_;refine zn H7 fun _ ex_8 H7=>?_
    refine Zdw (oc2 [b0] (Zjd ex_8.h) id toD) rfl fun _=>?_
    refine zw ?_;refine zc H7 (fun hc H7=>?_) fun hc H7=>?_
    ·refine zg ?_;exact Zj w_4 () (ZZs H7) (Za (Za (Za (Za (Zd _))))) (Zc rfl (Ze _))
    ·refine zg ?_;refine zn H7 fun x_10 ex_10 H7=>?_
     refine Zdw (oc2 [b0] (Zdr ex_10.h) id toD) rfl fun _=>?_
     refine zw ?_;refine zc H7 (fun hc H7=>?_) fun hc H7=>?_
     ·refine zC ?_;refine ZL<|Zf<|Zs ?_;have R11:=ZaM (ZZi H7) H5;refine Zg<|Zg<|Zf<|Zs ?_;have R12:=ZaM (he5 _ (ZZs R11)) H;refine zg ?_;obtain rfl:=ZZi R12;exact ZA rfl () Cv.le (Zc rfl (Ze _))
     ·refine zg ?_;exact Zj x_10.2 () (ZZs H7) (Za (Za (Za (Za (Zd _))))) (Zc rfl (Ze _))
   rintro w_6 ⟨⟩ hp;replace H5:=ZbD hp H5;refine zg ?_;refine zb H5 fun x_14 _ H5=>?_
   exact Zq ⟨x_14,w_6⟩ () (ZZs H5) (Za (Za (Za (Za (Zd _))))) (Zc rfl (Ze _))
  ·refine zg ?_;exact Zj w_4 () (he5 _ (ZZs H5)).symm (Za (Za (Zd _))) (Zc rfl (Ze _))
 rintro w_1 ⟨⟩ hp;replace H:=ZbD hp H;refine zC ?_;refine zh H fun o_16 H16 H=>?_
 refine Zn (fun s:flash_writer=>o_16=.inl s) (fun (w_15:flash_writer) (_:Unit)=>Env.nil) (fun (w_15:flash_writer) (_:Unit)=>[⟨b0,True,(One w_15)⟩]) ?_ ?_
 ·skip;refine Zp<|Zu H16 (fun ⟨x_17,w_18⟩ (_:Unit)=>(Env.set (Env.set (Env.set Env.nil 0 (Pt b0 0)) 1 (D ids0)) 36 (D x_17))) (fun ⟨x_17,w_18⟩ (_:Unit)=>[⟨b0,True,(One w_18)⟩]) () (Za (Za (Za (Zd _)))) (Zc rfl (Ze _)) ?_;rintro ⟨x_17,w_18⟩ ⟨⟩ x_19 H19 he19;dsimp only at H19;unfold Zbf at H19;refine zg ?_;refine zc H19 (fun hc H19=>?_) fun hc H19=>?_
  ·refine Zaw<|Zan<|Zau ?_;refine zh H19 fun o_21 H21 H19=>?_
   refine Zn (fun s:flash_writer=>o_21=.inl s) (fun (w_20:flash_writer) (_:Unit)=>(Env.set (Env.set (Env.set Env.nil 0 (Pt b0 0)) 1 (D ids0)) 36 (D x_17))) (fun (w_20:flash_writer) (_:Unit)=>[⟨b0,True,(One w_20)⟩]) ?_ ?_
   ·skip;refine zC ?_;refine TC.seqD2 [0,0,1,0,0,2,3,1] [b0] mix (by kernel_rfl) (by kernel_rfl)<|TR2.s Zeh rfl<|TR2.s Zeh rfl ?_;refine zn H21 fun x_22 ex_22 H21=>?_
    refine TR2.t (fun Ωr g=>(oc2 [b0] (Zjh ex_22.h) id toD)) rfl<|TR2.s Zeh rfl ?_;refine zn H21 fun _ eu_24 H21=>?_
    refine TR2.s (OpY.makeSlice (Zdz eu_24.h).1 (Zdz eu_24.h).2.1 (Zdz eu_24.h).2.2) rfl ?_;refine TR2.r (fun g=>OpG.s (tB (⟨x_22,(List.replicate (Int.toNat ids0) (Dat.z:Int))⟩:Roots) rfl rfl)) rfl<|TR2.a (AllocU.of (α:=Roots)) rfl<|TR2.tn (fun Ωr g=>(Zw (y:=((⟨x_22,(List.replicate (Int.toNat ids0) (Dat.z:Int))⟩:Roots):Roots)) Zx)) rfl<|TR2.nil ?_;rintro ⟨⟨⟨⟨_,_⟩,_⟩,b8_24⟩,_⟩;dsimp only [Fam.nextS,Fam.nextN,Fam.one,List.cons_append,List.nil_append];refine zn H21 fun r_26 er_26 H21=>?_
    refine zX (ZB b8_24 (Zah er_26.h)) ?_;refine zb H21 fun _ _ H21=>?_
    refine zm H21 fun _ ex_28 H21=>?_
    refine zX (Zk9 58 rfl (fun hg=>(ZcN [b0] (ZcW Zx trivial (by simp)) ArgB.d fun w v0 v1 hA h0 h1=>Zbb w v0 v1 hA h0 (toD h1) (Zbx ex_28.h (nF hg.h)))) rfl) ?_;refine zc H21 (fun hc H21=>?_) fun hc H21=>?_
    ·refine zg ?_;exact Zj w_18 () (ZZs H21) (Za (Za (Za (Zd _)))) (Zc rfl (Ze _))
    ·refine zg ?_;refine zn H21 fun x_29 ex_29 H21=>?_
     refine Zdw (oc3 [b0] (Za6 ex_29.h) id toD toD) rfl fun _=>?_
     refine zw ?_;refine zc H21 (fun hc H21=>?_) fun hc H21=>?_
     ·refine zX (ZaW [11,15,19] [b0] mix (by kernel_rfl) (by kernel_rfl)) ?_;refine zX (Zdg (fun g=>(Zw (y:=(r_26.At:(List Int))) (PF 6 Vol (List Int) (PF 0 flash_writer Vol Zx)))) rfl) ?_;refine zX (Zdg (fun g=>(Zw (y:=(r_26.Gen:UInt64)) (PF 7 Vol UInt64 (PF 0 flash_writer Vol Zx)))) rfl) ?_;refine Zdg (fun g=>(Zw (y:=(x_17:Int)) (PF 8 Vol Int (PF 0 flash_writer Vol Zx)))) rfl ?_;refine zC ?_;rintro ⟨⟨⟨_,_⟩,_⟩,_⟩;dsimp only [Fam.nextS,Fam.nextN,Fam.one,List.cons_append,List.nil_append];refine zn H21 fun _ el_31 H21=>?_
      refine ZB b0 (Zah el_31.h) ?_;refine zC ?_;refine ZL<|Zg<|Zf<|Zs ?_;have R31:=ZaM (ZZi H21) H19;refine Zg<|Zg<|Zf<|Zs ?_;have R32:=ZaM (he19 _ (ZZs R31)) H;refine zg ?_;obtain rfl:=ZZi R32;exact ZA rfl () Cv.le (Zc rfl (Ze _))
     ·refine zg ?_;refine zc H21 (fun hc H21=>?_) fun hc H21=>?_
      ·refine zC ?_;refine ZL<|Zf<|Zs ?_;have R33:=ZaM (ZZi H21) H19;refine Zg<|Zg<|Zf<|Zs ?_;have R34:=ZaM (he19 _ (ZZs R33)) H;refine zg ?_;obtain rfl:=ZZi R34;exact ZA rfl () Cv.le (Zc rfl (Ze _))
      ·refine zg ?_;exact Zj x_29.2 () (ZZs H21) (Za (Za (Za (Zd _)))) (Zc rfl (Ze _))
   rintro w_20 ⟨⟩ hp;replace H19:=ZbD hp H19;refine zg ?_;refine zb H19 fun x_36 _ H19=>?_
   exact Zq ⟨x_36,w_20⟩ () (ZZs H19) (Za (Za (Za (Zd _)))) (Zc rfl (Ze _))
  ·refine zg ?_;exact Zj w_18 () (he19 _ (ZZs H19)).symm (Zd _) (Zc rfl (Ze _))
 rintro w_15 ⟨⟩ hp;replace H:=ZbD hp H;refine zg ?_;obtain rfl:=ZZi H;exact ZA rfl () Cv.le (Zc rfl (Ze _))
def Ze5 (c0:Chip) (ids0:Int):Option (Vol×Int):=
 (ZeG c0).bind fun x_3=>(gb (!((!x_3)||(decide (ids0<(1:Int))))) (ZfY c0.Size)).bind fun x_4=>bif (((!x_3)||(decide (ids0<(1:Int))))||(decide (ids0>x_4))) then ((Ze4 c0).bind fun x_5=>(some ((⟨x_5,[],0,0⟩:Vol):Vol)).bind fun k_6=>some (k_6,(1:Int))) else (bif c0.Off then ((Ze4 c0).bind fun x_7=>(some ((⟨x_7,[],0,0⟩:Vol):Vol)).bind fun k_8=>some (k_8,(7:Int))) else ((Ze4 c0).bind fun x_9=>(some ((⟨(⟨x_9,[],0,0⟩:Vol),false⟩:flash_writer):flash_writer)).bind fun w_11=>(ZcS w_11 ids0).bind fun x_12=>bif (decide (x_12.1≠(0:Int))) then ((some ((⟨x_12.2.Vol.Chip,[],0,0⟩:Vol):Vol)).bind fun k_14=>some (k_14,x_12.1)) else (some (x_12.2.Vol,(0:Int)))))
instance flash_Format_c:Fd2 23 Ze5 fun r=>Tup [D r.1,D r.2]:=en2 Tryz.func23 rfl Tryz.ntmps23 fun A w hA c0 ids0 r H=>by
 unfold Ze5 at H;refine zg ?_;refine TS.box rfl fun b2_0=>?_
 refine TS.alloc rfl fun b4_1=>zg ?_
 refine zb H fun _ _ H=>?_
 refine zd H fun _ _ H=>?_
 refine zc H (fun hc H=>?_) fun hc H=>?_
 ·refine zg ?_;refine zb H fun x_5 _ H=>?_
  refine TSx (tB (⟨x_5,[],0,0⟩:Vol) rfl rfl) ?_;exact zY H
 ·refine zg ?_;refine zc H (fun hc H=>?_) fun hc H=>?_
  ·refine zg ?_;refine zb H fun x_7 _ H=>?_
   refine TSx (tB (⟨x_7,[],0,0⟩:Vol) rfl rfl) ?_;exact zY H
  ·refine zg ?_;refine zb H fun x_9 _ H=>?_
   refine TSx (tB (⟨x_9,[],0,0⟩:Vol) rfl rfl) ?_;refine TSx (tB (⟨(⟨x_9,[],0,0⟩:Vol),false⟩:flash_writer) rfl rfl) ?_;refine TS.box rfl fun b34_9=>?_
   refine zC ?_;refine zn H fun _ ew_11 H=>?_
   refine zX (ZB b34_9 (Zah ew_11.h)) ?_;refine zn H fun x_12 ex_12 H=>?_
   refine Zdw (oc2 [b34_9] (Zjj ex_12.h) id toD) rfl fun _=>?_
   refine zw ?_;refine zc H (fun hc H=>?_) fun hc H=>?_
   ·refine zg ?_;refine TSx (tB (⟨x_12.2.Vol.Chip,[],0,0⟩:Vol) rfl rfl) ?_;exact zY H
   ·exact zY H
end Go.Proofs.YtkmojgfenlgchaaGreatDoor.Tr
namespace Go.Proofs.YtkmojgfenlgchaaGreatDoor.Tr
open Go Go.RowKit
set_option maxRecDepth 100000
set_option synthInstance.maxHeartbeats 400000
set_option synthInstance.maxSize 4096
def ZlY (bits0:Int):Option Bool:=
 some ((decide (bits0=(32:Int)))||(decide (bits0=(128:Int))))
instance key_kind_c:Fd1 109 ZlY fun r=>D r:=en1 Tryz.func109 rfl Tryz.ntmps109 fun _ _ _ _ _ H=>by
 unfold ZlY at H;exact zY H
def ZkZ (k0:(Vec UInt8 16)) (n0:Int):Option (Vec UInt8 16):=
 bif (decide (n0≥(128:Int))) then (some k0) else (bif (decide (n0<(1:Int))) then (some (Dat.z:(Vec UInt8 16))) else ((ZjS n0 8).bind fun x_4=>(cut 16 0 x_4).bind fun u_5=>(cut 16 0 x_4).bind fun u_6=>(some ((Vec.put (Dat.z:(Vec UInt8 16)) (Int.toNat 0) (over (((Dat.z:(Vec UInt8 16)).l.drop (Int.toNat 0)).take ((x_4-0).toNat)) ((k0.l.drop (Int.toNat 0)).take ((x_4-0).toNat)))):(Vec UInt8 16))).bind fun cx_7=>((remI n0 8).bind fun x_10=>bif (decide (x_10>(0:Int))) then ((idx k0.l x_4).bind fun x_11=>(cnt x_10).bind fun n_12=>(idx cx_7.l x_4).bind fun x_13=>(some ((Vec.set cx_7 (Int.toNat x_4) (x_11 &&& ~~~(shr8 (UInt8.ofNat 255) x_10))):(Vec UInt8 16))).bind fun cx_14=>some cx_14) else (some cx_7)).bind fun cx_8=>some cx_8))
instance key_Cut_c:Fd2 34 ZkZ fun r=>D r:=en2 Tryz.func34 rfl Tryz.ntmps34 fun A w hA k0 n0 r H=>by
 unfold ZkZ at H;refine zg ?_;refine TS.box rfl fun b2_0=>?_
 refine TS.alloc rfl fun b4_1=>zg ?_
 refine zc H (fun hc H=>?_) fun hc H=>?_
 ·exact zY H
 ·refine zg ?_;refine TS.alloc rfl fun b5_2=>zg ?_
  refine zc H (fun hc H=>?_) fun hc H=>?_
  ·exact zY H
  ·refine zg ?_;refine zo H fun x_4 _ H=>?_
   refine zC ?_;refine zX (ZaW [4] [b2_0,b5_2] mix (by kernel_rfl) (by kernel_rfl)) ?_;refine zn H fun _ eu_5 H=>?_
   refine zX (Zeq (Zdh (ZT eu_5.h).1 (ZT eu_5.h).2.1 (ZT eu_5.h).2.2 (by decide)) rfl) ?_;refine zn H fun _ eu_6 H=>?_
   refine TRx (Zdh (ZT eu_6.h).1 (ZT eu_6.h).2.1 (ZT eu_6.h).2.2 (by decide))<|Zfi (fun g=>(ZcO (ys:=((k0.l.drop (Int.toNat 0)).take ((x_4-0).toNat))) (Zky (ZiD Zx (Zh3 eu_6.h) (by decide)) (Zg0 eu_6.h (Vec.h _))) (ZiD Zx (Zh3 eu_5.h) (by decide)) (Zg0 eu_5.h (Vec.h _)) (fun _ h=>by simp [h,splice,ZeK]))) rfl ?_;refine zC ?_;rintro ⟨_,_⟩;dsimp only [Fam.nextS,Fam.nextN,Fam.one,List.cons_append,List.nil_append];refine zn H fun cx_7 ecx_7 H=>?_
   refine ZB b5_2 (Zah ecx_7.h)<|Zau ?_;refine zh H fun o_9 H9 H=>?_
   refine Zn (fun s:(Vec UInt8 16)=>o_9=s) (fun (cx_8:(Vec UInt8 16)) (_:Unit)=>(Env.set (Env.set Env.nil 4 (Pt b4_1 0)) 5 (Pt b5_2 0))) (fun (cx_8:(Vec UInt8 16)) (_:Unit)=>[⟨b4_1,True,(One ((Dat.z:(Vec UInt8 16)):(Vec UInt8 16)))⟩,⟨b5_2,True,(One cx_8)⟩]) ?_ ?_
   ·skip;refine zg ?_;refine zb H9 fun x_10 _ H9=>?_
    refine zc H9 (fun hc H9=>?_) fun hc H9=>?_
    ·refine zX (Zff [8] [b5_2] mix (by kernel_rfl) (by kernel_rfl)) ?_;refine zn H9 fun x_11 ex_11 H9=>?_
     refine TRx (Zay (ZI ex_11.h (Vec.h _).symm)) ?_;refine zX (Zeq (ZaE (Zfj (α:=UInt8) Zx ex_11.h)) rfl) ?_;refine zn H9 fun _ en_12 H9=>?_
     refine TRx (OpD.shr8 (cnt_some en_12.h).1)<|TRx OpY.andNot8 ?_;refine zn H9 fun _ ex_13 H9=>?_
     refine TRx (Zay (ZI ex_13.h (Vec.h _).symm))<|Zdg (fun g=>(Zw (y:=((x_11 &&& ~~~(shr8 (UInt8.ofNat 255) x_10)):UInt8)) (Zfj (α:=UInt8) Zx ex_13.h))) rfl ?_;refine zC ?_;rintro ⟨_,_⟩;dsimp only [Fam.nextS,Fam.nextN,Fam.one,List.cons_append,List.nil_append];refine zn H9 fun cx_14 ecx_14 H9=>?_
     exact Zaf b5_2 (Zah ecx_14.h)<|Zj cx_14 () (ZZs H9) (Za (Za (Zd _))) (Zc rfl (Zc rfl (Ze _)))
    ·refine zg ?_;exact Zj cx_7 () (ZZs H9) (Za (Za (Zd _))) (Zc rfl (Zc rfl (Ze _)))
   rintro cx_8 ⟨⟩ hp;replace hp:=hp.symm;subst hp;exact zY H
def ZhH (p0:Prefix):Option Bool:=
 (ZlY p0.Bits).bind fun x_2=>bif (((!x_2)||(decide (p0.Len<(0:Int))))||(decide (p0.Len>p0.Bits))) then (some false) else ((ZkZ p0.Key p0.Len).bind fun x_3=>some (decide (x_3=p0.Key)))
instance key_May_c:Fd1 60 ZhH fun r=>D r:=en1 Tryz.func60 rfl Tryz.ntmps60 fun A w hA p0 r H=>by
 unfold ZhH at H;refine zg ?_;refine TS.box rfl fun b1_0=>zg ?_
 refine zb H fun _ _ H=>?_
 refine zc H (fun hc H=>?_) fun hc H=>?_
 ·exact zY H
 ·refine zg ?_;refine zb H fun _ _ H=>?_
  refine TRx (ZmQ EqV_83 (by decide) EqG_83 rfl) ?_;exact zY H
def Zeb (a0:(List UInt8)) (b0:(List UInt8)):Option Int:=
 some (ZcT a0 b0)
instance bytes_Compare_c:Fd2 110 Zeb fun r=>D r:=en2 Tryz.func110 rfl Tryz.ntmps110 fun A w hA a0 b0 r H=>by
 unfold Zeb at H;refine zg ?_;refine TSx OpY.cmp ?_;exact zY H
def ZiW (p0:Prefix) (q0:Prefix):Option Bool:=
 (ZhH p0).bind fun x_3=>(gb (!(!x_3)) (ZhH q0)).bind fun x_4=>bif ((!x_3)||(!x_4)) then (some false) else (bif (decide (p0.Bits≠q0.Bits)) then (some (decide (p0.Bits=(32:Int)))) else ((cut 16 0 (16:Int)).bind fun u_5=>(cut 16 0 (16:Int)).bind fun u_6=>(Zeb ((p0.Key.l.drop (Int.toNat 0)).take (((16:Int)-0).toNat)) ((q0.Key.l.drop (Int.toNat 0)).take (((16:Int)-0).toNat))).bind fun x_7=>bif (decide (x_7≠(0:Int))) then (some (decide (x_7<(0:Int)))) else (some (decide (p0.Len<q0.Len)))))
instance key_Less_c:Fd2 61 ZiW fun r=>D r:=en2 Tryz.func61 rfl Tryz.ntmps61 fun A w hA p0 q0 r H=>by
 unfold ZiW at H;refine zg ?_;refine TS.box rfl fun b2_0=>?_
 refine TS.box rfl fun b3_1=>zg ?_
 refine zb H fun _ _ H=>?_
 refine zd H fun _ _ H=>?_
 refine zc H (fun hc H=>?_) fun hc H=>?_
 ·exact zY H
 ·refine zg ?_;refine zc H (fun hc H=>?_) fun hc H=>?_
  ·exact zY H
  ·refine zg ?_;refine zn H fun _ eu_5 H=>?_
   refine zX (Zeq (Zdh (ZT eu_5.h).1 (ZT eu_5.h).2.1 (ZT eu_5.h).2.2 (by decide)) rfl) ?_;refine zn H fun _ eu_6 H=>?_
   refine TRx (Zdh (ZT eu_6.h).1 (ZT eu_6.h).2.1 (ZT eu_6.h).2.2 (by decide)) ?_;refine zn H fun _ ex_7 H=>?_
   refine TRx (ZcN [b2_0,b3_1] (ZiK (ZiD (PF 2 Prefix (Vec UInt8 16) Zx) (Zh3 eu_5.h) (by decide)) (Zg0 eu_5.h (Vec.h _)) (by simp)) (ZiK (ZiD (PF 2 Prefix (Vec UInt8 16) Zx) (Zh3 eu_6.h) (by decide)) (Zg0 eu_6.h (Vec.h _)) (by simp)) fun w v0 v1 hA h0 h1=>bytes_Compare_c.h w v0 v1 hA (toD h0) (toD h1) ex_7.h) ?_;exact zY H
def Zdy (t0:(List Route)) (x_2:Int):Option (Int⊕(Unit⊕Bool)):=
 bif (decide (x_2<(t0.length:Int))) then ((idx t0 x_2).bind fun x_4=>(ZhH x_4.Prefix).bind fun x_6=>bif (!x_6) then (some (.inr (.inr false))) else ((gb (decide (x_2>(0:Int))) (Zgs x_2 1)).bind fun x_8=>(gb (decide (x_2>(0:Int))) (idx t0 x_8)).bind fun x_9=>(gb (decide (x_2>(0:Int))) (ZiW x_9.Prefix x_4.Prefix)).bind fun x_10=>bif ((decide (x_2>(0:Int)))&&(!x_10)) then (some (.inr (.inr false))) else ((Zas x_2 1).bind fun x_12=>some (.inl x_12)))) else (some (.inr (.inl ())))
def ZcG (t0:(List Route)):Option Bool:=
 bif (decide ((t0.length:Int)>(256:Int))) then (some false) else ((ZM (fun s=>Zdy t0 s) (0:Int)).bind fun o_1=>elS o_1 (fun _=>some true) (fun q=>some q))
instance table_Right_c:Fd1 18 ZcG fun r=>D r:=en1 Tryz.func18 rfl Tryz.ntmps18 fun A w hA t0 r H=>by
 unfold ZcG at H;refine zg ?_;refine zc H (fun hc H=>?_) fun hc H=>?_
 ·exact zY H
 ·refine zC ?_;refine zh H fun o_1 H1 H=>?_
  refine Zn (fun s:Unit=>o_1=.inl s) (fun (_:Unit) (_:Unit)=>Env.nil) (fun (_:Unit) (_:Unit)=>[]) ?_ ?_
  ·skip;refine Zp<|Zu H1 (fun (x_2:Int) (_:Unit)=>(Env.set (Env.set (Env.set (Env.set Env.nil 0 (D t0)) 8 (D t0)) 9 (D ((t0.length:Int):Int))) 10 (D x_2))) (fun (x_2:Int) (_:Unit)=>[]) () (Za (Za (Za (Za (Zd _))))) (Ze _) ?_;rintro x_2 ⟨⟩ x_3 H3 he3;unfold Zdy at H3;refine zg ?_;refine zc H3 (fun hc H3=>?_) fun hc H3=>?_
   ·refine zg ?_;refine zb H3 fun _ _ H3=>?_
    refine TS.alloc rfl fun b4_4=>zg ?_
    refine zb H3 fun _ _ H3=>?_
    refine zc H3 (fun hc H3=>?_) fun hc H3=>?_
    ·refine zC ?_;refine ZL<|Zg<|Zf<|Zg<|Zg<|Zf<|Zs ?_;have R6:=ZaM (he3 _ (ZZs H3)) H;refine zg ?_;obtain rfl:=ZZi R6;exact ZaV rfl Cv.le
    ·refine zg ?_;refine zd H3 fun _ _ H3=>?_
     refine zd H3 fun _ _ H3=>?_
     refine zd H3 fun _ _ H3=>?_
     refine zc H3 (fun hc H3=>?_) fun hc H3=>?_
     ·refine zC ?_;refine ZL<|Zf<|Zg<|Zg<|Zf<|Zs ?_;have R10:=ZaM (he3 _ (ZZs H3)) H;refine zg ?_;obtain rfl:=ZZi R10;exact ZaV rfl Cv.le
     ·refine zg ?_;refine zb H3 fun x_12 _ H3=>?_
      exact Zq x_12 () (ZZs H3) (Za (Za (Za (Za (Zd _))))) (Ze _)
   ·refine zg ?_;exact Zj () () (he3 _ (ZZs H3)).symm (Zd _) (Ze _)
  rintro ⟨⟩ ⟨⟩ hp;replace H:=ZbD hp H;exact zY H
def ZR (s0:(List Route)):Option (List Route):=
 (Zdv 40 ((0+s0.length:Nat):Int)).bind fun _=>some s0
theorem ZdN {s0:(List Route)} {r:(List Route)} (H:ZR s0=some r):CO1 46 [] (D s0) (fun g:Nat×Prop×Nat=>Sl g.1 g.2.1 0 (List.length r) g.2.2) fun g=>[⟨g.1,g.2.1,Row (r:List Route) g.2.2⟩]:=eO1 Tryz.func46 rfl Tryz.ntmps46 fun A w hA hO=>by
 unfold ZR at H;refine zn H fun _ eu H=>?_
 obtain rfl:=ZZi H;refine zg ?_;refine TSx Zby ?_;refine zC ?_;refine ZfA (fun hc=>?_) (fun hc=>?_)
 ·obtain rfl:=hc rfl;refine zg ?_;exact ZA rfl ⟨0,False,0⟩ ZcV (Zbq (Ze _))
 ·refine zg ?_;refine TS.build [] rfl rfl (by decide) rfl fun b=>zg ?_
  refine TS.app (ys:=s0) inferInstance eu.h rfl rfl rfl fun b1 p1 c1=>zg ?_
  exact ZA rfl ⟨b1,p1,c1⟩ (ZC (by simp)) (Zc rfl (Ze _))
instance slices_Clone_api_Route_c:Fd1 46 ZR fun r=>D r:=⟨fun w v0 hA h0 H=>(on1 (ZdN H) w v0 hA h0).mono fun e w' h=>Zhn hA h⟩
def Zdl (i0:Int) (cap1:(List Route)) (cap2:Prefix):Option Bool:=
 (idx cap1 i0).bind fun x_1=>(ZiW x_1.Prefix cap2).bind fun x_2=>some (!x_2)
theorem Zmf {A:Nat→Prop} {i0:Int} {cap1:(List Route)} {cap2:Prefix}  {r:Bool} (w:World) (v0 v1 v2:Value) (hA:∀ k,w.heap.size≤k→A k)  (h0:(D i0).p A w v0) (h1:(ZlO cap1).p A w v1) (h2:(ZlO cap2).p A w v2) (H:Zdl i0 cap1 cap2=some r) :
    Calls Tryz.prog 128 #[v0,v1,v2] w (Ret A w (D r)):=by
 unfold Zdl at H;refine enter3 hA Tryz.func128 rfl Tryz.ntmps128 rfl h0 h1 h2 ?_;exact zY H
def ZgQ (f0:(F1 Tryz.prog Int Bool)) (i_3:Int) (j_4:Int):Option ((Int×Int)⊕Int):=
 bif (decide (i_3<j_4)) then ((Zas i_3 j_4).bind fun x_6=>(ZiR ((shr64 (UInt64.ofInt x_6) ((UInt64.ofNat 1).toNat:Int)).toNat:Int)).bind fun x_7=>((f0).f x_7).bind fun x_8=>bif (!x_8) then ((Zas x_7 1).bind fun x_9=>some (.inl (x_9,j_4))) else (some (.inl (i_3,x_7)))) else (some (.inr i_3))
def ZfW (n0:Int) (f0:(F1 Tryz.prog Int Bool)):Option Int:=
 (ZM (fun s=>ZgQ f0 s.1 s.2) ((0:Int),n0)).bind fun i_1=>some i_1
instance sort_Search_c:Fd2 127 ZfW fun r=>D r:=en2 Tryz.func127 rfl Tryz.ntmps127 fun A w hA n0 f0 r H=>by
 unfold ZfW at H;refine zC ?_;refine zC ?_;refine Zau ?_;refine zh H fun o_2 H2 H=>?_
 refine Zn (fun s:Int=>o_2=s) (fun (i_1:Int) (_:Unit)=>(Env.set Env.nil 5 (D i_1))) (fun (i_1:Int) (_:Unit)=>[]) ?_ ?_
 ·skip;refine Zp<|Zu H2 (fun ⟨i_3,j_4⟩ (_:Unit)=>(Env.set (Env.set (Env.set Env.nil 1 (D f0)) 5 (D i_3)) 6 (D j_4))) (fun ⟨i_3,j_4⟩ (_:Unit)=>[]) () (Za (Za (Za (Zd _)))) (Ze _) ?_;rintro ⟨i_3,j_4⟩ ⟨⟩ x_5 H5 he5;dsimp only at H5;unfold ZgQ at H5;refine zg ?_;refine zc H5 (fun hc H5=>?_) fun hc H5=>?_
  ·refine zg ?_;refine zb H5 fun _ _ H5=>?_
   refine TSx ZiF<|TSx (OpD.shr64 (Int.natCast_nonneg _)) ?_;refine zn H5 fun x_7 ex_7 H5=>?_
   refine zX (Za1 (ZlE ex_7.h) rfl) ?_;refine zn H5 fun _ ex_8 H5=>?_
   refine zX (Za1 (Zlf ex_8.h) rfl) ?_;refine zc H5 (fun hc H5=>?_) fun hc H5=>?_
   ·refine zg ?_;refine zb H5 fun x_9 _ H5=>?_
    exact Zq ⟨x_9,j_4⟩ () (ZZs H5) (Za (Za (Za (Zd _)))) (Ze _)
   ·refine zg ?_;exact Zq ⟨i_3,x_7⟩ () (ZZs H5) (Za (Za (Za (Zd _)))) (Ze _)
  ·refine zg ?_;exact Zj i_3 () (he5 _ (ZZs H5)).symm (Za (Zd _)) (Ze _)
 rintro i_1 ⟨⟩ hp;replace hp:=hp.symm;subst hp;exact zY H
def ZfS (t0:(List Route)) (p0:Prefix):Option (Int×Bool):=
 (ZfW (t0.length:Int) (⟨fun x0=>Zdl x0 t0 p0⟩:(F1 Tryz.prog Int Bool))).bind fun x_3=>(gb (decide (x_3<(t0.length:Int))) (idx t0 x_3)).bind fun x_4=>some (x_3,((decide (x_3<(t0.length:Int)))&&(decide (x_4.Prefix=p0))))
instance table_place_c:Fd2 79 ZfS fun r=>Tup [D r.1,D r.2]:=en2 Tryz.func79 rfl Tryz.ntmps79 fun A w hA t0 p0 r H=>by
 unfold ZfS at H;refine zg ?_;refine TS.box rfl fun b2_0=>?_
 refine TS.box rfl fun b3_1=>zg ?_
 refine TS.pub b2_0 (PubE.set 2 (PubC.pq Zx) PubE.refl) ?_;refine TS.pub b3_1 (PubE.set 3 (PubC.pq Zx) PubE.refl) ?_;refine TSx (OpY.mk1_2 fun w v0 v1 v2 hA h0 h1 h2 e=>Zmf w v0 v1 v2 hA h0 h1 h2 e) ?_;refine zb H fun _ _ H=>?_
 refine zd H fun _ _ H=>?_
 refine TR.g 16 rfl (fun hg=>(ZmQ EqV_85 (by decide) EqG_85 rfl)) rfl ?_;exact zY H
def Zbw (s0:(List Route)) (i0:Int) (j0:Int):Option (List Route):=
 (cut s0.length i0 j0).bind fun _=>some (s0.take (Int.toNat i0)++s0.drop (Int.toNat j0))
theorem ZgS {A:Nat→Prop} {s0:(List Route)} {i0:Int} {j0:Int} {b0 c0:Nat} {p0:Prop} {r:(List Route)} (w:World) (v0 v1 v2:Value) (hA:∀ k,w.heap.size≤k→A k) (hO:OwnIn A [⟨b0,p0,Row (s0:List Route) c0⟩]) (hap:ZfD [⟨b0,p0,Row (s0:List Route) c0⟩]) (hks:Pks (Pub A [⟨b0,p0,Row (s0:List Route) c0⟩]) [⟨b0,p0,Row (s0:List Route) c0⟩] w) (h0:(Sl b0 p0 0 s0.length c0).p (Pub A [⟨b0,p0,Row (s0:List Route) c0⟩]) w v0) (h1:(D i0).p (Pub A [⟨b0,p0,Row (s0:List Route) c0⟩]) w v1) (h2:(D j0).p (Pub A [⟨b0,p0,Row (s0:List Route) c0⟩]) w v2) (H:Zbw s0 i0 j0=some r) :
    Calls Tryz.prog 94 #[v0,v1,v2] w (Zld A w [⟨b0,p0,Row (s0:List Route) c0⟩] (fun g:Nat×Prop×Nat=>Sl g.1 g.2.1 0 (List.length r) g.2.2) fun g=>[⟨g.1,g.2.1,Row (r:List Route) g.2.2⟩]):=by
 unfold Zbw at H;refine enterO3 hA hap hks Tryz.func94 rfl Tryz.ntmps94 rfl h0 h1 h2 ?_;refine zn H fun _ eu_1 H=>?_
 obtain rfl:=ZZi H;have e0:=ZT eu_1.h;refine zg ?_;refine TSx (Zax (n:=s0.length) rfl) ?_;refine zX (Za1 (OpY.slice3Sv (u:=()) (v:=()) (cut_of (by omega) (by omega) (by simp;omega)) (cut_of (by omega) (by omega) (by omega))) rfl) ?_;refine Zgk (fun hc=>?_) (fun hc=>?_)
 ·obtain rfl:i0=j0:=by simpa using hc
  refine zg ?_;rw [List.take_append_drop];exact ZA rfl ⟨b0,p0,c0⟩ (ZC rfl) (Zc rfl (Ze _))
 ·have hne:i0≠j0:=by simpa using hc
  have hp:p0:=by
    rcases h0 with ⟨h,-⟩ | ⟨-,h,-⟩
    · exact h
    · exfalso;omega
  have hz:(s0.drop (Int.toNat j0)).length=s0.length-Int.toNat j0:=List.length_drop ..;refine zg ?_;refine TSx (Zax (n:=s0.length) rfl) ?_;refine zC ?_;refine zX (ZaW [6,7] [b0] mix (by kernel_rfl) (by kernel_rfl)) ?_;refine zX (Zeq (Zeg (by omega) (by omega)) rfl) ?_;refine TRx (ZaK (by omega) (by omega))<|Zfi (fun g=>OpT.appIn (ys:=s0.drop (Int.toNat j0)) (Zky (ZmM (by omega)) (by rw [hz];omega)) hp rfl (by omega)) rfl<|Zfi (fun g=>Zgo rfl ZeO) rfl ?_;refine zC ?_;rintro ⟨⟨_,_⟩,_⟩;dsimp only [Fam.nextS,Fam.nextN,Fam.one,List.cons_append,List.nil_append];refine zg ?_;refine zX (Za1 (Zax (n:=Int.toNat i0+(s0.drop (Int.toNat j0)).length) rfl) rfl) ?_;have hsl:(splice s0 (Int.toNat i0) (s0.drop (Int.toNat j0))).length=s0.length:=by simp [splice];omega
  refine TSx (ZmP (xs:=splice s0 (Int.toNat i0) (s0.drop (Int.toNat j0))) hp (by omega) (by omega) (by omega))<|Zbj (OpT.clearBy (xs:=((splice s0 (Int.toNat i0) (s0.drop (Int.toNat j0))).drop (Int.toNat ((Int.toNat i0+(s0.drop (Int.toNat j0)).length:Nat):Int))).take ((s0.length:Int)-((Int.toNat i0+(s0.drop (Int.toNat j0)).length:Nat):Int)).toNat) (ZgK (by omega)) (by simp [hsl];omega) (fun _ h=>by simp [h,splice])) ?_;refine zC ?_;refine zC ?_;refine ZL ?_;have hk:Int.toNat i0≤s0.length:=by omega
  refine ZA rfl ⟨b0,p0,c0⟩ (ZC (by simp;omega)) (ZjQ (Int.toNat i0+(s0.drop (Int.toNat j0)).length) (by simp [splice];omega) ?_ (Ze _));exact del_take hk rfl
theorem ZlS {α:Type} {a b ys:List α} {m:Nat} (hm:m=b.length) (hy:ys.length≤b.length):splice (a++b) a.length (over (((a++b).drop a.length).take m) ys)=a++(ys++b.drop ys.length):=by
 subst hm;have e1:((a++b).drop a.length).take b.length=b:=by simp
 rw [e1];have e2:over b ys=ys++b.drop ys.length:=by unfold over;rw [List.take_of_length_le hy]
 rw [e2];unfold splice;have e3:(ys++b.drop ys.length).length=b.length:=by simp;omega
 have e4:(a++b).drop (a.length+b.length)=[]:=List.drop_of_length_le (by simp);rw [e3,List.take_left,e4,List.append_nil]
theorem spl_shift {α:Type} {s:List α} {k:Nat} {z:α} {m:Nat} (hk:k<s.length) (hm:m=s.length+1-k):splice (splice s (k+1) (s.drop k)) k (over (((splice s (k+1) (s.drop k)).drop k).take m) [z])=s.take k++[z]++s.drop k:=by
 have e0:splice s (k+1) (s.drop k)=s.take k++(s[k]::s.drop k):=by
   have e8:s.drop (k+1+(s.drop k).length)=[]:=List.drop_of_length_le (by simp;omega);unfold splice;rw [e8,List.append_nil,List.take_succ_eq_append_getElem hk,List.append_assoc];rfl
 rw [e0];have e1:(s.take k).length=k:=by simp;omega
 have:=ZlS (a:=s.take k) (b:=s[k]::s.drop k) (ys:=[z]) (m:=m) (by simp;omega) (by simp);rw [e1] at this;rw [this];simp
theorem spl_grow {α:Type} {s:List α} {k q m m':Nat} {z d:α} (hk:k<s.length) (hq:q=s.length+1-k) (hm:m=s.length+1-k) (hm':m'=s.length-k) :
    splice (splice (s.take k++List.replicate q d) k (over (((s.take k++List.replicate q d).drop k).take m) [z])) (k+1) (over (((splice (s.take k++List.replicate q d) k (over (((s.take k++List.replicate q d).drop k).take m) [z])).drop (k+1)).take m') (s.drop k))=s.take k++[z]++s.drop k:=by
 have e1:(s.take k).length=k:=by simp;omega
 have h1:=ZlS (a:=s.take k) (b:=List.replicate q d) (ys:=[z]) (m:=m) (by simp;omega) (by simp;omega);rw [e1] at h1;rw [h1];have e2:(s.take k++[z]).length=k+1:=by simp;omega
 have h2:=ZlS (a:=s.take k++[z]) (b:=(List.replicate q d).drop 1) (ys:=s.drop k) (m:=m') (by simp;omega) (by simp;omega);rw [e2,List.append_assoc] at h2;have e3:([z]:List α).length=1:=rfl;have e5:((List.replicate q d).drop 1).drop (s.drop k).length=[]:=List.drop_of_length_le (by simp;omega);rw [e3,h2,e5,List.append_nil]
def Zbv (s0:List Route) (i0:Int) (v0x:List Route):Option (List Route):=
 (cut s0.length i0 s0.length).bind fun _=>(lenI v0x.length 1).bind fun _=>(Zdv 40 ((s0.length+v0x.length:Nat):Int)).bind fun _=>some (s0.take (Int.toNat i0)++v0x++s0.drop (Int.toNat i0))
theorem ZgR {A:Nat→Prop} {s0:List Route} {i0:Int} {z:Route} {b0 c0:Nat} {p0:Prop} {r:List Route} (w:World) (v0 v1 v2:Value) (hA:∀ k,w.heap.size≤k→A k) (hO:OwnIn A [⟨b0,p0,Row (s0:List Route) c0⟩]) (hap:ZfD [⟨b0,p0,Row (s0:List Route) c0⟩]) (hks:Pks (Pub A [⟨b0,p0,Row (s0:List Route) c0⟩]) [⟨b0,p0,Row (s0:List Route) c0⟩] w)
    (h0:(Sl b0 p0 0 s0.length c0).p (Pub A [⟨b0,p0,Row (s0:List Route) c0⟩]) w v0) (h1:(D i0).p (Pub A [⟨b0,p0,Row (s0:List Route) c0⟩]) w v1) (h2:(D ([z]:List Route)).p (Pub A [⟨b0,p0,Row (s0:List Route) c0⟩]) w v2) (hraw:Raw1 w v2) (H:Zbv s0 i0 [z]=some r) :
    Calls Tryz.prog 95 #[v0,v1,v2] w (Zld A w [⟨b0,p0,Row (s0:List Route) c0⟩] (fun g:Nat×Prop×Nat=>Sl g.1 g.2.1 0 (List.length r) g.2.2) fun g=>[⟨g.1,g.2.1,Row (r:List Route) g.2.2⟩]):=by
 unfold Zbv at H;refine zn H fun _ eu_1 H=>?_
 refine zn H fun _ _ H=>?_
 refine zn H fun _ eu_3 H=>?_
 obtain rfl:=ZZi H;have e0:=ZT eu_1.h;have e3:=(Za3 eu_3.h).2.2;have e4:=(Za3 eu_3.h).2.1;simp only [List.length_cons,List.length_nil] at e3 e4;obtain ⟨k,rfl⟩:=Int.eq_ofNat_of_zero_le e0.1;simp only [Int.toNat_natCast];have hk0:k≤s0.length:=by omega
 have hS:∀ q l c,v2=.slice (some ⟨q,0,none⟩) l c→¬ Own [⟨b0,p0,Row (s0:List Route) c0⟩] q:=fun q l c hv ho=>by
   obtain ⟨ad,cc,q1,q2,q3,q4,q5⟩:=ZlQ rfl h2;obtain ⟨b,off,q6,q7,_⟩:=q5 0 (by simp);rw [hv] at q1;injection q1 with q1;injection q1 with q8;rw [q6] at q8;injection q8 with q8;injection q8 with q8;exact (ZE.1 q7).2 (q8▸ho)
 have hx2:(ExD v2 ([z]:List Route)).p (Pub A [⟨b0,p0,Row (s0:List Route) c0⟩]) w v2:=⟨rfl,h2⟩;have hadd:Zas (s0.length:Int) ((([z]:List Route).length:Nat):Int)=some ((s0.length+1:Nat):Int):=by
   unfold Zas ZiR;simp only [List.length_cons,List.length_nil];rw [if_pos (by omega)];congr 1
 have hadk:Zas ((k:Nat):Int) ((([z]:List Route).length:Nat):Int)=some ((k+1:Nat):Int):=by
   unfold Zas ZiR;simp only [List.length_cons,List.length_nil];rw [if_pos (by omega)];congr 1
 refine zX (enterO3 hA hap hks Tryz.func95 rfl Tryz.ntmps95 rfl h0 h1 hx2) ?_;refine zX (Za1 (ZaK (by omega) (by omega)) rfl) ?_;refine Zgk (fun hc=>?_) (fun hc=>?_)
 ·exact absurd hc (by simp)
 ·refine zg ?_;refine zX (Za1 (Zax (n:=s0.length) rfl) rfl) ?_;refine Zgk (fun hc2=>?_) (fun hc2=>?_)
  ·have hkn:k=s0.length:=by have:=of_decide_eq_true hc2;omega
   refine zg ?_;refine TS.app (ys:=[z]) inferInstance eu_3.h rfl rfl rfl fun b1 p1 c1=>zg ?_
   have hr:s0.take k++[z]++s0.drop k=s0++[z]:=by rw [hkn];simp
   rw [hr];exact ZA rfl ⟨b1,p1,c1⟩ (ZC rfl) (Zc rfl (Ze _))
  ·have hkn:k<s0.length:=by
     have:¬ ((k:Nat):Int)=(s0.length:Int):=by simpa using hc2
     omega
   have hp:p0:=by
     rcases h0 with ⟨h,-⟩ | ⟨-,h,-⟩
     · exact h
     · exfalso;omega
   refine zg ?_;refine zX (Za1 (Zgp hadd) rfl) ?_;refine zX (Za1 OpY.capSl rfl) ?_;refine Zgk (fun hc3=>?_) (fun hc3=>?_)
   ·have hcap:c0<s0.length+1:=by
      have:=of_decide_eq_true hc3;omega
    have hsub:Zgs ((s0.length+1:Nat):Int) ((k:Nat):Int)=some ((s0.length+1-k:Nat):Int):=by
      unfold Zgs ZiR;rw [if_pos (by omega)];exact congrArg some (by omega)
    refine zg ?_;refine zX (Za1 (Zeg (by omega) (by omega)) rfl) ?_;refine zX (Za1 (Zgp hadd) rfl) ?_;refine TSx (OpD.sub hsub) ?_;refine Zdw (OpT.appZ (xs:=s0) hp (by simp only [Int.toNat_natCast];omega) (by omega) (by simp only [Int.toNat_natCast];omega) (by simp only [Int.toNat_natCast];omega) (by simp only [Int.toNat_natCast];omega)) rfl fun ⟨b1,c1⟩=>?_
    refine zC ?_;simp only [Int.toNat_natCast];have hL:(s0.take k++List.replicate (s0.length+1-k) (Dat.z:Route)).length=s0.length+1:=by simp;omega
    refine zg ?_;refine zX (Za1 (ZaK (by omega) (by omega)) rfl) ?_;refine TS.u (ZcO (ys:=[z]) inferInstance (ZgK (k:=k) (n:=s0.length+1-k) (by omega)) (by simp <;> omega) (fun _ h=>by simp [h,splice])) rfl ?_;refine zC ?_;generalize hX:splice (s0.take k++List.replicate (s0.length+1-k) (Dat.z:Route)) k (over (((s0.take k++List.replicate (s0.length+1-k) (Dat.z:Route)).drop k).take (s0.length+1-k)) [z])=X;have hXl:X.length=s0.length+1:=by
      rw [← hX];have e1:(s0.take k).length=k:=by simp;omega
      have h1:=ZlS (a:=s0.take k) (b:=List.replicate (s0.length+1-k) (Dat.z:Route)) (ys:=[z]) (m:=s0.length+1-k) (by simp) (by simp;omega);rw [e1] at h1;rw [h1];simp;omega
    refine zX (ZaW [8] [b1] mix (by kernel_rfl) (by kernel_rfl)) ?_;refine TRx (Zgp hadk) ?_;refine zX (Zeq (ZaK (by omega) (by omega)) rfl) ?_;refine TRx (ZaK (by omega) (by omega))<|Zfi (fun g=>ZcO (ys:=s0.drop k) (Zky (ZmM (by omega)) (by simp <;> omega)) (ZgK (k:=k+1) (n:=s0.length-k) (by omega)) (by simp <;> omega) (fun _ h=>by simp [h,splice])) rfl ?_;refine zC ?_;rintro ⟨_,_⟩;dsimp only [Fam.nextS,Fam.nextN,Fam.one,List.cons_append,List.nil_append];refine zg ?_;have hfin:=spl_grow (s:=s0) (k:=k) (z:=z) (d:=(Dat.z:Route)) hkn rfl rfl rfl;rw [hX] at hfin;exact ZA rfl ⟨b1,True,c1⟩ (ZC (by rw [hL];simp;omega)) (Zc (by rw [hfin]) (Ze _))
   ·have hcap:s0.length+1≤c0:=by
      have:¬ ((s0.length+1:Nat):Int)>((c0:Nat):Int):=of_decide_eq_false hc3;omega
    refine zg ?_;refine TSx (Zgp hadd) ?_;refine zX (Za1 (OpY.sliceUp (by omega) (by omega)) rfl) ?_;refine TSx (Zgp hadk)<|TSx (ZaK (by omega) (by omega)) ?_;refine zX (TS.ovl hp hraw hS (fun A w cs h=>by have:=h.1;have h2:Dat.sz Route=19:=rfl;rw [this,h2];omega) rfl (by omega)) ?_;refine Zgk (fun hc4=>?_) (fun hc4=>?_)
    ·refine zX (ZaW [8] [b0] mix (by kernel_rfl) (by kernel_rfl)) ?_;refine TRx (Zgp hadk) ?_;refine zX (Zeq (ZaK (by omega) (by omega)) rfl) ?_;refine TRx (ZaK (by omega) (by omega))<|Zfi (fun g=>OpT.copyShift (xs:=s0) (k:=k) (by simp) (by simp) hkn (by omega) (by omega) hcap (by unfold ZjT;omega)) rfl ?_;refine zC ?_;rintro ⟨_,_⟩;dsimp only [Fam.nextS,Fam.nextN,Fam.one,List.cons_append,List.nil_append];have hXl:(splice s0 (k+1) (s0.drop k)).length=s0.length+1:=by simp [splice];omega
     refine zg ?_;refine zX (Za1 (ZaK (by omega) (by omega)) rfl) ?_;refine zX (TS.u (ZcO (ys:=[z]) inferInstance (ZgK (k:=k) (n:=s0.length+1-k) (by omega)) (by simp <;> omega) (fun _ h=>by simp [h,splice])) rfl) ?_;exact ZA rfl ⟨b0,p0,c0⟩ (ZC (by simp;omega)) (Zc (by rw [spl_shift hkn rfl]) (Ze _))
    ·exact absurd hc4 (by simp)
def ZeZ (t0:(List Route)) (c0x:Change):Option ((List Route)×Int):=
 (ZhH c0x.Route.Prefix).bind fun x_2=>bif (!x_2) then (some (t0,(1:Int))) else ((ZfS t0 c0x.Route.Prefix).bind fun r_3=>bif (c0x.Gone&&(!r_3.2)) then (some (t0,(6:Int))) else (bif c0x.Gone then ((Zas r_3.1 1).bind fun x_4=>(Zbw t0 r_3.1 x_4).bind fun x_5=>some (x_5,(0:Int))) else (bif r_3.2 then ((idx t0 r_3.1).bind fun x_7=>(some ((t0.set (Int.toNat r_3.1) c0x.Route):(List Route))).bind fun l_8=>some (l_8,(0:Int))) else (bif (decide ((t0.length:Int)≥(256:Int))) then (some (t0,(5:Int))) else ((Zbv t0 r_3.1 [c0x.Route]).bind fun x_10=>some (x_10,(0:Int)))))))
theorem table_change_o {t0:(List Route)} {c0x:Change} {b0 c0:Nat} {p0:Prop} {r:((List Route)×Int)} (H:ZeZ t0 c0x=some r):CO2 47 [⟨b0,p0,Row (t0:List Route) c0⟩] (Sl b0 p0 0 t0.length c0) (D c0x) (fun g:Nat×Prop×Nat=>Tup [Sl g.1 g.2.1 0 (List.length r.1) g.2.2,D r.2]) fun g=>[⟨g.1,g.2.1,Row (r.1:List Route) g.2.2⟩]:=eO2 Tryz.func47 rfl Tryz.ntmps47 fun A w hA hO=>by
 unfold ZeZ at H;refine zg ?_;refine TS.box rfl fun b3_0=>zg ?_
 refine zb H fun _ _ H=>?_
 refine zc H (fun hc H=>?_) fun hc H=>?_
 ·refine zg ?_;obtain rfl:=ZZi H;exact Zap rfl rfl ⟨b0,p0,c0⟩ (.cons (ZC rfl) (.cons Cv.le .nil)) (Zc rfl (Ze _))
 ·refine zg ?_;refine zn H fun _ er_3 H=>?_
  refine zX (Za1 (ZcN [b0] (ZiK PlS.all rfl (by simp)) ArgB.d fun w v0 v1 hA h0 h1=>table_place_c.h w v0 v1 hA (toD h0) (toD h1) er_3.h) rfl) ?_;refine zc H (fun hc H=>?_) fun hc H=>?_
  ·refine zg ?_;obtain rfl:=ZZi H;exact Zap rfl rfl ⟨b0,p0,c0⟩ (.cons (ZC rfl) (.cons Cv.le .nil)) (Zc rfl (Ze _))
  ·refine zg ?_;refine zc H (fun hc H=>?_) fun hc H=>?_
   ·refine zg ?_;refine zb H fun _ _ H=>?_
    refine zn H fun _ ex_5 H=>?_
    refine Zdw (OpT.callO3 [b0] fun w v0 v1 v2 hA hO hap hks h0 h1 h2=>ZgS w v0 v1 v2 hA hO hap hks (slD rfl h0) (toD h1) (toD h2) ex_5.h) rfl fun ⟨b37_5,p37_5,c37_5⟩=>?_
    refine zw ?_;obtain rfl:=ZZi H;exact Zap rfl rfl ⟨b37_5,p37_5,c37_5⟩ (.cons (ZC rfl) (.cons Cv.le .nil)) (Zc rfl (Ze _))
   ·refine zg ?_;refine zc H (fun hc H=>?_) fun hc H=>?_
    ·refine zg ?_;refine zn H fun _ ex_7 H=>?_
     refine TSx (Zm (ZI ex_7.h rfl)) ?_;refine zC ?_;refine zn H fun _ el_8 H=>?_
     refine ZB b0 (Zac el_8.h) ?_;refine zX (Zcg 0 _ (ZaP el_8.h (by simp))) ?_;obtain rfl:=ZZi H;exact Zap rfl rfl ⟨b0,p0,c0⟩ (.cons (ZC rfl) (.cons Cv.le .nil)) (Zc rfl (Ze _))
    ·refine zg ?_;refine zX (Za1 (Zax (n:=t0.length) rfl) rfl) ?_;refine zc H (fun hc H=>?_) fun hc H=>?_
     ·refine zg ?_;obtain rfl:=ZZi H;exact Zap rfl rfl ⟨b0,p0,c0⟩ (.cons (ZC rfl) (.cons Cv.le .nil)) (Zc rfl (Ze _))
     ·refine zg ?_;refine zn H fun _ ex_10 H=>?_
      refine TS.buildCall (pk:=inferInstance) (b:=b0) (Nat.le_of_ble_eq_true rfl) rfl rfl (fun w v0 v1 v2 hA hO hap hks h0 h1 h2 hraw=>ZgR w v0 v1 v2 hA hO hap hks (slD rfl h0) (toD h1) h2 hraw ex_10.h) fun ⟨b56_8,p56_8,c56_8⟩=>?_
      refine zw ?_;obtain rfl:=ZZi H;exact Zap rfl rfl ⟨b56_8,p56_8,c56_8⟩ (.cons (ZC rfl) (.cons Cv.le .nil)) (Zc rfl (Ze _))
def ZgP (t0:(List Route)) (l0:(List Change)) (x_8:Int) (u_10:(List Route)):Option ((Int×(List Route))⊕((List Route)⊕((List Route)×Int))):=
 bif (decide (x_8<(l0.length:Int))) then ((idx l0 x_8).bind fun x_12=>(ZeZ u_10 x_12).bind fun x_14=>bif (decide (x_14.2≠(0:Int))) then ((ZR t0).bind fun x_16=>some (.inr (.inr (x_16,x_14.2)))) else ((Zas x_8 1).bind fun x_18=>some (.inl (x_18,x_14.1)))) else (some (.inr (.inl u_10)))
def Zex (t0:(List Route)) (l0:(List Change)):Option ((List Route)×Int):=
 (ZcG t0).bind fun x_1=>bif (!x_1) then ((ZR t0).bind fun x_2=>some (x_2,(1:Int))) else ((ZR t0).bind fun x_3=>(ZM (fun s=>ZgP t0 l0 s.1 s.2) ((0:Int),x_3)).bind fun o_7=>elS o_7 (fun u_6=>some (u_6,(0:Int))) (fun q=>some q))
instance table_Apply_c:Fd2 11 Zex fun r=>Tup [D r.1,D r.2]:=en2 Tryz.func11 rfl Tryz.ntmps11 fun A w hA t0 l0 r H=>by
 unfold Zex at H;refine zg ?_;refine zb H fun _ _ H=>?_
 refine zc H (fun hc H=>?_) fun hc H=>?_
 ·exact zY H
 ·refine zg ?_;refine zn H fun _ ex_3 H=>?_
  refine Zdw (oc1 [] (ZdN ex_3.h) toD) rfl fun ⟨b16_3,p16_3,c16_3⟩=>?_
  dsimp only [List.cons_append,List.nil_append];refine zC ?_;refine zC ?_;refine zh H fun o_7 H7 H=>?_
  refine Zn (fun s:(List Route)=>o_7=.inl s) (fun (u_6:(List Route)) (⟨b_4,p_4,c_4⟩:Nat×Prop×Nat)=>(Env.set Env.nil 6 (Sl b_4 p_4 0 u_6.length c_4))) (fun (u_6:(List Route)) (⟨b_4,p_4,c_4⟩:Nat×Prop×Nat)=>[⟨b_4,p_4,(Row (u_6:List Route) c_4)⟩]) ?_ ?_
  ·skip;refine Zp<|Zu H7 (fun ⟨x_8,u_10⟩ (⟨b_8,p_8,c_8⟩:Nat×Prop×Nat)=>(Env.set (Env.set (Env.set (Env.set (Env.set Env.nil 0 (D t0)) 6 (Sl b_8 p_8 0 u_10.length c_8)) 17 (D l0)) 18 (D ((l0.length:Int):Int))) 19 (D x_8))) (fun ⟨x_8,u_10⟩ (⟨b_8,p_8,c_8⟩:Nat×Prop×Nat)=>[⟨b_8,p_8,(Row (u_10:List Route) c_8)⟩]) ⟨b16_3,p16_3,c16_3⟩ (Za (Za (Za (Zk (ZC rfl) (Za (Zd _)))))) (Zc rfl (Ze _)) ?_;rintro ⟨x_8,u_10⟩ ⟨b_8,p_8,c_8⟩ x_11 H11 he11;dsimp only at H11;unfold ZgP at H11;refine zg ?_;refine zc H11 (fun hc H11=>?_) fun hc H11=>?_
   ·refine zg ?_;refine zb H11 fun _ _ H11=>?_
    refine TS.alloc rfl fun b8_12=>zg ?_
    refine zn H11 fun x_14 ex_14 H11=>?_
    refine Zdw (oc2 [b_8] (table_change_o ex_14.h) (slD rfl) toD) rfl fun ⟨b26_14,p26_14,c26_14⟩=>?_
    refine zw ?_;refine zc H11 (fun hc H11=>?_) fun hc H11=>?_
    ·refine zg ?_;refine zo H11 fun _ _ H11=>?_
     refine zC ?_;refine ZL<|Zf<|Zg<|Zg<|Zf<|Zs ?_;have R16:=ZaM (he11 _ (ZZs H11)) H;refine zg ?_;obtain rfl:=ZZi R16;exact ZeL rfl rfl (.cons Cv.le (.cons Cv.le .nil))
    ·refine zg ?_;refine zb H11 fun x_18 _ H11=>?_
     exact Zq ⟨x_18,x_14.1⟩ ⟨b26_14,p26_14,c26_14⟩ (ZZs H11) (Za (Za (Za (Zk (ZC rfl) (Za (Zd _)))))) (Zc rfl (Ze _))
   ·refine zg ?_;exact Zj u_10 ⟨b_8,p_8,c_8⟩ (he11 _ (ZZs H11)).symm (Zk (ZC rfl) (Zd _)) (Zc rfl (Ze _))
  rintro u_6 ⟨b_4,p_4,c_4⟩ hp;replace H:=ZbD hp H;refine zC ?_;refine ZL<|TE.pub b_4 (PubE.set 4 (ZG PlS.all rfl) PubE.refl) ?_;exact zY H
end Go.Proofs.YtkmojgfenlgchaaGreatDoor.Tr
namespace Go.Proofs.YtkmojgfenlgchaaGreatDoor.Tr
open Go Go.RowKit
set_option maxRecDepth 100000
set_option synthInstance.maxHeartbeats 400000
set_option synthInstance.maxSize 4096
def Zhu (bits0:Int):Option Bool:=
 some ((decide (bits0=(32:Int)))||(decide (bits0=(128:Int))))
instance trie_exists_c:Fd1 80 Zhu fun r=>D r:=en1 Tryz.func80 rfl Tryz.ntmps80 fun _ _ _ _ _ H=>by
 unfold Zhu at H;exact zY H
def ZiU (k0:(Vec UInt8 16)) (n0:Int):Option Int:=
 bif ((decide (n0<(0:Int)))||(decide (n0≥(32:Int)))) then (some (0:Int)) else ((ZjS n0 2).bind fun x_2=>(idx k0.l x_2).bind fun x_3=>(remI n0 2).bind fun x_4=>bif (decide (x_4=(0:Int))) then ((shrI (x_3.toNat:Int) 4).bind fun x_5=>some x_5) else ((andI (x_3.toNat:Int) (15:Int)).bind fun x_6=>some x_6))
instance key_Step_c:Fd2 87 ZiU fun r=>D r:=en2 Tryz.func87 rfl Tryz.ntmps87 fun A w hA k0 n0 r H=>by
 unfold ZiU at H;refine zg ?_;refine TS.box rfl fun b2_0=>zg ?_
 refine zc H (fun hc H=>?_) fun hc H=>?_
 ·exact zY H
 ·refine zg ?_;refine zb H fun _ _ H=>?_
  refine zn H fun _ ex_3 H=>?_
  refine TSx (Zay (ZI ex_3.h (Vec.h _).symm))<|TSx (ZaE (Zfj (α:=UInt8) Zx ex_3.h)) ?_;exact zY H
def Zew (b0x:trie_builder) (node0:Int) (four0:Int):Option (Int×Bool×trie_builder):=
 (idx b0x.Trie.Nodes node0).bind fun x_1=>(idx x_1.Next.l four0).bind fun x_2=>bif (decide (x_2>(0:Int))) then (some (x_2,true,(⟨(⟨((⟨(⟨b0x.Trie.Bits,[]⟩:Trie)⟩:trie_builder).Trie).Bits,b0x.Trie.Nodes⟩:Trie)⟩:trie_builder))) else (bif (decide ((b0x.Trie.Nodes.length:Int)≥(512:Int))) then (some ((0:Int),false,(⟨(⟨((⟨(⟨b0x.Trie.Bits,[]⟩:Trie)⟩:trie_builder).Trie).Bits,b0x.Trie.Nodes⟩:Trie)⟩:trie_builder))) else ((Zdv 384 ((b0x.Trie.Nodes.length+([(⟨Dat.z,Dat.z⟩:Node)]:List Node).length:Nat):Int)).bind fun u_4=>(some ((b0x.Trie.Nodes++([(⟨Dat.z,Dat.z⟩:Node)]:List Node)):(List Node))).bind fun l_5=>(Zgs (l_5.length:Int) (1:Int)).bind fun x_6=>(idx l_5 node0).bind fun x_7=>(idx x_7.Next.l four0).bind fun x_8=>(some ((l_5.set (Int.toNat node0) (⟨x_7.Slots,(Vec.set x_7.Next (Int.toNat four0) x_6)⟩:Node)):(List Node))).bind fun l_9=>(Zgs (l_9.length:Int) (1:Int)).bind fun x_10=>some (x_10,true,(⟨(⟨((⟨(⟨b0x.Trie.Bits,[]⟩:Trie)⟩:trie_builder).Trie).Bits,l_9⟩:Trie)⟩:trie_builder))))
theorem Zjt {b0x:trie_builder} {node0:Int} {four0:Int} {b0:Nat} {b0r c0r:Nat} {p0r:Prop} {r:(Int×Bool×trie_builder)} (H:Zew b0x node0 four0=some r):CO3 129 [⟨b0,True,Ct.mix (One ((⟨(⟨b0x.Trie.Bits,[]⟩:Trie)⟩:trie_builder):trie_builder)) 1 (Sl b0r p0r 0 (List.length b0x.Trie.Nodes) c0r)⟩,⟨b0r,p0r,Row (b0x.Trie.Nodes:List Node) c0r⟩] (Pt b0 0) (D node0) (D four0) (fun g:Nat×Prop×Nat=>Tup [D r.1,D r.2.1]) fun g=>[⟨b0,True,Ct.mix (One ((⟨(⟨r.2.2.Trie.Bits,[]⟩:Trie)⟩:trie_builder):trie_builder)) 1 (Sl g.1 g.2.1 0 (List.length r.2.2.Trie.Nodes) g.2.2)⟩,⟨g.1,g.2.1,Row (r.2.2.Trie.Nodes:List Node) g.2.2⟩]:=eO3 Tryz.func129 rfl Tryz.ntmps129 fun A w hA hO=>by
 unfold Zew at H;refine zg ?_;refine zX (Za1 (ZS Zaa) rfl) ?_;refine zn H fun _ ex_1 H=>?_
 refine zX (Za1 (Zm (ZI ex_1.h rfl)) rfl) ?_;refine zn H fun _ ex_2 H=>?_
 refine TSx (Zay (ZI ex_2.h (Vec.h _).symm)) ?_;refine zX (Za1 (ZaE (Zfj (α:=Int) (PF 32 Node (Vec Int 16) (ZaC ex_1.h)) ex_2.h)) rfl) ?_;refine zc H (fun hc H=>?_) fun hc H=>?_
 ·refine zg ?_;obtain rfl:=ZZi H;exact Zap rfl rfl ⟨b0r,p0r,c0r⟩ (.cons Cv.le (.cons Cv.le .nil)) (Zhq (ZhE (α:=Node) (by have h:=((PF 1 Trie (List Node) (PF 0 trie_builder Trie (Zx (α:=trie_builder) (i:=trie_builder_dat) (x:=(⟨(⟨b0x.Trie.Bits,[]⟩:Trie)⟩:trie_builder)))))).st ([]:(List Node));exact h) rfl) (Zc rfl (Ze _)))
 ·refine zg ?_;refine TSx (ZS Zaa) ?_;refine zX (Za1 (Zax (n:=b0x.Trie.Nodes.length) rfl) rfl) ?_;refine zc H (fun hc H=>?_) fun hc H=>?_
  ·refine zg ?_;obtain rfl:=ZZi H;exact Zap rfl rfl ⟨b0r,p0r,c0r⟩ (.cons Cv.le (.cons Cv.le .nil)) (Zhq (ZhE (α:=Node) (by have h:=((PF 1 Trie (List Node) (PF 0 trie_builder Trie (Zx (α:=trie_builder) (i:=trie_builder_dat) (x:=(⟨(⟨b0x.Trie.Bits,[]⟩:Trie)⟩:trie_builder)))))).st ([]:(List Node));exact h) rfl) (Zc rfl (Ze _)))
  ·refine zg ?_;refine TSx (ZS Zaa) ?_;refine TSx (tB (⟨Dat.z,Dat.z⟩:Node) rfl rfl) ?_;refine TSx (OpY.buildSlice [.tmp 36] rfl rfl (by decide)) ?_;refine zn H fun _ eu_4 H=>?_
   refine TS.app (ys:=([(⟨Dat.z,Dat.z⟩:Node)]:List Node)) inferInstance eu_4.h rfl rfl rfl fun b38_2 p38_2 c38_2=>zg ?_
   refine Zbj (Zbc CtH.same) ?_;refine zC ?_;refine zn H fun l_5 el_5 H=>?_
   refine ZB b38_2 (Zac el_5.h)<|ZB b0 (Zft (Zen el_5.h rfl)) ?_;refine zX (ZaW [17] [b38_2] mix (by kernel_rfl) (by kernel_rfl)) ?_;refine zX (Zeq (ZS Zaa) rfl) ?_;refine TRx (ZS Zaa)<|TRx (Zax (n:=l_5.length) rfl) ?_;refine zb H fun x_6 _ H=>?_
   refine zn H fun _ ex_7 H=>?_
   refine zX (Zeq (Zm (ZI ex_7.h rfl)) rfl) ?_;refine zn H fun _ ex_8 H=>?_
   refine TRx (Zay (ZI ex_8.h (Vec.h _).symm))<|Zdg (fun g=>(Zw (y:=(x_6:Int)) (Zfj (α:=Int) (PF 32 Node (Vec Int 16) (ZaC ex_7.h)) ex_8.h))) rfl ?_;refine zC ?_;rintro ⟨_,_⟩;dsimp only [Fam.nextS,Fam.nextN,Fam.one,List.cons_append,List.nil_append];refine zn H fun l_9 el_9 H=>?_
   refine ZB b38_2 (Zac el_9.h) ?_;refine zX (ZB b0 (Zft (Zen el_9.h (by simp)))) ?_;refine TSx (ZS Zaa)<|TSx (Zax (n:=l_9.length) rfl) ?_;refine zb H fun _ _ H=>?_
   obtain rfl:=ZZi H;exact Zap rfl rfl ⟨b38_2,p38_2,c38_2⟩ (.cons Cv.le (.cons Cv.le .nil)) (Zhq (ZhE (α:=Node) (by have h:=((PF 1 Trie (List Node) (PF 0 trie_builder Trie (Zx (α:=trie_builder) (i:=trie_builder_dat) (x:=(⟨(⟨b0x.Trie.Bits,[]⟩:Trie)⟩:trie_builder)))))).st ([]:(List Node));exact h) rfl) (Zc rfl (Ze _)))
def ZfR (r0:Route) (x_3:Int) (node_9:Int) (x_10:Int) (l_12:(List Node)) (bx_13:trie_builder):Option ((Int×Int×(List Node)×trie_builder)⊕((Int×(List Node)×trie_builder)⊕(Bool×trie_builder))):=
 bif (decide (x_10<(max (0:Int) x_3))) then ((ZiU r0.Prefix.Key x_10).bind fun x_15=>(Zew (⟨(⟨bx_13.Trie.Bits,l_12⟩:Trie)⟩:trie_builder) node_9 x_15).bind fun x_16=>(some ((⟨(⟨x_16.2.2.Trie.Bits,[]⟩:Trie)⟩:trie_builder):trie_builder)).bind fun bx_18=>bif (!x_16.2.1) then (some (.inr (.inr (false,(⟨(⟨bx_18.Trie.Bits,x_16.2.2.Trie.Nodes⟩:Trie)⟩:trie_builder))))) else ((Zas x_10 1).bind fun x_20=>some (.inl (x_16.1,x_20,x_16.2.2.Trie.Nodes,bx_18)))) else (some (.inr (.inl (node_9,l_12,bx_13))))
def ZfQ (r0:Route) (node_4:Int) (x_21:Int) (x_25:Int) (four_28:Int) (l_29:(List Node)):Option ((Int×(List Node))⊕(List Node)):=
 (Zas x_21 x_25).bind fun x_31=>bif (decide (four_28<x_31)) then (((idx l_29 node_4).bind fun x_34=>(idx x_34.Slots.l four_28).bind fun x_35=>bif (decide (x_35.Len≤r0.Prefix.Len)) then ((Zas r0.Prefix.Len 1).bind fun x_36=>(some ((l_29.set (Int.toNat node_4) (⟨(Vec.set x_34.Slots (Int.toNat four_28) (⟨x_36,r0.Hop⟩:Slot)),x_34.Next⟩:Node)):(List Node))).bind fun l_37=>some l_37) else (some l_29)).bind fun l_32=>(Zas four_28 1).bind fun x_38=>some (.inl (x_38,l_32))) else (some (.inr l_29))
def Ze7 (b0x:trie_builder) (r0:Route):Option (Bool×trie_builder):=
 (Zgs r0.Prefix.Len 1).bind fun x_2=>(ZjS x_2 4).bind fun x_3=>(ZM (fun s=>ZfR r0 x_3 s.1 s.2.1 s.2.2.1 s.2.2.2) ((0:Int),(0:Int),b0x.Trie.Nodes,(⟨(⟨b0x.Trie.Bits,[]⟩:Trie)⟩:trie_builder))).bind fun o_8=>elS o_8 (fun s=>el3 s (fun node_4 l_6 bx_7=>(ZiU r0.Prefix.Key (max (0:Int) x_3)).bind fun x_21=>(mulI (4:Int) (max (0:Int) x_3)).bind fun x_22=>(Zgs r0.Prefix.Len x_22).bind fun x_23=>(Zgs (4:Int) x_23).bind fun x_24=>(shlI (1:Int) x_24).bind fun x_25=>(ZM (fun s=>ZfQ r0 node_4 x_21 x_25 s.1 s.2) (x_21,l_6)).bind fun l_26=>some (true,(⟨(⟨bx_7.Trie.Bits,l_26⟩:Trie)⟩:trie_builder)))) (fun q=>some q)
theorem ZjZ {b0x:trie_builder} {r0:Route} {b0:Nat} {b0r c0r:Nat} {p0r:Prop} {r:(Bool×trie_builder)} (H:Ze7 b0x r0=some r):CO2 81 [⟨b0,True,Ct.mix (One ((⟨(⟨b0x.Trie.Bits,[]⟩:Trie)⟩:trie_builder):trie_builder)) 1 (Sl b0r p0r 0 (List.length b0x.Trie.Nodes) c0r)⟩,⟨b0r,p0r,Row (b0x.Trie.Nodes:List Node) c0r⟩] (Pt b0 0) (D r0) (fun g:Nat×Prop×Nat=>D r.1) fun g=>[⟨b0,True,Ct.mix (One ((⟨(⟨r.2.Trie.Bits,[]⟩:Trie)⟩:trie_builder):trie_builder)) 1 (Sl g.1 g.2.1 0 (List.length r.2.Trie.Nodes) g.2.2)⟩,⟨g.1,g.2.1,Row (r.2.Trie.Nodes:List Node) g.2.2⟩]:=eO2 Tryz.func81 rfl Tryz.ntmps81 fun A w hA hO=>by
 unfold Ze7 at H;refine zg ?_;refine TS.box rfl fun b3_0=>zg ?_
 refine zb H fun _ _ H=>?_
 refine zo H fun x_3 _ H=>?_
 refine zC ?_;refine zC ?_;refine zC ?_;refine zh H fun o_8 H8 H=>?_
 refine Zn (fun s:(Int×(List Node)×trie_builder)=>o_8=.inl s) (fun ⟨node_4,l_6,bx_7⟩ (⟨b_4,p_4,c_4⟩:Nat×Prop×Nat)=>(Env.set (Env.set (Env.set (Env.set Env.nil 0 (Pt b0 0)) 3 (Pt b3_0 0)) 5 (D ((max (0:Int) x_3):Int))) 6 (D node_4))) (fun ⟨node_4,l_6,bx_7⟩ (⟨b_4,p_4,c_4⟩:Nat×Prop×Nat)=>[⟨b_4,p_4,(Row (l_6:List Node) c_4)⟩,⟨b0,True,(Ct.mix (One bx_7) 1 (Sl b_4 p_4 0 l_6.length c_4))⟩,⟨b3_0,True,(One r0)⟩]) ?_ ?_
 ·skip;refine Zp<|Zu H8 (fun ⟨node_9,x_10,l_12,bx_13⟩ (⟨b_10,p_10,c_10⟩:Nat×Prop×Nat)=>(Env.set (Env.set (Env.set (Env.set (Env.set (Env.set Env.nil 0 (Pt b0 0)) 3 (Pt b3_0 0)) 5 (D ((max (0:Int) x_3):Int))) 6 (D node_9)) 20 (D ((max (0:Int) x_3):Int))) 21 (D x_10))) (fun ⟨node_9,x_10,l_12,bx_13⟩ (⟨b_10,p_10,c_10⟩:Nat×Prop×Nat)=>[⟨b_10,p_10,(Row (l_12:List Node) c_10)⟩,⟨b0,True,(Ct.mix (One bx_13) 1 (Sl b_10 p_10 0 l_12.length c_10))⟩,⟨b3_0,True,(One r0)⟩]) ⟨b0r,p0r,c0r⟩ (Za (Za (Za (Za (Za (Za (Zd _))))))) (Zc rfl (Zc rfl (Zc rfl (Ze _)))) ?_;rintro ⟨node_9,x_10,l_12,bx_13⟩ ⟨b_10,p_10,c_10⟩ x_14 H14 he14;dsimp only at H14;unfold ZfR at H14;refine zg ?_;refine zc H14 (fun hc H14=>?_) fun hc H14=>?_
  ·refine zg ?_;refine zb H14 fun _ _ H14=>?_
   refine TS.re b0 (fun A w cs _=>ZhE (by have h:=((PF 1 Trie (List Node) (PF 0 trie_builder Trie (Zx (α:=trie_builder) (i:=trie_builder_dat) (x:=bx_13))))).st ([]:(List Node));exact h) rfl A w cs) ?_;refine zn H14 fun x_16 ex_16 H14=>?_
   refine Zdw (oc3 [b0,b_10] (Zjt ex_16.h) id toD toD) rfl fun ⟨b32_16m,p32_16m,c32_16m⟩=>?_
   dsimp only [List.cons_append,List.nil_append];refine zC ?_;refine zn H14 fun bx_18 ebx_18 H14=>?_
   refine zX (ZB b0 (Zc2 (Zah ebx_18.h))) ?_;refine zc H14 (fun hc H14=>?_) fun hc H14=>?_
   ·refine zC ?_;refine ZL<|Zg<|Zf<|Zg<|Zg<|Zf<|Zs ?_;have R18:=ZaM (he14 _ (ZZs H14)) H;refine zg ?_;obtain rfl:=ZZi R18;exact ZA rfl ⟨b32_16m,p32_16m,c32_16m⟩ Cv.le (Zhq (ZhE (α:=Node) (by have h:=((PF 1 Trie (List Node) (PF 0 trie_builder Trie (Zx (α:=trie_builder) (i:=trie_builder_dat) (x:=bx_18))))).st ([]:(List Node));exact h) rfl) (Zc rfl (Ze _)))
   ·refine zg ?_;refine zb H14 fun x_20 _ H14=>?_
    exact Zq ⟨x_16.1,x_20,x_16.2.2.Trie.Nodes,bx_18⟩ ⟨b32_16m,p32_16m,c32_16m⟩ (ZZs H14) (Za (Za (Za (Za (Za (Za (Zd _))))))) (Zc rfl (Zc rfl (Zc rfl (Ze _))))
  ·refine zg ?_;exact Zj ⟨node_9,l_12,bx_13⟩ ⟨b_10,p_10,c_10⟩ (he14 _ (ZZs H14)).symm (Za (Za (Za (Za (Zd _))))) (Zc rfl (Zc rfl (Zc rfl (Ze _))))
 rintro ⟨node_4,l_6,bx_7⟩ ⟨b_4,p_4,c_4⟩ hp;replace H:=ZbD hp H;replace H:=el3_mk H;refine zg ?_;refine zb H fun x_21 _ H=>?_
 refine zb H fun _ _ H=>?_
 refine zb H fun _ _ H=>?_
 refine zb H fun _ _ H=>?_
 refine zo H fun x_25 _ H=>?_
 refine zC ?_;refine zC ?_;refine zh H fun o_27 H27 H=>?_
 refine Zn (fun s:(List Node)=>o_27=s) (fun (l_26:(List Node)) (_:Unit)=>(Env.set Env.nil 0 (Pt b0 0))) (fun (l_26:(List Node)) (_:Unit)=>[⟨b_4,p_4,(Row (l_26:List Node) c_4)⟩,⟨b0,True,(Ct.mix (One bx_7) 1 (Sl b_4 p_4 0 l_26.length c_4))⟩]) ?_ ?_
 ·skip;refine Zp<|Zu H27 (fun ⟨four_28,l_29⟩ (_:Unit)=>(Env.set (Env.set (Env.set (Env.set (Env.set (Env.set Env.nil 0 (Pt b0 0)) 3 (Pt b3_0 0)) 6 (D node_4)) 10 (D x_21)) 11 (D x_25)) 12 (D four_28))) (fun ⟨four_28,l_29⟩ (_:Unit)=>[⟨b_4,p_4,(Row (l_29:List Node) c_4)⟩,⟨b0,True,(Ct.mix (One bx_7) 1 (Sl b_4 p_4 0 l_29.length c_4))⟩,⟨b3_0,True,(One r0)⟩]) () (Za (Za (Za (Za (Za (Za (Zd _))))))) (Zc rfl (Zc rfl (Zc rfl (Ze _)))) ?_;rintro ⟨four_28,l_29⟩ ⟨⟩ x_30 H30 he30;dsimp only at H30;unfold ZfQ at H30;refine zg ?_;refine zb H30 fun _ _ H30=>?_
  refine zc H30 (fun hc H30=>?_) fun hc H30=>?_
  ·refine Zaw<|Zan<|Zau ?_;refine zh H30 fun o_33 H33 H30=>?_
   refine Zn (fun s:(List Node)=>o_33=s) (fun (l_32:(List Node)) (_:Unit)=>(Env.set (Env.set (Env.set (Env.set (Env.set (Env.set Env.nil 0 (Pt b0 0)) 3 (Pt b3_0 0)) 6 (D node_4)) 10 (D x_21)) 11 (D x_25)) 12 (D four_28))) (fun (l_32:(List Node)) (_:Unit)=>[⟨b_4,p_4,(Row (l_32:List Node) c_4)⟩,⟨b0,True,(Ct.mix (One bx_7) 1 (Sl b_4 p_4 0 l_32.length c_4))⟩,⟨b3_0,True,(One r0)⟩]) ?_ ?_
   ·skip;refine zg ?_;refine zX (Za1 (ZS Zaa) rfl) ?_;refine zn H33 fun _ ex_34 H33=>?_
    refine zX (Za1 (Zm (ZI ex_34.h rfl)) rfl) ?_;refine zn H33 fun _ ex_35 H33=>?_
    refine zX (Za1 (Zay (ZI ex_35.h (Vec.h _).symm)) rfl) ?_;refine zX (Zeq (ZaE (PF 0 Slot Int (Zfj (α:=Slot) (PF 0 Node (Vec Slot 16) (ZaC ex_34.h)) ex_35.h))) rfl) ?_;refine zc H33 (fun hc H33=>?_) fun hc H33=>?_
    ·refine zg ?_;refine zb H33 fun x_36 _ H33=>?_
     refine zX (Za1 (tB (⟨x_36,r0.Hop⟩:Slot) rfl rfl) rfl) ?_;refine Zbj (Zw (y:=((⟨x_36,r0.Hop⟩:Slot):Slot)) (Zfj (α:=Slot) (PF 0 Node (Vec Slot 16) (ZaC ex_34.h)) ex_35.h)) ?_;refine zE ?_;refine zn H33 fun l_37 el_37 H33=>?_
     refine Zaf b_4 (Zac el_37.h) ?_;refine zX (Zaf b0 (Zft (Zen el_37.h (by simp)))) ?_;exact Zj l_37 () (ZZs H33) (Za (Za (Za (Za (Za (Za (Zd _))))))) (Zc rfl (Zc rfl (Zc rfl (Ze _))))
    ·refine zg ?_;exact Zj l_29 () (ZZs H33) (Za (Za (Za (Za (Za (Za (Zd _))))))) (Zc rfl (Zc rfl (Zc rfl (Ze _))))
   rintro l_32 ⟨⟩ hp;replace hp:=hp.symm;subst hp;refine zg ?_;refine zb H30 fun x_38 _ H30=>?_
   exact Zq ⟨x_38,l_32⟩ () (ZZs H30) (Za (Za (Za (Za (Za (Za (Zd _))))))) (Zc rfl (Zc rfl (Zc rfl (Ze _))))
  ·refine zg ?_;exact Zj l_29 () (he30 _ (ZZs H30)).symm (Za (Zd _)) (Zc rfl (Zc rfl (Ze _)))
 rintro l_26 ⟨⟩ hp;replace hp:=hp.symm;subst hp;refine zg ?_;obtain rfl:=ZZi H;exact ZA rfl ⟨b_4,p_4,c_4⟩ Cv.le (Zhq (ZhE (α:=Node) (by have h:=((PF 1 Trie (List Node) (PF 0 trie_builder Trie (Zx (α:=trie_builder) (i:=trie_builder_dat) (x:=bx_7))))).st ([]:(List Node));exact h) rfl) (Zc rfl (Ze _)))
def Zj0 (t0:(List Route)) (bits0:Int) (x_14:Int) (l_16:(List Node)) (bx_17:trie_builder):Option ((Int×(List Node)×trie_builder)⊕(((List Node)×trie_builder)⊕(Trie×Int))):=
 bif (decide (x_14<(t0.length:Int))) then (((idx t0 x_14).bind fun x_23=>bif (decide (x_23.Prefix.Bits≠bits0)) then (some (.inl (l_16,bx_17))) else ((Ze7 (⟨(⟨bx_17.Trie.Bits,l_16⟩:Trie)⟩:trie_builder) x_23).bind fun x_25=>(some ((⟨(⟨x_25.2.Trie.Bits,[]⟩:Trie)⟩:trie_builder):trie_builder)).bind fun bx_27=>bif (!x_25.1) then ((some ((⟨0,[]⟩:Trie):Trie)).bind fun k_28=>some (.inr (k_28,(5:Int)))) else (some (.inl (x_25.2.Trie.Nodes,bx_27))))).bind fun o_22=>elS o_22 (fun s=>el2 s (fun l_20 bx_21=>(Zas x_14 1).bind fun x_31=>some (.inl (x_31,l_20,bx_21)))) (fun q=>some (.inr (.inr q)))) else (some (.inr (.inl (l_16,bx_17))))
def ZkN (t0:(List Route)) (bits0:Int):Option (Trie×Int):=
 (ZcG t0).bind fun x_2=>(gb (!(!x_2)) (Zhu bits0)).bind fun x_3=>bif ((!x_2)||(!x_3)) then ((some ((⟨0,[]⟩:Trie):Trie)).bind fun k_4=>some (k_4,(1:Int))) else ((Zdv 384 (1:Int)).bind fun u_5=>(some ((⟨(⟨bits0,[]⟩:Trie)⟩:trie_builder):trie_builder)).bind fun bx_8=>(some ((List.replicate (Int.toNat (1:Int)) (Dat.z:Node)):(List Node))).bind fun l_9=>(ZM (fun s=>Zj0 t0 bits0 s.1 s.2.1 s.2.2) ((0:Int),l_9,bx_8)).bind fun o_13=>elS o_13 (fun s=>el2 s (fun l_11 bx_12=>some ((⟨bx_12.Trie.Bits,l_11⟩:Trie),(0:Int)))) (fun q=>some q))
instance trie_Build_c:Fd2 33 ZkN fun r=>Tup [D r.1,D r.2]:=en2 Tryz.func33 rfl Tryz.ntmps33 fun A w hA t0 bits0 r H=>by
 unfold ZkN at H;refine zg ?_;refine TS.alloc rfl fun b4_0=>zg ?_
 refine zb H fun _ _ H=>?_
 refine zd H fun _ _ H=>?_
 refine zc H (fun hc H=>?_) fun hc H=>?_
 ·refine zg ?_;refine TSx (tB (⟨0,[]⟩:Trie) rfl rfl) ?_;exact zY H
 ·refine zg ?_;refine zn H fun _ eu_5 H=>?_
  refine Zgj eu_5.h ⟨(Za3 eu_5.h).1,Int.le_refl _⟩ rfl fun b19_5=>?_
  refine TSx (OpY.buildC (ps:=_) rfl ⟨_,Tryz.underlying93,by kernel_rfl⟩ ((PartsC.d (((PF 0 Trie Int Zx)).st _) (PartsC.hd (CtH.new (by decide)) inferInstance)))) ?_;refine TSx (OpY.buildW rfl ⟨_,Tryz.underlying153,by kernel_rfl⟩) ?_;refine TS.alloc rfl fun b6_6=>?_
  refine Zbj (ZX trivial rfl CtSc.h) ?_;refine zC ?_;refine zn H fun _ ebx_8 H=>?_
  refine ZB b6_6 (Zc2 (Zah ebx_8.h)) ?_;refine zn H fun _ el_9 H=>?_
  refine ZB b19_5 (Zac el_9.h)<|ZB b6_6 (Zft (Zen el_9.h (by simp))) ?_;refine zC ?_;refine zh H fun o_13 H13 H=>?_
  refine Zn (fun s:((List Node)×trie_builder)=>o_13=.inl s) (fun ⟨l_11,bx_12⟩ (⟨b_9,p_9,c_9⟩:Nat×Prop×Nat)=>(Env.set (Env.set Env.nil 4 (Pt b4_0 0)) 6 (Pt b6_6 0))) (fun ⟨l_11,bx_12⟩ (⟨b_9,p_9,c_9⟩:Nat×Prop×Nat)=>[⟨b_9,p_9,(Row (l_11:List Node) c_9)⟩,⟨b4_0,True,(One ((Dat.z:Trie):Trie))⟩,⟨b6_6,True,(Ct.mix (One bx_12) 1 (Sl b_9 p_9 0 l_11.length c_9))⟩]) ?_ ?_
  ·skip;refine Zp<|Zu H13 (fun ⟨x_14,l_16,bx_17⟩ (⟨b_14,p_14,c_14⟩:Nat×Prop×Nat)=>(Env.set (Env.set (Env.set (Env.set (Env.set (Env.set Env.nil 1 (D bits0)) 4 (Pt b4_0 0)) 6 (Pt b6_6 0)) 22 (D t0)) 23 (D ((t0.length:Int):Int))) 24 (D x_14))) (fun ⟨x_14,l_16,bx_17⟩ (⟨b_14,p_14,c_14⟩:Nat×Prop×Nat)=>[⟨b_14,p_14,(Row (l_16:List Node) c_14)⟩,⟨b4_0,True,(One ((Dat.z:Trie):Trie))⟩,⟨b6_6,True,(Ct.mix (One bx_17) 1 (Sl b_14 p_14 0 l_16.length c_14))⟩]) ⟨b19_5,True,(Int.toNat (1:Int))⟩ (Za (Za (Za (Za (Za (Za (Zd _))))))) (Zc rfl (Zc rfl (Zc rfl (Ze _)))) ?_;rintro ⟨x_14,l_16,bx_17⟩ ⟨b_14,p_14,c_14⟩ x_18 H18 he18;dsimp only at H18;unfold Zj0 at H18;refine zg ?_;refine zc H18 (fun hc H18=>?_) fun hc H18=>?_
   ·refine Zaw<|Zan<|Zau ?_;refine zh H18 fun o_22 H22 H18=>?_
    refine Zn (fun s:((List Node)×trie_builder)=>o_22=.inl s) (fun ⟨l_20,bx_21⟩ (⟨b_18,p_18,c_18⟩:Nat×Prop×Nat)=>(Env.set (Env.set (Env.set (Env.set (Env.set (Env.set Env.nil 1 (D bits0)) 4 (Pt b4_0 0)) 6 (Pt b6_6 0)) 22 (D t0)) 23 (D ((t0.length:Int):Int))) 24 (D x_14))) (fun ⟨l_20,bx_21⟩ (⟨b_18,p_18,c_18⟩:Nat×Prop×Nat)=>[⟨b_18,p_18,(Row (l_20:List Node) c_18)⟩,⟨b4_0,True,(One ((Dat.z:Trie):Trie))⟩,⟨b6_6,True,(Ct.mix (One bx_21) 1 (Sl b_18 p_18 0 l_20.length c_18))⟩]) ?_ ?_
    ·skip;refine zg ?_;refine zb H22 fun _ _ H22=>?_
     refine TS.alloc rfl fun b8_23=>zg ?_
     refine zc H22 (fun hc H22=>?_) fun hc H22=>?_
     ·refine zg ?_;exact Zj ⟨l_16,bx_17⟩ ⟨b_14,p_14,c_14⟩ (ZZs H22) (Za (Za (Za (Za (Za (Za (Zd _))))))) (Zc rfl (Zc rfl (Zc rfl (Ze _))))
     ·refine zg ?_;refine TS.re b6_6 (fun A w cs _=>ZhE (by have h:=((PF 1 Trie (List Node) (PF 0 trie_builder Trie (Zx (α:=trie_builder) (i:=trie_builder_dat) (x:=bx_17))))).st ([]:(List Node));exact h) rfl A w cs) ?_;refine zn H22 fun x_25 ex_25 H22=>?_
      refine Zdw (oc2 [b6_6,b_14] (ZjZ ex_25.h) id toD) rfl fun ⟨b34_25m,p34_25m,c34_25m⟩=>?_
      dsimp only [List.cons_append,List.nil_append];refine zC ?_;refine zn H22 fun bx_27 ebx_27 H22=>?_
      refine ZB b6_6 (Zc2 (Zah ebx_27.h)) ?_;refine zc H22 (fun hc H22=>?_) fun hc H22=>?_
      ·refine zg ?_;refine TSx (tB (⟨0,[]⟩:Trie) rfl rfl) ?_;refine zC ?_;refine zn H22 fun _ ek_28 H22=>?_
       refine ZB b4_0 (Zah ek_28.h)<|ZL<|Zf<|Zs ?_;have R28:=ZaM (ZZi H22) H18;refine Zg<|Zg<|Zf<|Zs ?_;have R29:=ZaM (he18 _ (ZZs R28)) H;refine zg ?_;obtain rfl:=ZZi R29;exact ZeL rfl rfl (.cons Cv.le (.cons Cv.le .nil))
      ·refine zg ?_;exact Zj ⟨x_25.2.Trie.Nodes,bx_27⟩ ⟨b34_25m,p34_25m,c34_25m⟩ (ZZs H22) (Za (Za (Za (Za (Za (Za (Zd _))))))) (Zc rfl (Zc rfl (Zc rfl (Ze _))))
    rintro ⟨l_20,bx_21⟩ ⟨b_18,p_18,c_18⟩ hp;replace H18:=ZbD hp H18;replace H18:=Zeo H18;refine zg ?_;refine zb H18 fun x_31 _ H18=>?_
    exact Zq ⟨x_31,l_20,bx_21⟩ ⟨b_18,p_18,c_18⟩ (ZZs H18) (Za (Za (Za (Za (Za (Za (Zd _))))))) (Zc rfl (Zc rfl (Zc rfl (Ze _))))
   ·refine zg ?_;exact Zj ⟨l_16,bx_17⟩ ⟨b_14,p_14,c_14⟩ (he18 _ (ZZs H18)).symm (Za (Za (Zd _))) (Zc rfl (Zc rfl (Zc rfl (Ze _))))
  rintro ⟨l_11,bx_12⟩ ⟨b_9,p_9,c_9⟩ hp;replace H:=ZbD hp H;replace H:=Zeo H;refine zg ?_;refine TSx (Zdu (C:=(Ct.mix (One bx_12.Trie) 1 (Sl b_9 p_9 0 l_11.length c_9))) trivial rfl rfl)<|Zbj (ZX trivial rfl CtSc.h) ?_;refine zC ?_;refine ZL<|TE.coll b4_0 b_9 (o:=1) (((PF 1 Trie (List Node) Zx)).st (l_11:List Node)) (ZG PlS.all rfl) ?_;exact zY H
def ZjX (t0:Trie) (x_10:Int) (x_13:Node) (x_21:Int) (at_22:(List Int)):Option ((Int×(List Int))⊕((List Int)⊕(List Int))):=
 bif (decide (x_21<(16:Int))) then (((idx x_13.Slots.l x_21).bind fun x_26=>(gb (!(decide (x_26.Len<(0:Int)))) (idx at_22 x_10)).bind fun x_27=>(gb (!(decide (x_26.Len<(0:Int)))) (mulI (4:Int) x_27)).bind fun x_28=>(gb (!(decide (x_26.Len<(0:Int)))) (Zas x_28 1)).bind fun x_29=>bif ((decide (x_26.Len<(0:Int)))||(decide (x_26.Len>x_29))) then (some (.inr ([]:List Int))) else ((idx x_13.Next.l x_21).bind fun x_33=>bif (decide (x_33=(0:Int))) then (some (.inl at_22)) else ((gb (!((decide (x_33≤x_10))||(decide (x_33≥(t0.Nodes.length:Int))))) (idx at_22 x_33)).bind fun x_34=>bif (((decide (x_33≤x_10))||(decide (x_33≥(t0.Nodes.length:Int))))||(decide (x_34≠(0:Int)))) then (some (.inr ([]:List Int))) else ((idx at_22 x_10).bind fun x_38=>(Zas x_38 1).bind fun x_39=>(idx at_22 x_33).bind fun x_40=>(some ((at_22.set (Int.toNat x_33) x_39):(List Int))).bind fun l_41=>some (.inl l_41))))).bind fun o_25=>elS o_25 (fun at_24=>(Zas x_21 1).bind fun x_42=>some (.inl (x_42,at_24))) (fun q=>some (.inr (.inr q)))) else (some (.inr (.inl at_22)))
def ZjY (t0:Trie) (x_10:Int) (at_11:(List Int)):Option ((Int×(List Int))⊕((List Int)⊕(List Int))):=
 bif (decide (x_10<(t0.Nodes.length:Int))) then ((idx t0.Nodes x_10).bind fun x_13=>(idx at_11 x_10).bind fun x_15=>(gb (!(decide (x_15=(0:Int)))) (idx at_11 x_10)).bind fun x_16=>(gb (!(decide (x_15=(0:Int)))) (ZjS t0.Bits 4)).bind fun x_17=>bif ((decide (x_15=(0:Int)))||(decide (x_16>x_17))) then (some (.inr (.inr ([]:List Int)))) else ((ZM (fun s=>ZjX t0 x_10 x_13 s.1 s.2) ((0:Int),at_11)).bind fun o_20=>elS o_20 (fun at_19=>(Zas x_10 1).bind fun x_43=>some (.inl (x_43,at_19))) (fun q=>some (.inr (.inr q))))) else (some (.inr (.inl at_11)))
def ZkL (t0:Trie):Option (List Int):=
 (Zhu t0.Bits).bind fun x_2=>bif (((!x_2)||(decide ((t0.Nodes.length:Int)<(1:Int))))||(decide ((t0.Nodes.length:Int)>(512:Int)))) then (some ([]:List Int)) else ((Zdv 8 (t0.Nodes.length:Int)).bind fun u_3=>(some ((List.replicate (Int.toNat (t0.Nodes.length:Int)) (Dat.z:Int)):(List Int))).bind fun l_5=>(idx l_5 0).bind fun x_6=>(some ((l_5.set (Int.toNat (0:Int)) (1:Int)):(List Int))).bind fun l_7=>(ZM (fun s=>ZjY t0 s.1 s.2) ((0:Int),l_7)).bind fun o_9=>elS o_9 (fun at_8=>(pos1 at_8.length).bind fun u_44=>some at_8) (fun q=>some q))
instance trie_steps_c:Fd1 88 ZkL fun r=>DN (r:(List Int)):=en1 Tryz.func88 rfl Tryz.ntmps88 fun A w hA t0 r H=>by
 unfold ZkL at H;refine zg ?_;refine TS.box rfl fun b1_0=>zg ?_
 refine zb H fun _ _ H=>?_
 refine zc H (fun hc H=>?_) fun hc H=>?_
 ·refine zg ?_;obtain rfl:=ZZi H;exact ZaV rfl NilS.dn
 ·refine zg ?_;refine zn H fun _ eu_3 H=>?_
  refine Zgj eu_3.h ⟨(Za3 eu_3.h).1,Int.le_refl _⟩ rfl fun b28_3=>?_
  refine zC ?_;refine zn H fun _ el_5 H=>?_
  refine ZB b28_3 (Zac el_5.h) ?_;refine zX (Zcg 3 _ (ZaP el_5.h (by simp))) ?_;refine zn H fun _ ex_6 H=>?_
  refine TSx (Zm (ZI ex_6.h rfl)) ?_;refine zC ?_;refine zn H fun _ el_7 H=>?_
  refine ZB b28_3 (Zac el_7.h)<|Zcg 3 _ (ZaP el_7.h (by simp)) ?_;refine zC ?_;refine zh H fun o_9 H9 H=>?_
  refine Zn (fun s:(List Int)=>o_9=.inl s) (fun (at_8:(List Int)) (_:Unit)=>(Env.set Env.nil 3 (Sl b28_3 True 0 at_8.length (Int.toNat (t0.Nodes.length:Int))))) (fun (at_8:(List Int)) (_:Unit)=>[⟨b28_3,True,(Row (at_8:List Int) (Int.toNat (t0.Nodes.length:Int)))⟩]) ?_ ?_
  ·skip;refine Zp<|Zu H9 (fun ⟨x_10,at_11⟩ (_:Unit)=>(Env.set (Env.set (Env.set (Env.set (Env.set Env.nil 1 (Pt b1_0 0)) 3 (Sl b28_3 True 0 at_11.length (Int.toNat (t0.Nodes.length:Int)))) 32 (D t0.Nodes)) 33 (D ((t0.Nodes.length:Int):Int))) 34 (D x_10))) (fun ⟨x_10,at_11⟩ (_:Unit)=>[⟨b28_3,True,(Row (at_11:List Int) (Int.toNat (t0.Nodes.length:Int)))⟩,⟨b1_0,True,(One t0)⟩]) () (Za (Za (Za (Zk (ZC rfl) (Za (Zd _)))))) (Zc rfl (Zc rfl (Ze _))) ?_;rintro ⟨x_10,at_11⟩ ⟨⟩ x_12 H12 he12;dsimp only at H12;unfold ZjY at H12;refine zg ?_;refine zc H12 (fun hc H12=>?_) fun hc H12=>?_
   ·refine zg ?_;refine zb H12 fun x_13 _ H12=>?_
    refine TS.alloc rfl fun b5_13=>zg ?_
    refine zn H12 fun _ ex_15 H12=>?_
    refine zX (Zeq (Zm (ZI ex_15.h rfl)) rfl) ?_;refine zm H12 fun _ ex_16 H12=>?_
    refine TR.g 44 rfl (fun hg=>(Zm (ZI (Zbx ex_16.h (nF hg.h)) rfl))) rfl ?_;refine zX (TR.g 44 rfl (fun hg=>(ZaE (ZaC (Zbx ex_16.h (nF hg.h))))) rfl) ?_;refine zd H12 fun _ _ H12=>?_
    refine zc H12 (fun hc H12=>?_) fun hc H12=>?_
    ·refine zC ?_;refine ZL<|Zg<|Zf<|Zg<|Zg<|Zf<|Zs ?_;have R17:=ZaM (he12 _ (ZZs H12)) H;refine zg ?_;obtain rfl:=ZZi R17;exact ZaV rfl NilS.dn
    ·refine zC ?_;refine zh H12 fun o_20 H20 H12=>?_
     refine Zn (fun s:(List Int)=>o_20=.inl s) (fun (at_19:(List Int)) (_:Unit)=>(Env.set (Env.set (Env.set (Env.set (Env.set Env.nil 1 (Pt b1_0 0)) 3 (Sl b28_3 True 0 at_19.length (Int.toNat (t0.Nodes.length:Int)))) 32 (D t0.Nodes)) 33 (D ((t0.Nodes.length:Int):Int))) 34 (D x_10))) (fun (at_19:(List Int)) (_:Unit)=>[⟨b28_3,True,(Row (at_19:List Int) (Int.toNat (t0.Nodes.length:Int)))⟩,⟨b1_0,True,(One t0)⟩]) ?_ ?_
     ·skip;refine Zp<|Zu H20 (fun ⟨x_21,at_22⟩ (_:Unit)=>(Env.set (Env.set (Env.set (Env.set (Env.set (Env.set (Env.set (Env.set Env.nil 1 (Pt b1_0 0)) 3 (Sl b28_3 True 0 at_22.length (Int.toNat (t0.Nodes.length:Int)))) 4 (D x_10)) 5 (Pt b5_13 0)) 32 (D t0.Nodes)) 33 (D ((t0.Nodes.length:Int):Int))) 34 (D x_10)) 54 (D x_21))) (fun ⟨x_21,at_22⟩ (_:Unit)=>[⟨b28_3,True,(Row (at_22:List Int) (Int.toNat (t0.Nodes.length:Int)))⟩,⟨b1_0,True,(One t0)⟩,⟨b5_13,True,(One x_13)⟩]) () (Za (Za (Za (Za (Za (Za (Zk (ZC rfl) (Za (Zd _))))))))) (Zc rfl (Zc rfl (Zc rfl (Ze _)))) ?_;rintro ⟨x_21,at_22⟩ ⟨⟩ x_23 H23 he23;dsimp only at H23;unfold ZjX at H23;refine zg ?_;refine zc H23 (fun hc H23=>?_) fun hc H23=>?_
      ·refine Zaw<|Zan<|Zau ?_;refine zh H23 fun o_25 H25 H23=>?_
       refine Zn (fun s:(List Int)=>o_25=.inl s) (fun (at_24:(List Int)) (_:Unit)=>(Env.set (Env.set (Env.set (Env.set (Env.set (Env.set (Env.set (Env.set Env.nil 1 (Pt b1_0 0)) 3 (Sl b28_3 True 0 at_24.length (Int.toNat (t0.Nodes.length:Int)))) 4 (D x_10)) 5 (Pt b5_13 0)) 32 (D t0.Nodes)) 33 (D ((t0.Nodes.length:Int):Int))) 34 (D x_10)) 54 (D x_21))) (fun (at_24:(List Int)) (_:Unit)=>[⟨b28_3,True,(Row (at_24:List Int) (Int.toNat (t0.Nodes.length:Int)))⟩,⟨b1_0,True,(One t0)⟩,⟨b5_13,True,(One x_13)⟩]) ?_ ?_
       ·skip;refine zg ?_;refine zn H25 fun _ ex_26 H25=>?_
        refine zX (Za1 (Zay (ZI ex_26.h (Vec.h _).symm)) rfl) ?_;refine zX (Za1 (ZaE (PF 0 Slot Int (Zfj (α:=Slot) (PF 0 Node (Vec Slot 16) Zx) ex_26.h))) rfl) ?_;refine zm H25 fun _ ex_27 H25=>?_
        refine Zk9 64 rfl (fun hg=>(Zm (ZI (Zbx ex_27.h (nF hg.h)) rfl))) rfl<|Zk9 64 rfl (fun hg=>(ZaE (ZaC (Zbx ex_27.h (nF hg.h))))) rfl ?_;refine zd H25 fun _ _ H25=>?_
        refine zd H25 fun _ _ H25=>?_
        refine zc H25 (fun hc H25=>?_) fun hc H25=>?_
        ·refine zC ?_;refine ZL<|Zg<|Zf<|Zs ?_;have R29:=ZaM (ZZi H25) H23;refine Zg<|Zg<|Zf<|Zs ?_;have R30:=ZaM (he23 _ (ZZs R29)) H12;refine Zf<|Zg<|Zg<|Zf<|Zs ?_;have R31:=ZaM (he12 _ (ZZs R30)) H;refine zg ?_;obtain rfl:=ZZi R31;exact ZaV rfl NilS.dn
        ·refine zg ?_;refine zn H25 fun _ ex_33 H25=>?_
         refine TSx (Zay (ZI ex_33.h (Vec.h _).symm)) ?_;refine zX (Za1 (ZaE (Zfj (α:=Int) (PF 32 Node (Vec Int 16) Zx) ex_33.h)) rfl) ?_;refine zc H25 (fun hc H25=>?_) fun hc H25=>?_
         ·refine zg ?_;exact Zj at_22 () (ZZs H25) (Za (Za (Za (Za (Za (Za (Zk (ZC rfl) (Za (Zd _))))))))) (Zc rfl (Zc rfl (Zc rfl (Ze _))))
         ·refine zg ?_;refine zm H25 fun _ ex_34 H25=>?_
          refine Zk9 90 rfl (fun hg=>(Zm (ZI (Zbx ex_34.h (nF hg.h)) rfl))) rfl ?_;refine zX (Zk9 90 rfl (fun hg=>(ZaE (ZaC (Zbx ex_34.h (nF hg.h))))) rfl) ?_;refine zc H25 (fun hc H25=>?_) fun hc H25=>?_
          ·refine zC ?_;refine ZL<|Zg<|Zf<|Zs ?_;have R34:=ZaM (ZZi H25) H23;refine Zg<|Zg<|Zf<|Zs ?_;have R35:=ZaM (he23 _ (ZZs R34)) H12;refine Zf<|Zg<|Zg<|Zf<|Zs ?_;have R36:=ZaM (he12 _ (ZZs R35)) H;refine zg ?_;obtain rfl:=ZZi R36;exact ZaV rfl NilS.dn
          ·refine zg ?_;refine zn H25 fun _ ex_38 H25=>?_
           refine zX (Za1 (Zm (ZI ex_38.h rfl)) rfl) ?_;refine zb H25 fun _ _ H25=>?_
           refine zn H25 fun _ ex_40 H25=>?_
           refine TSx (Zm (ZI ex_40.h rfl)) ?_;refine zE ?_;refine zn H25 fun l_41 el_41 H25=>?_
           refine Zaf b28_3 (Zac el_41.h) ?_;refine zX (ZcF 3 _ (ZaP el_41.h (by simp))) ?_;exact Zj l_41 () (ZZs H25) (Za (Za (Za (Za (Za (Za (Zk (ZC rfl) (Za (Zd _))))))))) (Zc rfl (Zc rfl (Zc rfl (Ze _))))
       rintro at_24 ⟨⟩ hp;replace H23:=ZbD hp H23;refine zg ?_;refine zb H23 fun x_42 _ H23=>?_
       exact Zq ⟨x_42,at_24⟩ () (ZZs H23) (Za (Za (Za (Za (Za (Za (Zk (ZC rfl) (Za (Zd _))))))))) (Zc rfl (Zc rfl (Zc rfl (Ze _))))
      ·refine zg ?_;exact Zj at_22 () (he23 _ (ZZs H23)).symm (Za (Za (Za (Zk (ZC rfl) (Za (Zd _)))))) (Zc rfl (Zc rfl (Ze _)))
     rintro at_19 ⟨⟩ hp;replace H12:=ZbD hp H12;refine zg ?_;refine zb H12 fun x_43 _ H12=>?_
     exact Zq ⟨x_43,at_19⟩ () (ZZs H12) (Za (Za (Za (Zk (ZC rfl) (Za (Zd _)))))) (Zc rfl (Zc rfl (Ze _)))
   ·refine zg ?_;exact Zj at_11 () (he12 _ (ZZs H12)).symm (Zk (ZC rfl) (Zd _)) (Zc rfl (Ze _))
  rintro at_8 ⟨⟩ hp;replace H:=ZbD hp H;refine zC ?_;refine ZL<|TE.pub b28_3 (PubE.set 2 (ZG PlS.all rfl) PubE.refl) ?_;refine zn H fun _ eu_44 H=>?_
  obtain rfl:=ZZi H;exact ZaV rfl (DN.of (pos1_ne eu_44.h))
def ZkM (t0:Trie):Option Bool:=
 (ZkL t0).bind fun x_2=>some (decide (x_2≠[]))
instance trie_Right_c:Fd1 38 ZkM fun r=>D r:=en1 Tryz.func38 rfl Tryz.ntmps38 fun A w hA t0 r H=>by
 unfold ZkM at H;refine zg ?_;refine TS.box rfl fun b1_0=>zg ?_
 refine zb H fun _ _ H=>?_
 refine TSx OpY.neqNil ?_;exact zY H
end Go.Proofs.YtkmojgfenlgchaaGreatDoor.Tr
namespace Go.Proofs.YtkmojgfenlgchaaGreatDoor.Tr
open Go Go.RowKit
set_option maxRecDepth 100000
set_option synthInstance.maxHeartbeats 400000
set_option synthInstance.maxSize 4096
def Zlk (t0:Trie) (k0:(Vec UInt8 16)) (x_7:Int) (x_11:Int) (way_13:(List Int)):Option ((Int×(List Int))⊕(List Int)):=
 bif (decide (x_11<x_7)) then ((idx way_13 x_11).bind fun x_15=>(ZiU k0 x_11).bind fun x_16=>(idx t0.Nodes x_15).bind fun x_17=>(idx x_17.Next.l x_16).bind fun x_18=>bif (decide (x_18=(0:Int))) then (some (.inr way_13)) else ((Zdv 8 ((way_13.length+([x_18]:List Int).length:Nat):Int)).bind fun u_20=>(some ((way_13++([x_18]:List Int)):(List Int))).bind fun l_21=>(Zas x_11 1).bind fun x_22=>some (.inl (x_22,l_21)))) else (some (.inr way_13))
def Zmd (t0:Trie) (k0:(Vec UInt8 16)):Option (List Int):=
 (ZkM t0).bind fun x_3=>(gb (!(!x_3)) (ZkZ k0 t0.Bits)).bind fun x_4=>bif ((!x_3)||(decide (x_4≠k0))) then (some ([]:List Int)) else ((some (([(0:Int)]:List Int):(List Int))).bind fun l_6=>(ZjS t0.Bits 4).bind fun x_7=>(ZM (fun s=>Zlk t0 k0 x_7 s.1 s.2) ((0:Int),l_6)).bind fun way_9=>some way_9)
instance trie_Walk_c:Fd2 86 Zmd fun r=>D r:=en2 Tryz.func86 rfl Tryz.ntmps86 fun A w hA t0 k0 r H=>by
 unfold Zmd at H;refine zg ?_;refine TS.box rfl fun b2_0=>?_
 refine TS.box rfl fun b3_1=>zg ?_
 refine zb H fun _ _ H=>?_
 refine zd H fun _ _ H=>?_
 refine zX (TR.g 11 rfl (fun hg=>(ZhW EqV_83 (by decide) EqG_83 rfl)) rfl) ?_;refine zc H (fun hc H=>?_) fun hc H=>?_
 ·exact zY H
 ·refine zg ?_;refine TS.build [.const (.int .i64 0)] rfl rfl (by decide) rfl fun b19_4=>?_
  refine zC ?_;refine zn H fun _ el_6 H=>?_
  refine ZB b19_4 (Zac el_6.h) ?_;refine zX (Zcg 5 _ (ZaP el_6.h rfl)) ?_;refine zo H fun x_7 _ H=>?_
  refine zC ?_;refine zh H fun o_10 H10 H=>?_
  refine Zn (fun s:(List Int)=>o_10=s) (fun (way_9:(List Int)) (⟨b_7,p_7,c_7⟩:Nat×Prop×Nat)=>(Env.set Env.nil 5 (Sl b_7 p_7 0 way_9.length c_7))) (fun (way_9:(List Int)) (⟨b_7,p_7,c_7⟩:Nat×Prop×Nat)=>[⟨b_7,p_7,(Row (way_9:List Int) c_7)⟩]) ?_ ?_
  ·skip;refine Zp<|Zu H10 (fun ⟨x_11,way_13⟩ (⟨b_11,p_11,c_11⟩:Nat×Prop×Nat)=>(Env.set (Env.set (Env.set (Env.set (Env.set Env.nil 2 (Pt b2_0 0)) 3 (Pt b3_1 0)) 5 (Sl b_11 p_11 0 way_13.length c_11)) 22 (D x_7)) 23 (D x_11))) (fun ⟨x_11,way_13⟩ (⟨b_11,p_11,c_11⟩:Nat×Prop×Nat)=>[⟨b_11,p_11,(Row (way_13:List Int) c_11)⟩,⟨b2_0,True,(One t0)⟩,⟨b3_1,True,(One k0)⟩]) ⟨b19_4,True,([(0:Int)]:List Int).length⟩ (Za (Za (Zk (ZC rfl) (Za (Za (Zd _)))))) (Zc rfl (Zc rfl (Zc rfl (Ze _)))) ?_;rintro ⟨x_11,way_13⟩ ⟨b_11,p_11,c_11⟩ x_14 H14 he14;dsimp only at H14;unfold Zlk at H14;refine zg ?_;refine zc H14 (fun hc H14=>?_) fun hc H14=>?_
   ·refine zg ?_;refine zn H14 fun _ ex_15 H14=>?_
    refine zX (Zeq (Zm (ZI ex_15.h rfl)) rfl) ?_;refine zb H14 fun _ _ H14=>?_
    refine zb H14 fun _ _ H14=>?_
    refine zn H14 fun x_18 ex_18 H14=>?_
    refine zX (Zeq (Zlz ex_18.h) rfl) ?_;refine zc H14 (fun hc H14=>?_) fun hc H14=>?_
    ·refine zg ?_;exact Zj way_13 ⟨b_11,p_11,c_11⟩ (he14 _ (ZZs H14)).symm (Zk (ZC rfl) (Zd _)) (Zc rfl (Ze _))
    ·refine zg ?_;refine TSx (OpY.buildSlice [.tmp 42] rfl rfl (by decide)) ?_;refine zn H14 fun _ eu_20 H14=>?_
     refine TS.app (ys:=([x_18]:List Int)) inferInstance eu_20.h rfl rfl rfl fun b44_18 p44_18 c44_18=>?_
     refine zE ?_;refine zn H14 fun l_21 el_21 H14=>?_
     refine Zaf b44_18 (Zac el_21.h) ?_;refine zX (ZcF 5 _ (ZaP el_21.h rfl)) ?_;refine zb H14 fun x_22 _ H14=>?_
     exact Zq ⟨x_22,l_21⟩ ⟨b44_18,p44_18,c44_18⟩ (ZZs H14) (Za (Za (Zk (ZC rfl) (Za (Za (Zd _)))))) (Zc rfl (Zc rfl (Zc rfl (Ze _))))
   ·refine zg ?_;exact Zj way_13 ⟨b_11,p_11,c_11⟩ (he14 _ (ZZs H14)).symm (Zk (ZC rfl) (Zd _)) (Zc rfl (Ze _))
  rintro way_9 ⟨b_7,p_7,c_7⟩ hp;replace hp:=hp.symm;subst hp;refine zC ?_;refine ZL<|TE.pub b_7 (PubE.set 4 (ZG PlS.all rfl) PubE.refl) ?_;exact zY H
def Zll (t0:Trie) (k0:(Vec UInt8 16)) (x_3:(List Int)) (x_7:Int) (best_8:Slot):Option ((Int×Slot)⊕Slot):=
 bif (decide (x_7<(x_3.length:Int))) then (((idx x_3 x_7).bind fun x_12=>(ZiU k0 x_7).bind fun x_13=>(idx t0.Nodes x_12).bind fun x_14=>(idx x_14.Slots.l x_13).bind fun x_15=>bif (decide (x_15.Len>best_8.Len)) then (some x_15) else (some best_8)).bind fun best_10=>(Zas x_7 1).bind fun x_17=>some (.inl (x_17,best_10))) else (some (.inr best_8))
def Zme (t0:Trie) (k0:(Vec UInt8 16)):Option (Int×UInt16×Int):=
 (Zmd t0 k0).bind fun x_3=>bif (decide ((x_3.length:Int)=(0:Int))) then (some ((0:Int),(UInt16.ofNat 0),(1:Int))) else ((ZM (fun s=>Zll t0 k0 x_3 s.1 s.2) ((0:Int),(Dat.z:Slot))).bind fun best_5=>bif (decide (best_5.Len=(0:Int))) then (some ((0:Int),(UInt16.ofNat 0),(6:Int))) else ((Zgs best_5.Len 1).bind fun x_18=>some (x_18,best_5.Hop,(0:Int))))
instance trie_Find_c:Fd2 37 Zme fun r=>Tup [D r.1,D r.2.1,D r.2.2]:=en2 Tryz.func37 rfl Tryz.ntmps37 fun A w hA t0 k0 r H=>by
 unfold Zme at H;refine zg ?_;refine TS.box rfl fun b2_0=>?_
 refine TS.box rfl fun b3_1=>zg ?_
 refine zb H fun x_3 _ H=>?_
 refine zc H (fun hc H=>?_) fun hc H=>?_
 ·exact zY H
 ·refine zg ?_;refine TS.alloc rfl fun b8_3=>?_
  refine zC ?_;refine zC ?_;refine zh H fun o_6 H6 H=>?_
  refine Zn (fun s:Slot=>o_6=s) (fun (best_5:Slot) (_:Unit)=>(Env.set Env.nil 8 (Pt b8_3 0))) (fun (best_5:Slot) (_:Unit)=>[⟨b8_3,True,(One best_5)⟩]) ?_ ?_
  ·skip;refine Zp<|Zu H6 (fun ⟨x_7,best_8⟩ (_:Unit)=>(Env.set (Env.set (Env.set (Env.set (Env.set (Env.set Env.nil 2 (Pt b2_0 0)) 3 (Pt b3_1 0)) 8 (Pt b8_3 0)) 18 (D x_3)) 19 (D ((x_3.length:Int):Int))) 20 (D x_7))) (fun ⟨x_7,best_8⟩ (_:Unit)=>[⟨b2_0,True,(One t0)⟩,⟨b3_1,True,(One k0)⟩,⟨b8_3,True,(One best_8)⟩]) () (Za (Za (Za (Za (Za (Za (Zd _))))))) (Zc rfl (Zc rfl (Zc rfl (Ze _)))) ?_;rintro ⟨x_7,best_8⟩ ⟨⟩ x_9 H9 he9;dsimp only at H9;unfold Zll at H9;refine zg ?_;refine zc H9 (fun hc H9=>?_) fun hc H9=>?_
   ·refine Zaw<|Zan<|Zau ?_;refine zh H9 fun o_11 H11 H9=>?_
    refine Zn (fun s:Slot=>o_11=s) (fun (best_10:Slot) (_:Unit)=>(Env.set (Env.set (Env.set (Env.set (Env.set (Env.set Env.nil 2 (Pt b2_0 0)) 3 (Pt b3_1 0)) 8 (Pt b8_3 0)) 18 (D x_3)) 19 (D ((x_3.length:Int):Int))) 20 (D x_7))) (fun (best_10:Slot) (_:Unit)=>[⟨b2_0,True,(One t0)⟩,⟨b3_1,True,(One k0)⟩,⟨b8_3,True,(One best_10)⟩]) ?_ ?_
    ·skip;refine zg ?_;refine zo H11 fun _ _ H11=>?_
     refine zC ?_;refine zX (ZaW [10,11] [] mix (by kernel_rfl) (by kernel_rfl)) ?_;refine zb H11 fun _ _ H11=>?_
     refine zb H11 fun _ _ H11=>?_
     refine zn H11 fun x_15 ex_15 H11=>?_
     refine zX (Zeq (Zlz ex_15.h) rfl) ?_;refine Zfi (fun g=>ZcD (α:=Slot)) rfl<|Zdg (fun g=>(Zw (y:=(x_15:Slot)) Zx)) rfl ?_;refine zC ?_;rintro ⟨⟨_,⟨b11_15,_⟩⟩,_⟩;dsimp only [Fam.nextS,Fam.nextN,Fam.one,List.cons_append,List.nil_append];refine zg ?_;refine zc H11 (fun hc H11=>?_) fun hc H11=>?_
     ·refine zg ?_;exact Zj x_15 () (ZZs H11) (Za (Za (Za (Za (Za (Za (Zd _))))))) (Zc rfl (Zc rfl (Zc rfl (Ze _))))
     ·refine zg ?_;exact Zj best_8 () (ZZs H11) (Za (Za (Za (Za (Za (Za (Zd _))))))) (Zc rfl (Zc rfl (Zc rfl (Ze _))))
    rintro best_10 ⟨⟩ hp;replace hp:=hp.symm;subst hp;refine zg ?_;refine zb H9 fun x_17 _ H9=>?_
    exact Zq ⟨x_17,best_10⟩ () (ZZs H9) (Za (Za (Za (Za (Za (Za (Zd _))))))) (Zc rfl (Zc rfl (Zc rfl (Ze _))))
   ·refine zg ?_;exact Zj best_8 () (he9 _ (ZZs H9)).symm (Za (Zd _)) (Zc rfl (Ze _))
  rintro best_5 ⟨⟩ hp;replace hp:=hp.symm;subst hp;exact zY H
end Go.Proofs.YtkmojgfenlgchaaGreatDoor.Tr
namespace Go.Proofs.YtkmojgfenlgchaaGreatDoor.Tr
open Go Go.RowKit
set_option maxRecDepth 100000
set_option synthInstance.maxHeartbeats 400000
set_option synthInstance.maxSize 4096
def ZaG (s0:Txt) (c0:UInt8):Option Int:=
 (ZiR (idxByte s0.l c0)).bind fun x_1=>some x_1
instance internal_stringslite_IndexByte_c:Fd2 183 ZaG fun r=>D r:=en2 Tryz.func183 rfl Tryz.ntmps183 fun A w hA s0 c0 r H=>by
 unfold ZaG at H;refine zg ?_;refine zn H fun _ ex_1 H=>?_
 refine TSx (OpY.idxByte ex_1.h) ?_;exact zY H
def ZaZ (s0:Txt) (substr0:Txt):Option Int:=
 (ZiR (substr0.l.length:Int)).bind fun x_1=>bif ((decide (x_1=(0:Int)))||(decide (substr0.l=s0.l))) then (some (0:Int)) else (bif (decide (x_1=(1:Int))) then ((idx substr0.l 0).bind fun x_2=>(ZaG s0 x_2).bind fun x_3=>some x_3) else ((ZiR (s0.l.length:Int)).bind fun x_4=>bif (decide (x_1≥x_4)) then (some (-1:Int)) else (none)))
instance internal_stringslite_Index_c:Fd2 157 ZaZ fun r=>D r:=en2 Tryz.func157 rfl Tryz.ntmps157 fun A w hA s0 substr0 r H=>by
 unfold ZaZ at H;refine zg ?_;refine zn H fun _ ex_1 H=>?_
 refine zX (Za1 (Zbd ex_1.h) rfl) ?_;refine zX (Zk9 19 rfl (fun hg=>ZeV) rfl) ?_;refine zc H (fun hc H=>?_) fun hc H=>?_
 ·exact zY H
 ·refine zg ?_;refine zc H (fun hc H=>?_) fun hc H=>?_
  ·refine zg ?_;refine zn H fun _ ex_2 H=>?_
   refine TSx (ZeP ex_2.h) ?_;exact zY H
  ·refine zg ?_;refine zn H fun _ ex_4 H=>?_
   refine zX (Za1 (Zbd ex_4.h) rfl) ?_;refine zc H (fun hc H=>?_) fun hc H=>?_
   ·exact zY H
   ·cases H
def Zcu (s0:Txt) (sep0:Txt):Option (Txt×Txt×Bool):=
 (ZaZ s0 sep0).bind fun x_1=>bif (decide (x_1≥(0:Int))) then ((cut s0.l.length 0 x_1).bind fun u_2=>(ZiR (sep0.l.length:Int)).bind fun x_3=>(Zas x_1 x_3).bind fun x_4=>(cut s0.l.length x_4 s0.l.length).bind fun u_5=>some ((⟨(s0.l.take (Int.toNat x_1))⟩:Txt),(⟨(s0.l.drop (Int.toNat x_4))⟩:Txt),true)) else (some (s0,(⟨([]:List UInt8)⟩:Txt),false))
instance internal_stringslite_Cut_c:Fd2 131 Zcu fun r=>Tup [D r.1,D r.2.1,D r.2.2]:=en2 Tryz.func131 rfl Tryz.ntmps131 fun A w hA s0 sep0 r H=>by
 unfold Zcu at H;refine zg ?_;refine zb H fun _ _ H=>?_
 refine zc H (fun hc H=>?_) fun hc H=>?_
 ·refine zg ?_;refine zn H fun _ eu_2 H=>?_
  refine zX (Zeq (ZlD eu_2.h) rfl) ?_;refine zn H fun _ ex_3 H=>?_
  refine TRx (Zbd ex_3.h) ?_;refine zb H fun _ _ H=>?_
  refine zn H fun _ eu_5 H=>?_
  refine TRx (Zg1 eu_5.h) ?_;exact zY H
 ·exact zY H
def Zhw (s0:Txt) (sep0:Txt):Option (Txt×Txt×Bool):=
 (Zcu s0 sep0).bind fun r_1=>some (r_1.1,r_1.2.1,r_1.2.2)
instance strings_Cut_c:Fd2 89 Zhw fun r=>Tup [D r.1,D r.2.1,D r.2.2]:=en2 Tryz.func89 rfl Tryz.ntmps89 fun _ _ _ _ _ _ H=>by
 unfold Zhw at H;exact zY H
def ZaF (s0:Txt):Option Int:=
 none
instance unicode_utf8_RuneCountInString_c:Fd1 218 ZaF fun r=>D r:=en1 Tryz.func218 rfl Tryz.ntmps218 fun A w hA s0 r H=>by
 unfold ZaF at H;refine zg ?_;cases H
def Zgz (n_2:Int):Option (Unit⊕Unit):=
 (Zgs n_2 1).bind fun x_9=>bif (decide ((0:Int)<x_9)) then (none) else (some (.inr ()))
def ZfU (s0:Txt) (n0:Int):Option (List Txt):=
 (ZaF s0).bind fun x_1=>(bif ((decide (n0<(0:Int)))||(decide (n0>x_1))) then (some x_1) else (some n0)).bind fun n_2=>(Zdv 16 n_2).bind fun u_4=>(some ((List.replicate (Int.toNat n_2) (Dat.z:Txt)):(List Txt))).bind fun l_6=>(ZM (fun _:Unit=>Zgz n_2) ()).bind fun _=>(bif (decide (n_2>(0:Int))) then ((Zgs n_2 1).bind fun x_12=>(idx l_6 x_12).bind fun x_13=>(some ((l_6.set (Int.toNat x_12) s0):(List Txt))).bind fun l_14=>some l_14) else (some l_6)).bind fun a_10=>some a_10
instance strings_explode_c:Fd2 214 ZfU fun r=>D r:=en2 Tryz.func214 rfl Tryz.ntmps214 fun A w hA s0 n0 r H=>by
 unfold ZfU at H;refine zg ?_;refine zo H fun x_1 _ H=>?_
 refine zC ?_;refine Zau ?_;refine zh H fun o_3 H3 H=>?_
 refine Zn (fun s:Int=>o_3=s) (fun (n_2:Int) (_:Unit)=>(Env.set (Env.set Env.nil 0 (D s0)) 1 (D n_2))) (fun (n_2:Int) (_:Unit)=>[]) ?_ ?_
 ·skip;refine zg ?_;refine zc H3 (fun hc H3=>?_) fun hc H3=>?_
  ·refine zg ?_;exact Zj x_1 () (ZZs H3) (Za (Za (Zd _))) (Ze _)
  ·refine zg ?_;exact Zj n0 () (ZZs H3) (Za (Za (Zd _))) (Ze _)
 rintro n_2 ⟨⟩ hp;replace hp:=hp.symm;subst hp;refine zg ?_;refine zn H fun _ eu_4 H=>?_
 refine Zgj eu_4.h ⟨(Za3 eu_4.h).1,Int.le_refl _⟩ rfl fun b21_4=>?_
 refine zC ?_;refine zn H fun l_6 el_6 H=>?_
 refine ZB b21_4 (Zac el_6.h)<|Zcg 6 _ (ZaP el_6.h (by simp)) ?_;refine zC ?_;refine zh H fun o_7 H7 H=>?_
 refine Zn (fun s:Unit=>o_7=s) (fun (_:Unit) (_:Unit)=>(Env.set (Env.set (Env.set Env.nil 0 (D s0)) 1 (D n_2)) 6 (Sl b21_4 True 0 l_6.length (Int.toNat n_2)))) (fun (_:Unit) (_:Unit)=>[⟨b21_4,True,(Row (l_6:List Txt) (Int.toNat n_2))⟩]) ?_ ?_
 ·skip;refine Zp<|Zu H7 (fun (_:Unit) (_:Unit)=>(Env.set (Env.set (Env.set (Env.set Env.nil 0 (D s0)) 1 (D n_2)) 6 (Sl b21_4 True 0 l_6.length (Int.toNat n_2))) 7 (D ((0:Int):Int)))) (fun (_:Unit) (_:Unit)=>[⟨b21_4,True,(Row (l_6:List Txt) (Int.toNat n_2))⟩]) () (Za (Zk (ZC rfl) (Za (Za (Zd _))))) (Zc rfl (Ze _)) ?_;rintro ⟨⟩ ⟨⟩ x_8 H8 he8
  try dsimp only at H8
  unfold Zgz at H8;refine zg ?_;refine zb H8 fun _ _ H8=>?_
  refine zc H8 (fun hc H8=>?_) fun hc H8=>?_
  ·refine zg ?_;cases H8
  ·refine zg ?_;exact Zj () () (he8 _ (ZZs H8)).symm (Zk (ZC rfl) (Za (Za (Zd _)))) (Zc rfl (Ze _))
 rintro ⟨⟩ ⟨⟩ hp;replace hp:=hp.symm;subst hp;refine Zan<|Zau ?_;refine zh H fun o_11 H11 H=>?_
 refine Zn (fun s:(List Txt)=>o_11=s) (fun (a_10:(List Txt)) (_:Unit)=>(Env.set Env.nil 6 (Sl b21_4 True 0 a_10.length (Int.toNat n_2)))) (fun (a_10:(List Txt)) (_:Unit)=>[⟨b21_4,True,(Row (a_10:List Txt) (Int.toNat n_2))⟩]) ?_ ?_
 ·skip;refine zg ?_;refine zc H11 (fun hc H11=>?_) fun hc H11=>?_
  ·refine zg ?_;refine zb H11 fun _ _ H11=>?_
   refine zn H11 fun _ ex_13 H11=>?_
   refine TSx (Zm (ZI ex_13.h rfl)) ?_;refine zE ?_;refine zn H11 fun l_14 el_14 H11=>?_
   exact Zaf b21_4 (Zac el_14.h)<|ZcF 6 _ (ZaP el_14.h (by simp))<|Zj l_14 () (ZZs H11) (Zk (ZC rfl) (Zd _)) (Zc rfl (Ze _))
  ·refine zg ?_;exact Zj l_6 () (ZZs H11) (Zk (ZC rfl) (Zd _)) (Zc rfl (Ze _))
 rintro a_10 ⟨⟩ hp;replace hp:=hp.symm;subst hp;refine zC ?_;refine ZL<|TE.pub b21_4 (PubE.set 4 (ZG PlS.all rfl) PubE.refl) ?_;exact zY H
def Zfo (s0:Txt) (substr0:Txt):Option Int:=
 (ZaZ s0 substr0).bind fun x_1=>some x_1
instance strings_Index_c:Fd2 216 Zfo fun r=>D r:=en2 Tryz.func216 rfl Tryz.ntmps216 fun _ _ _ _ _ _ H=>by
 unfold Zfo at H;exact zY H
def Zh0 (substr0:Txt) (s_7:Txt) (n_8:Int):Option ((Txt×Int)⊕Int):=
 (Zfo s_7 substr0).bind fun x_10=>bif (decide (x_10=(-1:Int))) then (some (.inr n_8)) else ((Zas n_8 1).bind fun x_11=>(ZiR (substr0.l.length:Int)).bind fun x_12=>(Zas x_10 x_12).bind fun x_13=>(cut s_7.l.length x_13 s_7.l.length).bind fun u_14=>some (.inl ((⟨(s_7.l.drop (Int.toNat x_13))⟩:Txt),x_11)))
def Zhx (s0:Txt) (substr0:Txt):Option Int:=
 (ZiR (substr0.l.length:Int)).bind fun x_1=>bif (decide (x_1=(0:Int))) then ((ZaF s0).bind fun x_2=>(Zas x_2 1).bind fun x_3=>some x_3) else ((ZiR (substr0.l.length:Int)).bind fun x_4=>bif (decide (x_4=(1:Int))) then ((idx substr0.l 0).bind fun x_5=>(ZiR (cntByte s0.l x_5)).bind fun x_6=>some x_6) else (ZM (fun s=>Zh0 substr0 s.1 s.2) (s0,(0:Int))))
instance strings_Count_c:Fd2 215 Zhx fun r=>D r:=en2 Tryz.func215 rfl Tryz.ntmps215 fun A w hA s0 substr0 r H=>by
 unfold Zhx at H;refine zg ?_;refine zn H fun _ ex_1 H=>?_
 refine zX (Za1 (Zbd ex_1.h) rfl) ?_;refine zc H (fun hc H=>?_) fun hc H=>?_
 ·exact zY H
 ·refine zg ?_;refine zn H fun _ ex_4 H=>?_
  refine zX (Za1 (Zbd ex_4.h) rfl) ?_;refine zc H (fun hc H=>?_) fun hc H=>?_
  ·refine zg ?_;refine zn H fun _ ex_5 H=>?_
   refine TSx (ZeP ex_5.h) ?_;refine zn H fun _ ex_6 H=>?_
   refine TSx (OpY.cntByte ex_6.h) ?_;exact zY H
  ·refine zC ?_;refine Zp<|Zu H (fun ⟨s_7,n_8⟩ (_:Unit)=>(Env.set (Env.set (Env.set Env.nil 0 (D s_7)) 1 (D substr0)) 5 (D n_8))) (fun ⟨s_7,n_8⟩ (_:Unit)=>[]) () (Za (Za (Za (Zd _)))) (Ze _) ?_;rintro ⟨s_7,n_8⟩ ⟨⟩ x_9 H9 he9;dsimp only at H9;unfold Zh0 at H9;refine zg ?_;refine zb H9 fun _ _ H9=>?_
   refine zc H9 (fun hc H9=>?_) fun hc H9=>?_
   ·refine zg ?_;obtain rfl:=(he9 _ (ZZs H9));exact ZaV rfl Cv.le
   ·refine zg ?_;refine zb H9 fun x_11 _ H9=>?_
    refine zn H9 fun _ ex_12 H9=>?_
    refine TSx (Zbd ex_12.h) ?_;refine zb H9 fun x_13 _ H9=>?_
    refine zn H9 fun _ eu_14 H9=>?_
    refine zX (Za1 (Zg1 eu_14.h) rfl) ?_;exact Zq ⟨(⟨(s_7.l.drop (Int.toNat x_13))⟩:Txt),x_11⟩ () (ZZs H9) (Za (Za (Za (Zd _)))) (Ze _)
def ZfT (sep0:Txt) (sepSave0:Int) (x_11:Int) (s_16:Txt) (i_17:Int) (a_18:(List Txt)):Option ((Txt×Int×(List Txt))⊕(Txt×Int×(List Txt))):=
 bif (decide (i_17<x_11)) then ((Zfo s_16 sep0).bind fun x_20=>bif (decide (x_20<(0:Int))) then (some (.inr (s_16,i_17,a_18))) else ((Zas x_20 sepSave0).bind fun x_21=>(cut s_16.l.length 0 x_21).bind fun u_22=>(idx a_18 i_17).bind fun x_23=>(some ((a_18.set (Int.toNat i_17) (⟨(s_16.l.take (Int.toNat x_21))⟩:Txt)):(List Txt))).bind fun l_24=>(ZiR (sep0.l.length:Int)).bind fun x_25=>(Zas x_20 x_25).bind fun x_26=>(cut s_16.l.length x_26 s_16.l.length).bind fun u_27=>(Zas i_17 1).bind fun x_28=>some (.inl ((⟨(s_16.l.drop (Int.toNat x_26))⟩:Txt),x_28,l_24)))) else (some (.inr (s_16,i_17,a_18)))
def Ze8 (s0:Txt) (sep0:Txt) (sepSave0:Int) (n0:Int):Option (List Txt):=
 bif (decide (n0=(0:Int))) then (some ([]:List Txt)) else (bif (decide (sep0.l=([]:List UInt8))) then ((ZfU s0 n0).bind fun x_1=>some x_1) else ((bif (decide (n0<(0:Int))) then ((Zhx s0 sep0).bind fun x_4=>(Zas x_4 1).bind fun x_5=>some x_5) else (some n0)).bind fun n_2=>(ZiR (s0.l.length:Int)).bind fun x_6=>(Zas x_6 1).bind fun x_7=>(Zdv 16 (min n_2 x_7)).bind fun u_8=>(some ((List.replicate (Int.toNat (min n_2 x_7)) (Dat.z:Txt)):(List Txt))).bind fun l_10=>(Zgs (min n_2 x_7) (1:Int)).bind fun x_11=>(ZM (fun s=>ZfT sep0 sepSave0 x_11 s.1 s.2.1 s.2.2) (s0,(0:Int),l_10)).bind fun o_15=>el3 o_15 (fun s_12 i_13 a_14=>(idx a_14 i_13).bind fun x_29=>(some ((a_14.set (Int.toNat i_13) s_12):(List Txt))).bind fun l_30=>(Zas i_13 1).bind fun x_31=>(cut l_30.length 0 x_31).bind fun u_32=>(some ((l_30.take (Int.toNat x_31)):(List Txt))).bind fun l_33=>some l_33)))
instance strings_genSplit_c:Fd4 204 Ze8 fun r=>D r:=en4 Tryz.func204 rfl Tryz.ntmps204 fun A w hA s0 sep0 sepSave0 n0 r H=>by
 unfold Ze8 at H;refine zg ?_;refine zc H (fun hc H=>?_) fun hc H=>?_
 ·exact zY H
 ·refine zg ?_;refine zX (Za1 ZeV rfl) ?_;refine zc H (fun hc H=>?_) fun hc H=>?_
  ·exact zY H
  ·refine Zaw<|Zan<|Zau ?_;refine zh H fun o_3 H3 H=>?_
   refine Zn (fun s:Int=>o_3=s) (fun (n_2:Int) (_:Unit)=>(Env.set (Env.set (Env.set (Env.set Env.nil 0 (D s0)) 1 (D sep0)) 2 (D sepSave0)) 3 (D n_2))) (fun (n_2:Int) (_:Unit)=>[]) ?_ ?_
   ·skip;refine zg ?_;refine zc H3 (fun hc H3=>?_) fun hc H3=>?_
    ·refine zg ?_;refine zb H3 fun _ _ H3=>?_
     refine zb H3 fun x_5 _ H3=>?_
     exact Zj x_5 () (ZZs H3) (Za (Za (Za (Za (Zd _))))) (Ze _)
    ·refine zg ?_;exact Zj n0 () (ZZs H3) (Za (Za (Za (Za (Zd _))))) (Ze _)
   rintro n_2 ⟨⟩ hp;replace hp:=hp.symm;subst hp;refine zg ?_;refine zn H fun _ ex_6 H=>?_
   refine TSx (Zbd ex_6.h) ?_;refine zb H fun x_7 _ H=>?_
   refine zn H fun _ eu_8 H=>?_
   refine Zgj eu_8.h ⟨(Za3 eu_8.h).1,Int.le_refl _⟩ rfl fun b31_8=>?_
   refine zC ?_;refine zn H fun _ el_10 H=>?_
   refine ZB b31_8 (Zac el_10.h) ?_;refine zX (Zcg 9 _ (ZaP el_10.h (by simp))) ?_;refine zo H fun x_11 _ H=>?_
   refine zC ?_;refine zC ?_;refine Zau ?_;refine zh H fun o_15 H15 H=>?_
   refine Zn (fun s:(Txt×Int×(List Txt))=>o_15=s) (fun ⟨s_12,i_13,a_14⟩ (_:Unit)=>(Env.set (Env.set (Env.set Env.nil 0 (D s_12)) 9 (Sl b31_8 True 0 a_14.length (Int.toNat (min n_2 x_7)))) 10 (D i_13))) (fun ⟨s_12,i_13,a_14⟩ (_:Unit)=>[⟨b31_8,True,(Row (a_14:List Txt) (Int.toNat (min n_2 x_7)))⟩]) ?_ ?_
   ·skip;refine Zp<|Zu H15 (fun ⟨s_16,i_17,a_18⟩ (_:Unit)=>(Env.set (Env.set (Env.set (Env.set (Env.set (Env.set Env.nil 0 (D s_16)) 1 (D sep0)) 2 (D sepSave0)) 3 (D x_11)) 9 (Sl b31_8 True 0 a_18.length (Int.toNat (min n_2 x_7)))) 10 (D i_17))) (fun ⟨s_16,i_17,a_18⟩ (_:Unit)=>[⟨b31_8,True,(Row (a_18:List Txt) (Int.toNat (min n_2 x_7)))⟩]) () (Za (Zk (ZC rfl) (Za (Za (Za (Za (Zd _))))))) (Zc rfl (Ze _)) ?_;rintro ⟨s_16,i_17,a_18⟩ ⟨⟩ x_19 H19 he19;dsimp only at H19;unfold ZfT at H19;refine zg ?_;refine zc H19 (fun hc H19=>?_) fun hc H19=>?_
    ·refine zg ?_;refine zb H19 fun _ _ H19=>?_
     refine zc H19 (fun hc H19=>?_) fun hc H19=>?_
     ·refine zg ?_;exact Zj ⟨s_16,i_17,a_18⟩ () (he19 _ (ZZs H19)).symm (Za (Zk (ZC rfl) (Za (Zd _)))) (Zc rfl (Ze _))
     ·refine zg ?_;refine zb H19 fun _ _ H19=>?_
      refine zn H19 fun _ eu_22 H19=>?_
      refine TSx (ZlD eu_22.h) ?_;refine zn H19 fun _ ex_23 H19=>?_
      refine TSx (Zm (ZI ex_23.h rfl)) ?_;refine zC ?_;refine zn H19 fun l_24 el_24 H19=>?_
      refine ZB b31_8 (Zac el_24.h) ?_;refine zX (Zcg 9 _ (ZaP el_24.h (by simp))) ?_;refine zn H19 fun _ ex_25 H19=>?_
      refine TSx (Zbd ex_25.h) ?_;refine zb H19 fun x_26 _ H19=>?_
      refine zn H19 fun _ eu_27 H19=>?_
      refine zX (Za1 (Zg1 eu_27.h) rfl) ?_;refine zb H19 fun x_28 _ H19=>?_
      exact Zq ⟨(⟨(s_16.l.drop (Int.toNat x_26))⟩:Txt),x_28,l_24⟩ () (ZZs H19) (Za (Zk (ZC rfl) (Za (Za (Za (Za (Zd _))))))) (Zc rfl (Ze _))
    ·refine zg ?_;exact Zj ⟨s_16,i_17,a_18⟩ () (he19 _ (ZZs H19)).symm (Za (Zk (ZC rfl) (Za (Zd _)))) (Zc rfl (Ze _))
   rintro ⟨s_12,i_13,a_14⟩ ⟨⟩ hp;replace hp:=hp.symm;subst hp;replace H:=el3_mk H;refine zg ?_;refine zn H fun _ ex_29 H=>?_
   refine TSx (Zm (ZI ex_29.h rfl)) ?_;refine zC ?_;refine zn H fun l_30 el_30 H=>?_
   refine ZB b31_8 (Zac el_30.h) ?_;refine zX (Zcg 9 _ (ZaP el_30.h (by simp))) ?_;refine zb H fun x_31 _ H=>?_
   refine zn H fun _ eu_32 H=>?_
   refine TSx (Zeg (Zd4 eu_32.h rfl).2.1 (Zd4 eu_32.h rfl).2.2) ?_;refine zC ?_;refine TC.trim b31_8 (Int.toNat x_31) (Zk5 eu_32.h)<|Zcg 8 _ (ZC (List.length_take_of_le (l:=l_30) (Zk5 eu_32.h)).symm) ?_;refine zn H fun _ el_33 H=>?_
   refine ZB b31_8 (Zac el_33.h)<|Zcg 8 _ (ZaP el_33.h rfl)<|ZL<|TE.pub b31_8 (PubE.set 8 (ZG PlS.all rfl) PubE.refl) ?_;exact zY H
def Zhv (s0:Txt) (sep0:Txt):Option (List Txt):=
 (Ze8 s0 sep0 (0:Int) (-1:Int)).bind fun x_1=>some x_1
instance strings_Split_c:Fd2 187 Zhv fun r=>D r:=en2 Tryz.func187 rfl Tryz.ntmps187 fun _ _ _ _ _ _ H=>by
 unfold Zhv at H;exact zY H
def Zid (s0:Txt) (top0:Int) (x_3:Int) (n_6:Int) (x_7:Int):Option ((Int×Int)⊕(Int⊕(Int×Bool))):=
 bif (decide (x_7<x_3)) then ((idx s0.l x_7).bind fun x_9=>(gb (!(decide (x_9<(UInt8.ofNat 48)))) (idx s0.l x_7)).bind fun x_10=>bif ((decide (x_9<(UInt8.ofNat 48)))||(decide ((UInt8.ofNat 57)<x_10))) then (some (.inr (.inr ((0:Int),false)))) else ((mulI (10:Int) n_6).bind fun x_12=>(idx s0.l x_7).bind fun x_13=>(Zas x_12 ((x_13-(UInt8.ofNat 48)).toNat:Int)).bind fun x_14=>bif (decide (x_14>top0)) then (some (.inr (.inr ((0:Int),false)))) else ((Zas x_7 1).bind fun x_16=>some (.inl (x_14,x_16))))) else (some (.inr (.inl n_6)))
def Ze0 (s0:Txt) (top0:Int):Option (Int×Bool):=
 (gb (!(decide (s0.l=([]:List UInt8)))) (ZiR (s0.l.length:Int))).bind fun x_1=>(gb ((!(decide (s0.l=([]:List UInt8))))&&(decide (x_1>(1:Int)))) (idx s0.l 0)).bind fun x_2=>bif ((decide (s0.l=([]:List UInt8)))||((decide (x_1>(1:Int)))&&(decide (x_2=(UInt8.ofNat 48))))) then (some ((0:Int),false)) else ((ZiR (s0.l.length:Int)).bind fun x_3=>(ZM (fun s=>Zid s0 top0 x_3 s.1 s.2) ((0:Int),(0:Int))).bind fun o_5=>elS o_5 (fun n_4=>some (n_4,true)) (fun q=>some q))
instance route_number_c:Fd2 91 Ze0 fun r=>Tup [D r.1,D r.2]:=en2 Tryz.func91 rfl Tryz.ntmps91 fun A w hA s0 top0 r H=>by
 unfold Ze0 at H;refine zg ?_;refine zX (Za1 ZeV rfl) ?_;refine zm H fun _ ex_1 H=>?_
 refine zX (Zk9 10 rfl (fun hg=>(Zbd (Zbx ex_1.h (nF hg.h)))) rfl) ?_;refine zm H fun _ ex_2 H=>?_
 refine TS.gg 14 rfl (fun hp hg=>(ZeP (Zbx ex_2.h (aT (nF hp.h) hg.h)))) rfl ?_;refine zX (TS.gg 14 rfl (fun hp hg=>OpY.eql8) rfl) ?_;refine zc H (fun hc H=>?_) fun hc H=>?_
 ·exact zY H
 ·refine zg ?_;refine zn H fun x_3 ex_3 H=>?_
  refine TSx (Zbd ex_3.h) ?_;refine zC ?_;refine zh H fun o_5 H5 H=>?_
  refine Zn (fun s:Int=>o_5=.inl s) (fun (n_4:Int) (_:Unit)=>(Env.set Env.nil 6 (D n_4))) (fun (n_4:Int) (_:Unit)=>[]) ?_ ?_
  ·skip;refine Zp<|Zu H5 (fun ⟨n_6,x_7⟩ (_:Unit)=>(Env.set (Env.set (Env.set (Env.set (Env.set Env.nil 0 (D s0)) 1 (D top0)) 6 (D n_6)) 21 (D x_3)) 22 (D x_7))) (fun ⟨n_6,x_7⟩ (_:Unit)=>[]) () (Za (Za (Za (Za (Za (Zd _)))))) (Ze _) ?_;rintro ⟨n_6,x_7⟩ ⟨⟩ x_8 H8 he8;dsimp only at H8;unfold Zid at H8;refine zg ?_;refine zc H8 (fun hc H8=>?_) fun hc H8=>?_
   ·refine zg ?_;refine zn H8 fun _ ex_9 H8=>?_
    refine TSx (ZeP ex_9.h) ?_;refine zX (Za1 OpY.lss8 rfl) ?_;refine zm H8 fun _ ex_10 H8=>?_
    refine Zk9 29 rfl (fun hg=>(ZeP (Zbx ex_10.h (nF hg.h)))) rfl ?_;refine zX (Zk9 29 rfl (fun hg=>OpY.gtr8) rfl) ?_;refine zc H8 (fun hc H8=>?_) fun hc H8=>?_
    ·refine zC ?_;refine ZL<|Zg<|Zf<|Zg<|Zg<|Zf<|Zs ?_;have R10:=ZaM (he8 _ (ZZs H8)) H;refine zg ?_;obtain rfl:=ZZi R10;exact ZeL rfl rfl (.cons Cv.le (.cons Cv.le .nil))
    ·refine zg ?_;refine zb H8 fun _ _ H8=>?_
     refine zn H8 fun _ ex_13 H8=>?_
     refine TSx (ZeP ex_13.h) ?_;refine zX (Za1 OpY.sub8 rfl) ?_;refine zb H8 fun x_14 _ H8=>?_
     refine zc H8 (fun hc H8=>?_) fun hc H8=>?_
     ·refine zC ?_;refine ZL<|Zf<|Zg<|Zg<|Zf<|Zs ?_;have R14:=ZaM (he8 _ (ZZs H8)) H;refine zg ?_;obtain rfl:=ZZi R14;exact ZeL rfl rfl (.cons Cv.le (.cons Cv.le .nil))
     ·refine zg ?_;refine zb H8 fun x_16 _ H8=>?_
      exact Zq ⟨x_14,x_16⟩ () (ZZs H8) (Za (Za (Za (Za (Za (Zd _)))))) (Ze _)
   ·refine zg ?_;exact Zj n_6 () (he8 _ (ZZs H8)).symm (Za (Zd _)) (Ze _)
  rintro n_4 ⟨⟩ hp;replace H:=ZbD hp H;exact zY H
def Zjn (x_2:(List Txt)) (x_6:Int) (k_7:(Vec UInt8 16)):Option ((Int×(Vec UInt8 16))⊕((Vec UInt8 16)⊕((Vec UInt8 16)×Bool))):=
 bif (decide (x_6<(x_2.length:Int))) then ((idx x_2 x_6).bind fun x_9=>(Ze0 x_9 (255:Int)).bind fun r_10=>bif (!r_10.2) then (some (.inr (.inr ((Dat.z:(Vec UInt8 16)),false)))) else ((idx k_7.l x_6).bind fun x_12=>(some ((Vec.set k_7 (Int.toNat x_6) (UInt8.ofInt r_10.1)):(Vec UInt8 16))).bind fun k_13=>(Zas x_6 1).bind fun x_14=>some (.inl (x_14,k_13)))) else (some (.inr (.inl k_7)))
def ZjA (s0:Txt):Option ((Vec UInt8 16)×Bool):=
 (Zhv s0 (⟨([46]:List UInt8)⟩:Txt)).bind fun x_2=>bif (decide ((x_2.length:Int)≠(4:Int))) then (some ((Dat.z:(Vec UInt8 16)),false)) else ((ZM (fun s=>Zjn x_2 s.1 s.2) ((0:Int),(Dat.z:(Vec UInt8 16)))).bind fun o_5=>elS o_5 (fun k_4=>some (k_4,true)) (fun q=>some q))
instance route_short_c:Fd1 158 ZjA fun r=>Tup [D r.1,D r.2]:=en1 Tryz.func158 rfl Tryz.ntmps158 fun A w hA s0 r H=>by
 unfold ZjA at H;refine zg ?_;refine TS.alloc rfl fun b2_0=>zg ?_
 refine zb H fun x_2 _ H=>?_
 refine zc H (fun hc H=>?_) fun hc H=>?_
 ·refine zg ?_;refine TSx (Zdi (ps:=_) (Dat.z:(Vec UInt8 16)) rfl Tryz.underlying83 rfl) ?_;exact zY H
 ·refine zg ?_;refine TS.alloc rfl fun b5_2=>?_
  refine zC ?_;refine zC ?_;refine zh H fun o_5 H5 H=>?_
  refine Zn (fun s:(Vec UInt8 16)=>o_5=.inl s) (fun (k_4:(Vec UInt8 16)) (_:Unit)=>(Env.set (Env.set Env.nil 2 (Pt b2_0 0)) 5 (Pt b5_2 0))) (fun (k_4:(Vec UInt8 16)) (_:Unit)=>[⟨b2_0,True,(One ((Dat.z:(Vec UInt8 16)):(Vec UInt8 16)))⟩,⟨b5_2,True,(One k_4)⟩]) ?_ ?_
  ·skip;refine Zp<|Zu H5 (fun ⟨x_6,k_7⟩ (_:Unit)=>(Env.set (Env.set (Env.set (Env.set (Env.set Env.nil 2 (Pt b2_0 0)) 5 (Pt b5_2 0)) 16 (D x_2)) 17 (D ((x_2.length:Int):Int))) 18 (D x_6))) (fun ⟨x_6,k_7⟩ (_:Unit)=>[⟨b2_0,True,(One ((Dat.z:(Vec UInt8 16)):(Vec UInt8 16)))⟩,⟨b5_2,True,(One k_7)⟩]) () (Za (Za (Za (Za (Za (Zd _)))))) (Zc rfl (Zc rfl (Ze _))) ?_;rintro ⟨x_6,k_7⟩ ⟨⟩ x_8 H8 he8;dsimp only at H8;unfold Zjn at H8;refine zg ?_;refine zc H8 (fun hc H8=>?_) fun hc H8=>?_
   ·refine zg ?_;refine zb H8 fun _ _ H8=>?_
    refine zb H8 fun r_10 _ H8=>?_
    refine zc H8 (fun hc H8=>?_) fun hc H8=>?_
    ·refine zg ?_;refine TSx (Zdi (ps:=_) (Dat.z:(Vec UInt8 16)) rfl Tryz.underlying83 rfl) ?_;refine zC ?_;refine ZL<|Zg<|Zf<|Zg<|Zg<|Zf<|Zs ?_;have R10:=ZaM (he8 _ (ZZs H8)) H;refine zg ?_;obtain rfl:=ZZi R10;exact ZeL rfl rfl (.cons Cv.le (.cons Cv.le .nil))
    ·refine zg ?_;refine zn H8 fun _ ex_12 H8=>?_
     refine TSx (Zay (ZI ex_12.h (Vec.h _).symm))<|Zbj (Zw (y:=((UInt8.ofInt r_10.1):UInt8)) (Zfj (α:=UInt8) Zx ex_12.h)) ?_;refine zE ?_;refine zn H8 fun k_13 ek_13 H8=>?_
     refine zX (Zaf b5_2 (Zah ek_13.h)) ?_;refine zb H8 fun x_14 _ H8=>?_
     exact Zq ⟨x_14,k_13⟩ () (ZZs H8) (Za (Za (Za (Za (Za (Zd _)))))) (Zc rfl (Zc rfl (Ze _)))
   ·refine zg ?_;exact Zj k_7 () (he8 _ (ZZs H8)).symm (Za (Za (Zd _))) (Zc rfl (Zc rfl (Ze _)))
  rintro k_4 ⟨⟩ hp;replace H:=ZbD hp H;exact zY H
def Zey (s0:Txt) (c0:UInt8):Option Int:=
 (ZaG s0 c0).bind fun x_1=>some x_1
instance strings_IndexByte_c:Fd2 188 Zey fun r=>D r:=en2 Tryz.func188 rfl Tryz.ntmps188 fun _ _ _ _ _ _ H=>by
 unfold Zey at H;exact zY H
def Zj8 (s0:Txt) (x_4:Int) (x_7:Int) (k_8:(Vec UInt8 16)):Option ((Int×(Vec UInt8 16))⊕((Vec UInt8 16)⊕((Vec UInt8 16)×Bool))):=
 bif (decide (x_7<x_4)) then ((idx s0.l x_7).bind fun x_10=>(Zey (⟨([48,49,50,51,52,53,54,55,56,57,97,98,99,100,101,102]:List UInt8)⟩:Txt) x_10).bind fun x_11=>bif (decide (x_11<(0:Int))) then (some (.inr (.inr ((Dat.z:(Vec UInt8 16)),false)))) else ((ZjS x_7 2).bind fun x_13=>(ZjS x_7 2).bind fun x_14=>(idx k_8.l x_14).bind fun x_15=>(idx k_8.l x_13).bind fun x_16=>(some ((Vec.set k_8 (Int.toNat x_13) ((shl8 x_15 ((UInt64.ofNat 4).toNat:Int)) ||| (UInt8.ofInt x_11))):(Vec UInt8 16))).bind fun k_17=>(Zas x_7 1).bind fun x_18=>some (.inl (x_18,k_17)))) else (some (.inr (.inl k_8)))
def ZkU (s0:Txt):Option ((Vec UInt8 16)×Bool):=
 (ZiR (s0.l.length:Int)).bind fun x_3=>bif (decide (x_3≠(32:Int))) then (some ((Dat.z:(Vec UInt8 16)),false)) else ((ZiR (s0.l.length:Int)).bind fun x_4=>(ZM (fun s=>Zj8 s0 x_4 s.1 s.2) ((0:Int),(Dat.z:(Vec UInt8 16)))).bind fun o_6=>elS o_6 (fun k_5=>some (k_5,true)) (fun q=>some q))
instance route_wide_c:Fd1 159 ZkU fun r=>Tup [D r.1,D r.2]:=en1 Tryz.func159 rfl Tryz.ntmps159 fun A w hA s0 r H=>by
 unfold ZkU at H;refine zg ?_;refine TS.alloc rfl fun b2_0=>zg ?_
 refine TS.alloc rfl fun b4_1=>zg ?_
 refine zn H fun _ ex_3 H=>?_
 refine zX (Za1 (Zbd ex_3.h) rfl) ?_;refine zc H (fun hc H=>?_) fun hc H=>?_
 ·refine zg ?_;refine TSx (Zdi (ps:=_) (Dat.z:(Vec UInt8 16)) rfl Tryz.underlying83 rfl) ?_;exact zY H
 ·refine zg ?_;refine zn H fun x_4 ex_4 H=>?_
  refine TSx (Zbd ex_4.h) ?_;refine zC ?_;refine zh H fun o_6 H6 H=>?_
  refine Zn (fun s:(Vec UInt8 16)=>o_6=.inl s) (fun (k_5:(Vec UInt8 16)) (_:Unit)=>(Env.set (Env.set Env.nil 2 (Pt b2_0 0)) 4 (Pt b4_1 0))) (fun (k_5:(Vec UInt8 16)) (_:Unit)=>[⟨b2_0,True,(One ((Dat.z:(Vec UInt8 16)):(Vec UInt8 16)))⟩,⟨b4_1,True,(One k_5)⟩]) ?_ ?_
  ·skip;refine Zp<|Zu H6 (fun ⟨x_7,k_8⟩ (_:Unit)=>(Env.set (Env.set (Env.set (Env.set (Env.set Env.nil 0 (D s0)) 2 (Pt b2_0 0)) 4 (Pt b4_1 0)) 12 (D x_4)) 13 (D x_7))) (fun ⟨x_7,k_8⟩ (_:Unit)=>[⟨b2_0,True,(One ((Dat.z:(Vec UInt8 16)):(Vec UInt8 16)))⟩,⟨b4_1,True,(One k_8)⟩]) () (Za (Za (Za (Za (Za (Zd _)))))) (Zc rfl (Zc rfl (Ze _))) ?_;rintro ⟨x_7,k_8⟩ ⟨⟩ x_9 H9 he9;dsimp only at H9;unfold Zj8 at H9;refine zg ?_;refine zc H9 (fun hc H9=>?_) fun hc H9=>?_
   ·refine zg ?_;refine zn H9 fun _ ex_10 H9=>?_
    refine TSx (ZeP ex_10.h) ?_;refine zb H9 fun x_11 _ H9=>?_
    refine zc H9 (fun hc H9=>?_) fun hc H9=>?_
    ·refine zg ?_;refine TSx (Zdi (ps:=_) (Dat.z:(Vec UInt8 16)) rfl Tryz.underlying83 rfl) ?_;refine zC ?_;refine ZL<|Zg<|Zf<|Zg<|Zg<|Zf<|Zs ?_;have R11:=ZaM (he9 _ (ZZs H9)) H;refine zg ?_;obtain rfl:=ZZi R11;exact ZeL rfl rfl (.cons Cv.le (.cons Cv.le .nil))
    ·refine zg ?_;refine zb H9 fun _ _ H9=>?_
     refine zb H9 fun _ _ H9=>?_
     refine zn H9 fun x_15 ex_15 H9=>?_
     refine TSx (Zay (ZI ex_15.h (Vec.h _).symm))<|TSx (ZaE (Zfj (α:=UInt8) Zx ex_15.h)) ?_;refine zX (Za1 (OpD.shl8 (Int.natCast_nonneg _)) rfl) ?_;refine TSx OpY.or8 ?_;refine zn H9 fun _ ex_16 H9=>?_
     refine TSx (Zay (ZI ex_16.h (Vec.h _).symm))<|Zbj (Zw (y:=(((shl8 x_15 ((UInt64.ofNat 4).toNat:Int)) ||| (UInt8.ofInt x_11)):UInt8)) (Zfj (α:=UInt8) Zx ex_16.h)) ?_;refine zE ?_;refine zn H9 fun k_17 ek_17 H9=>?_
     refine zX (Zaf b4_1 (Zah ek_17.h)) ?_;refine zb H9 fun x_18 _ H9=>?_
     exact Zq ⟨x_18,k_17⟩ () (ZZs H9) (Za (Za (Za (Za (Za (Zd _)))))) (Zc rfl (Zc rfl (Ze _)))
   ·refine zg ?_;exact Zj k_8 () (he9 _ (ZZs H9)).symm (Za (Za (Zd _))) (Zc rfl (Zc rfl (Ze _)))
  rintro k_5 ⟨⟩ hp;replace H:=ZbD hp H;exact zY H
def Zhz (s0:Txt):Option ((Vec UInt8 16)×Int×Int):=
 (ZiR (s0.l.length:Int)).bind fun x_2=>bif (decide (x_2>(60:Int))) then (some ((Dat.z:(Vec UInt8 16)),(0:Int),(3:Int))) else ((ZjA s0).bind fun r_3=>bif r_3.2 then (some (r_3.1,(32:Int),(0:Int))) else ((ZkU s0).bind fun r_5=>bif r_5.2 then (some (r_5.1,(128:Int),(0:Int))) else (some ((Dat.z:(Vec UInt8 16)),(0:Int),(2:Int)))))
instance route_ReadKey_c:Fd1 132 Zhz fun r=>Tup [D r.1,D r.2.1,D r.2.2]:=en1 Tryz.func132 rfl Tryz.ntmps132 fun A w hA s0 r H=>by
 unfold Zhz at H;refine zg ?_;refine TS.alloc rfl fun b2_0=>zg ?_
 refine zn H fun _ ex_2 H=>?_
 refine zX (Za1 (Zbd ex_2.h) rfl) ?_;refine zc H (fun hc H=>?_) fun hc H=>?_
 ·refine zg ?_;refine TSx (Zdi (ps:=_) (Dat.z:(Vec UInt8 16)) rfl Tryz.underlying83 rfl) ?_;exact zY H
 ·refine zg ?_;refine zb H fun _ _ H=>?_
  refine TS.alloc rfl fun b5_3=>zg ?_
  refine zc H (fun hc H=>?_) fun hc H=>?_
  ·exact zY H
  ·refine zg ?_;refine zb H fun _ _ H=>?_
   refine TS.alloc rfl fun b7_5=>zg ?_
   refine zc H (fun hc H=>?_) fun hc H=>?_
   ·exact zY H
   ·refine zg ?_;refine TSx (Zdi (ps:=_) (Dat.z:(Vec UInt8 16)) rfl Tryz.underlying83 rfl) ?_;exact zY H
def Ze9 (s0:Txt):Option (Prefix×Int):=
 (ZiR (s0.l.length:Int)).bind fun x_2=>bif (decide (x_2>(60:Int))) then ((some ((⟨0,0,Dat.z⟩:Prefix):Prefix)).bind fun k_3=>some (k_3,(3:Int))) else ((Zhw s0 (⟨([47]:List UInt8)⟩:Txt)).bind fun r_4=>bif (!r_4.2.2) then ((some ((⟨0,0,Dat.z⟩:Prefix):Prefix)).bind fun k_5=>some (k_5,(2:Int))) else ((Zhz r_4.1).bind fun r_6=>bif (decide (r_6.2.2≠(0:Int))) then ((some ((⟨0,0,Dat.z⟩:Prefix):Prefix)).bind fun k_8=>some (k_8,(2:Int))) else ((Ze0 r_4.2.1 r_6.2.1).bind fun r_9=>bif (!r_9.2) then ((some ((⟨0,0,Dat.z⟩:Prefix):Prefix)).bind fun k_10=>some (k_10,(2:Int))) else ((some ((⟨r_6.2.1,r_9.1,r_6.1⟩:Prefix):Prefix)).bind fun px_12=>(ZhH px_12).bind fun x_13=>bif (!x_13) then ((some ((⟨0,0,Dat.z⟩:Prefix):Prefix)).bind fun k_14=>some (k_14,(2:Int))) else (some (px_12,(0:Int)))))))
instance route_ReadPrefix_c:Fd1 90 Ze9 fun r=>Tup [D r.1,D r.2]:=en1 Tryz.func90 rfl Tryz.ntmps90 fun A w hA s0 r H=>by
 unfold Ze9 at H;refine zg ?_;refine TS.alloc rfl fun b2_0=>zg ?_
 refine zn H fun _ ex_2 H=>?_
 refine zX (Za1 (Zbd ex_2.h) rfl) ?_;refine zc H (fun hc H=>?_) fun hc H=>?_
 ·refine zg ?_;refine TSx (tB (⟨0,0,Dat.z⟩:Prefix) rfl rfl) ?_;exact zY H
 ·refine zg ?_;refine zb H fun _ _ H=>?_
  refine zc H (fun hc H=>?_) fun hc H=>?_
  ·refine zg ?_;refine TSx (tB (⟨0,0,Dat.z⟩:Prefix) rfl rfl) ?_;exact zY H
  ·refine zg ?_;refine zb H fun r_6 _ H=>?_
   refine TS.alloc rfl fun b7_6=>zg ?_
   refine zc H (fun hc H=>?_) fun hc H=>?_
   ·refine zg ?_;refine TSx (tB (⟨0,0,Dat.z⟩:Prefix) rfl rfl) ?_;exact zY H
   ·refine zg ?_;refine zb H fun r_9 _ H=>?_
    refine zc H (fun hc H=>?_) fun hc H=>?_
    ·refine zg ?_;refine TSx (tB (⟨0,0,Dat.z⟩:Prefix) rfl rfl) ?_;exact zY H
    ·refine zg ?_;refine TSx (tB (⟨r_6.2.1,r_9.1,r_6.1⟩:Prefix) rfl rfl) ?_;refine TS.alloc rfl fun b11_10=>?_
     refine zC ?_;refine zn H fun _ epx_12 H=>?_
     refine zX (ZB b11_10 (Zah epx_12.h)) ?_;refine zb H fun _ _ H=>?_
     refine zc H (fun hc H=>?_) fun hc H=>?_
     ·refine zg ?_;refine TSx (tB (⟨0,0,Dat.z⟩:Prefix) rfl rfl) ?_;exact zY H
     ·exact zY H
def ZgV (s0:Txt):Option (Route×Int):=
 (ZiR (s0.l.length:Int)).bind fun x_2=>bif (decide (x_2>(60:Int))) then ((some ((⟨Dat.z,0⟩:Route):Route)).bind fun k_3=>some (k_3,(3:Int))) else ((Zhw s0 (⟨([32]:List UInt8)⟩:Txt)).bind fun r_4=>bif (!r_4.2.2) then ((some ((⟨Dat.z,0⟩:Route):Route)).bind fun k_5=>some (k_5,(2:Int))) else ((Ze9 r_4.1).bind fun r_6=>bif (decide (r_6.2≠(0:Int))) then ((some ((⟨Dat.z,0⟩:Route):Route)).bind fun k_8=>some (k_8,(2:Int))) else ((Ze0 r_4.2.1 (65535:Int)).bind fun r_9=>bif (!r_9.2) then ((some ((⟨Dat.z,0⟩:Route):Route)).bind fun k_10=>some (k_10,(2:Int))) else ((some ((⟨r_6.1,(UInt16.ofInt r_9.1)⟩:Route):Route)).bind fun k_11=>some (k_11,(0:Int))))))
instance route_ReadLine_c:Fd1 39 ZgV fun r=>Tup [D r.1,D r.2]:=en1 Tryz.func39 rfl Tryz.ntmps39 fun A w hA s0 r H=>by
 unfold ZgV at H;refine zg ?_;refine TS.alloc rfl fun b2_0=>zg ?_
 refine zn H fun _ ex_2 H=>?_
 refine zX (Za1 (Zbd ex_2.h) rfl) ?_;refine zc H (fun hc H=>?_) fun hc H=>?_
 ·refine zg ?_;refine TSx (tB (⟨Dat.z,0⟩:Route) rfl rfl) ?_;exact zY H
 ·refine zg ?_;refine zb H fun _ _ H=>?_
  refine zc H (fun hc H=>?_) fun hc H=>?_
  ·refine zg ?_;refine TSx (tB (⟨Dat.z,0⟩:Route) rfl rfl) ?_;exact zY H
  ·refine zg ?_;refine zb H fun r_6 _ H=>?_
   refine TS.alloc rfl fun b7_6=>zg ?_
   refine zc H (fun hc H=>?_) fun hc H=>?_
   ·refine zg ?_;refine TSx (tB (⟨Dat.z,0⟩:Route) rfl rfl) ?_;exact zY H
   ·refine zg ?_;refine zb H fun r_9 _ H=>?_
    refine zc H (fun hc H=>?_) fun hc H=>?_
    ·refine zg ?_;refine TSx (tB (⟨Dat.z,0⟩:Route) rfl rfl) ?_;exact zY H
    ·refine zg ?_;refine TSx OpY.convi_16 ?_;refine TSx (tB (⟨r_6.1,(UInt16.ofInt r_9.1)⟩:Route) rfl rfl) ?_;exact zY H
end Go.Proofs.YtkmojgfenlgchaaGreatDoor.Tr
namespace Go.Proofs.YtkmojgfenlgchaaGreatDoor.Tr
open Go Go.RowKit
set_option maxRecDepth 100000
set_option synthInstance.maxHeartbeats 400000
set_option synthInstance.maxSize 4096
def Zf2 (ids0:Int) (room0:Int):Option Int:=
 bif ((((decide (ids0<(1:Int)))||(decide (ids0>(64:Int))))||(decide (room0<(20:Int))))||(decide (room0>(240:Int)))) then (some (0:Int)) else ((ZjS room0 20).bind fun x_1=>(mulI ids0 x_1).bind fun x_2=>some (min x_2 (256:Int)))
instance pack_Most_c:Fd2 58 Zf2 fun r=>D r:=en2 Tryz.func58 rfl Tryz.ntmps58 fun _ _ _ _ _ _ H=>by
 unfold Zf2 at H;exact zY H
def Zg9 (b0x:(List UInt8)) (r0:Route):Option (List UInt8):=
 (bif (decide (r0.Prefix.Bits=(128:Int))) then ((idx (Dat.z:(Vec UInt8 20)).l (0:Int)).bind fun x_5=>(some ((Vec.set (Dat.z:(Vec UInt8 20)) (Int.toNat (0:Int)) (UInt8.ofNat 1)):(Vec UInt8 20))).bind fun part_6=>some part_6) else (some (Dat.z:(Vec UInt8 20)))).bind fun part_3=>(idx part_3.l 1).bind fun x_7=>(some ((Vec.set part_3 (Int.toNat (1:Int)) (UInt8.ofInt r0.Prefix.Len)):(Vec UInt8 20))).bind fun part_8=>(cut 20 (2:Int) (20:Int)).bind fun u_9=>(cut 16 0 (16:Int)).bind fun u_10=>(some ((Vec.put part_8 (Int.toNat (2:Int)) (over ((part_8.l.drop (Int.toNat (2:Int))).take (((20:Int)-(2:Int)).toNat)) ((r0.Prefix.Key.l.drop (Int.toNat 0)).take (((16:Int)-0).toNat)))):(Vec UInt8 20))).bind fun part_11=>(idx part_11.l 18).bind fun x_12=>(some ((Vec.set part_11 (Int.toNat (18:Int)) ((shr16 r0.Hop ((UInt64.ofNat 8).toNat:Int)).toUInt8)):(Vec UInt8 20))).bind fun part_13=>(idx part_13.l 19).bind fun x_14=>(some ((Vec.set part_13 (Int.toNat (19:Int)) (r0.Hop.toUInt8)):(Vec UInt8 20))).bind fun part_15=>(cut 20 0 (20:Int)).bind fun u_16=>(Zdv 1 ((b0x.length+((part_15.l.drop (Int.toNat 0)).take (((20:Int)-0).toNat)).length:Nat):Int)).bind fun u_18=>(some ((b0x++((part_15.l.drop (Int.toNat 0)).take (((20:Int)-0).toNat))):(List UInt8))).bind fun l_19=>some l_19
theorem Zmt {b0x:(List UInt8)} {r0:Route} {b0 c0:Nat} {p0:Prop} {r:(List UInt8)} (H:Zg9 b0x r0=some r):CO2 100 [⟨b0,p0,Row (b0x:List UInt8) c0⟩] (Sl b0 p0 0 b0x.length c0) (D r0) (fun g:Nat×Prop×Nat=>Sl g.1 g.2.1 0 (List.length r) g.2.2) fun g=>[⟨g.1,g.2.1,Row (r:List UInt8) g.2.2⟩]:=eO2 Tryz.func100 rfl Tryz.ntmps100 fun A w hA hO=>by
 unfold Zg9 at H;refine zg ?_;refine TS.box rfl fun b3_0=>zg ?_
 refine TS.alloc rfl fun b5_1=>?_
 refine zC ?_;refine Zau ?_;refine zh H fun o_4 H4 H=>?_
 refine Zn (fun s:(Vec UInt8 20)=>o_4=s) (fun (part_3:(Vec UInt8 20)) (_:Unit)=>(Env.set (Env.set (Env.set Env.nil 0 (Sl b0 p0 0 b0x.length c0)) 3 (Pt b3_0 0)) 5 (Pt b5_1 0))) (fun (part_3:(Vec UInt8 20)) (_:Unit)=>[⟨b0,p0,(Row (b0x:List UInt8) c0)⟩,⟨b3_0,True,(One r0)⟩,⟨b5_1,True,(One part_3)⟩]) ?_ ?_
 ·skip;refine zg ?_;refine zc H4 (fun hc H4=>?_) fun hc H4=>?_
  ·refine zg ?_;refine zn H4 fun _ ex_5 H4=>?_
   refine TSx (Zay (ZI ex_5.h (Vec.h _).symm))<|Zbj (Zw (y:=((UInt8.ofNat 1):UInt8)) (Zfj (α:=UInt8) Zx ex_5.h)) ?_;refine zE ?_;refine zn H4 fun part_6 epart_6 H4=>?_
   exact Zaf b5_1 (Zah epart_6.h)<|Zj part_6 () (ZZs H4) (Za (Za (Zk (ZC rfl) (Zd _)))) (Zc rfl (Zc rfl (Zc rfl (Ze _))))
  ·refine zg ?_;exact Zj (Dat.z:(Vec UInt8 20)) () (ZZs H4) (Za (Za (Zk (ZC rfl) (Zd _)))) (Zc rfl (Zc rfl (Zc rfl (Ze _))))
 rintro part_3 ⟨⟩ hp;replace hp:=hp.symm;subst hp;refine zg ?_;refine zn H fun _ ex_7 H=>?_
 refine TSx (Zay (ZI ex_7.h (Vec.h _).symm))<|Zbj (Zw (y:=((UInt8.ofInt r0.Prefix.Len):UInt8)) (Zfj (α:=UInt8) Zx ex_7.h)) ?_;refine zC ?_;refine zn H fun _ epart_8 H=>?_
 refine ZB b5_1 (Zah epart_8.h)<|ZaW [4] [b5_1,b3_0] mix (by kernel_rfl) (by kernel_rfl) ?_;refine zn H fun _ eu_9 H=>?_
 refine zX (Zeq (Zdh (ZT eu_9.h).1 (ZT eu_9.h).2.1 (ZT eu_9.h).2.2 (by decide)) rfl) ?_;refine zn H fun _ eu_10 H=>?_
 refine TRx (Zdh (ZT eu_10.h).1 (ZT eu_10.h).2.1 (ZT eu_10.h).2.2 (by decide))<|Zfi (fun g=>(ZcO (ys:=((r0.Prefix.Key.l.drop (Int.toNat 0)).take (((16:Int)-0).toNat))) (Zky (ZiD (PF 2 Prefix (Vec UInt8 16) (PF 0 Route Prefix Zx)) (Zh3 eu_10.h) (by decide)) (Zg0 eu_10.h (Vec.h _))) (ZiD Zx (Zh3 eu_9.h) (by decide)) (Zg0 eu_9.h (Vec.h _)) (fun _ h=>by simp [h,splice,ZeK]))) rfl ?_;refine zC ?_;rintro ⟨_,_⟩;dsimp only [Fam.nextS,Fam.nextN,Fam.one,List.cons_append,List.nil_append];refine zn H fun _ epart_11 H=>?_
 refine zX (ZB b5_1 (Zah epart_11.h)) ?_;refine TSx (OpD.shr16 (Int.natCast_nonneg _))<|TSx ZlB ?_;refine zn H fun _ ex_12 H=>?_
 refine TSx (Zay (ZI ex_12.h (Vec.h _).symm))<|Zbj (Zw (y:=(((shr16 r0.Hop ((UInt64.ofNat 8).toNat:Int)).toUInt8):UInt8)) (Zfj (α:=UInt8) Zx ex_12.h)) ?_;refine zC ?_;refine zn H fun _ epart_13 H=>?_
 refine zX (ZB b5_1 (Zah epart_13.h)) ?_;refine TSx ZlB ?_;refine zn H fun _ ex_14 H=>?_
 refine TSx (Zay (ZI ex_14.h (Vec.h _).symm))<|Zbj (Zw (y:=((r0.Hop.toUInt8):UInt8)) (Zfj (α:=UInt8) Zx ex_14.h)) ?_;refine zC ?_;refine zn H fun part_15 epart_15 H=>?_
 refine zX (ZB b5_1 (Zah epart_15.h)) ?_;refine zn H fun _ eu_16 H=>?_
 refine TSx (Zdh (ZT eu_16.h).1 (ZT eu_16.h).2.1 (ZT eu_16.h).2.2 (by decide)) ?_;refine zn H fun _ eu_18 H=>?_
 refine TS.app (ys:=((part_15.l.drop (Int.toNat 0)).take (((20:Int)-0).toNat))) (Zky (ZiD Zx (Zh3 eu_16.h) (by decide)) (Zg0 eu_16.h (Vec.h _))) eu_18.h rfl rfl rfl fun b32_16 p32_16 c32_16=>?_
 refine zC ?_;refine zn H fun _ el_19 H=>?_
 refine ZB b32_16 (Zac el_19.h) ?_;refine zX (Zcg 4 _ (ZaP el_19.h rfl)) ?_;obtain rfl:=ZZi H;exact ZA rfl ⟨b32_16,p32_16,c32_16⟩ (ZC rfl) (Zc rfl (Ze _))
def ZdB (t0:List Route) (room0:Int) (x_8:Int) (L:Int) (bodies:List (List UInt8)) (ys:List UInt8):Option ((Int×Int×List (List UInt8)×List UInt8)⊕List (List UInt8)):=
 (idx bodies L).bind fun _=>bif (decide (x_8<(t0.length:Int))) then ((idx t0 x_8).bind fun x_11=>(ZjS room0 20).bind fun x_13=>(ZjS x_8 x_13).bind fun x_14=>
  (idx bodies x_14).bind fun _=>bif (decide (x_14=L)) then ((Zg9 ys x_11).bind fun x_16=>(Zas x_8 1).bind fun x_19=>some (.inl (x_19,L,bodies,x_16)))
  else ((lenI x_14.toNat (L.toNat+1)).bind fun _=>(Zg9 [] x_11).bind fun x_16=>(Zas x_8 1).bind fun x_19=>some (.inl (x_19,x_14,bodies.set L.toNat ys,x_16))))
 else (some (.inr (bodies.set L.toNat ys)))
def Zf3 (t0:(List Route)) (ids0:Int) (room0:Int):Option ((List (List UInt8))×Int):=
 (Zf2 ids0 room0).bind fun x_1=>(gb (!(decide (x_1=(0:Int)))) (ZcG t0)).bind fun x_2=>bif ((decide (x_1=(0:Int)))||(!x_2)) then (some (([]:List (List UInt8)),(1:Int))) else (bif (decide ((t0.length:Int)>x_1)) then (some (([]:List (List UInt8)),(5:Int))) else ((Zdv 24 ids0).bind fun u_3=>(some ((List.replicate (Int.toNat ids0) ([]:List UInt8)):(List (List UInt8)))).bind fun l_5=>(idx l_5 0).bind fun _=>(ZM (fun s=>ZdB t0 room0 s.1 s.2.1 s.2.2.1 s.2.2.2) ((0:Int),(0:Int),l_5,([]:List UInt8))).bind fun bodies_6=>some (bodies_6,(0:Int))))
instance pack_Bodies_c:Fd3 53 Zf3 fun r=>Tup [D r.1,D r.2]:=en3 Tryz.func53 rfl Tryz.ntmps53 fun A w hA t0 ids0 room0 r H=>by
 unfold Zf3 at H;refine zg ?_;refine zb H fun _ _ H=>?_
 refine zd H fun _ _ H=>?_
 refine zc H (fun hc H=>?_) fun hc H=>?_
 ·exact zY H
 ·refine zg ?_;refine zc H (fun hc H=>?_) fun hc H=>?_
  ·exact zY H
  ·refine zg ?_;refine zn H fun _ eu_3 H=>?_
   refine Zdw (OpT.makeB eu_3.h) rfl fun ⟨b28_3,_⟩=>?_
   dsimp only;refine zC ?_;refine zn H fun l_5 el_5 H=>?_
   refine zn H fun _ eu_4 H=>?_
   have hl5:l_5.length=Int.toNat ids0:=by rw [← ZZi el_5.h];simp
   have hlp:0<l_5.length:=by have:=(Zil eu_4.h).2;omega
   refine ZB b28_3 (C':=RowB l_5 (Int.toNat ids0) 0) (by rw [← ZZi el_5.h])<|Zcg 9 (Sl b28_3 True 0 l_5.length (Int.toNat ids0)) (ZC hl5.symm)<|TC.reL b28_3 (fun A w cs h=>RowB.first hlp h)<|TC.nilE 0 UInt8 ?_;refine zC ?_;refine zh H fun o_7 H7 H=>?_
   refine Zn (fun s:(List (List UInt8))=>o_7=s) (fun (bodies_6:(List (List UInt8))) (_:Unit)=>(Env.set Env.nil 9 (Sl b28_3 True 0 bodies_6.length (Int.toNat ids0)))) (fun (bodies_6:(List (List UInt8))) (_:Unit)=>[⟨b28_3,True,(Row (bodies_6:List (List UInt8)) (Int.toNat ids0))⟩]) ?_ ?_
   ·skip;refine Zp<|Zu H7 (fun ⟨x_8,L,bodies,ys⟩ (⟨bq,pq,cq⟩:Nat×Prop×Nat)=>(Env.set (Env.set (Env.set (Env.set (Env.set Env.nil 2 (D room0)) 9 (Sl b28_3 True 0 bodies.length (Int.toNat ids0))) 29 (D t0)) 30 (D ((t0.length:Int):Int))) 31 (D x_8))) (fun ⟨x_8,L,bodies,ys⟩ (⟨bq,pq,cq⟩:Nat×Prop×Nat)=>[⟨b28_3,True,Ct.mix (RowB bodies (Int.toNat ids0) (L.toNat+1)) (0+Int.toNat L*Dat.sz (List UInt8)) (Sl bq pq 0 ys.length cq)⟩,⟨bq,pq,Row ys cq⟩]) ⟨0,False,0⟩ (Za (Za (Za (Zk (ZC rfl) (Za (Zd _)))))) (Zc rfl (Zc rfl (Ze _))) ?_;rintro ⟨x_8,L,bodies,ys⟩ ⟨bq,pq,cq⟩ x_10 H10 he10;dsimp only at H10;unfold ZdB at H10;refine zn H10 fun _ ey_1 H10=>?_
    have hL:=Zil ey_1.h;have hL2:L.toNat<bodies.length:=by omega
    refine zg ?_;refine zc H10 (fun hc H10=>?_) fun hc H10=>?_
    ·refine zg ?_;refine zb H10 fun _ _ H10=>?_
     refine TS.alloc rfl fun b11_11=>zg ?_
     refine zb H10 fun _ _ H10=>?_
     refine zb H10 fun x_14 _ H10=>?_
     refine zn H10 fun _ ey_2 H10=>?_
     have hx:=Zil ey_2.h
     by_cases hid:x_14=L
     ·rw [decide_eq_true hid] at H10;replace H10:=cT H10 rfl;subst hid;refine zX (Zff [5,7,9] [b28_3,bq] mix (by kernel_rfl) (by kernel_rfl)) ?_;refine TRx (Zm (ZI ey_2.h rfl)) ?_;refine zX (Zfi (fun g=>Zgo rfl (ZS Zaa)) rfl) ?_;refine zn H10 fun x_16 ex_16 H10=>?_
      refine Zfi (fun g=>oc2 [bq] (Zmt ex_16.h) (slD rfl) toD) rfl<|TRx (Zm (ZI ey_2.h rfl))<|Zdg (fun g=>Zbc CtH.same) rfl ?_;refine zC ?_;rintro ⟨⟨⟨_,_⟩,⟨b47,p47,c47⟩⟩,_⟩;dsimp only [Fam.nextS,Fam.nextN,Fam.one,List.cons_append,List.nil_append];refine zg ?_;refine zb H10 fun x_19 _ H10=>?_
      exact Zq ⟨x_19,x_14,bodies,x_16⟩ ⟨b47,p47,c47⟩ (ZZs H10) (Za (Za (Za (Zk (ZC rfl) (Za (Zd _)))))) (Zc rfl (Zc rfl (Ze _)))
     ·rw [decide_eq_false hid] at H10;replace H10:=cF H10 rfl;refine zn H10 fun _ eu_5 H10=>?_
      have hnx:=Zfb eu_5.h;refine TC.coll b28_3 bq (RowB.st (by omega) hL2) (ZG PlS.all rfl) ?_;have hsl:(bodies.set L.toNat ys).length=bodies.length:=by simp
      refine TC.nilE 0 UInt8 ?_;refine zX (Zff [5,7,9] [b28_3,0] mix (by kernel_rfl) (by kernel_rfl)) ?_;refine TRx (Zm (ZI ey_2.h rfl)) ?_;refine zX (Zfi (fun g=>Zgo rfl (ZS (RowB.ce (by omega) (by omega)))) rfl) ?_;refine zn H10 fun x_16 ex_16 H10=>?_
      refine Zfi (fun g=>OpT.callO2 [0] fun w v0 v1 hA hO hap hks h0 h1=>Zmt ex_16.h w v0 v1 hA hO hap hks (slD rfl (ZcV _ _ _ h0)) (toD h1)) rfl<|TRx (Zm (ZI ey_2.h rfl))<|Zdg (fun g=>Zbc (RowB.mixed (m':=x_14.toNat+1) (by omega) (by omega))) rfl ?_;refine zC ?_;rintro ⟨⟨⟨_,_⟩,⟨b47,p47,c47⟩⟩,_⟩;dsimp only [Fam.nextS,Fam.nextN,Fam.one,List.cons_append,List.nil_append];refine zg ?_;refine zb H10 fun x_19 _ H10=>?_
      exact Zq ⟨x_19,x_14,bodies.set L.toNat ys,x_16⟩ ⟨b47,p47,c47⟩ (ZZs H10) (Za (Za (Za (Zk (ZC hsl.symm) (Za (Zd _)))))) (Zc rfl (Zc rfl (Ze _)))
    ·refine TC.exit<|ZiA<|ZiA<|ZiB<|TE.coll b28_3 bq (RowB.st (by omega) hL2) (ZG PlS.all rfl) ?_;have hsl:(bodies.set L.toNat ys).length=bodies.length:=by simp
     exact Zj (bodies.set L.toNat ys) () (he10 _ (ZZs H10)).symm (Zk (ZC hsl.symm) (Zd _)) (Zhq (fun A w cs (h:(RowB (bodies.set L.toNat ys) (Int.toNat ids0) (L.toNat+1)).p A w cs)=>h.1) (Ze _))
   rintro bodies_6 ⟨⟩ hp;replace hp:=hp.symm;subst hp;refine zC ?_;refine ZL<|TE.pub b28_3 (PubE.set 6 (ZG PlS.all rfl) PubE.refl) ?_;exact zY H
def Zg8 (b0:(List UInt8)):Option (Route×Bool):=
 ((idx b0 0).bind fun x_5=>bif (decide (x_5=(UInt8.ofNat 0))) then ((some ((⟨(⟨(32:Int),((Dat.z:Route).Prefix).Len,((Dat.z:Route).Prefix).Key⟩:Prefix),(Dat.z:Route).Hop⟩:Route):Route)).bind fun r_6=>some (.inl r_6)) else (bif (decide (x_5=(UInt8.ofNat 1))) then ((some ((⟨(⟨(128:Int),((Dat.z:Route).Prefix).Len,((Dat.z:Route).Prefix).Key⟩:Prefix),(Dat.z:Route).Hop⟩:Route):Route)).bind fun r_7=>some (.inl r_7)) else ((some ((⟨Dat.z,0⟩:Route):Route)).bind fun k_8=>some (.inr (k_8,false))))).bind fun o_4=>elS o_4 (fun r_3=>(idx b0 1).bind fun x_10=>(some ((⟨(⟨r_3.Prefix.Bits,(x_10.toNat:Int),r_3.Prefix.Key⟩:Prefix),r_3.Hop⟩:Route):Route)).bind fun r_11=>(cut 16 0 (16:Int)).bind fun u_12=>(cut b0.length (2:Int) (18:Int)).bind fun u_13=>(some ((⟨(⟨r_11.Prefix.Bits,r_11.Prefix.Len,(Vec.put r_11.Prefix.Key (Int.toNat 0) (over ((r_11.Prefix.Key.l.drop (Int.toNat 0)).take (((16:Int)-0).toNat)) ((b0.take (Int.toNat (18:Int))).drop (Int.toNat (2:Int)))))⟩:Prefix),r_11.Hop⟩:Route):Route)).bind fun r_14=>(idx b0 18).bind fun x_15=>(idx b0 19).bind fun x_16=>(some ((⟨r_14.Prefix,((shl16 (x_15.toUInt16) ((UInt64.ofNat 8).toNat:Int)) ||| (x_16.toUInt16))⟩:Route):Route)).bind fun r_17=>some (r_17,true)) (fun q=>some q)
instance pack_route_c:Fd1 135 Zg8 fun r=>Tup [D r.1,D r.2]:=en1 Tryz.func135 rfl Tryz.ntmps135 fun A w hA b0 r H=>by
 unfold Zg8 at H;refine zg ?_;refine TS.alloc rfl fun b2_0=>zg ?_
 refine TS.alloc rfl fun b4_1=>?_
 refine zC ?_;refine Zau ?_;refine zh H fun o_4 H4 H=>?_
 refine Zn (fun s:Route=>o_4=.inl s) (fun (r_3:Route) (_:Unit)=>(Env.set (Env.set (Env.set Env.nil 0 (D b0)) 2 (Pt b2_0 0)) 4 (Pt b4_1 0))) (fun (r_3:Route) (_:Unit)=>[⟨b2_0,True,(One ((Dat.z:Route):Route))⟩,⟨b4_1,True,(One r_3)⟩]) ?_ ?_
 ·skip;refine zg ?_;refine zb H4 fun _ _ H4=>?_
  refine zX (Za1 OpY.eql8 rfl) ?_;refine zc H4 (fun hc H4=>?_) fun hc H4=>?_
  ·refine zE ?_;refine zn H4 fun r_6 er_6 H4=>?_
   refine zX (Zaf b4_1 (Zah er_6.h)) ?_;exact Zj r_6 () (ZZs H4) (Za (Za (Za (Zd _)))) (Zc rfl (Zc rfl (Ze _)))
  ·refine zg ?_;refine zX (Za1 OpY.eql8 rfl) ?_;refine zc H4 (fun hc H4=>?_) fun hc H4=>?_
   ·refine zE ?_;refine zn H4 fun r_7 er_7 H4=>?_
    refine zX (Zaf b4_1 (Zah er_7.h)) ?_;exact Zj r_7 () (ZZs H4) (Za (Za (Za (Zd _)))) (Zc rfl (Zc rfl (Ze _)))
   ·refine zg ?_;refine TSx (tB (⟨Dat.z,0⟩:Route) rfl rfl) ?_;refine zC ?_;refine zn H4 fun _ ek_8 H4=>?_
    refine ZB b2_0 (Zah ek_8.h)<|ZL<|Zf<|Zs ?_;have R8:=ZaM (ZZi H4) H;refine zg ?_;obtain rfl:=ZZi R8;exact ZeL rfl rfl (.cons Cv.le (.cons Cv.le .nil))
 rintro r_3 ⟨⟩ hp;replace H:=ZbD hp H;refine zg ?_;refine zo H fun _ _ H=>?_
 refine zC ?_;refine zn H fun _ er_11 H=>?_
 refine ZB b4_1 (Zah er_11.h) ?_;refine zX (ZaW [5] [b4_1] mix (by kernel_rfl) (by kernel_rfl)) ?_;refine zn H fun _ eu_12 H=>?_
 refine zX (Zeq (Zdh (ZT eu_12.h).1 (ZT eu_12.h).2.1 (ZT eu_12.h).2.2 (by decide)) rfl) ?_;refine zb H fun _ _ H=>?_
 refine Zfi (fun g=>(ZcO (ys:=((b0.take (Int.toNat (18:Int))).drop (Int.toNat (2:Int)))) inferInstance (ZiD (PF 2 Prefix (Vec UInt8 16) (PF 0 Route Prefix Zx)) (Zh3 eu_12.h) (by decide)) (Zg0 eu_12.h (Vec.h _)) (fun _ h=>by simp [h,splice,ZeK]))) rfl ?_;refine zC ?_;rintro ⟨_,_⟩;dsimp only [Fam.nextS,Fam.nextN,Fam.one,List.cons_append,List.nil_append];refine zn H fun _ er_14 H=>?_
 refine ZB b4_1 (Zah er_14.h) ?_;refine zX (ZaW [11] [b4_1] mix (by kernel_rfl) (by kernel_rfl)) ?_;refine zb H fun x_15 _ H=>?_
 refine TRx ZlA ?_;refine zX (Zeq (OpD.shl16 (Int.natCast_nonneg _)) rfl) ?_;refine zb H fun x_16 _ H=>?_
 refine TRx ZlA ?_;refine zX (Zeq OpY.or16 rfl) ?_;refine Zdg (fun g=>(Zw (y:=(((shl16 (x_15.toUInt16) ((UInt64.ofNat 8).toNat:Int)) ||| (x_16.toUInt16)):UInt16)) (PF 18 Route UInt16 Zx))) rfl ?_;refine zC ?_;rintro ⟨_,_⟩;dsimp only [Fam.nextS,Fam.nextN,Fam.one,List.cons_append,List.nil_append];exact zY H
def ZdZ (bx_14:(List UInt8)) (t_16:(List Route)):Option (((List UInt8)×(List Route))⊕((List Route)⊕((List Route)×Int))):=
 bif (decide ((bx_14.length:Int)>(0:Int))) then ((cut bx_14.length 0 (20:Int)).bind fun u_18=>(Zg8 (bx_14.take (Int.toNat (20:Int)))).bind fun r_19=>bif (!r_19.2) then (some (.inr (.inr (([]:List Route),(2:Int))))) else ((Zdv 40 ((t_16.length+([r_19.1]:List Route).length:Nat):Int)).bind fun u_24=>(some ((t_16++([r_19.1]:List Route)):(List Route))).bind fun l_25=>(cut bx_14.length (20:Int) bx_14.length).bind fun u_26=>(some ((bx_14.drop (Int.toNat (20:Int))):(List UInt8))).bind fun bx_27=>some (.inl (bx_27,l_25)))) else (some (.inr (.inl t_16)))
def Zd0 (bodies0:(List (List UInt8))) (x_4:Int) (t_6:(List Route)):Option ((Int×(List Route))⊕((List Route)⊕((List Route)×Int))):=
 bif (decide (x_4<(bodies0.length:Int))) then ((idx bodies0 x_4).bind fun x_8=>(remI (x_8.length:Int) (20:Int)).bind fun x_9=>bif (decide (x_9≠(0:Int))) then (some (.inr (.inr (([]:List Route),(2:Int))))) else ((ZM (fun s=>ZdZ s.1 s.2) (x_8,t_6)).bind fun o_13=>elS o_13 (fun t_12=>(Zas x_4 1).bind fun x_28=>some (.inl (x_28,t_12))) (fun q=>some (.inr (.inr q))))) else (some (.inr (.inl t_6)))
def ZdP (bodies0:(List (List UInt8))):Option ((List Route)×Int):=
 (ZM (fun s=>Zd0 bodies0 s.1 s.2) ((0:Int),[])).bind fun o_3=>elS o_3 (fun t_2=>(ZcG t_2).bind fun x_29=>bif (!x_29) then (some (([]:List Route),(2:Int))) else (some (t_2,(0:Int)))) (fun q=>some q)
instance pack_Table_c:Fd1 106 ZdP fun r=>Tup [D r.1,D r.2]:=en1 Tryz.func106 rfl Tryz.ntmps106 fun A w hA bodies0 r H=>by
 unfold ZdP at H;refine zC ?_;refine zC ?_;refine zC ?_;refine zh H fun o_3 H3 H=>?_
 refine Zn (fun s:(List Route)=>o_3=.inl s) (fun (t_2:(List Route)) (⟨b_0,p_0,c_0⟩:Nat×Prop×Nat)=>(Env.set Env.nil 4 (Sl b_0 p_0 0 t_2.length c_0))) (fun (t_2:(List Route)) (⟨b_0,p_0,c_0⟩:Nat×Prop×Nat)=>[⟨b_0,p_0,(Row (t_2:List Route) c_0)⟩]) ?_ ?_
 ·skip;refine Zp<|Zu H3 (fun ⟨x_4,t_6⟩ (⟨b_4,p_4,c_4⟩:Nat×Prop×Nat)=>(Env.set (Env.set (Env.set (Env.set Env.nil 4 (Sl b_4 p_4 0 t_6.length c_4)) 9 (D bodies0)) 10 (D ((bodies0.length:Int):Int))) 11 (D x_4))) (fun ⟨x_4,t_6⟩ (⟨b_4,p_4,c_4⟩:Nat×Prop×Nat)=>[⟨b_4,p_4,(Row (t_6:List Route) c_4)⟩]) ⟨0,False,0⟩ (Za (Za (Za (Zk ZcV (Zd _))))) (Zbq (Ze _)) ?_;rintro ⟨x_4,t_6⟩ ⟨b_4,p_4,c_4⟩ x_7 H7 he7;dsimp only at H7;unfold Zd0 at H7;refine zg ?_;refine zc H7 (fun hc H7=>?_) fun hc H7=>?_
  ·refine zg ?_;refine zb H7 fun _ _ H7=>?_
   refine zb H7 fun _ _ H7=>?_
   refine zc H7 (fun hc H7=>?_) fun hc H7=>?_
   ·refine zC ?_;refine ZL<|Zg<|Zf<|Zg<|Zg<|Zf<|Zs ?_;have R9:=ZaM (he7 _ (ZZs H7)) H;refine zg ?_;obtain rfl:=ZZi R9;exact ZeL rfl rfl (.cons Cv.le (.cons Cv.le .nil))
   ·refine Zaw<|Zan ?_;refine zh H7 fun o_13 H13 H7=>?_
    refine Zn (fun s:(List Route)=>o_13=.inl s) (fun (t_12:(List Route)) (⟨b_10,p_10,c_10⟩:Nat×Prop×Nat)=>(Env.set (Env.set (Env.set (Env.set Env.nil 4 (Sl b_10 p_10 0 t_12.length c_10)) 9 (D bodies0)) 10 (D ((bodies0.length:Int):Int))) 11 (D x_4))) (fun (t_12:(List Route)) (⟨b_10,p_10,c_10⟩:Nat×Prop×Nat)=>[⟨b_10,p_10,(Row (t_12:List Route) c_10)⟩]) ?_ ?_
    ·skip;refine Zp<|Zu H13 (fun ⟨bx_14,t_16⟩ (⟨b_14,p_14,c_14⟩:Nat×Prop×Nat)=>(Env.set (Env.set (Env.set (Env.set (Env.set Env.nil 4 (Sl b_14 p_14 0 t_16.length c_14)) 6 (D bx_14)) 9 (D bodies0)) 10 (D ((bodies0.length:Int):Int))) 11 (D x_4))) (fun ⟨bx_14,t_16⟩ (⟨b_14,p_14,c_14⟩:Nat×Prop×Nat)=>[⟨b_14,p_14,(Row (t_16:List Route) c_14)⟩]) ⟨b_4,p_4,c_4⟩ (Za (Za (Za (Za (Zk (ZC rfl) (Zd _)))))) (Zc rfl (Ze _)) ?_;rintro ⟨bx_14,t_16⟩ ⟨b_14,p_14,c_14⟩ x_17 H17 he17;dsimp only at H17;unfold ZdZ at H17;refine zg ?_;refine zc H17 (fun hc H17=>?_) fun hc H17=>?_
     ·refine zg ?_;refine zb H17 fun _ _ H17=>?_
      refine zb H17 fun r_19 _ H17=>?_
      refine TS.alloc rfl fun b7_19=>zg ?_
      refine zc H17 (fun hc H17=>?_) fun hc H17=>?_
      ·refine zC ?_;refine ZL<|Zg<|Zf<|Zg<|Zg<|Zf<|Zs ?_;have R20:=ZaM (he17 _ (ZZs H17)) H7;refine Zf<|Zg<|Zg<|Zf<|Zs ?_;have R21:=ZaM (he7 _ (ZZs R20)) H;refine zg ?_;obtain rfl:=ZZi R21;exact ZeL rfl rfl (.cons Cv.le (.cons Cv.le .nil))
      ·refine zg ?_;refine TSx (OpY.buildSlice [.tmp 33] rfl rfl (by decide)) ?_;refine zn H17 fun _ eu_24 H17=>?_
       refine TS.app (ys:=([r_19.1]:List Route)) inferInstance eu_24.h rfl rfl rfl fun b35_22 p35_22 c35_22=>?_
       refine zE ?_;refine zn H17 fun l_25 el_25 H17=>?_
       refine Zaf b35_22 (Zac el_25.h) ?_;refine zX (ZcF 4 _ (ZaP el_25.h rfl)) ?_;refine zo H17 fun _ _ H17=>?_
       refine zE ?_;refine zn H17 fun bx_27 ebx_27 H17=>?_
       exact ZcF 6 (D bx_27) (nm_cv ebx_27.h)<|Zq ⟨bx_27,l_25⟩ ⟨b35_22,p35_22,c35_22⟩ (ZZs H17) (Za (Za (Za (Za (Zk (ZC rfl) (Zd _)))))) (Zc rfl (Ze _))
     ·refine zg ?_;exact Zj t_16 ⟨b_14,p_14,c_14⟩ (he17 _ (ZZs H17)).symm (Za (Za (Za (Zk (ZC rfl) (Zd _))))) (Zc rfl (Ze _))
    rintro t_12 ⟨b_10,p_10,c_10⟩ hp;replace H7:=ZbD hp H7;refine zg ?_;refine zb H7 fun x_28 _ H7=>?_
    exact Zq ⟨x_28,t_12⟩ ⟨b_10,p_10,c_10⟩ (ZZs H7) (Za (Za (Za (Zk (ZC rfl) (Zd _))))) (Zc rfl (Ze _))
  ·refine zg ?_;exact Zj t_6 ⟨b_4,p_4,c_4⟩ (he7 _ (ZZs H7)).symm (Zk (ZC rfl) (Zd _)) (Zc rfl (Ze _))
 rintro t_2 ⟨b_0,p_0,c_0⟩ hp;replace H:=ZbD hp H;refine zg ?_;refine zn H fun _ ex_29 H=>?_
 refine zX (Za1 (ZfN [b_0] (ZiK PlS.all rfl (by simp)) fun w v0 hA h0=>table_Right_c.h w v0 hA (toD h0) ex_29.h) rfl) ?_;refine zc H (fun hc H=>?_) fun hc H=>?_
 ·exact zY H
 ·refine zC ?_;refine ZL<|TE.pub b_0 (PubE.set 2 (ZG PlS.all rfl) PubE.refl) ?_;exact zY H
def Zha (l0:(List (List UInt8))) (id0:Int):Option (List UInt8):=
 bif (decide (id0≥(l0.length:Int))) then (some ([]:List UInt8)) else ((idx l0 id0).bind fun x_1=>some x_1)
instance pack_body_c:Fd2 102 Zha fun r=>D r:=en2 Tryz.func102 rfl Tryz.ntmps102 fun _ _ _ _ _ _ H=>by
 unfold Zha at H;exact zY H
def ZhS (a0:(List UInt8)) (b0:(List UInt8)):Option Bool:=
 some (decide (a0=b0))
instance bytes_Equal_c:Fd2 103 ZhS fun r=>D r:=en2 Tryz.func103 rfl Tryz.ntmps103 fun A w hA a0 b0 r H=>by
 unfold ZhS at H;refine zg ?_;refine zX (Za1 Zch rfl) ?_;refine TSx Zch<|TSx ZeV ?_;exact zY H
def Zc1 (old0:(List (List UInt8))) (now0:(List (List UInt8))) (x_4:Int) (l_6:(List Item)):Option ((Int×(List Item))⊕(List Item)):=
 bif (decide (x_4<(max (old0.length:Int) (now0.length:Int)))) then (((Zha now0 x_4).bind fun x_11=>(Zha old0 x_4).bind fun x_12=>(ZhS x_12 x_11).bind fun x_13=>bif (!x_13) then ((ZdK x_11).bind fun x_14=>(Zdv 32 ((l_6.length+([(⟨x_4,x_14⟩:Item)]:List Item).length:Nat):Int)).bind fun u_16=>(some ((l_6++([(⟨x_4,x_14⟩:Item)]:List Item)):(List Item))).bind fun l_17=>some l_17) else (some l_6)).bind fun l_9=>(Zas x_4 1).bind fun x_18=>some (.inl (x_18,l_9))) else (some (.inr l_6))
def Ze1 (old0:(List (List UInt8))) (now0:(List (List UInt8))):Option (List Item):=
 (ZM (fun s=>Zc1 old0 now0 s.1 s.2) ((0:Int),[])).bind fun l_2=>some l_2
instance pack_Changed_c:Fd2 55 Ze1 fun r=>D r:=en2 Tryz.func55 rfl Tryz.ntmps55 fun A w hA old0 now0 r H=>by
 unfold Ze1 at H;refine zC ?_;refine zC ?_;refine zC ?_;refine zh H fun o_3 H3 H=>?_
 refine Zn (fun s:(List Item)=>o_3=s) (fun (l_2:(List Item)) (⟨b_0,p_0,c_0⟩:Nat×Prop×Nat)=>(Env.set Env.nil 5 (Sl b_0 p_0 0 l_2.length c_0))) (fun (l_2:(List Item)) (⟨b_0,p_0,c_0⟩:Nat×Prop×Nat)=>[⟨b_0,p_0,(Row (l_2:List Item) c_0)⟩]) ?_ ?_
 ·skip;refine Zp<|Zu H3 (fun ⟨x_4,l_6⟩ (⟨b_4,p_4,c_4⟩:Nat×Prop×Nat)=>(Env.set (Env.set (Env.set (Env.set (Env.set Env.nil 0 (D old0)) 1 (D now0)) 5 (Sl b_4 p_4 0 l_6.length c_4)) 12 (D ((max (old0.length:Int) (now0.length:Int)):Int))) 13 (D x_4))) (fun ⟨x_4,l_6⟩ (⟨b_4,p_4,c_4⟩:Nat×Prop×Nat)=>[⟨b_4,p_4,(Row (l_6:List Item) c_4)⟩]) ⟨0,False,0⟩ (Za (Za (Zk ZcV (Za (Za (Zd _)))))) (Zbq (Ze _)) ?_;rintro ⟨x_4,l_6⟩ ⟨b_4,p_4,c_4⟩ x_7 H7 he7;dsimp only at H7;unfold Zc1 at H7;refine zg ?_;refine zc H7 (fun hc H7=>?_) fun hc H7=>?_
  ·refine Zaw<|Zan<|Zau ?_;refine zh H7 fun o_10 H10 H7=>?_
   refine Zn (fun s:(List Item)=>o_10=s) (fun (l_9:(List Item)) (⟨b_7,p_7,c_7⟩:Nat×Prop×Nat)=>(Env.set (Env.set (Env.set (Env.set (Env.set Env.nil 0 (D old0)) 1 (D now0)) 5 (Sl b_7 p_7 0 l_9.length c_7)) 12 (D ((max (old0.length:Int) (now0.length:Int)):Int))) 13 (D x_4))) (fun (l_9:(List Item)) (⟨b_7,p_7,c_7⟩:Nat×Prop×Nat)=>[⟨b_7,p_7,(Row (l_9:List Item) c_7)⟩]) ?_ ?_
   ·skip;refine zg ?_;refine zb H10 fun _ _ H10=>?_
    refine zb H10 fun _ _ H10=>?_
    refine zb H10 fun _ _ H10=>?_
    refine zc H10 (fun hc H10=>?_) fun hc H10=>?_
    ·refine zg ?_;refine zb H10 fun x_14 _ H10=>?_
     refine TSx (tB (⟨x_4,x_14⟩:Item) rfl rfl) ?_;refine TSx (OpY.buildSlice [.tmp 29] rfl rfl (by decide)) ?_;refine zn H10 fun _ eu_16 H10=>?_
     refine TS.app (ys:=([(⟨x_4,x_14⟩:Item)]:List Item)) inferInstance eu_16.h rfl rfl rfl fun b31_14 p31_14 c31_14=>?_
     refine zE ?_;refine zn H10 fun l_17 el_17 H10=>?_
     refine Zaf b31_14 (Zac el_17.h) ?_;refine zX (ZcF 5 _ (ZaP el_17.h rfl)) ?_;exact Zj l_17 ⟨b31_14,p31_14,c31_14⟩ (ZZs H10) (Za (Za (Zk (ZC rfl) (Za (Za (Zd _)))))) (Zc rfl (Ze _))
    ·refine zg ?_;exact Zj l_6 ⟨b_4,p_4,c_4⟩ (ZZs H10) (Za (Za (Zk (ZC rfl) (Za (Za (Zd _)))))) (Zc rfl (Ze _))
   rintro l_9 ⟨b_7,p_7,c_7⟩ hp;replace hp:=hp.symm;subst hp;refine zg ?_;refine zb H7 fun x_18 _ H7=>?_
   exact Zq ⟨x_18,l_9⟩ ⟨b_7,p_7,c_7⟩ (ZZs H7) (Za (Za (Zk (ZC rfl) (Za (Za (Zd _)))))) (Zc rfl (Ze _))
  ·refine zg ?_;exact Zj l_6 ⟨b_4,p_4,c_4⟩ (he7 _ (ZZs H7)).symm (Zk (ZC rfl) (Zd _)) (Zc rfl (Ze _))
 rintro l_2 ⟨b_0,p_0,c_0⟩ hp;replace hp:=hp.symm;subst hp;refine zC ?_;refine ZL<|TE.pub b_0 (PubE.set 4 (ZG PlS.all rfl) PubE.refl) ?_;exact zY H
end Go.Proofs.YtkmojgfenlgchaaGreatDoor.Tr
namespace Go.Proofs.YtkmojgfenlgchaaGreatDoor.Tr
open Go Go.RowKit
set_option maxRecDepth 100000
set_option synthInstance.maxHeartbeats 400000
set_option synthInstance.maxSize 4096
def Zk3 (blocks0:Int) (pages0:Int) (size0:Int):Option Int:=
 (Zgb blocks0 pages0).bind fun x_1=>(ZjS x_1 2).bind fun x_2=>(ZfY size0).bind fun x_3=>some (min x_2 x_3)
instance fib_ids_c:Fd3 59 Zk3 fun r=>D r:=en3 Tryz.func59 rfl Tryz.ntmps59 fun _ _ _ _ _ _ _ H=>by
 unfold Zk3 at H;exact zY H
def Zkn (blocks0:Int) (pages0:Int) (size0:Int):Option Int:=
 (Zk3 blocks0 pages0 size0).bind fun x_1=>(Zc0 size0).bind fun x_2=>(Zf2 x_1 x_2).bind fun x_3=>some x_3
instance fib_Most_c:Fd3 17 Zkn fun r=>D r:=en3 Tryz.func17 rfl Tryz.ntmps17 fun _ _ _ _ _ _ _ H=>by
 unfold Zkn at H;exact zY H
def ZfI (c0:Chip):Option Int:=
 (Zkn (c0.Blocks.length:Int) c0.Pages c0.Size).bind fun x_2=>some x_2
instance fib_mostOf_c:Fd1 43 ZfI fun r=>D r:=en1 Tryz.func43 rfl Tryz.ntmps43 fun _ _ _ _ _ H=>by
 unfold ZfI at H;exact zY H
def ZbX (s0:(List (List UInt8))):Option (List (List UInt8)):=
 (Zdv 24 ((0+s0.length:Nat):Int)).bind fun _=>some s0
theorem Zi8 {s0:(List (List UInt8))} {r:(List (List UInt8))} (H:ZbX s0=some r):CO1 93 [] (D s0) (fun g:Nat×Prop×Nat=>Sl g.1 g.2.1 0 (List.length r) g.2.2) fun g=>[⟨g.1,g.2.1,Row (r:List (List UInt8)) g.2.2⟩]:=eO1 Tryz.func93 rfl Tryz.ntmps93 fun A w hA hO=>by
 unfold ZbX at H;refine zn H fun _ eu H=>?_
 obtain rfl:=ZZi H;refine zg ?_;refine TSx Zby ?_;refine zC ?_;refine ZfA (fun hc=>?_) (fun hc=>?_)
 ·obtain rfl:=hc rfl;refine zg ?_;exact ZA rfl ⟨0,False,0⟩ ZcV (Zbq (Ze _))
 ·refine zg ?_;refine TS.build [] rfl rfl (by decide) rfl fun b=>zg ?_
  refine TS.app (ys:=s0) inferInstance eu.h rfl rfl rfl fun b1 p1 c1=>zg ?_
  exact ZA rfl ⟨b1,p1,c1⟩ (ZC (by simp)) (Zc rfl (Ze _))
def Zcx (x_12:(List (List UInt8))) (x_16:Int) (l_17:(List (List UInt8))):Option ((Int×(List (List UInt8)))⊕(List (List UInt8))):=
 bif (decide (x_16<(x_12.length:Int))) then ((idx l_17 x_16).bind fun x_19=>(ZdK x_19).bind fun x_20=>(idx l_17 x_16).bind fun x_21=>(some ((l_17.set (Int.toNat x_16) x_20):(List (List UInt8)))).bind fun l_22=>(Zas x_16 1).bind fun x_23=>some (.inl (x_23,l_22))) else (some (.inr l_17))
def Zcy (x_3:(List Block)) (x_7:Int) (x_8:(List Block)):Option ((Int×(List Block))⊕(List Block)):=
 bif (decide (x_7<(x_3.length:Int))) then ((idx x_8 x_7).bind fun x_10=>(ZbX x_10.Pages).bind fun x_12=>(ZM (fun s=>Zcx x_12 s.1 s.2) ((0:Int),x_12)).bind fun l_14=>(idx x_8 x_7).bind fun x_24=>(Zas x_7 1).bind fun x_25=>some (.inl (x_25,(x_8.set (Int.toNat x_7) (⟨l_14,x_24.Used,x_24.Worn,x_24.Bad⟩:Block))))) else (some (.inr x_8))
def ZcM (c0:Chip):Option Chip:=
 (ZW c0.Blocks).bind fun x_3=>(ZM (fun s=>Zcy x_3 s.1 s.2) ((0:Int),x_3)).bind fun l_5=>(ZH c0.Faults).bind fun x_26=>(some ((⟨c0.Pages,c0.Size,c0.Blocks,c0.Ops,c0.Off,x_26⟩:Chip):Chip)).bind fun cx_27=>(some ((⟨cx_27.Pages,cx_27.Size,l_5,cx_27.Ops,cx_27.Off,cx_27.Faults⟩:Chip):Chip)).bind fun k_28=>some k_28
instance fib_copiedChip_c:Fd1 44 ZcM fun r=>D r:=en1 Tryz.func44 rfl Tryz.ntmps44 fun A w hA c0 r H=>by
 unfold ZcM at H;refine zg ?_;refine TS.box rfl fun b1_0=>?_
 refine TS.alloc rfl fun b2_1=>zg ?_
 refine zn H fun x_3 ex_3 H=>?_
 refine Zdw (oc1 [] (Zcs ex_3.h) toD) rfl fun ⟨b9_3,p9_3,c9_3⟩=>?_
 refine zw ?_;refine zX (Zbj (Zbc (CtH.new (by decide)))) ?_;refine TSx (ZS Zaa)<|TSx (Zax (n:=x_3.length) rfl) ?_;refine zC ?_;refine zh H fun o_6 H6 H=>?_
 refine Zn (fun s:(List Block)=>o_6=s) (fun (l_5:(List Block)) (_:Unit)=>(Env.set (Env.set Env.nil 1 (Pt b1_0 0)) 2 (Pt b2_1 0))) (fun (l_5:(List Block)) (_:Unit)=>[⟨b9_3,p9_3,(Row (l_5:List Block) c9_3)⟩,⟨b1_0,True,(Ct.mix (One c0) 2 (Sl b9_3 p9_3 0 l_5.length c9_3))⟩,⟨b2_1,True,(One ((Dat.z:Chip):Chip))⟩]) ?_ ?_
 ·skip;refine Zp<|Zu H6 (fun ⟨x_7,x_8⟩ (_:Unit)=>(Env.set (Env.set (Env.set (Env.set (Env.set Env.nil 1 (Pt b1_0 0)) 2 (Pt b2_1 0)) 12 (Sl b9_3 p9_3 0 x_8.length c9_3)) 13 (D ((x_3.length:Int):Int))) 14 (D x_7))) (fun ⟨x_7,x_8⟩ (_:Unit)=>[⟨b9_3,p9_3,(Row (x_8:List Block) c9_3)⟩,⟨b1_0,True,(Ct.mix (One c0) 2 (Sl b9_3 p9_3 0 x_8.length c9_3))⟩,⟨b2_1,True,(One ((Dat.z:Chip):Chip))⟩]) () (Za (Za (Zk (ZC rfl) (Za (Za (Zd _)))))) (Zc rfl (Zc rfl (Zc rfl (Ze _)))) ?_;rintro ⟨x_7,x_8⟩ ⟨⟩ x_9 H9 he9;dsimp only at H9;unfold Zcy at H9;refine zg ?_;refine zc H9 (fun hc H9=>?_) fun hc H9=>?_
  ·refine zg ?_;refine zn H9 fun _ ex_10 H9=>?_
   refine zX (Za1 (Zm (ZI ex_10.h rfl)) rfl) ?_;refine TS.alloc rfl fun b4_10=>zg ?_
   refine zn H9 fun x_12 ex_12 H9=>?_
   refine Zdw (oc1 [] (Zi8 ex_12.h) toD) rfl fun ⟨b21_12,p21_12,c21_12⟩=>?_
   refine zw ?_;refine TSx (Zax (n:=x_12.length) rfl) ?_;refine zC ?_;refine zh H9 fun o_15 H15 H9=>?_
   refine Zn (fun s:(List (List UInt8))=>o_15=s) (fun (l_14:(List (List UInt8))) (_:Unit)=>(Env.set (Env.set (Env.set (Env.set (Env.set (Env.set (Env.set Env.nil 1 (Pt b1_0 0)) 2 (Pt b2_1 0)) 3 (D x_7)) 5 (Sl b21_12 p21_12 0 l_14.length c21_12)) 12 (Sl b9_3 p9_3 0 x_8.length c9_3)) 13 (D ((x_3.length:Int):Int))) 14 (D x_7))) (fun (l_14:(List (List UInt8))) (_:Unit)=>[⟨b21_12,p21_12,(Row (l_14:List (List UInt8)) c21_12)⟩,⟨b9_3,p9_3,(Row (x_8:List Block) c9_3)⟩,⟨b1_0,True,(Ct.mix (One c0) 2 (Sl b9_3 p9_3 0 x_8.length c9_3))⟩,⟨b2_1,True,(One ((Dat.z:Chip):Chip))⟩]) ?_ ?_
   ·skip;refine Zp<|Zu H15 (fun ⟨x_16,l_17⟩ (_:Unit)=>(Env.set (Env.set (Env.set (Env.set (Env.set (Env.set (Env.set (Env.set (Env.set Env.nil 1 (Pt b1_0 0)) 2 (Pt b2_1 0)) 3 (D x_7)) 5 (Sl b21_12 p21_12 0 l_17.length c21_12)) 12 (Sl b9_3 p9_3 0 x_8.length c9_3)) 13 (D ((x_3.length:Int):Int))) 14 (D x_7)) 23 (D ((x_12.length:Int):Int))) 24 (D x_16))) (fun ⟨x_16,l_17⟩ (_:Unit)=>[⟨b21_12,p21_12,(Row (l_17:List (List UInt8)) c21_12)⟩,⟨b9_3,p9_3,(Row (x_8:List Block) c9_3)⟩,⟨b1_0,True,(Ct.mix (One c0) 2 (Sl b9_3 p9_3 0 x_8.length c9_3))⟩,⟨b2_1,True,(One ((Dat.z:Chip):Chip))⟩]) () (Za (Za (Za (Za (Zk (ZC rfl) (Zk (ZC rfl) (Za (Za (Za (Zd _)))))))))) (Zc rfl (Zc rfl (Zc rfl (Zc rfl (Ze _))))) ?_;rintro ⟨x_16,l_17⟩ ⟨⟩ x_18 H18 he18;dsimp only at H18;unfold Zcx at H18;refine zg ?_;refine zc H18 (fun hc H18=>?_) fun hc H18=>?_
    ·refine zg ?_;refine zn H18 fun _ ex_19 H18=>?_
     refine zX (Za1 (Zm (ZI ex_19.h rfl)) rfl) ?_;refine zb H18 fun _ _ H18=>?_
     refine zn H18 fun _ ex_21 H18=>?_
     refine TSx (Zm (ZI ex_21.h rfl)) ?_;refine zE ?_;refine zn H18 fun l_22 el_22 H18=>?_
     refine Zaf b21_12 (Zac el_22.h) ?_;refine zX (ZcF 5 _ (ZaP el_22.h (by simp))) ?_;refine zb H18 fun x_23 _ H18=>?_
     exact Zq ⟨x_23,l_22⟩ () (ZZs H18) (Za (Za (Za (Za (Zk (ZC rfl) (Zk (ZC rfl) (Za (Za (Za (Zd _)))))))))) (Zc rfl (Zc rfl (Zc rfl (Zc rfl (Ze _)))))
    ·refine zg ?_;exact Zj l_17 () (he18 _ (ZZs H18)).symm (Za (Za (Zk (ZC rfl) (Zk (ZC rfl) (Za (Za (Za (Zd _)))))))) (Zc rfl (Zc rfl (Zc rfl (Zc rfl (Ze _)))))
   rintro l_14 ⟨⟩ hp;replace hp:=hp.symm;subst hp;refine zg ?_;refine zX (Za1 (ZS Zaa) rfl) ?_;refine zn H9 fun x_24 ex_24 H9=>?_
   refine zX (Za1 (Zm (ZI ex_24.h rfl)) rfl) ?_;refine zX (Zbj (Zbc (ZkE ex_24.h (off:=0) (by omega) (by decide)))) ?_;refine zo H9 fun x_25 _ H9=>?_
   refine zE ?_;refine TE.coll b9_3 b21_12 (o:=((0+Int.toNat x_7*Dat.sz Block)+0)) (((PF 0 Block (List (List UInt8)) (ZaC ex_24.h))).st (l_14:List (List UInt8))) (ZG PlS.all rfl) ?_;exact Zaf b1_0 (Zft (m:=x_8.length) (n:=(x_8.set (Int.toNat x_7) (⟨l_14,x_24.Used,x_24.Worn,x_24.Bad⟩:Block)).length) (by simp))<|Zq ⟨x_25,(x_8.set (Int.toNat x_7) (⟨l_14,x_24.Used,x_24.Worn,x_24.Bad⟩:Block))⟩ () (ZZs H9) (Za (Za (Zk (ZC (by simp)) (Za (Za (Zd _)))))) (Zc rfl (Zc rfl (Zc rfl (Ze _))))
  ·refine zg ?_;exact Zj x_8 () (he9 _ (ZZs H9)).symm (Za (Za (Zd _))) (Zc rfl (Zc rfl (Zc rfl (Ze _))))
 rintro l_5 ⟨⟩ hp;replace hp:=hp.symm;subst hp;refine zg ?_;refine TSx (ZaE (Pl.mix (PF 5 Chip (List Fault) Zx) (by first | decide | omega))) ?_;refine zb H fun x_26 _ H=>?_
 refine Zbj (Zw (y:=(x_26:(List Fault))) (Pl.mix (PF 5 Chip (List Fault) Zx) (by first | decide | omega))) ?_;refine zC ?_;refine zn H fun _ ecx_27 H=>?_
 refine zX (ZB b1_0 (Zc2 (Zah ecx_27.h))) ?_;refine TS.coll b1_0 b9_3 (o:=2) (((PF 2 Chip (List Block) Zx)).st (l_5:List Block)) (ZG PlS.all rfl) ?_;exact zY H
def Zgd (c0:Chip):Option Int:=
 (Zk3 (c0.Blocks.length:Int) c0.Pages c0.Size).bind fun x_2=>some x_2
instance fib_idsOf_c:Fd1 45 Zgd fun r=>D r:=en1 Tryz.func45 rfl Tryz.ntmps45 fun _ _ _ _ _ H=>by
 unfold Zgd at H;exact zY H
def ZfJ (c0:Chip):Option (Fib×Int):=
 (ZfI c0).bind fun x_3=>bif (decide (x_3=(0:Int))) then ((ZcM c0).bind fun x_4=>(some ((⟨(⟨x_4,[],0,0⟩:Vol),[]⟩:Fib):Fib)).bind fun k_5=>some (k_5,(1:Int))) else ((Zgd c0).bind fun x_6=>(Ze5 c0 x_6).bind fun r_7=>(some ((⟨r_7.1,[]⟩:Fib):Fib)).bind fun k_9=>some (k_9,r_7.2))
instance fib_Format_c:Fd1 10 ZfJ fun r=>Tup [D r.1,D r.2]:=en1 Tryz.func10 rfl Tryz.ntmps10 fun A w hA c0 r H=>by
 unfold ZfJ at H;refine zg ?_;refine TS.box rfl fun b1_0=>?_
 refine TS.alloc rfl fun b2_1=>zg ?_
 refine zb H fun _ _ H=>?_
 refine zc H (fun hc H=>?_) fun hc H=>?_
 ·refine zg ?_;refine zb H fun x_4 _ H=>?_
  refine TSx (tB (⟨x_4,[],0,0⟩:Vol) rfl rfl) ?_;refine TSx (tB (⟨(⟨x_4,[],0,0⟩:Vol),[]⟩:Fib) rfl rfl) ?_;exact zY H
 ·refine Zaw<|Zan ?_;refine zX (ZaW [7,8] [] mix (by kernel_rfl) (by kernel_rfl)) ?_;refine zb H fun _ _ H=>?_
  refine zb H fun r_7 _ H=>?_
  refine Zfi (fun g=>ZcD (α:=Vol)) rfl<|Zdg (fun g=>(Zw (y:=(r_7.1:Vol)) Zx)) rfl ?_;refine zC ?_;rintro ⟨⟨_,⟨b4_7,_⟩⟩,_⟩;dsimp only [Fam.nextS,Fam.nextN,Fam.one,List.cons_append,List.nil_append];refine zg ?_;refine TSx (tB (⟨r_7.1,[]⟩:Fib) rfl rfl) ?_;exact zY H
def Zkm (v0x:Vol) (id0:Int):Option (List UInt8):=
 (idx v0x.At id0).bind fun x_2=>(Zgs x_2 1).bind fun x_3=>bif (decide (x_3<(0:Int))) then (some ([]:List UInt8)) else ((ZjS x_3 v0x.Chip.Pages).bind fun x_4=>(idx v0x.Chip.Blocks x_4).bind fun x_5=>(remI x_3 v0x.Chip.Pages).bind fun x_6=>(idx x_5.Pages x_6).bind fun x_7=>(ZdA x_7).bind fun r_8=>bif (decide (r_8.2≠(0:Int))) then (some ([]:List UInt8)) else (some r_8.1.Body))
instance fib_body_c:Fd2 105 Zkm fun r=>D r:=en2 Tryz.func105 rfl Tryz.ntmps105 fun A w hA v0x id0 r H=>by
 unfold Zkm at H;refine zg ?_;refine TS.box rfl fun b2_0=>zg ?_
 refine zb H fun _ _ H=>?_
 refine zb H fun _ _ H=>?_
 refine zc H (fun hc H=>?_) fun hc H=>?_
 ·exact zY H
 ·refine Zaw<|Zan ?_;refine zX (ZaW [22,23] [] mix (by kernel_rfl) (by kernel_rfl)) ?_;refine zb H fun _ _ H=>?_
  refine zb H fun _ _ H=>?_
  refine zb H fun _ _ H=>?_
  refine zb H fun _ _ H=>?_
  refine zb H fun r_8 _ H=>?_
  refine Zfi (fun g=>ZcD (α:=Page)) rfl<|Zdg (fun g=>(Zw (y:=(r_8.1:Page)) Zx)) rfl ?_;refine zC ?_;rintro ⟨⟨_,⟨b6_8,_⟩⟩,_⟩;dsimp only [Fam.nextS,Fam.nextN,Fam.one,List.cons_append,List.nil_append];exact zY H
def Zgc (r_5:(Vol×Int)) (l_12:(List (List UInt8))) (x_15:Int) (bodies_16:(List (List UInt8))):Option ((Int×(List (List UInt8)))⊕(List (List UInt8))):=
 bif (decide (x_15<(l_12.length:Int))) then ((Zkm r_5.1 x_15).bind fun x_18=>(idx bodies_16 x_15).bind fun x_19=>(some ((bodies_16.set (Int.toNat x_15) x_18):(List (List UInt8)))).bind fun l_20=>(Zas x_15 1).bind fun x_21=>some (.inl (x_21,l_20))) else (some (.inr bodies_16))
def ZiZ (c0:Chip):Option (Fib×(List (List UInt8))×Int):=
 (ZfI c0).bind fun x_3=>bif (decide (x_3=(0:Int))) then ((some ((⟨Dat.z,[]⟩:Fib):Fib)).bind fun k_4=>some (k_4,([]:List (List UInt8)),(1:Int))) else ((Zga c0).bind fun r_5=>bif (decide (r_5.2≠(0:Int))) then ((some ((⟨Dat.z,[]⟩:Fib):Fib)).bind fun k_7=>some (k_7,([]:List (List UInt8)),r_5.2)) else ((Zgd c0).bind fun x_8=>bif (decide ((r_5.1.At.length:Int)≠x_8)) then ((some ((⟨Dat.z,[]⟩:Fib):Fib)).bind fun k_9=>some (k_9,([]:List (List UInt8)),(2:Int))) else ((Zdv 24 (r_5.1.At.length:Int)).bind fun u_10=>(some ((List.replicate (Int.toNat (r_5.1.At.length:Int)) (Dat.z:(List UInt8))):(List (List UInt8)))).bind fun l_12=>(ZM (fun s=>Zgc r_5 l_12 s.1 s.2) ((0:Int),l_12)).bind fun bodies_13=>(ZdP bodies_13).bind fun r_22=>bif (decide (r_22.2≠(0:Int))) then ((some ((⟨Dat.z,[]⟩:Fib):Fib)).bind fun k_23=>some (k_23,([]:List (List UInt8)),(2:Int))) else ((some ((⟨r_5.1,r_22.1⟩:Fib):Fib)).bind fun k_24=>some (k_24,bodies_13,(0:Int))))))
instance fib_load_c:Fd1 56 ZiZ fun r=>Tup [D r.1,D r.2.1,D r.2.2]:=en1 Tryz.func56 rfl Tryz.ntmps56 fun A w hA c0 r H=>by
 unfold ZiZ at H;refine zg ?_;refine TS.box rfl fun b1_0=>?_
 refine TS.alloc rfl fun b2_1=>zg ?_
 refine zb H fun _ _ H=>?_
 refine zc H (fun hc H=>?_) fun hc H=>?_
 ·refine zg ?_;refine TSx (tB (⟨Dat.z,[]⟩:Fib) rfl rfl) ?_;exact zY H
 ·refine zg ?_;refine zb H fun r_5 _ H=>?_
  refine TS.alloc rfl fun b5_5=>zg ?_
  refine zc H (fun hc H=>?_) fun hc H=>?_
  ·refine zg ?_;refine TSx (tB (⟨Dat.z,[]⟩:Fib) rfl rfl) ?_;exact zY H
  ·refine zg ?_;refine zb H fun _ _ H=>?_
   refine zc H (fun hc H=>?_) fun hc H=>?_
   ·refine zg ?_;refine TSx (tB (⟨Dat.z,[]⟩:Fib) rfl rfl) ?_;exact zY H
   ·refine zg ?_;refine zn H fun _ eu_10 H=>?_
    refine Zgj eu_10.h ⟨(Za3 eu_10.h).1,Int.le_refl _⟩ rfl fun b33_10=>?_
    refine zC ?_;refine zn H fun l_12 el_12 H=>?_
    refine ZB b33_10 (Zac el_12.h) ?_;refine zX (Zcg 7 _ (ZaP el_12.h (by simp))) ?_;refine TSx (Zax (n:=l_12.length) rfl) ?_;refine zC ?_;refine zh H fun o_14 H14 H=>?_
    refine Zn (fun s:(List (List UInt8))=>o_14=s) (fun (bodies_13:(List (List UInt8))) (_:Unit)=>(Env.set (Env.set (Env.set Env.nil 2 (Pt b2_1 0)) 5 (Pt b5_5 0)) 7 (Sl b33_10 True 0 bodies_13.length (Int.toNat (r_5.1.At.length:Int))))) (fun (bodies_13:(List (List UInt8))) (_:Unit)=>[⟨b33_10,True,(Row (bodies_13:List (List UInt8)) (Int.toNat (r_5.1.At.length:Int)))⟩,⟨b2_1,True,(One ((Dat.z:Fib):Fib))⟩,⟨b5_5,True,(One r_5.1)⟩]) ?_ ?_
    ·skip;refine Zp<|Zu H14 (fun ⟨x_15,bodies_16⟩ (_:Unit)=>(Env.set (Env.set (Env.set (Env.set (Env.set Env.nil 2 (Pt b2_1 0)) 5 (Pt b5_5 0)) 7 (Sl b33_10 True 0 bodies_16.length (Int.toNat (r_5.1.At.length:Int)))) 35 (D ((l_12.length:Int):Int))) 36 (D x_15))) (fun ⟨x_15,bodies_16⟩ (_:Unit)=>[⟨b33_10,True,(Row (bodies_16:List (List UInt8)) (Int.toNat (r_5.1.At.length:Int)))⟩,⟨b2_1,True,(One ((Dat.z:Fib):Fib))⟩,⟨b5_5,True,(One r_5.1)⟩]) () (Za (Za (Zk (ZC rfl) (Za (Za (Zd _)))))) (Zc rfl (Zc rfl (Zc rfl (Ze _)))) ?_;rintro ⟨x_15,bodies_16⟩ ⟨⟩ x_17 H17 he17;dsimp only at H17;unfold Zgc at H17;refine zg ?_;refine zc H17 (fun hc H17=>?_) fun hc H17=>?_
     ·refine zg ?_;refine zb H17 fun _ _ H17=>?_
      refine zn H17 fun _ ex_19 H17=>?_
      refine TSx (Zm (ZI ex_19.h rfl)) ?_;refine zE ?_;refine zn H17 fun l_20 el_20 H17=>?_
      refine Zaf b33_10 (Zac el_20.h) ?_;refine zX (ZcF 7 _ (ZaP el_20.h (by simp))) ?_;refine zb H17 fun x_21 _ H17=>?_
      exact Zq ⟨x_21,l_20⟩ () (ZZs H17) (Za (Za (Zk (ZC rfl) (Za (Za (Zd _)))))) (Zc rfl (Zc rfl (Zc rfl (Ze _))))
     ·refine zg ?_;exact Zj bodies_16 () (he17 _ (ZZs H17)).symm (Zk (ZC rfl) (Za (Za (Zd _)))) (Zc rfl (Zc rfl (Zc rfl (Ze _))))
    rintro bodies_13 ⟨⟩ hp;replace hp:=hp.symm;subst hp;refine zg ?_;refine TS.pub b33_10 (PubE.set 47 (ZG PlS.all rfl) (PubE.set 7 (ZG PlS.all rfl) PubE.refl)) ?_;refine zb H fun r_22 _ H=>?_
    refine zc H (fun hc H=>?_) fun hc H=>?_
    ·refine zg ?_;refine TSx (tB (⟨Dat.z,[]⟩:Fib) rfl rfl) ?_;exact zY H
    ·refine zg ?_;refine TSx (tB (⟨r_5.1,r_22.1⟩:Fib) rfl rfl) ?_;exact zY H
def Zge (c0:Chip):Option (Fib×Int):=
 (ZiZ c0).bind fun r_3=>some (r_3.1,r_3.2.2)
instance fib_Mount_c:Fd1 14 Zge fun r=>Tup [D r.1,D r.2]:=en1 Tryz.func14 rfl Tryz.ntmps14 fun _ _ _ _ _ H=>by
 unfold Zge at H;exact zY H
def ZaJ (s10:(List Route)) (s20:(List Route)) (x_2:Int):Option (Int⊕(Unit⊕Bool)):=
 bif (decide (x_2<(s10.length:Int))) then ((idx s10 x_2).bind fun x_4=>(idx s20 x_2).bind fun x_5=>bif (decide (x_4≠x_5)) then (some (.inr (.inr false))) else ((Zas x_2 1).bind fun x_7=>some (.inl x_7))) else (some (.inr (.inl ())))
def Za2 (s10:(List Route)) (s20:(List Route)):Option Bool:=
 bif (decide ((s10.length:Int)≠(s20.length:Int))) then (some false) else ((ZM (fun s=>ZaJ s10 s20 s) (0:Int)).bind fun o_1=>elS o_1 (fun _=>some true) (fun q=>some q))
instance slices_Equal_api_Route_c:Fd2 98 Za2 fun r=>D r:=en2 Tryz.func98 rfl Tryz.ntmps98 fun A w hA s10 s20 r H=>by
 unfold Za2 at H;refine zg ?_;refine zc H (fun hc H=>?_) fun hc H=>?_
 ·exact zY H
 ·refine zC ?_;refine zh H fun o_1 H1 H=>?_
  refine Zn (fun s:Unit=>o_1=.inl s) (fun (_:Unit) (_:Unit)=>Env.nil) (fun (_:Unit) (_:Unit)=>[]) ?_ ?_
  ·skip;refine Zp<|Zu H1 (fun (x_2:Int) (_:Unit)=>(Env.set (Env.set (Env.set (Env.set Env.nil 0 (D s10)) 1 (D s20)) 12 (D ((s10.length:Int):Int))) 13 (D x_2))) (fun (x_2:Int) (_:Unit)=>[]) () (Za (Za (Za (Za (Zd _))))) (Ze _) ?_;rintro x_2 ⟨⟩ x_3 H3 he3;unfold ZaJ at H3;refine zg ?_;refine zc H3 (fun hc H3=>?_) fun hc H3=>?_
   ·refine zg ?_;refine zb H3 fun _ _ H3=>?_
    refine zb H3 fun _ _ H3=>?_
    refine zX (Zeq (ZhW EqV_87 (by decide) EqG_87 rfl) rfl) ?_;refine zc H3 (fun hc H3=>?_) fun hc H3=>?_
    ·refine zC ?_;refine ZL<|Zf<|Zg<|Zg<|Zf<|Zs ?_;have R5:=ZaM (he3 _ (ZZs H3)) H;refine zg ?_;obtain rfl:=ZZi R5;exact ZaV rfl Cv.le
    ·refine zg ?_;refine zb H3 fun x_7 _ H3=>?_
     exact Zq x_7 () (ZZs H3) (Za (Za (Za (Za (Zd _))))) (Ze _)
   ·refine zg ?_;exact Zj () () (he3 _ (ZZs H3)).symm (Zd _) (Ze _)
  rintro ⟨⟩ ⟨⟩ hp;replace H:=ZbD hp H;exact zY H
def Zhi (f0:Fib):Option ((List (List UInt8))×Bool):=
 (some ((⟨f0.Vol.Chip.Pages,f0.Vol.Chip.Size,f0.Vol.Chip.Blocks,f0.Vol.Chip.Ops,false,f0.Vol.Chip.Faults⟩:Chip):Chip)).bind fun cx_3=>(ZiZ cx_3).bind fun r_4=>bif (((decide (r_4.2.2≠(0:Int)))||(decide (f0.Vol.Gen≠r_4.1.Vol.Gen)))||(decide (f0.Vol.Last≠r_4.1.Vol.Last))) then (some (([]:List (List UInt8)),false)) else ((ZbQ f0.Vol.At r_4.1.Vol.At).bind fun x_6=>(gb (!(!x_6)) (Za2 f0.Table r_4.1.Table)).bind fun x_7=>bif ((!x_6)||(!x_7)) then (some (([]:List (List UInt8)),false)) else (some (r_4.2.1,true)))
instance fib_stands_c:Fd1 51 Zhi fun r=>Tup [D r.1,D r.2]:=en1 Tryz.func51 rfl Tryz.ntmps51 fun A w hA f0 r H=>by
 unfold Zhi at H;refine zg ?_;refine TS.box rfl fun b1_0=>zg ?_
 refine TS.alloc rfl fun b4_1=>?_
 refine zC ?_;refine zC ?_;refine zn H fun _ ecx_3 H=>?_
 refine zX (ZB b4_1 (Zah ecx_3.h)) ?_;refine zb H fun _ _ H=>?_
 refine TS.alloc rfl fun b5_4=>zg ?_
 refine Zk9 20 rfl (fun hg=>OpY.neq64) rfl ?_;exact zY H
def ZdT (f0:Fib):Option Fib:=
 (ZcM f0.Vol.Chip).bind fun x_3=>(some ((⟨(⟨x_3,f0.Vol.At,f0.Vol.Gen,f0.Vol.Last⟩:Vol),f0.Table⟩:Fib):Fib)).bind fun f_4=>(ZaL f_4.Vol.At).bind fun x_5=>(some ((⟨(⟨f_4.Vol.Chip,x_5,f_4.Vol.Gen,f_4.Vol.Last⟩:Vol),f_4.Table⟩:Fib):Fib)).bind fun f_6=>(ZR f_6.Table).bind fun x_7=>(some ((⟨f_6.Vol,x_7⟩:Fib):Fib)).bind fun f_8=>some f_8
instance fib_copied_c:Fd1 52 ZdT fun r=>D r:=en1 Tryz.func52 rfl Tryz.ntmps52 fun _ _ _ _ _ H=>by
 unfold ZdT at H;exact zY H
def Zhj (f0:Fib) (l0:(List Change)):Option (Fib×Int):=
 (Zhi f0).bind fun r_3=>bif (!r_3.2) then ((ZdT f0).bind fun x_4=>some (x_4,(1:Int))) else ((Zex f0.Table l0).bind fun r_5=>bif (decide (r_5.2≠(0:Int))) then ((ZdT f0).bind fun x_6=>some (x_6,r_5.2)) else ((Zgd f0.Vol.Chip).bind fun x_7=>(Zc0 f0.Vol.Chip.Size).bind fun x_8=>(Zf3 r_5.1 x_7 x_8).bind fun r_9=>bif (decide (r_9.2≠(0:Int))) then ((ZdT f0).bind fun x_10=>some (x_10,r_9.2)) else ((Ze1 r_3.1 r_9.1).bind fun x_11=>bif (decide ((x_11.length:Int)=(0:Int))) then ((ZdT f0).bind fun x_12=>(some ((⟨x_12.Vol,r_5.1⟩:Fib):Fib)).bind fun f_13=>some (f_13,(0:Int))) else ((Zf9 f0.Vol x_11).bind fun r_14=>(bif (decide (r_14.2≠(0:Int))) then ((ZR f0.Table).bind fun x_18=>some x_18) else (some r_5.1)).bind fun t_16=>(some ((⟨r_14.1,t_16⟩:Fib):Fib)).bind fun k_19=>some (k_19,r_14.2)))))
instance fib_Apply_c:Fd2 13 Zhj fun r=>Tup [D r.1,D r.2]:=en2 Tryz.func13 rfl Tryz.ntmps13 fun A w hA f0 l0 r H=>by
 unfold Zhj at H;refine zg ?_;refine TS.box rfl fun b2_0=>?_
 refine TS.alloc rfl fun b4_1=>zg ?_
 refine zb H fun _ _ H=>?_
 refine zc H (fun hc H=>?_) fun hc H=>?_
 ·exact zY H
 ·refine zg ?_;refine zb H fun r_5 _ H=>?_
  refine zc H (fun hc H=>?_) fun hc H=>?_
  ·exact zY H
  ·refine zg ?_;refine zb H fun _ _ H=>?_
   refine zb H fun _ _ H=>?_
   refine zb H fun _ _ H=>?_
   refine zc H (fun hc H=>?_) fun hc H=>?_
   ·exact zY H
   ·refine zg ?_;refine zb H fun _ _ H=>?_
    refine zc H (fun hc H=>?_) fun hc H=>?_
    ·exact zY H
    ·refine zg ?_;refine zb H fun r_14 _ H=>?_
     refine TS.alloc rfl fun b12_14=>?_
     refine zC ?_;refine Zau ?_;refine zh H fun o_17 H17 H=>?_
     refine Zn (fun s:(List Route)=>o_17=s) (fun (t_16:(List Route)) (_:Unit)=>(Env.set (Env.set (Env.set (Env.set Env.nil 4 (Pt b4_1 0)) 8 (D t_16)) 9 (D r_14.2)) 12 (Pt b12_14 0))) (fun (t_16:(List Route)) (_:Unit)=>[⟨b4_1,True,(One ((Dat.z:Fib):Fib))⟩,⟨b12_14,True,(One r_14.1)⟩]) ?_ ?_
     ·skip;refine zg ?_;refine zc H17 (fun hc H17=>?_) fun hc H17=>?_
      ·refine zg ?_;refine zb H17 fun x_18 _ H17=>?_
       exact Zj x_18 () (ZZs H17) (Za (Za (Za (Za (Zd _))))) (Zc rfl (Zc rfl (Ze _)))
      ·refine zg ?_;exact Zj r_5.1 () (ZZs H17) (Za (Za (Za (Za (Zd _))))) (Zc rfl (Zc rfl (Ze _)))
     rintro t_16 ⟨⟩ hp;replace hp:=hp.symm;subst hp;refine zg ?_;refine TSx (tB (⟨r_14.1,t_16⟩:Fib) rfl rfl) ?_;exact zY H
end Go.Proofs.YtkmojgfenlgchaaGreatDoor.Tr
