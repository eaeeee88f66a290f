/- What the proof leans on. Conditions: none. -/
import Derived.Test.YtkmojgfenlgchaaGreatDoorZTD3
set_option linter.all false
set_option linter.unusedSimpArgs false
set_option linter.unusedVariables false
set_option linter.unusedSectionVars false
namespace Go.Proofs.YtkmojgfenlgchaaGreatDoor.Tr
open Go Go.RowKit
set_option maxRecDepth 100000
set_option synthInstance.maxHeartbeats 400000
set_option synthInstance.maxSize 4096
def ZgO (c0:Chip) (l_5:(List Wear)) (x_8:Int) (l_9:(List Wear)):Option ((Int×(List Wear))⊕(List Wear)):=
 bif (decide (x_8<(l_5.length:Int))) then ((Zat x_8 2).bind fun x_11=>(idx c0.Blocks x_11).bind fun x_12=>(idx l_9 x_8).bind fun x_14=>(some ((l_9.set (Int.toNat x_8) (⟨0,x_12.Used,x_12.Worn,x_12.Bad⟩:Wear)):(List Wear))).bind fun l_15=>(Zat x_8 1).bind fun x_16=>some (.inl (x_16,l_15))) else (some (.inr l_9))
def ZgM (c0:Chip) (x_27:(List Int)) (x_32:Int) (l_33:(List Wear)) (m_34:(List Int)):Option ((Int×(List Wear)×(List Int))⊕((List Wear)×(List Int))):=
 bif (decide (x_32<(x_27.length:Int))) then (((idx x_27 x_32).bind fun x_41=>bif ((decide (x_41=(0:Int)))||(decide (x_41∈m_34))) then (some (l_33,m_34)) else ((some ((putM m_34 x_41):List Int)).bind fun m_44=>(Zgh x_41 1).bind fun x_45=>(ZjM x_45 c0.Pages).bind fun x_46=>(Zgh x_46 2).bind fun x_47=>(idx l_33 x_47).bind fun x_48=>(Zat x_48.Live 1).bind fun x_49=>(idx l_33 x_47).bind fun x_50=>(some ((l_33.set (Int.toNat x_47) (⟨x_49,x_50.Used,x_50.Worn,x_50.Bad⟩:Wear)):(List Wear))).bind fun l_51=>some (l_51,m_44))).bind fun o_40=>el2 o_40 (fun l_37 m_38=>(Zat x_32 1).bind fun x_52=>some (.inl (x_52,l_37,m_38)))) else (some (.inr (l_33,m_34)))
def ZgN (c0:Chip) (lists0:(List (List Int))) (x_22:Int) (l_23:(List Wear)) (m_24:(List Int)):Option ((Int×(List Wear)×(List Int))⊕((List Wear)×(List Int))):=
 bif (decide (x_22<(lists0.length:Int))) then ((idx lists0 x_22).bind fun x_27=>(ZM (fun s=>ZgM c0 x_27 s.1 s.2.1 s.2.2) ((0:Int),l_23,m_24)).bind fun o_31=>el2 o_31 (fun l_28 m_29=>(Zat x_22 1).bind fun x_53=>some (.inl (x_53,l_28,m_29)))) else (some (.inr (l_23,m_24)))
def ZfW (c0:Chip) (lists0:(List (List Int))):Option (List Wear):=
 (Zgh (c0.Blocks.length:Int) (2:Int)).bind fun x_2=>(Zc5 32 x_2).bind fun u_3=>(some ((List.replicate (Int.toNat x_2) (Dat.z:Wear)):(List Wear))).bind fun l_5=>(ZM (fun s=>ZgO c0 l_5 s.1 s.2) ((0:Int),l_5)).bind fun l_6=>(ZM (fun s=>ZgN c0 lists0 s.1 s.2.1 s.2.2) ((0:Int),l_6,([]:List Int))).bind fun o_21=>el2 o_21 (fun l_18 m_19=>some l_18)
theorem flash_known_o {c0:Chip} {lists0:(List (List Int))} {r:(List Wear)} (H:ZfW c0 lists0=some r):CO2 191 [] (D c0) (D lists0) (fun g:Nat×Prop×Nat=>Sl g.1 g.2.1 0 (List.length r) g.2.2) fun g=>[⟨g.1,g.2.1,Row (r:List Wear) g.2.2⟩]:=eO2 Tryz.func191 rfl Tryz.ntmps191 fun A w hA hO=>by
 unfold ZfW at H;refine zg ?_;refine TS.box rfl fun b2_0=>zg ?_
 refine zb H fun x_2 _ H=>?_
 refine zn H fun _ eu_3 H=>?_
 refine Zf7 eu_3.h ⟨(Za1 eu_3.h).1,Int.le_refl _⟩ rfl fun b19_3=>?_
 refine zC ?_;refine zn H fun l_5 el_5 H=>?_
 refine ZC b19_3 (ZY el_5.h) ?_;refine zX (Zcc 5 _ (ZaK el_5.h (by simp))) ?_;refine TSx (Zax (n:=l_5.length) rfl) ?_;refine zC ?_;refine zh H fun o_7 H7 H=>?_
 refine Zn (fun s:(List Wear)=>o_7=s) (fun (l_6:(List Wear)) (_:Unit)=>(Env.set (Env.set (Env.set Env.nil 1 (D lists0)) 2 (Pt b2_0 0)) 5 (Sl b19_3 True 0 l_6.length (Int.toNat x_2)))) (fun (l_6:(List Wear)) (_:Unit)=>[⟨b19_3,True,(Row (l_6:List Wear) (Int.toNat x_2))⟩,⟨b2_0,True,(One c0)⟩]) ?_ ?_
 ·skip;refine Zp<|Zt H7 (fun ⟨x_8,l_9⟩ (_:Unit)=>(Env.set (Env.set (Env.set (Env.set (Env.set Env.nil 1 (D lists0)) 2 (Pt b2_0 0)) 5 (Sl b19_3 True 0 l_9.length (Int.toNat x_2))) 21 (D ((l_5.length:Int):Int))) 22 (D x_8))) (fun ⟨x_8,l_9⟩ (_:Unit)=>[⟨b19_3,True,(Row (l_9:List Wear) (Int.toNat x_2))⟩,⟨b2_0,True,(One c0)⟩]) () (Za (Za (Zj (Zz rfl) (Za (Za (Zd _)))))) (Zc rfl (Zc rfl (Ze _))) ?_;rintro ⟨x_8,l_9⟩ ⟨⟩ x_10 H10 he10;dsimp only at H10;unfold ZgO at H10;refine zg ?_;refine zc H10 (fun hc H10=>?_) fun hc H10=>?_
  ·refine zg ?_;refine zb H10 fun _ _ H10=>?_
   refine zb H10 fun x_12 _ H10=>?_
   refine TS.alloc rfl fun b7_12=>zg ?_
   refine TSx (tB (⟨0,x_12.Used,x_12.Worn,x_12.Bad⟩:Wear) rfl rfl) ?_;refine zn H10 fun _ ex_14 H10=>?_
   refine TSx (Zm (ZI ex_14.h rfl)) ?_;refine zE ?_;refine zn H10 fun l_15 el_15 H10=>?_
   refine Zac b19_3 (ZY el_15.h) ?_;refine zX (ZbL 5 _ (ZaK el_15.h (by simp))) ?_;refine zb H10 fun x_16 _ H10=>?_
   exact Zq ⟨x_16,l_15⟩ () (ZZs H10) (Za (Za (Zj (Zz rfl) (Za (Za (Zd _)))))) (Zc rfl (Zc rfl (Ze _)))
  ·refine zg ?_;exact Zk l_9 () (he10 _ (ZZs H10)).symm (Zj (Zz rfl) (Za (Za (Zd _)))) (Zc rfl (Zc rfl (Ze _)))
 rintro l_6 ⟨⟩ hp;replace hp:=hp.symm;subst hp;refine zg ?_;refine TS.makeMap rfl fun N_16 r_16 hr_16=>?_
 haveI:=hr_16.op
 refine zE ?_;refine ZdX hr_16.rh ?_;refine zC ?_;refine zh H fun o_21 H21 H=>?_
 refine Zk1 hr_16 (fun s:((List Wear)×(List Int))=>o_21=s) (fun ⟨l_18,m_19⟩=>m_19) (fun ⟨l_18,m_19⟩ (_:Unit)=>(Env.set Env.nil 5 (Sl b19_3 True 0 l_18.length (Int.toNat x_2)))) (fun ⟨l_18,m_19⟩ (_:Unit)=>[⟨b19_3,True,(Row (l_18:List Wear) (Int.toNat x_2))⟩]) ?_ ?_
 ·skip;refine Zp<|ZlX H21 hr_16 (fun ⟨x_22,l_23,m_24⟩=>m_24) (fun ⟨x_22,l_23,m_24⟩ (_:Unit)=>(Env.set (Env.set (Env.set (Env.set (Env.set (Env.set Env.nil 2 (Pt b2_0 0)) 5 (Sl b19_3 True 0 l_23.length (Int.toNat x_2))) 8 (MapT N_16)) 43 (D lists0)) 44 (D ((lists0.length:Int):Int))) 45 (D x_22))) (fun ⟨x_22,l_23,m_24⟩ (_:Unit)=>[⟨b19_3,True,(Row (l_23:List Wear) (Int.toNat x_2))⟩,⟨b2_0,True,(One c0)⟩]) () rfl (Za (Za (Za (Za (Zj (Zz rfl) (Za (Zd _))))))) (Zc rfl (Zc rfl (Ze _))) ?_;rintro ⟨x_22,l_23,m_24⟩ ⟨⟩ x_26 H26 he26 r_24 hr_24
  haveI:=hr_24.op
  try dsimp only at H26
  unfold ZgN at H26;refine zg ?_;refine zc H26 (fun hc H26=>?_) fun hc H26=>?_
  ·refine zg ?_;refine zo H26 fun x_27 _ H26=>?_
   refine zC ?_;refine zC ?_;refine zh H26 fun o_31 H31 H26=>?_
   refine Zk1 hr_24 (fun s:((List Wear)×(List Int))=>o_31=s) (fun ⟨l_28,m_29⟩=>m_29) (fun ⟨l_28,m_29⟩ (_:Unit)=>(Env.set (Env.set (Env.set (Env.set (Env.set (Env.set Env.nil 2 (Pt b2_0 0)) 5 (Sl b19_3 True 0 l_28.length (Int.toNat x_2))) 8 (MapT N_16)) 43 (D lists0)) 44 (D ((lists0.length:Int):Int))) 45 (D x_22))) (fun ⟨l_28,m_29⟩ (_:Unit)=>[⟨b19_3,True,(Row (l_28:List Wear) (Int.toNat x_2))⟩,⟨b2_0,True,(One c0)⟩]) ?_ ?_
   ·skip;refine Zp<|ZlX H31 hr_24 (fun ⟨x_32,l_33,m_34⟩=>m_34) (fun ⟨x_32,l_33,m_34⟩ (_:Unit)=>(Env.set (Env.set (Env.set (Env.set (Env.set (Env.set (Env.set (Env.set (Env.set Env.nil 2 (Pt b2_0 0)) 5 (Sl b19_3 True 0 l_33.length (Int.toNat x_2))) 8 (MapT N_16)) 43 (D lists0)) 44 (D ((lists0.length:Int):Int))) 45 (D x_22)) 49 (D x_27)) 50 (D ((x_27.length:Int):Int))) 51 (D x_32))) (fun ⟨x_32,l_33,m_34⟩ (_:Unit)=>[⟨b19_3,True,(Row (l_33:List Wear) (Int.toNat x_2))⟩,⟨b2_0,True,(One c0)⟩]) () rfl (Za (Za (Za (Za (Za (Za (Za (Zj (Zz rfl) (Za (Zd _)))))))))) (Zc rfl (Zc rfl (Ze _))) ?_;rintro ⟨x_32,l_33,m_34⟩ ⟨⟩ x_36 H36 he36 r_34 hr_34
    haveI:=hr_34.op
    try dsimp only at H36
    unfold ZgM at H36;refine zg ?_;refine zc H36 (fun hc H36=>?_) fun hc H36=>?_
    ·refine ZaB<|Zak<|Zao ?_;refine zh H36 fun o_40 H40 H36=>?_
     refine Zk1 hr_34 (fun s:((List Wear)×(List Int))=>o_40=s) (fun ⟨l_37,m_38⟩=>m_38) (fun ⟨l_37,m_38⟩ (_:Unit)=>(Env.set (Env.set (Env.set (Env.set (Env.set (Env.set (Env.set (Env.set (Env.set Env.nil 2 (Pt b2_0 0)) 5 (Sl b19_3 True 0 l_37.length (Int.toNat x_2))) 8 (MapT N_16)) 43 (D lists0)) 44 (D ((lists0.length:Int):Int))) 45 (D x_22)) 49 (D x_27)) 50 (D ((x_27.length:Int):Int))) 51 (D x_32))) (fun ⟨l_37,m_38⟩ (_:Unit)=>[⟨b19_3,True,(Row (l_37:List Wear) (Int.toNat x_2))⟩,⟨b2_0,True,(One c0)⟩]) ?_ ?_
     ·skip;refine zg ?_;refine zb H40 fun _ _ H40=>?_
      refine zX (Zis hr_34 rfl) ?_;refine TSx Zk7 ?_;refine zX (TS.sn Zk4) ?_;refine zc H40 (fun hc H40=>?_) fun hc H40=>?_
      ·refine zg ?_;exact Ziv hr_34 ⟨l_33,m_34⟩ () (ZZs H40) rfl (Za (Za (Za (Za (Za (Za (Za (Zj (Zz rfl) (Za (Zd _)))))))))) (Zc rfl (Zc rfl (Ze _)))
      ·refine zg ?_;refine TSx Zk6 ?_;refine TS.mapUpdate hr_34 fun r_42 hr_42=>?_
       haveI:=hr_42.op
       refine zE ?_;refine ZdX (hr_42.rh.trans hr_34.rh.symm) ?_;refine zn H40 fun m_44 em_44 H40=>?_
       replace hr_42:=(ZZi em_44.h)▸hr_42;refine zg ?_;refine zb H40 fun _ _ H40=>?_
       refine zb H40 fun _ _ H40=>?_
       refine zb H40 fun _ _ H40=>?_
       refine zn H40 fun _ ex_48 H40=>?_
       refine zX (ZaZ (Zm (ZI ex_48.h rfl)) rfl) ?_;refine zb H40 fun _ _ H40=>?_
       refine zn H40 fun _ ex_50 H40=>?_
       refine TSx (Zm (ZI ex_50.h rfl)) ?_;refine zE ?_;refine zn H40 fun l_51 el_51 H40=>?_
       refine Zac b19_3 (ZY el_51.h) ?_;refine zX (ZbL 5 _ (ZaK el_51.h (by simp))) ?_;exact Ziv hr_42 ⟨l_51,m_44⟩ () (ZZs H40) rfl (Za (Za (Za (Za (Za (Za (Za (Zj (Zz rfl) (Za (Zd _)))))))))) (Zc rfl (Zc rfl (Ze _)))
     rintro ⟨l_37,m_38⟩ ⟨⟩ hp r_38 hr_38
     haveI:=hr_38.op
     replace hp:=hp.symm;subst hp;replace H36:=Zd8 H36;refine zX (ZdX (hr_38.rh.trans hr_34.rh.symm)) ?_;refine zb H36 fun x_52 _ H36=>?_
     exact ZlW hr_38 ⟨x_52,l_37,m_38⟩ () (ZZs H36) rfl (Za (Za (Za (Za (Za (Za (Za (Zj (Zz rfl) (Za (Zd _)))))))))) (Zc rfl (Zc rfl (Ze _)))
    ·refine zg ?_;exact Ziv hr_34 ⟨l_33,m_34⟩ () (he36 _ (ZZs H36)).symm rfl (Za (Za (Za (Za (Zj (Zz rfl) (Za (Zd _))))))) (Zc rfl (Zc rfl (Ze _)))
   rintro ⟨l_28,m_29⟩ ⟨⟩ hp r_29 hr_29
   haveI:=hr_29.op
   replace hp:=hp.symm;subst hp;replace H26:=Zd8 H26;refine Zew ?_;refine zX (ZdX (hr_29.rh.trans hr_24.rh.symm)) ?_;refine zb H26 fun x_53 _ H26=>?_
   exact ZlW hr_29 ⟨x_53,l_28,m_29⟩ () (ZZs H26) rfl (Za (Za (Za (Za (Zj (Zz rfl) (Za (Zd _))))))) (Zc rfl (Zc rfl (Ze _)))
  ·refine zg ?_;exact Ziv hr_24 ⟨l_23,m_24⟩ () (he26 _ (ZZs H26)).symm rfl (Zj (Zz rfl) (Zd _)) (Zc rfl (Ze _))
 rintro ⟨l_18,m_19⟩ ⟨⟩ hp r_19 hr_19
 haveI:=hr_19.op
 replace hp:=hp.symm;subst hp;replace H:=Zd8 H;refine ZdX (hr_19.rh.trans hr_16.rh.symm) ?_;refine zC ?_;refine ZN<|ZfA hr_19 ?_;obtain rfl:=ZZi H;exact ZA rfl ⟨b19_3,True,(Int.toNat x_2)⟩ (Zz rfl) (Zc rfl (Ze _))
def ZcG (x_1:(List Wear)) (x_5:Int) (l_6:(List Wear)):Option ((Int×(List Wear))⊕(List Wear)):=
 bif (decide (x_5<(x_1.length:Int))) then (((idx l_6 x_5).bind fun x_10=>bif x_10.Bad then ((idx l_6 x_5).bind fun x_11=>(some ((l_6.set (Int.toNat x_5) (⟨0,0,0,true⟩:Wear)):(List Wear))).bind fun l_12=>some l_12) else (some l_6)).bind fun l_8=>(Zat x_5 1).bind fun x_13=>some (.inl (x_13,l_8))) else (some (.inr l_6))
def Zam (w0x:flash_writer) (lists0:(List (List Int))):Option (List Wear):=
 (ZfW w0x.Vol.Chip lists0).bind fun x_1=>(ZM (fun s=>ZcG x_1 s.1 s.2) ((0:Int),x_1)).bind fun l_3=>some l_3
theorem Zb4 {w0x:flash_writer} {lists0:(List (List Int))} {r:(List Wear)} (H:Zam w0x lists0=some r):CO2 170 [] (ZlG w0x) (D lists0) (fun g:Nat×Prop×Nat=>Sl g.1 g.2.1 0 (List.length r) g.2.2) fun g=>[⟨g.1,g.2.1,Row (r:List Wear) g.2.2⟩]:=eO2 Tryz.func170 rfl Tryz.ntmps170 fun A w hA hO=>by
 unfold Zam at H;refine zg ?_;refine zn H fun x_1 ex_1 H=>?_
 refine Zdi (oc2 [] (flash_known_o ex_1.h) toD toD) rfl fun ⟨b13_1,p13_1,c13_1⟩=>?_
 refine zw ?_;refine TSx (Zax (n:=x_1.length) rfl) ?_;refine zC ?_;refine zh H fun o_4 H4 H=>?_
 refine Zn (fun s:(List Wear)=>o_4=s) (fun (l_3:(List Wear)) (_:Unit)=>(Env.set Env.nil 5 (Sl b13_1 p13_1 0 l_3.length c13_1))) (fun (l_3:(List Wear)) (_:Unit)=>[⟨b13_1,p13_1,(Row (l_3:List Wear) c13_1)⟩]) ?_ ?_
 ·skip;refine Zp<|Zt H4 (fun ⟨x_5,l_6⟩ (_:Unit)=>(Env.set (Env.set (Env.set Env.nil 5 (Sl b13_1 p13_1 0 l_6.length c13_1)) 15 (D ((x_1.length:Int):Int))) 16 (D x_5))) (fun ⟨x_5,l_6⟩ (_:Unit)=>[⟨b13_1,p13_1,(Row (l_6:List Wear) c13_1)⟩]) () (Za (Za (Zj (Zz rfl) (Zd _)))) (Zc rfl (Ze _)) ?_;rintro ⟨x_5,l_6⟩ ⟨⟩ x_7 H7 he7;dsimp only at H7;unfold ZcG at H7;refine zg ?_;refine zc H7 (fun hc H7=>?_) fun hc H7=>?_
  ·refine ZaB<|Zak<|Zao ?_;refine zh H7 fun o_9 H9 H7=>?_
   refine Zn (fun s:(List Wear)=>o_9=s) (fun (l_8:(List Wear)) (_:Unit)=>(Env.set (Env.set (Env.set Env.nil 5 (Sl b13_1 p13_1 0 l_8.length c13_1)) 15 (D ((x_1.length:Int):Int))) 16 (D x_5))) (fun (l_8:(List Wear)) (_:Unit)=>[⟨b13_1,p13_1,(Row (l_8:List Wear) c13_1)⟩]) ?_ ?_
   ·skip;refine zg ?_;refine zn H9 fun _ ex_10 H9=>?_
    refine zX (ZaZ (Zm (ZI ex_10.h rfl)) rfl) ?_;refine zc H9 (fun hc H9=>?_) fun hc H9=>?_
    ·refine zg ?_;refine TSx (tB (⟨0,0,0,true⟩:Wear) rfl rfl) ?_;refine zn H9 fun _ ex_11 H9=>?_
     refine TSx (Zm (ZI ex_11.h rfl)) ?_;refine zE ?_;refine zn H9 fun l_12 el_12 H9=>?_
     refine Zac b13_1 (ZY el_12.h) ?_;refine zX (ZbL 5 _ (ZaK el_12.h (by simp))) ?_;exact Zk l_12 () (ZZs H9) (Za (Za (Zj (Zz rfl) (Zd _)))) (Zc rfl (Ze _))
    ·refine zg ?_;exact Zk l_6 () (ZZs H9) (Za (Za (Zj (Zz rfl) (Zd _)))) (Zc rfl (Ze _))
   rintro l_8 ⟨⟩ hp;replace hp:=hp.symm;subst hp;refine zg ?_;refine zb H7 fun x_13 _ H7=>?_
   exact Zq ⟨x_13,l_8⟩ () (ZZs H7) (Za (Za (Zj (Zz rfl) (Zd _)))) (Zc rfl (Ze _))
  ·refine zg ?_;exact Zk l_6 () (he7 _ (ZZs H7)).symm (Zj (Zz rfl) (Zd _)) (Zc rfl (Ze _))
 rintro l_3 ⟨⟩ hp;replace hp:=hp.symm;subst hp;refine zg ?_;obtain rfl:=ZZi H;exact ZA rfl ⟨b13_1,p13_1,c13_1⟩ (Zz rfl) (Zc rfl (Ze _))
def Zaq (w0x:flash_writer) (block0:Int):Option Int:=
 (idx w0x.Vol.Chip.Blocks block0).bind fun x_1=>bif x_1.Bad then (some (0:Int)) else ((Zgh w0x.Vol.Chip.Pages x_1.Used).bind fun x_3=>some x_3)
theorem Za8 {A:Nat→Prop} {w0x:flash_writer} {block0:Int}  {r:Int} (w:World) (v0 v1:Value) (hA:∀ k,w.heap.size≤k→A k)  (h0:(ZlG w0x).p A w v0) (h1:(D block0).p A w v1) (H:Zaq w0x block0=some r) :
    Calls Tryz.prog 117 #[v0,v1] w (Ret A w (D r)):=by
 unfold Zaq at H;refine enter2 hA Tryz.func117 rfl Tryz.ntmps117 rfl h0 h1 ?_;exact zY H
def Zah (w0x:flash_writer) (block0:Int) (e0:Int):Option flash_writer:=
 bif (decide (e0=(9:Int))) then ((Zip w0x.Vol.Chip block0).bind fun r_1=>(some ((⟨(⟨r_1.1,w0x.Vol.At,w0x.Vol.Gen,w0x.Vol.Last⟩:Vol),w0x.beyond⟩:flash_writer):flash_writer)).bind fun l_2=>some l_2) else (some w0x)
theorem ZfU {w0x:flash_writer} {block0:Int} {e0:Int} {b0:Nat} {r:flash_writer} (H:Zah w0x block0 e0=some r):CO3 140 [⟨b0,True,One w0x⟩] (Pt b0 0) (D block0) (D e0) (fun g:Unit=>Tup []) fun g=>[⟨b0,True,One r⟩]:=eO3 Tryz.func140 rfl Tryz.ntmps140 fun A w hA hO=>by
 unfold Zah at H;refine zg ?_;refine zc H (fun hc H=>?_) fun hc H=>?_
 ·refine zg ?_;refine zo H fun _ _ H=>?_
  refine zE ?_;refine zn H fun _ el_2 H=>?_
  refine Zac b0 (Zaj el_2.h) ?_;obtain rfl:=ZZi H;exact ZlV rfl rfl () .nil (Zc rfl (Ze _))
 ·refine zg ?_;obtain rfl:=ZZi H;exact ZlV rfl rfl () .nil (Zc rfl (Ze _))
def ZK (w0x:flash_writer) (block0:Int) (b0x:(List UInt8)):Option (Int×flash_writer):=
 (idx w0x.Vol.Chip.Blocks block0).bind fun x_1=>(ZeR w0x.Vol.Chip block0 x_1.Used b0x).bind fun r_2=>(some ((⟨(⟨r_2.1,w0x.Vol.At,w0x.Vol.Gen,w0x.Vol.Last⟩:Vol),w0x.beyond⟩:flash_writer):flash_writer)).bind fun w_4=>(Zah w_4 block0 r_2.2).bind fun x_5=>some (r_2.2,x_5)
theorem Za3 {w0x:flash_writer} {block0:Int} {b0x:(List UInt8)} {b0:Nat} {r:(Int×flash_writer)} (H:ZK w0x block0 b0x=some r):CO3 118 [⟨b0,True,One w0x⟩] (Pt b0 0) (D block0) (D b0x) (fun g:Unit=>D r.1) fun g=>[⟨b0,True,One r.2⟩]:=eO3 Tryz.func118 rfl Tryz.ntmps118 fun A w hA hO=>by
 unfold ZK at H;refine zC ?_;refine zX (Za9 [21,22] [] mix (by kernel_rfl) (by kernel_rfl)) ?_;refine zb H fun _ _ H=>?_
 refine zb H fun r_2 _ H=>?_
 refine Zfz (fun g=>Zda (α:=Chip)) rfl<|Zdt (fun g=>(Zy (y:=(r_2.1:Chip)) Zx)) rfl ?_;refine zC ?_;rintro ⟨⟨_,⟨b7_2,_⟩⟩,_⟩;dsimp only [Fam.nextS,Fam.nextN,Fam.one,List.cons_append,List.nil_append];refine zC ?_;refine zn H fun _ ew_4 H=>?_
 refine zX (ZC b0 (Zaj ew_4.h)) ?_;refine zn H fun _ ex_5 H=>?_
 refine Zdi (oc3 [b0] (ZfU ex_5.h) id toD toD) rfl fun _=>?_
 refine zw ?_;obtain rfl:=ZZi H;exact ZA rfl () Cv.le (Zc rfl (Ze _))
def ZaI (w0x:flash_writer) (block0:Int):Option (Int×flash_writer):=
 (Zhe w0x.Vol.Chip block0).bind fun r_1=>(some ((⟨(⟨r_1.1,w0x.Vol.At,w0x.Vol.Gen,w0x.Vol.Last⟩:Vol),w0x.beyond⟩:flash_writer):flash_writer)).bind fun w_3=>(Zah w_3 block0 r_1.2).bind fun x_4=>some (r_1.2,x_4)
theorem Zde {w0x:flash_writer} {block0:Int} {b0:Nat} {r:(Int×flash_writer)} (H:ZaI w0x block0=some r):CO2 114 [⟨b0,True,One w0x⟩] (Pt b0 0) (D block0) (fun g:Unit=>D r.1) fun g=>[⟨b0,True,One r.2⟩]:=eO2 Tryz.func114 rfl Tryz.ntmps114 fun A w hA hO=>by
 unfold ZaI at H;refine zg ?_;refine zb H fun _ _ H=>?_
 refine TS.alloc rfl fun b5_1=>?_
 refine zC ?_;refine zC ?_;refine zn H fun _ ew_3 H=>?_
 refine zX (ZC b0 (Zaj ew_3.h)) ?_;refine zn H fun _ ex_4 H=>?_
 refine Zdi (oc3 [b0] (ZfU ex_4.h) id toD toD) rfl fun _=>?_
 refine zw ?_;obtain rfl:=ZZi H;exact ZA rfl () Cv.le (Zc rfl (Ze _))
def ZcX (block0:Int) (w_3:flash_writer):Option (flash_writer⊕(flash_writer⊕(Int×flash_writer))):=
 (Zaq w_3 block0).bind fun x_5=>bif (decide (x_5>(0:Int))) then ((Zfc (⟨(1:Int),0,0,[]⟩:Page) w_3.Vol.Chip.Size).bind fun r_6=>(ZK w_3 block0 r_6.1).bind fun x_7=>bif (decide (x_7.1≠(0:Int))) then (some (.inr (.inr (x_7.1,x_7.2)))) else (some (.inl x_7.2))) else (some (.inr (.inl w_3)))
def ZV (w0x:flash_writer) (block0:Int):Option (Int×flash_writer):=
 (ZM (fun s=>ZcX block0 s) w0x).bind fun o_2=>elS o_2 (fun w_1=>(ZaI w_1 block0).bind fun x_10=>some (x_10.1,x_10.2)) (fun q=>some q)
theorem Zbs {w0x:flash_writer} {block0:Int} {b0:Nat} {r:(Int×flash_writer)} (H:ZV w0x block0=some r):CO2 178 [⟨b0,True,One w0x⟩] (Pt b0 0) (D block0) (fun g:Unit=>D r.1) fun g=>[⟨b0,True,One r.2⟩]:=eO2 Tryz.func178 rfl Tryz.ntmps178 fun A w hA hO=>by
 unfold ZV at H;refine zC ?_;refine Zao ?_;refine zh H fun o_2 H2 H=>?_
 refine Zn (fun s:flash_writer=>o_2=.inl s) (fun (w_1:flash_writer) (_:Unit)=>(Env.set (Env.set Env.nil 0 (Pt b0 0)) 1 (D block0))) (fun (w_1:flash_writer) (_:Unit)=>[⟨b0,True,(One w_1)⟩]) ?_ ?_
 ·skip;refine Zp<|Zt H2 (fun (w_3:flash_writer) (_:Unit)=>(Env.set (Env.set Env.nil 0 (Pt b0 0)) 1 (D block0))) (fun (w_3:flash_writer) (_:Unit)=>[⟨b0,True,(One w_3)⟩]) () (Za (Za (Zd _))) (Zc rfl (Ze _)) ?_;rintro w_3 ⟨⟩ x_4 H4 he4;unfold ZcX at H4;refine zg ?_;refine zn H4 fun _ ex_5 H4=>?_
  refine zX (ZaZ (ZcD [b0] (ZcL Zx trivial (by simp)) ArgB.d fun w v0 v1 hA h0 h1=>Za8 w v0 v1 hA h0 (toD h1) ex_5.h) rfl) ?_;refine zc H4 (fun hc H4=>?_) fun hc H4=>?_
  ·refine zg ?_;refine zX (ZaZ (tB (⟨(1:Int),0,0,[]⟩:Page) rfl rfl) rfl) ?_;refine zb H4 fun _ _ H4=>?_
   refine zn H4 fun x_7 ex_7 H4=>?_
   refine Zdi (oc3 [b0] (Za3 ex_7.h) id toD toD) rfl fun _=>?_
   refine zw ?_;refine zc H4 (fun hc H4=>?_) fun hc H4=>?_
   ·refine zC ?_;refine ZN<|Zg<|Zh<|Zg<|Zv ?_;have R8:=ZaW (he4 _ (ZZs H4)) H;refine zg ?_;obtain rfl:=ZZi R8;exact ZA rfl () Cv.le (Zc rfl (Ze _))
   ·refine zg ?_;exact Zq x_7.2 () (ZZs H4) (Za (Za (Zd _))) (Zc rfl (Ze _))
  ·refine zg ?_;exact Zk w_3 () (he4 _ (ZZs H4)).symm (Za (Za (Zd _))) (Zc rfl (Ze _))
 rintro w_1 ⟨⟩ hp;replace H:=Zcd hp H;refine zg ?_;refine zn H fun _ ex_10 H=>?_
 refine Zdi (oc2 [b0] (Zde ex_10.h) id toD) rfl fun _=>?_
 refine zw ?_;obtain rfl:=ZZi H;exact ZA rfl () Cv.le (Zc rfl (Ze _))
def ZD (w0x:flash_writer) (x_1:Int) (x_3:Int):Option (Int⊕(Unit⊕(Int×Int×flash_writer))):=
 bif (decide (x_3<(([w0x.Vol.Last,x_1]:List Int).length:Int))) then ((idx ([w0x.Vol.Last,x_1]:List Int) x_3).bind fun x_5=>(Zaq w0x x_5).bind fun x_6=>bif (decide (x_6>(0:Int))) then (some (.inr (.inr (x_5,(0:Int),w0x)))) else ((Zat x_3 1).bind fun x_8=>some (.inl x_8))) else (some (.inr (.inl ())))
def Za2 (w0x:flash_writer):Option (Int×Int×flash_writer):=
 (Zgh (1:Int) w0x.Vol.Last).bind fun x_1=>(ZM (fun s=>ZD w0x x_1 s) (0:Int)).bind fun o_2=>elS o_2 (fun _=>(idx w0x.Vol.Chip.Blocks x_1).bind fun x_9=>bif x_9.Bad then (some ((0:Int),(9:Int),w0x)) else ((ZaI w0x x_1).bind fun x_10=>some (x_1,x_10.1,x_10.2))) (fun q=>some q)
theorem Zg8 {w0x:flash_writer} {b0:Nat} {r:(Int×Int×flash_writer)} (H:Za2 w0x=some r):CO1 151 [⟨b0,True,One w0x⟩] (Pt b0 0) (fun g:Unit=>Tup [D r.1,D r.2.1]) fun g=>[⟨b0,True,One r.2.2⟩]:=eO1 Tryz.func151 rfl Tryz.ntmps151 fun A w hA hO=>by
 unfold Za2 at H;refine zg ?_;refine zb H fun x_1 _ H=>?_
 refine TSx (OpY.buildSlice [.tmp 17,.tmp 18] rfl rfl (by decide)) ?_;refine zC ?_;refine zh H fun o_2 H2 H=>?_
 refine Zn (fun s:Unit=>o_2=.inl s) (fun (_:Unit) (_:Unit)=>(Env.set (Env.set Env.nil 0 (Pt b0 0)) 4 (D x_1))) (fun (_:Unit) (_:Unit)=>[⟨b0,True,(One w0x)⟩]) ?_ ?_
 ·skip;refine Zp<|Zt H2 (fun (x_3:Int) (_:Unit)=>(Env.set (Env.set (Env.set (Env.set (Env.set Env.nil 0 (Pt b0 0)) 4 (D x_1)) 19 (D (([w0x.Vol.Last,x_1]:List Int):(List Int)))) 20 (D ((([w0x.Vol.Last,x_1]:List Int).length:Int):Int))) 21 (D x_3))) (fun (x_3:Int) (_:Unit)=>[⟨b0,True,(One w0x)⟩]) () (Za (Za (Za (Za (Za (Zd _)))))) (Zc rfl (Ze _)) ?_;rintro x_3 ⟨⟩ x_4 H4 he4;unfold ZD at H4;refine zg ?_;refine zc H4 (fun hc H4=>?_) fun hc H4=>?_
  ·refine zg ?_;refine zb H4 fun _ _ H4=>?_
   refine zn H4 fun _ ex_6 H4=>?_
   refine zX (ZaZ (ZcD [b0] (ZcL Zx trivial (by simp)) ArgB.d fun w v0 v1 hA h0 h1=>Za8 w v0 v1 hA h0 (toD h1) ex_6.h) rfl) ?_;refine zc H4 (fun hc H4=>?_) fun hc H4=>?_
   ·refine zC ?_;refine ZN<|Zg<|Zh<|Zh<|Zg<|Zv ?_;have R6:=ZaW (he4 _ (ZZs H4)) H;refine zg ?_;obtain rfl:=ZZi R6;exact Zap rfl rfl () (.cons Cv.le (.cons Cv.le .nil)) (Zc rfl (Ze _))
   ·refine zg ?_;refine zb H4 fun x_8 _ H4=>?_
    exact Zq x_8 () (ZZs H4) (Za (Za (Za (Za (Za (Zd _)))))) (Zc rfl (Ze _))
  ·refine zg ?_;exact Zk () () (he4 _ (ZZs H4)).symm (Za (Za (Zd _))) (Zc rfl (Ze _))
 rintro ⟨⟩ ⟨⟩ hp;replace H:=Zcd hp H;refine zg ?_;refine zb H fun _ _ H=>?_
 refine zc H (fun hc H=>?_) fun hc H=>?_
 ·refine zg ?_;obtain rfl:=ZZi H;exact Zap rfl rfl () (.cons Cv.le (.cons Cv.le .nil)) (Zc rfl (Ze _))
 ·refine zg ?_;refine zn H fun _ ex_10 H=>?_
  refine Zdi (oc2 [b0] (Zde ex_10.h) id toD) rfl fun _=>?_
  refine zw ?_;obtain rfl:=ZZi H;exact Zap rfl rfl () (.cons Cv.le (.cons Cv.le .nil)) (Zc rfl (Ze _))
def Zcn (x_1:Block) (gen_4:UInt64) (x_5:Int):Option ((UInt64×Int)⊕UInt64):=
 bif (decide (x_5<(x_1.Pages.length:Int))) then (((idx x_1.Pages x_5).bind fun x_9=>(ZgX x_9).bind fun r_10=>bif (decide (r_10.2=(0:Int))) then (some (max64 gen_4 r_10.1.Gen)) else (some gen_4)).bind fun gen_7=>(Zat x_5 1).bind fun x_12=>some (.inl (gen_7,x_12))) else (some (.inr gen_4))
def ZZ (w0x:flash_writer) (block0:Int):Option UInt64:=
 (idx w0x.Vol.Chip.Blocks block0).bind fun x_1=>(ZM (fun s=>Zcn x_1 s.1 s.2) ((UInt64.ofNat 0),(0:Int))).bind fun gen_2=>some gen_2
theorem Zcv {A:Nat→Prop} {w0x:flash_writer} {block0:Int}  {r:UInt64} (w:World) (v0 v1:Value) (hA:∀ k,w.heap.size≤k→A k)  (h0:(ZlG w0x).p A w v0) (h1:(D block0).p A w v1) (H:ZZ w0x block0=some r) :
    Calls Tryz.prog 138 #[v0,v1] w (Ret A w (D r)):=by
 unfold ZZ at H;refine zX (enter2 hA Tryz.func138 rfl Tryz.ntmps138 rfl h0 h1) ?_;refine zo H fun x_1 _ H=>?_
 refine zC ?_;refine zh H fun o_3 H3 H=>?_
 refine Zn (fun s:UInt64=>o_3=s) (fun (gen_2:UInt64) (_:Unit)=>(Env.set Env.nil 5 (D gen_2))) (fun (gen_2:UInt64) (_:Unit)=>[]) ?_ ?_
 ·skip;refine Zp<|Zt H3 (fun ⟨gen_4,x_5⟩ (_:Unit)=>(Env.set (Env.set (Env.set (Env.set Env.nil 5 (D gen_4)) 19 (D x_1.Pages)) 20 (D ((x_1.Pages.length:Int):Int))) 21 (D x_5))) (fun ⟨gen_4,x_5⟩ (_:Unit)=>[]) () (Za (Za (Za (Za (Zd _))))) (Ze _) ?_;rintro ⟨gen_4,x_5⟩ ⟨⟩ x_6 H6 he6;dsimp only at H6;unfold Zcn at H6;refine zg ?_;refine zc H6 (fun hc H6=>?_) fun hc H6=>?_
  ·refine ZaB<|Zak<|Zao ?_;refine zh H6 fun o_8 H8 H6=>?_
   refine Zn (fun s:UInt64=>o_8=s) (fun (gen_7:UInt64) (_:Unit)=>(Env.set (Env.set (Env.set (Env.set Env.nil 5 (D gen_7)) 19 (D x_1.Pages)) 20 (D ((x_1.Pages.length:Int):Int))) 21 (D x_5))) (fun (gen_7:UInt64) (_:Unit)=>[]) ?_ ?_
   ·skip;refine zg ?_;refine zb H8 fun _ _ H8=>?_
    refine zb H8 fun r_10 _ H8=>?_
    refine TS.alloc rfl fun b8_10=>zg ?_
    refine zc H8 (fun hc H8=>?_) fun hc H8=>?_
    ·refine zg ?_;refine zX (ZaZ OpY.max64 rfl) ?_;exact Zk (max64 gen_4 r_10.1.Gen) () (ZZs H8) (Za (Za (Za (Za (Zd _))))) (Ze _)
    ·refine zg ?_;exact Zk gen_4 () (ZZs H8) (Za (Za (Za (Za (Zd _))))) (Ze _)
   rintro gen_7 ⟨⟩ hp;replace hp:=hp.symm;subst hp;refine zg ?_;refine zb H6 fun x_12 _ H6=>?_
   exact Zq ⟨gen_7,x_12⟩ () (ZZs H6) (Za (Za (Za (Za (Zd _))))) (Ze _)
  ·refine zg ?_;exact Zk gen_4 () (he6 _ (ZZs H6)).symm (Za (Zd _)) (Ze _)
 rintro gen_2 ⟨⟩ hp;replace hp:=hp.symm;subst hp;exact zY H
def ZcT (at0:(List Int)) (gen_1:UInt64) (r_2:((List UInt8)×Int)) (w_3:flash_writer):Option (flash_writer⊕(Int×flash_writer)):=
 (Za2 w_3).bind fun x_5=>bif (decide (x_5.2.1≠(0:Int))) then (some (.inr (x_5.2.1,x_5.2.2))) else ((ZK x_5.2.2 x_5.1 r_2.1).bind fun x_7=>bif (decide (x_7.1=(0:Int))) then (((ZZ x_7.2 (1:Int)).bind fun x_11=>bif (decide (x_11=gen_1)) then (some (1:Int)) else (some x_5.1)).bind fun block_9=>(some ((⟨(⟨((⟨(⟨((⟨(⟨x_7.2.Vol.Chip,at0,x_7.2.Vol.Gen,x_7.2.Vol.Last⟩:Vol),x_7.2.beyond⟩:flash_writer).Vol).Chip,((⟨(⟨x_7.2.Vol.Chip,at0,x_7.2.Vol.Gen,x_7.2.Vol.Last⟩:Vol),x_7.2.beyond⟩:flash_writer).Vol).At,gen_1,((⟨(⟨x_7.2.Vol.Chip,at0,x_7.2.Vol.Gen,x_7.2.Vol.Last⟩:Vol),x_7.2.beyond⟩:flash_writer).Vol).Last⟩:Vol),(⟨(⟨x_7.2.Vol.Chip,at0,x_7.2.Vol.Gen,x_7.2.Vol.Last⟩:Vol),x_7.2.beyond⟩:flash_writer).beyond⟩:flash_writer).Vol).Chip,((⟨(⟨((⟨(⟨x_7.2.Vol.Chip,at0,x_7.2.Vol.Gen,x_7.2.Vol.Last⟩:Vol),x_7.2.beyond⟩:flash_writer).Vol).Chip,((⟨(⟨x_7.2.Vol.Chip,at0,x_7.2.Vol.Gen,x_7.2.Vol.Last⟩:Vol),x_7.2.beyond⟩:flash_writer).Vol).At,gen_1,((⟨(⟨x_7.2.Vol.Chip,at0,x_7.2.Vol.Gen,x_7.2.Vol.Last⟩:Vol),x_7.2.beyond⟩:flash_writer).Vol).Last⟩:Vol),(⟨(⟨x_7.2.Vol.Chip,at0,x_7.2.Vol.Gen,x_7.2.Vol.Last⟩:Vol),x_7.2.beyond⟩:flash_writer).beyond⟩:flash_writer).Vol).At,((⟨(⟨((⟨(⟨x_7.2.Vol.Chip,at0,x_7.2.Vol.Gen,x_7.2.Vol.Last⟩:Vol),x_7.2.beyond⟩:flash_writer).Vol).Chip,((⟨(⟨x_7.2.Vol.Chip,at0,x_7.2.Vol.Gen,x_7.2.Vol.Last⟩:Vol),x_7.2.beyond⟩:flash_writer).Vol).At,gen_1,((⟨(⟨x_7.2.Vol.Chip,at0,x_7.2.Vol.Gen,x_7.2.Vol.Last⟩:Vol),x_7.2.beyond⟩:flash_writer).Vol).Last⟩:Vol),(⟨(⟨x_7.2.Vol.Chip,at0,x_7.2.Vol.Gen,x_7.2.Vol.Last⟩:Vol),x_7.2.beyond⟩:flash_writer).beyond⟩:flash_writer).Vol).Gen,block_9⟩:Vol),(⟨(⟨((⟨(⟨x_7.2.Vol.Chip,at0,x_7.2.Vol.Gen,x_7.2.Vol.Last⟩:Vol),x_7.2.beyond⟩:flash_writer).Vol).Chip,((⟨(⟨x_7.2.Vol.Chip,at0,x_7.2.Vol.Gen,x_7.2.Vol.Last⟩:Vol),x_7.2.beyond⟩:flash_writer).Vol).At,gen_1,((⟨(⟨x_7.2.Vol.Chip,at0,x_7.2.Vol.Gen,x_7.2.Vol.Last⟩:Vol),x_7.2.beyond⟩:flash_writer).Vol).Last⟩:Vol),(⟨(⟨x_7.2.Vol.Chip,at0,x_7.2.Vol.Gen,x_7.2.Vol.Last⟩:Vol),x_7.2.beyond⟩:flash_writer).beyond⟩:flash_writer).beyond⟩:flash_writer):flash_writer)).bind fun l_12=>some (.inr ((0:Int),l_12))) else (bif (decide (x_7.1≠(9:Int))) then (some (.inr (x_7.1,x_7.2))) else (some (.inl x_7.2))))
def Zbk (w0x:flash_writer) (at0:(List Int)):Option (Int×flash_writer):=
 (some ((w0x.Vol.Gen+(UInt64.ofNat 1)):UInt64)).bind fun gen_1=>(ZiG (⟨gen_1,at0⟩:Roots) w0x.Vol.Chip.Size).bind fun r_2=>bif (decide (r_2.2≠(0:Int))) then (some (r_2.2,w0x)) else (ZM (fun s=>ZcT at0 gen_1 r_2 s) w0x)
theorem Ze4 {w0x:flash_writer} {at0:(List Int)} {b0:Nat} {r:(Int×flash_writer)} (H:Zbk w0x at0=some r):CO2 122 [⟨b0,True,One w0x⟩] (Pt b0 0) (D at0) (fun g:Unit=>D r.1) fun g=>[⟨b0,True,One r.2⟩]:=eO2 Tryz.func122 rfl Tryz.ntmps122 fun A w hA hO=>by
 unfold Zbk at H;refine zg ?_;refine TSx ZiA ?_;refine zC ?_;refine zn H fun gen_1 egen_1 H=>?_
 refine zX (Zcc 5 (D gen_1) (nm_cv egen_1.h)) ?_;refine zX (ZaZ (tB (⟨gen_1,at0⟩:Roots) rfl rfl) rfl) ?_;refine zb H fun r_2 _ H=>?_
 refine zc H (fun hc H=>?_) fun hc H=>?_
 ·refine zg ?_;obtain rfl:=ZZi H;exact ZA rfl () Cv.le (Zc rfl (Ze _))
 ·refine ZaB<|Zak<|Zp<|Zt H (fun (w_3:flash_writer) (_:Unit)=>(Env.set (Env.set (Env.set (Env.set Env.nil 0 (Pt b0 0)) 1 (D at0)) 5 (D gen_1)) 6 (D r_2.1))) (fun (w_3:flash_writer) (_:Unit)=>[⟨b0,True,(One w_3)⟩]) () (Za (Za (Za (Za (Zd _))))) (Zc rfl (Ze _)) ?_;rintro w_3 ⟨⟩ x_4 H4 he4;unfold ZcT at H4;refine zg ?_;refine zn H4 fun x_5 ex_5 H4=>?_
  refine Zdi (oc1 [b0] (Zg8 ex_5.h) id) rfl fun _=>?_
  refine zw ?_;refine zc H4 (fun hc H4=>?_) fun hc H4=>?_
  ·refine zg ?_;obtain rfl:=(he4 _ (ZZs H4));exact ZA rfl () Cv.le (Zc rfl (Ze _))
  ·refine zg ?_;refine zn H4 fun x_7 ex_7 H4=>?_
   refine Zdi (oc3 [b0] (Za3 ex_7.h) id toD toD) rfl fun _=>?_
   refine zw ?_;refine zc H4 (fun hc H4=>?_) fun hc H4=>?_
   ·refine Zao ?_;refine zh H4 fun o_10 H10 H4=>?_
    refine Zn (fun s:Int=>o_10=s) (fun (block_9:Int) (_:Unit)=>(Env.set (Env.set (Env.set (Env.set Env.nil 0 (Pt b0 0)) 1 (D at0)) 5 (D gen_1)) 8 (D block_9))) (fun (block_9:Int) (_:Unit)=>[⟨b0,True,(One x_7.2)⟩]) ?_ ?_
    ·skip;refine zg ?_;refine zn H10 fun _ ex_11 H10=>?_
     refine zX (ZaZ (ZcD [b0] (ZcL Zx trivial (by simp)) ArgB.d fun w v0 v1 hA h0 h1=>Zcv w v0 v1 hA h0 (toD h1) ex_11.h) rfl) ?_;refine zX (ZaZ OpY.eql64 rfl) ?_;refine zc H10 (fun hc H10=>?_) fun hc H10=>?_
     ·refine zg ?_;exact Zk (1:Int) () (ZZs H10) (Za (Za (Za (Za (Zd _))))) (Zc rfl (Ze _))
     ·refine zg ?_;exact Zk x_5.1 () (ZZs H10) (Za (Za (Za (Za (Zd _))))) (Zc rfl (Ze _))
    rintro block_9 ⟨⟩ hp;replace hp:=hp.symm;subst hp;refine zC ?_;refine zn H4 fun _ el_12 H4=>?_
    refine zX (ZC b0 (Zaj el_12.h)) ?_;obtain rfl:=(he4 _ (ZZs H4));exact ZA rfl () Cv.le (Zc rfl (Ze _))
   ·refine zg ?_;refine zc H4 (fun hc H4=>?_) fun hc H4=>?_
    ·refine zg ?_;obtain rfl:=(he4 _ (ZZs H4));exact ZA rfl () Cv.le (Zc rfl (Ze _))
    ·refine zg ?_;exact Zq x_7.2 () (ZZs H4) (Za (Za (Za (Za (Zd _))))) (Zc rfl (Ze _))
def Zau (s0:(List Wear)):Option (List Wear):=
 (Zc5 32 ((0+s0.length:Nat):Int)).bind fun _=>some s0
theorem ZdJ {s0:(List Wear)} {r:(List Wear)} (H:Zau s0=some r):CO1 193 [] (D s0) (fun g:Nat×Prop×Nat=>Sl g.1 g.2.1 0 (List.length r) g.2.2) fun g=>[⟨g.1,g.2.1,Row (r:List Wear) g.2.2⟩]:=eO1 Tryz.func193 rfl Tryz.ntmps193 fun A w hA hO=>by
 unfold Zau at H;refine zn H fun _ eu H=>?_
 obtain rfl:=ZZi H;refine zg ?_;refine TSx Zbw ?_;refine zC ?_;refine Zfl (fun hc=>?_) (fun hc=>?_)
 ·obtain rfl:=hc rfl;refine zg ?_;exact ZA rfl ⟨0,False,0⟩ Zcy (Zbc (Ze _))
 ·refine zg ?_;refine TS.build [] rfl rfl (by decide) rfl fun b=>zg ?_
  refine TS.app (ys:=s0) inferInstance eu.h rfl rfl rfl fun b1 p1 c1=>zg ?_
  exact ZA rfl ⟨b1,p1,c1⟩ (Zz (by simp)) (Zc rfl (Ze _))
def ZhD (rule0:(F1 Tryz.prog Wear Bool)) (x_1:(List Wear)) (x_5:Int) (some_6:(List Wear)):Option ((Int×(List Wear))⊕(List Wear)):=
 bif (decide (x_5<(x_1.length:Int))) then (((idx some_6 x_5).bind fun x_10=>(gb (!x_10.Bad) ((rule0).f x_10)).bind fun x_12=>bif (x_10.Bad||(!x_12)) then ((idx some_6 x_5).bind fun x_13=>(some ((some_6.set (Int.toNat x_5) (⟨0,0,0,true⟩:Wear)):(List Wear))).bind fun l_14=>some l_14) else (some some_6)).bind fun some_8=>(Zat x_5 1).bind fun x_15=>some (.inl (x_15,some_8))) else (some (.inr some_6))
def ZbP (l0:(List Wear)) (rule0:(F1 Tryz.prog Wear Bool)):Option (List Wear):=
 (Zau l0).bind fun x_1=>(ZM (fun s=>ZhD rule0 x_1 s.1 s.2) ((0:Int),x_1)).bind fun some_3=>some some_3
theorem Zlk {l0:(List Wear)} {rule0:(F1 Tryz.prog Wear Bool)} {r:(List Wear)} (H:ZbP l0 rule0=some r):CO2 174 [] (D l0) (D rule0) (fun g:Nat×Prop×Nat=>Sl g.1 g.2.1 0 (List.length r) g.2.2) fun g=>[⟨g.1,g.2.1,Row (r:List Wear) g.2.2⟩]:=eO2 Tryz.func174 rfl Tryz.ntmps174 fun A w hA hO=>by
 unfold ZbP at H;refine zg ?_;refine zn H fun x_1 ex_1 H=>?_
 refine Zdi (oc1 [] (ZdJ ex_1.h) toD) rfl fun ⟨b9_1,p9_1,c9_1⟩=>?_
 refine zw ?_;refine TSx (Zax (n:=x_1.length) rfl) ?_;refine zC ?_;refine zh H fun o_4 H4 H=>?_
 refine Zn (fun s:(List Wear)=>o_4=s) (fun (some_3:(List Wear)) (_:Unit)=>(Env.set Env.nil 5 (Sl b9_1 p9_1 0 some_3.length c9_1))) (fun (some_3:(List Wear)) (_:Unit)=>[⟨b9_1,p9_1,(Row (some_3:List Wear) c9_1)⟩]) ?_ ?_
 ·skip;refine Zp<|Zt H4 (fun ⟨x_5,some_6⟩ (_:Unit)=>(Env.set (Env.set (Env.set (Env.set (Env.set Env.nil 1 (D rule0)) 5 (Sl b9_1 p9_1 0 some_6.length c9_1)) 10 (Sl b9_1 p9_1 0 some_6.length c9_1)) 11 (D ((x_1.length:Int):Int))) 12 (D x_5))) (fun ⟨x_5,some_6⟩ (_:Unit)=>[⟨b9_1,p9_1,(Row (some_6:List Wear) c9_1)⟩]) () (Za (Za (Zj (Zz rfl) (Zj (Zz rfl) (Za (Zd _)))))) (Zc rfl (Ze _)) ?_;rintro ⟨x_5,some_6⟩ ⟨⟩ x_7 H7 he7;dsimp only at H7;unfold ZhD at H7;refine zg ?_;refine zc H7 (fun hc H7=>?_) fun hc H7=>?_
  ·refine ZaB<|Zak<|Zao ?_;refine zh H7 fun o_9 H9 H7=>?_
   refine Zn (fun s:(List Wear)=>o_9=s) (fun (some_8:(List Wear)) (_:Unit)=>(Env.set (Env.set (Env.set (Env.set (Env.set Env.nil 1 (D rule0)) 5 (Sl b9_1 p9_1 0 some_8.length c9_1)) 10 (Sl b9_1 p9_1 0 some_8.length c9_1)) 11 (D ((x_1.length:Int):Int))) 12 (D x_5))) (fun (some_8:(List Wear)) (_:Unit)=>[⟨b9_1,p9_1,(Row (some_8:List Wear) c9_1)⟩]) ?_ ?_
   ·skip;refine zg ?_;refine zn H9 fun _ ex_10 H9=>?_
    refine zX (ZaZ (Zm (ZI ex_10.h rfl)) rfl) ?_;refine TS.alloc rfl fun b7_10=>zg ?_
    refine zm H9 fun _ ex_12 H9=>?_
    refine zX (ZlE 19 rfl (fun hg=>(Zk5 (Zbv ex_12.h (nF hg.h)))) rfl) ?_;refine zc H9 (fun hc H9=>?_) fun hc H9=>?_
    ·refine zg ?_;refine TSx (tB (⟨0,0,0,true⟩:Wear) rfl rfl) ?_;refine zn H9 fun _ ex_13 H9=>?_
     refine TSx (Zm (ZI ex_13.h rfl)) ?_;refine zE ?_;refine zn H9 fun l_14 el_14 H9=>?_
     refine Zac b9_1 (ZY el_14.h)<|ZbL 5 _ (ZaK el_14.h (by simp)) ?_;refine zX (ZbL 10 _ (ZaK el_14.h (by simp))) ?_;exact Zk l_14 () (ZZs H9) (Za (Za (Zj (Zz rfl) (Zj (Zz rfl) (Za (Zd _)))))) (Zc rfl (Ze _))
    ·refine zg ?_;exact Zk some_6 () (ZZs H9) (Za (Za (Zj (Zz rfl) (Zj (Zz rfl) (Za (Zd _)))))) (Zc rfl (Ze _))
   rintro some_8 ⟨⟩ hp;replace hp:=hp.symm;subst hp;refine zg ?_;refine zb H7 fun x_15 _ H7=>?_
   exact Zq ⟨x_15,some_8⟩ () (ZZs H7) (Za (Za (Zj (Zz rfl) (Zj (Zz rfl) (Za (Zd _)))))) (Zc rfl (Ze _))
  ·refine zg ?_;exact Zk some_6 () (he7 _ (ZZs H7)).symm (Zj (Zz rfl) (Zd _)) (Zc rfl (Ze _))
 rintro some_3 ⟨⟩ hp;replace hp:=hp.symm;subst hp;refine zg ?_;obtain rfl:=ZZi H;exact ZA rfl ⟨b9_1,p9_1,c9_1⟩ (Zz rfl) (Zc rfl (Ze _))
instance flash_only_c:Fd2 174 ZbP fun r=>D r:=⟨fun w v0 v1 hA h0 h1 H=>(on2 (Zlk H) w v0 v1 hA h0 h1).mono fun e w' h=>Zhg hA h⟩
def Zcg (x0:Wear):Option Bool:=
 some (decide (x0.Live>(0:Int)))
instance flash_writer_front_1_c:Fd1 180 Zcg fun r=>D r:=en1 Tryz.func180 rfl Tryz.ntmps180 fun _ _ _ _ _ H=>by
 unfold Zcg at H;exact zY H
instance {Γ:Env}:Has Γ (.func 180) (D (⟨Zcg⟩:F1 Tryz.prog Wear Bool)):=⟨fun a A w _=>F1.const (P:=Tryz.prog) (f:=180) fun w v0 hA h0 e=>flash_writer_front_1_c.h w v0 hA h0 e⟩
def Zcf (x0:Wear):Option Bool:=
 some (decide (x0.Live=(0:Int)))
instance flash_writer_front_2_c:Fd1 181 Zcf fun r=>D r:=en1 Tryz.func181 rfl Tryz.ntmps181 fun _ _ _ _ _ H=>by
 unfold Zcf at H;exact zY H
instance {Γ:Env}:Has Γ (.func 181) (D (⟨Zcf⟩:F1 Tryz.prog Wear Bool)):=⟨fun a A w _=>F1.const (P:=Tryz.prog) (f:=181) fun w v0 hA h0 e=>flash_writer_front_2_c.h w v0 hA h0 e⟩
def Zb0 (x_2:(List Wear)) (idle_9:Int) (x_10:Int):Option ((Int×Int)⊕Int):=
 bif (decide (x_10<(x_2.length:Int))) then (((idx x_2 x_10).bind fun x_14=>bif ((!x_14.Bad)&&(decide (x_14.Live=(0:Int)))) then ((Zat idle_9 1).bind fun x_16=>some x_16) else (some idle_9)).bind fun idle_12=>(Zat x_10 1).bind fun x_17=>some (.inl (idle_12,x_17))) else (some (.inr idle_9))
def Zb1 (w0x:flash_writer) (lists0:((List (List Int))×(List Int))):Option (Int×Int×flash_writer):=
 (idx lists0.1 1).bind fun x_1=>(Zam w0x (lists0.1.set 1 lists0.2)).bind fun x_2=>(ZbP x_2 (⟨Zcg⟩:(F1 Tryz.prog Wear Bool))).bind fun x_4=>(Zdy x_4 w0x.Vol.Chip.Pages).bind fun r_5=>bif r_5.2 then ((Zat r_5.1 2).bind fun x_6=>some (x_6,(0:Int),w0x)) else ((ZM (fun s=>Zb0 x_2 s.1 s.2) ((0:Int),(0:Int))).bind fun idle_7=>bif ((decide (idle_7=(0:Int)))||((decide (idle_7=(1:Int)))&&(!w0x.beyond))) then (some ((0:Int),(5:Int),w0x)) else ((ZbP x_2 (⟨Zcf⟩:(F1 Tryz.prog Wear Bool))).bind fun x_18=>(Zdy x_18 w0x.Vol.Chip.Pages).bind fun r_19=>bif r_19.2 then ((Zat r_19.1 2).bind fun x_20=>some (x_20,(0:Int),w0x)) else ((ZdH x_18 w0x.Vol.Chip.Pages).bind fun r_21=>(Zat r_21.1 2).bind fun x_22=>(Zat r_21.1 2).bind fun x_23=>(ZV w0x x_23).bind fun x_24=>some (x_22,x_24.1,x_24.2))))
theorem Zi8 {w0x:flash_writer} {lists0:((List (List Int))×(List Int))} {b0:Nat} {b1 c1:Nat} {p1:Prop} {b1v c1v:Nat} {p1v:Prop} {r:(Int×Int×flash_writer)} (H:Zb1 w0x lists0=some r):CO2 150 [⟨b0,True,One w0x⟩,⟨b1,p1,Ct.mix (Row (lists0.1:List (List Int)) c1) 1 (Sl b1v p1v 0 (List.length lists0.2) c1v)⟩,⟨b1v,p1v,Row (lists0.2:List Int) c1v⟩] (Pt b0 0) (Sl b1 p1 0 lists0.1.length c1) (fun g:Unit=>Tup [D r.1,D r.2.1]) fun g=>[⟨b0,True,One r.2.2⟩,⟨b1,p1,Ct.mix (Row (lists0.1:List (List Int)) c1) 1 (Sl b1v p1v 0 (List.length lists0.2) c1v)⟩,⟨b1v,p1v,Row (lists0.2:List Int) c1v⟩]:=eO2 Tryz.func150 rfl Tryz.ntmps150 fun A w hA hO=>by
 unfold Zb1 at H;refine zC ?_;refine zX (Za9 [2,9] [b1,b1v] mix (by kernel_rfl) (by kernel_rfl)) ?_;refine zn H fun _ ex_1 H=>?_
 refine zn H fun x_2 ex_2 H=>?_
 refine zX (Zfz (fun g=>(Zgc (xs:=x_2) [b0,b1,b1v] (ZcL Zx trivial (by simp)) (ArgB.svMix rfl rfl rfl (by have:=(Zif ex_1.h).2;omega) (by simp) (by simp)) fun w v0 v1 hA hO hap hks h0 h1=>Zb4 ex_2.h w v0 v1 hA hO hap hks h0 (toD h1))) rfl) ?_;refine Zfz (fun g=>Zgd rfl Zey) rfl ?_;refine zC ?_;rintro ⟨⟨_,⟨b20_2,p20_2,c20_2⟩⟩,_⟩;dsimp only [Fam.nextS,Fam.nextN,Fam.one,List.cons_append,List.nil_append];refine zg ?_;refine TS.pub b20_2 (PubE.set 28 (ZG PlS.all rfl) (PubE.set 6 (ZG PlS.all rfl) PubE.refl)) ?_;refine zb H fun _ _ H=>?_
 refine zb H fun _ _ H=>?_
 refine zc H (fun hc H=>?_) fun hc H=>?_
 ·refine zg ?_;refine zb H fun _ _ H=>?_
  obtain rfl:=ZZi H;exact Zap rfl rfl () (.cons Cv.le (.cons Cv.le .nil)) (Zc rfl (Zc rfl (Zc rfl (Ze _))))
 ·refine zC ?_;refine zC ?_;refine zh H fun o_8 H8 H=>?_
  refine Zn (fun s:Int=>o_8=s) (fun (idle_7:Int) (_:Unit)=>(Env.set (Env.set (Env.set (Env.set Env.nil 0 (Pt b0 0)) 6 (D x_2)) 7 (D w0x.Vol.Chip.Pages)) 10 (D idle_7))) (fun (idle_7:Int) (_:Unit)=>[⟨b0,True,(One w0x)⟩,⟨b1,p1,(Ct.mix (Row (lists0.1:List (List Int)) c1) 1 (Sl b1v p1v 0 lists0.2.length c1v))⟩,⟨b1v,p1v,(Row (lists0.2:List Int) c1v)⟩]) ?_ ?_
  ·skip;refine Zp<|Zt H8 (fun ⟨idle_9,x_10⟩ (_:Unit)=>(Env.set (Env.set (Env.set (Env.set (Env.set (Env.set (Env.set Env.nil 0 (Pt b0 0)) 6 (D x_2)) 7 (D w0x.Vol.Chip.Pages)) 10 (D idle_9)) 37 (D x_2)) 38 (D ((x_2.length:Int):Int))) 39 (D x_10))) (fun ⟨idle_9,x_10⟩ (_:Unit)=>[⟨b0,True,(One w0x)⟩,⟨b1,p1,(Ct.mix (Row (lists0.1:List (List Int)) c1) 1 (Sl b1v p1v 0 lists0.2.length c1v))⟩,⟨b1v,p1v,(Row (lists0.2:List Int) c1v)⟩]) () (Za (Za (Za (Za (Za (Za (Za (Zd _)))))))) (Zc rfl (Zc rfl (Zc rfl (Ze _)))) ?_;rintro ⟨idle_9,x_10⟩ ⟨⟩ x_11 H11 he11;dsimp only at H11;unfold Zb0 at H11;refine zg ?_;refine zc H11 (fun hc H11=>?_) fun hc H11=>?_
   ·refine ZaB<|Zak<|Zao ?_;refine zh H11 fun o_13 H13 H11=>?_
    refine Zn (fun s:Int=>o_13=s) (fun (idle_12:Int) (_:Unit)=>(Env.set (Env.set (Env.set (Env.set (Env.set (Env.set (Env.set Env.nil 0 (Pt b0 0)) 6 (D x_2)) 7 (D w0x.Vol.Chip.Pages)) 10 (D idle_12)) 37 (D x_2)) 38 (D ((x_2.length:Int):Int))) 39 (D x_10))) (fun (idle_12:Int) (_:Unit)=>[⟨b0,True,(One w0x)⟩,⟨b1,p1,(Ct.mix (Row (lists0.1:List (List Int)) c1) 1 (Sl b1v p1v 0 lists0.2.length c1v))⟩,⟨b1v,p1v,(Row (lists0.2:List Int) c1v)⟩]) ?_ ?_
    ·skip;refine zg ?_;refine zb H13 fun _ _ H13=>?_
     refine TS.alloc rfl fun b12_14=>zg ?_
     refine zc H13 (fun hc H13=>?_) fun hc H13=>?_
     ·refine zg ?_;refine zb H13 fun x_16 _ H13=>?_
      exact Zk x_16 () (ZZs H13) (Za (Za (Za (Za (Za (Za (Za (Zd _)))))))) (Zc rfl (Zc rfl (Zc rfl (Ze _))))
     ·refine zg ?_;exact Zk idle_9 () (ZZs H13) (Za (Za (Za (Za (Za (Za (Za (Zd _)))))))) (Zc rfl (Zc rfl (Zc rfl (Ze _))))
    rintro idle_12 ⟨⟩ hp;replace hp:=hp.symm;subst hp;refine zg ?_;refine zb H11 fun x_17 _ H11=>?_
    exact Zq ⟨idle_12,x_17⟩ () (ZZs H11) (Za (Za (Za (Za (Za (Za (Za (Zd _)))))))) (Zc rfl (Zc rfl (Zc rfl (Ze _))))
   ·refine zg ?_;exact Zk idle_9 () (he11 _ (ZZs H11)).symm (Za (Za (Za (Za (Zd _))))) (Zc rfl (Zc rfl (Zc rfl (Ze _))))
  rintro idle_7 ⟨⟩ hp;replace hp:=hp.symm;subst hp;refine zg ?_;refine zc H (fun hc H=>?_) fun hc H=>?_
  ·refine zg ?_;obtain rfl:=ZZi H;exact Zap rfl rfl () (.cons Cv.le (.cons Cv.le .nil)) (Zc rfl (Zc rfl (Zc rfl (Ze _))))
  ·refine zg ?_;refine zb H fun _ _ H=>?_
   refine zb H fun _ _ H=>?_
   refine zc H (fun hc H=>?_) fun hc H=>?_
   ·refine zg ?_;refine zb H fun _ _ H=>?_
    obtain rfl:=ZZi H;exact Zap rfl rfl () (.cons Cv.le (.cons Cv.le .nil)) (Zc rfl (Zc rfl (Zc rfl (Ze _))))
   ·refine zg ?_;refine zb H fun _ _ H=>?_
    refine zb H fun _ _ H=>?_
    refine zb H fun _ _ H=>?_
    refine zn H fun _ ex_24 H=>?_
    refine Zdi (oc2 [b0] (Zbs ex_24.h) id toD) rfl fun _=>?_
    refine zw ?_;obtain rfl:=ZZi H;exact Zap rfl rfl () (.cons Cv.le (.cons Cv.le .nil)) (Zc rfl (Zc rfl (Zc rfl (Ze _))))
def Zdc (w0x:flash_writer) (x_1:(List Wear)) (all_6:Int) (most_7:Int) (x_8:Int):Option ((Int×Int×Int)⊕(Int×Int)):=
 bif (decide (x_8<(x_1.length:Int))) then (((idx x_1 x_8).bind fun x_13=>bif x_13.Bad then (some (all_6,most_7)) else ((Zgh w0x.Vol.Chip.Pages x_13.Used).bind fun x_15=>(bif (decide (x_13.Live=(0:Int))) then ((bif (decide (x_15=(0:Int))) then (some w0x.Vol.Chip.Pages) else (some x_15)).bind fun many_19=>some ((max most_7 many_19),many_19)) else (some (most_7,x_15))).bind fun o_18=>el2 o_18 (fun most_16 many_17=>(Zat all_6 many_17).bind fun x_21=>some (x_21,most_16)))).bind fun o_12=>el2 o_12 (fun all_10 most_11=>(Zat x_8 1).bind fun x_22=>some (.inl (all_10,most_11,x_22)))) else (some (.inr (all_6,most_7)))
def Zcm (w0x:flash_writer):Option (Int×Int):=
 (Zam w0x ([w0x.Vol.At]:List (List Int))).bind fun x_1=>(ZM (fun s=>Zdc w0x x_1 s.1 s.2.1 s.2.2) ((0:Int),(0:Int),(0:Int))).bind fun o_5=>el2 o_5 (fun all_3 most_4=>(Zgh all_3 most_4).bind fun x_23=>some (x_23,all_3))
theorem ZjA {w0x:flash_writer} {b0:Nat} {r:(Int×Int)} (H:Zcm w0x=some r):CO1 147 [⟨b0,True,One w0x⟩] (Pt b0 0) (fun g:Unit=>Tup [D r.1,D r.2]) fun g=>[⟨b0,True,One w0x⟩]:=eO1 Tryz.func147 rfl Tryz.ntmps147 fun A w hA hO=>by
 unfold Zcm at H;refine zg ?_;refine TSx (OpY.buildSlice [.tmp 14] rfl rfl (by decide)) ?_;refine zn H fun x_1 ex_1 H=>?_
 refine Zdi (Zgc (xs:=x_1) [b0] (ZcL Zx trivial (by simp)) ArgB.d fun w v0 v1 hA hO hap hks h0 h1=>Zb4 ex_1.h w v0 v1 hA hO hap hks h0 (toD h1)) rfl fun ⟨b16_1,p16_1,c16_1⟩=>?_
 refine TSx (Zax (n:=x_1.length) rfl) ?_;refine zC ?_;refine zh H fun o_5 H5 H=>?_
 refine Zn (fun s:(Int×Int)=>o_5=s) (fun ⟨all_3,most_4⟩ (_:Unit)=>(Env.set (Env.set Env.nil 4 (D all_3)) 5 (D most_4))) (fun ⟨all_3,most_4⟩ (_:Unit)=>[⟨b0,True,(One w0x)⟩]) ?_ ?_
 ·skip;refine Zp<|Zt H5 (fun ⟨all_6,most_7,x_8⟩ (_:Unit)=>(Env.set (Env.set (Env.set (Env.set (Env.set (Env.set Env.nil 0 (Pt b0 0)) 4 (D all_6)) 5 (D most_7)) 16 (Sl b16_1 p16_1 0 x_1.length c16_1)) 17 (D ((x_1.length:Int):Int))) 18 (D x_8))) (fun ⟨all_6,most_7,x_8⟩ (_:Unit)=>[⟨b16_1,p16_1,(Row (x_1:List Wear) c16_1)⟩,⟨b0,True,(One w0x)⟩]) () (Za (Za (Zj (Zz rfl) (Za (Za (Za (Zd _))))))) (Zc rfl (Zc rfl (Ze _))) ?_;rintro ⟨all_6,most_7,x_8⟩ ⟨⟩ x_9 H9 he9;dsimp only at H9;unfold Zdc at H9;refine zg ?_;refine zc H9 (fun hc H9=>?_) fun hc H9=>?_
  ·refine ZaB<|Zak<|Zao ?_;refine zh H9 fun o_12 H12 H9=>?_
   refine Zn (fun s:(Int×Int)=>o_12=s) (fun ⟨all_10,most_11⟩ (_:Unit)=>(Env.set (Env.set (Env.set (Env.set (Env.set (Env.set Env.nil 0 (Pt b0 0)) 4 (D all_10)) 5 (D most_11)) 16 (Sl b16_1 p16_1 0 x_1.length c16_1)) 17 (D ((x_1.length:Int):Int))) 18 (D x_8))) (fun ⟨all_10,most_11⟩ (_:Unit)=>[⟨b16_1,p16_1,(Row (x_1:List Wear) c16_1)⟩,⟨b0,True,(One w0x)⟩]) ?_ ?_
   ·skip;refine zg ?_;refine zn H12 fun _ ex_13 H12=>?_
    refine zX (ZaZ (Zm (ZI ex_13.h rfl)) rfl) ?_;refine TS.alloc rfl fun b7_13=>zg ?_
    refine zc H12 (fun hc H12=>?_) fun hc H12=>?_
    ·refine zg ?_;exact Zk ⟨all_6,most_7⟩ () (ZZs H12) (Za (Za (Zj (Zz rfl) (Za (Za (Za (Zd _))))))) (Zc rfl (Zc rfl (Ze _)))
    ·refine zg ?_;refine zo H12 fun x_15 _ H12=>?_
     refine zC ?_;refine Zao ?_;refine zh H12 fun o_18 H18 H12=>?_
     refine Zn (fun s:(Int×Int)=>o_18=s) (fun ⟨most_16,many_17⟩ (_:Unit)=>(Env.set (Env.set (Env.set (Env.set (Env.set (Env.set (Env.set Env.nil 0 (Pt b0 0)) 4 (D all_6)) 5 (D most_16)) 8 (D many_17)) 16 (Sl b16_1 p16_1 0 x_1.length c16_1)) 17 (D ((x_1.length:Int):Int))) 18 (D x_8))) (fun ⟨most_16,many_17⟩ (_:Unit)=>[⟨b16_1,p16_1,(Row (x_1:List Wear) c16_1)⟩,⟨b0,True,(One w0x)⟩]) ?_ ?_
     ·skip;refine zg ?_;refine zc H18 (fun hc H18=>?_) fun hc H18=>?_
      ·refine Zao ?_;refine zh H18 fun o_20 H20 H18=>?_
       refine Zn (fun s:Int=>o_20=s) (fun (many_19:Int) (_:Unit)=>(Env.set (Env.set (Env.set (Env.set (Env.set (Env.set (Env.set Env.nil 0 (Pt b0 0)) 4 (D all_6)) 5 (D most_7)) 8 (D many_19)) 16 (Sl b16_1 p16_1 0 x_1.length c16_1)) 17 (D ((x_1.length:Int):Int))) 18 (D x_8))) (fun (many_19:Int) (_:Unit)=>[⟨b16_1,p16_1,(Row (x_1:List Wear) c16_1)⟩,⟨b0,True,(One w0x)⟩]) ?_ ?_
       ·skip;refine zg ?_;refine zc H20 (fun hc H20=>?_) fun hc H20=>?_
        ·refine zg ?_;exact Zk w0x.Vol.Chip.Pages () (ZZs H20) (Za (Za (Zj (Zz rfl) (Za (Za (Za (Za (Zd _)))))))) (Zc rfl (Zc rfl (Ze _)))
        ·refine zg ?_;exact Zk x_15 () (ZZs H20) (Za (Za (Zj (Zz rfl) (Za (Za (Za (Za (Zd _)))))))) (Zc rfl (Zc rfl (Ze _)))
       rintro many_19 ⟨⟩ hp;replace hp:=hp.symm;subst hp;refine zg ?_;exact Zk ⟨(max most_7 many_19),many_19⟩ () (ZZs H18) (Za (Za (Zj (Zz rfl) (Za (Za (Za (Za (Zd _)))))))) (Zc rfl (Zc rfl (Ze _)))
      ·refine zg ?_;exact Zk ⟨most_7,x_15⟩ () (ZZs H18) (Za (Za (Zj (Zz rfl) (Za (Za (Za (Za (Zd _)))))))) (Zc rfl (Zc rfl (Ze _)))
     rintro ⟨most_16,many_17⟩ ⟨⟩ hp;replace hp:=hp.symm;subst hp;replace H12:=Zd8 H12;refine zg ?_;refine zb H12 fun x_21 _ H12=>?_
     exact Zk ⟨x_21,most_16⟩ () (ZZs H12) (Za (Za (Zj (Zz rfl) (Za (Za (Za (Zd _))))))) (Zc rfl (Zc rfl (Ze _)))
   rintro ⟨all_10,most_11⟩ ⟨⟩ hp;replace hp:=hp.symm;subst hp;replace H9:=Zd8 H9;refine zg ?_;refine zb H9 fun x_22 _ H9=>?_
   exact Zq ⟨all_10,most_11,x_22⟩ () (ZZs H9) (Za (Za (Zj (Zz rfl) (Za (Za (Za (Zd _))))))) (Zc rfl (Zc rfl (Ze _)))
  ·refine zg ?_;exact Zk ⟨all_6,most_7⟩ () (he9 _ (ZZs H9)).symm (Za (Za (Zd _))) (Zc rfl (Ze _))
 rintro ⟨all_3,most_4⟩ ⟨⟩ hp;replace hp:=hp.symm;subst hp;replace H:=Zd8 H;refine zg ?_;refine zb H fun _ _ H=>?_
 obtain rfl:=ZZi H;exact Zap rfl rfl () (.cons Cv.le (.cons Cv.le .nil)) (Zc rfl (Ze _))
end Go.Proofs.YtkmojgfenlgchaaGreatDoor.Tr
namespace Go.Proofs.YtkmojgfenlgchaaGreatDoor.Tr
open Go Go.RowKit
set_option maxRecDepth 100000
set_option synthInstance.maxHeartbeats 400000
set_option synthInstance.maxSize 4096
def ZcF (l0:(List Wear)) (at_5:Int) (most_6:Int) (x_7:Int):Option ((Int×Int×Int)⊕(Int×Int)):=
 bif (decide (x_7<(l0.length:Int))) then (((idx l0 x_7).bind fun x_12=>bif ((x_12.Bad||(decide (x_12.Live=(0:Int))))||(decide (x_12.Worn≥(1099511627776:Int)))) then (some (at_5,most_6)) else ((Zgh x_12.Used x_12.Live).bind fun x_14=>bif (decide (x_14>most_6)) then (some (x_7,x_14)) else (some (at_5,most_6)))).bind fun o_11=>el2 o_11 (fun at_9 most_10=>(Zat x_7 1).bind fun x_15=>some (.inl (at_9,most_10,x_15)))) else (some (.inr (at_5,most_6)))
def ZbF (w0x:flash_writer) (l0:(List Wear)):Option (Int×Bool):=
 (ZfD l0 w0x.Vol.Chip.Pages).bind fun r_1=>bif r_1.2 then (some (r_1.1,true)) else ((ZM (fun s=>ZcF l0 s.1 s.2.1 s.2.2) ((0:Int),(0:Int),(0:Int))).bind fun o_4=>el2 o_4 (fun at_2 most_3=>some (at_2,(decide (most_3>(0:Int))))))
theorem Zii {w0x:flash_writer} {l0:(List Wear)} {b0:Nat} {r:(Int×Bool)} (H:ZbF w0x l0=some r):CO2 171 [⟨b0,True,One w0x⟩] (Pt b0 0) (D l0) (fun g:Unit=>Tup [D r.1,D r.2]) fun g=>[⟨b0,True,One w0x⟩]:=eO2 Tryz.func171 rfl Tryz.ntmps171 fun A w hA hO=>by
 unfold ZbF at H;refine zg ?_;refine zb H fun _ _ H=>?_
 refine zc H (fun hc H=>?_) fun hc H=>?_
 ·refine zg ?_;obtain rfl:=ZZi H;exact Zap rfl rfl () (.cons Cv.le (.cons Cv.le .nil)) (Zc rfl (Ze _))
 ·refine zC ?_;refine zC ?_;refine zh H fun o_4 H4 H=>?_
  refine Zn (fun s:(Int×Int)=>o_4=s) (fun ⟨at_2,most_3⟩ (_:Unit)=>(Env.set (Env.set Env.nil 8 (D at_2)) 9 (D most_3))) (fun ⟨at_2,most_3⟩ (_:Unit)=>[⟨b0,True,(One w0x)⟩]) ?_ ?_
  ·skip;refine Zp<|Zt H4 (fun ⟨at_5,most_6,x_7⟩ (_:Unit)=>(Env.set (Env.set (Env.set (Env.set (Env.set Env.nil 8 (D at_5)) 9 (D most_6)) 26 (D l0)) 27 (D ((l0.length:Int):Int))) 28 (D x_7))) (fun ⟨at_5,most_6,x_7⟩ (_:Unit)=>[⟨b0,True,(One w0x)⟩]) () (Za (Za (Za (Za (Za (Zd _)))))) (Zc rfl (Ze _)) ?_;rintro ⟨at_5,most_6,x_7⟩ ⟨⟩ x_8 H8 he8;dsimp only at H8;unfold ZcF at H8;refine zg ?_;refine zc H8 (fun hc H8=>?_) fun hc H8=>?_
   ·refine ZaB<|Zak<|Zao ?_;refine zh H8 fun o_11 H11 H8=>?_
    refine Zn (fun s:(Int×Int)=>o_11=s) (fun ⟨at_9,most_10⟩ (_:Unit)=>(Env.set (Env.set (Env.set (Env.set (Env.set Env.nil 8 (D at_9)) 9 (D most_10)) 26 (D l0)) 27 (D ((l0.length:Int):Int))) 28 (D x_7))) (fun ⟨at_9,most_10⟩ (_:Unit)=>[⟨b0,True,(One w0x)⟩]) ?_ ?_
    ·skip;refine zg ?_;refine zb H11 fun _ _ H11=>?_
     refine TS.alloc rfl fun b11_12=>zg ?_
     refine zc H11 (fun hc H11=>?_) fun hc H11=>?_
     ·refine zg ?_;exact Zk ⟨at_5,most_6⟩ () (ZZs H11) (Za (Za (Za (Za (Za (Zd _)))))) (Zc rfl (Ze _))
     ·refine zg ?_;refine zb H11 fun x_14 _ H11=>?_
      refine zc H11 (fun hc H11=>?_) fun hc H11=>?_
      ·refine zg ?_;exact Zk ⟨x_7,x_14⟩ () (ZZs H11) (Za (Za (Za (Za (Za (Zd _)))))) (Zc rfl (Ze _))
      ·refine zg ?_;exact Zk ⟨at_5,most_6⟩ () (ZZs H11) (Za (Za (Za (Za (Za (Zd _)))))) (Zc rfl (Ze _))
    rintro ⟨at_9,most_10⟩ ⟨⟩ hp;replace hp:=hp.symm;subst hp;replace H8:=Zd8 H8;refine zg ?_;refine zb H8 fun x_15 _ H8=>?_
    exact Zq ⟨at_9,most_10,x_15⟩ () (ZZs H8) (Za (Za (Za (Za (Za (Zd _)))))) (Zc rfl (Ze _))
   ·refine zg ?_;exact Zk ⟨at_5,most_6⟩ () (he8 _ (ZZs H8)).symm (Za (Za (Zd _))) (Zc rfl (Ze _))
  rintro ⟨at_2,most_3⟩ ⟨⟩ hp;replace hp:=hp.symm;subst hp;replace H:=Zd8 H;refine zg ?_;obtain rfl:=ZZi H;exact Zap rfl rfl () (.cons Cv.le (.cons Cv.le .nil)) (Zc rfl (Ze _))
def Zb3 (w0x:flash_writer):Option Bool:=
 some (decide ((UInt64.ofNat 281474976710656)≤(w0x.Vol.Gen+(UInt64.ofNat 2))))
theorem Zja {A:Nat→Prop} {w0x:flash_writer}  {r:Bool} (w:World) (v0:Value) (hA:∀ k,w.heap.size≤k→A k)  (h0:(ZlG w0x).p A w v0) (H:Zb3 w0x=some r) :
    Calls Tryz.prog 172 #[v0] w (Ret A w (D r)):=by
 unfold Zb3 at H;refine zX (enter1 hA Tryz.func172 rfl Tryz.ntmps172 rfl h0) ?_;refine TSx ZiA<|TSx Zkv ?_;exact zY H
def ZbW (x0:Wear):Option Bool:=
 some (decide (x0.Used=(0:Int)))
instance flash_writer_target_1_c:Fd1 208 ZbW fun r=>D r:=en1 Tryz.func208 rfl Tryz.ntmps208 fun _ _ _ _ _ H=>by
 unfold ZbW at H;exact zY H
instance {Γ:Env}:Has Γ (.func 208) (D (⟨ZbW⟩:F1 Tryz.prog Wear Bool)):=⟨fun a A w _=>F1.const (P:=Tryz.prog) (f:=208) fun w v0 hA h0 e=>flash_writer_target_1_c.h w v0 hA h0 e⟩
def ZcU (x0:Wear) (cap1:Int):Option Bool:=
 some (decide (x0.Used=cap1))
theorem ZhC {A:Nat→Prop} {x0:Wear} {cap1:Int}  {r:Bool} (w:World) (v0 v1:Value) (hA:∀ k,w.heap.size≤k→A k)  (h0:(D x0).p A w v0) (h1:(ZlG cap1).p A w v1) (H:ZcU x0 cap1=some r) :
    Calls Tryz.prog 209 #[v0,v1] w (Ret A w (D r)):=by
 unfold ZcU at H;refine enter2 hA Tryz.func209 rfl Tryz.ntmps209 rfl h0 h1 ?_;exact zY H
def ZbV (x0:Wear):Option Bool:=
 some (decide (x0.Worn<(1099511627776:Int)))
instance flash_writer_target_3_c:Fd1 210 ZbV fun r=>D r:=en1 Tryz.func210 rfl Tryz.ntmps210 fun _ _ _ _ _ H=>by
 unfold ZbV at H;exact zY H
instance {Γ:Env}:Has Γ (.func 210) (D (⟨ZbV⟩:F1 Tryz.prog Wear Bool)):=⟨fun a A w _=>F1.const (P:=Tryz.prog) (f:=210) fun w v0 hA h0 e=>flash_writer_target_3_c.h w v0 hA h0 e⟩
def ZbH (w0x:flash_writer) (l0:(List Wear)):Option (Int×Int×flash_writer):=
 (ZbP l0 (⟨ZbW⟩:(F1 Tryz.prog Wear Bool))).bind fun x_2=>(Zdy x_2 w0x.Vol.Chip.Pages).bind fun r_3=>bif r_3.2 then ((Zat r_3.1 2).bind fun x_4=>some (x_4,(0:Int),w0x)) else ((ZbP l0 (⟨fun x0=>ZcU x0 w0x.Vol.Chip.Pages⟩:(F1 Tryz.prog Wear Bool))).bind fun x_5=>(ZdH x_5 w0x.Vol.Chip.Pages).bind fun r_6=>bif r_6.2 then ((Zat r_6.1 2).bind fun x_7=>(Zat r_6.1 2).bind fun x_8=>(ZV w0x x_8).bind fun x_9=>some (x_7,x_9.1,x_9.2)) else ((ZbP l0 (⟨ZbV⟩:(F1 Tryz.prog Wear Bool))).bind fun x_11=>(ZdH x_11 w0x.Vol.Chip.Pages).bind fun r_12=>bif r_12.2 then ((Zat r_12.1 2).bind fun x_13=>(Zat r_12.1 2).bind fun x_14=>(ZV w0x x_14).bind fun x_15=>some (x_13,x_15.1,x_15.2)) else (some ((0:Int),(6:Int),w0x))))
theorem Zij {w0x:flash_writer} {l0:(List Wear)} {b0:Nat} {r:(Int×Int×flash_writer)} (H:ZbH w0x l0=some r):CO2 194 [⟨b0,True,One w0x⟩] (Pt b0 0) (D l0) (fun g:Unit=>Tup [D r.1,D r.2.1]) fun g=>[⟨b0,True,One r.2.2⟩]:=eO2 Tryz.func194 rfl Tryz.ntmps194 fun A w hA hO=>by
 unfold ZbH at H;refine zg ?_;refine TS.alloc rfl fun b6_0=>zg ?_
 refine zb H fun _ _ H=>?_
 refine zb H fun _ _ H=>?_
 refine zc H (fun hc H=>?_) fun hc H=>?_
 ·refine zg ?_;refine zb H fun _ _ H=>?_
  obtain rfl:=ZZi H;exact Zap rfl rfl () (.cons Cv.le (.cons Cv.le .nil)) (Zc rfl (Ze _))
 ·refine zg ?_;refine TS.pub b6_0 (PubE.set 6 (PubC.pq Zx) PubE.refl) ?_;refine TSx (OpY.mk1_1 fun w v0 v1 hA h0 h1 e=>ZhC w v0 v1 hA h0 h1 e) ?_;refine zb H fun _ _ H=>?_
  refine zb H fun _ _ H=>?_
  refine zc H (fun hc H=>?_) fun hc H=>?_
  ·refine zg ?_;refine zb H fun _ _ H=>?_
   refine zb H fun _ _ H=>?_
   refine zn H fun _ ex_9 H=>?_
   refine Zdi (oc2 [b0] (Zbs ex_9.h) id toD) rfl fun _=>?_
   refine zw ?_;obtain rfl:=ZZi H;exact Zap rfl rfl () (.cons Cv.le (.cons Cv.le .nil)) (Zc rfl (Ze _))
  ·refine zg ?_;refine zb H fun _ _ H=>?_
   refine zb H fun _ _ H=>?_
   refine zc H (fun hc H=>?_) fun hc H=>?_
   ·refine zg ?_;refine zb H fun _ _ H=>?_
    refine zb H fun _ _ H=>?_
    refine zn H fun _ ex_15 H=>?_
    refine Zdi (oc2 [b0] (Zbs ex_15.h) id toD) rfl fun _=>?_
    refine zw ?_;obtain rfl:=ZZi H;exact Zap rfl rfl () (.cons Cv.le (.cons Cv.le .nil)) (Zc rfl (Ze _))
   ·refine zg ?_;obtain rfl:=ZZi H;exact Zap rfl rfl () (.cons Cv.le (.cons Cv.le .nil)) (Zc rfl (Ze _))
def ZaA (e0:Int):Option Int:=
 bif (decide (e0=(9:Int))) then (some (0:Int)) else (some e0)
instance flash_settled_c:Fd1 177 ZaA fun r=>D r:=en1 Tryz.func177 rfl Tryz.ntmps177 fun _ _ _ _ _ H=>by
 unfold ZaA at H;exact zY H
def Zdd (w0x:flash_writer) (from0:Int) (to0:Int) (x_6:Int) (at_7:(List Int)) (w_8:flash_writer):Option ((Int×(List Int)×flash_writer)⊕(((List Int)×flash_writer)⊕(Bool×Int×flash_writer))):=
 bif (decide (x_6<(w0x.Vol.At.length:Int))) then (((idx w0x.Vol.At x_6).bind fun x_13=>(gb (!(decide (x_13=(0:Int)))) (Zgh x_13 1)).bind fun x_14=>(gb (!(decide (x_13=(0:Int)))) (ZjM x_14 w0x.Vol.Chip.Pages)).bind fun x_15=>bif ((decide (x_13=(0:Int)))||(decide (x_15≠from0))) then (some (.inl (at_7,w_8))) else ((bif (decide (to0<(0:Int))) then ((idx ([w_8.Vol.At,[]]:List (List Int)) 1).bind fun x_19=>(Zam w_8 (([w_8.Vol.At,[]]:List (List Int)).set 1 at_7)).bind fun x_20=>(Zgh from0 2).bind fun x_22=>(idx x_20 x_22).bind fun x_23=>(some ((x_20.set (Int.toNat x_22) (⟨0,0,0,true⟩:Wear)):(List Wear))).bind fun l_24=>(Zdy l_24 w0x.Vol.Chip.Pages).bind fun r_25=>bif (!r_25.2) then (some (.inr (false,(6:Int),w_8))) else ((Zat r_25.1 2).bind fun x_29=>some (.inl x_29))) else (some (.inl to0))).bind fun o_17=>elS o_17 (fun block_16=>(Zft w_8.Vol x_6).bind fun x_30=>(some ((⟨(1:Int),x_6,(w_8.Vol.Gen+(UInt64.ofNat 1)),x_30⟩:Page):Page)).bind fun px_32=>(Zfc px_32 w_8.Vol.Chip.Size).bind fun r_33=>bif (decide (r_33.2≠(0:Int))) then (some (.inr (false,r_33.2,w_8))) else ((idx w_8.Vol.Chip.Blocks block_16).bind fun x_36=>(ZK w_8 block_16 r_33.1).bind fun x_37=>bif (decide (x_37.1≠(0:Int))) then ((ZaA x_37.1).bind fun x_39=>some (.inr (false,x_39,x_37.2))) else ((mulI block_16 w0x.Vol.Chip.Pages).bind fun x_42=>(Zat x_42 x_36.Used).bind fun x_43=>(Zat x_43 1).bind fun x_44=>(idx at_7 x_6).bind fun x_45=>(some ((at_7.set (Int.toNat x_6) x_44):(List Int))).bind fun l_46=>some (.inl (l_46,x_37.2))))) (fun q=>some (.inr q)))).bind fun o_12=>elS o_12 (fun s=>el2 s (fun at_10 w_11=>(Zat x_6 1).bind fun x_47=>some (.inl (x_47,at_10,w_11)))) (fun q=>some (.inr (.inr q)))) else (some (.inr (.inl (at_7,w_8))))
def ZbA (w0x:flash_writer) (from0:Int) (to0:Int):Option (Bool×Int×flash_writer):=
 (ZaN w0x.Vol.At).bind fun x_1=>(ZM (fun s=>Zdd w0x from0 to0 s.1 s.2.1 s.2.2) ((0:Int),x_1,w0x)).bind fun o_5=>elS o_5 (fun s=>el2 s (fun at_3 w_4=>(Zbk w_4 at_3).bind fun x_48=>some ((decide (x_48.1=(0:Int))),x_48.1,x_48.2))) (fun q=>some q)
theorem ZjB {w0x:flash_writer} {from0:Int} {to0:Int} {b0:Nat} {r:(Bool×Int×flash_writer)} (H:ZbA w0x from0 to0=some r):CO3 196 [⟨b0,True,One w0x⟩] (Pt b0 0) (D from0) (D to0) (fun g:Unit=>Tup [D r.1,D r.2.1]) fun g=>[⟨b0,True,One r.2.2⟩]:=eO3 Tryz.func196 rfl Tryz.ntmps196 fun A w hA hO=>by
 unfold ZbA at H;refine zg ?_;refine zn H fun _ ex_1 H=>?_
 refine Zdi (oc1 [] (ZdI ex_1.h) toD) rfl fun ⟨b32_1,p32_1,c32_1⟩=>?_
 dsimp only [List.cons_append,List.nil_append];refine zC ?_;refine zC ?_;refine zh H fun o_5 H5 H=>?_
 refine Zn (fun s:((List Int)×flash_writer)=>o_5=.inl s) (fun ⟨at_3,w_4⟩ (_:Unit)=>(Env.set (Env.set Env.nil 0 (Pt b0 0)) 9 (Sl b32_1 p32_1 0 at_3.length c32_1))) (fun ⟨at_3,w_4⟩ (_:Unit)=>[⟨b32_1,p32_1,(Row (at_3:List Int) c32_1)⟩,⟨b0,True,(One w_4)⟩]) ?_ ?_
 ·skip;refine Zp<|Zt H5 (fun ⟨x_6,at_7,w_8⟩ (_:Unit)=>(Env.set (Env.set (Env.set (Env.set (Env.set (Env.set (Env.set (Env.set Env.nil 0 (Pt b0 0)) 1 (D from0)) 2 (D to0)) 8 (D w0x.Vol.Chip.Pages)) 9 (Sl b32_1 p32_1 0 at_7.length c32_1)) 37 (D w0x.Vol.At)) 38 (D ((w0x.Vol.At.length:Int):Int))) 39 (D x_6))) (fun ⟨x_6,at_7,w_8⟩ (_:Unit)=>[⟨b32_1,p32_1,(Row (at_7:List Int) c32_1)⟩,⟨b0,True,(One w_8)⟩]) () (Za (Za (Za (Zj (Zz rfl) (Za (Za (Za (Za (Zd _))))))))) (Zc rfl (Zc rfl (Ze _))) ?_;rintro ⟨x_6,at_7,w_8⟩ ⟨⟩ x_9 H9 he9;dsimp only at H9;unfold Zdd at H9;refine zg ?_;refine zc H9 (fun hc H9=>?_) fun hc H9=>?_
  ·refine ZaB<|Zak<|Zao ?_;refine zh H9 fun o_12 H12 H9=>?_
   refine Zn (fun s:((List Int)×flash_writer)=>o_12=.inl s) (fun ⟨at_10,w_11⟩ (_:Unit)=>(Env.set (Env.set (Env.set (Env.set (Env.set (Env.set (Env.set (Env.set Env.nil 0 (Pt b0 0)) 1 (D from0)) 2 (D to0)) 8 (D w0x.Vol.Chip.Pages)) 9 (Sl b32_1 p32_1 0 at_10.length c32_1)) 37 (D w0x.Vol.At)) 38 (D ((w0x.Vol.At.length:Int):Int))) 39 (D x_6))) (fun ⟨at_10,w_11⟩ (_:Unit)=>[⟨b32_1,p32_1,(Row (at_10:List Int) c32_1)⟩,⟨b0,True,(One w_11)⟩]) ?_ ?_
   ·skip;refine zg ?_;refine zb H12 fun _ _ H12=>?_
    refine zd H12 fun _ _ H12=>?_
    refine zd H12 fun _ _ H12=>?_
    refine zc H12 (fun hc H12=>?_) fun hc H12=>?_
    ·refine zg ?_;exact Zk ⟨at_7,w_8⟩ () (ZZs H12) (Za (Za (Za (Zj (Zz rfl) (Za (Za (Za (Za (Zd _))))))))) (Zc rfl (Zc rfl (Ze _)))
    ·refine zC ?_;refine Zao ?_;refine zh H12 fun o_17 H17 H12=>?_
     refine Zn (fun s:Int=>o_17=.inl s) (fun (block_16:Int) (_:Unit)=>(Env.set (Env.set (Env.set (Env.set (Env.set (Env.set (Env.set (Env.set (Env.set (Env.set Env.nil 0 (Pt b0 0)) 1 (D from0)) 2 (D to0)) 8 (D w0x.Vol.Chip.Pages)) 9 (Sl b32_1 p32_1 0 at_7.length c32_1)) 10 (D x_6)) 12 (D block_16)) 37 (D w0x.Vol.At)) 38 (D ((w0x.Vol.At.length:Int):Int))) 39 (D x_6))) (fun (block_16:Int) (_:Unit)=>[⟨b32_1,p32_1,(Row (at_7:List Int) c32_1)⟩,⟨b0,True,(One w_8)⟩]) ?_ ?_
     ·skip;refine zg ?_;refine zc H17 (fun hc H17=>?_) fun hc H17=>?_
      ·refine zg ?_;refine TS.build2 rfl fun b64_17=>?_
       refine zn H17 fun _ ex_19 H17=>?_
       refine zn H17 fun x_20 ex_20 H17=>?_
       refine Zdi (Zgc (xs:=x_20) [b0,b64_17,b32_1] (ZcL Zx trivial (by simp)) (ArgB.svMix rfl (by simp) rfl (by have:=(Zif ex_19.h).2;omega) (by simp) (by simp)) fun w v0 v1 hA hO hap hks h0 h1=>Zb4 ex_20.h w v0 v1 hA hO hap hks h0 (toD h1)) rfl fun ⟨b65_20,p65_20,c65_20⟩=>zg ?_
       refine zb H17 fun _ _ H17=>?_
       refine TSx (tB (⟨0,0,0,true⟩:Wear) rfl rfl) ?_;refine zn H17 fun _ ex_23 H17=>?_
       refine TSx (Zm (ZI ex_23.h rfl)) ?_;refine zC ?_;refine zn H17 fun _ el_24 H17=>?_
       refine ZC b65_20 (ZY el_24.h) ?_;refine zX (Zcc 13 _ (ZaK el_24.h (by simp))) ?_;refine zn H17 fun _ er_25 H17=>?_
       refine zX (ZaZ (ZcD [b65_20] (ZiD PlS.all rfl (by simp)) ArgB.d fun w v0 v1 hA h0 h1=>wear_Front_c.h w v0 v1 hA (toD h0) (toD h1) er_25.h) rfl) ?_;refine zc H17 (fun hc H17=>?_) fun hc H17=>?_
       ·refine zC ?_;refine ZN<|Zh<|Zv ?_;have R25:=ZaW (ZZi H17) H12;refine Zh<|Zg<|Zv ?_;have R26:=ZaW (ZZi R25) H9;refine Zh<|Zh<|Zg<|Zv ?_;have R27:=ZaW (he9 _ (ZZs R26)) H;refine zg ?_;obtain rfl:=ZZi R27;exact Zap rfl rfl () (.cons Cv.le (.cons Cv.le .nil)) (Zc rfl (Ze _))
       ·refine zg ?_;refine zb H17 fun x_29 _ H17=>?_
        exact Zk x_29 () (ZZs H17) (Za (Za (Za (Za (Za (Zj (Zz rfl) (Za (Za (Za (Za (Zd _))))))))))) (Zc rfl (Zc rfl (Ze _)))
      ·refine zg ?_;exact Zk to0 () (ZZs H17) (Za (Za (Za (Za (Za (Zj (Zz rfl) (Za (Za (Za (Za (Zd _))))))))))) (Zc rfl (Zc rfl (Ze _)))
     rintro block_16 ⟨⟩ hp;replace H12:=Zcd hp H12;refine Zak ?_;refine zX (Za9 [14,15] [] mix (by kernel_rfl) (by kernel_rfl)) ?_;refine zX (ZeS ZiA rfl) ?_;refine zb H12 fun x_30 _ H12=>?_
     refine TRx (tB (⟨(1:Int),x_6,(w_8.Vol.Gen+(UInt64.ofNat 1)),x_30⟩:Page) rfl rfl)<|Zfz (fun g=>Zda (α:=Page)) rfl<|Zdt (fun g=>(Zy (y:=((⟨(1:Int),x_6,(w_8.Vol.Gen+(UInt64.ofNat 1)),x_30⟩:Page):Page)) Zx)) rfl ?_;refine zC ?_;rintro ⟨⟨_,⟨b16_30,_⟩⟩,_⟩;dsimp only [Fam.nextS,Fam.nextN,Fam.one,List.cons_append,List.nil_append];refine zn H12 fun _ epx_32 H12=>?_
     refine zX (ZC b16_30 (Zaj epx_32.h)) ?_;refine zb H12 fun _ _ H12=>?_
     refine zc H12 (fun hc H12=>?_) fun hc H12=>?_
     ·refine zC ?_;refine ZN<|Zh<|Zg<|Zv ?_;have R33:=ZaW (ZZi H12) H9;refine Zh<|Zh<|Zg<|Zv ?_;have R34:=ZaW (he9 _ (ZZs R33)) H;refine zg ?_;obtain rfl:=ZZi R34;exact Zap rfl rfl () (.cons Cv.le (.cons Cv.le .nil)) (Zc rfl (Ze _))
     ·refine zg ?_;refine zb H12 fun _ _ H12=>?_
      refine zn H12 fun x_37 ex_37 H12=>?_
      refine Zdi (oc3 [b0] (Za3 ex_37.h) id toD toD) rfl fun _=>?_
      refine zw ?_;refine zc H12 (fun hc H12=>?_) fun hc H12=>?_
      ·refine zg ?_;refine zo H12 fun _ _ H12=>?_
       refine zC ?_;refine ZN<|Zh<|Zg<|Zv ?_;have R39:=ZaW (ZZi H12) H9;refine Zh<|Zh<|Zg<|Zv ?_;have R40:=ZaW (he9 _ (ZZs R39)) H;refine zg ?_;obtain rfl:=ZZi R40;exact Zap rfl rfl () (.cons Cv.le (.cons Cv.le .nil)) (Zc rfl (Ze _))
      ·refine zg ?_;refine zb H12 fun _ _ H12=>?_
       refine zb H12 fun _ _ H12=>?_
       refine zb H12 fun _ _ H12=>?_
       refine zn H12 fun _ ex_45 H12=>?_
       refine TSx (Zm (ZI ex_45.h rfl)) ?_;refine zE ?_;refine zn H12 fun l_46 el_46 H12=>?_
       refine Zac b32_1 (ZY el_46.h) ?_;refine zX (ZbL 9 _ (ZaK el_46.h (by simp))) ?_;exact Zk ⟨l_46,x_37.2⟩ () (ZZs H12) (Za (Za (Za (Zj (Zz rfl) (Za (Za (Za (Za (Zd _))))))))) (Zc rfl (Zc rfl (Ze _)))
   rintro ⟨at_10,w_11⟩ ⟨⟩ hp;replace H9:=Zcd hp H9;replace H9:=Zd8 H9;refine zg ?_;refine zb H9 fun x_47 _ H9=>?_
   exact Zq ⟨x_47,at_10,w_11⟩ () (ZZs H9) (Za (Za (Za (Zj (Zz rfl) (Za (Za (Za (Za (Zd _))))))))) (Zc rfl (Zc rfl (Ze _)))
  ·refine zg ?_;exact Zk ⟨at_7,w_8⟩ () (he9 _ (ZZs H9)).symm (Zj (Zz rfl) (Za (Zd _))) (Zc rfl (Zc rfl (Ze _)))
 rintro ⟨at_3,w_4⟩ ⟨⟩ hp;replace H:=Zcd hp H;replace H:=Zd8 H;refine zg ?_;refine TS.pub b32_1 (PubE.set 138 (ZG PlS.all rfl) (PubE.set 9 (ZG PlS.all rfl) PubE.refl)) ?_;refine zn H fun _ ex_48 H=>?_
 refine Zdi (oc2 [b0] (Ze4 ex_48.h) id toD) rfl fun _=>?_
 refine zw ?_;obtain rfl:=ZZi H;exact Zap rfl rfl () (.cons Cv.le (.cons Cv.le .nil)) (Zc rfl (Ze _))
def Zbq (w0x:flash_writer) (l0:(List Wear)) (i0:Int):Option (Int×flash_writer):=
 (Zau l0).bind fun x_1=>(idx x_1 i0).bind fun x_3=>(some ((x_1.set (Int.toNat i0) (⟨0,0,0,true⟩:Wear)):(List Wear))).bind fun l_4=>(ZbH w0x l_4).bind fun x_5=>((gb (decide (x_5.2.1=(6:Int))) (ZgS l_4 x_5.2.2.Vol.Chip.Pages)).bind fun x_10=>(gb (decide (x_5.2.1=(6:Int))) (idx l0 i0)).bind fun x_11=>bif ((decide (x_5.2.1=(6:Int)))&&(decide (x_10≥x_11.Live))) then (some ((-1:Int),(0:Int))) else (some (x_5.1,x_5.2.1))).bind fun o_9=>el2 o_9 (fun to_7 e_8=>bif (decide (e_8≠(0:Int))) then ((ZaA e_8).bind fun x_12=>some (x_12,x_5.2.2)) else ((Zat i0 2).bind fun x_13=>(ZbA x_5.2.2 x_13 to_7).bind fun x_14=>(gb (!(!x_14.1)) (idx l0 i0)).bind fun x_16=>bif ((!x_14.1)||(decide (x_16.Used=x_14.2.2.Vol.Chip.Pages))) then (some (x_14.2.1,x_14.2.2)) else ((Zat i0 2).bind fun x_17=>(ZV x_14.2.2 x_17).bind fun x_18=>(ZaA x_18.1).bind fun x_20=>some (x_20,x_18.2))))
theorem Zh0 {w0x:flash_writer} {l0:(List Wear)} {i0:Int} {b0:Nat} {r:(Int×flash_writer)} (H:Zbq w0x l0 i0=some r):CO3 173 [⟨b0,True,One w0x⟩] (Pt b0 0) (D l0) (D i0) (fun g:Unit=>D r.1) fun g=>[⟨b0,True,One r.2⟩]:=eO3 Tryz.func173 rfl Tryz.ntmps173 fun A w hA hO=>by
 unfold Zbq at H;refine zg ?_;refine zn H fun _ ex_1 H=>?_
 refine Zdi (oc1 [] (ZdJ ex_1.h) toD) rfl fun ⟨b12_1,p12_1,c12_1⟩=>?_
 refine zw ?_;refine TSx (tB (⟨0,0,0,true⟩:Wear) rfl rfl) ?_;refine zn H fun _ ex_3 H=>?_
 refine TSx (Zm (ZI ex_3.h rfl)) ?_;refine zC ?_;refine zn H fun _ el_4 H=>?_
 refine ZC b12_1 (ZY el_4.h) ?_;refine zX (Zcc 7 _ (ZaK el_4.h (by simp))) ?_;refine TS.pub b12_1 (PubE.set 19 (ZG PlS.all rfl) (PubE.set 7 (ZG PlS.all rfl) PubE.refl)) ?_;refine zn H fun x_5 ex_5 H=>?_
 refine Zdi (oc2 [b0] (Zij ex_5.h) id toD) rfl fun _=>?_
 dsimp only [List.cons_append,List.nil_append];refine zC ?_;refine Zao ?_;refine zh H fun o_9 H9 H=>?_
 refine Zn (fun s:(Int×Int)=>o_9=s) (fun ⟨to_7,e_8⟩ (_:Unit)=>(Env.set (Env.set (Env.set (Env.set (Env.set Env.nil 0 (Pt b0 0)) 1 (D l0)) 2 (D i0)) 8 (D to_7)) 9 (D e_8))) (fun ⟨to_7,e_8⟩ (_:Unit)=>[⟨b0,True,(One x_5.2.2)⟩]) ?_ ?_
 ·skip;refine zg ?_;refine zd H9 fun _ _ H9=>?_
  refine zd H9 fun _ _ H9=>?_
  refine zc H9 (fun hc H9=>?_) fun hc H9=>?_
  ·refine zg ?_;exact Zk ⟨(-1:Int),(0:Int)⟩ () (ZZs H9) (Za (Za (Za (Za (Za (Zd _)))))) (Zc rfl (Ze _))
  ·refine zg ?_;exact Zk ⟨x_5.1,x_5.2.1⟩ () (ZZs H9) (Za (Za (Za (Za (Za (Zd _)))))) (Zc rfl (Ze _))
 rintro ⟨to_7,e_8⟩ ⟨⟩ hp;replace hp:=hp.symm;subst hp;replace H:=Zd8 H;refine zg ?_;refine zc H (fun hc H=>?_) fun hc H=>?_
 ·refine zg ?_;refine zb H fun _ _ H=>?_
  obtain rfl:=ZZi H;exact ZA rfl () Cv.le (Zc rfl (Ze _))
 ·refine zg ?_;refine zb H fun _ _ H=>?_
  refine zn H fun _ ex_14 H=>?_
  refine Zdi (oc3 [b0] (ZjB ex_14.h) id toD toD) rfl fun _=>?_
  refine zw ?_;refine zd H fun _ _ H=>?_
  refine zc H (fun hc H=>?_) fun hc H=>?_
  ·refine zg ?_;obtain rfl:=ZZi H;exact ZA rfl () Cv.le (Zc rfl (Ze _))
  ·refine zg ?_;refine zb H fun _ _ H=>?_
   refine zn H fun _ ex_18 H=>?_
   refine Zdi (oc2 [b0] (Zbs ex_18.h) id toD) rfl fun _=>?_
   dsimp only [List.cons_append,List.nil_append];refine zb H fun _ _ H=>?_
   obtain rfl:=ZZi H;exact ZA rfl () Cv.le (Zc rfl (Ze _))
def Za4 (x0:Wear) (cap1:flash_writer):Option Bool:=
 some ((decide (x0.Used<cap1.Vol.Chip.Pages))&&(decide (x0.Worn<(1099511627776:Int))))
theorem Zg9 {A:Nat→Prop} {x0:Wear} {cap1:flash_writer}  {r:Bool} (w:World) (v0 v1:Value) (hA:∀ k,w.heap.size≤k→A k)  (h0:(D x0).p A w v0) (h1:(PtrR (cap1:flash_writer)).p A w v1) (H:Za4 x0 cap1=some r) :
    Calls Tryz.prog 175 #[v0,v1] w (Ret A w (D r)):=by
 unfold Za4 at H;refine zX (enter2 hA Tryz.func175 rfl Tryz.ntmps175 rfl h0 h1) ?_;refine TS.box rfl fun b2_0=>zg ?_
 refine TRx OpY.ldR ?_;exact zY H
def Zbr (w0x:flash_writer):Option (Int×flash_writer):=
 (Zam w0x ([w0x.Vol.At]:List (List Int))).bind fun x_2=>((ZbF w0x x_2).bind fun x_6=>(gb x_6.2 (Zb3 w0x)).bind fun x_8=>bif (x_6.2&&(!x_8)) then ((Zbq w0x x_2 x_6.1).bind fun x_9=>bif (decide (x_9.1≠(6:Int))) then (some (.inr (x_9.1,x_9.2))) else (some (.inl x_9.2))) else (some (.inl w0x))).bind fun o_5=>elS o_5 (fun w_4=>(ZbP x_2 (⟨fun x0=>Za4 x0 w_4⟩:F1 Tryz.prog Wear Bool)).bind fun x_12=>(ZdH x_12 w_4.Vol.Chip.Pages).bind fun r_14=>bif (!r_14.2) then (some ((6:Int),w_4)) else ((Zat r_14.1 2).bind fun x_15=>(ZV w_4 x_15).bind fun x_16=>(ZaA x_16.1).bind fun x_18=>some (x_18,x_16.2))) (fun q=>some q)
theorem Zh1 {A:Nat→Prop} {w0x:flash_writer} {b0:Nat} {r:(Int×flash_writer)} (w:World) (v0:Value) (hA:∀ k,w.heap.size≤k→A k) (hO:OwnIn A [⟨b0,True,One w0x⟩]) (hap:Zfp [⟨b0,True,One w0x⟩]) (hks:Pks (Pub A [⟨b0,True,One w0x⟩]) [⟨b0,True,One w0x⟩] w) (h0:(Pt b0 0).p (Pub A [⟨b0,True,One w0x⟩]) w v0) (H:Zbr w0x=some r) :
    Calls Tryz.prog 149 #[v0] w (Zk3 A w [⟨b0,True,One w0x⟩] (fun g:Unit=>D r.1) fun g=>[⟨b0,True,One r.2⟩]):=by
 unfold Zbr at H;refine zX (enterO1 hA hap hks Tryz.func149 rfl Tryz.ntmps149 rfl h0) ?_;refine TS.boxP rfl fun b1_0=>?_
 refine zC ?_;refine Za9 [7,8] [] mix (by kernel_rfl) (by kernel_rfl)<|TRx Zex ?_;refine zX (ZeS Zex rfl) ?_;refine TRx (OpY.buildSlice [.tmp 15] rfl rfl (by decide)) ?_;refine zn H fun x_2 ex_2 H=>?_
 refine Zfz (fun g=>(Zgc (xs:=x_2) [b0] (ZcL Zx trivial (by simp)) ArgB.d fun w v0 v1 hA hO hap hks h0 h1=>Zb4 ex_2.h w v0 v1 hA hO hap hks h0 (toD h1))) rfl<|Zfz (fun g=>Zgd rfl Zey) rfl ?_;refine zC ?_;rintro ⟨⟨_,⟨b17_2,p17_2,c17_2⟩⟩,_⟩;dsimp only [Fam.nextS,Fam.nextN,Fam.one,List.cons_append,List.nil_append];refine Zao ?_;refine zh H fun o_5 H5 H=>?_
 refine Zn (fun s:flash_writer=>o_5=.inl s) (fun (w_4:flash_writer) (_:Unit)=>(Env.set (Env.set Env.nil 1 (Pt b1_0 0)) 3 (D x_2))) (fun (w_4:flash_writer) (_:Unit)=>[⟨b1_0,True,(Hold (Pt b0 0))⟩,⟨b0,True,(One w_4)⟩]) ?_ ?_
 ·skip;refine zg ?_;refine zX (ZaZ Zex rfl) ?_;refine TS.pub b17_2 (PubE.set 20 (ZG PlS.all rfl) (PubE.set 3 (ZG PlS.all rfl) PubE.refl)) ?_;refine zn H5 fun _ ex_6 H5=>?_
  refine Zdi (oc2 [b0] (Zii ex_6.h) id toD) rfl fun _=>?_
  refine zw ?_;refine ZlE 25 rfl (fun hg=>Zex) rfl ?_;refine zm H5 fun _ ex_8 H5=>?_
  refine zX (ZlE 25 rfl (fun hg=>(ZfB [b0] (ZcL Zx trivial (by simp)) fun w v0 hA h0=>Zja w v0 hA h0 (Zbv ex_8.h hg.h))) rfl) ?_;refine zc H5 (fun hc H5=>?_) fun hc H5=>?_
  ·refine zg ?_;refine zX (ZaZ Zex rfl) ?_;refine zn H5 fun x_9 ex_9 H5=>?_
   refine Zdi (oc3 [b0] (Zh0 ex_9.h) id toD toD) rfl fun _=>?_
   refine zw ?_;refine zc H5 (fun hc H5=>?_) fun hc H5=>?_
   ·refine zC ?_;refine ZN<|Zv ?_;have R10:=ZaW (ZZi H5) H;refine zg ?_;obtain rfl:=ZZi R10;exact ZA rfl () Cv.le (Zc rfl (Ze _))
   ·refine zg ?_;exact Zk x_9.2 () (ZZs H5) (Za (Za (Zd _))) (Zc rfl (Zc rfl (Ze _)))
  ·refine zg ?_;exact Zk w0x () (ZZs H5) (Za (Za (Zd _))) (Zc rfl (Zc rfl (Ze _)))
 rintro w_4 ⟨⟩ hp;replace H:=Zcd hp H;refine zg ?_;refine TSx (OpY.clo1 (Ty.le.refl _)) ?_;refine zn H fun x_12 ex_12 H=>?_
 refine Zdi (Zgc (xs:=x_12) [b1_0,b0] ArgB.d (ArgB.clo1_1 (α:=Wear) (β:=Bool) (i:=inferInstance) (j:=inferInstance) (g:=fun x0=>Za4 x0 w_4) (ArgB.ptR (Zx (x:=w_4)) trivial (by simp) (by simp)) (fun w v0 v1 hA h0 h1 e=>Zg9 w v0 v1 hA (toD h0) h1 e)) fun w v0 v1 hA hO hap hks h0 h1=>Zlk ex_12.h w v0 v1 hA hO hap hks (toD h0) (toD h1)) rfl fun ⟨b39_12,p39_12,c39_12⟩=>zg ?_
 refine zX (ZaZ Zex rfl) ?_;refine zn H fun _ er_14 H=>?_
 refine zX (ZaZ (ZcD [b39_12] (ZiD PlS.all rfl (by simp)) ArgB.d fun w v0 v1 hA h0 h1=>wear_Dead_c.h w v0 v1 hA (toD h0) (toD h1) er_14.h) rfl) ?_;refine zc H (fun hc H=>?_) fun hc H=>?_
 ·refine zg ?_;obtain rfl:=ZZi H;exact ZA rfl () Cv.le (Zc rfl (Ze _))
 ·refine zg ?_;refine zX (ZaZ Zex rfl) ?_;refine zb H fun _ _ H=>?_
  refine zn H fun _ ex_16 H=>?_
  refine Zdi (oc2 [b0] (Zbs ex_16.h) id toD) rfl fun _=>?_
  dsimp only [List.cons_append,List.nil_append];refine zb H fun _ _ H=>?_
  obtain rfl:=ZZi H;exact ZA rfl () Cv.le (Zc rfl (Ze _))
end Go.Proofs.YtkmojgfenlgchaaGreatDoor.Tr
namespace Go.Proofs.YtkmojgfenlgchaaGreatDoor.Tr
open Go Go.RowKit
set_option maxRecDepth 100000
set_option synthInstance.maxHeartbeats 400000
set_option synthInstance.maxSize 4096
def Zdv (w0x:flash_writer) (many_3:Int) (x_4:Int):Option ((Int×Int)⊕Int):=
 bif (decide (x_4<(w0x.Vol.Chip.Blocks.length:Int))) then (((idx w0x.Vol.Chip.Blocks x_4).bind fun x_8=>bif x_8.Bad then ((Zat many_3 1).bind fun x_10=>some x_10) else (some many_3)).bind fun many_6=>(Zat x_4 1).bind fun x_11=>some (.inl (many_6,x_11))) else (some (.inr many_3))
def ZbO (w0x:flash_writer):Option Int:=
 (ZM (fun s=>Zdv w0x s.1 s.2) ((0:Int),(0:Int))).bind fun many_1=>some many_1
theorem Zgv {A:Nat→Prop} {w0x:flash_writer}  {r:Int} (w:World) (v0:Value) (hA:∀ k,w.heap.size≤k→A k)  (h0:(ZlG w0x).p A w v0) (H:ZbO w0x=some r) :
    Calls Tryz.prog 71 #[v0] w (Ret A w (D r)):=by
 unfold ZbO at H;refine enter1 hA Tryz.func71 rfl Tryz.ntmps71 rfl h0 ?_;refine zC ?_;refine zC ?_;refine zC ?_;refine zh H fun o_2 H2 H=>?_
 refine Zn (fun s:Int=>o_2=s) (fun (many_1:Int) (_:Unit)=>(Env.set Env.nil 3 (D many_1))) (fun (many_1:Int) (_:Unit)=>[]) ?_ ?_
 ·skip;refine Zp<|Zt H2 (fun ⟨many_3,x_4⟩ (_:Unit)=>(Env.set (Env.set (Env.set (Env.set Env.nil 3 (D many_3)) 11 (D w0x.Vol.Chip.Blocks)) 12 (D ((w0x.Vol.Chip.Blocks.length:Int):Int))) 13 (D x_4))) (fun ⟨many_3,x_4⟩ (_:Unit)=>[]) () (Za (Za (Za (Za (Zd _))))) (Ze _) ?_;rintro ⟨many_3,x_4⟩ ⟨⟩ x_5 H5 he5;dsimp only at H5;unfold Zdv at H5;refine zg ?_;refine zc H5 (fun hc H5=>?_) fun hc H5=>?_
  ·refine ZaB<|Zak<|Zao ?_;refine zh H5 fun o_7 H7 H5=>?_
   refine Zn (fun s:Int=>o_7=s) (fun (many_6:Int) (_:Unit)=>(Env.set (Env.set (Env.set (Env.set Env.nil 3 (D many_6)) 11 (D w0x.Vol.Chip.Blocks)) 12 (D ((w0x.Vol.Chip.Blocks.length:Int):Int))) 13 (D x_4))) (fun (many_6:Int) (_:Unit)=>[]) ?_ ?_
   ·skip;refine zg ?_;refine zb H7 fun _ _ H7=>?_
    refine TS.alloc rfl fun b5_8=>zg ?_
    refine zc H7 (fun hc H7=>?_) fun hc H7=>?_
    ·refine zg ?_;refine zb H7 fun x_10 _ H7=>?_
     exact Zk x_10 () (ZZs H7) (Za (Za (Za (Za (Zd _))))) (Ze _)
    ·refine zg ?_;exact Zk many_3 () (ZZs H7) (Za (Za (Za (Za (Zd _))))) (Ze _)
   rintro many_6 ⟨⟩ hp;replace hp:=hp.symm;subst hp;refine zg ?_;refine zb H5 fun x_11 _ H5=>?_
   exact Zq ⟨many_6,x_11⟩ () (ZZs H5) (Za (Za (Za (Za (Zd _))))) (Ze _)
  ·refine zg ?_;exact Zk many_3 () (he5 _ (ZZs H5)).symm (Za (Zd _)) (Ze _)
 rintro many_1 ⟨⟩ hp;replace hp:=hp.symm;subst hp;exact zY H
def ZbI (w0x:flash_writer):Option Int:=
 (Zgh (1:Int) w0x.Vol.Last).bind fun x_1=>(idx w0x.Vol.Chip.Blocks x_1).bind fun x_2=>bif x_2.Bad then ((Zaq w0x w0x.Vol.Last).bind fun x_3=>some x_3) else ((idx w0x.Vol.Chip.Blocks w0x.Vol.Last).bind fun x_4=>(gb x_4.Bad (Zaq w0x x_1)).bind fun x_5=>bif (x_4.Bad&&(decide (x_5>(0:Int)))) then ((Zaq w0x x_1).bind fun x_6=>some x_6) else (some w0x.Vol.Chip.Pages))
theorem Zik {A:Nat→Prop} {w0x:flash_writer}  {r:Int} (w:World) (v0:Value) (hA:∀ k,w.heap.size≤k→A k)  (h0:(ZlG w0x).p A w v0) (H:ZbI w0x=some r) :
    Calls Tryz.prog 148 #[v0] w (Ret A w (D r)):=by
 unfold ZbI at H;refine zX (enter1 hA Tryz.func148 rfl Tryz.ntmps148 rfl h0) ?_;refine zb H fun _ _ H=>?_
 refine zb H fun _ _ H=>?_
 refine zc H (fun hc H=>?_) fun hc H=>?_
 ·refine zg ?_;refine zn H fun _ ex_3 H=>?_
  refine TSx (Zkx fun w v0 v1 hA h0 h1=>Za8 w v0 v1 hA h0 (toD h1) ex_3.h) ?_;exact zY H
 ·refine zg ?_;refine zb H fun _ _ H=>?_
  refine zm H fun _ ex_5 H=>?_
  refine zX (ZlE 41 rfl (fun hg=>(Zkx fun w v0 v1 hA h0 h1=>Za8 w v0 v1 hA h0 (toD h1) (Zbv ex_5.h hg.h))) rfl) ?_;refine zc H (fun hc H=>?_) fun hc H=>?_
  ·refine zg ?_;refine zn H fun _ ex_6 H=>?_
   refine TSx (Zkx fun w v0 v1 hA h0 h1=>Za8 w v0 v1 hA h0 (toD h1) ex_6.h) ?_;exact zY H
  ·exact zY H
def ZcV (need0:Int) (w_1:flash_writer):Option (flash_writer⊕(Int×flash_writer)):=
 (Zcm w_1).bind fun x_3=>bif (decide (x_3.1≥need0)) then (some (.inr ((0:Int),w_1))) else ((gb (decide (x_3.2≥need0)) (ZbI w_1)).bind fun x_5=>bif ((decide (x_3.2≥need0))&&(decide (x_5<(2:Int)))) then ((some ((⟨w_1.Vol,true⟩:flash_writer):flash_writer)).bind fun l_6=>some (.inr ((0:Int),l_6))) else ((Zbr w_1).bind fun x_7=>bif (decide (x_7.1=(0:Int))) then (some (.inl x_7.2)) else (bif (decide (x_7.1≠(6:Int))) then (some (.inr (x_7.1,x_7.2))) else (bif (decide (x_3.2≥need0)) then ((some ((⟨x_7.2.Vol,true⟩:flash_writer):flash_writer)).bind fun l_9=>some (.inr ((0:Int),l_9))) else (some (.inr ((5:Int),x_7.2)))))))
def ZbY (w0x:flash_writer) (need0:Int):Option (Int×flash_writer):=
 ZM (fun s=>ZcV need0 s) w0x
theorem Zi6 {w0x:flash_writer} {need0:Int} {b0:Nat} {r:(Int×flash_writer)} (H:ZbY w0x need0=some r):CO2 120 [⟨b0,True,One w0x⟩] (Pt b0 0) (D need0) (fun g:Unit=>D r.1) fun g=>[⟨b0,True,One r.2⟩]:=eO2 Tryz.func120 rfl Tryz.ntmps120 fun A w hA hO=>by
 unfold ZbY at H;refine zC ?_;refine Zp<|Zt H (fun (w_1:flash_writer) (_:Unit)=>(Env.set (Env.set Env.nil 0 (Pt b0 0)) 1 (D need0))) (fun (w_1:flash_writer) (_:Unit)=>[⟨b0,True,(One w_1)⟩]) () (Za (Za (Zd _))) (Zc rfl (Ze _)) ?_;rintro w_1 ⟨⟩ x_2 H2 he2;unfold ZcV at H2;refine zg ?_;refine zn H2 fun _ ex_3 H2=>?_
 refine Zdi (oc1 [b0] (ZjA ex_3.h) id) rfl fun _=>?_
 refine zw ?_;refine zc H2 (fun hc H2=>?_) fun hc H2=>?_
 ·refine zg ?_;obtain rfl:=(he2 _ (ZZs H2));exact ZA rfl () Cv.le (Zc rfl (Ze _))
 ·refine zg ?_;refine zm H2 fun _ ex_5 H2=>?_
  refine zX (ZlE 19 rfl (fun hg=>(ZfB [b0] (ZcL Zx trivial (by simp)) fun w v0 hA h0=>Zik w v0 hA h0 (Zbv ex_5.h hg.h))) rfl) ?_;refine zc H2 (fun hc H2=>?_) fun hc H2=>?_
  ·refine zC ?_;refine zn H2 fun _ el_6 H2=>?_
   refine zX (ZC b0 (Zaj el_6.h)) ?_;obtain rfl:=(he2 _ (ZZs H2));exact ZA rfl () Cv.le (Zc rfl (Ze _))
  ·refine zg ?_;refine zn H2 fun x_7 ex_7 H2=>?_
   refine Zdi (Zhi [b0] fun w v0 hA hO hap hks h0=>Zh1 w v0 hA hO hap hks (id h0) ex_7.h) rfl fun _=>?_
   refine zw ?_;refine zc H2 (fun hc H2=>?_) fun hc H2=>?_
   ·refine zg ?_;exact Zq x_7.2 () (ZZs H2) (Za (Za (Zd _))) (Zc rfl (Ze _))
   ·refine zg ?_;refine zc H2 (fun hc H2=>?_) fun hc H2=>?_
    ·refine zg ?_;obtain rfl:=(he2 _ (ZZs H2));exact ZA rfl () Cv.le (Zc rfl (Ze _))
    ·refine zg ?_;refine zc H2 (fun hc H2=>?_) fun hc H2=>?_
     ·refine zC ?_;refine zn H2 fun _ el_9 H2=>?_
      refine zX (ZC b0 (Zaj el_9.h)) ?_;obtain rfl:=(he2 _ (ZZs H2));exact ZA rfl () Cv.le (Zc rfl (Ze _))
     ·refine zg ?_;obtain rfl:=(he2 _ (ZZs H2));exact ZA rfl () Cv.le (Zc rfl (Ze _))
def ZcW (lists0:((List (List Int))×(List Int))) (r_2:((List UInt8)×Int)) (w_3:flash_writer):Option (flash_writer⊕(Int×Int×flash_writer)):=
 (Zb1 w_3 (lists0.1,lists0.2)).bind fun x_5=>(bif (decide (x_5.2.1=(0:Int))) then ((mulI x_5.1 x_5.2.2.Vol.Chip.Pages).bind fun x_10=>(idx x_5.2.2.Vol.Chip.Blocks x_5.1).bind fun x_11=>(Zat x_10 x_11.Used).bind fun x_12=>(Zat x_12 1).bind fun x_13=>(ZK x_5.2.2 x_5.1 r_2.1).bind fun x_14=>bif (decide (x_14.1=(0:Int))) then (some (.inr (x_13,(0:Int),x_14.2))) else (some (.inl (x_14.1,x_14.2)))) else (some (.inl (x_5.2.1,x_5.2.2)))).bind fun o_9=>elS o_9 (fun s=>el2 s (fun e_7 w_8=>bif (decide (e_7≠(9:Int))) then (some (.inr ((0:Int),e_7,w_8))) else (some (.inl w_8)))) (fun q=>some (.inr q))
def ZbZ (w0x:flash_writer) (p0x:Page) (lists0:((List (List Int))×(List Int))):Option (Int×Int×flash_writer):=
 (Zfc p0x w0x.Vol.Chip.Size).bind fun r_2=>bif (decide (r_2.2≠(0:Int))) then (some ((0:Int),r_2.2,w0x)) else (ZM (fun s=>ZcW lists0 r_2 s) w0x)
theorem Zi7 {w0x:flash_writer} {p0x:Page} {lists0:((List (List Int))×(List Int))} {b0:Nat} {b2 c2:Nat} {p2:Prop} {b2v c2v:Nat} {p2v:Prop} {r:(Int×Int×flash_writer)} (H:ZbZ w0x p0x lists0=some r):CO3 121 [⟨b0,True,One w0x⟩,⟨b2,p2,Ct.mix (Row (lists0.1:List (List Int)) c2) 1 (Sl b2v p2v 0 (List.length lists0.2) c2v)⟩,⟨b2v,p2v,Row (lists0.2:List Int) c2v⟩] (Pt b0 0) (D p0x) (Sl b2 p2 0 lists0.1.length c2) (fun g:Unit=>Tup [D r.1,D r.2.1]) fun g=>[⟨b0,True,One r.2.2⟩,⟨b2,p2,Ct.mix (Row (lists0.1:List (List Int)) c2) 1 (Sl b2v p2v 0 (List.length lists0.2) c2v)⟩,⟨b2v,p2v,Row (lists0.2:List Int) c2v⟩]:=eO3 Tryz.func121 rfl Tryz.ntmps121 fun A w hA hO=>by
 unfold ZbZ at H;refine zg ?_;refine TS.box rfl fun b4_0=>zg ?_
 refine zb H fun r_2 _ H=>?_
 refine zc H (fun hc H=>?_) fun hc H=>?_
 ·refine zg ?_;obtain rfl:=ZZi H;exact Zap rfl rfl () (.cons Cv.le (.cons Cv.le .nil)) (Zc rfl (Zc rfl (Zc rfl (Ze _))))
 ·refine ZaB<|Zak<|Zp<|Zt H (fun (w_3:flash_writer) (_:Unit)=>(Env.set (Env.set (Env.set Env.nil 0 (Pt b0 0)) 2 (Sl b2 p2 0 lists0.1.length c2)) 8 (D r_2.1))) (fun (w_3:flash_writer) (_:Unit)=>[⟨b2,p2,(Ct.mix (Row (lists0.1:List (List Int)) c2) 1 (Sl b2v p2v 0 lists0.2.length c2v))⟩,⟨b2v,p2v,(Row (lists0.2:List Int) c2v)⟩,⟨b0,True,(One w_3)⟩]) () (Za (Zj (Zz rfl) (Za (Zd _)))) (Zc rfl (Zc rfl (Zc rfl (Ze _)))) ?_;rintro w_3 ⟨⟩ x_4 H4 he4;unfold ZcW at H4;refine zg ?_;refine zn H4 fun x_5 ex_5 H4=>?_
  refine Zdi (oc2 [b0,b2,b2v] (Zi8 ex_5.h) id (slD rfl)) rfl fun _=>?_
  dsimp only [List.cons_append,List.nil_append];refine zC ?_;refine Zao ?_;refine zh H4 fun o_9 H9 H4=>?_
  refine Zn (fun s:(Int×flash_writer)=>o_9=.inl s) (fun ⟨e_7,w_8⟩ (_:Unit)=>(Env.set (Env.set (Env.set (Env.set Env.nil 0 (Pt b0 0)) 2 (Sl b2 p2 0 lists0.1.length c2)) 8 (D r_2.1)) 11 (D e_7))) (fun ⟨e_7,w_8⟩ (_:Unit)=>[⟨b2,p2,(Ct.mix (Row (lists0.1:List (List Int)) c2) 1 (Sl b2v p2v 0 lists0.2.length c2v))⟩,⟨b2v,p2v,(Row (lists0.2:List Int) c2v)⟩,⟨b0,True,(One w_8)⟩]) ?_ ?_
  ·skip;refine zg ?_;refine zc H9 (fun hc H9=>?_) fun hc H9=>?_
   ·refine zg ?_;refine zb H9 fun _ _ H9=>?_
    refine zb H9 fun _ _ H9=>?_
    refine zb H9 fun _ _ H9=>?_
    refine zb H9 fun _ _ H9=>?_
    refine zn H9 fun x_14 ex_14 H9=>?_
    refine Zdi (oc3 [b0] (Za3 ex_14.h) id toD toD) rfl fun _=>?_
    refine zw ?_;refine zc H9 (fun hc H9=>?_) fun hc H9=>?_
    ·refine zC ?_;refine ZN<|Zv ?_;have R15:=ZaW (ZZi H9) H4;refine zg ?_;obtain rfl:=(he4 _ (ZZs R15));exact Zap rfl rfl () (.cons Cv.le (.cons Cv.le .nil)) (Zc rfl (Zc rfl (Zc rfl (Ze _))))
    ·refine zg ?_;exact Zk ⟨x_14.1,x_14.2⟩ () (ZZs H9) (Za (Za (Zj (Zz rfl) (Za (Zd _))))) (Zc rfl (Zc rfl (Zc rfl (Ze _))))
   ·refine zg ?_;exact Zk ⟨x_5.2.1,x_5.2.2⟩ () (ZZs H9) (Za (Za (Zj (Zz rfl) (Za (Zd _))))) (Zc rfl (Zc rfl (Zc rfl (Ze _))))
  rintro ⟨e_7,w_8⟩ ⟨⟩ hp;replace H4:=Zcd hp H4;replace H4:=Zd8 H4;refine zg ?_;refine zc H4 (fun hc H4=>?_) fun hc H4=>?_
  ·refine zg ?_;obtain rfl:=(he4 _ (ZZs H4));exact Zap rfl rfl () (.cons Cv.le (.cons Cv.le .nil)) (Zc rfl (Zc rfl (Zc rfl (Ze _))))
  ·refine zg ?_;exact Zq w_8 () (ZZs H4) (Za (Zj (Zz rfl) (Za (Zd _)))) (Zc rfl (Zc rfl (Zc rfl (Ze _))))
def Zb6 (l0:(List Item)) (need_3:Int) (x_4:Int):Option ((Int×Int)⊕Int):=
 bif (decide (x_4<(l0.length:Int))) then (((idx l0 x_4).bind fun x_8=>bif (decide ((x_8.Body.length:Int)>(0:Int))) then ((Zat need_3 1).bind fun x_10=>some x_10) else (some need_3)).bind fun need_6=>(Zat x_4 1).bind fun x_11=>some (.inl (need_6,x_11))) else (some (.inr need_3))
def Zb5 (l0:(List Item)) (x_20:Int) (at_21:(List Int)) (w_22:flash_writer):Option ((Int×(List Int)×flash_writer)⊕(((List Int)×flash_writer)⊕(Int×flash_writer))):=
 bif (decide (x_20<(l0.length:Int))) then (((idx l0 x_20).bind fun x_27=>bif (decide ((x_27.Body.length:Int)=(0:Int))) then ((idx at_21 x_27.Id).bind fun x_29=>(some ((at_21.set (Int.toNat x_27.Id) (0:Int)):(List Int))).bind fun l_30=>some (.inl (l_30,w_22))) else ((ZbZ w_22 (⟨(1:Int),x_27.Id,(w_22.Vol.Gen+(UInt64.ofNat 1)),x_27.Body⟩:Page) (([w_22.Vol.At,[]]:List (List Int)),at_21)).bind fun x_32=>bif (decide (x_32.2.1≠(0:Int))) then (some (.inr (x_32.2.1,x_32.2.2))) else ((idx at_21 x_27.Id).bind fun x_36=>(some ((at_21.set (Int.toNat x_27.Id) x_32.1):(List Int))).bind fun l_37=>some (.inl (l_37,x_32.2.2))))).bind fun o_26=>elS o_26 (fun s=>el2 s (fun at_24 w_25=>(Zat x_20 1).bind fun x_38=>some (.inl (x_38,at_24,w_25)))) (fun q=>some (.inr (.inr q)))) else (some (.inr (.inl (at_21,w_22))))
def Zb7 (w0x:flash_writer) (l0:(List Item)):Option (Int×flash_writer):=
 (ZM (fun s=>Zb6 l0 s.1 s.2) ((0:Int),(0:Int))).bind fun need_1=>(some ((⟨w0x.Vol,false⟩:flash_writer):flash_writer)).bind fun w_12=>(ZbY w_12 need_1).bind fun x_13=>bif (decide (x_13.1≠(0:Int))) then (some (x_13.1,x_13.2)) else ((ZaN x_13.2.Vol.At).bind fun x_15=>(ZM (fun s=>Zb5 l0 s.1 s.2.1 s.2.2) ((0:Int),x_15,x_13.2)).bind fun o_19=>elS o_19 (fun s=>el2 s (fun at_17 w_18=>(Zbk w_18 at_17).bind fun x_39=>some (x_39.1,x_39.2))) (fun q=>some q))
theorem Zjc {w0x:flash_writer} {l0:(List Item)} {b0:Nat} {r:(Int×flash_writer)} (H:Zb7 w0x l0=some r):CO2 72 [⟨b0,True,One w0x⟩] (Pt b0 0) (D l0) (fun g:Unit=>D r.1) fun g=>[⟨b0,True,One r.2⟩]:=eO2 Tryz.func72 rfl Tryz.ntmps72 fun A w hA hO=>by
 unfold Zb7 at H;refine zC ?_;refine zC ?_;refine zC ?_;refine zh H fun o_2 H2 H=>?_
 refine Zn (fun s:Int=>o_2=s) (fun (need_1:Int) (_:Unit)=>(Env.set (Env.set (Env.set Env.nil 0 (Pt b0 0)) 1 (D l0)) 5 (D need_1))) (fun (need_1:Int) (_:Unit)=>[⟨b0,True,(One w0x)⟩]) ?_ ?_
 ·skip;refine Zp<|Zt H2 (fun ⟨need_3,x_4⟩ (_:Unit)=>(Env.set (Env.set (Env.set (Env.set (Env.set (Env.set Env.nil 0 (Pt b0 0)) 1 (D l0)) 5 (D need_3)) 14 (D l0)) 15 (D ((l0.length:Int):Int))) 16 (D x_4))) (fun ⟨need_3,x_4⟩ (_:Unit)=>[⟨b0,True,(One w0x)⟩]) () (Za (Za (Za (Za (Za (Za (Zd _))))))) (Zc rfl (Ze _)) ?_;rintro ⟨need_3,x_4⟩ ⟨⟩ x_5 H5 he5;dsimp only at H5;unfold Zb6 at H5;refine zg ?_;refine zc H5 (fun hc H5=>?_) fun hc H5=>?_
  ·refine ZaB<|Zak<|Zao ?_;refine zh H5 fun o_7 H7 H5=>?_
   refine Zn (fun s:Int=>o_7=s) (fun (need_6:Int) (_:Unit)=>(Env.set (Env.set (Env.set (Env.set (Env.set (Env.set Env.nil 0 (Pt b0 0)) 1 (D l0)) 5 (D need_6)) 14 (D l0)) 15 (D ((l0.length:Int):Int))) 16 (D x_4))) (fun (need_6:Int) (_:Unit)=>[⟨b0,True,(One w0x)⟩]) ?_ ?_
   ·skip;refine zg ?_;refine zb H7 fun _ _ H7=>?_
    refine TS.alloc rfl fun b7_8=>zg ?_
    refine zc H7 (fun hc H7=>?_) fun hc H7=>?_
    ·refine zg ?_;refine zb H7 fun x_10 _ H7=>?_
     exact Zk x_10 () (ZZs H7) (Za (Za (Za (Za (Za (Za (Zd _))))))) (Zc rfl (Ze _))
    ·refine zg ?_;exact Zk need_3 () (ZZs H7) (Za (Za (Za (Za (Za (Za (Zd _))))))) (Zc rfl (Ze _))
   rintro need_6 ⟨⟩ hp;replace hp:=hp.symm;subst hp;refine zg ?_;refine zb H5 fun x_11 _ H5=>?_
   exact Zq ⟨need_6,x_11⟩ () (ZZs H5) (Za (Za (Za (Za (Za (Za (Zd _))))))) (Zc rfl (Ze _))
  ·refine zg ?_;exact Zk need_3 () (he5 _ (ZZs H5)).symm (Za (Za (Za (Zd _)))) (Zc rfl (Ze _))
 rintro need_1 ⟨⟩ hp;replace hp:=hp.symm;subst hp;refine zC ?_;refine zn H fun _ ew_12 H=>?_
 refine zX (ZC b0 (Zaj ew_12.h)) ?_;refine zn H fun _ ex_13 H=>?_
 refine Zdi (oc2 [b0] (Zi6 ex_13.h) id toD) rfl fun _=>?_
 refine zw ?_;refine zc H (fun hc H=>?_) fun hc H=>?_
 ·refine zg ?_;obtain rfl:=ZZi H;exact ZA rfl () Cv.le (Zc rfl (Ze _))
 ·refine zg ?_;refine zn H fun _ ex_15 H=>?_
  refine Zdi (oc1 [] (ZdI ex_15.h) toD) rfl fun ⟨b41_15,p41_15,c41_15⟩=>?_
  dsimp only [List.cons_append,List.nil_append];refine zC ?_;refine zC ?_;refine zh H fun o_19 H19 H=>?_
  refine Zn (fun s:((List Int)×flash_writer)=>o_19=.inl s) (fun ⟨at_17,w_18⟩ (_:Unit)=>(Env.set (Env.set Env.nil 0 (Pt b0 0)) 9 (Sl b41_15 p41_15 0 at_17.length c41_15))) (fun ⟨at_17,w_18⟩ (_:Unit)=>[⟨b41_15,p41_15,(Row (at_17:List Int) c41_15)⟩,⟨b0,True,(One w_18)⟩]) ?_ ?_
  ·skip;refine Zp<|Zt H19 (fun ⟨x_20,at_21,w_22⟩ (_:Unit)=>(Env.set (Env.set (Env.set (Env.set (Env.set Env.nil 0 (Pt b0 0)) 9 (Sl b41_15 p41_15 0 at_21.length c41_15)) 42 (D l0)) 43 (D ((l0.length:Int):Int))) 44 (D x_20))) (fun ⟨x_20,at_21,w_22⟩ (_:Unit)=>[⟨b41_15,p41_15,(Row (at_21:List Int) c41_15)⟩,⟨b0,True,(One w_22)⟩]) () (Za (Za (Za (Zj (Zz rfl) (Za (Zd _)))))) (Zc rfl (Zc rfl (Ze _))) ?_;rintro ⟨x_20,at_21,w_22⟩ ⟨⟩ x_23 H23 he23;dsimp only at H23;unfold Zb5 at H23;refine zg ?_;refine zc H23 (fun hc H23=>?_) fun hc H23=>?_
   ·refine ZaB<|Zak<|Zao ?_;refine zh H23 fun o_26 H26 H23=>?_
    refine Zn (fun s:((List Int)×flash_writer)=>o_26=.inl s) (fun ⟨at_24,w_25⟩ (_:Unit)=>(Env.set (Env.set (Env.set (Env.set (Env.set Env.nil 0 (Pt b0 0)) 9 (Sl b41_15 p41_15 0 at_24.length c41_15)) 42 (D l0)) 43 (D ((l0.length:Int):Int))) 44 (D x_20))) (fun ⟨at_24,w_25⟩ (_:Unit)=>[⟨b41_15,p41_15,(Row (at_24:List Int) c41_15)⟩,⟨b0,True,(One w_25)⟩]) ?_ ?_
    ·skip;refine zg ?_;refine zb H26 fun x_27 _ H26=>?_
     refine TS.alloc rfl fun b11_27=>zg ?_
     refine zc H26 (fun hc H26=>?_) fun hc H26=>?_
     ·refine zg ?_;refine zn H26 fun _ ex_29 H26=>?_
      refine TSx (Zm (ZI ex_29.h rfl)) ?_;refine zC ?_;refine zn H26 fun l_30 el_30 H26=>?_
      refine ZC b41_15 (ZY el_30.h) ?_;refine zX (Zcc 9 _ (ZaK el_30.h (by simp))) ?_;exact Zk ⟨l_30,w_22⟩ () (ZZs H26) (Za (Za (Za (Zj (Zz rfl) (Za (Zd _)))))) (Zc rfl (Zc rfl (Ze _)))
     ·refine ZaB<|Zak<|TC.seqD2 [0,0,0,0,0,0,0,2,2,0,0,2,0,0,0,0,2,0,4,1,2,2,2,2,2] [b0,b41_15] mix (by kernel_rfl) (by kernel_rfl)<|TR2.s Zd2 rfl<|TR2.s ZaU rfl<|TR2.s (ZaE (PF 0 Item Int Zx)) rfl<|TR2.s Zd2 rfl<|TR2.s Zix rfl<|TR2.s ZaU rfl<|TR2.s ZaU rfl<|TR2.r (fun g=>OpG.s (ZaE (PF 7 Vol UInt64 (PF 0 flash_writer Vol Zx)))) rfl<|TR2.r (fun g=>OpG.s ZiA) rfl<|TR2.s ZaU rfl<|TR2.s (ZaE (PF 1 Item (List UInt8) Zx)) rfl ?_;refine TR2.r (fun g=>OpG.s (tB (⟨(1:Int),x_27.Id,(w_22.Vol.Gen+(UInt64.ofNat 1)),x_27.Body⟩:Page) rfl rfl)) rfl<|TR2.s Zd2 rfl<|TR2.s Zix rfl<|TR2.s ZaU rfl<|TR2.s ZaU rfl<|TR2.r (fun g=>OpG.s (ZaE (PF 6 Vol (List Int) (PF 0 flash_writer Vol Zx)))) rfl<|TR2.s Zd2 rfl ?_;refine TR2.v (OpV.of2 (C:=(Ct.mix (Row (([w_22.Vol.At,[]]:List (List Int)):List (List Int)) 2) 1 (Sl b41_15 p41_15 0 at_21.length c41_15))) fun B Ωs Ω g=>OpT.build2) rfl ?_;refine zn H26 fun x_32 ex_32 H26=>?_
      refine TR2.t (fun Ωr g=>(oc3 [b0,(g.2),b41_15] (Zi7 ex_32.h) id toD (slD (by simp)))) rfl<|TR2.r (fun g=>OpG.s Zd2) rfl<|TR2.r (fun g=>OpG.s (ZjI rfl)) rfl<|TR2.r (fun g=>OpG.s (ZjI rfl)) rfl<|TR2.r (fun g=>OpG.s Zey) rfl<|TR2.r (fun g=>OpG.s Zey) rfl<|TR2.nil ?_;rintro ⟨⟨⟨⟨⟨⟨⟨⟨⟨⟨⟨_,_⟩,_⟩,_⟩,_⟩,b75_30⟩,_⟩,_⟩,_⟩,_⟩,_⟩,_⟩;dsimp only [Fam.nextS,Fam.nextN,Fam.one,List.cons_append,List.nil_append];refine zg ?_;refine zc H26 (fun hc H26=>?_) fun hc H26=>?_
      ·refine zC ?_;refine ZN<|Zh<|Zg<|Zv ?_;have R33:=ZaW (ZZi H26) H23;refine Zh<|Zh<|Zg<|Zv ?_;have R34:=ZaW (he23 _ (ZZs R33)) H;refine zg ?_;obtain rfl:=ZZi R34;exact ZA rfl () Cv.le (Zc rfl (Ze _))
      ·refine zg ?_;refine zn H26 fun _ ex_36 H26=>?_
       refine TSx (Zm (ZI ex_36.h rfl)) ?_;refine zE ?_;refine zn H26 fun l_37 el_37 H26=>?_
       refine Zac b41_15 (ZY el_37.h) ?_;refine zX (ZbL 9 _ (ZaK el_37.h (by simp))) ?_;exact Zk ⟨l_37,x_32.2.2⟩ () (ZZs H26) (Za (Za (Za (Zj (Zz rfl) (Za (Zd _)))))) (Zc rfl (Zc rfl (Ze _)))
    rintro ⟨at_24,w_25⟩ ⟨⟩ hp;replace H23:=Zcd hp H23;replace H23:=Zd8 H23;refine zg ?_;refine zb H23 fun x_38 _ H23=>?_
    exact Zq ⟨x_38,at_24,w_25⟩ () (ZZs H23) (Za (Za (Za (Zj (Zz rfl) (Za (Zd _)))))) (Zc rfl (Zc rfl (Ze _)))
   ·refine zg ?_;exact Zk ⟨at_21,w_22⟩ () (he23 _ (ZZs H23)).symm (Zj (Zz rfl) (Za (Zd _))) (Zc rfl (Zc rfl (Ze _)))
  rintro ⟨at_17,w_18⟩ ⟨⟩ hp;replace H:=Zcd hp H;replace H:=Zd8 H;refine zg ?_;refine TS.pub b41_15 (PubE.set 89 (ZG PlS.all rfl) (PubE.set 9 (ZG PlS.all rfl) PubE.refl)) ?_;refine zn H fun _ ex_39 H=>?_
  refine Zdi (oc2 [b0] (Ze4 ex_39.h) id toD) rfl fun _=>?_
  refine zw ?_;obtain rfl:=ZZi H;exact ZA rfl () Cv.le (Zc rfl (Ze _))
def ZgP (l0:(List Item)) (w_10:flash_writer):Option (flash_writer⊕(Vol×Int)):=
 (ZbO w_10).bind fun x_12=>(Zb7 w_10 l0).bind fun x_13=>(gb (decide (x_13.1=(5:Int))) (ZbO x_13.2)).bind fun x_15=>bif ((decide (x_13.1=(5:Int)))&&(decide (x_15>x_12))) then (some (.inl x_13.2)) else (some (.inr (x_13.2.Vol,x_13.1)))
def ZfX (v0x:Vol) (l0:(List Item)):Option (Vol×Int):=
 (Zer v0x).bind fun x_3=>(gb (!((!x_3)||(decide ((UInt64.ofNat 281474976710655)≤v0x.Gen)))) (Zc7 v0x l0)).bind fun x_4=>bif (((!x_3)||(decide ((UInt64.ofNat 281474976710655)≤v0x.Gen)))||(!x_4)) then ((Zcw v0x).bind fun x_5=>some (x_5,(1:Int))) else (bif v0x.Chip.Off then ((Zcw v0x).bind fun x_6=>some (x_6,(7:Int))) else ((Zcw v0x).bind fun x_7=>(some ((⟨x_7,false⟩:flash_writer):flash_writer)).bind fun w_9=>ZM (fun s=>ZgP l0 s) w_9))
instance flash_Write_c:Fd2 25 ZfX fun r=>Tup [D r.1,D r.2]:=en2 Tryz.func25 rfl Tryz.ntmps25 fun A w hA v0x l0 r H=>by
 unfold ZfX at H;refine zg ?_;refine TS.box rfl fun b2_0=>?_
 refine TS.alloc rfl fun b4_1=>zg ?_
 refine zb H fun _ _ H=>?_
 refine zX (ZlE 12 rfl (fun hg=>Zkv) rfl) ?_;refine zd H fun _ _ H=>?_
 refine zc H (fun hc H=>?_) fun hc H=>?_
 ·exact zY H
 ·refine zg ?_;refine zc H (fun hc H=>?_) fun hc H=>?_
  ·exact zY H
  ·refine zg ?_;refine zb H fun x_7 _ H=>?_
   refine TSx (tB (⟨x_7,false⟩:flash_writer) rfl rfl) ?_;refine TS.box rfl fun b33_7=>?_
   refine zC ?_;refine zn H fun _ ew_9 H=>?_
   refine ZC b33_7 (Zaj ew_9.h)<|Zp<|Zt H (fun (w_10:flash_writer) (_:Unit)=>(Env.set (Env.set (Env.set Env.nil 1 (D l0)) 4 (Pt b4_1 0)) 6 (Pt b33_7 0))) (fun (w_10:flash_writer) (_:Unit)=>[⟨b4_1,True,(One ((Dat.z:Vol):Vol))⟩,⟨b33_7,True,(One w_10)⟩]) () (Za (Za (Za (Zd _)))) (Zc rfl (Zc rfl (Ze _))) ?_;rintro w_10 ⟨⟩ x_11 H11 he11;unfold ZgP at H11;refine zg ?_;refine zn H11 fun _ ex_12 H11=>?_
   refine zX (ZaZ (ZfB [b33_7] (ZcL Zx trivial (by simp)) fun w v0 hA h0=>Zgv w v0 hA h0 ex_12.h) rfl) ?_;refine zn H11 fun x_13 ex_13 H11=>?_
   refine Zdi (oc2 [b33_7] (Zjc ex_13.h) id toD) rfl fun _=>?_
   refine zw ?_;refine zm H11 fun _ ex_15 H11=>?_
   refine zX (ZlE 41 rfl (fun hg=>(ZfB [b33_7] (ZcL Zx trivial (by simp)) fun w v0 hA h0=>Zgv w v0 hA h0 (Zbv ex_15.h hg.h))) rfl) ?_;refine zc H11 (fun hc H11=>?_) fun hc H11=>?_
   ·refine zg ?_;exact Zq x_13.2 () (ZZs H11) (Za (Za (Za (Zd _)))) (Zc rfl (Zc rfl (Ze _)))
   ·refine zg ?_;obtain rfl:=(he11 _ (ZZs H11));exact Zev rfl rfl (.cons Cv.le (.cons Cv.le .nil))
def ZbX (w0x:flash_writer) (block0:Int):Option Bool:=
 (idx w0x.Vol.Chip.Blocks block0).bind fun x_1=>(gb (((!x_1.Bad)&&(!(decide (x_1.Used>(0:Int)))))&&(decide (block0<(2:Int)))) (ZZ w0x block0)).bind fun x_3=>some ((!x_1.Bad)&&((decide (x_1.Used>(0:Int)))||((decide (block0<(2:Int)))&&(decide ((UInt64.ofNat 0)<x_3)))))
theorem Zi5 {w0x:flash_writer} {block0:Int} {b0:Nat} {r:Bool} (H:ZbX w0x block0=some r):CO2 113 [⟨b0,True,One w0x⟩] (Pt b0 0) (D block0) (fun g:Unit=>D r) fun g=>[⟨b0,True,One w0x⟩]:=eO2 Tryz.func113 rfl Tryz.ntmps113 fun A w hA hO=>by
 unfold ZbX at H;refine zg ?_;refine zb H fun _ _ H=>?_
 refine TS.alloc rfl fun b5_1=>zg ?_
 refine zm H fun _ ex_3 H=>?_
 refine TS.gg 25 rfl (fun hp hg=>haveI l0:=Ft.l hp;haveI r0:=Ft.r hp;(ZcD [b0] (ZcL Zx trivial (by simp)) ArgB.d fun w v0 v1 hA h0 h1=>Zcv w v0 v1 hA h0 (toD h1) (Zbv ex_3.h (aT (aT hp.h.1 (nF hp.h.2)) hg.h)))) rfl ?_;refine zX (TS.gg 25 rfl (fun hp hg=>haveI l0:=Ft.l hp;haveI r0:=Ft.r hp;OpY.gtr64) rfl) ?_;obtain rfl:=ZZi H;exact ZA rfl () Cv.le (Zc rfl (Ze _))
def Zb2 (w0x:flash_writer) (block0:Int):Option UInt64:=
 (Zgh (1:Int) block0).bind fun x_1=>(ZZ w0x x_1).bind fun x_2=>some (max64 (UInt64.ofNat 1) (x_2+(UInt64.ofInt x_1)))
theorem Zi9 {w0x:flash_writer} {block0:Int} {b0:Nat} {r:UInt64} (H:Zb2 w0x block0=some r):CO2 115 [⟨b0,True,One w0x⟩] (Pt b0 0) (D block0) (fun g:Unit=>D r) fun g=>[⟨b0,True,One w0x⟩]:=eO2 Tryz.func115 rfl Tryz.ntmps115 fun A w hA hO=>by
 unfold Zb2 at H;refine zg ?_;refine zb H fun _ _ H=>?_
 refine zn H fun _ ex_2 H=>?_
 refine zX (ZaZ (ZcD [b0] (ZcL Zx trivial (by simp)) ArgB.d fun w v0 v1 hA h0 h1=>Zcv w v0 v1 hA h0 (toD h1) ex_2.h) rfl) ?_;refine TSx Ziy<|TSx ZiA ?_;refine zX (ZaZ OpY.max64 rfl) ?_;obtain rfl:=ZZi H;exact ZA rfl () Cv.le (Zc rfl (Ze _))
def Zbg (w0x:flash_writer) (x_3:Int) (w_4:flash_writer):Option ((Int×flash_writer)⊕(flash_writer⊕(Int×flash_writer))):=
 bif (decide (x_3<(w0x.Vol.Chip.Blocks.length:Int))) then (((ZbX w_4 x_3).bind fun x_8=>bif (!x_8) then (some (.inl w_4)) else ((ZaI w_4 x_3).bind fun x_10=>bif ((decide (x_10.1≠(0:Int)))&&(decide (x_10.1≠(9:Int)))) then (some (.inr (x_10.1,x_10.2))) else (some (.inl x_10.2)))).bind fun o_7=>elS o_7 (fun w_6=>(Zat x_3 1).bind fun x_14=>some (.inl (x_14,w_6))) (fun q=>some (.inr (.inr q)))) else (some (.inr (.inl w_4)))
def Zbf (ids0:Int) (x_17:Int) (w_18:flash_writer):Option ((Int×flash_writer)⊕(flash_writer⊕(Int×flash_writer))):=
 bif (decide (x_17<(2:Int))) then (((Zb2 w_18 x_17).bind fun x_22=>(Zc5 8 ids0).bind fun u_24=>(some ((⟨x_22,(List.replicate (Int.toNat ids0) (Dat.z:Int))⟩:Roots):Roots)).bind fun r_26=>(ZiG r_26 w_18.Vol.Chip.Size).bind fun r_27=>(gb (!(decide (r_27.2≠(0:Int)))) (Zaq w_18 x_17)).bind fun x_28=>bif ((decide (r_27.2≠(0:Int)))||(decide (x_28=(0:Int)))) then (some (.inl w_18)) else ((ZK w_18 x_17 r_27.1).bind fun x_29=>bif (decide (x_29.1=(0:Int))) then ((some ((⟨(⟨((⟨(⟨((⟨(⟨x_29.2.Vol.Chip,r_26.At,x_29.2.Vol.Gen,x_29.2.Vol.Last⟩:Vol),x_29.2.beyond⟩:flash_writer).Vol).Chip,((⟨(⟨x_29.2.Vol.Chip,r_26.At,x_29.2.Vol.Gen,x_29.2.Vol.Last⟩:Vol),x_29.2.beyond⟩:flash_writer).Vol).At,r_26.Gen,((⟨(⟨x_29.2.Vol.Chip,r_26.At,x_29.2.Vol.Gen,x_29.2.Vol.Last⟩:Vol),x_29.2.beyond⟩:flash_writer).Vol).Last⟩:Vol),(⟨(⟨x_29.2.Vol.Chip,r_26.At,x_29.2.Vol.Gen,x_29.2.Vol.Last⟩:Vol),x_29.2.beyond⟩:flash_writer).beyond⟩:flash_writer).Vol).Chip,((⟨(⟨((⟨(⟨x_29.2.Vol.Chip,r_26.At,x_29.2.Vol.Gen,x_29.2.Vol.Last⟩:Vol),x_29.2.beyond⟩:flash_writer).Vol).Chip,((⟨(⟨x_29.2.Vol.Chip,r_26.At,x_29.2.Vol.Gen,x_29.2.Vol.Last⟩:Vol),x_29.2.beyond⟩:flash_writer).Vol).At,r_26.Gen,((⟨(⟨x_29.2.Vol.Chip,r_26.At,x_29.2.Vol.Gen,x_29.2.Vol.Last⟩:Vol),x_29.2.beyond⟩:flash_writer).Vol).Last⟩:Vol),(⟨(⟨x_29.2.Vol.Chip,r_26.At,x_29.2.Vol.Gen,x_29.2.Vol.Last⟩:Vol),x_29.2.beyond⟩:flash_writer).beyond⟩:flash_writer).Vol).At,((⟨(⟨((⟨(⟨x_29.2.Vol.Chip,r_26.At,x_29.2.Vol.Gen,x_29.2.Vol.Last⟩:Vol),x_29.2.beyond⟩:flash_writer).Vol).Chip,((⟨(⟨x_29.2.Vol.Chip,r_26.At,x_29.2.Vol.Gen,x_29.2.Vol.Last⟩:Vol),x_29.2.beyond⟩:flash_writer).Vol).At,r_26.Gen,((⟨(⟨x_29.2.Vol.Chip,r_26.At,x_29.2.Vol.Gen,x_29.2.Vol.Last⟩:Vol),x_29.2.beyond⟩:flash_writer).Vol).Last⟩:Vol),(⟨(⟨x_29.2.Vol.Chip,r_26.At,x_29.2.Vol.Gen,x_29.2.Vol.Last⟩:Vol),x_29.2.beyond⟩:flash_writer).beyond⟩:flash_writer).Vol).Gen,x_17⟩:Vol),(⟨(⟨((⟨(⟨x_29.2.Vol.Chip,r_26.At,x_29.2.Vol.Gen,x_29.2.Vol.Last⟩:Vol),x_29.2.beyond⟩:flash_writer).Vol).Chip,((⟨(⟨x_29.2.Vol.Chip,r_26.At,x_29.2.Vol.Gen,x_29.2.Vol.Last⟩:Vol),x_29.2.beyond⟩:flash_writer).Vol).At,r_26.Gen,((⟨(⟨x_29.2.Vol.Chip,r_26.At,x_29.2.Vol.Gen,x_29.2.Vol.Last⟩:Vol),x_29.2.beyond⟩:flash_writer).Vol).Last⟩:Vol),(⟨(⟨x_29.2.Vol.Chip,r_26.At,x_29.2.Vol.Gen,x_29.2.Vol.Last⟩:Vol),x_29.2.beyond⟩:flash_writer).beyond⟩:flash_writer).beyond⟩:flash_writer):flash_writer)).bind fun l_31=>some (.inr ((0:Int),l_31))) else (bif (decide (x_29.1≠(9:Int))) then (some (.inr (x_29.1,x_29.2))) else (some (.inl x_29.2))))).bind fun o_21=>elS o_21 (fun w_20=>(Zat x_17 1).bind fun x_36=>some (.inl (x_36,w_20))) (fun q=>some (.inr (.inr q)))) else (some (.inr (.inl w_18)))
def ZcI (w0x:flash_writer) (ids0:Int):Option (Int×flash_writer):=
 (ZM (fun s=>Zbg w0x s.1 s.2) ((0:Int),w0x)).bind fun o_2=>elS o_2 (fun w_1=>(ZM (fun s=>Zbf ids0 s.1 s.2) ((0:Int),w_1)).bind fun o_16=>elS o_16 (fun w_15=>some ((9:Int),w_15)) (fun q=>some q)) (fun q=>some q)
theorem Zjb {w0x:flash_writer} {ids0:Int} {b0:Nat} {r:(Int×flash_writer)} (H:ZcI w0x ids0=some r):CO2 67 [⟨b0,True,One w0x⟩] (Pt b0 0) (D ids0) (fun g:Unit=>D r.1) fun g=>[⟨b0,True,One r.2⟩]:=eO2 Tryz.func67 rfl Tryz.ntmps67 fun A w hA hO=>by
 unfold ZcI at H;refine zC ?_;refine zC ?_;refine zh H fun o_2 H2 H=>?_
 refine Zn (fun s:flash_writer=>o_2=.inl s) (fun (w_1:flash_writer) (_:Unit)=>(Env.set (Env.set Env.nil 0 (Pt b0 0)) 1 (D ids0))) (fun (w_1:flash_writer) (_:Unit)=>[⟨b0,True,(One w_1)⟩]) ?_ ?_
 ·skip;refine Zp<|Zt H2 (fun ⟨x_3,w_4⟩ (_:Unit)=>(Env.set (Env.set (Env.set (Env.set Env.nil 0 (Pt b0 0)) 1 (D ids0)) 17 (D ((w0x.Vol.Chip.Blocks.length:Int):Int))) 18 (D x_3))) (fun ⟨x_3,w_4⟩ (_:Unit)=>[⟨b0,True,(One w_4)⟩]) () (Za (Za (Za (Za (Zd _))))) (Zc rfl (Ze _)) ?_;rintro ⟨x_3,w_4⟩ ⟨⟩ x_5 H5 he5;dsimp only at H5;unfold Zbg at H5;refine zg ?_;refine zc H5 (fun hc H5=>?_) fun hc H5=>?_
  ·refine ZaB<|Zak<|Zao ?_;refine zh H5 fun o_7 H7 H5=>?_
   refine Zn (fun s:flash_writer=>o_7=.inl s) (fun (w_6:flash_writer) (_:Unit)=>(Env.set (Env.set (Env.set (Env.set Env.nil 0 (Pt b0 0)) 1 (D ids0)) 17 (D ((w0x.Vol.Chip.Blocks.length:Int):Int))) 18 (D x_3))) (fun (w_6:flash_writer) (_:Unit)=>[⟨b0,True,(One w_6)⟩]) ?_ ?_
   ·skip;refine zg ?_;refine zn H7 fun _ ex_8 H7=>?_
    refine Zdi (oc2 [b0] (Zi5 ex_8.h) id toD) rfl fun _=>?_
    refine zw ?_;refine zc H7 (fun hc H7=>?_) fun hc H7=>?_
    ·refine zg ?_;exact Zk w_4 () (ZZs H7) (Za (Za (Za (Za (Zd _))))) (Zc rfl (Ze _))
    ·refine zg ?_;refine zn H7 fun x_10 ex_10 H7=>?_
     refine Zdi (oc2 [b0] (Zde ex_10.h) id toD) rfl fun _=>?_
     refine zw ?_;refine zc H7 (fun hc H7=>?_) fun hc H7=>?_
     ·refine zC ?_;refine ZN<|Zg<|Zv ?_;have R11:=ZaW (ZZi H7) H5;refine Zh<|Zh<|Zg<|Zv ?_;have R12:=ZaW (he5 _ (ZZs R11)) H;refine zg ?_;obtain rfl:=ZZi R12;exact ZA rfl () Cv.le (Zc rfl (Ze _))
     ·refine zg ?_;exact Zk x_10.2 () (ZZs H7) (Za (Za (Za (Za (Zd _))))) (Zc rfl (Ze _))
   rintro w_6 ⟨⟩ hp;replace H5:=Zcd hp H5;refine zg ?_;refine zb H5 fun x_14 _ H5=>?_
   exact Zq ⟨x_14,w_6⟩ () (ZZs H5) (Za (Za (Za (Za (Zd _))))) (Zc rfl (Ze _))
  ·refine zg ?_;exact Zk w_4 () (he5 _ (ZZs H5)).symm (Za (Za (Zd _))) (Zc rfl (Ze _))
 rintro w_1 ⟨⟩ hp;replace H:=Zcd hp H;refine zC ?_;refine zh H fun o_16 H16 H=>?_
 refine Zn (fun s:flash_writer=>o_16=.inl s) (fun (w_15:flash_writer) (_:Unit)=>Env.nil) (fun (w_15:flash_writer) (_:Unit)=>[⟨b0,True,(One w_15)⟩]) ?_ ?_
 ·skip;refine Zp<|Zt H16 (fun ⟨x_17,w_18⟩ (_:Unit)=>(Env.set (Env.set (Env.set Env.nil 0 (Pt b0 0)) 1 (D ids0)) 36 (D x_17))) (fun ⟨x_17,w_18⟩ (_:Unit)=>[⟨b0,True,(One w_18)⟩]) () (Za (Za (Za (Zd _)))) (Zc rfl (Ze _)) ?_;rintro ⟨x_17,w_18⟩ ⟨⟩ x_19 H19 he19;dsimp only at H19;unfold Zbf at H19;refine zg ?_;refine zc H19 (fun hc H19=>?_) fun hc H19=>?_
  ·refine ZaB<|Zak<|Zao ?_;refine zh H19 fun o_21 H21 H19=>?_
   refine Zn (fun s:flash_writer=>o_21=.inl s) (fun (w_20:flash_writer) (_:Unit)=>(Env.set (Env.set (Env.set Env.nil 0 (Pt b0 0)) 1 (D ids0)) 36 (D x_17))) (fun (w_20:flash_writer) (_:Unit)=>[⟨b0,True,(One w_20)⟩]) ?_ ?_
   ·skip;refine zC ?_;refine TC.seqD2 [0,0,1,0,0,2,3,1] [b0] mix (by kernel_rfl) (by kernel_rfl)<|TR2.s Zd2 rfl<|TR2.s Zd2 rfl ?_;refine zn H21 fun x_22 ex_22 H21=>?_
    refine TR2.t (fun Ωr g=>(oc2 [b0] (Zi9 ex_22.h) id toD)) rfl<|TR2.s Zd2 rfl ?_;refine zn H21 fun _ eu_24 H21=>?_
    refine TR2.s (OpY.makeSlice (Zdl eu_24.h).1 (Zdl eu_24.h).2.1 (Zdl eu_24.h).2.2) rfl ?_;refine TR2.r (fun g=>OpG.s (tB (⟨x_22,(List.replicate (Int.toNat ids0) (Dat.z:Int))⟩:Roots) rfl rfl)) rfl<|TR2.a (AllocU.of (α:=Roots)) rfl<|TR2.tn (fun Ωr g=>(Zy (y:=((⟨x_22,(List.replicate (Int.toNat ids0) (Dat.z:Int))⟩:Roots):Roots)) Zx)) rfl<|TR2.nil ?_;rintro ⟨⟨⟨⟨_,_⟩,_⟩,b8_24⟩,_⟩;dsimp only [Fam.nextS,Fam.nextN,Fam.one,List.cons_append,List.nil_append];refine zn H21 fun r_26 er_26 H21=>?_
    refine zX (ZC b8_24 (Zaj er_26.h)) ?_;refine zb H21 fun _ _ H21=>?_
    refine zm H21 fun _ ex_28 H21=>?_
    refine zX (ZlE 58 rfl (fun hg=>(ZcD [b0] (ZcL Zx trivial (by simp)) ArgB.d fun w v0 v1 hA h0 h1=>Za8 w v0 v1 hA h0 (toD h1) (Zbv ex_28.h (nF hg.h)))) rfl) ?_;refine zc H21 (fun hc H21=>?_) fun hc H21=>?_
    ·refine zg ?_;exact Zk w_18 () (ZZs H21) (Za (Za (Za (Zd _)))) (Zc rfl (Ze _))
    ·refine zg ?_;refine zn H21 fun x_29 ex_29 H21=>?_
     refine Zdi (oc3 [b0] (Za3 ex_29.h) id toD toD) rfl fun _=>?_
     refine zw ?_;refine zc H21 (fun hc H21=>?_) fun hc H21=>?_
     ·refine zX (Za9 [11,15,19] [b0] mix (by kernel_rfl) (by kernel_rfl)) ?_;refine zX (Zdt (fun g=>(Zy (y:=(r_26.At:(List Int))) (PF 6 Vol (List Int) (PF 0 flash_writer Vol Zx)))) rfl) ?_;refine zX (Zdt (fun g=>(Zy (y:=(r_26.Gen:UInt64)) (PF 7 Vol UInt64 (PF 0 flash_writer Vol Zx)))) rfl) ?_;refine Zdt (fun g=>(Zy (y:=(x_17:Int)) (PF 8 Vol Int (PF 0 flash_writer Vol Zx)))) rfl ?_;refine zC ?_;rintro ⟨⟨⟨_,_⟩,_⟩,_⟩;dsimp only [Fam.nextS,Fam.nextN,Fam.one,List.cons_append,List.nil_append];refine zn H21 fun _ el_31 H21=>?_
      refine ZC b0 (Zaj el_31.h) ?_;refine zC ?_;refine ZN<|Zh<|Zg<|Zv ?_;have R31:=ZaW (ZZi H21) H19;refine Zh<|Zh<|Zg<|Zv ?_;have R32:=ZaW (he19 _ (ZZs R31)) H;refine zg ?_;obtain rfl:=ZZi R32;exact ZA rfl () Cv.le (Zc rfl (Ze _))
     ·refine zg ?_;refine zc H21 (fun hc H21=>?_) fun hc H21=>?_
      ·refine zC ?_;refine ZN<|Zg<|Zv ?_;have R33:=ZaW (ZZi H21) H19;refine Zh<|Zh<|Zg<|Zv ?_;have R34:=ZaW (he19 _ (ZZs R33)) H;refine zg ?_;obtain rfl:=ZZi R34;exact ZA rfl () Cv.le (Zc rfl (Ze _))
      ·refine zg ?_;exact Zk x_29.2 () (ZZs H21) (Za (Za (Za (Zd _)))) (Zc rfl (Ze _))
   rintro w_20 ⟨⟩ hp;replace H19:=Zcd hp H19;refine zg ?_;refine zb H19 fun x_36 _ H19=>?_
   exact Zq ⟨x_36,w_20⟩ () (ZZs H19) (Za (Za (Za (Zd _)))) (Zc rfl (Ze _))
  ·refine zg ?_;exact Zk w_18 () (he19 _ (ZZs H19)).symm (Zd _) (Zc rfl (Ze _))
 rintro w_15 ⟨⟩ hp;replace H:=Zcd hp H;refine zg ?_;obtain rfl:=ZZi H;exact ZA rfl () Cv.le (Zc rfl (Ze _))
def ZeO (c0:Chip) (ids0:Int):Option (Vol×Int):=
 (Zeq c0).bind fun x_3=>(gb (!((!x_3)||(decide (ids0<(1:Int))))) (ZfM c0.Size)).bind fun x_4=>bif (((!x_3)||(decide (ids0<(1:Int))))||(decide (ids0>x_4))) then ((ZeN c0).bind fun x_5=>(some ((⟨x_5,[],0,0⟩:Vol):Vol)).bind fun k_6=>some (k_6,(1:Int))) else (bif c0.Off then ((ZeN c0).bind fun x_7=>(some ((⟨x_7,[],0,0⟩:Vol):Vol)).bind fun k_8=>some (k_8,(7:Int))) else ((ZeN c0).bind fun x_9=>(some ((⟨(⟨x_9,[],0,0⟩:Vol),false⟩:flash_writer):flash_writer)).bind fun w_11=>(ZcI w_11 ids0).bind fun x_12=>bif (decide (x_12.1≠(0:Int))) then ((some ((⟨x_12.2.Vol.Chip,[],0,0⟩:Vol):Vol)).bind fun k_14=>some (k_14,x_12.1)) else (some (x_12.2.Vol,(0:Int)))))
instance flash_Format_c:Fd2 23 ZeO fun r=>Tup [D r.1,D r.2]:=en2 Tryz.func23 rfl Tryz.ntmps23 fun A w hA c0 ids0 r H=>by
 unfold ZeO at H;refine zg ?_;refine TS.box rfl fun b2_0=>?_
 refine TS.alloc rfl fun b4_1=>zg ?_
 refine zb H fun _ _ H=>?_
 refine zd H fun _ _ H=>?_
 refine zc H (fun hc H=>?_) fun hc H=>?_
 ·refine zg ?_;refine zb H fun x_5 _ H=>?_
  refine TSx (tB (⟨x_5,[],0,0⟩:Vol) rfl rfl) ?_;exact zY H
 ·refine zg ?_;refine zc H (fun hc H=>?_) fun hc H=>?_
  ·refine zg ?_;refine zb H fun x_7 _ H=>?_
   refine TSx (tB (⟨x_7,[],0,0⟩:Vol) rfl rfl) ?_;exact zY H
  ·refine zg ?_;refine zb H fun x_9 _ H=>?_
   refine TSx (tB (⟨x_9,[],0,0⟩:Vol) rfl rfl) ?_;refine TSx (tB (⟨(⟨x_9,[],0,0⟩:Vol),false⟩:flash_writer) rfl rfl) ?_;refine TS.box rfl fun b34_9=>?_
   refine zC ?_;refine zn H fun _ ew_11 H=>?_
   refine zX (ZC b34_9 (Zaj ew_11.h)) ?_;refine zn H fun x_12 ex_12 H=>?_
   refine Zdi (oc2 [b34_9] (Zjb ex_12.h) id toD) rfl fun _=>?_
   refine zw ?_;refine zc H (fun hc H=>?_) fun hc H=>?_
   ·refine zg ?_;refine TSx (tB (⟨x_12.2.Vol.Chip,[],0,0⟩:Vol) rfl rfl) ?_;exact zY H
   ·exact zY H
end Go.Proofs.YtkmojgfenlgchaaGreatDoor.Tr
namespace Go.Proofs.YtkmojgfenlgchaaGreatDoor.Tr
open Go Go.RowKit
set_option maxRecDepth 100000
set_option synthInstance.maxHeartbeats 400000
set_option synthInstance.maxSize 4096
def ZlR (bits0:Int):Option Bool:=
 some ((decide (bits0=(32:Int)))||(decide (bits0=(128:Int))))
instance key_kind_c:Fd1 109 ZlR fun r=>D r:=en1 Tryz.func109 rfl Tryz.ntmps109 fun _ _ _ _ _ H=>by
 unfold ZlR at H;exact zY H
def ZkQ (k0:(Vec UInt8 16)) (n0:Int):Option (Vec UInt8 16):=
 bif (decide (n0≥(128:Int))) then (some k0) else (bif (decide (n0<(1:Int))) then (some (Dat.z:(Vec UInt8 16))) else ((ZjM n0 8).bind fun x_4=>(cut 16 0 x_4).bind fun u_5=>(cut 16 0 x_4).bind fun u_6=>(some ((Vec.put (Dat.z:(Vec UInt8 16)) (Int.toNat 0) (over (((Dat.z:(Vec UInt8 16)).l.drop (Int.toNat 0)).take ((x_4-0).toNat)) ((k0.l.drop (Int.toNat 0)).take ((x_4-0).toNat)))):(Vec UInt8 16))).bind fun cx_7=>((remI n0 8).bind fun x_10=>bif (decide (x_10>(0:Int))) then ((idx k0.l x_4).bind fun x_11=>(cnt x_10).bind fun n_12=>(idx cx_7.l x_4).bind fun x_13=>(some ((Vec.set cx_7 (Int.toNat x_4) (x_11 &&& ~~~(shr8 (UInt8.ofNat 255) x_10))):(Vec UInt8 16))).bind fun cx_14=>some cx_14) else (some cx_7)).bind fun cx_8=>some cx_8))
instance key_Cut_c:Fd2 34 ZkQ fun r=>D r:=en2 Tryz.func34 rfl Tryz.ntmps34 fun A w hA k0 n0 r H=>by
 unfold ZkQ at H;refine zg ?_;refine TS.box rfl fun b2_0=>?_
 refine TS.alloc rfl fun b4_1=>zg ?_
 refine zc H (fun hc H=>?_) fun hc H=>?_
 ·exact zY H
 ·refine zg ?_;refine TS.alloc rfl fun b5_2=>zg ?_
  refine zc H (fun hc H=>?_) fun hc H=>?_
  ·exact zY H
  ·refine zg ?_;refine zo H fun x_4 _ H=>?_
   refine zC ?_;refine zX (Za9 [4] [b2_0,b5_2] mix (by kernel_rfl) (by kernel_rfl)) ?_;refine zn H fun _ eu_5 H=>?_
   refine zX (ZeS (Zc0 (ZT eu_5.h).1 (ZT eu_5.h).2.1 (ZT eu_5.h).2.2 (by decide)) rfl) ?_;refine zn H fun _ eu_6 H=>?_
   refine TRx (Zc0 (ZT eu_6.h).1 (ZT eu_6.h).2.1 (ZT eu_6.h).2.2 (by decide))<|Zfz (fun g=>(ZcE (ys:=((k0.l.drop (Int.toNat 0)).take ((x_4-0).toNat))) (Zkt (Ziw Zx (ZhW eu_6.h) (by decide)) (ZgQ eu_6.h (Vec.h _))) (Ziw Zx (ZhW eu_5.h) (by decide)) (ZgQ eu_5.h (Vec.h _)) (fun _ h=>by simp [h,splice,Zeu]))) rfl ?_;refine zC ?_;rintro ⟨_,_⟩;dsimp only [Fam.nextS,Fam.nextN,Fam.one,List.cons_append,List.nil_append];refine zn H fun cx_7 ecx_7 H=>?_
   refine ZC b5_2 (Zaj ecx_7.h)<|Zao ?_;refine zh H fun o_9 H9 H=>?_
   refine Zn (fun s:(Vec UInt8 16)=>o_9=s) (fun (cx_8:(Vec UInt8 16)) (_:Unit)=>(Env.set (Env.set Env.nil 4 (Pt b4_1 0)) 5 (Pt b5_2 0))) (fun (cx_8:(Vec UInt8 16)) (_:Unit)=>[⟨b4_1,True,(One ((Dat.z:(Vec UInt8 16)):(Vec UInt8 16)))⟩,⟨b5_2,True,(One cx_8)⟩]) ?_ ?_
   ·skip;refine zg ?_;refine zb H9 fun x_10 _ H9=>?_
    refine zc H9 (fun hc H9=>?_) fun hc H9=>?_
    ·refine zX (Zf8 [8] [b5_2] mix (by kernel_rfl) (by kernel_rfl)) ?_;refine zn H9 fun x_11 ex_11 H9=>?_
     refine TRx (Zay (ZI ex_11.h (Vec.h _).symm)) ?_;refine zX (ZeS (ZaE (Ze5 (α:=UInt8) Zx ex_11.h)) rfl) ?_;refine zn H9 fun _ en_12 H9=>?_
     refine TRx (OpD.shr8 (cnt_some en_12.h).1)<|TRx OpY.andNot8 ?_;refine zn H9 fun _ ex_13 H9=>?_
     refine TRx (Zay (ZI ex_13.h (Vec.h _).symm))<|Zdt (fun g=>(Zy (y:=((x_11 &&& ~~~(shr8 (UInt8.ofNat 255) x_10)):UInt8)) (Ze5 (α:=UInt8) Zx ex_13.h))) rfl ?_;refine zC ?_;rintro ⟨_,_⟩;dsimp only [Fam.nextS,Fam.nextN,Fam.one,List.cons_append,List.nil_append];refine zn H9 fun cx_14 ecx_14 H9=>?_
     exact Zac b5_2 (Zaj ecx_14.h)<|Zk cx_14 () (ZZs H9) (Za (Za (Zd _))) (Zc rfl (Zc rfl (Ze _)))
    ·refine zg ?_;exact Zk cx_7 () (ZZs H9) (Za (Za (Zd _))) (Zc rfl (Zc rfl (Ze _)))
   rintro cx_8 ⟨⟩ hp;replace hp:=hp.symm;subst hp;exact zY H
def ZgL (p0:Prefix):Option Bool:=
 (ZlR p0.Bits).bind fun x_2=>bif (((!x_2)||(decide (p0.Len<(0:Int))))||(decide (p0.Len>p0.Bits))) then (some false) else ((ZkQ p0.Key p0.Len).bind fun x_3=>some (decide (x_3=p0.Key)))
instance key_May_c:Fd1 60 ZgL fun r=>D r:=en1 Tryz.func60 rfl Tryz.ntmps60 fun A w hA p0 r H=>by
 unfold ZgL at H;refine zg ?_;refine TS.box rfl fun b1_0=>zg ?_
 refine zb H fun _ _ H=>?_
 refine zc H (fun hc H=>?_) fun hc H=>?_
 ·exact zY H
 ·refine zg ?_;refine zb H fun _ _ H=>?_
  refine TRx (ZmN EqV_83 (by decide) EqG_83 rfl) ?_;exact zY H
def ZdW (a0:(List UInt8)) (b0:(List UInt8)):Option Int:=
 some (ZcJ a0 b0)
instance bytes_Compare_c:Fd2 110 ZdW fun r=>D r:=en2 Tryz.func110 rfl Tryz.ntmps110 fun A w hA a0 b0 r H=>by
 unfold ZdW at H;refine zg ?_;refine TSx OpY.cmp ?_;exact zY H
def Zgu (p0:Prefix) (q0:Prefix):Option Bool:=
 (ZgL p0).bind fun x_3=>(gb (!(!x_3)) (ZgL q0)).bind fun x_4=>bif ((!x_3)||(!x_4)) then (some false) else (bif (decide (p0.Bits≠q0.Bits)) then (some (decide (p0.Bits=(32:Int)))) else ((cut 16 0 (16:Int)).bind fun u_5=>(cut 16 0 (16:Int)).bind fun u_6=>(ZdW ((p0.Key.l.drop (Int.toNat 0)).take (((16:Int)-0).toNat)) ((q0.Key.l.drop (Int.toNat 0)).take (((16:Int)-0).toNat))).bind fun x_7=>bif (decide (x_7≠(0:Int))) then (some (decide (x_7<(0:Int)))) else (some (decide (p0.Len<q0.Len)))))
instance key_Less_c:Fd2 61 Zgu fun r=>D r:=en2 Tryz.func61 rfl Tryz.ntmps61 fun A w hA p0 q0 r H=>by
 unfold Zgu at H;refine zg ?_;refine TS.box rfl fun b2_0=>?_
 refine TS.box rfl fun b3_1=>zg ?_
 refine zb H fun _ _ H=>?_
 refine zd H fun _ _ H=>?_
 refine zc H (fun hc H=>?_) fun hc H=>?_
 ·exact zY H
 ·refine zg ?_;refine zc H (fun hc H=>?_) fun hc H=>?_
  ·exact zY H
  ·refine zg ?_;refine zn H fun _ eu_5 H=>?_
   refine zX (ZeS (Zc0 (ZT eu_5.h).1 (ZT eu_5.h).2.1 (ZT eu_5.h).2.2 (by decide)) rfl) ?_;refine zn H fun _ eu_6 H=>?_
   refine TRx (Zc0 (ZT eu_6.h).1 (ZT eu_6.h).2.1 (ZT eu_6.h).2.2 (by decide)) ?_;refine zn H fun _ ex_7 H=>?_
   refine TRx (ZcD [b2_0,b3_1] (ZiD (Ziw (PF 2 Prefix (Vec UInt8 16) Zx) (ZhW eu_5.h) (by decide)) (ZgQ eu_5.h (Vec.h _)) (by simp)) (ZiD (Ziw (PF 2 Prefix (Vec UInt8 16) Zx) (ZhW eu_6.h) (by decide)) (ZgQ eu_6.h (Vec.h _)) (by simp)) fun w v0 v1 hA h0 h1=>bytes_Compare_c.h w v0 v1 hA (toD h0) (toD h1) ex_7.h) ?_;exact zY H
def Zdk (t0:(List Route)) (x_2:Int):Option (Int⊕(Unit⊕Bool)):=
 bif (decide (x_2<(t0.length:Int))) then ((idx t0 x_2).bind fun x_4=>(ZgL x_4.Prefix).bind fun x_6=>bif (!x_6) then (some (.inr (.inr false))) else ((gb (decide (x_2>(0:Int))) (Zgh x_2 1)).bind fun x_8=>(gb (decide (x_2>(0:Int))) (idx t0 x_8)).bind fun x_9=>(gb (decide (x_2>(0:Int))) (Zgu x_9.Prefix x_4.Prefix)).bind fun x_10=>bif ((decide (x_2>(0:Int)))&&(!x_10)) then (some (.inr (.inr false))) else ((Zat x_2 1).bind fun x_12=>some (.inl x_12)))) else (some (.inr (.inl ())))
def ZaQ (t0:(List Route)):Option Bool:=
 bif (decide ((t0.length:Int)>(256:Int))) then (some false) else ((ZM (fun s=>Zdk t0 s) (0:Int)).bind fun o_1=>elS o_1 (fun _=>some true) (fun q=>some q))
instance table_Right_c:Fd1 18 ZaQ fun r=>D r:=en1 Tryz.func18 rfl Tryz.ntmps18 fun A w hA t0 r H=>by
 unfold ZaQ at H;refine zg ?_;refine zc H (fun hc H=>?_) fun hc H=>?_
 ·exact zY H
 ·refine zC ?_;refine zh H fun o_1 H1 H=>?_
  refine Zn (fun s:Unit=>o_1=.inl s) (fun (_:Unit) (_:Unit)=>Env.nil) (fun (_:Unit) (_:Unit)=>[]) ?_ ?_
  ·skip;refine Zp<|Zt H1 (fun (x_2:Int) (_:Unit)=>(Env.set (Env.set (Env.set (Env.set Env.nil 0 (D t0)) 8 (D t0)) 9 (D ((t0.length:Int):Int))) 10 (D x_2))) (fun (x_2:Int) (_:Unit)=>[]) () (Za (Za (Za (Za (Zd _))))) (Ze _) ?_;rintro x_2 ⟨⟩ x_3 H3 he3;unfold Zdk at H3;refine zg ?_;refine zc H3 (fun hc H3=>?_) fun hc H3=>?_
   ·refine zg ?_;refine zb H3 fun _ _ H3=>?_
    refine TS.alloc rfl fun b4_4=>zg ?_
    refine zb H3 fun _ _ H3=>?_
    refine zc H3 (fun hc H3=>?_) fun hc H3=>?_
    ·refine zC ?_;refine ZN<|Zh<|Zg<|Zh<|Zh<|Zg<|Zv ?_;have R6:=ZaW (he3 _ (ZZs H3)) H;refine zg ?_;obtain rfl:=ZZi R6;exact ZbM rfl Cv.le
    ·refine zg ?_;refine zd H3 fun _ _ H3=>?_
     refine zd H3 fun _ _ H3=>?_
     refine zd H3 fun _ _ H3=>?_
     refine zc H3 (fun hc H3=>?_) fun hc H3=>?_
     ·refine zC ?_;refine ZN<|Zg<|Zh<|Zh<|Zg<|Zv ?_;have R10:=ZaW (he3 _ (ZZs H3)) H;refine zg ?_;obtain rfl:=ZZi R10;exact ZbM rfl Cv.le
     ·refine zg ?_;refine zb H3 fun x_12 _ H3=>?_
      exact Zq x_12 () (ZZs H3) (Za (Za (Za (Za (Zd _))))) (Ze _)
   ·refine zg ?_;exact Zk () () (he3 _ (ZZs H3)).symm (Zd _) (Ze _)
  rintro ⟨⟩ ⟨⟩ hp;replace H:=Zcd hp H;exact zY H
def ZQ (s0:(List Route)):Option (List Route):=
 (Zc5 40 ((0+s0.length:Nat):Int)).bind fun _=>some s0
theorem Zdz {s0:(List Route)} {r:(List Route)} (H:ZQ s0=some r):CO1 46 [] (D s0) (fun g:Nat×Prop×Nat=>Sl g.1 g.2.1 0 (List.length r) g.2.2) fun g=>[⟨g.1,g.2.1,Row (r:List Route) g.2.2⟩]:=eO1 Tryz.func46 rfl Tryz.ntmps46 fun A w hA hO=>by
 unfold ZQ at H;refine zn H fun _ eu H=>?_
 obtain rfl:=ZZi H;refine zg ?_;refine TSx Zbw ?_;refine zC ?_;refine Zfl (fun hc=>?_) (fun hc=>?_)
 ·obtain rfl:=hc rfl;refine zg ?_;exact ZA rfl ⟨0,False,0⟩ Zcy (Zbc (Ze _))
 ·refine zg ?_;refine TS.build [] rfl rfl (by decide) rfl fun b=>zg ?_
  refine TS.app (ys:=s0) inferInstance eu.h rfl rfl rfl fun b1 p1 c1=>zg ?_
  exact ZA rfl ⟨b1,p1,c1⟩ (Zz (by simp)) (Zc rfl (Ze _))
instance slices_Clone_api_Route_c:Fd1 46 ZQ fun r=>D r:=⟨fun w v0 hA h0 H=>(on1 (Zdz H) w v0 hA h0).mono fun e w' h=>Zhg hA h⟩
def Zc4 (i0:Int) (cap1:(List Route)) (cap2:Prefix):Option Bool:=
 (idx cap1 i0).bind fun x_1=>(Zgu x_1.Prefix cap2).bind fun x_2=>some (!x_2)
theorem Zl8 {A:Nat→Prop} {i0:Int} {cap1:(List Route)} {cap2:Prefix}  {r:Bool} (w:World) (v0 v1 v2:Value) (hA:∀ k,w.heap.size≤k→A k)  (h0:(D i0).p A w v0) (h1:(ZlG cap1).p A w v1) (h2:(ZlG cap2).p A w v2) (H:Zc4 i0 cap1 cap2=some r) :
    Calls Tryz.prog 128 #[v0,v1,v2] w (Ret A w (D r)):=by
 unfold Zc4 at H;refine enter3 hA Tryz.func128 rfl Tryz.ntmps128 rfl h0 h1 h2 ?_;exact zY H
def ZgF (f0:(F1 Tryz.prog Int Bool)) (i_3:Int) (j_4:Int):Option ((Int×Int)⊕Int):=
 bif (decide (i_3<j_4)) then ((Zat i_3 j_4).bind fun x_6=>(ZiK ((shr64 (UInt64.ofInt x_6) ((UInt64.ofNat 1).toNat:Int)).toNat:Int)).bind fun x_7=>((f0).f x_7).bind fun x_8=>bif (!x_8) then ((Zat x_7 1).bind fun x_9=>some (.inl (x_9,j_4))) else (some (.inl (i_3,x_7)))) else (some (.inr i_3))
def ZfK (n0:Int) (f0:(F1 Tryz.prog Int Bool)):Option Int:=
 (ZM (fun s=>ZgF f0 s.1 s.2) ((0:Int),n0)).bind fun i_1=>some i_1
instance sort_Search_c:Fd2 127 ZfK fun r=>D r:=en2 Tryz.func127 rfl Tryz.ntmps127 fun A w hA n0 f0 r H=>by
 unfold ZfK at H;refine zC ?_;refine zC ?_;refine Zao ?_;refine zh H fun o_2 H2 H=>?_
 refine Zn (fun s:Int=>o_2=s) (fun (i_1:Int) (_:Unit)=>(Env.set Env.nil 5 (D i_1))) (fun (i_1:Int) (_:Unit)=>[]) ?_ ?_
 ·skip;refine Zp<|Zt H2 (fun ⟨i_3,j_4⟩ (_:Unit)=>(Env.set (Env.set (Env.set Env.nil 1 (D f0)) 5 (D i_3)) 6 (D j_4))) (fun ⟨i_3,j_4⟩ (_:Unit)=>[]) () (Za (Za (Za (Zd _)))) (Ze _) ?_;rintro ⟨i_3,j_4⟩ ⟨⟩ x_5 H5 he5;dsimp only at H5;unfold ZgF at H5;refine zg ?_;refine zc H5 (fun hc H5=>?_) fun hc H5=>?_
  ·refine zg ?_;refine zb H5 fun _ _ H5=>?_
   refine TSx Ziy<|TSx (OpD.shr64 (Int.natCast_nonneg _)) ?_;refine zn H5 fun x_7 ex_7 H5=>?_
   refine zX (ZaZ (Zlv ex_7.h) rfl) ?_;refine zn H5 fun _ ex_8 H5=>?_
   refine zX (ZaZ (Zk5 ex_8.h) rfl) ?_;refine zc H5 (fun hc H5=>?_) fun hc H5=>?_
   ·refine zg ?_;refine zb H5 fun x_9 _ H5=>?_
    exact Zq ⟨x_9,j_4⟩ () (ZZs H5) (Za (Za (Za (Zd _)))) (Ze _)
   ·refine zg ?_;exact Zq ⟨i_3,x_7⟩ () (ZZs H5) (Za (Za (Za (Zd _)))) (Ze _)
  ·refine zg ?_;exact Zk i_3 () (he5 _ (ZZs H5)).symm (Za (Zd _)) (Ze _)
 rintro i_1 ⟨⟩ hp;replace hp:=hp.symm;subst hp;exact zY H
def ZfG (t0:(List Route)) (p0:Prefix):Option (Int×Bool):=
 (ZfK (t0.length:Int) (⟨fun x0=>Zc4 x0 t0 p0⟩:(F1 Tryz.prog Int Bool))).bind fun x_3=>(gb (decide (x_3<(t0.length:Int))) (idx t0 x_3)).bind fun x_4=>some (x_3,((decide (x_3<(t0.length:Int)))&&(decide (x_4.Prefix=p0))))
instance table_place_c:Fd2 79 ZfG fun r=>Tup [D r.1,D r.2]:=en2 Tryz.func79 rfl Tryz.ntmps79 fun A w hA t0 p0 r H=>by
 unfold ZfG at H;refine zg ?_;refine TS.box rfl fun b2_0=>?_
 refine TS.box rfl fun b3_1=>zg ?_
 refine TS.pub b2_0 (PubE.set 2 (PubC.pq Zx) PubE.refl) ?_;refine TS.pub b3_1 (PubE.set 3 (PubC.pq Zx) PubE.refl) ?_;refine TSx (OpY.mk1_2 fun w v0 v1 v2 hA h0 h1 h2 e=>Zl8 w v0 v1 v2 hA h0 h1 h2 e) ?_;refine zb H fun _ _ H=>?_
 refine zd H fun _ _ H=>?_
 refine TR.g 16 rfl (fun hg=>(ZmN EqV_85 (by decide) EqG_85 rfl)) rfl ?_;exact zY H
def Zbu (s0:(List Route)) (i0:Int) (j0:Int):Option (List Route):=
 (cut s0.length i0 j0).bind fun _=>some (s0.take (Int.toNat i0)++s0.drop (Int.toNat j0))
theorem ZgH {A:Nat→Prop} {s0:(List Route)} {i0:Int} {j0:Int} {b0 c0:Nat} {p0:Prop} {r:(List Route)} (w:World) (v0 v1 v2:Value) (hA:∀ k,w.heap.size≤k→A k) (hO:OwnIn A [⟨b0,p0,Row (s0:List Route) c0⟩]) (hap:Zfp [⟨b0,p0,Row (s0:List Route) c0⟩]) (hks:Pks (Pub A [⟨b0,p0,Row (s0:List Route) c0⟩]) [⟨b0,p0,Row (s0:List Route) c0⟩] w) (h0:(Sl b0 p0 0 s0.length c0).p (Pub A [⟨b0,p0,Row (s0:List Route) c0⟩]) w v0) (h1:(D i0).p (Pub A [⟨b0,p0,Row (s0:List Route) c0⟩]) w v1) (h2:(D j0).p (Pub A [⟨b0,p0,Row (s0:List Route) c0⟩]) w v2) (H:Zbu s0 i0 j0=some r) :
    Calls Tryz.prog 94 #[v0,v1,v2] w (Zk3 A w [⟨b0,p0,Row (s0:List Route) c0⟩] (fun g:Nat×Prop×Nat=>Sl g.1 g.2.1 0 (List.length r) g.2.2) fun g=>[⟨g.1,g.2.1,Row (r:List Route) g.2.2⟩]):=by
 unfold Zbu at H;refine enterO3 hA hap hks Tryz.func94 rfl Tryz.ntmps94 rfl h0 h1 h2 ?_;refine zn H fun _ eu_1 H=>?_
 obtain rfl:=ZZi H;have e0:=ZT eu_1.h;refine zg ?_;refine TSx (Zax (n:=s0.length) rfl) ?_;refine zX (ZaZ (OpY.slice3Sv (u:=()) (v:=()) (cut_of (by omega) (by omega) (by simp;omega)) (cut_of (by omega) (by omega) (by omega))) rfl) ?_;refine Zf9 (fun hc=>?_) (fun hc=>?_)
 ·obtain rfl:i0=j0:=by simpa using hc
  refine zg ?_;rw [List.take_append_drop];exact ZA rfl ⟨b0,p0,c0⟩ (Zz rfl) (Zc rfl (Ze _))
 ·have hne:i0≠j0:=by simpa using hc
  have hp:p0:=by
    rcases h0 with ⟨h,-⟩ | ⟨-,h,-⟩
    · exact h
    · exfalso;omega
  have hz:(s0.drop (Int.toNat j0)).length=s0.length-Int.toNat j0:=List.length_drop ..;refine zg ?_;refine TSx (Zax (n:=s0.length) rfl) ?_;refine zC ?_;refine zX (Za9 [6,7] [b0] mix (by kernel_rfl) (by kernel_rfl)) ?_;refine zX (ZeS (Zd1 (by omega) (by omega)) rfl) ?_;refine TRx (ZaM (by omega) (by omega))<|Zfz (fun g=>OpT.appIn (ys:=s0.drop (Int.toNat j0)) (Zkt (ZmJ (by omega)) (by rw [hz];omega)) hp rfl (by omega)) rfl<|Zfz (fun g=>Zgd rfl Zey) rfl ?_;refine zC ?_;rintro ⟨⟨_,_⟩,_⟩;dsimp only [Fam.nextS,Fam.nextN,Fam.one,List.cons_append,List.nil_append];refine zg ?_;refine zX (ZaZ (Zax (n:=Int.toNat i0+(s0.drop (Int.toNat j0)).length) rfl) rfl) ?_;have hsl:(splice s0 (Int.toNat i0) (s0.drop (Int.toNat j0))).length=s0.length:=by simp [splice];omega
  refine TSx (ZmM (xs:=splice s0 (Int.toNat i0) (s0.drop (Int.toNat j0))) hp (by omega) (by omega) (by omega))<|Zbi (OpT.clearBy (xs:=((splice s0 (Int.toNat i0) (s0.drop (Int.toNat j0))).drop (Int.toNat ((Int.toNat i0+(s0.drop (Int.toNat j0)).length:Nat):Int))).take ((s0.length:Int)-((Int.toNat i0+(s0.drop (Int.toNat j0)).length:Nat):Int)).toNat) (ZgA (by omega)) (by simp [hsl];omega) (fun _ h=>by simp [h,splice])) ?_;refine zC ?_;refine zC ?_;refine ZN ?_;have hk:Int.toNat i0≤s0.length:=by omega
  refine ZA rfl ⟨b0,p0,c0⟩ (Zz (by simp;omega)) (ZjK (Int.toNat i0+(s0.drop (Int.toNat j0)).length) (by simp [splice];omega) ?_ (Ze _));exact del_take hk rfl
theorem ZlL {α:Type} {a b ys:List α} {m:Nat} (hm:m=b.length) (hy:ys.length≤b.length):splice (a++b) a.length (over (((a++b).drop a.length).take m) ys)=a++(ys++b.drop ys.length):=by
 subst hm;have e1:((a++b).drop a.length).take b.length=b:=by simp
 rw [e1];have e2:over b ys=ys++b.drop ys.length:=by unfold over;rw [List.take_of_length_le hy]
 rw [e2];unfold splice;have e3:(ys++b.drop ys.length).length=b.length:=by simp;omega
 have e4:(a++b).drop (a.length+b.length)=[]:=List.drop_of_length_le (by simp);rw [e3,List.take_left,e4,List.append_nil]
theorem spl_shift {α:Type} {s:List α} {k:Nat} {z:α} {m:Nat} (hk:k<s.length) (hm:m=s.length+1-k):splice (splice s (k+1) (s.drop k)) k (over (((splice s (k+1) (s.drop k)).drop k).take m) [z])=s.take k++[z]++s.drop k:=by
 have e0:splice s (k+1) (s.drop k)=s.take k++(s[k]::s.drop k):=by
   have e8:s.drop (k+1+(s.drop k).length)=[]:=List.drop_of_length_le (by simp;omega);unfold splice;rw [e8,List.append_nil,List.take_succ_eq_append_getElem hk,List.append_assoc];rfl
 rw [e0];have e1:(s.take k).length=k:=by simp;omega
 have:=ZlL (a:=s.take k) (b:=s[k]::s.drop k) (ys:=[z]) (m:=m) (by simp;omega) (by simp);rw [e1] at this;rw [this];simp
theorem spl_grow {α:Type} {s:List α} {k q m m':Nat} {z d:α} (hk:k<s.length) (hq:q=s.length+1-k) (hm:m=s.length+1-k) (hm':m'=s.length-k) :
    splice (splice (s.take k++List.replicate q d) k (over (((s.take k++List.replicate q d).drop k).take m) [z])) (k+1) (over (((splice (s.take k++List.replicate q d) k (over (((s.take k++List.replicate q d).drop k).take m) [z])).drop (k+1)).take m') (s.drop k))=s.take k++[z]++s.drop k:=by
 have e1:(s.take k).length=k:=by simp;omega
 have h1:=ZlL (a:=s.take k) (b:=List.replicate q d) (ys:=[z]) (m:=m) (by simp;omega) (by simp;omega);rw [e1] at h1;rw [h1];have e2:(s.take k++[z]).length=k+1:=by simp;omega
 have h2:=ZlL (a:=s.take k++[z]) (b:=(List.replicate q d).drop 1) (ys:=s.drop k) (m:=m') (by simp;omega) (by simp;omega);rw [e2,List.append_assoc] at h2;have e3:([z]:List α).length=1:=rfl;have e5:((List.replicate q d).drop 1).drop (s.drop k).length=[]:=List.drop_of_length_le (by simp;omega);rw [e3,h2,e5,List.append_nil]
def Zbt (s0:List Route) (i0:Int) (v0x:List Route):Option (List Route):=
 (cut s0.length i0 s0.length).bind fun _=>(lenI v0x.length 1).bind fun _=>(Zc5 40 ((s0.length+v0x.length:Nat):Int)).bind fun _=>some (s0.take (Int.toNat i0)++v0x++s0.drop (Int.toNat i0))
theorem ZgG {A:Nat→Prop} {s0:List Route} {i0:Int} {z:Route} {b0 c0:Nat} {p0:Prop} {r:List Route} (w:World) (v0 v1 v2:Value) (hA:∀ k,w.heap.size≤k→A k) (hO:OwnIn A [⟨b0,p0,Row (s0:List Route) c0⟩]) (hap:Zfp [⟨b0,p0,Row (s0:List Route) c0⟩]) (hks:Pks (Pub A [⟨b0,p0,Row (s0:List Route) c0⟩]) [⟨b0,p0,Row (s0:List Route) c0⟩] w)
    (h0:(Sl b0 p0 0 s0.length c0).p (Pub A [⟨b0,p0,Row (s0:List Route) c0⟩]) w v0) (h1:(D i0).p (Pub A [⟨b0,p0,Row (s0:List Route) c0⟩]) w v1) (h2:(D ([z]:List Route)).p (Pub A [⟨b0,p0,Row (s0:List Route) c0⟩]) w v2) (hraw:Raw1 w v2) (H:Zbt s0 i0 [z]=some r) :
    Calls Tryz.prog 95 #[v0,v1,v2] w (Zk3 A w [⟨b0,p0,Row (s0:List Route) c0⟩] (fun g:Nat×Prop×Nat=>Sl g.1 g.2.1 0 (List.length r) g.2.2) fun g=>[⟨g.1,g.2.1,Row (r:List Route) g.2.2⟩]):=by
 unfold Zbt at H;refine zn H fun _ eu_1 H=>?_
 refine zn H fun _ _ H=>?_
 refine zn H fun _ eu_3 H=>?_
 obtain rfl:=ZZi H;have e0:=ZT eu_1.h;have e3:=(Za1 eu_3.h).2.2;have e4:=(Za1 eu_3.h).2.1;simp only [List.length_cons,List.length_nil] at e3 e4;obtain ⟨k,rfl⟩:=Int.eq_ofNat_of_zero_le e0.1;simp only [Int.toNat_natCast];have hk0:k≤s0.length:=by omega
 have hS:∀ q l c,v2=.slice (some ⟨q,0,none⟩) l c→¬ Own [⟨b0,p0,Row (s0:List Route) c0⟩] q:=fun q l c hv ho=>by
   obtain ⟨ad,cc,q1,q2,q3,q4,q5⟩:=ZlI rfl h2;obtain ⟨b,off,q6,q7,_⟩:=q5 0 (by simp);rw [hv] at q1;injection q1 with q1;injection q1 with q8;rw [q6] at q8;injection q8 with q8;injection q8 with q8;exact (ZE.1 q7).2 (q8▸ho)
 have hx2:(ExD v2 ([z]:List Route)).p (Pub A [⟨b0,p0,Row (s0:List Route) c0⟩]) w v2:=⟨rfl,h2⟩;have hadd:Zat (s0.length:Int) ((([z]:List Route).length:Nat):Int)=some ((s0.length+1:Nat):Int):=by
   unfold Zat ZiK;simp only [List.length_cons,List.length_nil];rw [if_pos (by omega)];congr 1
 have hadk:Zat ((k:Nat):Int) ((([z]:List Route).length:Nat):Int)=some ((k+1:Nat):Int):=by
   unfold Zat ZiK;simp only [List.length_cons,List.length_nil];rw [if_pos (by omega)];congr 1
 refine zX (enterO3 hA hap hks Tryz.func95 rfl Tryz.ntmps95 rfl h0 h1 hx2) ?_;refine zX (ZaZ (ZaM (by omega) (by omega)) rfl) ?_;refine Zf9 (fun hc=>?_) (fun hc=>?_)
 ·exact absurd hc (by simp)
 ·refine zg ?_;refine zX (ZaZ (Zax (n:=s0.length) rfl) rfl) ?_;refine Zf9 (fun hc2=>?_) (fun hc2=>?_)
  ·have hkn:k=s0.length:=by have:=of_decide_eq_true hc2;omega
   refine zg ?_;refine TS.app (ys:=[z]) inferInstance eu_3.h rfl rfl rfl fun b1 p1 c1=>zg ?_
   have hr:s0.take k++[z]++s0.drop k=s0++[z]:=by rw [hkn];simp
   rw [hr];exact ZA rfl ⟨b1,p1,c1⟩ (Zz rfl) (Zc rfl (Ze _))
  ·have hkn:k<s0.length:=by
     have:¬ ((k:Nat):Int)=(s0.length:Int):=by simpa using hc2
     omega
   have hp:p0:=by
     rcases h0 with ⟨h,-⟩ | ⟨-,h,-⟩
     · exact h
     · exfalso;omega
   refine zg ?_;refine zX (ZaZ (Zge hadd) rfl) ?_;refine zX (ZaZ OpY.capSl rfl) ?_;refine Zf9 (fun hc3=>?_) (fun hc3=>?_)
   ·have hcap:c0<s0.length+1:=by
      have:=of_decide_eq_true hc3;omega
    have hsub:Zgh ((s0.length+1:Nat):Int) ((k:Nat):Int)=some ((s0.length+1-k:Nat):Int):=by
      unfold Zgh ZiK;rw [if_pos (by omega)];exact congrArg some (by omega)
    refine zg ?_;refine zX (ZaZ (Zd1 (by omega) (by omega)) rfl) ?_;refine zX (ZaZ (Zge hadd) rfl) ?_;refine TSx (OpD.sub hsub) ?_;refine Zdi (OpT.appZ (xs:=s0) hp (by simp only [Int.toNat_natCast];omega) (by omega) (by simp only [Int.toNat_natCast];omega) (by simp only [Int.toNat_natCast];omega) (by simp only [Int.toNat_natCast];omega)) rfl fun ⟨b1,c1⟩=>?_
    refine zC ?_;simp only [Int.toNat_natCast];have hL:(s0.take k++List.replicate (s0.length+1-k) (Dat.z:Route)).length=s0.length+1:=by simp;omega
    refine zg ?_;refine zX (ZaZ (ZaM (by omega) (by omega)) rfl) ?_;refine TS.u (ZcE (ys:=[z]) inferInstance (ZgA (k:=k) (n:=s0.length+1-k) (by omega)) (by simp <;> omega) (fun _ h=>by simp [h,splice])) rfl ?_;refine zC ?_;generalize hX:splice (s0.take k++List.replicate (s0.length+1-k) (Dat.z:Route)) k (over (((s0.take k++List.replicate (s0.length+1-k) (Dat.z:Route)).drop k).take (s0.length+1-k)) [z])=X;have hXl:X.length=s0.length+1:=by
      rw [← hX];have e1:(s0.take k).length=k:=by simp;omega
      have h1:=ZlL (a:=s0.take k) (b:=List.replicate (s0.length+1-k) (Dat.z:Route)) (ys:=[z]) (m:=s0.length+1-k) (by simp) (by simp;omega);rw [e1] at h1;rw [h1];simp;omega
    refine zX (Za9 [8] [b1] mix (by kernel_rfl) (by kernel_rfl)) ?_;refine TRx (Zge hadk) ?_;refine zX (ZeS (ZaM (by omega) (by omega)) rfl) ?_;refine TRx (ZaM (by omega) (by omega))<|Zfz (fun g=>ZcE (ys:=s0.drop k) (Zkt (ZmJ (by omega)) (by simp <;> omega)) (ZgA (k:=k+1) (n:=s0.length-k) (by omega)) (by simp <;> omega) (fun _ h=>by simp [h,splice])) rfl ?_;refine zC ?_;rintro ⟨_,_⟩;dsimp only [Fam.nextS,Fam.nextN,Fam.one,List.cons_append,List.nil_append];refine zg ?_;have hfin:=spl_grow (s:=s0) (k:=k) (z:=z) (d:=(Dat.z:Route)) hkn rfl rfl rfl;rw [hX] at hfin;exact ZA rfl ⟨b1,True,c1⟩ (Zz (by rw [hL];simp;omega)) (Zc (by rw [hfin]) (Ze _))
   ·have hcap:s0.length+1≤c0:=by
      have:¬ ((s0.length+1:Nat):Int)>((c0:Nat):Int):=of_decide_eq_false hc3;omega
    refine zg ?_;refine TSx (Zge hadd) ?_;refine zX (ZaZ (OpY.sliceUp (by omega) (by omega)) rfl) ?_;refine TSx (Zge hadk)<|TSx (ZaM (by omega) (by omega)) ?_;refine zX (TS.ovl hp hraw hS (fun A w cs h=>by have:=h.1;have h2:Dat.sz Route=19:=rfl;rw [this,h2];omega) rfl (by omega)) ?_;refine Zf9 (fun hc4=>?_) (fun hc4=>?_)
    ·refine zX (Za9 [8] [b0] mix (by kernel_rfl) (by kernel_rfl)) ?_;refine TRx (Zge hadk) ?_;refine zX (ZeS (ZaM (by omega) (by omega)) rfl) ?_;refine TRx (ZaM (by omega) (by omega))<|Zfz (fun g=>OpT.copyShift (xs:=s0) (k:=k) (by simp) (by simp) hkn (by omega) (by omega) hcap (by unfold ZjN;omega)) rfl ?_;refine zC ?_;rintro ⟨_,_⟩;dsimp only [Fam.nextS,Fam.nextN,Fam.one,List.cons_append,List.nil_append];have hXl:(splice s0 (k+1) (s0.drop k)).length=s0.length+1:=by simp [splice];omega
     refine zg ?_;refine zX (ZaZ (ZaM (by omega) (by omega)) rfl) ?_;refine zX (TS.u (ZcE (ys:=[z]) inferInstance (ZgA (k:=k) (n:=s0.length+1-k) (by omega)) (by simp <;> omega) (fun _ h=>by simp [h,splice])) rfl) ?_;exact ZA rfl ⟨b0,p0,c0⟩ (Zz (by simp;omega)) (Zc (by rw [spl_shift hkn rfl]) (Ze _))
    ·exact absurd hc4 (by simp)
def ZeI (t0:(List Route)) (c0x:Change):Option ((List Route)×Int):=
 (ZgL c0x.Route.Prefix).bind fun x_2=>bif (!x_2) then (some (t0,(1:Int))) else ((ZfG t0 c0x.Route.Prefix).bind fun r_3=>bif (c0x.Gone&&(!r_3.2)) then (some (t0,(6:Int))) else (bif c0x.Gone then ((Zat r_3.1 1).bind fun x_4=>(Zbu t0 r_3.1 x_4).bind fun x_5=>some (x_5,(0:Int))) else (bif r_3.2 then ((idx t0 r_3.1).bind fun x_7=>(some ((t0.set (Int.toNat r_3.1) c0x.Route):(List Route))).bind fun l_8=>some (l_8,(0:Int))) else (bif (decide ((t0.length:Int)≥(256:Int))) then (some (t0,(5:Int))) else ((Zbt t0 r_3.1 [c0x.Route]).bind fun x_10=>some (x_10,(0:Int)))))))
theorem table_change_o {t0:(List Route)} {c0x:Change} {b0 c0:Nat} {p0:Prop} {r:((List Route)×Int)} (H:ZeI t0 c0x=some r):CO2 47 [⟨b0,p0,Row (t0:List Route) c0⟩] (Sl b0 p0 0 t0.length c0) (D c0x) (fun g:Nat×Prop×Nat=>Tup [Sl g.1 g.2.1 0 (List.length r.1) g.2.2,D r.2]) fun g=>[⟨g.1,g.2.1,Row (r.1:List Route) g.2.2⟩]:=eO2 Tryz.func47 rfl Tryz.ntmps47 fun A w hA hO=>by
 unfold ZeI at H;refine zg ?_;refine TS.box rfl fun b3_0=>zg ?_
 refine zb H fun _ _ H=>?_
 refine zc H (fun hc H=>?_) fun hc H=>?_
 ·refine zg ?_;obtain rfl:=ZZi H;exact Zap rfl rfl ⟨b0,p0,c0⟩ (.cons (Zz rfl) (.cons Cv.le .nil)) (Zc rfl (Ze _))
 ·refine zg ?_;refine zn H fun _ er_3 H=>?_
  refine zX (ZaZ (ZcD [b0] (ZiD PlS.all rfl (by simp)) ArgB.d fun w v0 v1 hA h0 h1=>table_place_c.h w v0 v1 hA (toD h0) (toD h1) er_3.h) rfl) ?_;refine zc H (fun hc H=>?_) fun hc H=>?_
  ·refine zg ?_;obtain rfl:=ZZi H;exact Zap rfl rfl ⟨b0,p0,c0⟩ (.cons (Zz rfl) (.cons Cv.le .nil)) (Zc rfl (Ze _))
  ·refine zg ?_;refine zc H (fun hc H=>?_) fun hc H=>?_
   ·refine zg ?_;refine zb H fun _ _ H=>?_
    refine zn H fun _ ex_5 H=>?_
    refine Zdi (OpT.callO3 [b0] fun w v0 v1 v2 hA hO hap hks h0 h1 h2=>ZgH w v0 v1 v2 hA hO hap hks (slD rfl h0) (toD h1) (toD h2) ex_5.h) rfl fun ⟨b37_5,p37_5,c37_5⟩=>?_
    refine zw ?_;obtain rfl:=ZZi H;exact Zap rfl rfl ⟨b37_5,p37_5,c37_5⟩ (.cons (Zz rfl) (.cons Cv.le .nil)) (Zc rfl (Ze _))
   ·refine zg ?_;refine zc H (fun hc H=>?_) fun hc H=>?_
    ·refine zg ?_;refine zn H fun _ ex_7 H=>?_
     refine TSx (Zm (ZI ex_7.h rfl)) ?_;refine zC ?_;refine zn H fun _ el_8 H=>?_
     refine ZC b0 (ZY el_8.h) ?_;refine zX (Zcc 0 _ (ZaK el_8.h (by simp))) ?_;obtain rfl:=ZZi H;exact Zap rfl rfl ⟨b0,p0,c0⟩ (.cons (Zz rfl) (.cons Cv.le .nil)) (Zc rfl (Ze _))
    ·refine zg ?_;refine zX (ZaZ (Zax (n:=t0.length) rfl) rfl) ?_;refine zc H (fun hc H=>?_) fun hc H=>?_
     ·refine zg ?_;obtain rfl:=ZZi H;exact Zap rfl rfl ⟨b0,p0,c0⟩ (.cons (Zz rfl) (.cons Cv.le .nil)) (Zc rfl (Ze _))
     ·refine zg ?_;refine zn H fun _ ex_10 H=>?_
      refine TS.buildCall (pk:=inferInstance) (b:=b0) (Nat.le_of_ble_eq_true rfl) rfl rfl (fun w v0 v1 v2 hA hO hap hks h0 h1 h2 hraw=>ZgG w v0 v1 v2 hA hO hap hks (slD rfl h0) (toD h1) h2 hraw ex_10.h) fun ⟨b56_8,p56_8,c56_8⟩=>?_
      refine zw ?_;obtain rfl:=ZZi H;exact Zap rfl rfl ⟨b56_8,p56_8,c56_8⟩ (.cons (Zz rfl) (.cons Cv.le .nil)) (Zc rfl (Ze _))
def ZgE (t0:(List Route)) (l0:(List Change)) (x_8:Int) (u_10:(List Route)):Option ((Int×(List Route))⊕((List Route)⊕((List Route)×Int))):=
 bif (decide (x_8<(l0.length:Int))) then ((idx l0 x_8).bind fun x_12=>(ZeI u_10 x_12).bind fun x_14=>bif (decide (x_14.2≠(0:Int))) then ((ZQ t0).bind fun x_16=>some (.inr (.inr (x_16,x_14.2)))) else ((Zat x_8 1).bind fun x_18=>some (.inl (x_18,x_14.1)))) else (some (.inr (.inl u_10)))
def Zef (t0:(List Route)) (l0:(List Change)):Option ((List Route)×Int):=
 (ZaQ t0).bind fun x_1=>bif (!x_1) then ((ZQ t0).bind fun x_2=>some (x_2,(1:Int))) else ((ZQ t0).bind fun x_3=>(ZM (fun s=>ZgE t0 l0 s.1 s.2) ((0:Int),x_3)).bind fun o_7=>elS o_7 (fun u_6=>some (u_6,(0:Int))) (fun q=>some q))
instance table_Apply_c:Fd2 11 Zef fun r=>Tup [D r.1,D r.2]:=en2 Tryz.func11 rfl Tryz.ntmps11 fun A w hA t0 l0 r H=>by
 unfold Zef at H;refine zg ?_;refine zb H fun _ _ H=>?_
 refine zc H (fun hc H=>?_) fun hc H=>?_
 ·exact zY H
 ·refine zg ?_;refine zn H fun _ ex_3 H=>?_
  refine Zdi (oc1 [] (Zdz ex_3.h) toD) rfl fun ⟨b16_3,p16_3,c16_3⟩=>?_
  dsimp only [List.cons_append,List.nil_append];refine zC ?_;refine zC ?_;refine zh H fun o_7 H7 H=>?_
  refine Zn (fun s:(List Route)=>o_7=.inl s) (fun (u_6:(List Route)) (⟨b_4,p_4,c_4⟩:Nat×Prop×Nat)=>(Env.set Env.nil 6 (Sl b_4 p_4 0 u_6.length c_4))) (fun (u_6:(List Route)) (⟨b_4,p_4,c_4⟩:Nat×Prop×Nat)=>[⟨b_4,p_4,(Row (u_6:List Route) c_4)⟩]) ?_ ?_
  ·skip;refine Zp<|Zt H7 (fun ⟨x_8,u_10⟩ (⟨b_8,p_8,c_8⟩:Nat×Prop×Nat)=>(Env.set (Env.set (Env.set (Env.set (Env.set Env.nil 0 (D t0)) 6 (Sl b_8 p_8 0 u_10.length c_8)) 17 (D l0)) 18 (D ((l0.length:Int):Int))) 19 (D x_8))) (fun ⟨x_8,u_10⟩ (⟨b_8,p_8,c_8⟩:Nat×Prop×Nat)=>[⟨b_8,p_8,(Row (u_10:List Route) c_8)⟩]) ⟨b16_3,p16_3,c16_3⟩ (Za (Za (Za (Zj (Zz rfl) (Za (Zd _)))))) (Zc rfl (Ze _)) ?_;rintro ⟨x_8,u_10⟩ ⟨b_8,p_8,c_8⟩ x_11 H11 he11;dsimp only at H11;unfold ZgE at H11;refine zg ?_;refine zc H11 (fun hc H11=>?_) fun hc H11=>?_
   ·refine zg ?_;refine zb H11 fun _ _ H11=>?_
    refine TS.alloc rfl fun b8_12=>zg ?_
    refine zn H11 fun x_14 ex_14 H11=>?_
    refine Zdi (oc2 [b_8] (table_change_o ex_14.h) (slD rfl) toD) rfl fun ⟨b26_14,p26_14,c26_14⟩=>?_
    refine zw ?_;refine zc H11 (fun hc H11=>?_) fun hc H11=>?_
    ·refine zg ?_;refine zo H11 fun _ _ H11=>?_
     refine zC ?_;refine ZN<|Zg<|Zh<|Zh<|Zg<|Zv ?_;have R16:=ZaW (he11 _ (ZZs H11)) H;refine zg ?_;obtain rfl:=ZZi R16;exact Zev rfl rfl (.cons Cv.le (.cons Cv.le .nil))
    ·refine zg ?_;refine zb H11 fun x_18 _ H11=>?_
     exact Zq ⟨x_18,x_14.1⟩ ⟨b26_14,p26_14,c26_14⟩ (ZZs H11) (Za (Za (Za (Zj (Zz rfl) (Za (Zd _)))))) (Zc rfl (Ze _))
   ·refine zg ?_;exact Zk u_10 ⟨b_8,p_8,c_8⟩ (he11 _ (ZZs H11)).symm (Zj (Zz rfl) (Zd _)) (Zc rfl (Ze _))
  rintro u_6 ⟨b_4,p_4,c_4⟩ hp;replace H:=Zcd hp H;refine zC ?_;refine ZN<|TE.pub b_4 (PubE.set 4 (ZG PlS.all rfl) PubE.refl) ?_;exact zY H
end Go.Proofs.YtkmojgfenlgchaaGreatDoor.Tr
namespace Go.Proofs.YtkmojgfenlgchaaGreatDoor.Tr
open Go Go.RowKit
set_option maxRecDepth 100000
set_option synthInstance.maxHeartbeats 400000
set_option synthInstance.maxSize 4096
def Zhn (bits0:Int):Option Bool:=
 some ((decide (bits0=(32:Int)))||(decide (bits0=(128:Int))))
instance trie_exists_c:Fd1 80 Zhn fun r=>D r:=en1 Tryz.func80 rfl Tryz.ntmps80 fun _ _ _ _ _ H=>by
 unfold Zhn at H;exact zY H
def ZiN (k0:(Vec UInt8 16)) (n0:Int):Option Int:=
 bif ((decide (n0<(0:Int)))||(decide (n0≥(32:Int)))) then (some (0:Int)) else ((ZjM n0 2).bind fun x_2=>(idx k0.l x_2).bind fun x_3=>(remI n0 2).bind fun x_4=>bif (decide (x_4=(0:Int))) then ((shrI (x_3.toNat:Int) 4).bind fun x_5=>some x_5) else ((andI (x_3.toNat:Int) (15:Int)).bind fun x_6=>some x_6))
instance key_Step_c:Fd2 87 ZiN fun r=>D r:=en2 Tryz.func87 rfl Tryz.ntmps87 fun A w hA k0 n0 r H=>by
 unfold ZiN at H;refine zg ?_;refine TS.box rfl fun b2_0=>zg ?_
 refine zc H (fun hc H=>?_) fun hc H=>?_
 ·exact zY H
 ·refine zg ?_;refine zb H fun _ _ H=>?_
  refine zn H fun _ ex_3 H=>?_
  refine TSx (Zay (ZI ex_3.h (Vec.h _).symm))<|TSx (ZaE (Ze5 (α:=UInt8) Zx ex_3.h)) ?_;exact zY H
def Zee (b0x:trie_builder) (node0:Int) (four0:Int):Option (Int×Bool×trie_builder):=
 (idx b0x.Trie.Nodes node0).bind fun x_1=>(idx x_1.Next.l four0).bind fun x_2=>bif (decide (x_2>(0:Int))) then (some (x_2,true,(⟨(⟨((⟨(⟨b0x.Trie.Bits,[]⟩:Trie)⟩:trie_builder).Trie).Bits,b0x.Trie.Nodes⟩:Trie)⟩:trie_builder))) else (bif (decide ((b0x.Trie.Nodes.length:Int)≥(512:Int))) then (some ((0:Int),false,(⟨(⟨((⟨(⟨b0x.Trie.Bits,[]⟩:Trie)⟩:trie_builder).Trie).Bits,b0x.Trie.Nodes⟩:Trie)⟩:trie_builder))) else ((Zc5 384 ((b0x.Trie.Nodes.length+([(⟨Dat.z,Dat.z⟩:Node)]:List Node).length:Nat):Int)).bind fun u_4=>(some ((b0x.Trie.Nodes++([(⟨Dat.z,Dat.z⟩:Node)]:List Node)):(List Node))).bind fun l_5=>(Zgh (l_5.length:Int) (1:Int)).bind fun x_6=>(idx l_5 node0).bind fun x_7=>(idx x_7.Next.l four0).bind fun x_8=>(some ((l_5.set (Int.toNat node0) (⟨x_7.Slots,(Vec.set x_7.Next (Int.toNat four0) x_6)⟩:Node)):(List Node))).bind fun l_9=>(Zgh (l_9.length:Int) (1:Int)).bind fun x_10=>some (x_10,true,(⟨(⟨((⟨(⟨b0x.Trie.Bits,[]⟩:Trie)⟩:trie_builder).Trie).Bits,l_9⟩:Trie)⟩:trie_builder))))
theorem Zjl {b0x:trie_builder} {node0:Int} {four0:Int} {b0:Nat} {b0r c0r:Nat} {p0r:Prop} {r:(Int×Bool×trie_builder)} (H:Zee b0x node0 four0=some r):CO3 129 [⟨b0,True,Ct.mix (One ((⟨(⟨b0x.Trie.Bits,[]⟩:Trie)⟩:trie_builder):trie_builder)) 1 (Sl b0r p0r 0 (List.length b0x.Trie.Nodes) c0r)⟩,⟨b0r,p0r,Row (b0x.Trie.Nodes:List Node) c0r⟩] (Pt b0 0) (D node0) (D four0) (fun g:Nat×Prop×Nat=>Tup [D r.1,D r.2.1]) fun g=>[⟨b0,True,Ct.mix (One ((⟨(⟨r.2.2.Trie.Bits,[]⟩:Trie)⟩:trie_builder):trie_builder)) 1 (Sl g.1 g.2.1 0 (List.length r.2.2.Trie.Nodes) g.2.2)⟩,⟨g.1,g.2.1,Row (r.2.2.Trie.Nodes:List Node) g.2.2⟩]:=eO3 Tryz.func129 rfl Tryz.ntmps129 fun A w hA hO=>by
 unfold Zee at H;refine zg ?_;refine zX (ZaZ (ZS Zab) rfl) ?_;refine zn H fun _ ex_1 H=>?_
 refine zX (ZaZ (Zm (ZI ex_1.h rfl)) rfl) ?_;refine zn H fun _ ex_2 H=>?_
 refine TSx (Zay (ZI ex_2.h (Vec.h _).symm)) ?_;refine zX (ZaZ (ZaE (Ze5 (α:=Int) (PF 32 Node (Vec Int 16) (ZaC ex_1.h)) ex_2.h)) rfl) ?_;refine zc H (fun hc H=>?_) fun hc H=>?_
 ·refine zg ?_;obtain rfl:=ZZi H;exact Zap rfl rfl ⟨b0r,p0r,c0r⟩ (.cons Cv.le (.cons Cv.le .nil)) (Zhj (Zhx (α:=Node) (by have h:=((PF 1 Trie (List Node) (PF 0 trie_builder Trie (Zx (α:=trie_builder) (i:=trie_builder_dat) (x:=(⟨(⟨b0x.Trie.Bits,[]⟩:Trie)⟩:trie_builder)))))).st ([]:(List Node));exact h) rfl) (Zc rfl (Ze _)))
 ·refine zg ?_;refine TSx (ZS Zab) ?_;refine zX (ZaZ (Zax (n:=b0x.Trie.Nodes.length) rfl) rfl) ?_;refine zc H (fun hc H=>?_) fun hc H=>?_
  ·refine zg ?_;obtain rfl:=ZZi H;exact Zap rfl rfl ⟨b0r,p0r,c0r⟩ (.cons Cv.le (.cons Cv.le .nil)) (Zhj (Zhx (α:=Node) (by have h:=((PF 1 Trie (List Node) (PF 0 trie_builder Trie (Zx (α:=trie_builder) (i:=trie_builder_dat) (x:=(⟨(⟨b0x.Trie.Bits,[]⟩:Trie)⟩:trie_builder)))))).st ([]:(List Node));exact h) rfl) (Zc rfl (Ze _)))
  ·refine zg ?_;refine TSx (ZS Zab) ?_;refine TSx (tB (⟨Dat.z,Dat.z⟩:Node) rfl rfl) ?_;refine TSx (OpY.buildSlice [.tmp 36] rfl rfl (by decide)) ?_;refine zn H fun _ eu_4 H=>?_
   refine TS.app (ys:=([(⟨Dat.z,Dat.z⟩:Node)]:List Node)) inferInstance eu_4.h rfl rfl rfl fun b38_2 p38_2 c38_2=>zg ?_
   refine Zbi (Zba CtH.same) ?_;refine zC ?_;refine zn H fun l_5 el_5 H=>?_
   refine ZC b38_2 (ZY el_5.h)<|ZC b0 (Zff (Zd7 el_5.h rfl)) ?_;refine zX (Za9 [17] [b38_2] mix (by kernel_rfl) (by kernel_rfl)) ?_;refine zX (ZeS (ZS Zab) rfl) ?_;refine TRx (ZS Zab)<|TRx (Zax (n:=l_5.length) rfl) ?_;refine zb H fun x_6 _ H=>?_
   refine zn H fun _ ex_7 H=>?_
   refine zX (ZeS (Zm (ZI ex_7.h rfl)) rfl) ?_;refine zn H fun _ ex_8 H=>?_
   refine TRx (Zay (ZI ex_8.h (Vec.h _).symm))<|Zdt (fun g=>(Zy (y:=(x_6:Int)) (Ze5 (α:=Int) (PF 32 Node (Vec Int 16) (ZaC ex_7.h)) ex_8.h))) rfl ?_;refine zC ?_;rintro ⟨_,_⟩;dsimp only [Fam.nextS,Fam.nextN,Fam.one,List.cons_append,List.nil_append];refine zn H fun l_9 el_9 H=>?_
   refine ZC b38_2 (ZY el_9.h) ?_;refine zX (ZC b0 (Zff (Zd7 el_9.h (by simp)))) ?_;refine TSx (ZS Zab)<|TSx (Zax (n:=l_9.length) rfl) ?_;refine zb H fun _ _ H=>?_
   obtain rfl:=ZZi H;exact Zap rfl rfl ⟨b38_2,p38_2,c38_2⟩ (.cons Cv.le (.cons Cv.le .nil)) (Zhj (Zhx (α:=Node) (by have h:=((PF 1 Trie (List Node) (PF 0 trie_builder Trie (Zx (α:=trie_builder) (i:=trie_builder_dat) (x:=(⟨(⟨b0x.Trie.Bits,[]⟩:Trie)⟩:trie_builder)))))).st ([]:(List Node));exact h) rfl) (Zc rfl (Ze _)))
def ZfF (r0:Route) (x_3:Int) (node_9:Int) (x_10:Int) (l_12:(List Node)) (bx_13:trie_builder):Option ((Int×Int×(List Node)×trie_builder)⊕((Int×(List Node)×trie_builder)⊕(Bool×trie_builder))):=
 bif (decide (x_10<(max (0:Int) x_3))) then ((ZiN r0.Prefix.Key x_10).bind fun x_15=>(Zee (⟨(⟨bx_13.Trie.Bits,l_12⟩:Trie)⟩:trie_builder) node_9 x_15).bind fun x_16=>(some ((⟨(⟨x_16.2.2.Trie.Bits,[]⟩:Trie)⟩:trie_builder):trie_builder)).bind fun bx_18=>bif (!x_16.2.1) then (some (.inr (.inr (false,(⟨(⟨bx_18.Trie.Bits,x_16.2.2.Trie.Nodes⟩:Trie)⟩:trie_builder))))) else ((Zat x_10 1).bind fun x_20=>some (.inl (x_16.1,x_20,x_16.2.2.Trie.Nodes,bx_18)))) else (some (.inr (.inl (node_9,l_12,bx_13))))
def ZfE (r0:Route) (node_4:Int) (x_21:Int) (x_25:Int) (four_28:Int) (l_29:(List Node)):Option ((Int×(List Node))⊕(List Node)):=
 (Zat x_21 x_25).bind fun x_31=>bif (decide (four_28<x_31)) then (((idx l_29 node_4).bind fun x_34=>(idx x_34.Slots.l four_28).bind fun x_35=>bif (decide (x_35.Len≤r0.Prefix.Len)) then ((Zat r0.Prefix.Len 1).bind fun x_36=>(some ((l_29.set (Int.toNat node_4) (⟨(Vec.set x_34.Slots (Int.toNat four_28) (⟨x_36,r0.Hop⟩:Slot)),x_34.Next⟩:Node)):(List Node))).bind fun l_37=>some l_37) else (some l_29)).bind fun l_32=>(Zat four_28 1).bind fun x_38=>some (.inl (x_38,l_32))) else (some (.inr l_29))
def ZeV (b0x:trie_builder) (r0:Route):Option (Bool×trie_builder):=
 (Zgh r0.Prefix.Len 1).bind fun x_2=>(ZjM x_2 4).bind fun x_3=>(ZM (fun s=>ZfF r0 x_3 s.1 s.2.1 s.2.2.1 s.2.2.2) ((0:Int),(0:Int),b0x.Trie.Nodes,(⟨(⟨b0x.Trie.Bits,[]⟩:Trie)⟩:trie_builder))).bind fun o_8=>elS o_8 (fun s=>el3 s (fun node_4 l_6 bx_7=>(ZiN r0.Prefix.Key (max (0:Int) x_3)).bind fun x_21=>(mulI (4:Int) (max (0:Int) x_3)).bind fun x_22=>(Zgh r0.Prefix.Len x_22).bind fun x_23=>(Zgh (4:Int) x_23).bind fun x_24=>(shlI (1:Int) x_24).bind fun x_25=>(ZM (fun s=>ZfE r0 node_4 x_21 x_25 s.1 s.2) (x_21,l_6)).bind fun l_26=>some (true,(⟨(⟨bx_7.Trie.Bits,l_26⟩:Trie)⟩:trie_builder)))) (fun q=>some q)
theorem ZjT {b0x:trie_builder} {r0:Route} {b0:Nat} {b0r c0r:Nat} {p0r:Prop} {r:(Bool×trie_builder)} (H:ZeV b0x r0=some r):CO2 81 [⟨b0,True,Ct.mix (One ((⟨(⟨b0x.Trie.Bits,[]⟩:Trie)⟩:trie_builder):trie_builder)) 1 (Sl b0r p0r 0 (List.length b0x.Trie.Nodes) c0r)⟩,⟨b0r,p0r,Row (b0x.Trie.Nodes:List Node) c0r⟩] (Pt b0 0) (D r0) (fun g:Nat×Prop×Nat=>D r.1) fun g=>[⟨b0,True,Ct.mix (One ((⟨(⟨r.2.Trie.Bits,[]⟩:Trie)⟩:trie_builder):trie_builder)) 1 (Sl g.1 g.2.1 0 (List.length r.2.Trie.Nodes) g.2.2)⟩,⟨g.1,g.2.1,Row (r.2.Trie.Nodes:List Node) g.2.2⟩]:=eO2 Tryz.func81 rfl Tryz.ntmps81 fun A w hA hO=>by
 unfold ZeV at H;refine zg ?_;refine TS.box rfl fun b3_0=>zg ?_
 refine zb H fun _ _ H=>?_
 refine zo H fun x_3 _ H=>?_
 refine zC ?_;refine zC ?_;refine zC ?_;refine zh H fun o_8 H8 H=>?_
 refine Zn (fun s:(Int×(List Node)×trie_builder)=>o_8=.inl s) (fun ⟨node_4,l_6,bx_7⟩ (⟨b_4,p_4,c_4⟩:Nat×Prop×Nat)=>(Env.set (Env.set (Env.set (Env.set Env.nil 0 (Pt b0 0)) 3 (Pt b3_0 0)) 5 (D ((max (0:Int) x_3):Int))) 6 (D node_4))) (fun ⟨node_4,l_6,bx_7⟩ (⟨b_4,p_4,c_4⟩:Nat×Prop×Nat)=>[⟨b_4,p_4,(Row (l_6:List Node) c_4)⟩,⟨b0,True,(Ct.mix (One bx_7) 1 (Sl b_4 p_4 0 l_6.length c_4))⟩,⟨b3_0,True,(One r0)⟩]) ?_ ?_
 ·skip;refine Zp<|Zt H8 (fun ⟨node_9,x_10,l_12,bx_13⟩ (⟨b_10,p_10,c_10⟩:Nat×Prop×Nat)=>(Env.set (Env.set (Env.set (Env.set (Env.set (Env.set Env.nil 0 (Pt b0 0)) 3 (Pt b3_0 0)) 5 (D ((max (0:Int) x_3):Int))) 6 (D node_9)) 20 (D ((max (0:Int) x_3):Int))) 21 (D x_10))) (fun ⟨node_9,x_10,l_12,bx_13⟩ (⟨b_10,p_10,c_10⟩:Nat×Prop×Nat)=>[⟨b_10,p_10,(Row (l_12:List Node) c_10)⟩,⟨b0,True,(Ct.mix (One bx_13) 1 (Sl b_10 p_10 0 l_12.length c_10))⟩,⟨b3_0,True,(One r0)⟩]) ⟨b0r,p0r,c0r⟩ (Za (Za (Za (Za (Za (Za (Zd _))))))) (Zc rfl (Zc rfl (Zc rfl (Ze _)))) ?_;rintro ⟨node_9,x_10,l_12,bx_13⟩ ⟨b_10,p_10,c_10⟩ x_14 H14 he14;dsimp only at H14;unfold ZfF at H14;refine zg ?_;refine zc H14 (fun hc H14=>?_) fun hc H14=>?_
  ·refine zg ?_;refine zb H14 fun _ _ H14=>?_
   refine TS.re b0 (fun A w cs _=>Zhx (by have h:=((PF 1 Trie (List Node) (PF 0 trie_builder Trie (Zx (α:=trie_builder) (i:=trie_builder_dat) (x:=bx_13))))).st ([]:(List Node));exact h) rfl A w cs) ?_;refine zn H14 fun x_16 ex_16 H14=>?_
   refine Zdi (oc3 [b0,b_10] (Zjl ex_16.h) id toD toD) rfl fun ⟨b32_16m,p32_16m,c32_16m⟩=>?_
   dsimp only [List.cons_append,List.nil_append];refine zC ?_;refine zn H14 fun bx_18 ebx_18 H14=>?_
   refine zX (ZC b0 (ZcR (Zaj ebx_18.h))) ?_;refine zc H14 (fun hc H14=>?_) fun hc H14=>?_
   ·refine zC ?_;refine ZN<|Zh<|Zg<|Zh<|Zh<|Zg<|Zv ?_;have R18:=ZaW (he14 _ (ZZs H14)) H;refine zg ?_;obtain rfl:=ZZi R18;exact ZA rfl ⟨b32_16m,p32_16m,c32_16m⟩ Cv.le (Zhj (Zhx (α:=Node) (by have h:=((PF 1 Trie (List Node) (PF 0 trie_builder Trie (Zx (α:=trie_builder) (i:=trie_builder_dat) (x:=bx_18))))).st ([]:(List Node));exact h) rfl) (Zc rfl (Ze _)))
   ·refine zg ?_;refine zb H14 fun x_20 _ H14=>?_
    exact Zq ⟨x_16.1,x_20,x_16.2.2.Trie.Nodes,bx_18⟩ ⟨b32_16m,p32_16m,c32_16m⟩ (ZZs H14) (Za (Za (Za (Za (Za (Za (Zd _))))))) (Zc rfl (Zc rfl (Zc rfl (Ze _))))
  ·refine zg ?_;exact Zk ⟨node_9,l_12,bx_13⟩ ⟨b_10,p_10,c_10⟩ (he14 _ (ZZs H14)).symm (Za (Za (Za (Za (Zd _))))) (Zc rfl (Zc rfl (Zc rfl (Ze _))))
 rintro ⟨node_4,l_6,bx_7⟩ ⟨b_4,p_4,c_4⟩ hp;replace H:=Zcd hp H;replace H:=el3_mk H;refine zg ?_;refine zb H fun x_21 _ H=>?_
 refine zb H fun _ _ H=>?_
 refine zb H fun _ _ H=>?_
 refine zb H fun _ _ H=>?_
 refine zo H fun x_25 _ H=>?_
 refine zC ?_;refine zC ?_;refine zh H fun o_27 H27 H=>?_
 refine Zn (fun s:(List Node)=>o_27=s) (fun (l_26:(List Node)) (_:Unit)=>(Env.set Env.nil 0 (Pt b0 0))) (fun (l_26:(List Node)) (_:Unit)=>[⟨b_4,p_4,(Row (l_26:List Node) c_4)⟩,⟨b0,True,(Ct.mix (One bx_7) 1 (Sl b_4 p_4 0 l_26.length c_4))⟩]) ?_ ?_
 ·skip;refine Zp<|Zt H27 (fun ⟨four_28,l_29⟩ (_:Unit)=>(Env.set (Env.set (Env.set (Env.set (Env.set (Env.set Env.nil 0 (Pt b0 0)) 3 (Pt b3_0 0)) 6 (D node_4)) 10 (D x_21)) 11 (D x_25)) 12 (D four_28))) (fun ⟨four_28,l_29⟩ (_:Unit)=>[⟨b_4,p_4,(Row (l_29:List Node) c_4)⟩,⟨b0,True,(Ct.mix (One bx_7) 1 (Sl b_4 p_4 0 l_29.length c_4))⟩,⟨b3_0,True,(One r0)⟩]) () (Za (Za (Za (Za (Za (Za (Zd _))))))) (Zc rfl (Zc rfl (Zc rfl (Ze _)))) ?_;rintro ⟨four_28,l_29⟩ ⟨⟩ x_30 H30 he30;dsimp only at H30;unfold ZfE at H30;refine zg ?_;refine zb H30 fun _ _ H30=>?_
  refine zc H30 (fun hc H30=>?_) fun hc H30=>?_
  ·refine ZaB<|Zak<|Zao ?_;refine zh H30 fun o_33 H33 H30=>?_
   refine Zn (fun s:(List Node)=>o_33=s) (fun (l_32:(List Node)) (_:Unit)=>(Env.set (Env.set (Env.set (Env.set (Env.set (Env.set Env.nil 0 (Pt b0 0)) 3 (Pt b3_0 0)) 6 (D node_4)) 10 (D x_21)) 11 (D x_25)) 12 (D four_28))) (fun (l_32:(List Node)) (_:Unit)=>[⟨b_4,p_4,(Row (l_32:List Node) c_4)⟩,⟨b0,True,(Ct.mix (One bx_7) 1 (Sl b_4 p_4 0 l_32.length c_4))⟩,⟨b3_0,True,(One r0)⟩]) ?_ ?_
   ·skip;refine zg ?_;refine zX (ZaZ (ZS Zab) rfl) ?_;refine zn H33 fun _ ex_34 H33=>?_
    refine zX (ZaZ (Zm (ZI ex_34.h rfl)) rfl) ?_;refine zn H33 fun _ ex_35 H33=>?_
    refine zX (ZaZ (Zay (ZI ex_35.h (Vec.h _).symm)) rfl) ?_;refine zX (ZeS (ZaE (PF 0 Slot Int (Ze5 (α:=Slot) (PF 0 Node (Vec Slot 16) (ZaC ex_34.h)) ex_35.h))) rfl) ?_;refine zc H33 (fun hc H33=>?_) fun hc H33=>?_
    ·refine zg ?_;refine zb H33 fun x_36 _ H33=>?_
     refine zX (ZaZ (tB (⟨x_36,r0.Hop⟩:Slot) rfl rfl) rfl) ?_;refine Zbi (Zy (y:=((⟨x_36,r0.Hop⟩:Slot):Slot)) (Ze5 (α:=Slot) (PF 0 Node (Vec Slot 16) (ZaC ex_34.h)) ex_35.h)) ?_;refine zE ?_;refine zn H33 fun l_37 el_37 H33=>?_
     refine Zac b_4 (ZY el_37.h) ?_;refine zX (Zac b0 (Zff (Zd7 el_37.h (by simp)))) ?_;exact Zk l_37 () (ZZs H33) (Za (Za (Za (Za (Za (Za (Zd _))))))) (Zc rfl (Zc rfl (Zc rfl (Ze _))))
    ·refine zg ?_;exact Zk l_29 () (ZZs H33) (Za (Za (Za (Za (Za (Za (Zd _))))))) (Zc rfl (Zc rfl (Zc rfl (Ze _))))
   rintro l_32 ⟨⟩ hp;replace hp:=hp.symm;subst hp;refine zg ?_;refine zb H30 fun x_38 _ H30=>?_
   exact Zq ⟨x_38,l_32⟩ () (ZZs H30) (Za (Za (Za (Za (Za (Za (Zd _))))))) (Zc rfl (Zc rfl (Zc rfl (Ze _))))
  ·refine zg ?_;exact Zk l_29 () (he30 _ (ZZs H30)).symm (Za (Zd _)) (Zc rfl (Zc rfl (Ze _)))
 rintro l_26 ⟨⟩ hp;replace hp:=hp.symm;subst hp;refine zg ?_;obtain rfl:=ZZi H;exact ZA rfl ⟨b_4,p_4,c_4⟩ Cv.le (Zhj (Zhx (α:=Node) (by have h:=((PF 1 Trie (List Node) (PF 0 trie_builder Trie (Zx (α:=trie_builder) (i:=trie_builder_dat) (x:=bx_7))))).st ([]:(List Node));exact h) rfl) (Zc rfl (Ze _)))
def ZjU (t0:(List Route)) (bits0:Int) (x_14:Int) (l_16:(List Node)) (bx_17:trie_builder):Option ((Int×(List Node)×trie_builder)⊕(((List Node)×trie_builder)⊕(Trie×Int))):=
 bif (decide (x_14<(t0.length:Int))) then (((idx t0 x_14).bind fun x_23=>bif (decide (x_23.Prefix.Bits≠bits0)) then (some (.inl (l_16,bx_17))) else ((ZeV (⟨(⟨bx_17.Trie.Bits,l_16⟩:Trie)⟩:trie_builder) x_23).bind fun x_25=>(some ((⟨(⟨x_25.2.Trie.Bits,[]⟩:Trie)⟩:trie_builder):trie_builder)).bind fun bx_27=>bif (!x_25.1) then ((some ((⟨0,[]⟩:Trie):Trie)).bind fun k_28=>some (.inr (k_28,(5:Int)))) else (some (.inl (x_25.2.Trie.Nodes,bx_27))))).bind fun o_22=>elS o_22 (fun s=>el2 s (fun l_20 bx_21=>(Zat x_14 1).bind fun x_31=>some (.inl (x_31,l_20,bx_21)))) (fun q=>some (.inr (.inr q)))) else (some (.inr (.inl (l_16,bx_17))))
def ZkH (t0:(List Route)) (bits0:Int):Option (Trie×Int):=
 (ZaQ t0).bind fun x_2=>(gb (!(!x_2)) (Zhn bits0)).bind fun x_3=>bif ((!x_2)||(!x_3)) then ((some ((⟨0,[]⟩:Trie):Trie)).bind fun k_4=>some (k_4,(1:Int))) else ((Zc5 384 (1:Int)).bind fun u_5=>(some ((⟨(⟨bits0,[]⟩:Trie)⟩:trie_builder):trie_builder)).bind fun bx_8=>(some ((List.replicate (Int.toNat (1:Int)) (Dat.z:Node)):(List Node))).bind fun l_9=>(ZM (fun s=>ZjU t0 bits0 s.1 s.2.1 s.2.2) ((0:Int),l_9,bx_8)).bind fun o_13=>elS o_13 (fun s=>el2 s (fun l_11 bx_12=>some ((⟨bx_12.Trie.Bits,l_11⟩:Trie),(0:Int)))) (fun q=>some q))
instance trie_Build_c:Fd2 33 ZkH fun r=>Tup [D r.1,D r.2]:=en2 Tryz.func33 rfl Tryz.ntmps33 fun A w hA t0 bits0 r H=>by
 unfold ZkH at H;refine zg ?_;refine TS.alloc rfl fun b4_0=>zg ?_
 refine zb H fun _ _ H=>?_
 refine zd H fun _ _ H=>?_
 refine zc H (fun hc H=>?_) fun hc H=>?_
 ·refine zg ?_;refine TSx (tB (⟨0,[]⟩:Trie) rfl rfl) ?_;exact zY H
 ·refine zg ?_;refine zn H fun _ eu_5 H=>?_
  refine Zf7 eu_5.h ⟨(Za1 eu_5.h).1,Int.le_refl _⟩ rfl fun b19_5=>?_
  refine TSx (OpY.buildC (ps:=_) rfl ⟨_,Tryz.underlying93,by kernel_rfl⟩ ((PartsC.d (((PF 0 Trie Int Zx)).st _) (PartsC.hd (CtH.new (by decide)) inferInstance)))) ?_;refine TSx (OpY.buildW rfl ⟨_,Tryz.underlying153,by kernel_rfl⟩) ?_;refine TS.alloc rfl fun b6_6=>?_
  refine Zbi (ZX trivial rfl CtSc.h) ?_;refine zC ?_;refine zn H fun _ ebx_8 H=>?_
  refine ZC b6_6 (ZcR (Zaj ebx_8.h)) ?_;refine zn H fun _ el_9 H=>?_
  refine ZC b19_5 (ZY el_9.h)<|ZC b6_6 (Zff (Zd7 el_9.h (by simp))) ?_;refine zC ?_;refine zh H fun o_13 H13 H=>?_
  refine Zn (fun s:((List Node)×trie_builder)=>o_13=.inl s) (fun ⟨l_11,bx_12⟩ (⟨b_9,p_9,c_9⟩:Nat×Prop×Nat)=>(Env.set (Env.set Env.nil 4 (Pt b4_0 0)) 6 (Pt b6_6 0))) (fun ⟨l_11,bx_12⟩ (⟨b_9,p_9,c_9⟩:Nat×Prop×Nat)=>[⟨b_9,p_9,(Row (l_11:List Node) c_9)⟩,⟨b4_0,True,(One ((Dat.z:Trie):Trie))⟩,⟨b6_6,True,(Ct.mix (One bx_12) 1 (Sl b_9 p_9 0 l_11.length c_9))⟩]) ?_ ?_
  ·skip;refine Zp<|Zt H13 (fun ⟨x_14,l_16,bx_17⟩ (⟨b_14,p_14,c_14⟩:Nat×Prop×Nat)=>(Env.set (Env.set (Env.set (Env.set (Env.set (Env.set Env.nil 1 (D bits0)) 4 (Pt b4_0 0)) 6 (Pt b6_6 0)) 22 (D t0)) 23 (D ((t0.length:Int):Int))) 24 (D x_14))) (fun ⟨x_14,l_16,bx_17⟩ (⟨b_14,p_14,c_14⟩:Nat×Prop×Nat)=>[⟨b_14,p_14,(Row (l_16:List Node) c_14)⟩,⟨b4_0,True,(One ((Dat.z:Trie):Trie))⟩,⟨b6_6,True,(Ct.mix (One bx_17) 1 (Sl b_14 p_14 0 l_16.length c_14))⟩]) ⟨b19_5,True,(Int.toNat (1:Int))⟩ (Za (Za (Za (Za (Za (Za (Zd _))))))) (Zc rfl (Zc rfl (Zc rfl (Ze _)))) ?_;rintro ⟨x_14,l_16,bx_17⟩ ⟨b_14,p_14,c_14⟩ x_18 H18 he18;dsimp only at H18;unfold ZjU at H18;refine zg ?_;refine zc H18 (fun hc H18=>?_) fun hc H18=>?_
   ·refine ZaB<|Zak<|Zao ?_;refine zh H18 fun o_22 H22 H18=>?_
    refine Zn (fun s:((List Node)×trie_builder)=>o_22=.inl s) (fun ⟨l_20,bx_21⟩ (⟨b_18,p_18,c_18⟩:Nat×Prop×Nat)=>(Env.set (Env.set (Env.set (Env.set (Env.set (Env.set Env.nil 1 (D bits0)) 4 (Pt b4_0 0)) 6 (Pt b6_6 0)) 22 (D t0)) 23 (D ((t0.length:Int):Int))) 24 (D x_14))) (fun ⟨l_20,bx_21⟩ (⟨b_18,p_18,c_18⟩:Nat×Prop×Nat)=>[⟨b_18,p_18,(Row (l_20:List Node) c_18)⟩,⟨b4_0,True,(One ((Dat.z:Trie):Trie))⟩,⟨b6_6,True,(Ct.mix (One bx_21) 1 (Sl b_18 p_18 0 l_20.length c_18))⟩]) ?_ ?_
    ·skip;refine zg ?_;refine zb H22 fun _ _ H22=>?_
     refine TS.alloc rfl fun b8_23=>zg ?_
     refine zc H22 (fun hc H22=>?_) fun hc H22=>?_
     ·refine zg ?_;exact Zk ⟨l_16,bx_17⟩ ⟨b_14,p_14,c_14⟩ (ZZs H22) (Za (Za (Za (Za (Za (Za (Zd _))))))) (Zc rfl (Zc rfl (Zc rfl (Ze _))))
     ·refine zg ?_;refine TS.re b6_6 (fun A w cs _=>Zhx (by have h:=((PF 1 Trie (List Node) (PF 0 trie_builder Trie (Zx (α:=trie_builder) (i:=trie_builder_dat) (x:=bx_17))))).st ([]:(List Node));exact h) rfl A w cs) ?_;refine zn H22 fun x_25 ex_25 H22=>?_
      refine Zdi (oc2 [b6_6,b_14] (ZjT ex_25.h) id toD) rfl fun ⟨b34_25m,p34_25m,c34_25m⟩=>?_
      dsimp only [List.cons_append,List.nil_append];refine zC ?_;refine zn H22 fun bx_27 ebx_27 H22=>?_
      refine ZC b6_6 (ZcR (Zaj ebx_27.h)) ?_;refine zc H22 (fun hc H22=>?_) fun hc H22=>?_
      ·refine zg ?_;refine TSx (tB (⟨0,[]⟩:Trie) rfl rfl) ?_;refine zC ?_;refine zn H22 fun _ ek_28 H22=>?_
       refine ZC b4_0 (Zaj ek_28.h)<|ZN<|Zg<|Zv ?_;have R28:=ZaW (ZZi H22) H18;refine Zh<|Zh<|Zg<|Zv ?_;have R29:=ZaW (he18 _ (ZZs R28)) H;refine zg ?_;obtain rfl:=ZZi R29;exact Zev rfl rfl (.cons Cv.le (.cons Cv.le .nil))
      ·refine zg ?_;exact Zk ⟨x_25.2.Trie.Nodes,bx_27⟩ ⟨b34_25m,p34_25m,c34_25m⟩ (ZZs H22) (Za (Za (Za (Za (Za (Za (Zd _))))))) (Zc rfl (Zc rfl (Zc rfl (Ze _))))
    rintro ⟨l_20,bx_21⟩ ⟨b_18,p_18,c_18⟩ hp;replace H18:=Zcd hp H18;replace H18:=Zd8 H18;refine zg ?_;refine zb H18 fun x_31 _ H18=>?_
    exact Zq ⟨x_31,l_20,bx_21⟩ ⟨b_18,p_18,c_18⟩ (ZZs H18) (Za (Za (Za (Za (Za (Za (Zd _))))))) (Zc rfl (Zc rfl (Zc rfl (Ze _))))
   ·refine zg ?_;exact Zk ⟨l_16,bx_17⟩ ⟨b_14,p_14,c_14⟩ (he18 _ (ZZs H18)).symm (Za (Za (Zd _))) (Zc rfl (Zc rfl (Zc rfl (Ze _))))
  rintro ⟨l_11,bx_12⟩ ⟨b_9,p_9,c_9⟩ hp;replace H:=Zcd hp H;replace H:=Zd8 H;refine zg ?_;refine TSx (Zdh (C:=(Ct.mix (One bx_12.Trie) 1 (Sl b_9 p_9 0 l_11.length c_9))) trivial rfl rfl)<|Zbi (ZX trivial rfl CtSc.h) ?_;refine zC ?_;refine ZN<|TE.coll b4_0 b_9 (o:=1) (((PF 1 Trie (List Node) Zx)).st (l_11:List Node)) (ZG PlS.all rfl) ?_;exact zY H
def ZjR (t0:Trie) (x_10:Int) (x_13:Node) (x_21:Int) (at_22:(List Int)):Option ((Int×(List Int))⊕((List Int)⊕(List Int))):=
 bif (decide (x_21<(16:Int))) then (((idx x_13.Slots.l x_21).bind fun x_26=>(gb (!(decide (x_26.Len<(0:Int)))) (idx at_22 x_10)).bind fun x_27=>(gb (!(decide (x_26.Len<(0:Int)))) (mulI (4:Int) x_27)).bind fun x_28=>(gb (!(decide (x_26.Len<(0:Int)))) (Zat x_28 1)).bind fun x_29=>bif ((decide (x_26.Len<(0:Int)))||(decide (x_26.Len>x_29))) then (some (.inr ([]:List Int))) else ((idx x_13.Next.l x_21).bind fun x_33=>bif (decide (x_33=(0:Int))) then (some (.inl at_22)) else ((gb (!((decide (x_33≤x_10))||(decide (x_33≥(t0.Nodes.length:Int))))) (idx at_22 x_33)).bind fun x_34=>bif (((decide (x_33≤x_10))||(decide (x_33≥(t0.Nodes.length:Int))))||(decide (x_34≠(0:Int)))) then (some (.inr ([]:List Int))) else ((idx at_22 x_10).bind fun x_38=>(Zat x_38 1).bind fun x_39=>(idx at_22 x_33).bind fun x_40=>(some ((at_22.set (Int.toNat x_33) x_39):(List Int))).bind fun l_41=>some (.inl l_41))))).bind fun o_25=>elS o_25 (fun at_24=>(Zat x_21 1).bind fun x_42=>some (.inl (x_42,at_24))) (fun q=>some (.inr (.inr q)))) else (some (.inr (.inl at_22)))
def ZjS (t0:Trie) (x_10:Int) (at_11:(List Int)):Option ((Int×(List Int))⊕((List Int)⊕(List Int))):=
 bif (decide (x_10<(t0.Nodes.length:Int))) then ((idx t0.Nodes x_10).bind fun x_13=>(idx at_11 x_10).bind fun x_15=>(gb (!(decide (x_15=(0:Int)))) (idx at_11 x_10)).bind fun x_16=>(gb (!(decide (x_15=(0:Int)))) (ZjM t0.Bits 4)).bind fun x_17=>bif ((decide (x_15=(0:Int)))||(decide (x_16>x_17))) then (some (.inr (.inr ([]:List Int)))) else ((ZM (fun s=>ZjR t0 x_10 x_13 s.1 s.2) ((0:Int),at_11)).bind fun o_20=>elS o_20 (fun at_19=>(Zat x_10 1).bind fun x_43=>some (.inl (x_43,at_19))) (fun q=>some (.inr (.inr q))))) else (some (.inr (.inl at_11)))
def ZkF (t0:Trie):Option (List Int):=
 (Zhn t0.Bits).bind fun x_2=>bif (((!x_2)||(decide ((t0.Nodes.length:Int)<(1:Int))))||(decide ((t0.Nodes.length:Int)>(512:Int)))) then (some ([]:List Int)) else ((Zc5 8 (t0.Nodes.length:Int)).bind fun u_3=>(some ((List.replicate (Int.toNat (t0.Nodes.length:Int)) (Dat.z:Int)):(List Int))).bind fun l_5=>(idx l_5 0).bind fun x_6=>(some ((l_5.set (Int.toNat (0:Int)) (1:Int)):(List Int))).bind fun l_7=>(ZM (fun s=>ZjS t0 s.1 s.2) ((0:Int),l_7)).bind fun o_9=>elS o_9 (fun at_8=>(pos1 at_8.length).bind fun u_44=>some at_8) (fun q=>some q))
instance trie_steps_c:Fd1 88 ZkF fun r=>DN (r:(List Int)):=en1 Tryz.func88 rfl Tryz.ntmps88 fun A w hA t0 r H=>by
 unfold ZkF at H;refine zg ?_;refine TS.box rfl fun b1_0=>zg ?_
 refine zb H fun _ _ H=>?_
 refine zc H (fun hc H=>?_) fun hc H=>?_
 ·refine zg ?_;obtain rfl:=ZZi H;exact ZbM rfl NilS.dn
 ·refine zg ?_;refine zn H fun _ eu_3 H=>?_
  refine Zf7 eu_3.h ⟨(Za1 eu_3.h).1,Int.le_refl _⟩ rfl fun b28_3=>?_
  refine zC ?_;refine zn H fun _ el_5 H=>?_
  refine ZC b28_3 (ZY el_5.h) ?_;refine zX (Zcc 3 _ (ZaK el_5.h (by simp))) ?_;refine zn H fun _ ex_6 H=>?_
  refine TSx (Zm (ZI ex_6.h rfl)) ?_;refine zC ?_;refine zn H fun _ el_7 H=>?_
  refine ZC b28_3 (ZY el_7.h)<|Zcc 3 _ (ZaK el_7.h (by simp)) ?_;refine zC ?_;refine zh H fun o_9 H9 H=>?_
  refine Zn (fun s:(List Int)=>o_9=.inl s) (fun (at_8:(List Int)) (_:Unit)=>(Env.set Env.nil 3 (Sl b28_3 True 0 at_8.length (Int.toNat (t0.Nodes.length:Int))))) (fun (at_8:(List Int)) (_:Unit)=>[⟨b28_3,True,(Row (at_8:List Int) (Int.toNat (t0.Nodes.length:Int)))⟩]) ?_ ?_
  ·skip;refine Zp<|Zt H9 (fun ⟨x_10,at_11⟩ (_:Unit)=>(Env.set (Env.set (Env.set (Env.set (Env.set Env.nil 1 (Pt b1_0 0)) 3 (Sl b28_3 True 0 at_11.length (Int.toNat (t0.Nodes.length:Int)))) 32 (D t0.Nodes)) 33 (D ((t0.Nodes.length:Int):Int))) 34 (D x_10))) (fun ⟨x_10,at_11⟩ (_:Unit)=>[⟨b28_3,True,(Row (at_11:List Int) (Int.toNat (t0.Nodes.length:Int)))⟩,⟨b1_0,True,(One t0)⟩]) () (Za (Za (Za (Zj (Zz rfl) (Za (Zd _)))))) (Zc rfl (Zc rfl (Ze _))) ?_;rintro ⟨x_10,at_11⟩ ⟨⟩ x_12 H12 he12;dsimp only at H12;unfold ZjS at H12;refine zg ?_;refine zc H12 (fun hc H12=>?_) fun hc H12=>?_
   ·refine zg ?_;refine zb H12 fun x_13 _ H12=>?_
    refine TS.alloc rfl fun b5_13=>zg ?_
    refine zn H12 fun _ ex_15 H12=>?_
    refine zX (ZeS (Zm (ZI ex_15.h rfl)) rfl) ?_;refine zm H12 fun _ ex_16 H12=>?_
    refine TR.g 44 rfl (fun hg=>(Zm (ZI (Zbv ex_16.h (nF hg.h)) rfl))) rfl ?_;refine zX (TR.g 44 rfl (fun hg=>(ZaE (ZaC (Zbv ex_16.h (nF hg.h))))) rfl) ?_;refine zd H12 fun _ _ H12=>?_
    refine zc H12 (fun hc H12=>?_) fun hc H12=>?_
    ·refine zC ?_;refine ZN<|Zh<|Zg<|Zh<|Zh<|Zg<|Zv ?_;have R17:=ZaW (he12 _ (ZZs H12)) H;refine zg ?_;obtain rfl:=ZZi R17;exact ZbM rfl NilS.dn
    ·refine zC ?_;refine zh H12 fun o_20 H20 H12=>?_
     refine Zn (fun s:(List Int)=>o_20=.inl s) (fun (at_19:(List Int)) (_:Unit)=>(Env.set (Env.set (Env.set (Env.set (Env.set Env.nil 1 (Pt b1_0 0)) 3 (Sl b28_3 True 0 at_19.length (Int.toNat (t0.Nodes.length:Int)))) 32 (D t0.Nodes)) 33 (D ((t0.Nodes.length:Int):Int))) 34 (D x_10))) (fun (at_19:(List Int)) (_:Unit)=>[⟨b28_3,True,(Row (at_19:List Int) (Int.toNat (t0.Nodes.length:Int)))⟩,⟨b1_0,True,(One t0)⟩]) ?_ ?_
     ·skip;refine Zp<|Zt H20 (fun ⟨x_21,at_22⟩ (_:Unit)=>(Env.set (Env.set (Env.set (Env.set (Env.set (Env.set (Env.set (Env.set Env.nil 1 (Pt b1_0 0)) 3 (Sl b28_3 True 0 at_22.length (Int.toNat (t0.Nodes.length:Int)))) 4 (D x_10)) 5 (Pt b5_13 0)) 32 (D t0.Nodes)) 33 (D ((t0.Nodes.length:Int):Int))) 34 (D x_10)) 54 (D x_21))) (fun ⟨x_21,at_22⟩ (_:Unit)=>[⟨b28_3,True,(Row (at_22:List Int) (Int.toNat (t0.Nodes.length:Int)))⟩,⟨b1_0,True,(One t0)⟩,⟨b5_13,True,(One x_13)⟩]) () (Za (Za (Za (Za (Za (Za (Zj (Zz rfl) (Za (Zd _))))))))) (Zc rfl (Zc rfl (Zc rfl (Ze _)))) ?_;rintro ⟨x_21,at_22⟩ ⟨⟩ x_23 H23 he23;dsimp only at H23;unfold ZjR at H23;refine zg ?_;refine zc H23 (fun hc H23=>?_) fun hc H23=>?_
      ·refine ZaB<|Zak<|Zao ?_;refine zh H23 fun o_25 H25 H23=>?_
       refine Zn (fun s:(List Int)=>o_25=.inl s) (fun (at_24:(List Int)) (_:Unit)=>(Env.set (Env.set (Env.set (Env.set (Env.set (Env.set (Env.set (Env.set Env.nil 1 (Pt b1_0 0)) 3 (Sl b28_3 True 0 at_24.length (Int.toNat (t0.Nodes.length:Int)))) 4 (D x_10)) 5 (Pt b5_13 0)) 32 (D t0.Nodes)) 33 (D ((t0.Nodes.length:Int):Int))) 34 (D x_10)) 54 (D x_21))) (fun (at_24:(List Int)) (_:Unit)=>[⟨b28_3,True,(Row (at_24:List Int) (Int.toNat (t0.Nodes.length:Int)))⟩,⟨b1_0,True,(One t0)⟩,⟨b5_13,True,(One x_13)⟩]) ?_ ?_
       ·skip;refine zg ?_;refine zn H25 fun _ ex_26 H25=>?_
        refine zX (ZaZ (Zay (ZI ex_26.h (Vec.h _).symm)) rfl) ?_;refine zX (ZaZ (ZaE (PF 0 Slot Int (Ze5 (α:=Slot) (PF 0 Node (Vec Slot 16) Zx) ex_26.h))) rfl) ?_;refine zm H25 fun _ ex_27 H25=>?_
        refine ZlE 64 rfl (fun hg=>(Zm (ZI (Zbv ex_27.h (nF hg.h)) rfl))) rfl<|ZlE 64 rfl (fun hg=>(ZaE (ZaC (Zbv ex_27.h (nF hg.h))))) rfl ?_;refine zd H25 fun _ _ H25=>?_
        refine zd H25 fun _ _ H25=>?_
        refine zc H25 (fun hc H25=>?_) fun hc H25=>?_
        ·refine zC ?_;refine ZN<|Zh<|Zg<|Zv ?_;have R29:=ZaW (ZZi H25) H23;refine Zh<|Zh<|Zg<|Zv ?_;have R30:=ZaW (he23 _ (ZZs R29)) H12;refine Zg<|Zh<|Zh<|Zg<|Zv ?_;have R31:=ZaW (he12 _ (ZZs R30)) H;refine zg ?_;obtain rfl:=ZZi R31;exact ZbM rfl NilS.dn
        ·refine zg ?_;refine zn H25 fun _ ex_33 H25=>?_
         refine TSx (Zay (ZI ex_33.h (Vec.h _).symm)) ?_;refine zX (ZaZ (ZaE (Ze5 (α:=Int) (PF 32 Node (Vec Int 16) Zx) ex_33.h)) rfl) ?_;refine zc H25 (fun hc H25=>?_) fun hc H25=>?_
         ·refine zg ?_;exact Zk at_22 () (ZZs H25) (Za (Za (Za (Za (Za (Za (Zj (Zz rfl) (Za (Zd _))))))))) (Zc rfl (Zc rfl (Zc rfl (Ze _))))
         ·refine zg ?_;refine zm H25 fun _ ex_34 H25=>?_
          refine ZlE 90 rfl (fun hg=>(Zm (ZI (Zbv ex_34.h (nF hg.h)) rfl))) rfl ?_;refine zX (ZlE 90 rfl (fun hg=>(ZaE (ZaC (Zbv ex_34.h (nF hg.h))))) rfl) ?_;refine zc H25 (fun hc H25=>?_) fun hc H25=>?_
          ·refine zC ?_;refine ZN<|Zh<|Zg<|Zv ?_;have R34:=ZaW (ZZi H25) H23;refine Zh<|Zh<|Zg<|Zv ?_;have R35:=ZaW (he23 _ (ZZs R34)) H12;refine Zg<|Zh<|Zh<|Zg<|Zv ?_;have R36:=ZaW (he12 _ (ZZs R35)) H;refine zg ?_;obtain rfl:=ZZi R36;exact ZbM rfl NilS.dn
          ·refine zg ?_;refine zn H25 fun _ ex_38 H25=>?_
           refine zX (ZaZ (Zm (ZI ex_38.h rfl)) rfl) ?_;refine zb H25 fun _ _ H25=>?_
           refine zn H25 fun _ ex_40 H25=>?_
           refine TSx (Zm (ZI ex_40.h rfl)) ?_;refine zE ?_;refine zn H25 fun l_41 el_41 H25=>?_
           refine Zac b28_3 (ZY el_41.h) ?_;refine zX (ZbL 3 _ (ZaK el_41.h (by simp))) ?_;exact Zk l_41 () (ZZs H25) (Za (Za (Za (Za (Za (Za (Zj (Zz rfl) (Za (Zd _))))))))) (Zc rfl (Zc rfl (Zc rfl (Ze _))))
       rintro at_24 ⟨⟩ hp;replace H23:=Zcd hp H23;refine zg ?_;refine zb H23 fun x_42 _ H23=>?_
       exact Zq ⟨x_42,at_24⟩ () (ZZs H23) (Za (Za (Za (Za (Za (Za (Zj (Zz rfl) (Za (Zd _))))))))) (Zc rfl (Zc rfl (Zc rfl (Ze _))))
      ·refine zg ?_;exact Zk at_22 () (he23 _ (ZZs H23)).symm (Za (Za (Za (Zj (Zz rfl) (Za (Zd _)))))) (Zc rfl (Zc rfl (Ze _)))
     rintro at_19 ⟨⟩ hp;replace H12:=Zcd hp H12;refine zg ?_;refine zb H12 fun x_43 _ H12=>?_
     exact Zq ⟨x_43,at_19⟩ () (ZZs H12) (Za (Za (Za (Zj (Zz rfl) (Za (Zd _)))))) (Zc rfl (Zc rfl (Ze _)))
   ·refine zg ?_;exact Zk at_11 () (he12 _ (ZZs H12)).symm (Zj (Zz rfl) (Zd _)) (Zc rfl (Ze _))
  rintro at_8 ⟨⟩ hp;replace H:=Zcd hp H;refine zC ?_;refine ZN<|TE.pub b28_3 (PubE.set 2 (ZG PlS.all rfl) PubE.refl) ?_;refine zn H fun _ eu_44 H=>?_
  obtain rfl:=ZZi H;exact ZbM rfl (DN.of (pos1_ne eu_44.h))
def ZkG (t0:Trie):Option Bool:=
 (ZkF t0).bind fun x_2=>some (decide (x_2≠[]))
instance trie_Right_c:Fd1 38 ZkG fun r=>D r:=en1 Tryz.func38 rfl Tryz.ntmps38 fun A w hA t0 r H=>by
 unfold ZkG at H;refine zg ?_;refine TS.box rfl fun b1_0=>zg ?_
 refine zb H fun _ _ H=>?_
 refine TSx OpY.neqNil ?_;exact zY H
end Go.Proofs.YtkmojgfenlgchaaGreatDoor.Tr
namespace Go.Proofs.YtkmojgfenlgchaaGreatDoor.Tr
open Go Go.RowKit
set_option maxRecDepth 100000
set_option synthInstance.maxHeartbeats 400000
set_option synthInstance.maxSize 4096
def Zla (t0:Trie) (k0:(Vec UInt8 16)) (x_7:Int) (x_11:Int) (way_13:(List Int)):Option ((Int×(List Int))⊕(List Int)):=
 bif (decide (x_11<x_7)) then ((idx way_13 x_11).bind fun x_15=>(ZiN k0 x_11).bind fun x_16=>(idx t0.Nodes x_15).bind fun x_17=>(idx x_17.Next.l x_16).bind fun x_18=>bif (decide (x_18=(0:Int))) then (some (.inr way_13)) else ((Zc5 8 ((way_13.length+([x_18]:List Int).length:Nat):Int)).bind fun u_20=>(some ((way_13++([x_18]:List Int)):(List Int))).bind fun l_21=>(Zat x_11 1).bind fun x_22=>some (.inl (x_22,l_21)))) else (some (.inr way_13))
def Zl5 (t0:Trie) (k0:(Vec UInt8 16)):Option (List Int):=
 (ZkG t0).bind fun x_3=>(gb (!(!x_3)) (ZkQ k0 t0.Bits)).bind fun x_4=>bif ((!x_3)||(decide (x_4≠k0))) then (some ([]:List Int)) else ((some (([(0:Int)]:List Int):(List Int))).bind fun l_6=>(ZjM t0.Bits 4).bind fun x_7=>(ZM (fun s=>Zla t0 k0 x_7 s.1 s.2) ((0:Int),l_6)).bind fun way_9=>some way_9)
instance trie_Walk_c:Fd2 86 Zl5 fun r=>D r:=en2 Tryz.func86 rfl Tryz.ntmps86 fun A w hA t0 k0 r H=>by
 unfold Zl5 at H;refine zg ?_;refine TS.box rfl fun b2_0=>?_
 refine TS.box rfl fun b3_1=>zg ?_
 refine zb H fun _ _ H=>?_
 refine zd H fun _ _ H=>?_
 refine zX (TR.g 11 rfl (fun hg=>(ZjH EqV_83 (by decide) EqG_83 rfl)) rfl) ?_;refine zc H (fun hc H=>?_) fun hc H=>?_
 ·exact zY H
 ·refine zg ?_;refine TS.build [.const (.int .i64 0)] rfl rfl (by decide) rfl fun b19_4=>?_
  refine zC ?_;refine zn H fun _ el_6 H=>?_
  refine ZC b19_4 (ZY el_6.h) ?_;refine zX (Zcc 5 _ (ZaK el_6.h rfl)) ?_;refine zo H fun x_7 _ H=>?_
  refine zC ?_;refine zh H fun o_10 H10 H=>?_
  refine Zn (fun s:(List Int)=>o_10=s) (fun (way_9:(List Int)) (⟨b_7,p_7,c_7⟩:Nat×Prop×Nat)=>(Env.set Env.nil 5 (Sl b_7 p_7 0 way_9.length c_7))) (fun (way_9:(List Int)) (⟨b_7,p_7,c_7⟩:Nat×Prop×Nat)=>[⟨b_7,p_7,(Row (way_9:List Int) c_7)⟩]) ?_ ?_
  ·skip;refine Zp<|Zt H10 (fun ⟨x_11,way_13⟩ (⟨b_11,p_11,c_11⟩:Nat×Prop×Nat)=>(Env.set (Env.set (Env.set (Env.set (Env.set Env.nil 2 (Pt b2_0 0)) 3 (Pt b3_1 0)) 5 (Sl b_11 p_11 0 way_13.length c_11)) 22 (D x_7)) 23 (D x_11))) (fun ⟨x_11,way_13⟩ (⟨b_11,p_11,c_11⟩:Nat×Prop×Nat)=>[⟨b_11,p_11,(Row (way_13:List Int) c_11)⟩,⟨b2_0,True,(One t0)⟩,⟨b3_1,True,(One k0)⟩]) ⟨b19_4,True,([(0:Int)]:List Int).length⟩ (Za (Za (Zj (Zz rfl) (Za (Za (Zd _)))))) (Zc rfl (Zc rfl (Zc rfl (Ze _)))) ?_;rintro ⟨x_11,way_13⟩ ⟨b_11,p_11,c_11⟩ x_14 H14 he14;dsimp only at H14;unfold Zla at H14;refine zg ?_;refine zc H14 (fun hc H14=>?_) fun hc H14=>?_
   ·refine zg ?_;refine zn H14 fun _ ex_15 H14=>?_
    refine zX (ZeS (Zm (ZI ex_15.h rfl)) rfl) ?_;refine zb H14 fun _ _ H14=>?_
    refine zb H14 fun _ _ H14=>?_
    refine zn H14 fun x_18 ex_18 H14=>?_
    refine zX (ZeS (Zlq ex_18.h) rfl) ?_;refine zc H14 (fun hc H14=>?_) fun hc H14=>?_
    ·refine zg ?_;exact Zk way_13 ⟨b_11,p_11,c_11⟩ (he14 _ (ZZs H14)).symm (Zj (Zz rfl) (Zd _)) (Zc rfl (Ze _))
    ·refine zg ?_;refine TSx (OpY.buildSlice [.tmp 42] rfl rfl (by decide)) ?_;refine zn H14 fun _ eu_20 H14=>?_
     refine TS.app (ys:=([x_18]:List Int)) inferInstance eu_20.h rfl rfl rfl fun b44_18 p44_18 c44_18=>?_
     refine zE ?_;refine zn H14 fun l_21 el_21 H14=>?_
     refine Zac b44_18 (ZY el_21.h) ?_;refine zX (ZbL 5 _ (ZaK el_21.h rfl)) ?_;refine zb H14 fun x_22 _ H14=>?_
     exact Zq ⟨x_22,l_21⟩ ⟨b44_18,p44_18,c44_18⟩ (ZZs H14) (Za (Za (Zj (Zz rfl) (Za (Za (Zd _)))))) (Zc rfl (Zc rfl (Zc rfl (Ze _))))
   ·refine zg ?_;exact Zk way_13 ⟨b_11,p_11,c_11⟩ (he14 _ (ZZs H14)).symm (Zj (Zz rfl) (Zd _)) (Zc rfl (Ze _))
  rintro way_9 ⟨b_7,p_7,c_7⟩ hp;replace hp:=hp.symm;subst hp;refine zC ?_;refine ZN<|TE.pub b_7 (PubE.set 4 (ZG PlS.all rfl) PubE.refl) ?_;exact zY H
def Zlb (t0:Trie) (k0:(Vec UInt8 16)) (x_3:(List Int)) (x_7:Int) (best_8:Slot):Option ((Int×Slot)⊕Slot):=
 bif (decide (x_7<(x_3.length:Int))) then (((idx x_3 x_7).bind fun x_12=>(ZiN k0 x_7).bind fun x_13=>(idx t0.Nodes x_12).bind fun x_14=>(idx x_14.Slots.l x_13).bind fun x_15=>bif (decide (x_15.Len>best_8.Len)) then (some x_15) else (some best_8)).bind fun best_10=>(Zat x_7 1).bind fun x_17=>some (.inl (x_17,best_10))) else (some (.inr best_8))
def Zl6 (t0:Trie) (k0:(Vec UInt8 16)):Option (Int×UInt16×Int):=
 (Zl5 t0 k0).bind fun x_3=>bif (decide ((x_3.length:Int)=(0:Int))) then (some ((0:Int),(UInt16.ofNat 0),(1:Int))) else ((ZM (fun s=>Zlb t0 k0 x_3 s.1 s.2) ((0:Int),(Dat.z:Slot))).bind fun best_5=>bif (decide (best_5.Len=(0:Int))) then (some ((0:Int),(UInt16.ofNat 0),(6:Int))) else ((Zgh best_5.Len 1).bind fun x_18=>some (x_18,best_5.Hop,(0:Int))))
instance trie_Find_c:Fd2 37 Zl6 fun r=>Tup [D r.1,D r.2.1,D r.2.2]:=en2 Tryz.func37 rfl Tryz.ntmps37 fun A w hA t0 k0 r H=>by
 unfold Zl6 at H;refine zg ?_;refine TS.box rfl fun b2_0=>?_
 refine TS.box rfl fun b3_1=>zg ?_
 refine zb H fun x_3 _ H=>?_
 refine zc H (fun hc H=>?_) fun hc H=>?_
 ·exact zY H
 ·refine zg ?_;refine TS.alloc rfl fun b8_3=>?_
  refine zC ?_;refine zC ?_;refine zh H fun o_6 H6 H=>?_
  refine Zn (fun s:Slot=>o_6=s) (fun (best_5:Slot) (_:Unit)=>(Env.set Env.nil 8 (Pt b8_3 0))) (fun (best_5:Slot) (_:Unit)=>[⟨b8_3,True,(One best_5)⟩]) ?_ ?_
  ·skip;refine Zp<|Zt H6 (fun ⟨x_7,best_8⟩ (_:Unit)=>(Env.set (Env.set (Env.set (Env.set (Env.set (Env.set Env.nil 2 (Pt b2_0 0)) 3 (Pt b3_1 0)) 8 (Pt b8_3 0)) 18 (D x_3)) 19 (D ((x_3.length:Int):Int))) 20 (D x_7))) (fun ⟨x_7,best_8⟩ (_:Unit)=>[⟨b2_0,True,(One t0)⟩,⟨b3_1,True,(One k0)⟩,⟨b8_3,True,(One best_8)⟩]) () (Za (Za (Za (Za (Za (Za (Zd _))))))) (Zc rfl (Zc rfl (Zc rfl (Ze _)))) ?_;rintro ⟨x_7,best_8⟩ ⟨⟩ x_9 H9 he9;dsimp only at H9;unfold Zlb at H9;refine zg ?_;refine zc H9 (fun hc H9=>?_) fun hc H9=>?_
   ·refine ZaB<|Zak<|Zao ?_;refine zh H9 fun o_11 H11 H9=>?_
    refine Zn (fun s:Slot=>o_11=s) (fun (best_10:Slot) (_:Unit)=>(Env.set (Env.set (Env.set (Env.set (Env.set (Env.set Env.nil 2 (Pt b2_0 0)) 3 (Pt b3_1 0)) 8 (Pt b8_3 0)) 18 (D x_3)) 19 (D ((x_3.length:Int):Int))) 20 (D x_7))) (fun (best_10:Slot) (_:Unit)=>[⟨b2_0,True,(One t0)⟩,⟨b3_1,True,(One k0)⟩,⟨b8_3,True,(One best_10)⟩]) ?_ ?_
    ·skip;refine zg ?_;refine zo H11 fun _ _ H11=>?_
     refine zC ?_;refine zX (Za9 [10,11] [] mix (by kernel_rfl) (by kernel_rfl)) ?_;refine zb H11 fun _ _ H11=>?_
     refine zb H11 fun _ _ H11=>?_
     refine zn H11 fun x_15 ex_15 H11=>?_
     refine zX (ZeS (Zlq ex_15.h) rfl) ?_;refine Zfz (fun g=>Zda (α:=Slot)) rfl<|Zdt (fun g=>(Zy (y:=(x_15:Slot)) Zx)) rfl ?_;refine zC ?_;rintro ⟨⟨_,⟨b11_15,_⟩⟩,_⟩;dsimp only [Fam.nextS,Fam.nextN,Fam.one,List.cons_append,List.nil_append];refine zg ?_;refine zc H11 (fun hc H11=>?_) fun hc H11=>?_
     ·refine zg ?_;exact Zk x_15 () (ZZs H11) (Za (Za (Za (Za (Za (Za (Zd _))))))) (Zc rfl (Zc rfl (Zc rfl (Ze _))))
     ·refine zg ?_;exact Zk best_8 () (ZZs H11) (Za (Za (Za (Za (Za (Za (Zd _))))))) (Zc rfl (Zc rfl (Zc rfl (Ze _))))
    rintro best_10 ⟨⟩ hp;replace hp:=hp.symm;subst hp;refine zg ?_;refine zb H9 fun x_17 _ H9=>?_
    exact Zq ⟨x_17,best_10⟩ () (ZZs H9) (Za (Za (Za (Za (Za (Za (Zd _))))))) (Zc rfl (Zc rfl (Zc rfl (Ze _))))
   ·refine zg ?_;exact Zk best_8 () (he9 _ (ZZs H9)).symm (Za (Zd _)) (Zc rfl (Ze _))
  rintro best_5 ⟨⟩ hp;replace hp:=hp.symm;subst hp;exact zY H
end Go.Proofs.YtkmojgfenlgchaaGreatDoor.Tr
namespace Go.Proofs.YtkmojgfenlgchaaGreatDoor.Tr
open Go Go.RowKit
set_option maxRecDepth 100000
set_option synthInstance.maxHeartbeats 400000
set_option synthInstance.maxSize 4096
def ZaG (s0:Txt) (c0:UInt8):Option Int:=
 (ZiK (idxByte s0.l c0)).bind fun x_1=>some x_1
instance internal_stringslite_IndexByte_c:Fd2 183 ZaG fun r=>D r:=en2 Tryz.func183 rfl Tryz.ntmps183 fun A w hA s0 c0 r H=>by
 unfold ZaG at H;refine zg ?_;refine zn H fun _ ex_1 H=>?_
 refine TSx (OpY.idxByte ex_1.h) ?_;exact zY H
def ZaX (s0:Txt) (substr0:Txt):Option Int:=
 (ZiK (substr0.l.length:Int)).bind fun x_1=>bif ((decide (x_1=(0:Int)))||(decide (substr0.l=s0.l))) then (some (0:Int)) else (bif (decide (x_1=(1:Int))) then ((idx substr0.l 0).bind fun x_2=>(ZaG s0 x_2).bind fun x_3=>some x_3) else ((ZiK (s0.l.length:Int)).bind fun x_4=>bif (decide (x_1≥x_4)) then (some (-1:Int)) else (none)))
instance internal_stringslite_Index_c:Fd2 157 ZaX fun r=>D r:=en2 Tryz.func157 rfl Tryz.ntmps157 fun A w hA s0 substr0 r H=>by
 unfold ZaX at H;refine zg ?_;refine zn H fun _ ex_1 H=>?_
 refine zX (ZaZ (Zbb ex_1.h) rfl) ?_;refine zX (ZlE 19 rfl (fun hg=>ZeG) rfl) ?_;refine zc H (fun hc H=>?_) fun hc H=>?_
 ·exact zY H
 ·refine zg ?_;refine zc H (fun hc H=>?_) fun hc H=>?_
  ·refine zg ?_;refine zn H fun _ ex_2 H=>?_
   refine TSx (Zez ex_2.h) ?_;exact zY H
  ·refine zg ?_;refine zn H fun _ ex_4 H=>?_
   refine zX (ZaZ (Zbb ex_4.h) rfl) ?_;refine zc H (fun hc H=>?_) fun hc H=>?_
   ·exact zY H
   ·cases H
def Zcl (s0:Txt) (sep0:Txt):Option (Txt×Txt×Bool):=
 (ZaX s0 sep0).bind fun x_1=>bif (decide (x_1≥(0:Int))) then ((cut s0.l.length 0 x_1).bind fun u_2=>(ZiK (sep0.l.length:Int)).bind fun x_3=>(Zat x_1 x_3).bind fun x_4=>(cut s0.l.length x_4 s0.l.length).bind fun u_5=>some ((⟨(s0.l.take (Int.toNat x_1))⟩:Txt),(⟨(s0.l.drop (Int.toNat x_4))⟩:Txt),true)) else (some (s0,(⟨([]:List UInt8)⟩:Txt),false))
instance internal_stringslite_Cut_c:Fd2 131 Zcl fun r=>Tup [D r.1,D r.2.1,D r.2.2]:=en2 Tryz.func131 rfl Tryz.ntmps131 fun A w hA s0 sep0 r H=>by
 unfold Zcl at H;refine zg ?_;refine zb H fun _ _ H=>?_
 refine zc H (fun hc H=>?_) fun hc H=>?_
 ·refine zg ?_;refine zn H fun _ eu_2 H=>?_
  refine zX (ZeS (Zlu eu_2.h) rfl) ?_;refine zn H fun _ ex_3 H=>?_
  refine TRx (Zbb ex_3.h) ?_;refine zb H fun _ _ H=>?_
  refine zn H fun _ eu_5 H=>?_
  refine TRx (ZgR eu_5.h) ?_;exact zY H
 ·exact zY H
def Zhp (s0:Txt) (sep0:Txt):Option (Txt×Txt×Bool):=
 (Zcl s0 sep0).bind fun r_1=>some (r_1.1,r_1.2.1,r_1.2.2)
instance strings_Cut_c:Fd2 89 Zhp fun r=>Tup [D r.1,D r.2.1,D r.2.2]:=en2 Tryz.func89 rfl Tryz.ntmps89 fun _ _ _ _ _ _ H=>by
 unfold Zhp at H;exact zY H
def ZaF (s0:Txt):Option Int:=
 none
instance unicode_utf8_RuneCountInString_c:Fd1 218 ZaF fun r=>D r:=en1 Tryz.func218 rfl Tryz.ntmps218 fun A w hA s0 r H=>by
 unfold ZaF at H;refine zg ?_;cases H
def Zgn (n_2:Int):Option (Unit⊕Unit):=
 (Zgh n_2 1).bind fun x_9=>bif (decide ((0:Int)<x_9)) then (none) else (some (.inr ()))
def ZfI (s0:Txt) (n0:Int):Option (List Txt):=
 (ZaF s0).bind fun x_1=>(bif ((decide (n0<(0:Int)))||(decide (n0>x_1))) then (some x_1) else (some n0)).bind fun n_2=>(Zc5 16 n_2).bind fun u_4=>(some ((List.replicate (Int.toNat n_2) (Dat.z:Txt)):(List Txt))).bind fun l_6=>(ZM (fun _:Unit=>Zgn n_2) ()).bind fun _=>(bif (decide (n_2>(0:Int))) then ((Zgh n_2 1).bind fun x_12=>(idx l_6 x_12).bind fun x_13=>(some ((l_6.set (Int.toNat x_12) s0):(List Txt))).bind fun l_14=>some l_14) else (some l_6)).bind fun a_10=>some a_10
instance strings_explode_c:Fd2 214 ZfI fun r=>D r:=en2 Tryz.func214 rfl Tryz.ntmps214 fun A w hA s0 n0 r H=>by
 unfold ZfI at H;refine zg ?_;refine zo H fun x_1 _ H=>?_
 refine zC ?_;refine Zao ?_;refine zh H fun o_3 H3 H=>?_
 refine Zn (fun s:Int=>o_3=s) (fun (n_2:Int) (_:Unit)=>(Env.set (Env.set Env.nil 0 (D s0)) 1 (D n_2))) (fun (n_2:Int) (_:Unit)=>[]) ?_ ?_
 ·skip;refine zg ?_;refine zc H3 (fun hc H3=>?_) fun hc H3=>?_
  ·refine zg ?_;exact Zk x_1 () (ZZs H3) (Za (Za (Zd _))) (Ze _)
  ·refine zg ?_;exact Zk n0 () (ZZs H3) (Za (Za (Zd _))) (Ze _)
 rintro n_2 ⟨⟩ hp;replace hp:=hp.symm;subst hp;refine zg ?_;refine zn H fun _ eu_4 H=>?_
 refine Zf7 eu_4.h ⟨(Za1 eu_4.h).1,Int.le_refl _⟩ rfl fun b21_4=>?_
 refine zC ?_;refine zn H fun l_6 el_6 H=>?_
 refine ZC b21_4 (ZY el_6.h)<|Zcc 6 _ (ZaK el_6.h (by simp)) ?_;refine zC ?_;refine zh H fun o_7 H7 H=>?_
 refine Zn (fun s:Unit=>o_7=s) (fun (_:Unit) (_:Unit)=>(Env.set (Env.set (Env.set Env.nil 0 (D s0)) 1 (D n_2)) 6 (Sl b21_4 True 0 l_6.length (Int.toNat n_2)))) (fun (_:Unit) (_:Unit)=>[⟨b21_4,True,(Row (l_6:List Txt) (Int.toNat n_2))⟩]) ?_ ?_
 ·skip;refine Zp<|Zt H7 (fun (_:Unit) (_:Unit)=>(Env.set (Env.set (Env.set (Env.set Env.nil 0 (D s0)) 1 (D n_2)) 6 (Sl b21_4 True 0 l_6.length (Int.toNat n_2))) 7 (D ((0:Int):Int)))) (fun (_:Unit) (_:Unit)=>[⟨b21_4,True,(Row (l_6:List Txt) (Int.toNat n_2))⟩]) () (Za (Zj (Zz rfl) (Za (Za (Zd _))))) (Zc rfl (Ze _)) ?_;rintro ⟨⟩ ⟨⟩ x_8 H8 he8
  try dsimp only at H8
  unfold Zgn at H8;refine zg ?_;refine zb H8 fun _ _ H8=>?_
  refine zc H8 (fun hc H8=>?_) fun hc H8=>?_
  ·refine zg ?_;cases H8
  ·refine zg ?_;exact Zk () () (he8 _ (ZZs H8)).symm (Zj (Zz rfl) (Za (Za (Zd _)))) (Zc rfl (Ze _))
 rintro ⟨⟩ ⟨⟩ hp;replace hp:=hp.symm;subst hp;refine Zak<|Zao ?_;refine zh H fun o_11 H11 H=>?_
 refine Zn (fun s:(List Txt)=>o_11=s) (fun (a_10:(List Txt)) (_:Unit)=>(Env.set Env.nil 6 (Sl b21_4 True 0 a_10.length (Int.toNat n_2)))) (fun (a_10:(List Txt)) (_:Unit)=>[⟨b21_4,True,(Row (a_10:List Txt) (Int.toNat n_2))⟩]) ?_ ?_
 ·skip;refine zg ?_;refine zc H11 (fun hc H11=>?_) fun hc H11=>?_
  ·refine zg ?_;refine zb H11 fun _ _ H11=>?_
   refine zn H11 fun _ ex_13 H11=>?_
   refine TSx (Zm (ZI ex_13.h rfl)) ?_;refine zE ?_;refine zn H11 fun l_14 el_14 H11=>?_
   exact Zac b21_4 (ZY el_14.h)<|ZbL 6 _ (ZaK el_14.h (by simp))<|Zk l_14 () (ZZs H11) (Zj (Zz rfl) (Zd _)) (Zc rfl (Ze _))
  ·refine zg ?_;exact Zk l_6 () (ZZs H11) (Zj (Zz rfl) (Zd _)) (Zc rfl (Ze _))
 rintro a_10 ⟨⟩ hp;replace hp:=hp.symm;subst hp;refine zC ?_;refine ZN<|TE.pub b21_4 (PubE.set 4 (ZG PlS.all rfl) PubE.refl) ?_;exact zY H
def Ze9 (s0:Txt) (substr0:Txt):Option Int:=
 (ZaX s0 substr0).bind fun x_1=>some x_1
instance strings_Index_c:Fd2 216 Ze9 fun r=>D r:=en2 Tryz.func216 rfl Tryz.ntmps216 fun _ _ _ _ _ _ H=>by
 unfold Ze9 at H;exact zY H
def ZhU (substr0:Txt) (s_7:Txt) (n_8:Int):Option ((Txt×Int)⊕Int):=
 (Ze9 s_7 substr0).bind fun x_10=>bif (decide (x_10=(-1:Int))) then (some (.inr n_8)) else ((Zat n_8 1).bind fun x_11=>(ZiK (substr0.l.length:Int)).bind fun x_12=>(Zat x_10 x_12).bind fun x_13=>(cut s_7.l.length x_13 s_7.l.length).bind fun u_14=>some (.inl ((⟨(s_7.l.drop (Int.toNat x_13))⟩:Txt),x_11)))
def Zhq (s0:Txt) (substr0:Txt):Option Int:=
 (ZiK (substr0.l.length:Int)).bind fun x_1=>bif (decide (x_1=(0:Int))) then ((ZaF s0).bind fun x_2=>(Zat x_2 1).bind fun x_3=>some x_3) else ((ZiK (substr0.l.length:Int)).bind fun x_4=>bif (decide (x_4=(1:Int))) then ((idx substr0.l 0).bind fun x_5=>(ZiK (cntByte s0.l x_5)).bind fun x_6=>some x_6) else (ZM (fun s=>ZhU substr0 s.1 s.2) (s0,(0:Int))))
instance strings_Count_c:Fd2 215 Zhq fun r=>D r:=en2 Tryz.func215 rfl Tryz.ntmps215 fun A w hA s0 substr0 r H=>by
 unfold Zhq at H;refine zg ?_;refine zn H fun _ ex_1 H=>?_
 refine zX (ZaZ (Zbb ex_1.h) rfl) ?_;refine zc H (fun hc H=>?_) fun hc H=>?_
 ·exact zY H
 ·refine zg ?_;refine zn H fun _ ex_4 H=>?_
  refine zX (ZaZ (Zbb ex_4.h) rfl) ?_;refine zc H (fun hc H=>?_) fun hc H=>?_
  ·refine zg ?_;refine zn H fun _ ex_5 H=>?_
   refine TSx (Zez ex_5.h) ?_;refine zn H fun _ ex_6 H=>?_
   refine TSx (OpY.cntByte ex_6.h) ?_;exact zY H
  ·refine zC ?_;refine Zp<|Zt H (fun ⟨s_7,n_8⟩ (_:Unit)=>(Env.set (Env.set (Env.set Env.nil 0 (D s_7)) 1 (D substr0)) 5 (D n_8))) (fun ⟨s_7,n_8⟩ (_:Unit)=>[]) () (Za (Za (Za (Zd _)))) (Ze _) ?_;rintro ⟨s_7,n_8⟩ ⟨⟩ x_9 H9 he9;dsimp only at H9;unfold ZhU at H9;refine zg ?_;refine zb H9 fun _ _ H9=>?_
   refine zc H9 (fun hc H9=>?_) fun hc H9=>?_
   ·refine zg ?_;obtain rfl:=(he9 _ (ZZs H9));exact ZbM rfl Cv.le
   ·refine zg ?_;refine zb H9 fun x_11 _ H9=>?_
    refine zn H9 fun _ ex_12 H9=>?_
    refine TSx (Zbb ex_12.h) ?_;refine zb H9 fun x_13 _ H9=>?_
    refine zn H9 fun _ eu_14 H9=>?_
    refine zX (ZaZ (ZgR eu_14.h) rfl) ?_;exact Zq ⟨(⟨(s_7.l.drop (Int.toNat x_13))⟩:Txt),x_11⟩ () (ZZs H9) (Za (Za (Za (Zd _)))) (Ze _)
def ZfH (sep0:Txt) (sepSave0:Int) (x_11:Int) (s_16:Txt) (i_17:Int) (a_18:(List Txt)):Option ((Txt×Int×(List Txt))⊕(Txt×Int×(List Txt))):=
 bif (decide (i_17<x_11)) then ((Ze9 s_16 sep0).bind fun x_20=>bif (decide (x_20<(0:Int))) then (some (.inr (s_16,i_17,a_18))) else ((Zat x_20 sepSave0).bind fun x_21=>(cut s_16.l.length 0 x_21).bind fun u_22=>(idx a_18 i_17).bind fun x_23=>(some ((a_18.set (Int.toNat i_17) (⟨(s_16.l.take (Int.toNat x_21))⟩:Txt)):(List Txt))).bind fun l_24=>(ZiK (sep0.l.length:Int)).bind fun x_25=>(Zat x_20 x_25).bind fun x_26=>(cut s_16.l.length x_26 s_16.l.length).bind fun u_27=>(Zat i_17 1).bind fun x_28=>some (.inl ((⟨(s_16.l.drop (Int.toNat x_26))⟩:Txt),x_28,l_24)))) else (some (.inr (s_16,i_17,a_18)))
def ZeW (s0:Txt) (sep0:Txt) (sepSave0:Int) (n0:Int):Option (List Txt):=
 bif (decide (n0=(0:Int))) then (some ([]:List Txt)) else (bif (decide (sep0.l=([]:List UInt8))) then ((ZfI s0 n0).bind fun x_1=>some x_1) else ((bif (decide (n0<(0:Int))) then ((Zhq s0 sep0).bind fun x_4=>(Zat x_4 1).bind fun x_5=>some x_5) else (some n0)).bind fun n_2=>(ZiK (s0.l.length:Int)).bind fun x_6=>(Zat x_6 1).bind fun x_7=>(Zc5 16 (min n_2 x_7)).bind fun u_8=>(some ((List.replicate (Int.toNat (min n_2 x_7)) (Dat.z:Txt)):(List Txt))).bind fun l_10=>(Zgh (min n_2 x_7) (1:Int)).bind fun x_11=>(ZM (fun s=>ZfH sep0 sepSave0 x_11 s.1 s.2.1 s.2.2) (s0,(0:Int),l_10)).bind fun o_15=>el3 o_15 (fun s_12 i_13 a_14=>(idx a_14 i_13).bind fun x_29=>(some ((a_14.set (Int.toNat i_13) s_12):(List Txt))).bind fun l_30=>(Zat i_13 1).bind fun x_31=>(cut l_30.length 0 x_31).bind fun u_32=>(some ((l_30.take (Int.toNat x_31)):(List Txt))).bind fun l_33=>some l_33)))
instance strings_genSplit_c:Fd4 204 ZeW fun r=>D r:=en4 Tryz.func204 rfl Tryz.ntmps204 fun A w hA s0 sep0 sepSave0 n0 r H=>by
 unfold ZeW at H;refine zg ?_;refine zc H (fun hc H=>?_) fun hc H=>?_
 ·exact zY H
 ·refine zg ?_;refine zX (ZaZ ZeG rfl) ?_;refine zc H (fun hc H=>?_) fun hc H=>?_
  ·exact zY H
  ·refine ZaB<|Zak<|Zao ?_;refine zh H fun o_3 H3 H=>?_
   refine Zn (fun s:Int=>o_3=s) (fun (n_2:Int) (_:Unit)=>(Env.set (Env.set (Env.set (Env.set Env.nil 0 (D s0)) 1 (D sep0)) 2 (D sepSave0)) 3 (D n_2))) (fun (n_2:Int) (_:Unit)=>[]) ?_ ?_
   ·skip;refine zg ?_;refine zc H3 (fun hc H3=>?_) fun hc H3=>?_
    ·refine zg ?_;refine zb H3 fun _ _ H3=>?_
     refine zb H3 fun x_5 _ H3=>?_
     exact Zk x_5 () (ZZs H3) (Za (Za (Za (Za (Zd _))))) (Ze _)
    ·refine zg ?_;exact Zk n0 () (ZZs H3) (Za (Za (Za (Za (Zd _))))) (Ze _)
   rintro n_2 ⟨⟩ hp;replace hp:=hp.symm;subst hp;refine zg ?_;refine zn H fun _ ex_6 H=>?_
   refine TSx (Zbb ex_6.h) ?_;refine zb H fun x_7 _ H=>?_
   refine zn H fun _ eu_8 H=>?_
   refine Zf7 eu_8.h ⟨(Za1 eu_8.h).1,Int.le_refl _⟩ rfl fun b31_8=>?_
   refine zC ?_;refine zn H fun _ el_10 H=>?_
   refine ZC b31_8 (ZY el_10.h) ?_;refine zX (Zcc 9 _ (ZaK el_10.h (by simp))) ?_;refine zo H fun x_11 _ H=>?_
   refine zC ?_;refine zC ?_;refine Zao ?_;refine zh H fun o_15 H15 H=>?_
   refine Zn (fun s:(Txt×Int×(List Txt))=>o_15=s) (fun ⟨s_12,i_13,a_14⟩ (_:Unit)=>(Env.set (Env.set (Env.set Env.nil 0 (D s_12)) 9 (Sl b31_8 True 0 a_14.length (Int.toNat (min n_2 x_7)))) 10 (D i_13))) (fun ⟨s_12,i_13,a_14⟩ (_:Unit)=>[⟨b31_8,True,(Row (a_14:List Txt) (Int.toNat (min n_2 x_7)))⟩]) ?_ ?_
   ·skip;refine Zp<|Zt H15 (fun ⟨s_16,i_17,a_18⟩ (_:Unit)=>(Env.set (Env.set (Env.set (Env.set (Env.set (Env.set Env.nil 0 (D s_16)) 1 (D sep0)) 2 (D sepSave0)) 3 (D x_11)) 9 (Sl b31_8 True 0 a_18.length (Int.toNat (min n_2 x_7)))) 10 (D i_17))) (fun ⟨s_16,i_17,a_18⟩ (_:Unit)=>[⟨b31_8,True,(Row (a_18:List Txt) (Int.toNat (min n_2 x_7)))⟩]) () (Za (Zj (Zz rfl) (Za (Za (Za (Za (Zd _))))))) (Zc rfl (Ze _)) ?_;rintro ⟨s_16,i_17,a_18⟩ ⟨⟩ x_19 H19 he19;dsimp only at H19;unfold ZfH at H19;refine zg ?_;refine zc H19 (fun hc H19=>?_) fun hc H19=>?_
    ·refine zg ?_;refine zb H19 fun _ _ H19=>?_
     refine zc H19 (fun hc H19=>?_) fun hc H19=>?_
     ·refine zg ?_;exact Zk ⟨s_16,i_17,a_18⟩ () (he19 _ (ZZs H19)).symm (Za (Zj (Zz rfl) (Za (Zd _)))) (Zc rfl (Ze _))
     ·refine zg ?_;refine zb H19 fun _ _ H19=>?_
      refine zn H19 fun _ eu_22 H19=>?_
      refine TSx (Zlu eu_22.h) ?_;refine zn H19 fun _ ex_23 H19=>?_
      refine TSx (Zm (ZI ex_23.h rfl)) ?_;refine zC ?_;refine zn H19 fun l_24 el_24 H19=>?_
      refine ZC b31_8 (ZY el_24.h) ?_;refine zX (Zcc 9 _ (ZaK el_24.h (by simp))) ?_;refine zn H19 fun _ ex_25 H19=>?_
      refine TSx (Zbb ex_25.h) ?_;refine zb H19 fun x_26 _ H19=>?_
      refine zn H19 fun _ eu_27 H19=>?_
      refine zX (ZaZ (ZgR eu_27.h) rfl) ?_;refine zb H19 fun x_28 _ H19=>?_
      exact Zq ⟨(⟨(s_16.l.drop (Int.toNat x_26))⟩:Txt),x_28,l_24⟩ () (ZZs H19) (Za (Zj (Zz rfl) (Za (Za (Za (Za (Zd _))))))) (Zc rfl (Ze _))
    ·refine zg ?_;exact Zk ⟨s_16,i_17,a_18⟩ () (he19 _ (ZZs H19)).symm (Za (Zj (Zz rfl) (Za (Zd _)))) (Zc rfl (Ze _))
   rintro ⟨s_12,i_13,a_14⟩ ⟨⟩ hp;replace hp:=hp.symm;subst hp;replace H:=el3_mk H;refine zg ?_;refine zn H fun _ ex_29 H=>?_
   refine TSx (Zm (ZI ex_29.h rfl)) ?_;refine zC ?_;refine zn H fun l_30 el_30 H=>?_
   refine ZC b31_8 (ZY el_30.h) ?_;refine zX (Zcc 9 _ (ZaK el_30.h (by simp))) ?_;refine zb H fun x_31 _ H=>?_
   refine zn H fun _ eu_32 H=>?_
   refine TSx (Zd1 (ZdQ eu_32.h rfl).2.1 (ZdQ eu_32.h rfl).2.2) ?_;refine zC ?_;refine TC.trim b31_8 (Int.toNat x_31) (ZkW eu_32.h)<|Zcc 8 _ (Zz (List.length_take_of_le (l:=l_30) (ZkW eu_32.h)).symm) ?_;refine zn H fun _ el_33 H=>?_
   refine ZC b31_8 (ZY el_33.h)<|Zcc 8 _ (ZaK el_33.h rfl)<|ZN<|TE.pub b31_8 (PubE.set 8 (ZG PlS.all rfl) PubE.refl) ?_;exact zY H
def Zho (s0:Txt) (sep0:Txt):Option (List Txt):=
 (ZeW s0 sep0 (0:Int) (-1:Int)).bind fun x_1=>some x_1
instance strings_Split_c:Fd2 187 Zho fun r=>D r:=en2 Tryz.func187 rfl Tryz.ntmps187 fun _ _ _ _ _ _ H=>by
 unfold Zho at H;exact zY H
def Zh7 (s0:Txt) (top0:Int) (x_3:Int) (n_6:Int) (x_7:Int):Option ((Int×Int)⊕(Int⊕(Int×Bool))):=
 bif (decide (x_7<x_3)) then ((idx s0.l x_7).bind fun x_9=>(gb (!(decide (x_9<(UInt8.ofNat 48)))) (idx s0.l x_7)).bind fun x_10=>bif ((decide (x_9<(UInt8.ofNat 48)))||(decide ((UInt8.ofNat 57)<x_10))) then (some (.inr (.inr ((0:Int),false)))) else ((mulI (10:Int) n_6).bind fun x_12=>(idx s0.l x_7).bind fun x_13=>(Zat x_12 ((x_13-(UInt8.ofNat 48)).toNat:Int)).bind fun x_14=>bif (decide (x_14>top0)) then (some (.inr (.inr ((0:Int),false)))) else ((Zat x_7 1).bind fun x_16=>some (.inl (x_14,x_16))))) else (some (.inr (.inl n_6)))
def ZeJ (s0:Txt) (top0:Int):Option (Int×Bool):=
 (gb (!(decide (s0.l=([]:List UInt8)))) (ZiK (s0.l.length:Int))).bind fun x_1=>(gb ((!(decide (s0.l=([]:List UInt8))))&&(decide (x_1>(1:Int)))) (idx s0.l 0)).bind fun x_2=>bif ((decide (s0.l=([]:List UInt8)))||((decide (x_1>(1:Int)))&&(decide (x_2=(UInt8.ofNat 48))))) then (some ((0:Int),false)) else ((ZiK (s0.l.length:Int)).bind fun x_3=>(ZM (fun s=>Zh7 s0 top0 x_3 s.1 s.2) ((0:Int),(0:Int))).bind fun o_5=>elS o_5 (fun n_4=>some (n_4,true)) (fun q=>some q))
instance route_number_c:Fd2 91 ZeJ fun r=>Tup [D r.1,D r.2]:=en2 Tryz.func91 rfl Tryz.ntmps91 fun A w hA s0 top0 r H=>by
 unfold ZeJ at H;refine zg ?_;refine zX (ZaZ ZeG rfl) ?_;refine zm H fun _ ex_1 H=>?_
 refine zX (ZlE 10 rfl (fun hg=>(Zbb (Zbv ex_1.h (nF hg.h)))) rfl) ?_;refine zm H fun _ ex_2 H=>?_
 refine TS.gg 14 rfl (fun hp hg=>(Zez (Zbv ex_2.h (aT (nF hp.h) hg.h)))) rfl ?_;refine zX (TS.gg 14 rfl (fun hp hg=>OpY.eql8) rfl) ?_;refine zc H (fun hc H=>?_) fun hc H=>?_
 ·exact zY H
 ·refine zg ?_;refine zn H fun x_3 ex_3 H=>?_
  refine TSx (Zbb ex_3.h) ?_;refine zC ?_;refine zh H fun o_5 H5 H=>?_
  refine Zn (fun s:Int=>o_5=.inl s) (fun (n_4:Int) (_:Unit)=>(Env.set Env.nil 6 (D n_4))) (fun (n_4:Int) (_:Unit)=>[]) ?_ ?_
  ·skip;refine Zp<|Zt H5 (fun ⟨n_6,x_7⟩ (_:Unit)=>(Env.set (Env.set (Env.set (Env.set (Env.set Env.nil 0 (D s0)) 1 (D top0)) 6 (D n_6)) 21 (D x_3)) 22 (D x_7))) (fun ⟨n_6,x_7⟩ (_:Unit)=>[]) () (Za (Za (Za (Za (Za (Zd _)))))) (Ze _) ?_;rintro ⟨n_6,x_7⟩ ⟨⟩ x_8 H8 he8;dsimp only at H8;unfold Zh7 at H8;refine zg ?_;refine zc H8 (fun hc H8=>?_) fun hc H8=>?_
   ·refine zg ?_;refine zn H8 fun _ ex_9 H8=>?_
    refine TSx (Zez ex_9.h) ?_;refine zX (ZaZ OpY.lss8 rfl) ?_;refine zm H8 fun _ ex_10 H8=>?_
    refine ZlE 29 rfl (fun hg=>(Zez (Zbv ex_10.h (nF hg.h)))) rfl ?_;refine zX (ZlE 29 rfl (fun hg=>OpY.gtr8) rfl) ?_;refine zc H8 (fun hc H8=>?_) fun hc H8=>?_
    ·refine zC ?_;refine ZN<|Zh<|Zg<|Zh<|Zh<|Zg<|Zv ?_;have R10:=ZaW (he8 _ (ZZs H8)) H;refine zg ?_;obtain rfl:=ZZi R10;exact Zev rfl rfl (.cons Cv.le (.cons Cv.le .nil))
    ·refine zg ?_;refine zb H8 fun _ _ H8=>?_
     refine zn H8 fun _ ex_13 H8=>?_
     refine TSx (Zez ex_13.h) ?_;refine zX (ZaZ OpY.sub8 rfl) ?_;refine zb H8 fun x_14 _ H8=>?_
     refine zc H8 (fun hc H8=>?_) fun hc H8=>?_
     ·refine zC ?_;refine ZN<|Zg<|Zh<|Zh<|Zg<|Zv ?_;have R14:=ZaW (he8 _ (ZZs H8)) H;refine zg ?_;obtain rfl:=ZZi R14;exact Zev rfl rfl (.cons Cv.le (.cons Cv.le .nil))
     ·refine zg ?_;refine zb H8 fun x_16 _ H8=>?_
      exact Zq ⟨x_14,x_16⟩ () (ZZs H8) (Za (Za (Za (Za (Za (Zd _)))))) (Ze _)
   ·refine zg ?_;exact Zk n_6 () (he8 _ (ZZs H8)).symm (Za (Zd _)) (Ze _)
  rintro n_4 ⟨⟩ hp;replace H:=Zcd hp H;exact zY H
def Zje (x_2:(List Txt)) (x_6:Int) (k_7:(Vec UInt8 16)):Option ((Int×(Vec UInt8 16))⊕((Vec UInt8 16)⊕((Vec UInt8 16)×Bool))):=
 bif (decide (x_6<(x_2.length:Int))) then ((idx x_2 x_6).bind fun x_9=>(ZeJ x_9 (255:Int)).bind fun r_10=>bif (!r_10.2) then (some (.inr (.inr ((Dat.z:(Vec UInt8 16)),false)))) else ((idx k_7.l x_6).bind fun x_12=>(some ((Vec.set k_7 (Int.toNat x_6) (UInt8.ofInt r_10.1)):(Vec UInt8 16))).bind fun k_13=>(Zat x_6 1).bind fun x_14=>some (.inl (x_14,k_13)))) else (some (.inr (.inl k_7)))
def Zjs (s0:Txt):Option ((Vec UInt8 16)×Bool):=
 (Zho s0 (⟨([46]:List UInt8)⟩:Txt)).bind fun x_2=>bif (decide ((x_2.length:Int)≠(4:Int))) then (some ((Dat.z:(Vec UInt8 16)),false)) else ((ZM (fun s=>Zje x_2 s.1 s.2) ((0:Int),(Dat.z:(Vec UInt8 16)))).bind fun o_5=>elS o_5 (fun k_4=>some (k_4,true)) (fun q=>some q))
instance route_short_c:Fd1 158 Zjs fun r=>Tup [D r.1,D r.2]:=en1 Tryz.func158 rfl Tryz.ntmps158 fun A w hA s0 r H=>by
 unfold Zjs at H;refine zg ?_;refine TS.alloc rfl fun b2_0=>zg ?_
 refine zb H fun x_2 _ H=>?_
 refine zc H (fun hc H=>?_) fun hc H=>?_
 ·refine zg ?_;refine TSx (Zc1 (ps:=_) (Dat.z:(Vec UInt8 16)) rfl Tryz.underlying83 rfl) ?_;exact zY H
 ·refine zg ?_;refine TS.alloc rfl fun b5_2=>?_
  refine zC ?_;refine zC ?_;refine zh H fun o_5 H5 H=>?_
  refine Zn (fun s:(Vec UInt8 16)=>o_5=.inl s) (fun (k_4:(Vec UInt8 16)) (_:Unit)=>(Env.set (Env.set Env.nil 2 (Pt b2_0 0)) 5 (Pt b5_2 0))) (fun (k_4:(Vec UInt8 16)) (_:Unit)=>[⟨b2_0,True,(One ((Dat.z:(Vec UInt8 16)):(Vec UInt8 16)))⟩,⟨b5_2,True,(One k_4)⟩]) ?_ ?_
  ·skip;refine Zp<|Zt H5 (fun ⟨x_6,k_7⟩ (_:Unit)=>(Env.set (Env.set (Env.set (Env.set (Env.set Env.nil 2 (Pt b2_0 0)) 5 (Pt b5_2 0)) 16 (D x_2)) 17 (D ((x_2.length:Int):Int))) 18 (D x_6))) (fun ⟨x_6,k_7⟩ (_:Unit)=>[⟨b2_0,True,(One ((Dat.z:(Vec UInt8 16)):(Vec UInt8 16)))⟩,⟨b5_2,True,(One k_7)⟩]) () (Za (Za (Za (Za (Za (Zd _)))))) (Zc rfl (Zc rfl (Ze _))) ?_;rintro ⟨x_6,k_7⟩ ⟨⟩ x_8 H8 he8;dsimp only at H8;unfold Zje at H8;refine zg ?_;refine zc H8 (fun hc H8=>?_) fun hc H8=>?_
   ·refine zg ?_;refine zb H8 fun _ _ H8=>?_
    refine zb H8 fun r_10 _ H8=>?_
    refine zc H8 (fun hc H8=>?_) fun hc H8=>?_
    ·refine zg ?_;refine TSx (Zc1 (ps:=_) (Dat.z:(Vec UInt8 16)) rfl Tryz.underlying83 rfl) ?_;refine zC ?_;refine ZN<|Zh<|Zg<|Zh<|Zh<|Zg<|Zv ?_;have R10:=ZaW (he8 _ (ZZs H8)) H;refine zg ?_;obtain rfl:=ZZi R10;exact Zev rfl rfl (.cons Cv.le (.cons Cv.le .nil))
    ·refine zg ?_;refine zn H8 fun _ ex_12 H8=>?_
     refine TSx (Zay (ZI ex_12.h (Vec.h _).symm))<|Zbi (Zy (y:=((UInt8.ofInt r_10.1):UInt8)) (Ze5 (α:=UInt8) Zx ex_12.h)) ?_;refine zE ?_;refine zn H8 fun k_13 ek_13 H8=>?_
     refine zX (Zac b5_2 (Zaj ek_13.h)) ?_;refine zb H8 fun x_14 _ H8=>?_
     exact Zq ⟨x_14,k_13⟩ () (ZZs H8) (Za (Za (Za (Za (Za (Zd _)))))) (Zc rfl (Zc rfl (Ze _)))
   ·refine zg ?_;exact Zk k_7 () (he8 _ (ZZs H8)).symm (Za (Za (Zd _))) (Zc rfl (Zc rfl (Ze _)))
  rintro k_4 ⟨⟩ hp;replace H:=Zcd hp H;exact zY H
def Zeg (s0:Txt) (c0:UInt8):Option Int:=
 (ZaG s0 c0).bind fun x_1=>some x_1
instance strings_IndexByte_c:Fd2 188 Zeg fun r=>D r:=en2 Tryz.func188 rfl Tryz.ntmps188 fun _ _ _ _ _ _ H=>by
 unfold Zeg at H;exact zY H
def Zj1 (s0:Txt) (x_4:Int) (x_7:Int) (k_8:(Vec UInt8 16)):Option ((Int×(Vec UInt8 16))⊕((Vec UInt8 16)⊕((Vec UInt8 16)×Bool))):=
 bif (decide (x_7<x_4)) then ((idx s0.l x_7).bind fun x_10=>(Zeg (⟨([48,49,50,51,52,53,54,55,56,57,97,98,99,100,101,102]:List UInt8)⟩:Txt) x_10).bind fun x_11=>bif (decide (x_11<(0:Int))) then (some (.inr (.inr ((Dat.z:(Vec UInt8 16)),false)))) else ((ZjM x_7 2).bind fun x_13=>(ZjM x_7 2).bind fun x_14=>(idx k_8.l x_14).bind fun x_15=>(idx k_8.l x_13).bind fun x_16=>(some ((Vec.set k_8 (Int.toNat x_13) ((shl8 x_15 ((UInt64.ofNat 4).toNat:Int)) ||| (UInt8.ofInt x_11))):(Vec UInt8 16))).bind fun k_17=>(Zat x_7 1).bind fun x_18=>some (.inl (x_18,k_17)))) else (some (.inr (.inl k_8)))
def ZkN (s0:Txt):Option ((Vec UInt8 16)×Bool):=
 (ZiK (s0.l.length:Int)).bind fun x_3=>bif (decide (x_3≠(32:Int))) then (some ((Dat.z:(Vec UInt8 16)),false)) else ((ZiK (s0.l.length:Int)).bind fun x_4=>(ZM (fun s=>Zj1 s0 x_4 s.1 s.2) ((0:Int),(Dat.z:(Vec UInt8 16)))).bind fun o_6=>elS o_6 (fun k_5=>some (k_5,true)) (fun q=>some q))
instance route_wide_c:Fd1 159 ZkN fun r=>Tup [D r.1,D r.2]:=en1 Tryz.func159 rfl Tryz.ntmps159 fun A w hA s0 r H=>by
 unfold ZkN at H;refine zg ?_;refine TS.alloc rfl fun b2_0=>zg ?_
 refine TS.alloc rfl fun b4_1=>zg ?_
 refine zn H fun _ ex_3 H=>?_
 refine zX (ZaZ (Zbb ex_3.h) rfl) ?_;refine zc H (fun hc H=>?_) fun hc H=>?_
 ·refine zg ?_;refine TSx (Zc1 (ps:=_) (Dat.z:(Vec UInt8 16)) rfl Tryz.underlying83 rfl) ?_;exact zY H
 ·refine zg ?_;refine zn H fun x_4 ex_4 H=>?_
  refine TSx (Zbb ex_4.h) ?_;refine zC ?_;refine zh H fun o_6 H6 H=>?_
  refine Zn (fun s:(Vec UInt8 16)=>o_6=.inl s) (fun (k_5:(Vec UInt8 16)) (_:Unit)=>(Env.set (Env.set Env.nil 2 (Pt b2_0 0)) 4 (Pt b4_1 0))) (fun (k_5:(Vec UInt8 16)) (_:Unit)=>[⟨b2_0,True,(One ((Dat.z:(Vec UInt8 16)):(Vec UInt8 16)))⟩,⟨b4_1,True,(One k_5)⟩]) ?_ ?_
  ·skip;refine Zp<|Zt H6 (fun ⟨x_7,k_8⟩ (_:Unit)=>(Env.set (Env.set (Env.set (Env.set (Env.set Env.nil 0 (D s0)) 2 (Pt b2_0 0)) 4 (Pt b4_1 0)) 12 (D x_4)) 13 (D x_7))) (fun ⟨x_7,k_8⟩ (_:Unit)=>[⟨b2_0,True,(One ((Dat.z:(Vec UInt8 16)):(Vec UInt8 16)))⟩,⟨b4_1,True,(One k_8)⟩]) () (Za (Za (Za (Za (Za (Zd _)))))) (Zc rfl (Zc rfl (Ze _))) ?_;rintro ⟨x_7,k_8⟩ ⟨⟩ x_9 H9 he9;dsimp only at H9;unfold Zj1 at H9;refine zg ?_;refine zc H9 (fun hc H9=>?_) fun hc H9=>?_
   ·refine zg ?_;refine zn H9 fun _ ex_10 H9=>?_
    refine TSx (Zez ex_10.h) ?_;refine zb H9 fun x_11 _ H9=>?_
    refine zc H9 (fun hc H9=>?_) fun hc H9=>?_
    ·refine zg ?_;refine TSx (Zc1 (ps:=_) (Dat.z:(Vec UInt8 16)) rfl Tryz.underlying83 rfl) ?_;refine zC ?_;refine ZN<|Zh<|Zg<|Zh<|Zh<|Zg<|Zv ?_;have R11:=ZaW (he9 _ (ZZs H9)) H;refine zg ?_;obtain rfl:=ZZi R11;exact Zev rfl rfl (.cons Cv.le (.cons Cv.le .nil))
    ·refine zg ?_;refine zb H9 fun _ _ H9=>?_
     refine zb H9 fun _ _ H9=>?_
     refine zn H9 fun x_15 ex_15 H9=>?_
     refine TSx (Zay (ZI ex_15.h (Vec.h _).symm))<|TSx (ZaE (Ze5 (α:=UInt8) Zx ex_15.h)) ?_;refine zX (ZaZ (OpD.shl8 (Int.natCast_nonneg _)) rfl) ?_;refine TSx OpY.or8 ?_;refine zn H9 fun _ ex_16 H9=>?_
     refine TSx (Zay (ZI ex_16.h (Vec.h _).symm))<|Zbi (Zy (y:=(((shl8 x_15 ((UInt64.ofNat 4).toNat:Int)) ||| (UInt8.ofInt x_11)):UInt8)) (Ze5 (α:=UInt8) Zx ex_16.h)) ?_;refine zE ?_;refine zn H9 fun k_17 ek_17 H9=>?_
     refine zX (Zac b4_1 (Zaj ek_17.h)) ?_;refine zb H9 fun x_18 _ H9=>?_
     exact Zq ⟨x_18,k_17⟩ () (ZZs H9) (Za (Za (Za (Za (Za (Zd _)))))) (Zc rfl (Zc rfl (Ze _)))
   ·refine zg ?_;exact Zk k_8 () (he9 _ (ZZs H9)).symm (Za (Za (Zd _))) (Zc rfl (Zc rfl (Ze _)))
  rintro k_5 ⟨⟩ hp;replace H:=Zcd hp H;exact zY H
def Zhs (s0:Txt):Option ((Vec UInt8 16)×Int×Int):=
 (ZiK (s0.l.length:Int)).bind fun x_2=>bif (decide (x_2>(60:Int))) then (some ((Dat.z:(Vec UInt8 16)),(0:Int),(3:Int))) else ((Zjs s0).bind fun r_3=>bif r_3.2 then (some (r_3.1,(32:Int),(0:Int))) else ((ZkN s0).bind fun r_5=>bif r_5.2 then (some (r_5.1,(128:Int),(0:Int))) else (some ((Dat.z:(Vec UInt8 16)),(0:Int),(2:Int)))))
instance route_ReadKey_c:Fd1 132 Zhs fun r=>Tup [D r.1,D r.2.1,D r.2.2]:=en1 Tryz.func132 rfl Tryz.ntmps132 fun A w hA s0 r H=>by
 unfold Zhs at H;refine zg ?_;refine TS.alloc rfl fun b2_0=>zg ?_
 refine zn H fun _ ex_2 H=>?_
 refine zX (ZaZ (Zbb ex_2.h) rfl) ?_;refine zc H (fun hc H=>?_) fun hc H=>?_
 ·refine zg ?_;refine TSx (Zc1 (ps:=_) (Dat.z:(Vec UInt8 16)) rfl Tryz.underlying83 rfl) ?_;exact zY H
 ·refine zg ?_;refine zb H fun _ _ H=>?_
  refine TS.alloc rfl fun b5_3=>zg ?_
  refine zc H (fun hc H=>?_) fun hc H=>?_
  ·exact zY H
  ·refine zg ?_;refine zb H fun _ _ H=>?_
   refine TS.alloc rfl fun b7_5=>zg ?_
   refine zc H (fun hc H=>?_) fun hc H=>?_
   ·exact zY H
   ·refine zg ?_;refine TSx (Zc1 (ps:=_) (Dat.z:(Vec UInt8 16)) rfl Tryz.underlying83 rfl) ?_;exact zY H
def ZeX (s0:Txt):Option (Prefix×Int):=
 (ZiK (s0.l.length:Int)).bind fun x_2=>bif (decide (x_2>(60:Int))) then ((some ((⟨0,0,Dat.z⟩:Prefix):Prefix)).bind fun k_3=>some (k_3,(3:Int))) else ((Zhp s0 (⟨([47]:List UInt8)⟩:Txt)).bind fun r_4=>bif (!r_4.2.2) then ((some ((⟨0,0,Dat.z⟩:Prefix):Prefix)).bind fun k_5=>some (k_5,(2:Int))) else ((Zhs r_4.1).bind fun r_6=>bif (decide (r_6.2.2≠(0:Int))) then ((some ((⟨0,0,Dat.z⟩:Prefix):Prefix)).bind fun k_8=>some (k_8,(2:Int))) else ((ZeJ r_4.2.1 r_6.2.1).bind fun r_9=>bif (!r_9.2) then ((some ((⟨0,0,Dat.z⟩:Prefix):Prefix)).bind fun k_10=>some (k_10,(2:Int))) else ((some ((⟨r_6.2.1,r_9.1,r_6.1⟩:Prefix):Prefix)).bind fun px_12=>(ZgL px_12).bind fun x_13=>bif (!x_13) then ((some ((⟨0,0,Dat.z⟩:Prefix):Prefix)).bind fun k_14=>some (k_14,(2:Int))) else (some (px_12,(0:Int)))))))
instance route_ReadPrefix_c:Fd1 90 ZeX fun r=>Tup [D r.1,D r.2]:=en1 Tryz.func90 rfl Tryz.ntmps90 fun A w hA s0 r H=>by
 unfold ZeX at H;refine zg ?_;refine TS.alloc rfl fun b2_0=>zg ?_
 refine zn H fun _ ex_2 H=>?_
 refine zX (ZaZ (Zbb ex_2.h) rfl) ?_;refine zc H (fun hc H=>?_) fun hc H=>?_
 ·refine zg ?_;refine TSx (tB (⟨0,0,Dat.z⟩:Prefix) rfl rfl) ?_;exact zY H
 ·refine zg ?_;refine zb H fun _ _ H=>?_
  refine zc H (fun hc H=>?_) fun hc H=>?_
  ·refine zg ?_;refine TSx (tB (⟨0,0,Dat.z⟩:Prefix) rfl rfl) ?_;exact zY H
  ·refine zg ?_;refine zb H fun r_6 _ H=>?_
   refine TS.alloc rfl fun b7_6=>zg ?_
   refine zc H (fun hc H=>?_) fun hc H=>?_
   ·refine zg ?_;refine TSx (tB (⟨0,0,Dat.z⟩:Prefix) rfl rfl) ?_;exact zY H
   ·refine zg ?_;refine zb H fun r_9 _ H=>?_
    refine zc H (fun hc H=>?_) fun hc H=>?_
    ·refine zg ?_;refine TSx (tB (⟨0,0,Dat.z⟩:Prefix) rfl rfl) ?_;exact zY H
    ·refine zg ?_;refine TSx (tB (⟨r_6.2.1,r_9.1,r_6.1⟩:Prefix) rfl rfl) ?_;refine TS.alloc rfl fun b11_10=>?_
     refine zC ?_;refine zn H fun _ epx_12 H=>?_
     refine zX (ZC b11_10 (Zaj epx_12.h)) ?_;refine zb H fun _ _ H=>?_
     refine zc H (fun hc H=>?_) fun hc H=>?_
     ·refine zg ?_;refine TSx (tB (⟨0,0,Dat.z⟩:Prefix) rfl rfl) ?_;exact zY H
     ·exact zY H
def ZgK (s0:Txt):Option (Route×Int):=
 (ZiK (s0.l.length:Int)).bind fun x_2=>bif (decide (x_2>(60:Int))) then ((some ((⟨Dat.z,0⟩:Route):Route)).bind fun k_3=>some (k_3,(3:Int))) else ((Zhp s0 (⟨([32]:List UInt8)⟩:Txt)).bind fun r_4=>bif (!r_4.2.2) then ((some ((⟨Dat.z,0⟩:Route):Route)).bind fun k_5=>some (k_5,(2:Int))) else ((ZeX r_4.1).bind fun r_6=>bif (decide (r_6.2≠(0:Int))) then ((some ((⟨Dat.z,0⟩:Route):Route)).bind fun k_8=>some (k_8,(2:Int))) else ((ZeJ r_4.2.1 (65535:Int)).bind fun r_9=>bif (!r_9.2) then ((some ((⟨Dat.z,0⟩:Route):Route)).bind fun k_10=>some (k_10,(2:Int))) else ((some ((⟨r_6.1,(UInt16.ofInt r_9.1)⟩:Route):Route)).bind fun k_11=>some (k_11,(0:Int))))))
instance route_ReadLine_c:Fd1 39 ZgK fun r=>Tup [D r.1,D r.2]:=en1 Tryz.func39 rfl Tryz.ntmps39 fun A w hA s0 r H=>by
 unfold ZgK at H;refine zg ?_;refine TS.alloc rfl fun b2_0=>zg ?_
 refine zn H fun _ ex_2 H=>?_
 refine zX (ZaZ (Zbb ex_2.h) rfl) ?_;refine zc H (fun hc H=>?_) fun hc H=>?_
 ·refine zg ?_;refine TSx (tB (⟨Dat.z,0⟩:Route) rfl rfl) ?_;exact zY H
 ·refine zg ?_;refine zb H fun _ _ H=>?_
  refine zc H (fun hc H=>?_) fun hc H=>?_
  ·refine zg ?_;refine TSx (tB (⟨Dat.z,0⟩:Route) rfl rfl) ?_;exact zY H
  ·refine zg ?_;refine zb H fun r_6 _ H=>?_
   refine TS.alloc rfl fun b7_6=>zg ?_
   refine zc H (fun hc H=>?_) fun hc H=>?_
   ·refine zg ?_;refine TSx (tB (⟨Dat.z,0⟩:Route) rfl rfl) ?_;exact zY H
   ·refine zg ?_;refine zb H fun r_9 _ H=>?_
    refine zc H (fun hc H=>?_) fun hc H=>?_
    ·refine zg ?_;refine TSx (tB (⟨Dat.z,0⟩:Route) rfl rfl) ?_;exact zY H
    ·refine zg ?_;refine TSx OpY.convi_16 ?_;refine TSx (tB (⟨r_6.1,(UInt16.ofInt r_9.1)⟩:Route) rfl rfl) ?_;exact zY H
end Go.Proofs.YtkmojgfenlgchaaGreatDoor.Tr
namespace Go.Proofs.YtkmojgfenlgchaaGreatDoor.Tr
open Go Go.RowKit
set_option maxRecDepth 100000
set_option synthInstance.maxHeartbeats 400000
set_option synthInstance.maxSize 4096
def ZfQ (ids0:Int) (room0:Int):Option Int:=
 bif ((((decide (ids0<(1:Int)))||(decide (ids0>(64:Int))))||(decide (room0<(20:Int))))||(decide (room0>(240:Int)))) then (some (0:Int)) else ((ZjM room0 20).bind fun x_1=>(mulI ids0 x_1).bind fun x_2=>some (min x_2 (256:Int)))
instance pack_Most_c:Fd2 58 ZfQ fun r=>D r:=en2 Tryz.func58 rfl Tryz.ntmps58 fun _ _ _ _ _ _ H=>by
 unfold ZfQ at H;exact zY H
def ZgZ (b0x:(List UInt8)) (r0:Route):Option (List UInt8):=
 (bif (decide (r0.Prefix.Bits=(128:Int))) then ((idx (Dat.z:(Vec UInt8 20)).l (0:Int)).bind fun x_5=>(some ((Vec.set (Dat.z:(Vec UInt8 20)) (Int.toNat (0:Int)) (UInt8.ofNat 1)):(Vec UInt8 20))).bind fun part_6=>some part_6) else (some (Dat.z:(Vec UInt8 20)))).bind fun part_3=>(idx part_3.l 1).bind fun x_7=>(some ((Vec.set part_3 (Int.toNat (1:Int)) (UInt8.ofInt r0.Prefix.Len)):(Vec UInt8 20))).bind fun part_8=>(cut 20 (2:Int) (20:Int)).bind fun u_9=>(cut 16 0 (16:Int)).bind fun u_10=>(some ((Vec.put part_8 (Int.toNat (2:Int)) (over ((part_8.l.drop (Int.toNat (2:Int))).take (((20:Int)-(2:Int)).toNat)) ((r0.Prefix.Key.l.drop (Int.toNat 0)).take (((16:Int)-0).toNat)))):(Vec UInt8 20))).bind fun part_11=>(idx part_11.l 18).bind fun x_12=>(some ((Vec.set part_11 (Int.toNat (18:Int)) ((shr16 r0.Hop ((UInt64.ofNat 8).toNat:Int)).toUInt8)):(Vec UInt8 20))).bind fun part_13=>(idx part_13.l 19).bind fun x_14=>(some ((Vec.set part_13 (Int.toNat (19:Int)) (r0.Hop.toUInt8)):(Vec UInt8 20))).bind fun part_15=>(cut 20 0 (20:Int)).bind fun u_16=>(Zc5 1 ((b0x.length+((part_15.l.drop (Int.toNat 0)).take (((20:Int)-0).toNat)).length:Nat):Int)).bind fun u_18=>(some ((b0x++((part_15.l.drop (Int.toNat 0)).take (((20:Int)-0).toNat))):(List UInt8))).bind fun l_19=>some l_19
theorem Zmm {b0x:(List UInt8)} {r0:Route} {b0 c0:Nat} {p0:Prop} {r:(List UInt8)} (H:ZgZ b0x r0=some r):CO2 100 [⟨b0,p0,Row (b0x:List UInt8) c0⟩] (Sl b0 p0 0 b0x.length c0) (D r0) (fun g:Nat×Prop×Nat=>Sl g.1 g.2.1 0 (List.length r) g.2.2) fun g=>[⟨g.1,g.2.1,Row (r:List UInt8) g.2.2⟩]:=eO2 Tryz.func100 rfl Tryz.ntmps100 fun A w hA hO=>by
 unfold ZgZ at H;refine zg ?_;refine TS.box rfl fun b3_0=>zg ?_
 refine TS.alloc rfl fun b5_1=>?_
 refine zC ?_;refine Zao ?_;refine zh H fun o_4 H4 H=>?_
 refine Zn (fun s:(Vec UInt8 20)=>o_4=s) (fun (part_3:(Vec UInt8 20)) (_:Unit)=>(Env.set (Env.set (Env.set Env.nil 0 (Sl b0 p0 0 b0x.length c0)) 3 (Pt b3_0 0)) 5 (Pt b5_1 0))) (fun (part_3:(Vec UInt8 20)) (_:Unit)=>[⟨b0,p0,(Row (b0x:List UInt8) c0)⟩,⟨b3_0,True,(One r0)⟩,⟨b5_1,True,(One part_3)⟩]) ?_ ?_
 ·skip;refine zg ?_;refine zc H4 (fun hc H4=>?_) fun hc H4=>?_
  ·refine zg ?_;refine zn H4 fun _ ex_5 H4=>?_
   refine TSx (Zay (ZI ex_5.h (Vec.h _).symm))<|Zbi (Zy (y:=((UInt8.ofNat 1):UInt8)) (Ze5 (α:=UInt8) Zx ex_5.h)) ?_;refine zE ?_;refine zn H4 fun part_6 epart_6 H4=>?_
   exact Zac b5_1 (Zaj epart_6.h)<|Zk part_6 () (ZZs H4) (Za (Za (Zj (Zz rfl) (Zd _)))) (Zc rfl (Zc rfl (Zc rfl (Ze _))))
  ·refine zg ?_;exact Zk (Dat.z:(Vec UInt8 20)) () (ZZs H4) (Za (Za (Zj (Zz rfl) (Zd _)))) (Zc rfl (Zc rfl (Zc rfl (Ze _))))
 rintro part_3 ⟨⟩ hp;replace hp:=hp.symm;subst hp;refine zg ?_;refine zn H fun _ ex_7 H=>?_
 refine TSx (Zay (ZI ex_7.h (Vec.h _).symm))<|Zbi (Zy (y:=((UInt8.ofInt r0.Prefix.Len):UInt8)) (Ze5 (α:=UInt8) Zx ex_7.h)) ?_;refine zC ?_;refine zn H fun _ epart_8 H=>?_
 refine ZC b5_1 (Zaj epart_8.h)<|Za9 [4] [b5_1,b3_0] mix (by kernel_rfl) (by kernel_rfl) ?_;refine zn H fun _ eu_9 H=>?_
 refine zX (ZeS (Zc0 (ZT eu_9.h).1 (ZT eu_9.h).2.1 (ZT eu_9.h).2.2 (by decide)) rfl) ?_;refine zn H fun _ eu_10 H=>?_
 refine TRx (Zc0 (ZT eu_10.h).1 (ZT eu_10.h).2.1 (ZT eu_10.h).2.2 (by decide))<|Zfz (fun g=>(ZcE (ys:=((r0.Prefix.Key.l.drop (Int.toNat 0)).take (((16:Int)-0).toNat))) (Zkt (Ziw (PF 2 Prefix (Vec UInt8 16) (PF 0 Route Prefix Zx)) (ZhW eu_10.h) (by decide)) (ZgQ eu_10.h (Vec.h _))) (Ziw Zx (ZhW eu_9.h) (by decide)) (ZgQ eu_9.h (Vec.h _)) (fun _ h=>by simp [h,splice,Zeu]))) rfl ?_;refine zC ?_;rintro ⟨_,_⟩;dsimp only [Fam.nextS,Fam.nextN,Fam.one,List.cons_append,List.nil_append];refine zn H fun _ epart_11 H=>?_
 refine zX (ZC b5_1 (Zaj epart_11.h)) ?_;refine TSx (OpD.shr16 (Int.natCast_nonneg _))<|TSx Zls ?_;refine zn H fun _ ex_12 H=>?_
 refine TSx (Zay (ZI ex_12.h (Vec.h _).symm))<|Zbi (Zy (y:=(((shr16 r0.Hop ((UInt64.ofNat 8).toNat:Int)).toUInt8):UInt8)) (Ze5 (α:=UInt8) Zx ex_12.h)) ?_;refine zC ?_;refine zn H fun _ epart_13 H=>?_
 refine zX (ZC b5_1 (Zaj epart_13.h)) ?_;refine TSx Zls ?_;refine zn H fun _ ex_14 H=>?_
 refine TSx (Zay (ZI ex_14.h (Vec.h _).symm))<|Zbi (Zy (y:=((r0.Hop.toUInt8):UInt8)) (Ze5 (α:=UInt8) Zx ex_14.h)) ?_;refine zC ?_;refine zn H fun part_15 epart_15 H=>?_
 refine zX (ZC b5_1 (Zaj epart_15.h)) ?_;refine zn H fun _ eu_16 H=>?_
 refine TSx (Zc0 (ZT eu_16.h).1 (ZT eu_16.h).2.1 (ZT eu_16.h).2.2 (by decide)) ?_;refine zn H fun _ eu_18 H=>?_
 refine TS.app (ys:=((part_15.l.drop (Int.toNat 0)).take (((20:Int)-0).toNat))) (Zkt (Ziw Zx (ZhW eu_16.h) (by decide)) (ZgQ eu_16.h (Vec.h _))) eu_18.h rfl rfl rfl fun b32_16 p32_16 c32_16=>?_
 refine zC ?_;refine zn H fun _ el_19 H=>?_
 refine ZC b32_16 (ZY el_19.h) ?_;refine zX (Zcc 4 _ (ZaK el_19.h rfl)) ?_;obtain rfl:=ZZi H;exact ZA rfl ⟨b32_16,p32_16,c32_16⟩ (Zz rfl) (Zc rfl (Ze _))
def Zdn (t0:List Route) (room0:Int) (x_8:Int) (L:Int) (bodies:List (List UInt8)) (ys:List UInt8):Option ((Int×Int×List (List UInt8)×List UInt8)⊕List (List UInt8)):=
 (idx bodies L).bind fun _=>bif (decide (x_8<(t0.length:Int))) then ((idx t0 x_8).bind fun x_11=>(ZjM room0 20).bind fun x_13=>(ZjM x_8 x_13).bind fun x_14=>
  (idx bodies x_14).bind fun _=>bif (decide (x_14=L)) then ((ZgZ ys x_11).bind fun x_16=>(Zat x_8 1).bind fun x_19=>some (.inl (x_19,L,bodies,x_16)))
  else ((lenI x_14.toNat (L.toNat+1)).bind fun _=>(ZgZ [] x_11).bind fun x_16=>(Zat x_8 1).bind fun x_19=>some (.inl (x_19,x_14,bodies.set L.toNat ys,x_16))))
 else (some (.inr (bodies.set L.toNat ys)))
def ZfR (t0:(List Route)) (ids0:Int) (room0:Int):Option ((List (List UInt8))×Int):=
 (ZfQ ids0 room0).bind fun x_1=>(gb (!(decide (x_1=(0:Int)))) (ZaQ t0)).bind fun x_2=>bif ((decide (x_1=(0:Int)))||(!x_2)) then (some (([]:List (List UInt8)),(1:Int))) else (bif (decide ((t0.length:Int)>x_1)) then (some (([]:List (List UInt8)),(5:Int))) else ((Zc5 24 ids0).bind fun u_3=>(some ((List.replicate (Int.toNat ids0) ([]:List UInt8)):(List (List UInt8)))).bind fun l_5=>(idx l_5 0).bind fun _=>(ZM (fun s=>Zdn t0 room0 s.1 s.2.1 s.2.2.1 s.2.2.2) ((0:Int),(0:Int),l_5,([]:List UInt8))).bind fun bodies_6=>some (bodies_6,(0:Int))))
instance pack_Bodies_c:Fd3 53 ZfR fun r=>Tup [D r.1,D r.2]:=en3 Tryz.func53 rfl Tryz.ntmps53 fun A w hA t0 ids0 room0 r H=>by
 unfold ZfR at H;refine zg ?_;refine zb H fun _ _ H=>?_
 refine zd H fun _ _ H=>?_
 refine zc H (fun hc H=>?_) fun hc H=>?_
 ·exact zY H
 ·refine zg ?_;refine zc H (fun hc H=>?_) fun hc H=>?_
  ·exact zY H
  ·refine zg ?_;refine zn H fun _ eu_3 H=>?_
   refine Zdi (OpT.makeB eu_3.h) rfl fun ⟨b28_3,_⟩=>?_
   dsimp only;refine zC ?_;refine zn H fun l_5 el_5 H=>?_
   refine zn H fun _ eu_4 H=>?_
   have hl5:l_5.length=Int.toNat ids0:=by rw [← ZZi el_5.h];simp
   have hlp:0<l_5.length:=by have:=(Zif eu_4.h).2;omega
   refine ZC b28_3 (C':=RowB l_5 (Int.toNat ids0) 0) (by rw [← ZZi el_5.h])<|Zcc 9 (Sl b28_3 True 0 l_5.length (Int.toNat ids0)) (Zz hl5.symm)<|TC.reL b28_3 (fun A w cs h=>RowB.first hlp h)<|TC.nilE 0 UInt8 ?_;refine zC ?_;refine zh H fun o_7 H7 H=>?_
   refine Zn (fun s:(List (List UInt8))=>o_7=s) (fun (bodies_6:(List (List UInt8))) (_:Unit)=>(Env.set Env.nil 9 (Sl b28_3 True 0 bodies_6.length (Int.toNat ids0)))) (fun (bodies_6:(List (List UInt8))) (_:Unit)=>[⟨b28_3,True,(Row (bodies_6:List (List UInt8)) (Int.toNat ids0))⟩]) ?_ ?_
   ·skip;refine Zp<|Zt H7 (fun ⟨x_8,L,bodies,ys⟩ (⟨bq,pq,cq⟩:Nat×Prop×Nat)=>(Env.set (Env.set (Env.set (Env.set (Env.set Env.nil 2 (D room0)) 9 (Sl b28_3 True 0 bodies.length (Int.toNat ids0))) 29 (D t0)) 30 (D ((t0.length:Int):Int))) 31 (D x_8))) (fun ⟨x_8,L,bodies,ys⟩ (⟨bq,pq,cq⟩:Nat×Prop×Nat)=>[⟨b28_3,True,Ct.mix (RowB bodies (Int.toNat ids0) (L.toNat+1)) (0+Int.toNat L*Dat.sz (List UInt8)) (Sl bq pq 0 ys.length cq)⟩,⟨bq,pq,Row ys cq⟩]) ⟨0,False,0⟩ (Za (Za (Za (Zj (Zz rfl) (Za (Zd _)))))) (Zc rfl (Zc rfl (Ze _))) ?_;rintro ⟨x_8,L,bodies,ys⟩ ⟨bq,pq,cq⟩ x_10 H10 he10;dsimp only at H10;unfold Zdn at H10;refine zn H10 fun _ ey_1 H10=>?_
    have hL:=Zif ey_1.h;have hL2:L.toNat<bodies.length:=by omega
    refine zg ?_;refine zc H10 (fun hc H10=>?_) fun hc H10=>?_
    ·refine zg ?_;refine zb H10 fun _ _ H10=>?_
     refine TS.alloc rfl fun b11_11=>zg ?_
     refine zb H10 fun _ _ H10=>?_
     refine zb H10 fun x_14 _ H10=>?_
     refine zn H10 fun _ ey_2 H10=>?_
     have hx:=Zif ey_2.h
     by_cases hid:x_14=L
     ·rw [decide_eq_true hid] at H10;replace H10:=cT H10 rfl;subst hid;refine zX (Zf8 [5,7,9] [b28_3,bq] mix (by kernel_rfl) (by kernel_rfl)) ?_;refine TRx (Zm (ZI ey_2.h rfl)) ?_;refine zX (Zfz (fun g=>Zgd rfl (ZS Zab)) rfl) ?_;refine zn H10 fun x_16 ex_16 H10=>?_
      refine Zfz (fun g=>oc2 [bq] (Zmm ex_16.h) (slD rfl) toD) rfl<|TRx (Zm (ZI ey_2.h rfl))<|Zdt (fun g=>Zba CtH.same) rfl ?_;refine zC ?_;rintro ⟨⟨⟨_,_⟩,⟨b47,p47,c47⟩⟩,_⟩;dsimp only [Fam.nextS,Fam.nextN,Fam.one,List.cons_append,List.nil_append];refine zg ?_;refine zb H10 fun x_19 _ H10=>?_
      exact Zq ⟨x_19,x_14,bodies,x_16⟩ ⟨b47,p47,c47⟩ (ZZs H10) (Za (Za (Za (Zj (Zz rfl) (Za (Zd _)))))) (Zc rfl (Zc rfl (Ze _)))
     ·rw [decide_eq_false hid] at H10;replace H10:=cF H10 rfl;refine zn H10 fun _ eu_5 H10=>?_
      have hnx:=ZeZ eu_5.h;refine TC.coll b28_3 bq (RowB.st (by omega) hL2) (ZG PlS.all rfl) ?_;have hsl:(bodies.set L.toNat ys).length=bodies.length:=by simp
      refine TC.nilE 0 UInt8 ?_;refine zX (Zf8 [5,7,9] [b28_3,0] mix (by kernel_rfl) (by kernel_rfl)) ?_;refine TRx (Zm (ZI ey_2.h rfl)) ?_;refine zX (Zfz (fun g=>Zgd rfl (ZS (RowB.ce (by omega) (by omega)))) rfl) ?_;refine zn H10 fun x_16 ex_16 H10=>?_
      refine Zfz (fun g=>OpT.callO2 [0] fun w v0 v1 hA hO hap hks h0 h1=>Zmm ex_16.h w v0 v1 hA hO hap hks (slD rfl (Zcy _ _ _ h0)) (toD h1)) rfl<|TRx (Zm (ZI ey_2.h rfl))<|Zdt (fun g=>Zba (RowB.mixed (m':=x_14.toNat+1) (by omega) (by omega))) rfl ?_;refine zC ?_;rintro ⟨⟨⟨_,_⟩,⟨b47,p47,c47⟩⟩,_⟩;dsimp only [Fam.nextS,Fam.nextN,Fam.one,List.cons_append,List.nil_append];refine zg ?_;refine zb H10 fun x_19 _ H10=>?_
      exact Zq ⟨x_19,x_14,bodies.set L.toNat ys,x_16⟩ ⟨b47,p47,c47⟩ (ZZs H10) (Za (Za (Za (Zj (Zz hsl.symm) (Za (Zd _)))))) (Zc rfl (Zc rfl (Ze _)))
    ·refine TC.exit<|Zit<|Zit<|Ziu<|TE.coll b28_3 bq (RowB.st (by omega) hL2) (ZG PlS.all rfl) ?_;have hsl:(bodies.set L.toNat ys).length=bodies.length:=by simp
     exact Zk (bodies.set L.toNat ys) () (he10 _ (ZZs H10)).symm (Zj (Zz hsl.symm) (Zd _)) (Zhj (fun A w cs (h:(RowB (bodies.set L.toNat ys) (Int.toNat ids0) (L.toNat+1)).p A w cs)=>h.1) (Ze _))
   rintro bodies_6 ⟨⟩ hp;replace hp:=hp.symm;subst hp;refine zC ?_;refine ZN<|TE.pub b28_3 (PubE.set 6 (ZG PlS.all rfl) PubE.refl) ?_;exact zY H
def ZgY (b0:(List UInt8)):Option (Route×Bool):=
 ((idx b0 0).bind fun x_5=>bif (decide (x_5=(UInt8.ofNat 0))) then ((some ((⟨(⟨(32:Int),((Dat.z:Route).Prefix).Len,((Dat.z:Route).Prefix).Key⟩:Prefix),(Dat.z:Route).Hop⟩:Route):Route)).bind fun r_6=>some (.inl r_6)) else (bif (decide (x_5=(UInt8.ofNat 1))) then ((some ((⟨(⟨(128:Int),((Dat.z:Route).Prefix).Len,((Dat.z:Route).Prefix).Key⟩:Prefix),(Dat.z:Route).Hop⟩:Route):Route)).bind fun r_7=>some (.inl r_7)) else ((some ((⟨Dat.z,0⟩:Route):Route)).bind fun k_8=>some (.inr (k_8,false))))).bind fun o_4=>elS o_4 (fun r_3=>(idx b0 1).bind fun x_10=>(some ((⟨(⟨r_3.Prefix.Bits,(x_10.toNat:Int),r_3.Prefix.Key⟩:Prefix),r_3.Hop⟩:Route):Route)).bind fun r_11=>(cut 16 0 (16:Int)).bind fun u_12=>(cut b0.length (2:Int) (18:Int)).bind fun u_13=>(some ((⟨(⟨r_11.Prefix.Bits,r_11.Prefix.Len,(Vec.put r_11.Prefix.Key (Int.toNat 0) (over ((r_11.Prefix.Key.l.drop (Int.toNat 0)).take (((16:Int)-0).toNat)) ((b0.take (Int.toNat (18:Int))).drop (Int.toNat (2:Int)))))⟩:Prefix),r_11.Hop⟩:Route):Route)).bind fun r_14=>(idx b0 18).bind fun x_15=>(idx b0 19).bind fun x_16=>(some ((⟨r_14.Prefix,((shl16 (x_15.toUInt16) ((UInt64.ofNat 8).toNat:Int)) ||| (x_16.toUInt16))⟩:Route):Route)).bind fun r_17=>some (r_17,true)) (fun q=>some q)
instance pack_route_c:Fd1 135 ZgY fun r=>Tup [D r.1,D r.2]:=en1 Tryz.func135 rfl Tryz.ntmps135 fun A w hA b0 r H=>by
 unfold ZgY at H;refine zg ?_;refine TS.alloc rfl fun b2_0=>zg ?_
 refine TS.alloc rfl fun b4_1=>?_
 refine zC ?_;refine Zao ?_;refine zh H fun o_4 H4 H=>?_
 refine Zn (fun s:Route=>o_4=.inl s) (fun (r_3:Route) (_:Unit)=>(Env.set (Env.set (Env.set Env.nil 0 (D b0)) 2 (Pt b2_0 0)) 4 (Pt b4_1 0))) (fun (r_3:Route) (_:Unit)=>[⟨b2_0,True,(One ((Dat.z:Route):Route))⟩,⟨b4_1,True,(One r_3)⟩]) ?_ ?_
 ·skip;refine zg ?_;refine zb H4 fun _ _ H4=>?_
  refine zX (ZaZ OpY.eql8 rfl) ?_;refine zc H4 (fun hc H4=>?_) fun hc H4=>?_
  ·refine zE ?_;refine zn H4 fun r_6 er_6 H4=>?_
   refine zX (Zac b4_1 (Zaj er_6.h)) ?_;exact Zk r_6 () (ZZs H4) (Za (Za (Za (Zd _)))) (Zc rfl (Zc rfl (Ze _)))
  ·refine zg ?_;refine zX (ZaZ OpY.eql8 rfl) ?_;refine zc H4 (fun hc H4=>?_) fun hc H4=>?_
   ·refine zE ?_;refine zn H4 fun r_7 er_7 H4=>?_
    refine zX (Zac b4_1 (Zaj er_7.h)) ?_;exact Zk r_7 () (ZZs H4) (Za (Za (Za (Zd _)))) (Zc rfl (Zc rfl (Ze _)))
   ·refine zg ?_;refine TSx (tB (⟨Dat.z,0⟩:Route) rfl rfl) ?_;refine zC ?_;refine zn H4 fun _ ek_8 H4=>?_
    refine ZC b2_0 (Zaj ek_8.h)<|ZN<|Zg<|Zv ?_;have R8:=ZaW (ZZi H4) H;refine zg ?_;obtain rfl:=ZZi R8;exact Zev rfl rfl (.cons Cv.le (.cons Cv.le .nil))
 rintro r_3 ⟨⟩ hp;replace H:=Zcd hp H;refine zg ?_;refine zo H fun _ _ H=>?_
 refine zC ?_;refine zn H fun _ er_11 H=>?_
 refine ZC b4_1 (Zaj er_11.h) ?_;refine zX (Za9 [5] [b4_1] mix (by kernel_rfl) (by kernel_rfl)) ?_;refine zn H fun _ eu_12 H=>?_
 refine zX (ZeS (Zc0 (ZT eu_12.h).1 (ZT eu_12.h).2.1 (ZT eu_12.h).2.2 (by decide)) rfl) ?_;refine zb H fun _ _ H=>?_
 refine Zfz (fun g=>(ZcE (ys:=((b0.take (Int.toNat (18:Int))).drop (Int.toNat (2:Int)))) inferInstance (Ziw (PF 2 Prefix (Vec UInt8 16) (PF 0 Route Prefix Zx)) (ZhW eu_12.h) (by decide)) (ZgQ eu_12.h (Vec.h _)) (fun _ h=>by simp [h,splice,Zeu]))) rfl ?_;refine zC ?_;rintro ⟨_,_⟩;dsimp only [Fam.nextS,Fam.nextN,Fam.one,List.cons_append,List.nil_append];refine zn H fun _ er_14 H=>?_
 refine ZC b4_1 (Zaj er_14.h) ?_;refine zX (Za9 [11] [b4_1] mix (by kernel_rfl) (by kernel_rfl)) ?_;refine zb H fun x_15 _ H=>?_
 refine TRx Zlr ?_;refine zX (ZeS (OpD.shl16 (Int.natCast_nonneg _)) rfl) ?_;refine zb H fun x_16 _ H=>?_
 refine TRx Zlr ?_;refine zX (ZeS OpY.or16 rfl) ?_;refine Zdt (fun g=>(Zy (y:=(((shl16 (x_15.toUInt16) ((UInt64.ofNat 8).toNat:Int)) ||| (x_16.toUInt16)):UInt16)) (PF 18 Route UInt16 Zx))) rfl ?_;refine zC ?_;rintro ⟨_,_⟩;dsimp only [Fam.nextS,Fam.nextN,Fam.one,List.cons_append,List.nil_append];exact zY H
def ZdK (bx_14:(List UInt8)) (t_16:(List Route)):Option (((List UInt8)×(List Route))⊕((List Route)⊕((List Route)×Int))):=
 bif (decide ((bx_14.length:Int)>(0:Int))) then ((cut bx_14.length 0 (20:Int)).bind fun u_18=>(ZgY (bx_14.take (Int.toNat (20:Int)))).bind fun r_19=>bif (!r_19.2) then (some (.inr (.inr (([]:List Route),(2:Int))))) else ((Zc5 40 ((t_16.length+([r_19.1]:List Route).length:Nat):Int)).bind fun u_24=>(some ((t_16++([r_19.1]:List Route)):(List Route))).bind fun l_25=>(cut bx_14.length (20:Int) bx_14.length).bind fun u_26=>(some ((bx_14.drop (Int.toNat (20:Int))):(List UInt8))).bind fun bx_27=>some (.inl (bx_27,l_25)))) else (some (.inr (.inl t_16)))
def ZdL (bodies0:(List (List UInt8))) (x_4:Int) (t_6:(List Route)):Option ((Int×(List Route))⊕((List Route)⊕((List Route)×Int))):=
 bif (decide (x_4<(bodies0.length:Int))) then ((idx bodies0 x_4).bind fun x_8=>(remI (x_8.length:Int) (20:Int)).bind fun x_9=>bif (decide (x_9≠(0:Int))) then (some (.inr (.inr (([]:List Route),(2:Int))))) else ((ZM (fun s=>ZdK s.1 s.2) (x_8,t_6)).bind fun o_13=>elS o_13 (fun t_12=>(Zat x_4 1).bind fun x_28=>some (.inl (x_28,t_12))) (fun q=>some (.inr (.inr q))))) else (some (.inr (.inl t_6)))
def Zek (bodies0:(List (List UInt8))):Option ((List Route)×Int):=
 (ZM (fun s=>ZdL bodies0 s.1 s.2) ((0:Int),[])).bind fun o_3=>elS o_3 (fun t_2=>(ZaQ t_2).bind fun x_29=>bif (!x_29) then (some (([]:List Route),(2:Int))) else (some (t_2,(0:Int)))) (fun q=>some q)
instance pack_Table_c:Fd1 106 Zek fun r=>Tup [D r.1,D r.2]:=en1 Tryz.func106 rfl Tryz.ntmps106 fun A w hA bodies0 r H=>by
 unfold Zek at H;refine zC ?_;refine zC ?_;refine zC ?_;refine zh H fun o_3 H3 H=>?_
 refine Zn (fun s:(List Route)=>o_3=.inl s) (fun (t_2:(List Route)) (⟨b_0,p_0,c_0⟩:Nat×Prop×Nat)=>(Env.set Env.nil 4 (Sl b_0 p_0 0 t_2.length c_0))) (fun (t_2:(List Route)) (⟨b_0,p_0,c_0⟩:Nat×Prop×Nat)=>[⟨b_0,p_0,(Row (t_2:List Route) c_0)⟩]) ?_ ?_
 ·skip;refine Zp<|Zt H3 (fun ⟨x_4,t_6⟩ (⟨b_4,p_4,c_4⟩:Nat×Prop×Nat)=>(Env.set (Env.set (Env.set (Env.set Env.nil 4 (Sl b_4 p_4 0 t_6.length c_4)) 9 (D bodies0)) 10 (D ((bodies0.length:Int):Int))) 11 (D x_4))) (fun ⟨x_4,t_6⟩ (⟨b_4,p_4,c_4⟩:Nat×Prop×Nat)=>[⟨b_4,p_4,(Row (t_6:List Route) c_4)⟩]) ⟨0,False,0⟩ (Za (Za (Za (Zj Zcy (Zd _))))) (Zbc (Ze _)) ?_;rintro ⟨x_4,t_6⟩ ⟨b_4,p_4,c_4⟩ x_7 H7 he7;dsimp only at H7;unfold ZdL at H7;refine zg ?_;refine zc H7 (fun hc H7=>?_) fun hc H7=>?_
  ·refine zg ?_;refine zb H7 fun _ _ H7=>?_
   refine zb H7 fun _ _ H7=>?_
   refine zc H7 (fun hc H7=>?_) fun hc H7=>?_
   ·refine zC ?_;refine ZN<|Zh<|Zg<|Zh<|Zh<|Zg<|Zv ?_;have R9:=ZaW (he7 _ (ZZs H7)) H;refine zg ?_;obtain rfl:=ZZi R9;exact Zev rfl rfl (.cons Cv.le (.cons Cv.le .nil))
   ·refine ZaB<|Zak ?_;refine zh H7 fun o_13 H13 H7=>?_
    refine Zn (fun s:(List Route)=>o_13=.inl s) (fun (t_12:(List Route)) (⟨b_10,p_10,c_10⟩:Nat×Prop×Nat)=>(Env.set (Env.set (Env.set (Env.set Env.nil 4 (Sl b_10 p_10 0 t_12.length c_10)) 9 (D bodies0)) 10 (D ((bodies0.length:Int):Int))) 11 (D x_4))) (fun (t_12:(List Route)) (⟨b_10,p_10,c_10⟩:Nat×Prop×Nat)=>[⟨b_10,p_10,(Row (t_12:List Route) c_10)⟩]) ?_ ?_
    ·skip;refine Zp<|Zt H13 (fun ⟨bx_14,t_16⟩ (⟨b_14,p_14,c_14⟩:Nat×Prop×Nat)=>(Env.set (Env.set (Env.set (Env.set (Env.set Env.nil 4 (Sl b_14 p_14 0 t_16.length c_14)) 6 (D bx_14)) 9 (D bodies0)) 10 (D ((bodies0.length:Int):Int))) 11 (D x_4))) (fun ⟨bx_14,t_16⟩ (⟨b_14,p_14,c_14⟩:Nat×Prop×Nat)=>[⟨b_14,p_14,(Row (t_16:List Route) c_14)⟩]) ⟨b_4,p_4,c_4⟩ (Za (Za (Za (Za (Zj (Zz rfl) (Zd _)))))) (Zc rfl (Ze _)) ?_;rintro ⟨bx_14,t_16⟩ ⟨b_14,p_14,c_14⟩ x_17 H17 he17;dsimp only at H17;unfold ZdK at H17;refine zg ?_;refine zc H17 (fun hc H17=>?_) fun hc H17=>?_
     ·refine zg ?_;refine zb H17 fun _ _ H17=>?_
      refine zb H17 fun r_19 _ H17=>?_
      refine TS.alloc rfl fun b7_19=>zg ?_
      refine zc H17 (fun hc H17=>?_) fun hc H17=>?_
      ·refine zC ?_;refine ZN<|Zh<|Zg<|Zh<|Zh<|Zg<|Zv ?_;have R20:=ZaW (he17 _ (ZZs H17)) H7;refine Zg<|Zh<|Zh<|Zg<|Zv ?_;have R21:=ZaW (he7 _ (ZZs R20)) H;refine zg ?_;obtain rfl:=ZZi R21;exact Zev rfl rfl (.cons Cv.le (.cons Cv.le .nil))
      ·refine zg ?_;refine TSx (OpY.buildSlice [.tmp 33] rfl rfl (by decide)) ?_;refine zn H17 fun _ eu_24 H17=>?_
       refine TS.app (ys:=([r_19.1]:List Route)) inferInstance eu_24.h rfl rfl rfl fun b35_22 p35_22 c35_22=>?_
       refine zE ?_;refine zn H17 fun l_25 el_25 H17=>?_
       refine Zac b35_22 (ZY el_25.h) ?_;refine zX (ZbL 4 _ (ZaK el_25.h rfl)) ?_;refine zo H17 fun _ _ H17=>?_
       refine zE ?_;refine zn H17 fun bx_27 ebx_27 H17=>?_
       exact ZbL 6 (D bx_27) (nm_cv ebx_27.h)<|Zq ⟨bx_27,l_25⟩ ⟨b35_22,p35_22,c35_22⟩ (ZZs H17) (Za (Za (Za (Za (Zj (Zz rfl) (Zd _)))))) (Zc rfl (Ze _))
     ·refine zg ?_;exact Zk t_16 ⟨b_14,p_14,c_14⟩ (he17 _ (ZZs H17)).symm (Za (Za (Za (Zj (Zz rfl) (Zd _))))) (Zc rfl (Ze _))
    rintro t_12 ⟨b_10,p_10,c_10⟩ hp;replace H7:=Zcd hp H7;refine zg ?_;refine zb H7 fun x_28 _ H7=>?_
    exact Zq ⟨x_28,t_12⟩ ⟨b_10,p_10,c_10⟩ (ZZs H7) (Za (Za (Za (Zj (Zz rfl) (Zd _))))) (Zc rfl (Ze _))
  ·refine zg ?_;exact Zk t_6 ⟨b_4,p_4,c_4⟩ (he7 _ (ZZs H7)).symm (Zj (Zz rfl) (Zd _)) (Zc rfl (Ze _))
 rintro t_2 ⟨b_0,p_0,c_0⟩ hp;replace H:=Zcd hp H;refine zg ?_;refine zn H fun _ ex_29 H=>?_
 refine zX (ZaZ (ZfB [b_0] (ZiD PlS.all rfl (by simp)) fun w v0 hA h0=>table_Right_c.h w v0 hA (toD h0) ex_29.h) rfl) ?_;refine zc H (fun hc H=>?_) fun hc H=>?_
 ·exact zY H
 ·refine zC ?_;refine ZN<|TE.pub b_0 (PubE.set 2 (ZG PlS.all rfl) PubE.refl) ?_;exact zY H
def Zg0 (l0:(List (List UInt8))) (id0:Int):Option (List UInt8):=
 bif (decide (id0≥(l0.length:Int))) then (some ([]:List UInt8)) else ((idx l0 id0).bind fun x_1=>some x_1)
instance pack_body_c:Fd2 102 Zg0 fun r=>D r:=en2 Tryz.func102 rfl Tryz.ntmps102 fun _ _ _ _ _ _ H=>by
 unfold Zg0 at H;exact zY H
def ZhM (a0:(List UInt8)) (b0:(List UInt8)):Option Bool:=
 some (decide (a0=b0))
instance bytes_Equal_c:Fd2 103 ZhM fun r=>D r:=en2 Tryz.func103 rfl Tryz.ntmps103 fun A w hA a0 b0 r H=>by
 unfold ZhM at H;refine zg ?_;refine zX (ZaZ ZeT rfl) ?_;refine TSx ZeT<|TSx ZeG ?_;exact zY H
def ZcQ (old0:(List (List UInt8))) (now0:(List (List UInt8))) (x_4:Int) (l_6:(List Item)):Option ((Int×(List Item))⊕(List Item)):=
 bif (decide (x_4<(max (old0.length:Int) (now0.length:Int)))) then (((Zg0 now0 x_4).bind fun x_11=>(Zg0 old0 x_4).bind fun x_12=>(ZhM x_12 x_11).bind fun x_13=>bif (!x_13) then ((Zdw x_11).bind fun x_14=>(Zc5 32 ((l_6.length+([(⟨x_4,x_14⟩:Item)]:List Item).length:Nat):Int)).bind fun u_16=>(some ((l_6++([(⟨x_4,x_14⟩:Item)]:List Item)):(List Item))).bind fun l_17=>some l_17) else (some l_6)).bind fun l_9=>(Zat x_4 1).bind fun x_18=>some (.inl (x_18,l_9))) else (some (.inr l_6))
def ZeK (old0:(List (List UInt8))) (now0:(List (List UInt8))):Option (List Item):=
 (ZM (fun s=>ZcQ old0 now0 s.1 s.2) ((0:Int),[])).bind fun l_2=>some l_2
instance pack_Changed_c:Fd2 55 ZeK fun r=>D r:=en2 Tryz.func55 rfl Tryz.ntmps55 fun A w hA old0 now0 r H=>by
 unfold ZeK at H;refine zC ?_;refine zC ?_;refine zC ?_;refine zh H fun o_3 H3 H=>?_
 refine Zn (fun s:(List Item)=>o_3=s) (fun (l_2:(List Item)) (⟨b_0,p_0,c_0⟩:Nat×Prop×Nat)=>(Env.set Env.nil 5 (Sl b_0 p_0 0 l_2.length c_0))) (fun (l_2:(List Item)) (⟨b_0,p_0,c_0⟩:Nat×Prop×Nat)=>[⟨b_0,p_0,(Row (l_2:List Item) c_0)⟩]) ?_ ?_
 ·skip;refine Zp<|Zt H3 (fun ⟨x_4,l_6⟩ (⟨b_4,p_4,c_4⟩:Nat×Prop×Nat)=>(Env.set (Env.set (Env.set (Env.set (Env.set Env.nil 0 (D old0)) 1 (D now0)) 5 (Sl b_4 p_4 0 l_6.length c_4)) 12 (D ((max (old0.length:Int) (now0.length:Int)):Int))) 13 (D x_4))) (fun ⟨x_4,l_6⟩ (⟨b_4,p_4,c_4⟩:Nat×Prop×Nat)=>[⟨b_4,p_4,(Row (l_6:List Item) c_4)⟩]) ⟨0,False,0⟩ (Za (Za (Zj Zcy (Za (Za (Zd _)))))) (Zbc (Ze _)) ?_;rintro ⟨x_4,l_6⟩ ⟨b_4,p_4,c_4⟩ x_7 H7 he7;dsimp only at H7;unfold ZcQ at H7;refine zg ?_;refine zc H7 (fun hc H7=>?_) fun hc H7=>?_
  ·refine ZaB<|Zak<|Zao ?_;refine zh H7 fun o_10 H10 H7=>?_
   refine Zn (fun s:(List Item)=>o_10=s) (fun (l_9:(List Item)) (⟨b_7,p_7,c_7⟩:Nat×Prop×Nat)=>(Env.set (Env.set (Env.set (Env.set (Env.set Env.nil 0 (D old0)) 1 (D now0)) 5 (Sl b_7 p_7 0 l_9.length c_7)) 12 (D ((max (old0.length:Int) (now0.length:Int)):Int))) 13 (D x_4))) (fun (l_9:(List Item)) (⟨b_7,p_7,c_7⟩:Nat×Prop×Nat)=>[⟨b_7,p_7,(Row (l_9:List Item) c_7)⟩]) ?_ ?_
   ·skip;refine zg ?_;refine zb H10 fun _ _ H10=>?_
    refine zb H10 fun _ _ H10=>?_
    refine zb H10 fun _ _ H10=>?_
    refine zc H10 (fun hc H10=>?_) fun hc H10=>?_
    ·refine zg ?_;refine zb H10 fun x_14 _ H10=>?_
     refine TSx (tB (⟨x_4,x_14⟩:Item) rfl rfl) ?_;refine TSx (OpY.buildSlice [.tmp 29] rfl rfl (by decide)) ?_;refine zn H10 fun _ eu_16 H10=>?_
     refine TS.app (ys:=([(⟨x_4,x_14⟩:Item)]:List Item)) inferInstance eu_16.h rfl rfl rfl fun b31_14 p31_14 c31_14=>?_
     refine zE ?_;refine zn H10 fun l_17 el_17 H10=>?_
     refine Zac b31_14 (ZY el_17.h) ?_;refine zX (ZbL 5 _ (ZaK el_17.h rfl)) ?_;exact Zk l_17 ⟨b31_14,p31_14,c31_14⟩ (ZZs H10) (Za (Za (Zj (Zz rfl) (Za (Za (Zd _)))))) (Zc rfl (Ze _))
    ·refine zg ?_;exact Zk l_6 ⟨b_4,p_4,c_4⟩ (ZZs H10) (Za (Za (Zj (Zz rfl) (Za (Za (Zd _)))))) (Zc rfl (Ze _))
   rintro l_9 ⟨b_7,p_7,c_7⟩ hp;replace hp:=hp.symm;subst hp;refine zg ?_;refine zb H7 fun x_18 _ H7=>?_
   exact Zq ⟨x_18,l_9⟩ ⟨b_7,p_7,c_7⟩ (ZZs H7) (Za (Za (Zj (Zz rfl) (Za (Za (Zd _)))))) (Zc rfl (Ze _))
  ·refine zg ?_;exact Zk l_6 ⟨b_4,p_4,c_4⟩ (he7 _ (ZZs H7)).symm (Zj (Zz rfl) (Zd _)) (Zc rfl (Ze _))
 rintro l_2 ⟨b_0,p_0,c_0⟩ hp;replace hp:=hp.symm;subst hp;refine zC ?_;refine ZN<|TE.pub b_0 (PubE.set 4 (ZG PlS.all rfl) PubE.refl) ?_;exact zY H
end Go.Proofs.YtkmojgfenlgchaaGreatDoor.Tr
namespace Go.Proofs.YtkmojgfenlgchaaGreatDoor.Tr
open Go Go.RowKit
set_option maxRecDepth 100000
set_option synthInstance.maxHeartbeats 400000
set_option synthInstance.maxSize 4096
def ZkU (blocks0:Int) (pages0:Int) (size0:Int):Option Int:=
 (ZfZ blocks0 pages0).bind fun x_1=>(ZjM x_1 2).bind fun x_2=>(ZfM size0).bind fun x_3=>some (min x_2 x_3)
instance fib_ids_c:Fd3 59 ZkU fun r=>D r:=en3 Tryz.func59 rfl Tryz.ntmps59 fun _ _ _ _ _ _ _ H=>by
 unfold ZkU at H;exact zY H
def ZhE (blocks0:Int) (pages0:Int) (size0:Int):Option Int:=
 (ZkU blocks0 pages0 size0).bind fun x_1=>(ZcP size0).bind fun x_2=>(ZfQ x_1 x_2).bind fun x_3=>some x_3
instance fib_Most_c:Fd3 17 ZhE fun r=>D r:=en3 Tryz.func17 rfl Tryz.ntmps17 fun _ _ _ _ _ _ _ H=>by
 unfold ZhE at H;exact zY H
def Zfu (c0:Chip):Option Int:=
 (ZhE (c0.Blocks.length:Int) c0.Pages c0.Size).bind fun x_2=>some x_2
instance fib_mostOf_c:Fd1 43 Zfu fun r=>D r:=en1 Tryz.func43 rfl Tryz.ntmps43 fun _ _ _ _ _ H=>by
 unfold Zfu at H;exact zY H
def ZbU (s0:(List (List UInt8))):Option (List (List UInt8)):=
 (Zc5 24 ((0+s0.length:Nat):Int)).bind fun _=>some s0
theorem Zi1 {s0:(List (List UInt8))} {r:(List (List UInt8))} (H:ZbU s0=some r):CO1 93 [] (D s0) (fun g:Nat×Prop×Nat=>Sl g.1 g.2.1 0 (List.length r) g.2.2) fun g=>[⟨g.1,g.2.1,Row (r:List (List UInt8)) g.2.2⟩]:=eO1 Tryz.func93 rfl Tryz.ntmps93 fun A w hA hO=>by
 unfold ZbU at H;refine zn H fun _ eu H=>?_
 obtain rfl:=ZZi H;refine zg ?_;refine TSx Zbw ?_;refine zC ?_;refine Zfl (fun hc=>?_) (fun hc=>?_)
 ·obtain rfl:=hc rfl;refine zg ?_;exact ZA rfl ⟨0,False,0⟩ Zcy (Zbc (Ze _))
 ·refine zg ?_;refine TS.build [] rfl rfl (by decide) rfl fun b=>zg ?_
  refine TS.app (ys:=s0) inferInstance eu.h rfl rfl rfl fun b1 p1 c1=>zg ?_
  exact ZA rfl ⟨b1,p1,c1⟩ (Zz (by simp)) (Zc rfl (Ze _))
def Zco (x_12:(List (List UInt8))) (x_16:Int) (l_17:(List (List UInt8))):Option ((Int×(List (List UInt8)))⊕(List (List UInt8))):=
 bif (decide (x_16<(x_12.length:Int))) then ((idx l_17 x_16).bind fun x_19=>(Zdw x_19).bind fun x_20=>(idx l_17 x_16).bind fun x_21=>(some ((l_17.set (Int.toNat x_16) x_20):(List (List UInt8)))).bind fun l_22=>(Zat x_16 1).bind fun x_23=>some (.inl (x_23,l_22))) else (some (.inr l_17))
def Zcp (x_3:(List Block)) (x_7:Int) (x_8:(List Block)):Option ((Int×(List Block))⊕(List Block)):=
 bif (decide (x_7<(x_3.length:Int))) then ((idx x_8 x_7).bind fun x_10=>(ZbU x_10.Pages).bind fun x_12=>(ZM (fun s=>Zco x_12 s.1 s.2) ((0:Int),x_12)).bind fun l_14=>(idx x_8 x_7).bind fun x_24=>(Zat x_7 1).bind fun x_25=>some (.inl (x_25,(x_8.set (Int.toNat x_7) (⟨l_14,x_24.Used,x_24.Worn,x_24.Bad⟩:Block))))) else (some (.inr x_8))
def ZcC (c0:Chip):Option Chip:=
 (ZW c0.Blocks).bind fun x_3=>(ZM (fun s=>Zcp x_3 s.1 s.2) ((0:Int),x_3)).bind fun l_5=>(ZH c0.Faults).bind fun x_26=>(some ((⟨c0.Pages,c0.Size,c0.Blocks,c0.Ops,c0.Off,x_26⟩:Chip):Chip)).bind fun cx_27=>(some ((⟨cx_27.Pages,cx_27.Size,l_5,cx_27.Ops,cx_27.Off,cx_27.Faults⟩:Chip):Chip)).bind fun k_28=>some k_28
instance fib_copiedChip_c:Fd1 44 ZcC fun r=>D r:=en1 Tryz.func44 rfl Tryz.ntmps44 fun A w hA c0 r H=>by
 unfold ZcC at H;refine zg ?_;refine TS.box rfl fun b1_0=>?_
 refine TS.alloc rfl fun b2_1=>zg ?_
 refine zn H fun x_3 ex_3 H=>?_
 refine Zdi (oc1 [] (Zcj ex_3.h) toD) rfl fun ⟨b9_3,p9_3,c9_3⟩=>?_
 refine zw ?_;refine zX (Zbi (Zba (CtH.new (by decide)))) ?_;refine TSx (ZS Zab)<|TSx (Zax (n:=x_3.length) rfl) ?_;refine zC ?_;refine zh H fun o_6 H6 H=>?_
 refine Zn (fun s:(List Block)=>o_6=s) (fun (l_5:(List Block)) (_:Unit)=>(Env.set (Env.set Env.nil 1 (Pt b1_0 0)) 2 (Pt b2_1 0))) (fun (l_5:(List Block)) (_:Unit)=>[⟨b9_3,p9_3,(Row (l_5:List Block) c9_3)⟩,⟨b1_0,True,(Ct.mix (One c0) 2 (Sl b9_3 p9_3 0 l_5.length c9_3))⟩,⟨b2_1,True,(One ((Dat.z:Chip):Chip))⟩]) ?_ ?_
 ·skip;refine Zp<|Zt H6 (fun ⟨x_7,x_8⟩ (_:Unit)=>(Env.set (Env.set (Env.set (Env.set (Env.set Env.nil 1 (Pt b1_0 0)) 2 (Pt b2_1 0)) 12 (Sl b9_3 p9_3 0 x_8.length c9_3)) 13 (D ((x_3.length:Int):Int))) 14 (D x_7))) (fun ⟨x_7,x_8⟩ (_:Unit)=>[⟨b9_3,p9_3,(Row (x_8:List Block) c9_3)⟩,⟨b1_0,True,(Ct.mix (One c0) 2 (Sl b9_3 p9_3 0 x_8.length c9_3))⟩,⟨b2_1,True,(One ((Dat.z:Chip):Chip))⟩]) () (Za (Za (Zj (Zz rfl) (Za (Za (Zd _)))))) (Zc rfl (Zc rfl (Zc rfl (Ze _)))) ?_;rintro ⟨x_7,x_8⟩ ⟨⟩ x_9 H9 he9;dsimp only at H9;unfold Zcp at H9;refine zg ?_;refine zc H9 (fun hc H9=>?_) fun hc H9=>?_
  ·refine zg ?_;refine zn H9 fun _ ex_10 H9=>?_
   refine zX (ZaZ (Zm (ZI ex_10.h rfl)) rfl) ?_;refine TS.alloc rfl fun b4_10=>zg ?_
   refine zn H9 fun x_12 ex_12 H9=>?_
   refine Zdi (oc1 [] (Zi1 ex_12.h) toD) rfl fun ⟨b21_12,p21_12,c21_12⟩=>?_
   refine zw ?_;refine TSx (Zax (n:=x_12.length) rfl) ?_;refine zC ?_;refine zh H9 fun o_15 H15 H9=>?_
   refine Zn (fun s:(List (List UInt8))=>o_15=s) (fun (l_14:(List (List UInt8))) (_:Unit)=>(Env.set (Env.set (Env.set (Env.set (Env.set (Env.set (Env.set Env.nil 1 (Pt b1_0 0)) 2 (Pt b2_1 0)) 3 (D x_7)) 5 (Sl b21_12 p21_12 0 l_14.length c21_12)) 12 (Sl b9_3 p9_3 0 x_8.length c9_3)) 13 (D ((x_3.length:Int):Int))) 14 (D x_7))) (fun (l_14:(List (List UInt8))) (_:Unit)=>[⟨b21_12,p21_12,(Row (l_14:List (List UInt8)) c21_12)⟩,⟨b9_3,p9_3,(Row (x_8:List Block) c9_3)⟩,⟨b1_0,True,(Ct.mix (One c0) 2 (Sl b9_3 p9_3 0 x_8.length c9_3))⟩,⟨b2_1,True,(One ((Dat.z:Chip):Chip))⟩]) ?_ ?_
   ·skip;refine Zp<|Zt H15 (fun ⟨x_16,l_17⟩ (_:Unit)=>(Env.set (Env.set (Env.set (Env.set (Env.set (Env.set (Env.set (Env.set (Env.set Env.nil 1 (Pt b1_0 0)) 2 (Pt b2_1 0)) 3 (D x_7)) 5 (Sl b21_12 p21_12 0 l_17.length c21_12)) 12 (Sl b9_3 p9_3 0 x_8.length c9_3)) 13 (D ((x_3.length:Int):Int))) 14 (D x_7)) 23 (D ((x_12.length:Int):Int))) 24 (D x_16))) (fun ⟨x_16,l_17⟩ (_:Unit)=>[⟨b21_12,p21_12,(Row (l_17:List (List UInt8)) c21_12)⟩,⟨b9_3,p9_3,(Row (x_8:List Block) c9_3)⟩,⟨b1_0,True,(Ct.mix (One c0) 2 (Sl b9_3 p9_3 0 x_8.length c9_3))⟩,⟨b2_1,True,(One ((Dat.z:Chip):Chip))⟩]) () (Za (Za (Za (Za (Zj (Zz rfl) (Zj (Zz rfl) (Za (Za (Za (Zd _)))))))))) (Zc rfl (Zc rfl (Zc rfl (Zc rfl (Ze _))))) ?_;rintro ⟨x_16,l_17⟩ ⟨⟩ x_18 H18 he18;dsimp only at H18;unfold Zco at H18;refine zg ?_;refine zc H18 (fun hc H18=>?_) fun hc H18=>?_
    ·refine zg ?_;refine zn H18 fun _ ex_19 H18=>?_
     refine zX (ZaZ (Zm (ZI ex_19.h rfl)) rfl) ?_;refine zb H18 fun _ _ H18=>?_
     refine zn H18 fun _ ex_21 H18=>?_
     refine TSx (Zm (ZI ex_21.h rfl)) ?_;refine zE ?_;refine zn H18 fun l_22 el_22 H18=>?_
     refine Zac b21_12 (ZY el_22.h) ?_;refine zX (ZbL 5 _ (ZaK el_22.h (by simp))) ?_;refine zb H18 fun x_23 _ H18=>?_
     exact Zq ⟨x_23,l_22⟩ () (ZZs H18) (Za (Za (Za (Za (Zj (Zz rfl) (Zj (Zz rfl) (Za (Za (Za (Zd _)))))))))) (Zc rfl (Zc rfl (Zc rfl (Zc rfl (Ze _)))))
    ·refine zg ?_;exact Zk l_17 () (he18 _ (ZZs H18)).symm (Za (Za (Zj (Zz rfl) (Zj (Zz rfl) (Za (Za (Za (Zd _)))))))) (Zc rfl (Zc rfl (Zc rfl (Zc rfl (Ze _)))))
   rintro l_14 ⟨⟩ hp;replace hp:=hp.symm;subst hp;refine zg ?_;refine zX (ZaZ (ZS Zab) rfl) ?_;refine zn H9 fun x_24 ex_24 H9=>?_
   refine zX (ZaZ (Zm (ZI ex_24.h rfl)) rfl) ?_;refine zX (Zbi (Zba (Zkz ex_24.h (off:=0) (by omega) (by decide)))) ?_;refine zo H9 fun x_25 _ H9=>?_
   refine zE ?_;refine TE.coll b9_3 b21_12 (o:=((0+Int.toNat x_7*Dat.sz Block)+0)) (((PF 0 Block (List (List UInt8)) (ZaC ex_24.h))).st (l_14:List (List UInt8))) (ZG PlS.all rfl) ?_;exact Zac b1_0 (Zff (m:=x_8.length) (n:=(x_8.set (Int.toNat x_7) (⟨l_14,x_24.Used,x_24.Worn,x_24.Bad⟩:Block)).length) (by simp))<|Zq ⟨x_25,(x_8.set (Int.toNat x_7) (⟨l_14,x_24.Used,x_24.Worn,x_24.Bad⟩:Block))⟩ () (ZZs H9) (Za (Za (Zj (Zz (by simp)) (Za (Za (Zd _)))))) (Zc rfl (Zc rfl (Zc rfl (Ze _))))
  ·refine zg ?_;exact Zk x_8 () (he9 _ (ZZs H9)).symm (Za (Za (Zd _))) (Zc rfl (Zc rfl (Zc rfl (Ze _))))
 rintro l_5 ⟨⟩ hp;replace hp:=hp.symm;subst hp;refine zg ?_;refine TSx (ZaE (Pl.mix (PF 5 Chip (List Fault) Zx) (by first | decide | omega))) ?_;refine zb H fun x_26 _ H=>?_
 refine Zbi (Zy (y:=(x_26:(List Fault))) (Pl.mix (PF 5 Chip (List Fault) Zx) (by first | decide | omega))) ?_;refine zC ?_;refine zn H fun _ ecx_27 H=>?_
 refine zX (ZC b1_0 (ZcR (Zaj ecx_27.h))) ?_;refine TS.coll b1_0 b9_3 (o:=2) (((PF 2 Chip (List Block) Zx)).st (l_5:List Block)) (ZG PlS.all rfl) ?_;exact zY H
def Zf1 (c0:Chip):Option Int:=
 (ZkU (c0.Blocks.length:Int) c0.Pages c0.Size).bind fun x_2=>some x_2
instance fib_idsOf_c:Fd1 45 Zf1 fun r=>D r:=en1 Tryz.func45 rfl Tryz.ntmps45 fun _ _ _ _ _ H=>by
 unfold Zf1 at H;exact zY H
def Zfv (c0:Chip):Option (Fib×Int):=
 (Zfu c0).bind fun x_3=>bif (decide (x_3=(0:Int))) then ((ZcC c0).bind fun x_4=>(some ((⟨(⟨x_4,[],0,0⟩:Vol),[]⟩:Fib):Fib)).bind fun k_5=>some (k_5,(1:Int))) else ((Zf1 c0).bind fun x_6=>(ZeO c0 x_6).bind fun r_7=>(some ((⟨r_7.1,[]⟩:Fib):Fib)).bind fun k_9=>some (k_9,r_7.2))
instance fib_Format_c:Fd1 10 Zfv fun r=>Tup [D r.1,D r.2]:=en1 Tryz.func10 rfl Tryz.ntmps10 fun A w hA c0 r H=>by
 unfold Zfv at H;refine zg ?_;refine TS.box rfl fun b1_0=>?_
 refine TS.alloc rfl fun b2_1=>zg ?_
 refine zb H fun _ _ H=>?_
 refine zc H (fun hc H=>?_) fun hc H=>?_
 ·refine zg ?_;refine zb H fun x_4 _ H=>?_
  refine TSx (tB (⟨x_4,[],0,0⟩:Vol) rfl rfl) ?_;refine TSx (tB (⟨(⟨x_4,[],0,0⟩:Vol),[]⟩:Fib) rfl rfl) ?_;exact zY H
 ·refine ZaB<|Zak ?_;refine zX (Za9 [7,8] [] mix (by kernel_rfl) (by kernel_rfl)) ?_;refine zb H fun _ _ H=>?_
  refine zb H fun r_7 _ H=>?_
  refine Zfz (fun g=>Zda (α:=Vol)) rfl<|Zdt (fun g=>(Zy (y:=(r_7.1:Vol)) Zx)) rfl ?_;refine zC ?_;rintro ⟨⟨_,⟨b4_7,_⟩⟩,_⟩;dsimp only [Fam.nextS,Fam.nextN,Fam.one,List.cons_append,List.nil_append];refine zg ?_;refine TSx (tB (⟨r_7.1,[]⟩:Fib) rfl rfl) ?_;exact zY H
def Zkf (v0x:Vol) (id0:Int):Option (List UInt8):=
 (idx v0x.At id0).bind fun x_2=>(Zgh x_2 1).bind fun x_3=>bif (decide (x_3<(0:Int))) then (some ([]:List UInt8)) else ((ZjM x_3 v0x.Chip.Pages).bind fun x_4=>(idx v0x.Chip.Blocks x_4).bind fun x_5=>(remI x_3 v0x.Chip.Pages).bind fun x_6=>(idx x_5.Pages x_6).bind fun x_7=>(Zdm x_7).bind fun r_8=>bif (decide (r_8.2≠(0:Int))) then (some ([]:List UInt8)) else (some r_8.1.Body))
instance fib_body_c:Fd2 105 Zkf fun r=>D r:=en2 Tryz.func105 rfl Tryz.ntmps105 fun A w hA v0x id0 r H=>by
 unfold Zkf at H;refine zg ?_;refine TS.box rfl fun b2_0=>zg ?_
 refine zb H fun _ _ H=>?_
 refine zb H fun _ _ H=>?_
 refine zc H (fun hc H=>?_) fun hc H=>?_
 ·exact zY H
 ·refine ZaB<|Zak ?_;refine zX (Za9 [22,23] [] mix (by kernel_rfl) (by kernel_rfl)) ?_;refine zb H fun _ _ H=>?_
  refine zb H fun _ _ H=>?_
  refine zb H fun _ _ H=>?_
  refine zb H fun _ _ H=>?_
  refine zb H fun r_8 _ H=>?_
  refine Zfz (fun g=>Zda (α:=Page)) rfl<|Zdt (fun g=>(Zy (y:=(r_8.1:Page)) Zx)) rfl ?_;refine zC ?_;rintro ⟨⟨_,⟨b6_8,_⟩⟩,_⟩;dsimp only [Fam.nextS,Fam.nextN,Fam.one,List.cons_append,List.nil_append];exact zY H
def Zf0 (r_5:(Vol×Int)) (l_12:(List (List UInt8))) (x_15:Int) (bodies_16:(List (List UInt8))):Option ((Int×(List (List UInt8)))⊕(List (List UInt8))):=
 bif (decide (x_15<(l_12.length:Int))) then ((Zkf r_5.1 x_15).bind fun x_18=>(idx bodies_16 x_15).bind fun x_19=>(some ((bodies_16.set (Int.toNat x_15) x_18):(List (List UInt8)))).bind fun l_20=>(Zat x_15 1).bind fun x_21=>some (.inl (x_21,l_20))) else (some (.inr bodies_16))
def ZiQ (c0:Chip):Option (Fib×(List (List UInt8))×Int):=
 (Zfu c0).bind fun x_3=>bif (decide (x_3=(0:Int))) then ((some ((⟨Dat.z,[]⟩:Fib):Fib)).bind fun k_4=>some (k_4,([]:List (List UInt8)),(1:Int))) else ((ZfY c0).bind fun r_5=>bif (decide (r_5.2≠(0:Int))) then ((some ((⟨Dat.z,[]⟩:Fib):Fib)).bind fun k_7=>some (k_7,([]:List (List UInt8)),r_5.2)) else ((Zf1 c0).bind fun x_8=>bif (decide ((r_5.1.At.length:Int)≠x_8)) then ((some ((⟨Dat.z,[]⟩:Fib):Fib)).bind fun k_9=>some (k_9,([]:List (List UInt8)),(2:Int))) else ((Zc5 24 (r_5.1.At.length:Int)).bind fun u_10=>(some ((List.replicate (Int.toNat (r_5.1.At.length:Int)) (Dat.z:(List UInt8))):(List (List UInt8)))).bind fun l_12=>(ZM (fun s=>Zf0 r_5 l_12 s.1 s.2) ((0:Int),l_12)).bind fun bodies_13=>(Zek bodies_13).bind fun r_22=>bif (decide (r_22.2≠(0:Int))) then ((some ((⟨Dat.z,[]⟩:Fib):Fib)).bind fun k_23=>some (k_23,([]:List (List UInt8)),(2:Int))) else ((some ((⟨r_5.1,r_22.1⟩:Fib):Fib)).bind fun k_24=>some (k_24,bodies_13,(0:Int))))))
instance fib_load_c:Fd1 56 ZiQ fun r=>Tup [D r.1,D r.2.1,D r.2.2]:=en1 Tryz.func56 rfl Tryz.ntmps56 fun A w hA c0 r H=>by
 unfold ZiQ at H;refine zg ?_;refine TS.box rfl fun b1_0=>?_
 refine TS.alloc rfl fun b2_1=>zg ?_
 refine zb H fun _ _ H=>?_
 refine zc H (fun hc H=>?_) fun hc H=>?_
 ·refine zg ?_;refine TSx (tB (⟨Dat.z,[]⟩:Fib) rfl rfl) ?_;exact zY H
 ·refine zg ?_;refine zb H fun r_5 _ H=>?_
  refine TS.alloc rfl fun b5_5=>zg ?_
  refine zc H (fun hc H=>?_) fun hc H=>?_
  ·refine zg ?_;refine TSx (tB (⟨Dat.z,[]⟩:Fib) rfl rfl) ?_;exact zY H
  ·refine zg ?_;refine zb H fun _ _ H=>?_
   refine zc H (fun hc H=>?_) fun hc H=>?_
   ·refine zg ?_;refine TSx (tB (⟨Dat.z,[]⟩:Fib) rfl rfl) ?_;exact zY H
   ·refine zg ?_;refine zn H fun _ eu_10 H=>?_
    refine Zf7 eu_10.h ⟨(Za1 eu_10.h).1,Int.le_refl _⟩ rfl fun b33_10=>?_
    refine zC ?_;refine zn H fun l_12 el_12 H=>?_
    refine ZC b33_10 (ZY el_12.h) ?_;refine zX (Zcc 7 _ (ZaK el_12.h (by simp))) ?_;refine TSx (Zax (n:=l_12.length) rfl) ?_;refine zC ?_;refine zh H fun o_14 H14 H=>?_
    refine Zn (fun s:(List (List UInt8))=>o_14=s) (fun (bodies_13:(List (List UInt8))) (_:Unit)=>(Env.set (Env.set (Env.set Env.nil 2 (Pt b2_1 0)) 5 (Pt b5_5 0)) 7 (Sl b33_10 True 0 bodies_13.length (Int.toNat (r_5.1.At.length:Int))))) (fun (bodies_13:(List (List UInt8))) (_:Unit)=>[⟨b33_10,True,(Row (bodies_13:List (List UInt8)) (Int.toNat (r_5.1.At.length:Int)))⟩,⟨b2_1,True,(One ((Dat.z:Fib):Fib))⟩,⟨b5_5,True,(One r_5.1)⟩]) ?_ ?_
    ·skip;refine Zp<|Zt H14 (fun ⟨x_15,bodies_16⟩ (_:Unit)=>(Env.set (Env.set (Env.set (Env.set (Env.set Env.nil 2 (Pt b2_1 0)) 5 (Pt b5_5 0)) 7 (Sl b33_10 True 0 bodies_16.length (Int.toNat (r_5.1.At.length:Int)))) 35 (D ((l_12.length:Int):Int))) 36 (D x_15))) (fun ⟨x_15,bodies_16⟩ (_:Unit)=>[⟨b33_10,True,(Row (bodies_16:List (List UInt8)) (Int.toNat (r_5.1.At.length:Int)))⟩,⟨b2_1,True,(One ((Dat.z:Fib):Fib))⟩,⟨b5_5,True,(One r_5.1)⟩]) () (Za (Za (Zj (Zz rfl) (Za (Za (Zd _)))))) (Zc rfl (Zc rfl (Zc rfl (Ze _)))) ?_;rintro ⟨x_15,bodies_16⟩ ⟨⟩ x_17 H17 he17;dsimp only at H17;unfold Zf0 at H17;refine zg ?_;refine zc H17 (fun hc H17=>?_) fun hc H17=>?_
     ·refine zg ?_;refine zb H17 fun _ _ H17=>?_
      refine zn H17 fun _ ex_19 H17=>?_
      refine TSx (Zm (ZI ex_19.h rfl)) ?_;refine zE ?_;refine zn H17 fun l_20 el_20 H17=>?_
      refine Zac b33_10 (ZY el_20.h) ?_;refine zX (ZbL 7 _ (ZaK el_20.h (by simp))) ?_;refine zb H17 fun x_21 _ H17=>?_
      exact Zq ⟨x_21,l_20⟩ () (ZZs H17) (Za (Za (Zj (Zz rfl) (Za (Za (Zd _)))))) (Zc rfl (Zc rfl (Zc rfl (Ze _))))
     ·refine zg ?_;exact Zk bodies_16 () (he17 _ (ZZs H17)).symm (Zj (Zz rfl) (Za (Za (Zd _)))) (Zc rfl (Zc rfl (Zc rfl (Ze _))))
    rintro bodies_13 ⟨⟩ hp;replace hp:=hp.symm;subst hp;refine zg ?_;refine TS.pub b33_10 (PubE.set 47 (ZG PlS.all rfl) (PubE.set 7 (ZG PlS.all rfl) PubE.refl)) ?_;refine zb H fun r_22 _ H=>?_
    refine zc H (fun hc H=>?_) fun hc H=>?_
    ·refine zg ?_;refine TSx (tB (⟨Dat.z,[]⟩:Fib) rfl rfl) ?_;exact zY H
    ·refine zg ?_;refine TSx (tB (⟨r_5.1,r_22.1⟩:Fib) rfl rfl) ?_;exact zY H
def ZeP (c0:Chip):Option (Fib×Int):=
 (ZiQ c0).bind fun r_3=>some (r_3.1,r_3.2.2)
instance fib_Mount_c:Fd1 14 ZeP fun r=>Tup [D r.1,D r.2]:=en1 Tryz.func14 rfl Tryz.ntmps14 fun _ _ _ _ _ H=>by
 unfold ZeP at H;exact zY H
def ZaJ (s10:(List Route)) (s20:(List Route)) (x_2:Int):Option (Int⊕(Unit⊕Bool)):=
 bif (decide (x_2<(s10.length:Int))) then ((idx s10 x_2).bind fun x_4=>(idx s20 x_2).bind fun x_5=>bif (decide (x_4≠x_5)) then (some (.inr (.inr false))) else ((Zat x_2 1).bind fun x_7=>some (.inl x_7))) else (some (.inr (.inl ())))
def Za0 (s10:(List Route)) (s20:(List Route)):Option Bool:=
 bif (decide ((s10.length:Int)≠(s20.length:Int))) then (some false) else ((ZM (fun s=>ZaJ s10 s20 s) (0:Int)).bind fun o_1=>elS o_1 (fun _=>some true) (fun q=>some q))
instance slices_Equal_api_Route_c:Fd2 98 Za0 fun r=>D r:=en2 Tryz.func98 rfl Tryz.ntmps98 fun A w hA s10 s20 r H=>by
 unfold Za0 at H;refine zg ?_;refine zc H (fun hc H=>?_) fun hc H=>?_
 ·exact zY H
 ·refine zC ?_;refine zh H fun o_1 H1 H=>?_
  refine Zn (fun s:Unit=>o_1=.inl s) (fun (_:Unit) (_:Unit)=>Env.nil) (fun (_:Unit) (_:Unit)=>[]) ?_ ?_
  ·skip;refine Zp<|Zt H1 (fun (x_2:Int) (_:Unit)=>(Env.set (Env.set (Env.set (Env.set Env.nil 0 (D s10)) 1 (D s20)) 12 (D ((s10.length:Int):Int))) 13 (D x_2))) (fun (x_2:Int) (_:Unit)=>[]) () (Za (Za (Za (Za (Zd _))))) (Ze _) ?_;rintro x_2 ⟨⟩ x_3 H3 he3;unfold ZaJ at H3;refine zg ?_;refine zc H3 (fun hc H3=>?_) fun hc H3=>?_
   ·refine zg ?_;refine zb H3 fun _ _ H3=>?_
    refine zb H3 fun _ _ H3=>?_
    refine zX (ZeS (ZjH EqV_87 (by decide) EqG_87 rfl) rfl) ?_;refine zc H3 (fun hc H3=>?_) fun hc H3=>?_
    ·refine zC ?_;refine ZN<|Zg<|Zh<|Zh<|Zg<|Zv ?_;have R5:=ZaW (he3 _ (ZZs H3)) H;refine zg ?_;obtain rfl:=ZZi R5;exact ZbM rfl Cv.le
    ·refine zg ?_;refine zb H3 fun x_7 _ H3=>?_
     exact Zq x_7 () (ZZs H3) (Za (Za (Za (Za (Zd _))))) (Ze _)
   ·refine zg ?_;exact Zk () () (he3 _ (ZZs H3)).symm (Zd _) (Ze _)
  rintro ⟨⟩ ⟨⟩ hp;replace H:=Zcd hp H;exact zY H
def Zhb (f0:Fib):Option ((List (List UInt8))×Bool):=
 (some ((⟨f0.Vol.Chip.Pages,f0.Vol.Chip.Size,f0.Vol.Chip.Blocks,f0.Vol.Chip.Ops,false,f0.Vol.Chip.Faults⟩:Chip):Chip)).bind fun cx_3=>(ZiQ cx_3).bind fun r_4=>bif (((decide (r_4.2.2≠(0:Int)))||(decide (f0.Vol.Gen≠r_4.1.Vol.Gen)))||(decide (f0.Vol.Last≠r_4.1.Vol.Last))) then (some (([]:List (List UInt8)),false)) else ((ZbN f0.Vol.At r_4.1.Vol.At).bind fun x_6=>(gb (!(!x_6)) (Za0 f0.Table r_4.1.Table)).bind fun x_7=>bif ((!x_6)||(!x_7)) then (some (([]:List (List UInt8)),false)) else (some (r_4.2.1,true)))
instance fib_stands_c:Fd1 51 Zhb fun r=>Tup [D r.1,D r.2]:=en1 Tryz.func51 rfl Tryz.ntmps51 fun A w hA f0 r H=>by
 unfold Zhb at H;refine zg ?_;refine TS.box rfl fun b1_0=>zg ?_
 refine TS.alloc rfl fun b4_1=>?_
 refine zC ?_;refine zC ?_;refine zn H fun _ ecx_3 H=>?_
 refine zX (ZC b4_1 (Zaj ecx_3.h)) ?_;refine zb H fun _ _ H=>?_
 refine TS.alloc rfl fun b5_4=>zg ?_
 refine ZlE 20 rfl (fun hg=>OpY.neq64) rfl ?_;exact zY H
def ZdE (f0:Fib):Option Fib:=
 (ZcC f0.Vol.Chip).bind fun x_3=>(some ((⟨(⟨x_3,f0.Vol.At,f0.Vol.Gen,f0.Vol.Last⟩:Vol),f0.Table⟩:Fib):Fib)).bind fun f_4=>(ZaN f_4.Vol.At).bind fun x_5=>(some ((⟨(⟨f_4.Vol.Chip,x_5,f_4.Vol.Gen,f_4.Vol.Last⟩:Vol),f_4.Table⟩:Fib):Fib)).bind fun f_6=>(ZQ f_6.Table).bind fun x_7=>(some ((⟨f_6.Vol,x_7⟩:Fib):Fib)).bind fun f_8=>some f_8
instance fib_copied_c:Fd1 52 ZdE fun r=>D r:=en1 Tryz.func52 rfl Tryz.ntmps52 fun _ _ _ _ _ H=>by
 unfold ZdE at H;exact zY H
def ZdP (f0:Fib) (l0:(List Change)):Option (Fib×Int):=
 (Zhb f0).bind fun r_3=>bif (!r_3.2) then ((ZdE f0).bind fun x_4=>some (x_4,(1:Int))) else ((Zef f0.Table l0).bind fun r_5=>bif (decide (r_5.2≠(0:Int))) then ((ZdE f0).bind fun x_6=>some (x_6,r_5.2)) else ((Zf1 f0.Vol.Chip).bind fun x_7=>(ZcP f0.Vol.Chip.Size).bind fun x_8=>(ZfR r_5.1 x_7 x_8).bind fun r_9=>bif (decide (r_9.2≠(0:Int))) then ((ZdE f0).bind fun x_10=>some (x_10,r_9.2)) else ((ZeK r_3.1 r_9.1).bind fun x_11=>bif (decide ((x_11.length:Int)=(0:Int))) then ((ZdE f0).bind fun x_12=>(some ((⟨x_12.Vol,r_5.1⟩:Fib):Fib)).bind fun f_13=>some (f_13,(0:Int))) else ((ZfX f0.Vol x_11).bind fun r_14=>(bif (decide (r_14.2≠(0:Int))) then ((ZQ f0.Table).bind fun x_18=>some x_18) else (some r_5.1)).bind fun t_16=>(some ((⟨r_14.1,t_16⟩:Fib):Fib)).bind fun k_19=>some (k_19,r_14.2)))))
instance fib_Apply_c:Fd2 13 ZdP fun r=>Tup [D r.1,D r.2]:=en2 Tryz.func13 rfl Tryz.ntmps13 fun A w hA f0 l0 r H=>by
 unfold ZdP at H;refine zg ?_;refine TS.box rfl fun b2_0=>?_
 refine TS.alloc rfl fun b4_1=>zg ?_
 refine zb H fun _ _ H=>?_
 refine zc H (fun hc H=>?_) fun hc H=>?_
 ·exact zY H
 ·refine zg ?_;refine zb H fun r_5 _ H=>?_
  refine zc H (fun hc H=>?_) fun hc H=>?_
  ·exact zY H
  ·refine zg ?_;refine zb H fun _ _ H=>?_
   refine zb H fun _ _ H=>?_
   refine zb H fun _ _ H=>?_
   refine zc H (fun hc H=>?_) fun hc H=>?_
   ·exact zY H
   ·refine zg ?_;refine zb H fun _ _ H=>?_
    refine zc H (fun hc H=>?_) fun hc H=>?_
    ·exact zY H
    ·refine zg ?_;refine zb H fun r_14 _ H=>?_
     refine TS.alloc rfl fun b12_14=>?_
     refine zC ?_;refine Zao ?_;refine zh H fun o_17 H17 H=>?_
     refine Zn (fun s:(List Route)=>o_17=s) (fun (t_16:(List Route)) (_:Unit)=>(Env.set (Env.set (Env.set (Env.set Env.nil 4 (Pt b4_1 0)) 8 (D t_16)) 9 (D r_14.2)) 12 (Pt b12_14 0))) (fun (t_16:(List Route)) (_:Unit)=>[⟨b4_1,True,(One ((Dat.z:Fib):Fib))⟩,⟨b12_14,True,(One r_14.1)⟩]) ?_ ?_
     ·skip;refine zg ?_;refine zc H17 (fun hc H17=>?_) fun hc H17=>?_
      ·refine zg ?_;refine zb H17 fun x_18 _ H17=>?_
       exact Zk x_18 () (ZZs H17) (Za (Za (Za (Za (Zd _))))) (Zc rfl (Zc rfl (Ze _)))
      ·refine zg ?_;exact Zk r_5.1 () (ZZs H17) (Za (Za (Za (Za (Zd _))))) (Zc rfl (Zc rfl (Ze _)))
     rintro t_16 ⟨⟩ hp;replace hp:=hp.symm;subst hp;refine zg ?_;refine TSx (tB (⟨r_14.1,t_16⟩:Fib) rfl rfl) ?_;exact zY H
end Go.Proofs.YtkmojgfenlgchaaGreatDoor.Tr
namespace Go.Proofs.YtkmojgfenlgchaaGreatDoor.Tr
open Go Go.RowKit
set_option maxRecDepth 100000
set_option synthInstance.maxHeartbeats 400000
set_option synthInstance.maxSize 4096
def Zb9 (a0:(List Route)) (b0:(List Route)) (i_2:Int):Option (Int⊕(Unit⊕Bool)):=
 bif (decide (i_2<(a0.length:Int))) then ((idx a0 i_2).bind fun x_4=>(idx b0 i_2).bind fun x_5=>bif (decide (x_4≠x_5)) then (some (.inr (.inr false))) else ((Zat i_2 1).bind fun x_7=>some (.inl x_7))) else (some (.inr (.inl ())))
def Zcr (a0:(List Route)) (b0:(List Route)):Option Bool:=
 bif (decide ((a0.length:Int)≠(b0.length:Int))) then (some false) else ((ZM (fun s=>Zb9 a0 b0 s) (0:Int)).bind fun o_1=>elS o_1 (fun _=>some true) (fun q=>some q))
instance bywayref03_Same_c:Fd2 16 Zcr fun r=>D r:=en2 Tryz.func16 rfl Tryz.ntmps16 fun A w hA a0 b0 r H=>by
 unfold Zcr at H;refine zg ?_;refine zc H (fun hc H=>?_) fun hc H=>?_
 ·exact zY H
 ·refine zC ?_;refine zh H fun o_1 H1 H=>?_
  refine Zn (fun s:Unit=>o_1=.inl s) (fun (_:Unit) (_:Unit)=>Env.nil) (fun (_:Unit) (_:Unit)=>[]) ?_ ?_
  ·skip;refine Zp<|Zt H1 (fun (i_2:Int) (_:Unit)=>(Env.set (Env.set (Env.set Env.nil 0 (D a0)) 1 (D b0)) 5 (D i_2))) (fun (i_2:Int) (_:Unit)=>[]) () (Za (Za (Za (Zd _)))) (Ze _) ?_;rintro i_2 ⟨⟩ x_3 H3 he3;unfold Zb9 at H3;refine zg ?_;refine zc H3 (fun hc H3=>?_) fun hc H3=>?_
   ·refine zg ?_;refine zb H3 fun _ _ H3=>?_
    refine zb H3 fun _ _ H3=>?_
    refine zX (ZeS (ZjH EqV_87 (by decide) EqG_87 rfl) rfl) ?_;refine zc H3 (fun hc H3=>?_) fun hc H3=>?_
    ·refine zC ?_;refine ZN<|Zg<|Zh<|Zh<|Zg<|Zv ?_;have R5:=ZaW (he3 _ (ZZs H3)) H;refine zg ?_;obtain rfl:=ZZi R5;exact ZbM rfl Cv.le
    ·refine zg ?_;refine zb H3 fun x_7 _ H3=>?_
     exact Zq x_7 () (ZZs H3) (Za (Za (Za (Zd _)))) (Ze _)
   ·refine zg ?_;exact Zk () () (he3 _ (ZZs H3)).symm (Zd _) (Ze _)
  rintro ⟨⟩ ⟨⟩ hp;replace H:=Zcd hp H;exact zY H
def ZeF:Option Bool:=
 (ZgK (⟨([49,48,46,48,46,48,46,48,47,56,32,55]:List UInt8)⟩:Txt)).bind fun r_1=>(ZhL (6:Int) (2:Int) (64:Int)).bind fun r_3=>(Zfv r_3.1).bind fun r_5=>(ZdP r_5.1 ([(⟨r_1.1,false⟩:Change)]:List Change)).bind fun r_7=>(ZeP r_7.1.Vol.Chip).bind fun r_9=>(ZkH r_9.1.Table (32:Int)).bind fun r_11=>(Zl6 r_11.1 (((Dat.z:(Vec UInt8 16)).set 0 (UInt8.ofNat 10)).set 1 (UInt8.ofNat 9))).bind fun r_13=>some (((((((((decide (r_1.2=(0:Int)))&&(decide (r_3.2=(0:Int))))&&(decide (r_5.2=(0:Int))))&&(decide (r_7.2=(0:Int))))&&(decide (r_9.2=(0:Int))))&&(decide (r_11.2=(0:Int))))&&(decide (r_13.2.2=(0:Int))))&&(decide (r_13.1=(8:Int))))&&(decide (r_13.2.1=(UInt16.ofNat 7))))
theorem ZlD {A:Nat→Prop}   {r:Bool} (w:World)  (hA:∀ k,w.heap.size≤k→A k)   (H:ZeF=some r) :
    Calls Tryz.prog 7 #[] w (Ret A w (D r)):=by
 unfold ZeF at H;refine zX (enter0 hA Tryz.func7 rfl Tryz.ntmps7 rfl ) ?_;refine zb H fun r_1 _ H=>?_
 refine TS.alloc rfl fun b1_1=>zg ?_
 refine zb H fun _ _ H=>?_
 refine TS.alloc rfl fun b3_3=>zg ?_
 refine zb H fun _ _ H=>?_
 refine TS.alloc rfl fun b5_5=>zg ?_
 refine TSx (tB (⟨r_1.1,false⟩:Change) rfl rfl) ?_;refine TSx (OpY.buildSlice [.tmp 32] rfl rfl (by decide)) ?_;refine zb H fun _ _ H=>?_
 refine TS.alloc rfl fun b7_7=>zg ?_
 refine zb H fun _ _ H=>?_
 refine TS.alloc rfl fun b9_9=>zg ?_
 refine zb H fun _ _ H=>?_
 refine TS.alloc rfl fun b11_11=>zg ?_
 refine TSx (Zc1 (ps:=_) (((Dat.z:(Vec UInt8 16)).set 0 (UInt8.ofNat 10)).set 1 (UInt8.ofNat 9)) rfl Tryz.underlying83 rfl) ?_;refine zb H fun _ _ H=>?_
 refine ZlE 87 rfl (fun hg=>OpY.eql16) rfl ?_;exact zY H
end Go.Proofs.YtkmojgfenlgchaaGreatDoor.Tr
namespace Go.Proofs.YtkmojgfenlgchaaGreatDoor.Tr
open Go
theorem Zfb (b:List UInt8):Zdm b=some (Zdf b):=by
 by_cases h:b.length≤1000000
 ·exact page_Read_eq b h
 ·have h1:¬ Zgb b.length:=by unfold Zgb;omega
  unfold Zdm Zdf;rw [Zgr,Zb,Zi (by simp [h1]),if_pos h1,Zb];rfl
def Zd6 (s:Int):Int:=min 64 (ZdZ s/2)
theorem RoomOf_nn (s:Int):0≤ZdZ s∧ZdZ s≤240:=by
 unfold ZdZ;split
 ·rename_i h;unfold Zgb at h;omega
 ·omega
theorem Zh8 (s:Int):ZfM s=some (Zd6 s):=by
 unfold ZfM;have:=RoomOf_nn s;rw [ZcO,Zb,ZfO (by omega) (by omega),Zb];rfl
def RMay (r:Roots) (s:Int):Prop:=Zgb s∧r.Gen<UInt64.ofNat 281474976710656∧(r.At.length:Int)≤Zd6 s∧∀ n∈r.At,0≤n∧n≤65535
instance {r:Roots} {s:Int}:Decidable (RMay r s):=by unfold RMay;exact inferInstance
theorem root_May_eq (r:Roots) (s:Int):Zj3 r s=some (decide (RMay r s)):=by
 unfold Zj3;have hr:=RoomOf_nn s;rw [ZcO,Zb,Zg7 (Zh8 s),Zb]
 by_cases h:Zgb s∧r.Gen<UInt64.ofNat 281474976710656∧(r.At.length:Int)≤Zd6 s
 ·obtain ⟨h1,h2,h3⟩:=h;have d1:decide (ZdZ s=(0:Int))=false:=by
   unfold ZdZ;rw [if_pos h1];unfold Zgb at h1;simp;omega
  have d2:decide ((UInt64.ofNat 281474976710656)≤r.Gen)=false:=by
   rw [decide_eq_false_iff_not,UInt64.not_le];exact h2
  rw [d1,d2];rw [show ((false||false):Bool)=false from rfl,Bool.not_false,Zs,Zf (by simp;omega)];have hm:Zd6 s≤64:=by unfold Zd6;omega
  rcases Zfs (f:=fun s=>Zei r s) (fun i=>(i:Int)) r.At.length (fun i=>decide (r.At.getD i 0<0∨r.At.getD i 0>65535)) (fun _=>.inr false) (y:=.inl ()) (by omega) (fun i hi hp=>by
    have hx:¬ (r.At[i]<0∨r.At[i]>65535):=by simpa [List.getD_eq_getElem?_getD,List.getElem?_eq_getElem hi] using hp
    unfold Zei;rw [ZeU hi,Zs,ZB hi,Zb,Zf (by simp;omega),ZR (by omega),Zb]) (fun i hi hp=>by
    have hx:(r.At[i]<0∨r.At[i]>65535):=by simpa [List.getD_eq_getElem?_getD,List.getElem?_eq_getElem hi] using hp
    unfold Zei;rw [ZeU hi,Zs,ZB hi,Zb,Zi (by simp;omega)]) (by
    unfold Zei;rw [Zjf,Zo]) (s:=(0:Int)) rfl with ⟨i,hi,hp,-,e⟩ | ⟨hall,e⟩
  ·rw [e,Zb,Zbp];have hx:(r.At[i]<0∨r.At[i]>65535):=by simpa [List.getD_eq_getElem?_getD,List.getElem?_eq_getElem hi] using hp
   have:¬ RMay r s:=fun h=>by have:=h.2.2.2 _ (List.getElem_mem hi);omega
   rw [decide_eq_false this]
  ·rw [e,Zb,Zaw];have:RMay r s:=⟨h1,h2,h3,fun n hn=>by
    obtain ⟨j,hj,rfl⟩:=List.getElem_of_mem hn;have:=hall j hj;simp [List.getD_eq_getElem?_getD,List.getElem?_eq_getElem hj] at this;omega⟩
   rw [decide_eq_true this]
 ·have hn:¬ RMay r s:=fun x=>h ⟨x.1,x.2.1,x.2.2.1⟩
  rw [decide_eq_false hn,Zi]
  by_cases c1:ZdZ s=0
  ·simp [c1]
  ·by_cases c2:(UInt64.ofNat 281474976710656)≤r.Gen
   ·simp only [decide_eq_true c2,Bool.or_true,Bool.true_or]
   ·have h1:Zgb s:=by
     unfold ZdZ at c1;split at c1
     ·assumption
     ·exact absurd rfl c1
    have h2:r.Gen<UInt64.ofNat 281474976710656:=UInt64.not_le.1 c2;have h3:(r.At.length:Int)>Zd6 s:=by
     rcases Int.lt_or_le (Zd6 s) (r.At.length:Int) with g | g
     ·exact g
     ·exact absurd ⟨h1,h2,g⟩ h
    rw [decide_eq_false c1,decide_eq_false c2];rw [show ((false||false):Bool)=false from rfl,Bool.not_false,Zs,decide_eq_true h3];rfl
def Zj4:List Int→List UInt8
 | []=>[]
 | n::l=>UInt8.ofInt (n/2 ^ (8:Int).toNat)::UInt8.ofInt n::Zj4 l
theorem rBody_append (a b:List Int):Zj4 (a++b)=Zj4 a++Zj4 b:=by
 induction a with
 | nil=>rfl
 | cons n a ih=>simp [Zj4,ih]
theorem Zgq (l:List Int):(Zj4 l).length=2*l.length:=by
 induction l with
 | nil=>rfl
 | cons n l ih=>simp [Zj4,ih];omega
def Zju (r:Roots):Page:=⟨2,max 0 ((r.At.length:Int)-1),r.Gen,Zj4 r.At⟩
def RPutV (r:Roots) (s:Int):List UInt8×Int:=if RMay r s then PutV (Zju r) s else ([],1)
theorem Zmh {r:Roots} {s:Int} (h:RMay r s):PMay (Zju r) s:=by
 obtain ⟨h1,h2,h3,h4⟩:=h;have h1':=h1;unfold Zgb at h1';have e:ZdZ s=s-16:=by unfold ZdZ;rw [if_pos h1]
 unfold Zd6 at h3;rw [e] at h3;refine ⟨h1,.inr rfl,?_,?_,h2,?_⟩
 ·show (0:Int)≤max 0 ((r.At.length:Int)-1);omega
 ·show max 0 ((r.At.length:Int)-1)<64;omega
 ·show ((Zj4 r.At).length:Int)≤s-16;rw [Zgq];omega
theorem Zmg (r:Roots) (s:Int):ZiG r s=some (RPutV r s):=by
 unfold ZiG RPutV;rw [root_May_eq,Zb]
 by_cases h:RMay r s
 ·rw [Zf (by simp [h]),if_pos h];obtain ⟨h1,h2,h3,h4⟩:=h;have hm:Zd6 s≤64:=by unfold Zd6;omega
  rw [ZaO (by omega) (by omega),Zb,Zb,Zb];refine (Zbh (ZP (fun i=>((i:Int),Zj4 (r.At.take i))) r.At.length (e:=Zj4 r.At) (by omega) (fun i hi=>?_) ?_ rfl)).trans ?_
  ·unfold Zht;dsimp only;have hx:=h4 _ (List.getElem_mem hi);have hl:(Zj4 (r.At.take i)).length≤128:=by rw [Zgq];simp;omega
   have hsh:shrI r.At[i] 8=some (r.At[i]/2 ^ (8:Int).toNat):=by unfold shrI;rw [if_pos ⟨hx.1,by omega⟩]
   rw [ZeU hi,Zs,ZB hi,Zb,hsh,Zb,Zav (by omega) (by simp;omega) (by simp;omega),Zb,Zb,ZR (by omega),Zb,ZcN hi,rBody_append];rfl
  ·unfold Zht;dsimp only;rw [Zjf,Zo,List.take_length]
  ·rw [Zhv,Zb];rfl
 ·rw [Zi (by simp [h]),if_neg h]
def Root0:Roots:=⟨0,[]⟩
def numAt (b:List UInt8) (i:Nat):Int:=((256*(b.getD (2*i) 0).toNat+(b.getD (2*i+1) 0).toNat:Nat):Int)
def numsOf (b:List UInt8):List Int:=(List.range (b.length/2)).map (numAt b)
def RForm (p:Page):Prop:=p.Kind=2∧p.Body.length % 2=0∧p.Id=max 0 (((p.Body.length/2:Nat):Int)-1)
instance {p:Page}:Decidable (RForm p):=by unfold RForm;exact inferInstance
def Zai (b:List UInt8):Roots×Int:=
 if (Zdf b).2≠0 then (Root0,(Zdf b).2) else if (Zdf b).1.Kind=0 then (Root0,6) else if ¬ RForm (Zdf b).1 then (Root0,2) else (⟨(Zdf b).1.Gen,numsOf (Zdf b).1.Body⟩,0)
theorem read_body (b:List UInt8):(Zdf b).1.Body.length≤256:=by
 by_cases h:(Zdf b).2≠0∨(Zdf b).1.Kind=0
 ·rw [read_none h];show ([]:List UInt8).length≤256;simp
 ·have h1:(Zdf b).2=0:=Decidable.not_not.1 fun x=>h (.inl x)
  have h2:(Zdf b).1.Kind≠0:=fun x=>h (.inr x)
  obtain ⟨q,-⟩:=read_ok h1 h2;obtain ⟨⟨q1,q2⟩,-,-,-,-,q6⟩:=q;omega
theorem or_bytes {x y:Nat} (hy:y<256):(x*256) ||| y=256*x+y:=by
 rw [show x*256=x <<< 8 by rw [Nat.shiftLeft_eq],← Nat.shiftLeft_add_eq_or_of_lt (by omega),Nat.shiftLeft_eq];omega
theorem Zld (b:List UInt8):ZgX b=some (Zai b):=by
 unfold ZgX Zai;rw [Zfb,Zb];have hbl:=read_body b
 by_cases h1:(Zdf b).2≠0
 ·rw [Zi (by simpa using h1),if_pos h1,Zb];rfl
 ·rw [Zf (by simpa using h1),if_neg h1]
  by_cases h2:(Zdf b).1.Kind=0
  ·rw [Zi (by simpa using h2),if_pos h2,Zb];rfl
  ·rw [Zf (by simpa using h2),if_neg h2];generalize hr:Zdf b=rp at *;obtain ⟨p,e⟩:=rp;dsimp only at *;have q1:ZjM (p.Body.length:Int) 2=some ((p.Body.length/2:Nat):Int):=quoI_nat (b:=2) (by omega);have q2:remI (p.Body.length:Int) 2=some ((p.Body.length % 2:Nat):Int):=remI_nat (b:=2) (by omega);rw [q1,Zb,Zg7 q2,Zb,Zg7 (ZaO (by omega) (by omega)),Zb]
   by_cases h3:RForm p
   ·obtain ⟨g1,g2,g3⟩:=h3;have d1:decide (p.Kind≠(2:Int))=false:=by simp [g1]
    rw [d1];have d2:decide ((bif !false then ((p.Body.length % 2:Nat):Int) else default)≠(0:Int))=false:=by simp [g2]
    rw [d2];have d3:decide (p.Id≠max (0:Int) (bif !(false||false) then ((p.Body.length/2:Nat):Int)-1 else default))=false:=by
     rw [decide_eq_false_iff_not,Decidable.not_not];exact g3
    rw [d3];rw [show ((false||false||false):Bool)=false from rfl,Zo,if_neg (by rw [Decidable.not_not];exact ⟨g1,g2,g3⟩),Zb,Zb];refine (Zbh (ZP (fun i=>((i:Int),(List.range i).map (numAt p.Body))) (p.Body.length/2) (e:=numsOf p.Body) (by omega) (fun i hi=>?_) ?_ rfl)).trans ?_
    ·unfold Zgo;dsimp only;have v1:=(p.Body.getD (2*i) 0).toNat_lt;have v2:=(p.Body.getD (2*i+1) 0).toNat_lt;rw [ZeU hi,Zs,Zjw (by omega) (by omega),Zb,idx_D (b:=p.Body) (i:=2*i) (by omega) (by omega),Zb];have e1:shlI (((p.Body.getD (2*i) 0).toNat:Nat):Int) 8=some (((p.Body.getD (2*i) 0).toNat*256:Nat):Int):=by
      have ep:(2:Int) ^ (8:Int).toNat=256:=rfl;unfold shlI;rw [ep,if_pos ⟨by omega,by omega,by omega,by omega⟩];rfl
     rw [e1,Zb,Zb,Zaa (by omega) (by omega),Zb,idx_D (b:=p.Body) (i:=2*i+1) (by omega) (by omega),Zb];have e2:orI (((p.Body.getD (2*i) 0).toNat*256:Nat):Int) (((p.Body.getD (2*i+1) 0).toNat:Nat):Int)=some (numAt p.Body i):=by
      unfold orI numAt;rw [if_pos ⟨by omega,by omega⟩,Int.toNat_natCast,Int.toNat_natCast,or_bytes v2]
     rw [e2,Zb,Zav (by omega) (by simp;omega) (by simp;omega),Zb,Zb,ZR (by omega),Zb,List.range_succ,List.map_append];rfl
    ·unfold Zgo;dsimp only;rw [Zjf,Zo];rfl
    ·rw [Zb]
   ·rw [if_pos h3,Zi,Zb]
    ·rfl
    ·by_cases g1:p.Kind=2
     ·have d1:decide (p.Kind≠(2:Int))=false:=by simp [g1]
      rw [d1]
      by_cases g2:p.Body.length % 2=0
      ·have d2:decide ((bif !false then ((p.Body.length % 2:Nat):Int) else default)≠(0:Int))=false:=by simp [g2]
       rw [d2];have:p.Id≠max 0 (((p.Body.length/2:Nat):Int)-1):=fun g3=>h3 ⟨g1,g2,g3⟩
       rw [show (bif !(false||false) then (((p.Body.length/2:Nat):Int)-1) else default)=((p.Body.length/2:Nat):Int)-1 from rfl,decide_eq_true this];rfl
      ·have d2:decide ((bif !false then ((p.Body.length % 2:Nat):Int) else default)≠(0:Int))=true:=by
        rw [Bool.not_false,Zs,decide_eq_true_eq];omega
       rw [d2];rfl
     ·simp [g1]
theorem numsOf_body {l:List Int} (h:∀ n∈l,0≤n∧n≤65535):numsOf (Zj4 l)=l:=by
 unfold numsOf;rw [Zgq,Nat.mul_div_cancel_left _ (by omega)];apply List.ext_getElem
 ·simp
 ·intro j h1 h2;rw [List.getElem_map,List.getElem_range];have key:∀ (l:List Int) (j:Nat) (hj:j<l.length),(∀ n∈l,0≤n∧n≤65535)→numAt (Zj4 l) j=l[j]:=by
   intro l
   induction l with
   | nil=>intro j hj;simp at hj
   | cons n l ih=>
    intro j hj hn;cases j with
    | zero=>
     have:=hn n (by simp);unfold numAt;have e1:(((UInt8.ofInt (n/2 ^ (8:Int).toNat)).toNat:Nat):Int)=n/256 % 256:=ofIntU8 _;have e2:(((UInt8.ofInt n).toNat:Nat):Int)=n % 256:=ofIntU8 _;show ((256*(UInt8.ofInt (n/2 ^ (8:Int).toNat)).toNat+(UInt8.ofInt n).toNat:Nat):Int)=n;omega
    | succ j=>exact ih j (by simpa using hj) fun m hm=>hn m (List.mem_cons_of_mem _ hm)
  exact key l j h2 h
theorem Zj2 {r:Roots} {n:Nat} (h:RMay r n):Zai (Zbx (Zby (Zju r) n))=(r,0):=by
 have h2:=read_put (Zmh h);unfold Zai;rw [h2,if_neg (by simp),if_neg (by show ¬ (2:Int)=0;decide),if_neg (by
  rw [Decidable.not_not];have hb:(Zju r).Body.length=2*r.At.length:=Zgq _;refine ⟨rfl,(by show (Zju r).Body.length % 2=0;omega),?_⟩;show (Zju r).Id=max 0 ((((Zju r).Body.length/2:Nat):Int)-1);rw [hb,Nat.mul_div_cancel_left _ (by omega)];rfl)]
 have e:numsOf (Zju r).Body=r.At:=numsOf_body h.2.2.2;rw [e];rfl
structure NSt where
 at_:Int
 found:Bool
 blank:Bool
 newest:Roots
def allFF (b:List UInt8):Bool:=decide (∀ x∈b,x=255)
def takes (st:NSt) (b:List UInt8):Bool:=decide ((Zai b).2=0)&&(!st.found||decide (st.newest.Gen≤(Zai b).1.Gen))
def nstep (i:Int) (st:NSt) (b:List UInt8):NSt:=
 if takes st b then ⟨i,true,st.blank&&allFF b,(Zai b).1⟩ else ⟨st.at_,st.found,st.blank&&allFF b,st.newest⟩
def Zgj (k:Nat) (st:NSt) (l:List (List UInt8)):NSt:=l.zipIdx.foldl (fun st p=>nstep ((k+p.2:Nat):Int) st p.1) st
def nOut (st:NSt):Int×Roots×Int:=if st.found then (st.at_,st.newest,0) else if st.blank then (0,Root0,6) else (0,Root0,2)
def N0:NSt:=⟨0,false,true,Root0⟩
def NewestV (l:List (List UInt8)):Int×Roots×Int:=nOut (Zgj 0 N0 l)
theorem nfold_append (k:Nat) (st:NSt) (l:List (List UInt8)) (b:List UInt8):Zgj k st (l++[b])=nstep ((k+l.length:Nat):Int) (Zgj k st l) b:=by
 unfold Zgj;rw [List.zipIdx_append,List.foldl_append];simp
theorem nfold_take {l:List (List UInt8)} {i:Nat} (h:i<l.length):Zgj 0 N0 (l.take (i+1))=nstep (i:Int) (Zgj 0 N0 (l.take i)) l[i]:=by
 rw [ZcN h,nfold_append];simp [Nat.min_eq_left (Nat.le_of_lt h)]
theorem root_Newest_eq (l:List (List UInt8)) (hl:l.length≤1000) (hb:∀ b∈l,b.length≤1000000000000000):Zeh l=some (NewestV l):=by
 unfold Zeh NewestV;rw [Zb];refine (Zbh (ZP (fun i=>((Zgj 0 N0 (l.take i)).at_,(Zgj 0 N0 (l.take i)).found,(Zgj 0 N0 (l.take i)).blank,(i:Int),(Zgj 0 N0 (l.take i)).newest)) l.length
  (e:=((Zgj 0 N0 l).at_,(Zgj 0 N0 l).found,(Zgj 0 N0 l).blank,(Zgj 0 N0 l).newest)) (by omega) (fun i hi=>?_) ?_ rfl)).trans ?_
 ·unfold ZeB;dsimp only;rw [ZeU hi,Zs,ZB hi,Zb,Zg7 (Zj6 _ (hb _ (List.getElem_mem hi))),Zb,Zld,Zb,nfold_take hi];generalize Zgj 0 N0 (l.take i)=st;have eb:(st.blank&&(bif st.blank then decide (∀ x∈l[i],x=255) else default))=(st.blank&&allFF l[i]):=by cases st.blank <;> rfl
  rw [eb];have et:((decide ((Zai l[i]).2=(0:Int)))&&((!st.found)||(decide (st.newest.Gen≤(Zai l[i]).1.Gen))))=takes st l[i]:=rfl;rw [et];unfold nstep;cases takes st l[i] with
  | true=>rw [Zs,Zb,el4_at,ZR (by omega),Zb];rfl
  | false=>rw [Zo,Zb,el4_at,ZR (by omega),Zb];rfl
 ·unfold ZeB;dsimp only;rw [Zjf,Zo,List.take_length]
 ·rw [el4_at];generalize Zgj 0 N0 l=st;unfold nOut;cases hf:st.found with
  | true=>rw [Zs];rfl
  | false=>
   rw [Zo];cases hb:st.blank with
   | true=>rw [Zs,Zb];rfl
   | false=>rw [Zo,Zb];rfl
structure NInv (l:List (List UInt8)) (st:NSt):Prop where
 no:st.found=false→st.at_=0∧st.newest=Root0∧∀ i,(hi:i<l.length)→(Zai l[i]).2≠0
 yes:st.found=true→∃ k:Nat,st.at_=k∧∃ hk:k<l.length,Zai l[k]=(st.newest,0)∧∀ i,(hi:i<l.length)→(Zai l[i]).2=0→(Zai l[i]).1.Gen≤st.newest.Gen∧(k<i→(Zai l[i]).1.Gen≠st.newest.Gen)
theorem ninv (l:List (List UInt8)):∀ n,n≤l.length→NInv (l.take n) (Zgj 0 N0 (l.take n)):=by
 intro n
 induction n with
 | zero=>intro _;exact ⟨fun _=>⟨rfl,rfl,fun i hi=>by simp at hi⟩,fun h=>by simp [Zgj,N0] at h⟩
 | succ n ih=>
  intro hn;have ih:=ih (by omega);rw [nfold_take (by omega)];generalize Zgj 0 N0 (l.take n)=st at ih;have hlen:(l.take n).length=n:=by simp;omega
  have hlen1:(l.take (n+1)).length=n+1:=by simp;omega
  have at1:∀ i (h1:i<(l.take (n+1)).length) (h2:i<n),(l.take (n+1))[i]=(l.take n)[i]'(by omega):=fun i h1 h2=>by rw [List.getElem_take,List.getElem_take]
  have atn:∀ (h1:n<(l.take (n+1)).length),(l.take (n+1))[n]=l[n]:=fun h1=>by rw [List.getElem_take]
  unfold nstep;cases ht:takes st l[n] with
  | true=>
   rw [if_pos rfl];unfold takes at ht;simp only [Bool.and_eq_true,decide_eq_true_eq,Bool.or_eq_true,Bool.not_eq_true'] at ht;obtain ⟨t1,t2⟩:=ht;refine ⟨fun h=>by simp at h,fun _=>⟨n,rfl,by omega,?_,fun i hi ho=>?_⟩⟩
   ·rw [atn (by omega)];exact Prod.ext rfl t1
   ·dsimp only;rcases (by omega:i<n∨i=n) with h | h
    ·rw [at1 i hi h] at ho ⊢;refine ⟨?_,fun hc=>by omega⟩;rcases t2 with t2 | t2
     ·exact absurd ho ((ih.no t2).2.2 i (by omega))
     ·cases hf:st.found with
      | false=>exact absurd ho ((ih.no hf).2.2 i (by omega))
      | true=>
       obtain ⟨k,-,hk,-,hmax⟩:=ih.yes hf;exact UInt64.le_trans (hmax i (by omega) ho).1 t2
    ·subst h;refine ⟨?_,fun hc=>by omega⟩;rw [atn hi];exact UInt64.le_refl _
  | false=>
   rw [if_neg (by decide)];unfold takes at ht;refine ⟨fun h=>?_,fun h=>?_⟩
   ·dsimp only at h ⊢;obtain ⟨q1,q2,q3⟩:=ih.no h;refine ⟨q1,q2,fun i hi ho=>?_⟩;rcases (by omega:i<n∨i=n) with hc | hc
    ·rw [at1 i hi hc] at ho;exact q3 i (by omega) ho
    ·subst hc;rw [atn hi] at ho;rw [h] at ht;simp [ho] at ht
   ·dsimp only at h ⊢;obtain ⟨k,e1,hk,e2,hmax⟩:=ih.yes h;refine ⟨k,e1,by omega,?_,fun i hi ho=>?_⟩
    ·rw [at1 k (by omega) (by omega)];exact e2
    ·rcases (by omega:i<n∨i=n) with hc | hc
     ·rw [at1 i hi hc] at ho ⊢;exact hmax i (by omega) ho
     ·subst hc;rw [atn hi] at ho ⊢;rw [h] at ht;simp only [ho,decide_true,Bool.not_true,Bool.false_or,Bool.true_and,decide_eq_false_iff_not,UInt64.not_le] at ht;exact ⟨UInt64.le_of_lt ht,fun _ he=>by rw [he] at ht;exact absurd ht (UInt64.lt_irrefl _)⟩
end Go.Proofs.YtkmojgfenlgchaaGreatDoor.Tr
