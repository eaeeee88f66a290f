/- What the proof leans on. Conditions: none. -/
import Derived.Test.YtkmojgfenlgchaaGreatDoorZTF3
set_option linter.all false
set_option linter.unusedSimpArgs false
set_option linter.unusedVariables false
set_option linter.unusedSectionVars false
namespace Go.Proofs.YtkmojgfenlgchaaGreatDoor.Tr
open Go
open Ct renaming mix->Xa4
open CtH renaming new->Xf5,same->Xg7
open Env renaming set->TR,nil->Xaj
open F1 renaming const->Xes
open F2 renaming const->Xf4
open Fam renaming one->XaS,nextS->XaV,nextN->XaW
open Int renaming toNat->Xaa,toNat_natCast->Xak,le_refl->XaJ,natCast_nonneg->XcM
open List renaming replicate->Xac,nil_append->Xam,cons_append->Xan,length->Xat,append_assoc->XaM,length_cons->XaP,append_nil->XaX,drop_of_length_le->Xa7,flatten->XcF,length_nil->XdB,map->Xd2,length_take_of_le->Xd8
open OpG renaming s->XeT
open OpY renaming buildSlice->Xbx
open Pl renaming mix->Xcw
open PlS renaming all->XaR
open Ro renaming dn->Xg8
open TE renaming coll->Xb3,collS->Xdw,pub->XeR
open TR2 renaming s->Xdz
open TS renaming alloc->Xaq,box->Xa9,app->Xdt,pub->Xen,build->XeE,mapUpdate->XfK
open UInt16 renaming ofNat->Xcj
open UInt64 renaming ofNat->Xap,ofInt->Xcp
open UInt8 renaming ofInt->Xao,ofNat->XaN
open Vec renaming set->Xd6
open WB renaming d->Xfr
open ZeM renaming set->XbM,refl->Xb2
set_option maxRecDepth 100000
section
open Go Go.RowKit
set_option synthInstance.maxHeartbeats 400000
set_option synthInstance.maxSize 4096
def C4(c0:Chip)(x_4:Int):Option (Int⊕(Unit⊕(Au×Bool))):=
 bif (decide (x_4<(c0.Faults.length:Int)))then((idx c0.Faults x_4).bind λx_6=>bif (decide (x_6.Op=c0.Ops))then(some (.inr (.inr (x_6,(x_6.Cut||x_6.Fail)))))else((AC x_4 1).bind λx_9=>some (.inl x_9)))else(some (.inr (.inl ())))
def EG(c0:Chip):Option (Au×Bool):=
 (ZN (λs=>C4 c0 s) (0:Int)).bind λo_3=>elS o_3 (λ_=>(some ((⟨0,false,false,0⟩:Au):Au)).bind λk_10=>some (k_10,false)) (λq=>some q)
instance Y2:Fd1 163 EG λr=>Tup [D r.1,D r.2]:=en1 Tryz.func163 rfl Tryz.ntmps163 λA w hA c0 r H=>by
 unfold EG at H;refine zg ?_;refine Xa9 rfl λb1_0=>?_
 refine Xaq rfl λb2_1=>?_
 refine zC ?_;refine zC ?_;refine zh H λo_3 H3 H=>?_
 refine Zs (λs:Unit=>o_3=.inl s) (λ(_:Unit) (_:Unit)=>(TR Xaj 2 (Pt b2_1 0))) (λ(_:Unit) (_:Unit)=>[⟨b2_1,True,(One ((Dat.z:Au):Au))⟩]) ?_ ?_
 .skip;refine Zr<|Zx H3 (λ(x_4:Int) (_:Unit)=>(TR (TR (TR (TR (TR Xaj 1 (Pt b1_0 0)) 2 (Pt b2_1 0)) 7 (D c0.Faults)) 8 (D ((c0.Faults.length:Int):Int))) 9 (D x_4))) (λ(x_4:Int) (_:Unit)=>[⟨b1_0,True,(One c0)⟩,⟨b2_1,True,(One ((Dat.z:Au):Au))⟩]) () (Za (Za (Za (Za (Za (Ze _)))))) (Zd rfl (Zd rfl (Zf _))) ?_;rintro x_4 ⟨⟩ x_5 H5 he5;unfold C4 at H5;refine zg ?_;refine zc H5 (λhc H5=>?_) λhc H5=>?_
  .refine zg ?_;refine zb H5 λx_6 _ H5=>?_
   refine Xaq rfl λb5_6=>zg ?_
   refine zc H5 (λhc H5=>?_) λhc H5=>?_
   .refine zX (Bd [7] [b2_1] mix (by kernel_rfl) (by kernel_rfl)) ?_;refine DP (λg=>(ZD (y:=(x_6:Au)) ZB)) rfl ?_;refine zC ?_;rintro⟨_,_⟩;dsimp only[XaV,XaW,XaS,Xan,Xam];refine ZO<|Zh<|Zi<|Zi<|Zh<|Zw ?_;have R7:=AQ (he5 _ (ZZs H5)) H;refine zg ?_;obtain rfl:=ZZi R7;exact Eo rfl rfl (.cons Cv.le (.cons Cv.le .nil))
   .refine zg ?_;refine zb H5 λx_9 _ H5=>?_
    exact Zv x_9 () (ZZs H5) (Za (Za (Za (Za (Za (Ze _)))))) (Zd rfl (Zd rfl (Zf _)))
  .refine zg ?_;exact Zl () () (he5 _ (ZZs H5)).symm (Za (Ze _)) (Zd rfl (Zf _))
 rintro⟨⟩ ⟨⟩ hp;replace H:=Bs hp H;refine zg ?_;refine TSx (tB (⟨0,false,false,0⟩:Au) rfl rfl) ?_;exact zY H
def FF(f0:Au):Option (Bool×Int):=
 bif f0.Cut then(some (true,(7:Int)))else(some (false,(9:Int)))
instance Zbr:Fd1 164 FF λr=>Tup [D r.1,D r.2]:=en1 Tryz.func164 rfl Tryz.ntmps164 λ_ _ _ _ _ H=>by
 unfold FF at H;exact zY H
def E2(c0:Chip)(page0:Int)(x_8:Zo)(r_9:(Au×Bool))(x_21:Int)(q_22:(List (List UInt8))):Option ((Int×(List (List UInt8)))⊕(List (List UInt8))):=
 bif (decide (x_21<c0.Size))then((Tk q_22.length x_8.Pages.length).bind λu_24=>(idx q_22 page0).bind λx_25=>(idx x_25 x_21).bind λx_26=>(idx x_25 x_21).bind λx_27=>(some ((q_22.set (Xaa page0) (x_25.set (Xaa x_21) (x_26 ||| (~~~r_9.1.Mask)))):(List (List UInt8)))).bind λq_28=>(AC x_21 1).bind λx_29=>some (.inl (x_29,q_28)))else(some (.inr q_22))
def F6(c0:Chip)(block0:Int)(page0:Int)(p0:(List UInt8)):Option (Chip×Int):=
 (By c0).bind λx_3=>(some ((⟨x_3.Pages,x_3.Size,[],x_3.Ops,x_3.Off,x_3.Faults⟩:Chip):Chip)).bind λd_6=>(FSq c0 block0).bind λx_7=>bif (((((!x_7)||(decide (page0<(0:Int))))||(decide (page0>=c0.Pages)))||(decide ((p0.length:Int)≠c0.Size)))||(decide (c0.Ops>=(1099511627776:Int))))then(some ((⟨d_6.Pages,d_6.Size,x_3.Blocks,d_6.Ops,d_6.Off,d_6.Faults⟩:Chip),(1:Int)))else(bif c0.Off then(some ((⟨d_6.Pages,d_6.Size,x_3.Blocks,d_6.Ops,d_6.Off,d_6.Faults⟩:Chip),(7:Int)))else((idx x_3.Blocks block0).bind λx_8=>bif (x_8.Bad||(decide (page0≠x_8.Used)))then(some ((⟨d_6.Pages,d_6.Size,x_3.Blocks,d_6.Ops,d_6.Off,d_6.Faults⟩:Chip),(9:Int)))else((EG c0).bind λr_9=>(AC d_6.Ops 1).bind λx_11=>(some ((⟨d_6.Pages,d_6.Size,d_6.Blocks,x_11,d_6.Off,d_6.Faults⟩:Chip):Chip)).bind λd_12=>(AC x_8.Used 1).bind λx_13=>(some ((x_3.Blocks.set (Xaa block0) (⟨x_8.Pages,x_13,x_8.Worn,x_8.Bad⟩:Zo)):(List Zo))).bind λl_14=>(idx x_8.Pages page0).bind λx_15=>(some ((x_8.Pages.set (Xaa page0) (over x_15 p0)):(List (List UInt8)))).bind λq_16=>bif (!r_9.2)then((Tk q_16.length x_8.Pages.length).bind λu_17=>(idx l_14 block0).bind λx_18=>some ((⟨d_12.Pages,d_12.Size,(l_14.set (Xaa block0) (⟨q_16,x_18.Used,x_18.Worn,x_18.Bad⟩:Zo)),d_12.Ops,d_12.Off,d_12.Faults⟩:Chip),(0:Int)))else((ZN (λs=>E2 c0 page0 x_8 r_9 s.1 s.2) ((0:Int),q_16)).bind λq_19=>(FF r_9.1).bind λr_30=>(some ((⟨d_12.Pages,d_12.Size,d_12.Blocks,d_12.Ops,r_30.1,d_12.Faults⟩:Chip):Chip)).bind λd_31=>(Tk q_19.length x_8.Pages.length).bind λu_32=>(idx l_14 block0).bind λx_33=>some ((⟨d_31.Pages,d_31.Size,(l_14.set (Xaa block0) (⟨q_19,x_33.Used,x_33.Worn,x_33.Bad⟩:Zo)),d_31.Ops,d_31.Off,d_31.Faults⟩:Chip),r_30.2)))))
instance Y3:Fd4 143 F6 λr=>Tup [D r.1,D r.2]:=en4 Tryz.func143 rfl Tryz.ntmps143 λA w hA c0 block0 page0 p0 r H=>by
 unfold F6 at H;rcases hgh:idx c0.Blocks block0 with _|yg
 .skip;refine zg ?_;refine Xa9 rfl λb4_0=>?_
  refine Xaq rfl λb8_1=>zg ?_
  refine zn H λx_3 ex_3 H=>?_
  refine D4 (oc1 [] (HS ex_3.h) toD) rfl λ⟨b18_3,p18_3,c18_3⟩=>?_
  dsimp only[Xan,Xam];refine Xaq rfl λb10_4=>?_
  refine Bk (Aj trivial rfl CtSc.h) ?_;refine zC ?_;refine zn H λ_ ed_6 H=>?_
  refine zX (ZF b10_4 (DC (Ag ed_6.h))) ?_;refine zb H λ_ ex_7 H=>?_
  refine Hu (λhc=>?_) (λhc=>?_)
  .replace H:=cT H hc;refine zg ?_;refine TSx (D7 trivial rfl rfl)<|Bk (Aj trivial rfl CtSc.h) ?_;refine zC ?_;refine ZO<|Zi<|Xb3 b8_1 b18_3 (o:=2) (((PF 2 Chip (List Zo) ZB)).st (x_3.Blocks:List Zo)) (ZJ XaR rfl) ?_;exact zY H
  .exact absurd hc (by simp[Mi ex_7.h hgh])
 .skip;refine zg ?_;refine Xa9 rfl λb4_0=>?_
  refine Xaq rfl λb8_1=>zg ?_
  refine zn H λx_3 ex_3 H=>?_
  have hgz:idx x_3.Blocks block0=some yg:=(congrArg (λc:Chip=>idx c.Blocks block0) (Jh ex_3.h)).trans hgh;refine D4 (IR [] λw v0 hA hO hap hks h0=>Np w v0 hA hO hap hks (toD h0) ex_3.h hgz) rfl λ⟨b18_3,p18_3,c18_3,bo18_3,br18_3,po18_3,co18_3,cr18_3⟩=>?_
  dsimp only[Xan,Xam];refine Xaq rfl λb10_4=>?_
  refine Bk (Aj trivial rfl CtSc.h) ?_;refine zC ?_;refine zn H λ_ ed_6 H=>?_
  refine zX (ZF b10_4 (DC (Ag ed_6.h))) ?_;refine zb H λ_ _ H=>?_
  refine zc H (λhc H=>?_) λhc H=>?_
  .refine zg ?_;refine TSx (D7 trivial rfl rfl)<|Bk (Aj trivial rfl CtSc.h) ?_;refine zC ?_;refine ZO<|Zi<|Xdw bo18_3 br18_3 rfl rfl ?_;refine Xb3 b18_3 bo18_3 (o:=((0+Xaa block0*Dat.sz Zo)+0)) (GS hgz) (ZJ XaR rfl) ?_;refine Xb3 b8_1 b18_3 (o:=2) (((PF 2 Chip (List Zo) ZB)).st (x_3.Blocks:List Zo)) (ZJ XaR (by simp)) ?_;exact zY H
  .refine zg ?_;refine zc H (λhc H=>?_) λhc H=>?_
   .refine zg ?_;refine TSx (D7 trivial rfl rfl)<|Bk (Aj trivial rfl CtSc.h) ?_;refine zC ?_;refine ZO<|Zi<|Xdw bo18_3 br18_3 rfl rfl ?_;refine Xb3 b18_3 bo18_3 (o:=((0+Xaa block0*Dat.sz Zo)+0)) (GS hgz) (ZJ XaR rfl) ?_;refine Xb3 b8_1 b18_3 (o:=2) (((PF 2 Chip (List Zo) ZB)).st (x_3.Blocks:List Zo)) (ZJ XaR (by simp)) ?_;exact zY H
   .refine zg ?_;refine zX (A4 (ZW Af) rfl) ?_;refine zn H λx_8 ex_8 H=>?_
    obtain rfl:x_8=yg:=ZZi (ex_8.h.symm.trans hgz);refine zX (A4 (Zt (ZP ex_8.h (by simp))) rfl) ?_;refine zX (A4 (AL (Xcw (PF 3 Zo Bool (AP ex_8.h)) (by first|decide|omega))) rfl) ?_;refine zX (MC 57 rfl (λhg=>(AL (Xcw (PF 1 Zo Int (AP ex_8.h)) (by first|decide|omega)))) rfl) ?_;refine zc H (λhc H=>?_) λhc H=>?_
    .refine zg ?_;refine TSx (D7 trivial rfl rfl)<|Bk (Aj trivial rfl CtSc.h) ?_;refine zC ?_;refine ZO<|Zi<|Xdw bo18_3 br18_3 rfl rfl ?_;refine Xb3 b18_3 bo18_3 (o:=((0+Xaa block0*Dat.sz Zo)+0)) (GS hgz) (ZJ XaR rfl) ?_;refine Xb3 b8_1 b18_3 (o:=2) (((PF 2 Chip (List Zo) ZB)).st (x_3.Blocks:List Zo)) (ZJ XaR (by simp)) ?_;exact zY H
    .refine zg ?_;refine zb H λr_9 _ H=>?_
     refine Xaq rfl λb12_9=>zg ?_
     refine TSx (AL (Xcw (PF 3 Chip Int ZB) (by first|decide|omega))) ?_;refine zb H λx_11 _ H=>?_
     refine Bk (ZD (y:=(x_11:Int)) (Xcw (PF 3 Chip Int ZB) (by first|decide|omega))) ?_;refine zC ?_;refine zn H λd_12 ed_12 H=>?_
     refine zX (ZF b10_4 (DC (Ag ed_12.h))) ?_;refine TSx (AL (Xcw (PF 1 Zo Int (AP ex_8.h)) (by first|decide|omega))) ?_;refine zb H λx_13 _ H=>?_
     refine Bk (ZD (y:=(x_13:Int)) (Xcw (PF 1 Zo Int (AP ex_8.h)) (by first|decide|omega))) ?_;refine zC ?_;refine zn H λl_14 el_14 H=>?_
     refine ZF b18_3 (DC (Ah el_14.h)) ?_;refine zX (ZF b10_4 (Fw (EB el_14.h (by simp)))) ?_;refine zX (A4 (ZW Af) rfl) ?_;refine zn H λx_15 ex_15 H=>?_
     refine TSx (Zt (ZP ex_15.h rfl)) ?_;refine zX (A4 (ZW (Oa ex_15.h (by show 0+_*1=_;omega))) rfl) ?_;refine ZfX (Dk (ys:=p0) inferInstance (Rg ex_15.h) rfl (λ_ h=>Zav ex_15.h h)) rfl ?_;refine zC ?_;refine ZF bo18_3 (NQ (ys:=(over x_15 p0)) ex_15.h UG) ?_;refine zn H λq_16 eq_16 H=>?_
     refine ZF br18_3 (Qx eq_16.h) ?_;refine zX (ZF bo18_3 (Qw eq_16.h)) ?_;refine zc H (λhc H=>?_) λhc H=>?_
     .refine zg ?_;refine TSx (D7 trivial rfl rfl)<|Bk (Aj trivial rfl CtSc.h) ?_;refine zC ?_;refine ZO<|Zi ?_;refine zn H λ_ eu_17 H=>?_
      refine Xdw bo18_3 br18_3 rfl (Gc eu_17.h) ?_;refine zn H λx_18 ex_18 H=>?_
      refine Xb3 b18_3 bo18_3 (o:=((0+Xaa block0*Dat.sz Zo)+0)) (((PF 0 Zo (List (List UInt8)) (AP ex_18.h))).st (q_16:List (List UInt8))) (ZJ XaR (Gc eu_17.h)) ?_;refine Ai b8_1 (Fw (m:=l_14.length) (n:=(l_14.set (Xaa block0) (⟨q_16,x_18.Used,x_18.Worn,x_18.Bad⟩:Zo)).length) (by simp))<|Xb3 b8_1 b18_3 (o:=2) (((PF 2 Chip (List Zo) ZB)).st ((l_14.set (Xaa block0) (⟨q_16,x_18.Used,x_18.Worn,x_18.Bad⟩:Zo)):List Zo)) (ZJ XaR (by simp)) ?_;exact zY H
     .refine zC ?_;refine zh H λo_20 H20 H=>?_
      refine Zs (λs:(List (List UInt8))=>o_20=s) (λ(q_19:(List (List UInt8))) (_:Unit)=>(TR (TR (TR Xaj 8 (Pt b8_1 0)) 10 (Pt b10_4 0)) 12 (Pt b12_9 0))) (λ(q_19:(List (List UInt8))) (_:Unit)=>[⟨b18_3,p18_3,(Xa4 (Row (l_14:List Zo) c18_3) ((0+Xaa block0*Dat.sz Zo)+0) (Sl bo18_3 po18_3 0 x_8.Pages.length co18_3))⟩,⟨bo18_3,po18_3,LH br18_3 po18_3 1 (Xd2 Xat q_19) x_8.Pages.length⟩,⟨br18_3,po18_3,(Row (XcF q_19:List UInt8) cr18_3)⟩,⟨b8_1,True,(One ((Dat.z:Chip):Chip))⟩,⟨b10_4,True,(Xa4 (One d_12) 2 (Sl b18_3 p18_3 0 l_14.length c18_3))⟩,⟨b12_9,True,(One r_9.1)⟩]) ?_ ?_
      .skip;refine Zr<|Zx H20 (λ⟨x_21,q_22⟩ (_:Unit)=>(TR (TR (TR (TR (TR (TR (TR Xaj 2 (D page0)) 8 (Pt b8_1 0)) 10 (Pt b10_4 0)) 11 (Pq b18_3 (0+Xaa block0*Dat.sz Zo) p18_3)) 12 (Pt b12_9 0)) 95 (D c0.Size)) 96 (D x_21))) (λ⟨x_21,q_22⟩ (_:Unit)=>[⟨b18_3,p18_3,(Xa4 (Row (l_14:List Zo) c18_3) ((0+Xaa block0*Dat.sz Zo)+0) (Sl bo18_3 po18_3 0 x_8.Pages.length co18_3))⟩,⟨bo18_3,po18_3,LH br18_3 po18_3 1 (Xd2 Xat q_22) x_8.Pages.length⟩,⟨br18_3,po18_3,(Row (XcF q_22:List UInt8) cr18_3)⟩,⟨b8_1,True,(One ((Dat.z:Chip):Chip))⟩,⟨b10_4,True,(Xa4 (One d_12) 2 (Sl b18_3 p18_3 0 l_14.length c18_3))⟩,⟨b12_9,True,(One r_9.1)⟩]) () (Za (Za (Za (Za (Za (Za (Za (Ze _)))))))) (Zd rfl (Zd rfl (Zd rfl (Zd rfl (Zd rfl (Zd rfl (Zf _))))))) ?_;rintro⟨x_21,q_22⟩ ⟨⟩ x_23 H23 he23;dsimp only at H23;unfold E2 at H23;refine zg ?_;refine zc H23 (λhc H23=>?_) λhc H23=>?_
       .refine zC ?_;refine zX (Gf [6,8,9,13,14,15] [bo18_3,br18_3] mix (by kernel_rfl) (by kernel_rfl)) ?_;refine zX (Fd (ZW Af) rfl) ?_;refine zn H23 λ_ eu_24 H23=>?_
        refine zn H23 λx_25 ex_25 H23=>?_
        refine TRx (Zt (ZP ex_25.h (Gc eu_24.h))) ?_;refine zX (GT (λg=>HA rfl (ZW (Oa ex_25.h (by show 0+_*1=_;omega)))) rfl) ?_;refine zn H23 λx_26 ex_26 H23=>?_
        refine GT (λg=>HA rfl (Zt (ZP ex_26.h rfl))) rfl ?_;refine zX (GT (λg=>HA rfl (AL (Rh ex_25.h ex_26.h))) rfl) ?_;refine TRx ZbT<|GT (λg=>HA rfl T3) rfl ?_;refine zn H23 λ_ ex_27 H23=>?_
        refine GT (λg=>HA rfl (Zt (ZP ex_27.h rfl))) rfl<|DP (λg=>(ZD (y:=((x_26 ||| (~~~r_9.1.Mask)):UInt8)) (Rh ex_25.h ex_27.h))) rfl ?_;refine zC ?_;rintro⟨⟨⟨⟨⟨⟨_,_⟩,_⟩,_⟩,_⟩,_⟩,_⟩;dsimp only[XaV,XaW,XaS,Xan,Xam];refine Ai bo18_3 (NQ (ys:=(x_25.set (Xaa x_21) (x_26 ||| (~~~r_9.1.Mask)))) ex_25.h (by simp)) ?_;refine zn H23 λq_28 eq_28 H23=>?_
        refine Ai br18_3 (Qx eq_28.h) ?_;refine zX (Ai bo18_3 (Qw eq_28.h)) ?_;refine zb H23 λx_29 _ H23=>?_
        exact Zv ⟨x_29,q_28⟩ () (ZZs H23) (Za (Za (Za (Za (Za (Za (Za (Ze _)))))))) (Zd rfl (Zd rfl (Zd rfl (Zd rfl (Zd rfl (Zd rfl (Zf _)))))))
       .refine zg ?_;exact Zl q_22 () (he23 _ (ZZs H23)).symm (Za (Za (Za (Ze _)))) (Zd rfl (Zd rfl (Zd rfl (Zd rfl (Zd rfl (Zd rfl (Zf _)))))))
      rintro q_19 ⟨⟩ hp;replace hp:=hp.symm;subst hp;refine zg ?_;refine zb H λr_30 _ H=>?_
      refine Bk (ZD (y:=(r_30.1:Bool)) (Xcw (PF 4 Chip Bool ZB) (by first|decide|omega))) ?_;refine zC ?_;refine zn H λ_ ed_31 H=>?_
      refine zX (ZF b10_4 (DC (Ag ed_31.h))) ?_;refine zX (A4 (D7 trivial rfl rfl) rfl) ?_;refine Bk (Aj trivial rfl CtSc.h) ?_;refine zC ?_;refine ZO ?_;refine zn H λ_ eu_32 H=>?_
      refine Xdw bo18_3 br18_3 rfl (Gc eu_32.h) ?_;refine zn H λx_33 ex_33 H=>?_
      refine Xb3 b18_3 bo18_3 (o:=((0+Xaa block0*Dat.sz Zo)+0)) (((PF 0 Zo (List (List UInt8)) (AP ex_33.h))).st (q_19:List (List UInt8))) (ZJ XaR (Gc eu_32.h)) ?_;refine Ai b8_1 (Fw (m:=l_14.length) (n:=(l_14.set (Xaa block0) (⟨q_19,x_33.Used,x_33.Worn,x_33.Bad⟩:Zo)).length) (by simp))<|Xb3 b8_1 b18_3 (o:=2) (((PF 2 Chip (List Zo) ZB)).st ((l_14.set (Xaa block0) (⟨q_19,x_33.Used,x_33.Worn,x_33.Bad⟩:Zo)):List Zo)) (ZJ XaR (by simp)) ?_;exact zY H
def Gx(c0:Chip)(x_9:Zo)(x_20:Int)(q_21:(List (List UInt8))):Option ((Int×(List (List UInt8)))⊕(List (List UInt8))):=
 bif (decide (x_20<c0.Pages))then((Tk q_21.length x_9.Pages.length).bind λu_23=>(idx q_21 x_20).bind λx_24=>(Eg x_24).bind λx_25=>(some ((q_21.set (Xaa x_20) x_25):(List (List UInt8)))).bind λq_26=>(AC x_20 1).bind λx_27=>some (.inl (x_27,q_26)))else(some (.inr q_21))
def Gv(c0:Chip)(x_9:Zo)(r_10:(Au×Bool))(x_34:Int)(x_39:Int)(q_40:(List (List UInt8))):Option ((Int×(List (List UInt8)))⊕(List (List UInt8))):=
 bif (decide (x_39<c0.Size))then((Tk q_40.length x_9.Pages.length).bind λu_42=>(idx q_40 x_34).bind λx_43=>(idx x_43 x_39).bind λx_44=>(idx x_43 x_39).bind λx_45=>(some ((q_40.set (Xaa x_34) (x_43.set (Xaa x_39) (x_44 ||| r_10.1.Mask))):(List (List UInt8)))).bind λq_46=>(AC x_39 1).bind λx_47=>some (.inl (x_47,q_46)))else(some (.inr q_40))
def Gw(c0:Chip)(x_9:Zo)(r_10:(Au×Bool))(x_34:Int)(q_35:(List (List UInt8))):Option ((Int×(List (List UInt8)))⊕(List (List UInt8))):=
 bif (decide (x_34<c0.Pages))then((ZN (λs=>Gv c0 x_9 r_10 x_34 s.1 s.2) ((0:Int),q_35)).bind λq_37=>(AC x_34 1).bind λx_48=>some (.inl (x_48,q_37)))else(some (.inr q_35))
def IM(c0:Chip)(block0:Int):Option (Chip×Int):=
 (By c0).bind λx_3=>(some ((⟨x_3.Pages,x_3.Size,[],x_3.Ops,x_3.Off,x_3.Faults⟩:Chip):Chip)).bind λd_6=>(FSq c0 block0).bind λx_7=>(gb (!((!x_7)||(decide (c0.Ops>=(1099511627776:Int))))) (idx c0.Blocks block0)).bind λx_8=>bif (((!x_7)||(decide (c0.Ops>=(1099511627776:Int))))||(decide (x_8.Worn>=(1099511627776:Int))))then(some ((⟨d_6.Pages,d_6.Size,x_3.Blocks,d_6.Ops,d_6.Off,d_6.Faults⟩:Chip),(1:Int)))else(bif c0.Off then(some ((⟨d_6.Pages,d_6.Size,x_3.Blocks,d_6.Ops,d_6.Off,d_6.Faults⟩:Chip),(7:Int)))else((idx x_3.Blocks block0).bind λx_9=>bif x_9.Bad then(some ((⟨d_6.Pages,d_6.Size,x_3.Blocks,d_6.Ops,d_6.Off,d_6.Faults⟩:Chip),(9:Int)))else((EG c0).bind λr_10=>(AC d_6.Ops 1).bind λx_12=>(some ((⟨d_6.Pages,d_6.Size,d_6.Blocks,x_12,d_6.Off,d_6.Faults⟩:Chip):Chip)).bind λd_13=>(AC x_9.Worn 1).bind λx_14=>(some ((x_3.Blocks.set (Xaa block0) (⟨x_9.Pages,x_9.Used,x_14,x_9.Bad⟩:Zo)):(List Zo))).bind λl_15=>bif (!r_10.2)then((idx l_15 block0).bind λx_16=>(some ((l_15.set (Xaa block0) (⟨x_16.Pages,(0:Int),x_16.Worn,x_16.Bad⟩:Zo)):(List Zo))).bind λl_17=>(ZN (λs=>Gx c0 x_9 s.1 s.2) ((0:Int),x_9.Pages)).bind λq_18=>(Tk q_18.length x_9.Pages.length).bind λu_28=>(idx l_17 block0).bind λx_29=>some ((⟨d_13.Pages,d_13.Size,(l_17.set (Xaa block0) (⟨q_18,x_29.Used,x_29.Worn,x_29.Bad⟩:Zo)),d_13.Ops,d_13.Off,d_13.Faults⟩:Chip),(0:Int)))else((idx l_15 block0).bind λx_30=>(some ((l_15.set (Xaa block0) (⟨x_30.Pages,c0.Pages,x_30.Worn,x_30.Bad⟩:Zo)):(List Zo))).bind λl_31=>(ZN (λs=>Gw c0 x_9 r_10 s.1 s.2) ((0:Int),x_9.Pages)).bind λq_32=>(FF r_10.1).bind λr_49=>(some ((⟨d_13.Pages,d_13.Size,d_13.Blocks,d_13.Ops,r_49.1,d_13.Faults⟩:Chip):Chip)).bind λd_50=>(Tk q_32.length x_9.Pages.length).bind λu_51=>(idx l_31 block0).bind λx_52=>some ((⟨d_50.Pages,d_50.Size,(l_31.set (Xaa block0) (⟨q_32,x_52.Used,x_52.Worn,x_52.Bad⟩:Zo)),d_50.Ops,d_50.Off,d_50.Faults⟩:Chip),r_49.2)))))
instance ZcS:Fd2 139 IM λr=>Tup [D r.1,D r.2]:=en2 Tryz.func139 rfl Tryz.ntmps139 λA w hA c0 block0 r H=>by
 unfold IM at H;rcases hgh:idx c0.Blocks block0 with _|yg
 .skip;refine zg ?_;refine Xa9 rfl λb2_0=>?_
  refine Xaq rfl λb4_1=>zg ?_
  refine zn H λx_3 ex_3 H=>?_
  refine D4 (oc1 [] (HS ex_3.h) toD) rfl λ⟨b16_3,p16_3,c16_3⟩=>?_
  dsimp only[Xan,Xam];refine Xaq rfl λb6_4=>?_
  refine Bk (Aj trivial rfl CtSc.h) ?_;refine zC ?_;refine zn H λ_ ed_6 H=>?_
  refine zX (ZF b6_4 (DC (Ag ed_6.h))) ?_;refine zb H λ_ ex_7 H=>?_
  refine zd H λ_ _ H=>?_
  refine Hu (λhc=>?_) (λhc=>?_)
  .replace H:=cT H hc;refine zg ?_;refine TSx (D7 trivial rfl rfl)<|Bk (Aj trivial rfl CtSc.h) ?_;refine zC ?_;refine ZO<|Zi<|Xb3 b4_1 b16_3 (o:=2) (((PF 2 Chip (List Zo) ZB)).st (x_3.Blocks:List Zo)) (ZJ XaR rfl) ?_;exact zY H
  .exact absurd hc (by simp[Mi ex_7.h hgh])
 .skip;refine zg ?_;refine Xa9 rfl λb2_0=>?_
  refine Xaq rfl λb4_1=>zg ?_
  refine zn H λx_3 ex_3 H=>?_
  have hgz:idx x_3.Blocks block0=some yg:=(congrArg (λc:Chip=>idx c.Blocks block0) (Jh ex_3.h)).trans hgh;refine D4 (IR [] λw v0 hA hO hap hks h0=>Np w v0 hA hO hap hks (toD h0) ex_3.h hgz) rfl λ⟨b16_3,p16_3,c16_3,bo16_3,br16_3,po16_3,co16_3,cr16_3⟩=>?_
  dsimp only[Xan,Xam];refine Xaq rfl λb6_4=>?_
  refine Bk (Aj trivial rfl CtSc.h) ?_;refine zC ?_;refine zn H λ_ ed_6 H=>?_
  refine zX (ZF b6_4 (DC (Ag ed_6.h))) ?_;refine zb H λ_ _ H=>?_
  refine zd H λ_ _ H=>?_
  refine zc H (λhc H=>?_) λhc H=>?_
  .refine zg ?_;refine TSx (D7 trivial rfl rfl)<|Bk (Aj trivial rfl CtSc.h) ?_;refine zC ?_;refine ZO<|Zi<|Xdw bo16_3 br16_3 rfl rfl ?_;refine Xb3 b16_3 bo16_3 (o:=((0+Xaa block0*Dat.sz Zo)+0)) (GS hgz) (ZJ XaR rfl) ?_;refine Xb3 b4_1 b16_3 (o:=2) (((PF 2 Chip (List Zo) ZB)).st (x_3.Blocks:List Zo)) (ZJ XaR (by simp)) ?_;exact zY H
  .refine zg ?_;refine zc H (λhc H=>?_) λhc H=>?_
   .refine zg ?_;refine TSx (D7 trivial rfl rfl)<|Bk (Aj trivial rfl CtSc.h) ?_;refine zC ?_;refine ZO<|Zi<|Xdw bo16_3 br16_3 rfl rfl ?_;refine Xb3 b16_3 bo16_3 (o:=((0+Xaa block0*Dat.sz Zo)+0)) (GS hgz) (ZJ XaR rfl) ?_;refine Xb3 b4_1 b16_3 (o:=2) (((PF 2 Chip (List Zo) ZB)).st (x_3.Blocks:List Zo)) (ZJ XaR (by simp)) ?_;exact zY H
   .refine zg ?_;refine zX (A4 (ZW Af) rfl) ?_;refine zn H λx_9 ex_9 H=>?_
    obtain rfl:x_9=yg:=ZZi (ex_9.h.symm.trans hgz);refine zX (A4 (Zt (ZP ex_9.h (by simp))) rfl) ?_;refine zX (A4 (AL (Xcw (PF 3 Zo Bool (AP ex_9.h)) (by first|decide|omega))) rfl) ?_;refine zc H (λhc H=>?_) λhc H=>?_
    .refine zg ?_;refine TSx (D7 trivial rfl rfl)<|Bk (Aj trivial rfl CtSc.h) ?_;refine zC ?_;refine ZO<|Zi<|Xdw bo16_3 br16_3 rfl rfl ?_;refine Xb3 b16_3 bo16_3 (o:=((0+Xaa block0*Dat.sz Zo)+0)) (GS hgz) (ZJ XaR rfl) ?_;refine Xb3 b4_1 b16_3 (o:=2) (((PF 2 Chip (List Zo) ZB)).st (x_3.Blocks:List Zo)) (ZJ XaR (by simp)) ?_;exact zY H
    .refine zg ?_;refine zb H λr_10 _ H=>?_
     refine Xaq rfl λb8_10=>zg ?_
     refine TSx (AL (Xcw (PF 3 Chip Int ZB) (by first|decide|omega))) ?_;refine zb H λx_12 _ H=>?_
     refine Bk (ZD (y:=(x_12:Int)) (Xcw (PF 3 Chip Int ZB) (by first|decide|omega))) ?_;refine zC ?_;refine zn H λd_13 ed_13 H=>?_
     refine zX (ZF b6_4 (DC (Ag ed_13.h))) ?_;refine TSx (AL (Xcw (PF 2 Zo Int (AP ex_9.h)) (by first|decide|omega))) ?_;refine zb H λx_14 _ H=>?_
     refine Bk (ZD (y:=(x_14:Int)) (Xcw (PF 2 Zo Int (AP ex_9.h)) (by first|decide|omega))) ?_;refine zC ?_;refine zn H λ_ el_15 H=>?_
     refine ZF b16_3 (DC (Ah el_15.h)) ?_;refine zX (ZF b6_4 (Fw (EB el_15.h (by simp)))) ?_;refine zc H (λhc H=>?_) λhc H=>?_
     .refine zg ?_;refine zn H λ_ ex_16 H=>?_
      refine Bk (ZD (y:=((0:Int):Int)) (Xcw (PF 1 Zo Int (AP ex_16.h)) (by first|decide|omega))) ?_;refine zC ?_;refine zn H λl_17 el_17 H=>?_
      refine ZF b16_3 (DC (Ah el_17.h))<|ZF b6_4 (Fw (EB el_17.h (by simp))) ?_;refine zC ?_;refine zh H λo_19 H19 H=>?_
      refine Zs (λs:(List (List UInt8))=>o_19=s) (λ(q_18:(List (List UInt8))) (_:Unit)=>(TR (TR Xaj 4 (Pt b4_1 0)) 6 (Pt b6_4 0))) (λ(q_18:(List (List UInt8))) (_:Unit)=>[⟨b16_3,p16_3,(Xa4 (Row (l_17:List Zo) c16_3) ((0+Xaa block0*Dat.sz Zo)+0) (Sl bo16_3 po16_3 0 x_9.Pages.length co16_3))⟩,⟨bo16_3,po16_3,LH br16_3 po16_3 1 (Xd2 Xat q_18) x_9.Pages.length⟩,⟨br16_3,po16_3,(Row (XcF q_18:List UInt8) cr16_3)⟩,⟨b4_1,True,(One ((Dat.z:Chip):Chip))⟩,⟨b6_4,True,(Xa4 (One d_13) 2 (Sl b16_3 p16_3 0 l_17.length c16_3))⟩]) ?_ ?_
      .skip;refine Zr<|Zx H19 (λ⟨x_20,q_21⟩ (_:Unit)=>(TR (TR (TR (TR (TR Xaj 4 (Pt b4_1 0)) 6 (Pt b6_4 0)) 7 (Pq b16_3 (0+Xaa block0*Dat.sz Zo) p16_3)) 70 (D c0.Pages)) 71 (D x_20))) (λ⟨x_20,q_21⟩ (_:Unit)=>[⟨b16_3,p16_3,(Xa4 (Row (l_17:List Zo) c16_3) ((0+Xaa block0*Dat.sz Zo)+0) (Sl bo16_3 po16_3 0 x_9.Pages.length co16_3))⟩,⟨bo16_3,po16_3,LH br16_3 po16_3 1 (Xd2 Xat q_21) x_9.Pages.length⟩,⟨br16_3,po16_3,(Row (XcF q_21:List UInt8) cr16_3)⟩,⟨b4_1,True,(One ((Dat.z:Chip):Chip))⟩,⟨b6_4,True,(Xa4 (One d_13) 2 (Sl b16_3 p16_3 0 l_17.length c16_3))⟩]) () (Za (Za (Za (Za (Za (Ze _)))))) (Zd rfl (Zd rfl (Zd rfl (Zd rfl (Zd rfl (Zf _)))))) ?_;rintro⟨x_20,q_21⟩ ⟨⟩ x_22 H22 he22;dsimp only at H22;unfold Gx at H22;refine zg ?_;refine zc H22 (λhc H22=>?_) λhc H22=>?_
       .refine zg ?_;refine zX (A4 (ZW Af) rfl) ?_;refine zn H22 λ_ eu_23 H22=>?_
        refine zn H22 λ_ ex_24 H22=>?_
        refine TSx (Zt (ZP ex_24.h (Gc eu_23.h)))<|TSx (ZW (Oa ex_24.h (by show 0+_*1=_;omega))) ?_;refine zn H22 λx_25 ex_25 H22=>?_
        refine D4 (IR [br16_3] λw v0 hA hO hap hks h0=>TF (Cf:=λys=>Row (XcF (q_21.set (Xaa x_20) ys)) cr16_3) (W4 ex_24.h) (λys hy=>Yn ex_24.h hy) w v0 hA hO hap hks h0 ex_25.h) rfl λ_=>?_
        dsimp only[Xan,Xam];refine zE ?_;refine Ai bo16_3 (NQ (ys:=x_25) ex_24.h (Mj ex_25.h)) ?_;refine zn H22 λq_26 eq_26 H22=>?_
        refine Ai br16_3 (Qx eq_26.h) ?_;refine zX (Ai bo16_3 (Qw eq_26.h)) ?_;refine zb H22 λx_27 _ H22=>?_
        exact Zv ⟨x_27,q_26⟩ () (ZZs H22) (Za (Za (Za (Za (Za (Ze _)))))) (Zd rfl (Zd rfl (Zd rfl (Zd rfl (Zd rfl (Zf _))))))
       .refine zg ?_;exact Zl q_21 () (he22 _ (ZZs H22)).symm (Za (Za (Ze _))) (Zd rfl (Zd rfl (Zd rfl (Zd rfl (Zd rfl (Zf _))))))
      rintro q_18 ⟨⟩ hp;replace hp:=hp.symm;subst hp;refine zg ?_;refine TSx (D7 trivial rfl rfl)<|Bk (Aj trivial rfl CtSc.h) ?_;refine zC ?_;refine ZO<|Zi ?_;refine zn H λ_ eu_28 H=>?_
      refine Xdw bo16_3 br16_3 rfl (Gc eu_28.h) ?_;refine zn H λx_29 ex_29 H=>?_
      refine Xb3 b16_3 bo16_3 (o:=((0+Xaa block0*Dat.sz Zo)+0)) (((PF 0 Zo (List (List UInt8)) (AP ex_29.h))).st (q_18:List (List UInt8))) (ZJ XaR (Gc eu_28.h)) ?_;refine Ai b4_1 (Fw (m:=l_17.length) (n:=(l_17.set (Xaa block0) (⟨q_18,x_29.Used,x_29.Worn,x_29.Bad⟩:Zo)).length) (by simp))<|Xb3 b4_1 b16_3 (o:=2) (((PF 2 Chip (List Zo) ZB)).st ((l_17.set (Xaa block0) (⟨q_18,x_29.Used,x_29.Worn,x_29.Bad⟩:Zo)):List Zo)) (ZJ XaR (by simp)) ?_;exact zY H
     .refine zg ?_;refine zn H λ_ ex_30 H=>?_
      refine Bk (ZD (y:=(c0.Pages:Int)) (Xcw (PF 1 Zo Int (AP ex_30.h)) (by first|decide|omega))) ?_;refine zC ?_;refine zn H λl_31 el_31 H=>?_
      refine ZF b16_3 (DC (Ah el_31.h))<|ZF b6_4 (Fw (EB el_31.h (by simp))) ?_;refine zC ?_;refine zh H λo_33 H33 H=>?_
      refine Zs (λs:(List (List UInt8))=>o_33=s) (λ(q_32:(List (List UInt8))) (_:Unit)=>(TR (TR (TR Xaj 4 (Pt b4_1 0)) 6 (Pt b6_4 0)) 8 (Pt b8_10 0))) (λ(q_32:(List (List UInt8))) (_:Unit)=>[⟨b16_3,p16_3,(Xa4 (Row (l_31:List Zo) c16_3) ((0+Xaa block0*Dat.sz Zo)+0) (Sl bo16_3 po16_3 0 x_9.Pages.length co16_3))⟩,⟨bo16_3,po16_3,LH br16_3 po16_3 1 (Xd2 Xat q_32) x_9.Pages.length⟩,⟨br16_3,po16_3,(Row (XcF q_32:List UInt8) cr16_3)⟩,⟨b4_1,True,(One ((Dat.z:Chip):Chip))⟩,⟨b6_4,True,(Xa4 (One d_13) 2 (Sl b16_3 p16_3 0 l_31.length c16_3))⟩,⟨b8_10,True,(One r_10.1)⟩]) ?_ ?_
      .skip;refine Zr<|Zx H33 (λ⟨x_34,q_35⟩ (_:Unit)=>(TR (TR (TR (TR (TR (TR (TR Xaj 2 (Pt b2_0 0)) 4 (Pt b4_1 0)) 6 (Pt b6_4 0)) 7 (Pq b16_3 (0+Xaa block0*Dat.sz Zo) p16_3)) 8 (Pt b8_10 0)) 90 (D c0.Pages)) 91 (D x_34))) (λ⟨x_34,q_35⟩ (_:Unit)=>[⟨b16_3,p16_3,(Xa4 (Row (l_31:List Zo) c16_3) ((0+Xaa block0*Dat.sz Zo)+0) (Sl bo16_3 po16_3 0 x_9.Pages.length co16_3))⟩,⟨bo16_3,po16_3,LH br16_3 po16_3 1 (Xd2 Xat q_35) x_9.Pages.length⟩,⟨br16_3,po16_3,(Row (XcF q_35:List UInt8) cr16_3)⟩,⟨b2_0,True,(One c0)⟩,⟨b4_1,True,(One ((Dat.z:Chip):Chip))⟩,⟨b6_4,True,(Xa4 (One d_13) 2 (Sl b16_3 p16_3 0 l_31.length c16_3))⟩,⟨b8_10,True,(One r_10.1)⟩]) () (Za (Za (Za (Za (Za (Za (Za (Ze _)))))))) (Zd rfl (Zd rfl (Zd rfl (Zd rfl (Zd rfl (Zd rfl (Zd rfl (Zf _)))))))) ?_;rintro⟨x_34,q_35⟩ ⟨⟩ x_36 H36 he36;dsimp only at H36;unfold Gw at H36;refine zg ?_;refine zc H36 (λhc H36=>?_) λhc H36=>?_
       .refine zC ?_;refine zC ?_;refine zh H36 λo_38 H38 H36=>?_
        refine Zs (λs:(List (List UInt8))=>o_38=s) (λ(q_37:(List (List UInt8))) (_:Unit)=>(TR (TR (TR (TR (TR (TR (TR Xaj 2 (Pt b2_0 0)) 4 (Pt b4_1 0)) 6 (Pt b6_4 0)) 7 (Pq b16_3 (0+Xaa block0*Dat.sz Zo) p16_3)) 8 (Pt b8_10 0)) 90 (D c0.Pages)) 91 (D x_34))) (λ(q_37:(List (List UInt8))) (_:Unit)=>[⟨b16_3,p16_3,(Xa4 (Row (l_31:List Zo) c16_3) ((0+Xaa block0*Dat.sz Zo)+0) (Sl bo16_3 po16_3 0 x_9.Pages.length co16_3))⟩,⟨bo16_3,po16_3,LH br16_3 po16_3 1 (Xd2 Xat q_37) x_9.Pages.length⟩,⟨br16_3,po16_3,(Row (XcF q_37:List UInt8) cr16_3)⟩,⟨b2_0,True,(One c0)⟩,⟨b4_1,True,(One ((Dat.z:Chip):Chip))⟩,⟨b6_4,True,(Xa4 (One d_13) 2 (Sl b16_3 p16_3 0 l_31.length c16_3))⟩,⟨b8_10,True,(One r_10.1)⟩]) ?_ ?_
        .skip;refine Zr<|Zx H38 (λ⟨x_39,q_40⟩ (_:Unit)=>(TR (TR (TR (TR (TR (TR (TR (TR (TR (TR Xaj 2 (Pt b2_0 0)) 4 (Pt b4_1 0)) 6 (Pt b6_4 0)) 7 (Pq b16_3 (0+Xaa block0*Dat.sz Zo) p16_3)) 8 (Pt b8_10 0)) 11 (D x_34)) 90 (D c0.Pages)) 91 (D x_34)) 95 (D c0.Size)) 96 (D x_39))) (λ⟨x_39,q_40⟩ (_:Unit)=>[⟨b16_3,p16_3,(Xa4 (Row (l_31:List Zo) c16_3) ((0+Xaa block0*Dat.sz Zo)+0) (Sl bo16_3 po16_3 0 x_9.Pages.length co16_3))⟩,⟨bo16_3,po16_3,LH br16_3 po16_3 1 (Xd2 Xat q_40) x_9.Pages.length⟩,⟨br16_3,po16_3,(Row (XcF q_40:List UInt8) cr16_3)⟩,⟨b2_0,True,(One c0)⟩,⟨b4_1,True,(One ((Dat.z:Chip):Chip))⟩,⟨b6_4,True,(Xa4 (One d_13) 2 (Sl b16_3 p16_3 0 l_31.length c16_3))⟩,⟨b8_10,True,(One r_10.1)⟩]) () (Za (Za (Za (Za (Za (Za (Za (Za (Za (Za (Ze _))))))))))) (Zd rfl (Zd rfl (Zd rfl (Zd rfl (Zd rfl (Zd rfl (Zd rfl (Zf _)))))))) ?_;rintro⟨x_39,q_40⟩ ⟨⟩ x_41 H41 he41;dsimp only at H41;unfold Gv at H41;refine zg ?_;refine zc H41 (λhc H41=>?_) λhc H41=>?_
         .refine zC ?_;refine zX (Gf [6,8,9,12,13,14] [bo16_3,br16_3] mix (by kernel_rfl) (by kernel_rfl)) ?_;refine zX (Fd (ZW Af) rfl) ?_;refine zn H41 λ_ eu_42 H41=>?_
          refine zn H41 λx_43 ex_43 H41=>?_
          refine TRx (Zt (ZP ex_43.h (Gc eu_42.h))) ?_;refine zX (GT (λg=>HA rfl (ZW (Oa ex_43.h (by show 0+_*1=_;omega)))) rfl) ?_;refine zn H41 λx_44 ex_44 H41=>?_
          refine GT (λg=>HA rfl (Zt (ZP ex_44.h rfl))) rfl ?_;refine zX (GT (λg=>HA rfl (AL (Rh ex_43.h ex_44.h))) rfl) ?_;refine GT (λg=>HA rfl T3) rfl ?_;refine zn H41 λ_ ex_45 H41=>?_
          refine GT (λg=>HA rfl (Zt (ZP ex_45.h rfl))) rfl<|DP (λg=>(ZD (y:=((x_44 ||| r_10.1.Mask):UInt8)) (Rh ex_43.h ex_45.h))) rfl ?_;refine zC ?_;rintro⟨⟨⟨⟨⟨⟨_,_⟩,_⟩,_⟩,_⟩,_⟩,_⟩;dsimp only[XaV,XaW,XaS,Xan,Xam];refine Ai bo16_3 (NQ (ys:=(x_43.set (Xaa x_39) (x_44 ||| r_10.1.Mask))) ex_43.h (by simp)) ?_;refine zn H41 λq_46 eq_46 H41=>?_
          refine Ai br16_3 (Qx eq_46.h) ?_;refine zX (Ai bo16_3 (Qw eq_46.h)) ?_;refine zb H41 λx_47 _ H41=>?_
          exact Zv ⟨x_47,q_46⟩ () (ZZs H41) (Za (Za (Za (Za (Za (Za (Za (Za (Za (Za (Ze _))))))))))) (Zd rfl (Zd rfl (Zd rfl (Zd rfl (Zd rfl (Zd rfl (Zd rfl (Zf _))))))))
         .refine zg ?_;exact Zl q_40 () (he41 _ (ZZs H41)).symm (Za (Za (Za (Za (Za (Za (Za (Ze _)))))))) (Zd rfl (Zd rfl (Zd rfl (Zd rfl (Zd rfl (Zd rfl (Zd rfl (Zf _))))))))
        rintro q_37 ⟨⟩ hp;replace hp:=hp.symm;subst hp;refine zg ?_;refine zb H36 λx_48 _ H36=>?_
        exact Zv ⟨x_48,q_37⟩ () (ZZs H36) (Za (Za (Za (Za (Za (Za (Za (Ze _)))))))) (Zd rfl (Zd rfl (Zd rfl (Zd rfl (Zd rfl (Zd rfl (Zd rfl (Zf _))))))))
       .refine zg ?_;exact Zl q_35 () (he36 _ (ZZs H36)).symm (Za (Za (Za (Ze _)))) (Zd rfl (Zd rfl (Zd rfl (Zd rfl (Zd rfl (Zd rfl (Zf _)))))))
      rintro q_32 ⟨⟩ hp;replace hp:=hp.symm;subst hp;refine zg ?_;refine zb H λr_49 _ H=>?_
      refine Bk (ZD (y:=(r_49.1:Bool)) (Xcw (PF 4 Chip Bool ZB) (by first|decide|omega))) ?_;refine zC ?_;refine zn H λ_ ed_50 H=>?_
      refine zX (ZF b6_4 (DC (Ag ed_50.h))) ?_;refine zX (A4 (D7 trivial rfl rfl) rfl) ?_;refine Bk (Aj trivial rfl CtSc.h) ?_;refine zC ?_;refine ZO ?_;refine zn H λ_ eu_51 H=>?_
      refine Xdw bo16_3 br16_3 rfl (Gc eu_51.h) ?_;refine zn H λx_52 ex_52 H=>?_
      refine Xb3 b16_3 bo16_3 (o:=((0+Xaa block0*Dat.sz Zo)+0)) (((PF 0 Zo (List (List UInt8)) (AP ex_52.h))).st (q_32:List (List UInt8))) (ZJ XaR (Gc eu_51.h)) ?_;refine Ai b4_1 (Fw (m:=l_31.length) (n:=(l_31.set (Xaa block0) (⟨q_32,x_52.Used,x_52.Worn,x_52.Bad⟩:Zo)).length) (by simp))<|Xb3 b4_1 b16_3 (o:=2) (((PF 2 Chip (List Zo) ZB)).st ((l_31.set (Xaa block0) (⟨q_32,x_52.Used,x_52.Worn,x_52.Bad⟩:Zo)):List Zo)) (ZJ XaR (by simp)) ?_;exact zY H
def EZ(x0:Int):Option Bool:=
 some (decide (x0≠x0))
instance XX:Fd1 217 EZ λr=>D r:=en1 Tryz.func217 rfl Tryz.ntmps217 λ_ _ _ _ _ H=>by
 unfold EZ at H;exact zY H
def B6(x0:Int)(y0:Int):Option Int:=
 (EZ x0).bind λx_1=>(EZ y0).bind λx_2=>bif x_1 then(bif x_2 then(some (0:Int))else(some (-1:Int)))else(bif x_2 then(some (1:Int))else(bif (decide (x0<y0))then(some (-1:Int))else(bif (decide (x0>y0))then(some (1:Int))else(some (0:Int)))))
instance Wa:Fd2 213 B6 λr=>D r:=en2 Tryz.func213 rfl Tryz.ntmps213 λ_ _ _ _ _ _ H=>by
 unfold B6 at H;exact zY H
def Bl(b0:Zn)(c0:Zn):Option Int:=
 (B6 c0.Wear.Used b0.Wear.Used).bind λx_3=>some x_3
instance SW:Fd2 201 Bl λr=>D r:=en2 Tryz.func201 rfl Tryz.ntmps201 λ_ _ _ _ _ _ H=>by
 unfold Bl at H;exact zY H
instance {Γ:Env}:Has Γ (.func 201) (D (⟨Bl⟩:F2 Tryz.prog Zn Zn Int)):=⟨λa A w _=>Xf4 (P:=Tryz.prog) (f:=201) λw v0 v1 hA h0 h1 e=>SW.h w v0 v1 hA h0 h1 e⟩
def ZR(b0:Zn)(c0:Zn):Option Int:=
 (B6 b0.Wear.Worn c0.Wear.Worn).bind λx_3=>some x_3
instance SQ:Fd2 199 ZR λr=>D r:=en2 Tryz.func199 rfl Tryz.ntmps199 λ_ _ _ _ _ _ H=>by
 unfold ZR at H;exact zY H
instance {Γ:Env}:Has Γ (.func 199) (D (⟨ZR⟩:F2 Tryz.prog Zn Zn Int)):=⟨λa A w _=>Xf4 (P:=Tryz.prog) (f:=199) λw v0 v1 hA h0 h1 e=>SQ.h w v0 v1 hA h0 h1 e⟩
def Gl(l0:(List Wear))(pages0:Int)(x_2:Int):Option (Int⊕(Unit⊕Bool)):=
 bif (decide (x_2<(l0.length:Int)))then((idx l0 x_2).bind λx_4=>bif (((((decide (x_4.Live<(0:Int)))||(decide (x_4.Live>x_4.Used)))||(decide (x_4.Used>pages0)))||(decide (x_4.Worn<(0:Int))))||(decide (x_4.Worn>(1099511627776:Int))))then(some (.inr (.inr false)))else((AC x_2 1).bind λx_7=>some (.inl x_7)))else(some (.inr (.inl ())))
def GE(l0:(List Wear))(pages0:Int):Option Bool:=
 bif ((((decide ((l0.length:Int)<(1:Int)))||(decide ((l0.length:Int)>(32:Int))))||(decide (pages0<(1:Int))))||(decide (pages0>(16:Int))))then(some false)else((ZN (λs=>Gl l0 pages0 s) (0:Int)).bind λo_1=>elS o_1 (λ_=>some true) (λq=>some q))
instance Zcf:Fd2 211 GE λr=>D r:=en2 Tryz.func211 rfl Tryz.ntmps211 λA w hA l0 pages0 r H=>by
 unfold GE at H;refine zg ?_;refine zc H (λhc H=>?_) λhc H=>?_
 .exact zY H
 .refine zC ?_;refine zh H λo_1 H1 H=>?_
  refine Zs (λs:Unit=>o_1=.inl s) (λ(_:Unit) (_:Unit)=>Xaj) (λ(_:Unit) (_:Unit)=>[]) ?_ ?_
  .skip;refine Zr<|Zx H1 (λ(x_2:Int) (_:Unit)=>(TR (TR (TR (TR Xaj 1 (D pages0)) 23 (D l0)) 24 (D ((l0.length:Int):Int))) 25 (D x_2))) (λ(x_2:Int) (_:Unit)=>[]) () (Za (Za (Za (Za (Ze _))))) (Zf _) ?_;rintro x_2 ⟨⟩ x_3 H3 he3;unfold Gl at H3;refine zg ?_;refine zc H3 (λhc H3=>?_) λhc H3=>?_
   .refine zg ?_;refine zb H3 λ_ _ H3=>?_
    refine Xaq rfl λb6_4=>zg ?_
    refine zc H3 (λhc H3=>?_) λhc H3=>?_
    .refine zC ?_;refine ZO<|Zh<|Zi<|Zi<|Zh<|Zw ?_;have R5:=AQ (he3 _ (ZZs H3)) H;refine zg ?_;obtain rfl:=ZZi R5;exact Bc rfl Cv.le
    .refine zg ?_;refine zb H3 λx_7 _ H3=>?_
     exact Zv x_7 () (ZZs H3) (Za (Za (Za (Za (Ze _))))) (Zf _)
   .refine zg ?_;exact Zl () () (he3 _ (ZZs H3)).symm (Ze _) (Zf _)
  rintro⟨⟩ ⟨⟩ hp;replace H:=Bs hp H;exact zY H
def Gk(a0:Zn)(b0:Zn)(orders0:(List (F2 Tryz.prog Zn Zn Int)))(x_4:Int):Option (Int⊕(Unit⊕Bool)):=
 bif (decide (x_4<(orders0.length:Int)))then((idx orders0 x_4).bind λx_6=>((x_6).f a0 b0).bind λx_7=>bif (decide (x_7≠(0:Int)))then(some (.inr (.inr (decide (x_7<(0:Int))))))else((AC x_4 1).bind λx_9=>some (.inl x_9)))else(some (.inr (.inl ())))
def Fi(a0:Zn)(b0:Zn)(orders0:(List (F2 Tryz.prog Zn Zn Int))):Option Bool:=
 (ZN (λs=>Gk a0 b0 orders0 s) (0:Int)).bind λo_3=>elS o_3 (λ_=>some false) (λq=>some q)
instance Zce:Fd3 212 Fi λr=>D r:=en3 Tryz.func212 rfl Tryz.ntmps212 λA w hA a0 b0 orders0 r H=>by
 unfold Fi at H;refine zg ?_;refine Xa9 rfl λb3_0=>?_
 refine Xa9 rfl λb4_1=>?_
 refine zC ?_;refine zC ?_;refine zh H λo_3 H3 H=>?_
 refine Zs (λs:Unit=>o_3=.inl s) (λ(_:Unit) (_:Unit)=>Xaj) (λ(_:Unit) (_:Unit)=>[]) ?_ ?_
 .skip;refine Zr<|Zx H3 (λ(x_4:Int) (_:Unit)=>(TR (TR (TR (TR (TR Xaj 3 (Pt b3_0 0)) 4 (Pt b4_1 0)) 10 (D orders0)) 11 (D ((orders0.length:Int):Int))) 12 (D x_4))) (λ(x_4:Int) (_:Unit)=>[⟨b3_0,True,(One a0)⟩,⟨b4_1,True,(One b0)⟩]) () (Za (Za (Za (Za (Za (Ze _)))))) (Zd rfl (Zd rfl (Zf _))) ?_;rintro x_4 ⟨⟩ x_5 H5 he5;unfold Gk at H5;refine zg ?_;refine zc H5 (λhc H5=>?_) λhc H5=>?_
  .refine zg ?_;refine zb H5 λ_ _ H5=>?_
   refine zn H5 λ_ ex_7 H5=>?_
   refine zX (A4 (Ww ex_7.h) rfl) ?_;refine zc H5 (λhc H5=>?_) λhc H5=>?_
   .refine zC ?_;refine ZO<|Zh<|Zi<|Zi<|Zh<|Zw ?_;have R7:=AQ (he5 _ (ZZs H5)) H;refine zg ?_;obtain rfl:=ZZi R7;exact Bc rfl Cv.le
   .refine zg ?_;refine zb H5 λx_9 _ H5=>?_
    exact Zv x_9 () (ZZs H5) (Za (Za (Za (Za (Za (Ze _)))))) (Zd rfl (Zd rfl (Zf _)))
  .refine zg ?_;exact Zl () () (he5 _ (ZZs H5)).symm (Ze _) (Zf _)
 rintro⟨⟩ ⟨⟩ hp;replace H:=Bs hp H;exact zY H
def DU(l0:(List Wear))(pages0:Int)(rule0:(F1 Tryz.prog Zn Bool))(orders0:(List (F2 Tryz.prog Zn Zn Int)))(at_5:Int)(found_6:Bool)(x_7:Int):Option ((Int×Bool×Int)⊕(Int×Bool)):=
 bif (decide (x_7<(l0.length:Int)))then(((idx l0 x_7).bind λx_12=>(some ((⟨x_12,pages0⟩:Zn):Zn)).bind λbx_15=>((rule0).f bx_15).bind λx_16=>bif (!x_16)then(some (at_5,found_6))else((gb (!(!found_6)) (idx l0 at_5)).bind λx_17=>(gb (!(!found_6)) (Fi bx_15 (⟨x_17,pages0⟩:Zn) orders0)).bind λx_18=>bif ((!found_6)||x_18)then(some (x_7,true))else(some (at_5,found_6)))).bind λo_11=>el2 o_11 (λat_9 found_10=>(AC x_7 1).bind λx_19=>some (.inl (at_9,found_10,x_19))))else(some (.inr (at_5,found_6)))
def Fh(l0:(List Wear))(pages0:Int)(rule0:(F1 Tryz.prog Zn Bool))(orders0:(List (F2 Tryz.prog Zn Zn Int))):Option (Int×Bool):=
 (GE l0 pages0).bind λx_1=>bif (!x_1)then(some ((0:Int),false))else((ZN (λs=>DU l0 pages0 rule0 orders0 s.1 s.2.1 s.2.2) ((0:Int),false,(0:Int))).bind λo_4=>el2 o_4 (λat_2 found_3=>some (at_2,found_3)))
instance Zcd:Fd4 197 Fh λr=>Tup [D r.1,D r.2]:=en4 Tryz.func197 rfl Tryz.ntmps197 λA w hA l0 pages0 rule0 orders0 r H=>by
 unfold Fh at H;refine zg ?_;refine zb H λ_ _ H=>?_
 refine zc H (λhc H=>?_) λhc H=>?_
 .exact zY H
 .refine zC ?_;refine zC ?_;refine zh H λo_4 H4 H=>?_
  refine Zs (λs:(Int×Bool)=>o_4=s) (λ⟨at_2,found_3⟩ (_:Unit)=>(TR (TR Xaj 10 (D at_2)) 11 (D found_3))) (λ⟨at_2,found_3⟩ (_:Unit)=>[]) ?_ ?_
  .skip;refine Zr<|Zx H4 (λ⟨at_5,found_6,x_7⟩ (_:Unit)=>(TR (TR (TR (TR (TR (TR (TR (TR (TR Xaj 0 (D l0)) 1 (D pages0)) 2 (D rule0)) 3 (D orders0)) 10 (D at_5)) 11 (D found_6)) 19 (D l0)) 20 (D ((l0.length:Int):Int))) 21 (D x_7))) (λ⟨at_5,found_6,x_7⟩ (_:Unit)=>[]) () (Za (Za (Za (Za (Za (Za (Za (Za (Za (Ze _)))))))))) (Zf _) ?_;rintro⟨at_5,found_6,x_7⟩ ⟨⟩ x_8 H8 he8;dsimp only at H8;unfold DU at H8;refine zg ?_;refine zc H8 (λhc H8=>?_) λhc H8=>?_
   .refine AH<|Az<|AI ?_;refine zh H8 λo_11 H11 H8=>?_
    refine Zs (λs:(Int×Bool)=>o_11=s) (λ⟨at_9,found_10⟩ (_:Unit)=>(TR (TR (TR (TR (TR (TR (TR (TR (TR Xaj 0 (D l0)) 1 (D pages0)) 2 (D rule0)) 3 (D orders0)) 10 (D at_9)) 11 (D found_10)) 19 (D l0)) 20 (D ((l0.length:Int):Int))) 21 (D x_7))) (λ⟨at_9,found_10⟩ (_:Unit)=>[]) ?_ ?_
    .skip;refine zg ?_;refine zb H11 λx_12 _ H11=>?_
     refine Xaq rfl λb13_12=>zg ?_
     refine TSx (tB (⟨x_12,pages0⟩:Zn) rfl rfl) ?_;refine Xaq rfl λb14_13=>?_
     refine zC ?_;refine zn H11 λ_ ebx_15 H11=>?_
     refine zX (ZF b14_13 (Ag ebx_15.h)) ?_;refine zn H11 λ_ ex_16 H11=>?_
     refine zX (A4 (M9 ex_16.h) rfl) ?_;refine zc H11 (λhc H11=>?_) λhc H11=>?_
     .refine zg ?_;exact Zl ⟨at_5,found_6⟩ () (ZZs H11) (Za (Za (Za (Za (Za (Za (Za (Za (Za (Ze _)))))))))) (Zf _)
     .refine zg ?_;refine zd H11 λx_17 _ H11=>?_
      refine zX (Yg 35 rfl (λhg=>(tB (⟨x_17,pages0⟩:Zn) rfl rfl)) rfl) ?_;refine zd H11 λ_ _ H11=>?_
      refine zc H11 (λhc H11=>?_) λhc H11=>?_
      .refine zg ?_;exact Zl ⟨x_7,true⟩ () (ZZs H11) (Za (Za (Za (Za (Za (Za (Za (Za (Za (Ze _)))))))))) (Zf _)
      .refine zg ?_;exact Zl ⟨at_5,found_6⟩ () (ZZs H11) (Za (Za (Za (Za (Za (Za (Za (Za (Za (Ze _)))))))))) (Zf _)
    rintro⟨at_9,found_10⟩ ⟨⟩ hp;replace hp:=hp.symm;subst hp;replace H8:=EX H8;refine zg ?_;refine zb H8 λx_19 _ H8=>?_
    exact Zv ⟨at_9,found_10,x_19⟩ () (ZZs H8) (Za (Za (Za (Za (Za (Za (Za (Za (Za (Ze _)))))))))) (Zf _)
   .refine zg ?_;exact Zl ⟨at_5,found_6⟩ () (he8 _ (ZZs H8)).symm (Za (Za (Ze _))) (Zf _)
  rintro⟨at_2,found_3⟩ ⟨⟩ hp;replace hp:=hp.symm;subst hp;replace H:=EX H;exact zY H
def BW(b0:Zn):Option Bool:=
 some ((!b0.Wear.Bad)&&(decide (b0.Wear.Used<b0.pages)))
instance Vs:Fd1 200 BW λr=>D r:=en1 Tryz.func200 rfl Tryz.ntmps200 λ_ _ _ _ _ H=>by
 unfold BW at H;exact zY H
instance {Γ:Env}:Has Γ (.func 200) (D (⟨BW⟩:F1 Tryz.prog Zn Bool)):=⟨λa A w _=>Xes (P:=Tryz.prog) (f:=200) λw v0 hA h0 e=>Vs.h w v0 hA h0 e⟩
def Eu(l0:(List Wear))(pages0:Int):Option (Int×Bool):=
 (Fh l0 pages0 (⟨BW⟩:(F1 Tryz.prog Zn Bool)) ([(⟨Bl⟩:(F2 Tryz.prog Zn Zn Int)),(⟨ZR⟩:(F2 Tryz.prog Zn Zn Int))]:List (F2 Tryz.prog Zn Zn Int))).bind λr_1=>some (r_1.1,r_1.2)
instance Zcg:Fd2 179 Eu λr=>Tup [D r.1,D r.2]:=en2 Tryz.func179 rfl Tryz.ntmps179 λA w hA l0 pages0 r H=>by
 unfold Eu at H;refine zg ?_;refine TSx (Xbx [.func 201,.func 199] rfl rfl (by decide)) ?_;exact zY H
def BX(b0:Zn):Option Bool:=
 some (((!b0.Wear.Bad)&&(decide (b0.Wear.Live=(0:Int))))&&(decide (b0.Wear.Used>(0:Int))))
instance Vt:Fd1 198 BX λr=>D r:=en1 Tryz.func198 rfl Tryz.ntmps198 λ_ _ _ _ _ H=>by
 unfold BX at H;exact zY H
instance {Γ:Env}:Has Γ (.func 198) (D (⟨BX⟩:F1 Tryz.prog Zn Bool)):=⟨λa A w _=>Xes (P:=Tryz.prog) (f:=198) λw v0 hA h0 e=>Vt.h w v0 hA h0 e⟩
def EI(l0:(List Wear))(pages0:Int):Option (Int×Bool):=
 (Fh l0 pages0 (⟨BX⟩:(F1 Tryz.prog Zn Bool)) ([(⟨ZR⟩:(F2 Tryz.prog Zn Zn Int))]:List (F2 Tryz.prog Zn Zn Int))).bind λr_1=>some (r_1.1,r_1.2)
instance Zc7:Fd2 176 EI λr=>Tup [D r.1,D r.2]:=en2 Tryz.func176 rfl Tryz.ntmps176 λA w hA l0 pages0 r H=>by
 unfold EI at H;refine zg ?_;refine TSx (Xbx [.func 199] rfl rfl (by decide)) ?_;exact zY H
def BB(b0:Zn)(c0:Zn):Option Int:=
 bif (decide (b0.Wear.Bad=c0.Wear.Bad))then(some (0:Int))else(bif b0.Wear.Bad then(some (-1:Int))else(some (1:Int)))
instance Uk:Fd2 206 BB λr=>D r:=en2 Tryz.func206 rfl Tryz.ntmps206 λA w hA b0 c0 r H=>by
 unfold BB at H;refine zg ?_;refine Xa9 rfl λb2_0=>?_
 refine Xa9 rfl λb3_1=>zg ?_
 refine TSx (SH Tryz.underlying4) ?_;exact zY H
instance {Γ:Env}:Has Γ (.func 206) (D (⟨BB⟩:F2 Tryz.prog Zn Zn Int)):=⟨λa A w _=>Xf4 (P:=Tryz.prog) (f:=206) λw v0 v1 hA h0 h1 e=>Uk.h w v0 v1 hA h0 h1 e⟩
def A5(b0:Zn)(c0:Zn):Option Int:=
 (B6 b0.Wear.Live c0.Wear.Live).bind λx_3=>some x_3
instance SR:Fd2 207 A5 λr=>D r:=en2 Tryz.func207 rfl Tryz.ntmps207 λ_ _ _ _ _ _ H=>by
 unfold A5 at H;exact zY H
instance {Γ:Env}:Has Γ (.func 207) (D (⟨A5⟩:F2 Tryz.prog Zn Zn Int)):=⟨λa A w _=>Xf4 (P:=Tryz.prog) (f:=207) λw v0 v1 hA h0 h1 e=>SR.h w v0 v1 hA h0 h1 e⟩
def BC(b0:Zn):Option Bool:=
 bif b0.Wear.Bad then(some (decide (b0.Wear.Live>(0:Int))))else(some (((decide (b0.Wear.Used=b0.pages))&&(decide (b0.Wear.Live>(0:Int))))&&(decide (b0.Wear.Live<b0.pages))))
instance Ul:Fd1 205 BC λr=>D r:=en1 Tryz.func205 rfl Tryz.ntmps205 λ_ _ _ _ _ H=>by
 unfold BC at H;exact zY H
instance {Γ:Env}:Has Γ (.func 205) (D (⟨BC⟩:F1 Tryz.prog Zn Bool)):=⟨λa A w _=>Xes (P:=Tryz.prog) (f:=205) λw v0 hA h0 e=>Ul.h w v0 hA h0 e⟩
def GX(l0:(List Wear))(pages0:Int):Option (Int×Bool):=
 (Fh l0 pages0 (⟨BC⟩:(F1 Tryz.prog Zn Bool)) ([(⟨BB⟩:(F2 Tryz.prog Zn Zn Int)),(⟨A5⟩:(F2 Tryz.prog Zn Zn Int)),(⟨ZR⟩:(F2 Tryz.prog Zn Zn Int))]:List (F2 Tryz.prog Zn Zn Int))).bind λr_1=>some (r_1.1,r_1.2)
instance Zac:Fd2 192 GX λr=>Tup [D r.1,D r.2]:=en2 Tryz.func192 rfl Tryz.ntmps192 λA w hA l0 pages0 r H=>by
 unfold GX at H;refine zg ?_;refine TSx (Xbx [.func 206,.func 207,.func 199] rfl rfl (by decide)) ?_;exact zY H
def HH(l0:(List Wear))(pages0:Int)(room_4:Int)(x_5:Int):Option ((Int×Int)⊕Int):=
 bif (decide (x_5<(l0.length:Int)))then(((idx l0 x_5).bind λx_9=>(some ((⟨x_9,pages0⟩:Zn):Zn)).bind λbx_12=>(BX bx_12).bind λx_13=>bif x_13 then((AC room_4 pages0).bind λx_14=>some x_14)else((BW bx_12).bind λx_15=>bif x_15 then((GG pages0 bx_12.Wear.Used).bind λx_16=>(AC room_4 x_16).bind λx_17=>some x_17)else(some room_4))).bind λroom_7=>(AC x_5 1).bind λx_18=>some (.inl (room_7,x_18)))else(some (.inr room_4))
def Ir(l0:(List Wear))(pages0:Int):Option Int:=
 (GE l0 pages0).bind λx_1=>bif (!x_1)then(some (0:Int))else((ZN (λs=>HH l0 pages0 s.1 s.2) ((0:Int),(0:Int))).bind λroom_2=>some room_2)
instance Zc6:Fd2 195 Ir λr=>D r:=en2 Tryz.func195 rfl Tryz.ntmps195 λA w hA l0 pages0 r H=>by
 unfold Ir at H;refine zg ?_;refine zb H λ_ _ H=>?_
 refine zc H (λhc H=>?_) λhc H=>?_
 .exact zY H
 .refine zC ?_;refine zC ?_;refine zh H λo_3 H3 H=>?_
  refine Zs (λs:Int=>o_3=s) (λ(room_2:Int) (_:Unit)=>(TR Xaj 5 (D room_2))) (λ(room_2:Int) (_:Unit)=>[]) ?_ ?_
  .skip;refine Zr<|Zx H3 (λ⟨room_4,x_5⟩ (_:Unit)=>(TR (TR (TR (TR (TR Xaj 1 (D pages0)) 5 (D room_4)) 13 (D l0)) 14 (D ((l0.length:Int):Int))) 15 (D x_5))) (λ⟨room_4,x_5⟩ (_:Unit)=>[]) () (Za (Za (Za (Za (Za (Ze _)))))) (Zf _) ?_;rintro⟨room_4,x_5⟩ ⟨⟩ x_6 H6 he6;dsimp only at H6;unfold HH at H6;refine zg ?_;refine zc H6 (λhc H6=>?_) λhc H6=>?_
   .refine AH<|Az<|AI ?_;refine zh H6 λo_8 H8 H6=>?_
    refine Zs (λs:Int=>o_8=s) (λ(room_7:Int) (_:Unit)=>(TR (TR (TR (TR (TR Xaj 1 (D pages0)) 5 (D room_7)) 13 (D l0)) 14 (D ((l0.length:Int):Int))) 15 (D x_5))) (λ(room_7:Int) (_:Unit)=>[]) ?_ ?_
    .skip;refine zg ?_;refine zb H8 λx_9 _ H8=>?_
     refine Xaq rfl λb7_9=>zg ?_
     refine TSx (tB (⟨x_9,pages0⟩:Zn) rfl rfl) ?_;refine Xaq rfl λb8_10=>?_
     refine zC ?_;refine zn H8 λ_ ebx_12 H8=>?_
     refine zX (ZF b8_10 (Ag ebx_12.h)) ?_;refine zb H8 λ_ _ H8=>?_
     refine zc H8 (λhc H8=>?_) λhc H8=>?_
     .refine zg ?_;refine zb H8 λx_14 _ H8=>?_
      exact Zl x_14 () (ZZs H8) (Za (Za (Za (Za (Za (Ze _)))))) (Zf _)
     .refine zg ?_;refine zb H8 λ_ _ H8=>?_
      refine zc H8 (λhc H8=>?_) λhc H8=>?_
      .refine zg ?_;refine zb H8 λ_ _ H8=>?_
       refine zb H8 λx_17 _ H8=>?_
       exact Zl x_17 () (ZZs H8) (Za (Za (Za (Za (Za (Ze _)))))) (Zf _)
      .refine zg ?_;exact Zl room_4 () (ZZs H8) (Za (Za (Za (Za (Za (Ze _)))))) (Zf _)
    rintro room_7 ⟨⟩ hp;replace hp:=hp.symm;subst hp;refine zg ?_;refine zb H6 λx_18 _ H6=>?_
    exact Zv ⟨room_7,x_18⟩ () (ZZs H6) (Za (Za (Za (Za (Za (Ze _)))))) (Zf _)
   .refine zg ?_;exact Zl room_4 () (he6 _ (ZZs H6)).symm (Za (Ze _)) (Zf _)
  rintro room_2 ⟨⟩ hp;replace hp:=hp.symm;subst hp;exact zY H
def En(b0:(List UInt8)):Option (List UInt8):=
 (Dv 1 ((0+b0.length:Nat):Int)).bind λ_=>some b0
theorem Q2{b0:(List UInt8)}{r:(List UInt8)} (H:En b0=some r):CO1 77 [] (D b0) (λg:Nat×Prop×Nat=>Sl g.1 g.2.1 0 (Xat r) g.2.2) λg=>[⟨g.1,g.2.1,Row (r:List UInt8) g.2.2⟩]:=eO1 Tryz.func77 rfl Tryz.ntmps77 λA w hA hO=>by
 unfold En at H;refine zn H λ_ eu H=>?_
 obtain rfl:=ZZi H;refine zg ?_;refine TSx BO ?_;refine zC ?_;refine GA (λhc=>?_) (λhc=>?_)
 .obtain rfl:=hc rfl;refine zg ?_;exact ZG rfl ⟨0,False,0⟩ Dt (BD (Zf _))
 .refine zg ?_;refine XeE [] rfl rfl (by decide) rfl λb=>zg ?_
  refine Xdt (ys:=b0) inferInstance eu.h rfl rfl rfl λb1 p1 c1=>zg ?_
  exact ZG rfl ⟨b1,p1,c1⟩ (ZH (by simp)) (Zd rfl (Zf _))
instance Zbu:Fd1 77 En λr=>D r:=⟨λw v0 hA h0 H=>(on1 (Q2 H) w v0 hA h0).mono λe w' h=>IQ hA h⟩
def FD(c0:Chip):Option Bool:=
 (FG c0).bind λx_2=>some (((x_2&&(decide ((c0.Blocks.length:Int)>=(4:Int))))&&(decide (c0.Pages>=(2:Int))))&&(decide (c0.Size>=(24:Int))))
instance Za9:Fd1 64 FD λr=>D r:=en1 Tryz.func64 rfl Tryz.ntmps64 λ_ _ _ _ _ H=>by
 unfold FD at H;exact zY H
def CT(s0:(List (List UInt8)))(n0:Int):Option (List (List UInt8)):=
 bif (decide (n0<(0:Int)))then(none)else(((GG (0:Int) (0:Int)).bind λx_4=>(GG n0 x_4).bind λx_5=>bif (decide (x_5>(0:Int)))then((Dv 24 x_5).bind λu_6=>(ZaF x_5).bind λu_7=>(cut (Xac (Xaa x_5) (Dat.z:(List UInt8))).length 0 (0:Int)).bind λu_9=>(some (((Xac (Xaa x_5) (Dat.z:(List UInt8))).take (Xaa (0:Int))):(List (List UInt8)))).bind λl_10=>some l_10)else(some [])).bind λs_2=>some s_2)
theorem Lj{s0:(List (List UInt8))}{n0:Int}{r:(List (List UInt8))} (H:CT s0 n0=some r):CO2 168 [] (Ro) (D n0) (λg:Nat×Prop×Nat=>Sl g.1 g.2.1 0 (Xat r) g.2.2) λg=>[⟨g.1,g.2.1,Row (r:List (List UInt8)) g.2.2⟩]:=eO2 Tryz.func168 rfl Tryz.ntmps168 λA w hA hO=>by
 unfold CT at H;refine zg ?_;refine zc H (λhc H=>?_) λhc H=>?_
 .cases H
 .refine AH<|Az<|AI ?_;refine zh H λo_3 H3 H=>?_
  refine Zs (λs:(List (List UInt8))=>o_3=s) (λ(s_2:(List (List UInt8))) (⟨b_0,p_0,c_0⟩:Nat×Prop×Nat)=>(TR Xaj 0 (Sl b_0 p_0 0 s_2.length c_0))) (λ(s_2:(List (List UInt8))) (⟨b_0,p_0,c_0⟩:Nat×Prop×Nat)=>[⟨b_0,p_0,(Row (s_2:List (List UInt8)) c_0)⟩]) ?_ ?_
  .skip;refine zg ?_;refine zX (A4 KN rfl) ?_;refine TSx KO ?_;refine zb H3 λ_ _ H3=>?_
   refine zb H3 λx_5 _ H3=>?_
   refine zc H3 (λhc H3=>?_) λhc H3=>?_
   .refine zg ?_;refine TSx KN ?_;refine zX (A4 (Nt (α:=(List UInt8))) rfl) ?_;refine zn H3 λ_ eu_6 H3=>?_
    refine zn H3 λ_ eu_7 H3=>?_
    refine Qd (α:=(List UInt8)) eu_6.h eu_7.h rfl λb22_7 c22_7=>zg ?_
    refine TSx KO ?_;refine zn H3 λ_ eu_9 H3=>?_
    refine TSx (E8 (EY eu_9.h rfl).2.1 (EY eu_9.h rfl).2.2) ?_;refine zE ?_;refine Yh b22_7 (Xaa (0:Int)) (M0 eu_9.h)<|C9 0 _ (ZH (Xd8 (l:=(Xac (Xaa x_5) (Dat.z:(List UInt8)))) (M0 eu_9.h)).symm) ?_;refine zn H3 λl_10 el_10 H3=>?_
    exact Ai b22_7 (Ah el_10.h)<|C9 0 _ (AY el_10.h rfl)<|Zl l_10 ⟨b22_7,True,c22_7⟩ (ZZs H3) (Zm (ZH rfl) (Ze _)) (Zd rfl (Zf _))
   .refine zg ?_;exact Zl [] ⟨0,False,0⟩ (ZZs H3) (Zm Dt (Ze _)) (BD (Zf _))
  rintro s_2 ⟨b_0,p_0,c_0⟩ hp;replace hp:=hp.symm;subst hp;refine zg ?_;obtain rfl:=ZZi H;exact ZG rfl ⟨b_0,p_0,c_0⟩ (ZH rfl) (Zd rfl (Zf _))
def An(slices0:(List (List (List UInt8))))(size_3:Int)(x_4:Int):Option ((Int×Int)⊕Int):=
 bif (decide (x_4<(slices0.length:Int)))then((idx slices0 x_4).bind λx_6=>(AC size_3 (x_6.length:Int)).bind λx_7=>bif (decide (x_7<(0:Int)))then(none)else((AC x_4 1).bind λx_8=>some (.inl (x_7,x_8))))else(some (.inr size_3))
def Am(slices0:(List (List (List UInt8))))(x_14:Int)(newslice_16:(List (List UInt8))):Option ((Int×(List (List UInt8)))⊕(List (List UInt8))):=
 bif (decide (x_14<(slices0.length:Int)))then((idx slices0 x_14).bind λx_18=>(Dv 24 ((newslice_16.length+x_18.length:Nat):Int)).bind λu_20=>(some ((newslice_16++x_18):(List (List UInt8)))).bind λl_21=>(AC x_14 1).bind λx_22=>some (.inl (x_22,l_21)))else(some (.inr newslice_16))
def BZ(slices0:(List (List (List UInt8)))):Option (List (List UInt8)):=
 (ZN (λs=>An slices0 s.1 s.2) ((0:Int),(0:Int))).bind λsize_1=>(CT [] size_1).bind λx_9=>(ZN (λs=>Am slices0 s.1 s.2) ((0:Int),x_9)).bind λnewslice_12=>some newslice_12
instance RE:Fd1 145 BZ λr=>D r:=en1 Tryz.func145 rfl Tryz.ntmps145 λA w hA slices0 r H=>by
 unfold BZ at H;refine zC ?_;refine zC ?_;refine zC ?_;refine zh H λo_2 H2 H=>?_
 refine Zs (λs:Int=>o_2=s) (λ(size_1:Int) (_:Unit)=>(TR (TR Xaj 0 (D slices0)) 3 (D size_1))) (λ(size_1:Int) (_:Unit)=>[]) ?_ ?_
 .skip;refine Zr<|Zx H2 (λ⟨size_3,x_4⟩ (_:Unit)=>(TR (TR (TR (TR (TR Xaj 0 (D slices0)) 3 (D size_3)) 9 (D slices0)) 10 (D ((slices0.length:Int):Int))) 11 (D x_4))) (λ⟨size_3,x_4⟩ (_:Unit)=>[]) () (Za (Za (Za (Za (Za (Ze _)))))) (Zf _) ?_;rintro⟨size_3,x_4⟩ ⟨⟩ x_5 H5 he5;dsimp only at H5;unfold An at H5;refine zg ?_;refine zc H5 (λhc H5=>?_) λhc H5=>?_
  .refine zg ?_;refine zb H5 λ_ _ H5=>?_
   refine zb H5 λx_7 _ H5=>?_
   refine zc H5 (λhc H5=>?_) λhc H5=>?_
   .cases H5
   .refine zg ?_;refine zb H5 λx_8 _ H5=>?_
    exact Zv ⟨x_7,x_8⟩ () (ZZs H5) (Za (Za (Za (Za (Za (Ze _)))))) (Zf _)
  .refine zg ?_;exact Zl size_3 () (he5 _ (ZZs H5)).symm (Za (Za (Ze _))) (Zf _)
 rintro size_1 ⟨⟩ hp;replace hp:=hp.symm;subst hp;refine zg ?_;refine zn H λ_ ex_9 H=>?_
 refine D4 (oc2 [] (Lj ex_9.h) id toD) rfl λ⟨b24_9,p24_9,c24_9⟩=>?_
 dsimp only[Xan,Xam];refine zC ?_;refine zC ?_;refine zh H λo_13 H13 H=>?_
 refine Zs (λs:(List (List UInt8))=>o_13=s) (λ(newslice_12:(List (List UInt8))) (⟨b_10,p_10,c_10⟩:Nat×Prop×Nat)=>(TR Xaj 6 (Sl b_10 p_10 0 newslice_12.length c_10))) (λ(newslice_12:(List (List UInt8))) (⟨b_10,p_10,c_10⟩:Nat×Prop×Nat)=>[⟨b_10,p_10,(Row (newslice_12:List (List UInt8)) c_10)⟩]) ?_ ?_
 .skip;refine Zr<|Zx H13 (λ⟨x_14,newslice_16⟩ (⟨b_14,p_14,c_14⟩:Nat×Prop×Nat)=>(TR (TR (TR (TR Xaj 6 (Sl b_14 p_14 0 newslice_16.length c_14)) 25 (D slices0)) 26 (D ((slices0.length:Int):Int))) 27 (D x_14))) (λ⟨x_14,newslice_16⟩ (⟨b_14,p_14,c_14⟩:Nat×Prop×Nat)=>[⟨b_14,p_14,(Row (newslice_16:List (List UInt8)) c_14)⟩]) ⟨b24_9,p24_9,c24_9⟩ (Za (Za (Za (Zm (ZH rfl) (Ze _))))) (Zd rfl (Zf _)) ?_;rintro⟨x_14,newslice_16⟩ ⟨b_14,p_14,c_14⟩ x_17 H17 he17;dsimp only at H17;unfold Am at H17;refine zg ?_;refine zc H17 (λhc H17=>?_) λhc H17=>?_
  .refine zg ?_;refine zb H17 λx_18 _ H17=>?_
   refine zn H17 λ_ eu_20 H17=>?_
   refine Xdt (ys:=x_18) inferInstance eu_20.h rfl rfl rfl λb33_18 p33_18 c33_18=>?_
   refine zE ?_;refine zn H17 λl_21 el_21 H17=>?_
   refine Ai b33_18 (Ah el_21.h) ?_;refine zX (C9 6 _ (AY el_21.h rfl)) ?_;refine zb H17 λx_22 _ H17=>?_
   exact Zv ⟨x_22,l_21⟩ ⟨b33_18,p33_18,c33_18⟩ (ZZs H17) (Za (Za (Za (Zm (ZH rfl) (Ze _))))) (Zd rfl (Zf _))
  .refine zg ?_;exact Zl newslice_16 ⟨b_14,p_14,c_14⟩ (he17 _ (ZZs H17)).symm (Zm (ZH rfl) (Ze _)) (Zd rfl (Zf _))
 rintro newslice_12 ⟨b_10,p_10,c_10⟩ hp;replace hp:=hp.symm;subst hp;refine zC ?_;refine ZO<|XeR b_10 (XbM 2 (ZJ XaR rfl) Xb2) ?_;exact zY H
def FB(c0:Chip)(id0:Int)(n0:Int):Option Bool:=
 (GG n0 1).bind λx_2=>(JB x_2 c0.Pages).bind λx_3=>(GG n0 1).bind λx_4=>(RM x_4 c0.Pages).bind λx_5=>(gb (!((decide (x_3<(2:Int)))||(decide (x_3>=(c0.Blocks.length:Int))))) (idx c0.Blocks x_3)).bind λx_6=>bif (((decide (x_3<(2:Int)))||(decide (x_3>=(c0.Blocks.length:Int))))||(decide (x_5>=x_6.Used)))then(some false)else((idx c0.Blocks x_3).bind λx_7=>(idx x_7.Pages x_5).bind λx_8=>(Eb x_8).bind λr_9=>some (((decide (r_9.2=(0:Int)))&&(decide (r_9.1.Kind=(1:Int))))&&(decide (r_9.1.Id=id0))))
instance Za7:Fd3 169 FB λr=>D r:=en3 Tryz.func169 rfl Tryz.ntmps169 λ_ _ _ _ _ _ _ H=>by
 unfold FB at H;exact zY H
def Hj(c0:Chip)(at0:(List Int))(x_6:Int)(m_7:(List Int)):Option ((Int×(List Int))⊕((List Int)⊕Bool)):=
 bif (decide (x_6<(at0.length:Int)))then(((idx at0 x_6).bind λx_13=>bif (decide (x_13=(0:Int)))then(some (.inl m_7))else((gb (!(decide (x_13∈m_7))) (FB c0 x_6 x_13)).bind λx_15=>bif ((decide (x_13∈m_7))||(!x_15))then(some (.inr false))else((some ((WE m_7 x_13):List Int)).bind λm_19=>some (.inl m_19)))).bind λo_12=>elS o_12 (λm_10=>(AC x_6 1).bind λx_20=>some (.inl (x_20,m_10))) (λq=>some (.inr (.inr q))))else(some (.inr (.inl m_7)))
def F3(c0:Chip)(at0:(List Int)):Option Bool:=
 (ZN (λs=>Hj c0 at0 s.1 s.2) ((0:Int),([]:List Int))).bind λo_5=>elS o_5 (λm_3=>some true) (λq=>some q)
instance YZ:Fd2 146 F3 λr=>D r:=en2 Tryz.func146 rfl Tryz.ntmps146 λA w hA c0 at0 r H=>by
 unfold F3 at H;refine zg ?_;refine Xa9 rfl λb2_0=>zg ?_
 refine TP rfl λN_1 r_1 hr_1=>?_
 haveI:=hr_1.op
 refine zE ?_;refine Dd hr_1.rh ?_;refine zC ?_;refine zh H λo_5 H5 H=>?_
 refine M5 hr_1 (λs:(List Int)=>o_5=.inl s) (λ(m_3:(List Int))=>m_3) (λ(m_3:(List Int)) (_:Unit)=>Xaj) (λ(m_3:(List Int)) (_:Unit)=>[]) ?_ ?_
 .skip;refine Zr<|N8 H5 hr_1 (λ⟨x_6,m_7⟩=>m_7) (λ⟨x_6,m_7⟩ (_:Unit)=>(TR (TR (TR (TR (TR Xaj 2 (Pt b2_0 0)) 5 (WA N_1)) 13 (D at0)) 14 (D ((at0.length:Int):Int))) 15 (D x_6))) (λ⟨x_6,m_7⟩ (_:Unit)=>[⟨b2_0,True,(One c0)⟩]) () rfl (Za (Za (Za (Za (Za (Ze _)))))) (Zd rfl (Zf _)) ?_;rintro⟨x_6,m_7⟩ ⟨⟩ x_9 H9 he9 r_7 hr_7
  haveI:=hr_7.op
  try dsimp only at H9
  unfold Hj at H9;refine zg ?_;refine zc H9 (λhc H9=>?_) λhc H9=>?_
  .refine AH<|Az<|AI ?_;refine zh H9 λo_12 H12 H9=>?_
   refine M5 hr_7 (λs:(List Int)=>o_12=.inl s) (λ(m_10:(List Int))=>m_10) (λ(m_10:(List Int)) (_:Unit)=>(TR (TR (TR (TR (TR Xaj 2 (Pt b2_0 0)) 5 (WA N_1)) 13 (D at0)) 14 (D ((at0.length:Int):Int))) 15 (D x_6))) (λ(m_10:(List Int)) (_:Unit)=>[⟨b2_0,True,(One c0)⟩]) ?_ ?_
   .skip;refine zg ?_;refine zb H12 λ_ _ H12=>?_
    refine zc H12 (λhc H12=>?_) λhc H12=>?_
    .refine zg ?_;exact Kf hr_7 m_7 () (ZZs H12) rfl (Za (Za (Za (Za (Za (Ze _)))))) (Zd rfl (Zf _))
    .refine zg ?_;refine zX (Kc hr_7 rfl) ?_;refine TSx Nb ?_;refine zX (Zd5 M8) ?_;refine zd H12 λ_ _ H12=>?_
     refine zc H12 (λhc H12=>?_) λhc H12=>?_
     .refine zC ?_;refine ZO<|Zi<|Zh<|Jp ?_;have R15:=AQ (ZZi H12) H9;refine Zi<|Zi<|Zh<|Jp ?_;have R16:=AQ (he9 _ (ZZs R15)) H;refine Zi<|GU hr_7 ?_;obtain rfl:=ZZi R16;exact Bc rfl Cv.le
     .refine zg ?_;refine TSx Na ?_;refine XfK hr_7 λr_17 hr_17=>?_
      haveI:=hr_17.op
      refine zE ?_;refine zn H12 λm_19 em_19 H12=>?_
      replace hr_17:=(ZZi em_19.h)▸hr_17;refine zg ?_;exact Kf hr_17 m_19 () (ZZs H12) rfl (Za (Za (Za (Za (Za (Ze _)))))) (Zd rfl (Zf _))
   rintro m_10 ⟨⟩ hp r_10 hr_10
   haveI:=hr_10.op
   replace H9:=Bs hp H9;refine zX (Dd (hr_10.rh.trans hr_7.rh.symm)) ?_;refine zb H9 λx_20 _ H9=>?_
   exact N7 hr_10 ⟨x_20,m_10⟩ () (ZZs H9) rfl (Za (Za (Za (Za (Za (Ze _)))))) (Zd rfl (Zf _))
  .refine zg ?_;exact Kf hr_7 m_7 () (he9 _ (ZZs H9)).symm rfl (Ze _) (Zf _)
 rintro m_3 ⟨⟩ hp r_3 hr_3
 haveI:=hr_3.op
 replace H:=Bs hp H;refine Dd (hr_3.rh.trans hr_1.rh.symm) ?_;refine zC ?_;refine ZO<|GU hr_3 ?_;exact zY H
def FC(c0:Chip):Option (Vol×Int):=
 (FD c0).bind λx_3=>bif (!x_3)then((some ((⟨Dat.z,[],0,0⟩:Vol):Vol)).bind λk_4=>some (k_4,(1:Int)))else(bif c0.Off then((some ((⟨Dat.z,[],0,0⟩:Vol):Vol)).bind λk_5=>some (k_5,(7:Int)))else((idx c0.Blocks 0).bind λx_6=>(idx c0.Blocks 1).bind λx_7=>(BZ ([x_6.Pages,x_7.Pages]:List (List (List UInt8)))).bind λx_8=>(Fq x_8).bind λr_9=>bif (decide (r_9.2.2≠(0:Int)))then((some ((⟨Dat.z,[],0,0⟩:Vol):Vol)).bind λk_11=>some (k_11,r_9.2.2))else((JB r_9.1 c0.Pages).bind λx_12=>(RM r_9.1 c0.Pages).bind λx_13=>(idx c0.Blocks x_12).bind λx_14=>(gb (!(decide (x_13>=x_14.Used))) (F3 c0 r_9.2.1.At)).bind λx_15=>bif ((decide (x_13>=x_14.Used))||(!x_15))then((some ((⟨Dat.z,[],0,0⟩:Vol):Vol)).bind λk_16=>some (k_16,(2:Int)))else((some ((⟨c0,r_9.2.1.At,r_9.2.1.Gen,x_12⟩:Vol):Vol)).bind λk_17=>some (k_17,(0:Int))))))
instance Za8:Fd1 119 FC λr=>Tup [D r.1,D r.2]:=en1 Tryz.func119 rfl Tryz.ntmps119 λA w hA c0 r H=>by
 unfold FC at H;refine zg ?_;refine Xa9 rfl λb1_0=>?_
 refine Xaq rfl λb2_1=>zg ?_
 refine zb H λ_ _ H=>?_
 refine zc H (λhc H=>?_) λhc H=>?_
 .refine zg ?_;refine TSx (tB (⟨Dat.z,[],0,0⟩:Vol) rfl rfl) ?_;exact zY H
 .refine zg ?_;refine zc H (λhc H=>?_) λhc H=>?_
  .refine zg ?_;refine TSx (tB (⟨Dat.z,[],0,0⟩:Vol) rfl rfl) ?_;exact zY H
  .refine AH<|Az ?_;refine zX (Bd [17,19] [] mix (by kernel_rfl) (by kernel_rfl)) ?_;refine zb H λ_ _ H=>?_
   refine zb H λ_ _ H=>?_
   refine TRx (Xbx [.tmp 20,.tmp 25] rfl rfl (by decide)) ?_;refine zb H λ_ _ H=>?_
   refine zb H λr_9 _ H=>?_
   refine zX (GT (λg=>DZ (α:=AA)) rfl) ?_;refine DP (λg=>(ZD (y:=(r_9.2.1:AA)) ZB)) rfl ?_;refine zC ?_;rintro⟨⟨_,⟨b5_9,_⟩⟩,_⟩;dsimp only[XaV,XaW,XaS,Xan,Xam];refine zg ?_;refine zc H (λhc H=>?_) λhc H=>?_
   .refine zg ?_;refine TSx (tB (⟨Dat.z,[],0,0⟩:Vol) rfl rfl) ?_;exact zY H
   .refine zg ?_;refine zb H λx_12 _ H=>?_
    refine zb H λ_ _ H=>?_
    refine zb H λ_ _ H=>?_
    refine zd H λ_ _ H=>?_
    refine zc H (λhc H=>?_) λhc H=>?_
    .refine zg ?_;refine TSx (tB (⟨Dat.z,[],0,0⟩:Vol) rfl rfl) ?_;exact zY H
    .refine zg ?_;refine TSx (tB (⟨c0,r_9.2.1.At,r_9.2.1.Gen,x_12⟩:Vol) rfl rfl) ?_;exact zY H
def F4(c0:Chip):Option Chip:=
 (OW c0 c0.Faults).bind λr_3=>(some ((⟨r_3.1.Pages,r_3.1.Size,r_3.1.Blocks,r_3.1.Ops,c0.Off,r_3.1.Faults⟩:Chip):Chip)).bind λd_5=>some d_5
instance ZdH:Fd1 66 F4 λr=>D r:=en1 Tryz.func66 rfl Tryz.ntmps66 λ_ _ _ _ _ H=>by
 unfold F4 at H;exact zY H
def A1(s0:(List Int)):Option (List Int):=
 (Dv 8 ((0+s0.length:Nat):Int)).bind λ_=>some s0
theorem EM{s0:(List Int)}{r:(List Int)} (H:A1 s0=some r):CO1 99 [] (D s0) (λg:Nat×Prop×Nat=>Sl g.1 g.2.1 0 (Xat r) g.2.2) λg=>[⟨g.1,g.2.1,Row (r:List Int) g.2.2⟩]:=eO1 Tryz.func99 rfl Tryz.ntmps99 λA w hA hO=>by
 unfold A1 at H;refine zn H λ_ eu H=>?_
 obtain rfl:=ZZi H;refine zg ?_;refine TSx BO ?_;refine zC ?_;refine GA (λhc=>?_) (λhc=>?_)
 .obtain rfl:=hc rfl;refine zg ?_;exact ZG rfl ⟨0,False,0⟩ Dt (BD (Zf _))
 .refine zg ?_;refine XeE [] rfl rfl (by decide) rfl λb=>zg ?_
  refine Xdt (ys:=s0) inferInstance eu.h rfl rfl rfl λb1 p1 c1=>zg ?_
  exact ZG rfl ⟨b1,p1,c1⟩ (ZH (by simp)) (Zd rfl (Zf _))
instance Ut:Fd1 99 A1 λr=>D r:=⟨λw v0 hA h0 H=>(on1 (EM H) w v0 hA h0).mono λe w' h=>IQ hA h⟩
def Dc(v0x:Vol):Option Vol:=
 (F4 v0x.Chip).bind λx_3=>(A1 v0x.At).bind λx_4=>(some ((⟨(⟨x_3,v0x.At,v0x.Gen,v0x.Last⟩:Vol).Chip,x_4,(⟨x_3,v0x.At,v0x.Gen,v0x.Last⟩:Vol).Gen,(⟨x_3,v0x.At,v0x.Gen,v0x.Last⟩:Vol).Last⟩:Vol):Vol)).bind λv_5=>some v_5
instance Zba:Fd1 70 Dc λr=>D r:=en1 Tryz.func70 rfl Tryz.ntmps70 λA w hA v0x r H=>by
 unfold Dc at H;refine zg ?_;refine Xa9 rfl λb1_0=>?_
 refine Xaq rfl λb2_1=>?_
 refine zC ?_;refine ZbF 7 [] [7,9] [] mix (by kernel_rfl) (by kernel_rfl) rfl (by kernel_rfl) (by kernel_rfl) (by kernel_rfl)<|TRx A9<|TRx (AL (PF 0 Vol Chip ZB)) ?_;obtain⟨x_3,ex_3,H⟩:=bnd H;refine TRx (F8 λw v0 hA h0=>ZdH.h w v0 hA (toD h0) ex_3)<|TRx A9<|TRx (AL (PF 6 Vol (List Int) ZB)) ?_;obtain⟨x_4,ex_4,H⟩:=bnd H;refine TRx (F8 λw v0 hA h0=>Ut.h w v0 hA (toD h0) ex_4)<|TRx A9<|Sq ?_;rintro _;dsimp only[XaV,XaW,XaS,Xan,Xam];refine PH.next [b1_0]<|DP (λg=>(ZD (y:=(x_3:Chip)) (PF 0 Vol Chip ZB))) rfl<|TRx A9<|DP (λg=>(ZD (y:=(x_4:(List Int))) (PF 6 Vol (List Int) ZB))) rfl<|Sq ?_;rintro⟨⟨_,_⟩,_⟩;dsimp only[XaV,XaW,XaS,Xan,Xam];exact zY H
def Hm(c0:Chip):Option (Vol×Int):=
 (FC c0).bind λr_3=>bif (decide (r_3.2≠(0:Int)))then((some ((⟨Dat.z,[],0,0⟩:Vol):Vol)).bind λk_5=>some (k_5,r_3.2))else((Dc r_3.1).bind λx_6=>some (x_6,(0:Int)))
instance Zbd:Fd1 104 Hm λr=>Tup [D r.1,D r.2]:=en1 Tryz.func104 rfl Tryz.ntmps104 λA w hA c0 r H=>by
 unfold Hm at H;refine zg ?_;refine Xa9 rfl λb1_0=>?_
 refine Xaq rfl λb2_1=>zg ?_
 refine zb H λ_ _ H=>?_
 refine Xaq rfl λb4_3=>zg ?_
 refine zc H (λhc H=>?_) λhc H=>?_
 .refine zg ?_;refine TSx (tB (⟨Dat.z,[],0,0⟩:Vol) rfl rfl) ?_;exact zY H
 .exact zY H
def Bm(s10:(List Int))(s20:(List Int))(x_2:Int):Option (Int⊕(Unit⊕Bool)):=
 bif (decide (x_2<(s10.length:Int)))then((idx s10 x_2).bind λx_4=>(idx s20 x_2).bind λx_5=>bif (decide (x_4≠x_5))then(some (.inr (.inr false)))else((AC x_2 1).bind λx_7=>some (.inl x_7)))else(some (.inr (.inl ())))
def Ca(s10:(List Int))(s20:(List Int)):Option Bool:=
 bif (decide ((s10.length:Int)≠(s20.length:Int)))then(some false)else((ZN (λs=>Bm s10 s20 s) (0:Int)).bind λo_1=>elS o_1 (λ_=>some true) (λq=>some q))
instance Us:Fd2 97 Ca λr=>D r:=en2 Tryz.func97 rfl Tryz.ntmps97 λA w hA s10 s20 r H=>by
 unfold Ca at H;refine zg ?_;refine zc H (λhc H=>?_) λhc H=>?_
 .exact zY H
 .refine zC ?_;refine zh H λo_1 H1 H=>?_
  refine Zs (λs:Unit=>o_1=.inl s) (λ(_:Unit) (_:Unit)=>Xaj) (λ(_:Unit) (_:Unit)=>[]) ?_ ?_
  .skip;refine Zr<|Zx H1 (λ(x_2:Int) (_:Unit)=>(TR (TR (TR (TR Xaj 0 (D s10)) 1 (D s20)) 12 (D ((s10.length:Int):Int))) 13 (D x_2))) (λ(x_2:Int) (_:Unit)=>[]) () (Za (Za (Za (Za (Ze _))))) (Zf _) ?_;rintro x_2 ⟨⟩ x_3 H3 he3;unfold Bm at H3;refine zg ?_;refine zc H3 (λhc H3=>?_) λhc H3=>?_
   .refine zg ?_;refine zb H3 λ_ _ H3=>?_
    refine zb H3 λ_ _ H3=>?_
    refine zc H3 (λhc H3=>?_) λhc H3=>?_
    .refine zC ?_;refine ZO<|Zh<|Zi<|Zi<|Zh<|Zw ?_;have R5:=AQ (he3 _ (ZZs H3)) H;refine zg ?_;obtain rfl:=ZZi R5;exact Bc rfl Cv.le
    .refine zg ?_;refine zb H3 λx_7 _ H3=>?_
     exact Zv x_7 () (ZZs H3) (Za (Za (Za (Za (Ze _))))) (Zf _)
   .refine zg ?_;exact Zl () () (he3 _ (ZZs H3)).symm (Ze _) (Zf _)
  rintro⟨⟩ ⟨⟩ hp;replace H:=Bs hp H;exact zY H
def FE(v0x:Vol):Option Bool:=
 (some ((⟨v0x.Chip.Pages,v0x.Chip.Size,v0x.Chip.Blocks,v0x.Chip.Ops,false,v0x.Chip.Faults⟩:Chip):Chip)).bind λcx_3=>(FC cx_3).bind λr_4=>(gb (((decide (r_4.2=(0:Int)))&&(decide (r_4.1.Gen=v0x.Gen)))&&(decide (r_4.1.Last=v0x.Last))) (Ca r_4.1.At v0x.At)).bind λx_6=>some ((((decide (r_4.2=(0:Int)))&&(decide (r_4.1.Gen=v0x.Gen)))&&(decide (r_4.1.Last=v0x.Last)))&&x_6)
instance Zbc:Fd1 68 FE λr=>D r:=en1 Tryz.func68 rfl Tryz.ntmps68 λA w hA v0x r H=>by
 unfold FE at H;refine zg ?_;refine Xa9 rfl λb1_0=>zg ?_
 refine Xaq rfl λb3_1=>?_
 refine zC ?_;refine zC ?_;refine zn H λ_ ecx_3 H=>?_
 refine zX (ZF b3_1 (Ag ecx_3.h)) ?_;refine zb H λ_ _ H=>?_
 refine Xaq rfl λb4_4=>zg ?_
 refine MC 16 rfl (λhg=>O7) rfl ?_;exact zY H
def GN(v0x:Vol)(id0:Int):Option (List UInt8):=
 (idx v0x.At id0).bind λx_2=>(GG x_2 1).bind λx_3=>(JB x_3 v0x.Chip.Pages).bind λx_4=>(idx v0x.Chip.Blocks x_4).bind λx_5=>(RM x_3 v0x.Chip.Pages).bind λx_6=>(idx x_5.Pages x_6).bind λx_7=>(Eb x_7).bind λr_8=>bif (decide (r_8.2≠(0:Int)))then(some ([]:List UInt8))else(some r_8.1.Body)
instance ZcE:Fd2 76 GN λr=>D r:=en2 Tryz.func76 rfl Tryz.ntmps76 λA w hA v0x id0 r H=>by
 unfold GN at H;refine zg ?_;refine Xa9 rfl λb2_0=>zg ?_
 refine zb H λ_ _ H=>?_
 refine zo H λ_ _ H=>?_
 refine zC ?_;refine zX (Bd [22,23] [] mix (by kernel_rfl) (by kernel_rfl)) ?_;refine zb H λ_ _ H=>?_
 refine zb H λ_ _ H=>?_
 refine zb H λ_ _ H=>?_
 refine zb H λ_ _ H=>?_
 refine zb H λr_8 _ H=>?_
 refine GT (λg=>DZ (α:=B9)) rfl<|DP (λg=>(ZD (y:=(r_8.1:B9)) ZB)) rfl ?_;refine zC ?_;rintro⟨⟨_,⟨b6_8,_⟩⟩,_⟩;dsimp only[XaV,XaW,XaS,Xan,Xam];exact zY H
def Hn(blocks0:Int)(pages0:Int):Option Int:=
 bif ((((decide (blocks0<(4:Int)))||(decide (blocks0>(32:Int))))||(decide (pages0<(1:Int))))||(decide (pages0>(16:Int))))then(some (0:Int))else((GG blocks0 4).bind λx_1=>(RX x_1 pages0).bind λx_2=>some x_2)
instance Zbe:Fd2 22 Hn λr=>D r:=en2 Tryz.func22 rfl Tryz.ntmps22 λ_ _ _ _ _ _ H=>by
 unfold Hn at H;exact zY H
def Gd(v0x:Vol)(l0:(List Fg))(x_6:Int)(m_7:(List Int)):Option ((Int×(List Int))⊕((List Int)⊕Bool)):=
 bif (decide (x_6<(l0.length:Int)))then((idx l0 x_6).bind λx_10=>(gb (!((decide (x_10.Id<(0:Int)))||(decide (x_10.Id>=(v0x.At.length:Int))))) (Dy v0x.Chip.Size)).bind λx_12=>bif (((decide (x_10.Id<(0:Int)))||(decide (x_10.Id>=(v0x.At.length:Int))))||(decide ((x_10.Body.length:Int)>x_12)))then(some (.inr (.inr false)))else(bif (decide (x_10.Id∈m_7))then(some (.inr (.inr false)))else((some ((WE m_7 x_10.Id):List Int)).bind λm_17=>(AC x_6 1).bind λx_18=>some (.inl (x_18,m_17)))))else(some (.inr (.inl m_7)))
def DX(v0x:Vol)(l0:(List Fg)):Option Bool:=
 (ZN (λs=>Gd v0x l0 s.1 s.2) ((0:Int),([]:List Int))).bind λo_5=>elS o_5 (λm_3=>some true) (λq=>some q)
instance XJ:Fd2 69 DX λr=>D r:=en2 Tryz.func69 rfl Tryz.ntmps69 λA w hA v0x l0 r H=>by
 unfold DX at H;refine zg ?_;refine Xa9 rfl λb2_0=>zg ?_
 refine TS.makeMap rfl λN_1 r_1 hr_1=>?_
 haveI:=hr_1.op
 refine zE ?_;refine Dd hr_1.rh ?_;refine zC ?_;refine zh H λo_5 H5 H=>?_
 refine M5 hr_1 (λs:(List Int)=>o_5=.inl s) (λ(m_3:(List Int))=>m_3) (λ(m_3:(List Int)) (_:Unit)=>Xaj) (λ(m_3:(List Int)) (_:Unit)=>[]) ?_ ?_
 .skip;refine Zr<|N8 H5 hr_1 (λ⟨x_6,m_7⟩=>m_7) (λ⟨x_6,m_7⟩ (_:Unit)=>(TR (TR (TR (TR (TR Xaj 2 (Pt b2_0 0)) 5 (WA N_1)) 11 (D l0)) 12 (D ((l0.length:Int):Int))) 13 (D x_6))) (λ⟨x_6,m_7⟩ (_:Unit)=>[⟨b2_0,True,(One v0x)⟩]) () rfl (Za (Za (Za (Za (Za (Ze _)))))) (Zd rfl (Zf _)) ?_;rintro⟨x_6,m_7⟩ ⟨⟩ x_9 H9 he9 r_7 hr_7
  haveI:=hr_7.op
  try dsimp only at H9
  unfold Gd at H9;refine zg ?_;refine zc H9 (λhc H9=>?_) λhc H9=>?_
  .refine zg ?_;refine zb H9 λ_ _ H9=>?_
   refine Xaq rfl λb7_10=>zg ?_
   refine zd H9 λ_ _ H9=>?_
   refine zc H9 (λhc H9=>?_) λhc H9=>?_
   .refine zC ?_;refine ZO<|Zi<|Zh<|Zi<|Zi<|Zh<|Jp ?_;have R12:=AQ (he9 _ (ZZs H9)) H;refine Zi<|GU hr_7 ?_;obtain rfl:=ZZi R12;exact Bc rfl Cv.le
   .refine zg ?_;refine zX (Kc hr_7 rfl) ?_;refine TSx Nb ?_;refine zX (Zd5 M8) ?_;refine zc H9 (λhc H9=>?_) λhc H9=>?_
    .refine zC ?_;refine ZO<|Zi<|Zh<|Zi<|Zi<|Zh<|Jp ?_;have R14:=AQ (he9 _ (ZZs H9)) H;refine Zi<|GU hr_7 ?_;obtain rfl:=ZZi R14;exact Bc rfl Cv.le
    .refine zg ?_;refine TSx Na ?_;refine XfK hr_7 λr_15 hr_15=>?_
     haveI:=hr_15.op
     refine zE ?_;refine zn H9 λm_17 em_17 H9=>?_
     replace hr_15:=(ZZi em_17.h)▸hr_15;refine BV ?_;refine zX (Dd (hr_15.rh.trans hr_7.rh.symm)) ?_;refine zb H9 λx_18 _ H9=>?_
     exact N7 hr_15 ⟨x_18,m_17⟩ () (ZZs H9) rfl (Za (Za (Za (Za (Za (Ze _)))))) (Zd rfl (Zf _))
  .refine zg ?_;exact Kf hr_7 m_7 () (he9 _ (ZZs H9)).symm rfl (Ze _) (Zf _)
 rintro m_3 ⟨⟩ hp r_3 hr_3
 haveI:=hr_3.op
 replace H:=Bs hp H;refine Dd (hr_3.rh.trans hr_1.rh.symm) ?_;refine zC ?_;refine ZO<|GU hr_3 ?_;exact zY H
def In(c0:Chip)(l_5:(List Wear))(x_8:Int)(l_9:(List Wear)):Option ((Int×(List Wear))⊕(List Wear)):=
 bif (decide (x_8<(l_5.length:Int)))then((AC x_8 2).bind λx_11=>(idx c0.Blocks x_11).bind λx_12=>(idx l_9 x_8).bind λx_14=>(some ((l_9.set (Xaa x_8) (⟨0,x_12.Used,x_12.Worn,x_12.Bad⟩:Wear)):(List Wear))).bind λl_15=>(AC x_8 1).bind λx_16=>some (.inl (x_16,l_15)))else(some (.inr l_9))
def Il(c0:Chip)(x_27:(List Int))(x_32:Int)(l_33:(List Wear))(m_34:(List Int)):Option ((Int×(List Wear)×(List Int))⊕((List Wear)×(List Int))):=
 bif (decide (x_32<(x_27.length:Int)))then(((idx x_27 x_32).bind λx_41=>bif ((decide (x_41=(0:Int)))||(decide (x_41∈m_34)))then(some (l_33,m_34))else((some ((WE m_34 x_41):List Int)).bind λm_44=>(GG x_41 1).bind λx_45=>(JB x_45 c0.Pages).bind λx_46=>(GG x_46 2).bind λx_47=>(idx l_33 x_47).bind λx_48=>(AC x_48.Live 1).bind λx_49=>(idx l_33 x_47).bind λx_50=>(some ((l_33.set (Xaa x_47) (⟨x_49,x_50.Used,x_50.Worn,x_50.Bad⟩:Wear)):(List Wear))).bind λl_51=>some (l_51,m_44))).bind λo_40=>el2 o_40 (λl_37 m_38=>(AC x_32 1).bind λx_52=>some (.inl (x_52,l_37,m_38))))else(some (.inr (l_33,m_34)))
def Im(c0:Chip)(lists0:(List (List Int)))(x_22:Int)(l_23:(List Wear))(m_24:(List Int)):Option ((Int×(List Wear)×(List Int))⊕((List Wear)×(List Int))):=
 bif (decide (x_22<(lists0.length:Int)))then((idx lists0 x_22).bind λx_27=>(ZN (λs=>Il c0 x_27 s.1 s.2.1 s.2.2) ((0:Int),l_23,m_24)).bind λo_31=>el2 o_31 (λl_28 m_29=>(AC x_22 1).bind λx_53=>some (.inl (x_53,l_28,m_29))))else(some (.inr (l_23,m_24)))
def Hk(c0:Chip)(lists0:(List (List Int))):Option (List Wear):=
 (GG (c0.Blocks.length:Int) (2:Int)).bind λx_2=>(Dv 32 x_2).bind λu_3=>(some ((Xac (Xaa x_2) (Dat.z:Wear)):(List Wear))).bind λl_5=>(ZN (λs=>In c0 l_5 s.1 s.2) ((0:Int),l_5)).bind λl_6=>(ZN (λs=>Im c0 lists0 s.1 s.2.1 s.2.2) ((0:Int),l_6,([]:List Int))).bind λo_21=>el2 o_21 (λl_18 m_19=>some l_18)
theorem QS{c0:Chip}{lists0:(List (List Int))}{r:(List Wear)} (H:Hk c0 lists0=some r):CO2 191 [] (D c0) (D lists0) (λg:Nat×Prop×Nat=>Sl g.1 g.2.1 0 (Xat r) g.2.2) λg=>[⟨g.1,g.2.1,Row (r:List Wear) g.2.2⟩]:=eO2 Tryz.func191 rfl Tryz.ntmps191 λA w hA hO=>by
 unfold Hk at H;refine zg ?_;refine Xa9 rfl λb2_0=>zg ?_
 refine zb H λx_2 _ H=>?_
 refine zn H λ_ eu_3 H=>?_
 refine FJ eu_3.h ⟨(A6 eu_3.h).1,XaJ _⟩ rfl λb19_3=>?_
 refine zC ?_;refine zn H λl_5 el_5 H=>?_
 refine ZF b19_3 (Ah el_5.h) ?_;refine zX (B8 5 _ (AY el_5.h (by simp))) ?_;refine TSx (AK (n:=l_5.length) rfl) ?_;refine zC ?_;refine zh H λo_7 H7 H=>?_
 refine Zs (λs:(List Wear)=>o_7=s) (λ(l_6:(List Wear)) (_:Unit)=>(TR (TR (TR Xaj 1 (D lists0)) 2 (Pt b2_0 0)) 5 (Sl b19_3 True 0 l_6.length (Xaa x_2)))) (λ(l_6:(List Wear)) (_:Unit)=>[⟨b19_3,True,(Row (l_6:List Wear) (Xaa x_2))⟩,⟨b2_0,True,(One c0)⟩]) ?_ ?_
 .skip;refine Zr<|Zx H7 (λ⟨x_8,l_9⟩ (_:Unit)=>(TR (TR (TR (TR (TR Xaj 1 (D lists0)) 2 (Pt b2_0 0)) 5 (Sl b19_3 True 0 l_9.length (Xaa x_2))) 21 (D ((l_5.length:Int):Int))) 22 (D x_8))) (λ⟨x_8,l_9⟩ (_:Unit)=>[⟨b19_3,True,(Row (l_9:List Wear) (Xaa x_2))⟩,⟨b2_0,True,(One c0)⟩]) () (Za (Za (Zm (ZH rfl) (Za (Za (Ze _)))))) (Zd rfl (Zd rfl (Zf _))) ?_;rintro⟨x_8,l_9⟩ ⟨⟩ x_10 H10 he10;dsimp only at H10;unfold In at H10;refine zg ?_;refine zc H10 (λhc H10=>?_) λhc H10=>?_
  .refine zg ?_;refine zb H10 λ_ _ H10=>?_
   refine zb H10 λx_12 _ H10=>?_
   refine Xaq rfl λb7_12=>zg ?_
   refine TSx (tB (⟨0,x_12.Used,x_12.Worn,x_12.Bad⟩:Wear) rfl rfl) ?_;refine zn H10 λ_ ex_14 H10=>?_
   refine TSx (Zt (ZP ex_14.h rfl)) ?_;refine zE ?_;refine zn H10 λl_15 el_15 H10=>?_
   refine Ai b19_3 (Ah el_15.h) ?_;refine zX (C9 5 _ (AY el_15.h (by simp))) ?_;refine zb H10 λx_16 _ H10=>?_
   exact Zv ⟨x_16,l_15⟩ () (ZZs H10) (Za (Za (Zm (ZH rfl) (Za (Za (Ze _)))))) (Zd rfl (Zd rfl (Zf _)))
  .refine zg ?_;exact Zl l_9 () (he10 _ (ZZs H10)).symm (Zm (ZH rfl) (Za (Za (Ze _)))) (Zd rfl (Zd rfl (Zf _)))
 rintro l_6 ⟨⟩ hp;replace hp:=hp.symm;subst hp;refine zg ?_;refine TS.makeMap rfl λN_16 r_16 hr_16=>?_
 haveI:=hr_16.op
 refine zE ?_;refine Dd hr_16.rh ?_;refine zC ?_;refine zh H λo_21 H21 H=>?_
 refine M5 hr_16 (λs:((List Wear)×(List Int))=>o_21=s) (λ⟨l_18,m_19⟩=>m_19) (λ⟨l_18,m_19⟩ (_:Unit)=>(TR Xaj 5 (Sl b19_3 True 0 l_18.length (Xaa x_2)))) (λ⟨l_18,m_19⟩ (_:Unit)=>[⟨b19_3,True,(Row (l_18:List Wear) (Xaa x_2))⟩]) ?_ ?_
 .skip;refine Zr<|N8 H21 hr_16 (λ⟨x_22,l_23,m_24⟩=>m_24) (λ⟨x_22,l_23,m_24⟩ (_:Unit)=>(TR (TR (TR (TR (TR (TR Xaj 2 (Pt b2_0 0)) 5 (Sl b19_3 True 0 l_23.length (Xaa x_2))) 8 (WA N_16)) 43 (D lists0)) 44 (D ((lists0.length:Int):Int))) 45 (D x_22))) (λ⟨x_22,l_23,m_24⟩ (_:Unit)=>[⟨b19_3,True,(Row (l_23:List Wear) (Xaa x_2))⟩,⟨b2_0,True,(One c0)⟩]) () rfl (Za (Za (Za (Za (Zm (ZH rfl) (Za (Ze _))))))) (Zd rfl (Zd rfl (Zf _))) ?_;rintro⟨x_22,l_23,m_24⟩ ⟨⟩ x_26 H26 he26 r_24 hr_24
  haveI:=hr_24.op
  try dsimp only at H26
  unfold Im at H26;refine zg ?_;refine zc H26 (λhc H26=>?_) λhc H26=>?_
  .refine zg ?_;refine zo H26 λx_27 _ H26=>?_
   refine zC ?_;refine zC ?_;refine zh H26 λo_31 H31 H26=>?_
   refine M5 hr_24 (λs:((List Wear)×(List Int))=>o_31=s) (λ⟨l_28,m_29⟩=>m_29) (λ⟨l_28,m_29⟩ (_:Unit)=>(TR (TR (TR (TR (TR (TR Xaj 2 (Pt b2_0 0)) 5 (Sl b19_3 True 0 l_28.length (Xaa x_2))) 8 (WA N_16)) 43 (D lists0)) 44 (D ((lists0.length:Int):Int))) 45 (D x_22))) (λ⟨l_28,m_29⟩ (_:Unit)=>[⟨b19_3,True,(Row (l_28:List Wear) (Xaa x_2))⟩,⟨b2_0,True,(One c0)⟩]) ?_ ?_
   .skip;refine Zr<|N8 H31 hr_24 (λ⟨x_32,l_33,m_34⟩=>m_34) (λ⟨x_32,l_33,m_34⟩ (_:Unit)=>(TR (TR (TR (TR (TR (TR (TR (TR (TR Xaj 2 (Pt b2_0 0)) 5 (Sl b19_3 True 0 l_33.length (Xaa x_2))) 8 (WA N_16)) 43 (D lists0)) 44 (D ((lists0.length:Int):Int))) 45 (D x_22)) 49 (D x_27)) 50 (D ((x_27.length:Int):Int))) 51 (D x_32))) (λ⟨x_32,l_33,m_34⟩ (_:Unit)=>[⟨b19_3,True,(Row (l_33:List Wear) (Xaa x_2))⟩,⟨b2_0,True,(One c0)⟩]) () rfl (Za (Za (Za (Za (Za (Za (Za (Zm (ZH rfl) (Za (Ze _)))))))))) (Zd rfl (Zd rfl (Zf _))) ?_;rintro⟨x_32,l_33,m_34⟩ ⟨⟩ x_36 H36 he36 r_34 hr_34
    haveI:=hr_34.op
    try dsimp only at H36
    unfold Il at H36;refine zg ?_;refine zc H36 (λhc H36=>?_) λhc H36=>?_
    .refine AH<|Az<|AI ?_;refine zh H36 λo_40 H40 H36=>?_
     refine M5 hr_34 (λs:((List Wear)×(List Int))=>o_40=s) (λ⟨l_37,m_38⟩=>m_38) (λ⟨l_37,m_38⟩ (_:Unit)=>(TR (TR (TR (TR (TR (TR (TR (TR (TR Xaj 2 (Pt b2_0 0)) 5 (Sl b19_3 True 0 l_37.length (Xaa x_2))) 8 (WA N_16)) 43 (D lists0)) 44 (D ((lists0.length:Int):Int))) 45 (D x_22)) 49 (D x_27)) 50 (D ((x_27.length:Int):Int))) 51 (D x_32))) (λ⟨l_37,m_38⟩ (_:Unit)=>[⟨b19_3,True,(Row (l_37:List Wear) (Xaa x_2))⟩,⟨b2_0,True,(One c0)⟩]) ?_ ?_
     .skip;refine zg ?_;refine zb H40 λ_ _ H40=>?_
      refine zX (Kc hr_34 rfl) ?_;refine TSx Nb ?_;refine zX (Zd5 M8) ?_;refine zc H40 (λhc H40=>?_) λhc H40=>?_
      .refine zg ?_;exact Kf hr_34 ⟨l_33,m_34⟩ () (ZZs H40) rfl (Za (Za (Za (Za (Za (Za (Za (Zm (ZH rfl) (Za (Ze _)))))))))) (Zd rfl (Zd rfl (Zf _)))
      .refine zg ?_;refine TSx Na ?_;refine XfK hr_34 λr_42 hr_42=>?_
       haveI:=hr_42.op
       refine zE ?_;refine Dd (hr_42.rh.trans hr_34.rh.symm) ?_;refine zn H40 λm_44 em_44 H40=>?_
       replace hr_42:=(ZZi em_44.h)▸hr_42;refine zg ?_;refine zb H40 λ_ _ H40=>?_
       refine zb H40 λ_ _ H40=>?_
       refine zb H40 λ_ _ H40=>?_
       refine zn H40 λ_ ex_48 H40=>?_
       refine zX (A4 (Zt (ZP ex_48.h rfl)) rfl) ?_;refine zb H40 λ_ _ H40=>?_
       refine zn H40 λ_ ex_50 H40=>?_
       refine TSx (Zt (ZP ex_50.h rfl)) ?_;refine zE ?_;refine zn H40 λl_51 el_51 H40=>?_
       refine Ai b19_3 (Ah el_51.h) ?_;refine zX (C9 5 _ (AY el_51.h (by simp))) ?_;exact Kf hr_42 ⟨l_51,m_44⟩ () (ZZs H40) rfl (Za (Za (Za (Za (Za (Za (Za (Zm (ZH rfl) (Za (Ze _)))))))))) (Zd rfl (Zd rfl (Zf _)))
     rintro⟨l_37,m_38⟩ ⟨⟩ hp r_38 hr_38
     haveI:=hr_38.op
     replace hp:=hp.symm;subst hp;replace H36:=EX H36;refine zX (Dd (hr_38.rh.trans hr_34.rh.symm)) ?_;refine zb H36 λx_52 _ H36=>?_
     exact N7 hr_38 ⟨x_52,l_37,m_38⟩ () (ZZs H36) rfl (Za (Za (Za (Za (Za (Za (Za (Zm (ZH rfl) (Za (Ze _)))))))))) (Zd rfl (Zd rfl (Zf _)))
    .refine zg ?_;exact Kf hr_34 ⟨l_33,m_34⟩ () (he36 _ (ZZs H36)).symm rfl (Za (Za (Za (Za (Zm (ZH rfl) (Za (Ze _))))))) (Zd rfl (Zd rfl (Zf _)))
   rintro⟨l_28,m_29⟩ ⟨⟩ hp r_29 hr_29
   haveI:=hr_29.op
   replace hp:=hp.symm;subst hp;replace H26:=EX H26;refine BV ?_;refine zX (Dd (hr_29.rh.trans hr_24.rh.symm)) ?_;refine zb H26 λx_53 _ H26=>?_
   exact N7 hr_29 ⟨x_53,l_28,m_29⟩ () (ZZs H26) rfl (Za (Za (Za (Za (Zm (ZH rfl) (Za (Ze _))))))) (Zd rfl (Zd rfl (Zf _)))
  .refine zg ?_;exact Kf hr_24 ⟨l_23,m_24⟩ () (he26 _ (ZZs H26)).symm rfl (Zm (ZH rfl) (Ze _)) (Zd rfl (Zf _))
 rintro⟨l_18,m_19⟩ ⟨⟩ hp r_19 hr_19
 haveI:=hr_19.op
 replace hp:=hp.symm;subst hp;replace H:=EX H;refine Dd (hr_19.rh.trans hr_16.rh.symm) ?_;refine zC ?_;refine ZO<|GU hr_19 ?_;obtain rfl:=ZZi H;exact ZG rfl ⟨b19_3,True,(Xaa x_2)⟩ (ZH rfl) (Zd rfl (Zf _))
def Do(x_1:(List Wear))(x_5:Int)(l_6:(List Wear)):Option ((Int×(List Wear))⊕(List Wear)):=
 bif (decide (x_5<(x_1.length:Int)))then(((idx l_6 x_5).bind λx_10=>bif x_10.Bad then((idx l_6 x_5).bind λx_11=>(some ((l_6.set (Xaa x_5) (⟨0,0,0,true⟩:Wear)):(List Wear))).bind λl_12=>some l_12)else(some l_6)).bind λl_8=>(AC x_5 1).bind λx_13=>some (.inl (x_13,l_8)))else(some (.inr l_6))
def Ay(w0x:Zc)(lists0:(List (List Int))):Option (List Wear):=
 (Hk w0x.Vol.Chip lists0).bind λx_1=>(ZN (λs=>Do x_1 s.1 s.2) ((0:Int),x_1)).bind λl_3=>some l_3
theorem Cx{w0x:Zc}{lists0:(List (List Int))}{r:(List Wear)} (H:Ay w0x lists0=some r):CO2 170 [] (K3 w0x) (D lists0) (λg:Nat×Prop×Nat=>Sl g.1 g.2.1 0 (Xat r) g.2.2) λg=>[⟨g.1,g.2.1,Row (r:List Wear) g.2.2⟩]:=eO2 Tryz.func170 rfl Tryz.ntmps170 λA w hA hO=>by
 unfold Ay at H;refine zg ?_;refine zn H λx_1 ex_1 H=>?_
 refine D4 (oc2 [] (QS ex_1.h) toD toD) rfl λ⟨b13_1,p13_1,c13_1⟩=>?_
 refine zw ?_;refine TSx (AK (n:=x_1.length) rfl) ?_;refine zC ?_;refine zh H λo_4 H4 H=>?_
 refine Zs (λs:(List Wear)=>o_4=s) (λ(l_3:(List Wear)) (_:Unit)=>(TR Xaj 5 (Sl b13_1 p13_1 0 l_3.length c13_1))) (λ(l_3:(List Wear)) (_:Unit)=>[⟨b13_1,p13_1,(Row (l_3:List Wear) c13_1)⟩]) ?_ ?_
 .skip;refine Zr<|Zx H4 (λ⟨x_5,l_6⟩ (_:Unit)=>(TR (TR (TR Xaj 5 (Sl b13_1 p13_1 0 l_6.length c13_1)) 15 (D ((x_1.length:Int):Int))) 16 (D x_5))) (λ⟨x_5,l_6⟩ (_:Unit)=>[⟨b13_1,p13_1,(Row (l_6:List Wear) c13_1)⟩]) () (Za (Za (Zm (ZH rfl) (Ze _)))) (Zd rfl (Zf _)) ?_;rintro⟨x_5,l_6⟩ ⟨⟩ x_7 H7 he7;dsimp only at H7;unfold Do at H7;refine zg ?_;refine zc H7 (λhc H7=>?_) λhc H7=>?_
  .refine AH<|Az<|AI ?_;refine zh H7 λo_9 H9 H7=>?_
   refine Zs (λs:(List Wear)=>o_9=s) (λ(l_8:(List Wear)) (_:Unit)=>(TR (TR (TR Xaj 5 (Sl b13_1 p13_1 0 l_8.length c13_1)) 15 (D ((x_1.length:Int):Int))) 16 (D x_5))) (λ(l_8:(List Wear)) (_:Unit)=>[⟨b13_1,p13_1,(Row (l_8:List Wear) c13_1)⟩]) ?_ ?_
   .skip;refine zg ?_;refine zn H9 λ_ ex_10 H9=>?_
    refine zX (A4 (Zt (ZP ex_10.h rfl)) rfl) ?_;refine zc H9 (λhc H9=>?_) λhc H9=>?_
    .refine zg ?_;refine TSx (tB (⟨0,0,0,true⟩:Wear) rfl rfl) ?_;refine zn H9 λ_ ex_11 H9=>?_
     refine TSx (Zt (ZP ex_11.h rfl)) ?_;refine zE ?_;refine zn H9 λl_12 el_12 H9=>?_
     refine Ai b13_1 (Ah el_12.h) ?_;refine zX (C9 5 _ (AY el_12.h (by simp))) ?_;exact Zl l_12 () (ZZs H9) (Za (Za (Zm (ZH rfl) (Ze _)))) (Zd rfl (Zf _))
    .refine zg ?_;exact Zl l_6 () (ZZs H9) (Za (Za (Zm (ZH rfl) (Ze _)))) (Zd rfl (Zf _))
   rintro l_8 ⟨⟩ hp;replace hp:=hp.symm;subst hp;refine zg ?_;refine zb H7 λx_13 _ H7=>?_
   exact Zv ⟨x_13,l_8⟩ () (ZZs H7) (Za (Za (Zm (ZH rfl) (Ze _)))) (Zd rfl (Zf _))
  .refine zg ?_;exact Zl l_6 () (he7 _ (ZZs H7)).symm (Zm (ZH rfl) (Ze _)) (Zd rfl (Zf _))
 rintro l_3 ⟨⟩ hp;replace hp:=hp.symm;subst hp;refine zg ?_;obtain rfl:=ZZi H;exact ZG rfl ⟨b13_1,p13_1,c13_1⟩ (ZH rfl) (Zd rfl (Zf _))
def AE(w0x:Zc)(block0:Int):Option Int:=
 (idx w0x.Vol.Chip.Blocks block0).bind λx_1=>bif x_1.Bad then(some (0:Int))else((GG w0x.Vol.Chip.Pages x_1.Used).bind λx_3=>some x_3)
theorem Bn{A:Nat->Prop}{w0x:Zc}{block0:Int}  {r:Int} (w:World) (v0 v1:Value) (hA:∀k,w.heap.size<=k->A k)  (h0:(K3 w0x).p A w v0) (h1:(D block0).p A w v1) (H:AE w0x block0=some r) :
    Calls Tryz.prog 117 #[v0,v1] w (Ret A w (D r)):=by
 unfold AE at H;refine Sd hA Tryz.func117 rfl Tryz.ntmps117 rfl h0 h1 ?_;exact zY H
def Ar(w0x:Zc)(block0:Int)(e0:Int):Option Zc:=
 bif (decide (e0=(9:Int)))then((J9 w0x.Vol.Chip block0).bind λr_1=>(some ((⟨(⟨r_1.1,w0x.Vol.At,w0x.Vol.Gen,w0x.Vol.Last⟩:Vol),w0x.beyond⟩:Zc):Zc)).bind λl_2=>some l_2)else(some w0x)
theorem Hi{w0x:Zc}{block0:Int}{e0:Int}{b0:Nat}{r:Zc} (H:Ar w0x block0 e0=some r):CO3 140 [⟨b0,True,One w0x⟩] (Pt b0 0) (D block0) (D e0) (λg:Unit=>Tup []) λg=>[⟨b0,True,One r⟩]:=eO3 Tryz.func140 rfl Tryz.ntmps140 λA w hA hO=>by
 unfold Ar at H;refine zg ?_;refine zc H (λhc H=>?_) λhc H=>?_
 .refine zg ?_;refine zo H λ_ _ H=>?_
  refine zE ?_;refine zn H λ_ el_2 H=>?_
  refine Ai b0 (Ag el_2.h) ?_;obtain rfl:=ZZi H;exact N6 rfl rfl () .nil (Zd rfl (Zf _))
 .refine zg ?_;obtain rfl:=ZZi H;exact N6 rfl rfl () .nil (Zd rfl (Zf _))
def ZS(w0x:Zc)(block0:Int)(b0x:(List UInt8)):Option (Int×Zc):=
 (idx w0x.Vol.Chip.Blocks block0).bind λx_1=>(F6 w0x.Vol.Chip block0 x_1.Used b0x).bind λr_2=>(some ((⟨(⟨r_2.1,w0x.Vol.At,w0x.Vol.Gen,w0x.Vol.Last⟩:Vol),w0x.beyond⟩:Zc):Zc)).bind λw_4=>(Ar w_4 block0 r_2.2).bind λx_5=>some (r_2.2,x_5)
theorem Bi{w0x:Zc}{block0:Int}{b0x:(List UInt8)}{b0:Nat}{r:(Int×Zc)} (H:ZS w0x block0 b0x=some r):CO3 118 [⟨b0,True,One w0x⟩] (Pt b0 0) (D block0) (D b0x) (λg:Unit=>D r.1) λg=>[⟨b0,True,One r.2⟩]:=eO3 Tryz.func118 rfl Tryz.ntmps118 λA w hA hO=>by
 unfold ZS at H;refine zC ?_;refine zX (Bd [21,22] [] mix (by kernel_rfl) (by kernel_rfl)) ?_;refine zb H λ_ _ H=>?_
 refine zb H λr_2 _ H=>?_
 refine GT (λg=>DZ (α:=Chip)) rfl<|DP (λg=>(ZD (y:=(r_2.1:Chip)) ZB)) rfl ?_;refine zC ?_;rintro⟨⟨_,⟨b7_2,_⟩⟩,_⟩;dsimp only[XaV,XaW,XaS,Xan,Xam];refine zC ?_;refine zn H λ_ ew_4 H=>?_
 refine zX (ZF b0 (Ag ew_4.h)) ?_;refine zn H λ_ ex_5 H=>?_
 refine D4 (oc3 [b0] (Hi ex_5.h) id toD toD) rfl λ_=>?_
 refine zw ?_;obtain rfl:=ZZi H;exact ZG rfl () Cv.le (Zd rfl (Zf _))
def AW(w0x:Zc)(block0:Int):Option (Int×Zc):=
 (IM w0x.Vol.Chip block0).bind λr_1=>(some ((⟨(⟨r_1.1,w0x.Vol.At,w0x.Vol.Gen,w0x.Vol.Last⟩:Vol),w0x.beyond⟩:Zc):Zc)).bind λw_3=>(Ar w_3 block0 r_1.2).bind λx_4=>some (r_1.2,x_4)
theorem D3{w0x:Zc}{block0:Int}{b0:Nat}{r:(Int×Zc)} (H:AW w0x block0=some r):CO2 114 [⟨b0,True,One w0x⟩] (Pt b0 0) (D block0) (λg:Unit=>D r.1) λg=>[⟨b0,True,One r.2⟩]:=eO2 Tryz.func114 rfl Tryz.ntmps114 λA w hA hO=>by
 unfold AW at H;refine zg ?_;refine zb H λ_ _ H=>?_
 refine Xaq rfl λb5_1=>?_
 refine zC ?_;refine zC ?_;refine zn H λ_ ew_3 H=>?_
 refine zX (ZF b0 (Ag ew_3.h)) ?_;refine zn H λ_ ex_4 H=>?_
 refine D4 (oc3 [b0] (Hi ex_4.h) id toD toD) rfl λ_=>?_
 refine zw ?_;obtain rfl:=ZZi H;exact ZG rfl () Cv.le (Zd rfl (Zf _))
def DI(block0:Int)(w_3:Zc):Option (Zc⊕(Zc⊕(Int×Zc))):=
 (AE w_3 block0).bind λx_5=>bif (decide (x_5>(0:Int)))then((Gr (⟨(1:Int),0,0,[]⟩:B9) w_3.Vol.Chip.Size).bind λr_6=>(ZS w_3 block0 r_6.1).bind λx_7=>bif (decide (x_7.1≠(0:Int)))then(some (.inr (.inr (x_7.1,x_7.2))))else(some (.inl x_7.2)))else(some (.inr (.inl w_3)))
def Ad(w0x:Zc)(block0:Int):Option (Int×Zc):=
 (ZN (λs=>DI block0 s) w0x).bind λo_2=>elS o_2 (λw_1=>(AW w_1 block0).bind λx_10=>some (x_10.1,x_10.2)) (λq=>some q)
theorem BH{w0x:Zc}{block0:Int}{b0:Nat}{r:(Int×Zc)} (H:Ad w0x block0=some r):CO2 178 [⟨b0,True,One w0x⟩] (Pt b0 0) (D block0) (λg:Unit=>D r.1) λg=>[⟨b0,True,One r.2⟩]:=eO2 Tryz.func178 rfl Tryz.ntmps178 λA w hA hO=>by
 unfold Ad at H;refine zC ?_;refine AI ?_;refine zh H λo_2 H2 H=>?_
 refine Zs (λs:Zc=>o_2=.inl s) (λ(w_1:Zc) (_:Unit)=>(TR (TR Xaj 0 (Pt b0 0)) 1 (D block0))) (λ(w_1:Zc) (_:Unit)=>[⟨b0,True,(One w_1)⟩]) ?_ ?_
 .skip;refine Zr<|Zx H2 (λ(w_3:Zc) (_:Unit)=>(TR (TR Xaj 0 (Pt b0 0)) 1 (D block0))) (λ(w_3:Zc) (_:Unit)=>[⟨b0,True,(One w_3)⟩]) () (Za (Za (Ze _))) (Zd rfl (Zf _)) ?_;rintro w_3 ⟨⟩ x_4 H4 he4;unfold DI at H4;refine zg ?_;refine zn H4 λ_ ex_5 H4=>?_
  refine zX (A4 (Dj [b0] (Du ZB trivial (by simp)) Xfr λw v0 v1 hA h0 h1=>Bn w v0 v1 hA h0 (toD h1) ex_5.h) rfl) ?_;refine zc H4 (λhc H4=>?_) λhc H4=>?_
  .refine zg ?_;refine zX (A4 (tB (⟨(1:Int),0,0,[]⟩:B9) rfl rfl) rfl) ?_;refine zb H4 λ_ _ H4=>?_
   refine zn H4 λx_7 ex_7 H4=>?_
   refine D4 (oc3 [b0] (Bi ex_7.h) id toD toD) rfl λ_=>?_
   refine zw ?_;refine zc H4 (λhc H4=>?_) λhc H4=>?_
   .refine zC ?_;refine ZO<|Zh<|Zi<|Zh<|Zw ?_;have R8:=AQ (he4 _ (ZZs H4)) H;refine zg ?_;obtain rfl:=ZZi R8;exact ZG rfl () Cv.le (Zd rfl (Zf _))
   .refine zg ?_;exact Zv x_7.2 () (ZZs H4) (Za (Za (Ze _))) (Zd rfl (Zf _))
  .refine zg ?_;exact Zl w_3 () (he4 _ (ZZs H4)).symm (Za (Za (Ze _))) (Zd rfl (Zf _))
 rintro w_1 ⟨⟩ hp;replace H:=Bs hp H;refine zg ?_;refine zn H λ_ ex_10 H=>?_
 refine D4 (oc2 [b0] (D3 ex_10.h) id toD) rfl λ_=>?_
 refine zw ?_;obtain rfl:=ZZi H;exact ZG rfl () Cv.le (Zd rfl (Zf _))
def ZI(w0x:Zc)(x_1:Int)(x_3:Int):Option (Int⊕(Unit⊕(Int×Int×Zc))):=
 bif (decide (x_3<(([w0x.Vol.Last,x_1]:List Int).length:Int)))then((idx ([w0x.Vol.Last,x_1]:List Int) x_3).bind λx_5=>(AE w0x x_5).bind λx_6=>bif (decide (x_6>(0:Int)))then(some (.inr (.inr (x_5,(0:Int),w0x))))else((AC x_3 1).bind λx_8=>some (.inl x_8)))else(some (.inr (.inl ())))
def Bh(w0x:Zc):Option (Int×Int×Zc):=
 (GG (1:Int) w0x.Vol.Last).bind λx_1=>(ZN (λs=>ZI w0x x_1 s) (0:Int)).bind λo_2=>elS o_2 (λ_=>(idx w0x.Vol.Chip.Blocks x_1).bind λx_9=>bif x_9.Bad then(some ((0:Int),(9:Int),w0x))else((AW w0x x_1).bind λx_10=>some (x_1,x_10.1,x_10.2))) (λq=>some q)
theorem IH{w0x:Zc}{b0:Nat}{r:(Int×Int×Zc)} (H:Bh w0x=some r):CO1 151 [⟨b0,True,One w0x⟩] (Pt b0 0) (λg:Unit=>Tup [D r.1,D r.2.1]) λg=>[⟨b0,True,One r.2.2⟩]:=eO1 Tryz.func151 rfl Tryz.ntmps151 λA w hA hO=>by
 unfold Bh at H;refine zg ?_;refine zb H λx_1 _ H=>?_
 refine TSx (Xbx [.tmp 17,.tmp 18] rfl rfl (by decide)) ?_;refine zC ?_;refine zh H λo_2 H2 H=>?_
 refine Zs (λs:Unit=>o_2=.inl s) (λ(_:Unit) (_:Unit)=>(TR (TR Xaj 0 (Pt b0 0)) 4 (D x_1))) (λ(_:Unit) (_:Unit)=>[⟨b0,True,(One w0x)⟩]) ?_ ?_
 .skip;refine Zr<|Zx H2 (λ(x_3:Int) (_:Unit)=>(TR (TR (TR (TR (TR Xaj 0 (Pt b0 0)) 4 (D x_1)) 19 (D (([w0x.Vol.Last,x_1]:List Int):(List Int)))) 20 (D ((([w0x.Vol.Last,x_1]:List Int).length:Int):Int))) 21 (D x_3))) (λ(x_3:Int) (_:Unit)=>[⟨b0,True,(One w0x)⟩]) () (Za (Za (Za (Za (Za (Ze _)))))) (Zd rfl (Zf _)) ?_;rintro x_3 ⟨⟩ x_4 H4 he4;unfold ZI at H4;refine zg ?_;refine zc H4 (λhc H4=>?_) λhc H4=>?_
  .refine zg ?_;refine zb H4 λ_ _ H4=>?_
   refine zn H4 λ_ ex_6 H4=>?_
   refine zX (A4 (Dj [b0] (Du ZB trivial (by simp)) Xfr λw v0 v1 hA h0 h1=>Bn w v0 v1 hA h0 (toD h1) ex_6.h) rfl) ?_;refine zc H4 (λhc H4=>?_) λhc H4=>?_
   .refine zC ?_;refine ZO<|Zh<|Zi<|Zi<|Zh<|Zw ?_;have R6:=AQ (he4 _ (ZZs H4)) H;refine zg ?_;obtain rfl:=ZZi R6;exact AD rfl rfl () (.cons Cv.le (.cons Cv.le .nil)) (Zd rfl (Zf _))
   .refine zg ?_;refine zb H4 λx_8 _ H4=>?_
    exact Zv x_8 () (ZZs H4) (Za (Za (Za (Za (Za (Ze _)))))) (Zd rfl (Zf _))
  .refine zg ?_;exact Zl () () (he4 _ (ZZs H4)).symm (Za (Za (Ze _))) (Zd rfl (Zf _))
 rintro⟨⟩ ⟨⟩ hp;replace H:=Bs hp H;refine zg ?_;refine zb H λ_ _ H=>?_
 refine zc H (λhc H=>?_) λhc H=>?_
 .refine zg ?_;obtain rfl:=ZZi H;exact AD rfl rfl () (.cons Cv.le (.cons Cv.le .nil)) (Zd rfl (Zf _))
 .refine zg ?_;refine zn H λ_ ex_10 H=>?_
  refine D4 (oc2 [b0] (D3 ex_10.h) id toD) rfl λ_=>?_
  refine zw ?_;obtain rfl:=ZZi H;exact AD rfl rfl () (.cons Cv.le (.cons Cv.le .nil)) (Zd rfl (Zf _))
def CZ(x_1:Zo)(gen_4:UInt64)(x_5:Int):Option ((UInt64×Int)⊕UInt64):=
 bif (decide (x_5<(x_1.Pages.length:Int)))then(((idx x_1.Pages x_5).bind λx_9=>(Ix x_9).bind λr_10=>bif (decide (r_10.2=(0:Int)))then(some (max64 gen_4 r_10.1.Gen))else(some gen_4)).bind λgen_7=>(AC x_5 1).bind λx_12=>some (.inl (gen_7,x_12)))else(some (.inr gen_4))
def Ak(w0x:Zc)(block0:Int):Option UInt64:=
 (idx w0x.Vol.Chip.Blocks block0).bind λx_1=>(ZN (λs=>CZ x_1 s.1 s.2) ((Xap 0),(0:Int))).bind λgen_2=>some gen_2
theorem Db{A:Nat->Prop}{w0x:Zc}{block0:Int}  {r:UInt64} (w:World) (v0 v1:Value) (hA:∀k,w.heap.size<=k->A k)  (h0:(K3 w0x).p A w v0) (h1:(D block0).p A w v1) (H:Ak w0x block0=some r) :
    Calls Tryz.prog 138 #[v0,v1] w (Ret A w (D r)):=by
 unfold Ak at H;refine zX (Sd hA Tryz.func138 rfl Tryz.ntmps138 rfl h0 h1) ?_;refine zo H λx_1 _ H=>?_
 refine zC ?_;refine zh H λo_3 H3 H=>?_
 refine Zs (λs:UInt64=>o_3=s) (λ(gen_2:UInt64) (_:Unit)=>(TR Xaj 5 (D gen_2))) (λ(gen_2:UInt64) (_:Unit)=>[]) ?_ ?_
 .skip;refine Zr<|Zx H3 (λ⟨gen_4,x_5⟩ (_:Unit)=>(TR (TR (TR (TR Xaj 5 (D gen_4)) 19 (D x_1.Pages)) 20 (D ((x_1.Pages.length:Int):Int))) 21 (D x_5))) (λ⟨gen_4,x_5⟩ (_:Unit)=>[]) () (Za (Za (Za (Za (Ze _))))) (Zf _) ?_;rintro⟨gen_4,x_5⟩ ⟨⟩ x_6 H6 he6;dsimp only at H6;unfold CZ at H6;refine zg ?_;refine zc H6 (λhc H6=>?_) λhc H6=>?_
  .refine AH<|Az<|AI ?_;refine zh H6 λo_8 H8 H6=>?_
   refine Zs (λs:UInt64=>o_8=s) (λ(gen_7:UInt64) (_:Unit)=>(TR (TR (TR (TR Xaj 5 (D gen_7)) 19 (D x_1.Pages)) 20 (D ((x_1.Pages.length:Int):Int))) 21 (D x_5))) (λ(gen_7:UInt64) (_:Unit)=>[]) ?_ ?_
   .skip;refine zg ?_;refine zb H8 λ_ _ H8=>?_
    refine zb H8 λr_10 _ H8=>?_
    refine Xaq rfl λb8_10=>zg ?_
    refine zc H8 (λhc H8=>?_) λhc H8=>?_
    .refine zg ?_;refine zX (A4 OpY.max64 rfl) ?_;exact Zl (max64 gen_4 r_10.1.Gen) () (ZZs H8) (Za (Za (Za (Za (Ze _))))) (Zf _)
    .refine zg ?_;exact Zl gen_4 () (ZZs H8) (Za (Za (Za (Za (Ze _))))) (Zf _)
   rintro gen_7 ⟨⟩ hp;replace hp:=hp.symm;subst hp;refine zg ?_;refine zb H6 λx_12 _ H6=>?_
   exact Zv ⟨gen_7,x_12⟩ () (ZZs H6) (Za (Za (Za (Za (Ze _))))) (Zf _)
  .refine zg ?_;exact Zl gen_4 () (he6 _ (ZZs H6)).symm (Za (Ze _)) (Zf _)
 rintro gen_2 ⟨⟩ hp;replace hp:=hp.symm;subst hp;exact zY H
def DE(at0:(List Int))(gen_1:UInt64)(r_2:((List UInt8)×Int))(w_3:Zc):Option (Zc⊕(Int×Zc)):=
 (Bh w_3).bind λx_5=>bif (decide (x_5.2.1≠(0:Int)))then(some (.inr (x_5.2.1,x_5.2.2)))else((ZS x_5.2.2 x_5.1 r_2.1).bind λx_7=>bif (decide (x_7.1=(0:Int)))then(((Ak x_7.2 (1:Int)).bind λx_11=>bif (decide (x_11=gen_1))then(some (1:Int))else(some x_5.1)).bind λblock_9=>(some ((⟨(⟨((⟨(⟨((⟨(⟨x_7.2.Vol.Chip,at0,x_7.2.Vol.Gen,x_7.2.Vol.Last⟩:Vol),x_7.2.beyond⟩:Zc).Vol).Chip,((⟨(⟨x_7.2.Vol.Chip,at0,x_7.2.Vol.Gen,x_7.2.Vol.Last⟩:Vol),x_7.2.beyond⟩:Zc).Vol).At,gen_1,((⟨(⟨x_7.2.Vol.Chip,at0,x_7.2.Vol.Gen,x_7.2.Vol.Last⟩:Vol),x_7.2.beyond⟩:Zc).Vol).Last⟩:Vol),(⟨(⟨x_7.2.Vol.Chip,at0,x_7.2.Vol.Gen,x_7.2.Vol.Last⟩:Vol),x_7.2.beyond⟩:Zc).beyond⟩:Zc).Vol).Chip,((⟨(⟨((⟨(⟨x_7.2.Vol.Chip,at0,x_7.2.Vol.Gen,x_7.2.Vol.Last⟩:Vol),x_7.2.beyond⟩:Zc).Vol).Chip,((⟨(⟨x_7.2.Vol.Chip,at0,x_7.2.Vol.Gen,x_7.2.Vol.Last⟩:Vol),x_7.2.beyond⟩:Zc).Vol).At,gen_1,((⟨(⟨x_7.2.Vol.Chip,at0,x_7.2.Vol.Gen,x_7.2.Vol.Last⟩:Vol),x_7.2.beyond⟩:Zc).Vol).Last⟩:Vol),(⟨(⟨x_7.2.Vol.Chip,at0,x_7.2.Vol.Gen,x_7.2.Vol.Last⟩:Vol),x_7.2.beyond⟩:Zc).beyond⟩:Zc).Vol).At,((⟨(⟨((⟨(⟨x_7.2.Vol.Chip,at0,x_7.2.Vol.Gen,x_7.2.Vol.Last⟩:Vol),x_7.2.beyond⟩:Zc).Vol).Chip,((⟨(⟨x_7.2.Vol.Chip,at0,x_7.2.Vol.Gen,x_7.2.Vol.Last⟩:Vol),x_7.2.beyond⟩:Zc).Vol).At,gen_1,((⟨(⟨x_7.2.Vol.Chip,at0,x_7.2.Vol.Gen,x_7.2.Vol.Last⟩:Vol),x_7.2.beyond⟩:Zc).Vol).Last⟩:Vol),(⟨(⟨x_7.2.Vol.Chip,at0,x_7.2.Vol.Gen,x_7.2.Vol.Last⟩:Vol),x_7.2.beyond⟩:Zc).beyond⟩:Zc).Vol).Gen,block_9⟩:Vol),(⟨(⟨((⟨(⟨x_7.2.Vol.Chip,at0,x_7.2.Vol.Gen,x_7.2.Vol.Last⟩:Vol),x_7.2.beyond⟩:Zc).Vol).Chip,((⟨(⟨x_7.2.Vol.Chip,at0,x_7.2.Vol.Gen,x_7.2.Vol.Last⟩:Vol),x_7.2.beyond⟩:Zc).Vol).At,gen_1,((⟨(⟨x_7.2.Vol.Chip,at0,x_7.2.Vol.Gen,x_7.2.Vol.Last⟩:Vol),x_7.2.beyond⟩:Zc).Vol).Last⟩:Vol),(⟨(⟨x_7.2.Vol.Chip,at0,x_7.2.Vol.Gen,x_7.2.Vol.Last⟩:Vol),x_7.2.beyond⟩:Zc).beyond⟩:Zc).beyond⟩:Zc):Zc)).bind λl_12=>some (.inr ((0:Int),l_12)))else(bif (decide (x_7.1≠(9:Int)))then(some (.inr (x_7.1,x_7.2)))else(some (.inl x_7.2))))
def Bx(w0x:Zc)(at0:(List Int)):Option (Int×Zc):=
 (some ((w0x.Vol.Gen+(Xap 1)):UInt64)).bind λgen_1=>(Kt (⟨gen_1,at0⟩:AA) w0x.Vol.Chip.Size).bind λr_2=>bif (decide (r_2.2≠(0:Int)))then(some (r_2.2,w0x))else(ZN (λs=>DE at0 gen_1 r_2 s) w0x)
theorem Gj{w0x:Zc}{at0:(List Int)}{b0:Nat}{r:(Int×Zc)} (H:Bx w0x at0=some r):CO2 122 [⟨b0,True,One w0x⟩] (Pt b0 0) (D at0) (λg:Unit=>D r.1) λg=>[⟨b0,True,One r.2⟩]:=eO2 Tryz.func122 rfl Tryz.ntmps122 λA w hA hO=>by
 unfold Bx at H;refine zg ?_;refine TSx Km ?_;refine zC ?_;refine zn H λgen_1 egen_1 H=>?_
 refine zX (B8 5 (D gen_1) (RU egen_1.h)) ?_;refine zX (A4 (tB (⟨gen_1,at0⟩:AA) rfl rfl) rfl) ?_;refine zb H λr_2 _ H=>?_
 refine zc H (λhc H=>?_) λhc H=>?_
 .refine zg ?_;obtain rfl:=ZZi H;exact ZG rfl () Cv.le (Zd rfl (Zf _))
 .refine AH<|Az<|Zr<|Zx H (λ(w_3:Zc) (_:Unit)=>(TR (TR (TR (TR Xaj 0 (Pt b0 0)) 1 (D at0)) 5 (D gen_1)) 6 (D r_2.1))) (λ(w_3:Zc) (_:Unit)=>[⟨b0,True,(One w_3)⟩]) () (Za (Za (Za (Za (Ze _))))) (Zd rfl (Zf _)) ?_;rintro w_3 ⟨⟩ x_4 H4 he4;unfold DE at H4;refine zg ?_;refine zn H4 λx_5 ex_5 H4=>?_
  refine D4 (oc1 [b0] (IH ex_5.h) id) rfl λ_=>?_
  refine zw ?_;refine zc H4 (λhc H4=>?_) λhc H4=>?_
  .refine zg ?_;obtain rfl:=(he4 _ (ZZs H4));exact ZG rfl () Cv.le (Zd rfl (Zf _))
  .refine zg ?_;refine zn H4 λx_7 ex_7 H4=>?_
   refine D4 (oc3 [b0] (Bi ex_7.h) id toD toD) rfl λ_=>?_
   refine zw ?_;refine zc H4 (λhc H4=>?_) λhc H4=>?_
   .refine AI ?_;refine zh H4 λo_10 H10 H4=>?_
    refine Zs (λs:Int=>o_10=s) (λ(block_9:Int) (_:Unit)=>(TR (TR (TR (TR Xaj 0 (Pt b0 0)) 1 (D at0)) 5 (D gen_1)) 8 (D block_9))) (λ(block_9:Int) (_:Unit)=>[⟨b0,True,(One x_7.2)⟩]) ?_ ?_
    .skip;refine zg ?_;refine zn H10 λ_ ex_11 H10=>?_
     refine zX (A4 (Dj [b0] (Du ZB trivial (by simp)) Xfr λw v0 v1 hA h0 h1=>Db w v0 v1 hA h0 (toD h1) ex_11.h) rfl) ?_;refine zX (A4 O7 rfl) ?_;refine zc H10 (λhc H10=>?_) λhc H10=>?_
     .refine zg ?_;exact Zl (1:Int) () (ZZs H10) (Za (Za (Za (Za (Ze _))))) (Zd rfl (Zf _))
     .refine zg ?_;exact Zl x_5.1 () (ZZs H10) (Za (Za (Za (Za (Ze _))))) (Zd rfl (Zf _))
    rintro block_9 ⟨⟩ hp;replace hp:=hp.symm;subst hp;refine zC ?_;refine zn H4 λ_ el_12 H4=>?_
    refine zX (ZF b0 (Ag el_12.h)) ?_;obtain rfl:=(he4 _ (ZZs H4));exact ZG rfl () Cv.le (Zd rfl (Zf _))
   .refine zg ?_;refine zc H4 (λhc H4=>?_) λhc H4=>?_
    .refine zg ?_;obtain rfl:=(he4 _ (ZZs H4));exact ZG rfl () Cv.le (Zd rfl (Zf _))
    .refine zg ?_;exact Zv x_7.2 () (ZZs H4) (Za (Za (Za (Za (Ze _))))) (Zd rfl (Zf _))
def AJ(s0:(List Wear)):Option (List Wear):=
 (Dv 32 ((0+s0.length:Nat):Int)).bind λ_=>some s0
theorem EN{s0:(List Wear)}{r:(List Wear)} (H:AJ s0=some r):CO1 193 [] (D s0) (λg:Nat×Prop×Nat=>Sl g.1 g.2.1 0 (Xat r) g.2.2) λg=>[⟨g.1,g.2.1,Row (r:List Wear) g.2.2⟩]:=eO1 Tryz.func193 rfl Tryz.ntmps193 λA w hA hO=>by
 unfold AJ at H;refine zn H λ_ eu H=>?_
 obtain rfl:=ZZi H;refine zg ?_;refine TSx BO ?_;refine zC ?_;refine GA (λhc=>?_) (λhc=>?_)
 .obtain rfl:=hc rfl;refine zg ?_;exact ZG rfl ⟨0,False,0⟩ Dt (BD (Zf _))
 .refine zg ?_;refine XeE [] rfl rfl (by decide) rfl λb=>zg ?_
  refine Xdt (ys:=s0) inferInstance eu.h rfl rfl rfl λb1 p1 c1=>zg ?_
  exact ZG rfl ⟨b1,p1,c1⟩ (ZH (by simp)) (Zd rfl (Zf _))
def Je(rule0:(F1 Tryz.prog Wear Bool))(x_1:(List Wear))(x_5:Int)(some_6:(List Wear)):Option ((Int×(List Wear))⊕(List Wear)):=
 bif (decide (x_5<(x_1.length:Int)))then(((idx some_6 x_5).bind λx_10=>(gb (!x_10.Bad) ((rule0).f x_10)).bind λx_12=>bif (x_10.Bad||(!x_12))then((idx some_6 x_5).bind λx_13=>(some ((some_6.set (Xaa x_5) (⟨0,0,0,true⟩:Wear)):(List Wear))).bind λl_14=>some l_14)else(some some_6)).bind λsome_8=>(AC x_5 1).bind λx_15=>some (.inl (x_15,some_8)))else(some (.inr some_6))
def Cc(l0:(List Wear))(rule0:(F1 Tryz.prog Wear Bool)):Option (List Wear):=
 (AJ l0).bind λx_1=>(ZN (λs=>Je rule0 x_1 s.1 s.2) ((0:Int),x_1)).bind λsome_3=>some some_3
theorem Nn{l0:(List Wear)}{rule0:(F1 Tryz.prog Wear Bool)}{r:(List Wear)} (H:Cc l0 rule0=some r):CO2 174 [] (D l0) (D rule0) (λg:Nat×Prop×Nat=>Sl g.1 g.2.1 0 (Xat r) g.2.2) λg=>[⟨g.1,g.2.1,Row (r:List Wear) g.2.2⟩]:=eO2 Tryz.func174 rfl Tryz.ntmps174 λA w hA hO=>by
 unfold Cc at H;refine zg ?_;refine zn H λx_1 ex_1 H=>?_
 refine D4 (oc1 [] (EN ex_1.h) toD) rfl λ⟨b9_1,p9_1,c9_1⟩=>?_
 refine zw ?_;refine TSx (AK (n:=x_1.length) rfl) ?_;refine zC ?_;refine zh H λo_4 H4 H=>?_
 refine Zs (λs:(List Wear)=>o_4=s) (λ(some_3:(List Wear)) (_:Unit)=>(TR Xaj 5 (Sl b9_1 p9_1 0 some_3.length c9_1))) (λ(some_3:(List Wear)) (_:Unit)=>[⟨b9_1,p9_1,(Row (some_3:List Wear) c9_1)⟩]) ?_ ?_
 .skip;refine Zr<|Zx H4 (λ⟨x_5,some_6⟩ (_:Unit)=>(TR (TR (TR (TR (TR Xaj 1 (D rule0)) 5 (Sl b9_1 p9_1 0 some_6.length c9_1)) 10 (Sl b9_1 p9_1 0 some_6.length c9_1)) 11 (D ((x_1.length:Int):Int))) 12 (D x_5))) (λ⟨x_5,some_6⟩ (_:Unit)=>[⟨b9_1,p9_1,(Row (some_6:List Wear) c9_1)⟩]) () (Za (Za (Zm (ZH rfl) (Zm (ZH rfl) (Za (Ze _)))))) (Zd rfl (Zf _)) ?_;rintro⟨x_5,some_6⟩ ⟨⟩ x_7 H7 he7;dsimp only at H7;unfold Je at H7;refine zg ?_;refine zc H7 (λhc H7=>?_) λhc H7=>?_
  .refine AH<|Az<|AI ?_;refine zh H7 λo_9 H9 H7=>?_
   refine Zs (λs:(List Wear)=>o_9=s) (λ(some_8:(List Wear)) (_:Unit)=>(TR (TR (TR (TR (TR Xaj 1 (D rule0)) 5 (Sl b9_1 p9_1 0 some_8.length c9_1)) 10 (Sl b9_1 p9_1 0 some_8.length c9_1)) 11 (D ((x_1.length:Int):Int))) 12 (D x_5))) (λ(some_8:(List Wear)) (_:Unit)=>[⟨b9_1,p9_1,(Row (some_8:List Wear) c9_1)⟩]) ?_ ?_
   .skip;refine zg ?_;refine zn H9 λ_ ex_10 H9=>?_
    refine zX (A4 (Zt (ZP ex_10.h rfl)) rfl) ?_;refine Xaq rfl λb7_10=>zg ?_
    refine zm H9 λ_ ex_12 H9=>?_
    refine zX (MC 19 rfl (λhg=>(M9 (BM ex_12.h (nF hg.h)))) rfl) ?_;refine zc H9 (λhc H9=>?_) λhc H9=>?_
    .refine zg ?_;refine TSx (tB (⟨0,0,0,true⟩:Wear) rfl rfl) ?_;refine zn H9 λ_ ex_13 H9=>?_
     refine TSx (Zt (ZP ex_13.h rfl)) ?_;refine zE ?_;refine zn H9 λl_14 el_14 H9=>?_
     refine Ai b9_1 (Ah el_14.h)<|C9 5 _ (AY el_14.h (by simp)) ?_;refine zX (C9 10 _ (AY el_14.h (by simp))) ?_;exact Zl l_14 () (ZZs H9) (Za (Za (Zm (ZH rfl) (Zm (ZH rfl) (Za (Ze _)))))) (Zd rfl (Zf _))
    .refine zg ?_;exact Zl some_6 () (ZZs H9) (Za (Za (Zm (ZH rfl) (Zm (ZH rfl) (Za (Ze _)))))) (Zd rfl (Zf _))
   rintro some_8 ⟨⟩ hp;replace hp:=hp.symm;subst hp;refine zg ?_;refine zb H7 λx_15 _ H7=>?_
   exact Zv ⟨x_15,some_8⟩ () (ZZs H7) (Za (Za (Zm (ZH rfl) (Zm (ZH rfl) (Za (Ze _)))))) (Zd rfl (Zf _))
  .refine zg ?_;exact Zl some_6 () (he7 _ (ZZs H7)).symm (Zm (ZH rfl) (Ze _)) (Zd rfl (Zf _))
 rintro some_3 ⟨⟩ hp;replace hp:=hp.symm;subst hp;refine zg ?_;obtain rfl:=ZZi H;exact ZG rfl ⟨b9_1,p9_1,c9_1⟩ (ZH rfl) (Zd rfl (Zf _))
instance ZcD:Fd2 174 Cc λr=>D r:=⟨λw v0 v1 hA h0 h1 H=>(on2 (Nn H) w v0 v1 hA h0 h1).mono λe w' h=>IQ hA h⟩
def CP(x0:Wear):Option Bool:=
 some (decide (x0.Live>(0:Int)))
instance Rs:Fd1 180 CP λr=>D r:=en1 Tryz.func180 rfl Tryz.ntmps180 λ_ _ _ _ _ H=>by
 unfold CP at H;exact zY H
instance {Γ:Env}:Has Γ (.func 180) (D (⟨CP⟩:F1 Tryz.prog Wear Bool)):=⟨λa A w _=>Xes (P:=Tryz.prog) (f:=180) λw v0 hA h0 e=>Rs.h w v0 hA h0 e⟩
def CO(x0:Wear):Option Bool:=
 some (decide (x0.Live=(0:Int)))
instance Rr:Fd1 181 CO λr=>D r:=en1 Tryz.func181 rfl Tryz.ntmps181 λ_ _ _ _ _ H=>by
 unfold CO at H;exact zY H
instance {Γ:Env}:Has Γ (.func 181) (D (⟨CO⟩:F1 Tryz.prog Wear Bool)):=⟨λa A w _=>Xes (P:=Tryz.prog) (f:=181) λw v0 hA h0 e=>Rr.h w v0 hA h0 e⟩
def Cr(x_2:(List Wear))(idle_9:Int)(x_10:Int):Option ((Int×Int)⊕Int):=
 bif (decide (x_10<(x_2.length:Int)))then(((idx x_2 x_10).bind λx_14=>bif ((!x_14.Bad)&&(decide (x_14.Live=(0:Int))))then((AC idle_9 1).bind λx_16=>some x_16)else(some idle_9)).bind λidle_12=>(AC x_10 1).bind λx_17=>some (.inl (idle_12,x_17)))else(some (.inr idle_9))
def Cs(w0x:Zc)(lists0:((List (List Int))×(List Int))):Option (Int×Int×Zc):=
 (idx lists0.1 1).bind λx_1=>(Ay w0x (lists0.1.set 1 lists0.2)).bind λx_2=>(Cc x_2 (⟨CP⟩:(F1 Tryz.prog Wear Bool))).bind λx_4=>(Eu x_4 w0x.Vol.Chip.Pages).bind λr_5=>bif r_5.2 then((AC r_5.1 2).bind λx_6=>some (x_6,(0:Int),w0x))else((ZN (λs=>Cr x_2 s.1 s.2) ((0:Int),(0:Int))).bind λidle_7=>bif ((decide (idle_7=(0:Int)))||((decide (idle_7=(1:Int)))&&(!w0x.beyond)))then(some ((0:Int),(5:Int),w0x))else((Cc x_2 (⟨CO⟩:(F1 Tryz.prog Wear Bool))).bind λx_18=>(Eu x_18 w0x.Vol.Chip.Pages).bind λr_19=>bif r_19.2 then((AC r_19.1 2).bind λx_20=>some (x_20,(0:Int),w0x))else((EI x_18 w0x.Vol.Chip.Pages).bind λr_21=>(AC r_21.1 2).bind λx_22=>(AC r_21.1 2).bind λx_23=>(Ad w0x x_23).bind λx_24=>some (x_22,x_24.1,x_24.2))))
theorem KY{w0x:Zc}{lists0:((List (List Int))×(List Int))}{b0:Nat}{b1 c1:Nat}{p1:Prop}{b1v c1v:Nat}{p1v:Prop}{r:(Int×Int×Zc)} (H:Cs w0x lists0=some r):CO2 150 [⟨b0,True,One w0x⟩,⟨b1,p1,Xa4 (Row (lists0.1:List (List Int)) c1) 1 (Sl b1v p1v 0 (Xat lists0.2) c1v)⟩,⟨b1v,p1v,Row (lists0.2:List Int) c1v⟩] (Pt b0 0) (Sl b1 p1 0 lists0.1.length c1) (λg:Unit=>Tup [D r.1,D r.2.1]) λg=>[⟨b0,True,One r.2.2⟩,⟨b1,p1,Xa4 (Row (lists0.1:List (List Int)) c1) 1 (Sl b1v p1v 0 (Xat lists0.2) c1v)⟩,⟨b1v,p1v,Row (lists0.2:List Int) c1v⟩]:=eO2 Tryz.func150 rfl Tryz.ntmps150 λA w hA hO=>by
 unfold Cs at H;refine zC ?_;refine zX (Bd [2,9] [b1,b1v] mix (by kernel_rfl) (by kernel_rfl)) ?_;refine zn H λ_ ex_1 H=>?_
 refine zn H λx_2 ex_2 H=>?_
 refine zX (GT (λg=>(Hz (xs:=x_2) [b0,b1,b1v] (Du ZB trivial (by simp)) (Qo rfl rfl rfl (by have:=(JZ ex_1.h).2;omega) (by simp) (by simp)) λw v0 v1 hA hO hap hks h0 h1=>Cx ex_2.h w v0 v1 hA hO hap hks h0 (toD h1))) rfl) ?_;refine GT (λg=>HA rfl FM) rfl ?_;refine zC ?_;rintro⟨⟨_,⟨b20_2,p20_2,c20_2⟩⟩,_⟩;dsimp only[XaV,XaW,XaS,Xan,Xam];refine zg ?_;refine Xen b20_2 (XbM 28 (ZJ XaR rfl) (XbM 6 (ZJ XaR rfl) Xb2)) ?_;refine zb H λ_ _ H=>?_
 refine zb H λ_ _ H=>?_
 refine zc H (λhc H=>?_) λhc H=>?_
 .refine zg ?_;refine zb H λ_ _ H=>?_
  obtain rfl:=ZZi H;exact AD rfl rfl () (.cons Cv.le (.cons Cv.le .nil)) (Zd rfl (Zd rfl (Zd rfl (Zf _))))
 .refine zC ?_;refine zC ?_;refine zh H λo_8 H8 H=>?_
  refine Zs (λs:Int=>o_8=s) (λ(idle_7:Int) (_:Unit)=>(TR (TR (TR (TR Xaj 0 (Pt b0 0)) 6 (D x_2)) 7 (D w0x.Vol.Chip.Pages)) 10 (D idle_7))) (λ(idle_7:Int) (_:Unit)=>[⟨b0,True,(One w0x)⟩,⟨b1,p1,(Xa4 (Row (lists0.1:List (List Int)) c1) 1 (Sl b1v p1v 0 lists0.2.length c1v))⟩,⟨b1v,p1v,(Row (lists0.2:List Int) c1v)⟩]) ?_ ?_
  .skip;refine Zr<|Zx H8 (λ⟨idle_9,x_10⟩ (_:Unit)=>(TR (TR (TR (TR (TR (TR (TR Xaj 0 (Pt b0 0)) 6 (D x_2)) 7 (D w0x.Vol.Chip.Pages)) 10 (D idle_9)) 37 (D x_2)) 38 (D ((x_2.length:Int):Int))) 39 (D x_10))) (λ⟨idle_9,x_10⟩ (_:Unit)=>[⟨b0,True,(One w0x)⟩,⟨b1,p1,(Xa4 (Row (lists0.1:List (List Int)) c1) 1 (Sl b1v p1v 0 lists0.2.length c1v))⟩,⟨b1v,p1v,(Row (lists0.2:List Int) c1v)⟩]) () (Za (Za (Za (Za (Za (Za (Za (Ze _)))))))) (Zd rfl (Zd rfl (Zd rfl (Zf _)))) ?_;rintro⟨idle_9,x_10⟩ ⟨⟩ x_11 H11 he11;dsimp only at H11;unfold Cr at H11;refine zg ?_;refine zc H11 (λhc H11=>?_) λhc H11=>?_
   .refine AH<|Az<|AI ?_;refine zh H11 λo_13 H13 H11=>?_
    refine Zs (λs:Int=>o_13=s) (λ(idle_12:Int) (_:Unit)=>(TR (TR (TR (TR (TR (TR (TR Xaj 0 (Pt b0 0)) 6 (D x_2)) 7 (D w0x.Vol.Chip.Pages)) 10 (D idle_12)) 37 (D x_2)) 38 (D ((x_2.length:Int):Int))) 39 (D x_10))) (λ(idle_12:Int) (_:Unit)=>[⟨b0,True,(One w0x)⟩,⟨b1,p1,(Xa4 (Row (lists0.1:List (List Int)) c1) 1 (Sl b1v p1v 0 lists0.2.length c1v))⟩,⟨b1v,p1v,(Row (lists0.2:List Int) c1v)⟩]) ?_ ?_
    .skip;refine zg ?_;refine zb H13 λ_ _ H13=>?_
     refine Xaq rfl λb12_14=>zg ?_
     refine zc H13 (λhc H13=>?_) λhc H13=>?_
     .refine zg ?_;refine zb H13 λx_16 _ H13=>?_
      exact Zl x_16 () (ZZs H13) (Za (Za (Za (Za (Za (Za (Za (Ze _)))))))) (Zd rfl (Zd rfl (Zd rfl (Zf _))))
     .refine zg ?_;exact Zl idle_9 () (ZZs H13) (Za (Za (Za (Za (Za (Za (Za (Ze _)))))))) (Zd rfl (Zd rfl (Zd rfl (Zf _))))
    rintro idle_12 ⟨⟩ hp;replace hp:=hp.symm;subst hp;refine zg ?_;refine zb H11 λx_17 _ H11=>?_
    exact Zv ⟨idle_12,x_17⟩ () (ZZs H11) (Za (Za (Za (Za (Za (Za (Za (Ze _)))))))) (Zd rfl (Zd rfl (Zd rfl (Zf _))))
   .refine zg ?_;exact Zl idle_9 () (he11 _ (ZZs H11)).symm (Za (Za (Za (Za (Ze _))))) (Zd rfl (Zd rfl (Zd rfl (Zf _))))
  rintro idle_7 ⟨⟩ hp;replace hp:=hp.symm;subst hp;refine zg ?_;refine zc H (λhc H=>?_) λhc H=>?_
  .refine zg ?_;obtain rfl:=ZZi H;exact AD rfl rfl () (.cons Cv.le (.cons Cv.le .nil)) (Zd rfl (Zd rfl (Zd rfl (Zf _))))
  .refine zg ?_;refine zb H λ_ _ H=>?_
   refine zb H λ_ _ H=>?_
   refine zc H (λhc H=>?_) λhc H=>?_
   .refine zg ?_;refine zb H λ_ _ H=>?_
    obtain rfl:=ZZi H;exact AD rfl rfl () (.cons Cv.le (.cons Cv.le .nil)) (Zd rfl (Zd rfl (Zd rfl (Zf _))))
   .refine zg ?_;refine zb H λ_ _ H=>?_
    refine zb H λ_ _ H=>?_
    refine zb H λ_ _ H=>?_
    refine zn H λ_ ex_24 H=>?_
    refine D4 (oc2 [b0] (BH ex_24.h) id toD) rfl λ_=>?_
    refine zw ?_;obtain rfl:=ZZi H;exact AD rfl rfl () (.cons Cv.le (.cons Cv.le .nil)) (Zd rfl (Zd rfl (Zd rfl (Zf _))))
def D1(w0x:Zc)(x_1:(List Wear))(all_6:Int)(most_7:Int)(x_8:Int):Option ((Int×Int×Int)⊕(Int×Int)):=
 bif (decide (x_8<(x_1.length:Int)))then(((idx x_1 x_8).bind λx_13=>bif x_13.Bad then(some (all_6,most_7))else((GG w0x.Vol.Chip.Pages x_13.Used).bind λx_15=>(bif (decide (x_13.Live=(0:Int)))then((bif (decide (x_15=(0:Int)))then(some w0x.Vol.Chip.Pages)else(some x_15)).bind λmany_19=>some ((max most_7 many_19),many_19))else(some (most_7,x_15))).bind λo_18=>el2 o_18 (λmost_16 many_17=>(AC all_6 many_17).bind λx_21=>some (x_21,most_16)))).bind λo_12=>el2 o_12 (λall_10 most_11=>(AC x_8 1).bind λx_22=>some (.inl (all_10,most_11,x_22))))else(some (.inr (all_6,most_7)))
def CY(w0x:Zc):Option (Int×Int):=
 (Ay w0x ([w0x.Vol.At]:List (List Int))).bind λx_1=>(ZN (λs=>D1 w0x x_1 s.1 s.2.1 s.2.2) ((0:Int),(0:Int),(0:Int))).bind λo_5=>el2 o_5 (λall_3 most_4=>(GG all_3 most_4).bind λx_23=>some (x_23,all_3))
theorem Lv{w0x:Zc}{b0:Nat}{r:(Int×Int)} (H:CY w0x=some r):CO1 147 [⟨b0,True,One w0x⟩] (Pt b0 0) (λg:Unit=>Tup [D r.1,D r.2]) λg=>[⟨b0,True,One w0x⟩]:=eO1 Tryz.func147 rfl Tryz.ntmps147 λA w hA hO=>by
 unfold CY at H;refine zg ?_;refine TSx (Xbx [.tmp 14] rfl rfl (by decide)) ?_;refine zn H λx_1 ex_1 H=>?_
 refine D4 (Hz (xs:=x_1) [b0] (Du ZB trivial (by simp)) Xfr λw v0 v1 hA hO hap hks h0 h1=>Cx ex_1.h w v0 v1 hA hO hap hks h0 (toD h1)) rfl λ⟨b16_1,p16_1,c16_1⟩=>?_
 refine TSx (AK (n:=x_1.length) rfl) ?_;refine zC ?_;refine zh H λo_5 H5 H=>?_
 refine Zs (λs:(Int×Int)=>o_5=s) (λ⟨all_3,most_4⟩ (_:Unit)=>(TR (TR Xaj 4 (D all_3)) 5 (D most_4))) (λ⟨all_3,most_4⟩ (_:Unit)=>[⟨b0,True,(One w0x)⟩]) ?_ ?_
 .skip;refine Zr<|Zx H5 (λ⟨all_6,most_7,x_8⟩ (_:Unit)=>(TR (TR (TR (TR (TR (TR Xaj 0 (Pt b0 0)) 4 (D all_6)) 5 (D most_7)) 16 (Sl b16_1 p16_1 0 x_1.length c16_1)) 17 (D ((x_1.length:Int):Int))) 18 (D x_8))) (λ⟨all_6,most_7,x_8⟩ (_:Unit)=>[⟨b16_1,p16_1,(Row (x_1:List Wear) c16_1)⟩,⟨b0,True,(One w0x)⟩]) () (Za (Za (Zm (ZH rfl) (Za (Za (Za (Ze _))))))) (Zd rfl (Zd rfl (Zf _))) ?_;rintro⟨all_6,most_7,x_8⟩ ⟨⟩ x_9 H9 he9;dsimp only at H9;unfold D1 at H9;refine zg ?_;refine zc H9 (λhc H9=>?_) λhc H9=>?_
  .refine AH<|Az<|AI ?_;refine zh H9 λo_12 H12 H9=>?_
   refine Zs (λs:(Int×Int)=>o_12=s) (λ⟨all_10,most_11⟩ (_:Unit)=>(TR (TR (TR (TR (TR (TR Xaj 0 (Pt b0 0)) 4 (D all_10)) 5 (D most_11)) 16 (Sl b16_1 p16_1 0 x_1.length c16_1)) 17 (D ((x_1.length:Int):Int))) 18 (D x_8))) (λ⟨all_10,most_11⟩ (_:Unit)=>[⟨b16_1,p16_1,(Row (x_1:List Wear) c16_1)⟩,⟨b0,True,(One w0x)⟩]) ?_ ?_
   .skip;refine zg ?_;refine zn H12 λ_ ex_13 H12=>?_
    refine zX (A4 (Zt (ZP ex_13.h rfl)) rfl) ?_;refine Xaq rfl λb7_13=>zg ?_
    refine zc H12 (λhc H12=>?_) λhc H12=>?_
    .refine zg ?_;exact Zl ⟨all_6,most_7⟩ () (ZZs H12) (Za (Za (Zm (ZH rfl) (Za (Za (Za (Ze _))))))) (Zd rfl (Zd rfl (Zf _)))
    .refine zg ?_;refine zo H12 λx_15 _ H12=>?_
     refine zC ?_;refine AI ?_;refine zh H12 λo_18 H18 H12=>?_
     refine Zs (λs:(Int×Int)=>o_18=s) (λ⟨most_16,many_17⟩ (_:Unit)=>(TR (TR (TR (TR (TR (TR (TR Xaj 0 (Pt b0 0)) 4 (D all_6)) 5 (D most_16)) 8 (D many_17)) 16 (Sl b16_1 p16_1 0 x_1.length c16_1)) 17 (D ((x_1.length:Int):Int))) 18 (D x_8))) (λ⟨most_16,many_17⟩ (_:Unit)=>[⟨b16_1,p16_1,(Row (x_1:List Wear) c16_1)⟩,⟨b0,True,(One w0x)⟩]) ?_ ?_
     .skip;refine zg ?_;refine zc H18 (λhc H18=>?_) λhc H18=>?_
      .refine AI ?_;refine zh H18 λo_20 H20 H18=>?_
       refine Zs (λs:Int=>o_20=s) (λ(many_19:Int) (_:Unit)=>(TR (TR (TR (TR (TR (TR (TR Xaj 0 (Pt b0 0)) 4 (D all_6)) 5 (D most_7)) 8 (D many_19)) 16 (Sl b16_1 p16_1 0 x_1.length c16_1)) 17 (D ((x_1.length:Int):Int))) 18 (D x_8))) (λ(many_19:Int) (_:Unit)=>[⟨b16_1,p16_1,(Row (x_1:List Wear) c16_1)⟩,⟨b0,True,(One w0x)⟩]) ?_ ?_
       .skip;refine zg ?_;refine zc H20 (λhc H20=>?_) λhc H20=>?_
        .refine zg ?_;exact Zl w0x.Vol.Chip.Pages () (ZZs H20) (Za (Za (Zm (ZH rfl) (Za (Za (Za (Za (Ze _)))))))) (Zd rfl (Zd rfl (Zf _)))
        .refine zg ?_;exact Zl x_15 () (ZZs H20) (Za (Za (Zm (ZH rfl) (Za (Za (Za (Za (Ze _)))))))) (Zd rfl (Zd rfl (Zf _)))
       rintro many_19 ⟨⟩ hp;replace hp:=hp.symm;subst hp;refine zg ?_;exact Zl ⟨(max most_7 many_19),many_19⟩ () (ZZs H18) (Za (Za (Zm (ZH rfl) (Za (Za (Za (Za (Ze _)))))))) (Zd rfl (Zd rfl (Zf _)))
      .refine zg ?_;exact Zl ⟨most_7,x_15⟩ () (ZZs H18) (Za (Za (Zm (ZH rfl) (Za (Za (Za (Za (Ze _)))))))) (Zd rfl (Zd rfl (Zf _)))
     rintro⟨most_16,many_17⟩ ⟨⟩ hp;replace hp:=hp.symm;subst hp;replace H12:=EX H12;refine zg ?_;refine zb H12 λx_21 _ H12=>?_
     exact Zl ⟨x_21,most_16⟩ () (ZZs H12) (Za (Za (Zm (ZH rfl) (Za (Za (Za (Ze _))))))) (Zd rfl (Zd rfl (Zf _)))
   rintro⟨all_10,most_11⟩ ⟨⟩ hp;replace hp:=hp.symm;subst hp;replace H9:=EX H9;refine zg ?_;refine zb H9 λx_22 _ H9=>?_
   exact Zv ⟨all_10,most_11,x_22⟩ () (ZZs H9) (Za (Za (Zm (ZH rfl) (Za (Za (Za (Ze _))))))) (Zd rfl (Zd rfl (Zf _)))
  .refine zg ?_;exact Zl ⟨all_6,most_7⟩ () (he9 _ (ZZs H9)).symm (Za (Za (Ze _))) (Zd rfl (Zf _))
 rintro⟨all_3,most_4⟩ ⟨⟩ hp;replace hp:=hp.symm;subst hp;replace H:=EX H;refine zg ?_;refine zb H λ_ _ H=>?_
 obtain rfl:=ZZi H;exact AD rfl rfl () (.cons Cv.le (.cons Cv.le .nil)) (Zd rfl (Zf _))
def Dm(l0:(List Wear))(at_5:Int)(most_6:Int)(x_7:Int):Option ((Int×Int×Int)⊕(Int×Int)):=
 bif (decide (x_7<(l0.length:Int)))then(((idx l0 x_7).bind λx_12=>bif ((x_12.Bad||(decide (x_12.Live=(0:Int))))||(decide (x_12.Worn>=(1099511627776:Int))))then(some (at_5,most_6))else((GG x_12.Used x_12.Live).bind λx_14=>bif (decide (x_14>most_6))then(some (x_7,x_14))else(some (at_5,most_6)))).bind λo_11=>el2 o_11 (λat_9 most_10=>(AC x_7 1).bind λx_15=>some (.inl (at_9,most_10,x_15))))else(some (.inr (at_5,most_6)))
def B2(w0x:Zc)(l0:(List Wear)):Option (Int×Bool):=
 (GX l0 w0x.Vol.Chip.Pages).bind λr_1=>bif r_1.2 then(some (r_1.1,true))else((ZN (λs=>Dm l0 s.1 s.2.1 s.2.2) ((0:Int),(0:Int),(0:Int))).bind λo_4=>el2 o_4 (λat_2 most_3=>some (at_2,(decide (most_3>(0:Int))))))
theorem J3{w0x:Zc}{l0:(List Wear)}{b0:Nat}{r:(Int×Bool)} (H:B2 w0x l0=some r):CO2 171 [⟨b0,True,One w0x⟩] (Pt b0 0) (D l0) (λg:Unit=>Tup [D r.1,D r.2]) λg=>[⟨b0,True,One w0x⟩]:=eO2 Tryz.func171 rfl Tryz.ntmps171 λA w hA hO=>by
 unfold B2 at H;refine zg ?_;refine zb H λ_ _ H=>?_
 refine zc H (λhc H=>?_) λhc H=>?_
 .refine zg ?_;obtain rfl:=ZZi H;exact AD rfl rfl () (.cons Cv.le (.cons Cv.le .nil)) (Zd rfl (Zf _))
 .refine zC ?_;refine zC ?_;refine zh H λo_4 H4 H=>?_
  refine Zs (λs:(Int×Int)=>o_4=s) (λ⟨at_2,most_3⟩ (_:Unit)=>(TR (TR Xaj 8 (D at_2)) 9 (D most_3))) (λ⟨at_2,most_3⟩ (_:Unit)=>[⟨b0,True,(One w0x)⟩]) ?_ ?_
  .skip;refine Zr<|Zx H4 (λ⟨at_5,most_6,x_7⟩ (_:Unit)=>(TR (TR (TR (TR (TR Xaj 8 (D at_5)) 9 (D most_6)) 26 (D l0)) 27 (D ((l0.length:Int):Int))) 28 (D x_7))) (λ⟨at_5,most_6,x_7⟩ (_:Unit)=>[⟨b0,True,(One w0x)⟩]) () (Za (Za (Za (Za (Za (Ze _)))))) (Zd rfl (Zf _)) ?_;rintro⟨at_5,most_6,x_7⟩ ⟨⟩ x_8 H8 he8;dsimp only at H8;unfold Dm at H8;refine zg ?_;refine zc H8 (λhc H8=>?_) λhc H8=>?_
   .refine AH<|Az<|AI ?_;refine zh H8 λo_11 H11 H8=>?_
    refine Zs (λs:(Int×Int)=>o_11=s) (λ⟨at_9,most_10⟩ (_:Unit)=>(TR (TR (TR (TR (TR Xaj 8 (D at_9)) 9 (D most_10)) 26 (D l0)) 27 (D ((l0.length:Int):Int))) 28 (D x_7))) (λ⟨at_9,most_10⟩ (_:Unit)=>[⟨b0,True,(One w0x)⟩]) ?_ ?_
    .skip;refine zg ?_;refine zb H11 λ_ _ H11=>?_
     refine Xaq rfl λb11_12=>zg ?_
     refine zc H11 (λhc H11=>?_) λhc H11=>?_
     .refine zg ?_;exact Zl ⟨at_5,most_6⟩ () (ZZs H11) (Za (Za (Za (Za (Za (Ze _)))))) (Zd rfl (Zf _))
     .refine zg ?_;refine zb H11 λx_14 _ H11=>?_
      refine zc H11 (λhc H11=>?_) λhc H11=>?_
      .refine zg ?_;exact Zl ⟨x_7,x_14⟩ () (ZZs H11) (Za (Za (Za (Za (Za (Ze _)))))) (Zd rfl (Zf _))
      .refine zg ?_;exact Zl ⟨at_5,most_6⟩ () (ZZs H11) (Za (Za (Za (Za (Za (Ze _)))))) (Zd rfl (Zf _))
    rintro⟨at_9,most_10⟩ ⟨⟩ hp;replace hp:=hp.symm;subst hp;replace H8:=EX H8;refine zg ?_;refine zb H8 λx_15 _ H8=>?_
    exact Zv ⟨at_9,most_10,x_15⟩ () (ZZs H8) (Za (Za (Za (Za (Za (Ze _)))))) (Zd rfl (Zf _))
   .refine zg ?_;exact Zl ⟨at_5,most_6⟩ () (he8 _ (ZZs H8)).symm (Za (Za (Ze _))) (Zd rfl (Zf _))
  rintro⟨at_2,most_3⟩ ⟨⟩ hp;replace hp:=hp.symm;subst hp;replace H:=EX H;refine zg ?_;obtain rfl:=ZZi H;exact AD rfl rfl () (.cons Cv.le (.cons Cv.le .nil)) (Zd rfl (Zf _))
def Cw(w0x:Zc):Option Bool:=
 some (decide ((Xap 281474976710656)<=(w0x.Vol.Gen+(Xap 2))))
theorem K0{A:Nat->Prop}{w0x:Zc}  {r:Bool} (w:World) (v0:Value) (hA:∀k,w.heap.size<=k->A k)  (h0:(K3 w0x).p A w v0) (H:Cw w0x=some r) :
    Calls Tryz.prog 172 #[v0] w (Ret A w (D r)):=by
 unfold Cw at H;refine zX (U0 hA Tryz.func172 rfl Tryz.ntmps172 rfl h0) ?_;refine TSx Km<|TSx Ms ?_;exact zY H
def Cn(x0:Wear):Option Bool:=
 some (decide (x0.Used=(0:Int)))
instance QR:Fd1 208 Cn λr=>D r:=en1 Tryz.func208 rfl Tryz.ntmps208 λ_ _ _ _ _ H=>by
 unfold Cn at H;exact zY H
instance {Γ:Env}:Has Γ (.func 208) (D (⟨Cn⟩:F1 Tryz.prog Wear Bool)):=⟨λa A w _=>Xes (P:=Tryz.prog) (f:=208) λw v0 hA h0 e=>QR.h w v0 hA h0 e⟩
def DF(x0:Wear)(cap1:Int):Option Bool:=
 some (decide (x0.Used=cap1))
theorem Jd{A:Nat->Prop}{x0:Wear}{cap1:Int}  {r:Bool} (w:World) (v0 v1:Value) (hA:∀k,w.heap.size<=k->A k)  (h0:(D x0).p A w v0) (h1:(K3 cap1).p A w v1) (H:DF x0 cap1=some r) :
    Calls Tryz.prog 209 #[v0,v1] w (Ret A w (D r)):=by
 unfold DF at H;refine Sd hA Tryz.func209 rfl Tryz.ntmps209 rfl h0 h1 ?_;exact zY H
def Cm(x0:Wear):Option Bool:=
 some (decide (x0.Worn<(1099511627776:Int)))
instance QQ:Fd1 210 Cm λr=>D r:=en1 Tryz.func210 rfl Tryz.ntmps210 λ_ _ _ _ _ H=>by
 unfold Cm at H;exact zY H
instance {Γ:Env}:Has Γ (.func 210) (D (⟨Cm⟩:F1 Tryz.prog Wear Bool)):=⟨λa A w _=>Xes (P:=Tryz.prog) (f:=210) λw v0 hA h0 e=>QQ.h w v0 hA h0 e⟩
def B4(w0x:Zc)(l0:(List Wear)):Option (Int×Int×Zc):=
 (Cc l0 (⟨Cn⟩:(F1 Tryz.prog Wear Bool))).bind λx_2=>(Eu x_2 w0x.Vol.Chip.Pages).bind λr_3=>bif r_3.2 then((AC r_3.1 2).bind λx_4=>some (x_4,(0:Int),w0x))else((Cc l0 (⟨λx0=>DF x0 w0x.Vol.Chip.Pages⟩:(F1 Tryz.prog Wear Bool))).bind λx_5=>(EI x_5 w0x.Vol.Chip.Pages).bind λr_6=>bif r_6.2 then((AC r_6.1 2).bind λx_7=>(AC r_6.1 2).bind λx_8=>(Ad w0x x_8).bind λx_9=>some (x_7,x_9.1,x_9.2))else((Cc l0 (⟨Cm⟩:(F1 Tryz.prog Wear Bool))).bind λx_11=>(EI x_11 w0x.Vol.Chip.Pages).bind λr_12=>bif r_12.2 then((AC r_12.1 2).bind λx_13=>(AC r_12.1 2).bind λx_14=>(Ad w0x x_14).bind λx_15=>some (x_13,x_15.1,x_15.2))else(some ((0:Int),(6:Int),w0x))))
theorem J4{w0x:Zc}{l0:(List Wear)}{b0:Nat}{r:(Int×Int×Zc)} (H:B4 w0x l0=some r):CO2 194 [⟨b0,True,One w0x⟩] (Pt b0 0) (D l0) (λg:Unit=>Tup [D r.1,D r.2.1]) λg=>[⟨b0,True,One r.2.2⟩]:=eO2 Tryz.func194 rfl Tryz.ntmps194 λA w hA hO=>by
 unfold B4 at H;refine zg ?_;refine Xaq rfl λb6_0=>zg ?_
 refine zb H λ_ _ H=>?_
 refine zb H λ_ _ H=>?_
 refine zc H (λhc H=>?_) λhc H=>?_
 .refine zg ?_;refine zb H λ_ _ H=>?_
  obtain rfl:=ZZi H;exact AD rfl rfl () (.cons Cv.le (.cons Cv.le .nil)) (Zd rfl (Zf _))
 .refine zg ?_;refine Xen b6_0 (XbM 6 (O1 ZB) Xb2) ?_;refine TSx (Yt λw v0 v1 hA h0 h1 e=>Jd w v0 v1 hA h0 h1 e) ?_;refine zb H λ_ _ H=>?_
  refine zb H λ_ _ H=>?_
  refine zc H (λhc H=>?_) λhc H=>?_
  .refine zg ?_;refine zb H λ_ _ H=>?_
   refine zb H λ_ _ H=>?_
   refine zn H λ_ ex_9 H=>?_
   refine D4 (oc2 [b0] (BH ex_9.h) id toD) rfl λ_=>?_
   refine zw ?_;obtain rfl:=ZZi H;exact AD rfl rfl () (.cons Cv.le (.cons Cv.le .nil)) (Zd rfl (Zf _))
  .refine zg ?_;refine zb H λ_ _ H=>?_
   refine zb H λ_ _ H=>?_
   refine zc H (λhc H=>?_) λhc H=>?_
   .refine zg ?_;refine zb H λ_ _ H=>?_
    refine zb H λ_ _ H=>?_
    refine zn H λ_ ex_15 H=>?_
    refine D4 (oc2 [b0] (BH ex_15.h) id toD) rfl λ_=>?_
    refine zw ?_;obtain rfl:=ZZi H;exact AD rfl rfl () (.cons Cv.le (.cons Cv.le .nil)) (Zd rfl (Zf _))
   .refine zg ?_;obtain rfl:=ZZi H;exact AD rfl rfl () (.cons Cv.le (.cons Cv.le .nil)) (Zd rfl (Zf _))
def AO(e0:Int):Option Int:=
 bif (decide (e0=(9:Int)))then(some (0:Int))else(some e0)
instance XI:Fd1 177 AO λr=>D r:=en1 Tryz.func177 rfl Tryz.ntmps177 λ_ _ _ _ _ H=>by
 unfold AO at H;exact zY H
def D2(w0x:Zc)(from0:Int)(to0:Int)(x_6:Int)(at_7:(List Int))(w_8:Zc):Option ((Int×(List Int)×Zc)⊕(((List Int)×Zc)⊕(Bool×Int×Zc))):=
 bif (decide (x_6<(w0x.Vol.At.length:Int)))then(((idx w0x.Vol.At x_6).bind λx_13=>(gb (!(decide (x_13=(0:Int)))) (GG x_13 1)).bind λx_14=>(gb (!(decide (x_13=(0:Int)))) (JB x_14 w0x.Vol.Chip.Pages)).bind λx_15=>bif ((decide (x_13=(0:Int)))||(decide (x_15≠from0)))then(some (.inl (at_7,w_8)))else((bif (decide (to0<(0:Int)))then((idx ([w_8.Vol.At,[]]:List (List Int)) 1).bind λx_19=>(Ay w_8 (([w_8.Vol.At,[]]:List (List Int)).set 1 at_7)).bind λx_20=>(GG from0 2).bind λx_22=>(idx x_20 x_22).bind λx_23=>(some ((x_20.set (Xaa x_22) (⟨0,0,0,true⟩:Wear)):(List Wear))).bind λl_24=>(Eu l_24 w0x.Vol.Chip.Pages).bind λr_25=>bif (!r_25.2)then(some (.inr (false,(6:Int),w_8)))else((AC r_25.1 2).bind λx_29=>some (.inl x_29)))else(some (.inl to0))).bind λo_17=>elS o_17 (λblock_16=>(GN w_8.Vol x_6).bind λx_30=>(some ((⟨(1:Int),x_6,(w_8.Vol.Gen+(Xap 1)),x_30⟩:B9):B9)).bind λpx_32=>(Gr px_32 w_8.Vol.Chip.Size).bind λr_33=>bif (decide (r_33.2≠(0:Int)))then(some (.inr (false,r_33.2,w_8)))else((idx w_8.Vol.Chip.Blocks block_16).bind λx_36=>(ZS w_8 block_16 r_33.1).bind λx_37=>bif (decide (x_37.1≠(0:Int)))then((AO x_37.1).bind λx_39=>some (.inr (false,x_39,x_37.2)))else((RX block_16 w0x.Vol.Chip.Pages).bind λx_42=>(AC x_42 x_36.Used).bind λx_43=>(AC x_43 1).bind λx_44=>(idx at_7 x_6).bind λx_45=>(some ((at_7.set (Xaa x_6) x_44):(List Int))).bind λl_46=>some (.inl (l_46,x_37.2))))) (λq=>some (.inr q)))).bind λo_12=>elS o_12 (λs=>el2 s (λat_10 w_11=>(AC x_6 1).bind λx_47=>some (.inl (x_47,at_10,w_11)))) (λq=>some (.inr (.inr q))))else(some (.inr (.inl (at_7,w_8))))
def BU(w0x:Zc)(from0:Int)(to0:Int):Option (Bool×Int×Zc):=
 (A1 w0x.Vol.At).bind λx_1=>(ZN (λs=>D2 w0x from0 to0 s.1 s.2.1 s.2.2) ((0:Int),x_1,w0x)).bind λo_5=>elS o_5 (λs=>el2 s (λat_3 w_4=>(Bx w_4 at_3).bind λx_48=>some ((decide (x_48.1=(0:Int))),x_48.1,x_48.2))) (λq=>some q)
theorem Lw{w0x:Zc}{from0:Int}{to0:Int}{b0:Nat}{r:(Bool×Int×Zc)} (H:BU w0x from0 to0=some r):CO3 196 [⟨b0,True,One w0x⟩] (Pt b0 0) (D from0) (D to0) (λg:Unit=>Tup [D r.1,D r.2.1]) λg=>[⟨b0,True,One r.2.2⟩]:=eO3 Tryz.func196 rfl Tryz.ntmps196 λA w hA hO=>by
 unfold BU at H;refine zg ?_;refine zn H λ_ ex_1 H=>?_
 refine D4 (oc1 [] (EM ex_1.h) toD) rfl λ⟨b32_1,p32_1,c32_1⟩=>?_
 dsimp only[Xan,Xam];refine zC ?_;refine zC ?_;refine zh H λo_5 H5 H=>?_
 refine Zs (λs:((List Int)×Zc)=>o_5=.inl s) (λ⟨at_3,w_4⟩ (_:Unit)=>(TR (TR Xaj 0 (Pt b0 0)) 9 (Sl b32_1 p32_1 0 at_3.length c32_1))) (λ⟨at_3,w_4⟩ (_:Unit)=>[⟨b32_1,p32_1,(Row (at_3:List Int) c32_1)⟩,⟨b0,True,(One w_4)⟩]) ?_ ?_
 .skip;refine Zr<|Zx H5 (λ⟨x_6,at_7,w_8⟩ (_:Unit)=>(TR (TR (TR (TR (TR (TR (TR (TR Xaj 0 (Pt b0 0)) 1 (D from0)) 2 (D to0)) 8 (D w0x.Vol.Chip.Pages)) 9 (Sl b32_1 p32_1 0 at_7.length c32_1)) 37 (D w0x.Vol.At)) 38 (D ((w0x.Vol.At.length:Int):Int))) 39 (D x_6))) (λ⟨x_6,at_7,w_8⟩ (_:Unit)=>[⟨b32_1,p32_1,(Row (at_7:List Int) c32_1)⟩,⟨b0,True,(One w_8)⟩]) () (Za (Za (Za (Zm (ZH rfl) (Za (Za (Za (Za (Ze _))))))))) (Zd rfl (Zd rfl (Zf _))) ?_;rintro⟨x_6,at_7,w_8⟩ ⟨⟩ x_9 H9 he9;dsimp only at H9;unfold D2 at H9;refine zg ?_;refine zc H9 (λhc H9=>?_) λhc H9=>?_
  .refine AH<|Az<|AI ?_;refine zh H9 λo_12 H12 H9=>?_
   refine Zs (λs:((List Int)×Zc)=>o_12=.inl s) (λ⟨at_10,w_11⟩ (_:Unit)=>(TR (TR (TR (TR (TR (TR (TR (TR Xaj 0 (Pt b0 0)) 1 (D from0)) 2 (D to0)) 8 (D w0x.Vol.Chip.Pages)) 9 (Sl b32_1 p32_1 0 at_10.length c32_1)) 37 (D w0x.Vol.At)) 38 (D ((w0x.Vol.At.length:Int):Int))) 39 (D x_6))) (λ⟨at_10,w_11⟩ (_:Unit)=>[⟨b32_1,p32_1,(Row (at_10:List Int) c32_1)⟩,⟨b0,True,(One w_11)⟩]) ?_ ?_
   .skip;refine zg ?_;refine zb H12 λ_ _ H12=>?_
    refine zd H12 λ_ _ H12=>?_
    refine zd H12 λ_ _ H12=>?_
    refine zc H12 (λhc H12=>?_) λhc H12=>?_
    .refine zg ?_;exact Zl ⟨at_7,w_8⟩ () (ZZs H12) (Za (Za (Za (Zm (ZH rfl) (Za (Za (Za (Za (Ze _))))))))) (Zd rfl (Zd rfl (Zf _)))
    .refine zC ?_;refine AI ?_;refine zh H12 λo_17 H17 H12=>?_
     refine Zs (λs:Int=>o_17=.inl s) (λ(block_16:Int) (_:Unit)=>(TR (TR (TR (TR (TR (TR (TR (TR (TR (TR Xaj 0 (Pt b0 0)) 1 (D from0)) 2 (D to0)) 8 (D w0x.Vol.Chip.Pages)) 9 (Sl b32_1 p32_1 0 at_7.length c32_1)) 10 (D x_6)) 12 (D block_16)) 37 (D w0x.Vol.At)) 38 (D ((w0x.Vol.At.length:Int):Int))) 39 (D x_6))) (λ(block_16:Int) (_:Unit)=>[⟨b32_1,p32_1,(Row (at_7:List Int) c32_1)⟩,⟨b0,True,(One w_8)⟩]) ?_ ?_
     .skip;refine zg ?_;refine zc H17 (λhc H17=>?_) λhc H17=>?_
      .refine zg ?_;refine Yf rfl λb64_17=>?_
       refine zn H17 λ_ ex_19 H17=>?_
       refine zn H17 λx_20 ex_20 H17=>?_
       refine D4 (Hz (xs:=x_20) [b0,b64_17,b32_1] (Du ZB trivial (by simp)) (Qo rfl (by simp) rfl (by have:=(JZ ex_19.h).2;omega) (by simp) (by simp)) λw v0 v1 hA hO hap hks h0 h1=>Cx ex_20.h w v0 v1 hA hO hap hks h0 (toD h1)) rfl λ⟨b65_20,p65_20,c65_20⟩=>zg ?_
       refine zb H17 λ_ _ H17=>?_
       refine TSx (tB (⟨0,0,0,true⟩:Wear) rfl rfl) ?_;refine zn H17 λ_ ex_23 H17=>?_
       refine TSx (Zt (ZP ex_23.h rfl)) ?_;refine zC ?_;refine zn H17 λ_ el_24 H17=>?_
       refine ZF b65_20 (Ah el_24.h) ?_;refine zX (B8 13 _ (AY el_24.h (by simp))) ?_;refine zn H17 λ_ er_25 H17=>?_
       refine zX (A4 (Dj [b65_20] (Kp XaR rfl (by simp)) Xfr λw v0 v1 hA h0 h1=>Zcg.h w v0 v1 hA (toD h0) (toD h1) er_25.h) rfl) ?_;refine zc H17 (λhc H17=>?_) λhc H17=>?_
       .refine zC ?_;refine ZO<|Zi<|Zw ?_;have R25:=AQ (ZZi H17) H12;refine Zi<|Zh<|Zw ?_;have R26:=AQ (ZZi R25) H9;refine Zi<|Zi<|Zh<|Zw ?_;have R27:=AQ (he9 _ (ZZs R26)) H;refine zg ?_;obtain rfl:=ZZi R27;exact AD rfl rfl () (.cons Cv.le (.cons Cv.le .nil)) (Zd rfl (Zf _))
       .refine zg ?_;refine zb H17 λx_29 _ H17=>?_
        exact Zl x_29 () (ZZs H17) (Za (Za (Za (Za (Za (Zm (ZH rfl) (Za (Za (Za (Za (Ze _))))))))))) (Zd rfl (Zd rfl (Zf _)))
      .refine zg ?_;exact Zl to0 () (ZZs H17) (Za (Za (Za (Za (Za (Zm (ZH rfl) (Za (Za (Za (Za (Ze _))))))))))) (Zd rfl (Zd rfl (Zf _)))
     rintro block_16 ⟨⟩ hp;replace H12:=Bs hp H12;refine Az ?_;refine zX (Bd [14,15] [] mix (by kernel_rfl) (by kernel_rfl)) ?_;refine zX (Fd Km rfl) ?_;refine zb H12 λx_30 _ H12=>?_
     refine TRx (tB (⟨(1:Int),x_6,(w_8.Vol.Gen+(Xap 1)),x_30⟩:B9) rfl rfl)<|GT (λg=>DZ (α:=B9)) rfl<|DP (λg=>(ZD (y:=((⟨(1:Int),x_6,(w_8.Vol.Gen+(Xap 1)),x_30⟩:B9):B9)) ZB)) rfl ?_;refine zC ?_;rintro⟨⟨_,⟨b16_30,_⟩⟩,_⟩;dsimp only[XaV,XaW,XaS,Xan,Xam];refine zn H12 λ_ epx_32 H12=>?_
     refine zX (ZF b16_30 (Ag epx_32.h)) ?_;refine zb H12 λ_ _ H12=>?_
     refine zc H12 (λhc H12=>?_) λhc H12=>?_
     .refine zC ?_;refine ZO<|Zi<|Zh<|Zw ?_;have R33:=AQ (ZZi H12) H9;refine Zi<|Zi<|Zh<|Zw ?_;have R34:=AQ (he9 _ (ZZs R33)) H;refine zg ?_;obtain rfl:=ZZi R34;exact AD rfl rfl () (.cons Cv.le (.cons Cv.le .nil)) (Zd rfl (Zf _))
     .refine zg ?_;refine zb H12 λ_ _ H12=>?_
      refine zn H12 λx_37 ex_37 H12=>?_
      refine D4 (oc3 [b0] (Bi ex_37.h) id toD toD) rfl λ_=>?_
      refine zw ?_;refine zc H12 (λhc H12=>?_) λhc H12=>?_
      .refine zg ?_;refine zo H12 λ_ _ H12=>?_
       refine zC ?_;refine ZO<|Zi<|Zh<|Zw ?_;have R39:=AQ (ZZi H12) H9;refine Zi<|Zi<|Zh<|Zw ?_;have R40:=AQ (he9 _ (ZZs R39)) H;refine zg ?_;obtain rfl:=ZZi R40;exact AD rfl rfl () (.cons Cv.le (.cons Cv.le .nil)) (Zd rfl (Zf _))
      .refine zg ?_;refine zb H12 λ_ _ H12=>?_
       refine zb H12 λ_ _ H12=>?_
       refine zb H12 λ_ _ H12=>?_
       refine zn H12 λ_ ex_45 H12=>?_
       refine TSx (Zt (ZP ex_45.h rfl)) ?_;refine zE ?_;refine zn H12 λl_46 el_46 H12=>?_
       refine Ai b32_1 (Ah el_46.h) ?_;refine zX (C9 9 _ (AY el_46.h (by simp))) ?_;exact Zl ⟨l_46,x_37.2⟩ () (ZZs H12) (Za (Za (Za (Zm (ZH rfl) (Za (Za (Za (Za (Ze _))))))))) (Zd rfl (Zd rfl (Zf _)))
   rintro⟨at_10,w_11⟩ ⟨⟩ hp;replace H9:=Bs hp H9;replace H9:=EX H9;refine zg ?_;refine zb H9 λx_47 _ H9=>?_
   exact Zv ⟨x_47,at_10,w_11⟩ () (ZZs H9) (Za (Za (Za (Zm (ZH rfl) (Za (Za (Za (Za (Ze _))))))))) (Zd rfl (Zd rfl (Zf _)))
  .refine zg ?_;exact Zl ⟨at_7,w_8⟩ () (he9 _ (ZZs H9)).symm (Zm (ZH rfl) (Za (Ze _))) (Zd rfl (Zd rfl (Zf _)))
 rintro⟨at_3,w_4⟩ ⟨⟩ hp;replace H:=Bs hp H;replace H:=EX H;refine zg ?_;refine Xen b32_1 (XbM 138 (ZJ XaR rfl) (XbM 9 (ZJ XaR rfl) Xb2)) ?_;refine zn H λ_ ex_48 H=>?_
 refine D4 (oc2 [b0] (Gj ex_48.h) id toD) rfl λ_=>?_
 refine zw ?_;obtain rfl:=ZZi H;exact AD rfl rfl () (.cons Cv.le (.cons Cv.le .nil)) (Zd rfl (Zf _))
def BF(w0x:Zc)(l0:(List Wear))(i0:Int):Option (Int×Zc):=
 (AJ l0).bind λx_1=>(idx x_1 i0).bind λx_3=>(some ((x_1.set (Xaa i0) (⟨0,0,0,true⟩:Wear)):(List Wear))).bind λl_4=>(B4 w0x l_4).bind λx_5=>((gb (decide (x_5.2.1=(6:Int))) (Ir l_4 x_5.2.2.Vol.Chip.Pages)).bind λx_10=>(gb (decide (x_5.2.1=(6:Int))) (idx l0 i0)).bind λx_11=>bif ((decide (x_5.2.1=(6:Int)))&&(decide (x_10>=x_11.Live)))then(some ((-1:Int),(0:Int)))else(some (x_5.1,x_5.2.1))).bind λo_9=>el2 o_9 (λto_7 e_8=>bif (decide (e_8≠(0:Int)))then((AO e_8).bind λx_12=>some (x_12,x_5.2.2))else((AC i0 2).bind λx_13=>(BU x_5.2.2 x_13 to_7).bind λx_14=>(gb (!(!x_14.1)) (idx l0 i0)).bind λx_16=>bif ((!x_14.1)||(decide (x_16.Used=x_14.2.2.Vol.Chip.Pages)))then(some (x_14.2.1,x_14.2.2))else((AC i0 2).bind λx_17=>(Ad x_14.2.2 x_17).bind λx_18=>(AO x_18.1).bind λx_20=>some (x_20,x_18.2))))
theorem JC{w0x:Zc}{l0:(List Wear)}{i0:Int}{b0:Nat}{r:(Int×Zc)} (H:BF w0x l0 i0=some r):CO3 173 [⟨b0,True,One w0x⟩] (Pt b0 0) (D l0) (D i0) (λg:Unit=>D r.1) λg=>[⟨b0,True,One r.2⟩]:=eO3 Tryz.func173 rfl Tryz.ntmps173 λA w hA hO=>by
 unfold BF at H;refine zg ?_;refine zn H λ_ ex_1 H=>?_
 refine D4 (oc1 [] (EN ex_1.h) toD) rfl λ⟨b12_1,p12_1,c12_1⟩=>?_
 refine zw ?_;refine TSx (tB (⟨0,0,0,true⟩:Wear) rfl rfl) ?_;refine zn H λ_ ex_3 H=>?_
 refine TSx (Zt (ZP ex_3.h rfl)) ?_;refine zC ?_;refine zn H λ_ el_4 H=>?_
 refine ZF b12_1 (Ah el_4.h) ?_;refine zX (B8 7 _ (AY el_4.h (by simp))) ?_;refine Xen b12_1 (XbM 19 (ZJ XaR rfl) (XbM 7 (ZJ XaR rfl) Xb2)) ?_;refine zn H λx_5 ex_5 H=>?_
 refine D4 (oc2 [b0] (J4 ex_5.h) id toD) rfl λ_=>?_
 dsimp only[Xan,Xam];refine zC ?_;refine AI ?_;refine zh H λo_9 H9 H=>?_
 refine Zs (λs:(Int×Int)=>o_9=s) (λ⟨to_7,e_8⟩ (_:Unit)=>(TR (TR (TR (TR (TR Xaj 0 (Pt b0 0)) 1 (D l0)) 2 (D i0)) 8 (D to_7)) 9 (D e_8))) (λ⟨to_7,e_8⟩ (_:Unit)=>[⟨b0,True,(One x_5.2.2)⟩]) ?_ ?_
 .skip;refine zg ?_;refine zd H9 λ_ _ H9=>?_
  refine zd H9 λ_ _ H9=>?_
  refine zc H9 (λhc H9=>?_) λhc H9=>?_
  .refine zg ?_;exact Zl ⟨(-1:Int),(0:Int)⟩ () (ZZs H9) (Za (Za (Za (Za (Za (Ze _)))))) (Zd rfl (Zf _))
  .refine zg ?_;exact Zl ⟨x_5.1,x_5.2.1⟩ () (ZZs H9) (Za (Za (Za (Za (Za (Ze _)))))) (Zd rfl (Zf _))
 rintro⟨to_7,e_8⟩ ⟨⟩ hp;replace hp:=hp.symm;subst hp;replace H:=EX H;refine zg ?_;refine zc H (λhc H=>?_) λhc H=>?_
 .refine zg ?_;refine zb H λ_ _ H=>?_
  obtain rfl:=ZZi H;exact ZG rfl () Cv.le (Zd rfl (Zf _))
 .refine zg ?_;refine zb H λ_ _ H=>?_
  refine zn H λ_ ex_14 H=>?_
  refine D4 (oc3 [b0] (Lw ex_14.h) id toD toD) rfl λ_=>?_
  refine zw ?_;refine zd H λ_ _ H=>?_
  refine zc H (λhc H=>?_) λhc H=>?_
  .refine zg ?_;obtain rfl:=ZZi H;exact ZG rfl () Cv.le (Zd rfl (Zf _))
  .refine zg ?_;refine zb H λ_ _ H=>?_
   refine zn H λ_ ex_18 H=>?_
   refine D4 (oc2 [b0] (BH ex_18.h) id toD) rfl λ_=>?_
   dsimp only[Xan,Xam];refine zb H λ_ _ H=>?_
   obtain rfl:=ZZi H;exact ZG rfl () Cv.le (Zd rfl (Zf _))
def Bj(x0:Wear)(cap1:Zc):Option Bool:=
 some ((decide (x0.Used<cap1.Vol.Chip.Pages))&&(decide (x0.Worn<(1099511627776:Int))))
theorem II{A:Nat->Prop}{x0:Wear}{cap1:Zc}  {r:Bool} (w:World) (v0 v1:Value) (hA:∀k,w.heap.size<=k->A k)  (h0:(D x0).p A w v0) (h1:(Zf1 (cap1:Zc)).p A w v1) (H:Bj x0 cap1=some r) :
    Calls Tryz.prog 175 #[v0,v1] w (Ret A w (D r)):=by
 unfold Bj at H;refine zX (Sd hA Tryz.func175 rfl Tryz.ntmps175 rfl h0 h1) ?_;refine Xa9 rfl λb2_0=>zg ?_
 refine TRx Zei ?_;exact zY H
def BG(w0x:Zc):Option (Int×Zc):=
 (Ay w0x ([w0x.Vol.At]:List (List Int))).bind λx_2=>((B2 w0x x_2).bind λx_6=>(gb x_6.2 (Cw w0x)).bind λx_8=>bif (x_6.2&&(!x_8))then((BF w0x x_2 x_6.1).bind λx_9=>bif (decide (x_9.1≠(6:Int)))then(some (.inr (x_9.1,x_9.2)))else(some (.inl x_9.2)))else(some (.inl w0x))).bind λo_5=>elS o_5 (λw_4=>(Cc x_2 (⟨λx0=>Bj x0 w_4⟩:F1 Tryz.prog Wear Bool)).bind λx_12=>(EI x_12 w_4.Vol.Chip.Pages).bind λr_14=>bif (!r_14.2)then(some ((6:Int),w_4))else((AC r_14.1 2).bind λx_15=>(Ad w_4 x_15).bind λx_16=>(AO x_16.1).bind λx_18=>some (x_18,x_16.2))) (λq=>some q)
theorem JD{A:Nat->Prop}{w0x:Zc}{b0:Nat}{r:(Int×Zc)} (w:World) (v0:Value) (hA:∀k,w.heap.size<=k->A k) (hO:OwnIn A [⟨b0,True,One w0x⟩]) (hap:Gh [⟨b0,True,One w0x⟩]) (hks:Pks (Pub A [⟨b0,True,One w0x⟩]) [⟨b0,True,One w0x⟩] w) (h0:(Pt b0 0).p (Pub A [⟨b0,True,One w0x⟩]) w v0) (H:BG w0x=some r) :
    Calls Tryz.prog 149 #[v0] w (M7 A w [⟨b0,True,One w0x⟩] (λg:Unit=>D r.1) λg=>[⟨b0,True,One r.2⟩]):=by
 unfold BG at H;refine zX (QW hA hap hks Tryz.func149 rfl Tryz.ntmps149 rfl h0) ?_;refine Zd6 rfl λb1_0=>?_
 refine zC ?_;refine Bd [7,8] [] mix (by kernel_rfl) (by kernel_rfl)<|TRx FL ?_;refine zX (Fd FL rfl) ?_;refine TRx (Xbx [.tmp 15] rfl rfl (by decide)) ?_;refine zn H λx_2 ex_2 H=>?_
 refine GT (λg=>(Hz (xs:=x_2) [b0] (Du ZB trivial (by simp)) Xfr λw v0 v1 hA hO hap hks h0 h1=>Cx ex_2.h w v0 v1 hA hO hap hks h0 (toD h1))) rfl<|GT (λg=>HA rfl FM) rfl ?_;refine zC ?_;rintro⟨⟨_,⟨b17_2,p17_2,c17_2⟩⟩,_⟩;dsimp only[XaV,XaW,XaS,Xan,Xam];refine AI ?_;refine zh H λo_5 H5 H=>?_
 refine Zs (λs:Zc=>o_5=.inl s) (λ(w_4:Zc) (_:Unit)=>(TR (TR Xaj 1 (Pt b1_0 0)) 3 (D x_2))) (λ(w_4:Zc) (_:Unit)=>[⟨b1_0,True,(ZeN (Pt b0 0))⟩,⟨b0,True,(One w_4)⟩]) ?_ ?_
 .skip;refine zg ?_;refine zX (A4 FL rfl) ?_;refine Xen b17_2 (XbM 20 (ZJ XaR rfl) (XbM 3 (ZJ XaR rfl) Xb2)) ?_;refine zn H5 λ_ ex_6 H5=>?_
  refine D4 (oc2 [b0] (J3 ex_6.h) id toD) rfl λ_=>?_
  refine zw ?_;refine MC 25 rfl (λhg=>FL) rfl ?_;refine zm H5 λ_ ex_8 H5=>?_
  refine zX (MC 25 rfl (λhg=>(GV [b0] (Du ZB trivial (by simp)) λw v0 hA h0=>K0 w v0 hA h0 (BM ex_8.h hg.h))) rfl) ?_;refine zc H5 (λhc H5=>?_) λhc H5=>?_
  .refine zg ?_;refine zX (A4 FL rfl) ?_;refine zn H5 λx_9 ex_9 H5=>?_
   refine D4 (oc3 [b0] (JC ex_9.h) id toD toD) rfl λ_=>?_
   refine zw ?_;refine zc H5 (λhc H5=>?_) λhc H5=>?_
   .refine zC ?_;refine ZO<|Zw ?_;have R10:=AQ (ZZi H5) H;refine zg ?_;obtain rfl:=ZZi R10;exact ZG rfl () Cv.le (Zd rfl (Zf _))
   .refine zg ?_;exact Zl x_9.2 () (ZZs H5) (Za (Za (Ze _))) (Zd rfl (Zd rfl (Zf _)))
  .refine zg ?_;exact Zl w0x () (ZZs H5) (Za (Za (Ze _))) (Zd rfl (Zd rfl (Zf _)))
 rintro w_4 ⟨⟩ hp;replace H:=Bs hp H;refine zg ?_;refine TSx (Zb0 (Ty.le.refl _)) ?_;refine zn H λx_12 ex_12 H=>?_
 refine D4 (Hz (xs:=x_12) [b1_0,b0] Xfr (Uj (α:=Wear) (β:=Bool) (i:=inferInstance) (j:=inferInstance) (g:=λx0=>Bj x0 w_4) (Zcc (ZB (x:=w_4)) trivial (by simp) (by simp)) (λw v0 v1 hA h0 h1 e=>II w v0 v1 hA (toD h0) h1 e)) λw v0 v1 hA hO hap hks h0 h1=>Nn ex_12.h w v0 v1 hA hO hap hks (toD h0) (toD h1)) rfl λ⟨b39_12,p39_12,c39_12⟩=>zg ?_
 refine zX (A4 FL rfl) ?_;refine zn H λ_ er_14 H=>?_
 refine zX (A4 (Dj [b39_12] (Kp XaR rfl (by simp)) Xfr λw v0 v1 hA h0 h1=>Zc7.h w v0 v1 hA (toD h0) (toD h1) er_14.h) rfl) ?_;refine zc H (λhc H=>?_) λhc H=>?_
 .refine zg ?_;obtain rfl:=ZZi H;exact ZG rfl () Cv.le (Zd rfl (Zf _))
 .refine zg ?_;refine zX (A4 FL rfl) ?_;refine zb H λ_ _ H=>?_
  refine zn H λ_ ex_16 H=>?_
  refine D4 (oc2 [b0] (BH ex_16.h) id toD) rfl λ_=>?_
  dsimp only[Xan,Xam];refine zb H λ_ _ H=>?_
  obtain rfl:=ZZi H;exact ZG rfl () Cv.le (Zd rfl (Zf _))
def Em(w0x:Zc)(many_3:Int)(x_4:Int):Option ((Int×Int)⊕Int):=
 bif (decide (x_4<(w0x.Vol.Chip.Blocks.length:Int)))then(((idx w0x.Vol.Chip.Blocks x_4).bind λx_8=>bif x_8.Bad then((AC many_3 1).bind λx_10=>some x_10)else(some many_3)).bind λmany_6=>(AC x_4 1).bind λx_11=>some (.inl (many_6,x_11)))else(some (.inr many_3))
def Cb(w0x:Zc):Option Int:=
 (ZN (λs=>Em w0x s.1 s.2) ((0:Int),(0:Int))).bind λmany_1=>some many_1
theorem HQ{A:Nat->Prop}{w0x:Zc}  {r:Int} (w:World) (v0:Value) (hA:∀k,w.heap.size<=k->A k)  (h0:(K3 w0x).p A w v0) (H:Cb w0x=some r) :
    Calls Tryz.prog 71 #[v0] w (Ret A w (D r)):=by
 unfold Cb at H;refine U0 hA Tryz.func71 rfl Tryz.ntmps71 rfl h0 ?_;refine zC ?_;refine zC ?_;refine zC ?_;refine zh H λo_2 H2 H=>?_
 refine Zs (λs:Int=>o_2=s) (λ(many_1:Int) (_:Unit)=>(TR Xaj 3 (D many_1))) (λ(many_1:Int) (_:Unit)=>[]) ?_ ?_
 .skip;refine Zr<|Zx H2 (λ⟨many_3,x_4⟩ (_:Unit)=>(TR (TR (TR (TR Xaj 3 (D many_3)) 11 (D w0x.Vol.Chip.Blocks)) 12 (D ((w0x.Vol.Chip.Blocks.length:Int):Int))) 13 (D x_4))) (λ⟨many_3,x_4⟩ (_:Unit)=>[]) () (Za (Za (Za (Za (Ze _))))) (Zf _) ?_;rintro⟨many_3,x_4⟩ ⟨⟩ x_5 H5 he5;dsimp only at H5;unfold Em at H5;refine zg ?_;refine zc H5 (λhc H5=>?_) λhc H5=>?_
  .refine AH<|Az<|AI ?_;refine zh H5 λo_7 H7 H5=>?_
   refine Zs (λs:Int=>o_7=s) (λ(many_6:Int) (_:Unit)=>(TR (TR (TR (TR Xaj 3 (D many_6)) 11 (D w0x.Vol.Chip.Blocks)) 12 (D ((w0x.Vol.Chip.Blocks.length:Int):Int))) 13 (D x_4))) (λ(many_6:Int) (_:Unit)=>[]) ?_ ?_
   .skip;refine zg ?_;refine zb H7 λ_ _ H7=>?_
    refine Xaq rfl λb5_8=>zg ?_
    refine zc H7 (λhc H7=>?_) λhc H7=>?_
    .refine zg ?_;refine zb H7 λx_10 _ H7=>?_
     exact Zl x_10 () (ZZs H7) (Za (Za (Za (Za (Ze _))))) (Zf _)
    .refine zg ?_;exact Zl many_3 () (ZZs H7) (Za (Za (Za (Za (Ze _))))) (Zf _)
   rintro many_6 ⟨⟩ hp;replace hp:=hp.symm;subst hp;refine zg ?_;refine zb H5 λx_11 _ H5=>?_
   exact Zv ⟨many_6,x_11⟩ () (ZZs H5) (Za (Za (Za (Za (Ze _))))) (Zf _)
  .refine zg ?_;exact Zl many_3 () (he5 _ (ZZs H5)).symm (Za (Ze _)) (Zf _)
 rintro many_1 ⟨⟩ hp;replace hp:=hp.symm;subst hp;exact zY H
def B5(w0x:Zc):Option Int:=
 (GG (1:Int) w0x.Vol.Last).bind λx_1=>(idx w0x.Vol.Chip.Blocks x_1).bind λx_2=>bif x_2.Bad then((AE w0x w0x.Vol.Last).bind λx_3=>some x_3)else((idx w0x.Vol.Chip.Blocks w0x.Vol.Last).bind λx_4=>(gb x_4.Bad (AE w0x x_1)).bind λx_5=>bif (x_4.Bad&&(decide (x_5>(0:Int))))then((AE w0x x_1).bind λx_6=>some x_6)else(some w0x.Vol.Chip.Pages))
theorem J5{A:Nat->Prop}{w0x:Zc}  {r:Int} (w:World) (v0:Value) (hA:∀k,w.heap.size<=k->A k)  (h0:(K3 w0x).p A w v0) (H:B5 w0x=some r) :
    Calls Tryz.prog 148 #[v0] w (Ret A w (D r)):=by
 unfold B5 at H;refine zX (U0 hA Tryz.func148 rfl Tryz.ntmps148 rfl h0) ?_;refine zb H λ_ _ H=>?_
 refine zb H λ_ _ H=>?_
 refine zc H (λhc H=>?_) λhc H=>?_
 .refine zg ?_;refine zn H λ_ ex_3 H=>?_
  refine TSx (Kl λw v0 v1 hA h0 h1=>Bn w v0 v1 hA h0 (toD h1) ex_3.h) ?_;exact zY H
 .refine zg ?_;refine zb H λ_ _ H=>?_
  refine zm H λ_ ex_5 H=>?_
  refine zX (MC 41 rfl (λhg=>(Kl λw v0 v1 hA h0 h1=>Bn w v0 v1 hA h0 (toD h1) (BM ex_5.h hg.h))) rfl) ?_;refine zc H (λhc H=>?_) λhc H=>?_
  .refine zg ?_;refine zn H λ_ ex_6 H=>?_
   refine TSx (Kl λw v0 v1 hA h0 h1=>Bn w v0 v1 hA h0 (toD h1) ex_6.h) ?_;exact zY H
  .exact zY H
def DG(need0:Int)(w_1:Zc):Option (Zc⊕(Int×Zc)):=
 (CY w_1).bind λx_3=>bif (decide (x_3.1>=need0))then(some (.inr ((0:Int),w_1)))else((gb (decide (x_3.2>=need0)) (B5 w_1)).bind λx_5=>bif ((decide (x_3.2>=need0))&&(decide (x_5<(2:Int))))then((some ((⟨w_1.Vol,true⟩:Zc):Zc)).bind λl_6=>some (.inr ((0:Int),l_6)))else((BG w_1).bind λx_7=>bif (decide (x_7.1=(0:Int)))then(some (.inl x_7.2))else(bif (decide (x_7.1≠(6:Int)))then(some (.inr (x_7.1,x_7.2)))else(bif (decide (x_3.2>=need0))then((some ((⟨x_7.2.Vol,true⟩:Zc):Zc)).bind λl_9=>some (.inr ((0:Int),l_9)))else(some (.inr ((5:Int),x_7.2)))))))
def Cp(w0x:Zc)(need0:Int):Option (Int×Zc):=
 ZN (λs=>DG need0 s) w0x
theorem KW{w0x:Zc}{need0:Int}{b0:Nat}{r:(Int×Zc)} (H:Cp w0x need0=some r):CO2 120 [⟨b0,True,One w0x⟩] (Pt b0 0) (D need0) (λg:Unit=>D r.1) λg=>[⟨b0,True,One r.2⟩]:=eO2 Tryz.func120 rfl Tryz.ntmps120 λA w hA hO=>by
 unfold Cp at H;refine zC ?_;refine Zr<|Zx H (λ(w_1:Zc) (_:Unit)=>(TR (TR Xaj 0 (Pt b0 0)) 1 (D need0))) (λ(w_1:Zc) (_:Unit)=>[⟨b0,True,(One w_1)⟩]) () (Za (Za (Ze _))) (Zd rfl (Zf _)) ?_;rintro w_1 ⟨⟩ x_2 H2 he2;unfold DG at H2;refine zg ?_;refine zn H2 λ_ ex_3 H2=>?_
 refine D4 (oc1 [b0] (Lv ex_3.h) id) rfl λ_=>?_
 refine zw ?_;refine zc H2 (λhc H2=>?_) λhc H2=>?_
 .refine zg ?_;obtain rfl:=(he2 _ (ZZs H2));exact ZG rfl () Cv.le (Zd rfl (Zf _))
 .refine zg ?_;refine zm H2 λ_ ex_5 H2=>?_
  refine zX (MC 19 rfl (λhg=>(GV [b0] (Du ZB trivial (by simp)) λw v0 hA h0=>J5 w v0 hA h0 (BM ex_5.h hg.h))) rfl) ?_;refine zc H2 (λhc H2=>?_) λhc H2=>?_
  .refine zC ?_;refine zn H2 λ_ el_6 H2=>?_
   refine zX (ZF b0 (Ag el_6.h)) ?_;obtain rfl:=(he2 _ (ZZs H2));exact ZG rfl () Cv.le (Zd rfl (Zf _))
  .refine zg ?_;refine zn H2 λx_7 ex_7 H2=>?_
   refine D4 (IR [b0] λw v0 hA hO hap hks h0=>JD w v0 hA hO hap hks (id h0) ex_7.h) rfl λ_=>?_
   refine zw ?_;refine zc H2 (λhc H2=>?_) λhc H2=>?_
   .refine zg ?_;exact Zv x_7.2 () (ZZs H2) (Za (Za (Ze _))) (Zd rfl (Zf _))
   .refine zg ?_;refine zc H2 (λhc H2=>?_) λhc H2=>?_
    .refine zg ?_;obtain rfl:=(he2 _ (ZZs H2));exact ZG rfl () Cv.le (Zd rfl (Zf _))
    .refine zg ?_;refine zc H2 (λhc H2=>?_) λhc H2=>?_
     .refine zC ?_;refine zn H2 λ_ el_9 H2=>?_
      refine zX (ZF b0 (Ag el_9.h)) ?_;obtain rfl:=(he2 _ (ZZs H2));exact ZG rfl () Cv.le (Zd rfl (Zf _))
     .refine zg ?_;obtain rfl:=(he2 _ (ZZs H2));exact ZG rfl () Cv.le (Zd rfl (Zf _))
def DH(lists0:((List (List Int))×(List Int)))(r_2:((List UInt8)×Int))(w_3:Zc):Option (Zc⊕(Int×Int×Zc)):=
 (Cs w_3 (lists0.1,lists0.2)).bind λx_5=>(bif (decide (x_5.2.1=(0:Int)))then((RX x_5.1 x_5.2.2.Vol.Chip.Pages).bind λx_10=>(idx x_5.2.2.Vol.Chip.Blocks x_5.1).bind λx_11=>(AC x_10 x_11.Used).bind λx_12=>(AC x_12 1).bind λx_13=>(ZS x_5.2.2 x_5.1 r_2.1).bind λx_14=>bif (decide (x_14.1=(0:Int)))then(some (.inr (x_13,(0:Int),x_14.2)))else(some (.inl (x_14.1,x_14.2))))else(some (.inl (x_5.2.1,x_5.2.2)))).bind λo_9=>elS o_9 (λs=>el2 s (λe_7 w_8=>bif (decide (e_7≠(9:Int)))then(some (.inr ((0:Int),e_7,w_8)))else(some (.inl w_8)))) (λq=>some (.inr q))
def Cq(w0x:Zc)(p0x:B9)(lists0:((List (List Int))×(List Int))):Option (Int×Int×Zc):=
 (Gr p0x w0x.Vol.Chip.Size).bind λr_2=>bif (decide (r_2.2≠(0:Int)))then(some ((0:Int),r_2.2,w0x))else(ZN (λs=>DH lists0 r_2 s) w0x)
theorem KX{w0x:Zc}{p0x:B9}{lists0:((List (List Int))×(List Int))}{b0:Nat}{b2 c2:Nat}{p2:Prop}{b2v c2v:Nat}{p2v:Prop}{r:(Int×Int×Zc)} (H:Cq w0x p0x lists0=some r):CO3 121 [⟨b0,True,One w0x⟩,⟨b2,p2,Xa4 (Row (lists0.1:List (List Int)) c2) 1 (Sl b2v p2v 0 (Xat lists0.2) c2v)⟩,⟨b2v,p2v,Row (lists0.2:List Int) c2v⟩] (Pt b0 0) (D p0x) (Sl b2 p2 0 lists0.1.length c2) (λg:Unit=>Tup [D r.1,D r.2.1]) λg=>[⟨b0,True,One r.2.2⟩,⟨b2,p2,Xa4 (Row (lists0.1:List (List Int)) c2) 1 (Sl b2v p2v 0 (Xat lists0.2) c2v)⟩,⟨b2v,p2v,Row (lists0.2:List Int) c2v⟩]:=eO3 Tryz.func121 rfl Tryz.ntmps121 λA w hA hO=>by
 unfold Cq at H;refine zg ?_;refine Xa9 rfl λb4_0=>zg ?_
 refine zb H λr_2 _ H=>?_
 refine zc H (λhc H=>?_) λhc H=>?_
 .refine zg ?_;obtain rfl:=ZZi H;exact AD rfl rfl () (.cons Cv.le (.cons Cv.le .nil)) (Zd rfl (Zd rfl (Zd rfl (Zf _))))
 .refine AH<|Az<|Zr<|Zx H (λ(w_3:Zc) (_:Unit)=>(TR (TR (TR Xaj 0 (Pt b0 0)) 2 (Sl b2 p2 0 lists0.1.length c2)) 8 (D r_2.1))) (λ(w_3:Zc) (_:Unit)=>[⟨b2,p2,(Xa4 (Row (lists0.1:List (List Int)) c2) 1 (Sl b2v p2v 0 lists0.2.length c2v))⟩,⟨b2v,p2v,(Row (lists0.2:List Int) c2v)⟩,⟨b0,True,(One w_3)⟩]) () (Za (Zm (ZH rfl) (Za (Ze _)))) (Zd rfl (Zd rfl (Zd rfl (Zf _)))) ?_;rintro w_3 ⟨⟩ x_4 H4 he4;unfold DH at H4;refine zg ?_;refine zn H4 λx_5 ex_5 H4=>?_
  refine D4 (oc2 [b0,b2,b2v] (KY ex_5.h) id (slD rfl)) rfl λ_=>?_
  dsimp only[Xan,Xam];refine zC ?_;refine AI ?_;refine zh H4 λo_9 H9 H4=>?_
  refine Zs (λs:(Int×Zc)=>o_9=.inl s) (λ⟨e_7,w_8⟩ (_:Unit)=>(TR (TR (TR (TR Xaj 0 (Pt b0 0)) 2 (Sl b2 p2 0 lists0.1.length c2)) 8 (D r_2.1)) 11 (D e_7))) (λ⟨e_7,w_8⟩ (_:Unit)=>[⟨b2,p2,(Xa4 (Row (lists0.1:List (List Int)) c2) 1 (Sl b2v p2v 0 lists0.2.length c2v))⟩,⟨b2v,p2v,(Row (lists0.2:List Int) c2v)⟩,⟨b0,True,(One w_8)⟩]) ?_ ?_
  .skip;refine zg ?_;refine zc H9 (λhc H9=>?_) λhc H9=>?_
   .refine zg ?_;refine zb H9 λ_ _ H9=>?_
    refine zb H9 λ_ _ H9=>?_
    refine zb H9 λ_ _ H9=>?_
    refine zb H9 λ_ _ H9=>?_
    refine zn H9 λx_14 ex_14 H9=>?_
    refine D4 (oc3 [b0] (Bi ex_14.h) id toD toD) rfl λ_=>?_
    refine zw ?_;refine zc H9 (λhc H9=>?_) λhc H9=>?_
    .refine zC ?_;refine ZO<|Zw ?_;have R15:=AQ (ZZi H9) H4;refine zg ?_;obtain rfl:=(he4 _ (ZZs R15));exact AD rfl rfl () (.cons Cv.le (.cons Cv.le .nil)) (Zd rfl (Zd rfl (Zd rfl (Zf _))))
    .refine zg ?_;exact Zl ⟨x_14.1,x_14.2⟩ () (ZZs H9) (Za (Za (Zm (ZH rfl) (Za (Ze _))))) (Zd rfl (Zd rfl (Zd rfl (Zf _))))
   .refine zg ?_;exact Zl ⟨x_5.2.1,x_5.2.2⟩ () (ZZs H9) (Za (Za (Zm (ZH rfl) (Za (Ze _))))) (Zd rfl (Zd rfl (Zd rfl (Zf _))))
  rintro⟨e_7,w_8⟩ ⟨⟩ hp;replace H4:=Bs hp H4;replace H4:=EX H4;refine zg ?_;refine zc H4 (λhc H4=>?_) λhc H4=>?_
  .refine zg ?_;obtain rfl:=(he4 _ (ZZs H4));exact AD rfl rfl () (.cons Cv.le (.cons Cv.le .nil)) (Zd rfl (Zd rfl (Zd rfl (Zf _))))
  .refine zg ?_;exact Zv w_8 () (ZZs H4) (Za (Zm (ZH rfl) (Za (Ze _)))) (Zd rfl (Zd rfl (Zd rfl (Zf _))))
def Cz(l0:(List Fg))(need_3:Int)(x_4:Int):Option ((Int×Int)⊕Int):=
 bif (decide (x_4<(l0.length:Int)))then(((idx l0 x_4).bind λx_8=>bif (decide ((x_8.Body.length:Int)>(0:Int)))then((AC need_3 1).bind λx_10=>some x_10)else(some need_3)).bind λneed_6=>(AC x_4 1).bind λx_11=>some (.inl (need_6,x_11)))else(some (.inr need_3))
def Cy(l0:(List Fg))(x_20:Int)(at_21:(List Int))(w_22:Zc):Option ((Int×(List Int)×Zc)⊕(((List Int)×Zc)⊕(Int×Zc))):=
 bif (decide (x_20<(l0.length:Int)))then(((idx l0 x_20).bind λx_27=>bif (decide ((x_27.Body.length:Int)=(0:Int)))then((idx at_21 x_27.Id).bind λx_29=>(some ((at_21.set (Xaa x_27.Id) (0:Int)):(List Int))).bind λl_30=>some (.inl (l_30,w_22)))else((Cq w_22 (⟨(1:Int),x_27.Id,(w_22.Vol.Gen+(Xap 1)),x_27.Body⟩:B9) (([w_22.Vol.At,[]]:List (List Int)),at_21)).bind λx_32=>bif (decide (x_32.2.1≠(0:Int)))then(some (.inr (x_32.2.1,x_32.2.2)))else((idx at_21 x_27.Id).bind λx_36=>(some ((at_21.set (Xaa x_27.Id) x_32.1):(List Int))).bind λl_37=>some (.inl (l_37,x_32.2.2))))).bind λo_26=>elS o_26 (λs=>el2 s (λat_24 w_25=>(AC x_20 1).bind λx_38=>some (.inl (x_38,at_24,w_25)))) (λq=>some (.inr (.inr q))))else(some (.inr (.inl (at_21,w_22))))
def CA(w0x:Zc)(l0:(List Fg)):Option (Int×Zc):=
 (ZN (λs=>Cz l0 s.1 s.2) ((0:Int),(0:Int))).bind λneed_1=>(some ((⟨w0x.Vol,false⟩:Zc):Zc)).bind λw_12=>(Cp w_12 need_1).bind λx_13=>bif (decide (x_13.1≠(0:Int)))then(some (x_13.1,x_13.2))else((A1 x_13.2.Vol.At).bind λx_15=>(ZN (λs=>Cy l0 s.1 s.2.1 s.2.2) ((0:Int),x_15,x_13.2)).bind λo_19=>elS o_19 (λs=>el2 s (λat_17 w_18=>(Bx w_18 at_17).bind λx_39=>some (x_39.1,x_39.2))) (λq=>some q))
theorem K2{w0x:Zc}{l0:(List Fg)}{b0:Nat}{r:(Int×Zc)} (H:CA w0x l0=some r):CO2 72 [⟨b0,True,One w0x⟩] (Pt b0 0) (D l0) (λg:Unit=>D r.1) λg=>[⟨b0,True,One r.2⟩]:=eO2 Tryz.func72 rfl Tryz.ntmps72 λA w hA hO=>by
 unfold CA at H;refine zC ?_;refine zC ?_;refine zC ?_;refine zh H λo_2 H2 H=>?_
 refine Zs (λs:Int=>o_2=s) (λ(need_1:Int) (_:Unit)=>(TR (TR (TR Xaj 0 (Pt b0 0)) 1 (D l0)) 5 (D need_1))) (λ(need_1:Int) (_:Unit)=>[⟨b0,True,(One w0x)⟩]) ?_ ?_
 .skip;refine Zr<|Zx H2 (λ⟨need_3,x_4⟩ (_:Unit)=>(TR (TR (TR (TR (TR (TR Xaj 0 (Pt b0 0)) 1 (D l0)) 5 (D need_3)) 14 (D l0)) 15 (D ((l0.length:Int):Int))) 16 (D x_4))) (λ⟨need_3,x_4⟩ (_:Unit)=>[⟨b0,True,(One w0x)⟩]) () (Za (Za (Za (Za (Za (Za (Ze _))))))) (Zd rfl (Zf _)) ?_;rintro⟨need_3,x_4⟩ ⟨⟩ x_5 H5 he5;dsimp only at H5;unfold Cz at H5;refine zg ?_;refine zc H5 (λhc H5=>?_) λhc H5=>?_
  .refine AH<|Az<|AI ?_;refine zh H5 λo_7 H7 H5=>?_
   refine Zs (λs:Int=>o_7=s) (λ(need_6:Int) (_:Unit)=>(TR (TR (TR (TR (TR (TR Xaj 0 (Pt b0 0)) 1 (D l0)) 5 (D need_6)) 14 (D l0)) 15 (D ((l0.length:Int):Int))) 16 (D x_4))) (λ(need_6:Int) (_:Unit)=>[⟨b0,True,(One w0x)⟩]) ?_ ?_
   .skip;refine zg ?_;refine zb H7 λ_ _ H7=>?_
    refine Xaq rfl λb7_8=>zg ?_
    refine zc H7 (λhc H7=>?_) λhc H7=>?_
    .refine zg ?_;refine zb H7 λx_10 _ H7=>?_
     exact Zl x_10 () (ZZs H7) (Za (Za (Za (Za (Za (Za (Ze _))))))) (Zd rfl (Zf _))
    .refine zg ?_;exact Zl need_3 () (ZZs H7) (Za (Za (Za (Za (Za (Za (Ze _))))))) (Zd rfl (Zf _))
   rintro need_6 ⟨⟩ hp;replace hp:=hp.symm;subst hp;refine zg ?_;refine zb H5 λx_11 _ H5=>?_
   exact Zv ⟨need_6,x_11⟩ () (ZZs H5) (Za (Za (Za (Za (Za (Za (Ze _))))))) (Zd rfl (Zf _))
  .refine zg ?_;exact Zl need_3 () (he5 _ (ZZs H5)).symm (Za (Za (Za (Ze _)))) (Zd rfl (Zf _))
 rintro need_1 ⟨⟩ hp;replace hp:=hp.symm;subst hp;refine zC ?_;refine zn H λ_ ew_12 H=>?_
 refine zX (ZF b0 (Ag ew_12.h)) ?_;refine zn H λ_ ex_13 H=>?_
 refine D4 (oc2 [b0] (KW ex_13.h) id toD) rfl λ_=>?_
 refine zw ?_;refine zc H (λhc H=>?_) λhc H=>?_
 .refine zg ?_;obtain rfl:=ZZi H;exact ZG rfl () Cv.le (Zd rfl (Zf _))
 .refine zg ?_;refine zn H λ_ ex_15 H=>?_
  refine D4 (oc1 [] (EM ex_15.h) toD) rfl λ⟨b41_15,p41_15,c41_15⟩=>?_
  dsimp only[Xan,Xam];refine zC ?_;refine zC ?_;refine zh H λo_19 H19 H=>?_
  refine Zs (λs:((List Int)×Zc)=>o_19=.inl s) (λ⟨at_17,w_18⟩ (_:Unit)=>(TR (TR Xaj 0 (Pt b0 0)) 9 (Sl b41_15 p41_15 0 at_17.length c41_15))) (λ⟨at_17,w_18⟩ (_:Unit)=>[⟨b41_15,p41_15,(Row (at_17:List Int) c41_15)⟩,⟨b0,True,(One w_18)⟩]) ?_ ?_
  .skip;refine Zr<|Zx H19 (λ⟨x_20,at_21,w_22⟩ (_:Unit)=>(TR (TR (TR (TR (TR Xaj 0 (Pt b0 0)) 9 (Sl b41_15 p41_15 0 at_21.length c41_15)) 42 (D l0)) 43 (D ((l0.length:Int):Int))) 44 (D x_20))) (λ⟨x_20,at_21,w_22⟩ (_:Unit)=>[⟨b41_15,p41_15,(Row (at_21:List Int) c41_15)⟩,⟨b0,True,(One w_22)⟩]) () (Za (Za (Za (Zm (ZH rfl) (Za (Ze _)))))) (Zd rfl (Zd rfl (Zf _))) ?_;rintro⟨x_20,at_21,w_22⟩ ⟨⟩ x_23 H23 he23;dsimp only at H23;unfold Cy at H23;refine zg ?_;refine zc H23 (λhc H23=>?_) λhc H23=>?_
   .refine AH<|Az<|AI ?_;refine zh H23 λo_26 H26 H23=>?_
    refine Zs (λs:((List Int)×Zc)=>o_26=.inl s) (λ⟨at_24,w_25⟩ (_:Unit)=>(TR (TR (TR (TR (TR Xaj 0 (Pt b0 0)) 9 (Sl b41_15 p41_15 0 at_24.length c41_15)) 42 (D l0)) 43 (D ((l0.length:Int):Int))) 44 (D x_20))) (λ⟨at_24,w_25⟩ (_:Unit)=>[⟨b41_15,p41_15,(Row (at_24:List Int) c41_15)⟩,⟨b0,True,(One w_25)⟩]) ?_ ?_
    .skip;refine zg ?_;refine zb H26 λx_27 _ H26=>?_
     refine Xaq rfl λb11_27=>zg ?_
     refine zc H26 (λhc H26=>?_) λhc H26=>?_
     .refine zg ?_;refine zn H26 λ_ ex_29 H26=>?_
      refine TSx (Zt (ZP ex_29.h rfl)) ?_;refine zC ?_;refine zn H26 λl_30 el_30 H26=>?_
      refine ZF b41_15 (Ah el_30.h) ?_;refine zX (B8 9 _ (AY el_30.h (by simp))) ?_;exact Zl ⟨l_30,w_22⟩ () (ZZs H26) (Za (Za (Za (Zm (ZH rfl) (Za (Ze _)))))) (Zd rfl (Zd rfl (Zf _)))
     .refine AH<|Az<|Vc [0,0,0,0,0,0,0,2,2,0,0,2,0,0,0,0,2,0,4,1,2,2,2,2,2] [b0,b41_15] mix (by kernel_rfl) (by kernel_rfl)<|Xdz E9 rfl<|Xdz A9 rfl<|Xdz (AL (PF 0 Fg Int ZB)) rfl<|Xdz E9 rfl<|Xdz Kh rfl<|Xdz A9 rfl<|Xdz A9 rfl<|Pu (λg=>XeT (AL (PF 7 Vol UInt64 (PF 0 Zc Vol ZB)))) rfl<|Pu (λg=>XeT Km) rfl<|Xdz A9 rfl<|Xdz (AL (PF 1 Fg (List UInt8) ZB)) rfl ?_;refine Pu (λg=>XeT (tB (⟨(1:Int),x_27.Id,(w_22.Vol.Gen+(Xap 1)),x_27.Body⟩:B9) rfl rfl)) rfl<|Xdz E9 rfl<|Xdz Kh rfl<|Xdz A9 rfl<|Xdz A9 rfl<|Pu (λg=>XeT (AL (PF 6 Vol (List Int) (PF 0 Zc Vol ZB)))) rfl<|Xdz E9 rfl ?_;refine Zgo (Zek (C:=(Xa4 (Row (([w_22.Vol.At,[]]:List (List Int)):List (List Int)) 2) 1 (Sl b41_15 p41_15 0 at_21.length c41_15))) λB Ωs Ω g=>Qn) rfl ?_;refine zn H26 λx_32 ex_32 H26=>?_
      refine ZfA (λΩr g=>(oc3 [b0,(g.2),b41_15] (KX ex_32.h) id toD (slD (by simp)))) rfl<|Pu (λg=>XeT E9) rfl<|Pu (λg=>XeT (Hx rfl)) rfl<|Pu (λg=>XeT (Hx rfl)) rfl<|Pu (λg=>XeT FM) rfl<|Pu (λg=>XeT FM) rfl<|TR2.nil ?_;rintro⟨⟨⟨⟨⟨⟨⟨⟨⟨⟨⟨_,_⟩,_⟩,_⟩,_⟩,b75_30⟩,_⟩,_⟩,_⟩,_⟩,_⟩,_⟩;dsimp only[XaV,XaW,XaS,Xan,Xam];refine zg ?_;refine zc H26 (λhc H26=>?_) λhc H26=>?_
      .refine zC ?_;refine ZO<|Zi<|Zh<|Zw ?_;have R33:=AQ (ZZi H26) H23;refine Zi<|Zi<|Zh<|Zw ?_;have R34:=AQ (he23 _ (ZZs R33)) H;refine zg ?_;obtain rfl:=ZZi R34;exact ZG rfl () Cv.le (Zd rfl (Zf _))
      .refine zg ?_;refine zn H26 λ_ ex_36 H26=>?_
       refine TSx (Zt (ZP ex_36.h rfl)) ?_;refine zE ?_;refine zn H26 λl_37 el_37 H26=>?_
       refine Ai b41_15 (Ah el_37.h) ?_;refine zX (C9 9 _ (AY el_37.h (by simp))) ?_;exact Zl ⟨l_37,x_32.2.2⟩ () (ZZs H26) (Za (Za (Za (Zm (ZH rfl) (Za (Ze _)))))) (Zd rfl (Zd rfl (Zf _)))
    rintro⟨at_24,w_25⟩ ⟨⟩ hp;replace H23:=Bs hp H23;replace H23:=EX H23;refine zg ?_;refine zb H23 λx_38 _ H23=>?_
    exact Zv ⟨x_38,at_24,w_25⟩ () (ZZs H23) (Za (Za (Za (Zm (ZH rfl) (Za (Ze _)))))) (Zd rfl (Zd rfl (Zf _)))
   .refine zg ?_;exact Zl ⟨at_21,w_22⟩ () (he23 _ (ZZs H23)).symm (Zm (ZH rfl) (Za (Ze _))) (Zd rfl (Zd rfl (Zf _)))
  rintro⟨at_17,w_18⟩ ⟨⟩ hp;replace H:=Bs hp H;replace H:=EX H;refine zg ?_;refine Xen b41_15 (XbM 89 (ZJ XaR rfl) (XbM 9 (ZJ XaR rfl) Xb2)) ?_;refine zn H λ_ ex_39 H=>?_
  refine D4 (oc2 [b0] (Gj ex_39.h) id toD) rfl λ_=>?_
  refine zw ?_;obtain rfl:=ZZi H;exact ZG rfl () Cv.le (Zd rfl (Zf _))
def Io(l0:(List Fg))(w_10:Zc):Option (Zc⊕(Vol×Int)):=
 (Cb w_10).bind λx_12=>(CA w_10 l0).bind λx_13=>(gb (decide (x_13.1=(5:Int))) (Cb x_13.2)).bind λx_15=>bif ((decide (x_13.1=(5:Int)))&&(decide (x_15>x_12)))then(some (.inl x_13.2))else(some (.inr (x_13.2.Vol,x_13.1)))
def Hl(v0x:Vol)(l0:(List Fg)):Option (Vol×Int):=
 (FE v0x).bind λx_3=>(gb (!((!x_3)||(decide ((Xap 281474976710655)<=v0x.Gen)))) (DX v0x l0)).bind λx_4=>bif (((!x_3)||(decide ((Xap 281474976710655)<=v0x.Gen)))||(!x_4))then((Dc v0x).bind λx_5=>some (x_5,(1:Int)))else(bif v0x.Chip.Off then((Dc v0x).bind λx_6=>some (x_6,(7:Int)))else((Dc v0x).bind λx_7=>(some ((⟨x_7,false⟩:Zc):Zc)).bind λw_9=>ZN (λs=>Io l0 s) w_9))
instance Zbb:Fd2 25 Hl λr=>Tup [D r.1,D r.2]:=en2 Tryz.func25 rfl Tryz.ntmps25 λA w hA v0x l0 r H=>by
 unfold Hl at H;refine zg ?_;refine Xa9 rfl λb2_0=>?_
 refine Xaq rfl λb4_1=>zg ?_
 refine zb H λ_ _ H=>?_
 refine zX (MC 12 rfl (λhg=>Ms) rfl) ?_;refine zd H λ_ _ H=>?_
 refine zc H (λhc H=>?_) λhc H=>?_
 .exact zY H
 .refine zg ?_;refine zc H (λhc H=>?_) λhc H=>?_
  .exact zY H
  .refine zg ?_;refine zb H λx_7 _ H=>?_
   refine TSx (tB (⟨x_7,false⟩:Zc) rfl rfl) ?_;refine Xa9 rfl λb33_7=>?_
   refine zC ?_;refine zn H λ_ ew_9 H=>?_
   refine ZF b33_7 (Ag ew_9.h)<|Zr<|Zx H (λ(w_10:Zc) (_:Unit)=>(TR (TR (TR Xaj 1 (D l0)) 4 (Pt b4_1 0)) 6 (Pt b33_7 0))) (λ(w_10:Zc) (_:Unit)=>[⟨b4_1,True,(One ((Dat.z:Vol):Vol))⟩,⟨b33_7,True,(One w_10)⟩]) () (Za (Za (Za (Ze _)))) (Zd rfl (Zd rfl (Zf _))) ?_;rintro w_10 ⟨⟩ x_11 H11 he11;unfold Io at H11;refine zg ?_;refine zn H11 λ_ ex_12 H11=>?_
   refine zX (A4 (GV [b33_7] (Du ZB trivial (by simp)) λw v0 hA h0=>HQ w v0 hA h0 ex_12.h) rfl) ?_;refine zn H11 λx_13 ex_13 H11=>?_
   refine D4 (oc2 [b33_7] (K2 ex_13.h) id toD) rfl λ_=>?_
   refine zw ?_;refine zm H11 λ_ ex_15 H11=>?_
   refine zX (MC 41 rfl (λhg=>(GV [b33_7] (Du ZB trivial (by simp)) λw v0 hA h0=>HQ w v0 hA h0 (BM ex_15.h hg.h))) rfl) ?_;refine zc H11 (λhc H11=>?_) λhc H11=>?_
   .refine zg ?_;exact Zv x_13.2 () (ZZs H11) (Za (Za (Za (Ze _)))) (Zd rfl (Zd rfl (Zf _)))
   .refine zg ?_;obtain rfl:=(he11 _ (ZZs H11));exact Eo rfl rfl (.cons Cv.le (.cons Cv.le .nil))
def Co(w0x:Zc)(block0:Int):Option Bool:=
 (idx w0x.Vol.Chip.Blocks block0).bind λx_1=>(gb (((!x_1.Bad)&&(!(decide (x_1.Used>(0:Int)))))&&(decide (block0<(2:Int)))) (Ak w0x block0)).bind λx_3=>some ((!x_1.Bad)&&((decide (x_1.Used>(0:Int)))||((decide (block0<(2:Int)))&&(decide ((Xap 0)<x_3)))))
theorem KV{w0x:Zc}{block0:Int}{b0:Nat}{r:Bool} (H:Co w0x block0=some r):CO2 113 [⟨b0,True,One w0x⟩] (Pt b0 0) (D block0) (λg:Unit=>D r) λg=>[⟨b0,True,One w0x⟩]:=eO2 Tryz.func113 rfl Tryz.ntmps113 λA w hA hO=>by
 unfold Co at H;refine zg ?_;refine zb H λ_ _ H=>?_
 refine Xaq rfl λb5_1=>zg ?_
 refine zm H λ_ ex_3 H=>?_
 refine Q7 25 rfl (λhp hg=>haveI l0:=Ft.l hp;haveI r0:=Y7 hp;(Dj [b0] (Du ZB trivial (by simp)) Xfr λw v0 v1 hA h0 h1=>Db w v0 v1 hA h0 (toD h1) (BM ex_3.h (aT (aT hp.h.1 (nF hp.h.2)) hg.h)))) rfl ?_;refine zX (Q7 25 rfl (λhp hg=>haveI l0:=Ft.l hp;haveI r0:=Y7 hp;Yw) rfl) ?_;obtain rfl:=ZZi H;exact ZG rfl () Cv.le (Zd rfl (Zf _))
def Cu(w0x:Zc)(block0:Int):Option UInt64:=
 (GG (1:Int) block0).bind λx_1=>(Ak w0x x_1).bind λx_2=>some (max64 (Xap 1) (x_2+(Xcp x_1)))
theorem KZ{w0x:Zc}{block0:Int}{b0:Nat}{r:UInt64} (H:Cu w0x block0=some r):CO2 115 [⟨b0,True,One w0x⟩] (Pt b0 0) (D block0) (λg:Unit=>D r) λg=>[⟨b0,True,One w0x⟩]:=eO2 Tryz.func115 rfl Tryz.ntmps115 λA w hA hO=>by
 unfold Cu at H;refine zg ?_;refine zb H λ_ _ H=>?_
 refine zn H λ_ ex_2 H=>?_
 refine zX (A4 (Dj [b0] (Du ZB trivial (by simp)) Xfr λw v0 v1 hA h0 h1=>Db w v0 v1 hA h0 (toD h1) ex_2.h) rfl) ?_;refine TSx Kj<|TSx Km ?_;refine zX (A4 OpY.max64 rfl) ?_;obtain rfl:=ZZi H;exact ZG rfl () Cv.le (Zd rfl (Zf _))
def Br(w0x:Zc)(x_3:Int)(w_4:Zc):Option ((Int×Zc)⊕(Zc⊕(Int×Zc))):=
 bif (decide (x_3<(w0x.Vol.Chip.Blocks.length:Int)))then(((Co w_4 x_3).bind λx_8=>bif (!x_8)then(some (.inl w_4))else((AW w_4 x_3).bind λx_10=>bif ((decide (x_10.1≠(0:Int)))&&(decide (x_10.1≠(9:Int))))then(some (.inr (x_10.1,x_10.2)))else(some (.inl x_10.2)))).bind λo_7=>elS o_7 (λw_6=>(AC x_3 1).bind λx_14=>some (.inl (x_14,w_6))) (λq=>some (.inr (.inr q))))else(some (.inr (.inl w_4)))
def Bq(ids0:Int)(x_17:Int)(w_18:Zc):Option ((Int×Zc)⊕(Zc⊕(Int×Zc))):=
 bif (decide (x_17<(2:Int)))then(((Cu w_18 x_17).bind λx_22=>(Dv 8 ids0).bind λu_24=>(some ((⟨x_22,(Xac (Xaa ids0) (Dat.z:Int))⟩:AA):AA)).bind λr_26=>(Kt r_26 w_18.Vol.Chip.Size).bind λr_27=>(gb (!(decide (r_27.2≠(0:Int)))) (AE w_18 x_17)).bind λx_28=>bif ((decide (r_27.2≠(0:Int)))||(decide (x_28=(0:Int))))then(some (.inl w_18))else((ZS w_18 x_17 r_27.1).bind λx_29=>bif (decide (x_29.1=(0:Int)))then((some ((⟨(⟨((⟨(⟨((⟨(⟨x_29.2.Vol.Chip,r_26.At,x_29.2.Vol.Gen,x_29.2.Vol.Last⟩:Vol),x_29.2.beyond⟩:Zc).Vol).Chip,((⟨(⟨x_29.2.Vol.Chip,r_26.At,x_29.2.Vol.Gen,x_29.2.Vol.Last⟩:Vol),x_29.2.beyond⟩:Zc).Vol).At,r_26.Gen,((⟨(⟨x_29.2.Vol.Chip,r_26.At,x_29.2.Vol.Gen,x_29.2.Vol.Last⟩:Vol),x_29.2.beyond⟩:Zc).Vol).Last⟩:Vol),(⟨(⟨x_29.2.Vol.Chip,r_26.At,x_29.2.Vol.Gen,x_29.2.Vol.Last⟩:Vol),x_29.2.beyond⟩:Zc).beyond⟩:Zc).Vol).Chip,((⟨(⟨((⟨(⟨x_29.2.Vol.Chip,r_26.At,x_29.2.Vol.Gen,x_29.2.Vol.Last⟩:Vol),x_29.2.beyond⟩:Zc).Vol).Chip,((⟨(⟨x_29.2.Vol.Chip,r_26.At,x_29.2.Vol.Gen,x_29.2.Vol.Last⟩:Vol),x_29.2.beyond⟩:Zc).Vol).At,r_26.Gen,((⟨(⟨x_29.2.Vol.Chip,r_26.At,x_29.2.Vol.Gen,x_29.2.Vol.Last⟩:Vol),x_29.2.beyond⟩:Zc).Vol).Last⟩:Vol),(⟨(⟨x_29.2.Vol.Chip,r_26.At,x_29.2.Vol.Gen,x_29.2.Vol.Last⟩:Vol),x_29.2.beyond⟩:Zc).beyond⟩:Zc).Vol).At,((⟨(⟨((⟨(⟨x_29.2.Vol.Chip,r_26.At,x_29.2.Vol.Gen,x_29.2.Vol.Last⟩:Vol),x_29.2.beyond⟩:Zc).Vol).Chip,((⟨(⟨x_29.2.Vol.Chip,r_26.At,x_29.2.Vol.Gen,x_29.2.Vol.Last⟩:Vol),x_29.2.beyond⟩:Zc).Vol).At,r_26.Gen,((⟨(⟨x_29.2.Vol.Chip,r_26.At,x_29.2.Vol.Gen,x_29.2.Vol.Last⟩:Vol),x_29.2.beyond⟩:Zc).Vol).Last⟩:Vol),(⟨(⟨x_29.2.Vol.Chip,r_26.At,x_29.2.Vol.Gen,x_29.2.Vol.Last⟩:Vol),x_29.2.beyond⟩:Zc).beyond⟩:Zc).Vol).Gen,x_17⟩:Vol),(⟨(⟨((⟨(⟨x_29.2.Vol.Chip,r_26.At,x_29.2.Vol.Gen,x_29.2.Vol.Last⟩:Vol),x_29.2.beyond⟩:Zc).Vol).Chip,((⟨(⟨x_29.2.Vol.Chip,r_26.At,x_29.2.Vol.Gen,x_29.2.Vol.Last⟩:Vol),x_29.2.beyond⟩:Zc).Vol).At,r_26.Gen,((⟨(⟨x_29.2.Vol.Chip,r_26.At,x_29.2.Vol.Gen,x_29.2.Vol.Last⟩:Vol),x_29.2.beyond⟩:Zc).Vol).Last⟩:Vol),(⟨(⟨x_29.2.Vol.Chip,r_26.At,x_29.2.Vol.Gen,x_29.2.Vol.Last⟩:Vol),x_29.2.beyond⟩:Zc).beyond⟩:Zc).beyond⟩:Zc):Zc)).bind λl_31=>some (.inr ((0:Int),l_31)))else(bif (decide (x_29.1≠(9:Int)))then(some (.inr (x_29.1,x_29.2)))else(some (.inl x_29.2))))).bind λo_21=>elS o_21 (λw_20=>(AC x_17 1).bind λx_36=>some (.inl (x_36,w_20))) (λq=>some (.inr (.inr q))))else(some (.inr (.inl w_18)))
def Dq(w0x:Zc)(ids0:Int):Option (Int×Zc):=
 (ZN (λs=>Br w0x s.1 s.2) ((0:Int),w0x)).bind λo_2=>elS o_2 (λw_1=>(ZN (λs=>Bq ids0 s.1 s.2) ((0:Int),w_1)).bind λo_16=>elS o_16 (λw_15=>some ((9:Int),w_15)) (λq=>some q)) (λq=>some q)
theorem K1{w0x:Zc}{ids0:Int}{b0:Nat}{r:(Int×Zc)} (H:Dq w0x ids0=some r):CO2 67 [⟨b0,True,One w0x⟩] (Pt b0 0) (D ids0) (λg:Unit=>D r.1) λg=>[⟨b0,True,One r.2⟩]:=eO2 Tryz.func67 rfl Tryz.ntmps67 λA w hA hO=>by
 unfold Dq at H;refine zC ?_;refine zC ?_;refine zh H λo_2 H2 H=>?_
 refine Zs (λs:Zc=>o_2=.inl s) (λ(w_1:Zc) (_:Unit)=>(TR (TR Xaj 0 (Pt b0 0)) 1 (D ids0))) (λ(w_1:Zc) (_:Unit)=>[⟨b0,True,(One w_1)⟩]) ?_ ?_
 .skip;refine Zr<|Zx H2 (λ⟨x_3,w_4⟩ (_:Unit)=>(TR (TR (TR (TR Xaj 0 (Pt b0 0)) 1 (D ids0)) 17 (D ((w0x.Vol.Chip.Blocks.length:Int):Int))) 18 (D x_3))) (λ⟨x_3,w_4⟩ (_:Unit)=>[⟨b0,True,(One w_4)⟩]) () (Za (Za (Za (Za (Ze _))))) (Zd rfl (Zf _)) ?_;rintro⟨x_3,w_4⟩ ⟨⟩ x_5 H5 he5;dsimp only at H5;unfold Br at H5;refine zg ?_;refine zc H5 (λhc H5=>?_) λhc H5=>?_
  .refine AH<|Az<|AI ?_;refine zh H5 λo_7 H7 H5=>?_
   refine Zs (λs:Zc=>o_7=.inl s) (λ(w_6:Zc) (_:Unit)=>(TR (TR (TR (TR Xaj 0 (Pt b0 0)) 1 (D ids0)) 17 (D ((w0x.Vol.Chip.Blocks.length:Int):Int))) 18 (D x_3))) (λ(w_6:Zc) (_:Unit)=>[⟨b0,True,(One w_6)⟩]) ?_ ?_
   .skip;refine zg ?_;refine zn H7 λ_ ex_8 H7=>?_
    refine D4 (oc2 [b0] (KV ex_8.h) id toD) rfl λ_=>?_
    refine zw ?_;refine zc H7 (λhc H7=>?_) λhc H7=>?_
    .refine zg ?_;exact Zl w_4 () (ZZs H7) (Za (Za (Za (Za (Ze _))))) (Zd rfl (Zf _))
    .refine zg ?_;refine zn H7 λx_10 ex_10 H7=>?_
     refine D4 (oc2 [b0] (D3 ex_10.h) id toD) rfl λ_=>?_
     refine zw ?_;refine zc H7 (λhc H7=>?_) λhc H7=>?_
     .refine zC ?_;refine ZO<|Zh<|Zw ?_;have R11:=AQ (ZZi H7) H5;refine Zi<|Zi<|Zh<|Zw ?_;have R12:=AQ (he5 _ (ZZs R11)) H;refine zg ?_;obtain rfl:=ZZi R12;exact ZG rfl () Cv.le (Zd rfl (Zf _))
     .refine zg ?_;exact Zl x_10.2 () (ZZs H7) (Za (Za (Za (Za (Ze _))))) (Zd rfl (Zf _))
   rintro w_6 ⟨⟩ hp;replace H5:=Bs hp H5;refine zg ?_;refine zb H5 λx_14 _ H5=>?_
   exact Zv ⟨x_14,w_6⟩ () (ZZs H5) (Za (Za (Za (Za (Ze _))))) (Zd rfl (Zf _))
  .refine zg ?_;exact Zl w_4 () (he5 _ (ZZs H5)).symm (Za (Za (Ze _))) (Zd rfl (Zf _))
 rintro w_1 ⟨⟩ hp;replace H:=Bs hp H;refine zC ?_;refine zh H λo_16 H16 H=>?_
 refine Zs (λs:Zc=>o_16=.inl s) (λ(w_15:Zc) (_:Unit)=>Xaj) (λ(w_15:Zc) (_:Unit)=>[⟨b0,True,(One w_15)⟩]) ?_ ?_
 .skip;refine Zr<|Zx H16 (λ⟨x_17,w_18⟩ (_:Unit)=>(TR (TR (TR Xaj 0 (Pt b0 0)) 1 (D ids0)) 36 (D x_17))) (λ⟨x_17,w_18⟩ (_:Unit)=>[⟨b0,True,(One w_18)⟩]) () (Za (Za (Za (Ze _)))) (Zd rfl (Zf _)) ?_;rintro⟨x_17,w_18⟩ ⟨⟩ x_19 H19 he19;dsimp only at H19;unfold Bq at H19;refine zg ?_;refine zc H19 (λhc H19=>?_) λhc H19=>?_
  .refine AH<|Az<|AI ?_;refine zh H19 λo_21 H21 H19=>?_
   refine Zs (λs:Zc=>o_21=.inl s) (λ(w_20:Zc) (_:Unit)=>(TR (TR (TR Xaj 0 (Pt b0 0)) 1 (D ids0)) 36 (D x_17))) (λ(w_20:Zc) (_:Unit)=>[⟨b0,True,(One w_20)⟩]) ?_ ?_
   .skip;refine zC ?_;refine Vc [0,0,1,0,0,2,3,1] [b0] mix (by kernel_rfl) (by kernel_rfl)<|Xdz E9 rfl<|Xdz E9 rfl ?_;refine zn H21 λx_22 ex_22 H21=>?_
    refine ZfA (λΩr g=>(oc2 [b0] (KZ ex_22.h) id toD)) rfl<|Xdz E9 rfl ?_;refine zn H21 λ_ eu_24 H21=>?_
    refine Xdz (OpY.makeSlice (Ea eu_24.h).1 (Ea eu_24.h).2.1 (Ea eu_24.h).2.2) rfl ?_;refine Pu (λg=>XeT (tB (⟨x_22,(Xac (Xaa ids0) (Dat.z:Int))⟩:AA) rfl rfl)) rfl<|TR2.a (YV (α:=AA)) rfl<|Zfz (λΩr g=>(ZD (y:=((⟨x_22,(Xac (Xaa ids0) (Dat.z:Int))⟩:AA):AA)) ZB)) rfl<|TR2.nil ?_;rintro⟨⟨⟨⟨_,_⟩,_⟩,b8_24⟩,_⟩;dsimp only[XaV,XaW,XaS,Xan,Xam];refine zn H21 λr_26 er_26 H21=>?_
    refine zX (ZF b8_24 (Ag er_26.h)) ?_;refine zb H21 λ_ _ H21=>?_
    refine zm H21 λ_ ex_28 H21=>?_
    refine zX (MC 58 rfl (λhg=>(Dj [b0] (Du ZB trivial (by simp)) Xfr λw v0 v1 hA h0 h1=>Bn w v0 v1 hA h0 (toD h1) (BM ex_28.h (nF hg.h)))) rfl) ?_;refine zc H21 (λhc H21=>?_) λhc H21=>?_
    .refine zg ?_;exact Zl w_18 () (ZZs H21) (Za (Za (Za (Ze _)))) (Zd rfl (Zf _))
    .refine zg ?_;refine zn H21 λx_29 ex_29 H21=>?_
     refine D4 (oc3 [b0] (Bi ex_29.h) id toD toD) rfl λ_=>?_
     refine zw ?_;refine zc H21 (λhc H21=>?_) λhc H21=>?_
     .refine zX (Bd [11,15,19] [b0] mix (by kernel_rfl) (by kernel_rfl)) ?_;refine zX (DP (λg=>(ZD (y:=(r_26.At:(List Int))) (PF 6 Vol (List Int) (PF 0 Zc Vol ZB)))) rfl) ?_;refine zX (DP (λg=>(ZD (y:=(r_26.Gen:UInt64)) (PF 7 Vol UInt64 (PF 0 Zc Vol ZB)))) rfl) ?_;refine DP (λg=>(ZD (y:=(x_17:Int)) (PF 8 Vol Int (PF 0 Zc Vol ZB)))) rfl ?_;refine zC ?_;rintro⟨⟨⟨_,_⟩,_⟩,_⟩;dsimp only[XaV,XaW,XaS,Xan,Xam];refine zn H21 λ_ el_31 H21=>?_
      refine ZF b0 (Ag el_31.h) ?_;refine zC ?_;refine ZO<|Zi<|Zh<|Zw ?_;have R31:=AQ (ZZi H21) H19;refine Zi<|Zi<|Zh<|Zw ?_;have R32:=AQ (he19 _ (ZZs R31)) H;refine zg ?_;obtain rfl:=ZZi R32;exact ZG rfl () Cv.le (Zd rfl (Zf _))
     .refine zg ?_;refine zc H21 (λhc H21=>?_) λhc H21=>?_
      .refine zC ?_;refine ZO<|Zh<|Zw ?_;have R33:=AQ (ZZi H21) H19;refine Zi<|Zi<|Zh<|Zw ?_;have R34:=AQ (he19 _ (ZZs R33)) H;refine zg ?_;obtain rfl:=ZZi R34;exact ZG rfl () Cv.le (Zd rfl (Zf _))
      .refine zg ?_;exact Zl x_29.2 () (ZZs H21) (Za (Za (Za (Ze _)))) (Zd rfl (Zf _))
   rintro w_20 ⟨⟩ hp;replace H19:=Bs hp H19;refine zg ?_;refine zb H19 λx_36 _ H19=>?_
   exact Zv ⟨x_36,w_20⟩ () (ZZs H19) (Za (Za (Za (Ze _)))) (Zd rfl (Zf _))
  .refine zg ?_;exact Zl w_18 () (he19 _ (ZZs H19)).symm (Ze _) (Zd rfl (Zf _))
 rintro w_15 ⟨⟩ hp;replace H:=Bs hp H;refine zg ?_;obtain rfl:=ZZi H;exact ZG rfl () Cv.le (Zd rfl (Zf _))
def F5(c0:Chip)(ids0:Int):Option (Vol×Int):=
 (FD c0).bind λx_3=>(gb (!((!x_3)||(decide (ids0<(1:Int))))) (G5 c0.Size)).bind λx_4=>bif (((!x_3)||(decide (ids0<(1:Int))))||(decide (ids0>x_4)))then((F4 c0).bind λx_5=>(some ((⟨x_5,[],0,0⟩:Vol):Vol)).bind λk_6=>some (k_6,(1:Int)))else(bif c0.Off then((F4 c0).bind λx_7=>(some ((⟨x_7,[],0,0⟩:Vol):Vol)).bind λk_8=>some (k_8,(7:Int)))else((F4 c0).bind λx_9=>(some ((⟨(⟨x_9,[],0,0⟩:Vol),false⟩:Zc):Zc)).bind λw_11=>(Dq w_11 ids0).bind λx_12=>bif (decide (x_12.1≠(0:Int)))then((some ((⟨x_12.2.Vol.Chip,[],0,0⟩:Vol):Vol)).bind λk_14=>some (k_14,x_12.1))else(some (x_12.2.Vol,(0:Int)))))
instance Y1:Fd2 23 F5 λr=>Tup [D r.1,D r.2]:=en2 Tryz.func23 rfl Tryz.ntmps23 λA w hA c0 ids0 r H=>by
 unfold F5 at H;refine zg ?_;refine Xa9 rfl λb2_0=>?_
 refine Xaq rfl λb4_1=>zg ?_
 refine zb H λ_ _ H=>?_
 refine zd H λ_ _ H=>?_
 refine zc H (λhc H=>?_) λhc H=>?_
 .refine zg ?_;refine zb H λx_5 _ H=>?_
  refine TSx (tB (⟨x_5,[],0,0⟩:Vol) rfl rfl) ?_;exact zY H
 .refine zg ?_;refine zc H (λhc H=>?_) λhc H=>?_
  .refine zg ?_;refine zb H λx_7 _ H=>?_
   refine TSx (tB (⟨x_7,[],0,0⟩:Vol) rfl rfl) ?_;exact zY H
  .refine zg ?_;refine zb H λx_9 _ H=>?_
   refine TSx (tB (⟨x_9,[],0,0⟩:Vol) rfl rfl) ?_;refine TSx (tB (⟨(⟨x_9,[],0,0⟩:Vol),false⟩:Zc) rfl rfl) ?_;refine Xa9 rfl λb34_9=>?_
   refine zC ?_;refine zn H λ_ ew_11 H=>?_
   refine zX (ZF b34_9 (Ag ew_11.h)) ?_;refine zn H λx_12 ex_12 H=>?_
   refine D4 (oc2 [b34_9] (K1 ex_12.h) id toD) rfl λ_=>?_
   refine zw ?_;refine zc H (λhc H=>?_) λhc H=>?_
   .refine zg ?_;refine TSx (tB (⟨x_12.2.Vol.Chip,[],0,0⟩:Vol) rfl rfl) ?_;exact zY H
   .exact zY H
def NW(bits0:Int):Option Bool:=
 some ((decide (bits0=(32:Int)))||(decide (bits0=(128:Int))))
instance ZeB:Fd1 109 NW λr=>D r:=en1 Tryz.func109 rfl Tryz.ntmps109 λ_ _ _ _ _ H=>by
 unfold NW at H;exact zY H
def JY(k0:(Vec UInt8 16))(n0:Int):Option (Vec UInt8 16):=
 bif (decide (n0>=(128:Int)))then(some k0)else(bif (decide (n0<(1:Int)))then(some (Dat.z:(Vec UInt8 16)))else((JB n0 8).bind λx_4=>(cut 16 0 x_4).bind λu_5=>(cut 16 0 x_4).bind λu_6=>(some ((Vec.put (Dat.z:(Vec UInt8 16)) (Xaa 0) (over (((Dat.z:(Vec UInt8 16)).l.drop (Xaa 0)).take ((x_4-0).toNat)) ((k0.l.drop (Xaa 0)).take ((x_4-0).toNat)))):(Vec UInt8 16))).bind λcx_7=>((RM n0 8).bind λx_10=>bif (decide (x_10>(0:Int)))then((idx k0.l x_4).bind λx_11=>(cnt x_10).bind λn_12=>(idx cx_7.l x_4).bind λx_13=>(some ((Xd6 cx_7 (Xaa x_4) (x_11 &&& ~~~(shr8 (XaN 255) x_10))):(Vec UInt8 16))).bind λcx_14=>some cx_14)else(some cx_7)).bind λcx_8=>some cx_8))
instance Zfa:Fd2 34 JY λr=>D r:=en2 Tryz.func34 rfl Tryz.ntmps34 λA w hA k0 n0 r H=>by
 unfold JY at H;refine zg ?_;refine Xa9 rfl λb2_0=>?_
 refine Xaq rfl λb4_1=>zg ?_
 refine zc H (λhc H=>?_) λhc H=>?_
 .exact zY H
 .refine zg ?_;refine Xaq rfl λb5_2=>zg ?_
  refine zc H (λhc H=>?_) λhc H=>?_
  .exact zY H
  .refine zg ?_;refine zo H λx_4 _ H=>?_
   refine zC ?_;refine zX (Bd [4] [b2_0,b5_2] mix (by kernel_rfl) (by kernel_rfl)) ?_;refine zn H λ_ eu_5 H=>?_
   refine zX (Fd (DR (ZX eu_5.h).1 (ZX eu_5.h).2.1 (ZX eu_5.h).2.2 (by decide)) rfl) ?_;refine zn H λ_ eu_6 H=>?_
   refine TRx (DR (ZX eu_6.h).1 (ZX eu_6.h).2.1 (ZX eu_6.h).2.2 (by decide))<|GT (λg=>(Dk (ys:=((k0.l.drop (Xaa 0)).take ((x_4-0).toNat))) (Mq (Kg ZB (Jy eu_6.h) (by decide)) (Ip eu_6.h (Vec.h _))) (Kg ZB (Jy eu_5.h) (by decide)) (Ip eu_5.h (Vec.h _)) (λ_ h=>by simp[h,splice,FH]))) rfl ?_;refine zC ?_;rintro⟨_,_⟩;dsimp only[XaV,XaW,XaS,Xan,Xam];refine zn H λcx_7 ecx_7 H=>?_
   refine ZF b5_2 (Ag ecx_7.h)<|AI ?_;refine zh H λo_9 H9 H=>?_
   refine Zs (λs:(Vec UInt8 16)=>o_9=s) (λ(cx_8:(Vec UInt8 16)) (_:Unit)=>(TR (TR Xaj 4 (Pt b4_1 0)) 5 (Pt b5_2 0))) (λ(cx_8:(Vec UInt8 16)) (_:Unit)=>[⟨b4_1,True,(One ((Dat.z:(Vec UInt8 16)):(Vec UInt8 16)))⟩,⟨b5_2,True,(One cx_8)⟩]) ?_ ?_
   .skip;refine zg ?_;refine zb H9 λx_10 _ H9=>?_
    refine zc H9 (λhc H9=>?_) λhc H9=>?_
    .refine zX (Gf [8] [b5_2] mix (by kernel_rfl) (by kernel_rfl)) ?_;refine zn H9 λx_11 ex_11 H9=>?_
     refine TRx (Ao (ZP ex_11.h (Vec.h _).symm)) ?_;refine zX (Fd (AL (E7 (α:=UInt8) ZB ex_11.h)) rfl) ?_;refine zn H9 λ_ en_12 H9=>?_
     refine TRx (OpD.shr8 (U2 en_12.h).1)<|TRx T6 ?_;refine zn H9 λ_ ex_13 H9=>?_
     refine TRx (Ao (ZP ex_13.h (Vec.h _).symm))<|DP (λg=>(ZD (y:=((x_11 &&& ~~~(shr8 (XaN 255) x_10)):UInt8)) (E7 (α:=UInt8) ZB ex_13.h))) rfl ?_;refine zC ?_;rintro⟨_,_⟩;dsimp only[XaV,XaW,XaS,Xan,Xam];refine zn H9 λcx_14 ecx_14 H9=>?_
     exact Ai b5_2 (Ag ecx_14.h)<|Zl cx_14 () (ZZs H9) (Za (Za (Ze _))) (Zd rfl (Zd rfl (Zf _)))
    .refine zg ?_;exact Zl cx_7 () (ZZs H9) (Za (Za (Ze _))) (Zd rfl (Zd rfl (Zf _)))
   rintro cx_8 ⟨⟩ hp;replace hp:=hp.symm;subst hp;exact zY H
def Ik(p0:Prefix):Option Bool:=
 (NW p0.Bits).bind λx_2=>bif (((!x_2)||(decide (p0.Len<(0:Int))))||(decide (p0.Len>p0.Bits)))then(some false)else((JY p0.Key p0.Len).bind λx_3=>some (decide (x_3=p0.Key)))
instance Ze9:Fd1 60 Ik λr=>D r:=en1 Tryz.func60 rfl Tryz.ntmps60 λA w hA p0 r H=>by
 unfold Ik at H;refine zg ?_;refine Xa9 rfl λb1_0=>zg ?_
 refine zb H λ_ _ H=>?_
 refine zc H (λhc H=>?_) λhc H=>?_
 .exact zY H
 .refine zg ?_;refine zb H λ_ _ H=>?_
  refine TRx (O6 Vo (by decide) YQ rfl) ?_;exact zY H
def E4(a0:(List UInt8))(b0:(List UInt8)):Option Int:=
 some (Dr a0 b0)
instance X1:Fd2 110 E4 λr=>D r:=en2 Tryz.func110 rfl Tryz.ntmps110 λA w hA a0 b0 r H=>by
 unfold E4 at H;refine zg ?_;refine TSx OpY.cmp ?_;exact zY H
def KC(p0:Prefix)(q0:Prefix):Option Bool:=
 (Ik p0).bind λx_3=>(gb (!(!x_3)) (Ik q0)).bind λx_4=>bif ((!x_3)||(!x_4))then(some false)else(bif (decide (p0.Bits≠q0.Bits))then(some (decide (p0.Bits=(32:Int))))else((cut 16 0 (16:Int)).bind λu_5=>(cut 16 0 (16:Int)).bind λu_6=>(E4 ((p0.Key.l.drop (Xaa 0)).take (((16:Int)-0).toNat)) ((q0.Key.l.drop (Xaa 0)).take (((16:Int)-0).toNat))).bind λx_7=>bif (decide (x_7≠(0:Int)))then(some (decide (x_7<(0:Int))))else(some (decide (p0.Len<q0.Len)))))
instance ZeD:Fd2 61 KC λr=>D r:=en2 Tryz.func61 rfl Tryz.ntmps61 λA w hA p0 q0 r H=>by
 unfold KC at H;refine zg ?_;refine Xa9 rfl λb2_0=>?_
 refine Xa9 rfl λb3_1=>zg ?_
 refine zb H λ_ _ H=>?_
 refine zd H λ_ _ H=>?_
 refine zc H (λhc H=>?_) λhc H=>?_
 .exact zY H
 .refine zg ?_;refine zc H (λhc H=>?_) λhc H=>?_
  .exact zY H
  .refine zg ?_;refine zn H λ_ eu_5 H=>?_
   refine zX (Fd (DR (ZX eu_5.h).1 (ZX eu_5.h).2.1 (ZX eu_5.h).2.2 (by decide)) rfl) ?_;refine zn H λ_ eu_6 H=>?_
   refine TRx (DR (ZX eu_6.h).1 (ZX eu_6.h).2.1 (ZX eu_6.h).2.2 (by decide)) ?_;refine zn H λ_ ex_7 H=>?_
   refine TRx (Dj [b2_0,b3_1] (Kp (Kg (PF 2 Prefix (Vec UInt8 16) ZB) (Jy eu_5.h) (by decide)) (Ip eu_5.h (Vec.h _)) (by simp)) (Kp (Kg (PF 2 Prefix (Vec UInt8 16) ZB) (Jy eu_6.h) (by decide)) (Ip eu_6.h (Vec.h _)) (by simp)) λw v0 v1 hA h0 h1=>X1.h w v0 v1 hA (toD h0) (toD h1) ex_7.h) ?_;exact zY H
def D9(t0:(List Route))(x_2:Int):Option (Int⊕(Unit⊕Bool)):=
 bif (decide (x_2<(t0.length:Int)))then((idx t0 x_2).bind λx_4=>(Ik x_4.Prefix).bind λx_6=>bif (!x_6)then(some (.inr (.inr false)))else((gb (decide (x_2>(0:Int))) (GG x_2 1)).bind λx_8=>(gb (decide (x_2>(0:Int))) (idx t0 x_8)).bind λx_9=>(gb (decide (x_2>(0:Int))) (KC x_9.Prefix x_4.Prefix)).bind λx_10=>bif ((decide (x_2>(0:Int)))&&(!x_10))then(some (.inr (.inr false)))else((AC x_2 1).bind λx_12=>some (.inl x_12))))else(some (.inr (.inl ())))
def CK(t0:(List Route)):Option Bool:=
 bif (decide ((t0.length:Int)>(256:Int)))then(some false)else((ZN (λs=>D9 t0 s) (0:Int)).bind λo_1=>elS o_1 (λ_=>some true) (λq=>some q))
instance Zaj:Fd1 18 CK λr=>D r:=en1 Tryz.func18 rfl Tryz.ntmps18 λA w hA t0 r H=>by
 unfold CK at H;refine zg ?_;refine zc H (λhc H=>?_) λhc H=>?_
 .exact zY H
 .refine zC ?_;refine zh H λo_1 H1 H=>?_
  refine Zs (λs:Unit=>o_1=.inl s) (λ(_:Unit) (_:Unit)=>Xaj) (λ(_:Unit) (_:Unit)=>[]) ?_ ?_
  .skip;refine Zr<|Zx H1 (λ(x_2:Int) (_:Unit)=>(TR (TR (TR (TR Xaj 0 (D t0)) 8 (D t0)) 9 (D ((t0.length:Int):Int))) 10 (D x_2))) (λ(x_2:Int) (_:Unit)=>[]) () (Za (Za (Za (Za (Ze _))))) (Zf _) ?_;rintro x_2 ⟨⟩ x_3 H3 he3;unfold D9 at H3;refine zg ?_;refine zc H3 (λhc H3=>?_) λhc H3=>?_
   .refine zg ?_;refine zb H3 λ_ _ H3=>?_
    refine Xaq rfl λb4_4=>zg ?_
    refine zb H3 λ_ _ H3=>?_
    refine zc H3 (λhc H3=>?_) λhc H3=>?_
    .refine zC ?_;refine ZO<|Zi<|Zh<|Zi<|Zi<|Zh<|Zw ?_;have R6:=AQ (he3 _ (ZZs H3)) H;refine zg ?_;obtain rfl:=ZZi R6;exact Bc rfl Cv.le
    .refine zg ?_;refine zd H3 λ_ _ H3=>?_
     refine zd H3 λ_ _ H3=>?_
     refine zd H3 λ_ _ H3=>?_
     refine zc H3 (λhc H3=>?_) λhc H3=>?_
     .refine zC ?_;refine ZO<|Zh<|Zi<|Zi<|Zh<|Zw ?_;have R10:=AQ (he3 _ (ZZs H3)) H;refine zg ?_;obtain rfl:=ZZi R10;exact Bc rfl Cv.le
     .refine zg ?_;refine zb H3 λx_12 _ H3=>?_
      exact Zv x_12 () (ZZs H3) (Za (Za (Za (Za (Ze _))))) (Zf _)
   .refine zg ?_;exact Zl () () (he3 _ (ZZs H3)).symm (Ze _) (Zf _)
  rintro⟨⟩ ⟨⟩ hp;replace H:=Bs hp H;exact zY H
def ZY(s0:(List Route)):Option (List Route):=
 (Dv 40 ((0+s0.length:Nat):Int)).bind λ_=>some s0
theorem Ew{s0:(List Route)}{r:(List Route)} (H:ZY s0=some r):CO1 46 [] (D s0) (λg:Nat×Prop×Nat=>Sl g.1 g.2.1 0 (Xat r) g.2.2) λg=>[⟨g.1,g.2.1,Row (r:List Route) g.2.2⟩]:=eO1 Tryz.func46 rfl Tryz.ntmps46 λA w hA hO=>by
 unfold ZY at H;refine zn H λ_ eu H=>?_
 obtain rfl:=ZZi H;refine zg ?_;refine TSx BO ?_;refine zC ?_;refine GA (λhc=>?_) (λhc=>?_)
 .obtain rfl:=hc rfl;refine zg ?_;exact ZG rfl ⟨0,False,0⟩ Dt (BD (Zf _))
 .refine zg ?_;refine XeE [] rfl rfl (by decide) rfl λb=>zg ?_
  refine Xdt (ys:=s0) inferInstance eu.h rfl rfl rfl λb1 p1 c1=>zg ?_
  exact ZG rfl ⟨b1,p1,c1⟩ (ZH (by simp)) (Zd rfl (Zf _))
instance PG:Fd1 46 ZY λr=>D r:=⟨λw v0 hA h0 H=>(on1 (Ew H) w v0 hA h0).mono λe w' h=>IQ hA h⟩
def DV(i0:Int)(cap1:(List Route))(cap2:Prefix):Option Bool:=
 (idx cap1 i0).bind λx_1=>(KC x_1.Prefix cap2).bind λx_2=>some (!x_2)
theorem Oi{A:Nat->Prop}{i0:Int}{cap1:(List Route)}{cap2:Prefix}  {r:Bool} (w:World) (v0 v1 v2:Value) (hA:∀k,w.heap.size<=k->A k)  (h0:(D i0).p A w v0) (h1:(K3 cap1).p A w v1) (h2:(K3 cap2).p A w v2) (H:DV i0 cap1 cap2=some r) :
    Calls Tryz.prog 128 #[v0,v1,v2] w (Ret A w (D r)):=by
 unfold DV at H;refine ZcK hA Tryz.func128 rfl Tryz.ntmps128 rfl h0 h1 h2 ?_;exact zY H
def Ic(f0:(F1 Tryz.prog Int Bool))(i_3:Int)(j_4:Int):Option ((Int×Int)⊕Int):=
 bif (decide (i_3<j_4))then((AC i_3 j_4).bind λx_6=>(Ky ((shr64 (Xcp x_6) ((Xap 1).toNat:Int)).toNat:Int)).bind λx_7=>((f0).f x_7).bind λx_8=>bif (!x_8)then((AC x_7 1).bind λx_9=>some (.inl (x_9,j_4)))else(some (.inl (i_3,x_7))))else(some (.inr i_3))
def G3(n0:Int)(f0:(F1 Tryz.prog Int Bool)):Option Int:=
 (ZN (λs=>Ic f0 s.1 s.2) ((0:Int),n0)).bind λi_1=>some i_1
instance Zar:Fd2 127 G3 λr=>D r:=en2 Tryz.func127 rfl Tryz.ntmps127 λA w hA n0 f0 r H=>by
 unfold G3 at H;refine zC ?_;refine zC ?_;refine AI ?_;refine zh H λo_2 H2 H=>?_
 refine Zs (λs:Int=>o_2=s) (λ(i_1:Int) (_:Unit)=>(TR Xaj 5 (D i_1))) (λ(i_1:Int) (_:Unit)=>[]) ?_ ?_
 .skip;refine Zr<|Zx H2 (λ⟨i_3,j_4⟩ (_:Unit)=>(TR (TR (TR Xaj 1 (D f0)) 5 (D i_3)) 6 (D j_4))) (λ⟨i_3,j_4⟩ (_:Unit)=>[]) () (Za (Za (Za (Ze _)))) (Zf _) ?_;rintro⟨i_3,j_4⟩ ⟨⟩ x_5 H5 he5;dsimp only at H5;unfold Ic at H5;refine zg ?_;refine zc H5 (λhc H5=>?_) λhc H5=>?_
  .refine zg ?_;refine zb H5 λ_ _ H5=>?_
   refine TSx Kj<|TSx (OpD.shr64 (XcM _)) ?_;refine zn H5 λx_7 ex_7 H5=>?_
   refine zX (A4 (Ny ex_7.h) rfl) ?_;refine zn H5 λ_ ex_8 H5=>?_
   refine zX (A4 (M9 ex_8.h) rfl) ?_;refine zc H5 (λhc H5=>?_) λhc H5=>?_
   .refine zg ?_;refine zb H5 λx_9 _ H5=>?_
    exact Zv ⟨x_9,j_4⟩ () (ZZs H5) (Za (Za (Za (Ze _)))) (Zf _)
   .refine zg ?_;exact Zv ⟨i_3,x_7⟩ () (ZZs H5) (Za (Za (Za (Ze _)))) (Zf _)
  .refine zg ?_;exact Zl i_3 () (he5 _ (ZZs H5)).symm (Za (Ze _)) (Zf _)
 rintro i_1 ⟨⟩ hp;replace hp:=hp.symm;subst hp;exact zY H
def Fo(t0:(List Route))(p0:Prefix):Option (Int×Bool):=
 (G3 (t0.length:Int) (⟨λx0=>DV x0 t0 p0⟩:(F1 Tryz.prog Int Bool))).bind λx_3=>(gb (decide (x_3<(t0.length:Int))) (idx t0 x_3)).bind λx_4=>some (x_3,((decide (x_3<(t0.length:Int)))&&(decide (x_4.Prefix=p0))))
instance Zah:Fd2 79 Fo λr=>Tup [D r.1,D r.2]:=en2 Tryz.func79 rfl Tryz.ntmps79 λA w hA t0 p0 r H=>by
 unfold Fo at H;refine zg ?_;refine Xa9 rfl λb2_0=>?_
 refine Xa9 rfl λb3_1=>zg ?_
 refine Xen b2_0 (XbM 2 (O1 ZB) Xb2) ?_;refine Xen b3_1 (XbM 3 (O1 ZB) Xb2) ?_;refine TSx (Ys λw v0 v1 v2 hA h0 h1 h2 e=>Oi w v0 v1 v2 hA h0 h1 h2 e) ?_;refine zb H λ_ _ H=>?_
 refine zd H λ_ _ H=>?_
 refine Yg 16 rfl (λhg=>(O6 Zc4 (by decide) ZfO rfl)) rfl ?_;exact zY H
def BL(s0:(List Route))(i0:Int)(j0:Int):Option (List Route):=
 (cut s0.length i0 j0).bind λ_=>some (s0.take (Xaa i0)++s0.drop (Xaa j0))
theorem Ig{A:Nat->Prop}{s0:(List Route)}{i0:Int}{j0:Int}{b0 c0:Nat}{p0:Prop}{r:(List Route)} (w:World) (v0 v1 v2:Value) (hA:∀k,w.heap.size<=k->A k) (hO:OwnIn A [⟨b0,p0,Row (s0:List Route) c0⟩]) (hap:Gh [⟨b0,p0,Row (s0:List Route) c0⟩]) (hks:Pks (Pub A [⟨b0,p0,Row (s0:List Route) c0⟩]) [⟨b0,p0,Row (s0:List Route) c0⟩] w) (h0:(Sl b0 p0 0 s0.length c0).p (Pub A [⟨b0,p0,Row (s0:List Route) c0⟩]) w v0) (h1:(D i0).p (Pub A [⟨b0,p0,Row (s0:List Route) c0⟩]) w v1) (h2:(D j0).p (Pub A [⟨b0,p0,Row (s0:List Route) c0⟩]) w v2) (H:BL s0 i0 j0=some r) :
    Calls Tryz.prog 94 #[v0,v1,v2] w (M7 A w [⟨b0,p0,Row (s0:List Route) c0⟩] (λg:Nat×Prop×Nat=>Sl g.1 g.2.1 0 (Xat r) g.2.2) λg=>[⟨g.1,g.2.1,Row (r:List Route) g.2.2⟩]):=by
 unfold BL at H;refine Tw hA hap hks Tryz.func94 rfl Tryz.ntmps94 rfl h0 h1 h2 ?_;refine zn H λ_ eu_1 H=>?_
 obtain rfl:=ZZi H;have e0:=ZX eu_1.h;refine zg ?_;refine TSx (AK (n:=s0.length) rfl) ?_;refine zX (A4 (SC (u:=()) (v:=()) (ZcN (by omega) (by omega) (by simp;omega)) (ZcN (by omega) (by omega) (by omega))) rfl) ?_;refine Hu (λhc=>?_) (λhc=>?_)
 .obtain rfl:i0=j0:=by simpa using hc
  refine zg ?_;rw[List.take_append_drop];exact ZG rfl ⟨b0,p0,c0⟩ (ZH rfl) (Zd rfl (Zf _))
 .have hne:i0≠j0:=by simpa using hc
  have hp:p0:=by
    rcases h0 with⟨h,-⟩|⟨-,h,-⟩
    · exact h
    · exfalso;omega
  have hz:(s0.drop (Xaa j0)).length=s0.length-Xaa j0:=List.length_drop ..;refine zg ?_;refine TSx (AK (n:=s0.length) rfl) ?_;refine zC ?_;refine zX (Bd [6,7] [b0] mix (by kernel_rfl) (by kernel_rfl)) ?_;refine zX (Fd (E8 (by omega) (by omega)) rfl) ?_;refine TRx (AZ (by omega) (by omega))<|GT (λg=>SP (ys:=s0.drop (Xaa j0)) (Mq (O2 (by omega)) (by rw[hz];omega)) hp rfl (by omega)) rfl<|GT (λg=>HA rfl FM) rfl ?_;refine zC ?_;rintro⟨⟨_,_⟩,_⟩;dsimp only[XaV,XaW,XaS,Xan,Xam];refine zg ?_;refine zX (A4 (AK (n:=Xaa i0+(s0.drop (Xaa j0)).length) rfl) rfl) ?_;have hsl:(splice s0 (Xaa i0) (s0.drop (Xaa j0))).length=s0.length:=by simp[splice];omega
  refine TSx (O5 (xs:=splice s0 (Xaa i0) (s0.drop (Xaa j0))) hp (by omega) (by omega) (by omega))<|Bk (T7 (xs:=((splice s0 (Xaa i0) (s0.drop (Xaa j0))).drop (Xaa ((Xaa i0+(s0.drop (Xaa j0)).length:Nat):Int))).take ((s0.length:Int)-((Xaa i0+(s0.drop (Xaa j0)).length:Nat):Int)).toNat) (HU (by omega)) (by simp[hsl];omega) (λ_ h=>by simp[h,splice])) ?_;refine zC ?_;refine zC ?_;refine ZO ?_;have hk:Xaa i0<=s0.length:=by omega
  refine ZG rfl ⟨b0,p0,c0⟩ (ZH (by simp;omega)) (LE (Xaa i0+(s0.drop (Xaa j0)).length) (by simp[splice];omega) ?_ (Zf _));exact Zbl hk rfl
theorem NO{α:Type}{a b ys:List α}{m:Nat} (hm:m=b.length) (hy:ys.length<=b.length):splice (a++b) a.length (over (((a++b).drop a.length).take m) ys)=a++(ys++b.drop ys.length):=by
 subst hm;have e1:((a++b).drop a.length).take b.length=b:=by simp
 rw[e1];have e2:over b ys=ys++b.drop ys.length:=by unfold over;rw[List.take_of_length_le hy]
 rw[e2];unfold splice;have e3:(ys++b.drop ys.length).length=b.length:=by simp;omega
 have e4:(a++b).drop (a.length+b.length)=[]:=Xa7 (by simp);rw[e3,List.take_left,e4,XaX]
theorem WW{α:Type}{s:List α}{k:Nat}{z:α}{m:Nat} (hk:k<s.length) (hm:m=s.length+1-k):splice (splice s (k+1) (s.drop k)) k (over (((splice s (k+1) (s.drop k)).drop k).take m) [z])=s.take k++[z]++s.drop k:=by
 have e0:splice s (k+1) (s.drop k)=s.take k++(s[k]::s.drop k):=by
   have e8:s.drop (k+1+(s.drop k).length)=[]:=Xa7 (by simp;omega);unfold splice;rw[e8,XaX,List.take_succ_eq_append_getElem hk,XaM];rfl
 rw[e0];have e1:(s.take k).length=k:=by simp;omega
 have:=NO (a:=s.take k) (b:=s[k]::s.drop k) (ys:=[z]) (m:=m) (by simp;omega) (by simp);rw[e1]at this;rw[this];simp
theorem Zaq{α:Type}{s:List α}{k q m m':Nat}{z d:α} (hk:k<s.length) (hq:q=s.length+1-k) (hm:m=s.length+1-k) (hm':m'=s.length-k) :
    splice (splice (s.take k++Xac q d) k (over (((s.take k++Xac q d).drop k).take m) [z])) (k+1) (over (((splice (s.take k++Xac q d) k (over (((s.take k++Xac q d).drop k).take m) [z])).drop (k+1)).take m') (s.drop k))=s.take k++[z]++s.drop k:=by
 have e1:(s.take k).length=k:=by simp;omega
 have h1:=NO (a:=s.take k) (b:=Xac q d) (ys:=[z]) (m:=m) (by simp;omega) (by simp;omega);rw[e1]at h1;rw[h1];have e2:(s.take k++[z]).length=k+1:=by simp;omega
 have h2:=NO (a:=s.take k++[z]) (b:=(Xac q d).drop 1) (ys:=s.drop k) (m:=m') (by simp;omega) (by simp;omega);rw[e2,XaM]at h2;have e3:([z]:List α).length=1:=rfl;have e5:((Xac q d).drop 1).drop (s.drop k).length=[]:=Xa7 (by simp;omega);rw[e3,h2,e5,XaX]
def BK(s0:List Route)(i0:Int)(v0x:List Route):Option (List Route):=
 (cut s0.length i0 s0.length).bind λ_=>(Tk v0x.length 1).bind λ_=>(Dv 40 ((s0.length+v0x.length:Nat):Int)).bind λ_=>some (s0.take (Xaa i0)++v0x++s0.drop (Xaa i0))
theorem Ie{A:Nat->Prop}{s0:List Route}{i0:Int}{z:Route}{b0 c0:Nat}{p0:Prop}{r:List Route} (w:World) (v0 v1 v2:Value) (hA:∀k,w.heap.size<=k->A k) (hO:OwnIn A [⟨b0,p0,Row (s0:List Route) c0⟩]) (hap:Gh [⟨b0,p0,Row (s0:List Route) c0⟩]) (hks:Pks (Pub A [⟨b0,p0,Row (s0:List Route) c0⟩]) [⟨b0,p0,Row (s0:List Route) c0⟩] w)
    (h0:(Sl b0 p0 0 s0.length c0).p (Pub A [⟨b0,p0,Row (s0:List Route) c0⟩]) w v0) (h1:(D i0).p (Pub A [⟨b0,p0,Row (s0:List Route) c0⟩]) w v1) (h2:(D ([z]:List Route)).p (Pub A [⟨b0,p0,Row (s0:List Route) c0⟩]) w v2) (hraw:Zf0 w v2) (H:BK s0 i0 [z]=some r) :
    Calls Tryz.prog 95 #[v0,v1,v2] w (M7 A w [⟨b0,p0,Row (s0:List Route) c0⟩] (λg:Nat×Prop×Nat=>Sl g.1 g.2.1 0 (Xat r) g.2.2) λg=>[⟨g.1,g.2.1,Row (r:List Route) g.2.2⟩]):=by
 unfold BK at H;refine zn H λ_ eu_1 H=>?_
 refine zn H λ_ _ H=>?_
 refine zn H λ_ eu_3 H=>?_
 obtain rfl:=ZZi H;have e0:=ZX eu_1.h;have e3:=(A6 eu_3.h).2.2;have e4:=(A6 eu_3.h).2.1;simp only[XaP,XdB]at e3 e4;obtain⟨k,rfl⟩:=Int.eq_ofNat_of_zero_le e0.1;simp only[Xak];have hk0:k<=s0.length:=by omega
 have hS:∀q l c,v2=.slice (some ⟨q,0,none⟩) l c->¬Own [⟨b0,p0,Row (s0:List Route) c0⟩] q:=λq l c hv ho=>by
   obtain⟨ad,cc,q1,q2,q3,q4,q5⟩:=NM rfl h2;obtain⟨b,off,q6,q7,_⟩:=q5 0 (by simp);rw[hv]at q1;injection q1 with q1;injection q1 with q8;rw[q6]at q8;injection q8 with q8;injection q8 with q8;exact(ZC.1 q7).2 (q8▸ho)
 have hx2:(ExD v2 ([z]:List Route)).p (Pub A [⟨b0,p0,Row (s0:List Route) c0⟩]) w v2:=⟨rfl,h2⟩;have hadd:AC (s0.length:Int) ((([z]:List Route).length:Nat):Int)=some ((s0.length+1:Nat):Int):=by
   unfold AC Ky;simp only[XaP,XdB];rw[if_pos (by omega)];congr 1
 have hadk:AC ((k:Nat):Int) ((([z]:List Route).length:Nat):Int)=some ((k+1:Nat):Int):=by
   unfold AC Ky;simp only[XaP,XdB];rw[if_pos (by omega)];congr 1
 refine zX (Tw hA hap hks Tryz.func95 rfl Tryz.ntmps95 rfl h0 h1 hx2) ?_;refine zX (A4 (AZ (by omega) (by omega)) rfl) ?_;refine Hu (λhc=>?_) (λhc=>?_)
 .exact absurd hc (by simp)
 .refine zg ?_;refine zX (A4 (AK (n:=s0.length) rfl) rfl) ?_;refine Hu (λhc2=>?_) (λhc2=>?_)
  .have hkn:k=s0.length:=by have:=of_decide_eq_true hc2;omega
   refine zg ?_;refine Xdt (ys:=[z]) inferInstance eu_3.h rfl rfl rfl λb1 p1 c1=>zg ?_
   have hr:s0.take k++[z]++s0.drop k=s0++[z]:=by rw[hkn];simp
   rw[hr];exact ZG rfl ⟨b1,p1,c1⟩ (ZH rfl) (Zd rfl (Zf _))
  .have hkn:k<s0.length:=by
     have:¬((k:Nat):Int)=(s0.length:Int):=by simpa using hc2
     omega
   have hp:p0:=by
     rcases h0 with⟨h,-⟩|⟨-,h,-⟩
     · exact h
     · exfalso;omega
   refine zg ?_;refine zX (A4 (HB hadd) rfl) ?_;refine zX (A4 Yx rfl) ?_;refine Hu (λhc3=>?_) (λhc3=>?_)
   .have hcap:c0<s0.length+1:=by
      have:=of_decide_eq_true hc3;omega
    have hsub:GG ((s0.length+1:Nat):Int) ((k:Nat):Int)=some ((s0.length+1-k:Nat):Int):=by
      unfold GG Ky;rw[if_pos (by omega)];exact congrArg some (by omega)
    refine zg ?_;refine zX (A4 (E8 (by omega) (by omega)) rfl) ?_;refine zX (A4 (HB hadd) rfl) ?_;refine TSx (OpD.sub hsub) ?_;refine D4 (Zb2 (xs:=s0) hp (by simp only[Xak];omega) (by omega) (by simp only[Xak];omega) (by simp only[Xak];omega) (by simp only[Xak];omega)) rfl λ⟨b1,c1⟩=>?_
    refine zC ?_;simp only[Xak];have hL:(s0.take k++Xac (s0.length+1-k) (Dat.z:Route)).length=s0.length+1:=by simp;omega
    refine zg ?_;refine zX (A4 (AZ (by omega) (by omega)) rfl) ?_;refine ZfX (Dk (ys:=[z]) inferInstance (HU (k:=k) (n:=s0.length+1-k) (by omega)) (by simp<;>omega) (λ_ h=>by simp[h,splice])) rfl ?_;refine zC ?_;generalize hX:splice (s0.take k++Xac (s0.length+1-k) (Dat.z:Route)) k (over (((s0.take k++Xac (s0.length+1-k) (Dat.z:Route)).drop k).take (s0.length+1-k)) [z])=X;have hXl:X.length=s0.length+1:=by
      rw[<-hX];have e1:(s0.take k).length=k:=by simp;omega
      have h1:=NO (a:=s0.take k) (b:=Xac (s0.length+1-k) (Dat.z:Route)) (ys:=[z]) (m:=s0.length+1-k) (by simp) (by simp;omega);rw[e1]at h1;rw[h1];simp;omega
    refine zX (Bd [8] [b1] mix (by kernel_rfl) (by kernel_rfl)) ?_;refine TRx (HB hadk) ?_;refine zX (Fd (AZ (by omega) (by omega)) rfl) ?_;refine TRx (AZ (by omega) (by omega))<|GT (λg=>Dk (ys:=s0.drop k) (Mq (O2 (by omega)) (by simp<;>omega)) (HU (k:=k+1) (n:=s0.length-k) (by omega)) (by simp<;>omega) (λ_ h=>by simp[h,splice])) rfl ?_;refine zC ?_;rintro⟨_,_⟩;dsimp only[XaV,XaW,XaS,Xan,Xam];refine zg ?_;have hfin:=Zaq (s:=s0) (k:=k) (z:=z) (d:=(Dat.z:Route)) hkn rfl rfl rfl;rw[hX]at hfin;exact ZG rfl ⟨b1,True,c1⟩ (ZH (by rw[hL];simp;omega)) (Zd (by rw[hfin]) (Zf _))
   .have hcap:s0.length+1<=c0:=by
      have:¬((s0.length+1:Nat):Int)>((c0:Nat):Int):=of_decide_eq_false hc3;omega
    refine zg ?_;refine TSx (HB hadd) ?_;refine zX (A4 (T0 (by omega) (by omega)) rfl) ?_;refine TSx (HB hadk)<|TSx (AZ (by omega) (by omega)) ?_;refine zX (Zfy hp hraw hS (λA w cs h=>by have:=h.1;have h2:Dat.sz Route=19:=rfl;rw[this,h2];omega) rfl (by omega)) ?_;refine Hu (λhc4=>?_) (λhc4=>?_)
    .refine zX (Bd [8] [b0] mix (by kernel_rfl) (by kernel_rfl)) ?_;refine TRx (HB hadk) ?_;refine zX (Fd (AZ (by omega) (by omega)) rfl) ?_;refine TRx (AZ (by omega) (by omega))<|GT (λg=>Rl (xs:=s0) (k:=k) (by simp) (by simp) hkn (by omega) (by omega) hcap (by unfold LG;omega)) rfl ?_;refine zC ?_;rintro⟨_,_⟩;dsimp only[XaV,XaW,XaS,Xan,Xam];have hXl:(splice s0 (k+1) (s0.drop k)).length=s0.length+1:=by simp[splice];omega
     refine zg ?_;refine zX (A4 (AZ (by omega) (by omega)) rfl) ?_;refine zX (ZfX (Dk (ys:=[z]) inferInstance (HU (k:=k) (n:=s0.length+1-k) (by omega)) (by simp<;>omega) (λ_ h=>by simp[h,splice])) rfl) ?_;exact ZG rfl ⟨b0,p0,c0⟩ (ZH (by simp;omega)) (Zd (by rw[WW hkn rfl]) (Zf _))
    .exact absurd hc4 (by simp)
def FV(t0:(List Route))(c0x:BA):Option ((List Route)×Int):=
 (Ik c0x.Route.Prefix).bind λx_2=>bif (!x_2)then(some (t0,(1:Int)))else((Fo t0 c0x.Route.Prefix).bind λr_3=>bif (c0x.Gone&&(!r_3.2))then(some (t0,(6:Int)))else(bif c0x.Gone then((AC r_3.1 1).bind λx_4=>(BL t0 r_3.1 x_4).bind λx_5=>some (x_5,(0:Int)))else(bif r_3.2 then((idx t0 r_3.1).bind λx_7=>(some ((t0.set (Xaa r_3.1) c0x.Route):(List Route))).bind λl_8=>some (l_8,(0:Int)))else(bif (decide ((t0.length:Int)>=(256:Int)))then(some (t0,(5:Int)))else((BK t0 r_3.1 [c0x.Route]).bind λx_10=>some (x_10,(0:Int)))))))
theorem Pj{t0:(List Route)}{c0x:BA}{b0 c0:Nat}{p0:Prop}{r:((List Route)×Int)} (H:FV t0 c0x=some r):CO2 47 [⟨b0,p0,Row (t0:List Route) c0⟩] (Sl b0 p0 0 t0.length c0) (D c0x) (λg:Nat×Prop×Nat=>Tup [Sl g.1 g.2.1 0 (Xat r.1) g.2.2,D r.2]) λg=>[⟨g.1,g.2.1,Row (r.1:List Route) g.2.2⟩]:=eO2 Tryz.func47 rfl Tryz.ntmps47 λA w hA hO=>by
 unfold FV at H;refine zg ?_;refine Xa9 rfl λb3_0=>zg ?_
 refine zb H λ_ _ H=>?_
 refine zc H (λhc H=>?_) λhc H=>?_
 .refine zg ?_;obtain rfl:=ZZi H;exact AD rfl rfl ⟨b0,p0,c0⟩ (.cons (ZH rfl) (.cons Cv.le .nil)) (Zd rfl (Zf _))
 .refine zg ?_;refine zn H λ_ er_3 H=>?_
  refine zX (A4 (Dj [b0] (Kp XaR rfl (by simp)) Xfr λw v0 v1 hA h0 h1=>Zah.h w v0 v1 hA (toD h0) (toD h1) er_3.h) rfl) ?_;refine zc H (λhc H=>?_) λhc H=>?_
  .refine zg ?_;obtain rfl:=ZZi H;exact AD rfl rfl ⟨b0,p0,c0⟩ (.cons (ZH rfl) (.cons Cv.le .nil)) (Zd rfl (Zf _))
  .refine zg ?_;refine zc H (λhc H=>?_) λhc H=>?_
   .refine zg ?_;refine zb H λ_ _ H=>?_
    refine zn H λ_ ex_5 H=>?_
    refine D4 (Ql [b0] λw v0 v1 v2 hA hO hap hks h0 h1 h2=>Ig w v0 v1 v2 hA hO hap hks (slD rfl h0) (toD h1) (toD h2) ex_5.h) rfl λ⟨b37_5,p37_5,c37_5⟩=>?_
    refine zw ?_;obtain rfl:=ZZi H;exact AD rfl rfl ⟨b37_5,p37_5,c37_5⟩ (.cons (ZH rfl) (.cons Cv.le .nil)) (Zd rfl (Zf _))
   .refine zg ?_;refine zc H (λhc H=>?_) λhc H=>?_
    .refine zg ?_;refine zn H λ_ ex_7 H=>?_
     refine TSx (Zt (ZP ex_7.h rfl)) ?_;refine zC ?_;refine zn H λ_ el_8 H=>?_
     refine ZF b0 (Ah el_8.h) ?_;refine zX (B8 0 _ (AY el_8.h (by simp))) ?_;obtain rfl:=ZZi H;exact AD rfl rfl ⟨b0,p0,c0⟩ (.cons (ZH rfl) (.cons Cv.le .nil)) (Zd rfl (Zf _))
    .refine zg ?_;refine zX (A4 (AK (n:=t0.length) rfl) rfl) ?_;refine zc H (λhc H=>?_) λhc H=>?_
     .refine zg ?_;obtain rfl:=ZZi H;exact AD rfl rfl ⟨b0,p0,c0⟩ (.cons (ZH rfl) (.cons Cv.le .nil)) (Zd rfl (Zf _))
     .refine zg ?_;refine zn H λ_ ex_10 H=>?_
      refine Sp (pk:=inferInstance) (b:=b0) (Nat.le_of_ble_eq_true rfl) rfl rfl (λw v0 v1 v2 hA hO hap hks h0 h1 h2 hraw=>Ie w v0 v1 v2 hA hO hap hks (slD rfl h0) (toD h1) h2 hraw ex_10.h) λ⟨b56_8,p56_8,c56_8⟩=>?_
      refine zw ?_;obtain rfl:=ZZi H;exact AD rfl rfl ⟨b56_8,p56_8,c56_8⟩ (.cons (ZH rfl) (.cons Cv.le .nil)) (Zd rfl (Zf _))
def Ib(t0:(List Route))(l0:(List BA))(x_8:Int)(u_10:(List Route)):Option ((Int×(List Route))⊕((List Route)⊕((List Route)×Int))):=
 bif (decide (x_8<(l0.length:Int)))then((idx l0 x_8).bind λx_12=>(FV u_10 x_12).bind λx_14=>bif (decide (x_14.2≠(0:Int)))then((ZY t0).bind λx_16=>some (.inr (.inr (x_16,x_14.2))))else((AC x_8 1).bind λx_18=>some (.inl (x_18,x_14.1))))else(some (.inr (.inl u_10)))
def GZ(t0:(List Route))(l0:(List BA)):Option ((List Route)×Int):=
 (CK t0).bind λx_1=>bif (!x_1)then((ZY t0).bind λx_2=>some (x_2,(1:Int)))else((ZY t0).bind λx_3=>(ZN (λs=>Ib t0 l0 s.1 s.2) ((0:Int),x_3)).bind λo_7=>elS o_7 (λu_6=>some (u_6,(0:Int))) (λq=>some q))
instance Zak:Fd2 11 GZ λr=>Tup [D r.1,D r.2]:=en2 Tryz.func11 rfl Tryz.ntmps11 λA w hA t0 l0 r H=>by
 unfold GZ at H;refine zg ?_;refine zb H λ_ _ H=>?_
 refine zc H (λhc H=>?_) λhc H=>?_
 .exact zY H
 .refine zg ?_;refine zn H λ_ ex_3 H=>?_
  refine D4 (oc1 [] (Ew ex_3.h) toD) rfl λ⟨b16_3,p16_3,c16_3⟩=>?_
  dsimp only[Xan,Xam];refine zC ?_;refine zC ?_;refine zh H λo_7 H7 H=>?_
  refine Zs (λs:(List Route)=>o_7=.inl s) (λ(u_6:(List Route)) (⟨b_4,p_4,c_4⟩:Nat×Prop×Nat)=>(TR Xaj 6 (Sl b_4 p_4 0 u_6.length c_4))) (λ(u_6:(List Route)) (⟨b_4,p_4,c_4⟩:Nat×Prop×Nat)=>[⟨b_4,p_4,(Row (u_6:List Route) c_4)⟩]) ?_ ?_
  .skip;refine Zr<|Zx H7 (λ⟨x_8,u_10⟩ (⟨b_8,p_8,c_8⟩:Nat×Prop×Nat)=>(TR (TR (TR (TR (TR Xaj 0 (D t0)) 6 (Sl b_8 p_8 0 u_10.length c_8)) 17 (D l0)) 18 (D ((l0.length:Int):Int))) 19 (D x_8))) (λ⟨x_8,u_10⟩ (⟨b_8,p_8,c_8⟩:Nat×Prop×Nat)=>[⟨b_8,p_8,(Row (u_10:List Route) c_8)⟩]) ⟨b16_3,p16_3,c16_3⟩ (Za (Za (Za (Zm (ZH rfl) (Za (Ze _)))))) (Zd rfl (Zf _)) ?_;rintro⟨x_8,u_10⟩ ⟨b_8,p_8,c_8⟩ x_11 H11 he11;dsimp only at H11;unfold Ib at H11;refine zg ?_;refine zc H11 (λhc H11=>?_) λhc H11=>?_
   .refine zg ?_;refine zb H11 λ_ _ H11=>?_
    refine Xaq rfl λb8_12=>zg ?_
    refine zn H11 λx_14 ex_14 H11=>?_
    refine D4 (oc2 [b_8] (Pj ex_14.h) (slD rfl) toD) rfl λ⟨b26_14,p26_14,c26_14⟩=>?_
    refine zw ?_;refine zc H11 (λhc H11=>?_) λhc H11=>?_
    .refine zg ?_;refine zo H11 λ_ _ H11=>?_
     refine zC ?_;refine ZO<|Zh<|Zi<|Zi<|Zh<|Zw ?_;have R16:=AQ (he11 _ (ZZs H11)) H;refine zg ?_;obtain rfl:=ZZi R16;exact Eo rfl rfl (.cons Cv.le (.cons Cv.le .nil))
    .refine zg ?_;refine zb H11 λx_18 _ H11=>?_
     exact Zv ⟨x_18,x_14.1⟩ ⟨b26_14,p26_14,c26_14⟩ (ZZs H11) (Za (Za (Za (Zm (ZH rfl) (Za (Ze _)))))) (Zd rfl (Zf _))
   .refine zg ?_;exact Zl u_10 ⟨b_8,p_8,c_8⟩ (he11 _ (ZZs H11)).symm (Zm (ZH rfl) (Ze _)) (Zd rfl (Zf _))
  rintro u_6 ⟨b_4,p_4,c_4⟩ hp;replace H:=Bs hp H;refine zC ?_;refine ZO<|XeR b_4 (XbM 4 (ZJ XaR rfl) Xb2) ?_;exact zY H
def IY(t0:(List Route))(k0:(Vec UInt8 16))(bits0:Int)(n_7:Int):Option (Int⊕(Unit⊕(Route×Int))):=
 bif (decide (n_7>=(0:Int)))then((JY k0 n_7).bind λx_9=>(some ((⟨bits0,n_7,x_9⟩:Prefix):Prefix)).bind λpx_11=>(Fo t0 px_11).bind λr_12=>bif r_12.2 then((idx t0 r_12.1).bind λx_13=>some (.inr (.inr (x_13,(0:Int)))))else((GG n_7 1).bind λx_15=>some (.inl x_15)))else(some (.inr (.inl ())))
def CS(t0:(List Route))(k0:(Vec UInt8 16))(bits0:Int):Option (Route×Int):=
 (CK t0).bind λx_3=>(gb (!(!x_3)) (Ik (⟨bits0,bits0,k0⟩:Prefix))).bind λx_4=>bif ((!x_3)||(!x_4))then((some ((⟨Dat.z,0⟩:Route):Route)).bind λk_5=>some (k_5,(1:Int)))else((ZN (λs=>IY t0 k0 bits0 s) bits0).bind λo_6=>elS o_6 (λ_=>(some ((⟨Dat.z,0⟩:Route):Route)).bind λk_16=>some (k_16,(6:Int))) (λq=>some q))
instance Zck:Fd3 32 CS λr=>Tup [D r.1,D r.2]:=en3 Tryz.func32 rfl Tryz.ntmps32 λA w hA t0 k0 bits0 r H=>by
 unfold CS at H;refine zg ?_;refine Xa9 rfl λb4_0=>?_
 refine Xaq rfl λb6_1=>zg ?_
 refine zb H λ_ _ H=>?_
 refine MC 15 rfl (λhg=>(tB (⟨bits0,bits0,k0⟩:Prefix) rfl rfl)) rfl ?_;refine zd H λ_ _ H=>?_
 refine zc H (λhc H=>?_) λhc H=>?_
 .refine zg ?_;refine TSx (tB (⟨Dat.z,0⟩:Route) rfl rfl) ?_;exact zY H
 .refine zC ?_;refine zh H λo_6 H6 H=>?_
  refine Zs (λs:Unit=>o_6=.inl s) (λ(_:Unit) (_:Unit)=>(TR Xaj 6 (Pt b6_1 0))) (λ(_:Unit) (_:Unit)=>[⟨b6_1,True,(One ((Dat.z:Route):Route))⟩]) ?_ ?_
  .skip;refine Zr<|Zx H6 (λ(n_7:Int) (_:Unit)=>(TR (TR (TR (TR (TR Xaj 0 (D t0)) 2 (D bits0)) 4 (Pt b4_0 0)) 6 (Pt b6_1 0)) 8 (D n_7))) (λ(n_7:Int) (_:Unit)=>[⟨b4_0,True,(One k0)⟩,⟨b6_1,True,(One ((Dat.z:Route):Route))⟩]) () (Za (Za (Za (Za (Za (Ze _)))))) (Zd rfl (Zd rfl (Zf _))) ?_;rintro n_7 ⟨⟩ x_8 H8 he8;unfold IY at H8;refine zg ?_;refine zc H8 (λhc H8=>?_) λhc H8=>?_
   .refine zg ?_;refine zb H8 λx_9 _ H8=>?_
    refine TSx (tB (⟨bits0,n_7,x_9⟩:Prefix) rfl rfl) ?_;refine Xaq rfl λb9_9=>?_
    refine zC ?_;refine zn H8 λ_ epx_11 H8=>?_
    refine zX (ZF b9_9 (Ag epx_11.h)) ?_;refine zb H8 λ_ _ H8=>?_
    refine zc H8 (λhc H8=>?_) λhc H8=>?_
    .refine zg ?_;refine zo H8 λ_ _ H8=>?_
     refine zC ?_;refine ZO<|Zh<|Zi<|Zi<|Zh<|Zw ?_;have R13:=AQ (he8 _ (ZZs H8)) H;refine zg ?_;obtain rfl:=ZZi R13;exact Eo rfl rfl (.cons Cv.le (.cons Cv.le .nil))
    .refine zg ?_;refine zb H8 λx_15 _ H8=>?_
     exact Zv x_15 () (ZZs H8) (Za (Za (Za (Za (Za (Ze _)))))) (Zd rfl (Zd rfl (Zf _)))
   .refine zg ?_;exact Zl () () (he8 _ (ZZs H8)).symm (Za (Ze _)) (Zd rfl (Zf _))
  rintro⟨⟩ ⟨⟩ hp;replace H:=Bs hp H;refine zg ?_;refine TSx (tB (⟨Dat.z,0⟩:Route) rfl rfl) ?_;exact zY H
def Ek(bits0:Int):Option Bool:=
 some ((decide (bits0=(32:Int)))||(decide (bits0=(128:Int))))
instance Zae:Fd1 80 Ek λr=>D r:=en1 Tryz.func80 rfl Tryz.ntmps80 λ_ _ _ _ _ H=>by
 unfold Ek at H;exact zY H
def HP(k0:(Vec UInt8 16))(n0:Int):Option Int:=
 bif ((decide (n0<(0:Int)))||(decide (n0>=(32:Int))))then(some (0:Int))else((JB n0 2).bind λx_2=>(idx k0.l x_2).bind λx_3=>(RM n0 2).bind λx_4=>bif (decide (x_4=(0:Int)))then((WZ (x_3.toNat:Int) 4).bind λx_5=>some x_5)else((Zft (x_3.toNat:Int) (15:Int)).bind λx_6=>some x_6))
instance ZeC:Fd2 87 HP λr=>D r:=en2 Tryz.func87 rfl Tryz.ntmps87 λA w hA k0 n0 r H=>by
 unfold HP at H;refine zg ?_;refine Xa9 rfl λb2_0=>zg ?_
 refine zc H (λhc H=>?_) λhc H=>?_
 .exact zY H
 .refine zg ?_;refine zb H λ_ _ H=>?_
  refine zn H λ_ ex_3 H=>?_
  refine TSx (Ao (ZP ex_3.h (Vec.h _).symm))<|TSx (AL (E7 (α:=UInt8) ZB ex_3.h)) ?_;exact zY H
def CR(b0x:Zk)(node0:Int)(four0:Int):Option (Int×Bool×Zk):=
 (idx b0x.Trie.Nodes node0).bind λx_1=>(idx x_1.Next.l four0).bind λx_2=>bif (decide (x_2>(0:Int)))then(some (x_2,true,(⟨(⟨((⟨(⟨b0x.Trie.Bits,[]⟩:Trie)⟩:Zk).Trie).Bits,b0x.Trie.Nodes⟩:Trie)⟩:Zk)))else(bif (decide ((b0x.Trie.Nodes.length:Int)>=(512:Int)))then(some ((0:Int),false,(⟨(⟨((⟨(⟨b0x.Trie.Bits,[]⟩:Trie)⟩:Zk).Trie).Bits,b0x.Trie.Nodes⟩:Trie)⟩:Zk)))else((Dv 384 ((b0x.Trie.Nodes.length+([(⟨Dat.z,Dat.z⟩:ZZ)]:List ZZ).length:Nat):Int)).bind λu_4=>(some ((b0x.Trie.Nodes++([(⟨Dat.z,Dat.z⟩:ZZ)]:List ZZ)):(List ZZ))).bind λl_5=>(GG (l_5.length:Int) (1:Int)).bind λx_6=>(idx l_5 node0).bind λx_7=>(idx x_7.Next.l four0).bind λx_8=>(some ((l_5.set (Xaa node0) (⟨x_7.Slots,(Xd6 x_7.Next (Xaa four0) x_6)⟩:ZZ)):(List ZZ))).bind λl_9=>(GG (l_9.length:Int) (1:Int)).bind λx_10=>some (x_10,true,(⟨(⟨((⟨(⟨b0x.Trie.Bits,[]⟩:Trie)⟩:Zk).Trie).Bits,l_9⟩:Trie)⟩:Zk))))
theorem Lg{b0x:Zk}{node0:Int}{four0:Int}{b0:Nat}{b0r c0r:Nat}{p0r:Prop}{r:(Int×Bool×Zk)} (H:CR b0x node0 four0=some r):CO3 129 [⟨b0,True,Xa4 (One ((⟨(⟨b0x.Trie.Bits,[]⟩:Trie)⟩:Zk):Zk)) 1 (Sl b0r p0r 0 (Xat b0x.Trie.Nodes) c0r)⟩,⟨b0r,p0r,Row (b0x.Trie.Nodes:List ZZ) c0r⟩] (Pt b0 0) (D node0) (D four0) (λg:Nat×Prop×Nat=>Tup [D r.1,D r.2.1]) λg=>[⟨b0,True,Xa4 (One ((⟨(⟨r.2.2.Trie.Bits,[]⟩:Trie)⟩:Zk):Zk)) 1 (Sl g.1 g.2.1 0 (Xat r.2.2.Trie.Nodes) g.2.2)⟩,⟨g.1,g.2.1,Row (r.2.2.Trie.Nodes:List ZZ) g.2.2⟩]:=eO3 Tryz.func129 rfl Tryz.ntmps129 λA w hA hO=>by
 unfold CR at H;refine zg ?_;refine zX (A4 (ZW Af) rfl) ?_;refine zn H λ_ ex_1 H=>?_
 refine zX (A4 (Zt (ZP ex_1.h rfl)) rfl) ?_;refine zn H λ_ ex_2 H=>?_
 refine TSx (Ao (ZP ex_2.h (Vec.h _).symm)) ?_;refine zX (A4 (AL (E7 (α:=Int) (PF 32 ZZ (Vec Int 16) (AP ex_1.h)) ex_2.h)) rfl) ?_;refine zc H (λhc H=>?_) λhc H=>?_
 .refine zg ?_;obtain rfl:=ZZi H;exact AD rfl rfl ⟨b0r,p0r,c0r⟩ (.cons Cv.le (.cons Cv.le .nil)) (IS (I8 (α:=ZZ) (by have h:=((PF 1 Trie (List ZZ) (PF 0 Zk Trie (ZB (α:=Zk) (i:=Ba) (x:=(⟨(⟨b0x.Trie.Bits,[]⟩:Trie)⟩:Zk)))))).st ([]:(List ZZ));exact h) rfl) (Zd rfl (Zf _)))
 .refine zg ?_;refine TSx (ZW Af) ?_;refine zX (A4 (AK (n:=b0x.Trie.Nodes.length) rfl) rfl) ?_;refine zc H (λhc H=>?_) λhc H=>?_
  .refine zg ?_;obtain rfl:=ZZi H;exact AD rfl rfl ⟨b0r,p0r,c0r⟩ (.cons Cv.le (.cons Cv.le .nil)) (IS (I8 (α:=ZZ) (by have h:=((PF 1 Trie (List ZZ) (PF 0 Zk Trie (ZB (α:=Zk) (i:=Ba) (x:=(⟨(⟨b0x.Trie.Bits,[]⟩:Trie)⟩:Zk)))))).st ([]:(List ZZ));exact h) rfl) (Zd rfl (Zf _)))
  .refine zg ?_;refine TSx (ZW Af) ?_;refine TSx (tB (⟨Dat.z,Dat.z⟩:ZZ) rfl rfl) ?_;refine TSx (Xbx [.tmp 36] rfl rfl (by decide)) ?_;refine zn H λ_ eu_4 H=>?_
   refine Xdt (ys:=([(⟨Dat.z,Dat.z⟩:ZZ)]:List ZZ)) inferInstance eu_4.h rfl rfl rfl λb38_2 p38_2 c38_2=>zg ?_
   refine Bk (AS Xg7) ?_;refine zC ?_;refine zn H λl_5 el_5 H=>?_
   refine ZF b38_2 (Ah el_5.h)<|ZF b0 (Fw (EB el_5.h rfl)) ?_;refine zX (Bd [17] [b38_2] mix (by kernel_rfl) (by kernel_rfl)) ?_;refine zX (Fd (ZW Af) rfl) ?_;refine TRx (ZW Af)<|TRx (AK (n:=l_5.length) rfl) ?_;refine zb H λx_6 _ H=>?_
   refine zn H λ_ ex_7 H=>?_
   refine zX (Fd (Zt (ZP ex_7.h rfl)) rfl) ?_;refine zn H λ_ ex_8 H=>?_
   refine TRx (Ao (ZP ex_8.h (Vec.h _).symm))<|DP (λg=>(ZD (y:=(x_6:Int)) (E7 (α:=Int) (PF 32 ZZ (Vec Int 16) (AP ex_7.h)) ex_8.h))) rfl ?_;refine zC ?_;rintro⟨_,_⟩;dsimp only[XaV,XaW,XaS,Xan,Xam];refine zn H λl_9 el_9 H=>?_
   refine ZF b38_2 (Ah el_9.h) ?_;refine zX (ZF b0 (Fw (EB el_9.h (by simp)))) ?_;refine TSx (ZW Af)<|TSx (AK (n:=l_9.length) rfl) ?_;refine zb H λ_ _ H=>?_
   obtain rfl:=ZZi H;exact AD rfl rfl ⟨b38_2,p38_2,c38_2⟩ (.cons Cv.le (.cons Cv.le .nil)) (IS (I8 (α:=ZZ) (by have h:=((PF 1 Trie (List ZZ) (PF 0 Zk Trie (ZB (α:=Zk) (i:=Ba) (x:=(⟨(⟨b0x.Trie.Bits,[]⟩:Trie)⟩:Zk)))))).st ([]:(List ZZ));exact h) rfl) (Zd rfl (Zf _)))
def Da(r0:Route)(x_3:Int)(node_9:Int)(x_10:Int)(l_12:(List ZZ))(bx_13:Zk):Option ((Int×Int×(List ZZ)×Zk)⊕((Int×(List ZZ)×Zk)⊕(Bool×Zk))):=
 bif (decide (x_10<(max (0:Int) x_3)))then((HP r0.Prefix.Key x_10).bind λx_15=>(CR (⟨(⟨bx_13.Trie.Bits,l_12⟩:Trie)⟩:Zk) node_9 x_15).bind λx_16=>(some ((⟨(⟨x_16.2.2.Trie.Bits,[]⟩:Trie)⟩:Zk):Zk)).bind λbx_18=>bif (!x_16.2.1)then(some (.inr (.inr (false,(⟨(⟨bx_18.Trie.Bits,x_16.2.2.Trie.Nodes⟩:Trie)⟩:Zk)))))else((AC x_10 1).bind λx_20=>some (.inl (x_16.1,x_20,x_16.2.2.Trie.Nodes,bx_18))))else(some (.inr (.inl (node_9,l_12,bx_13))))
def BY(r0:Route)(node_4:Int)(x_21:Int)(x_25:Int)(four_28:Int)(l_29:(List ZZ)):Option ((Int×(List ZZ))⊕(List ZZ)):=
 (AC x_21 x_25).bind λx_31=>bif (decide (four_28<x_31))then(((idx l_29 node_4).bind λx_34=>(idx x_34.Slots.l four_28).bind λx_35=>bif (decide (x_35.Len<=r0.Prefix.Len))then((AC r0.Prefix.Len 1).bind λx_36=>(some ((l_29.set (Xaa node_4) (⟨(Xd6 x_34.Slots (Xaa four_28) (⟨x_36,r0.Hop⟩:Es)),x_34.Next⟩:ZZ)):(List ZZ))).bind λl_37=>some l_37)else(some l_29)).bind λl_32=>(AC four_28 1).bind λx_38=>some (.inl (x_38,l_32)))else(some (.inr l_29))
def Dg(b0x:Zk)(r0:Route):Option (Bool×Zk):=
 (GG r0.Prefix.Len 1).bind λx_2=>(JB x_2 4).bind λx_3=>(ZN (λs=>Da r0 x_3 s.1 s.2.1 s.2.2.1 s.2.2.2) ((0:Int),(0:Int),b0x.Trie.Nodes,(⟨(⟨b0x.Trie.Bits,[]⟩:Trie)⟩:Zk))).bind λo_8=>elS o_8 (λs=>el3 s (λnode_4 l_6 bx_7=>(HP r0.Prefix.Key (max (0:Int) x_3)).bind λx_21=>(RX (4:Int) (max (0:Int) x_3)).bind λx_22=>(GG r0.Prefix.Len x_22).bind λx_23=>(GG (4:Int) x_23).bind λx_24=>(Uu (1:Int) x_24).bind λx_25=>(ZN (λs=>BY r0 node_4 x_21 x_25 s.1 s.2) (x_21,l_6)).bind λl_26=>some (true,(⟨(⟨bx_7.Trie.Bits,l_26⟩:Trie)⟩:Zk)))) (λq=>some q)
theorem LK{b0x:Zk}{r0:Route}{b0:Nat}{b0r c0r:Nat}{p0r:Prop}{r:(Bool×Zk)} (H:Dg b0x r0=some r):CO2 81 [⟨b0,True,Xa4 (One ((⟨(⟨b0x.Trie.Bits,[]⟩:Trie)⟩:Zk):Zk)) 1 (Sl b0r p0r 0 (Xat b0x.Trie.Nodes) c0r)⟩,⟨b0r,p0r,Row (b0x.Trie.Nodes:List ZZ) c0r⟩] (Pt b0 0) (D r0) (λg:Nat×Prop×Nat=>D r.1) λg=>[⟨b0,True,Xa4 (One ((⟨(⟨r.2.Trie.Bits,[]⟩:Trie)⟩:Zk):Zk)) 1 (Sl g.1 g.2.1 0 (Xat r.2.Trie.Nodes) g.2.2)⟩,⟨g.1,g.2.1,Row (r.2.Trie.Nodes:List ZZ) g.2.2⟩]:=eO2 Tryz.func81 rfl Tryz.ntmps81 λA w hA hO=>by
 unfold Dg at H;refine zg ?_;refine Xa9 rfl λb3_0=>zg ?_
 refine zb H λ_ _ H=>?_
 refine zo H λx_3 _ H=>?_
 refine zC ?_;refine zC ?_;refine zC ?_;refine zh H λo_8 H8 H=>?_
 refine Zs (λs:(Int×(List ZZ)×Zk)=>o_8=.inl s) (λ⟨node_4,l_6,bx_7⟩ (⟨b_4,p_4,c_4⟩:Nat×Prop×Nat)=>(TR (TR (TR (TR Xaj 0 (Pt b0 0)) 3 (Pt b3_0 0)) 5 (D ((max (0:Int) x_3):Int))) 6 (D node_4))) (λ⟨node_4,l_6,bx_7⟩ (⟨b_4,p_4,c_4⟩:Nat×Prop×Nat)=>[⟨b_4,p_4,(Row (l_6:List ZZ) c_4)⟩,⟨b0,True,(Xa4 (One bx_7) 1 (Sl b_4 p_4 0 l_6.length c_4))⟩,⟨b3_0,True,(One r0)⟩]) ?_ ?_
 .skip;refine Zr<|Zx H8 (λ⟨node_9,x_10,l_12,bx_13⟩ (⟨b_10,p_10,c_10⟩:Nat×Prop×Nat)=>(TR (TR (TR (TR (TR (TR Xaj 0 (Pt b0 0)) 3 (Pt b3_0 0)) 5 (D ((max (0:Int) x_3):Int))) 6 (D node_9)) 20 (D ((max (0:Int) x_3):Int))) 21 (D x_10))) (λ⟨node_9,x_10,l_12,bx_13⟩ (⟨b_10,p_10,c_10⟩:Nat×Prop×Nat)=>[⟨b_10,p_10,(Row (l_12:List ZZ) c_10)⟩,⟨b0,True,(Xa4 (One bx_13) 1 (Sl b_10 p_10 0 l_12.length c_10))⟩,⟨b3_0,True,(One r0)⟩]) ⟨b0r,p0r,c0r⟩ (Za (Za (Za (Za (Za (Za (Ze _))))))) (Zd rfl (Zd rfl (Zd rfl (Zf _)))) ?_;rintro⟨node_9,x_10,l_12,bx_13⟩ ⟨b_10,p_10,c_10⟩ x_14 H14 he14;dsimp only at H14;unfold Da at H14;refine zg ?_;refine zc H14 (λhc H14=>?_) λhc H14=>?_
  .refine zg ?_;refine zb H14 λ_ _ H14=>?_
   refine Zfx b0 (λA w cs _=>I8 (by have h:=((PF 1 Trie (List ZZ) (PF 0 Zk Trie (ZB (α:=Zk) (i:=Ba) (x:=bx_13))))).st ([]:(List ZZ));exact h) rfl A w cs) ?_;refine zn H14 λx_16 ex_16 H14=>?_
   refine D4 (oc3 [b0,b_10] (Lg ex_16.h) id toD toD) rfl λ⟨b32_16m,p32_16m,c32_16m⟩=>?_
   dsimp only[Xan,Xam];refine zC ?_;refine zn H14 λbx_18 ebx_18 H14=>?_
   refine zX (ZF b0 (DC (Ag ebx_18.h))) ?_;refine zc H14 (λhc H14=>?_) λhc H14=>?_
   .refine zC ?_;refine ZO<|Zi<|Zh<|Zi<|Zi<|Zh<|Zw ?_;have R18:=AQ (he14 _ (ZZs H14)) H;refine zg ?_;obtain rfl:=ZZi R18;exact ZG rfl ⟨b32_16m,p32_16m,c32_16m⟩ Cv.le (IS (I8 (α:=ZZ) (by have h:=((PF 1 Trie (List ZZ) (PF 0 Zk Trie (ZB (α:=Zk) (i:=Ba) (x:=bx_18))))).st ([]:(List ZZ));exact h) rfl) (Zd rfl (Zf _)))
   .refine zg ?_;refine zb H14 λx_20 _ H14=>?_
    exact Zv ⟨x_16.1,x_20,x_16.2.2.Trie.Nodes,bx_18⟩ ⟨b32_16m,p32_16m,c32_16m⟩ (ZZs H14) (Za (Za (Za (Za (Za (Za (Ze _))))))) (Zd rfl (Zd rfl (Zd rfl (Zf _))))
  .refine zg ?_;exact Zl ⟨node_9,l_12,bx_13⟩ ⟨b_10,p_10,c_10⟩ (he14 _ (ZZs H14)).symm (Za (Za (Za (Za (Ze _))))) (Zd rfl (Zd rfl (Zd rfl (Zf _))))
 rintro⟨node_4,l_6,bx_7⟩ ⟨b_4,p_4,c_4⟩ hp;replace H:=Bs hp H;replace H:=ZcM H;refine zg ?_;refine zb H λx_21 _ H=>?_
 refine zb H λ_ _ H=>?_
 refine zb H λ_ _ H=>?_
 refine zb H λ_ _ H=>?_
 refine zo H λx_25 _ H=>?_
 refine zC ?_;refine zC ?_;refine zh H λo_27 H27 H=>?_
 refine Zs (λs:(List ZZ)=>o_27=s) (λ(l_26:(List ZZ)) (_:Unit)=>(TR Xaj 0 (Pt b0 0))) (λ(l_26:(List ZZ)) (_:Unit)=>[⟨b_4,p_4,(Row (l_26:List ZZ) c_4)⟩,⟨b0,True,(Xa4 (One bx_7) 1 (Sl b_4 p_4 0 l_26.length c_4))⟩]) ?_ ?_
 .skip;refine Zr<|Zx H27 (λ⟨four_28,l_29⟩ (_:Unit)=>(TR (TR (TR (TR (TR (TR Xaj 0 (Pt b0 0)) 3 (Pt b3_0 0)) 6 (D node_4)) 10 (D x_21)) 11 (D x_25)) 12 (D four_28))) (λ⟨four_28,l_29⟩ (_:Unit)=>[⟨b_4,p_4,(Row (l_29:List ZZ) c_4)⟩,⟨b0,True,(Xa4 (One bx_7) 1 (Sl b_4 p_4 0 l_29.length c_4))⟩,⟨b3_0,True,(One r0)⟩]) () (Za (Za (Za (Za (Za (Za (Ze _))))))) (Zd rfl (Zd rfl (Zd rfl (Zf _)))) ?_;rintro⟨four_28,l_29⟩ ⟨⟩ x_30 H30 he30;dsimp only at H30;unfold BY at H30;refine zg ?_;refine zb H30 λ_ _ H30=>?_
  refine zc H30 (λhc H30=>?_) λhc H30=>?_
  .refine AH<|Az<|AI ?_;refine zh H30 λo_33 H33 H30=>?_
   refine Zs (λs:(List ZZ)=>o_33=s) (λ(l_32:(List ZZ)) (_:Unit)=>(TR (TR (TR (TR (TR (TR Xaj 0 (Pt b0 0)) 3 (Pt b3_0 0)) 6 (D node_4)) 10 (D x_21)) 11 (D x_25)) 12 (D four_28))) (λ(l_32:(List ZZ)) (_:Unit)=>[⟨b_4,p_4,(Row (l_32:List ZZ) c_4)⟩,⟨b0,True,(Xa4 (One bx_7) 1 (Sl b_4 p_4 0 l_32.length c_4))⟩,⟨b3_0,True,(One r0)⟩]) ?_ ?_
   .skip;refine zg ?_;refine zX (A4 (ZW Af) rfl) ?_;refine zn H33 λ_ ex_34 H33=>?_
    refine zX (A4 (Zt (ZP ex_34.h rfl)) rfl) ?_;refine zn H33 λ_ ex_35 H33=>?_
    refine zX (A4 (Ao (ZP ex_35.h (Vec.h _).symm)) rfl) ?_;refine zX (Fd (AL (PF 0 Es Int (E7 (α:=Es) (PF 0 ZZ (Vec Es 16) (AP ex_34.h)) ex_35.h))) rfl) ?_;refine zc H33 (λhc H33=>?_) λhc H33=>?_
    .refine zg ?_;refine zb H33 λx_36 _ H33=>?_
     refine zX (A4 (tB (⟨x_36,r0.Hop⟩:Es) rfl rfl) rfl) ?_;refine Bk (ZD (y:=((⟨x_36,r0.Hop⟩:Es):Es)) (E7 (α:=Es) (PF 0 ZZ (Vec Es 16) (AP ex_34.h)) ex_35.h)) ?_;refine zE ?_;refine zn H33 λl_37 el_37 H33=>?_
     refine Ai b_4 (Ah el_37.h) ?_;refine zX (Ai b0 (Fw (EB el_37.h (by simp)))) ?_;exact Zl l_37 () (ZZs H33) (Za (Za (Za (Za (Za (Za (Ze _))))))) (Zd rfl (Zd rfl (Zd rfl (Zf _))))
    .refine zg ?_;exact Zl l_29 () (ZZs H33) (Za (Za (Za (Za (Za (Za (Ze _))))))) (Zd rfl (Zd rfl (Zd rfl (Zf _))))
   rintro l_32 ⟨⟩ hp;replace hp:=hp.symm;subst hp;refine zg ?_;refine zb H30 λx_38 _ H30=>?_
   exact Zv ⟨x_38,l_32⟩ () (ZZs H30) (Za (Za (Za (Za (Za (Za (Ze _))))))) (Zd rfl (Zd rfl (Zd rfl (Zf _))))
  .refine zg ?_;exact Zl l_29 () (he30 _ (ZZs H30)).symm (Za (Ze _)) (Zd rfl (Zd rfl (Zf _)))
 rintro l_26 ⟨⟩ hp;replace hp:=hp.symm;subst hp;refine zg ?_;obtain rfl:=ZZi H;exact ZG rfl ⟨b_4,p_4,c_4⟩ Cv.le (IS (I8 (α:=ZZ) (by have h:=((PF 1 Trie (List ZZ) (PF 0 Zk Trie (ZB (α:=Zk) (i:=Ba) (x:=bx_7))))).st ([]:(List ZZ));exact h) rfl) (Zd rfl (Zf _)))
def IX(t0:(List Route))(bits0:Int)(x_14:Int)(l_16:(List ZZ))(bx_17:Zk):Option ((Int×(List ZZ)×Zk)⊕(((List ZZ)×Zk)⊕(Trie×Int))):=
 bif (decide (x_14<(t0.length:Int)))then(((idx t0 x_14).bind λx_23=>bif (decide (x_23.Prefix.Bits≠bits0))then(some (.inl (l_16,bx_17)))else((Dg (⟨(⟨bx_17.Trie.Bits,l_16⟩:Trie)⟩:Zk) x_23).bind λx_25=>(some ((⟨(⟨x_25.2.Trie.Bits,[]⟩:Trie)⟩:Zk):Zk)).bind λbx_27=>bif (!x_25.1)then((some ((⟨0,[]⟩:Trie):Trie)).bind λk_28=>some (.inr (k_28,(5:Int))))else(some (.inl (x_25.2.Trie.Nodes,bx_27))))).bind λo_22=>elS o_22 (λs=>el2 s (λl_20 bx_21=>(AC x_14 1).bind λx_31=>some (.inl (x_31,l_20,bx_21)))) (λq=>some (.inr (.inr q))))else(some (.inr (.inl (l_16,bx_17))))
def Ev(t0:(List Route))(bits0:Int):Option (Trie×Int):=
 (CK t0).bind λx_2=>(gb (!(!x_2)) (Ek bits0)).bind λx_3=>bif ((!x_2)||(!x_3))then((some ((⟨0,[]⟩:Trie):Trie)).bind λk_4=>some (k_4,(1:Int)))else((Dv 384 (1:Int)).bind λu_5=>(some ((⟨(⟨bits0,[]⟩:Trie)⟩:Zk):Zk)).bind λbx_8=>(some ((Xac (Xaa (1:Int)) (Dat.z:ZZ)):(List ZZ))).bind λl_9=>(ZN (λs=>IX t0 bits0 s.1 s.2.1 s.2.2) ((0:Int),l_9,bx_8)).bind λo_13=>elS o_13 (λs=>el2 s (λl_11 bx_12=>some ((⟨bx_12.Trie.Bits,l_11⟩:Trie),(0:Int)))) (λq=>some q))
instance Zcj:Fd2 33 Ev λr=>Tup [D r.1,D r.2]:=en2 Tryz.func33 rfl Tryz.ntmps33 λA w hA t0 bits0 r H=>by
 unfold Ev at H;refine zg ?_;refine Xaq rfl λb4_0=>zg ?_
 refine zb H λ_ _ H=>?_
 refine zd H λ_ _ H=>?_
 refine zc H (λhc H=>?_) λhc H=>?_
 .refine zg ?_;refine TSx (tB (⟨0,[]⟩:Trie) rfl rfl) ?_;exact zY H
 .refine zg ?_;refine zn H λ_ eu_5 H=>?_
  refine FJ eu_5.h ⟨(A6 eu_5.h).1,XaJ _⟩ rfl λb19_5=>?_
  refine TSx (Qk (ps:=_) rfl ⟨_,Tryz.underlying93,by kernel_rfl⟩ ((PartsC.d (((PF 0 Trie Int ZB)).st _) (SA (Xf5 (by decide)) inferInstance)))) ?_;refine TSx (Wx rfl ⟨_,Tryz.underlying153,by kernel_rfl⟩) ?_;refine Xaq rfl λb6_6=>?_
  refine Bk (Aj trivial rfl CtSc.h) ?_;refine zC ?_;refine zn H λ_ ebx_8 H=>?_
  refine ZF b6_6 (DC (Ag ebx_8.h)) ?_;refine zn H λ_ el_9 H=>?_
  refine ZF b19_5 (Ah el_9.h)<|ZF b6_6 (Fw (EB el_9.h (by simp))) ?_;refine zC ?_;refine zh H λo_13 H13 H=>?_
  refine Zs (λs:((List ZZ)×Zk)=>o_13=.inl s) (λ⟨l_11,bx_12⟩ (⟨b_9,p_9,c_9⟩:Nat×Prop×Nat)=>(TR (TR Xaj 4 (Pt b4_0 0)) 6 (Pt b6_6 0))) (λ⟨l_11,bx_12⟩ (⟨b_9,p_9,c_9⟩:Nat×Prop×Nat)=>[⟨b_9,p_9,(Row (l_11:List ZZ) c_9)⟩,⟨b4_0,True,(One ((Dat.z:Trie):Trie))⟩,⟨b6_6,True,(Xa4 (One bx_12) 1 (Sl b_9 p_9 0 l_11.length c_9))⟩]) ?_ ?_
  .skip;refine Zr<|Zx H13 (λ⟨x_14,l_16,bx_17⟩ (⟨b_14,p_14,c_14⟩:Nat×Prop×Nat)=>(TR (TR (TR (TR (TR (TR Xaj 1 (D bits0)) 4 (Pt b4_0 0)) 6 (Pt b6_6 0)) 22 (D t0)) 23 (D ((t0.length:Int):Int))) 24 (D x_14))) (λ⟨x_14,l_16,bx_17⟩ (⟨b_14,p_14,c_14⟩:Nat×Prop×Nat)=>[⟨b_14,p_14,(Row (l_16:List ZZ) c_14)⟩,⟨b4_0,True,(One ((Dat.z:Trie):Trie))⟩,⟨b6_6,True,(Xa4 (One bx_17) 1 (Sl b_14 p_14 0 l_16.length c_14))⟩]) ⟨b19_5,True,(Xaa (1:Int))⟩ (Za (Za (Za (Za (Za (Za (Ze _))))))) (Zd rfl (Zd rfl (Zd rfl (Zf _)))) ?_;rintro⟨x_14,l_16,bx_17⟩ ⟨b_14,p_14,c_14⟩ x_18 H18 he18;dsimp only at H18;unfold IX at H18;refine zg ?_;refine zc H18 (λhc H18=>?_) λhc H18=>?_
   .refine AH<|Az<|AI ?_;refine zh H18 λo_22 H22 H18=>?_
    refine Zs (λs:((List ZZ)×Zk)=>o_22=.inl s) (λ⟨l_20,bx_21⟩ (⟨b_18,p_18,c_18⟩:Nat×Prop×Nat)=>(TR (TR (TR (TR (TR (TR Xaj 1 (D bits0)) 4 (Pt b4_0 0)) 6 (Pt b6_6 0)) 22 (D t0)) 23 (D ((t0.length:Int):Int))) 24 (D x_14))) (λ⟨l_20,bx_21⟩ (⟨b_18,p_18,c_18⟩:Nat×Prop×Nat)=>[⟨b_18,p_18,(Row (l_20:List ZZ) c_18)⟩,⟨b4_0,True,(One ((Dat.z:Trie):Trie))⟩,⟨b6_6,True,(Xa4 (One bx_21) 1 (Sl b_18 p_18 0 l_20.length c_18))⟩]) ?_ ?_
    .skip;refine zg ?_;refine zb H22 λ_ _ H22=>?_
     refine Xaq rfl λb8_23=>zg ?_
     refine zc H22 (λhc H22=>?_) λhc H22=>?_
     .refine zg ?_;exact Zl ⟨l_16,bx_17⟩ ⟨b_14,p_14,c_14⟩ (ZZs H22) (Za (Za (Za (Za (Za (Za (Ze _))))))) (Zd rfl (Zd rfl (Zd rfl (Zf _))))
     .refine zg ?_;refine Zfx b6_6 (λA w cs _=>I8 (by have h:=((PF 1 Trie (List ZZ) (PF 0 Zk Trie (ZB (α:=Zk) (i:=Ba) (x:=bx_17))))).st ([]:(List ZZ));exact h) rfl A w cs) ?_;refine zn H22 λx_25 ex_25 H22=>?_
      refine D4 (oc2 [b6_6,b_14] (LK ex_25.h) id toD) rfl λ⟨b34_25m,p34_25m,c34_25m⟩=>?_
      dsimp only[Xan,Xam];refine zC ?_;refine zn H22 λbx_27 ebx_27 H22=>?_
      refine ZF b6_6 (DC (Ag ebx_27.h)) ?_;refine zc H22 (λhc H22=>?_) λhc H22=>?_
      .refine zg ?_;refine TSx (tB (⟨0,[]⟩:Trie) rfl rfl) ?_;refine zC ?_;refine zn H22 λ_ ek_28 H22=>?_
       refine ZF b4_0 (Ag ek_28.h)<|ZO<|Zh<|Zw ?_;have R28:=AQ (ZZi H22) H18;refine Zi<|Zi<|Zh<|Zw ?_;have R29:=AQ (he18 _ (ZZs R28)) H;refine zg ?_;obtain rfl:=ZZi R29;exact Eo rfl rfl (.cons Cv.le (.cons Cv.le .nil))
      .refine zg ?_;exact Zl ⟨x_25.2.Trie.Nodes,bx_27⟩ ⟨b34_25m,p34_25m,c34_25m⟩ (ZZs H22) (Za (Za (Za (Za (Za (Za (Ze _))))))) (Zd rfl (Zd rfl (Zd rfl (Zf _))))
    rintro⟨l_20,bx_21⟩ ⟨b_18,p_18,c_18⟩ hp;replace H18:=Bs hp H18;replace H18:=EX H18;refine zg ?_;refine zb H18 λx_31 _ H18=>?_
    exact Zv ⟨x_31,l_20,bx_21⟩ ⟨b_18,p_18,c_18⟩ (ZZs H18) (Za (Za (Za (Za (Za (Za (Ze _))))))) (Zd rfl (Zd rfl (Zd rfl (Zf _))))
   .refine zg ?_;exact Zl ⟨l_16,bx_17⟩ ⟨b_14,p_14,c_14⟩ (he18 _ (ZZs H18)).symm (Za (Za (Ze _))) (Zd rfl (Zd rfl (Zd rfl (Zf _))))
  rintro⟨l_11,bx_12⟩ ⟨b_9,p_9,c_9⟩ hp;replace H:=Bs hp H;replace H:=EX H;refine zg ?_;refine TSx (D7 (C:=(Xa4 (One bx_12.Trie) 1 (Sl b_9 p_9 0 l_11.length c_9))) trivial rfl rfl)<|Bk (Aj trivial rfl CtSc.h) ?_;refine zC ?_;refine ZO<|Xb3 b4_0 b_9 (o:=1) (((PF 1 Trie (List ZZ) ZB)).st (l_11:List ZZ)) (ZJ XaR rfl) ?_;exact zY H
def EJ(t0:Trie)(x_10:Int)(x_13:ZZ)(x_21:Int)(at_22:(List Int)):Option ((Int×(List Int))⊕((List Int)⊕(List Int))):=
 bif (decide (x_21<(16:Int)))then(((idx x_13.Slots.l x_21).bind λx_26=>(gb (!(decide (x_26.Len<(0:Int)))) (idx at_22 x_10)).bind λx_27=>(gb (!(decide (x_26.Len<(0:Int)))) (RX (4:Int) x_27)).bind λx_28=>(gb (!(decide (x_26.Len<(0:Int)))) (AC x_28 1)).bind λx_29=>bif ((decide (x_26.Len<(0:Int)))||(decide (x_26.Len>x_29)))then(some (.inr ([]:List Int)))else((idx x_13.Next.l x_21).bind λx_33=>bif (decide (x_33=(0:Int)))then(some (.inl at_22))else((gb (!((decide (x_33<=x_10))||(decide (x_33>=(t0.Nodes.length:Int))))) (idx at_22 x_33)).bind λx_34=>bif (((decide (x_33<=x_10))||(decide (x_33>=(t0.Nodes.length:Int))))||(decide (x_34≠(0:Int))))then(some (.inr ([]:List Int)))else((idx at_22 x_10).bind λx_38=>(AC x_38 1).bind λx_39=>(idx at_22 x_33).bind λx_40=>(some ((at_22.set (Xaa x_33) x_39):(List Int))).bind λl_41=>some (.inl l_41))))).bind λo_25=>elS o_25 (λat_24=>(AC x_21 1).bind λx_42=>some (.inl (x_42,at_24))) (λq=>some (.inr (.inr q))))else(some (.inr (.inl at_22)))
def EK(t0:Trie)(x_10:Int)(at_11:(List Int)):Option ((Int×(List Int))⊕((List Int)⊕(List Int))):=
 bif (decide (x_10<(t0.Nodes.length:Int)))then((idx t0.Nodes x_10).bind λx_13=>(idx at_11 x_10).bind λx_15=>(gb (!(decide (x_15=(0:Int)))) (idx at_11 x_10)).bind λx_16=>(gb (!(decide (x_15=(0:Int)))) (JB t0.Bits 4)).bind λx_17=>bif ((decide (x_15=(0:Int)))||(decide (x_16>x_17)))then(some (.inr (.inr ([]:List Int))))else((ZN (λs=>EJ t0 x_10 x_13 s.1 s.2) ((0:Int),at_11)).bind λo_20=>elS o_20 (λat_19=>(AC x_10 1).bind λx_43=>some (.inl (x_43,at_19))) (λq=>some (.inr (.inr q)))))else(some (.inr (.inl at_11)))
def It(t0:Trie):Option (List Int):=
 (Ek t0.Bits).bind λx_2=>bif (((!x_2)||(decide ((t0.Nodes.length:Int)<(1:Int))))||(decide ((t0.Nodes.length:Int)>(512:Int))))then(some ([]:List Int))else((Dv 8 (t0.Nodes.length:Int)).bind λu_3=>(some ((Xac (Xaa (t0.Nodes.length:Int)) (Dat.z:Int)):(List Int))).bind λl_5=>(idx l_5 0).bind λx_6=>(some ((l_5.set (Xaa (0:Int)) (1:Int)):(List Int))).bind λl_7=>(ZN (λs=>EK t0 s.1 s.2) ((0:Int),l_7)).bind λo_9=>elS o_9 (λat_8=>(ZfU at_8.length).bind λu_44=>some at_8) (λq=>some q))
instance Zch:Fd1 88 It λr=>DN (r:(List Int)):=en1 Tryz.func88 rfl Tryz.ntmps88 λA w hA t0 r H=>by
 unfold It at H;refine zg ?_;refine Xa9 rfl λb1_0=>zg ?_
 refine zb H λ_ _ H=>?_
 refine zc H (λhc H=>?_) λhc H=>?_
 .refine zg ?_;obtain rfl:=ZZi H;exact Bc rfl Xg8
 .refine zg ?_;refine zn H λ_ eu_3 H=>?_
  refine FJ eu_3.h ⟨(A6 eu_3.h).1,XaJ _⟩ rfl λb28_3=>?_
  refine zC ?_;refine zn H λ_ el_5 H=>?_
  refine ZF b28_3 (Ah el_5.h) ?_;refine zX (B8 3 _ (AY el_5.h (by simp))) ?_;refine zn H λ_ ex_6 H=>?_
  refine TSx (Zt (ZP ex_6.h rfl)) ?_;refine zC ?_;refine zn H λ_ el_7 H=>?_
  refine ZF b28_3 (Ah el_7.h)<|B8 3 _ (AY el_7.h (by simp)) ?_;refine zC ?_;refine zh H λo_9 H9 H=>?_
  refine Zs (λs:(List Int)=>o_9=.inl s) (λ(at_8:(List Int)) (_:Unit)=>(TR Xaj 3 (Sl b28_3 True 0 at_8.length (Xaa (t0.Nodes.length:Int))))) (λ(at_8:(List Int)) (_:Unit)=>[⟨b28_3,True,(Row (at_8:List Int) (Xaa (t0.Nodes.length:Int)))⟩]) ?_ ?_
  .skip;refine Zr<|Zx H9 (λ⟨x_10,at_11⟩ (_:Unit)=>(TR (TR (TR (TR (TR Xaj 1 (Pt b1_0 0)) 3 (Sl b28_3 True 0 at_11.length (Xaa (t0.Nodes.length:Int)))) 32 (D t0.Nodes)) 33 (D ((t0.Nodes.length:Int):Int))) 34 (D x_10))) (λ⟨x_10,at_11⟩ (_:Unit)=>[⟨b28_3,True,(Row (at_11:List Int) (Xaa (t0.Nodes.length:Int)))⟩,⟨b1_0,True,(One t0)⟩]) () (Za (Za (Za (Zm (ZH rfl) (Za (Ze _)))))) (Zd rfl (Zd rfl (Zf _))) ?_;rintro⟨x_10,at_11⟩ ⟨⟩ x_12 H12 he12;dsimp only at H12;unfold EK at H12;refine zg ?_;refine zc H12 (λhc H12=>?_) λhc H12=>?_
   .refine zg ?_;refine zb H12 λx_13 _ H12=>?_
    refine Xaq rfl λb5_13=>zg ?_
    refine zn H12 λ_ ex_15 H12=>?_
    refine zX (Fd (Zt (ZP ex_15.h rfl)) rfl) ?_;refine zm H12 λ_ ex_16 H12=>?_
    refine Yg 44 rfl (λhg=>(Zt (ZP (BM ex_16.h (nF hg.h)) rfl))) rfl ?_;refine zX (Yg 44 rfl (λhg=>(AL (AP (BM ex_16.h (nF hg.h))))) rfl) ?_;refine zd H12 λ_ _ H12=>?_
    refine zc H12 (λhc H12=>?_) λhc H12=>?_
    .refine zC ?_;refine ZO<|Zi<|Zh<|Zi<|Zi<|Zh<|Zw ?_;have R17:=AQ (he12 _ (ZZs H12)) H;refine zg ?_;obtain rfl:=ZZi R17;exact Bc rfl Xg8
    .refine zC ?_;refine zh H12 λo_20 H20 H12=>?_
     refine Zs (λs:(List Int)=>o_20=.inl s) (λ(at_19:(List Int)) (_:Unit)=>(TR (TR (TR (TR (TR Xaj 1 (Pt b1_0 0)) 3 (Sl b28_3 True 0 at_19.length (Xaa (t0.Nodes.length:Int)))) 32 (D t0.Nodes)) 33 (D ((t0.Nodes.length:Int):Int))) 34 (D x_10))) (λ(at_19:(List Int)) (_:Unit)=>[⟨b28_3,True,(Row (at_19:List Int) (Xaa (t0.Nodes.length:Int)))⟩,⟨b1_0,True,(One t0)⟩]) ?_ ?_
     .skip;refine Zr<|Zx H20 (λ⟨x_21,at_22⟩ (_:Unit)=>(TR (TR (TR (TR (TR (TR (TR (TR Xaj 1 (Pt b1_0 0)) 3 (Sl b28_3 True 0 at_22.length (Xaa (t0.Nodes.length:Int)))) 4 (D x_10)) 5 (Pt b5_13 0)) 32 (D t0.Nodes)) 33 (D ((t0.Nodes.length:Int):Int))) 34 (D x_10)) 54 (D x_21))) (λ⟨x_21,at_22⟩ (_:Unit)=>[⟨b28_3,True,(Row (at_22:List Int) (Xaa (t0.Nodes.length:Int)))⟩,⟨b1_0,True,(One t0)⟩,⟨b5_13,True,(One x_13)⟩]) () (Za (Za (Za (Za (Za (Za (Zm (ZH rfl) (Za (Ze _))))))))) (Zd rfl (Zd rfl (Zd rfl (Zf _)))) ?_;rintro⟨x_21,at_22⟩ ⟨⟩ x_23 H23 he23;dsimp only at H23;unfold EJ at H23;refine zg ?_;refine zc H23 (λhc H23=>?_) λhc H23=>?_
      .refine AH<|Az<|AI ?_;refine zh H23 λo_25 H25 H23=>?_
       refine Zs (λs:(List Int)=>o_25=.inl s) (λ(at_24:(List Int)) (_:Unit)=>(TR (TR (TR (TR (TR (TR (TR (TR Xaj 1 (Pt b1_0 0)) 3 (Sl b28_3 True 0 at_24.length (Xaa (t0.Nodes.length:Int)))) 4 (D x_10)) 5 (Pt b5_13 0)) 32 (D t0.Nodes)) 33 (D ((t0.Nodes.length:Int):Int))) 34 (D x_10)) 54 (D x_21))) (λ(at_24:(List Int)) (_:Unit)=>[⟨b28_3,True,(Row (at_24:List Int) (Xaa (t0.Nodes.length:Int)))⟩,⟨b1_0,True,(One t0)⟩,⟨b5_13,True,(One x_13)⟩]) ?_ ?_
       .skip;refine zg ?_;refine zn H25 λ_ ex_26 H25=>?_
        refine zX (A4 (Ao (ZP ex_26.h (Vec.h _).symm)) rfl) ?_;refine zX (A4 (AL (PF 0 Es Int (E7 (α:=Es) (PF 0 ZZ (Vec Es 16) ZB) ex_26.h))) rfl) ?_;refine zm H25 λ_ ex_27 H25=>?_
        refine MC 64 rfl (λhg=>(Zt (ZP (BM ex_27.h (nF hg.h)) rfl))) rfl<|MC 64 rfl (λhg=>(AL (AP (BM ex_27.h (nF hg.h))))) rfl ?_;refine zd H25 λ_ _ H25=>?_
        refine zd H25 λ_ _ H25=>?_
        refine zc H25 (λhc H25=>?_) λhc H25=>?_
        .refine zC ?_;refine ZO<|Zi<|Zh<|Zw ?_;have R29:=AQ (ZZi H25) H23;refine Zi<|Zi<|Zh<|Zw ?_;have R30:=AQ (he23 _ (ZZs R29)) H12;refine Zh<|Zi<|Zi<|Zh<|Zw ?_;have R31:=AQ (he12 _ (ZZs R30)) H;refine zg ?_;obtain rfl:=ZZi R31;exact Bc rfl Xg8
        .refine zg ?_;refine zn H25 λ_ ex_33 H25=>?_
         refine TSx (Ao (ZP ex_33.h (Vec.h _).symm)) ?_;refine zX (A4 (AL (E7 (α:=Int) (PF 32 ZZ (Vec Int 16) ZB) ex_33.h)) rfl) ?_;refine zc H25 (λhc H25=>?_) λhc H25=>?_
         .refine zg ?_;exact Zl at_22 () (ZZs H25) (Za (Za (Za (Za (Za (Za (Zm (ZH rfl) (Za (Ze _))))))))) (Zd rfl (Zd rfl (Zd rfl (Zf _))))
         .refine zg ?_;refine zm H25 λ_ ex_34 H25=>?_
          refine MC 90 rfl (λhg=>(Zt (ZP (BM ex_34.h (nF hg.h)) rfl))) rfl ?_;refine zX (MC 90 rfl (λhg=>(AL (AP (BM ex_34.h (nF hg.h))))) rfl) ?_;refine zc H25 (λhc H25=>?_) λhc H25=>?_
          .refine zC ?_;refine ZO<|Zi<|Zh<|Zw ?_;have R34:=AQ (ZZi H25) H23;refine Zi<|Zi<|Zh<|Zw ?_;have R35:=AQ (he23 _ (ZZs R34)) H12;refine Zh<|Zi<|Zi<|Zh<|Zw ?_;have R36:=AQ (he12 _ (ZZs R35)) H;refine zg ?_;obtain rfl:=ZZi R36;exact Bc rfl Xg8
          .refine zg ?_;refine zn H25 λ_ ex_38 H25=>?_
           refine zX (A4 (Zt (ZP ex_38.h rfl)) rfl) ?_;refine zb H25 λ_ _ H25=>?_
           refine zn H25 λ_ ex_40 H25=>?_
           refine TSx (Zt (ZP ex_40.h rfl)) ?_;refine zE ?_;refine zn H25 λl_41 el_41 H25=>?_
           refine Ai b28_3 (Ah el_41.h) ?_;refine zX (C9 3 _ (AY el_41.h (by simp))) ?_;exact Zl l_41 () (ZZs H25) (Za (Za (Za (Za (Za (Za (Zm (ZH rfl) (Za (Ze _))))))))) (Zd rfl (Zd rfl (Zd rfl (Zf _))))
       rintro at_24 ⟨⟩ hp;replace H23:=Bs hp H23;refine zg ?_;refine zb H23 λx_42 _ H23=>?_
       exact Zv ⟨x_42,at_24⟩ () (ZZs H23) (Za (Za (Za (Za (Za (Za (Zm (ZH rfl) (Za (Ze _))))))))) (Zd rfl (Zd rfl (Zd rfl (Zf _))))
      .refine zg ?_;exact Zl at_22 () (he23 _ (ZZs H23)).symm (Za (Za (Za (Zm (ZH rfl) (Za (Ze _)))))) (Zd rfl (Zd rfl (Zf _)))
     rintro at_19 ⟨⟩ hp;replace H12:=Bs hp H12;refine zg ?_;refine zb H12 λx_43 _ H12=>?_
     exact Zv ⟨x_43,at_19⟩ () (ZZs H12) (Za (Za (Za (Zm (ZH rfl) (Za (Ze _)))))) (Zd rfl (Zd rfl (Zf _)))
   .refine zg ?_;exact Zl at_11 () (he12 _ (ZZs H12)).symm (Zm (ZH rfl) (Ze _)) (Zd rfl (Zf _))
  rintro at_8 ⟨⟩ hp;replace H:=Bs hp H;refine zC ?_;refine ZO<|XeR b28_3 (XbM 2 (ZJ XaR rfl) Xb2) ?_;refine zn H λ_ eu_44 H=>?_
  obtain rfl:=ZZi H;exact Bc rfl (Zgz (Zdo eu_44.h))
def GF(t0:Trie):Option Bool:=
 (It t0).bind λx_2=>some (decide (x_2≠[]))
instance Zci:Fd1 38 GF λr=>D r:=en1 Tryz.func38 rfl Tryz.ntmps38 λA w hA t0 r H=>by
 unfold GF at H;refine zg ?_;refine Xa9 rfl λb1_0=>zg ?_
 refine zb H λ_ _ H=>?_
 refine TSx Wu ?_;exact zY H
def JH(t0:Trie)(k0:(Vec UInt8 16))(x_7:Int)(x_11:Int)(way_13:(List Int)):Option ((Int×(List Int))⊕(List Int)):=
 bif (decide (x_11<x_7))then((idx way_13 x_11).bind λx_15=>(HP k0 x_11).bind λx_16=>(idx t0.Nodes x_15).bind λx_17=>(idx x_17.Next.l x_16).bind λx_18=>bif (decide (x_18=(0:Int)))then(some (.inr way_13))else((Dv 8 ((way_13.length+([x_18]:List Int).length:Nat):Int)).bind λu_20=>(some ((way_13++([x_18]:List Int)):(List Int))).bind λl_21=>(AC x_11 1).bind λx_22=>some (.inl (x_22,l_21))))else(some (.inr way_13))
def JI(t0:Trie)(k0:(Vec UInt8 16)):Option (List Int):=
 (GF t0).bind λx_3=>(gb (!(!x_3)) (JY k0 t0.Bits)).bind λx_4=>bif ((!x_3)||(decide (x_4≠k0)))then(some ([]:List Int))else((some (([(0:Int)]:List Int):(List Int))).bind λl_6=>(JB t0.Bits 4).bind λx_7=>(ZN (λs=>JH t0 k0 x_7 s.1 s.2) ((0:Int),l_6)).bind λway_9=>some way_9)
instance Zda:Fd2 86 JI λr=>D r:=en2 Tryz.func86 rfl Tryz.ntmps86 λA w hA t0 k0 r H=>by
 unfold JI at H;refine zg ?_;refine Xa9 rfl λb2_0=>?_
 refine Xa9 rfl λb3_1=>zg ?_
 refine zb H λ_ _ H=>?_
 refine zd H λ_ _ H=>?_
 refine zX (Yg 11 rfl (λhg=>(FK Vo (by decide) YQ rfl)) rfl) ?_;refine zc H (λhc H=>?_) λhc H=>?_
 .exact zY H
 .refine zg ?_;refine XeE [.const (.int .i64 0)] rfl rfl (by decide) rfl λb19_4=>?_
  refine zC ?_;refine zn H λ_ el_6 H=>?_
  refine ZF b19_4 (Ah el_6.h) ?_;refine zX (B8 5 _ (AY el_6.h rfl)) ?_;refine zo H λx_7 _ H=>?_
  refine zC ?_;refine zh H λo_10 H10 H=>?_
  refine Zs (λs:(List Int)=>o_10=s) (λ(way_9:(List Int)) (⟨b_7,p_7,c_7⟩:Nat×Prop×Nat)=>(TR Xaj 5 (Sl b_7 p_7 0 way_9.length c_7))) (λ(way_9:(List Int)) (⟨b_7,p_7,c_7⟩:Nat×Prop×Nat)=>[⟨b_7,p_7,(Row (way_9:List Int) c_7)⟩]) ?_ ?_
  .skip;refine Zr<|Zx H10 (λ⟨x_11,way_13⟩ (⟨b_11,p_11,c_11⟩:Nat×Prop×Nat)=>(TR (TR (TR (TR (TR Xaj 2 (Pt b2_0 0)) 3 (Pt b3_1 0)) 5 (Sl b_11 p_11 0 way_13.length c_11)) 22 (D x_7)) 23 (D x_11))) (λ⟨x_11,way_13⟩ (⟨b_11,p_11,c_11⟩:Nat×Prop×Nat)=>[⟨b_11,p_11,(Row (way_13:List Int) c_11)⟩,⟨b2_0,True,(One t0)⟩,⟨b3_1,True,(One k0)⟩]) ⟨b19_4,True,([(0:Int)]:List Int).length⟩ (Za (Za (Zm (ZH rfl) (Za (Za (Ze _)))))) (Zd rfl (Zd rfl (Zd rfl (Zf _)))) ?_;rintro⟨x_11,way_13⟩ ⟨b_11,p_11,c_11⟩ x_14 H14 he14;dsimp only at H14;unfold JH at H14;refine zg ?_;refine zc H14 (λhc H14=>?_) λhc H14=>?_
   .refine zg ?_;refine zn H14 λ_ ex_15 H14=>?_
    refine zX (Fd (Zt (ZP ex_15.h rfl)) rfl) ?_;refine zb H14 λ_ _ H14=>?_
    refine zb H14 λ_ _ H14=>?_
    refine zn H14 λx_18 ex_18 H14=>?_
    refine zX (Fd (Nv ex_18.h) rfl) ?_;refine zc H14 (λhc H14=>?_) λhc H14=>?_
    .refine zg ?_;exact Zl way_13 ⟨b_11,p_11,c_11⟩ (he14 _ (ZZs H14)).symm (Zm (ZH rfl) (Ze _)) (Zd rfl (Zf _))
    .refine zg ?_;refine TSx (Xbx [.tmp 42] rfl rfl (by decide)) ?_;refine zn H14 λ_ eu_20 H14=>?_
     refine Xdt (ys:=([x_18]:List Int)) inferInstance eu_20.h rfl rfl rfl λb44_18 p44_18 c44_18=>?_
     refine zE ?_;refine zn H14 λl_21 el_21 H14=>?_
     refine Ai b44_18 (Ah el_21.h) ?_;refine zX (C9 5 _ (AY el_21.h rfl)) ?_;refine zb H14 λx_22 _ H14=>?_
     exact Zv ⟨x_22,l_21⟩ ⟨b44_18,p44_18,c44_18⟩ (ZZs H14) (Za (Za (Zm (ZH rfl) (Za (Za (Ze _)))))) (Zd rfl (Zd rfl (Zd rfl (Zf _))))
   .refine zg ?_;exact Zl way_13 ⟨b_11,p_11,c_11⟩ (he14 _ (ZZs H14)).symm (Zm (ZH rfl) (Ze _)) (Zd rfl (Zf _))
  rintro way_9 ⟨b_7,p_7,c_7⟩ hp;replace hp:=hp.symm;subst hp;refine zC ?_;refine ZO<|XeR b_7 (XbM 4 (ZJ XaR rfl) Xb2) ?_;exact zY H
def JJ(t0:Trie)(k0:(Vec UInt8 16))(x_3:(List Int))(x_7:Int)(best_8:Es):Option ((Int×Es)⊕Es):=
 bif (decide (x_7<(x_3.length:Int)))then(((idx x_3 x_7).bind λx_12=>(HP k0 x_7).bind λx_13=>(idx t0.Nodes x_12).bind λx_14=>(idx x_14.Slots.l x_13).bind λx_15=>bif (decide (x_15.Len>best_8.Len))then(some x_15)else(some best_8)).bind λbest_10=>(AC x_7 1).bind λx_17=>some (.inl (x_17,best_10)))else(some (.inr best_8))
def GY(t0:Trie)(k0:(Vec UInt8 16)):Option (Int×UInt16×Int):=
 (JI t0 k0).bind λx_3=>bif (decide ((x_3.length:Int)=(0:Int)))then(some ((0:Int),(Xcj 0),(1:Int)))else((ZN (λs=>JJ t0 k0 x_3 s.1 s.2) ((0:Int),(Dat.z:Es))).bind λbest_5=>bif (decide (best_5.Len=(0:Int)))then(some ((0:Int),(Xcj 0),(6:Int)))else((GG best_5.Len 1).bind λx_18=>some (x_18,best_5.Hop,(0:Int))))
instance Zdb:Fd2 37 GY λr=>Tup [D r.1,D r.2.1,D r.2.2]:=en2 Tryz.func37 rfl Tryz.ntmps37 λA w hA t0 k0 r H=>by
 unfold GY at H;refine zg ?_;refine Xa9 rfl λb2_0=>?_
 refine Xa9 rfl λb3_1=>zg ?_
 refine zb H λx_3 _ H=>?_
 refine zc H (λhc H=>?_) λhc H=>?_
 .exact zY H
 .refine zg ?_;refine Xaq rfl λb8_3=>?_
  refine zC ?_;refine zC ?_;refine zh H λo_6 H6 H=>?_
  refine Zs (λs:Es=>o_6=s) (λ(best_5:Es) (_:Unit)=>(TR Xaj 8 (Pt b8_3 0))) (λ(best_5:Es) (_:Unit)=>[⟨b8_3,True,(One best_5)⟩]) ?_ ?_
  .skip;refine Zr<|Zx H6 (λ⟨x_7,best_8⟩ (_:Unit)=>(TR (TR (TR (TR (TR (TR Xaj 2 (Pt b2_0 0)) 3 (Pt b3_1 0)) 8 (Pt b8_3 0)) 18 (D x_3)) 19 (D ((x_3.length:Int):Int))) 20 (D x_7))) (λ⟨x_7,best_8⟩ (_:Unit)=>[⟨b2_0,True,(One t0)⟩,⟨b3_1,True,(One k0)⟩,⟨b8_3,True,(One best_8)⟩]) () (Za (Za (Za (Za (Za (Za (Ze _))))))) (Zd rfl (Zd rfl (Zd rfl (Zf _)))) ?_;rintro⟨x_7,best_8⟩ ⟨⟩ x_9 H9 he9;dsimp only at H9;unfold JJ at H9;refine zg ?_;refine zc H9 (λhc H9=>?_) λhc H9=>?_
   .refine AH<|Az<|AI ?_;refine zh H9 λo_11 H11 H9=>?_
    refine Zs (λs:Es=>o_11=s) (λ(best_10:Es) (_:Unit)=>(TR (TR (TR (TR (TR (TR Xaj 2 (Pt b2_0 0)) 3 (Pt b3_1 0)) 8 (Pt b8_3 0)) 18 (D x_3)) 19 (D ((x_3.length:Int):Int))) 20 (D x_7))) (λ(best_10:Es) (_:Unit)=>[⟨b2_0,True,(One t0)⟩,⟨b3_1,True,(One k0)⟩,⟨b8_3,True,(One best_10)⟩]) ?_ ?_
    .skip;refine zg ?_;refine zo H11 λ_ _ H11=>?_
     refine zC ?_;refine zX (Bd [10,11] [] mix (by kernel_rfl) (by kernel_rfl)) ?_;refine zb H11 λ_ _ H11=>?_
     refine zb H11 λ_ _ H11=>?_
     refine zn H11 λx_15 ex_15 H11=>?_
     refine zX (Fd (Nv ex_15.h) rfl) ?_;refine GT (λg=>DZ (α:=Es)) rfl<|DP (λg=>(ZD (y:=(x_15:Es)) ZB)) rfl ?_;refine zC ?_;rintro⟨⟨_,⟨b11_15,_⟩⟩,_⟩;dsimp only[XaV,XaW,XaS,Xan,Xam];refine zg ?_;refine zc H11 (λhc H11=>?_) λhc H11=>?_
     .refine zg ?_;exact Zl x_15 () (ZZs H11) (Za (Za (Za (Za (Za (Za (Ze _))))))) (Zd rfl (Zd rfl (Zd rfl (Zf _))))
     .refine zg ?_;exact Zl best_8 () (ZZs H11) (Za (Za (Za (Za (Za (Za (Ze _))))))) (Zd rfl (Zd rfl (Zd rfl (Zf _))))
    rintro best_10 ⟨⟩ hp;replace hp:=hp.symm;subst hp;refine zg ?_;refine zb H9 λx_17 _ H9=>?_
    exact Zv ⟨x_17,best_10⟩ () (ZZs H9) (Za (Za (Za (Za (Za (Za (Ze _))))))) (Zd rfl (Zd rfl (Zd rfl (Zf _))))
   .refine zg ?_;exact Zl best_8 () (he9 _ (ZZs H9)).symm (Za (Ze _)) (Zd rfl (Zf _))
  rintro best_5 ⟨⟩ hp;replace hp:=hp.symm;subst hp;exact zY H
def Hd(n0:ZZ)(x_3:Int):Option (Int⊕(Unit⊕Bool)):=
 bif (decide (x_3<(16:Int)))then((idx n0.Slots.l x_3).bind λx_5=>bif (((decide (x_5.Len<(0:Int)))||(decide (x_5.Len>(129:Int))))||((decide (x_5.Len=(0:Int)))&&(decide (x_5.Hop≠(Xcj 0)))))then(some (.inr (.inr false)))else((AC x_3 1).bind λx_8=>some (.inl x_8)))else(some (.inr (.inl ())))
def Hc(n0:ZZ)(x_10:Int):Option (Int⊕(Unit⊕Bool)):=
 bif (decide (x_10<(16:Int)))then((idx n0.Next.l x_10).bind λx_12=>bif ((decide (x_12<(0:Int)))||(decide (x_12>=(512:Int))))then(some (.inr (.inr false)))else((AC x_10 1).bind λx_14=>some (.inl x_14)))else(some (.inr (.inl ())))
def Kz(n0:ZZ):Option Bool:=
 (ZN (λs=>Hd n0 s) (0:Int)).bind λo_2=>elS o_2 (λ_=>(ZN (λs=>Hc n0 s) (0:Int)).bind λo_9=>elS o_9 (λ_=>some true) (λq=>some q)) (λq=>some q)
instance Zez:Fd1 82 Kz λr=>D r:=en1 Tryz.func82 rfl Tryz.ntmps82 λA w hA n0 r H=>by
 unfold Kz at H;refine zg ?_;refine Xa9 rfl λb1_0=>?_
 refine zC ?_;refine zC ?_;refine zh H λo_2 H2 H=>?_
 refine Zs (λs:Unit=>o_2=.inl s) (λ(_:Unit) (_:Unit)=>(TR Xaj 1 (Pt b1_0 0))) (λ(_:Unit) (_:Unit)=>[⟨b1_0,True,(One n0)⟩]) ?_ ?_
 .skip;refine Zr<|Zx H2 (λ(x_3:Int) (_:Unit)=>(TR (TR (TR Xaj 1 (Pt b1_0 0)) 8 (D n0.Slots)) 9 (D x_3))) (λ(x_3:Int) (_:Unit)=>[⟨b1_0,True,(One n0)⟩]) () (Za (Za (Za (Ze _)))) (Zd rfl (Zf _)) ?_;rintro x_3 ⟨⟩ x_4 H4 he4;unfold Hd at H4;refine zg ?_;refine zc H4 (λhc H4=>?_) λhc H4=>?_
  .refine zg ?_;refine zn H4 λ_ ex_5 H4=>?_
   refine TSx (Ki ex_5.h) ?_;refine Xaq rfl λb4_5=>zg ?_
   refine zX (Q7 24 rfl (λhp hg=>Yq) rfl) ?_;refine zc H4 (λhc H4=>?_) λhc H4=>?_
   .refine zC ?_;refine ZO<|Zh<|Zi<|Zi<|Zh<|Zw ?_;have R6:=AQ (he4 _ (ZZs H4)) H;refine zg ?_;obtain rfl:=ZZi R6;exact Bc rfl Cv.le
   .refine zg ?_;refine zb H4 λx_8 _ H4=>?_
    exact Zv x_8 () (ZZs H4) (Za (Za (Za (Ze _)))) (Zd rfl (Zf _))
  .refine zg ?_;exact Zl () () (he4 _ (ZZs H4)).symm (Za (Ze _)) (Zd rfl (Zf _))
 rintro⟨⟩ ⟨⟩ hp;replace H:=Bs hp H;refine zC ?_;refine zh H λo_9 H9 H=>?_
 refine Zs (λs:Unit=>o_9=.inl s) (λ(_:Unit) (_:Unit)=>Xaj) (λ(_:Unit) (_:Unit)=>[]) ?_ ?_
 .skip;refine Zr<|Zx H9 (λ(x_10:Int) (_:Unit)=>(TR (TR Xaj 32 (D n0.Next)) 33 (D x_10))) (λ(x_10:Int) (_:Unit)=>[]) () (Za (Za (Ze _))) (Zf _) ?_;rintro x_10 ⟨⟩ x_11 H11 he11;unfold Hc at H11;refine zg ?_;refine zc H11 (λhc H11=>?_) λhc H11=>?_
  .refine zg ?_;refine zn H11 λ_ ex_12 H11=>?_
   refine zX (A4 (Ki ex_12.h) rfl) ?_;refine zc H11 (λhc H11=>?_) λhc H11=>?_
   .refine zC ?_;refine ZO<|Zh<|Zi<|Zi<|Zh<|Zw ?_;have R12:=AQ (he11 _ (ZZs H11)) H;refine zg ?_;obtain rfl:=ZZi R12;exact Bc rfl Cv.le
   .refine zg ?_;refine zb H11 λx_14 _ H11=>?_
    exact Zv x_14 () (ZZs H11) (Za (Za (Ze _))) (Zf _)
  .refine zg ?_;exact Zl () () (he11 _ (ZZs H11)).symm (Ze _) (Zf _)
 rintro⟨⟩ ⟨⟩ hp;replace H:=Bs hp H;exact zY H
def FZ(n0:ZZ)(x_5:Int)(bx_7:(List UInt8)):Option ((Int×(List UInt8))⊕(List UInt8)):=
 bif (decide (x_5<(16:Int)))then((idx n0.Slots.l x_5).bind λx_9=>(idx n0.Next.l x_5).bind λx_11=>(WZ x_11 8).bind λx_12=>(Dv 1 ((bx_7.length+([(Xao x_9.Len),((shr16 x_9.Hop ((Xap 8).toNat:Int)).toUInt8),(x_9.Hop.toUInt8),(Xao x_12),(Xao x_11)]:List UInt8).length:Nat):Int)).bind λu_14=>(some ((bx_7++([(Xao x_9.Len),((shr16 x_9.Hop ((Xap 8).toNat:Int)).toUInt8),(x_9.Hop.toUInt8),(Xao x_12),(Xao x_11)]:List UInt8)):(List UInt8))).bind λl_15=>(AC x_5 1).bind λx_16=>some (.inl (x_16,l_15)))else(some (.inr bx_7))
def JS(b0x:(List UInt8))(n0:ZZ):Option (List UInt8):=
 (ZN (λs=>FZ n0 s.1 s.2) ((0:Int),b0x)).bind λbx_3=>some bx_3
theorem Td{b0x:(List UInt8)}{n0:ZZ}{b0 c0:Nat}{p0:Prop}{r:(List UInt8)} (H:JS b0x n0=some r):CO2 83 [⟨b0,p0,Row (b0x:List UInt8) c0⟩] (Sl b0 p0 0 b0x.length c0) (D n0) (λg:Nat×Prop×Nat=>Sl g.1 g.2.1 0 (Xat r) g.2.2) λg=>[⟨g.1,g.2.1,Row (r:List UInt8) g.2.2⟩]:=eO2 Tryz.func83 rfl Tryz.ntmps83 λA w hA hO=>by
 unfold JS at H;refine zg ?_;refine Xa9 rfl λb3_0=>?_
 refine zC ?_;refine zC ?_;refine zh H λo_4 H4 H=>?_
 refine Zs (λs:(List UInt8)=>o_4=s) (λ(bx_3:(List UInt8)) (⟨b_1,p_1,c_1⟩:Nat×Prop×Nat)=>(TR Xaj 0 (Sl b_1 p_1 0 bx_3.length c_1))) (λ(bx_3:(List UInt8)) (⟨b_1,p_1,c_1⟩:Nat×Prop×Nat)=>[⟨b_1,p_1,(Row (bx_3:List UInt8) c_1)⟩]) ?_ ?_
 .skip;refine Zr<|Zx H4 (λ⟨x_5,bx_7⟩ (⟨b_5,p_5,c_5⟩:Nat×Prop×Nat)=>(TR (TR (TR (TR Xaj 0 (Sl b_5 p_5 0 bx_7.length c_5)) 3 (Pt b3_0 0)) 9 (D n0.Slots)) 10 (D x_5))) (λ⟨x_5,bx_7⟩ (⟨b_5,p_5,c_5⟩:Nat×Prop×Nat)=>[⟨b_5,p_5,(Row (bx_7:List UInt8) c_5)⟩,⟨b3_0,True,(One n0)⟩]) ⟨b0,p0,c0⟩ (Za (Za (Za (Zm (ZH rfl) (Ze _))))) (Zd rfl (Zd rfl (Zf _))) ?_;rintro⟨x_5,bx_7⟩ ⟨b_5,p_5,c_5⟩ x_8 H8 he8;dsimp only at H8;unfold FZ at H8;refine zg ?_;refine zc H8 (λhc H8=>?_) λhc H8=>?_
  .refine zg ?_;refine zn H8 λx_9 ex_9 H8=>?_
   refine TSx (Ki ex_9.h) ?_;refine Xaq rfl λb6_9=>zg ?_
   refine zn H8 λx_11 ex_11 H8=>?_
   refine TSx (Ao (ZP ex_11.h (Vec.h _).symm)) ?_;refine zX (A4 (AL (E7 (α:=Int) (PF 32 ZZ (Vec Int 16) ZB) ex_11.h)) rfl) ?_;refine TSx (OpD.shr16 (XcM _)) ?_;refine zX (A4 HW rfl) ?_;refine zX (A4 HW rfl) ?_;refine zb H8 λx_12 _ H8=>?_
   refine TSx (Xbx [.tmp 21,.tmp 25,.tmp 28,.tmp 31,.tmp 33] rfl rfl (by decide)) ?_;refine zn H8 λ_ eu_14 H8=>?_
   refine Xdt (ys:=([(Xao x_9.Len),((shr16 x_9.Hop ((Xap 8).toNat:Int)).toUInt8),(x_9.Hop.toUInt8),(Xao x_12),(Xao x_11)]:List UInt8)) inferInstance eu_14.h rfl rfl rfl λb35_12 p35_12 c35_12=>?_
   refine zE ?_;refine zn H8 λl_15 el_15 H8=>?_
   refine Ai b35_12 (Ah el_15.h) ?_;refine zX (C9 0 _ (AY el_15.h rfl)) ?_;refine zb H8 λx_16 _ H8=>?_
   exact Zv ⟨x_16,l_15⟩ ⟨b35_12,p35_12,c35_12⟩ (ZZs H8) (Za (Za (Za (Zm (ZH rfl) (Ze _))))) (Zd rfl (Zd rfl (Zf _)))
  .refine zg ?_;exact Zl bx_7 ⟨b_5,p_5,c_5⟩ (he8 _ (ZZs H8)).symm (Zm (ZH rfl) (Ze _)) (Zd rfl (Zf _))
 rintro bx_3 ⟨b_1,p_1,c_1⟩ hp;replace hp:=hp.symm;subst hp;refine zg ?_;obtain rfl:=ZZi H;exact ZG rfl ⟨b_1,p_1,c_1⟩ (ZH rfl) (Zd rfl (Zf _))
def Hf(l0:(List ZZ))(x_9:Int)(bx_11:(List UInt8)):Option ((Int×(List UInt8))⊕((List UInt8)⊕((List UInt8)×Int))):=
 bif (decide (x_9<(l0.length:Int)))then((idx l0 x_9).bind λx_13=>(Kz x_13).bind λx_15=>bif (!x_15)then(some (.inr (.inr (([]:List UInt8),(1:Int)))))else((JS bx_11 x_13).bind λx_17=>(AC x_9 1).bind λx_19=>some (.inl (x_19,x_17))))else(some (.inr (.inl bx_11)))
def L3(l0:(List ZZ)):Option ((List UInt8)×Int):=
 bif (decide ((l0.length:Int)>(512:Int)))then(some (([]:List UInt8),(1:Int)))else((RX (l0.length:Int) (80:Int)).bind λx_1=>(Dv 1 x_1).bind λu_2=>(cut (Xaa x_1) 0 (0:Int)).bind λu_3=>(some (((Xac (Xaa x_1) (Dat.z:UInt8)).take (Xaa (0:Int))):(List UInt8))).bind λl_5=>(ZN (λs=>Hf l0 s.1 s.2) ((0:Int),l_5)).bind λo_8=>elS o_8 (λbx_7=>some (bx_7,(0:Int))) (λq=>some q))
instance ZeA:Fd1 35 L3 λr=>Tup [D r.1,D r.2]:=en1 Tryz.func35 rfl Tryz.ntmps35 λA w hA l0 r H=>by
 unfold L3 at H;refine zg ?_;refine zc H (λhc H=>?_) λhc H=>?_
 .exact zY H
 .refine zg ?_;refine zb H λx_1 _ H=>?_
  refine zn H λ_ eu_2 H=>?_
  refine zn H λ_ eu_3 H=>?_
  refine FJ eu_2.h (Xn eu_2.h eu_3.h) rfl λb13_3=>?_
  refine zC ?_;refine TU b13_3 (Xaa (0:Int)) (NV eu_2.h eu_3.h)<|B8 4 _ (ZH (Xd8 (l:=(Xac (Xaa x_1) (Dat.z:UInt8))) (NV eu_2.h eu_3.h)).symm) ?_;refine zn H λ_ el_5 H=>?_
  refine ZF b13_3 (Ah el_5.h)<|B8 4 _ (AY el_5.h rfl) ?_;refine zC ?_;refine zh H λo_8 H8 H=>?_
  refine Zs (λs:(List UInt8)=>o_8=.inl s) (λ(bx_7:(List UInt8)) (⟨b_5,p_5,c_5⟩:Nat×Prop×Nat)=>(TR Xaj 4 (Sl b_5 p_5 0 bx_7.length c_5))) (λ(bx_7:(List UInt8)) (⟨b_5,p_5,c_5⟩:Nat×Prop×Nat)=>[⟨b_5,p_5,(Row (bx_7:List UInt8) c_5)⟩]) ?_ ?_
  .skip;refine Zr<|Zx H8 (λ⟨x_9,bx_11⟩ (⟨b_9,p_9,c_9⟩:Nat×Prop×Nat)=>(TR (TR (TR (TR Xaj 4 (Sl b_9 p_9 0 bx_11.length c_9)) 14 (D l0)) 15 (D ((l0.length:Int):Int))) 16 (D x_9))) (λ⟨x_9,bx_11⟩ (⟨b_9,p_9,c_9⟩:Nat×Prop×Nat)=>[⟨b_9,p_9,(Row (bx_11:List UInt8) c_9)⟩]) ⟨b13_3,True,(Xaa x_1)⟩ (Za (Za (Za (Zm (ZH rfl) (Ze _))))) (Zd rfl (Zf _)) ?_;rintro⟨x_9,bx_11⟩ ⟨b_9,p_9,c_9⟩ x_12 H12 he12;dsimp only at H12;unfold Hf at H12;refine zg ?_;refine zc H12 (λhc H12=>?_) λhc H12=>?_
   .refine zg ?_;refine zb H12 λ_ _ H12=>?_
    refine Xaq rfl λb6_13=>zg ?_
    refine zb H12 λ_ _ H12=>?_
    refine zc H12 (λhc H12=>?_) λhc H12=>?_
    .refine zC ?_;refine ZO<|Zi<|Zh<|Zi<|Zi<|Zh<|Zw ?_;have R15:=AQ (he12 _ (ZZs H12)) H;refine zg ?_;obtain rfl:=ZZi R15;exact Eo rfl rfl (.cons Cv.le (.cons Cv.le .nil))
    .refine zg ?_;refine zn H12 λx_17 ex_17 H12=>?_
     refine D4 (oc2 [b_9] (Td ex_17.h) (slD rfl) toD) rfl λ⟨b25_17,p25_17,c25_17⟩=>?_
     refine zw ?_;refine zb H12 λx_19 _ H12=>?_
     exact Zv ⟨x_19,x_17⟩ ⟨b25_17,p25_17,c25_17⟩ (ZZs H12) (Za (Za (Za (Zm (ZH rfl) (Ze _))))) (Zd rfl (Zf _))
   .refine zg ?_;exact Zl bx_11 ⟨b_9,p_9,c_9⟩ (he12 _ (ZZs H12)).symm (Zm (ZH rfl) (Ze _)) (Zd rfl (Zf _))
  rintro bx_7 ⟨b_5,p_5,c_5⟩ hp;replace H:=Bs hp H;refine zC ?_;refine ZO<|XeR b_5 (XbM 2 (ZJ XaR rfl) Xb2) ?_;exact zY H
def DA{σ:Type}(cap1:(List UInt8))(cap2:Int)(yy:σ->Int->(List UInt8)->Option (σ×Bool))(i_4:Int)(Y_5:σ):Option ((Int×σ)⊕(σ⊕σ)):=
 (JB (cap1.length:Int) cap2).bind λx_8=>bif (decide (i_4<x_8))then((RX i_4 cap2).bind λx_9=>(AC i_4 1).bind λx_10=>(RX x_10 cap2).bind λx_11=>(cut cap1.length x_9 x_11).bind λu_12=>(yy Y_5 i_4 ((cap1.take (Xaa x_11)).drop (Xaa x_9))).bind λy_13=>bif (!y_13.2)then(some (.inr (.inr y_13.1)))else((AC i_4 1).bind λx_16=>some (.inl (x_16,y_13.1))))else(some (.inr (.inl Y_5)))
def BS{σ:Type}(yy:σ->Int->(List UInt8)->Option (σ×Bool))(Y0:σ)(cap1:(List UInt8))(cap2:Int):Option σ:=
 (ZN (λs=>DA cap1 cap2 yy s.1 s.2) ((0:Int),Y0)).bind λo_3=>elS o_3 (λY_1=>some Y_1) (λq=>some q)
theorem JR{A:Nat->Prop}{cap1:(List UInt8)}{cap2:Int} (w:World) (v1 v2:Value) (h1:(K3 cap1).p A w v1) (h2:(K3 cap2).p A w v2) :
    Zep Tryz.prog 130 [v1,v2] A w (λ{σ} y s=>BS y s cap1 cap2):=by
 refine ZdQ (it:=λ{σ} y s=>BS y s cap1 cap2) Tryz.func130 rfl Tryz.ntmps130 rfl h1 h2 ?_;intro σ yy Y0 q l J X0 r0 H hY hop
 haveI:=hop
 unfold BS at H;refine zC ?_;refine zh H λo_3 H3 H=>?_
 refine Zec hY (λs:σ=>o_3=.inl s) (λ(Y_1:σ)=>Y_1) (λ(Y_1:σ) (_:Unit)=>Xaj) (λ(Y_1:σ) (_:Unit)=>[]) ?_ ?_
 .skip;refine Zr<|ZbJ H3 hY (λ⟨i_4,Y_5⟩=>Y_5) (λ⟨i_4,Y_5⟩ (_:Unit)=>(TR (TR (TR (TR Xaj 0 (ZfW l)) 1 (K3 cap1)) 2 (K3 cap2)) 4 (D i_4))) (λ⟨i_4,Y_5⟩ (_:Unit)=>[]) () rfl (Za (Za (Za (Za (Ze _))))) (Zf _) ?_;rintro⟨i_4,Y_5⟩ ⟨⟩ x_7 H7 he7 r_5 hr_5
  haveI:=hr_5.op
  try dsimp only at H7
  unfold DA at H7;refine zg ?_;refine zb H7 λ_ _ H7=>?_
  refine zc H7 (λhc H7=>?_) λhc H7=>?_
  .refine zg ?_;refine zb H7 λ_ _ H7=>?_
   refine zb H7 λ_ _ H7=>?_
   refine zb H7 λ_ _ H7=>?_
   refine zb H7 λ_ _ H7=>?_
   refine zn H7 λy_13 ey_13 H7=>?_
   refine Yb (s':=y_13.1) (t:=y_13.2) hr_5 ey_13.h Cv.le Cv.le rfl λr_13 hr_13=>?_
   haveI:=hr_13.op
   refine zE ?_;refine Dd (hr_13.rh.trans hr_5.rh.symm) ?_;refine zc H7 (λhc H7=>?_) λhc H7=>?_
   .refine ZO<|Zh<|Zi<|Zi<|Zh<|TT ?_;have R14:=AQ (he7 _ (ZZs H7)) H;obtain rfl:=ZZi R14;exact Zd8 rfl hr_13
   .refine AH<|BV ?_;refine zX (Dd (hr_13.rh.trans hr_5.rh.symm)) ?_;refine zb H7 λx_16 _ H7=>?_
    exact ZbE hr_13 ⟨x_16,y_13.1⟩ () (ZZs H7) rfl (Za (Za (Za (Za (Ze _))))) (Zf _)
  .refine zg ?_;exact Zea hr_5 Y_5 () (he7 _ (ZZs H7)).symm rfl (Ze _) (Zf _)
 rintro Y_1 ⟨⟩ hp r_1 hr_1
 haveI:=hr_1.op
 replace H:=Bs hp H;obtain rfl:=ZZi H;exact Zd9 rfl hr_1
def GK(b0:(List UInt8))(n0:Int):Option ((List UInt8)×Int):=
 some (b0,n0)
instance Zct:Fd2 84 GK λr=>ZgH 130 (K3 r.1) (K3 r.2):=en2 Tryz.func84 rfl Tryz.ntmps84 λA w hA b0 n0 r H=>by
 unfold GK at H;refine zg ?_;refine Xa9 rfl λb2_0=>?_
 refine Xa9 rfl λb3_1=>?_
 refine zX (A4 Rk rfl) ?_;refine Xen b2_0 (XbM 2 (O1 ZB) Xb2) ?_;refine Xen b3_1 (XbM 3 (O1 ZB) Xb2) ?_;refine TSx (ZbZ (σ1:=K3 b0) Cv.le (σ2:=K3 n0) Cv.le) ?_;exact zY H
def EA(n_5:ZZ)(n_7:Int)(v_8:(List UInt8)):Option (ZZ⊕Empty):=
 (idx v_8 0).bind λx_12=>(idx v_8 1).bind λx_13=>(idx v_8 2).bind λx_14=>(idx n_5.Slots.l n_7).bind λx_15=>(some ((⟨(Xd6 n_5.Slots (Xaa n_7) (⟨(x_12.toNat:Int),((shl16 (x_13.toUInt16) ((Xap 8).toNat:Int)) ||| (x_14.toUInt16))⟩:Es)),n_5.Next⟩:ZZ):ZZ)).bind λn_16=>(idx v_8 3).bind λx_17=>(Uu (x_17.toNat:Int) 8).bind λx_18=>(idx v_8 4).bind λx_19=>(orI x_18 (x_19.toNat:Int)).bind λx_20=>(idx n_16.Next.l n_7).bind λx_21=>(some ((⟨n_16.Slots,(Xd6 n_16.Next (Xaa n_7) x_20)⟩:ZZ):ZZ)).bind λn_22=>some (.inl n_22)
def JT(b0:(List UInt8)):Option (ZZ×Int):=
 bif (decide ((b0.length:Int)≠(80:Int)))then((some ((⟨Dat.z,Dat.z⟩:ZZ):ZZ)).bind λk_2=>some (k_2,(3:Int)))else((GK b0 (5:Int)).bind λx_4=>(BS (yT2 (λ(s:ZZ) n_7 v_8=>EA s n_7 v_8)) (.inl (Dat.z:ZZ):ZZ⊕Empty) x_4.1 x_4.2).bind λo_6=>elS o_6 (λs=>(λn_5=>(Kz n_5).bind λx_24=>bif (!x_24)then((some ((⟨Dat.z,Dat.z⟩:ZZ):ZZ)).bind λk_25=>some (k_25,(2:Int)))else(some (n_5,(0:Int)))) s) (λe=>nomatch e))
theorem Te{A:Nat->Prop}{b0:(List UInt8)}  {r:(ZZ×Int)} (w:World) (v0:Value) (hA:∀k,w.heap.size<=k->A k)  (h0:(D b0).p A w v0) (H:JT b0=some r) :
    Calls Tryz.prog 85 #[v0] w (Ret A w (Tup [D r.1,D r.2])):=by
 unfold JT at H;refine zX (XP hA Tryz.func85 rfl Tryz.ntmps85 rfl h0) ?_;refine Xaq rfl λb2_0=>zg ?_
 refine zc H (λhc H=>?_) λhc H=>?_
 .refine zg ?_;refine TSx (tB (⟨Dat.z,Dat.z⟩:ZZ) rfl rfl) ?_;refine zC ?_;refine zn H λ_ ek_2 H=>?_
  refine ZF b2_0 (Ag ek_2.h)<|ZO<|Zi<|Qe rfl ?_;exact zY H
 .refine zg ?_;refine Xaq rfl λb4_2=>zg ?_
  refine zo H λx_4 _ H=>?_
  refine zC ?_;refine Zr ?_;refine zh H λo_6 H6 H=>?_
  refine Ss (it:=λ{σ} y s=>BS y s x_4.1 x_4.2) H6 rfl rfl (λA w v h=>by obtain⟨c0,c1,rfl,k0,k1⟩:=h;exact⟨[c0,c1],by simp,JR w c0 c1 k0 k1⟩) rfl rfl (λ(n_5:ZZ) (_:Unit)=>[⟨b2_0,True,(One ((Dat.z:ZZ):ZZ))⟩,⟨b4_2,True,(One n_5)⟩]) (λe _=>nomatch e) () (Zd rfl (Zd rfl (Zf _))) ?_ ?_ ?_
  .skip;rintro n_5 ⟨⟩ n_7 v_8 x_9 H9 R_9 r_9 hR_9 hop_9
   haveI:=hop_9
   try dsimp only at H9
   unfold EA at H9;refine zC ?_;refine zE ?_;refine Vb hR_9 ?_;intro r_10 hR_10 hop_10
   haveI:=hop_10
   refine Zr ?_;refine zX (Bd [18] [b4_2] mix (by kernel_rfl) (by kernel_rfl)) ?_;refine zb H9 λx_12 _ H9=>?_
   refine zb H9 λx_13 _ H9=>?_
   refine TRx HV ?_;refine zX (Fd (OpD.shl16 (XcM _)) rfl) ?_;refine zb H9 λx_14 _ H9=>?_
   refine TRx HV<|TRx Vj ?_;refine zX (Fd (O8 (⟨(x_12.toNat:Int),((shl16 (x_13.toUInt16) ((Xap 8).toNat:Int)) ||| (x_14.toUInt16))⟩:Es) rfl ⟨_,Tryz.underlying156,by kernel_rfl⟩ rfl rfl) rfl) ?_;refine zn H9 λ_ ex_15 H9=>?_
   refine TRx (Ao (ZP ex_15.h (Vec.h _).symm))<|DP (λg=>(ZD (y:=((⟨(x_12.toNat:Int),((shl16 (x_13.toUInt16) ((Xap 8).toNat:Int)) ||| (x_14.toUInt16))⟩:Es):Es)) (E7 (α:=Es) (PF 0 ZZ (Vec Es 16) ZB) ex_15.h))) rfl ?_;refine zC ?_;rintro⟨_,_⟩;dsimp only[XaV,XaW,XaS,Xan,Xam];refine zn H9 λ_ en_16 H9=>?_
   refine ZF b4_2 (Ag en_16.h) ?_;refine zX (Gf [13] [b4_2] mix (by kernel_rfl) (by kernel_rfl)) ?_;refine zb H9 λ_ _ H9=>?_
   refine zb H9 λ_ _ H9=>?_
   refine zb H9 λ_ _ H9=>?_
   refine zb H9 λx_20 _ H9=>?_
   refine zn H9 λ_ ex_21 H9=>?_
   refine TRx (Ao (ZP ex_21.h (Vec.h _).symm))<|DP (λg=>(ZD (y:=(x_20:Int)) (E7 (α:=Int) (PF 32 ZZ (Vec Int 16) ZB) ex_21.h))) rfl ?_;refine zC ?_;rintro⟨_,_⟩;dsimp only[XaV,XaW,XaS,Xan,Xam];refine zn H9 λn_22 en_22 H9=>?_
   refine zX (Ai b4_2 (Ag en_22.h)) ?_;exact Sr hR_10 n_22 () (ZZs H9) (Zd rfl (Zd rfl (Zf _)))
  .skip;rintro n_5 ⟨⟩ D_22 r_22 hx_22 hD_22
   haveI:=hD_22.op
   have H_22:=Bs hx_22 H;refine BV ?_;refine zX (Dd hD_22.rh) ?_;refine zb H_22 λ_ _ H_22=>?_
   refine zc H_22 (λhc H_22=>?_) λhc H_22=>?_
   .refine zg ?_;refine TSx (tB (⟨Dat.z,Dat.z⟩:ZZ) rfl rfl) ?_;refine zC ?_;refine zn H_22 λ_ ek_25 H_22=>?_
    refine ZF b2_0 (Ag ek_25.h)<|ZO<|Zi<|N5 hD_22 ?_;exact zY H_22
   .refine zC ?_;refine ZO<|N5 hD_22 ?_;exact zY H_22
  .skip;exact λe=>nomatch e
def DB(l_13:(List ZZ))(n_17:Int)(v_18:(List UInt8)):Option ((List ZZ)⊕((List ZZ)×Int)):=
 (JT v_18).bind λr_22=>bif (decide (r_22.2≠(0:Int)))then((some (([]:List ZZ):(List ZZ))).bind λk_24=>some (.inr (k_24,r_22.2)))else((Dv 384 ((l_13.length+([r_22.1]:List ZZ).length:Nat):Int)).bind λu_26=>(some ((l_13++([r_22.1]:List ZZ)):(List ZZ))).bind λl_27=>some (.inl l_27))
def F0(b0:(List UInt8)):Option ((List ZZ)×Int):=
 (RM (b0.length:Int) (80:Int)).bind λx_3=>bif ((decide (x_3≠(0:Int)))||(decide ((b0.length:Int)>(40960:Int))))then((some (([]:List ZZ):(List ZZ))).bind λk_4=>some (k_4,(3:Int)))else((JB (b0.length:Int) (80:Int)).bind λx_5=>(Dv 384 x_5).bind λu_6=>(cut (Xaa x_5) 0 (0:Int)).bind λu_7=>(some (((Xac (Xaa x_5) (Dat.z:ZZ)).take (Xaa (0:Int))):(List ZZ))).bind λl_10=>(GK b0 (80:Int)).bind λx_11=>(BS (yT2 (λ(s:(List ZZ)) n_17 v_18=>DB s n_17 v_18)) (.inl l_10:(List ZZ)⊕((List ZZ)×Int)) x_11.1 x_11.2).bind λo_16=>elS o_16 (λs=>(λl_13=>some (l_13,(0:Int))) s) (λs=>el2 s (λk_14 k_15=>some (k_14,k_15))))
theorem Pn{A:Nat->Prop}{b0:(List UInt8)}  {r:((List ZZ)×Int)} (w:World) (v0:Value) (hA:∀k,w.heap.size<=k->A k)  (h0:(D b0).p A w v0) (H:F0 b0=some r) :
    Calls Tryz.prog 36 #[v0] w (Ret A w (Tup [D r.1,D r.2])):=by
 unfold F0 at H;refine zX (XP hA Tryz.func36 rfl Tryz.ntmps36 rfl h0) ?_;refine Xaq rfl λb2_0=>?_
 refine Xaq rfl λb3_1=>zg ?_
 refine zb H λ_ _ H=>?_
 refine zc H (λhc H=>?_) λhc H=>?_
 .refine zC ?_;refine zn H λ_ ek_4 H=>?_
  refine ZF b2_0 (Ag ek_4.h)<|ZO<|Zi<|Qe rfl ?_;exact zY H
 .refine zg ?_;refine zb H λx_5 _ H=>?_
  refine zn H λ_ eu_6 H=>?_
  refine zn H λ_ eu_7 H=>?_
  refine FJ eu_6.h (Xn eu_6.h eu_7.h) rfl λb21_7=>?_
  refine Xaq rfl λb4_8=>?_
  refine Bk (AS (Xf5 (by decide))) ?_;refine zC ?_;refine TU b21_7 (Xaa (0:Int)) (NV eu_6.h eu_7.h)<|ZF b4_8 (Fw (Xd8 (l:=(Xac (Xaa x_5) (Dat.z:ZZ))) (NV eu_6.h eu_7.h)).symm) ?_;refine zn H λ_ el_10 H=>?_
  refine ZF b21_7 (Ah el_10.h) ?_;refine zX (ZF b4_8 (Fw (EB el_10.h rfl))) ?_;refine zo H λx_11 _ H=>?_
  refine zC ?_;refine Zr ?_;refine zh H λo_16 H16 H=>?_
  refine Ss (it:=λ{σ} y s=>BS y s x_11.1 x_11.2) H16 rfl rfl (λA w v h=>by obtain⟨c0,c1,rfl,k0,k1⟩:=h;exact⟨[c0,c1],by simp,JR w c0 c1 k0 k1⟩) rfl rfl (λ(l_13:(List ZZ)) (⟨b_11,p_11,c_11⟩:Nat×Prop×Nat)=>[⟨b_11,p_11,(Row (l_13:List ZZ) c_11)⟩,⟨b2_0,True,(One ((Dat.z:(List ZZ)):(List ZZ)))⟩,⟨b3_1,True,(One ((Dat.z:Int):Int))⟩,⟨b4_8,True,(Xa4 (One ((Dat.z:(List ZZ)):(List ZZ))) 0 (Sl b_11 p_11 0 l_13.length c_11))⟩]) (λ⟨k_14,k_15⟩ (_:Nat×Prop×Nat)=>[⟨b2_0,True,(One k_14)⟩,⟨b3_1,True,(One k_15)⟩]) ⟨b21_7,True,(Xaa x_5)⟩ (Zd rfl (Zd rfl (Zd rfl (Zd rfl (Zf _))))) ?_ ?_ ?_
  .skip;rintro l_13 ⟨b_11,p_11,c_11⟩ n_17 v_18 x_19 H19 R_19 r_19 hR_19 hop_19
   haveI:=hop_19
   try dsimp only at H19
   unfold DB at H19;refine zE ?_;refine Vb hR_19 ?_;intro r_20 hR_20 hop_20
   haveI:=hop_20
   refine zg ?_;refine zn H19 λr_22 er_22 H19=>?_
   refine zX (A4 (F8 λw v0 hA h0=>Te w v0 hA (toD h0) er_22.h) rfl) ?_;refine Xaq rfl λb7_22=>zg ?_
   refine zc H19 (λhc H19=>?_) λhc H19=>?_
   .refine zC ?_;refine zn H19 λk_24 ek_24 H19=>?_
    refine zX (ZF b2_0 (Ag ek_24.h)) ?_;exact Yi hR_20 ⟨k_24,r_22.2⟩ ⟨0,False,0⟩ (ZZs H19) (Zd rfl (Zd rfl (Zf _)))
   .refine zg ?_;refine zX (A4 (ZW Af) rfl) ?_;refine TSx (Xbx [.tmp 35] rfl rfl (by decide)) ?_;refine zn H19 λ_ eu_26 H19=>?_
    refine Xdt (ys:=([r_22.1]:List ZZ)) inferInstance eu_26.h rfl rfl rfl λb37_24 p37_24 c37_24=>?_
    refine Bk (AS Xg7) ?_;refine zE ?_;refine zn H19 λl_27 el_27 H19=>?_
    refine Ai b37_24 (Ah el_27.h) ?_;refine zX (Ai b4_8 (Fw (EB el_27.h rfl))) ?_;exact Sr hR_20 l_27 ⟨b37_24,p37_24,c37_24⟩ (ZZs H19) (Zd rfl (Zd rfl (Zd rfl (Zd rfl (Zf _)))))
  .skip;rintro l_13 ⟨b_11,p_11,c_11⟩ D_27 r_27 hx_27 hD_27
   haveI:=hD_27.op
   have H_27:=Bs hx_27 H;refine BV ?_;refine zX (Dd hD_27.rh) ?_;refine TSx (ZW Af)<|Bk (AS (Xf5 (by decide))) ?_;refine zC ?_;refine ZO<|N5 hD_27<|Xb3 b2_0 b_11 (o:=0) ((ZB).st (l_13:List ZZ)) (ZJ XaR rfl) ?_;exact zY H_27
  .skip;rintro⟨k_14,k_15⟩ _ D_28 r_28 hx_28 hD_28
   haveI:=hD_28.op
   have H_28:=AQ hx_28.symm H;replace H_28:=EX H_28;refine Zh<|Zi<|N5 hD_28 ?_;exact zY H_28
end
end Go.Proofs.YtkmojgfenlgchaaGreatDoor.Tr
