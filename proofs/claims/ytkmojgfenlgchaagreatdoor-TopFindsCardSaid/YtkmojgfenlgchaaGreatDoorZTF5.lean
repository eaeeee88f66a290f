/- What the proof leans on. Conditions: none. -/
import Derived.Test.YtkmojgfenlgchaaGreatDoorZTF4
set_option linter.all false
set_option linter.unusedSimpArgs false
set_option linter.unusedVariables false
set_option linter.unusedSectionVars false
namespace Go.Proofs.YtkmojgfenlgchaaGreatDoor.Tr
open Go
open Bool renaming not_false->Xas,and_eq_true->Xaz,not_true->XaC,eq_iff_iff->Xbt,false_eq_true->Xbu,false_or->XbL,true_and->XbU,false_and->Xb4,or_eq_true->Xcu,or_eq_false_iff->XcU,true_or->XcX,not_eq_true'->XdS,and_false->XdV,or_false->XgM
open Ct renaming mix->Xa4
open Decidable renaming not_not->XbX
open Env renaming set->TR,nil->Xaj
open Fam renaming one->XaS,nextS->XaV,nextN->XaW
open Int renaming toNat->Xaa,toNat_natCast->Xak,le_refl->XaJ,eq_ofNat_of_zero_le->Xck,natCast_nonneg->XcM,natCast_emod->Xc1,lt_or_le->Xf3,natCast_ediv->Xgx,max_eq_left->XgE
open List renaming replicate->Xac,getD_eq_getElem?_getD->Xad,getElem?_eq_getElem->Xaf,mem_singleton->Xal,nil_append->Xam,cons_append->Xan,mem_append->Xar,length->Xat,mem_cons_of_mem->Xaw,getElem_mem->Xax,length_set->XaA,take_of_length_le->XaB,length_append->XaD,length_replicate->XaK,append_assoc->XaM,getElem_of_mem->XaQ,append_nil->XaX,drop_eq_getElem_cons->Xa0,drop_of_length_le->Xa7,range->Xbe,getElem?_set_self->Xbh,take_succ_eq_append_getElem->Xbo,take_length->Xbp,all_eq_true->Xbq,getElem?_append_right->XbK,ext_getElem->XbN,set_append_right->XbS,getElem_take->Xb6,set_getElem_self->Xcc,length_range->Xct,getElem_map->XcZ,map_append->Xc9,length_map->XdC,set_set->XdG,mem_replicate->XdN,mem_map->XdO,getElem?_drop->XdP,map_congr_left->Xeq,set->Xe9,mem_or_eq_of_mem_set->Xfa,find?_cons_of_pos->Xfx,replicate_succ'->XfM,map_id->XfN,drop_length->Xgl,map_const'->Xgu
open Nat renaming mul_le_mul_right->Xah,le_refl->Xau,le_trans->XaG,min_eq_left->XaY,add_mul->Xa6,lt_or_ge->Xbd,zero_add->Xbg,add_zero->Xbw,div_eq_of_lt->Xby,add_comm->Xb1,mul_le_mul->Xb5,mod_eq_of_lt->Xcd,zero_le->Xcq,add_mul_mod_self_right->XcQ,le_of_lt->Xde,add_mul_div_right->Xdq,mul_div_cancel_left->Xec,sub_self->Xeg,shiftLeft_eq->Xe8
open OpY renaming buildSlice->Xbx
open PlS renaming all->XaR
open Sum renaming inl->XgS
open TE renaming pub->XeR
open TS renaming alloc->Xaq,box->Xa9,app->Xdt
open UInt16 renaming ofInt->Xew
open UInt64 renaming ofNat->Xap,lt_iff_toNat_lt->Xci,toNat_inj->XcN,not_le->Xe4
open UInt8 renaming ofInt->Xao,ofNat->XaN
open Vec renaming set->Xd6
open ZeM renaming set->XbM,refl->Xb2
set_option maxRecDepth 100000
section
open Go Go.RowKit
set_option synthInstance.maxHeartbeats 400000
set_option synthInstance.maxSize 4096
def AU(s0:Txt)(c0:UInt8):Option Int:=
 (Ky (idxByte s0.l c0)).bind λx_1=>some x_1
instance MB:Fd2 183 AU λr=>D r:=en2 Tryz.func183 rfl Tryz.ntmps183 λA w hA s0 c0 r H=>by
 unfold AU at H;refine zg ?_;refine zn H λ_ ex_1 H=>?_
 refine TSx (OpY.idxByte ex_1.h) ?_;exact zY H
def Be(s0:Txt)(substr0:Txt):Option Int:=
 (Ky (substr0.l.length:Int)).bind λx_1=>bif ((decide (x_1=(0:Int)))||(decide (substr0.l=s0.l)))then(some (0:Int))else(bif (decide (x_1=(1:Int)))then((idx substr0.l 0).bind λx_2=>(AU s0 x_2).bind λx_3=>some x_3)else((Ky (s0.l.length:Int)).bind λx_4=>bif (decide (x_1>=x_4))then(some (-1:Int))else(none)))
instance NX:Fd2 157 Be λr=>D r:=en2 Tryz.func157 rfl Tryz.ntmps157 λA w hA s0 substr0 r H=>by
 unfold Be at H;refine zg ?_;refine zn H λ_ ex_1 H=>?_
 refine zX (A4 (Bo ex_1.h) rfl) ?_;refine zX (MC 19 rfl (λhg=>FU) rfl) ?_;refine zc H (λhc H=>?_) λhc H=>?_
 .exact zY H
 .refine zg ?_;refine zc H (λhc H=>?_) λhc H=>?_
  .refine zg ?_;refine zn H λ_ ex_2 H=>?_
   refine TSx (FN ex_2.h) ?_;exact zY H
  .refine zg ?_;refine zn H λ_ ex_4 H=>?_
   refine zX (A4 (Bo ex_4.h) rfl) ?_;refine zc H (λhc H=>?_) λhc H=>?_
   .exact zY H
   .cases H
def CX(s0:Txt)(sep0:Txt):Option (Txt×Txt×Bool):=
 (Be s0 sep0).bind λx_1=>bif (decide (x_1>=(0:Int)))then((cut s0.l.length 0 x_1).bind λu_2=>(Ky (sep0.l.length:Int)).bind λx_3=>(AC x_1 x_3).bind λx_4=>(cut s0.l.length x_4 s0.l.length).bind λu_5=>some ((⟨(s0.l.take (Xaa x_1))⟩:Txt),(⟨(s0.l.drop (Xaa x_4))⟩:Txt),true))else(some (s0,(⟨([]:List UInt8)⟩:Txt),false))
instance Pg:Fd2 131 CX λr=>Tup [D r.1,D r.2.1,D r.2.2]:=en2 Tryz.func131 rfl Tryz.ntmps131 λA w hA s0 sep0 r H=>by
 unfold CX at H;refine zg ?_;refine zb H λ_ _ H=>?_
 refine zc H (λhc H=>?_) λhc H=>?_
 .refine zg ?_;refine zn H λ_ eu_2 H=>?_
  refine zX (Fd (Nx eu_2.h) rfl) ?_;refine zn H λ_ ex_3 H=>?_
  refine TRx (Bo ex_3.h) ?_;refine zb H λ_ _ H=>?_
  refine zn H λ_ eu_5 H=>?_
  refine TRx (Iq eu_5.h) ?_;exact zY H
 .exact zY H
def I0(s0:Txt)(sep0:Txt):Option (Txt×Txt×Bool):=
 (CX s0 sep0).bind λr_1=>some (r_1.1,r_1.2.1,r_1.2.2)
instance Zap:Fd2 89 I0 λr=>Tup [D r.1,D r.2.1,D r.2.2]:=en2 Tryz.func89 rfl Tryz.ntmps89 λ_ _ _ _ _ _ H=>by
 unfold I0 at H;exact zY H
def AT(s0:Txt):Option Int:=
 none
instance MA:Fd1 218 AT λr=>D r:=en1 Tryz.func218 rfl Tryz.ntmps218 λA w hA s0 r H=>by
 unfold AT at H;refine zg ?_;cases H
def HJ(n_2:Int):Option (Unit⊕Unit):=
 (GG n_2 1).bind λx_9=>bif (decide ((0:Int)<x_9))then(none)else(some (.inr ()))
def G1(s0:Txt)(n0:Int):Option (List Txt):=
 (AT s0).bind λx_1=>(bif ((decide (n0<(0:Int)))||(decide (n0>x_1)))then(some x_1)else(some n0)).bind λn_2=>(Dv 16 n_2).bind λu_4=>(some ((Xac (Xaa n_2) (Dat.z:Txt)):(List Txt))).bind λl_6=>(ZN (λ_:Unit=>HJ n_2) ()).bind λ_=>(bif (decide (n_2>(0:Int)))then((GG n_2 1).bind λx_12=>(idx l_6 x_12).bind λx_13=>(some ((l_6.set (Xaa x_12) s0):(List Txt))).bind λl_14=>some l_14)else(some l_6)).bind λa_10=>some a_10
instance VB:Fd2 214 G1 λr=>D r:=en2 Tryz.func214 rfl Tryz.ntmps214 λA w hA s0 n0 r H=>by
 unfold G1 at H;refine zg ?_;refine zo H λx_1 _ H=>?_
 refine zC ?_;refine AI ?_;refine zh H λo_3 H3 H=>?_
 refine Zs (λs:Int=>o_3=s) (λ(n_2:Int) (_:Unit)=>(TR (TR Xaj 0 (D s0)) 1 (D n_2))) (λ(n_2:Int) (_:Unit)=>[]) ?_ ?_
 .skip;refine zg ?_;refine zc H3 (λhc H3=>?_) λhc H3=>?_
  .refine zg ?_;exact Zl x_1 () (ZZs H3) (Za (Za (Ze _))) (Zf _)
  .refine zg ?_;exact Zl n0 () (ZZs H3) (Za (Za (Ze _))) (Zf _)
 rintro n_2 ⟨⟩ hp;replace hp:=hp.symm;subst hp;refine zg ?_;refine zn H λ_ eu_4 H=>?_
 refine FJ eu_4.h ⟨(A6 eu_4.h).1,XaJ _⟩ rfl λb21_4=>?_
 refine zC ?_;refine zn H λl_6 el_6 H=>?_
 refine ZF b21_4 (Ah el_6.h)<|B8 6 _ (AY el_6.h (by simp)) ?_;refine zC ?_;refine zh H λo_7 H7 H=>?_
 refine Zs (λs:Unit=>o_7=s) (λ(_:Unit) (_:Unit)=>(TR (TR (TR Xaj 0 (D s0)) 1 (D n_2)) 6 (Sl b21_4 True 0 l_6.length (Xaa n_2)))) (λ(_:Unit) (_:Unit)=>[⟨b21_4,True,(Row (l_6:List Txt) (Xaa n_2))⟩]) ?_ ?_
 .skip;refine Zr<|Zx H7 (λ(_:Unit) (_:Unit)=>(TR (TR (TR (TR Xaj 0 (D s0)) 1 (D n_2)) 6 (Sl b21_4 True 0 l_6.length (Xaa n_2))) 7 (D ((0:Int):Int)))) (λ(_:Unit) (_:Unit)=>[⟨b21_4,True,(Row (l_6:List Txt) (Xaa n_2))⟩]) () (Za (Zm (ZH rfl) (Za (Za (Ze _))))) (Zd rfl (Zf _)) ?_;rintro⟨⟩ ⟨⟩ x_8 H8 he8
  try dsimp only at H8
  unfold HJ at H8;refine zg ?_;refine zb H8 λ_ _ H8=>?_
  refine zc H8 (λhc H8=>?_) λhc H8=>?_
  .refine zg ?_;cases H8
  .refine zg ?_;exact Zl () () (he8 _ (ZZs H8)).symm (Zm (ZH rfl) (Za (Za (Ze _)))) (Zd rfl (Zf _))
 rintro⟨⟩ ⟨⟩ hp;replace hp:=hp.symm;subst hp;refine Az<|AI ?_;refine zh H λo_11 H11 H=>?_
 refine Zs (λs:(List Txt)=>o_11=s) (λ(a_10:(List Txt)) (_:Unit)=>(TR Xaj 6 (Sl b21_4 True 0 a_10.length (Xaa n_2)))) (λ(a_10:(List Txt)) (_:Unit)=>[⟨b21_4,True,(Row (a_10:List Txt) (Xaa n_2))⟩]) ?_ ?_
 .skip;refine zg ?_;refine zc H11 (λhc H11=>?_) λhc H11=>?_
  .refine zg ?_;refine zb H11 λ_ _ H11=>?_
   refine zn H11 λ_ ex_13 H11=>?_
   refine TSx (Zt (ZP ex_13.h rfl)) ?_;refine zE ?_;refine zn H11 λl_14 el_14 H11=>?_
   exact Ai b21_4 (Ah el_14.h)<|C9 6 _ (AY el_14.h (by simp))<|Zl l_14 () (ZZs H11) (Zm (ZH rfl) (Ze _)) (Zd rfl (Zf _))
  .refine zg ?_;exact Zl l_6 () (ZZs H11) (Zm (ZH rfl) (Ze _)) (Zd rfl (Zf _))
 rintro a_10 ⟨⟩ hp;replace hp:=hp.symm;subst hp;refine zC ?_;refine ZO<|XeR b21_4 (XbM 4 (ZJ XaR rfl) Xb2) ?_;exact zY H
def Gn(s0:Txt)(substr0:Txt):Option Int:=
 (Be s0 substr0).bind λx_1=>some x_1
instance WR:Fd2 216 Gn λr=>D r:=en2 Tryz.func216 rfl Tryz.ntmps216 λ_ _ _ _ _ _ H=>by
 unfold Gn at H;exact zY H
def Jt(substr0:Txt)(s_7:Txt)(n_8:Int):Option ((Txt×Int)⊕Int):=
 (Gn s_7 substr0).bind λx_10=>bif (decide (x_10=(-1:Int)))then(some (.inr n_8))else((AC n_8 1).bind λx_11=>(Ky (substr0.l.length:Int)).bind λx_12=>(AC x_10 x_12).bind λx_13=>(cut s_7.l.length x_13 s_7.l.length).bind λu_14=>some (.inl ((⟨(s_7.l.drop (Xaa x_13))⟩:Txt),x_11)))
def I1(s0:Txt)(substr0:Txt):Option Int:=
 (Ky (substr0.l.length:Int)).bind λx_1=>bif (decide (x_1=(0:Int)))then((AT s0).bind λx_2=>(AC x_2 1).bind λx_3=>some x_3)else((Ky (substr0.l.length:Int)).bind λx_4=>bif (decide (x_4=(1:Int)))then((idx substr0.l 0).bind λx_5=>(Ky (cntByte s0.l x_5)).bind λx_6=>some x_6)else(ZN (λs=>Jt substr0 s.1 s.2) (s0,(0:Int))))
instance WT:Fd2 215 I1 λr=>D r:=en2 Tryz.func215 rfl Tryz.ntmps215 λA w hA s0 substr0 r H=>by
 unfold I1 at H;refine zg ?_;refine zn H λ_ ex_1 H=>?_
 refine zX (A4 (Bo ex_1.h) rfl) ?_;refine zc H (λhc H=>?_) λhc H=>?_
 .exact zY H
 .refine zg ?_;refine zn H λ_ ex_4 H=>?_
  refine zX (A4 (Bo ex_4.h) rfl) ?_;refine zc H (λhc H=>?_) λhc H=>?_
  .refine zg ?_;refine zn H λ_ ex_5 H=>?_
   refine TSx (FN ex_5.h) ?_;refine zn H λ_ ex_6 H=>?_
   refine TSx (OpY.cntByte ex_6.h) ?_;exact zY H
  .refine zC ?_;refine Zr<|Zx H (λ⟨s_7,n_8⟩ (_:Unit)=>(TR (TR (TR Xaj 0 (D s_7)) 1 (D substr0)) 5 (D n_8))) (λ⟨s_7,n_8⟩ (_:Unit)=>[]) () (Za (Za (Za (Ze _)))) (Zf _) ?_;rintro⟨s_7,n_8⟩ ⟨⟩ x_9 H9 he9;dsimp only at H9;unfold Jt at H9;refine zg ?_;refine zb H9 λ_ _ H9=>?_
   refine zc H9 (λhc H9=>?_) λhc H9=>?_
   .refine zg ?_;obtain rfl:=(he9 _ (ZZs H9));exact Bc rfl Cv.le
   .refine zg ?_;refine zb H9 λx_11 _ H9=>?_
    refine zn H9 λ_ ex_12 H9=>?_
    refine TSx (Bo ex_12.h) ?_;refine zb H9 λx_13 _ H9=>?_
    refine zn H9 λ_ eu_14 H9=>?_
    refine zX (A4 (Iq eu_14.h) rfl) ?_;exact Zv ⟨(⟨(s_7.l.drop (Xaa x_13))⟩:Txt),x_11⟩ () (ZZs H9) (Za (Za (Za (Ze _)))) (Zf _)
def G0(sep0:Txt)(sepSave0:Int)(x_11:Int)(s_16:Txt)(i_17:Int)(a_18:(List Txt)):Option ((Txt×Int×(List Txt))⊕(Txt×Int×(List Txt))):=
 bif (decide (i_17<x_11))then((Gn s_16 sep0).bind λx_20=>bif (decide (x_20<(0:Int)))then(some (.inr (s_16,i_17,a_18)))else((AC x_20 sepSave0).bind λx_21=>(cut s_16.l.length 0 x_21).bind λu_22=>(idx a_18 i_17).bind λx_23=>(some ((a_18.set (Xaa i_17) (⟨(s_16.l.take (Xaa x_21))⟩:Txt)):(List Txt))).bind λl_24=>(Ky (sep0.l.length:Int)).bind λx_25=>(AC x_20 x_25).bind λx_26=>(cut s_16.l.length x_26 s_16.l.length).bind λu_27=>(AC i_17 1).bind λx_28=>some (.inl ((⟨(s_16.l.drop (Xaa x_26))⟩:Txt),x_28,l_24))))else(some (.inr (s_16,i_17,a_18)))
def F9(s0:Txt)(sep0:Txt)(sepSave0:Int)(n0:Int):Option (List Txt):=
 bif (decide (n0=(0:Int)))then(some ([]:List Txt))else(bif (decide (sep0.l=([]:List UInt8)))then((G1 s0 n0).bind λx_1=>some x_1)else((bif (decide (n0<(0:Int)))then((I1 s0 sep0).bind λx_4=>(AC x_4 1).bind λx_5=>some x_5)else(some n0)).bind λn_2=>(Ky (s0.l.length:Int)).bind λx_6=>(AC x_6 1).bind λx_7=>(Dv 16 (min n_2 x_7)).bind λu_8=>(some ((Xac (Xaa (min n_2 x_7)) (Dat.z:Txt)):(List Txt))).bind λl_10=>(GG (min n_2 x_7) (1:Int)).bind λx_11=>(ZN (λs=>G0 sep0 sepSave0 x_11 s.1 s.2.1 s.2.2) (s0,(0:Int),l_10)).bind λo_15=>el3 o_15 (λs_12 i_13 a_14=>(idx a_14 i_13).bind λx_29=>(some ((a_14.set (Xaa i_13) s_12):(List Txt))).bind λl_30=>(AC i_13 1).bind λx_31=>(cut l_30.length 0 x_31).bind λu_32=>(some ((l_30.take (Xaa x_31)):(List Txt))).bind λl_33=>some l_33)))
instance Uq:Fd4 204 F9 λr=>D r:=en4 Tryz.func204 rfl Tryz.ntmps204 λA w hA s0 sep0 sepSave0 n0 r H=>by
 unfold F9 at H;refine zg ?_;refine zc H (λhc H=>?_) λhc H=>?_
 .exact zY H
 .refine zg ?_;refine zX (A4 FU rfl) ?_;refine zc H (λhc H=>?_) λhc H=>?_
  .exact zY H
  .refine AH<|Az<|AI ?_;refine zh H λo_3 H3 H=>?_
   refine Zs (λs:Int=>o_3=s) (λ(n_2:Int) (_:Unit)=>(TR (TR (TR (TR Xaj 0 (D s0)) 1 (D sep0)) 2 (D sepSave0)) 3 (D n_2))) (λ(n_2:Int) (_:Unit)=>[]) ?_ ?_
   .skip;refine zg ?_;refine zc H3 (λhc H3=>?_) λhc H3=>?_
    .refine zg ?_;refine zb H3 λ_ _ H3=>?_
     refine zb H3 λx_5 _ H3=>?_
     exact Zl x_5 () (ZZs H3) (Za (Za (Za (Za (Ze _))))) (Zf _)
    .refine zg ?_;exact Zl n0 () (ZZs H3) (Za (Za (Za (Za (Ze _))))) (Zf _)
   rintro n_2 ⟨⟩ hp;replace hp:=hp.symm;subst hp;refine zg ?_;refine zn H λ_ ex_6 H=>?_
   refine TSx (Bo ex_6.h) ?_;refine zb H λx_7 _ H=>?_
   refine zn H λ_ eu_8 H=>?_
   refine FJ eu_8.h ⟨(A6 eu_8.h).1,XaJ _⟩ rfl λb31_8=>?_
   refine zC ?_;refine zn H λ_ el_10 H=>?_
   refine ZF b31_8 (Ah el_10.h) ?_;refine zX (B8 9 _ (AY el_10.h (by simp))) ?_;refine zo H λx_11 _ H=>?_
   refine zC ?_;refine zC ?_;refine AI ?_;refine zh H λo_15 H15 H=>?_
   refine Zs (λs:(Txt×Int×(List Txt))=>o_15=s) (λ⟨s_12,i_13,a_14⟩ (_:Unit)=>(TR (TR (TR Xaj 0 (D s_12)) 9 (Sl b31_8 True 0 a_14.length (Xaa (min n_2 x_7)))) 10 (D i_13))) (λ⟨s_12,i_13,a_14⟩ (_:Unit)=>[⟨b31_8,True,(Row (a_14:List Txt) (Xaa (min n_2 x_7)))⟩]) ?_ ?_
   .skip;refine Zr<|Zx H15 (λ⟨s_16,i_17,a_18⟩ (_:Unit)=>(TR (TR (TR (TR (TR (TR Xaj 0 (D s_16)) 1 (D sep0)) 2 (D sepSave0)) 3 (D x_11)) 9 (Sl b31_8 True 0 a_18.length (Xaa (min n_2 x_7)))) 10 (D i_17))) (λ⟨s_16,i_17,a_18⟩ (_:Unit)=>[⟨b31_8,True,(Row (a_18:List Txt) (Xaa (min n_2 x_7)))⟩]) () (Za (Zm (ZH rfl) (Za (Za (Za (Za (Ze _))))))) (Zd rfl (Zf _)) ?_;rintro⟨s_16,i_17,a_18⟩ ⟨⟩ x_19 H19 he19;dsimp only at H19;unfold G0 at H19;refine zg ?_;refine zc H19 (λhc H19=>?_) λhc H19=>?_
    .refine zg ?_;refine zb H19 λ_ _ H19=>?_
     refine zc H19 (λhc H19=>?_) λhc H19=>?_
     .refine zg ?_;exact Zl ⟨s_16,i_17,a_18⟩ () (he19 _ (ZZs H19)).symm (Za (Zm (ZH rfl) (Za (Ze _)))) (Zd rfl (Zf _))
     .refine zg ?_;refine zb H19 λ_ _ H19=>?_
      refine zn H19 λ_ eu_22 H19=>?_
      refine TSx (Nx eu_22.h) ?_;refine zn H19 λ_ ex_23 H19=>?_
      refine TSx (Zt (ZP ex_23.h rfl)) ?_;refine zC ?_;refine zn H19 λl_24 el_24 H19=>?_
      refine ZF b31_8 (Ah el_24.h) ?_;refine zX (B8 9 _ (AY el_24.h (by simp))) ?_;refine zn H19 λ_ ex_25 H19=>?_
      refine TSx (Bo ex_25.h) ?_;refine zb H19 λx_26 _ H19=>?_
      refine zn H19 λ_ eu_27 H19=>?_
      refine zX (A4 (Iq eu_27.h) rfl) ?_;refine zb H19 λx_28 _ H19=>?_
      exact Zv ⟨(⟨(s_16.l.drop (Xaa x_26))⟩:Txt),x_28,l_24⟩ () (ZZs H19) (Za (Zm (ZH rfl) (Za (Za (Za (Za (Ze _))))))) (Zd rfl (Zf _))
    .refine zg ?_;exact Zl ⟨s_16,i_17,a_18⟩ () (he19 _ (ZZs H19)).symm (Za (Zm (ZH rfl) (Za (Ze _)))) (Zd rfl (Zf _))
   rintro⟨s_12,i_13,a_14⟩ ⟨⟩ hp;replace hp:=hp.symm;subst hp;replace H:=ZcM H;refine zg ?_;refine zn H λ_ ex_29 H=>?_
   refine TSx (Zt (ZP ex_29.h rfl)) ?_;refine zC ?_;refine zn H λl_30 el_30 H=>?_
   refine ZF b31_8 (Ah el_30.h) ?_;refine zX (B8 9 _ (AY el_30.h (by simp))) ?_;refine zb H λx_31 _ H=>?_
   refine zn H λ_ eu_32 H=>?_
   refine TSx (E8 (EY eu_32.h rfl).2.1 (EY eu_32.h rfl).2.2) ?_;refine zC ?_;refine TU b31_8 (Xaa x_31) (M0 eu_32.h)<|B8 8 _ (ZH (List.length_take_of_le (l:=l_30) (M0 eu_32.h)).symm) ?_;refine zn H λ_ el_33 H=>?_
   refine ZF b31_8 (Ah el_33.h)<|B8 8 _ (AY el_33.h rfl)<|ZO<|XeR b31_8 (XbM 8 (ZJ XaR rfl) Xb2) ?_;exact zY H
def IZ(s0:Txt)(sep0:Txt):Option (List Txt):=
 (F9 s0 sep0 (0:Int) (-1:Int)).bind λx_1=>some x_1
instance WQ:Fd2 187 IZ λr=>D r:=en2 Tryz.func187 rfl Tryz.ntmps187 λ_ _ _ _ _ _ H=>by
 unfold IZ at H;exact zY H
def JN(s0:Txt)(top0:Int)(x_3:Int)(n_6:Int)(x_7:Int):Option ((Int×Int)⊕(Int⊕(Int×Bool))):=
 bif (decide (x_7<x_3))then((idx s0.l x_7).bind λx_9=>(gb (!(decide (x_9<(XaN 48)))) (idx s0.l x_7)).bind λx_10=>bif ((decide (x_9<(XaN 48)))||(decide ((XaN 57)<x_10)))then(some (.inr (.inr ((0:Int),false))))else((RX (10:Int) n_6).bind λx_12=>(idx s0.l x_7).bind λx_13=>(AC x_12 ((x_13-(XaN 48)).toNat:Int)).bind λx_14=>bif (decide (x_14>top0))then(some (.inr (.inr ((0:Int),false))))else((AC x_7 1).bind λx_16=>some (.inl (x_14,x_16)))))else(some (.inr (.inl n_6)))
def FW(s0:Txt)(top0:Int):Option (Int×Bool):=
 (gb (!(decide (s0.l=([]:List UInt8)))) (Ky (s0.l.length:Int))).bind λx_1=>(gb ((!(decide (s0.l=([]:List UInt8))))&&(decide (x_1>(1:Int)))) (idx s0.l 0)).bind λx_2=>bif ((decide (s0.l=([]:List UInt8)))||((decide (x_1>(1:Int)))&&(decide (x_2=(XaN 48)))))then(some ((0:Int),false))else((Ky (s0.l.length:Int)).bind λx_3=>(ZN (λs=>JN s0 top0 x_3 s.1 s.2) ((0:Int),(0:Int))).bind λo_5=>elS o_5 (λn_4=>some (n_4,true)) (λq=>some q))
instance YX:Fd2 91 FW λr=>Tup [D r.1,D r.2]:=en2 Tryz.func91 rfl Tryz.ntmps91 λA w hA s0 top0 r H=>by
 unfold FW at H;refine zg ?_;refine zX (A4 FU rfl) ?_;refine zm H λ_ ex_1 H=>?_
 refine zX (MC 10 rfl (λhg=>(Bo (BM ex_1.h (nF hg.h)))) rfl) ?_;refine zm H λ_ ex_2 H=>?_
 refine Q7 14 rfl (λhp hg=>(FN (BM ex_2.h (aT (nF hp.h) hg.h)))) rfl ?_;refine zX (Q7 14 rfl (λhp hg=>Rj) rfl) ?_;refine zc H (λhc H=>?_) λhc H=>?_
 .exact zY H
 .refine zg ?_;refine zn H λx_3 ex_3 H=>?_
  refine TSx (Bo ex_3.h) ?_;refine zC ?_;refine zh H λo_5 H5 H=>?_
  refine Zs (λs:Int=>o_5=.inl s) (λ(n_4:Int) (_:Unit)=>(TR Xaj 6 (D n_4))) (λ(n_4:Int) (_:Unit)=>[]) ?_ ?_
  .skip;refine Zr<|Zx H5 (λ⟨n_6,x_7⟩ (_:Unit)=>(TR (TR (TR (TR (TR Xaj 0 (D s0)) 1 (D top0)) 6 (D n_6)) 21 (D x_3)) 22 (D x_7))) (λ⟨n_6,x_7⟩ (_:Unit)=>[]) () (Za (Za (Za (Za (Za (Ze _)))))) (Zf _) ?_;rintro⟨n_6,x_7⟩ ⟨⟩ x_8 H8 he8;dsimp only at H8;unfold JN at H8;refine zg ?_;refine zc H8 (λhc H8=>?_) λhc H8=>?_
   .refine zg ?_;refine zn H8 λ_ ex_9 H8=>?_
    refine TSx (FN ex_9.h) ?_;refine zX (A4 ZbW rfl) ?_;refine zm H8 λ_ ex_10 H8=>?_
    refine MC 29 rfl (λhg=>(FN (BM ex_10.h (nF hg.h)))) rfl ?_;refine zX (MC 29 rfl (λhg=>ZbY) rfl) ?_;refine zc H8 (λhc H8=>?_) λhc H8=>?_
    .refine zC ?_;refine ZO<|Zi<|Zh<|Zi<|Zi<|Zh<|Zw ?_;have R10:=AQ (he8 _ (ZZs H8)) H;refine zg ?_;obtain rfl:=ZZi R10;exact Eo rfl rfl (.cons Cv.le (.cons Cv.le .nil))
    .refine zg ?_;refine zb H8 λ_ _ H8=>?_
     refine zn H8 λ_ ex_13 H8=>?_
     refine TSx (FN ex_13.h) ?_;refine zX (A4 ZbP rfl) ?_;refine zb H8 λx_14 _ H8=>?_
     refine zc H8 (λhc H8=>?_) λhc H8=>?_
     .refine zC ?_;refine ZO<|Zh<|Zi<|Zi<|Zh<|Zw ?_;have R14:=AQ (he8 _ (ZZs H8)) H;refine zg ?_;obtain rfl:=ZZi R14;exact Eo rfl rfl (.cons Cv.le (.cons Cv.le .nil))
     .refine zg ?_;refine zb H8 λx_16 _ H8=>?_
      exact Zv ⟨x_14,x_16⟩ () (ZZs H8) (Za (Za (Za (Za (Za (Ze _)))))) (Zf _)
   .refine zg ?_;exact Zl n_6 () (he8 _ (ZZs H8)).symm (Za (Ze _)) (Zf _)
  rintro n_4 ⟨⟩ hp;replace H:=Bs hp H;exact zY H
def K7(x_2:(List Txt))(x_6:Int)(k_7:(Vec UInt8 16)):Option ((Int×(Vec UInt8 16))⊕((Vec UInt8 16)⊕((Vec UInt8 16)×Bool))):=
 bif (decide (x_6<(x_2.length:Int)))then((idx x_2 x_6).bind λx_9=>(FW x_9 (255:Int)).bind λr_10=>bif (!r_10.2)then(some (.inr (.inr ((Dat.z:(Vec UInt8 16)),false))))else((idx k_7.l x_6).bind λx_12=>(some ((Xd6 k_7 (Xaa x_6) (Xao r_10.1)):(Vec UInt8 16))).bind λk_13=>(AC x_6 1).bind λx_14=>some (.inl (x_14,k_13))))else(some (.inr (.inl k_7)))
def Ln(s0:Txt):Option ((Vec UInt8 16)×Bool):=
 (IZ s0 (⟨([46]:List UInt8)⟩:Txt)).bind λx_2=>bif (decide ((x_2.length:Int)≠(4:Int)))then(some ((Dat.z:(Vec UInt8 16)),false))else((ZN (λs=>K7 x_2 s.1 s.2) ((0:Int),(Dat.z:(Vec UInt8 16)))).bind λo_5=>elS o_5 (λk_4=>some (k_4,true)) (λq=>some q))
instance Zaw:Fd1 158 Ln λr=>Tup [D r.1,D r.2]:=en1 Tryz.func158 rfl Tryz.ntmps158 λA w hA s0 r H=>by
 unfold Ln at H;refine zg ?_;refine Xaq rfl λb2_0=>zg ?_
 refine zb H λx_2 _ H=>?_
 refine zc H (λhc H=>?_) λhc H=>?_
 .refine zg ?_;refine TSx (DS (ps:=_) (Dat.z:(Vec UInt8 16)) rfl Tryz.underlying83 rfl) ?_;exact zY H
 .refine zg ?_;refine Xaq rfl λb5_2=>?_
  refine zC ?_;refine zC ?_;refine zh H λo_5 H5 H=>?_
  refine Zs (λs:(Vec UInt8 16)=>o_5=.inl s) (λ(k_4:(Vec UInt8 16)) (_:Unit)=>(TR (TR Xaj 2 (Pt b2_0 0)) 5 (Pt b5_2 0))) (λ(k_4:(Vec UInt8 16)) (_:Unit)=>[⟨b2_0,True,(One ((Dat.z:(Vec UInt8 16)):(Vec UInt8 16)))⟩,⟨b5_2,True,(One k_4)⟩]) ?_ ?_
  .skip;refine Zr<|Zx H5 (λ⟨x_6,k_7⟩ (_:Unit)=>(TR (TR (TR (TR (TR Xaj 2 (Pt b2_0 0)) 5 (Pt b5_2 0)) 16 (D x_2)) 17 (D ((x_2.length:Int):Int))) 18 (D x_6))) (λ⟨x_6,k_7⟩ (_:Unit)=>[⟨b2_0,True,(One ((Dat.z:(Vec UInt8 16)):(Vec UInt8 16)))⟩,⟨b5_2,True,(One k_7)⟩]) () (Za (Za (Za (Za (Za (Ze _)))))) (Zd rfl (Zd rfl (Zf _))) ?_;rintro⟨x_6,k_7⟩ ⟨⟩ x_8 H8 he8;dsimp only at H8;unfold K7 at H8;refine zg ?_;refine zc H8 (λhc H8=>?_) λhc H8=>?_
   .refine zg ?_;refine zb H8 λ_ _ H8=>?_
    refine zb H8 λr_10 _ H8=>?_
    refine zc H8 (λhc H8=>?_) λhc H8=>?_
    .refine zg ?_;refine TSx (DS (ps:=_) (Dat.z:(Vec UInt8 16)) rfl Tryz.underlying83 rfl) ?_;refine zC ?_;refine ZO<|Zi<|Zh<|Zi<|Zi<|Zh<|Zw ?_;have R10:=AQ (he8 _ (ZZs H8)) H;refine zg ?_;obtain rfl:=ZZi R10;exact Eo rfl rfl (.cons Cv.le (.cons Cv.le .nil))
    .refine zg ?_;refine zn H8 λ_ ex_12 H8=>?_
     refine TSx (Ao (ZP ex_12.h (Vec.h _).symm))<|Bk (ZD (y:=((Xao r_10.1):UInt8)) (E7 (α:=UInt8) ZB ex_12.h)) ?_;refine zE ?_;refine zn H8 λk_13 ek_13 H8=>?_
     refine zX (Ai b5_2 (Ag ek_13.h)) ?_;refine zb H8 λx_14 _ H8=>?_
     exact Zv ⟨x_14,k_13⟩ () (ZZs H8) (Za (Za (Za (Za (Za (Ze _)))))) (Zd rfl (Zd rfl (Zf _)))
   .refine zg ?_;exact Zl k_7 () (he8 _ (ZZs H8)).symm (Za (Za (Ze _))) (Zd rfl (Zd rfl (Zf _)))
  rintro k_4 ⟨⟩ hp;replace H:=Bs hp H;exact zY H
def Fp(s0:Txt)(c0:UInt8):Option Int:=
 (AU s0 c0).bind λx_1=>some x_1
instance SX:Fd2 188 Fp λr=>D r:=en2 Tryz.func188 rfl Tryz.ntmps188 λ_ _ _ _ _ _ H=>by
 unfold Fp at H;exact zY H
def LU(s0:Txt)(x_4:Int)(x_7:Int)(k_8:(Vec UInt8 16)):Option ((Int×(Vec UInt8 16))⊕((Vec UInt8 16)⊕((Vec UInt8 16)×Bool))):=
 bif (decide (x_7<x_4))then((idx s0.l x_7).bind λx_10=>(Fp (⟨([48,49,50,51,52,53,54,55,56,57,97,98,99,100,101,102]:List UInt8)⟩:Txt) x_10).bind λx_11=>bif (decide (x_11<(0:Int)))then(some (.inr (.inr ((Dat.z:(Vec UInt8 16)),false))))else((JB x_7 2).bind λx_13=>(JB x_7 2).bind λx_14=>(idx k_8.l x_14).bind λx_15=>(idx k_8.l x_13).bind λx_16=>(some ((Xd6 k_8 (Xaa x_13) ((shl8 x_15 ((Xap 4).toNat:Int)) ||| (Xao x_11))):(Vec UInt8 16))).bind λk_17=>(AC x_7 1).bind λx_18=>some (.inl (x_18,k_17))))else(some (.inr (.inl k_8)))
def ML(s0:Txt):Option ((Vec UInt8 16)×Bool):=
 (Ky (s0.l.length:Int)).bind λx_3=>bif (decide (x_3≠(32:Int)))then(some ((Dat.z:(Vec UInt8 16)),false))else((Ky (s0.l.length:Int)).bind λx_4=>(ZN (λs=>LU s0 x_4 s.1 s.2) ((0:Int),(Dat.z:(Vec UInt8 16)))).bind λo_6=>elS o_6 (λk_5=>some (k_5,true)) (λq=>some q))
instance Zcm:Fd1 159 ML λr=>Tup [D r.1,D r.2]:=en1 Tryz.func159 rfl Tryz.ntmps159 λA w hA s0 r H=>by
 unfold ML at H;refine zg ?_;refine Xaq rfl λb2_0=>zg ?_
 refine Xaq rfl λb4_1=>zg ?_
 refine zn H λ_ ex_3 H=>?_
 refine zX (A4 (Bo ex_3.h) rfl) ?_;refine zc H (λhc H=>?_) λhc H=>?_
 .refine zg ?_;refine TSx (DS (ps:=_) (Dat.z:(Vec UInt8 16)) rfl Tryz.underlying83 rfl) ?_;exact zY H
 .refine zg ?_;refine zn H λx_4 ex_4 H=>?_
  refine TSx (Bo ex_4.h) ?_;refine zC ?_;refine zh H λo_6 H6 H=>?_
  refine Zs (λs:(Vec UInt8 16)=>o_6=.inl s) (λ(k_5:(Vec UInt8 16)) (_:Unit)=>(TR (TR Xaj 2 (Pt b2_0 0)) 4 (Pt b4_1 0))) (λ(k_5:(Vec UInt8 16)) (_:Unit)=>[⟨b2_0,True,(One ((Dat.z:(Vec UInt8 16)):(Vec UInt8 16)))⟩,⟨b4_1,True,(One k_5)⟩]) ?_ ?_
  .skip;refine Zr<|Zx H6 (λ⟨x_7,k_8⟩ (_:Unit)=>(TR (TR (TR (TR (TR Xaj 0 (D s0)) 2 (Pt b2_0 0)) 4 (Pt b4_1 0)) 12 (D x_4)) 13 (D x_7))) (λ⟨x_7,k_8⟩ (_:Unit)=>[⟨b2_0,True,(One ((Dat.z:(Vec UInt8 16)):(Vec UInt8 16)))⟩,⟨b4_1,True,(One k_8)⟩]) () (Za (Za (Za (Za (Za (Ze _)))))) (Zd rfl (Zd rfl (Zf _))) ?_;rintro⟨x_7,k_8⟩ ⟨⟩ x_9 H9 he9;dsimp only at H9;unfold LU at H9;refine zg ?_;refine zc H9 (λhc H9=>?_) λhc H9=>?_
   .refine zg ?_;refine zn H9 λ_ ex_10 H9=>?_
    refine TSx (FN ex_10.h) ?_;refine zb H9 λx_11 _ H9=>?_
    refine zc H9 (λhc H9=>?_) λhc H9=>?_
    .refine zg ?_;refine TSx (DS (ps:=_) (Dat.z:(Vec UInt8 16)) rfl Tryz.underlying83 rfl) ?_;refine zC ?_;refine ZO<|Zi<|Zh<|Zi<|Zi<|Zh<|Zw ?_;have R11:=AQ (he9 _ (ZZs H9)) H;refine zg ?_;obtain rfl:=ZZi R11;exact Eo rfl rfl (.cons Cv.le (.cons Cv.le .nil))
    .refine zg ?_;refine zb H9 λ_ _ H9=>?_
     refine zb H9 λ_ _ H9=>?_
     refine zn H9 λx_15 ex_15 H9=>?_
     refine TSx (Ao (ZP ex_15.h (Vec.h _).symm))<|TSx (AL (E7 (α:=UInt8) ZB ex_15.h)) ?_;refine zX (A4 (OpD.shl8 (XcM _)) rfl) ?_;refine TSx T3 ?_;refine zn H9 λ_ ex_16 H9=>?_
     refine TSx (Ao (ZP ex_16.h (Vec.h _).symm))<|Bk (ZD (y:=(((shl8 x_15 ((Xap 4).toNat:Int)) ||| (Xao x_11)):UInt8)) (E7 (α:=UInt8) ZB ex_16.h)) ?_;refine zE ?_;refine zn H9 λk_17 ek_17 H9=>?_
     refine zX (Ai b4_1 (Ag ek_17.h)) ?_;refine zb H9 λx_18 _ H9=>?_
     exact Zv ⟨x_18,k_17⟩ () (ZZs H9) (Za (Za (Za (Za (Za (Ze _)))))) (Zd rfl (Zd rfl (Zf _)))
   .refine zg ?_;exact Zl k_8 () (he9 _ (ZZs H9)).symm (Za (Za (Ze _))) (Zd rfl (Zd rfl (Zf _)))
  rintro k_5 ⟨⟩ hp;replace H:=Bs hp H;exact zY H
def I3(s0:Txt):Option ((Vec UInt8 16)×Int×Int):=
 (Ky (s0.l.length:Int)).bind λx_2=>bif (decide (x_2>(60:Int)))then(some ((Dat.z:(Vec UInt8 16)),(0:Int),(3:Int)))else((Ln s0).bind λr_3=>bif r_3.2 then(some (r_3.1,(32:Int),(0:Int)))else((ML s0).bind λr_5=>bif r_5.2 then(some (r_5.1,(128:Int),(0:Int)))else(some ((Dat.z:(Vec UInt8 16)),(0:Int),(2:Int)))))
instance W5:Fd1 132 I3 λr=>Tup [D r.1,D r.2.1,D r.2.2]:=en1 Tryz.func132 rfl Tryz.ntmps132 λA w hA s0 r H=>by
 unfold I3 at H;refine zg ?_;refine Xaq rfl λb2_0=>zg ?_
 refine zn H λ_ ex_2 H=>?_
 refine zX (A4 (Bo ex_2.h) rfl) ?_;refine zc H (λhc H=>?_) λhc H=>?_
 .refine zg ?_;refine TSx (DS (ps:=_) (Dat.z:(Vec UInt8 16)) rfl Tryz.underlying83 rfl) ?_;exact zY H
 .refine zg ?_;refine zb H λ_ _ H=>?_
  refine Xaq rfl λb5_3=>zg ?_
  refine zc H (λhc H=>?_) λhc H=>?_
  .exact zY H
  .refine zg ?_;refine zb H λ_ _ H=>?_
   refine Xaq rfl λb7_5=>zg ?_
   refine zc H (λhc H=>?_) λhc H=>?_
   .exact zY H
   .refine zg ?_;refine TSx (DS (ps:=_) (Dat.z:(Vec UInt8 16)) rfl Tryz.underlying83 rfl) ?_;exact zY H
def Ga(s0:Txt):Option (Prefix×Int):=
 (Ky (s0.l.length:Int)).bind λx_2=>bif (decide (x_2>(60:Int)))then((some ((⟨0,0,Dat.z⟩:Prefix):Prefix)).bind λk_3=>some (k_3,(3:Int)))else((I0 s0 (⟨([47]:List UInt8)⟩:Txt)).bind λr_4=>bif (!r_4.2.2)then((some ((⟨0,0,Dat.z⟩:Prefix):Prefix)).bind λk_5=>some (k_5,(2:Int)))else((I3 r_4.1).bind λr_6=>bif (decide (r_6.2.2≠(0:Int)))then((some ((⟨0,0,Dat.z⟩:Prefix):Prefix)).bind λk_8=>some (k_8,(2:Int)))else((FW r_4.2.1 r_6.2.1).bind λr_9=>bif (!r_9.2)then((some ((⟨0,0,Dat.z⟩:Prefix):Prefix)).bind λk_10=>some (k_10,(2:Int)))else((some ((⟨r_6.2.1,r_9.1,r_6.1⟩:Prefix):Prefix)).bind λpx_12=>(Ik px_12).bind λx_13=>bif (!x_13)then((some ((⟨0,0,Dat.z⟩:Prefix):Prefix)).bind λk_14=>some (k_14,(2:Int)))else(some (px_12,(0:Int)))))))
instance Ux:Fd1 90 Ga λr=>Tup [D r.1,D r.2]:=en1 Tryz.func90 rfl Tryz.ntmps90 λA w hA s0 r H=>by
 unfold Ga at H;refine zg ?_;refine Xaq rfl λb2_0=>zg ?_
 refine zn H λ_ ex_2 H=>?_
 refine zX (A4 (Bo ex_2.h) rfl) ?_;refine zc H (λhc H=>?_) λhc H=>?_
 .refine zg ?_;refine TSx (tB (⟨0,0,Dat.z⟩:Prefix) rfl rfl) ?_;exact zY H
 .refine zg ?_;refine zb H λ_ _ H=>?_
  refine zc H (λhc H=>?_) λhc H=>?_
  .refine zg ?_;refine TSx (tB (⟨0,0,Dat.z⟩:Prefix) rfl rfl) ?_;exact zY H
  .refine zg ?_;refine zb H λr_6 _ H=>?_
   refine Xaq rfl λb7_6=>zg ?_
   refine zc H (λhc H=>?_) λhc H=>?_
   .refine zg ?_;refine TSx (tB (⟨0,0,Dat.z⟩:Prefix) rfl rfl) ?_;exact zY H
   .refine zg ?_;refine zb H λr_9 _ H=>?_
    refine zc H (λhc H=>?_) λhc H=>?_
    .refine zg ?_;refine TSx (tB (⟨0,0,Dat.z⟩:Prefix) rfl rfl) ?_;exact zY H
    .refine zg ?_;refine TSx (tB (⟨r_6.2.1,r_9.1,r_6.1⟩:Prefix) rfl rfl) ?_;refine Xaq rfl λb11_10=>?_
     refine zC ?_;refine zn H λ_ epx_12 H=>?_
     refine zX (ZF b11_10 (Ag epx_12.h)) ?_;refine zb H λ_ _ H=>?_
     refine zc H (λhc H=>?_) λhc H=>?_
     .refine zg ?_;refine TSx (tB (⟨0,0,Dat.z⟩:Prefix) rfl rfl) ?_;exact zY H
     .exact zY H
def Ij(s0:Txt):Option (Route×Int):=
 (Ky (s0.l.length:Int)).bind λx_2=>bif (decide (x_2>(60:Int)))then((some ((⟨Dat.z,0⟩:Route):Route)).bind λk_3=>some (k_3,(3:Int)))else((I0 s0 (⟨([32]:List UInt8)⟩:Txt)).bind λr_4=>bif (!r_4.2.2)then((some ((⟨Dat.z,0⟩:Route):Route)).bind λk_5=>some (k_5,(2:Int)))else((Ga r_4.1).bind λr_6=>bif (decide (r_6.2≠(0:Int)))then((some ((⟨Dat.z,0⟩:Route):Route)).bind λk_8=>some (k_8,(2:Int)))else((FW r_4.2.1 (65535:Int)).bind λr_9=>bif (!r_9.2)then((some ((⟨Dat.z,0⟩:Route):Route)).bind λk_10=>some (k_10,(2:Int)))else((some ((⟨r_6.1,(Xew r_9.1)⟩:Route):Route)).bind λk_11=>some (k_11,(0:Int))))))
instance WD:Fd1 39 Ij λr=>Tup [D r.1,D r.2]:=en1 Tryz.func39 rfl Tryz.ntmps39 λA w hA s0 r H=>by
 unfold Ij at H;refine zg ?_;refine Xaq rfl λb2_0=>zg ?_
 refine zn H λ_ ex_2 H=>?_
 refine zX (A4 (Bo ex_2.h) rfl) ?_;refine zc H (λhc H=>?_) λhc H=>?_
 .refine zg ?_;refine TSx (tB (⟨Dat.z,0⟩:Route) rfl rfl) ?_;exact zY H
 .refine zg ?_;refine zb H λ_ _ H=>?_
  refine zc H (λhc H=>?_) λhc H=>?_
  .refine zg ?_;refine TSx (tB (⟨Dat.z,0⟩:Route) rfl rfl) ?_;exact zY H
  .refine zg ?_;refine zb H λr_6 _ H=>?_
   refine Xaq rfl λb7_6=>zg ?_
   refine zc H (λhc H=>?_) λhc H=>?_
   .refine zg ?_;refine TSx (tB (⟨Dat.z,0⟩:Route) rfl rfl) ?_;exact zY H
   .refine zg ?_;refine zb H λr_9 _ H=>?_
    refine zc H (λhc H=>?_) λhc H=>?_
    .refine zg ?_;refine TSx (tB (⟨Dat.z,0⟩:Route) rfl rfl) ?_;exact zY H
    .refine zg ?_;refine TSx SJ ?_;refine TSx (tB (⟨r_6.1,(Xew r_9.1)⟩:Route) rfl rfl) ?_;exact zY H
def Ha(ids0:Int)(room0:Int):Option Int:=
 bif ((((decide (ids0<(1:Int)))||(decide (ids0>(64:Int))))||(decide (room0<(20:Int))))||(decide (room0>(240:Int))))then(some (0:Int))else((JB room0 20).bind λx_1=>(RX ids0 x_1).bind λx_2=>some (min x_2 (256:Int)))
instance Zdu:Fd2 58 Ha λr=>D r:=en2 Tryz.func58 rfl Tryz.ntmps58 λ_ _ _ _ _ _ H=>by
 unfold Ha at H;exact zY H
def Iz(b0x:(List UInt8))(r0:Route):Option (List UInt8):=
 (bif (decide (r0.Prefix.Bits=(128:Int)))then((idx (Dat.z:(Vec UInt8 20)).l (0:Int)).bind λx_5=>(some ((Xd6 (Dat.z:(Vec UInt8 20)) (Xaa (0:Int)) (XaN 1)):(Vec UInt8 20))).bind λpart_6=>some part_6)else(some (Dat.z:(Vec UInt8 20)))).bind λpart_3=>(idx part_3.l 1).bind λx_7=>(some ((Xd6 part_3 (Xaa (1:Int)) (Xao r0.Prefix.Len)):(Vec UInt8 20))).bind λpart_8=>(cut 20 (2:Int) (20:Int)).bind λu_9=>(cut 16 0 (16:Int)).bind λu_10=>(some ((Vec.put part_8 (Xaa (2:Int)) (over ((part_8.l.drop (Xaa (2:Int))).take (((20:Int)-(2:Int)).toNat)) ((r0.Prefix.Key.l.drop (Xaa 0)).take (((16:Int)-0).toNat)))):(Vec UInt8 20))).bind λpart_11=>(idx part_11.l 18).bind λx_12=>(some ((Xd6 part_11 (Xaa (18:Int)) ((shr16 r0.Hop ((Xap 8).toNat:Int)).toUInt8)):(Vec UInt8 20))).bind λpart_13=>(idx part_13.l 19).bind λx_14=>(some ((Xd6 part_13 (Xaa (19:Int)) (r0.Hop.toUInt8)):(Vec UInt8 20))).bind λpart_15=>(cut 20 0 (20:Int)).bind λu_16=>(Dv 1 ((b0x.length+((part_15.l.drop (Xaa 0)).take (((20:Int)-0).toNat)).length:Nat):Int)).bind λu_18=>(some ((b0x++((part_15.l.drop (Xaa 0)).take (((20:Int)-0).toNat))):(List UInt8))).bind λl_19=>some l_19
theorem OC{b0x:(List UInt8)}{r0:Route}{b0 c0:Nat}{p0:Prop}{r:(List UInt8)} (H:Iz b0x r0=some r):CO2 100 [⟨b0,p0,Row (b0x:List UInt8) c0⟩] (Sl b0 p0 0 b0x.length c0) (D r0) (λg:Nat×Prop×Nat=>Sl g.1 g.2.1 0 (Xat r) g.2.2) λg=>[⟨g.1,g.2.1,Row (r:List UInt8) g.2.2⟩]:=eO2 Tryz.func100 rfl Tryz.ntmps100 λA w hA hO=>by
 unfold Iz at H;refine zg ?_;refine Xa9 rfl λb3_0=>zg ?_
 refine Xaq rfl λb5_1=>?_
 refine zC ?_;refine AI ?_;refine zh H λo_4 H4 H=>?_
 refine Zs (λs:(Vec UInt8 20)=>o_4=s) (λ(part_3:(Vec UInt8 20)) (_:Unit)=>(TR (TR (TR Xaj 0 (Sl b0 p0 0 b0x.length c0)) 3 (Pt b3_0 0)) 5 (Pt b5_1 0))) (λ(part_3:(Vec UInt8 20)) (_:Unit)=>[⟨b0,p0,(Row (b0x:List UInt8) c0)⟩,⟨b3_0,True,(One r0)⟩,⟨b5_1,True,(One part_3)⟩]) ?_ ?_
 .skip;refine zg ?_;refine zc H4 (λhc H4=>?_) λhc H4=>?_
  .refine zg ?_;refine zn H4 λ_ ex_5 H4=>?_
   refine TSx (Ao (ZP ex_5.h (Vec.h _).symm))<|Bk (ZD (y:=((XaN 1):UInt8)) (E7 (α:=UInt8) ZB ex_5.h)) ?_;refine zE ?_;refine zn H4 λpart_6 epart_6 H4=>?_
   exact Ai b5_1 (Ag epart_6.h)<|Zl part_6 () (ZZs H4) (Za (Za (Zm (ZH rfl) (Ze _)))) (Zd rfl (Zd rfl (Zd rfl (Zf _))))
  .refine zg ?_;exact Zl (Dat.z:(Vec UInt8 20)) () (ZZs H4) (Za (Za (Zm (ZH rfl) (Ze _)))) (Zd rfl (Zd rfl (Zd rfl (Zf _))))
 rintro part_3 ⟨⟩ hp;replace hp:=hp.symm;subst hp;refine zg ?_;refine zn H λ_ ex_7 H=>?_
 refine TSx (Ao (ZP ex_7.h (Vec.h _).symm))<|Bk (ZD (y:=((Xao r0.Prefix.Len):UInt8)) (E7 (α:=UInt8) ZB ex_7.h)) ?_;refine zC ?_;refine zn H λ_ epart_8 H=>?_
 refine ZF b5_1 (Ag epart_8.h)<|Bd [4] [b5_1,b3_0] mix (by kernel_rfl) (by kernel_rfl) ?_;refine zn H λ_ eu_9 H=>?_
 refine zX (Fd (DR (ZX eu_9.h).1 (ZX eu_9.h).2.1 (ZX eu_9.h).2.2 (by decide)) rfl) ?_;refine zn H λ_ eu_10 H=>?_
 refine TRx (DR (ZX eu_10.h).1 (ZX eu_10.h).2.1 (ZX eu_10.h).2.2 (by decide))<|GT (λg=>(Dk (ys:=((r0.Prefix.Key.l.drop (Xaa 0)).take (((16:Int)-0).toNat))) (Mq (Kg (PF 2 Prefix (Vec UInt8 16) (PF 0 Route Prefix ZB)) (Jy eu_10.h) (by decide)) (Ip eu_10.h (Vec.h _))) (Kg ZB (Jy eu_9.h) (by decide)) (Ip eu_9.h (Vec.h _)) (λ_ h=>by simp[h,splice,FH]))) rfl ?_;refine zC ?_;rintro⟨_,_⟩;dsimp only[XaV,XaW,XaS,Xan,Xam];refine zn H λ_ epart_11 H=>?_
 refine zX (ZF b5_1 (Ag epart_11.h)) ?_;refine TSx (OpD.shr16 (XcM _))<|TSx HW ?_;refine zn H λ_ ex_12 H=>?_
 refine TSx (Ao (ZP ex_12.h (Vec.h _).symm))<|Bk (ZD (y:=(((shr16 r0.Hop ((Xap 8).toNat:Int)).toUInt8):UInt8)) (E7 (α:=UInt8) ZB ex_12.h)) ?_;refine zC ?_;refine zn H λ_ epart_13 H=>?_
 refine zX (ZF b5_1 (Ag epart_13.h)) ?_;refine TSx HW ?_;refine zn H λ_ ex_14 H=>?_
 refine TSx (Ao (ZP ex_14.h (Vec.h _).symm))<|Bk (ZD (y:=((r0.Hop.toUInt8):UInt8)) (E7 (α:=UInt8) ZB ex_14.h)) ?_;refine zC ?_;refine zn H λpart_15 epart_15 H=>?_
 refine zX (ZF b5_1 (Ag epart_15.h)) ?_;refine zn H λ_ eu_16 H=>?_
 refine TSx (DR (ZX eu_16.h).1 (ZX eu_16.h).2.1 (ZX eu_16.h).2.2 (by decide)) ?_;refine zn H λ_ eu_18 H=>?_
 refine Xdt (ys:=((part_15.l.drop (Xaa 0)).take (((20:Int)-0).toNat))) (Mq (Kg ZB (Jy eu_16.h) (by decide)) (Ip eu_16.h (Vec.h _))) eu_18.h rfl rfl rfl λb32_16 p32_16 c32_16=>?_
 refine zC ?_;refine zn H λ_ el_19 H=>?_
 refine ZF b32_16 (Ah el_19.h) ?_;refine zX (B8 4 _ (AY el_19.h rfl)) ?_;obtain rfl:=ZZi H;exact ZG rfl ⟨b32_16,p32_16,c32_16⟩ (ZH rfl) (Zd rfl (Zf _))
def Ec(t0:List Route)(room0:Int)(x_8:Int)(L:Int)(bodies:List (List UInt8))(ys:List UInt8):Option ((Int×Int×List (List UInt8)×List UInt8)⊕List (List UInt8)):=
 (idx bodies L).bind λ_=>bif (decide (x_8<(t0.length:Int)))then((idx t0 x_8).bind λx_11=>(JB room0 20).bind λx_13=>(JB x_8 x_13).bind λx_14=>
  (idx bodies x_14).bind λ_=>bif (decide (x_14=L))then((Iz ys x_11).bind λx_16=>(AC x_8 1).bind λx_19=>some (.inl (x_19,L,bodies,x_16)))
  else((Tk x_14.toNat (L.toNat+1)).bind λ_=>(Iz [] x_11).bind λx_16=>(AC x_8 1).bind λx_19=>some (.inl (x_19,x_14,bodies.set L.toNat ys,x_16))))
 else(some (.inr (bodies.set L.toNat ys)))
def Hb(t0:(List Route))(ids0:Int)(room0:Int):Option ((List (List UInt8))×Int):=
 (Ha ids0 room0).bind λx_1=>(gb (!(decide (x_1=(0:Int)))) (CK t0)).bind λx_2=>bif ((decide (x_1=(0:Int)))||(!x_2))then(some (([]:List (List UInt8)),(1:Int)))else(bif (decide ((t0.length:Int)>x_1))then(some (([]:List (List UInt8)),(5:Int)))else((Dv 24 ids0).bind λu_3=>(some ((Xac (Xaa ids0) ([]:List UInt8)):(List (List UInt8)))).bind λl_5=>(idx l_5 0).bind λ_=>(ZN (λs=>Ec t0 room0 s.1 s.2.1 s.2.2.1 s.2.2.2) ((0:Int),(0:Int),l_5,([]:List UInt8))).bind λbodies_6=>some (bodies_6,(0:Int))))
instance ZaG:Fd3 53 Hb λr=>Tup [D r.1,D r.2]:=en3 Tryz.func53 rfl Tryz.ntmps53 λA w hA t0 ids0 room0 r H=>by
 unfold Hb at H;refine zg ?_;refine zb H λ_ _ H=>?_
 refine zd H λ_ _ H=>?_
 refine zc H (λhc H=>?_) λhc H=>?_
 .exact zY H
 .refine zg ?_;refine zc H (λhc H=>?_) λhc H=>?_
  .exact zY H
  .refine zg ?_;refine zn H λ_ eu_3 H=>?_
   refine D4 (YC eu_3.h) rfl λ⟨b28_3,_⟩=>?_
   dsimp only;refine zC ?_;refine zn H λl_5 el_5 H=>?_
   refine zn H λ_ eu_4 H=>?_
   have hl5:l_5.length=Xaa ids0:=by rw[<-ZZi el_5.h];simp
   have hlp:0<l_5.length:=by have:=(JZ eu_4.h).2;omega
   refine ZF b28_3 (C':=Wo l_5 (Xaa ids0) 0) (by rw[<-ZZi el_5.h])<|B8 9 (Sl b28_3 True 0 l_5.length (Xaa ids0)) (ZH hl5.symm)<|ZfB b28_3 (λA w cs h=>Wn hlp h)<|Yk 0 UInt8 ?_;refine zC ?_;refine zh H λo_7 H7 H=>?_
   refine Zs (λs:(List (List UInt8))=>o_7=s) (λ(bodies_6:(List (List UInt8))) (_:Unit)=>(TR Xaj 9 (Sl b28_3 True 0 bodies_6.length (Xaa ids0)))) (λ(bodies_6:(List (List UInt8))) (_:Unit)=>[⟨b28_3,True,(Row (bodies_6:List (List UInt8)) (Xaa ids0))⟩]) ?_ ?_
   .skip;refine Zr<|Zx H7 (λ⟨x_8,L,bodies,ys⟩ (⟨bq,pq,cq⟩:Nat×Prop×Nat)=>(TR (TR (TR (TR (TR Xaj 2 (D room0)) 9 (Sl b28_3 True 0 bodies.length (Xaa ids0))) 29 (D t0)) 30 (D ((t0.length:Int):Int))) 31 (D x_8))) (λ⟨x_8,L,bodies,ys⟩ (⟨bq,pq,cq⟩:Nat×Prop×Nat)=>[⟨b28_3,True,Xa4 (Wo bodies (Xaa ids0) (L.toNat+1)) (0+Xaa L*Dat.sz (List UInt8)) (Sl bq pq 0 ys.length cq)⟩,⟨bq,pq,Row ys cq⟩]) ⟨0,False,0⟩ (Za (Za (Za (Zm (ZH rfl) (Za (Ze _)))))) (Zd rfl (Zd rfl (Zf _))) ?_;rintro⟨x_8,L,bodies,ys⟩ ⟨bq,pq,cq⟩ x_10 H10 he10;dsimp only at H10;unfold Ec at H10;refine zn H10 λ_ ey_1 H10=>?_
    have hL:=JZ ey_1.h;have hL2:L.toNat<bodies.length:=by omega
    refine zg ?_;refine zc H10 (λhc H10=>?_) λhc H10=>?_
    .refine zg ?_;refine zb H10 λ_ _ H10=>?_
     refine Xaq rfl λb11_11=>zg ?_
     refine zb H10 λ_ _ H10=>?_
     refine zb H10 λx_14 _ H10=>?_
     refine zn H10 λ_ ey_2 H10=>?_
     have hx:=JZ ey_2.h
     by_cases hid:x_14=L
     .rw [decide_eq_true hid]at H10;replace H10:=cT H10 rfl;subst hid;refine zX (Gf [5,7,9] [b28_3,bq] mix (by kernel_rfl) (by kernel_rfl)) ?_;refine TRx (Zt (ZP ey_2.h rfl)) ?_;refine zX (GT (λg=>HA rfl (ZW Af)) rfl) ?_;refine zn H10 λx_16 ex_16 H10=>?_
      refine GT (λg=>oc2 [bq] (OC ex_16.h) (slD rfl) toD) rfl<|TRx (Zt (ZP ey_2.h rfl))<|DP (λg=>AS CtH.same) rfl ?_;refine zC ?_;rintro⟨⟨⟨_,_⟩,⟨b47,p47,c47⟩⟩,_⟩;dsimp only[XaV,XaW,XaS,Xan,Xam];refine zg ?_;refine zb H10 λx_19 _ H10=>?_
      exact Zv ⟨x_19,x_14,bodies,x_16⟩ ⟨b47,p47,c47⟩ (ZZs H10) (Za (Za (Za (Zm (ZH rfl) (Za (Ze _)))))) (Zd rfl (Zd rfl (Zf _)))
     .rw [decide_eq_false hid]at H10;replace H10:=cF H10 rfl;refine zn H10 λ_ eu_5 H10=>?_
      have hnx:=Gc eu_5.h;refine TC.coll b28_3 bq (Wo.st (by omega) hL2) (ZJ XaR rfl) ?_;have hsl:(bodies.set L.toNat ys).length=bodies.length:=by simp
      refine Yk 0 UInt8 ?_;refine zX (Gf [5,7,9] [b28_3,0] mix (by kernel_rfl) (by kernel_rfl)) ?_;refine TRx (Zt (ZP ey_2.h rfl)) ?_;refine zX (GT (λg=>HA rfl (ZW (Zee (by omega) (by omega)))) rfl) ?_;refine zn H10 λx_16 ex_16 H10=>?_
      refine GT (λg=>Qm [0] λw v0 v1 hA hO hap hks h0 h1=>OC ex_16.h w v0 v1 hA hO hap hks (slD rfl (Dt _ _ _ h0)) (toD h1)) rfl<|TRx (Zt (ZP ey_2.h rfl))<|DP (λg=>AS (Wm (m':=x_14.toNat+1) (by omega) (by omega))) rfl ?_;refine zC ?_;rintro⟨⟨⟨_,_⟩,⟨b47,p47,c47⟩⟩,_⟩;dsimp only[XaV,XaW,XaS,Xan,Xam];refine zg ?_;refine zb H10 λx_19 _ H10=>?_
      exact Zv ⟨x_19,x_14,bodies.set L.toNat ys,x_16⟩ ⟨b47,p47,c47⟩ (ZZs H10) (Za (Za (Za (Zm (ZH hsl.symm) (Za (Ze _)))))) (Zd rfl (Zd rfl (Zf _)))
    .refine TC.exit<|Kd<|Kd<|Ke<|TE.coll b28_3 bq (Wo.st (by omega) hL2) (ZJ XaR rfl) ?_;have hsl:(bodies.set L.toNat ys).length=bodies.length:=by simp
     exact Zl (bodies.set L.toNat ys) () (he10 _ (ZZs H10)).symm (Zm (ZH hsl.symm) (Ze _)) (IS (λA w cs (h:(Wo (bodies.set L.toNat ys) (Xaa ids0) (L.toNat+1)).p A w cs)=>h.1) (Zf _))
   rintro bodies_6 ⟨⟩ hp;replace hp:=hp.symm;subst hp;refine zC ?_;refine ZO<|XeR b28_3 (XbM 6 (ZJ XaR rfl) Xb2) ?_;exact zY H
def Iy(b0:(List UInt8)):Option (Route×Bool):=
 ((idx b0 0).bind λx_5=>bif (decide (x_5=(XaN 0)))then((some ((⟨(⟨(32:Int),((Dat.z:Route).Prefix).Len,((Dat.z:Route).Prefix).Key⟩:Prefix),(Dat.z:Route).Hop⟩:Route):Route)).bind λr_6=>some (.inl r_6))else(bif (decide (x_5=(XaN 1)))then((some ((⟨(⟨(128:Int),((Dat.z:Route).Prefix).Len,((Dat.z:Route).Prefix).Key⟩:Prefix),(Dat.z:Route).Hop⟩:Route):Route)).bind λr_7=>some (.inl r_7))else((some ((⟨Dat.z,0⟩:Route):Route)).bind λk_8=>some (.inr (k_8,false))))).bind λo_4=>elS o_4 (λr_3=>(idx b0 1).bind λx_10=>(some ((⟨(⟨r_3.Prefix.Bits,(x_10.toNat:Int),r_3.Prefix.Key⟩:Prefix),r_3.Hop⟩:Route):Route)).bind λr_11=>(cut 16 0 (16:Int)).bind λu_12=>(cut b0.length (2:Int) (18:Int)).bind λu_13=>(some ((⟨(⟨r_11.Prefix.Bits,r_11.Prefix.Len,(Vec.put r_11.Prefix.Key (Xaa 0) (over ((r_11.Prefix.Key.l.drop (Xaa 0)).take (((16:Int)-0).toNat)) ((b0.take (Xaa (18:Int))).drop (Xaa (2:Int)))))⟩:Prefix),r_11.Hop⟩:Route):Route)).bind λr_14=>(idx b0 18).bind λx_15=>(idx b0 19).bind λx_16=>(some ((⟨r_14.Prefix,((shl16 (x_15.toUInt16) ((Xap 8).toNat:Int)) ||| (x_16.toUInt16))⟩:Route):Route)).bind λr_17=>some (r_17,true)) (λq=>some q)
instance Zcp:Fd1 135 Iy λr=>Tup [D r.1,D r.2]:=en1 Tryz.func135 rfl Tryz.ntmps135 λA w hA b0 r H=>by
 unfold Iy at H;refine zg ?_;refine Xaq rfl λb2_0=>zg ?_
 refine Xaq rfl λb4_1=>?_
 refine zC ?_;refine AI ?_;refine zh H λo_4 H4 H=>?_
 refine Zs (λs:Route=>o_4=.inl s) (λ(r_3:Route) (_:Unit)=>(TR (TR (TR Xaj 0 (D b0)) 2 (Pt b2_0 0)) 4 (Pt b4_1 0))) (λ(r_3:Route) (_:Unit)=>[⟨b2_0,True,(One ((Dat.z:Route):Route))⟩,⟨b4_1,True,(One r_3)⟩]) ?_ ?_
 .skip;refine zg ?_;refine zb H4 λ_ _ H4=>?_
  refine zX (A4 Rj rfl) ?_;refine zc H4 (λhc H4=>?_) λhc H4=>?_
  .refine zE ?_;refine zn H4 λr_6 er_6 H4=>?_
   refine zX (Ai b4_1 (Ag er_6.h)) ?_;exact Zl r_6 () (ZZs H4) (Za (Za (Za (Ze _)))) (Zd rfl (Zd rfl (Zf _)))
  .refine zg ?_;refine zX (A4 Rj rfl) ?_;refine zc H4 (λhc H4=>?_) λhc H4=>?_
   .refine zE ?_;refine zn H4 λr_7 er_7 H4=>?_
    refine zX (Ai b4_1 (Ag er_7.h)) ?_;exact Zl r_7 () (ZZs H4) (Za (Za (Za (Ze _)))) (Zd rfl (Zd rfl (Zf _)))
   .refine zg ?_;refine TSx (tB (⟨Dat.z,0⟩:Route) rfl rfl) ?_;refine zC ?_;refine zn H4 λ_ ek_8 H4=>?_
    refine ZF b2_0 (Ag ek_8.h)<|ZO<|Zh<|Zw ?_;have R8:=AQ (ZZi H4) H;refine zg ?_;obtain rfl:=ZZi R8;exact Eo rfl rfl (.cons Cv.le (.cons Cv.le .nil))
 rintro r_3 ⟨⟩ hp;replace H:=Bs hp H;refine zg ?_;refine zo H λ_ _ H=>?_
 refine zC ?_;refine zn H λ_ er_11 H=>?_
 refine ZF b4_1 (Ag er_11.h) ?_;refine zX (Bd [5] [b4_1] mix (by kernel_rfl) (by kernel_rfl)) ?_;refine zn H λ_ eu_12 H=>?_
 refine zX (Fd (DR (ZX eu_12.h).1 (ZX eu_12.h).2.1 (ZX eu_12.h).2.2 (by decide)) rfl) ?_;refine zb H λ_ _ H=>?_
 refine GT (λg=>(Dk (ys:=((b0.take (Xaa (18:Int))).drop (Xaa (2:Int)))) inferInstance (Kg (PF 2 Prefix (Vec UInt8 16) (PF 0 Route Prefix ZB)) (Jy eu_12.h) (by decide)) (Ip eu_12.h (Vec.h _)) (λ_ h=>by simp[h,splice,FH]))) rfl ?_;refine zC ?_;rintro⟨_,_⟩;dsimp only[XaV,XaW,XaS,Xan,Xam];refine zn H λ_ er_14 H=>?_
 refine ZF b4_1 (Ag er_14.h) ?_;refine zX (Bd [11] [b4_1] mix (by kernel_rfl) (by kernel_rfl)) ?_;refine zb H λx_15 _ H=>?_
 refine TRx HV ?_;refine zX (Fd (OpD.shl16 (XcM _)) rfl) ?_;refine zb H λx_16 _ H=>?_
 refine TRx HV ?_;refine zX (Fd Vj rfl) ?_;refine DP (λg=>(ZD (y:=(((shl16 (x_15.toUInt16) ((Xap 8).toNat:Int)) ||| (x_16.toUInt16)):UInt16)) (PF 18 Route UInt16 ZB))) rfl ?_;refine zC ?_;rintro⟨_,_⟩;dsimp only[XaV,XaW,XaS,Xan,Xam];exact zY H
def EP(bx_14:(List UInt8))(t_16:(List Route)):Option (((List UInt8)×(List Route))⊕((List Route)⊕((List Route)×Int))):=
 bif (decide ((bx_14.length:Int)>(0:Int)))then((cut bx_14.length 0 (20:Int)).bind λu_18=>(Iy (bx_14.take (Xaa (20:Int)))).bind λr_19=>bif (!r_19.2)then(some (.inr (.inr (([]:List Route),(2:Int)))))else((Dv 40 ((t_16.length+([r_19.1]:List Route).length:Nat):Int)).bind λu_24=>(some ((t_16++([r_19.1]:List Route)):(List Route))).bind λl_25=>(cut bx_14.length (20:Int) bx_14.length).bind λu_26=>(some ((bx_14.drop (Xaa (20:Int))):(List UInt8))).bind λbx_27=>some (.inl (bx_27,l_25))))else(some (.inr (.inl t_16)))
def EQ(bodies0:(List (List UInt8)))(x_4:Int)(t_6:(List Route)):Option ((Int×(List Route))⊕((List Route)⊕((List Route)×Int))):=
 bif (decide (x_4<(bodies0.length:Int)))then((idx bodies0 x_4).bind λx_8=>(RM (x_8.length:Int) (20:Int)).bind λx_9=>bif (decide (x_9≠(0:Int)))then(some (.inr (.inr (([]:List Route),(2:Int)))))else((ZN (λs=>EP s.1 s.2) (x_8,t_6)).bind λo_13=>elS o_13 (λt_12=>(AC x_4 1).bind λx_28=>some (.inl (x_28,t_12))) (λq=>some (.inr (.inr q)))))else(some (.inr (.inl t_6)))
def Fv(bodies0:(List (List UInt8))):Option ((List Route)×Int):=
 (ZN (λs=>EQ bodies0 s.1 s.2) ((0:Int),[])).bind λo_3=>elS o_3 (λt_2=>(CK t_2).bind λx_29=>bif (!x_29)then(some (([]:List Route),(2:Int)))else(some (t_2,(0:Int)))) (λq=>some q)
instance Zcq:Fd1 106 Fv λr=>Tup [D r.1,D r.2]:=en1 Tryz.func106 rfl Tryz.ntmps106 λA w hA bodies0 r H=>by
 unfold Fv at H;refine zC ?_;refine zC ?_;refine zC ?_;refine zh H λo_3 H3 H=>?_
 refine Zs (λs:(List Route)=>o_3=.inl s) (λ(t_2:(List Route)) (⟨b_0,p_0,c_0⟩:Nat×Prop×Nat)=>(TR Xaj 4 (Sl b_0 p_0 0 t_2.length c_0))) (λ(t_2:(List Route)) (⟨b_0,p_0,c_0⟩:Nat×Prop×Nat)=>[⟨b_0,p_0,(Row (t_2:List Route) c_0)⟩]) ?_ ?_
 .skip;refine Zr<|Zx H3 (λ⟨x_4,t_6⟩ (⟨b_4,p_4,c_4⟩:Nat×Prop×Nat)=>(TR (TR (TR (TR Xaj 4 (Sl b_4 p_4 0 t_6.length c_4)) 9 (D bodies0)) 10 (D ((bodies0.length:Int):Int))) 11 (D x_4))) (λ⟨x_4,t_6⟩ (⟨b_4,p_4,c_4⟩:Nat×Prop×Nat)=>[⟨b_4,p_4,(Row (t_6:List Route) c_4)⟩]) ⟨0,False,0⟩ (Za (Za (Za (Zm Dt (Ze _))))) (BD (Zf _)) ?_;rintro⟨x_4,t_6⟩ ⟨b_4,p_4,c_4⟩ x_7 H7 he7;dsimp only at H7;unfold EQ at H7;refine zg ?_;refine zc H7 (λhc H7=>?_) λhc H7=>?_
  .refine zg ?_;refine zb H7 λ_ _ H7=>?_
   refine zb H7 λ_ _ H7=>?_
   refine zc H7 (λhc H7=>?_) λhc H7=>?_
   .refine zC ?_;refine ZO<|Zi<|Zh<|Zi<|Zi<|Zh<|Zw ?_;have R9:=AQ (he7 _ (ZZs H7)) H;refine zg ?_;obtain rfl:=ZZi R9;exact Eo rfl rfl (.cons Cv.le (.cons Cv.le .nil))
   .refine AH<|Az ?_;refine zh H7 λo_13 H13 H7=>?_
    refine Zs (λs:(List Route)=>o_13=.inl s) (λ(t_12:(List Route)) (⟨b_10,p_10,c_10⟩:Nat×Prop×Nat)=>(TR (TR (TR (TR Xaj 4 (Sl b_10 p_10 0 t_12.length c_10)) 9 (D bodies0)) 10 (D ((bodies0.length:Int):Int))) 11 (D x_4))) (λ(t_12:(List Route)) (⟨b_10,p_10,c_10⟩:Nat×Prop×Nat)=>[⟨b_10,p_10,(Row (t_12:List Route) c_10)⟩]) ?_ ?_
    .skip;refine Zr<|Zx H13 (λ⟨bx_14,t_16⟩ (⟨b_14,p_14,c_14⟩:Nat×Prop×Nat)=>(TR (TR (TR (TR (TR Xaj 4 (Sl b_14 p_14 0 t_16.length c_14)) 6 (D bx_14)) 9 (D bodies0)) 10 (D ((bodies0.length:Int):Int))) 11 (D x_4))) (λ⟨bx_14,t_16⟩ (⟨b_14,p_14,c_14⟩:Nat×Prop×Nat)=>[⟨b_14,p_14,(Row (t_16:List Route) c_14)⟩]) ⟨b_4,p_4,c_4⟩ (Za (Za (Za (Za (Zm (ZH rfl) (Ze _)))))) (Zd rfl (Zf _)) ?_;rintro⟨bx_14,t_16⟩ ⟨b_14,p_14,c_14⟩ x_17 H17 he17;dsimp only at H17;unfold EP at H17;refine zg ?_;refine zc H17 (λhc H17=>?_) λhc H17=>?_
     .refine zg ?_;refine zb H17 λ_ _ H17=>?_
      refine zb H17 λr_19 _ H17=>?_
      refine Xaq rfl λb7_19=>zg ?_
      refine zc H17 (λhc H17=>?_) λhc H17=>?_
      .refine zC ?_;refine ZO<|Zi<|Zh<|Zi<|Zi<|Zh<|Zw ?_;have R20:=AQ (he17 _ (ZZs H17)) H7;refine Zh<|Zi<|Zi<|Zh<|Zw ?_;have R21:=AQ (he7 _ (ZZs R20)) H;refine zg ?_;obtain rfl:=ZZi R21;exact Eo rfl rfl (.cons Cv.le (.cons Cv.le .nil))
      .refine zg ?_;refine TSx (Xbx [.tmp 33] rfl rfl (by decide)) ?_;refine zn H17 λ_ eu_24 H17=>?_
       refine Xdt (ys:=([r_19.1]:List Route)) inferInstance eu_24.h rfl rfl rfl λb35_22 p35_22 c35_22=>?_
       refine zE ?_;refine zn H17 λl_25 el_25 H17=>?_
       refine Ai b35_22 (Ah el_25.h) ?_;refine zX (C9 4 _ (AY el_25.h rfl)) ?_;refine zo H17 λ_ _ H17=>?_
       refine zE ?_;refine zn H17 λbx_27 ebx_27 H17=>?_
       exact C9 6 (D bx_27) (RU ebx_27.h)<|Zv ⟨bx_27,l_25⟩ ⟨b35_22,p35_22,c35_22⟩ (ZZs H17) (Za (Za (Za (Za (Zm (ZH rfl) (Ze _)))))) (Zd rfl (Zf _))
     .refine zg ?_;exact Zl t_16 ⟨b_14,p_14,c_14⟩ (he17 _ (ZZs H17)).symm (Za (Za (Za (Zm (ZH rfl) (Ze _))))) (Zd rfl (Zf _))
    rintro t_12 ⟨b_10,p_10,c_10⟩ hp;replace H7:=Bs hp H7;refine zg ?_;refine zb H7 λx_28 _ H7=>?_
    exact Zv ⟨x_28,t_12⟩ ⟨b_10,p_10,c_10⟩ (ZZs H7) (Za (Za (Za (Zm (ZH rfl) (Ze _))))) (Zd rfl (Zf _))
  .refine zg ?_;exact Zl t_6 ⟨b_4,p_4,c_4⟩ (he7 _ (ZZs H7)).symm (Zm (ZH rfl) (Ze _)) (Zd rfl (Zf _))
 rintro t_2 ⟨b_0,p_0,c_0⟩ hp;replace H:=Bs hp H;refine zg ?_;refine zn H λ_ ex_29 H=>?_
 refine zX (A4 (GV [b_0] (Kp XaR rfl (by simp)) λw v0 hA h0=>Zaj.h w v0 hA (toD h0) ex_29.h) rfl) ?_;refine zc H (λhc H=>?_) λhc H=>?_
 .exact zY H
 .refine zC ?_;refine ZO<|XeR b_0 (XbM 2 (ZJ XaR rfl) Xb2) ?_;exact zY H
def IA(l0:(List (List UInt8)))(id0:Int):Option (List UInt8):=
 bif (decide (id0>=(l0.length:Int)))then(some ([]:List UInt8))else((idx l0 id0).bind λx_1=>some x_1)
instance Zdt:Fd2 102 IA λr=>D r:=en2 Tryz.func102 rfl Tryz.ntmps102 λ_ _ _ _ _ _ H=>by
 unfold IA at H;exact zY H
def Jm(a0:(List UInt8))(b0:(List UInt8)):Option Bool:=
 some (decide (a0=b0))
instance Zbt:Fd2 103 Jm λr=>D r:=en2 Tryz.func103 rfl Tryz.ntmps103 λA w hA a0 b0 r H=>by
 unfold Jm at H;refine zg ?_;refine zX (A4 CH rfl) ?_;refine TSx CH<|TSx FU ?_;exact zY H
def Dz(old0:(List (List UInt8)))(now0:(List (List UInt8)))(x_4:Int)(l_6:(List Fg)):Option ((Int×(List Fg))⊕(List Fg)):=
 bif (decide (x_4<(max (old0.length:Int) (now0.length:Int))))then(((IA now0 x_4).bind λx_11=>(IA old0 x_4).bind λx_12=>(Jm x_12 x_11).bind λx_13=>bif (!x_13)then((En x_11).bind λx_14=>(Dv 32 ((l_6.length+([(⟨x_4,x_14⟩:Fg)]:List Fg).length:Nat):Int)).bind λu_16=>(some ((l_6++([(⟨x_4,x_14⟩:Fg)]:List Fg)):(List Fg))).bind λl_17=>some l_17)else(some l_6)).bind λl_9=>(AC x_4 1).bind λx_18=>some (.inl (x_18,l_9)))else(some (.inr l_6))
def FY(old0:(List (List UInt8)))(now0:(List (List UInt8))):Option (List Fg):=
 (ZN (λs=>Dz old0 now0 s.1 s.2) ((0:Int),[])).bind λl_2=>some l_2
instance YY:Fd2 55 FY λr=>D r:=en2 Tryz.func55 rfl Tryz.ntmps55 λA w hA old0 now0 r H=>by
 unfold FY at H;refine zC ?_;refine zC ?_;refine zC ?_;refine zh H λo_3 H3 H=>?_
 refine Zs (λs:(List Fg)=>o_3=s) (λ(l_2:(List Fg)) (⟨b_0,p_0,c_0⟩:Nat×Prop×Nat)=>(TR Xaj 5 (Sl b_0 p_0 0 l_2.length c_0))) (λ(l_2:(List Fg)) (⟨b_0,p_0,c_0⟩:Nat×Prop×Nat)=>[⟨b_0,p_0,(Row (l_2:List Fg) c_0)⟩]) ?_ ?_
 .skip;refine Zr<|Zx H3 (λ⟨x_4,l_6⟩ (⟨b_4,p_4,c_4⟩:Nat×Prop×Nat)=>(TR (TR (TR (TR (TR Xaj 0 (D old0)) 1 (D now0)) 5 (Sl b_4 p_4 0 l_6.length c_4)) 12 (D ((max (old0.length:Int) (now0.length:Int)):Int))) 13 (D x_4))) (λ⟨x_4,l_6⟩ (⟨b_4,p_4,c_4⟩:Nat×Prop×Nat)=>[⟨b_4,p_4,(Row (l_6:List Fg) c_4)⟩]) ⟨0,False,0⟩ (Za (Za (Zm Dt (Za (Za (Ze _)))))) (BD (Zf _)) ?_;rintro⟨x_4,l_6⟩ ⟨b_4,p_4,c_4⟩ x_7 H7 he7;dsimp only at H7;unfold Dz at H7;refine zg ?_;refine zc H7 (λhc H7=>?_) λhc H7=>?_
  .refine AH<|Az<|AI ?_;refine zh H7 λo_10 H10 H7=>?_
   refine Zs (λs:(List Fg)=>o_10=s) (λ(l_9:(List Fg)) (⟨b_7,p_7,c_7⟩:Nat×Prop×Nat)=>(TR (TR (TR (TR (TR Xaj 0 (D old0)) 1 (D now0)) 5 (Sl b_7 p_7 0 l_9.length c_7)) 12 (D ((max (old0.length:Int) (now0.length:Int)):Int))) 13 (D x_4))) (λ(l_9:(List Fg)) (⟨b_7,p_7,c_7⟩:Nat×Prop×Nat)=>[⟨b_7,p_7,(Row (l_9:List Fg) c_7)⟩]) ?_ ?_
   .skip;refine zg ?_;refine zb H10 λ_ _ H10=>?_
    refine zb H10 λ_ _ H10=>?_
    refine zb H10 λ_ _ H10=>?_
    refine zc H10 (λhc H10=>?_) λhc H10=>?_
    .refine zg ?_;refine zb H10 λx_14 _ H10=>?_
     refine TSx (tB (⟨x_4,x_14⟩:Fg) rfl rfl) ?_;refine TSx (Xbx [.tmp 29] rfl rfl (by decide)) ?_;refine zn H10 λ_ eu_16 H10=>?_
     refine Xdt (ys:=([(⟨x_4,x_14⟩:Fg)]:List Fg)) inferInstance eu_16.h rfl rfl rfl λb31_14 p31_14 c31_14=>?_
     refine zE ?_;refine zn H10 λl_17 el_17 H10=>?_
     refine Ai b31_14 (Ah el_17.h) ?_;refine zX (C9 5 _ (AY el_17.h rfl)) ?_;exact Zl l_17 ⟨b31_14,p31_14,c31_14⟩ (ZZs H10) (Za (Za (Zm (ZH rfl) (Za (Za (Ze _)))))) (Zd rfl (Zf _))
    .refine zg ?_;exact Zl l_6 ⟨b_4,p_4,c_4⟩ (ZZs H10) (Za (Za (Zm (ZH rfl) (Za (Za (Ze _)))))) (Zd rfl (Zf _))
   rintro l_9 ⟨b_7,p_7,c_7⟩ hp;replace hp:=hp.symm;subst hp;refine zg ?_;refine zb H7 λx_18 _ H7=>?_
   exact Zv ⟨x_18,l_9⟩ ⟨b_7,p_7,c_7⟩ (ZZs H7) (Za (Za (Zm (ZH rfl) (Za (Za (Ze _)))))) (Zd rfl (Zf _))
  .refine zg ?_;exact Zl l_6 ⟨b_4,p_4,c_4⟩ (he7 _ (ZZs H7)).symm (Zm (ZH rfl) (Ze _)) (Zd rfl (Zf _))
 rintro l_2 ⟨b_0,p_0,c_0⟩ hp;replace hp:=hp.symm;subst hp;refine zC ?_;refine ZO<|XeR b_0 (XbM 4 (ZJ XaR rfl) Xb2) ?_;exact zY H
def MX(blocks0:Int)(pages0:Int)(size0:Int):Option Int:=
 (Hn blocks0 pages0).bind λx_1=>(JB x_1 2).bind λx_2=>(G5 size0).bind λx_3=>some (min x_2 x_3)
instance Zff:Fd3 59 MX λr=>D r:=en3 Tryz.func59 rfl Tryz.ntmps59 λ_ _ _ _ _ _ _ H=>by
 unfold MX at H;exact zY H
def Mc(blocks0:Int)(pages0:Int)(size0:Int):Option Int:=
 (MX blocks0 pages0 size0).bind λx_1=>(Dy size0).bind λx_2=>(Ha x_1 x_2).bind λx_3=>some x_3
instance ZeG:Fd3 17 Mc λr=>D r:=en3 Tryz.func17 rfl Tryz.ntmps17 λ_ _ _ _ _ _ _ H=>by
 unfold Mc at H;exact zY H
def GP(c0:Chip):Option Int:=
 (Mc (c0.Blocks.length:Int) c0.Pages c0.Size).bind λx_2=>some x_2
instance ZcG:Fd1 43 GP λr=>D r:=en1 Tryz.func43 rfl Tryz.ntmps43 λ_ _ _ _ _ H=>by
 unfold GP at H;exact zY H
def Ck(s0:(List (List UInt8))):Option (List (List UInt8)):=
 (Dv 24 ((0+s0.length:Nat):Int)).bind λ_=>some s0
theorem KS{s0:(List (List UInt8))}{r:(List (List UInt8))} (H:Ck s0=some r):CO1 93 [] (D s0) (λg:Nat×Prop×Nat=>Sl g.1 g.2.1 0 (Xat r) g.2.2) λg=>[⟨g.1,g.2.1,Row (r:List (List UInt8)) g.2.2⟩]:=eO1 Tryz.func93 rfl Tryz.ntmps93 λA w hA hO=>by
 unfold Ck at H;refine zn H λ_ eu H=>?_
 obtain rfl:=ZZi H;refine zg ?_;refine TSx BO ?_;refine zC ?_;refine GA (λhc=>?_) (λhc=>?_)
 .obtain rfl:=hc rfl;refine zg ?_;exact ZG rfl ⟨0,False,0⟩ Dt (BD (Zf _))
 .refine zg ?_;refine TS.build [] rfl rfl (by decide) rfl λb=>zg ?_
  refine Xdt (ys:=s0) inferInstance eu.h rfl rfl rfl λb1 p1 c1=>zg ?_
  exact ZG rfl ⟨b1,p1,c1⟩ (ZH (by simp)) (Zd rfl (Zf _))
def C2(x_12:(List (List UInt8)))(x_16:Int)(l_17:(List (List UInt8))):Option ((Int×(List (List UInt8)))⊕(List (List UInt8))):=
 bif (decide (x_16<(x_12.length:Int)))then((idx l_17 x_16).bind λx_19=>(En x_19).bind λx_20=>(idx l_17 x_16).bind λx_21=>(some ((l_17.set (Xaa x_16) x_20):(List (List UInt8)))).bind λl_22=>(AC x_16 1).bind λx_23=>some (.inl (x_23,l_22)))else(some (.inr l_17))
def C3(x_3:(List Zo))(x_7:Int)(x_8:(List Zo)):Option ((Int×(List Zo))⊕(List Zo)):=
 bif (decide (x_7<(x_3.length:Int)))then((idx x_8 x_7).bind λx_10=>(Ck x_10.Pages).bind λx_12=>(ZN (λs=>C2 x_12 s.1 s.2) ((0:Int),x_12)).bind λl_14=>(idx x_8 x_7).bind λx_24=>(AC x_7 1).bind λx_25=>some (.inl (x_25,(x_8.set (Xaa x_7) (⟨l_14,x_24.Used,x_24.Worn,x_24.Bad⟩:Zo)))))else(some (.inr x_8))
def Di(c0:Chip):Option Chip:=
 (Ae c0.Blocks).bind λx_3=>(ZN (λs=>C3 x_3 s.1 s.2) ((0:Int),x_3)).bind λl_5=>(ZQ c0.Faults).bind λx_26=>(some ((⟨c0.Pages,c0.Size,c0.Blocks,c0.Ops,c0.Off,x_26⟩:Chip):Chip)).bind λcx_27=>(some ((⟨cx_27.Pages,cx_27.Size,l_5,cx_27.Ops,cx_27.Off,cx_27.Faults⟩:Chip):Chip)).bind λk_28=>some k_28
instance WH:Fd1 44 Di λr=>D r:=en1 Tryz.func44 rfl Tryz.ntmps44 λA w hA c0 r H=>by
 unfold Di at H;refine zg ?_;refine Xa9 rfl λb1_0=>?_
 refine Xaq rfl λb2_1=>zg ?_
 refine zn H λx_3 ex_3 H=>?_
 refine D4 (oc1 [] (CV ex_3.h) toD) rfl λ⟨b9_3,p9_3,c9_3⟩=>?_
 refine zw ?_;refine zX (Bk (AS (CtH.new (by decide)))) ?_;refine TSx (ZW Af)<|TSx (AK (n:=x_3.length) rfl) ?_;refine zC ?_;refine zh H λo_6 H6 H=>?_
 refine Zs (λs:(List Zo)=>o_6=s) (λ(l_5:(List Zo)) (_:Unit)=>(TR (TR Xaj 1 (Pt b1_0 0)) 2 (Pt b2_1 0))) (λ(l_5:(List Zo)) (_:Unit)=>[⟨b9_3,p9_3,(Row (l_5:List Zo) c9_3)⟩,⟨b1_0,True,(Xa4 (One c0) 2 (Sl b9_3 p9_3 0 l_5.length c9_3))⟩,⟨b2_1,True,(One ((Dat.z:Chip):Chip))⟩]) ?_ ?_
 .skip;refine Zr<|Zx H6 (λ⟨x_7,x_8⟩ (_:Unit)=>(TR (TR (TR (TR (TR Xaj 1 (Pt b1_0 0)) 2 (Pt b2_1 0)) 12 (Sl b9_3 p9_3 0 x_8.length c9_3)) 13 (D ((x_3.length:Int):Int))) 14 (D x_7))) (λ⟨x_7,x_8⟩ (_:Unit)=>[⟨b9_3,p9_3,(Row (x_8:List Zo) c9_3)⟩,⟨b1_0,True,(Xa4 (One c0) 2 (Sl b9_3 p9_3 0 x_8.length c9_3))⟩,⟨b2_1,True,(One ((Dat.z:Chip):Chip))⟩]) () (Za (Za (Zm (ZH rfl) (Za (Za (Ze _)))))) (Zd rfl (Zd rfl (Zd rfl (Zf _)))) ?_;rintro⟨x_7,x_8⟩ ⟨⟩ x_9 H9 he9;dsimp only at H9;unfold C3 at H9;refine zg ?_;refine zc H9 (λhc H9=>?_) λhc H9=>?_
  .refine zg ?_;refine zn H9 λ_ ex_10 H9=>?_
   refine zX (A4 (Zt (ZP ex_10.h rfl)) rfl) ?_;refine Xaq rfl λb4_10=>zg ?_
   refine zn H9 λx_12 ex_12 H9=>?_
   refine D4 (oc1 [] (KS ex_12.h) toD) rfl λ⟨b21_12,p21_12,c21_12⟩=>?_
   refine zw ?_;refine TSx (AK (n:=x_12.length) rfl) ?_;refine zC ?_;refine zh H9 λo_15 H15 H9=>?_
   refine Zs (λs:(List (List UInt8))=>o_15=s) (λ(l_14:(List (List UInt8))) (_:Unit)=>(TR (TR (TR (TR (TR (TR (TR Xaj 1 (Pt b1_0 0)) 2 (Pt b2_1 0)) 3 (D x_7)) 5 (Sl b21_12 p21_12 0 l_14.length c21_12)) 12 (Sl b9_3 p9_3 0 x_8.length c9_3)) 13 (D ((x_3.length:Int):Int))) 14 (D x_7))) (λ(l_14:(List (List UInt8))) (_:Unit)=>[⟨b21_12,p21_12,(Row (l_14:List (List UInt8)) c21_12)⟩,⟨b9_3,p9_3,(Row (x_8:List Zo) c9_3)⟩,⟨b1_0,True,(Xa4 (One c0) 2 (Sl b9_3 p9_3 0 x_8.length c9_3))⟩,⟨b2_1,True,(One ((Dat.z:Chip):Chip))⟩]) ?_ ?_
   .skip;refine Zr<|Zx H15 (λ⟨x_16,l_17⟩ (_:Unit)=>(TR (TR (TR (TR (TR (TR (TR (TR (TR Xaj 1 (Pt b1_0 0)) 2 (Pt b2_1 0)) 3 (D x_7)) 5 (Sl b21_12 p21_12 0 l_17.length c21_12)) 12 (Sl b9_3 p9_3 0 x_8.length c9_3)) 13 (D ((x_3.length:Int):Int))) 14 (D x_7)) 23 (D ((x_12.length:Int):Int))) 24 (D x_16))) (λ⟨x_16,l_17⟩ (_:Unit)=>[⟨b21_12,p21_12,(Row (l_17:List (List UInt8)) c21_12)⟩,⟨b9_3,p9_3,(Row (x_8:List Zo) c9_3)⟩,⟨b1_0,True,(Xa4 (One c0) 2 (Sl b9_3 p9_3 0 x_8.length c9_3))⟩,⟨b2_1,True,(One ((Dat.z:Chip):Chip))⟩]) () (Za (Za (Za (Za (Zm (ZH rfl) (Zm (ZH rfl) (Za (Za (Za (Ze _)))))))))) (Zd rfl (Zd rfl (Zd rfl (Zd rfl (Zf _))))) ?_;rintro⟨x_16,l_17⟩ ⟨⟩ x_18 H18 he18;dsimp only at H18;unfold C2 at H18;refine zg ?_;refine zc H18 (λhc H18=>?_) λhc H18=>?_
    .refine zg ?_;refine zn H18 λ_ ex_19 H18=>?_
     refine zX (A4 (Zt (ZP ex_19.h rfl)) rfl) ?_;refine zb H18 λ_ _ H18=>?_
     refine zn H18 λ_ ex_21 H18=>?_
     refine TSx (Zt (ZP ex_21.h rfl)) ?_;refine zE ?_;refine zn H18 λl_22 el_22 H18=>?_
     refine Ai b21_12 (Ah el_22.h) ?_;refine zX (C9 5 _ (AY el_22.h (by simp))) ?_;refine zb H18 λx_23 _ H18=>?_
     exact Zv ⟨x_23,l_22⟩ () (ZZs H18) (Za (Za (Za (Za (Zm (ZH rfl) (Zm (ZH rfl) (Za (Za (Za (Ze _)))))))))) (Zd rfl (Zd rfl (Zd rfl (Zd rfl (Zf _)))))
    .refine zg ?_;exact Zl l_17 () (he18 _ (ZZs H18)).symm (Za (Za (Zm (ZH rfl) (Zm (ZH rfl) (Za (Za (Za (Ze _)))))))) (Zd rfl (Zd rfl (Zd rfl (Zd rfl (Zf _)))))
   rintro l_14 ⟨⟩ hp;replace hp:=hp.symm;subst hp;refine zg ?_;refine zX (A4 (ZW Af) rfl) ?_;refine zn H9 λx_24 ex_24 H9=>?_
   refine zX (A4 (Zt (ZP ex_24.h rfl)) rfl) ?_;refine zX (Bk (AS (Mw ex_24.h (off:=0) (by omega) (by decide)))) ?_;refine zo H9 λx_25 _ H9=>?_
   refine zE ?_;refine TE.coll b9_3 b21_12 (o:=((0+Xaa x_7*Dat.sz Zo)+0)) (((PF 0 Zo (List (List UInt8)) (AP ex_24.h))).st (l_14:List (List UInt8))) (ZJ XaR rfl) ?_;exact Ai b1_0 (Fw (m:=x_8.length) (n:=(x_8.set (Xaa x_7) (⟨l_14,x_24.Used,x_24.Worn,x_24.Bad⟩:Zo)).length) (by simp))<|Zv ⟨x_25,(x_8.set (Xaa x_7) (⟨l_14,x_24.Used,x_24.Worn,x_24.Bad⟩:Zo))⟩ () (ZZs H9) (Za (Za (Zm (ZH (by simp)) (Za (Za (Ze _)))))) (Zd rfl (Zd rfl (Zd rfl (Zf _))))
  .refine zg ?_;exact Zl x_8 () (he9 _ (ZZs H9)).symm (Za (Za (Ze _))) (Zd rfl (Zd rfl (Zd rfl (Zf _))))
 rintro l_5 ⟨⟩ hp;replace hp:=hp.symm;subst hp;refine zg ?_;refine TSx (AL (Pl.mix (PF 5 Chip (List Au) ZB) (by first|decide|omega))) ?_;refine zb H λx_26 _ H=>?_
 refine Bk (ZD (y:=(x_26:(List Au))) (Pl.mix (PF 5 Chip (List Au) ZB) (by first|decide|omega))) ?_;refine zC ?_;refine zn H λ_ ecx_27 H=>?_
 refine zX (ZF b1_0 (DC (Ag ecx_27.h))) ?_;refine TS.coll b1_0 b9_3 (o:=2) (((PF 2 Chip (List Zo) ZB)).st (l_5:List Zo)) (ZJ XaR rfl) ?_;exact zY H
def Hp(c0:Chip):Option Int:=
 (MX (c0.Blocks.length:Int) c0.Pages c0.Size).bind λx_2=>some x_2
instance ZdI:Fd1 45 Hp λr=>D r:=en1 Tryz.func45 rfl Tryz.ntmps45 λ_ _ _ _ _ H=>by
 unfold Hp at H;exact zY H
def GQ(c0:Chip):Option (Fib×Int):=
 (GP c0).bind λx_3=>bif (decide (x_3=(0:Int)))then((Di c0).bind λx_4=>(some ((⟨(⟨x_4,[],0,0⟩:Vol),[]⟩:Fib):Fib)).bind λk_5=>some (k_5,(1:Int)))else((Hp c0).bind λx_6=>(F5 c0 x_6).bind λr_7=>(some ((⟨r_7.1,[]⟩:Fib):Fib)).bind λk_9=>some (k_9,r_7.2))
instance ZcI:Fd1 10 GQ λr=>Tup [D r.1,D r.2]:=en1 Tryz.func10 rfl Tryz.ntmps10 λA w hA c0 r H=>by
 unfold GQ at H;refine zg ?_;refine Xa9 rfl λb1_0=>?_
 refine Xaq rfl λb2_1=>zg ?_
 refine zb H λ_ _ H=>?_
 refine zc H (λhc H=>?_) λhc H=>?_
 .refine zg ?_;refine zb H λx_4 _ H=>?_
  refine TSx (tB (⟨x_4,[],0,0⟩:Vol) rfl rfl) ?_;refine TSx (tB (⟨(⟨x_4,[],0,0⟩:Vol),[]⟩:Fib) rfl rfl) ?_;exact zY H
 .refine AH<|Az ?_;refine zX (Bd [7,8] [] mix (by kernel_rfl) (by kernel_rfl)) ?_;refine zb H λ_ _ H=>?_
  refine zb H λr_7 _ H=>?_
  refine GT (λg=>DZ (α:=Vol)) rfl<|DP (λg=>(ZD (y:=(r_7.1:Vol)) ZB)) rfl ?_;refine zC ?_;rintro⟨⟨_,⟨b4_7,_⟩⟩,_⟩;dsimp only[XaV,XaW,XaS,Xan,Xam];refine zg ?_;refine TSx (tB (⟨r_7.1,[]⟩:Fib) rfl rfl) ?_;exact zY H
def Ma(v0x:Vol)(id0:Int):Option (List UInt8):=
 (idx v0x.At id0).bind λx_2=>(GG x_2 1).bind λx_3=>bif (decide (x_3<(0:Int)))then(some ([]:List UInt8))else((JB x_3 v0x.Chip.Pages).bind λx_4=>(idx v0x.Chip.Blocks x_4).bind λx_5=>(RM x_3 v0x.Chip.Pages).bind λx_6=>(idx x_5.Pages x_6).bind λx_7=>(Eb x_7).bind λr_8=>bif (decide (r_8.2≠(0:Int)))then(some ([]:List UInt8))else(some r_8.1.Body))
instance ZeF:Fd2 105 Ma λr=>D r:=en2 Tryz.func105 rfl Tryz.ntmps105 λA w hA v0x id0 r H=>by
 unfold Ma at H;refine zg ?_;refine Xa9 rfl λb2_0=>zg ?_
 refine zb H λ_ _ H=>?_
 refine zb H λ_ _ H=>?_
 refine zc H (λhc H=>?_) λhc H=>?_
 .exact zY H
 .refine AH<|Az ?_;refine zX (Bd [22,23] [] mix (by kernel_rfl) (by kernel_rfl)) ?_;refine zb H λ_ _ H=>?_
  refine zb H λ_ _ H=>?_
  refine zb H λ_ _ H=>?_
  refine zb H λ_ _ H=>?_
  refine zb H λr_8 _ H=>?_
  refine GT (λg=>DZ (α:=B9)) rfl<|DP (λg=>(ZD (y:=(r_8.1:B9)) ZB)) rfl ?_;refine zC ?_;rintro⟨⟨_,⟨b6_8,_⟩⟩,_⟩;dsimp only[XaV,XaW,XaS,Xan,Xam];exact zY H
def Ho(r_5:(Vol×Int))(l_12:(List (List UInt8)))(x_15:Int)(bodies_16:(List (List UInt8))):Option ((Int×(List (List UInt8)))⊕(List (List UInt8))):=
 bif (decide (x_15<(l_12.length:Int)))then((Ma r_5.1 x_15).bind λx_18=>(idx bodies_16 x_15).bind λx_19=>(some ((bodies_16.set (Xaa x_15) x_18):(List (List UInt8)))).bind λl_20=>(AC x_15 1).bind λx_21=>some (.inl (x_21,l_20)))else(some (.inr bodies_16))
def KF(c0:Chip):Option (Fib×(List (List UInt8))×Int):=
 (GP c0).bind λx_3=>bif (decide (x_3=(0:Int)))then((some ((⟨Dat.z,[]⟩:Fib):Fib)).bind λk_4=>some (k_4,([]:List (List UInt8)),(1:Int)))else((Hm c0).bind λr_5=>bif (decide (r_5.2≠(0:Int)))then((some ((⟨Dat.z,[]⟩:Fib):Fib)).bind λk_7=>some (k_7,([]:List (List UInt8)),r_5.2))else((Hp c0).bind λx_8=>bif (decide ((r_5.1.At.length:Int)≠x_8))then((some ((⟨Dat.z,[]⟩:Fib):Fib)).bind λk_9=>some (k_9,([]:List (List UInt8)),(2:Int)))else((Dv 24 (r_5.1.At.length:Int)).bind λu_10=>(some ((Xac (Xaa (r_5.1.At.length:Int)) (Dat.z:(List UInt8))):(List (List UInt8)))).bind λl_12=>(ZN (λs=>Ho r_5 l_12 s.1 s.2) ((0:Int),l_12)).bind λbodies_13=>(Fv bodies_13).bind λr_22=>bif (decide (r_22.2≠(0:Int)))then((some ((⟨Dat.z,[]⟩:Fib):Fib)).bind λk_23=>some (k_23,([]:List (List UInt8)),(2:Int)))else((some ((⟨r_5.1,r_22.1⟩:Fib):Fib)).bind λk_24=>some (k_24,bodies_13,(0:Int))))))
instance ZeE:Fd1 56 KF λr=>Tup [D r.1,D r.2.1,D r.2.2]:=en1 Tryz.func56 rfl Tryz.ntmps56 λA w hA c0 r H=>by
 unfold KF at H;refine zg ?_;refine Xa9 rfl λb1_0=>?_
 refine Xaq rfl λb2_1=>zg ?_
 refine zb H λ_ _ H=>?_
 refine zc H (λhc H=>?_) λhc H=>?_
 .refine zg ?_;refine TSx (tB (⟨Dat.z,[]⟩:Fib) rfl rfl) ?_;exact zY H
 .refine zg ?_;refine zb H λr_5 _ H=>?_
  refine Xaq rfl λb5_5=>zg ?_
  refine zc H (λhc H=>?_) λhc H=>?_
  .refine zg ?_;refine TSx (tB (⟨Dat.z,[]⟩:Fib) rfl rfl) ?_;exact zY H
  .refine zg ?_;refine zb H λ_ _ H=>?_
   refine zc H (λhc H=>?_) λhc H=>?_
   .refine zg ?_;refine TSx (tB (⟨Dat.z,[]⟩:Fib) rfl rfl) ?_;exact zY H
   .refine zg ?_;refine zn H λ_ eu_10 H=>?_
    refine FJ eu_10.h ⟨(A6 eu_10.h).1,XaJ _⟩ rfl λb33_10=>?_
    refine zC ?_;refine zn H λl_12 el_12 H=>?_
    refine ZF b33_10 (Ah el_12.h) ?_;refine zX (B8 7 _ (AY el_12.h (by simp))) ?_;refine TSx (AK (n:=l_12.length) rfl) ?_;refine zC ?_;refine zh H λo_14 H14 H=>?_
    refine Zs (λs:(List (List UInt8))=>o_14=s) (λ(bodies_13:(List (List UInt8))) (_:Unit)=>(TR (TR (TR Xaj 2 (Pt b2_1 0)) 5 (Pt b5_5 0)) 7 (Sl b33_10 True 0 bodies_13.length (Xaa (r_5.1.At.length:Int))))) (λ(bodies_13:(List (List UInt8))) (_:Unit)=>[⟨b33_10,True,(Row (bodies_13:List (List UInt8)) (Xaa (r_5.1.At.length:Int)))⟩,⟨b2_1,True,(One ((Dat.z:Fib):Fib))⟩,⟨b5_5,True,(One r_5.1)⟩]) ?_ ?_
    .skip;refine Zr<|Zx H14 (λ⟨x_15,bodies_16⟩ (_:Unit)=>(TR (TR (TR (TR (TR Xaj 2 (Pt b2_1 0)) 5 (Pt b5_5 0)) 7 (Sl b33_10 True 0 bodies_16.length (Xaa (r_5.1.At.length:Int)))) 35 (D ((l_12.length:Int):Int))) 36 (D x_15))) (λ⟨x_15,bodies_16⟩ (_:Unit)=>[⟨b33_10,True,(Row (bodies_16:List (List UInt8)) (Xaa (r_5.1.At.length:Int)))⟩,⟨b2_1,True,(One ((Dat.z:Fib):Fib))⟩,⟨b5_5,True,(One r_5.1)⟩]) () (Za (Za (Zm (ZH rfl) (Za (Za (Ze _)))))) (Zd rfl (Zd rfl (Zd rfl (Zf _)))) ?_;rintro⟨x_15,bodies_16⟩ ⟨⟩ x_17 H17 he17;dsimp only at H17;unfold Ho at H17;refine zg ?_;refine zc H17 (λhc H17=>?_) λhc H17=>?_
     .refine zg ?_;refine zb H17 λ_ _ H17=>?_
      refine zn H17 λ_ ex_19 H17=>?_
      refine TSx (Zt (ZP ex_19.h rfl)) ?_;refine zE ?_;refine zn H17 λl_20 el_20 H17=>?_
      refine Ai b33_10 (Ah el_20.h) ?_;refine zX (C9 7 _ (AY el_20.h (by simp))) ?_;refine zb H17 λx_21 _ H17=>?_
      exact Zv ⟨x_21,l_20⟩ () (ZZs H17) (Za (Za (Zm (ZH rfl) (Za (Za (Ze _)))))) (Zd rfl (Zd rfl (Zd rfl (Zf _))))
     .refine zg ?_;exact Zl bodies_16 () (he17 _ (ZZs H17)).symm (Zm (ZH rfl) (Za (Za (Ze _)))) (Zd rfl (Zd rfl (Zd rfl (Zf _))))
    rintro bodies_13 ⟨⟩ hp;replace hp:=hp.symm;subst hp;refine zg ?_;refine TS.pub b33_10 (XbM 47 (ZJ XaR rfl) (XbM 7 (ZJ XaR rfl) Xb2)) ?_;refine zb H λr_22 _ H=>?_
    refine zc H (λhc H=>?_) λhc H=>?_
    .refine zg ?_;refine TSx (tB (⟨Dat.z,[]⟩:Fib) rfl rfl) ?_;exact zY H
    .refine zg ?_;refine TSx (tB (⟨r_5.1,r_22.1⟩:Fib) rfl rfl) ?_;exact zY H
def IK(c0:Chip):Option (Fib×Int):=
 (KF c0).bind λr_3=>some (r_3.1,r_3.2.2)
instance ZdK:Fd1 14 IK λr=>Tup [D r.1,D r.2]:=en1 Tryz.func14 rfl Tryz.ntmps14 λ_ _ _ _ _ H=>by
 unfold IK at H;exact zY H
def AX(s10:(List Route))(s20:(List Route))(x_2:Int):Option (Int⊕(Unit⊕Bool)):=
 bif (decide (x_2<(s10.length:Int)))then((idx s10 x_2).bind λx_4=>(idx s20 x_2).bind λx_5=>bif (decide (x_4≠x_5))then(some (.inr (.inr false)))else((AC x_2 1).bind λx_7=>some (.inl x_7)))else(some (.inr (.inl ())))
def Bg(s10:(List Route))(s20:(List Route)):Option Bool:=
 bif (decide ((s10.length:Int)≠(s20.length:Int)))then(some false)else((ZN (λs=>AX s10 s20 s) (0:Int)).bind λo_1=>elS o_1 (λ_=>some true) (λq=>some q))
instance PE:Fd2 98 Bg λr=>D r:=en2 Tryz.func98 rfl Tryz.ntmps98 λA w hA s10 s20 r H=>by
 unfold Bg at H;refine zg ?_;refine zc H (λhc H=>?_) λhc H=>?_
 .exact zY H
 .refine zC ?_;refine zh H λo_1 H1 H=>?_
  refine Zs (λs:Unit=>o_1=.inl s) (λ(_:Unit) (_:Unit)=>Xaj) (λ(_:Unit) (_:Unit)=>[]) ?_ ?_
  .skip;refine Zr<|Zx H1 (λ(x_2:Int) (_:Unit)=>(TR (TR (TR (TR Xaj 0 (D s10)) 1 (D s20)) 12 (D ((s10.length:Int):Int))) 13 (D x_2))) (λ(x_2:Int) (_:Unit)=>[]) () (Za (Za (Za (Za (Ze _))))) (Zf _) ?_;rintro x_2 ⟨⟩ x_3 H3 he3;unfold AX at H3;refine zg ?_;refine zc H3 (λhc H3=>?_) λhc H3=>?_
   .refine zg ?_;refine zb H3 λ_ _ H3=>?_
    refine zb H3 λ_ _ H3=>?_
    refine zX (Fd (FK YO (by decide) YP rfl) rfl) ?_;refine zc H3 (λhc H3=>?_) λhc H3=>?_
    .refine zC ?_;refine ZO<|Zh<|Zi<|Zi<|Zh<|Zw ?_;have R5:=AQ (he3 _ (ZZs H3)) H;refine zg ?_;obtain rfl:=ZZi R5;exact Bc rfl Cv.le
    .refine zg ?_;refine zb H3 λx_7 _ H3=>?_
     exact Zv x_7 () (ZZs H3) (Za (Za (Za (Za (Ze _))))) (Zf _)
   .refine zg ?_;exact Zl () () (he3 _ (ZZs H3)).symm (Ze _) (Zf _)
  rintro⟨⟩ ⟨⟩ hp;replace H:=Bs hp H;exact zY H
def GO(f0:Fib):Option ((List (List UInt8))×Bool):=
 (some ((⟨f0.Vol.Chip.Pages,f0.Vol.Chip.Size,f0.Vol.Chip.Blocks,f0.Vol.Chip.Ops,false,f0.Vol.Chip.Faults⟩:Chip):Chip)).bind λcx_3=>(KF cx_3).bind λr_4=>bif (((decide (r_4.2.2≠(0:Int)))||(decide (f0.Vol.Gen≠r_4.1.Vol.Gen)))||(decide (f0.Vol.Last≠r_4.1.Vol.Last)))then(some (([]:List (List UInt8)),false))else((Ca f0.Vol.At r_4.1.Vol.At).bind λx_6=>(gb (!(!x_6)) (Bg f0.Table r_4.1.Table)).bind λx_7=>bif ((!x_6)||(!x_7))then(some (([]:List (List UInt8)),false))else(some (r_4.2.1,true)))
instance ZcF:Fd1 51 GO λr=>Tup [D r.1,D r.2]:=en1 Tryz.func51 rfl Tryz.ntmps51 λA w hA f0 r H=>by
 unfold GO at H;refine zg ?_;refine Xa9 rfl λb1_0=>zg ?_
 refine Xaq rfl λb4_1=>?_
 refine zC ?_;refine zC ?_;refine zn H λ_ ecx_3 H=>?_
 refine zX (ZF b4_1 (Ag ecx_3.h)) ?_;refine zb H λ_ _ H=>?_
 refine Xaq rfl λb5_4=>zg ?_
 refine MC 20 rfl (λhg=>SF) rfl ?_;exact zY H
def EF(f0:Fib):Option Fib:=
 (Di f0.Vol.Chip).bind λx_3=>(some ((⟨(⟨x_3,f0.Vol.At,f0.Vol.Gen,f0.Vol.Last⟩:Vol),f0.Table⟩:Fib):Fib)).bind λf_4=>(A1 f_4.Vol.At).bind λx_5=>(some ((⟨(⟨f_4.Vol.Chip,x_5,f_4.Vol.Gen,f_4.Vol.Last⟩:Vol),f_4.Table⟩:Fib):Fib)).bind λf_6=>(ZY f_6.Table).bind λx_7=>(some ((⟨f_6.Vol,x_7⟩:Fib):Fib)).bind λf_8=>some f_8
instance ZcH:Fd1 52 EF λr=>D r:=en1 Tryz.func52 rfl Tryz.ntmps52 λ_ _ _ _ _ H=>by
 unfold EF at H;exact zY H
def Hq(f0:Fib)(l0:(List BA)):Option (Fib×Int):=
 (GO f0).bind λr_3=>bif (!r_3.2)then((EF f0).bind λx_4=>some (x_4,(1:Int)))else((GZ f0.Table l0).bind λr_5=>bif (decide (r_5.2≠(0:Int)))then((EF f0).bind λx_6=>some (x_6,r_5.2))else((Hp f0.Vol.Chip).bind λx_7=>(Dy f0.Vol.Chip.Size).bind λx_8=>(Hb r_5.1 x_7 x_8).bind λr_9=>bif (decide (r_9.2≠(0:Int)))then((EF f0).bind λx_10=>some (x_10,r_9.2))else((FY r_3.1 r_9.1).bind λx_11=>bif (decide ((x_11.length:Int)=(0:Int)))then((EF f0).bind λx_12=>(some ((⟨x_12.Vol,r_5.1⟩:Fib):Fib)).bind λf_13=>some (f_13,(0:Int)))else((Hl f0.Vol x_11).bind λr_14=>(bif (decide (r_14.2≠(0:Int)))then((ZY f0.Table).bind λx_18=>some x_18)else(some r_5.1)).bind λt_16=>(some ((⟨r_14.1,t_16⟩:Fib):Fib)).bind λk_19=>some (k_19,r_14.2)))))
instance ZdL:Fd2 13 Hq λr=>Tup [D r.1,D r.2]:=en2 Tryz.func13 rfl Tryz.ntmps13 λA w hA f0 l0 r H=>by
 unfold Hq at H;refine zg ?_;refine Xa9 rfl λb2_0=>?_
 refine Xaq rfl λb4_1=>zg ?_
 refine zb H λ_ _ H=>?_
 refine zc H (λhc H=>?_) λhc H=>?_
 .exact zY H
 .refine zg ?_;refine zb H λr_5 _ H=>?_
  refine zc H (λhc H=>?_) λhc H=>?_
  .exact zY H
  .refine zg ?_;refine zb H λ_ _ H=>?_
   refine zb H λ_ _ H=>?_
   refine zb H λ_ _ H=>?_
   refine zc H (λhc H=>?_) λhc H=>?_
   .exact zY H
   .refine zg ?_;refine zb H λ_ _ H=>?_
    refine zc H (λhc H=>?_) λhc H=>?_
    .exact zY H
    .refine zg ?_;refine zb H λr_14 _ H=>?_
     refine Xaq rfl λb12_14=>?_
     refine zC ?_;refine AI ?_;refine zh H λo_17 H17 H=>?_
     refine Zs (λs:(List Route)=>o_17=s) (λ(t_16:(List Route)) (_:Unit)=>(TR (TR (TR (TR Xaj 4 (Pt b4_1 0)) 8 (D t_16)) 9 (D r_14.2)) 12 (Pt b12_14 0))) (λ(t_16:(List Route)) (_:Unit)=>[⟨b4_1,True,(One ((Dat.z:Fib):Fib))⟩,⟨b12_14,True,(One r_14.1)⟩]) ?_ ?_
     .skip;refine zg ?_;refine zc H17 (λhc H17=>?_) λhc H17=>?_
      .refine zg ?_;refine zb H17 λx_18 _ H17=>?_
       exact Zl x_18 () (ZZs H17) (Za (Za (Za (Za (Ze _))))) (Zd rfl (Zd rfl (Zf _)))
      .refine zg ?_;exact Zl r_5.1 () (ZZs H17) (Za (Za (Za (Za (Ze _))))) (Zd rfl (Zd rfl (Zf _)))
     rintro t_16 ⟨⟩ hp;replace hp:=hp.symm;subst hp;refine zg ?_;refine TSx (tB (⟨r_14.1,t_16⟩:Fib) rfl rfl) ?_;exact zY H
def Mb(f0:Fib):Option Bool:=
 (GO f0).bind λr_2=>some r_2.2
instance ZdJ:Fd1 78 Mb λr=>D r:=en1 Tryz.func78 rfl Tryz.ntmps78 λ_ _ _ _ _ H=>by
 unfold Mb at H;exact zY H
def Md(f0:Fib)(k0:(Vec UInt8 16))(bits0:Int):Option (Route×Int):=
 (Mb f0).bind λx_4=>bif (!x_4)then((some ((⟨Dat.z,0⟩:Route):Route)).bind λk_5=>some (k_5,(1:Int)))else((CS f0.Table k0 bits0).bind λr_6=>some (r_6.1,r_6.2))
instance ZeH:Fd3 31 Md λr=>Tup [D r.1,D r.2]:=en3 Tryz.func31 rfl Tryz.ntmps31 λA w hA f0 k0 bits0 r H=>by
 unfold Md at H;refine zg ?_;refine Xa9 rfl λb3_0=>?_
 refine Xa9 rfl λb4_1=>?_
 refine Xaq rfl λb6_2=>zg ?_
 refine zb H λ_ _ H=>?_
 refine zc H (λhc H=>?_) λhc H=>?_
 .refine zg ?_;refine TSx (tB (⟨Dat.z,0⟩:Route) rfl rfl) ?_;exact zY H
 .exact zY H
def CG(a0:(List Route))(b0:(List Route))(i_2:Int):Option (Int⊕(Unit⊕Bool)):=
 bif (decide (i_2<(a0.length:Int)))then((idx a0 i_2).bind λx_4=>(idx b0 i_2).bind λx_5=>bif (decide (x_4≠x_5))then(some (.inr (.inr false)))else((AC i_2 1).bind λx_7=>some (.inl x_7)))else(some (.inr (.inl ())))
def DO(a0:(List Route))(b0:(List Route)):Option Bool:=
 bif (decide ((a0.length:Int)≠(b0.length:Int)))then(some false)else((ZN (λs=>CG a0 b0 s) (0:Int)).bind λo_1=>elS o_1 (λ_=>some true) (λq=>some q))
instance Wh:Fd2 16 DO λr=>D r:=en2 Tryz.func16 rfl Tryz.ntmps16 λA w hA a0 b0 r H=>by
 unfold DO at H;refine zg ?_;refine zc H (λhc H=>?_) λhc H=>?_
 .exact zY H
 .refine zC ?_;refine zh H λo_1 H1 H=>?_
  refine Zs (λs:Unit=>o_1=.inl s) (λ(_:Unit) (_:Unit)=>Xaj) (λ(_:Unit) (_:Unit)=>[]) ?_ ?_
  .skip;refine Zr<|Zx H1 (λ(i_2:Int) (_:Unit)=>(TR (TR (TR Xaj 0 (D a0)) 1 (D b0)) 5 (D i_2))) (λ(i_2:Int) (_:Unit)=>[]) () (Za (Za (Za (Ze _)))) (Zf _) ?_;rintro i_2 ⟨⟩ x_3 H3 he3;unfold CG at H3;refine zg ?_;refine zc H3 (λhc H3=>?_) λhc H3=>?_
   .refine zg ?_;refine zb H3 λ_ _ H3=>?_
    refine zb H3 λ_ _ H3=>?_
    refine zX (Fd (FK YO (by decide) YP rfl) rfl) ?_;refine zc H3 (λhc H3=>?_) λhc H3=>?_
    .refine zC ?_;refine ZO<|Zh<|Zi<|Zi<|Zh<|Zw ?_;have R5:=AQ (he3 _ (ZZs H3)) H;refine zg ?_;obtain rfl:=ZZi R5;exact Bc rfl Cv.le
    .refine zg ?_;refine zb H3 λx_7 _ H3=>?_
     exact Zv x_7 () (ZZs H3) (Za (Za (Za (Ze _)))) (Zf _)
   .refine zg ?_;exact Zl () () (he3 _ (ZZs H3)).symm (Ze _) (Zf _)
  rintro⟨⟩ ⟨⟩ hp;replace H:=Bs hp H;exact zY H
def BJ(a0:Zo)(b0:Zo)(i_4:Int):Option (Int⊕(Unit⊕Bool)):=
 bif (decide (i_4<(a0.Pages.length:Int)))then((idx a0.Pages i_4).bind λx_6=>(idx b0.Pages i_4).bind λx_7=>bif (decide (x_6≠x_7))then(some (.inr (.inr false)))else((AC i_4 1).bind λx_9=>some (.inl x_9)))else(some (.inr (.inl ())))
def C6(a0:Zo)(b0:Zo):Option Bool:=
 bif ((((decide (a0.Used≠b0.Used))||(decide (a0.Worn≠b0.Worn)))||(decide (a0.Bad≠b0.Bad)))||(decide ((a0.Pages.length:Int)≠(b0.Pages.length:Int))))then(some false)else((ZN (λs=>BJ a0 b0 s) (0:Int)).bind λo_3=>elS o_3 (λ_=>some true) (λq=>some q))
instance TJ:Fd2 136 C6 λr=>D r:=en2 Tryz.func136 rfl Tryz.ntmps136 λA w hA a0 b0 r H=>by
 unfold C6 at H;refine zg ?_;refine Xa9 rfl λb2_0=>?_
 refine Xa9 rfl λb3_1=>zg ?_
 refine zX (MC 18 rfl (λhg=>(Nu Tryz.underlying4)) rfl) ?_;refine zc H (λhc H=>?_) λhc H=>?_
 .exact zY H
 .refine zC ?_;refine zh H λo_3 H3 H=>?_
  refine Zs (λs:Unit=>o_3=.inl s) (λ(_:Unit) (_:Unit)=>Xaj) (λ(_:Unit) (_:Unit)=>[]) ?_ ?_
  .skip;refine Zr<|Zx H3 (λ(i_4:Int) (_:Unit)=>(TR (TR (TR Xaj 2 (Pt b2_0 0)) 3 (Pt b3_1 0)) 5 (D i_4))) (λ(i_4:Int) (_:Unit)=>[⟨b2_0,True,(One a0)⟩,⟨b3_1,True,(One b0)⟩]) () (Za (Za (Za (Ze _)))) (Zd rfl (Zd rfl (Zf _))) ?_;rintro i_4 ⟨⟩ x_5 H5 he5;unfold BJ at H5;refine zg ?_;refine zc H5 (λhc H5=>?_) λhc H5=>?_
   .refine zg ?_;refine zb H5 λ_ _ H5=>?_
    refine zX (Fd CH rfl) ?_;refine zb H5 λ_ _ H5=>?_
    refine TRx CH ?_;refine zX (Fd Pw rfl) ?_;refine zc H5 (λhc H5=>?_) λhc H5=>?_
    .refine zC ?_;refine ZO<|Zh<|Zi<|Zi<|Zh<|Zw ?_;have R7:=AQ (he5 _ (ZZs H5)) H;refine zg ?_;obtain rfl:=ZZi R7;exact Bc rfl Cv.le
    .refine zg ?_;refine zb H5 λx_9 _ H5=>?_
     exact Zv x_9 () (ZZs H5) (Za (Za (Za (Ze _)))) (Zd rfl (Zd rfl (Zf _)))
   .refine zg ?_;exact Zl () () (he5 _ (ZZs H5)).symm (Ze _) (Zf _)
  rintro⟨⟩ ⟨⟩ hp;replace H:=Bs hp H;exact zY H
def CF(a0:Chip)(b0:Chip)(i_4:Int):Option (Int⊕(Unit⊕Bool)):=
 bif (decide (i_4<(a0.Faults.length:Int)))then((idx a0.Faults i_4).bind λx_6=>(idx b0.Faults i_4).bind λx_7=>bif (decide (x_6≠x_7))then(some (.inr (.inr false)))else((AC i_4 1).bind λx_9=>some (.inl x_9)))else(some (.inr (.inl ())))
def CE(a0:Chip)(b0:Chip)(i_11:Int):Option (Int⊕(Unit⊕Bool)):=
 bif (decide (i_11<(a0.Blocks.length:Int)))then((idx a0.Blocks i_11).bind λx_13=>(idx b0.Blocks i_11).bind λx_14=>(C6 x_13 x_14).bind λx_15=>bif (!x_15)then(some (.inr (.inr false)))else((AC i_11 1).bind λx_17=>some (.inl x_17)))else(some (.inr (.inl ())))
def DM(a0:Chip)(b0:Chip):Option Bool:=
 bif ((((((decide (a0.Pages≠b0.Pages))||(decide (a0.Size≠b0.Size)))||(decide (a0.Ops≠b0.Ops)))||(decide (a0.Off≠b0.Off)))||(decide ((a0.Blocks.length:Int)≠(b0.Blocks.length:Int))))||(decide ((a0.Faults.length:Int)≠(b0.Faults.length:Int))))then(some false)else((ZN (λs=>CF a0 b0 s) (0:Int)).bind λo_3=>elS o_3 (λ_=>(ZN (λs=>CE a0 b0 s) (0:Int)).bind λo_10=>elS o_10 (λ_=>some true) (λq=>some q)) (λq=>some q))
instance Wg:Fd2 107 DM λr=>D r:=en2 Tryz.func107 rfl Tryz.ntmps107 λA w hA a0 b0 r H=>by
 unfold DM at H;refine zg ?_;refine Xa9 rfl λb2_0=>?_
 refine Xa9 rfl λb3_1=>zg ?_
 refine zX (MC 26 rfl (λhg=>(Nu Tryz.underlying4)) rfl) ?_;refine zc H (λhc H=>?_) λhc H=>?_
 .exact zY H
 .refine zC ?_;refine zh H λo_3 H3 H=>?_
  refine Zs (λs:Unit=>o_3=.inl s) (λ(_:Unit) (_:Unit)=>(TR (TR Xaj 2 (Pt b2_0 0)) 3 (Pt b3_1 0))) (λ(_:Unit) (_:Unit)=>[⟨b2_0,True,(One a0)⟩,⟨b3_1,True,(One b0)⟩]) ?_ ?_
  .skip;refine Zr<|Zx H3 (λ(i_4:Int) (_:Unit)=>(TR (TR (TR Xaj 2 (Pt b2_0 0)) 3 (Pt b3_1 0)) 5 (D i_4))) (λ(i_4:Int) (_:Unit)=>[⟨b2_0,True,(One a0)⟩,⟨b3_1,True,(One b0)⟩]) () (Za (Za (Za (Ze _)))) (Zd rfl (Zd rfl (Zf _))) ?_;rintro i_4 ⟨⟩ x_5 H5 he5;unfold CF at H5;refine zg ?_;refine zc H5 (λhc H5=>?_) λhc H5=>?_
   .refine zg ?_;refine zb H5 λ_ _ H5=>?_
    refine zb H5 λ_ _ H5=>?_
    refine zX (Fd (FK Zeq (by decide) Zes rfl) rfl) ?_;refine zc H5 (λhc H5=>?_) λhc H5=>?_
    .refine zC ?_;refine ZO<|Zh<|Zi<|Zi<|Zh<|Zw ?_;have R7:=AQ (he5 _ (ZZs H5)) H;refine zg ?_;obtain rfl:=ZZi R7;exact Bc rfl Cv.le
    .refine zg ?_;refine zb H5 λx_9 _ H5=>?_
     exact Zv x_9 () (ZZs H5) (Za (Za (Za (Ze _)))) (Zd rfl (Zd rfl (Zf _)))
   .refine zg ?_;exact Zl () () (he5 _ (ZZs H5)).symm (Za (Za (Ze _))) (Zd rfl (Zd rfl (Zf _)))
  rintro⟨⟩ ⟨⟩ hp;replace H:=Bs hp H;refine zC ?_;refine zh H λo_10 H10 H=>?_
  refine Zs (λs:Unit=>o_10=.inl s) (λ(_:Unit) (_:Unit)=>Xaj) (λ(_:Unit) (_:Unit)=>[]) ?_ ?_
  .skip;refine Zr<|Zx H10 (λ(i_11:Int) (_:Unit)=>(TR (TR (TR Xaj 2 (Pt b2_0 0)) 3 (Pt b3_1 0)) 6 (D i_11))) (λ(i_11:Int) (_:Unit)=>[⟨b2_0,True,(One a0)⟩,⟨b3_1,True,(One b0)⟩]) () (Za (Za (Za (Ze _)))) (Zd rfl (Zd rfl (Zf _))) ?_;rintro i_11 ⟨⟩ x_12 H12 he12;unfold CE at H12;refine zg ?_;refine zc H12 (λhc H12=>?_) λhc H12=>?_
   .refine zg ?_;refine zb H12 λ_ _ H12=>?_
    refine zb H12 λ_ _ H12=>?_
    refine zb H12 λ_ _ H12=>?_
    refine zc H12 (λhc H12=>?_) λhc H12=>?_
    .refine zC ?_;refine ZO<|Zh<|Zi<|Zi<|Zh<|Zw ?_;have R15:=AQ (he12 _ (ZZs H12)) H;refine zg ?_;obtain rfl:=ZZi R15;exact Bc rfl Cv.le
    .refine zg ?_;refine zb H12 λx_17 _ H12=>?_
     exact Zv x_17 () (ZZs H12) (Za (Za (Za (Ze _)))) (Zd rfl (Zd rfl (Zf _)))
   .refine zg ?_;exact Zl () () (he12 _ (ZZs H12)).symm (Ze _) (Zf _)
  rintro⟨⟩ ⟨⟩ hp;replace H:=Bs hp H;exact zY H
def CD(a0:(List Int))(b0:(List Int))(i_2:Int):Option (Int⊕(Unit⊕Bool)):=
 bif (decide (i_2<(a0.length:Int)))then((idx a0 i_2).bind λx_4=>(idx b0 i_2).bind λx_5=>bif (decide (x_4≠x_5))then(some (.inr (.inr false)))else((AC i_2 1).bind λx_7=>some (.inl x_7)))else(some (.inr (.inl ())))
def DL(a0:(List Int))(b0:(List Int)):Option Bool:=
 bif (decide ((a0.length:Int)≠(b0.length:Int)))then(some false)else((ZN (λs=>CD a0 b0 s) (0:Int)).bind λo_1=>elS o_1 (λ_=>some true) (λq=>some q))
instance Wf:Fd2 108 DL λr=>D r:=en2 Tryz.func108 rfl Tryz.ntmps108 λA w hA a0 b0 r H=>by
 unfold DL at H;refine zg ?_;refine zc H (λhc H=>?_) λhc H=>?_
 .exact zY H
 .refine zC ?_;refine zh H λo_1 H1 H=>?_
  refine Zs (λs:Unit=>o_1=.inl s) (λ(_:Unit) (_:Unit)=>Xaj) (λ(_:Unit) (_:Unit)=>[]) ?_ ?_
  .skip;refine Zr<|Zx H1 (λ(i_2:Int) (_:Unit)=>(TR (TR (TR Xaj 0 (D a0)) 1 (D b0)) 5 (D i_2))) (λ(i_2:Int) (_:Unit)=>[]) () (Za (Za (Za (Ze _)))) (Zf _) ?_;rintro i_2 ⟨⟩ x_3 H3 he3;unfold CD at H3;refine zg ?_;refine zc H3 (λhc H3=>?_) λhc H3=>?_
   .refine zg ?_;refine zb H3 λ_ _ H3=>?_
    refine zb H3 λ_ _ H3=>?_
    refine zc H3 (λhc H3=>?_) λhc H3=>?_
    .refine zC ?_;refine ZO<|Zh<|Zi<|Zi<|Zh<|Zw ?_;have R5:=AQ (he3 _ (ZZs H3)) H;refine zg ?_;obtain rfl:=ZZi R5;exact Bc rfl Cv.le
    .refine zg ?_;refine zb H3 λx_7 _ H3=>?_
     exact Zv x_7 () (ZZs H3) (Za (Za (Za (Ze _)))) (Zf _)
   .refine zg ?_;exact Zl () () (he3 _ (ZZs H3)).symm (Ze _) (Zf _)
  rintro⟨⟩ ⟨⟩ hp;replace H:=Bs hp H;exact zY H
def E3(a0:Vol)(b0:Vol):Option Bool:=
 (DM a0.Chip b0.Chip).bind λx_3=>(gb x_3 (DL a0.At b0.At)).bind λx_4=>some (((x_3&&x_4)&&(decide (a0.Gen=b0.Gen)))&&(decide (a0.Last=b0.Last)))
instance We:Fd2 57 E3 λr=>D r:=en2 Tryz.func57 rfl Tryz.ntmps57 λA w hA a0 b0 r H=>by
 unfold E3 at H;refine zg ?_;refine Xa9 rfl λb2_0=>?_
 refine Xa9 rfl λb3_1=>zg ?_
 refine zb H λ_ _ H=>?_
 refine zd H λ_ _ H=>?_
 refine MC 17 rfl (λhg=>O7) rfl ?_;exact zY H
def DK(a0:Fib)(b0:Fib):Option Bool:=
 (E3 a0.Vol b0.Vol).bind λx_3=>(gb x_3 (DO a0.Table b0.Table)).bind λx_4=>some (x_3&&x_4)
instance Wd:Fd2 15 DK λr=>D r:=en2 Tryz.func15 rfl Tryz.ntmps15 λ_ _ _ _ _ _ H=>by
 unfold DK at H;exact zY H
def FT:Option Bool:=
 (Ij (⟨([49,48,46,48,46,48,46,48,47,56,32,55]:List UInt8)⟩:Txt)).bind λr_1=>(Jl (6:Int) (2:Int) (64:Int)).bind λr_3=>(GQ r_3.1).bind λr_5=>(Hq r_5.1 ([(⟨r_1.1,false⟩:BA)]:List BA)).bind λr_7=>(IK r_7.1.Vol.Chip).bind λr_9=>(Ev r_9.1.Table (32:Int)).bind λr_11=>(GY r_11.1 (((Dat.z:(Vec UInt8 16)).set 0 (XaN 10)).set 1 (XaN 9))).bind λr_13=>some (((((((((decide (r_1.2=(0:Int)))&&(decide (r_3.2=(0:Int))))&&(decide (r_5.2=(0:Int))))&&(decide (r_7.2=(0:Int))))&&(decide (r_9.2=(0:Int))))&&(decide (r_11.2=(0:Int))))&&(decide (r_13.2.2=(0:Int))))&&(decide (r_13.1=(8:Int))))&&(decide (r_13.2.1=(UInt16.ofNat 7))))
theorem NI{A:Nat->Prop}   {r:Bool} (w:World)  (hA:∀k,w.heap.size<=k->A k)   (H:FT=some r) :
    Calls Tryz.prog 7 #[] w (Ret A w (D r)):=by
 unfold FT at H;refine zX (Zfl hA Tryz.func7 rfl Tryz.ntmps7 rfl ) ?_;refine zb H λr_1 _ H=>?_
 refine Xaq rfl λb1_1=>zg ?_
 refine zb H λ_ _ H=>?_
 refine Xaq rfl λb3_3=>zg ?_
 refine zb H λ_ _ H=>?_
 refine Xaq rfl λb5_5=>zg ?_
 refine TSx (tB (⟨r_1.1,false⟩:BA) rfl rfl) ?_;refine TSx (Xbx [.tmp 32] rfl rfl (by decide)) ?_;refine zb H λ_ _ H=>?_
 refine Xaq rfl λb7_7=>zg ?_
 refine zb H λ_ _ H=>?_
 refine Xaq rfl λb9_9=>zg ?_
 refine zb H λ_ _ H=>?_
 refine Xaq rfl λb11_11=>zg ?_
 refine TSx (DS (ps:=_) (((Dat.z:(Vec UInt8 16)).set 0 (XaN 10)).set 1 (XaN 9)) rfl Tryz.underlying83 rfl) ?_;refine zb H λ_ _ H=>?_
 refine MC 87 rfl (λhg=>SI) rfl ?_;exact zY H
end
theorem Gq(b:List UInt8):Eb b=some (D5 b):=by
 by_cases h:b.length<=1000000
 .exact RT b h
 .have h1:¬Hw b.length:=by unfold Hw;omega
  unfold Eb D5;rw[HM,Zb,Zj (by simp[h1]),if_pos h1,Zb];rfl
def Ff(s:Int):Int:=min 64 (E5 s/2)
theorem Sy(s:Int):0<=E5 s/\E5 s<=240:=by
 unfold E5;split
 .rename_i h;unfold Hw at h;omega
 .omega
theorem JO(s:Int):G5 s=some (Ff s):=by
 unfold G5;have:=Sy s;rw[Dx,Zb,G7 (by omega) (by omega),Zb];rfl
def Wq(r:AA)(s:Int):Prop:=Hw s/\r.Gen<Xap 281474976710656/\(r.At.length:Int)<=Ff s/\∀n∈r.At,0<=n/\n<=65535
instance {r:AA}{s:Int}:Decidable (Wq r s):=by unfold Wq;exact inferInstance
theorem S4(r:AA)(s:Int):LW r s=some (decide (Wq r s)):=by
 unfold LW;have hr:=Sy s;rw[Dx,Zb,J0 (JO s),Zb]
 by_cases h:Hw s/\r.Gen<Xap 281474976710656/\(r.At.length:Int)<=Ff s
 .obtain ⟨h1,h2,h3⟩:=h;have d1:decide (E5 s=(0:Int))=false:=by
   unfold E5;rw[if_pos h1];unfold Hw at h1;simp;omega
  have d2:decide ((Xap 281474976710656)<=r.Gen)=false:=by
   rw[decide_eq_false_iff_not,Xe4];exact h2
  rw[d1,d2];rw[show((false||false):Bool)=false from rfl,Xas,Zu,Zg (by simp;omega)];have hm:Ff s<=64:=by unfold Ff;omega
  rcases GL (f:=λs=>Fs r s) (λi=>(i:Int)) r.At.length (λi=>decide (r.At.getD i 0<0\/r.At.getD i 0>65535)) (λ_=>.inr false) (y:=.inl ()) (by omega) (λi hi hp=>by
    have hx:¬(r.At[i]<0\/r.At[i]>65535):=by simpa[Xad,Xaf hi]using hp
    unfold Fs;rw[El hi,Zu,Zz hi,Zb,Zg (by simp;omega),ZL (by omega),Zb]) (λi hi hp=>by
    have hx:(r.At[i]<0\/r.At[i]>65535):=by simpa[Xad,Xaf hi]using hp
    unfold Fs;rw[El hi,Zu,Zz hi,Zb,Zj (by simp;omega)]) (by
    unfold Fs;rw[Jv,Zq]) (s:=(0:Int)) rfl with⟨i,hi,hp,-,e⟩|⟨hall,e⟩
  .rw [e,Zb,A2];have hx:(r.At[i]<0\/r.At[i]>65535):=by simpa[Xad,Xaf hi]using hp
   have:¬Wq r s:=λh=>by have:=h.2.2.2 _ (Xax hi);omega
   rw[decide_eq_false this]
  .rw [e,Zb,ZU];have:Wq r s:=⟨h1,h2,h3,λn hn=>by
    obtain⟨j,hj,rfl⟩:=XaQ hn;have:=hall j hj;simp[Xad,Xaf hj]at this;omega⟩
   rw[decide_eq_true this]
 .have hn:¬Wq r s:=λx=>h ⟨x.1,x.2.1,x.2.2.1⟩
  rw[decide_eq_false hn,Zj]
  by_cases c1:E5 s=0
  .simp [c1]
  .by_cases c2:(Xap 281474976710656)<=r.Gen
   .simp only[decide_eq_true c2,Bool.or_true,XcX]
   .have h1:Hw s:=by
     unfold E5 at c1;split at c1
     .assumption
     .exact absurd rfl c1
    have h2:r.Gen<Xap 281474976710656:=Xe4.1 c2;have h3:(r.At.length:Int)>Ff s:=by
     rcases Xf3 (Ff s) (r.At.length:Int)with g|g
     .exact g
     .exact absurd ⟨h1,h2,g⟩ h
    rw[decide_eq_false c1,decide_eq_false c2];rw[show((false||false):Bool)=false from rfl,Xas,Zu,decide_eq_true h3];rfl
def LX:List Int->List UInt8
 | []=>[]
 | n::l=>Xao (n/2^(8:Int).toNat)::Xao n::LX l
theorem RR(a b:List Int):LX (a++b)=LX a++LX b:=by
 induction a with
 | nil=>rfl
 | cons n a ih=>simp[LX,ih]
theorem HL(l:List Int):(LX l).length=2*l.length:=by
 induction l with
 | nil=>rfl
 | cons n l ih=>simp[LX,ih];omega
def Lp(r:AA):B9:=⟨2,max 0 ((r.At.length:Int)-1),r.Gen,LX r.At⟩
def Wp(r:AA)(s:Int):List UInt8×Int:=if Wq r s then Y4 (Lp r) s else([],1)
theorem Ov{r:AA}{s:Int} (h:Wq r s):Qi (Lp r) s:=by
 obtain⟨h1,h2,h3,h4⟩:=h;have h1':=h1;unfold Hw at h1';have e:E5 s=s-16:=by unfold E5;rw[if_pos h1]
 unfold Ff at h3;rw[e]at h3;refine⟨h1,.inr rfl,?_,?_,h2,?_⟩
 .show (0:Int)<=max 0 ((r.At.length:Int)-1);omega
 .show max 0 ((r.At.length:Int)-1)<64;omega
 .show ((LX r.At).length:Int)<=s-16;rw[HL];omega
theorem Ou(r:AA)(s:Int):Kt r s=some (Wp r s):=by
 unfold Kt Wp;rw[S4,Zb]
 by_cases h:Wq r s
 .rw [Zg (by simp[h]),if_pos h];obtain⟨h1,h2,h3,h4⟩:=h;have hm:Ff s<=64:=by unfold Ff;omega
  rw[Ax (by omega) (by omega),Zb,Zb,Zb];refine(Bt (ZM (λi=>((i:Int),LX (r.At.take i))) r.At.length (e:=LX r.At) (by omega) (λi hi=>?_) ?_ rfl)).trans ?_
  .unfold I4;dsimp only;have hx:=h4 _ (Xax hi);have hl:(LX (r.At.take i)).length<=128:=by rw[HL];simp;omega
   have hsh:WZ r.At[i] 8=some (r.At[i]/2^(8:Int).toNat):=by unfold WZ;rw[if_pos ⟨hx.1,by omega⟩]
   rw[El hi,Zu,Zz hi,Zb,hsh,Zb,Aq (by omega) (by simp;omega) (by simp;omega),Zb,Zb,ZL (by omega),Zb,Cd hi,RR];rfl
  .unfold I4;dsimp only;rw[Jv,Zq,Xbp]
  .rw [I6,Zb];rfl
 .rw [Zj (by simp[h]),if_neg h]
def Rc:AA:=⟨0,[]⟩
def VR(b:List UInt8)(i:Nat):Int:=((256*(b.getD (2*i) 0).toNat+(b.getD (2*i+1) 0).toNat:Nat):Int)
def PQ(b:List UInt8):List Int:=(Xbe (b.length/2)).map (VR b)
def ZbN(p:B9):Prop:=p.Kind=2/\p.Body.length%2=0/\p.Id=max 0 (((p.Body.length/2:Nat):Int)-1)
instance {p:B9}:Decidable (ZbN p):=by unfold ZbN;exact inferInstance
def As(b:List UInt8):AA×Int:=
 if (D5 b).2≠0 then(Rc,(D5 b).2)else if (D5 b).1.Kind=0 then(Rc,6)else if ¬ZbN (D5 b).1 then(Rc,2)else(⟨(D5 b).1.Gen,PQ (D5 b).1.Body⟩,0)
theorem RO(b:List UInt8):(D5 b).1.Body.length<=256:=by
 by_cases h:(D5 b).2≠0\/(D5 b).1.Kind=0
 .rw [W8 h];show([]:List UInt8).length<=256;simp
 .have h1:(D5 b).2=0:=XbX.1 λx=>h (.inl x)
  have h2:(D5 b).1.Kind≠0:=λx=>h (.inr x)
  obtain⟨q,-⟩:=W7 h1 h2;obtain⟨⟨q1,q2⟩,-,-,-,-,q6⟩:=q;omega
theorem ZaK{x y:Nat}(hy:y<256):(x*256) ||| y=256*x+y:=by
 rw[show x*256=x <<< 8 by rw[Xe8],<-Nat.shiftLeft_add_eq_or_of_lt (by omega),Xe8];omega
theorem Ng(b:List UInt8):Ix b=some (As b):=by
 unfold Ix As;rw[Gq,Zb];have hbl:=RO b
 by_cases h1:(D5 b).2≠0
 .rw [Zj (by simpa using h1),if_pos h1,Zb];rfl
 .rw [Zg (by simpa using h1),if_neg h1]
  by_cases h2:(D5 b).1.Kind=0
  .rw [Zj (by simpa using h2),if_pos h2,Zb];rfl
  .rw [Zg (by simpa using h2),if_neg h2];generalize hr:D5 b=rp at *;obtain⟨p,e⟩:=rp;dsimp only at *;have q1:JB (p.Body.length:Int) 2=some ((p.Body.length/2:Nat):Int):=Ku (b:=2) (by omega);have q2:RM (p.Body.length:Int) 2=some ((p.Body.length%2:Nat):Int):=QA (b:=2) (by omega);rw[q1,Zb,J0 q2,Zb,J0 (Ax (by omega) (by omega)),Zb]
   by_cases h3:ZbN p
   .obtain ⟨g1,g2,g3⟩:=h3;have d1:decide (p.Kind≠(2:Int))=false:=by simp[g1]
    rw[d1];have d2:decide ((bif !false then((p.Body.length%2:Nat):Int)else default)≠(0:Int))=false:=by simp[g2]
    rw[d2];have d3:decide (p.Id≠max (0:Int) (bif !(false||false)then((p.Body.length/2:Nat):Int)-1 else default))=false:=by
     rw[decide_eq_false_iff_not,XbX];exact g3
    rw[d3];rw[show((false||false||false):Bool)=false from rfl,Zq,if_neg (by rw[XbX];exact⟨g1,g2,g3⟩),Zb,Zb];refine(Bt (ZM (λi=>((i:Int),(Xbe i).map (VR p.Body))) (p.Body.length/2) (e:=PQ p.Body) (by omega) (λi hi=>?_) ?_ rfl)).trans ?_
    .unfold HK;dsimp only;have v1:=(p.Body.getD (2*i) 0).toNat_lt;have v2:=(p.Body.getD (2*i+1) 0).toNat_lt;rw[El hi,Zu,Gb (by omega) (by omega),Zb,Za3 (b:=p.Body) (i:=2*i) (by omega) (by omega),Zb];have e1:Uu (((p.Body.getD (2*i) 0).toNat:Nat):Int) 8=some (((p.Body.getD (2*i) 0).toNat*256:Nat):Int):=by
      have ep:(2:Int)^(8:Int).toNat=256:=rfl;unfold Uu;rw[ep,if_pos ⟨by omega,by omega,by omega,by omega⟩];rfl
     rw[e1,Zb,Zb,Aa (by omega) (by omega),Zb,Za3 (b:=p.Body) (i:=2*i+1) (by omega) (by omega),Zb];have e2:orI (((p.Body.getD (2*i) 0).toNat*256:Nat):Int) (((p.Body.getD (2*i+1) 0).toNat:Nat):Int)=some (VR p.Body i):=by
      unfold orI VR;rw[if_pos ⟨by omega,by omega⟩,Xak,Xak,ZaK v2]
     rw[e2,Zb,Aq (by omega) (by simp;omega) (by simp;omega),Zb,Zb,ZL (by omega),Zb,List.range_succ,Xc9];rfl
    .unfold HK;dsimp only;rw[Jv,Zq];rfl
    .rw [Zb]
   .rw [if_pos h3,Zj,Zb]
    .rfl
    .by_cases g1:p.Kind=2
     .have d1:decide (p.Kind≠(2:Int))=false:=by simp[g1]
      rw[d1]
      by_cases g2:p.Body.length%2=0
      .have d2:decide ((bif !false then((p.Body.length%2:Nat):Int)else default)≠(0:Int))=false:=by simp[g2]
       rw[d2];have:p.Id≠max 0 (((p.Body.length/2:Nat):Int)-1):=λg3=>h3 ⟨g1,g2,g3⟩
       rw[show(bif !(false||false)then(((p.Body.length/2:Nat):Int)-1)else default)=((p.Body.length/2:Nat):Int)-1 from rfl,decide_eq_true this];rfl
      .have d2:decide ((bif !false then((p.Body.length%2:Nat):Int)else default)≠(0:Int))=true:=by
        rw[Xas,Zu,decide_eq_true_eq];omega
       rw[d2];rfl
     .simp [g1]
theorem Tb{l:List Int}(h:∀n∈l,0<=n/\n<=65535):PQ (LX l)=l:=by
 unfold PQ;rw[HL,Xec _ (by omega)];apply XbN
 .simp
 .intro j h1 h2;rw[XcZ,List.getElem_range];have key:∀(l:List Int) (j:Nat) (hj:j<l.length),(∀n∈l,0<=n/\n<=65535)->VR (LX l) j=l[j]:=by
   intro l
   induction l with
   | nil=>intro j hj;simp at hj
   | cons n l ih=>
    intro j hj hn;cases j with
    | zero=>
     have:=hn n (by simp);unfold VR;have e1:(((Xao (n/2^(8:Int).toNat)).toNat:Nat):Int)=n/256%256:=QD _;have e2:(((Xao n).toNat:Nat):Int)=n%256:=QD _;show((256*(Xao (n/2^(8:Int).toNat)).toNat+(Xao n).toNat:Nat):Int)=n;omega
    | succ j=>exact ih j (by simpa using hj) λm hm=>hn m (Xaw _ hm)
  exact key l j h2 h
theorem LV{r:AA}{n:Nat} (h:Wq r n):As (BP (BR (Lp r) n))=(r,0):=by
 have h2:=QB (Ov h);unfold As;rw[h2,if_neg (by simp),if_neg (by show ¬(2:Int)=0;decide),if_neg (by
  rw[XbX];have hb:(Lp r).Body.length=2*r.At.length:=HL _;refine⟨rfl,(by show(Lp r).Body.length%2=0;omega),?_⟩;show(Lp r).Id=max 0 ((((Lp r).Body.length/2:Nat):Int)-1);rw[hb,Xec _ (by omega)];rfl)]
 have e:PQ (Lp r).Body=r.At:=Tb h.2.2.2;rw[e];rfl
structure NSt where
 at_:Int
 found:Bool
 blank:Bool
 newest:AA
def Zd2(b:List UInt8):Bool:=decide (∀x∈b,x=255)
def Vx(st:NSt)(b:List UInt8):Bool:=decide ((As b).2=0)&&(!st.found||decide (st.newest.Gen<=(As b).1.Gen))
def Xg(i:Int)(st:NSt)(b:List UInt8):NSt:=
 if Vx st b then⟨i,true,st.blank&&Zd2 b,(As b).1⟩else⟨st.at_,st.found,st.blank&&Zd2 b,st.newest⟩
def HF(k:Nat)(st:NSt)(l:List (List UInt8)):NSt:=l.zipIdx.foldl (λst p=>Xg ((k+p.2:Nat):Int) st p.1) st
def Zf6(st:NSt):Int×AA×Int:=if st.found then(st.at_,st.newest,0)else if st.blank then(0,Rc,6)else(0,Rc,2)
def N0:NSt:=⟨0,false,true,Rc⟩
def Ue(l:List (List UInt8)):Int×AA×Int:=Zf6 (HF 0 N0 l)
theorem RV(k:Nat)(st:NSt)(l:List (List UInt8))(b:List UInt8):HF k st (l++[b])=Xg ((k+l.length:Nat):Int) (HF k st l) b:=by
 unfold HF;rw[List.zipIdx_append,List.foldl_append];simp
theorem PR{l:List (List UInt8)}{i:Nat} (h:i<l.length):HF 0 N0 (l.take (i+1))=Xg (i:Int) (HF 0 N0 (l.take i)) l[i]:=by
 rw[Cd h,RV];simp[XaY (Xde h)]
theorem Pm(l:List (List UInt8))(hl:l.length<=1000)(hb:∀b∈l,b.length<=1000000000000000):Fq l=some (Ue l):=by
 unfold Fq Ue;rw[Zb];refine(Bt (ZM (λi=>((HF 0 N0 (l.take i)).at_,(HF 0 N0 (l.take i)).found,(HF 0 N0 (l.take i)).blank,(i:Int),(HF 0 N0 (l.take i)).newest)) l.length
  (e:=((HF 0 N0 l).at_,(HF 0 N0 l).found,(HF 0 N0 l).blank,(HF 0 N0 l).newest)) (by omega) (λi hi=>?_) ?_ rfl)).trans ?_
 .unfold FO;dsimp only;rw[El hi,Zu,Zz hi,Zb,J0 (LZ _ (hb _ (Xax hi))),Zb,Ng,Zb,PR hi];generalize HF 0 N0 (l.take i)=st;have eb:(st.blank&&(bif st.blank then decide (∀x∈l[i],x=255)else default))=(st.blank&&Zd2 l[i]):=by cases st.blank<;>rfl
  rw[eb];have et:((decide ((As l[i]).2=(0:Int)))&&((!st.found)||(decide (st.newest.Gen<=(As l[i]).1.Gen))))=Vx st l[i]:=rfl;rw[et];unfold Xg;cases Vx st l[i]with
  | true=>rw[Zu,Zb,XQ,ZL (by omega),Zb];rfl
  | false=>rw[Zq,Zb,XQ,ZL (by omega),Zb];rfl
 .unfold FO;dsimp only;rw[Jv,Zq,Xbp]
 .rw [XQ];generalize HF 0 N0 l=st;unfold Zf6;cases hf:st.found with
  | true=>rw[Zu];rfl
  | false=>
   rw[Zq];cases hb:st.blank with
   | true=>rw[Zu,Zb];rfl
   | false=>rw[Zq,Zb];rfl
structure NInv(l:List (List UInt8))(st:NSt):Prop where
 no:st.found=false->st.at_=0/\st.newest=Rc/\∀i,(hi:i<l.length)->(As l[i]).2≠0
 yes:st.found=true->∃k:Nat,st.at_=k/\∃hk:k<l.length,As l[k]=(st.newest,0)/\∀i,(hi:i<l.length)->(As l[i]).2=0->(As l[i]).1.Gen<=st.newest.Gen/\(k<i->(As l[i]).1.Gen≠st.newest.Gen)
theorem ninv(l:List (List UInt8)):∀n,n<=l.length->NInv (l.take n) (HF 0 N0 (l.take n)):=by
 intro n
 induction n with
 | zero=>intro _;exact⟨λ_=>⟨rfl,rfl,λi hi=>by simp at hi⟩,λh=>by simp[HF,N0]at h⟩
 | succ n ih=>
  intro hn;have ih:=ih (by omega);rw[PR (by omega)];generalize HF 0 N0 (l.take n)=st at ih;have hlen:(l.take n).length=n:=by simp;omega
  have hlen1:(l.take (n+1)).length=n+1:=by simp;omega
  have at1:∀i (h1:i<(l.take (n+1)).length) (h2:i<n),(l.take (n+1))[i]=(l.take n)[i]'(by omega):=λi h1 h2=>by rw[Xb6,Xb6]
  have atn:∀(h1:n<(l.take (n+1)).length),(l.take (n+1))[n]=l[n]:=λh1=>by rw[Xb6]
  unfold Xg;cases ht:Vx st l[n]with
  | true=>
   rw[if_pos rfl];unfold Vx at ht;simp only[Xaz,decide_eq_true_eq,Xcu,XdS]at ht;obtain⟨t1,t2⟩:=ht;refine⟨λh=>by simp at h,λ_=>⟨n,rfl,by omega,?_,λi hi ho=>?_⟩⟩
   .rw [atn (by omega)];exact Prod.ext rfl t1
   .dsimp only;rcases (by omega:i<n\/i=n)with h|h
    .rw [at1 i hi h]at ho⊢;refine⟨?_,λhc=>by omega⟩;rcases t2 with t2|t2
     .exact absurd ho ((ih.no t2).2.2 i (by omega))
     .cases hf:st.found with
      | false=>exact absurd ho ((ih.no hf).2.2 i (by omega))
      | true=>
       obtain⟨k,-,hk,-,hmax⟩:=ih.yes hf;exact UInt64.le_trans (hmax i (by omega) ho).1 t2
    .subst h;refine⟨?_,λhc=>by omega⟩;rw[atn hi];exact UInt64.le_refl _
  | false=>
   rw[if_neg (by decide)];unfold Vx at ht;refine⟨λh=>?_,λh=>?_⟩
   .dsimp only at h⊢;obtain⟨q1,q2,q3⟩:=ih.no h;refine⟨q1,q2,λi hi ho=>?_⟩;rcases (by omega:i<n\/i=n)with hc|hc
    .rw [at1 i hi hc]at ho;exact q3 i (by omega) ho
    .subst hc;rw[atn hi]at ho;rw[h]at ht;simp[ho]at ht
   .dsimp only at h⊢;obtain⟨k,e1,hk,e2,hmax⟩:=ih.yes h;refine⟨k,e1,by omega,?_,λi hi ho=>?_⟩
    .rw [at1 k (by omega) (by omega)];exact e2
    .rcases (by omega:i<n\/i=n)with hc|hc
     .rw [at1 i hi hc]at ho⊢;exact hmax i (by omega) ho
     .subst hc;rw[atn hi]at ho⊢;rw[h]at ht;simp only[ho,decide_true,XaC,XbL,XbU,decide_eq_false_iff_not,Xe4]at ht;exact⟨UInt64.le_of_lt ht,λ_ he=>by rw[he]at ht;exact absurd ht (UInt64.lt_irrefl _)⟩
theorem ES{α:Type}{f:Int->Option (Int⊕(Unit⊕Bool))} (xs:List α) (good:α->Bool) (hl:xs.length<1000000000000) (hf:∀i (h:i<xs.length),f (i:Int)=some (if good xs[i]then .inl (((i+1:Nat)):Int)else .inr (.inr false))) (he:f (xs.length:Int)=some (.inr (.inl ()))) :
  ZN f (0:Int)=some (if xs.all good then .inl ()else .inr false):=by
 rcases GL (f:=f) (λi=>(i:Int)) xs.length (λi=>(xs[i]?).any λx=>!good x) (λ_=>.inr false) (y:=.inl ()) (by omega) (λi hi hp=>by
   have hx:good xs[i]=true:=by simpa[Xaf hi]using hp
   rw[hf i hi,if_pos hx]) (λi hi hp=>by
   have hx:good xs[i]=false:=by simpa[Xaf hi]using hp
   rw[hf i hi,if_neg (by rw[hx];decide)]) he (s:=(0:Int)) rfl with⟨i,hi,hp,-,e⟩|⟨hall,e⟩
 .have hx:good xs[i]=false:=by simpa[Xaf hi]using hp
  have:¬xs.all good=true:=λh=>by
   have:=Xbq.1 h _ (Xax hi);rw[hx]at this;cases this
  rw[e,if_neg this]
 .have:xs.all good=true:=Xbq.2 λx hx=>by
   obtain⟨i,hi,rfl⟩:=XaQ hx;have:=hall i hi;simpa[Xaf hi]using this
  rw[e,if_pos this]
def Lc(c:Chip)(b:Zo):Bool:=!(((((decide ((b.Pages.length:Int)≠c.Pages))||(decide (b.Used<(0:Int))))||(decide (b.Used>c.Pages)))||(decide (b.Worn<(0:Int))))||(decide (b.Worn>(1099511627776:Int))))&&b.Pages.all λp=>decide ((p.length:Int)=c.Size)
def JA(b p s:Int):Bool:=(((((decide (b>=(1:Int)))&&(decide (b<=(32:Int))))&&(decide (p>=(1:Int))))&&(decide (p<=(16:Int))))&&(decide (s>=(1:Int))))&&(decide (s<=(256:Int)))
def C5(c:Chip):Bool:=(JA c.Blocks.length c.Pages c.Size&&decide (0<=c.Ops/\c.Ops<=1099511627776/\c.Faults.length<=64))&&c.Blocks.all (Lc c)
theorem Ji(c:Chip):FG c=some (C5 c):=by
 unfold FG GR C5;rw[Zb];show(bif (((!(JA c.Blocks.length c.Pages c.Size))||_)||_)||_ then _ else _)=_;cases hs:JA c.Blocks.length c.Pages c.Size with
 | false=>rw[Zj (by simp)];simp
 | true=>
  by_cases ho:0<=c.Ops/\c.Ops<=1099511627776/\c.Faults.length<=64
  .have hs2:=hs;unfold JA at hs2;simp only[Xaz,decide_eq_true_eq,ge_iff_le]at hs2;rw[Zg (by simp;omega),ES (f:=λs=>E1 c s) c.Blocks (Lc c) (by omega) (λi hi=>?_) (by unfold E1;rw[Jv,Zq])]
   .rw [Zb,decide_eq_true ho];cases c.Blocks.all (Lc c)
    .rw [if_neg (by decide),A2];rfl
    .rw [if_pos rfl,ZU];rfl
   .unfold E1;rw[El hi,Zu,Zz hi,Zb];cases hb:(((((decide ((c.Blocks[i].Pages.length:Int)≠c.Pages))||(decide (c.Blocks[i].Used<(0:Int))))||(decide (c.Blocks[i].Used>c.Pages)))||(decide (c.Blocks[i].Worn<(0:Int))))||(decide (c.Blocks[i].Worn>(1099511627776:Int))))with
    | true=>
     have:Lc c c.Blocks[i]=false:=by unfold Lc;rw[hb];rfl
     rw[Zu,if_neg (by rw[this];decide)]
    | false=>
     have hb2:=hb;simp only[XcU,decide_eq_false_iff_not]at hb2;rw[Zq,ES (f:=λs=>E0 c c.Blocks[i] s) c.Blocks[i].Pages (λp=>decide ((p.length:Int)=c.Size)) (by omega) (λj hj=>?_) (by unfold E0;rw[Jv,Zq])]
     .have:Lc c c.Blocks[i]=c.Blocks[i].Pages.all (λp=>decide ((p.length:Int)=c.Size)):=by unfold Lc;rw[hb];rfl
      rw[Zb,this];cases c.Blocks[i].Pages.all (λp=>decide ((p.length:Int)=c.Size))
      .rw [if_neg (by decide),A2,if_neg (by decide)]
      .rw [if_pos rfl,ZU,ZL (by omega),Zb,if_pos rfl]
     .unfold E0;rw[El hj,Zu,Zz hj,Zb]
      by_cases hp:(c.Blocks[i].Pages[j].length:Int)=c.Size
      .rw [Zg (by simp[hp]),ZL (by omega),Zb,if_pos (by simp[hp])]
      .rw [Zj (by simp[hp]),if_neg (by simp[hp])]
  .rw [Zj (by simp;omega),decide_eq_false ho];simp
theorem V2{p:List (List UInt8)}(h:∀x∈p,x.length<=1000):p.flatten.length<=p.length*1000:=by
 induction p with
 | nil=>simp
 | cons x xs ih=>
  have h1:=h x (List.mem_cons_self ..);have h2:=ih λy hy=>h y (Xaw _ hy)
  simp only[List.flatten_cons,XaD,List.length_cons];omega
theorem XV{p:List (List UInt8)}(h1:p.length<=1000)(h2:∀x∈p,x.length<=1000):DJ p=some p:=by
 have h3:=V2 h2;unfold DJ;refine(Bt (ZM (λi=>((i:Int),((p.take i).flatten.length:Int))) p.length (e:=(p.flatten.length:Int)) (by omega) (λi hi=>?_) ?_ (by simp))).trans ?_
 rotate_right
 .rw [Aq (by omega) (by omega) (by omega),Zb,Aq (by omega) (by omega) (by omega),Zb];refine(Bt (ZM (λi=>(i:Int)) p.length (e:=()) (by omega) (λi hi=>?_) ?_ rfl)).trans ?_
  rotate_right
  .rfl
  .unfold Eh;rw[El hi,Zu,Zz hi,Zb,ZL (by omega),Zb]
  .unfold Eh;rw[Jv,Zq]
 .unfold BT;dsimp only;have h4:=J6 hi rfl;rw[El hi,Zu,Zz hi,Zb,Aa (by omega) (by omega),Zb,ZL (by omega),Zb,Xbo hi,List.flatten_append,XaD];simp
 .unfold BT;dsimp only;rw[Jv,Zq,Xbp]
theorem Zbp{c:Chip}(h1:c.Blocks.length<=1000)(h2:∀b∈c.Blocks,b.Pages.length<=1000/\∀x∈b.Pages,x.length<=1000)(h3:c.Faults.length<=1000):By c=some c:=by
 unfold By Ae ZQ;rw[Aq (by omega) (by omega) (by omega),Zb,Zb];refine(Bt (ZM (λi=>((i:Int),c.Blocks)) c.Blocks.length (e:=c.Blocks) (by omega) (λi hi=>?_) ?_ rfl)).trans ?_
 rotate_right
 .rw [Aq (by omega) (by omega) (by omega),Zb,Zb,Zb]
 .unfold A8;dsimp only;obtain⟨g1,g2⟩:=h2 _ (Xax hi);rw[El hi,Zu,Zz hi,Zb,XV g1 g2,Zb,Zb,Zb,ZL (by omega),Zb];have:c.Blocks.set (Xaa (i:Int)) (⟨c.Blocks[i].Pages,c.Blocks[i].Used,c.Blocks[i].Worn,c.Blocks[i].Bad⟩:Zo)=c.Blocks:=P6 (Zz hi);rw[this]
 .unfold A8;dsimp only;rw[Jv,Zq]
theorem CM{c:Chip}(h:C5 c=true):1<=c.Blocks.length/\c.Blocks.length<=32/\1<=c.Pages/\c.Pages<=16/\1<=c.Size/\c.Size<=256/\0<=c.Ops/\c.Ops<=1099511627776/\c.Faults.length<=64/\
  ∀b∈c.Blocks,(b.Pages.length:Int)=c.Pages/\0<=b.Used/\b.Used<=c.Pages/\0<=b.Worn/\b.Worn<=1099511627776/\∀p∈b.Pages,(p.length:Int)=c.Size:=by
 unfold C5 JA at h;simp only[Xaz,decide_eq_true_eq,ge_iff_le,Xbq]at h;obtain⟨⟨⟨⟨⟨⟨⟨h1,h2⟩,h3⟩,h4⟩,h5⟩,h6⟩,h7,h8,h9⟩,h10⟩:=h;refine⟨by omega,by omega,h3,h4,h5,h6,h7,h8,h9,λb hb=>?_⟩;have h11:=h10 b hb;unfold Lc at h11;simp only[Xaz,XdS,XcU,decide_eq_false_iff_not,Xbq,decide_eq_true_eq]at h11;obtain⟨⟨⟨⟨⟨g1,g2⟩,g3⟩,g4⟩,g5⟩,g6⟩:=h11;exact⟨by omega,by omega,by omega,by omega,by omega,g6⟩
theorem Jg{c:Chip}(h:C5 c=true):By c=some c:=by
 obtain⟨h1,h2,h3,h4,h5,h6,h7,h8,h9,h10⟩:=CM h;refine Zbp (by omega) (λb hb=>?_) (by omega);obtain⟨g1,g2,g3,g4,g5,g6⟩:=h10 b hb;exact⟨by omega,λx hx=>by have:=g6 x hx;omega⟩
theorem XB(c:Chip)(n:Int):FSq c n=some ((C5 c&&decide (n>=0))&&decide (n<(c.Blocks.length:Int))):=by
 unfold FSq;rw[Ji,Zb]
def ZE(c:Chip):Au×Bool:=match c.Faults.find? (λf=>decide (f.Op=c.Ops))with
 | some f=>(f,f.Cut||f.Fail)
 | none=>(⟨0,false,false,0⟩,false)
theorem PC{c:Chip}(h:c.Faults.length<=1000):EG c=some (ZE c):=by
 unfold EG;rcases GL (f:=λs=>C4 c s) (λi=>(i:Int)) c.Faults.length (λi=>(c.Faults[i]?).any λf=>decide (f.Op=c.Ops)) (λi=>.inr (ZE ⟨c.Pages,c.Size,c.Blocks,c.Ops,c.Off,(c.Faults.drop i).take 1⟩)) (y:=.inl ()) (by omega) (λi hi hp=>by
   have hx:¬c.Faults[i].Op=c.Ops:=by simpa[Xaf hi]using hp
   unfold C4;rw[El hi,Zu,Zz hi,Zb,Zg (by simp[hx]),ZL (by omega),Zb]) (λi hi hp=>by
   have hx:c.Faults[i].Op=c.Ops:=by simpa[Xaf hi]using hp
   unfold C4;rw[El hi,Zu,Zz hi,Zb,Zj (by simp[hx])];have he:(c.Faults.drop i).take 1=[c.Faults[i]]:=by rw[Xa0 hi];rfl
   unfold ZE;dsimp only;rw[he,Xfx (by simp[hx])]) (by
   unfold C4;rw[Jv,Zq]) (s:=(0:Int)) rfl with⟨i,hi,hp,hj,e⟩|⟨hall,e⟩
 .rw [e,Zb,A2];congr 1;have hx:c.Faults[i].Op=c.Ops:=by simpa[Xaf hi]using hp
  have hf:c.Faults.find? (λf=>decide (f.Op=c.Ops))=some c.Faults[i]:=by
   rw[List.find?_eq_some_iff_getElem];refine⟨by simp[hx],i,hi,rfl,λj hjl=>?_⟩;have:=hj j hjl;simpa[Xaf (show j<c.Faults.length by omega)]using this
  have he:(c.Faults.drop i).take 1=[c.Faults[i]]:=by rw[Xa0 hi];rfl
  unfold ZE;dsimp only;rw[hf,he,Xfx (by simp[hx])]
 .rw [e,Zb,ZU,Zb];have hf:c.Faults.find? (λf=>decide (f.Op=c.Ops))=none:=by
   rw[List.find?_eq_none];intro f hf;obtain⟨i,hi,rfl⟩:=XaQ hf;have:=hall i hi;simpa[Xaf hi]using this
  unfold ZE;rw[hf]
def Nh(c:Chip)(n page:Int)(p:List UInt8):Bool:=C5 c&&decide (n>=0)&&decide (n<(c.Blocks.length:Int))&&decide (0<=page/\page<c.Pages/\(p.length:Int)=c.Size/\c.Ops<1099511627776)
def ID(s:Au×Bool)(p:List UInt8):List UInt8:=if s.2 then p.map (λx=>x ||| (~~~s.1.Mask))else p
def Re(c:Chip)(n page:Int)(p:List UInt8):Chip×Int:=
 if Nh c n page p then
  if c.Off then(c,7)else
  match c.Blocks[n.toNat]? with
  | none=>(c,1)
  | some b=>if b.Bad=true\/page≠b.Used then(c,9)else
   (⟨c.Pages,c.Size,c.Blocks.set n.toNat ⟨b.Pages.set page.toNat (ID (ZE c) p),b.Used+1,b.Worn,b.Bad⟩,c.Ops+1,if (ZE c).2 then(ZE c).1.Cut else c.Off,c.Faults⟩,
    if (ZE c).2 then(if (ZE c).1.Cut then 7 else 9)else 0)
 else(c,1)
theorem Zdv{xs ys:List UInt8}(h:xs.length=ys.length):over xs ys=ys:=by
 unfold over;rw[h,Xbp,Xa7 (by omega),XaX]
theorem Zdn{c:Chip}(n page:Int)(p:List UInt8)(hc:C5 c=true):F6 c n page p=some (Re c n page p):=by
 obtain⟨h1,h2,h3,h4,h5,h6,h7,h8,h9,h10⟩:=CM hc;unfold F6 Re;rw[Jg hc,Zb,Zb,XB,Zb]
 by_cases hok:Nh c n page p=true
 .have hok2:=hok;unfold Nh at hok2;simp only[Xaz,decide_eq_true_eq,ge_iff_le]at hok2;obtain⟨⟨⟨-,g1⟩,g2⟩,g3,g4,g5,g6⟩:=hok2;obtain⟨k,rfl⟩:=Xck g1;obtain⟨q,rfl⟩:=Xck g3;have hk:k<c.Blocks.length:=by omega
  rw[Zg (by simp[hc];omega),if_pos hok];obtain⟨b1,b2,b3,b4,b5,b6⟩:=h10 _ (Xax hk);cases ho:c.Off with
  | true=>rw[Zu,if_pos rfl,<-ho]
  | false=>
   rw[Zq,if_neg (by decide),Zz hk,Zb];rw[show((k:Int)).toNat=k from rfl,Xaf hk];dsimp only
   by_cases hb:c.Blocks[k].Bad=true\/(q:Int)≠c.Blocks[k].Used
   .rw [Zj (by simpa using hb),if_pos hb,<-ho]
   .rw [Zg (by simpa using hb),if_neg hb];have hq:q<c.Blocks[k].Pages.length:=by omega
    have hpl:c.Blocks[k].Pages[q].length=p.length:=by have:=b6 _ (Xax hq);omega
    rw[PC (by omega),Zb,Aa (by omega) (by omega),Zb,Zb,Aa (by omega) (by omega),Zb,Zb,Zz hq,Zb,Zb,Zdv hpl];have hset:∀(y:Zo),idx (c.Blocks.set k y) (k:Int)=some y:=λy=>by
     unfold idx;rw[if_pos (by omega)];show(c.Blocks.set k y)[k]?=_;rw[Xbh hk]
    cases hs:(ZE c).2 with
    | false=>
     have hm:ID (ZE c) p=p:=by unfold ID;rw[hs];rfl
     rw[Xas,Zu,Jb (by simp),Zb];rw[hset,Zb,hm];simp[ho]
    | true=>
     have hm:ID (ZE c) p=p.map (λx=>x ||| (~~~(ZE c).1.Mask)):=by unfold ID;rw[hs];rfl
     rw[XaC,Zq];refine(Bt (ZM (λi=>((i:Int),c.Blocks[k].Pages.set q ((p.take i).map (λx=>x ||| (~~~(ZE c).1.Mask))++p.drop i))) p.length (e:=c.Blocks[k].Pages.set q (p.map (λx=>x ||| (~~~(ZE c).1.Mask)))) (by omega) (λi hi=>?_) ?_ (by simp))).trans ?_
     rotate_right
     .unfold FF;rw[hm];cases hcut:(ZE c).1.Cut
      .rw [Zq,Zb,Zb,Jb (by simp),Zb];rw[hset,Zb];simp
      .rw [Zu,Zb,Zb,Jb (by simp),Zb];rw[hset,Zb];simp
     .unfold E2;dsimp only;have hlt:decide ((i:Int)<c.Size)=true:=by rw[<-g5];exact El hi
      have hqi:idx (c.Blocks[k].Pages.set q ((p.take i).map (λx=>x ||| (~~~(ZE c).1.Mask))++p.drop i)) (q:Int)=some ((p.take i).map (λx=>x ||| (~~~(ZE c).1.Mask))++p.drop i):=by
       unfold idx;rw[if_pos (by omega)];show(c.Blocks[k].Pages.set q _)[q]?=_;rw[Xbh hq]
      have hyi:idx ((p.take i).map (λx=>x ||| (~~~(ZE c).1.Mask))++p.drop i) (i:Int)=some p[i]:=by
       unfold idx;rw[if_pos (by omega)];show(_++p.drop i)[i]?=_;rw[XbK (by simp;omega)];simp[XaY (Xde hi),XdP,Xaf hi]
      rw[hlt,Zu,Jb (by simp),Zb,hqi,Zb,hyi,Zb,Zb,Zb,ZL (by omega),Zb];have hfin:((p.take i).map (λx=>x ||| (~~~(ZE c).1.Mask))++p.drop i).set (Xaa (i:Int)) (p[i] ||| (~~~(ZE c).1.Mask))=(p.take (i+1)).map (λx=>x ||| (~~~(ZE c).1.Mask))++p.drop (i+1):=by
       show Xe9 _ i _=_;rw[XbS _ _ (by simp;omega),Xbo hi,Xc9];simp[XaY (Xde hi)];rw[Xa0 hi];rfl
      rw[hfin,show Xaa (q:Int)=q from rfl,XdG]
     .unfold E2;dsimp only;rw[show decide ((p.length:Int)<c.Size)=false by rw[<-g5];exact Jv,Zq,Xbp,Xgl,XaX]
 .rw [if_neg hok,Zj (by
   unfold Nh at hok;rw[hc]at hok;simp only[hc,XbU,Xaz,decide_eq_true_eq,ge_iff_le,Xcu,XdS,Bool.and_eq_false_iff,decide_eq_false_iff_not]at hok⊢
   by_cases x1:0<=n
   .by_cases x2:n<(c.Blocks.length:Int)
    .have:=λh=>hok ⟨⟨x1,x2⟩,h⟩
     omega
    .left;left;left;left;right;exact x2
   .left;left;left;left;left;exact x1)]
def ST(c:Chip)(n:Int):Bool:=(C5 c&&decide (n>=0))&&decide (n<(c.Blocks.length:Int))
def Zb7(c:Chip)(n:Int):Chip×Int:=
 if ST c n then
  if c.Off then(c,7)else
  match c.Blocks[n.toNat]? with
  | none=>(c,1)
  | some b=>(⟨c.Pages,c.Size,c.Blocks.set n.toNat ⟨b.Pages,b.Used,b.Worn,true⟩,c.Ops,c.Off,c.Faults⟩,0)
 else(c,1)
theorem Zdz{c:Chip}(n:Int)(hc:C5 c=true):J9 c n=some (Zb7 c n):=by
 unfold J9 Zb7;rw[Jg hc,Zb,Zb,XB,Zb];show(bif (!(ST c n))then _ else _)=_;cases hh:ST c n with
 | false=>rw[Xas,Zu,Zb,if_neg (by decide)]
 | true=>
  have hh2:=hh;unfold ST at hh2;simp only[Xaz,decide_eq_true_eq,ge_iff_le]at hh2;obtain⟨⟨-,g1⟩,g2⟩:=hh2;obtain⟨k,rfl⟩:=Xck g1;have hk:k<c.Blocks.length:=by omega
  rw[XaC,Zq,if_pos rfl];cases ho:c.Off with
  | true=>rw[Zu,Zb,if_pos rfl,<-ho]
  | false=>
   rw[Zq,if_neg (by decide),Zz hk,Zb,show((k:Int)).toNat=k from rfl,Xaf hk,Zb,Zb,<-ho]
theorem XM{b:List UInt8}(h:b.length<=1000000):Eg b=some (Xac b.length 255):=by
 unfold Eg;refine(Bt (ZM (λi=>((i:Int),Xac i (255:UInt8)++b.drop i)) b.length (e:=Xac b.length 255) (by omega) (λi hi=>?_) ?_ (by simp))).trans ?_
 rotate_right
 .rfl
 .unfold CC;dsimp only;have hyi:idx (Xac i (255:UInt8)++b.drop i) (i:Int)=some b[i]:=by
   unfold idx;rw[if_pos (by omega)];show(_++b.drop i)[i]?=_;rw[XbK (by simp)];simp[XdP,Xaf hi]
  have hfin:(Xac i (255:UInt8)++b.drop i).set (Xaa (i:Int)) (XaN 255)=Xac (i+1) 255++b.drop (i+1):=by
   show Xe9 _ i _=_;rw[XbS _ _ (by simp),XfM,XaM,XaK,Xeg,Xa0 hi];rfl
  rw[El hi,Zu,hyi,Zb,Zb,ZL (by omega),Zb,hfin]
 .unfold CC;dsimp only;rw[Jv,Zq,Xgl,XaX]
def Fx{α:Type}(f:α->α)(P:List α)(i:Nat):List α:=(P.take i).map f++P.drop i
theorem KB{α:Type}(f:α->α)(P:List α):Fx f P 0=P:=by simp[Fx]
theorem L5{α:Type}(f:α->α)(P:List α):Fx f P P.length=P.map f:=by simp[Fx]
theorem JV{α:Type}(f:α->α)(P:List α){i:Nat}(h:i<=P.length):(Fx f P i).length=P.length:=by simp[Fx];omega
theorem JW{α:Type}(f:α->α)(P:List α){i:Nat}(h:i<P.length):idx (Fx f P i) (i:Int)=some P[i]:=by
 unfold idx Fx;rw[if_pos (by omega)];show(_++P.drop i)[i]?=_;rw[XbK (by simp;omega)];simp[XaY (Xde h),XdP,Xaf h]
theorem IE{α:Type}(f:α->α)(P:List α){i:Nat}(h:i<P.length):(Fx f P i).set i (f P[i])=Fx f P (i+1):=by
 unfold Fx;rw[XbS _ _ (by simp;omega),Xbo h,Xc9];simp[XaY (Xde h)];rw[Xa0 h];rfl
def IL(s:Au×Bool)(x:List UInt8):List UInt8:=if s.2 then x.map (λy=>y ||| s.1.Mask)else Xac x.length 255
def Mv(c:Chip)(n:Int):Chip×Int:=
 if ST c n=true/\c.Ops<1099511627776 then
  match c.Blocks[n.toNat]? with
  | none=>(c,1)
  | some b=>if b.Worn>=1099511627776 then(c,1)else if c.Off then(c,7)else if b.Bad then(c,9)else
   (⟨c.Pages,c.Size,c.Blocks.set n.toNat ⟨b.Pages.map (IL (ZE c)),if (ZE c).2 then c.Pages else 0,b.Worn+1,b.Bad⟩,c.Ops+1,if (ZE c).2 then(ZE c).1.Cut else c.Off,c.Faults⟩,
    if (ZE c).2 then(if (ZE c).1.Cut then 7 else 9)else 0)
 else(c,1)
theorem Zbi{c:Chip}(n:Int)(hc:C5 c=true):IM c n=some (Mv c n):=by
 obtain⟨h1,h2,h3,h4,h5,h6,h7,h8,h9,h10⟩:=CM hc;unfold IM Mv;have hhas:FSq c n=some (ST c n):=XB c n;rw[Jg hc,Zb,Zb,hhas,Zb]
 by_cases hok:ST c n=true/\c.Ops<1099511627776
 .obtain ⟨hh,hops⟩:=hok;rw[if_pos ⟨hh,hops⟩];have hh2:=hh;unfold ST at hh2;simp only[Xaz,decide_eq_true_eq,ge_iff_le]at hh2;obtain⟨⟨-,g1⟩,g2⟩:=hh2;obtain⟨k,rfl⟩:=Xck g1;have hk:k<c.Blocks.length:=by omega
  have hd:decide (c.Ops>=(1099511627776:Int))=false:=by simp;omega
  rw[hd,hh,show(!((!true)||false))=true from rfl,Av,Zz hk,Zb,show((k:Int)).toNat=k from rfl,Xaf hk];dsimp only;obtain⟨b1,b2,b3,b4,b5,b6⟩:=h10 _ (Xax hk)
  by_cases hw:c.Blocks[k].Worn>=1099511627776
  .rw [Zj (by simpa using hw),if_pos hw]
  .rw [Zg (by simpa using hw),if_neg hw];cases ho:c.Off with
   | true=>rw[Zu,if_pos rfl,<-ho]
   | false=>
    rw[Zq,if_neg (by decide),Zb];cases hb:c.Blocks[k].Bad with
    | true=>rw[Zu,if_pos rfl,<-ho]
    | false=>
     rw[Zq,if_neg (by decide),PC (by omega),Zb,Aa (by omega) (by omega),Zb,Zb,Aa (by omega) (by omega),Zb,Zb];have hset:∀(y:Zo),idx (c.Blocks.set k y) (k:Int)=some y:=λy=>by
      unfold idx;rw[if_pos (by omega)];show(c.Blocks.set k y)[k]?=_;rw[Xbh hk]
     have hset2:∀(y z:Zo),idx ((c.Blocks.set k y).set k z) (k:Int)=some z:=λy z=>by rw[XdG];exact hset z
     cases hs:(ZE c).2 with
     | false=>
      have hm:c.Blocks[k].Pages.map (IL (ZE c))=c.Blocks[k].Pages.map λx=>Xac x.length 255:=by
       refine Xeq λx _=>?_
       unfold IL;rw[hs];rfl
      rw[Xas,Zu,hset,Zb,Zb];refine(Bt (ZM (λi=>((i:Int),Fx (λx:List UInt8=>Xac x.length 255) c.Blocks[k].Pages i)) c.Blocks[k].Pages.length (e:=c.Blocks[k].Pages.map λx=>Xac x.length 255) (by omega) (λi hi=>?_) ?_ (by rw[KB];rfl))).trans ?_
      rotate_right
      .rw [Jb (by simp),Zb,hset2,Zb,hm];simp
      .unfold Gx;dsimp only;rw[show decide ((i:Int)<c.Pages)=true by rw[<-b1];exact El hi,Zu,Jb (JV _ _ (by omega)),Zb,JW _ _ hi,Zb,XM (by have:=b6 _ (Xax hi);omega),Zb,Zb,ZL (by omega),Zb];exact congrArg (λz=>some (XgS (((i+1:Nat):Int),z))) (IE (λx:List UInt8=>Xac x.length 255) _ hi)
      .unfold Gx;dsimp only;rw[show decide ((c.Blocks[k].Pages.length:Int)<c.Pages)=false by rw[<-b1];exact Jv,Zq,L5]
     | true=>
      have hm:c.Blocks[k].Pages.map (IL (ZE c))=c.Blocks[k].Pages.map λx=>x.map λy=>y ||| (ZE c).1.Mask:=by
       refine Xeq λx _=>?_
       unfold IL;rw[hs];rfl
      rw[XaC,Zq,hset,Zb,Zb];refine(Bt (ZM (λi=>((i:Int),Fx (λx:List UInt8=>x.map λy=>y ||| (ZE c).1.Mask) c.Blocks[k].Pages i)) c.Blocks[k].Pages.length (e:=c.Blocks[k].Pages.map λx=>x.map λy=>y ||| (ZE c).1.Mask) (by omega) (λi hi=>?_) ?_ (by rw[KB];rfl))).trans ?_
      rotate_right
      .unfold FF;cases hcut:(ZE c).1.Cut
       .rw [Zq,Zb,Zb,Jb (by simp),Zb,hset2,Zb,hm];simp
       .rw [Zu,Zb,Zb,Jb (by simp),Zb,hset2,Zb,hm];simp
      .unfold Gw;dsimp only;rw[show decide ((i:Int)<c.Pages)=true by rw[<-b1];exact El hi,Zu];have hsz:=b6 _ (Xax hi);have hml:=JV (λx:List UInt8=>x.map λy=>y ||| (ZE c).1.Mask) c.Blocks[k].Pages (Xde hi);refine(Bt (ZM (λj=>((j:Int),(Fx (λx:List UInt8=>x.map λy=>y ||| (ZE c).1.Mask) c.Blocks[k].Pages i).set i (Fx (λy=>y ||| (ZE c).1.Mask) c.Blocks[k].Pages[i] j))) c.Blocks[k].Pages[i].length (e:=Fx (λx:List UInt8=>x.map λy=>y ||| (ZE c).1.Mask) c.Blocks[k].Pages (i+1)) (by omega) (λj hj=>?_) ?_ ?_)).trans ?_
       .unfold Gv;dsimp only;have hq:idx ((Fx (λx:List UInt8=>x.map λy=>y ||| (ZE c).1.Mask) c.Blocks[k].Pages i).set i (Fx (λy=>y ||| (ZE c).1.Mask) c.Blocks[k].Pages[i] j)) (i:Int)=some (Fx (λy=>y ||| (ZE c).1.Mask) c.Blocks[k].Pages[i] j):=by
         unfold idx;rw[if_pos (by omega)];show(Xe9 _ i _)[i]?=_;rw[Xbh (by omega)]
        rw[show decide ((j:Int)<c.Size)=true by rw[<-hsz];exact El hj,Zu,Jb (by rw[XaA];exact hml),Zb,hq,Zb,JW _ _ hj,Zb,Zb,Zb,ZL (by omega),Zb];rw[show Xaa (i:Int)=i from rfl,show Xaa (j:Int)=j from rfl,XdG];exact congrArg (λz=>some (XgS (((j+1:Nat):Int),(Fx (λx:List UInt8=>x.map λy=>y ||| (ZE c).1.Mask) c.Blocks[k].Pages i).set i z))) (IE (λy=>y ||| (ZE c).1.Mask) _ hj)
       .unfold Gv;dsimp only;rw[show decide ((c.Blocks[k].Pages[i].length:Int)<c.Size)=false by rw[<-hsz];exact Jv,Zq,L5];exact congrArg (λz=>some (Sum.inr z)) (IE (λx:List UInt8=>x.map λy=>y ||| (ZE c).1.Mask) _ hi)
       .rw [KB];have:(Fx (λx:List UInt8=>x.map λy=>y ||| (ZE c).1.Mask) c.Blocks[k].Pages i).set i c.Blocks[k].Pages[i]=Fx (λx:List UInt8=>x.map λy=>y ||| (ZE c).1.Mask) c.Blocks[k].Pages i:=by
         have h5:=JW (λx:List UInt8=>x.map λy=>y ||| (ZE c).1.Mask) c.Blocks[k].Pages hi;obtain⟨-,h6⟩:=A3 h5;obtain⟨h7,h8⟩:=List.getElem?_eq_some_iff.1 h6;rw[<-h8];exact Xcc _
        rw[this];rfl
       .rw [ZL (by omega),Zb]
      .unfold Gw;dsimp only;rw[show decide ((c.Blocks[k].Pages.length:Int)<c.Pages)=false by rw[<-b1];exact Jv,Zq,L5]
 .rw [if_neg hok];have hf:(!((!(ST c n))||decide (c.Ops>=(1099511627776:Int))))=false:=by
   cases hh:ST c n with
   | false=>rfl
   | true=>
    have:c.Ops>=1099511627776:=by
     rcases Xf3 c.Ops 1099511627776 with h|h
     .exact absurd ⟨hh,h⟩ hok
     .exact h
    simp[this]
  rw[hf,BN,Zb];have ht:((!(ST c n))||decide (c.Ops>=(1099511627776:Int)))=true:=by rw[<-Bool.not_eq_false'];exact hf
  rw[Zj (by rw[ht];rfl)]
theorem RN(a b:Zo)(h:a.Pages.length<1000000):C6 a b=some (decide (a=b)):=by
 unfold C6;cases hc:((((decide (a.Used≠b.Used))||(decide (a.Worn≠b.Worn)))||(decide (a.Bad≠b.Bad)))||(decide ((a.Pages.length:Int)≠(b.Pages.length:Int))))with
 | true=>
  have:¬a=b:=λe=>by subst e;simp at hc
  rw[Zu,decide_eq_false this]
 | false=>
  have hc2:=hc;simp only[XcU,decide_eq_false_iff_not,ne_eq,XbX]at hc2;obtain⟨⟨⟨g1,g2⟩,g3⟩,g4⟩:=hc2;have g5:a.Pages.length=b.Pages.length:=by omega
  rw[Zq,ES (f:=λs=>BJ a b s) (Xbe a.Pages.length) (λi=>decide (a.Pages[i]?=b.Pages[i]?)) (by simp;omega) (λi hi=>?_) (by unfold BJ;rw[Xct,Jv,Zq])]
  .rw [Zb]
   by_cases hp:a.Pages=b.Pages
   .have:a=b:=by cases a;cases b;simp_all
    rw[if_pos (by rw[hp];simp),ZU,decide_eq_true this]
   .have h2:¬a=b:=λe=>hp (by rw[e])
    have h3:¬(Xbe a.Pages.length).all (λi=>decide (a.Pages[i]?=b.Pages[i]?))=true:=λh=>hp (XbN g5 λi h1 h2=>by
     have:=Xbq.1 h i (List.mem_range.2 h1);simpa[Xaf h1,Xaf h2]using this)
    rw[if_neg h3,A2,decide_eq_false h2]
  .rw [Xct]at hi;have hi2:i<b.Pages.length:=by omega
   unfold BJ;rw[El hi,Zu,Zz hi,Zb,Zz hi2,Zb]
   by_cases hp:a.Pages[i]=b.Pages[i]
   .rw [Zg (by simp[hp]),ZL (by omega),Zb,if_pos (by simp[Xaf hi,Xaf hi2,hp])]
   .rw [Zj (by simp[hp]),if_neg (by simp[Xaf hi,Xaf hi2,hp])]
theorem W0{c:Chip}(hc:C5 c=true):DM c c=some true:=by
 obtain⟨h1,h2,h3,h4,h5,h6,h7,h8,h9,h10⟩:=CM hc;unfold DM;rw[Zg (by simp)];rw[ES (f:=λs=>CF c c s) c.Faults (λ_=>true) (by omega) (λi hi=>by
  unfold CF;rw[El hi,Zu,Zz hi,Zb,Zb,Zg (by simp),ZL (by omega),Zb,if_pos rfl]) (by unfold CF;rw[Jv,Zq]),Zb,if_pos (by simp),ZU]
 rw[ES (f:=λs=>CE c c s) c.Blocks (λ_=>true) (by omega) (λi hi=>by
  have:=(h10 _ (Xax hi)).1;unfold CE;rw[El hi,Zu,Zz hi,Zb,Zb,RN _ _ (by omega),Zb,Zg (by simp),ZL (by omega),Zb,if_pos rfl]) (by unfold CE;rw[Jv,Zq]),Zb,if_pos (by simp),ZU]
theorem VO{c:Chip}{k:Nat} (hk:k<c.Blocks.length) (page:Int) (p:List UInt8) (hc:C5 c=true) :
  ((Re c k page p).1=c/\(Re c k page p).2≠0)\/
  (c.Blocks[k].Bad=false/\0<=page/\page<c.Pages/\(p.length:Int)=c.Size/\page=c.Blocks[k].Used/\c.Ops<1099511627776/\
   Re c k page p=(⟨c.Pages,c.Size,c.Blocks.set k ⟨c.Blocks[k].Pages.set page.toNat (ID (ZE c) p),c.Blocks[k].Used+1,c.Blocks[k].Worn,c.Blocks[k].Bad⟩,c.Ops+1,if (ZE c).2 then(ZE c).1.Cut else c.Off,c.Faults⟩,
    if (ZE c).2 then(if (ZE c).1.Cut then 7 else 9)else 0)):=by
 unfold Re
 by_cases hok:Nh c k page p=true
 .rw [if_pos hok];unfold Nh at hok;simp only[Xaz,decide_eq_true_eq,ge_iff_le]at hok;obtain⟨⟨⟨-,g1⟩,g2⟩,g3,g4,g5,g6⟩:=hok;cases ho:c.Off with
  | true=>left;rw[if_pos rfl];exact⟨rfl,by simp⟩
  | false=>
   rw[if_neg (by decide),show((k:Int)).toNat=k from rfl,Xaf hk];dsimp only
   by_cases hb:c.Blocks[k].Bad=true\/page≠c.Blocks[k].Used
   .left;rw[if_pos hb];exact⟨rfl,by simp⟩
   .right
    rw[if_neg hb];simp only[not_or,Bool.not_eq_true,ne_eq,XbX]at hb;exact⟨hb.1,g3,g4,g5,hb.2,g6,rfl⟩
 .left;rw[if_neg hok];exact⟨rfl,by simp⟩
theorem Tu{c:Chip}{k:Nat} (hk:k<c.Blocks.length) (hc:C5 c=true) :
  ((Mv c k).1=c/\(Mv c k).2≠0)\/
  (c.Blocks[k].Bad=false/\c.Blocks[k].Worn<1099511627776/\c.Ops<1099511627776/\
   Mv c k=(⟨c.Pages,c.Size,c.Blocks.set k ⟨c.Blocks[k].Pages.map (IL (ZE c)),if (ZE c).2 then c.Pages else 0,c.Blocks[k].Worn+1,c.Blocks[k].Bad⟩,c.Ops+1,if (ZE c).2 then(ZE c).1.Cut else c.Off,c.Faults⟩,
    if (ZE c).2 then(if (ZE c).1.Cut then 7 else 9)else 0)):=by
 unfold Mv
 by_cases hok:ST c k=true/\c.Ops<1099511627776
 .rw [if_pos hok,show((k:Int)).toNat=k from rfl,Xaf hk];dsimp only
  by_cases hw:c.Blocks[k].Worn>=1099511627776
  .left;rw[if_pos hw];exact⟨rfl,by simp⟩
  .rw [if_neg hw];cases ho:c.Off with
   | true=>left;rw[if_pos rfl];exact⟨rfl,by simp⟩
   | false=>
    rw[if_neg (by decide)];cases hb:c.Blocks[k].Bad with
    | true=>left;rw[if_pos rfl];exact⟨rfl,by simp⟩
    | false=>right;rw[if_neg (by decide)];exact⟨rfl,by omega,hok.2,rfl⟩
 .left;rw[if_neg hok];exact⟨rfl,by simp⟩
def IJ{α:Type}(x y:α)(n i:Nat):List α:=Xac i x++Xac (n-i) y
theorem OP{α:Type}(x y:α)(n:Nat):IJ x y n 0=Xac n y:=by simp[IJ]
theorem P0{α:Type}(x y:α)(n:Nat):IJ x y n n=Xac n x:=by simp[IJ]
theorem QU{α:Type}(x y:α){n i:Nat}(h:i<=n):(IJ x y n i).length=n:=by simp[IJ];omega
theorem MW{α:Type}(x y:α){n i:Nat}(h:i<n):idx (IJ x y n i) (i:Int)=some y:=by
 have hl:=QU x y (Xde h);rw[Zz (by omega)];simp[IJ,List.getElem_append]
theorem PZ{α:Type}(x y:α){n i:Nat}(h:i<n):(IJ x y n i).set i x=IJ x y n (i+1):=by
 unfold IJ;rw[XbS _ _ (by simp),XfM,XaM,XaK,Xeg];congr 1;rw[show n-i=(n-(i+1))+1 by omega,List.replicate_succ,List.set_cons_zero];rfl
def Gs(p s:Nat):Zo:=⟨Xac p (Xac s 255),0,0,false⟩
def AG(b p s:Nat):Chip:=⟨p,s,Xac b (Gs p s),0,false,[]⟩
theorem Ze3{b p s:Nat}(h:JA b p s=true):Jl b p s=some (AG b p s,0):=by
 have hs:=h;unfold JA at hs;simp only[Xaz,decide_eq_true_eq,ge_iff_le]at hs;obtain⟨⟨⟨⟨⟨h1,h2⟩,h3⟩,h4⟩,h5⟩,h6⟩:=hs;unfold Jl GR;rw[Zb];show(bif (!(JA b p s))then _ else _)=_;rw[h,XaC,Zq,Aq (by omega) (by omega) (by omega),Zb,Zb,Zb];refine(Bt (ZM (λi=>((i:Int),IJ (Gs p s) Dat.z b i)) b (e:=Xac b (Gs p s)) (by omega) (λi hi=>?_) ?_ ?_)).trans ?_
 rotate_right
 .rfl
 .unfold Jk;dsimp only;rw[El hi,Zu,Aq (by omega) (by omega) (by omega),Zb,MW _ _ hi,Zb,Zb];refine(Bt (ZM (λj=>((j:Int),IJ (Xac s (255:UInt8)) (Dat.z:List UInt8) p j)) p (e:=Xac p (Xac s 255)) (by omega) (λj hj=>?_) ?_ ?_)).trans ?_
  .unfold Jj;dsimp only;rw[El hj,Zu,MW _ _ hi,Zb,Aq (by omega) (by omega) (by omega),Zb,MW _ _ hj,Zb,Zb,Zb,Zb,XM (by simp;omega),Zb,ZL (by omega),Zb];rw[show Xaa (j:Int)=j from rfl,show Xaa (s:Int)=s from rfl,XaK,PZ _ _ hj]
  .unfold Jj;dsimp only;rw[Jv,Zq,P0]
  .rw [OP];rfl
  .rw [ZL (by omega),Zb];exact congrArg (λz=>some (XgS (((i+1:Nat):Int),z))) (PZ (Gs p s) Dat.z hi)
 .unfold Jk;dsimp only;rw[Jv,Zq,P0]
 .rw [OP];rfl
theorem Xj{b p s:Nat}(h:JA b p s=true):C5 (AG b p s)=true:=by
 unfold C5 AG;dsimp only;rw[XaK,h];simp[Lc,Gs]
def onV(c:Chip)(f:List Au):Chip×Int:=if f.length<=64 then(⟨c.Pages,c.Size,c.Blocks,c.Ops,false,f⟩,0)else(c,1)
theorem Zf5{c:Chip}{f:List Au} (h:C5 c=true) (hf:f.length<=1000000):OW c f=some (onV c f):=by
 unfold OW onV ZQ;rw[Jg h,Zb,Ji,Zb,h]
 by_cases h1:f.length<=64
 .rw [Zg (by simp;omega),Zb,Aq (by omega) (by omega) (by omega),Zb,Zb,Zb,if_pos h1]
 .rw [Zj (by simp;omega),if_neg h1]
theorem OY{c:Chip}(h1:1<=c.Blocks.length)(h2:c.Blocks.length<=32)(h3:1<=c.Pages)(h4:c.Pages<=16)(h5:1<=c.Size)(h6:c.Size<=256)(h7:0<=c.Ops)(h8:c.Ops<=1099511627776)(h9:c.Faults.length<=64)
  (h10:∀b∈c.Blocks,(b.Pages.length:Int)=c.Pages/\0<=b.Used/\b.Used<=c.Pages/\0<=b.Worn/\b.Worn<=1099511627776/\∀p∈b.Pages,(p.length:Int)=c.Size):C5 c=true:=by
 unfold C5 JA;simp only[Xaz,decide_eq_true_eq,ge_iff_le,Xbq];refine⟨⟨⟨⟨⟨⟨⟨by omega,by omega⟩,h3⟩,h4⟩,h5⟩,h6⟩,h7,h8,h9⟩,λb hb=>?_⟩;obtain⟨g1,g2,g3,g4,g5,g6⟩:=h10 b hb;unfold Lc;simp only[Xaz,XdS,XcU,decide_eq_false_iff_not,Xbq,decide_eq_true_eq];exact⟨⟨⟨⟨⟨by omega,by omega⟩,by omega⟩,by omega⟩,by omega⟩,g6⟩
theorem OI{α:Type}{l:List α}{k:Nat}{x y:α} (h:x∈l.set k y):x∈l\/x=y:=(Xfa h)
theorem Th(s:Au×Bool)(p:List UInt8):(ID s p).length=p.length:=by unfold ID;split<;>simp
theorem QV(s:Au×Bool)(p:List UInt8):(IL s p).length=p.length:=by unfold IL;split<;>simp
theorem VN{c:Chip}{k:Nat} (hk:k<c.Blocks.length) (page:Int) (p:List UInt8) (hc:C5 c=true):C5 (Re c k page p).1=true:=by
 obtain⟨h1,h2,h3,h4,h5,h6,h7,h8,h9,h10⟩:=CM hc;rcases VO hk page p hc with⟨h,-⟩|⟨g1,g2,g3,g4,g5,g6,h⟩
 .rw [h];exact hc
 .rw [h];refine OY (by simpa using h1) (by simpa using h2) h3 h4 h5 h6 (by dsimp only;omega) (by dsimp only;omega) h9 λb hb=>?_
  rcases OI hb with hb|rfl
  .exact h10 b hb
  .obtain ⟨b1,b2,b3,b4,b5,b6⟩:=h10 _ (Xax hk);refine⟨by simpa using b1,by dsimp only;omega,by dsimp only;omega,b4,b5,λq hq=>?_⟩;rcases OI hq with hq|rfl
   .exact b6 q hq
   .rw [Th];exact g4
theorem Ts{c:Chip}{k:Nat} (hk:k<c.Blocks.length) (hc:C5 c=true):C5 (Mv c k).1=true:=by
 obtain⟨h1,h2,h3,h4,h5,h6,h7,h8,h9,h10⟩:=CM hc;rcases Tu hk hc with⟨h,-⟩|⟨g1,g2,g3,h⟩
 .rw [h];exact hc
 .rw [h];refine OY (by simpa using h1) (by simpa using h2) h3 h4 h5 h6 (by dsimp only;omega) (by dsimp only;omega) h9 λb hb=>?_
  rcases OI hb with hb|rfl
  .exact h10 b hb
  .obtain ⟨b1,b2,b3,b4,b5,b6⟩:=h10 _ (Xax hk);refine⟨by simpa using b1,by dsimp only;split<;>omega,by dsimp only;split<;>omega,by dsimp only;omega,by dsimp only;omega,λq hq=>?_⟩;obtain⟨z,hz,rfl⟩:=XdO.1 hq;rw[QV];exact b6 z hz
def Et{α:Type}(x:Option α)(P:α->Prop):Prop:=∃v,x=some v/\P v
theorem Et.s{α:Type}{v:α}{P:α->Prop} (h:P v):Et (some v) P:=⟨v,rfl,h⟩
theorem Et.b{α β:Type}{x:Option α}{f:α->Option β}{P:α->Prop}{Q:β->Prop} (h:Et x P) (k:∀v,P v->Et (f v) Q):Et (x.bind f) Q:=by
 obtain⟨v,e,hv⟩:=h;obtain⟨u,e2,hu⟩:=k v hv;exact⟨u,by rw[e,Zb,e2],hu⟩
theorem Et.m{α:Type}{x:Option α}{P Q:α->Prop} (h:Et x P) (k:∀v,P v->Q v):Et x Q:=let ⟨v,e,hv⟩:=h;⟨v,e,k v hv⟩
theorem Gg{α:Type}{x:Option α}{v:α} (h:Et x (λu=>u=v)):x=some v:=by obtain⟨u,e,rfl⟩:=h;exact e
theorem ZfL{α:Type}{b:Bool}{x y:Option α}{P:α->Prop} (h1:b=true->Et x P) (h2:b=false->Et y P):Et (bif b then x else y) P:=by
 cases b with
 | true=>rw[Zu];exact h1 rfl
 | false=>rw[Zq];exact h2 rfl
theorem ZfK{α:Type}[Inhabited α] {c:Bool}{x:Option α}{P:α->Prop} (h:c=true->Et x P):Et (gb c x) (λv=>c=true->P v):=by
 cases c with
 | true=>rw[Av];obtain⟨v,e,hv⟩:=h rfl;exact⟨v,e,λ_=>hv⟩
 | false=>rw[BN];exact⟨_,rfl,λh=>by cases h⟩
theorem Et.loop{σ ε:Type}{f:σ->Option (σ⊕ε)} (I:σ->Prop) (μ:σ->Nat) {R:ε->Prop} (h:∀s,I s->Et (f s) (λx=>(∃s',x=.inl s'/\I s'/\μ s' < μ s)\/∃e,x=.inr e/\R e)) {s:σ} (hs:I s) (hm:μ s<18446744073709551616):Et (ZN f s) R:=by
 obtain⟨e,h1,h2⟩:=JX (f:=f) I μ R (λs hs=>by
  obtain⟨x,e1,h1⟩:=h s hs;rcases h1 with⟨s',rfl,h2,h3⟩|⟨e,rfl,h2⟩
  .exact .inl ⟨s',e1,h2,h3⟩
  .exact .inr ⟨e,e1,h2⟩) hs hm
 exact⟨e,h1,h2⟩
theorem Et.l{σ ε:Type}{I:σ->Prop}{μ:σ->Nat}{R:ε->Prop}{m:Nat}{s':σ} (h:I s') (hm:μ s' < m):Et (some (.inl s':σ⊕ε)) (λx=>(∃s',x=.inl s'/\I s'/\μ s' < m)\/∃e,x=.inr e/\R e):=⟨_,rfl,.inl ⟨s',rfl,h,hm⟩⟩
theorem AN{σ ε:Type}{I:σ->Prop}{μ:σ->Nat}{R:ε->Prop}{m:Nat}{e:ε} (h:R e):Et (some (.inr e:σ⊕ε)) (λx=>(∃s',x=.inl s'/\I s'/\μ s' < m)\/∃e,x=.inr e/\R e):=⟨_,rfl,.inr ⟨e,rfl,h⟩⟩
def De:Int:=1099511627776
def blk0:Zo:=⟨[],0,0,true⟩
def blk(c:Chip)(k:Nat):Zo:=c.Blocks.getD k blk0
def pgb(b:Zo)(j:Nat):List UInt8:=b.Pages.getD j []
def pg(c:Chip)(k j:Nat):List UInt8:=pgb (blk c k) j
def C7(S:Nat):List UInt8:=Xac S 255
theorem DD{α:Type}{l:List α}{k:Nat}{d:α} (h:k<l.length):l.getD k d=l[k]:=by
 rw[Xad,Xaf h];rfl
theorem Bw{α:Type}{l:List α}{k i:Nat}{x d:α} (h:k<l.length):(l.set k x).getD i d=if i=k then x else l.getD i d:=by
 rw[Xad,List.getElem?_set]
 by_cases e:k=i
 .subst e;simp[h]
 .rw [if_neg e,if_neg (Ne.symm e),Xad]
theorem Dp{α:Type}{l:List α}{k:Nat}{d:α}{z:Int} (hz:z=k) (h:k<l.length):idx l z=some (l.getD k d):=by
 subst hz;rw[Zz h,DD h]
structure CI(P nB S:Nat)(c:Chip):Prop where
 right:C5 c=true
 pgs:c.Pages=P
 siz:c.Size=S
 len:c.Blocks.length=nB
 blank:∀k,k<nB->∀j:Nat,(blk c k).Used<=((j:Nat):Int)->j<P->pg c k j=C7 S
 worn:∀k,k<nB->(blk c k).Worn<=c.Ops
 mask:∀f∈c.Faults,f.Mask=0\/f.Mask=255
theorem CI.blkAt{P nB S:Nat}{c:Chip} (h:CI P nB S c) {k:Nat} (hk:k<nB):∃hl:k<c.Blocks.length,blk c k=c.Blocks[k]:=by
 have hl:k<c.Blocks.length:=by rw[h.len];exact hk
 exact⟨hl,DD hl⟩
theorem CI.blkR{P nB S:Nat}{c:Chip} (h:CI P nB S c) {k:Nat} (hk:k<nB):(blk c k).Pages.length=P/\0<=(blk c k).Used/\(blk c k).Used<=P/\0<=(blk c k).Worn/\∀p∈(blk c k).Pages,p.length=S:=by
 obtain⟨hl,e⟩:=h.blkAt hk;obtain⟨g1,g2,g3,g4,g5,g6⟩:=(CM h.right).2.2.2.2.2.2.2.2.2 _ (Xax hl);rw[e];have:=h.pgs;have:=h.siz;refine⟨by omega,g2,by omega,g4,λp hp=>?_⟩;have:=g6 p hp;omega
theorem CI.ops{P nB S:Nat}{c:Chip} (h:CI P nB S c):0<=c.Ops/\c.Ops<=De:=by
 have:=CM h.right;exact⟨this.2.2.2.2.2.2.1,this.2.2.2.2.2.2.2.1⟩
theorem CI.nat{P nB S:Nat}{c:Chip} (h:CI P nB S c):1<=P/\P<=16/\nB<=32/\1<=S/\S<=256/\c.Faults.length<=64:=by
 have g:=CM h.right;have:=h.pgs;have:=h.siz;have:=h.len;omega
theorem CI.pgl{P nB S:Nat}{c:Chip} (h:CI P nB S c) {k j:Nat} (hk:k<nB) (hj:j<P):(pg c k j).length=S:=by
 obtain⟨g1,-,-,-,g⟩:=h.blkR hk;unfold pg pgb;rw[DD (by omega)];exact g _ (Xax _)
theorem CI.idxB{P nB S:Nat}{c:Chip} (h:CI P nB S c) {k:Nat}{z:Int} (hz:z=k) (hk:k<nB):idx c.Blocks z=some (blk c k):=Dp hz (by rw[h.len];exact hk)
theorem CI.idxP{P nB S:Nat}{c:Chip} (h:CI P nB S c) {k j:Nat}{z:Int} (hz:z=j) (hk:k<nB) (hj:j<P):idx (blk c k).Pages z=some (pg c k j):=Dp hz (by rw[(h.blkR hk).1];exact hj)
def M2(c:Chip)(k:Nat)(b:Zo)(e:Int):Chip:=⟨c.Pages,c.Size,c.Blocks.set k b,c.Ops+1,decide (e=7),c.Faults⟩
def wch(w:Zc)(c:Chip):Zc:=⟨⟨c,w.Vol.At,w.Vol.Gen,w.Vol.Last⟩,w.beyond⟩
theorem Zc8(w:Zc)(c d:Chip):wch (wch w c) d=wch w d:=rfl
def ZfF(S:Nat)(c:Chip)(k:Nat)(p:List UInt8)(c':Chip)(e:Int):Prop:=
 ∃q,(q=p\/q=C7 S)/\(e=0->q=p)/\(e=0\/e=7\/e=9)/\(c.Faults=[]->e=0)/\
  c'=M2 c k ⟨(blk c k).Pages.set (blk c k).Used.toNat q,(blk c k).Used+1,(blk c k).Worn,decide (e=9)⟩ e
def Zc3(P S:Nat)(c:Chip)(k:Nat)(c':Chip)(e:Int):Prop:=
 ∃keep:Bool,(e=0->keep=false)/\(e=0\/e=7\/e=9)/\(c.Faults=[]->e=0)/\
  c'=M2 c k ⟨if keep then(blk c k).Pages else Xac P (C7 S),if e=0 then 0 else P,(blk c k).Worn+1,decide (e=9)⟩ e
theorem Ol{c:Chip}(h:∀f∈c.Faults,f.Mask=0\/f.Mask=255):(ZE c).1.Mask=0\/(ZE c).1.Mask=255:=by
 unfold ZE
 split
 .rename_i f e;exact h f (List.mem_of_find?_eq_some e)
 .exact .inl rfl
theorem Ok{c:Chip}(h:c.Faults=[]):(ZE c).2=false:=by
 unfold ZE;rw[h];rfl
theorem Zcs(x:UInt8):x ||| 255=255:=by
 apply UInt8.toBitVec_inj.1;rw[UInt8.toBitVec_or];exact BitVec.or_allOnes
theorem Xm{α β:Type}{f:α->β}{y:β}{l:List α} (h:∀x,f x=y):l.map f=Xac l.length y:=by
 rw[show f=λ_=>y from funext h,Xgu]
theorem VU{c:Chip}{S:Nat}{p:List UInt8} (h:∀f∈c.Faults,f.Mask=0\/f.Mask=255) (hp:p.length=S):(ID (ZE c) p=p\/ID (ZE c) p=C7 S)/\((ZE c).2=false->ID (ZE c) p=p):=by
 unfold ID;refine⟨?_,λe=>by rw[e];rfl⟩
 split
 .rcases Ol h with e|e
  .rw [e];refine .inr ?_;rw[show(λx:UInt8=>x ||| ~~~0)=λ_=>(255:UInt8)from funext λx=>Zcs x,Xgu,hp];rfl
  .rw [e];refine .inl ?_;have:(λx:UInt8=>x ||| ~~~255)=id:=funext λx=>by
    show x ||| 0=x;simp
   rw[this,XfN]
 .exact .inl rfl
theorem Tt{c:Chip}{P S:Nat}{l:List (List UInt8)} (h:∀f∈c.Faults,f.Mask=0\/f.Mask=255) (hl:l.length=P) (hp:∀p∈l,p.length=S) :
  ∃keep:Bool,l.map (IL (ZE c))=(if keep then l else Xac P (C7 S))/\((ZE c).2=false->keep=false):=by
 have hb:∀g:List UInt8->List UInt8,(∀p∈l,g p=C7 S)->l.map g=Xac P (C7 S):=λg hg=>by
  rw[List.eq_replicate_iff];refine⟨by simp[hl],λb hb=>?_⟩;obtain⟨p,hp,rfl⟩:=XdO.1 hb;exact hg p hp
 by_cases e:(ZE c).2=true
 .rcases Ol h with g|g
  .refine ⟨true,?_,λx=>by rw[e]at x;cases x⟩;rw[if_pos rfl]
   conv=>rhs;rw[<-XfN l]
   refine Xeq λp _=>?_
   unfold IL;rw[if_pos e,g];have:(λx:UInt8=>x ||| 0)=id:=funext λx=>by simp
   rw[this,XfN];rfl
  .refine ⟨false,?_,λ_=>rfl⟩;rw[if_neg (by decide)];refine hb _ λp hp'=>?_
   unfold IL;rw[if_pos e,g,Xm (y:=255) λx=>Zcs x,hp p hp'];rfl
 .refine ⟨false,?_,λ_=>rfl⟩;rw[if_neg (by decide)];refine hb _ λp hp'=>?_
  unfold IL;rw[if_neg e,hp p hp'];rfl
theorem ZaW{w:Zc}{k:Nat}{e:Int} (hr:C5 w.Vol.Chip=true) (hk:k<w.Vol.Chip.Blocks.length) (ho:w.Vol.Chip.Off=false) :
  Ar w k e=some (if e=9 then wch w ⟨w.Vol.Chip.Pages,w.Vol.Chip.Size,w.Vol.Chip.Blocks.set k ⟨w.Vol.Chip.Blocks[k].Pages,w.Vol.Chip.Blocks[k].Used,w.Vol.Chip.Blocks[k].Worn,true⟩,w.Vol.Chip.Ops,w.Vol.Chip.Off,w.Vol.Chip.Faults⟩else w):=by
 unfold Ar
 by_cases h:e=9
 .rw [Zj (by simp[h]),Zdz _ hr,Zb,if_pos h];have h1:ST w.Vol.Chip (k:Int)=true:=by unfold ST;rw[hr];simp[hk]
  have:Zb7 w.Vol.Chip (k:Int)=(⟨w.Vol.Chip.Pages,w.Vol.Chip.Size,w.Vol.Chip.Blocks.set k ⟨w.Vol.Chip.Blocks[k].Pages,w.Vol.Chip.Blocks[k].Used,w.Vol.Chip.Blocks[k].Worn,true⟩,w.Vol.Chip.Ops,w.Vol.Chip.Off,w.Vol.Chip.Faults⟩,0):=by
   unfold Zb7;rw[if_pos h1,ho,if_neg (by decide),Xak,Xaf hk]
  rw[this];rfl
 .rw [Zg (by simp[h]),if_neg h]
theorem Ze6{c:Chip}{l:List Int}{g:UInt64}{n:Int}{b:Bool}{k:Nat} (hr:C5 c=true) (hk:k<c.Blocks.length) (ho:c.Off=false) :
  Ar ⟨⟨c,l,g,n⟩,b⟩ k 9=some ⟨⟨⟨c.Pages,c.Size,c.Blocks.set k ⟨c.Blocks[k].Pages,c.Blocks[k].Used,c.Blocks[k].Worn,true⟩,c.Ops,c.Off,c.Faults⟩,l,g,n⟩,b⟩:=by
 rw[ZaW (w:=⟨⟨c,l,g,n⟩,b⟩) hr hk ho,if_pos rfl];rfl
theorem S8{w:Zc}{k:Nat}{z:Int}{p:List UInt8}{P nB S:Nat} (hz:z=k) (hc:CI P nB S w.Vol.Chip) (ho:w.Vol.Chip.Off=false) (hk:k<nB) (hb:(blk w.Vol.Chip k).Bad=false) (hu:(blk w.Vol.Chip k).Used<P)
  (hp:p.length=S) (hops:w.Vol.Chip.Ops<De):Et (ZS w z p) (λr=>∃c' e,r=(e,wch w c')/\ZfF S w.Vol.Chip k p c' e):=by
 subst hz;obtain⟨hl,he⟩:=hc.blkAt hk;obtain⟨b1,b2,b3,b4,b5⟩:=hc.blkR hk;unfold ZS;rw[hc.idxB rfl hk,Zb,Zdn _ _ _ hc.right,Zb,Zb];have hP:Re w.Vol.Chip (k:Int) (blk w.Vol.Chip k).Used p=(⟨w.Vol.Chip.Pages,w.Vol.Chip.Size,w.Vol.Chip.Blocks.set k ⟨(blk w.Vol.Chip k).Pages.set (blk w.Vol.Chip k).Used.toNat (ID (ZE w.Vol.Chip) p),(blk w.Vol.Chip k).Used+1,(blk w.Vol.Chip k).Worn,(blk w.Vol.Chip k).Bad⟩,w.Vol.Chip.Ops+1,
   if (ZE w.Vol.Chip).2 then(ZE w.Vol.Chip).1.Cut else w.Vol.Chip.Off,w.Vol.Chip.Faults⟩,if (ZE w.Vol.Chip).2 then(if (ZE w.Vol.Chip).1.Cut then 7 else 9)else 0):=by
  unfold Re;have h1:Nh w.Vol.Chip (k:Int) (blk w.Vol.Chip k).Used p=true:=by
   unfold Nh;have:=hc.pgs;have:=hc.siz;unfold De at hops;simp only[hc.right,XbU,Xaz,decide_eq_true_eq];refine⟨⟨by omega,by rw[hc.len];omega⟩,by omega,by omega,by omega,by omega⟩
  rw[if_pos h1,ho,if_neg (by decide),Xak,Xaf hl,he];rw[he]at hb;show(if _ then _ else _)=_;rw[if_neg (by rw[hb];simp)]
 have hm:=VU (c:=w.Vol.Chip) hc.mask hp;have hr':=VN (k:=k) hl (blk w.Vol.Chip k).Used p hc.right;have hn:=Ok (c:=w.Vol.Chip);rw[hP]at hr'⊢;clear hP;revert hm hr' hn;generalize ZE w.Vol.Chip=s;obtain⟨⟨op,fl,cut,mask⟩,hit⟩:=s;intro hm hr' hn;cases hit
 .simp only[Xbu,if_false]at hm hr' hn⊢;unfold Ar;rw[Zg (by decide),Zb];refine Et.s ⟨_,0,rfl,_,hm.1,λx=>hm.2 trivial,by omega,λx=>rfl,?_⟩;unfold M2;simp[hb,ho]
 .cases cut
  .simp only[Xbu,if_false,if_true]at hm hr' hn⊢;rw[Ze6 (k:=k) hr' (by show k<(Xe9 _ _ _).length;rw[XaA];exact hl) rfl,Zb];refine Et.s ⟨_,9,rfl,_,hm.1,λx=>by omega,by omega,λx=>by simpa using hn x,?_⟩;unfold M2;simp[XdG]
  .simp only[Xbu,if_false,if_true]at hm hr' hn⊢;unfold Ar;rw[Zg (by decide),Zb];refine Et.s ⟨_,7,rfl,_,hm.1,λx=>by omega,by omega,λx=>by simpa using hn x,?_⟩;unfold M2;simp[hb]
theorem XO{w:Zc}{k:Nat}{z:Int}{P nB S:Nat} (hz:z=k) (hc:CI P nB S w.Vol.Chip) (ho:w.Vol.Chip.Off=false) (hk:k<nB) (hb:(blk w.Vol.Chip k).Bad=false) (hops:w.Vol.Chip.Ops<De) :
  Et (AW w z) (λr=>∃c' e,r=(e,wch w c')/\Zc3 P S w.Vol.Chip k c' e):=by
 subst hz;obtain⟨hl,he⟩:=hc.blkAt hk;obtain⟨b1,b2,b3,b4,b5⟩:=hc.blkR hk;have hw:=hc.worn k hk;unfold AW;rw[Zbi _ hc.right,Zb,Zb];have hP:Mv w.Vol.Chip (k:Int)=(⟨w.Vol.Chip.Pages,w.Vol.Chip.Size,w.Vol.Chip.Blocks.set k ⟨(blk w.Vol.Chip k).Pages.map (IL (ZE w.Vol.Chip)),if (ZE w.Vol.Chip).2 then w.Vol.Chip.Pages else 0,(blk w.Vol.Chip k).Worn+1,(blk w.Vol.Chip k).Bad⟩,w.Vol.Chip.Ops+1,
   if (ZE w.Vol.Chip).2 then(ZE w.Vol.Chip).1.Cut else w.Vol.Chip.Off,w.Vol.Chip.Faults⟩,if (ZE w.Vol.Chip).2 then(if (ZE w.Vol.Chip).1.Cut then 7 else 9)else 0):=by
  unfold Mv;unfold De at hops;have h1:ST w.Vol.Chip (k:Int)=true:=by unfold ST;rw[hc.right];simp[hl]
  rw[if_pos ⟨h1,hops⟩,Xak,Xaf hl];rw[he]at hb hw;show(if _ then _ else _)=_;rw[if_neg (by omega),ho,if_neg (by decide),he,hb,if_neg (by decide)]
 obtain⟨keep,hm,hm2⟩:=Tt (c:=w.Vol.Chip) hc.mask b1 b5;have hr':=Ts (k:=k) hl hc.right;have hn:=Ok (c:=w.Vol.Chip);rw[hP]at hr'⊢;have hpg:=hc.pgs;clear hP;revert hm hm2 hr' hn;generalize ZE w.Vol.Chip=s;obtain⟨⟨op,fl,cut,mask⟩,hit⟩:=s;intro hm hm2 hr' hn;cases hit
 .simp only[Xbu,if_false]at hm hr' hn⊢;unfold Ar;rw[Zg (by decide),Zb];refine Et.s ⟨_,0,rfl,keep,λx=>hm2 rfl,by omega,λx=>rfl,?_⟩;unfold M2;simp[hb,ho,hm]
 .cases cut
  .simp only[Xbu,if_false,if_true]at hm hr' hn⊢;rw[Ze6 (k:=k) hr' (by show k<(Xe9 _ _ _).length;rw[XaA];exact hl) rfl,Zb];refine Et.s ⟨_,9,rfl,keep,λx=>by omega,by omega,λx=>by simpa using hn x,?_⟩;unfold M2;simp[XdG,hm,hpg]
  .simp only[Xbu,if_false,if_true]at hm hr' hn⊢;unfold Ar;rw[Zg (by decide),Zb];refine Et.s ⟨_,7,rfl,keep,λx=>by omega,by omega,λx=>by simpa using hn x,?_⟩;unfold M2;simp[hb,hm,hpg]
theorem Dh{c:Chip}{k i:Nat}{b:Zo}{e:Int} (h:k<c.Blocks.length):blk (M2 c k b e) i=if i=k then b else blk c i:=Bw h
theorem CI.chSet{P nB S:Nat}{c:Chip} (hc:CI P nB S c) {k:Nat} (hk:k<nB) (ho:c.Ops<De) {b:Zo} (e:Int) (h1:b.Pages.length=P) (h2:∀p∈b.Pages,p.length=S) (h3:0<=b.Used/\b.Used<=P)
  (h4:0<=b.Worn/\b.Worn<=c.Ops+1) (h5:∀j:Nat,b.Used<=(j:Int)->j<P->pgb b j=C7 S):CI P nB S (M2 c k b e):=by
 have hl:k<c.Blocks.length:=by rw[hc.len];exact hk
 have g:=CM hc.right;have hp:=hc.pgs;have hs:=hc.siz;unfold De at ho;refine⟨?_,hp,hs,?_,λi hi j hj hjP=>?_,λi hi=>?_,hc.mask⟩
 .refine OY (by show 1<=(c.Blocks.set k b).length;rw[XaA];exact g.1) (by show(c.Blocks.set k b).length<=32;rw[XaA];exact g.2.1) g.2.2.1 g.2.2.2.1 g.2.2.2.2.1 g.2.2.2.2.2.1 (by show 0<=c.Ops+1;omega) (by show c.Ops+1<=1099511627776;omega) g.2.2.2.2.2.2.2.2.1 λx hx=>?_
  rcases OI hx with hx|rfl
  .exact g.2.2.2.2.2.2.2.2.2 x hx
  .refine ⟨by show(x.Pages.length:Int)=c.Pages;omega,h3.1,by show x.Used<=c.Pages;omega,h4.1,by omega,λp hp'=>?_⟩;have:=h2 p hp';show(p.length:Int)=c.Size;omega
 .show (c.Blocks.set k b).length=nB;rw[XaA];exact hc.len
 .unfold pg at *;rw[Dh hl]at hj⊢
  by_cases e:i=k
  .rw [if_pos e]at hj⊢;exact h5 j hj hjP
  .rw [if_neg e]at hj⊢;exact hc.blank i hi j hj hjP
 .rw [Dh hl];show _<=c.Ops+1
  by_cases e:i=k
  .rw [if_pos e];exact h4.2
  .rw [if_neg e];have:=hc.worn i hi;omega
def Aw(c:Chip):Nat:=c.Blocks.countP (·.Bad)
theorem Jn{P nB S:Nat}{c:Chip} (hc:CI P nB S c):Aw c<=nB:=by rw[<-hc.len];exact List.countP_le_length
theorem P7{P nB S:Nat}{c:Chip} (hc:CI P nB S c) {k:Nat} (hk:k<nB) (hb:(blk c k).Bad=false) {b:Zo}{e:Int}:Aw (M2 c k b e)=Aw c+if b.Bad then 1 else 0:=by
 obtain⟨hl,he⟩:=hc.blkAt hk;unfold Aw;show(c.Blocks.set k b).countP _=_;rw[List.countP_set hl,<-he,hb];simp
theorem N4{P nB S:Nat}{c:Chip} (hc:CI P nB S c) {k:Nat} (hk:k<nB) (h:Aw c=0):(blk c k).Bad=false:=by
 obtain⟨hl,he⟩:=hc.blkAt hk;unfold Aw at h;rw[List.countP_eq_zero]at h;rw[he];simpa using h _ (Xax hl)
structure ZfC(P nB S:Nat)(c c':Chip)(k:Nat)(e:Int):Prop where
 ci:CI P nB S c'
 ops:c'.Ops=c.Ops+1
 off:c'.Off=decide (e=7)
 flt:c'.Faults=c.Faults
 err:e=0\/e=7\/e=9
 nf:c.Faults=[]->e=0
 oth:∀i,i≠k->blk c' i=blk c i
 bad:(blk c' k).Bad=decide (e=9)
 many:Aw c'=Aw c+if e=9 then 1 else 0
structure Rf(P nB S:Nat)(c c':Chip)(k:Nat)(p:List UInt8)(e:Int):Prop extends ZfC P nB S c c' k e where
 used:(blk c' k).Used=(blk c k).Used+1
 pgo:∀j:Nat,(j:Int)≠(blk c k).Used->pg c' k j=pg c k j
 pgn:∃q,(q=p\/q=C7 S)/\(e=0->q=p)/\pg c' k (blk c k).Used.toNat=q
structure YN(P nB S:Nat)(c c':Chip)(k:Nat)(e:Int):Prop extends ZfC P nB S c c' k e where
 used:(blk c' k).Used=if e=0 then 0 else(P:Int)
 pgs:(∀j,j<P->pg c' k j=C7 S)\/(e≠0/\∀j,pg c' k j=pg c k j)
theorem ZeZ{P nB S:Nat}{c c':Chip}{k:Nat}{p:List UInt8}{e:Int} (hc:CI P nB S c) (hk:k<nB) (hb:(blk c k).Bad=false) (hu:(blk c k).Used<P) (hp:p.length=S) (ho:c.Ops<De) (h:ZfF S c k p c' e):Rf P nB S c c' k p e:=by
 obtain⟨q,hq,he,h7,hn,rfl⟩:=h;obtain⟨hl,hB⟩:=hc.blkAt hk;obtain⟨b1,b2,b3,b4,b5⟩:=hc.blkR hk;have hw:=hc.worn k hk;have hql:q.length=S:=by
  rcases hq with rfl|rfl
  .exact hp
  .simp [C7]
 have hun:(blk c k).Used.toNat<(blk c k).Pages.length:=by omega
 have hpg:∀j:Nat,pgb ⟨(blk c k).Pages.set (blk c k).Used.toNat q,(blk c k).Used+1,(blk c k).Worn,decide (e=9)⟩ j=if j=(blk c k).Used.toNat then q else pg c k j:=λj=>Bw hun
 have hC:CI P nB S (M2 c k ⟨(blk c k).Pages.set (blk c k).Used.toNat q,(blk c k).Used+1,(blk c k).Worn,decide (e=9)⟩ e):=by
  refine hc.chSet hk ho e (by show((blk c k).Pages.set _ q).length=P;rw[XaA];exact b1) (λx hx=>?_) ⟨by show 0<=(blk c k).Used+1;omega,by show(blk c k).Used+1<=P;omega⟩ ⟨b4,by show(blk c k).Worn<=_;omega⟩ λj hj hjP=>?_
  .rcases OI hx with hx|rfl
   .exact b5 x hx
   .exact hql
  .rw [hpg];have hj:(blk c k).Used+1<=(j:Int):=hj;rw[if_neg (by omega)];exact hc.blank k hk j (by omega) hjP
 refine⟨⟨hC,rfl,rfl,rfl,h7,hn,λi hi=>?_,?_,?_⟩,?_,λj hj=>?_,q,hq,he,?_⟩
 .rw [Dh hl,if_neg hi]
 .rw [Dh hl,if_pos rfl]
 .rw [P7 hc hk hb];simp
 .rw [Dh hl,if_pos rfl]
 .unfold pg at *;rw[Dh hl,if_pos rfl,hpg,if_neg (by omega)]
 .unfold pg at *;rw[Dh hl,if_pos rfl,hpg,if_pos rfl]
theorem ZdP{P nB S:Nat}{c c':Chip}{k:Nat}{e:Int} (hc:CI P nB S c) (hk:k<nB) (hb:(blk c k).Bad=false) (ho:c.Ops<De) (h:Zc3 P S c k c' e):YN P nB S c c' k e:=by
 obtain⟨keep,he,h7,hn,rfl⟩:=h;obtain⟨hl,hB⟩:=hc.blkAt hk;obtain⟨b1,b2,b3,b4,b5⟩:=hc.blkR hk;have hw:=hc.worn k hk;have hN:=hc.nat;have hpg:∀j:Nat,pgb ⟨if keep then(blk c k).Pages else Xac P (C7 S),if e=0 then 0 else(P:Int),(blk c k).Worn+1,decide (e=9)⟩ j=if keep then pg c k j else(Xac P (C7 S)).getD j []:=λj=>by
  unfold pgb;cases keep<;>rfl
 have hrep:∀j,j<P->(Xac P (C7 S)).getD j []=C7 S:=λj hj=>by
  rw[DD (by simpa using hj),List.getElem_replicate]
 have hC:CI P nB S (M2 c k ⟨if keep then(blk c k).Pages else Xac P (C7 S),if e=0 then 0 else(P:Int),(blk c k).Worn+1,decide (e=9)⟩ e):=by
  refine hc.chSet hk ho e ?_ (λx hx=>?_) ?_ ⟨by show 0<=(blk c k).Worn+1;omega,by show(blk c k).Worn+1<=_;omega⟩ λj hj hjP=>?_
  .cases keep
   .exact XaK
   .exact b1
  .cases keep
   .rw [(XdN.1 hx).2];simp[C7]
   .exact b5 x hx
  .show 0<=(if e=0 then 0 else(P:Int))/\(if e=0 then 0 else(P:Int))<=P
   split<;>omega
  .rw [hpg];have hj:(if e=0 then 0 else(P:Int))<=(j:Int):=hj
   by_cases e0:e=0
   .rw [he e0];exact hrep j hjP
   .rw [if_neg e0]at hj;omega
 refine⟨⟨hC,rfl,rfl,rfl,h7,hn,λi hi=>?_,?_,?_⟩,?_,?_⟩
 .rw [Dh hl,if_neg hi]
 .rw [Dh hl,if_pos rfl]
 .rw [P7 hc hk hb];simp
 .rw [Dh hl,if_pos rfl]
 .cases keep
  .refine .inl λj hj=>?_
   unfold pg at *;rw[Dh hl,if_pos rfl,hpg];exact hrep j hj
  .refine .inr ⟨λe0=>by simpa using he e0,λj=>?_⟩;unfold pg at *;rw[Dh hl,if_pos rfl,hpg];rfl
theorem JP{w:Zc}{k:Nat}{z:Int}{p:List UInt8}{P nB S:Nat} (hz:z=k) (hc:CI P nB S w.Vol.Chip) (ho:w.Vol.Chip.Off=false) (hk:k<nB) (hb:(blk w.Vol.Chip k).Bad=false) (hu:(blk w.Vol.Chip k).Used<P)
  (hp:p.length=S) (hops:w.Vol.Chip.Ops<De):Et (ZS w z p) (λr=>∃c' e,r=(e,wch w c')/\Rf P nB S w.Vol.Chip c' k p e):=
 (S8 hz hc ho hk hb hu hp hops).m λr ⟨c',e,h1,h2⟩=>⟨c',e,h1,ZeZ hc hk hb hu hp hops h2⟩
theorem UZ{w:Zc}{k:Nat}{z:Int}{P nB S:Nat} (hz:z=k) (hc:CI P nB S w.Vol.Chip) (ho:w.Vol.Chip.Off=false) (hk:k<nB) (hb:(blk w.Vol.Chip k).Bad=false) (hops:w.Vol.Chip.Ops<De) :
  Et (AW w z) (λr=>∃c' e,r=(e,wch w c')/\YN P nB S w.Vol.Chip c' k e):=
 (XO hz hc ho hk hb hops).m λr ⟨c',e,h1,h2⟩=>⟨c',e,h1,ZdP hc hk hb hops h2⟩
def R3(P:Nat)(b:Zo):Int:=if b.Bad then 0 else P-b.Used
theorem MU{w:Zc}{k:Nat}{z:Int}{P nB S:Nat} (hz:z=k) (hc:CI P nB S w.Vol.Chip) (hk:k<nB):AE w z=some (R3 P (blk w.Vol.Chip k)):=by
 unfold AE;obtain⟨b1,b2,b3,b4,b5⟩:=hc.blkR hk;have:=hc.nat;rw[hc.idxB hz hk,Zb];unfold R3;cases h:(blk w.Vol.Chip k).Bad
 .rw [Zq,hc.pgs,Ax (by omega) (by omega),Zb];rfl
 .rw [Zu];rfl
structure Pd(P nB S:Nat)(c c':Chip)(k:Nat)(e:Int):Prop where
 ci:CI P nB S c'
 ops:c.Ops<=c'.Ops/\c'.Ops<=c.Ops+17
 off:c'.Off=decide (e=7)
 flt:c'.Faults=c.Faults
 err:e=0\/e=7\/e=9
 nf:c.Faults=[]->e=0
 oth:∀i,i≠k->blk c' i=blk c i
 bad:(blk c' k).Bad=decide (e=9)
 many:Aw c'=Aw c+if e=9 then 1 else 0
 used:e=0->(blk c' k).Used=0
theorem Zfe{S:Nat}(h1:24<=S)(h2:S<=256):∃b,Gr ⟨1,0,0,[]⟩ (S:Int)=some (b,0)/\b.length=S:=by
 have hm:Qi ⟨1,0,0,[]⟩ (S:Int):=⟨⟨by omega,by omega⟩,.inl rfl,by simp,by simp,by show(0:UInt64)<_;decide,by simp;omega⟩;refine⟨_,?_,(Kv (p:=⟨1,0,0,[]⟩) (n:=S) hm rfl).1⟩;rw[I6];unfold Y4;rw[if_pos hm];rfl
theorem Mh{w:Zc}{k:Nat}{z:Int}{P nB S:Nat} (hz:z=k) (hc:CI P nB S w.Vol.Chip) (h24:24<=S) (ho:w.Vol.Chip.Off=false) (hk:k<nB) (hb:(blk w.Vol.Chip k).Bad=false) (hops:w.Vol.Chip.Ops+17<=De) :
  Et (Ad w z) (λr=>∃c' e,r=(e,wch w c')/\Pd P nB S w.Vol.Chip c' k e):=by
 have hN:=hc.nat;have hB:=hc.blkR hk;obtain⟨fb,hf1,hf2⟩:=Zfe h24 hN.2.2.2.2.1;unfold Ad;refine Et.b (P:=λo=>(∃c2,o=.inl (wch w c2)/\CI P nB S c2/\c2.Off=false/\c2.Faults=w.Vol.Chip.Faults/\(∀i,i≠k->blk c2 i=blk w.Vol.Chip i)/\(blk c2 k).Bad=false/\Aw c2=Aw w.Vol.Chip/\w.Vol.Chip.Ops<=c2.Ops/\c2.Ops<=w.Vol.Chip.Ops+16)\/
   ∃c' e,o=.inr (e,wch w c')/\Pd P nB S w.Vol.Chip c' k e)
  (Et.loop (λs=>∃c2,s=wch w c2/\CI P nB S c2/\c2.Off=false/\c2.Faults=w.Vol.Chip.Faults/\(∀i,i≠k->blk c2 i=blk w.Vol.Chip i)/\(blk c2 k).Bad=false/\Aw c2=Aw w.Vol.Chip/\w.Vol.Chip.Ops<=c2.Ops/\c2.Ops=w.Vol.Chip.Ops+(blk c2 k).Used-(blk w.Vol.Chip k).Used)
   (λs=>(P-(blk s.Vol.Chip k).Used).toNat) (λs hs=>?_) ⟨w.Vol.Chip,rfl,hc,ho,rfl,λ_ _=>rfl,hb,rfl,by omega,by omega⟩ (by show((P:Int)-(blk w.Vol.Chip k).Used).toNat<_;omega)) λo ho'=>?_
 .obtain ⟨c2,rfl,i1,i2,i3,i4,i5,i6,i7,i8⟩:=hs;obtain⟨b1,b2,b3,b4,b5⟩:=i1.blkR hk;unfold DI;rw[MU (w:=wch w c2) hz i1 hk,Zb];have hfr:R3 P (blk (wch w c2).Vol.Chip k)=P-(blk c2 k).Used:=by
   show(if (blk c2 k).Bad then(0:Int)else P-(blk c2 k).Used)=_;rw[i5];rfl
  rw[hfr]
  by_cases hlt:(blk c2 k).Used<P
  .rw [Zj (by simp;omega),show(wch w c2).Vol.Chip.Size=c2.Size from rfl,i1.siz,hf1,Zb];unfold De at hops;refine Et.b (JP (w:=wch w c2) hz i1 i2 hk i5 hlt hf2 (by show c2.Ops<De;unfold De;omega)) λr ⟨c3,e,hr,g⟩=>?_
   subst hr;rw[Zc8];have g1:c3.Ops=c2.Ops+1:=g.ops
   by_cases he:e=0
   .subst he;rw[Zg (by simp)];have gu:(blk c3 k).Used=(blk c2 k).Used+1:=g.used;refine Et.l ⟨c3,rfl,g.ci,g.off,g.flt.trans i3,λi hi=>(g.oth i hi).trans (i4 i hi),g.bad,by rw[g.many];exact i6,by omega,by omega⟩ ?_;show((P:Int)-(blk c3 k).Used).toNat<((P:Int)-(blk c2 k).Used).toNat;omega
   .rw [Zj (by simp[he])];refine AN (.inr ⟨c3,e,rfl,g.ci,by omega,g.off,g.flt.trans i3,g.err,λx=>g.nf (i3.trans x),λi hi=>(g.oth i hi).trans (i4 i hi),g.bad,by rw[g.many];show Aw c2+_=_;rw[i6],λx=>absurd x he⟩)
  .rw [Zg (by simp;omega)];exact AN (.inl ⟨c2,rfl,i1,i2,i3,i4,i5,i6,i7,by omega⟩)
 .rcases ho' with⟨c2,rfl,i1,i2,i3,i4,i5,i6,i7,i8⟩|⟨c',e,rfl,g⟩
  .rw [ZU];unfold De at hops;refine Et.b (UZ (w:=wch w c2) hz i1 i2 hk i5 (by show c2.Ops<De;unfold De;omega)) λr ⟨c3,e,hr,g⟩=>?_
   subst hr;have g1:c3.Ops=c2.Ops+1:=g.ops;refine Et.s ⟨c3,e,rfl,g.ci,by omega,g.off,g.flt.trans i3,g.err,λx=>g.nf (i3.trans x),λi hi=>(g.oth i hi).trans (i4 i hi),g.bad,by rw[g.many];show Aw c2+_=_;rw[i6],λx=>by rw[g.used,if_pos x]⟩
  .rw [A2];exact Et.s ⟨c',e,rfl,g⟩
theorem Wi{S:Nat}(h1:24<=S)(h2:S<=256):D5 (C7 S)=(TZ,0):=by
 have hl:(C7 S).length=S:=by simp[C7]
 unfold D5;rw[if_neg (by rw[hl];unfold Hw;omega),if_pos (λx hx=>by unfold C7 at hx;exact(XdN.1 hx).2)]
theorem KK{S:Nat}(h1:24<=S)(h2:S<=256):As (C7 S)=(Rc,6):=by
 unfold As;rw[Wi h1 h2];rfl
def Fc(P k j:Nat):Int:=((k*P+j+1:Nat):Int)
theorem Lt{P k j:Nat}(hj:j<P):(Fc P k j-1)/(P:Int)=k/\(Fc P k j-1)%(P:Int)=j:=by
 have e:Fc P k j-1=((k*P+j:Nat):Int):=by unfold Fc;omega
 rw[e];have h0:0<P:=by omega
 constructor
 .rw [<-Xgx,Xb1,Xdq _ _ h0,Xby hj,Xbg]
 .rw [<-Xc1,Xb1,XcQ,Xcd hj]
theorem Ls{P k j k' j':Nat}(h:j<P)(h':j' < P)(e:Fc P k j=Fc P k' j'):k=k'/\j=j':=by
 have a:=Lt (k:=k) h;have b:=Lt (k:=k') h';rw[e]at a;omega
theorem ET{P k j:Nat}:1<=Fc P k j:=by unfold Fc;omega
theorem PV{P k j nB:Nat}(hk:k<nB)(hj:j<P):Fc P k j<=((nB*P:Nat):Int):=by
 unfold Fc;have:(k+1)*P<=nB*P:=Xah _ (by omega);rw[Xa6]at this;omega
def Zgx(P nB:Nat)(c:Chip)(id:Nat)(n:Int)(b:List UInt8):Prop:=
 (n=0/\b=[])\/∃k j g,n=Fc P k j/\2<=k/\k<nB/\j<P/\(j:Int)<(blk c k).Used/\D5 (pg c k j)=(⟨1,id,g,b⟩,0)/\b≠[]
def GI(P nB:Nat)(c:Chip)(at0:List Int)(bod:List (List UInt8)):Prop:=at0.length=bod.length/\∀id,id<at0.length->Zgx P nB c id (at0.getD id 0) (bod.getD id [])
theorem GI.keep{P nB:Nat}{c c':Chip}{at0:List Int}{bod:List (List UInt8)} (h:GI P nB c at0 bod)
  (hk:∀id k j,id<at0.length->at0.getD id 0=Fc P k j->2<=k->k<nB->j<P->(j:Int)<(blk c k).Used->(j:Int)<(blk c' k).Used/\pg c' k j=pg c k j):GI P nB c' at0 bod:=by
 refine⟨h.1,λid hid=>?_⟩;rcases h.2 id hid with g|⟨k,j,g,h1,h2,h3,h4,h5,h6,h7⟩
 .exact .inl g
 .obtain ⟨a,b⟩:=hk id k j hid h1 h2 h3 h4 h5;exact .inr ⟨k,j,g,h1,h2,h3,h4,a,by rw[b];exact h6,h7⟩
theorem GI.inj{P nB:Nat}{c:Chip}{at0:List Int}{bod:List (List UInt8)} (h:GI P nB c at0 bod) {i j:Nat} (hi:i<at0.length) (hj:j<at0.length) (e:at0.getD i 0=at0.getD j 0) (h0:at0.getD i 0≠0):i=j:=by
 rcases h.2 i hi with g|⟨k1,j1,g1,a1,a2,a3,a4,a5,a6,a7⟩
 .exact absurd g.1 h0
 rcases h.2 j hj with g|⟨k2,j2,g2,b1,b2,b3,b4,b5,b6,b7⟩
 .exact absurd (e.trans g.1) h0
 rw[a1,b1]at e;obtain⟨rfl,rfl⟩:=Ls a4 b4 e;rw[a6]at b6;injection b6 with b6;injection b6 with _ b6;omega
def RI(P:Nat)(c:Chip)(gen:UInt64)(at0:List Int)(last:Int):Prop:=
 ∃b j:Nat,last=b/\b<2/\j<P/\As (pg c b j)=(⟨gen,at0⟩,0)/\
  ∀b' j',b' < 2->j' < P->(As (pg c b' j')).2=0->(As (pg c b' j')).1.Gen.toNat<=gen.toNat/\((As (pg c b' j')).1.Gen.toNat=gen.toNat->b' * P+j'<=b*P+j)
structure Geo(P nB S:Nat):Prop where
 p2:2<=P
 p8:P<=8
 b5:5<=nB
 b11:nB<=11
 s24:24<=S
 s256:S<=256
structure VI(P nB S:Nat)(c:Chip)(at0:List Int)(gen:UInt64)(last:Int)(bod:List (List UInt8)):Prop where
 ci:CI P nB S c
 off:c.Off=false
 ri:RI P c gen at0 last
 gi:GI P nB c at0 bod
 gen:(gen.toNat:Int)<=c.Ops
theorem ZdU(p q:List (List UInt8))(hp:p.length<=1000)(hq:q.length<=1000):BZ [p,q]=some (p++q):=by
 unfold BZ;refine(Bt (Ja (e:=((p++q).length:Int)) 3 (by omega) ?_)).trans ?_
 .have s0:An [p,q] 0 0=some (.inl ((p.length:Int),1)):=by
   unfold An;rw[Zj (by simp),show idx [p,q] (0:Int)=some p from rfl,Zb,Aa (by omega) (by omega),Zb,Zg (by simp),Aa (by omega) (by omega),Zb];simp
  have s1:An [p,q] (p.length:Int) 1=some (.inl (((p++q).length:Int),2)):=by
   unfold An;rw[Zj (by simp),show idx [p,q] (1:Int)=some q from rfl,Zb,Aa (by omega) (by omega),Zb,Zg (by simp;omega),Aa (by omega) (by omega),Zb];simp
  have s2:An [p,q] ((p++q).length:Int) 2=some (.inr ((p++q).length:Int)):=by
   unfold An;rw[Zg (by simp)]
  rw[ED s0,ED s1,Fy s2]
 .have hg:CT [] ((p++q).length:Int)=some []:=by
   unfold CT;rw[Zg (by simp;omega),Ax (by omega) (by omega),Zb,Ax (by simp;omega) (by simp;omega),Zb]
   by_cases h0:0<(p++q).length
   .rw [Zj (by simp at h0⊢;omega),Aq (by simp;omega) (by simp;omega) (by simp;omega),Zb,Xc (by simp at h0⊢;omega),Zb,Ef (by omega) (by omega) (by simp;omega),Zb,Zb,Zb];simp
   .rw [Zg (by simp at h0⊢;simp[h0]),Zb]
  rw[hg,Zb];refine(Bt (Ja (e:=p++q) 3 (by omega) ?_)).trans rfl;have s0:Am [p,q] 0 []=some (.inl (1,p)):=by
   unfold Am;rw[Zj (by simp),show idx [p,q] (0:Int)=some p from rfl,Zb,Aq (by omega) (by simp;omega) (by simp;omega),Zb,Zb,Aa (by omega) (by omega),Zb];simp
  have s1:Am [p,q] 1 p=some (.inl (2,p++q)):=by
   unfold Am;rw[Zj (by simp),show idx [p,q] (1:Int)=some q from rfl,Zb,Aq (by omega) (by omega) (by omega),Zb,Zb,Aa (by omega) (by omega),Zb];simp
  have s2:Am [p,q] 2 (p++q)=some (.inr (p++q)):=by
   unfold Am;rw[Zg (by simp)]
  rw[ED s0,ED s1,Fy s2]
theorem Uy{P nB S:Nat}{c:Chip} (hc:CI P nB S c) (hB:2<=nB) {i:Nat} (hi:i<((blk c 0).Pages++(blk c 1).Pages).length):i<2*P/\((blk c 0).Pages++(blk c 1).Pages)[i]=pg c (i/P) (i%P):=by
 have h0:=(hc.blkR (k:=0) (by omega)).1;have h1:=(hc.blkR (k:=1) (by omega)).1;have hi2:i<2*P:=by rw[XaD]at hi;omega
 refine⟨hi2,?_⟩;have hP:0<P:=by omega
 unfold pg pgb
 by_cases h:i<P
 .rw [Xby h,Xcd h,List.getElem_append_left (by omega),DD (by omega)]
 .have e1:i/P=1:=by
   rw[show i=i-P+1*P by omega,Xdq _ _ hP,Xby (by omega)]
  have e2:i%P=i-P:=by
   rw[show i=i-P+1*P by omega,XcQ,Xcd (by omega)];omega
  rw[e1,e2,List.getElem_append_right (by omega),DD (by omega)];congr 1;omega
theorem Xi{P nB S:Nat}{c:Chip}{gen:UInt64}{at0:List Int}{last:Int} (hc:CI P nB S c) (hg:Geo P nB S) (hr:RI P c gen at0 last) :
  ∃b j:Nat,last=b/\b<2/\j<P/\(j:Int)<(blk c b).Used/\Fq ((blk c 0).Pages++(blk c 1).Pages)=some (((b*P+j:Nat):Int),⟨gen,at0⟩,0):=by
 obtain⟨b,j,h1,h2,h3,h4,h5⟩:=hr;have g1:=hg.b5;have g2:=hg.p2;have g3:=hg.p8;have hl0:=hc.blkR (k:=0) (by omega);have hl1:=hc.blkR (k:=1) (by omega);refine⟨b,j,h1,h2,h3,?_,?_⟩
 .have:=hg.s24;have:=hg.s256
  by_cases e:(j:Int)<(blk c b).Used
  .exact e
  .rw [hc.blank b (by omega) j (by omega) h3,KK (by omega) (by omega)]at h4;injection h4 with _ h4;cases h4
 have hlen:((blk c 0).Pages++(blk c 1).Pages).length=2*P:=by rw[XaD];omega
 rw[Pm _ (by omega) λx hx=>by
  have:x.length=S:=by
   rcases Xar.1 hx with hx|hx
   .exact hl0.2.2.2.2 x hx
   .exact hl1.2.2.2.2 x hx
  have:=hg.s256;omega]
 have hi:=ninv ((blk c 0).Pages++(blk c 1).Pages) _ (Xau _);rw[Xbp]at hi;unfold Ue Zf6;have hbj:b*P+j<2*P:=by
  have:(b+1)*P<=2*P:=Xah _ (by omega);rw[Xa6]at this;omega
 have hbl:b*P+j<((blk c 0).Pages++(blk c 1).Pages).length:=by omega
 have hrd:=(Uy hc (by omega) hbl).2;have hP:0<P:=by omega
 have hdv:(b*P+j)/P=b/\(b*P+j)%P=j:=by
  constructor
  .rw [Xb1,Xdq _ _ hP,Xby h3,Xbg]
  .rw [Xb1,XcQ,Xcd h3]
 rw[hdv.1,hdv.2]at hrd
 by_cases hf:(HF 0 N0 ((blk c 0).Pages++(blk c 1).Pages)).found=true
 .obtain ⟨k,ka,hk,kb,kc⟩:=hi.yes hf;rw[if_pos hf,ka];obtain⟨k1,k2⟩:=Uy hc (by omega) hk;rw[k2]at kb;have c1:=kc _ hbl (by rw[hrd,h4]);rw[hrd,h4]at c1;have hk2:k/P<2:=by rw[Nat.div_lt_iff_lt_mul hP];omega
  have c2:=h5 (k/P) (k%P) hk2 (Nat.mod_lt _ hP) (by rw[kb]);rw[kb]at c2;dsimp only at c1 c2;have c3:=UInt64.le_iff_toNat_le.1 c1.1;have c4:=c2.1;have c5:gen.toNat=(HF 0 N0 ((blk c 0).Pages++(blk c 1).Pages)).newest.Gen.toNat:=by omega
  have c6:gen=(HF 0 N0 ((blk c 0).Pages++(blk c 1).Pages)).newest.Gen:=XcN.1 c5;have c7:=c2.2 (by omega);have c8:k/P*P+k%P=k:=by rw[Nat.mul_comm];exact Nat.div_add_mod k P
  rw[c8]at c7;have c9:¬k<b*P+j:=λx=>(c1.2 x) c6
  have e:k=b*P+j:=by omega
  subst e;rw[hdv.1,hdv.2,h4]at kb;injection kb with kb;rw[<-kb]
 .exfalso
  have:=(hi.no (by simpa using hf)).2.2 _ hbl;rw[hrd,h4]at this;exact this rfl
theorem ZaS{P nB S:Nat}{c:Chip}{id:Nat}{k j:Nat}{g:UInt64}{b:List UInt8}{z:Int} (hz:z=id) (hc:CI P nB S c) (hg:Geo P nB S) (h2:2<=k) (h3:k<nB) (h4:j<P) (h5:(j:Int)<(blk c k).Used) (h6:D5 (pg c k j)=(⟨1,id,g,b⟩,0)) :
  FB c z (Fc P k j)=some true:=by
 subst hz;have hp:=ET (P:=P) (k:=k) (j:=j);have hl:=PV (P:=P) h3 h4;have hq:=Lt (k:=k) h4;have:nB*P<=11*8:=Xb5 hg.b11 hg.p8;have:=hg.p2;unfold FB;rw[Ax (by omega) (by omega),Zb,hc.pgs,G7 (by omega) (by omega),Zb,Zb,Lo (by omega) (by omega),Zb,hq.1,hq.2,
  J0 (hc.idxB rfl h3),Zb]
 have e1:((decide ((k:Int)<2))||(decide ((k:Int)>=(c.Blocks.length:Int))))=false:=by
  rw[hc.len];simp;omega
 rw[e1,Xas,Zu,XbL,Zg (by simp;omega),hc.idxB rfl h3,Zb,hc.idxP rfl h3 h4,Zb,Gq,Zb,h6];simp
theorem Xd{P nB S:Nat}{c:Chip}{at0:List Int}{bod:List (List UInt8)} (hc:CI P nB S c) (hg:Geo P nB S) (hl:at0.length<=1000) (h:GI P nB c at0 bod):F3 c at0=some true:=by
 unfold F3;refine Gg (Et.b (P:=λo=>∃m,o=.inl m) (Et.loop (σ:=Int×List Int) (λs=>∃i:Nat,s.1=i/\i<=at0.length/\∀x∈s.2,∃i',i' < i/\at0.getD i' 0=x/\x≠0) (λs=>at0.length-s.1.toNat) (λs hs=>?_)
  ⟨0,rfl,by omega,λx hx=>by cases hx⟩ (by show at0.length-0<_;omega)) λo ⟨m,hm⟩=>?_)
 .obtain ⟨z,m⟩:=s;obtain⟨i,rfl,hi,hm⟩:=hs;dsimp only at hm⊢;unfold Hj
  by_cases hlt:i<at0.length
  .rw [El hlt,Zu,Dp (d:=0) rfl hlt,Zb]
   by_cases h0:at0.getD i 0=0
   .rw [Zj (by simp only[h0];rfl),Zb,ZU,ZL (by omega),Zb];refine Et.l ⟨i+1,rfl,by omega,λx hx=>?_⟩ (by show at0.length-(i+1)<at0.length-(i:Int).toNat;omega);obtain⟨i',a,b⟩:=hm x hx;exact⟨i',by omega,b⟩
   .rw [Zg (by simp only[h0];rfl)];have hnm:at0.getD i 0∉m:=λhx=>by
     obtain⟨i',a,b,e⟩:=hm _ hx;have:=h.inj (by omega) hlt b (by rw[b];exact h0);omega
    rcases h.2 i hlt with g|⟨k,j,g,a1,a2,a3,a4,a5,a6,a7⟩
    .exact absurd g.1 h0
    have hnn:FB c i (at0.getD i 0)=some true:=by rw[a1];exact ZaS rfl hc hg a2 a3 a4 a5 a6
    rw[hnn,show decide (at0.getD i 0∈m)=false from by simpa using hnm,Xas,Av,Zb,XaC,XgM,Zq,Zb,Zb,ZU,ZL (by omega),Zb];refine Et.l ⟨i+1,rfl,by omega,λx hx=>?_⟩ (by show at0.length-(i+1)<at0.length-(i:Int).toNat;omega);unfold WE at hx;rw[if_neg hnm]at hx;rcases Xar.1 hx with hx|hx
    .obtain ⟨i',a,b⟩:=hm x hx;exact⟨i',by omega,b⟩
    .rw [Xal]at hx;exact⟨i,by omega,hx.symm,by rw[hx];exact h0⟩
  .rw [I9 (by omega),Zq];exact AN ⟨_,rfl⟩
 .rw [hm,ZU];exact Et.s rfl
theorem U7{P nB S:Nat}{c:Chip} (hc:CI P nB S c) (hg:Geo P nB S):FD c=some true:=by
 unfold FD;rw[Ji,Zb,hc.right];have:=hc.pgs;have:=hc.siz;have:=hc.len;have:=hg.p2;have:=hg.b5;have:=hg.s24;have a1:(4:Int)<=c.Blocks.length:=by omega
 have a2:2<=c.Pages:=by omega
 have a3:24<=c.Size:=by omega
 simp[a1,a2,a3]
theorem Ml{P:Nat}{c:Chip}{gen:UInt64}{at0:List Int}{last:Int} (hr:RI P c gen at0 last):at0.length<=128:=by
 obtain⟨b,j,h1,h2,h3,h4,h5⟩:=hr;unfold As at h4
 split at h4
 .injection h4 with h4 h6;simp_all
 split at h4
 .injection h4 with h4 h6;cases h6
 split at h4
 .injection h4 with h4 h6;cases h6
 injection h4 with h4;injection h4 with h4 h6;rw[<-h6];unfold PQ;rw[XdC,Xct];have:=RO (pg c b j);omega
theorem UU{P nB S:Nat}{c:Chip}{gen:UInt64}{at0:List Int}{last:Int}{bod:List (List UInt8)} (hc:CI P nB S c) (hg:Geo P nB S) (ho:c.Off=false) (hr:RI P c gen at0 last) (hp:GI P nB c at0 bod) :
  FC c=some (⟨c,at0,gen,last⟩,0):=by
 obtain⟨b,j,h1,h2,h3,h4,h5⟩:=Xi hc hg hr;have g1:=hg.b5;have g2:=hg.p2;have g3:=hg.p8;unfold FC;rw[U7 hc hg,Zb,XaC,Zq,ho,Zq,hc.idxB (z:=0) (k:=0) rfl (by omega),Zb,hc.idxB (z:=1) (k:=1) rfl (by omega),Zb,
  ZdU _ _ (by have:=(hc.blkR (k:=0) (by omega)).1;omega) (by have:=(hc.blkR (k:=1) (by omega)).1;omega),Zb,h5,Zb]
 dsimp only;have hP:0<P:=by omega
 have hq1:((b*P+j:Nat):Int)/(P:Int)=b:=by
  rw[<-Xgx,Xb1,Xdq _ _ hP,Xby h3,Xbg]
 have hq2:((b*P+j:Nat):Int)%(P:Int)=j:=by
  rw[<-Xc1,Xb1,XcQ,Xcd h3]
 rw[Zg (by simp),hc.pgs,G7 (by omega) (by omega),Zb,Lo (by omega) (by omega),Zb,hq1,hq2,hc.idxB rfl (by omega),Zb];have e1:decide ((j:Int)>=(blk c b).Used)=false:=by simp;omega
 rw[e1,Xas,Av,Xd hc hg (by have:=Ml hr;omega) hp,Zb,XaC,XgM,Zq,Zb,h1]
theorem Sc(a b:List Int)(ha:a.length<=1000000000000000):Ca a b=some (decide (a=b)):=by
 unfold Ca
 by_cases hl:a.length=b.length
 .rw [Zg (by simp[hl])];rcases GL (f:=λs=>Bm a b s) (λi=>(i:Int)) a.length (λi=>decide (a.getD i 0≠b.getD i 0)) (λ_=>.inr false) (y:=.inl ()) (by omega) (λi hi hp=>by
    have hx:a[i]=b[i]'(by omega):=by simpa[Xad,Xaf hi,Xaf (show i<b.length by omega)]using hp
    unfold Bm;rw[El hi,Zu,Zz hi,Zb,Zz (show i<b.length by omega),Zb,Zg (by simp[hx]),ZL (by omega),Zb]) (λi hi hp=>by
    have hx:a[i]≠b[i]'(by omega):=by simpa[Xad,Xaf hi,Xaf (show i<b.length by omega)]using hp
    unfold Bm;rw[El hi,Zu,Zz hi,Zb,Zz (show i<b.length by omega),Zb,Zj (by simpa using hx)]) (by
    unfold Bm;rw[Jv,Zq]) (s:=(0:Int)) rfl with⟨i,hi,hp,-,e⟩|⟨hall,e⟩
  .rw [e,Zb,A2];have:a≠b:=λh=>by subst h;simp at hp
   rw[decide_eq_false this]
  .rw [e,Zb,ZU];have:a=b:=by
    apply XbN hl;intro j h1 h2;have:=hall j h1;simpa[Xad,Xaf h1,Xaf h2]using this
   rw[decide_eq_true this]
 .rw [Zj (by simp;omega)];have:a≠b:=λh=>hl (by rw[h])
  rw[decide_eq_false this]
theorem Mg{l:List Int}(h:l.length<=1000000):A1 l=some l:=by
 unfold A1;rw[Aq (by omega) (by omega) (by omega),Zb]
theorem Zcr{P nB S:Nat}{c:Chip} (hc:CI P nB S c):F4 c=some c:=by
 have:=hc.nat;unfold F4;rw[Zf5 hc.right (by omega),Zb];have:(onV c c.Faults).1=⟨c.Pages,c.Size,c.Blocks,c.Ops,false,c.Faults⟩:=by unfold onV;rw[if_pos (by omega)]
 rw[this,Zb]
theorem U9{P nB S:Nat}{c:Chip}{at0:List Int}{gen:UInt64}{last:Int} (hc:CI P nB S c) (ha:at0.length<=1000):Dc ⟨c,at0,gen,last⟩=some ⟨c,at0,gen,last⟩:=by
 unfold Dc;rw[Zcr hc,Zb,Mg (by show at0.length<=_;omega),Zb,Zb]
theorem ZaU{P nB S:Nat}{c:Chip}{gen:UInt64}{at0:List Int}{last:Int}{bod:List (List UInt8)} (hg:Geo P nB S) (h:VI P nB S c at0 gen last bod):Hm c=some (⟨c,at0,gen,last⟩,0):=by
 unfold Hm;rw[UU h.ci hg h.off h.ri h.gi,Zb,Zg (by simp),U9 h.ci (by have:=Ml h.ri;omega),Zb]
theorem U4{c:Chip}(h:c.Off=false):(⟨c.Pages,c.Size,c.Blocks,c.Ops,false,c.Faults⟩:Chip)=c:=by rw[<-h]
theorem W6{P nB S:Nat}{c:Chip}{gen:UInt64}{at0:List Int}{last:Int}{bod:List (List UInt8)} (hg:Geo P nB S) (h:VI P nB S c at0 gen last bod):FE ⟨c,at0,gen,last⟩=some true:=by
 unfold FE;rw[Zb];dsimp only;rw[U4 h.off,UU h.ci hg h.off h.ri h.gi,Zb];dsimp only;rw[Sc _ _ (by have:=Ml h.ri;omega)];simp[Av,Zb]
theorem Zd0{P nB S:Nat}{c:Chip}{gen:UInt64}{at0:List Int}{last:Int}{bod:List (List UInt8)}{id:Nat}{z:Int} (hz:z=id) (hc:CI P nB S c) (hg:Geo P nB S) (h:GI P nB c at0 bod) (hi:id<at0.length) (h0:at0.getD id 0≠0) :
  GN ⟨c,at0,gen,last⟩ z=some (bod.getD id []):=by
 rcases h.2 id hi with g|⟨k,j,g,a1,a2,a3,a4,a5,a6,a7⟩
 .exact absurd g.1 h0
 have hp:=ET (P:=P) (k:=k) (j:=j);have hl:=PV (P:=P) a3 a4;have hq:=Lt (k:=k) a4;have:nB*P<=11*8:=Xb5 hg.b11 hg.p8;have:=hg.p2;unfold GN;rw[Dp (d:=0) hz hi,Zb,a1];dsimp only;rw[Ax (by omega) (by omega),Zb,hc.pgs,G7 (by omega) (by omega),Zb,Lo (by omega) (by omega),hq.1,hq.2,hc.idxB rfl a3,Zb,Zb,hc.idxP rfl a3 a4,Zb,Gq,Zb,a6];rw[Zg (by simp)]
def ZeO(S n:Nat)(l:List Fg):Prop:=(∀x∈l,0<=x.Id/\x.Id<n/\(x.Body.length:Int)<=S-16)/\(l.map (·.Id)).Nodup
theorem V3{P nB S:Nat}{c:Chip}{gen:UInt64}{at0:List Int}{last:Int}{l:List Fg} (hc:CI P nB S c) (hg:Geo P nB S) (hl:l.length<=1000000) (h:ZeO S at0.length l):DX ⟨c,at0,gen,last⟩ l=some true:=by
 unfold DX;refine Gg (Et.b (P:=λo=>∃m,o=.inl m) (Et.loop (σ:=Int×List Int) (λs=>∃i:Nat,s.1=i/\i<=l.length/\∀x∈s.2,∃i',∃hi:i' < l.length,i' < i/\l[i'].Id=x) (λs=>l.length-s.1.toNat) (λs hs=>?_)
  ⟨0,rfl,by omega,λx hx=>by cases hx⟩ (by show l.length-0<_;omega)) λo ⟨m,hm⟩=>?_)
 .obtain ⟨z,m⟩:=s;obtain⟨i,rfl,hi,hm⟩:=hs;dsimp only at hm⊢;unfold Gd
  by_cases hlt:i<l.length
  .obtain ⟨f1,f2,f3⟩:=h.1 _ (Xax hlt);rw[El hlt,Zu,Zz hlt,Zb];dsimp only;have e0:((decide (l[i].Id<(0:Int)))||(decide (l[i].Id>=(at0.length:Int))))=false:=by simp;omega
   rw[e0,Xas,Av,hc.siz,Dx,Zb];have hr:E5 (S:Int)=S-16:=by unfold E5;rw[if_pos ⟨by have:=hg.s24;omega,by have:=hg.s256;omega⟩]
   rw[hr,Zg (by simp;omega)];have hn:l[i].Id∉m:=λhx=>by
    obtain⟨i',hi',a,b⟩:=hm _ hx;have:=h.2;rw[List.nodup_iff_pairwise_ne,List.pairwise_iff_getElem]at this;exact this i' i (by simpa using hi') (by simpa using hlt) a (by simpa using b)
   rw[Zg (by simpa using hn),Zb,ZL (by omega),Zb];refine Et.l ⟨i+1,rfl,by omega,λx hx=>?_⟩ (by show l.length-(i+1)<l.length-(i:Int).toNat;omega);unfold WE at hx;rw[if_neg hn]at hx;rcases Xar.1 hx with hx|hx
   .obtain ⟨i',hi',a,b⟩:=hm x hx;exact⟨i',hi',by omega,b⟩
   .rw [Xal]at hx;exact⟨i,hlt,by omega,hx.symm⟩
  .rw [I9 (by omega),Zq];exact AN ⟨_,rfl⟩
 .rw [hm,ZU];exact Et.s rfl
theorem Nm{w:Zc}{P nB S:Nat} (hc:CI P nB S w.Vol.Chip) (hg:Geo P nB S) {b:Nat}{z:Int} (hz:z=b) (hb:b<2) :
  Et (Ak w z) (λv=>(∀j,j<P->(As (pg w.Vol.Chip b j)).2=0->(As (pg w.Vol.Chip b j)).1.Gen.toNat<=v.toNat)/\(v=0\/∃j,j<P/\(As (pg w.Vol.Chip b j)).2=0/\(As (pg w.Vol.Chip b j)).1.Gen=v)):=by
 have g1:=hg.b5;have hB:=hc.blkR (k:=b) (by omega);have hN:=hc.nat;unfold Ak;rw[hc.idxB hz (by omega),Zb];refine Et.b (P:=λv=>(∀j,j<P->(As (pg w.Vol.Chip b j)).2=0->(As (pg w.Vol.Chip b j)).1.Gen.toNat<=v.toNat)/\(v=0\/∃j,j<P/\(As (pg w.Vol.Chip b j)).2=0/\(As (pg w.Vol.Chip b j)).1.Gen=v))
  (Et.loop (σ:=UInt64×Int) (λs=>∃i:Nat,s.2=i/\i<=P/\(∀j,j<i->(As (pg w.Vol.Chip b j)).2=0->(As (pg w.Vol.Chip b j)).1.Gen.toNat<=s.1.toNat)/\(s.1=0\/∃j,j<P/\(As (pg w.Vol.Chip b j)).2=0/\(As (pg w.Vol.Chip b j)).1.Gen=s.1))
   (λs=>P-s.2.toNat) (λs hs=>?_) ⟨0,rfl,by omega,λj hj=>by omega,.inl rfl⟩ (by show P-0<_;omega)) λv hv=>Et.s hv
 obtain⟨g,z⟩:=s;obtain⟨i,rfl,hi,h1,h2⟩:=hs;dsimp only at h1 h2⊢;unfold CZ
 by_cases hlt:i<P
 .rw [Zj (by rw[hB.1];simpa using hlt),hc.idxP rfl (by omega) hlt,Zb,Ng,Zb]
  by_cases h0:(As (pg w.Vol.Chip b i)).2=0
  .rw [Zj (by simp[h0]),Zb,ZL (by omega),Zb];have hm:(max64 g (As (pg w.Vol.Chip b i)).1.Gen=g/\(As (pg w.Vol.Chip b i)).1.Gen.toNat<=g.toNat)\/(max64 g (As (pg w.Vol.Chip b i)).1.Gen=(As (pg w.Vol.Chip b i)).1.Gen/\g.toNat<=(As (pg w.Vol.Chip b i)).1.Gen.toNat):=by
    by_cases hh:g<(As (pg w.Vol.Chip b i)).1.Gen
    .have:=Xci.1 hh;exact .inr ⟨by unfold max64;rw[if_pos hh],by omega⟩
    .have h3:=hh;rw[Xci]at h3;exact .inl ⟨by unfold max64;rw[if_neg hh],by omega⟩
   refine Et.l ⟨i+1,rfl,by omega,λj hj hj0=>?_,?_⟩ (by show P-(i+1)<P-(i:Int).toNat;omega)
   .dsimp only
    by_cases e:j=i
    .subst e;rcases hm with⟨a,c⟩|⟨a,c⟩<;>rw[a]<;>omega
    .have:=h1 j (by omega) hj0;rcases hm with⟨a,c⟩|⟨a,c⟩<;>rw[a]<;>omega
   .dsimp only;rcases hm with⟨a,c⟩|⟨a,c⟩
    .rw [a];exact h2
    .rw [a];exact .inr ⟨i,hlt,h0,rfl⟩
  .rw [Zg (by simp[h0]),Zb,ZL (by omega),Zb];refine Et.l ⟨i+1,rfl,by omega,λj hj hj0=>?_,h2⟩ (by show P-(i+1)<P-(i:Int).toNat;omega)
   by_cases e:j=i
   .subst e;exact absurd hj0 h0
   .exact h1 j (by omega) hj0
 .rw [Zg (by rw[hB.1];simp;omega)];have:i=P:=by omega
  subst this;exact AN ⟨h1,h2⟩
theorem RI.same{P:Nat}{c c':Chip}{gen:UInt64}{at0:List Int}{last:Int} (h:RI P c gen at0 last) (e:∀b,b<2->∀j,j<P->pg c' b j=pg c b j):RI P c' gen at0 last:=by
 obtain⟨b,j,h1,h2,h3,h4,h5⟩:=h;refine⟨b,j,h1,h2,h3,by rw[e b h2 j h3];exact h4,λb' j' hb hj h0=>?_⟩;rw[e b' hb j' hj]at h0⊢;exact h5 b' j' hb hj h0
theorem RI.sub{P nB S:Nat}{c c':Chip}{gen:UInt64}{at0:List Int}{last:Int} (h:RI P c gen at0 last) (hg:Geo P nB S) (e:∀b j:Nat,b<2->j<P->(last=b->As (pg c b j)=(⟨gen,at0⟩,0)->pg c' b j=pg c b j)/\(pg c' b j=pg c b j\/pg c' b j=C7 S)) :
  RI P c' gen at0 last:=by
 obtain⟨b,j,h1,h2,h3,h4,h5⟩:=h;refine⟨b,j,h1,h2,h3,by rw[(e b j h2 h3).1 h1 h4];exact h4,λb' j' hb hj h0=>?_⟩;rcases (e b' j' hb hj).2 with a|a
 .rw [a]at h0⊢;exact h5 b' j' hb hj h0
 .rw [a,KK hg.s24 hg.s256]at h0;cases h0
theorem Ze0{P b j b' j':Nat}(hj:j<P)(hj':j' < P)(h:b' * P+j'<=b*P+j):b'<=b:=by
 rcases Xbd b b' with x|x
 .have:(b+1)*P<=b' * P:=Xah _ (by omega);rw[Xa6]at this;omega
 .exact x
theorem RI.new{P:Nat}{c c':Chip}{gen gen':UInt64}{at0 at':List Int}{last:Int} (h:RI P c gen at0 last) (hn:gen.toNat<gen'.toNat) {k u:Nat} (hk:k<2) (hu:u<P) (hr:As (pg c' k u)=(⟨gen',at'⟩,0))
  (e:∀b j,b<2->j<P->¬(b=k/\j=u)->pg c' b j=pg c b j):RI P c' gen' at' k:=by
 obtain⟨b,j,h1,h2,h3,h4,h5⟩:=h;refine⟨k,u,rfl,hk,hu,hr,λb' j' hb hj h0=>?_⟩
 by_cases hh:b'=k/\j'=u
 .obtain ⟨rfl,rfl⟩:=hh;rw[hr];exact⟨Xau _,λ_=>Xau _⟩
 .rw [e b' j' hb hj hh]at h0⊢;have:=(h5 b' j' hb hj h0).1;exact⟨by omega,λx=>by omega⟩
theorem ZbM{P:Nat}{c c':Chip}{gen':UInt64}{at':List Int}{last:Int} (h:RI P c gen' at' last) {k u:Nat} (hk:k<2) (hu:u<P) (hr:As (pg c' k u)=(⟨gen',at'⟩,0)) (h6:(As (pg c k u)).2≠0)
  (e:∀b j,b<2->j<P->¬(b=k/\j=u)->pg c' b j=pg c b j):∃l'',(l''=last\/l''=(k:Int))/\RI P c' gen' at' l'':=by
 obtain⟨b,j,h1,h2,h3,h4,h5⟩:=h;have hne:¬(b=k/\j=u):=λ⟨x,y⟩=>by subst x;subst y;rw[h4]at h6;exact h6 rfl
 by_cases hp:b*P+j<=k*P+u
 .refine ⟨k,.inr rfl,k,u,rfl,hk,hu,hr,λb' j' hb hj h0=>?_⟩
  by_cases hh:b'=k/\j'=u
  .obtain ⟨rfl,rfl⟩:=hh;rw[hr];exact⟨Xau _,λ_=>Xau _⟩
  .rw [e b' j' hb hj hh]at h0⊢;have:=h5 b' j' hb hj h0;exact⟨this.1,λx=>XaG (this.2 x) hp⟩
 .refine ⟨last,.inl rfl,b,j,h1,h2,h3,by rw[e b j h2 h3 hne];exact h4,λb' j' hb hj h0=>?_⟩
  by_cases hh:b'=k/\j'=u
  .obtain ⟨rfl,rfl⟩:=hh;rw[hr];exact⟨Xau _,λ_=>by omega⟩
  .rw [e b' j' hb hj hh]at h0⊢;exact h5 b' j' hb hj h0
theorem ZbL{P:Nat}{c:Chip}{gen':UInt64}{at':List Int}{l:Int} (h:RI P c gen' at' l) (hg0:gen'.toNat≠0) {k u:Nat} (hk:k<2) (hu:u<P) (hr:As (pg c k u)=(⟨gen',at'⟩,0)) {v:UInt64}
  (h1:∀j,j<P->(As (pg c 1 j)).2=0->(As (pg c 1 j)).1.Gen.toNat<=v.toNat) (h2:v=0\/∃j,j<P/\(As (pg c 1 j)).2=0/\(As (pg c 1 j)).1.Gen=v):(if v=gen' then(1:Int)else(k:Int))=l:=by
 obtain⟨b,j,a1,a2,a3,a4,a5⟩:=h
 by_cases hv:v=gen'
 .rw [if_pos hv];rcases h2 with e|⟨j',b1,b2,b3⟩
  .rw [hv]at e;rw[e]at hg0;exact absurd rfl hg0
  .have:=(a5 1 j' (by omega) b1 b2).2 (by rw[b3,hv]);have:=Ze0 a3 b1 this;omega
 .rw [if_neg hv];have hle:v.toNat<=gen'.toNat:=by
   rcases h2 with e|⟨j',b1,b2,b3⟩
   .rw [e];exact Xcq _
   .rw [<-b3];exact(a5 1 j' (by omega) b1 b2).1
  have hno:∀j',j' < P->As (pg c 1 j')≠(⟨gen',at'⟩,0):=λj' hj' e=>by
   have:=h1 j' hj' (by rw[e]);rw[e]at this;dsimp only at this;exact hv (XcN.1 (by omega))
  have hb:b=0:=by
   rcases Xbd b 1 with x|x
   .omega
   .have:b=1:=by omega
    subst this;exact absurd a4 (hno j a3)
  have hk0:k=0:=by
   rcases Xbd k 1 with x|x
   .omega
   .have:k=1:=by omega
    subst this;exact absurd hr (hno u hu)
  omega
theorem R2{P:Nat}{b:Zo}:0<R3 P b↔b.Bad=false/\b.Used<P:=by
 unfold R3;cases b.Bad<;>simp<;>omega
theorem Qy{w:Zc}{P nB S:Nat} (hc:CI P nB S w.Vol.Chip) (hg:Geo P nB S) (ho:w.Vol.Chip.Off=false) {L:Nat} (hL:w.Vol.Last=L) (hL2:L<2) (hops:w.Vol.Chip.Ops<De) :
  Et (Bh w) (λr=>(∃k:Nat,r=((k:Int),0,w)/\k<2/\(blk w.Vol.Chip k).Bad=false/\(blk w.Vol.Chip k).Used<P)\/
   (r=(0,9,w)/\(blk w.Vol.Chip (1-L)).Bad=true)\/(∃c' e,r=(((1-L:Nat):Int),e,wch w c')/\(blk w.Vol.Chip (1-L)).Bad=false/\YN P nB S w.Vol.Chip c' (1-L) e)):=by
 have g1:=hg.b5;have ho1:(1:Int)-w.Vol.Last=((1-L:Nat):Int):=by omega
 unfold Bh;rw[Ax (by omega) (by omega),Zb,ho1];have hf0:=MU (w:=w) hL hc (k:=L) (by omega);have hf1:=MU (w:=w) (z:=((1-L:Nat):Int)) rfl hc (k:=1-L) (by omega)
 by_cases f0:0<R3 P (blk w.Vol.Chip L)
 .have s0:ZI w ((1-L:Nat):Int) 0=some (.inr (.inr (w.Vol.Last,0,w))):=by
   unfold ZI;rw[Zj (by simp),show idx [w.Vol.Last,((1-L:Nat):Int)] (0:Int)=some w.Vol.Last from rfl,Zb,hf0,Zb,Zj (by simpa using f0)]
  rw[Ja (e:=.inr (w.Vol.Last,0,w)) 1 (by omega) (Fy s0),Zb,A2];exact Et.s (.inl ⟨L,by rw[hL],hL2,R2.1 f0⟩)
 .have s0:ZI w ((1-L:Nat):Int) 0=some (.inl 1):=by
   unfold ZI;rw[Zj (by simp),show idx [w.Vol.Last,((1-L:Nat):Int)] (0:Int)=some w.Vol.Last from rfl,Zb,hf0,Zb,Zg (by simpa using f0),Aa (by omega) (by omega),Zb];rfl
  by_cases f1:0<R3 P (blk w.Vol.Chip (1-L))
  .have s1:ZI w ((1-L:Nat):Int) 1=some (.inr (.inr (((1-L:Nat):Int),0,w))):=by
    unfold ZI;rw[Zj (by simp),show idx [w.Vol.Last,((1-L:Nat):Int)] (1:Int)=some ((1-L:Nat):Int)from rfl,Zb,hf1,Zb,Zj (by simpa using f1)]
   rw[Ja (e:=.inr (((1-L:Nat):Int),0,w)) 2 (by omega) (by rw[ED s0,Fy s1]),Zb,A2];exact Et.s (.inl ⟨1-L,rfl,by omega,R2.1 f1⟩)
  .have s1:ZI w ((1-L:Nat):Int) 1=some (.inl 2):=by
    unfold ZI;rw[Zj (by simp),show idx [w.Vol.Last,((1-L:Nat):Int)] (1:Int)=some ((1-L:Nat):Int)from rfl,Zb,hf1,Zb,Zg (by simpa using f1),Aa (by omega) (by omega),Zb];rfl
   have s2:ZI w ((1-L:Nat):Int) 2=some (.inr (.inl ())):=by
    unfold ZI;rw[Zg (by simp)]
   rw[Ja (e:=.inl ()) 3 (by omega) (by rw[ED s0,ED s1,Fy s2]),Zb,ZU,hc.idxB (z:=((1-L:Nat):Int)) rfl (by omega),Zb];cases hb:(blk w.Vol.Chip (1-L)).Bad
   .rw [Zq];refine Et.b (UZ (z:=((1-L:Nat):Int)) rfl hc ho (by omega) hb hops) λr ⟨c',e,h1,h2⟩=>?_
    subst h1;exact Et.s (.inr (.inr ⟨c',e,rfl,rfl,h2⟩))
   .rw [Zu];exact Et.s (.inr (.inl ⟨rfl,rfl⟩))
def Jc(c:Chip):Nat:=(if (blk c 0).Bad then 0 else 1)+(if (blk c 1).Bad then 0 else 1)
theorem QN(c:Chip):Jc c<=2:=by unfold Jc;split<;>split<;>omega
theorem V0{c c':Chip}{k:Nat} (hk:k<2) (h0:(blk c k).Bad=false) (h1:(blk c' k).Bad=true) (ho:∀i,i≠k->blk c' i=blk c i):Jc c' + 1=Jc c:=by
 unfold Jc;rcases (show k=0\/k=1 by omega)with rfl|rfl
 .rw [h0,h1,ho 1 (by omega)];simp;omega
 .rw [h0,h1,ho 0 (by omega)];simp
theorem VZ{c c':Chip}{k:Nat} (h0:(blk c k).Bad=false) (h1:(blk c' k).Bad=false) (ho:∀i,i≠k->blk c' i=blk c i):Jc c'=Jc c:=by
 have:∀i,(blk c' i).Bad=(blk c i).Bad:=λi=>by
  by_cases e:i=k
  .subst e;rw[h0,h1]
  .rw [ho i e]
 unfold Jc;rw[this,this]
theorem Oy{c c':Chip}{i j:Nat} (h:blk c' i=blk c i):pg c' i j=pg c i j:=by unfold pg;rw[h]
structure WS(P nB S:Nat)(c0:Chip)(gen:UInt64)(at0:List Int)(last:Int)(gen':UInt64)(at':List Int)(d:Int)(c2:Chip):Prop where
 ci:CI P nB S c2
 off:c2.Off=false
 flt:c2.Faults=c0.Faults
 oth:∀i,2<=i->blk c2 i=blk c0 i
 many:Aw c0<=Aw c2
 nf:c0.Faults=[]->Aw c0=0->Aw c2=0
 ops:c0.Ops<=c2.Ops/\c2.Ops+2*(Jc c2:Int)<=c0.Ops+d
 st:RI P c2 gen at0 last\/∃l:Nat,RI P c2 gen' at' l/\(blk c2 l).Bad=true/\c0.Ops+1<=c2.Ops
structure WrF(P nB S:Nat)(c c':Chip)(e:Int):Prop where
 ci:CI P nB S c'
 ops:c.Ops<=c'.Ops/\c'.Ops<=c.Ops+8
 off:c'.Off=decide (e=7)
 flt:c'.Faults=c.Faults
 oth:∀i,2<=i->blk c' i=blk c i
 many:Aw c<=Aw c'
 nf:c.Faults=[]->Aw c=0->e=0/\Aw c'=0
def Zfu(P nB S:Nat)(w:Zc)(at':List Int)(r:Int×Zc):Prop:=
 ∃c' e,WrF P nB S w.Vol.Chip c' e/\((e=0/\w.Vol.Chip.Ops+1<=c'.Ops/\∃last',r=(0,⟨⟨c',at',w.Vol.Gen+1,last'⟩,w.beyond⟩)/\RI P c' (w.Vol.Gen+1) at' last')\/
  ((e=7\/e=9)/\r=(e,wch w c')/\(RI P c' w.Vol.Gen w.Vol.At w.Vol.Last\/∃l',RI P c' (w.Vol.Gen+1) at' l'/\w.Vol.Chip.Ops+1<=c'.Ops)))
theorem Vq{w:Zc}{at':List Int}{P nB S:Nat}{b:List UInt8} (hg:Geo P nB S) (hb:b.length=S) (hb2:As b=(⟨w.Vol.Gen+1,at'⟩,0)) (hG:(w.Vol.Gen+1).toNat=w.Vol.Gen.toNat+1) (hops:w.Vol.Chip.Ops+8<=De)
  {c2:Chip} (h:WS P nB S w.Vol.Chip w.Vol.Gen w.Vol.At w.Vol.Last (w.Vol.Gen+1) at' 5 c2) {k:Nat}{z:Int} (hz:z=k) (hk:k<2) (hbad:(blk c2 k).Bad=false) (hu:(blk c2 k).Used<P) :
  Et (ZS (wch w c2) z b) (λr=>∃c3 e,r=(e,wch w c3)/\
   (∃h9:e=0\/e=7\/e=9,(e=9->WS P nB S w.Vol.Chip w.Vol.Gen w.Vol.At w.Vol.Last (w.Vol.Gen+1) at' 4 c3/\Jc c3<Jc c2)/\
    WrF P nB S w.Vol.Chip c3 e/\w.Vol.Chip.Ops+1<=c3.Ops/\(RI P c3 w.Vol.Gen w.Vol.At w.Vol.Last\/∃l',RI P c3 (w.Vol.Gen+1) at' l')/\(e=0->∃u l',u<P/\As (pg c3 k u)=(⟨w.Vol.Gen+1,at'⟩,0)/\RI P c3 (w.Vol.Gen+1) at' l'))):=by
 have g1:=hg.b5;have hk2:k<nB:=by omega
 have hB:=h.ci.blkR hk2;have hops':=h.ops;have hgr:=QN c2;unfold De at hops;refine(JP (w:=wch w c2) hz h.ci h.off hk2 hbad hu hb (by show c2.Ops<De;unfold De;omega)).m λr ⟨c3,e,hr,g⟩=>?_
 have gops:c3.Ops=c2.Ops+1:=g.ops;have goth:∀i,i≠k->blk c3 i=blk c2 i:=g.oth;have gused:(blk c3 k).Used=(blk c2 k).Used+1:=g.used;have gpgo:∀j:Nat,(j:Int)≠(blk c2 k).Used->pg c3 k j=pg c2 k j:=g.pgo;have gfl:c3.Faults=c2.Faults:=g.flt;have gnf:c2.Faults=[]->e=0:=g.nf;have gmany:Aw c3=Aw c2+if e=9 then 1 else 0:=g.many;obtain⟨q,hq1,hq2,hq3⟩:=g.pgn;have hq3:pg c3 k (blk c2 k).Used.toNat=q:=hq3
 -- the number of the page
 have hun:(blk c2 k).Used.toNat<P:=by omega
 have hoth:∀b j,b<2->j<P->¬(b=k/\j=(blk c2 k).Used.toNat)->pg c3 b j=pg c2 b j:=λb' j hb' hj hn=>by
  by_cases e:b'=k
  .subst e;exact gpgo j (by omega)
  .exact Oy (goth b' e)
 have hbl:pg c2 k (blk c2 k).Used.toNat=C7 S:=h.ci.blank k hk2 _ (by omega) hun;have hbr:(As (pg c2 k (blk c2 k).Used.toNat)).2≠0:=by rw[hbl,KK hg.s24 hg.s256];decide
 have hst:(q=b->∃l',RI P c3 (w.Vol.Gen+1) at' l'/\∃l:Nat,l'=l/\((blk c2 l).Bad=true\/l=k))/\(q=C7 S->RI P c3 w.Vol.Gen w.Vol.At w.Vol.Last\/∃l:Nat,RI P c3 (w.Vol.Gen+1) at' l/\(blk c2 l).Bad=true):=by
  refine⟨λhq=>?_,λhq=>?_⟩
  .have hrd:As (pg c3 k (blk c2 k).Used.toNat)=(⟨w.Vol.Gen+1,at'⟩,0):=by rw[hq3,hq,hb2]
   rcases h.st with h1|⟨l,h1,h2,_⟩
   .exact ⟨_,RI.new h1 (by omega) hk hun hrd hoth,k,rfl,.inr rfl⟩
   .obtain ⟨l'',a,b⟩:=ZbM h1 hk hun hrd hbr hoth;rcases a with rfl|rfl
    .exact ⟨_,b,l,rfl,.inl h2⟩
    .exact ⟨_,b,k,rfl,.inr rfl⟩
  .have hsub:∀(gn:UInt64) (al:List Int) (la:Int),RI P c2 gn al la->RI P c3 gn al la:=λgn al la hri=>by
    refine hri.sub hg λb' j hb' hj=>?_
    by_cases hn:b'=k/\j=(blk c2 k).Used.toNat
    .obtain ⟨rfl,rfl⟩:=hn;exact⟨λ_ x=>by rw[x]at hbr;exact absurd rfl hbr,.inr (by rw[hq3,hq])⟩
    .have:=hoth b' j hb' hj hn;exact⟨λ_ _=>this,.inl this⟩
   rcases h.st with h1|⟨l,h1,h2,_⟩
   .exact .inl (hsub _ _ _ h1)
   .exact .inr ⟨l,hsub _ _ _ h1,h2⟩
 have hWF:WrF P nB S w.Vol.Chip c3 e:=⟨g.ci,by omega,g.off,gfl.trans h.flt,λi hi=>(goth i (by omega)).trans (h.oth i hi),by rw[gmany];have:=h.many;omega,λa b=>by
  have e0:=gnf (h.flt.trans a);subst e0;exact⟨rfl,by rw[gmany,h.nf a b];rfl⟩⟩
 have hO1:w.Vol.Chip.Ops+1<=c3.Ops:=by omega
 refine⟨c3,e,hr,g.err,λe9=>?_,hWF,hO1,?_,λe0=>?_⟩
 .subst e9;have hlt:=V0 (c:=c2) (c':=c3) hk hbad (by rw[g.bad];rfl) goth;refine⟨⟨g.ci,by rw[g.off];rfl,gfl.trans h.flt,λi hi=>(goth i (by omega)).trans (h.oth i hi),hWF.many,λa b=>(hWF.nf a b).2,by omega,?_⟩,by omega⟩;have hkb:(blk c3 k).Bad=true:=by rw[g.bad];rfl
  have hkeep:∀l:Nat,(blk c2 l).Bad=true->(blk c3 l).Bad=true:=λl hl=>by
   by_cases e:l=k
   .subst e;exact hkb
   .rw [goth l e];exact hl
  rcases hq1 with hq|hq
  .obtain ⟨l',a,l,rfl,b⟩:=hst.1 hq;refine .inr ⟨l,a,?_,hO1⟩;rcases b with b|rfl
   .exact hkeep l b
   .exact hkb
  .rcases hst.2 hq with a|⟨l,a,b⟩
   .exact .inl a
   .exact .inr ⟨l,a,hkeep l b,hO1⟩
 .rcases hq1 with hq|hq
  .obtain ⟨l',a,_⟩:=hst.1 hq;exact .inr ⟨l',a⟩
  .rcases hst.2 hq with a|⟨l,a,b⟩
   .exact .inl a
   .exact .inr ⟨_,a⟩
 .obtain ⟨l',a,_⟩:=hst.1 (hq2 e0);exact⟨_,l',hun,by rw[hq3,hq2 e0,hb2],a⟩
theorem Rt{w:Zc}{at':List Int}{P nB S:Nat} (hc:CI P nB S w.Vol.Chip) (hg:Geo P nB S) (ho:w.Vol.Chip.Off=false) (hr:RI P w.Vol.Chip w.Vol.Gen w.Vol.At w.Vol.Last) (hm:Wq ⟨w.Vol.Gen+1,at'⟩ S) (hG:w.Vol.Gen.toNat<1000000000000000)
  (hops:w.Vol.Chip.Ops+8<=De):Et (Bx w at') (Zfu P nB S w at'):=by
 have g1:=hg.b5;have hG1:(w.Vol.Gen+1).toNat=w.Vol.Gen.toNat+1:=by rw[UInt64.toNat_add];show(w.Vol.Gen.toNat+1)%_=_;omega
 have hp:=Ov hm;have hlen:=(Kv (n:=S) hp rfl).1;have hrd:=LV (n:=S) hm;unfold Bx;rw[Zb,hc.siz,show(⟨w.Vol.Gen+Xap 1,at'⟩:AA)=⟨w.Vol.Gen+1,at'⟩from rfl,Ou,Zb];have hput:Wp ⟨w.Vol.Gen+1,at'⟩ (S:Int)=(BP (BR (Lp ⟨w.Vol.Gen+1,at'⟩) S),0):=by
  unfold Wp Y4;rw[if_pos hm,if_pos hp,Xak]
 rw[hput,Zg (by simp),show w.Vol.Gen+Xap 1=w.Vol.Gen+1 from rfl];obtain⟨L,jL,hL1,hL2,-⟩:=id hr;refine Et.loop (λs=>∃c2,s=wch w c2/\WS P nB S w.Vol.Chip w.Vol.Gen w.Vol.At w.Vol.Last (w.Vol.Gen+1) at' 4 c2) (λs=>Jc s.Vol.Chip) (λs hs=>?_)
  ⟨w.Vol.Chip,rfl,hc,ho,rfl,λ_ _=>rfl,Xau _,λ_ x=>x,by have:=QN w.Vol.Chip;omega,.inl hr⟩ (by have:=QN w.Vol.Chip;show Jc w.Vol.Chip<_;omega)
 obtain⟨c2,rfl,h⟩:=hs;unfold DE;have hops2:=h.ops;unfold De at hops
 -- what is done behind the choice of the block
 have key:∀c3:Chip,∀k:Nat,k<2->WS P nB S w.Vol.Chip w.Vol.Gen w.Vol.At w.Vol.Last (w.Vol.Gen+1) at' 5 c3->(blk c3 k).Bad=false->(blk c3 k).Used<P->Jc c3<=Jc c2->∀x:Int×Int×Zc,x=((k:Int),0,wch w c3)->
   Et (bif (decide (x.2.1≠(0:Int)))then(some (.inr (x.2.1,x.2.2)):Option (Zc⊕(Int×Zc)))else((ZS x.2.2 x.1 (BP (BR (Lp ⟨w.Vol.Gen+1,at'⟩) S),(0:Int)).1).bind λx_7=>bif (decide (x_7.1=(0:Int)))then(((Ak x_7.2 (1:Int)).bind λx_11=>bif (decide (x_11=w.Vol.Gen+1))then(some (1:Int))else(some x.1)).bind λblock_9=>(some ((⟨(⟨x_7.2.Vol.Chip,at',w.Vol.Gen+1,block_9⟩:Vol),x_7.2.beyond⟩:Zc):Zc)).bind λl_12=>some (.inr ((0:Int),l_12)))else(bif (decide (x_7.1≠(9:Int)))then(some (.inr (x_7.1,x_7.2)))else(some (.inl x_7.2)))))
    (λx=>(∃s',x=.inl s'/\(∃c2,s'=wch w c2/\WS P nB S w.Vol.Chip w.Vol.Gen w.Vol.At w.Vol.Last (w.Vol.Gen+1) at' 4 c2)/\Jc s'.Vol.Chip<Jc c2)\/∃e,x=.inr e/\Zfu P nB S w at' e):=by
  intro c3 k hk h3 hb hu hle x hx;subst hx;dsimp only;rw[Zg (by simp)];refine Et.b (Vq hg hlen hrd hG1 (by unfold De;omega) h3 rfl hk hb hu) λr ⟨c4,e,hr',he,h9,hW,hO1,hst,h0⟩=>?_
  subst hr';dsimp only
  by_cases e0:e=0
  .subst e0;rw[Zj (by simp)];obtain⟨u,l',hu',hrd',hri'⟩:=h0 rfl;refine Et.b (P:=λv=>v=l') (Et.b (Nm (w:=wch w c4) hW.ci hg (b:=1) (z:=1) rfl (by omega)) λv ⟨v1,v2⟩=>?_) λv hv=>?_
   .have hwh:=ZbL hri' (by omega) hk hu' hrd' v1 v2
    by_cases hvg:v=w.Vol.Gen+1
    .rw [Zj (by simpa using hvg)];rw[if_pos hvg]at hwh;exact Et.s hwh
    .rw [Zg (by simpa using hvg)];rw[if_neg hvg]at hwh;exact Et.s hwh
   .subst hv;rw[Zb];exact AN ⟨c4,0,hW,.inl ⟨rfl,hO1,_,rfl,hri'⟩⟩
  .rw [Zg (by simpa using e0)]
   by_cases e9:e=9
   .rw [Zg (by simpa using e9)];obtain⟨a,b⟩:=h9 e9;exact Et.l ⟨c4,rfl,a⟩ (by show Jc c4<Jc c2;omega)
   .rw [Zj (by simpa using e9)];exact AN ⟨c4,e,hW,.inr ⟨he.resolve_left e0,rfl,hst.imp id λ⟨l',a⟩=>⟨l',a,hO1⟩⟩⟩
 refine Et.b (Qy (w:=wch w c2) (L:=L) h.ci hg h.off hL1 hL2 (by show c2.Ops<De;unfold De;omega)) λx hx=>?_
 have weak:WS P nB S w.Vol.Chip w.Vol.Gen w.Vol.At w.Vol.Last (w.Vol.Gen+1) at' 5 c2:=⟨h.ci,h.off,h.flt,h.oth,h.many,h.nf,by omega,h.st⟩;rcases hx with⟨k,hx,hk,hb,hu⟩|⟨hx,hb⟩|⟨c3,e,hx,hb,g⟩
 .exact key c2 k hk weak hb hu (Xau _) x hx
 .subst hx;rw[Zj (by simp)];refine AN ⟨c2,9,⟨h.ci,by omega,by rw[h.off];rfl,h.flt,h.oth,h.many,λa b=>?_⟩,.inr ⟨.inr rfl,rfl,?_⟩⟩
  .have:=N4 h.ci (k:=1-L) (by omega) (h.nf a b);rw[show(blk c2 (1-L)).Bad=true from hb]at this;cases this
  .rcases h.st with a|⟨l,a,_,b⟩
   .exact .inl a
   .exact .inr ⟨_,a,b⟩
 .have hb:(blk c2 (1-L)).Bad=false:=hb;have gops:c3.Ops=c2.Ops+1:=g.ops;have goth:∀i,i≠1-L->blk c3 i=blk c2 i:=g.oth;have gfl:c3.Faults=c2.Faults:=g.flt;have gnf:c2.Faults=[]->e=0:=g.nf;have gmany:Aw c3=Aw c2+if e=9 then 1 else 0:=g.many;have gpg:(∀j,j<P->pg c3 (1-L) j=C7 S)\/(e≠0/\∀j,pg c3 (1-L) j=pg c2 (1-L) j):=g.pgs;have hsub:∀(gn:UInt64) (al:List Int) (la:Nat),la≠1-L->RI P c2 gn al la->RI P c3 gn al la:=λgn al la hla hri=>by
   refine hri.sub hg λb' j hb' hj=>?_
   by_cases hn:b'=1-L
   .subst hn;refine⟨λx=>by omega,?_⟩;rcases gpg with a|⟨_,a⟩
    .exact .inr (a j hj)
    .exact .inl (a j)
   .have:=Oy (j:=j) (goth b' hn);exact⟨λ_ _=>this,.inl this⟩
  have hst:RI P c3 w.Vol.Gen w.Vol.At w.Vol.Last\/∃l:Nat,RI P c3 (w.Vol.Gen+1) at' l/\(blk c3 l).Bad=true/\w.Vol.Chip.Ops+1<=c3.Ops:=by
   rcases h.st with a|⟨l,a,b,bo⟩
   .left
    rw[hL1]at a⊢;exact hsub _ _ L (by omega) a
   .have hne:l≠1-L:=λx=>by subst x;rw[hb]at b;cases b
    exact .inr ⟨l,hsub _ _ l hne a,by rw[goth l hne];exact b,by omega⟩
  by_cases e0:e=0
  .subst e0;have gu:(blk c3 (1-L)).Used=if (0:Int)=0 then 0 else(P:Int):=g.used;have gb:(blk c3 (1-L)).Bad=decide ((0:Int)=9):=g.bad;have hsm:=VZ (c:=c2) (c':=c3) hb (by rw[gb];rfl) goth;have:=hg.p2;refine key c3 (1-L) (by omega) ⟨g.ci,by rw[g.off];rfl,gfl.trans h.flt,λi hi=>(goth i (by omega)).trans (h.oth i hi),by rw[gmany];exact h.many,λa b=>by rw[gmany,h.nf a b];rfl,by omega,hst⟩ (by rw[gb];rfl) (by rw[gu,if_pos rfl];omega) (by omega) x hx
  .subst hx;dsimp only;rw[Zj (by simpa using e0)];refine AN ⟨c3,e,⟨g.ci,by omega,g.off,gfl.trans h.flt,λi hi=>(goth i (by omega)).trans (h.oth i hi),by rw[gmany];have:=h.many;omega,λa b=>absurd (gnf (h.flt.trans a)) e0⟩,.inr ⟨?_,rfl,?_⟩⟩
   .have:=g.err;omega
   .rcases hst with a|⟨l,a,_,b⟩
    .exact .inl a
    .exact .inr ⟨_,a,b⟩
def WOk(p:Int)(w:Wear):Prop:=0<=w.Live/\w.Live<=w.Used/\w.Used<=p/\0<=w.Worn/\w.Worn<=1099511627776
instance {p:Int}{w:Wear}:Decidable (WOk p w):=by unfold WOk;exact inferInstance
def Ds(l:List Wear)(p:Int):Prop:=(1<=l.length/\l.length<=32/\1<=p/\p<=16)/\∀w∈l,WOk p w
instance {l:List Wear}{p:Int}:Decidable (Ds l p):=by unfold Ds;exact inferInstance
theorem LI(l:List Wear)(p:Int):GE l p=some (decide (Ds l p)):=by
 unfold GE
 by_cases h:1<=l.length/\l.length<=32/\1<=p/\p<=16
 .have hc:((((decide ((l.length:Int)<(1:Int)))||(decide ((l.length:Int)>(32:Int))))||(decide (p<(1:Int))))||(decide (p>(16:Int))))=false:=by
   simp;omega
  rw[hc,Zq];obtain⟨e,he,hR⟩:=JX (f:=λs=>Gl l p s) (I:=λs=>∃i:Nat,s=i/\i<=l.length/\∀k,(hk:k<l.length)->k<i->WOk p l[k]) (μ:=λs=>(l.length-s).toNat)
   (R:=λe=>(e=.inl ()/\∀w∈l,WOk p w)\/(e=.inr false/\¬∀w∈l,WOk p w)) (by
    rintro s ⟨i,rfl,hi,hk⟩;unfold Gl
    by_cases hil:i<l.length
    .rw [Zz hil]
     by_cases hw:WOk p l[i]
     .left
      refine⟨_,?_,⟨i+1,rfl,by omega,λk hk1 hk2=>?_⟩,by omega⟩
      .have:(((((decide (l[i].Live<(0:Int)))||(decide (l[i].Live>l[i].Used)))||(decide (l[i].Used>p)))||(decide (l[i].Worn<(0:Int))))||(decide (l[i].Worn>(1099511627776:Int))))=false:=by
        unfold WOk at hw;simp;omega
       simp only[Zb,this,Zq,Gz (show i<9223372036854775807 by omega)];simp[hil]
      .by_cases e:k=i
       .subst e;exact hw
       .exact hk k hk1 (by omega)
     .right
      refine⟨.inr false,?_,.inr ⟨rfl,λh=>hw (h _ (Xax hil))⟩⟩;have:(((((decide (l[i].Live<(0:Int)))||(decide (l[i].Live>l[i].Used)))||(decide (l[i].Used>p)))||(decide (l[i].Worn<(0:Int))))||(decide (l[i].Worn>(1099511627776:Int))))=true:=by
       unfold WOk at hw;simp;omega
      simp only[Zb,this,Zu];simp[hil]
    .right
     refine⟨.inl (),by simp[hil],.inl ⟨rfl,λw hw=>?_⟩⟩;obtain⟨k,hk1,rfl⟩:=XaQ hw;exact hk k hk1 (by omega)) (s:=(0:Int)) ⟨0,rfl,by omega,λk _ hk=>by omega⟩ (by omega)
  rw[he];rcases hR with⟨rfl,hR⟩|⟨rfl,hR⟩
  .have:Ds l p:=⟨h,hR⟩;simp[ZU,A2,this]
  .have:¬Ds l p:=λx=>hR x.2
   simp[ZU,A2,this]
 .have hc:((((decide ((l.length:Int)<(1:Int)))||(decide ((l.length:Int)>(32:Int))))||(decide (p<(1:Int))))||(decide (p>(16:Int))))=true:=by
   simp;omega
  rw[hc,Zu];have:¬Ds l p:=λx=>h x.1
  simp[this]
def YF(l:List Wear)(R:Wear->Bool)(lt:Wear->Wear->Bool)(i:Nat):Prop:=
 ∃h:i<l.length,R l[i]=true/\∀k,(hk:k<l.length)->R l[k]=true->lt l[k] l[i]=false/\(k<i->lt l[i] l[k]=true)
structure Swo(lt:Wear->Wear->Bool):Prop where
 irr:∀a,lt a a=false
 trans:∀a b c,lt a b=true->lt b c=true->lt a c=true
 neg:∀a b c,lt c b=true->lt a b=false->lt c a=true
def Jr(l:List Wear)(p:Int)(R:Wear->Bool)(lt:Wear->Wear->Bool)(r:Int×Bool):Prop:=
 (Ds l p/\∃i:Nat,r=((i:Int),true)/\YF l R lt i)\/(r=((0:Int),false)/\(Ds l p->∀k,(hk:k<l.length)->R l[k]=false))
def YH (l : List Wear) (R : Wear → Bool) (lt : Wear → Wear → Bool) (s : Int × Bool × Int) : Prop :=
  ∃ i : Nat, s.2.2 = i ∧ i ≤ l.length ∧ ((s.1 = 0 ∧ s.2.1 = false ∧ ∀ k, (hk : k < l.length) → k < i → R l[k] = false) ∨
        (s.2.1 = true ∧ ∃ j : Nat, s.1 = j ∧ ∃ hj : j < l.length, j < i ∧ R l[j] = true ∧ ∀ k, (hk : k < l.length) → k < i → R l[k] = true → lt l[k] l[j] = false ∧ (k < j → lt l[j] l[k] = true)))
theorem Og(l:List Wear)(p:Int)(rule:F1 Tryz.prog Zn Bool)(orders:List (F2 Tryz.prog Zn Zn Int))(R:Wear->Bool)(lt:Wear->Wear->Bool)
  (hR:∀w,rule.f ⟨w,p⟩=some (R w)) (hO:∀a b,Fi ⟨a,p⟩ ⟨b,p⟩ orders=some (lt a b)) (hs:Swo lt) (hw:Ds l p) (s:Int×Bool×Int) (hI:YH l R lt s) :
  (∃s',DU l p rule orders s.1 s.2.1 s.2.2=some (.inl s')/\YH l R lt s'/\(l.length-s'.2.2).toNat<(l.length-s.2.2).toNat)\/
   ∃e,DU l p rule orders s.1 s.2.1 s.2.2=some (.inr e)/\Jr l p R lt e:=by
 have hw':=hw;obtain⟨⟨h1,h2,h3,h4⟩,-⟩:=hw';obtain⟨at_,fnd,x⟩:=s;obtain⟨i,hi,hil,hI⟩:=hI;obtain rfl:x=i:=hi;simp only at hI;unfold DU
 by_cases hx:i<l.length
 .have hd:decide ((i:Int)<(l.length:Int))=true:=by simpa using hx
  rw[hd,Zu,Zz hx];simp only[Zb,hR]
  left
  cases hRi:R l[i]with
  | false=>
   simp only[Xas,Zu,Zb,CB,Gz (show i<9223372036854775807 by omega)];refine⟨_,rfl,⟨i+1,rfl,by omega,?_⟩,by simp only;omega⟩;rcases hI with⟨rfl,rfl,hI⟩|⟨rfl,j,rfl,hj,hji,hRj,hI⟩
   .refine .inl ⟨rfl,rfl,λk hk hk'=>?_⟩
    by_cases e:k=i
    .subst e;exact hRi
    .exact hI k hk (by omega)
   .refine .inr ⟨rfl,j,rfl,hj,by omega,hRj,λk hk hk' hRk=>?_⟩
    by_cases e:k=i
    .subst e;rw[hRi]at hRk;cases hRk
    .exact hI k hk (by omega) hRk
  | true=>
   rcases hI with⟨rfl,rfl,hI⟩|⟨rfl,j,rfl,hj,hji,hRj,hI⟩
   .simp only[XaC,Xas,Zq,BN,Zb,CB,XcX,Zu,Gz (show i<9223372036854775807 by omega)];refine⟨_,rfl,⟨i+1,rfl,by omega,.inr ⟨rfl,i,rfl,hx,by omega,hRi,λk hk hk' hRk=>?_⟩⟩,by simp only;omega⟩
    by_cases e:k=i
    .subst e;exact⟨hs.irr _,λh=>by omega⟩
    .rw [hI k hk (by omega)]at hRk;cases hRk
   .simp only[XaC,Xas,Zq,Av,Zz hj,hO,Zb,CB,XbL,Zu,Gz (show i<9223372036854775807 by omega)];cases hlt:lt l[i] l[j]with
    | true=>
     simp only[Zu,Zb,Gz (show i<9223372036854775807 by omega)];refine⟨_,rfl,⟨i+1,rfl,by omega,.inr ⟨rfl,i,rfl,hx,by omega,hRi,λk hk hk' hRk=>?_⟩⟩,by simp only;omega⟩
     by_cases e:k=i
     .subst e;exact⟨hs.irr _,λh=>by omega⟩
     .have a:=(hI k hk (by omega) hRk).1;have b:=hs.neg _ _ _ hlt a;refine⟨?_,λ_=>b⟩;cases h:lt l[k] l[i]with
      | false=>rfl
      | true=>
       rw[hs.trans _ _ _ h hlt]at a;cases a
    | false=>
     simp only[Zq,Zb,Gz (show i<9223372036854775807 by omega)];refine⟨_,rfl,⟨i+1,rfl,by omega,.inr ⟨rfl,j,rfl,hj,by omega,hRj,λk hk hk' hRk=>?_⟩⟩,by simp only;omega⟩
     by_cases e:k=i
     .subst e;exact⟨hlt,λh=>by omega⟩
     .exact hI k hk (by omega) hRk
 .have hd:decide ((i:Int)<(l.length:Int))=false:=by simp;omega
  rw[hd,Zq]
  right
  refine⟨_,rfl,?_⟩;rcases hI with⟨rfl,rfl,hI⟩|⟨rfl,j,rfl,hj,hji,hRj,hI⟩
  .exact .inr ⟨rfl,λ_ k hk=>hI k hk (by omega)⟩
  .exact .inl ⟨hw,j,rfl,hj,hRj,λk hk hRk=>hI k hk (by omega) hRk⟩
theorem IU(l:List Wear)(p:Int)(rule:F1 Tryz.prog Zn Bool)(orders:List (F2 Tryz.prog Zn Zn Int))(R:Wear->Bool)(lt:Wear->Wear->Bool)
  (hR:∀w,rule.f ⟨w,p⟩=some (R w)) (hO:∀a b,Fi ⟨a,p⟩ ⟨b,p⟩ orders=some (lt a b)) (hs:Swo lt) :
  ∃r,Fh l p rule orders=some r/\Jr l p R lt r:=by
 unfold Fh;rw[LI]
 by_cases hw:Ds l p
 .simp only[Zb,hw,decide_true,XaC,Zq];have hl:=hw.1.2.1;obtain⟨e,he,hQ⟩:=JX (f:=λs=>DU l p rule orders s.1 s.2.1 s.2.2) (I:=YH l R lt) (μ:=λs=>(l.length-s.2.2).toNat) (R:=λe=>Jr l p R lt e)
   (λs hs'=>Og l p rule orders R lt hR hO hs hw s hs') (s:=((0:Int),false,(0:Int))) ⟨0,rfl,by omega,.inl ⟨rfl,rfl,λk _ hk=>by omega⟩⟩ (by simp only;omega)
  rw[he,Zb,XR];exact⟨_,rfl,hQ⟩
 .simp only[Zb,hw,decide_false,Xas,Zu];exact⟨_,rfl,.inr ⟨rfl,λh=>absurd h hw⟩⟩
def WF:List Int->Bool
 | []=>false
 | n::r=>bif decide (n≠0)then decide (n<0)else WF r
theorem Q4(a b:Zn)(os:List (F2 Tryz.prog Zn Zn Int))(ns:List Int)(hl:os.length=ns.length)(h32:ns.length<=32)(h:∀k,(hk:k<ns.length)->(os[k]'(by omega)).f a b=some ns[k]) :
  Fi a b os=some (WF ns):=by
 unfold Fi;obtain⟨e,he,hR⟩:=JX (f:=λs=>Gk a b os s) (I:=λs=>∃i:Nat,s=i/\i<=ns.length/\WF ns=WF (ns.drop i)) (μ:=λs=>(ns.length-s).toNat)
  (R:=λe=>(e=.inl ()/\WF ns=false)\/e=.inr (WF ns)) (by
   rintro s ⟨i,rfl,hi,hL⟩;unfold Gk
   by_cases hx:i<ns.length
   .have hd:decide ((i:Int)<(os.length:Int))=true:=by simp;omega
    have hdr:ns.drop i=ns[i]::ns.drop (i+1):=Xa0 hx;rw[hd,Zu,Zz (by omega),Zb,h i hx,Zb,Gz (by omega),Zb];rw[hdr]at hL
    by_cases hn:ns[i]=0
    .left
     refine⟨_,by rw[show decide (ns[i]≠0)=false by simpa using hn,Zq],⟨i+1,rfl,by omega,?_⟩,by omega⟩;rw[hL];simp[WF,hn]
    .right
     refine⟨_,by rw[show decide (ns[i]≠0)=true by simpa using hn,Zu],.inr ?_⟩;rw[hL];simp[WF,hn]
   .have hd:decide ((i:Int)<(os.length:Int))=false:=by simp;omega
    rw[hd,Zq]
    right
    refine⟨_,rfl,.inl ⟨rfl,?_⟩⟩;rw[hL,Xa7 (by omega)];rfl) (s:=(0:Int)) ⟨0,rfl,by omega,rfl⟩ (by omega)
 rw[he,Zb];rcases hR with⟨rfl,hR⟩|rfl
 .rw [ZU,hR]
 .rw [A2]
theorem Sg(x y:Int):B6 x y=some (bif decide (x<y)then -1 else bif decide (x>y)then 1 else 0):=by
 unfold B6 EZ
 by_cases h1:x<y
 .simp [h1]
 .by_cases h2:y<x<;>simp[h1,h2]
def Nj(a b:Wear):Bool:=decide (a.Worn<b.Worn)
def OJ(a b:Wear):Bool:=decide (a.Used>b.Used\/a.Used=b.Used/\a.Worn<b.Worn)
def Tj(a b:Wear):Bool:=bif a.Bad then(bif b.Bad then decide (a.Live<b.Live\/a.Live=b.Live/\a.Worn<b.Worn)else true)else(bif b.Bad then false else decide (a.Live<b.Live\/a.Live=b.Live/\a.Worn<b.Worn))
theorem Zan:Swo Nj:=⟨λa=>by simp[Nj],λa b c=>by simp[Nj];omega,λa b c=>by simp[Nj];omega⟩
theorem Zao:Swo OJ:=⟨λa=>by simp[OJ],λa b c=>by simp[OJ];omega,λa b c=>by simp[OJ];omega⟩
theorem Zdf:Swo Tj:=⟨λa=>by cases h:a.Bad<;>simp[Tj,h],λa b c=>by
 cases h1:a.Bad<;>cases h2:b.Bad<;>cases h3:c.Bad<;>simp[Tj,h1,h2,h3]<;>omega,λa b c=>by
 cases h1:a.Bad<;>cases h2:b.Bad<;>cases h3:c.Bad<;>simp[Tj,h1,h2,h3]<;>omega⟩
def QC(p:Int)(w:Wear):Bool:=!w.Bad&&decide (w.Used<p)
def RP(w:Wear):Bool:=!w.Bad&&decide (w.Live=0)&&decide (w.Used>0)
def ZeX(p:Int)(w:Wear):Bool:=bif w.Bad then decide (w.Live>0)else decide (w.Used=p)&&decide (w.Live>0)&&decide (w.Live<p)
theorem HI(l:List Wear)(p:Int):∃r,EI l p=some r/\Jr l p RP Nj r:=by
 obtain⟨r,h1,h2⟩:=IU l p ⟨BX⟩ [⟨ZR⟩] RP Nj (λw=>rfl) (λa b=>by
  rw[Q4 _ _ _ [bif decide (a.Worn<b.Worn)then -1 else bif decide (a.Worn>b.Worn)then 1 else 0] rfl (by simp) (λk hk=>by
   obtain rfl:k=0:=by simpa using hk
   show ZR _ _=_;unfold ZR;rw[Sg];rfl)]
  by_cases h1:a.Worn<b.Worn
  .simp [WF,Nj,h1]
  .by_cases h2:b.Worn<a.Worn<;>simp[WF,Nj,h1,h2]) Zan
 refine⟨r,?_,h2⟩;unfold EI;rw[h1,Zb]
theorem Gm(l:List Wear)(p:Int):∃r,Eu l p=some r/\Jr l p (QC p) OJ r:=by
 obtain⟨r,h1,h2⟩:=IU l p ⟨BW⟩ [⟨Bl⟩,⟨ZR⟩] (QC p) OJ (λw=>rfl) (λa b=>by
  rw[Q4 _ _ _ [bif decide (b.Used<a.Used)then -1 else bif decide (b.Used>a.Used)then 1 else 0,bif decide (a.Worn<b.Worn)then -1 else bif decide (a.Worn>b.Worn)then 1 else 0] rfl (by simp) (λk hk=>by
   have hk:k<2:=by simpa using hk
   rcases (show k=0\/k=1 by omega)with rfl|rfl
   .show Bl _ _=_;unfold Bl;rw[Sg];rfl
   .show ZR _ _=_;unfold ZR;rw[Sg];rfl)]
  by_cases h1:a.Worn<b.Worn<;>by_cases h2:b.Worn<a.Worn<;>by_cases h3:b.Used<a.Used<;>by_cases h4:a.Used<b.Used<;>simp[WF,OJ,h1,h2,h3,h4]<;>omega) Zao
 refine⟨r,?_,h2⟩;unfold Eu;rw[h1,Zb]
theorem Ph(l:List Wear)(p:Int):∃r,GX l p=some r/\Jr l p (ZeX p) Tj r:=by
 obtain⟨r,h1,h2⟩:=IU l p ⟨BC⟩ [⟨BB⟩,⟨A5⟩,⟨ZR⟩] (ZeX p) Tj (λw=>by
   show BC _=_;cases h:w.Bad<;>simp[BC,ZeX,h]) (λa b=>by
  rw[Q4 _ _ _ [bif decide (a.Bad=b.Bad)then 0 else bif a.Bad then -1 else 1,bif decide (a.Live<b.Live)then -1 else bif decide (a.Live>b.Live)then 1 else 0,bif decide (a.Worn<b.Worn)then -1 else bif decide (a.Worn>b.Worn)then 1 else 0] rfl (by simp) (λk hk=>by
   have hk:k<3:=by simpa using hk
   rcases (show k=0\/k=1\/k=2 by omega)with rfl|rfl|rfl
   .show BB _ _=_;cases h:a.Bad<;>cases h':b.Bad<;>simp[BB,h,h']
   .show A5 _ _=_;unfold A5;rw[Sg];rfl
   .show ZR _ _=_;unfold ZR;rw[Sg];rfl)]
  cases h:a.Bad<;>cases h':b.Bad<;>by_cases h1:a.Worn<b.Worn<;>by_cases h2:b.Worn<a.Worn<;>by_cases h3:b.Live<a.Live<;>by_cases h4:a.Live<b.Live<;>simp[WF,Tj,h,h',h1,h2,h3,h4]<;>omega) Zdf
 refine⟨r,?_,h2⟩;unfold GX;rw[h1,Zb]
def Ce(g:Nat->Int):Nat->Int
 | 0=>0
 | n+1=>Ce g n+g n
theorem NN{g:Nat->Int}{c:Int}:∀{n:Nat},(∀k,k<n->0<=g k/\g k<=c)->0<=Ce g n/\Ce g n<=c*n
 | 0,_=>by simp[Ce]
 | n+1,h=>by
  have:=NN (n:=n) λk hk=>h k (by omega)
  have h2:=h n (by omega);simp only[Ce];rw[show((n+1:Nat):Int)=(n:Int)+1 from rfl,Int.mul_add];omega
def Y9(p:Int)(w:Wear):Int:=bif w.Bad then 0 else bif decide (w.Live=0)then p else p-w.Used
def Qz(l:List Wear)(p:Int)(k:Nat):Int:=if h:k<l.length then Y9 p l[k]else 0
def ZfE(l:List Wear)(p:Int):Int:=if Ds l p then Ce (Qz l p) l.length else 0
theorem ZaA{l:List Wear}{p:Int} (h:Ds l p) (k:Nat):0<=Qz l p k/\Qz l p k<=p:=by
 unfold Qz
 split
 .have:=h.2 _ (Xax (by assumption:k<l.length));have hp:=h.1;unfold WOk at this;unfold Y9;cases l[k].Bad
  .by_cases h:l[k].Live=0<;>simp[h]<;>omega
  .simp;omega
 .have:=h.1;omega
theorem Rw(l:List Wear)(p:Int):Ir l p=some (ZfE l p):=by
 unfold Ir ZfE;rw[LI,Zb]
 by_cases hw:Ds l p
 .rw [show(!decide (Ds l p))=false by simp[hw],Zq,if_pos hw];have hn:=hw.1;obtain⟨e,he,hQ⟩:=JX (f:=λs=>HH l p s.1 s.2) (I:=λs=>∃i:Nat,s.2=i/\i<=l.length/\s.1=Ce (Qz l p) i) (μ:=λs=>(l.length-s.2).toNat)
   (R:=λe=>e=Ce (Qz l p) l.length) (by
    rintro⟨r,x⟩ ⟨i,hi,hil,hI⟩;obtain rfl:x=i:=hi;obtain rfl:r=_:=hI;unfold HH;have hs:=NN (n:=i) λk _=>ZaA hw k
    have hp:=Int.mul_le_mul_of_nonneg_right hn.2.2.2 (show(0:Int)<=(i:Int)by omega)
    by_cases hx:i<l.length
    .have hd:decide ((i:Int)<(l.length:Int))=true:=by simpa using hx
     have ok:=hw.2 _ (Xax hx);unfold WOk at ok;have hg:Qz l p i=Y9 p l[i]:=by unfold Qz;rw[dif_pos hx]
     rw[hd,Zu,Zz hx,Zb,Zb]
     left
     refine⟨(Ce (Qz l p) (i+1),((i+1:Nat):Int)),?_,⟨i+1,rfl,by omega,rfl⟩,by simp only;omega⟩;have hx1:=Gz (show i<9223372036854775807 by omega);simp only[Ce,hg];unfold BX BW Y9;simp only[Zb];cases hb:l[i].Bad with
     | true=>simp only[XaC,Xb4,Zq,Zb,hx1,Zu];simp
     | false=>
      by_cases h0:l[i].Live=0
      .by_cases hu:l[i].Used>0
       .simp only[h0,hu,decide_true,Xas,XbU,Zu,Zq];rw[Aa (by omega) (by omega),Zb,Zb,hx1,Zb]
       .have hu0:l[i].Used=0:=by omega
        have hp1:(0:Int)<p:=by omega
        simp only[h0,hu0,hp1,decide_true,decide_false,Xas,XbU,XdV,Zu,Zq,show ¬((0:Int)>0)by omega];rw[Ax (by omega) (by omega),Zb,Aa (by omega) (by omega),Zb,Zb,hx1,Zb,Int.sub_zero]
      .by_cases hu:l[i].Used<p
       .simp only[h0,hu,decide_true,decide_false,Xas,XbU,XdV,Xb4,Zu,Zq];rw[Ax (by omega) (by omega),Zb,Aa (by omega) (by omega),Zb,Zb,hx1,Zb]
       .simp only[h0,hu,decide_true,decide_false,Xas,XbU,XdV,Xb4,Zu,Zq];rw[Zb,hx1,Zb,show p-l[i].Used=0 by omega,Int.add_zero]
    .have hd:decide ((i:Int)<(l.length:Int))=false:=by simp;omega
     rw[hd,Zq]
     right
     refine⟨_,rfl,?_⟩;rw[show i=l.length by omega]) (s:=((0:Int),(0:Int))) ⟨0,rfl,by omega,rfl⟩ (by simp only;omega)
  rw[he,Zb,hQ]
 .rw [show(!decide (Ds l p))=true by simp[hw],Zu,if_neg hw]
theorem Oj{g g':Nat->Int}{k:Nat}:∀{n:Nat},(∀j,j<n->j≠k->g' j=g j)->k<n->Ce g' n=Ce g n-g k+g' k
 | n+1,h,hk=>by
  simp only[Ce]
  by_cases e:k=n
  .subst e;have:∀{m:Nat},m<=k->Ce g' m=Ce g m:=by
    intro m
    induction m with
    | zero=>intro _;rfl
    | succ m ih=>intro hm;simp only[Ce];rw[ih (by omega),h m (by omega) (by omega)]
   rw[this (Xau _)];omega
  .rw [Oj (n:=n) (λj hj hjk=>h j (by omega) hjk) (by omega),h n (by omega) (λx=>e x.symm)];omega
theorem Sb{l:List Wear}{p:Int}{R:Wear->Bool}{lt:Wear->Wear->Bool}{r:Int×Bool} (h:Jr l p R lt r):(∃i:Nat,r=((i:Int),true)/\YF l R lt i/\i<l.length)\/(r=((0:Int),false)/\(Ds l p->∀k,(hk:k<l.length)->R l[k]=false)):=by
 rcases h with⟨w,i,rfl,hi⟩|⟨rfl,h⟩
 .exact .inl ⟨i,rfl,hi,hi.1⟩
 .exact .inr ⟨rfl,h⟩
theorem Vr{l:List Wear}{p:Int}{k:Nat}{w:Wear} (h:Ds l p) (hw:WOk p w):Ds (l.set k w) p:=by
 refine⟨by rw[XaA];exact h.1,λx hx=>?_⟩;rcases Xfa hx with hx|rfl
 .exact h.2 x hx
 .exact hw
def Fe(p:Nat->Bool):Nat->Nat
 | 0=>0
 | n+1=>Fe p n+if p n then 1 else 0
theorem Jf{p q:Nat->Bool}:∀{n:Nat},(∀j,j<n->p j=q j)->Fe p n=Fe q n
 | 0,_=>rfl
 | n+1,h=>by
  simp only[Fe];rw[Jf (n:=n) λj hj=>h j (by omega),h n (by omega)]
theorem KI{p:Nat->Bool}:∀{n:Nat},Fe p n<=n
 | 0=>Xau _
 | n+1=>by
  have:=KI (p:=p) (n:=n);simp only[Fe];split<;>omega
theorem KH{p:Nat->Bool}:∀{n:Nat},(∀j,j<n->p j=false)->Fe p n=0
 | 0,_=>rfl
 | n+1,h=>by
  simp only[Fe];rw[KH (n:=n) λj hj=>h j (by omega),h n (by omega)];rfl
theorem KG{p:Nat->Bool}:∀{n:Nat},Fe p n=0->∀j,j<n->p j=false
 | n+1,h,j,hj=>by
  simp only[Fe]at h
  by_cases e:j=n
  .subst e;cases hp:p j
   .rfl
   .rw [hp]at h;simp at h
  .exact KG (n:=n) (by omega) j (by omega)
theorem M1{p:Nat->Bool}{u:Nat}:∀{n:Nat},(∀j,j<n->p j=true->j<u)->Fe p n<=u
 | 0,_=>Xcq _
 | n+1,h=>by
  simp only[Fe];cases hp:p n
  .have:=M1 (n:=n) (u:=u) λj hj=>h j (by omega)
   simpa using this
  .have h1:=h n (by omega) hp;have:=KI (p:=p) (n:=n);simp;omega
theorem Sf{p q:Nat->Bool}{k:Nat} (hk:p k=false) (hk2:q k=true):∀{n:Nat},(∀j,j<n->j≠k->q j=p j)->Fe q n=Fe p n+if k<n then 1 else 0
 | 0,_=>rfl
 | n+1,h=>by
  simp only[Fe];rw[Sf hk hk2 (n:=n) λj hj=>h j (by omega)]
  by_cases e:n=k
  .subst e;rw[hk,hk2];simp
  .rw [h n (by omega) e]
   by_cases e2:k<n
   .have e3:k<n+1:=by omega
    simp only[e2,e3,if_true];omega
   .have e3:¬k<n+1:=by omega
    simp only[e2,e3,if_false];omega
def ZK(P:Nat)(seen:List Int)(k:Nat):Nat:=Fe (λj=>decide (Fc P k j∈seen)) P
theorem Hh{P:Nat}{s t:List Int}{k:Nat} (h:∀j,j<P->(Fc P k j∈s↔Fc P k j∈t)):ZK P s k=ZK P t k:=Jf λj hj=>by
 show decide _=decide _;rw[Xbt,decide_eq_true_iff,decide_eq_true_iff];exact h j hj
theorem L6{P:Nat}{s t:List Int}{k j:Nat} (hj:j<P) (hn:Fc P k j∉s) (ht:∀x,x∈t↔x∈s\/x=Fc P k j) (k':Nat):ZK P t k'=ZK P s k' + if k'=k then 1 else 0:=by
 by_cases e:k'=k
 .subst e;unfold ZK;rw[if_pos rfl,Sf (p:=λj=>decide (Fc P k' j∈s)) (q:=λj=>decide (Fc P k' j∈t)) (k:=j) (by simpa using hn) (by simp[ht]) λi hi hne=>by
   show decide _=decide _;rw[Xbt,decide_eq_true_iff,decide_eq_true_iff,ht];refine⟨λh=>h.resolve_right λx=>hne (Ls hi hj x).2,.inl⟩,if_pos hj]
 .rw [if_neg e,Xbw];refine Hh λi hi=>?_
  rw[ht];exact⟨λh=>h.resolve_right λx=>e (Ls hi hj x).1,.inl⟩
theorem DW{P:Nat}{s:List Int}{k:Nat}:ZK P s k=0↔∀j,j<P->Fc P k j∉s:=
 ⟨λh j hj=>by simpa using KG h j hj,λh=>KH λj hj=>by simpa using h j hj⟩
def AB(P:Nat)(c:Chip)(seen:List Int)(k:Nat):Wear:=if (blk c k).Bad then⟨0,0,0,true⟩else⟨(ZK P seen k:Int),(blk c k).Used,(blk c k).Worn,false⟩
def AR(P nB:Nat)(c:Chip)(seen:List Int):List Wear:=(Xbe (nB-2)).map λi=>AB P c seen (i+2)
theorem B7{P nB:Nat}{c:Chip}{seen:List Int}:(AR P nB c seen).length=nB-2:=by simp[AR]
theorem EH{P nB:Nat}{c:Chip}{seen:List Int}{i:Nat} (h:i<(AR P nB c seen).length):(AR P nB c seen)[i]=AB P c seen (i+2):=by simp[AR]
def Wr0:Wear:=⟨0,0,0,false⟩
theorem ZaY{α:Type}{l:List α}{n:Nat}{f:Nat->α}{d:α} (hl:l.length=n) (h:∀q,q<n->l.getD q d=f q):l=(Xbe n).map f:=by
 apply XbN (by simp[hl]);intro i h1 h2;have:=h i (by omega);rw[DD h1]at this;simp[this]
def NL(P nB:Nat)(c:Chip)(seen:List Int):Prop:=∀x∈seen,x=0\/∃k j,x=Fc P k j/\2<=k/\k<nB/\j<P/\(j:Int)<(blk c k).Used
theorem GI.held{P nB:Nat}{c:Chip}{at0:List Int}{bod:List (List UInt8)} (h:GI P nB c at0 bod):NL P nB c at0:=λx hx=>by
 obtain⟨i,hi,rfl⟩:=XaQ hx;have:=h.2 i hi;rw[DD hi]at this;rcases this with g|⟨k,j,g,a1,a2,a3,a4,a5,-⟩
 .exact .inl g.1
 .exact .inr ⟨k,j,a1,a2,a3,a4,a5⟩
theorem NL.app{P nB:Nat}{c:Chip}{s t:List Int} (h:NL P nB c s) (g:NL P nB c t):NL P nB c (s++t):=λx hx=>(Xar.1 hx).elim (h x) (g x)
theorem Xx{c:Chip}{P nB S:Nat} (hc:CI P nB S c) (hg:Geo P nB S) {lists:List (List Int)} (hv:NL P nB c lists.flatten) (h1:lists.length<=1000) (h2:∀l∈lists,l.length<=1000) :
  Et (Hk c lists) (λl=>l.length=nB-2/\∀q,q<nB-2->l.getD q Wr0=⟨(ZK P lists.flatten (q+2):Int),(blk c (q+2)).Used,(blk c (q+2)).Worn,(blk c (q+2)).Bad⟩):=by
 have g1:=hg.b5;have g2:=hg.b11;have g3:=hg.p2;have hD:((c.Blocks.length:Int)-2)=((nB-2:Nat):Int):=by rw[hc.len];omega
 unfold Hk;rw[Ax (by rw[hc.len];omega) (by rw[hc.len];omega),Zb,hD,Aq (by omega) (by omega) (by omega),Zb,Zb,Xak];refine Et.b (P:=λl=>l.length=nB-2/\∀q,q<nB-2->l.getD q Wr0=⟨0,(blk c (q+2)).Used,(blk c (q+2)).Worn,(blk c (q+2)).Bad⟩)
  (Et.loop (σ:=Int×List Wear) (λs=>∃i:Nat,s.1=i/\i<=nB-2/\s.2.length=nB-2/\∀q,q<i->s.2.getD q Wr0=⟨0,(blk c (q+2)).Used,(blk c (q+2)).Worn,(blk c (q+2)).Bad⟩) (λs=>nB-2-s.1.toNat) (λs hs=>?_)
   ⟨0,rfl,by omega,by simp,λq hq=>by omega⟩ (by show nB-2-0<_;omega)) λl6 hl6=>?_
 .obtain ⟨z,l⟩:=s;obtain⟨i,rfl,hi,hl,hq⟩:=hs;dsimp only at hl hq⊢;unfold In
  by_cases hlt:i<nB-2
  .rw [Zj (by simp;omega),Aa (by omega) (by omega),Zb,show(i:Int)+2=((i+2:Nat):Int)from rfl,hc.idxB rfl (by omega),Zb,Zz (by omega),Zb,Zb,ZL (by omega),Zb];refine Et.l ⟨i+1,rfl,by omega,by simp[hl],λq hq'=>?_⟩ (by show nB-2-(i+1)<nB-2-(i:Int).toNat;omega);dsimp only;rw[Xak,Bw (by omega)]
   by_cases e:q=i
   .subst e;rw[if_pos rfl]
   .rw [if_neg e];exact hq q (by omega)
  .rw [Zg (by simp;omega)];have:i=nB-2:=by omega
   subst this;exact AN ⟨hl,hq⟩
 refine Et.b (P:=λo=>o.1.length=nB-2/\(∀x,x∈o.2↔x≠0/\x∈lists.flatten)/\∀q,q<nB-2->o.1.getD q Wr0=⟨(ZK P o.2 (q+2):Int),(blk c (q+2)).Used,(blk c (q+2)).Worn,(blk c (q+2)).Bad⟩)
  (Et.loop (σ:=Int×List Wear×List Int) (λs=>∃i:Nat,s.1=i/\i<=lists.length/\s.2.1.length=nB-2/\(∀x,x∈s.2.2↔x≠0/\x∈(lists.take i).flatten)/\∀q,q<nB-2->s.2.1.getD q Wr0=⟨(ZK P s.2.2 (q+2):Int),(blk c (q+2)).Used,(blk c (q+2)).Worn,(blk c (q+2)).Bad⟩)
   (λs=>lists.length-s.1.toNat) (λs hs=>?_) ⟨0,rfl,by omega,hl6.1,λx=>by simp,λq hq=>by rw[hl6.2 q hq,DW.2 λj _=>by simp];rfl⟩ (by show lists.length-0<_;omega)) λo ⟨o1,o2,o3⟩=>?_
 .obtain ⟨z,l,m⟩:=s;obtain⟨i,rfl,hi,hl,hm,hq⟩:=hs;dsimp only at hl hm hq⊢;unfold Im
  by_cases hlt:i<lists.length
  .have hll:=h2 _ (Xax hlt);rw[El hlt,Zu,Zz hlt,Zb];refine Et.b (P:=λo=>o.1.length=nB-2/\(∀x,x∈o.2↔x≠0/\x∈(lists.take (i+1)).flatten)/\∀q,q<nB-2->o.1.getD q Wr0=⟨(ZK P o.2 (q+2):Int),(blk c (q+2)).Used,(blk c (q+2)).Worn,(blk c (q+2)).Bad⟩)
    (Et.loop (σ:=Int×List Wear×List Int) (λs=>∃r:Nat,s.1=r/\r<=lists[i].length/\s.2.1.length=nB-2/\(∀x,x∈s.2.2↔x≠0/\(x∈(lists.take i).flatten\/x∈lists[i].take r))/\∀q,q<nB-2->s.2.1.getD q Wr0=⟨(ZK P s.2.2 (q+2):Int),(blk c (q+2)).Used,(blk c (q+2)).Worn,(blk c (q+2)).Bad⟩)
     (λs=>lists[i].length-s.1.toNat) (λs hs=>?_) ⟨0,rfl,by omega,hl,λx=>by simp[hm x],hq⟩ (by show lists[i].length-0<_;omega)) λo ⟨o1,o2,o3⟩=>?_
   .obtain ⟨z,l,m⟩:=s;obtain⟨r,rfl,hr,hl,hm,hq⟩:=hs;dsimp only at hl hm hq⊢;unfold Il
    by_cases hrt:r<lists[i].length
    .have htk:∀x,x∈lists[i].take (r+1)↔x∈lists[i].take r\/x=lists[i][r]:=λx=>by
      rw[Cd hrt,Xar,Xal]
     rw[El hrt,Zu,Zz hrt,Zb]
     by_cases hsk:lists[i][r]=0\/lists[i][r]∈m
     .rw [Zj (by simpa using hsk),Zb,CB,ZL (by omega),Zb];refine Et.l ⟨r+1,rfl,by omega,hl,λx=>?_,hq⟩ (by show lists[i].length-(r+1)<lists[i].length-(r:Int).toNat;omega);dsimp only;rw[hm,htk];refine⟨λ⟨a,b⟩=>⟨a,b.imp id .inl⟩,λ⟨a,b⟩=>⟨a,?_⟩⟩;rcases b with b|b|b
      .exact .inl b
      .exact .inr b
      .rcases hsk with e|e
       .exact absurd (b.trans e) a
       .rw [b];exact((hm _).1 e).2
     .have hs0:lists[i][r]≠0:=λe=>hsk (.inl e)
      have hs1:lists[i][r]∉m:=λe=>hsk (.inr e)
      rw[Zg (by simpa using hsk),Zb];obtain⟨k,j,e,k2,kB,jP,-⟩:=(hv lists[i][r] (List.mem_flatten.2 ⟨_,Xax hlt,Xax hrt⟩)).resolve_left hs0;have hq':=Lt (k:=k) jP;have hlo:=ET (P:=P) (k:=k) (j:=j);have hle:=PV (P:=P) kB jP;have:nB*P<=11*8:=Xb5 hg.b11 hg.p8;rw[e,Ax (by omega) (by omega),Zb,hc.pgs,G7 (by omega) (by omega),Zb,hq'.1,Ax (by omega) (by omega),Zb,show(k:Int)-2=((k-2:Nat):Int)by omega,Dp (d:=Wr0) rfl (by omega),Zb,
       hq _ (by omega)]
      dsimp only;have hlv:ZK P m (k-2+2)<=P:=KI;have:=hg.p8;rw[Aa (by omega) (by omega),Zb,Zb,Zb,Zb,CB,ZL (by omega),Zb];have hput:∀x,x∈WE m (Fc P k j)↔x∈m\/x=Fc P k j:=λx=>by
       unfold WE;rw[if_neg (by rw[<-e];exact hs1)];simp
      refine Et.l ⟨r+1,rfl,by omega,by simp[hl],λx=>?_,λq hq2=>?_⟩ (by show lists[i].length-(r+1)<lists[i].length-(r:Int).toNat;omega)
      .dsimp only;rw[hput,hm,htk,<-e];refine⟨λh=>h.elim (λ⟨a,b⟩=>⟨a,b.imp id .inl⟩) λa=>⟨by rw[a];exact hs0,.inr (.inr a)⟩,λ⟨a,b⟩=>?_⟩;rcases b with b|b|b
       .exact .inl ⟨a,.inl b⟩
       .exact .inl ⟨a,.inr b⟩
       .exact .inr b
      .dsimp only;rw[Xak,Bw (by omega),L6 jP (by rw[<-e];exact hs1) hput (q+2)]
       by_cases eq:q=k-2
       .subst eq;rw[if_pos rfl,if_pos (by omega)];rfl
       .rw [if_neg eq,if_neg (by omega),hq _ hq2];rfl
    .rw [I9 (by omega),Zq];refine AN ⟨hl,λx=>?_,hq⟩;dsimp only;rw[hm,show lists[i].take r=lists[i]from XaB (by omega),J2 hlt,Xar]
   .rw [XR,ZL (by omega),Zb];exact Et.l ⟨i+1,rfl,by omega,o1,o2,o3⟩ (by show lists.length-(i+1)<lists.length-(i:Int).toNat;omega)
  .rw [I9 (by omega),Zq];refine AN ⟨hl,λx=>?_,hq⟩;dsimp only;rw[hm,show lists.take i=lists from XaB (by omega)]
 .rw [XR];refine Et.s ⟨o1,λq hq=>?_⟩;rw[o3 q hq];congr 2;refine Hh λj hj=>?_
  rw[o2];have:=ET (P:=P) (k:=q+2) (j:=j);exact⟨λh=>h.2,λh=>⟨by omega,h⟩⟩
theorem OZ{w:Zc}{P nB S:Nat} (hc:CI P nB S w.Vol.Chip) (hg:Geo P nB S) {lists:List (List Int)} (hv:NL P nB w.Vol.Chip lists.flatten) (h1:lists.length<=1000) (h2:∀l∈lists,l.length<=1000) :
  Ay w lists=some (AR P nB w.Vol.Chip lists.flatten):=by
 have g1:=hg.b5;have g2:=hg.b11;unfold Ay;refine Gg (Et.b (Xx hc hg hv h1 h2) λl ⟨l1,l2⟩=>?_);refine Et.b (P:=λr=>r=AR P nB w.Vol.Chip lists.flatten) (Et.loop (σ:=Int×List Wear) (λs=>∃i:Nat,s.1=i/\i<=nB-2/\s.2.length=nB-2/\(∀q,q<i->s.2.getD q Wr0=AB P w.Vol.Chip lists.flatten (q+2))/\∀q,i<=q->q<nB-2->s.2.getD q Wr0=l.getD q Wr0)
  (λs=>nB-2-s.1.toNat) (λs hs=>?_) ⟨0,rfl,by omega,l1,λq hq=>by omega,λq _ _=>rfl⟩ (by show nB-2-0<_;omega)) λr hr=>by subst hr;exact Et.s rfl
 obtain⟨z,l'⟩:=s;obtain⟨i,rfl,hi,hl,ha,hb⟩:=hs;dsimp only at hl ha hb⊢;unfold Do
 by_cases hlt:i<nB-2
 .rw [Zj (by simp;omega),Dp (d:=Wr0) rfl (by omega),Zb];have hcur:l'.getD i Wr0=⟨(ZK P lists.flatten (i+2):Int),(blk w.Vol.Chip (i+2)).Used,(blk w.Vol.Chip (i+2)).Worn,(blk w.Vol.Chip (i+2)).Bad⟩:=by rw[hb i (by omega) hlt,l2 i hlt]
  refine Et.b (P:=λr=>r.length=nB-2/\r.getD i Wr0=AB P w.Vol.Chip lists.flatten (i+2)/\∀q,q≠i->r.getD q Wr0=l'.getD q Wr0) ?_ λr ⟨r1,r2,r3⟩=>?_
  .rw [hcur];dsimp only
   by_cases hbad:(blk w.Vol.Chip (i+2)).Bad=true
   .rw [Zj hbad,Zb,Zb];refine Et.s ⟨by simp[hl],?_,λq hq=>?_⟩
    .rw [Xak,Bw (by omega),if_pos rfl];unfold AB;rw[if_pos hbad]
    .rw [Xak,Bw (by omega),if_neg hq]
   .rw [Zg (by simpa using hbad)];refine Et.s ⟨hl,?_,λq hq=>rfl⟩;rw[hcur];unfold AB;rw[if_neg hbad];have:(blk w.Vol.Chip (i+2)).Bad=false:=by simpa using hbad
    rw[this]
  .rw [ZL (by omega),Zb];refine Et.l ⟨i+1,rfl,by omega,r1,λq hq=>?_,λq hq hq2=>?_⟩ (by show nB-2-(i+1)<nB-2-(i:Int).toNat;omega)
   .by_cases e:q=i
    .subst e;exact r2
    .exact (r3 q e).trans (ha q (by omega))
   .exact (r3 q (by omega)).trans (hb q (by omega) hq2)
 .rw [Zg (by simp;omega)];have:i=nB-2:=by omega
  subst this;exact AN (ZaY hl ha)
def Qa:Wear:=⟨0,0,0,true⟩
def HE(R:Wear->Bool)(x:Wear):Wear:=if x.Bad || !R x then Qa else x
theorem VV{α:Type}{f:α->α}{P:List α}{i:Nat} (h:i<P.length) (e:f P[i]=P[i]):Fx f P (i+1)=Fx f P i:=by
 have hl:i<(Fx f P i).length:=by rw[JV f P (by omega)];exact h
 have h1:=JW f P h;rw[Zz hl]at h1;injection h1 with h1;rw[<-IE f P h,e,<-h1,Xcc]
theorem MQ{l:List Wear}{rule:F1 Tryz.prog Wear Bool}{R:Wear->Bool} (hR:∀x,rule.f x=some (R x)) (hl:l.length<=1000):Cc l rule=some (l.map (HE R)):=by
 unfold Cc AJ;rw[Aq (by omega) (by omega) (by omega),Zb,Zb];refine Gg (Et.b (P:=λr=>r=l.map (HE R)) (Et.loop (σ:=Int×List Wear) (λs=>∃i:Nat,s.1=i/\i<=l.length/\s.2=Fx (HE R) l i) (λs=>l.length-s.1.toNat) (λs hs=>?_)
  ⟨0,rfl,by omega,by rw[KB]⟩ (by show l.length-0<_;omega)) λr hr=>by subst hr;exact Et.s rfl)
 obtain⟨z,m⟩:=s;obtain⟨i,rfl,hi,hm⟩:=hs;dsimp only at hm⊢;subst hm;unfold Je
 by_cases hlt:i<l.length
 .rw [El hlt,Zu,JW _ _ hlt,Zb];refine Et.b (P:=λr=>r=Fx (HE R) l (i+1)) ?_ λr hr=>?_
  .rw [J0 (hR _),Zb]
   by_cases hb:l[i].Bad=true
   .rw [Zj (by rw[hb];rfl),Zb,Zb,Xak];refine Et.s ?_;have:HE R l[i]=⟨0,0,0,true⟩:=by unfold HE;rw[hb];rfl
    rw[<-IE _ _ hlt,this]
   .have hb':l[i].Bad=false:=by simpa using hb
    rw[hb',Xas,Zu,XbL];cases hr:R l[i]
    .rw [Xas,Zu,Zb,Zb,Xak];refine Et.s ?_;have:HE R l[i]=⟨0,0,0,true⟩:=by unfold HE;rw[hr];simp[Qa]
     rw[<-IE _ _ hlt,this]
    .rw [XaC,Zq];refine Et.s ?_;have:HE R l[i]=l[i]:=by unfold HE;rw[hr,hb'];simp
     rw[VV hlt this]
  .subst hr;rw[ZL (by omega),Zb];exact Et.l ⟨i+1,rfl,by omega,rfl⟩ (by show l.length-(i+1)<l.length-(i:Int).toNat;omega)
 .rw [I9 (by omega),Zq];have:i=l.length:=by omega
  subst this;exact AN (by rw[L5])
theorem Oh{P nB S:Nat}{c:Chip}{seen:List Int} (hc:CI P nB S c) (hg:Geo P nB S) (hv:NL P nB c seen) {k:Nat} (h2:2<=k) (hk:k<nB):WOk P (AB P c seen k):=by
 have hB:=hc.blkR hk;have hw:=hc.worn k hk;have ho:=hc.ops;unfold De at ho;unfold AB
 split
 .exact ⟨by decide,by decide,by show(0:Int)<=P;omega,by decide,by show(0:Int)<=1099511627776;decide⟩
 .refine ⟨by show(0:Int)<=(ZK P seen k:Int);omega,?_,hB.2.2.1,hB.2.2.2.1,by show(blk c k).Worn<=_;omega⟩;have:ZK P seen k<=(blk c k).Used.toNat:=M1 λj hj hp=>by
   have hp:Fc P k j∈seen:=by simpa using hp
   rcases hv _ hp with e|⟨k',j',e,a1,a2,a3,a4⟩
   .have:=ET (P:=P) (k:=k) (j:=j);omega
   .obtain ⟨rfl,rfl⟩:=Ls hj a3 e;omega
  show(ZK P seen k:Int)<=(blk c k).Used;omega
theorem Gy{P nB S:Nat}{c:Chip}{seen:List Int} (hc:CI P nB S c) (hg:Geo P nB S) (hv:NL P nB c seen):Ds (AR P nB c seen) P:=by
 have g1:=hg.b5;have g2:=hg.b11;have g3:=hg.p2;have g4:=hg.p8;refine⟨by rw[B7];omega,λw hw=>?_⟩;obtain⟨i,hi,rfl⟩:=XaQ hw;rw[B7]at hi;rw[EH];exact Oh hc hg hv (by omega) (by omega)
theorem WJ{P:Nat}:WOk P Qa:=⟨by decide,by decide,by show(0:Int)<=P;omega,by decide,by decide⟩
theorem S9{P:Nat}{l:List Wear}{R:Wear->Bool} (h:Ds l P):Ds (l.map (HE R)) P:=by
 refine⟨by rw[XdC];exact h.1,λw hw=>?_⟩;obtain⟨x,hx,rfl⟩:=XdO.1 hw;unfold HE
 split
 .exact WJ
 .exact h.2 x hx
theorem Zdp{P nB S:Nat}{l:List Wear}{R rule:Wear->Bool}{lt:Wear->Wear->Bool}{r:Int×Bool} (hl:Ds l P) (hb:rule Qa=false) (h:Jr (l.map (HE R)) P rule lt r) :
  (∃i:Nat,∃hi:i<l.length,r=((i:Int),true)/\l[i].Bad=false/\R l[i]=true/\rule l[i]=true)\/(r=(0,false)/\∀i,(hi:i<l.length)->l[i].Bad=false->R l[i]=true->rule l[i]=false):=by
 rcases Sb h with⟨i,hr,⟨hi,h1,h2⟩,_⟩|⟨hr,h1⟩
 .left
  rw[XdC]at hi;refine⟨i,hi,hr,?_⟩;rw[XcZ]at h1;unfold HE at h1
  split at h1
  .rw [hb]at h1;cases h1
  .rename_i hn
   cases hB:l[i].Bad<;>cases hR:R l[i]<;>simp[hB,hR]at hn⊢
   exact h1
 .right
  refine⟨hr,λi hi b1 b2=>?_⟩;have:=h1 (S9 hl) i (by rw[XdC];exact hi);rw[XcZ]at this;unfold HE at this;rw[b1,b2]at this;simpa using this
theorem UC{P:Nat}{l:List Wear}{rule:Wear->Bool}{lt:Wear->Wear->Bool}{r:Int×Bool} (hl:Ds l P) (h:Jr l P rule lt r) :
  (∃i:Nat,∃hi:i<l.length,r=((i:Int),true)/\rule l[i]=true)\/(r=(0,false)/\∀i,(hi:i<l.length)->rule l[i]=false):=by
 rcases Sb h with⟨i,hr,⟨hi,h1,h2⟩,_⟩|⟨hr,h1⟩
 .exact .inl ⟨i,hi,hr,h1⟩
 .exact .inr ⟨hr,λi hi=>h1 hl i hi⟩
def CN(w:Wear):Bool:=!w.Bad&&decide (w.Live=0)
theorem Za4{l:List Wear}(hl:l.length<=1000):Et (ZN (λs=>Cr l s.1 s.2) ((0:Int),(0:Int))) (λn=>n=(Fe (λi=>CN (l.getD i Qa)) l.length:Int)):=by
 refine Et.loop (σ:=Int×Int) (λs=>∃i:Nat,s.2=i/\i<=l.length/\s.1=(Fe (λi=>CN (l.getD i Qa)) i:Int)) (λs=>l.length-s.2.toNat) (λs hs=>?_) ⟨0,rfl,by omega,rfl⟩ (by show l.length-0<_;omega);obtain⟨n,z⟩:=s;obtain⟨i,rfl,hi,hn⟩:=hs;dsimp only at hn⊢;subst hn;unfold Cr
 by_cases hlt:i<l.length
 .rw [El hlt,Zu,Dp (d:=Qa) rfl hlt,Zb];have hle:=KI (p:=λi=>CN (l.getD i Qa)) (n:=i);have hstep:Fe (λi=>CN (l.getD i Qa)) (i+1)=Fe (λi=>CN (l.getD i Qa)) i+if CN (l.getD i Qa)then 1 else 0:=rfl;have hid:((!(l.getD i Qa).Bad)&&decide ((l.getD i Qa).Live=0))=CN (l.getD i Qa):=rfl;rw[hid];cases h:CN (l.getD i Qa)
  .rw [Zq,Zb,ZL (by omega),Zb];refine Et.l ⟨i+1,rfl,by omega,?_⟩ (by show l.length-(i+1)<l.length-(i:Int).toNat;omega);dsimp only;rw[hstep,h];simp
  .rw [Zu,Aa (by omega) (by omega),Zb,Zb,ZL (by omega),Zb];refine Et.l ⟨i+1,rfl,by omega,?_⟩ (by show l.length-(i+1)<l.length-(i:Int).toNat;omega);dsimp only;rw[hstep,h];simp
 .rw [I9 (by omega),Zq];have:i=l.length:=by omega
  subst this;exact AN rfl
structure Fr(P nB S:Nat)(seen:List Int)(c c':Chip):Prop where
 ci:CI P nB S c'
 flt:c'.Faults=c.Faults
 low:∀i,i<2->blk c' i=blk c i
 keep:∀k j,Fc P k j∈seen->2<=k->k<nB->j<P->(j:Int)<(blk c k).Used->(j:Int)<(blk c' k).Used/\pg c' k j=pg c k j
 many:Aw c<=Aw c'
 opsl:c.Ops<=c'.Ops
theorem Fr.refl{P nB S:Nat}{seen:List Int}{c:Chip} (h:CI P nB S c):Fr P nB S seen c c:=⟨h,rfl,λ_ _=>rfl,λ_ _ _ _ _ _ h=>⟨h,rfl⟩,Xau _,XaJ _⟩
theorem Fr.trans{P nB S:Nat}{seen:List Int}{c c' c'':Chip} (h:Fr P nB S seen c c') (g:Fr P nB S seen c' c''):Fr P nB S seen c c'':=
 ⟨g.ci,g.flt.trans h.flt,λi hi=>(g.low i hi).trans (h.low i hi),λk j h1 h2 h3 h4 h5=>by
  obtain⟨a,b⟩:=h.keep k j h1 h2 h3 h4 h5;obtain⟨a',b'⟩:=g.keep k j h1 h2 h3 h4 a;exact⟨a',b'.trans b⟩,XaG h.many g.many,Int.le_trans h.opsl g.opsl⟩
theorem Fr.held{P nB S:Nat}{s:List Int}{c c':Chip} (h:Fr P nB S s c c') (hv:NL P nB c s):NL P nB c' s:=λx hx=>by
 rcases hv x hx with e|⟨k,j,e,a1,a2,a3,a4⟩
 .exact .inl e
 .exact .inr ⟨k,j,e,a1,a2,a3,(h.keep k j (by rw[<-e];exact hx) a1 a2 a3 a4).1⟩
theorem Fr.ri{P nB S:Nat}{s:List Int}{c c':Chip} (h:Fr P nB S s c c') {gen:UInt64}{at0:List Int}{last:Int} (hr:RI P c gen at0 last):RI P c' gen at0 last:=hr.same λb hb j _=>Oy (h.low b hb)
theorem Fr.gi{P nB S:Nat}{s:List Int}{c c':Chip} (h:Fr P nB S s c c') {at0:List Int}{bod:List (List UInt8)} (hs:∀x∈at0,x∈s) (hr:GI P nB c at0 bod):GI P nB c' at0 bod:=hr.keep λid k j hid e h2 h3 h4 h5=>
 h.keep k j (hs _ (by rw[<-e,DD hid];exact Xax hid)) h2 h3 h4 h5
theorem Rf.fr{P nB S:Nat}{s:List Int}{c c':Chip}{k:Nat}{p:List UInt8}{e:Int} (h:Rf P nB S c c' k p e) (h2:2<=k):Fr P nB S s c c':=
 ⟨h.ci,h.flt,λi hi=>h.oth i (by omega),λk' j _ _ _ _ h5=>by
  by_cases e:k'=k
  .subst e;have:=h.used;exact⟨by omega,h.pgo j (by omega)⟩
  .rw [h.oth k' e];exact⟨h5,Oy (h.oth k' e)⟩,by rw[h.many];omega,by have:=h.ops;omega⟩
theorem Pd.fr{P nB S:Nat}{s:List Int}{c c':Chip}{k:Nat}{e:Int} (h:Pd P nB S c c' k e) (h2:2<=k) (hl:ZK P s k=0):Fr P nB S s c c':=
 ⟨h.ci,h.flt,λi hi=>h.oth i (by omega),λk' j h1 _ _ h4 h5=>by
  by_cases e:k'=k
  .subst e;exact absurd h1 (DW.1 hl j h4)
  .rw [h.oth k' e];exact⟨h5,Oy (h.oth k' e)⟩,by rw[h.many];omega,h.ops.1⟩
def KU(g:Nat->Int):Nat->Int
 | 0=>0
 | n+1=>max (KU g n) (g n)
theorem NT{g:Nat->Int}:∀{n:Nat},0<=KU g n
 | 0=>XaJ _
 | n+1=>by have:=NT (g:=g) (n:=n);simp only[KU];omega
theorem UP{g:Nat->Int}:∀{n k:Nat},k<n->g k<=KU g n
 | n+1,k,h=>by
  simp only[KU]
  by_cases e:k=n
  .subst e;omega
  .have:=UP (g:=g) (n:=n) (k:=k) (by omega);omega
theorem NU{g:Nat->Int}{x:Int} (h0:0<=x):∀{n:Nat},(∀k,k<n->g k<=x)->KU g n<=x
 | 0,_=>h0
 | n+1,h=>by
  have:=NU h0 (n:=n) λk hk=>h k (by omega)
  have:=h n (by omega);simp only[KU];omega
def Fm(P:Nat)(w:Wear):Int:=if w.Bad then 0 else if w.Live=0/\w.Used=P then P else P-w.Used
def Lf(P:Nat)(w:Wear):Int:=if CN w then Fm P w else 0
def wq(P:Nat)(c:Chip)(seen:List Int)(q:Nat):Wear:=AB P c seen (q+2)
def TM(P nB:Nat)(c:Chip)(seen:List Int):Int:=Ce (λq=>Fm P (wq P c seen q)) (nB-2)
def QE(P nB:Nat)(c:Chip)(seen:List Int):Int:=KU (λq=>Lf P (wq P c seen q)) (nB-2)
def G4(P nB:Nat)(c:Chip)(seen:List Int):Int:=TM P nB c seen-QE P nB c seen
def Bb(P nB:Nat)(c:Chip)(seen:List Int):Nat:=Fe (λq=>CN (wq P c seen q)) (nB-2)
theorem MI{g:Nat->Int}:∀{n:Nat},(∀k,k<n->g k=0)->Ce g n=0
 | 0,_=>rfl
 | n+1,h=>by simp only[Ce];rw[MI (n:=n) λk hk=>h k (by omega),h n (by omega)];rfl
theorem UI{g:Nat->Int}{p:Nat->Bool}:∀{n:Nat},Fe p n<=1->(∀k,k<n->p k=false->g k=0)->(∀k,k<n->0<=g k)->Ce g n<=KU (λq=>if p q then g q else 0) n
 | 0,_,_,_=>XaJ _
 | n+1,h,h0,hn=>by
  simp only[Fe]at h;simp only[Ce,KU];cases hp:p n
  .have:=UI (g:=g) (p:=p) (n:=n) (by omega) (λk hk=>h0 k (by omega)) λk hk=>hn k (by omega)
   rw[h0 n (by omega) hp];omega
  .rw [hp]at h;have hz:Fe p n=0:=by simp at h;exact h
   rw[MI (n:=n) λk hk=>h0 k (by omega) (KG hz k hk)];simp only[if_true];omega
def Pc(P nB:Nat)(c:Chip)(seen:List Int):Prop:=∀k,2<=k->k<nB->(blk c k).Bad=false->0<ZK P seen k->(blk c k).Used=P
theorem Ap{P:Nat}{c:Chip}{seen:List Int}{k:Nat} (h:(blk c k).Bad=false):AB P c seen k=⟨(ZK P seen k:Int),(blk c k).Used,(blk c k).Worn,false⟩:=by
 unfold AB;rw[if_neg (by rw[h];decide)]
theorem Fj{P:Nat}{c:Chip}{seen:List Int}{k:Nat} (h:(blk c k).Bad=true):AB P c seen k=⟨0,0,0,true⟩:=by
 unfold AB;rw[if_pos h]
theorem Fk{P:Nat}{c:Chip}{seen:List Int}{k:Nat}:(AB P c seen k).Bad=(blk c k).Bad:=by
 unfold AB
 split
 .rename_i h;rw[h]
 .rename_i h;simpa using h
theorem RD{P nB S:Nat}{c:Chip}{seen:List Int} (hc:CI P nB S c) (hg:Geo P nB S) (h:Pc P nB c seen) (hs:1<=G4 P nB c seen):2<=Bb P nB c seen:=by
 rcases Xbd (Bb P nB c seen) 2 with hlt|hge
 .exfalso
  have:=UI (g:=λq=>Fm P (wq P c seen q)) (p:=λq=>CN (wq P c seen q)) (n:=nB-2) (by unfold Bb at hlt;omega) (λk hk hp=>?_) λk hk=>?_
  .unfold G4 TM QE Lf at hs;omega
  .unfold Fm wq at *
   by_cases hb:(blk c (k+2)).Bad=true
   .rw [Fj hb];rfl
   .have hb':(blk c (k+2)).Bad=false:=by simpa using hb
    rw[Ap hb']at hp⊢;unfold CN at hp;have h1:ZK P seen (k+2)≠0:=λe=>by rw[e]at hp;simp at hp
    rw[if_neg (by simp),if_neg (by simp;omega)];dsimp only;rw[h (k+2) (by omega) (by omega) hb' (by omega)];omega
  .unfold Fm wq
   by_cases hb:(blk c (k+2)).Bad=true
   .rw [Fj hb];exact XaJ _
   .have hb':(blk c (k+2)).Bad=false:=by simpa using hb
    rw[Ap hb'];have:=(hc.blkR (k:=k+2) (by omega)).2.2.1;rw[if_neg (by simp)]
    split
    .omega
    .dsimp only;omega
 .exact hge
def Zca(P nB S:Nat)(w:Zc)(seen:List Int)(r:Int×Int×Zc):Prop:=
  (∃k:Nat,2<=k/\k<nB/\(blk w.Vol.Chip k).Bad=false/\
      ((r=((k:Int),0,w)/\(blk w.Vol.Chip k).Used<P/\(0<ZK P seen k\/ZK P seen k=0/\Pc P nB w.Vol.Chip seen/\(2<=Bb P nB w.Vol.Chip seen\/w.beyond=true)))\/
       (∃c' e,r=((k:Int),e,wch w c')/\Pd P nB S w.Vol.Chip c' k e/\ZK P seen k=0/\(blk w.Vol.Chip k).Used=P/\Pc P nB w.Vol.Chip seen/\(2<=Bb P nB w.Vol.Chip seen\/w.beyond=true))))\/
    (r=(0,5,w)/\Pc P nB w.Vol.Chip seen/\(Bb P nB w.Vol.Chip seen=0\/Bb P nB w.Vol.Chip seen=1/\w.beyond=false))
theorem XF{w:Zc}{at':List Int}{P nB S:Nat} (hc:CI P nB S w.Vol.Chip) (hg:Geo P nB S) (ho:w.Vol.Chip.Off=false) (hv:NL P nB w.Vol.Chip (w.Vol.At++at')) (h1:w.Vol.At.length<=1000) (h2:at'.length<=1000) (hops:w.Vol.Chip.Ops+17<=De) :
  Et (Cs w ([w.Vol.At,[]],at')) (Zca P nB S w (w.Vol.At++at')):=by
 have g1:=hg.b5;have g2:=hg.b11;have g3:=hg.p2;have g4:=hg.p8;have hfl:([w.Vol.At,[]].set 1 at').flatten=w.Vol.At++at':=by simp
 have hD:(AR P nB w.Vol.Chip (w.Vol.At++at')).length=nB-2:=B7;have hW:=Gy hc hg hv;have hpk:∀i,(hi:i<nB-2)->(AR P nB w.Vol.Chip (w.Vol.At++at'))[i]'(by omega)=AB P w.Vol.Chip (w.Vol.At++at') (i+2):=λi hi=>EH _
 unfold Cs;dsimp only;rw[show idx [w.Vol.At,[]] (1:Int)=some []from rfl,Zb,OZ hc hg (lists:=[w.Vol.At,[]].set 1 at') (by rw[hfl];exact hv) (by simp) (λl hl=>by simp at hl;rcases hl with rfl|rfl;exact h1;exact h2),Zb,hfl,
  MQ (R:=λx=>decide (x.Live>0)) (λx=>rfl) (by omega),Zb]
 obtain⟨r5,hr5,hf5⟩:=Gm ((AR P nB w.Vol.Chip (w.Vol.At++at')).map (HE λx=>decide (x.Live>0))) w.Vol.Chip.Pages;rw[hr5,Zb];rw[hc.pgs]at hf5;rcases Zdp (S:=S) (nB:=nB) hW (by rfl) hf5 with⟨i,hi,rfl,b1,b2,b3⟩|⟨rfl,hno⟩
 .rw [hD]at hi;rw[hpk i hi]at b1 b2 b3;rw[Fk]at b1;rw[Ap b1]at b2 b3;rw[Zu,Aa (by omega) (by omega),Zb];refine Et.s (.inl ⟨i+2,by omega,by omega,b1,.inl ⟨rfl,?_,.inl ?_⟩⟩)
  .unfold QC at b3;simpa using b3
  .simpa using b2
 have hNL:Pc P nB w.Vol.Chip (w.Vol.At++at'):=λk k2 kB kb kl=>by
  have:=hno (k-2) (by rw[hD];omega);rw[hpk _ (by omega),show k-2+2=k by omega,Fk,Ap kb]at this;have:=this kb (by simpa using kl);unfold QC at this;have hu:=(hc.blkR kB).2.2.1;simp at this;omega
 rw[Zq];refine Et.b (Za4 (by omega)) λn hn=>?_
 have hid:(Fe (λi=>CN ((AR P nB w.Vol.Chip (w.Vol.At++at')).getD i Qa)) (AR P nB w.Vol.Chip (w.Vol.At++at')).length)=Bb P nB w.Vol.Chip (w.Vol.At++at'):=by
  rw[hD];refine Jf λj hj=>?_
  rw[DD (by omega),hpk j hj];rfl
 rw[hid]at hn;subst hn
 by_cases hz:Bb P nB w.Vol.Chip (w.Vol.At++at')=0\/Bb P nB w.Vol.Chip (w.Vol.At++at')=1/\w.beyond=false
 .have:((decide ((Bb P nB w.Vol.Chip (w.Vol.At++at'):Int)=0))||((decide ((Bb P nB w.Vol.Chip (w.Vol.At++at'):Int)=1))&&(!w.beyond)))=true:=by
   rcases hz with e|⟨e,e2⟩
   .rw [e];rfl
   .rw [e,e2];rfl
  rw[this,Zu];exact Et.s (.inr ⟨rfl,hNL,hz⟩)
 have hz2:((decide ((Bb P nB w.Vol.Chip (w.Vol.At++at'):Int)=0))||((decide ((Bb P nB w.Vol.Chip (w.Vol.At++at'):Int)=1))&&(!w.beyond)))=false:=by
  rw[Bool.eq_false_iff];intro x;rw[Xcu,Xaz,decide_eq_true_eq,decide_eq_true_eq]at x;rcases x with x|⟨x,y⟩
  .exact hz (.inl (by omega))
  .exact hz (.inr ⟨by omega,by simpa using y⟩)
 have hidl:2<=Bb P nB w.Vol.Chip (w.Vol.At++at')\/w.beyond=true:=by
  cases hb:w.beyond
  .rw [hb]at hz;left;simp at hz;omega
  .exact .inr rfl
 rw[hz2,Zq,MQ (R:=λx=>decide (x.Live=0)) (λx=>rfl) (by omega),Zb];obtain⟨r6,hr6,hf6⟩:=Gm ((AR P nB w.Vol.Chip (w.Vol.At++at')).map (HE λx=>decide (x.Live=0))) w.Vol.Chip.Pages;rw[hr6,Zb];rw[hc.pgs]at hf6;rcases Zdp (S:=S) (nB:=nB) hW (by rfl) hf6 with⟨i,hi,rfl,b1,b2,b3⟩|⟨rfl,hno2⟩
 .rw [hD]at hi;rw[hpk i hi]at b1 b2 b3;rw[Fk]at b1;rw[Ap b1]at b2 b3;rw[Zu,Aa (by omega) (by omega),Zb];refine Et.s (.inl ⟨i+2,by omega,by omega,b1,.inl ⟨rfl,?_,.inr ⟨?_,hNL,hidl⟩⟩⟩)
  .unfold QC at b3;simpa using b3
  .simpa using b2
 rw[Zq];obtain⟨r7,hr7,hf7⟩:=HI ((AR P nB w.Vol.Chip (w.Vol.At++at')).map (HE λx=>decide (x.Live=0))) w.Vol.Chip.Pages;rw[hr7,Zb];rw[hc.pgs]at hf7;rcases Zdp (S:=S) (nB:=nB) hW (by rfl) hf7 with⟨i,hi,rfl,b1,b2,b3⟩|⟨rfl,hno3⟩
 .have hn2:=hno2 i hi b1 b2;rw[hD]at hi;rw[hpk i hi]at b1 b2 b3 hn2;rw[Fk]at b1;rw[Ap b1]at b2 b3 hn2;have hu:=(hc.blkR (k:=i+2) (by omega)).2.2.1;rw[Aa (by omega) (by omega),Zb,Zb];refine Et.b (Mh (w:=w) (k:=i+2) (z:=(i:Int)+2) rfl hc hg.s24 ho (by omega) b1 hops) λr ⟨c',e,hr,hcl⟩=>?_
  subst hr;refine Et.s (.inl ⟨i+2,by omega,by omega,b1,.inr ⟨c',e,rfl,hcl,by simpa using b2,?_,hNL,hidl⟩⟩);unfold QC at hn2;simp at hn2;omega
 .exfalso
  have h0:Bb P nB w.Vol.Chip (w.Vol.At++at')=0:=KH λq hq=>by
   cases hh:CN (wq P w.Vol.Chip (w.Vol.At++at') q)
   .rfl
   .exfalso
    unfold CN wq at hh;have hb:(AB P w.Vol.Chip (w.Vol.At++at') (q+2)).Bad=false:=by
     cases hB:(AB P w.Vol.Chip (w.Vol.At++at') (q+2)).Bad
     .rfl
     .rw [hB]at hh;simp at hh
    have hL:(AB P w.Vol.Chip (w.Vol.At++at') (q+2)).Live=0:=by
     rw[hb]at hh;simpa using hh
    have x1:=hno2 q (by rw[hD];exact hq);have x2:=hno3 q (by rw[hD];exact hq);rw[hpk q hq]at x1 x2;have y1:=x1 hb (by simpa using hL);have y2:=x2 hb (by simpa using hL);unfold QC at y1;unfold RP at y2;rw[hb]at y1 y2;simp[hL]at y1 y2;omega
  exact hz (.inl h0)
theorem P3{p q:Nat->Bool}{k:Nat}:∀{n:Nat},(∀j,j<n->j≠k->q j=p j)->Fe p n<=Fe q n+if p k then 1 else 0
 | 0,_=>Xcq _
 | n+1,h=>by
  have ih:=P3 (p:=p) (q:=q) (k:=k) (n:=n) λj hj=>h j (by omega)
  simp only[Fe]
  by_cases e:n=k
  .subst e;have:=Jf (p:=q) (q:=p) (n:=n) λj hj=>h j (by omega) (by omega)
   rw[this];cases p n<;>simp
  .rw [h n (by omega) e];omega
theorem Zc5{P:Nat}{c c':Chip}{s t:List Int}{q:Nat} (hb:blk c' (q+2)=blk c (q+2)) (hl:ZK P t (q+2)=ZK P s (q+2)):wq P c' t q=wq P c s q:=by
 unfold wq AB;rw[hb,hl]
theorem ZaB{P nB S:Nat}{c c':Chip}{s t:List Int}{k:Nat} (hc:CI P nB S c) (hg:Geo P nB S) (h2:2<=k) (hk:k<nB) (hb:(blk c k).Bad=false) (hb':(blk c' k).Bad=false) (hoth:∀i,i≠k->blk c' i=blk c i) (hl:∀i,ZK P t i=ZK P s i+if i=k then 1 else 0)
  (hr:(blk c k).Used<P/\(blk c' k).Used=(blk c k).Used+1\/ZK P s k=0/\(blk c k).Used=P/\(blk c' k).Used=1) :
  G4 P nB c s-1<=G4 P nB c' t/\Bb P nB c s<=Bb P nB c' t+if ZK P s k=0 then 1 else 0:=by
 have hP:=hg.p2;have hsame:∀j,j<nB-2->j≠k-2->wq P c' t j=wq P c s j:=λj hj hne=>Zc5 (hoth _ (by omega)) (by rw[hl,if_neg (by omega),Xbw])
 have hk2:k-2+2=k:=by omega
 have w0:wq P c s (k-2)=⟨(ZK P s k:Int),(blk c k).Used,(blk c k).Worn,false⟩:=by unfold wq;rw[hk2];exact Ap hb
 have w1:wq P c' t (k-2)=⟨((ZK P s k+1:Nat):Int),(blk c' k).Used,(blk c' k).Worn,false⟩:=by unfold wq;rw[hk2,Ap hb',hl,if_pos rfl]
 have hu:=hc.blkR hk;have v1:Fm P (wq P c' t (k-2))=Fm P (wq P c s (k-2))-1:=by
  rw[w0,w1];unfold Fm;dsimp only;rw[if_neg (by decide),if_neg (by omega),if_neg (by decide)];rcases hr with⟨a,b⟩|⟨a,b,d⟩
  .rw [if_neg (by omega),b];omega
  .rw [if_pos ⟨by omega,b⟩,d]
 have i1:CN (wq P c' t (k-2))=false:=by
  rw[w1];unfold CN;simp;omega
 have hsum:TM P nB c' t=TM P nB c s-1:=by
  unfold TM;rw[Oj (g:=λq=>Fm P (wq P c s q)) (g':=λq=>Fm P (wq P c' t q)) (k:=k-2) (λj hj hne=>by
   show Fm P (wq P c' t j)=Fm P (wq P c s j);rw[hsame j hj hne]) (by omega)]
  show _-Fm P (wq P c s (k-2))+Fm P (wq P c' t (k-2))=_;rw[v1];omega
 have hmost:QE P nB c' t<=QE P nB c s:=NU NT λj hj=>by
  by_cases e:j=k-2
  .subst e;unfold Lf;rw[i1];exact NT
  .show Lf P (wq P c' t j)<=_;rw[hsame j hj e];exact UP (g:=λq=>Lf P (wq P c s q)) hj
 refine⟨by unfold G4;omega,?_⟩;have:=P3 (p:=λq=>CN (wq P c s q)) (q:=λq=>CN (wq P c' t q)) (k:=k-2) (n:=nB-2) λj hj hne=>by
  show CN (wq P c' t j)=CN (wq P c s j);rw[hsame j hj hne]
 unfold Bb;refine XaG this (Nat.add_le_add_left ?_ _);show(if CN (wq P c s (k-2))then 1 else 0)<=_;rw[w0];unfold CN
 by_cases e:ZK P s k=0
 .rw [if_pos e];split<;>omega
 .rw [if_neg e,if_neg (by simp;omega)];exact Xau _
def Vg(P nB S:Nat)(w:Zc)(seen:List Int)(b:List UInt8)(r:Int×Int×Zc):Prop:=
 ∃n e c',r=(n,e,wch w c')/\Fr P nB S seen w.Vol.Chip c'/\c'.Off=decide (e=7)/\c'.Ops+18*(Aw w.Vol.Chip:Int)<=w.Vol.Chip.Ops+18*(Aw c':Int)+18/\(e=0\/e=5\/e=7)/\
  (e=0->∃k j,n=Fc P k j/\2<=k/\k<nB/\j<P/\(j:Int)<(blk c' k).Used/\pg c' k j=b/\n∉seen)/\
  (w.Vol.Chip.Faults=[]->Aw w.Vol.Chip=0->w.beyond=false->∀m,0<=m->m+1<=G4 P nB w.Vol.Chip seen->1<=Bb P nB w.Vol.Chip seen->
   e=0/\Aw c'=0/\∀t,(∀x,x∈t↔x∈seen\/x=n)->m<=G4 P nB c' t/\1<=Bb P nB c' t)
theorem QI{P nB:Nat}{c:Chip}{seen:List Int}{k j:Nat} (hv:NL P nB c seen) (hj:j<P) (h:(blk c k).Used<=(j:Int)):Fc P k j∉seen:=λhx=>by
 rcases hv _ hx with e|⟨k',j',e,a1,a2,a3,a4⟩
 .have:=ET (P:=P) (k:=k) (j:=j);omega
 .obtain ⟨rfl,rfl⟩:=Ls hj a3 e;omega
theorem Xe{w:Zc}{at':List Int}{p:B9}{P nB S:Nat} (hc:CI P nB S w.Vol.Chip) (hg:Geo P nB S) (ho:w.Vol.Chip.Off=false) (hv:NL P nB w.Vol.Chip (w.Vol.At++at')) (h1:w.Vol.At.length<=1000) (h2:at'.length<=1000) (hm:Qi p S)
  (hops:w.Vol.Chip.Ops+300<=De):Et (Cq w p ([w.Vol.At,[]],at')) (Vg P nB S w (w.Vol.At++at') (BP (BR p S))):=by
 have g1:=hg.b5;have g2:=hg.b11;have hlen:=(Kv (n:=S) hm rfl).1;have hput:Y4 p (S:Int)=(BP (BR p S),0):=by
  unfold Y4;rw[if_pos hm,Xak]
 unfold Cq;rw[hc.siz,I6,Zb,hput,Zg (by simp)];unfold De at hops;refine Et.loop (λs=>∃c2,s=wch w c2/\Fr P nB S (w.Vol.At++at') w.Vol.Chip c2/\c2.Off=false/\c2.Ops+18*(Aw w.Vol.Chip:Int)<=w.Vol.Chip.Ops+18*(Aw c2:Int)/\(w.Vol.Chip.Faults=[]->Aw w.Vol.Chip=0->c2=w.Vol.Chip)) (λs=>nB-Aw s.Vol.Chip) (λs hs=>?_)
  ⟨w.Vol.Chip,rfl,Fr.refl hc,ho,by omega,λ_ _=>rfl⟩ (by show nB-Aw w.Vol.Chip<_;omega)
 obtain⟨c2,rfl,hf,hoff,hop,hnf⟩:=hs;have hbn:=Jn hf.ci;have hv2:=hf.held hv;unfold DH;refine Et.b (XF (w:=wch w c2) (at':=at') hf.ci hg hoff hv2 h1 h2 (by show c2.Ops+17<=De;unfold De;omega)) λx hx=>?_
 -- programming into a block that was chosen
 have key:∀(k:Nat) (c3:Chip) (x:Int×Int×Zc),x=((k:Int),0,wch w c3)->2<=k->k<nB->Fr P nB S (w.Vol.At++at') c2 c3->c3.Off=false->(blk c3 k).Bad=false->(blk c3 k).Used<P->c3.Ops<=c2.Ops+17->Aw c3=Aw c2->(blk c2 k).Bad=false->(∀i,i≠k->blk c3 i=blk c2 i)->
   ((blk c3 k).Used=(blk c2 k).Used\/ZK P (w.Vol.At++at') k=0/\(blk c2 k).Used=P/\(blk c3 k).Used=0)->(0<ZK P (w.Vol.At++at') k\/ZK P (w.Vol.At++at') k=0/\Pc P nB c2 (w.Vol.At++at'))->
   Et ((bif (decide (x.2.1=(0:Int)))then((RX x.1 x.2.2.Vol.Chip.Pages).bind λx_10=>(idx x.2.2.Vol.Chip.Blocks x.1).bind λx_11=>(AC x_10 x_11.Used).bind λx_12=>(AC x_12 (1:Int)).bind λx_13=>(ZS x.2.2 x.1 (BP (BR p S),(0:Int)).1).bind λx_14=>bif (decide (x_14.1=(0:Int)))then(some (.inr (x_13,(0:Int),x_14.2)):Option ((Int×Zc)⊕(Int×Int×Zc)))else(some (.inl (x_14.1,x_14.2))))else(some (.inl (x.2.1,x.2.2)))).bind λo_9=>elS o_9 (λs=>el2 s (λe_7 w_8=>bif (decide (e_7≠(9:Int)))then(some (.inr ((0:Int),e_7,w_8)):Option (Zc⊕(Int×Int×Zc)))else(some (.inl w_8)))) (λq=>some (.inr q)))
    (λx=>(∃s',x=.inl s'/\(∃c2,s'=wch w c2/\Fr P nB S (w.Vol.At++at') w.Vol.Chip c2/\c2.Off=false/\c2.Ops+18*(Aw w.Vol.Chip:Int)<=w.Vol.Chip.Ops+18*(Aw c2:Int)/\(w.Vol.Chip.Faults=[]->Aw w.Vol.Chip=0->c2=w.Vol.Chip))/\nB-Aw s'.Vol.Chip<nB-Aw c2)\/
     ∃e,x=.inr e/\Vg P nB S w (w.Vol.At++at') (BP (BR p S)) e):=by
  intro k c3 x hx k2 kB hf3 ho3 hb3 hu3 hop3 hbn3 hb2 hoth hused hcase;subst hx;dsimp only;have hB:=hf3.ci.blkR kB;have hv3:=hf3.held hv2;have hp8:=hg.p8;have hkP:k*P<=11*8:=Xb5 (by omega) hp8;have hpg:(wch w c3).Vol.Chip.Pages=P:=hf3.ci.pgs;have hch:(wch w c3).Vol.Chip=c3:=rfl;have hmul:(k:Int)*(P:Int)=((k*P:Nat):Int):=by simp
  rw[Zj (by simp),hpg,Gb (by rw[hmul];omega) (by rw[hmul];omega),Zb,hch,hf3.ci.idxB rfl kB,Zb,hmul,Aa (by omega) (by omega),Zb,Aa (by omega) (by omega),Zb];refine Et.b (P:=λo=>(∃c4 e,o=.inl (e,wch w c4)/\Rf P nB S c3 c4 k (BP (BR p S)) e/\e≠0)\/∃c4,o=.inr (((k*P:Nat):Int)+(blk c3 k).Used+1,0,wch w c4)/\Rf P nB S c3 c4 k (BP (BR p S)) 0)
   (Et.b (JP (w:=wch w c3) (z:=(k:Int)) rfl hf3.ci ho3 kB hb3 hu3 hlen (by show c3.Ops<De;unfold De;omega)) λr ⟨c4,e,hr,g⟩=>?_) λo ho'=>?_
  .subst hr
   by_cases e0:e=0
   .subst e0;rw[Zj (by simp)];exact Et.s (.inr ⟨c4,rfl,g⟩)
   .rw [Zg (by simpa using e0)];exact Et.s (.inl ⟨c4,e,rfl,g,e0⟩)
  .rcases ho' with⟨c4,e,rfl,g,e0⟩|⟨c4,rfl,g⟩
   .rw [ZU,CB];have hfr:=(hf.trans hf3).trans (g.fr k2);have gops:=g.ops;have gm:=g.many;have gnf:w.Vol.Chip.Faults=[]->e=0:=λa=>g.nf (hf3.flt.trans (hf.flt.trans a))
    by_cases e9:e=9
    .rw [Zg (by simpa using e9)];subst e9;rw[if_pos rfl]at gm;have:=Jn g.ci;exact Et.l ⟨c4,rfl,hfr,by rw[g.off];rfl,by omega,λa _=>absurd (gnf a) e0⟩ (by show nB-Aw c4<nB-Aw c2;omega)
    .rw [Zj (by simpa using e9)];rw[if_neg e9]at gm;have e7:e=7:=by have:=g.err;omega
     exact AN ⟨0,e,c4,rfl,hfr,g.off,by omega,.inr (.inr e7),λx=>absurd x e0,λa=>absurd (gnf a) e0⟩
   .rw [A2];have hfr:=(hf.trans hf3).trans (g.fr k2);have gops:=g.ops;have gm:=g.many;rw[if_neg (by decide)]at gm;have gu:=g.used;obtain⟨q,_,hq1,hq2⟩:=g.pgn;have hjP:(blk c3 k).Used.toNat<P:=by omega
    have hn:((k*P:Nat):Int)+(blk c3 k).Used+1=Fc P k (blk c3 k).Used.toNat:=by unfold Fc;omega
    have hni:Fc P k (blk c3 k).Used.toNat∉w.Vol.At++at':=QI hv3 hjP (by omega);refine AN ⟨_,0,c4,rfl,hfr,g.off,by omega,.inl rfl,λ_=>⟨k,(blk c3 k).Used.toNat,hn,k2,kB,hjP,by omega,by rw[hq2,hq1 rfl],by rw[hn];exact hni⟩,λa b hbey m hm0 hm1 hid=>⟨rfl,?_,λt ht=>?_⟩⟩
    .rw [gm,hbn3,hnf a b,b]
    .have hc2:c2=w.Vol.Chip:=hnf a b;rw[hn]at ht;have hl:=λi=>L6 (t:=t) hjP hni ht i
     have:=ZaB (c:=c2) (c':=c4) (s:=w.Vol.At++at') (t:=t) (k:=k) hf.ci hg k2 kB hb2 (by rw[g.bad];rfl) (λi hi=>(g.oth i hi).trans (hoth i hi)) hl (by
      rcases hused with e|⟨a1,a2,a3⟩
      .left;exact⟨by omega,by omega⟩
      .right;exact⟨a1,a2,by omega⟩)
     rw[<-hc2]at hm1 hid;refine⟨by omega,?_⟩;rcases hcase with e|⟨e,hNL⟩
     .rw [if_neg (by omega)]at this;omega
     .have:=RD hf.ci hg hNL (by omega)
      split at *<;>omega
 rcases hx with⟨k,k2,kB,kb,hx|⟨c3,e,hx,hcl,hlv,hus,hNL,hid⟩⟩|⟨hx,hNL,hid⟩
 .obtain ⟨hx,hu,hcase⟩:=hx;exact key k c2 x hx k2 kB (Fr.refl hf.ci) hoff kb hu (by omega) rfl kb (λ_ _=>rfl) (.inl rfl) (hcase.imp id λh=>⟨h.1,h.2.1⟩)
 .have clop:c3.Ops<=c2.Ops+17:=hcl.ops.2;have clm:Aw c3=Aw c2+if e=9 then 1 else 0:=hcl.many
  by_cases e0:e=0
  .subst e0;have hu0:(blk c3 k).Used=0:=hcl.used rfl;have hp2:=hg.p2;exact key k c3 x hx k2 kB (hcl.fr k2 hlv) (by rw[hcl.off];rfl) (by rw[hcl.bad];rfl) (by omega) clop (by rw[clm];rfl) kb hcl.oth (.inr ⟨hlv,hus,hu0⟩) (.inr ⟨hlv,hNL⟩)
  .subst hx;dsimp only;rw[Zg (by simpa using e0),Zb,ZU,CB];have hfr:=hf.trans (hcl.fr k2 hlv);have gnf:w.Vol.Chip.Faults=[]->e=0:=λa=>hcl.nf (hf.flt.trans a)
   by_cases e9:e=9
   .rw [Zg (by simpa using e9)];subst e9;rw[if_pos rfl]at clm;have:=Jn hcl.ci;exact Et.l ⟨c3,rfl,hfr,by rw[hcl.off];rfl,by omega,λa _=>absurd (gnf a) e0⟩ (by show nB-Aw c3<nB-Aw c2;omega)
   .rw [Zj (by simpa using e9)];rw[if_neg e9]at clm;have e7:e=7:=by have:=hcl.err;omega
    exact AN ⟨0,e,c3,rfl,hfr,hcl.off,by omega,.inr (.inr e7),λx=>absurd x e0,λa=>absurd (gnf a) e0⟩
 .subst hx;dsimp only;rw[Zg (by simp),Zb,ZU,CB,Zj (by simp)];refine AN ⟨0,5,c2,rfl,hf,hoff,by omega,.inr (.inl rfl),λx=>by omega,λa b hbey m hm0 hm1 hidl=>?_⟩
  exfalso
  have hc2:c2=w.Vol.Chip:=hnf a b;rw[<-hc2]at hm1 hidl;have hNL':Pc P nB c2 (w.Vol.At++at'):=hNL;have:=RD hf.ci hg hNL' (by omega);have hid':Bb P nB c2 (w.Vol.At++at')=0\/Bb P nB c2 (w.Vol.At++at')=1/\w.beyond=false:=hid;omega
theorem UH{at0:List Int}:([at0]:List (List Int)).flatten=at0:=by simp
theorem P5{w:Zc}{P nB S:Nat} (hc:CI P nB S w.Vol.Chip) (hg:Geo P nB S) (hv:NL P nB w.Vol.Chip w.Vol.At) (h1:w.Vol.At.length<=1000):Ay w [w.Vol.At]=some (AR P nB w.Vol.Chip w.Vol.At):=by
 have:=OZ hc hg (lists:=[w.Vol.At]) (by rw[UH];exact hv) (by simp) (λl hl=>by simp at hl;rw[hl];exact h1);rw[UH]at this;exact this
theorem Zaz{w:Zc}{P nB S:Nat} (hc:CI P nB S w.Vol.Chip) (hg:Geo P nB S) (hv:NL P nB w.Vol.Chip w.Vol.At) (h1:w.Vol.At.length<=1000) :
  CY w=some (G4 P nB w.Vol.Chip w.Vol.At,TM P nB w.Vol.Chip w.Vol.At):=by
 have g1:=hg.b5;have g2:=hg.b11;have g3:=hg.p2;have g4:=hg.p8;have hb:∀i,i<nB-2->0<=Fm P (wq P w.Vol.Chip w.Vol.At i)/\Fm P (wq P w.Vol.Chip w.Vol.At i)<=P:=λi hi=>by
  have:=Oh hc hg hv (k:=i+2) (by omega) (by omega);unfold WOk at this;unfold Fm wq
  split
  .omega
  .split<;>omega
 have hs:∀n,n<=nB-2->0<=Ce (λq=>Fm P (wq P w.Vol.Chip w.Vol.At q)) n/\Ce (λq=>Fm P (wq P w.Vol.Chip w.Vol.At q)) n<=88:=λn hn=>by
  have a:=NN (g:=λq=>Fm P (wq P w.Vol.Chip w.Vol.At q)) (c:=8) (n:=n) λk hk=>⟨(hb k (by omega)).1,by have:=(hb k (by omega)).2;show Fm P (wq P w.Vol.Chip w.Vol.At k)<=8;omega⟩
  omega
 have hx:∀n,n<=nB-2->0<=KU (λq=>Lf P (wq P w.Vol.Chip w.Vol.At q)) n/\KU (λq=>Lf P (wq P w.Vol.Chip w.Vol.At q)) n<=8:=λn hn=>⟨NT,NU (by omega) λk hk=>by
  have:=hb k (by omega);show Lf P _<=8;unfold Lf;split<;>omega⟩
 unfold CY;rw[P5 hc hg hv h1,Zb];refine Gg (Et.b (P:=λo=>o=(TM P nB w.Vol.Chip w.Vol.At,QE P nB w.Vol.Chip w.Vol.At)) (Et.loop (σ:=Int×Int×Int) (λs=>∃i:Nat,s.2.2=i/\i<=nB-2/\s.1=Ce (λq=>Fm P (wq P w.Vol.Chip w.Vol.At q)) i/\s.2.1=KU (λq=>Lf P (wq P w.Vol.Chip w.Vol.At q)) i)
  (λs=>nB-2-s.2.2.toNat) (λs hs'=>?_) ⟨0,rfl,by omega,rfl,rfl⟩ (by show nB-2-0<_;omega)) λo ho=>?_)
 .obtain ⟨al,mo,z⟩:=s;obtain⟨i,rfl,hi,rfl,rfl⟩:=hs';dsimp only;unfold D1;rw[B7]
  by_cases hlt:i<nB-2
  .have hb':=hb i hlt;have hs1:=hs i (by omega);have hx1:=hx i (by omega);rw[El hlt,Zu,Dp (d:=Qa) rfl (by rw[B7];exact hlt),Zb,DD (by rw[B7];exact hlt),EH,hc.pgs];have hww:AB P w.Vol.Chip w.Vol.At (i+2)=wq P w.Vol.Chip w.Vol.At i:=rfl;have hwok:=Oh hc hg hv (k:=i+2) (by omega) (by omega);rw[hww]at hwok⊢;unfold WOk at hwok;refine Et.b (P:=λo=>o=(Ce (λq=>Fm P (wq P w.Vol.Chip w.Vol.At q)) (i+1),KU (λq=>Lf P (wq P w.Vol.Chip w.Vol.At q)) (i+1))) ?_ λo ho=>?_
   .simp only[Ce,KU];generalize Ce (λq=>Fm P (wq P w.Vol.Chip w.Vol.At q)) i=s0 at hs1⊢;generalize KU (λq=>Lf P (wq P w.Vol.Chip w.Vol.At q)) i=m0 at hx1⊢;unfold Lf CN;unfold Fm at hb'⊢;cases hbad:(wq P w.Vol.Chip w.Vol.At i).Bad
    .rw [Zq,Ax (by omega) (by omega),Zb];rw[hbad]at hb';simp only[Xbu,if_false]at hb'⊢
     by_cases hl:(wq P w.Vol.Chip w.Vol.At i).Live=0
     .rw [Zj (by simp[hl])]
      by_cases hu:(wq P w.Vol.Chip w.Vol.At i).Used=P
      .rw [Zj (by simp[hu]),Zb,Zb,CB,Aa (by omega) (by omega),Zb];refine Et.s ?_;rw[if_pos ⟨hl,hu⟩];simp[hl]
      .rw [Zg (by simp;omega),Zb,Zb,CB,Aa (by omega) (by omega),Zb];refine Et.s ?_;rw[if_neg (λx=>hu x.2)];simp[hl]
     .rw [Zg (by simp[hl]),Zb,CB,Aa (by omega) (by omega),Zb];refine Et.s ?_;rw[if_neg (λx=>hl x.1)];simp[hl];exact(XgE hx1.1).symm
    .rw [Zu];refine Et.s ?_;simp;exact(XgE hx1.1).symm
   .subst ho;rw[CB,ZL (by omega),Zb];exact Et.l ⟨i+1,rfl,by omega,rfl,rfl⟩ (by show nB-2-(i+1)<nB-2-(i:Int).toNat;omega)
  .rw [I9 (by omega),Zq];have:i=nB-2:=by omega
   subst this;exact AN rfl
 .subst ho;have:=hs (nB-2) (Xau _);have:=hx (nB-2) (Xau _);rw[CB,Ax (by unfold TM QE;omega) (by unfold TM QE;omega),Zb];exact Et.s rfl
theorem VP{w:Zc}{P nB S:Nat} (hc:CI P nB S w.Vol.Chip) (hg:Geo P nB S) {L:Nat} (hL:w.Vol.Last=L) (hL2:L<2):Et (B5 w) (λx=>Aw w.Vol.Chip=0->x=P):=by
 have g1:=hg.b5;have ho1:(1:Int)-w.Vol.Last=((1-L:Nat):Int):=by omega
 unfold B5;rw[Ax (by omega) (by omega),Zb,ho1,hc.idxB rfl (by omega),Zb,MU hL hc (by omega),Zb];cases hb:(blk w.Vol.Chip (1-L)).Bad
 .rw [Zq,hc.idxB hL (by omega),Zb,MU rfl hc (by omega)];cases hb2:(blk w.Vol.Chip L).Bad
  .rw [BN,Zb,Xb4,Zq];exact Et.s λ_=>hc.pgs
  .rw [Av,Zb,Zb];have hno:Aw w.Vol.Chip≠0:=λe=>by rw[N4 hc (k:=L) (by omega) e]at hb2;cases hb2
   refine ZfL (λ_=>Et.s λe=>absurd e hno) λ_=>Et.s λe=>absurd e hno
 .rw [Zu];refine Et.s λe=>?_
  rw[N4 hc (k:=1-L) (by omega) e]at hb;cases hb
def Zfv(P nB:Nat)(w:Zc)(a:Int):Prop:=∃i:Nat,a=i/\i<nB-2/\(blk w.Vol.Chip (i+2)).Bad=false/\0<ZK P w.Vol.At (i+2)/\(ZK P w.Vol.At (i+2):Int)<(blk w.Vol.Chip (i+2)).Used
theorem Vu{w:Zc}{P nB S:Nat} (hc:CI P nB S w.Vol.Chip) (hg:Geo P nB S) (hv:NL P nB w.Vol.Chip w.Vol.At) (ho:w.Vol.Chip.Ops<De) :
  Et (B2 w (AR P nB w.Vol.Chip w.Vol.At)) (λr=>
   (∃i:Nat,r=((i:Int),true)/\i<nB-2/\(blk w.Vol.Chip (i+2)).Bad=false/\0<ZK P w.Vol.At (i+2)/\(ZK P w.Vol.At (i+2):Int)<(blk w.Vol.Chip (i+2)).Used)\/
   (r.2=false/\∀k,2<=k->k<nB->(blk w.Vol.Chip k).Bad=false->0<ZK P w.Vol.At k->(blk w.Vol.Chip k).Used<=(ZK P w.Vol.At k:Int))):=by
 have g1:=hg.b5;have g2:=hg.b11;have g3:=hg.p2;have g4:=hg.p8;have hD:(AR P nB w.Vol.Chip w.Vol.At).length=nB-2:=B7;have hW:=Gy hc hg hv;have hpk:∀i,(hi:i<nB-2)->(AR P nB w.Vol.Chip w.Vol.At)[i]'(by omega)=AB P w.Vol.Chip w.Vol.At (i+2):=λi hi=>EH _
 unfold B2;obtain⟨r,hr,hf⟩:=Ph (AR P nB w.Vol.Chip w.Vol.At) w.Vol.Chip.Pages;rw[hr,Zb];rw[hc.pgs]at hf;rcases UC hW hf with⟨i,hi,rfl,h1⟩|⟨rfl,hno⟩
 .rw [Zu];rw[hD]at hi;rw[hpk i hi]at h1;cases hb:(blk w.Vol.Chip (i+2)).Bad
  .rw [Ap hb]at h1;unfold ZeX at h1;rw[Zq]at h1;simp at h1;exact Et.s (.inl ⟨i,rfl,hi,hb,by omega,by omega⟩)
  .rw [Fj hb]at h1;unfold ZeX at h1;simp at h1
 .rw [Zq];refine Et.b (P:=λ(o:Int×Int)=>(0<o.2->Zfv P nB w o.1)/\
    (∀q,q<nB-2->(blk w.Vol.Chip (q+2)).Bad=false->0<ZK P w.Vol.At (q+2)->(blk w.Vol.Chip (q+2)).Used-(ZK P w.Vol.At (q+2):Int)<=o.2))
   (Et.loop (σ:=Int×Int×Int) (λs=>∃i:Nat,s.2.2=i/\i<=nB-2/\0<=s.2.1/\(0<s.2.1->Zfv P nB w s.1)/\
    (∀q,q<i->(blk w.Vol.Chip (q+2)).Bad=false->0<ZK P w.Vol.At (q+2)->(blk w.Vol.Chip (q+2)).Used-(ZK P w.Vol.At (q+2):Int)<=s.2.1))
    (λs=>nB-2-s.2.2.toNat) (λs hs=>?_) ⟨0,rfl,by omega,by decide,λx=>by simp at x,λq hq=>by omega⟩ (by show nB-2-0<_;omega)) λo ⟨o1,o2⟩=>?_
  .obtain ⟨a,m,z⟩:=s;obtain⟨i,rfl,hi,hm,hA,hB⟩:=hs;dsimp only at hm hA hB⊢;unfold Dm;rw[hD]
   by_cases hlt:i<nB-2
   .rw [El hlt,Zu,Zz (by omega),Zb,hpk i hlt];have hwo:=hc.worn (i+2) (by omega);have hkB:=hc.blkR (k:=i+2) (by omega);unfold De at ho;have hkeep:((blk w.Vol.Chip (i+2)).Bad=true\/ZK P w.Vol.At (i+2)=0)->(∀q,q<i+1->(blk w.Vol.Chip (q+2)).Bad=false->0<ZK P w.Vol.At (q+2)->(blk w.Vol.Chip (q+2)).Used-(ZK P w.Vol.At (q+2):Int)<=m):=λh q hq b1 b2=>by
     by_cases e:q=i
     .subst e;rcases h with h|h
      .rw [h]at b1;cases b1
      .omega
     .exact hB q (by omega) b1 b2
    cases hbad:(blk w.Vol.Chip (i+2)).Bad
    .rw [Ap hbad];have hlv:ZK P w.Vol.At (i+2)<=P:=KI
     by_cases hl:ZK P w.Vol.At (i+2)=0
     .have e:((false||decide ((ZK P w.Vol.At (i+2):Int)=0))||decide ((blk w.Vol.Chip (i+2)).Worn>=1099511627776))=true:=by simp[hl]
      dsimp only;rw[e,Zu,Zb,CB,ZL (by omega),Zb];exact Et.l ⟨i+1,rfl,by omega,hm,hA,hkeep (.inr hl)⟩ (by show nB-2-(i+1)<nB-2-(i:Int).toNat;omega)
     .have e:((false||decide ((ZK P w.Vol.At (i+2):Int)=0))||decide ((blk w.Vol.Chip (i+2)).Worn>=1099511627776))=false:=by simp[hl];omega
      dsimp only;rw[e,Zq,Ax (by omega) (by omega),Zb]
      by_cases hgt:(blk w.Vol.Chip (i+2)).Used-(ZK P w.Vol.At (i+2):Int)>m
      .rw [Zj (by simpa using hgt),Zb,CB,ZL (by omega),Zb];refine Et.l ⟨i+1,rfl,by omega,by dsimp only;omega,λ_=>⟨i,rfl,hlt,hbad,by omega,by omega⟩,λq hq b1 b2=>?_⟩ (by show nB-2-(i+1)<nB-2-(i:Int).toNat;omega);dsimp only
       by_cases e:q=i
       .subst e;exact XaJ _
       .have:=hB q (by omega) b1 b2;omega
      .rw [Zg (by simpa using hgt),Zb,CB,ZL (by omega),Zb];refine Et.l ⟨i+1,rfl,by omega,hm,hA,λq hq b1 b2=>?_⟩ (by show nB-2-(i+1)<nB-2-(i:Int).toNat;omega);dsimp only
       by_cases e:q=i
       .subst e;omega
       .exact hB q (by omega) b1 b2
    .rw [Fj hbad];dsimp only;rw[XcX,XcX,Zu,Zb,CB,ZL (by omega),Zb];exact Et.l ⟨i+1,rfl,by omega,hm,hA,hkeep (.inl hbad)⟩ (by show nB-2-(i+1)<nB-2-(i:Int).toNat;omega)
   .rw [I9 (by omega),Zq];have:i=nB-2:=by omega
    subst this;exact AN ⟨hA,hB⟩
  .obtain ⟨a,m⟩:=o;dsimp only at o1 o2;rw[CB];refine Et.s ?_
   by_cases hm:0<m
   .obtain ⟨i,rfl,h⟩:=o1 hm;exact .inl ⟨i,by simp[hm],h⟩
   .refine .inr ⟨by simpa using hm,λk k2 kB b1 b2=>?_⟩;have:=o2 (k-2) (by omega);rw[show k-2+2=k by omega]at this;have:=this b1 b2;omega
end Go.Proofs.YtkmojgfenlgchaaGreatDoor.Tr
