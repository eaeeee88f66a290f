/- What the proof leans on. Conditions: none. -/
import Derived.Test.YtkmojgfenlgchaaGreatDoorZTF2
set_option linter.all false
set_option linter.unusedSimpArgs false
set_option linter.unusedVariables false
set_option linter.unusedSectionVars false
namespace Go.Proofs.YtkmojgfenlgchaaGreatDoor.Tr
open Go
open Bool renaming and_eq_true->Xaz,eq_iff_iff->Xbt,and_false->XdV
open Classical renaming choose_spec->XeP,choose->Xfl
open Ct renaming mix->Xa4
open CtH renaming new->Xf5,same->Xg7
open Dat renaming iso->Xcl
open Decidable renaming not_not->XbX
open Env renaming set->TR,nil->Xaj
open Eq renaming trans->Xc2
open EqN renaming up->XeD,struct->Xgd,i64->XgZ
open Fam renaming one->XaS,nextS->XaV,nextN->XaW
open Fb renaming perm->Xcz
open Fld renaming iso->Xba,next->Xbc,fst->XbD,snd->XcG
open Ft renaming l->XgG
open Go.Builtin renaming zeroCells->XaT,firstCells->XbF,cap_->Xgy
open Go.ByteArray renaming extract_mk->Xfg
open Go.Call renaming operands->XaE
open Go.DataW renaming weightsEach->XcJ,weights->Xet,trod_int->Xe2,weightsAll->Xge,TrodAll->XgH,trod->Xg0
open Go.Deferred renaming ofValue->XbG
open Go.Exit renaming inBlock->Xcm
open Go.Instr renaming sliceBounds->Xa2,sliceBound->Xa8,sliceAt->Xbk,slice->XbY
open Go.IntKind renaming signed->XcI,bits->Xc6,min->Xfp,max->Xfq
open Go.Lit renaming int->XgW,wf->Xha
open Go.Op renaming operands->Xae
open Go.Oper renaming semAt_eq->Xdx,uponIn->XfZ
open Go.Region renaming wanted->Xa3
open Go.Result renaming andThen_ok->Xab
open Go.Sem renaming run_bind->Xag,run_pure->Xai
open Go.Value renaming int->XbR,okWide->XeA,bool->XgR
open Go.World renaming frozen?->Xgz,shape?->XgI
open Int renaming toNat->Xaa,toNat_natCast->Xak,le_refl->XaJ,eq_ofNat_of_zero_le->Xck,natCast_nonneg->XcM,toNat_of_nonneg->Xeu
open KP renaming refl->Xdg
open List renaming replicate->Xac,getD_eq_getElem?_getD->Xad,getElem?_eq_getElem->Xaf,nil_append->Xam,cons_append->Xan,mem_append->Xar,length->Xat,getElem?_eq_some_iff->Xav,mem_cons_of_mem->Xaw,getElem_mem->Xax,mem_cons_self->Xay,take_of_length_le->XaB,length_append->XaD,pairwise_append->XaH,length_replicate->XaK,mem_append_right->XaL,append_assoc->XaM,pairwise_cons->XaO,length_cons->XaP,getElem_of_mem->XaQ,append_nil->XaX,mem_cons->Xa1,range->Xbe,map_cons->Xbl,take_succ_eq_append_getElem->Xbo,take_length->Xbp,take_append_drop->Xbv,length_drop->XbP,map_toArray->Xb0,getElem_take->Xb6,set_getElem_self->Xcc,take_append_of_le_length->Xcf,map_nil->Xcy,flatten_append->XcB,range'_succ->XcE,perm_append_comm->XcO,drop_replicate->Xc0,take_take->Xdl,replicate_succ->XdJ,mem_map->XdO,drop_left->XdQ,drop_drop->XdR,foldl_append->XdZ,getElem?_toArray->Xek,foldl_cons->Xel,drop_left'->XeW,take_left->Xfj,getElem?_cons_zero->Xfo,ofFn->Xhb
open Nat renaming mul_le_mul_right->Xah,le_refl->Xau,le_trans->XaG,min_eq_left->XaY,blt->XaZ,add_mul->Xa6,mul_comm->Xbb,zero_add->Xbg,ble->Xbn,add_zero->Xbw,pow_le_pow_right->Xcg,zero_le->Xcq,mul_assoc->Xcr,pow_succ->XcY,zero_mul->Xc7,shiftLeft_eq->Xe8,pow_pos->Xg2,mod_one->Xg4
open OpT renaming makeSlice->XgN
open OpY renaming buildSlice->Xbx,val->XbH
open Option renaming map_some->Xbj,map_none->XbI
open PartsC renaming d->Xex
open Pl renaming mix->Xcw
open PlS renaming all->XaR
open TE renaming coll->Xb3
open TS renaming alloc->Xaq,box->Xa9,app->Xdt,build->XeE,coll->XfL
open Ty renaming enter->Xe5
open UInt32 renaming ofNat->XcC
open UInt64 renaming ofNat->Xap,lt_iff_toNat_lt->Xci,ofInt->Xcp,toNat_inj->XcN,toNat_ofNat_of_lt'->XcP,toNat_ofNat'->Xdv,toNat_add->XdU,toNat_mul->XfV
open UInt8 renaming ofInt->Xao,ofNat->XaN,toNat_inj->Xcs,toNat_toUInt64->XfD
open ZeM renaming set->XbM,refl->Xb2
set_option maxRecDepth 100000
section
open Go Go.RowKit
def DN{α:Type}[Dat α] (xs:List α):Ty:=⟨λA w v=>(D xs).p A w v/\(xs=[]->v=.slice none 0 0),λk ⟨h1,h2⟩=>⟨(D xs).keep k h1,h2⟩⟩
theorem Ro.dn{α:Type}[Dat α]:Ty.le Ro (DN ([]:List α)):=λA w v h=>⟨Ro.le A w v h,λ_=>h⟩
theorem Zgz{α:Type}[Dat α] {xs:List α}{τ:Ty}[k:ToD τ (List α) inferInstance xs] (h:xs≠[]):τ.le (DN xs):=λA w v hv=>⟨k.le A w v hv,λe=>absurd e h⟩
def ZfU(n:Nat):Option Unit:=if 0<n then some ()else none
theorem Zdo{α:Type}{xs:List α}{u:Unit} (h:ZfU xs.length=some u):xs≠[]:=λe=>by subst e;cases h
section nn
variable {P:Program}{B0:Nat}{A:Nat->Prop}{Ω:List Pe}{Γ:Env}{dst:Option Tmp}{ty:TypeId}{pos:String}{aft:Array Edge}{gd:Option (Nat×Bool)}{t e:TypeId}{x y:Operand}{τ σ:Ty}
theorem Wu{α:Type}[Dat α] [DecidableEq α] {xs:List α}[Has Γ x (DN xs)] [S:TSl P t e] :
  OpY P B0 A Ω Γ ⟨dst,.binOp .neq t x (.const (.slice none 0 0)) t,ty,pos,aft,gd⟩ (B (decide (xs≠[]))):=
 XbH λa w hl=>by
  obtain⟨⟨cs,⟨ad,c,h1,h2,h3,h3',h4⟩,h5⟩,hn⟩:=Zy (x:=x) (τ:=DN xs) (op:=.binOp .neq t x (.const (.slice none 0 0)) t) (by simp[Xae]) hl;subst h1;have e1:a.eval x=.slice ad xs.length c:=h5;refine⟨.bool (!ad.isNone),?_,?_⟩
  .have:(binOp .neq t (.slice ad xs.length c) (.slice none 0 0)).run P w=.ok (.bool (!ad.isNone)) w:=run_neq_slice_nil w t e ad xs.length c S.h;simp only[execOp,e1,evC,eqGuard_at_slice,Xag,Xai,Xab,this]
  .show XgR _=XgR _;congr 1
   by_cases h0:xs=[]
   .have:=hn h0;rw[e1]at this;injection this with q1;subst q1;simp[h0]
   .have hp:0<xs.length:=List.length_pos_iff.2 h0;obtain⟨b,off,q,_⟩:=h4 0 hp;subst q;simp[h0]
end nn
structure Txt where
 l:List UInt8
 deriving DecidableEq
instance ZdE:Dat Txt where
 agg:=false
 sz:=1
 rd _ _ cs x:=cs=[.string ⟨x.l.toArray⟩]
 wf _:=True
 len h:=FP h
 one _:=rfl
 pos:=Nat.one_pos
 ok _:=trivial
 plain _ h:=by simp at h;rw[h];rfl
 mono _ h:=h
 scal h v hv:=by rw[h]at hv;simp at hv;rw[hv];rfl
 z:=⟨[]⟩
 zc:=[.string ⟨#[]⟩]
 zrd:=rfl
theorem Zgy{x:Txt}:(D x).le (Str x.l):=λ_ _ _ h=>by have:=NM rfl h;simpa[Str,Ex,Dat.rd]using this
theorem Zgs{l:List UInt8}:(Str l).le (D (⟨l⟩:Txt)):=λ_ _ v h=>⟨[v],by have h:v=_:=h;rw[h];rfl,rfl⟩
instance {x:Txt}:AsStr (D x) x.l:=⟨Zgy⟩
instance {l:List UInt8}:ToD (Str l) Txt ZdE ⟨l⟩:=⟨Zgs⟩
section txt
variable {P:Program}{B0:Nat}{A:Nat->Prop}{Ω:List Pe}{Γ:Env}{dst:Option Tmp}{ty:TypeId}{pos:String}{aft:Array Edge}{gd:Option (Nat×Bool)}{t e:TypeId}{x y z:Operand}{τ σ ρ:Ty}
theorem Bo[Has Γ x τ]{l:List UInt8}{n:Int}[hx:AsStr τ l] [S:TStr P t] (h:Ky (l.length:Int)=some n) :
  OpY P B0 A Ω Γ ⟨dst,.call { callee:=.builtin .len,args:=#[x],argTypes:=#[t] },ty,pos,aft,gd⟩ (D n):=
 XbH λa w hl=>by
  have e1:a.eval x=.string ⟨l.toArray⟩:=hx.le _ _ _ (Zy (x:=x) (τ:=τ) (op:=.call { callee:=.builtin .len,args:=#[x],argTypes:=#[t] }) (by simp[Xae,XaE]) hl);obtain⟨rfl,h1,h2⟩:=CW h;refine⟨.int .i64 l.length,?_,[_],⟨rfl,h1,h2⟩,rfl⟩;have:(⟨l.toArray⟩:ByteArray).size=l.length:=by show l.toArray.size=_;simp
  simp[execOp,resolve,invoke,builtin,e1,run_len_string w t ty _ S.h,goInt,this]
theorem FN{l:List UInt8}{q:Int}{v:UInt8}[T:TStr P t] [Has Γ x τ] [hx:AsStr τ l] [Has Γ y σ] [hy:AsIx σ q] (h:idx l q=some v):OpY P B0 A Ω Γ ⟨dst,.index t x y,ty,pos,aft,gd⟩ (D v):=SG rfl h
theorem S1(l:List UInt8):(⟨l.toArray⟩:ByteArray).size=l.length:=by show l.toArray.size=_;simp
theorem Nx{l:List UInt8}{j:Int}{u:Unit}[T:TStr P t] [Has Γ x τ] [hx:AsStr τ l] [Has Γ z ρ] [hz:AsI ρ j] (h:cut l.length 0 j=some u) :
  OpY P B0 A Ω Γ ⟨dst,.slice t x none (some z) none,ty,pos,aft,gd⟩ (D (⟨l.take j.toNat⟩:Txt)):=
 XbH λa w hl=>by
  have e1:a.eval x=.string ⟨l.toArray⟩:=hx.le _ _ _ (Zy (x:=x) (τ:=τ) (op:=.slice t x none (some z) none) (by simp[Xae]) hl);have ez:a.eval z=.int .i64 j:=hz.le _ _ _ (Zy (x:=z) (τ:=ρ) (op:=.slice t x none (some z) none) (by simp[Xae]) hl);have hc:=ZX h;refine⟨_,?_,[_],rfl,rfl⟩;have:=run_slice_string_h (P:=P) w t ⟨l.toArray⟩ T.h .i64 j (by omega) (by rw[S1];omega);simp only[execOp,e1,ez,Xbj,XbI,run_sliceAt_string w t _ _ _ _ T.h,Xag,Xab,Xai,this,Xfg];simp;rfl
theorem Iq{l:List UInt8}{i:Int}{u:Unit}[T:TStr P t] [Has Γ x τ] [hx:AsStr τ l] [Has Γ y σ] [hy:AsI σ i] (h:cut l.length i l.length=some u) :
  OpY P B0 A Ω Γ ⟨dst,.slice t x (some y) none none,ty,pos,aft,gd⟩ (D (⟨l.drop i.toNat⟩:Txt)):=
 XbH λa w hl=>by
  have e1:a.eval x=.string ⟨l.toArray⟩:=hx.le _ _ _ (Zy (x:=x) (τ:=τ) (op:=.slice t x (some y) none none) (by simp[Xae]) hl);have ey:a.eval y=.int .i64 i:=hy.le _ _ _ (Zy (x:=y) (τ:=σ) (op:=.slice t x (some y) none none) (by simp[Xae]) hl);have hc:=ZX h;refine⟨_,?_,[_],rfl,rfl⟩;have:=run_slice_string_l (P:=P) w t ⟨l.toArray⟩ T.h .i64 i (by omega) (by rw[S1];omega);simp only[execOp,e1,ey,Xbj,XbI,run_sliceAt_string w t _ _ _ _ T.h,Xag,Xab,Xai,this,Xfg,S1];rw[XaB (by simp)];simp;rfl
class ExtIdx(P:Program)(f:FuncId):Prop where
 h:∀args w,(callFunc f args).run P w=((Extern.BytealgIndexByte.indexByte args).run P w).andThen λv w'=>.ok (.value v) w'
class ExtCnt(P:Program)(f:FuncId):Prop where
 h:∀args w,(callFunc f args).run P w=((Extern.BytealgCount.count args).run P w).andThen λv w'=>.ok (.value v) w'
def idxByte(l:List UInt8)(c:UInt8):Int:=firstIdx ⟨l.toArray⟩ c
def cntByte(l:List UInt8)(c:UInt8):Int:=Lib.countByte l c
theorem OpY.idxByte{f:FuncId}{ts:Array TypeId}{l:List UInt8}{c:UInt8}{n:Int}[F:ExtIdx P f] [h1:Has Γ x τ] [k1:AsStr τ l] [h2:Has Γ y σ] [k2:AsU8 σ c] (h:Ky (Tr.idxByte l c)=some n) :
  OpY P B0 A Ω Γ ⟨dst,.call { callee:=.value (.func f),args:=#[x,y],argTypes:=ts },ty,pos,aft,gd⟩ (D n):=λa w hB hu hp hl=>by
 have g1:a.eval x=.string ⟨l.toArray⟩:=k1.le _ _ _ (h1.le a A w λt e=>hl t (by simp[Xae,XaE,e]));have g2:a.eval y=.int .u8 c.toNat:=k2.le _ _ _ (h2.le a A w λt e=>hl t (by simp[Xae,XaE,e]));obtain⟨rfl,q1,q2⟩:=CW h;have hr:(Extern.BytealgIndexByte.indexByte #[a.eval x,a.eval y]).run P w=.ok (.int .i64 (Tr.idxByte l c)) w:=by
  rw[g1,g2,run_indexByte_string];unfold Tr.idxByte;rw[Xak];simp
 have:(execOp a.eval ⟨dst,.call { callee:=.value (.func f),args:=#[x,y],argTypes:=ts },ty,pos,aft,gd⟩).run P w=.ok (.value (.int .i64 (Tr.idxByte l c))) w:=by
  have e1:a.eval (.func f)=.func (.func f) #[] #[]:=rfl;simp only[execOp,resolve,XbG,e1,Xag,Xai,Xab,invoke,Array.append_empty,Array.empty_append];rw[show(#[x,y].map a.eval)=#[a.eval x,a.eval y]by simp,F.h,hr];rfl
 rw[this];exact⟨Xdg _ _,⟨[_],⟨rfl,q1,q2⟩,rfl⟩⟩
theorem OpY.cntByte{f:FuncId}{ts:Array TypeId}{l:List UInt8}{c:UInt8}{n:Int}[F:ExtCnt P f] [h1:Has Γ x τ] [k1:AsStr τ l] [h2:Has Γ y σ] [k2:AsU8 σ c] (h:Ky (Tr.cntByte l c)=some n) :
  OpY P B0 A Ω Γ ⟨dst,.call { callee:=.value (.func f),args:=#[x,y],argTypes:=ts },ty,pos,aft,gd⟩ (D n):=λa w hB hu hp hl=>by
 have g1:a.eval x=.string ⟨l.toArray⟩:=k1.le _ _ _ (h1.le a A w λt e=>hl t (by simp[Xae,XaE,e]));have g2:a.eval y=.int .u8 c.toNat:=k2.le _ _ _ (h2.le a A w λt e=>hl t (by simp[Xae,XaE,e]));obtain⟨rfl,q1,q2⟩:=CW h;have hr:(Extern.BytealgCount.count #[a.eval x,a.eval y]).run P w=.ok (.int .i64 (Tr.cntByte l c)) w:=by
  rw[g1,g2,Lib.run_countString];unfold Tr.cntByte;rw[Xak];simp
 have:(execOp a.eval ⟨dst,.call { callee:=.value (.func f),args:=#[x,y],argTypes:=ts },ty,pos,aft,gd⟩).run P w=.ok (.value (.int .i64 (Tr.cntByte l c))) w:=by
  have e1:a.eval (.func f)=.func (.func f) #[] #[]:=rfl;simp only[execOp,resolve,XbG,e1,Xag,Xai,Xab,invoke,Array.append_empty,Array.empty_append];rw[show(#[x,y].map a.eval)=#[a.eval x,a.eval y]by simp,F.h,hr];rfl
 rw[this];exact⟨Xdg _ _,⟨[_],⟨rfl,q1,q2⟩,rfl⟩⟩
end txt
theorem YG{α:Type}{i:Dat α} (h:Dat.agg α=true):Fld α i 0 α i (λx=>x) (λy _=>y) where
 agg:=h
 le:=by omega
 rd {A w cs x} h:=by have l:=Dat.len h;rw[show seg cs 0 (Dat.sz α)=cs by simp[seg,<-l]];exact h
 st {A w cs x es y} h k:=by
  have l:=Dat.len h;have l2:=Dat.len k;rw[show Ab cs 0 es=es by simp[Ab,l,l2]];exact k
section bw
variable {P:Program}{B0:Nat}{A:Nat->Prop}{Ω:List Pe}{Γ:Env}{dst:Option Tmp}{ty:TypeId}{pos:String}{aft:Array Edge}{gd:Option (Nat×Bool)}{t:TypeId}{x:Operand}
theorem Wx{C:Ct}{n bt:Nat}{α:Type}{i:Dat α}[T:TEl P t α i bt] [hx:Has Γ x (VC C)] [l:CtLen C n] (hn:n=Dat.sz α) (hu:∃fs,P.underlying t=some (.struct fs)/\fs.toList.mapM (λf=>(P.info? f.type).map λi=>(f.offset,i.size))=some [(0,n)]) :
  OpY P B0 A Ω Γ ⟨dst,.build t #[(0,x)],ty,pos,aft,gd⟩ (VC C):=
 XbH λa w hl=>by
  obtain⟨cs,h1,h2⟩:=Zy (x:=x) (τ:=VC C) (op:=.build t #[(0,x)]) (by simp[Xae]) hl;obtain⟨ti,z,i1,i2,i3,i4,i5⟩:=T.h;obtain⟨fs,u1,u2⟩:=hu;have hlen:=l.h h1;have hz:(Dat.zc α).length=n:=by rw[hn];exact Dat.len (Dat.zrd (A:=A) (w:=w))
  refine⟨.agg cs.toArray,?_,cs,h1,rfl⟩;have hc:(Value.agg cs.toArray).cells=cs.toArray:=rfl;have hb:P.built t ((#[(0,x)].map λ(i,x)=>(i,a.eval x)).toList)=some cs.toArray:=by
   unfold Program.built;rw[i1,u1];simp only[i2,u2,i5,h2];simp only[Xb0,Xbl,Xcy,Instr.fill,h2,hc];simp only[Xek,Xfo,List.size_toArray,hlen,hz];rw[if_neg (by simp)];have h5:=EE cs 0 0 (Dat.zc α) (by omega);simp only[Xbw,Xbg]at h5;have e2:Ab (Dat.zc α) 0 cs=cs:=by simp[Ab,hlen,hz]
   rw[e2]at h5;refine congrArg some (Xc2 ?_ h5);simp
  simp only[execOp,Xag,run_build w t _ cs.toArray hb,Xab,Xai]
end bw
theorem IS{Ω Ωr Δ:List Pe}{b:Nat}{pr:Prop}{C C':Ct}[h:Pick Ω b pr C Ωr] (e:∀A w cs,C.p A w cs->C'.p A w cs) (k:Fb Ωr Δ):Fb Ω (⟨b,pr,C'⟩::Δ):=(Xcz h.perm).trans ((Fb.cons k).trans (Ug e))
theorem Zek{P:Program}{Γ:Env}{F:Fam}{o:Oper}{C:Ct} (h:∀(B:Nat) (Ωs Ω:List Pe) (g:F.ν),OpT P B Ωs Ω (Env.or (F.Θ g) Γ) o (λg:Nat×Unit=>Sl g.1 True 0 2 2) λg=>⟨g.1,True,C⟩::Ω):OpV P Γ F o (λb=>Sl b True 0 2 2) C:=
 λB Ωs Ω g=>OpT.map (λq:Nat×Unit=>q.1) (λ_=>rfl) (λ_=>rfl) (h B Ωs Ω g)
section ts
variable {P:Program}{r:Ref}{n:Nat}{ops:Array Oper}{k:Nat}{rest:List Oper}{Γ:Env}{Ω Ωr:List Pe}{Q:Exit->Act->World->Prop}{ty:TypeId}{pos:String}{aft:Array Edge}{α:Type}{i:Dat α}{t e:TypeId}{bt:Nat}{d:Tmp}[op:Opens r]
theorem Zd6{x:Operand}{b o:Nat}[hx:Has Γ x (Pt b o)] (hd:XaZ d n=true)
  (hk:∀q,TS P r n ops rest (k+1) (Γ.set d (Pt q 0)) (⟨q,True,ZeN (Pt b o)⟩::Ω) Q):TS P r n ops (⟨some d,.box t x,ty,pos,aft,none⟩::rest) k Γ Ω Q:=
 D4 Zb1 hd λg=>hk g.1
theorem Yf[S:TSl P t e][T:TEl P e (List α) Bv bt]{x0 x1:Operand}{τ:Ty}{xs:List α}{b m c:Nat}{pr:Prop}[h0:Has Γ x0 τ] [k0:ToD τ (List α) Bv xs] [h1:Has Γ x1 (Sl b pr 0 m c)] (hd:XaZ d n=true)
  (hk:∀q,TS P r n ops rest (k+1) (Γ.set d (Sl q True 0 2 2)) (⟨q,True,Xa4 (Row [xs,[]] 2) 1 (Sl b pr 0 m c)⟩::Ω) Q):TS P r n ops (⟨some d,.buildSlice t 2 #[(0,x0),(1,x1)],ty,pos,aft,none⟩::rest) k Γ Ω Q:=
 D4 Qn hd λg=>hk g.1
theorem Zfx{pr:Prop}{C C':Ct} (b0:Nat) [pk:Pick Ω b0 pr C Ωr] (h:∀A w cs,pr->C.p A w cs->C'.p A w cs) (hk:TS P r n ops rest k Γ (⟨b0,pr,C'⟩::Ωr) Q):TS P r n ops rest k Γ Ω Q:=λhl a w hs=>hk hl a w ((hs.less (Xcz pk.perm)).less
 ⟨λj ⟨e,he,h1,h2⟩=>(by
  rcases Xa1.1 he with rfl|he
  .exact ⟨_,Xay ..,h1,h2⟩
  .exact ⟨e,Xaw _ he,h1,h2⟩),λhp=>XaO.2 ⟨λf hf h1 h2=>(XaO.1 hp).1 f hf h1 h2,(XaO.1 hp).2⟩,λA w hk e he h1=>by
  rcases Xa1.1 he with rfl|he
  .obtain ⟨cs,g1,g2⟩:=hk ⟨b0,pr,C⟩ (Xay ..) h1;exact⟨cs,g1,h _ _ _ h1 g2⟩
  .exact hk e (Xaw _ he) h1⟩)
end ts
def ExD{α:Type}[Dat α] (u:Value) (xs:List α):Ty:=⟨λA w v=>v=u/\(D xs).p A w v,λk ⟨h1,h2⟩=>⟨h1,(D xs).keep k h2⟩⟩
instance {α:Type}[i:Dat α] {u:Value}{xs:List α}:AsL (ExD u xs) α i xs:=⟨λ_ _ _ h=>h.2⟩
def Zf0(w:World)(v:Value):Prop:=∃q cs e,v=.slice (some ⟨q,0,none⟩) 1 1/\w.heap[q]?=some (.cells cs e (0,0))/\cs.size≠0
class ExtOvl(P:Program)(f:FuncId)(t:outParam TypeId):Prop where
 h:∀args w,(callFunc f args).run P w=((Extern.SlicesOverlaps.overlaps #[t,t] #[4] args).run P w).andThen λv w'=>.ok (.value v) w'
section ops
variable {P:Program}{B:Nat}{Ωs Ω Ωr:List Pe}{Γ:Env}{dst:Option Tmp}{ty:TypeId}{pos:String}{aft:Array Edge}{gd:Option (Nat×Bool)}{α:Type}{i:Dat α}{t u e:TypeId}{bt:Nat}{d:Tmp}
theorem Yx{A:Nat->Prop}{x:Operand}{b n c:Nat}{pr:Prop}[hx:Has Γ x (Sl b pr 0 n c)] [S:TSl P t e] :
  OpY P B A Ω Γ ⟨dst,.call { callee:=.builtin .cap,args:=#[x],argTypes:=#[t] },ty,pos,aft,gd⟩ (D ((c:Nat):Int)):=
 XbH λa w hl=>by
  have h:=Zy (x:=x) (τ:=Sl b pr 0 n c) (op:=.call { callee:=.builtin .cap,args:=#[x],argTypes:=#[t] }) (by simp[Xae,XaE]) hl;refine⟨.int .i64 (c:Nat),?_,[_],⟨rfl,?_⟩,rfl⟩
  .rcases h with⟨hp,hc,e1⟩|⟨hp,h1,rfl,e1⟩
   .simp [execOp,resolve,invoke,builtin,e1,Xgy,run_underlying S.h,goInt]
   .simp [execOp,resolve,invoke,builtin,e1,Xgy,run_underlying S.h,goInt]
  .rcases h with⟨hp,hc,e1⟩|⟨hp,h1,rfl,e1⟩
   .have:=hc.2;unfold maxLen at this;unfold FA;omega
   .unfold FA;omega
theorem T0{A:Nat->Prop}[S:TSl P t e] [T:TDat P e α i] {x z:Operand}{ρ:Ty}{b m c:Nat}{pr:Prop}{r:Int}[hx:Has Γ x (Sl b pr 0 m c)] [Has Γ z ρ] [hz:AsI ρ r] (h1:0<=r) (h2:r<=c) :
  OpY P B A Ω Γ ⟨dst,.slice t x none (some z) none,ty,pos,aft,gd⟩ (Sl b pr 0 r.toNat c):=
 XbH λa w hl=>by
  have h:=Zy (x:=x) (τ:=Sl b pr 0 m c) (op:=.slice t x none (some z) none) (by simp[Xae]) hl;have ez:a.eval z=.int .i64 r:=hz.le _ _ _ (Zy (x:=z) (τ:=ρ) (op:=.slice t x none (some z) none) (by simp[Xae]) hl);rcases h with⟨hp,hmc,ex⟩|⟨hp,rfl,rfl,ex⟩
  .refine ⟨.slice (some ⟨b,0,none⟩) r.toNat c,?_,.inl ⟨hp,⟨by omega,hmc.2⟩,rfl⟩⟩;have c1:0<=r/\r<=(c:Int):=by omega
   simp only[execOp,ex,ez,Xbk,XbY,Xbj,XbI,Xag,run_underlying S.h,Xab,Xa2,Xa8,asIntOf,Xai,c1,and_self,if_true,T.sz,Nat.sub_zero,Xc7,Bf,Xbw];congr 1
   split<;>rfl
  .have hr:r=0:=by omega
   subst hr;refine⟨.slice none 0 0,?_,.inr ⟨hp,rfl,rfl,rfl⟩⟩;simp[execOp,ex,ez,Xbk,XbY,run_underlying S.h,Xa2,Xa8,asIntOf,T.sz]
theorem Zb2[S:TSl P t e][T:TEl P e α i bt][U:TIn P u .i64]{s x:Operand}{σ:Ty}{n:Int}{b k c:Nat}{pr:Prop}{xs:List α}[hs:Has Γ s (Sl b pr 0 k c)] [hb:HasB Ω b pr (Row xs c)] [hx:Has Γ x σ] [kx:AsI σ n]
  (hpr:pr) (hk:k<=xs.length) (hn:0<n) (hc:c<k+n.toNat) (hr:(k+n.toNat)*bt<=140737488355328) (hm:k+n.toNat<=140737488351232) :
  OpT P B Ωs Ω Γ ⟨some d,.call { callee:=.builtin .append,args:=#[s,x],argTypes:=#[t,u] },ty,pos,aft,none⟩ (λg:Nat×Nat=>Sl g.1 True 0 (xs.take k++Xac n.toNat (Dat.z (α:=α))).length g.2)
   λg=>⟨g.1,True,Row (xs.take k++Xac n.toNat (Dat.z (α:=α))) g.2⟩::Ω:=
 GB (C:=λc=>Row (xs.take k++Xac n.toNat (Dat.z (α:=α))) c) rfl λA a w _ hks hl=>by
  obtain⟨m,rfl⟩:=Xck (show 0<=n by omega);simp only[Xak]at hc hr hm⊢;obtain⟨ti,z,hi1,hi2,hi3,hi4,hi5⟩:=T.h;have e1:=Zy (x:=s) (τ:=Sl b pr 0 k c) (op:=.call { callee:=.builtin .append,args:=#[s,x],argTypes:=#[t,u] }) (by simp[Xae,XaE]) hl;have e2:a.eval x=.int .i64 m:=kx.le _ _ _ (Zy (x:=x) (τ:=σ) (op:=.call { callee:=.builtin .append,args:=#[s,x],argTypes:=#[t,u] }) (by simp[Xae,XaE]) hl);obtain⟨hkc,e1⟩:(k<=c/\c<=maxLen)/\a.eval s=.slice (some ⟨b,0,none⟩) k c:=by
   rcases e1 with⟨-,h1,h2⟩|⟨hp,_⟩
   .exact ⟨h1,h2⟩
   .exact absurd hpr hp
  obtain⟨cs,g1,g2⟩:=hks _ (XaL _ hb.h) hpr;obtain⟨r1,r2,r3,r4,r5⟩:=g2;have hsz:=Dat.pos (α:=α);have hkl:k*Dat.sz α<=cs.length:=by rw[r1];exact Xah _ (by omega)
  have g1':Blk w.drew b cs:=g1;have hold:(XbF ti.size k (.slice (some ⟨b,0,none⟩) k c)).run P w.drew=.ok (seg cs 0 (k*Dat.sz α)).toArray w.drew:=by
   have:=Lm (P:=P) (w:=w.drew) (b:=b) (cs:=cs) (o:=0) (k:=k*Dat.sz α) g1' (by omega);simpa[XbF,hi3]using this
  have hle:Builtin.nextslicecap (k+m) c*ti.bytes<=281474976710656:=growslice_fits hc (by rw[hi4];exact hr);have hrun:=Lib.run_append_grow_zeros (P:=P) w t u ty e ti z .i64 .i64 S.h U.h hi1 hi2 (some ⟨b,0,none⟩) k c (seg cs 0 (k*Dat.sz α)) hold m (by omega) (by rw[hi3];exact hsz) hc (by omega) (by rw[hi4];have:=Xah bt (show m<=k+m by omega);omega) hle;have ge:=grownCap_ge w (k+m) c e;have cm:=grownCap_le_maxLen w (k+m) c e (by unfold maxLen;omega);generalize grownCap w (k+m) c e=gc at *;refine⟨gc,.slice (some ⟨w.heap.size,0,none⟩) (xs.take k++Xac m (Dat.z (α:=α))).length gc,w.drawn+1,seg cs 0 (k*Dat.sz α)++(XaT z.cells m).toList++(XaT z.cells (gc-(k+m))).toList,e,?_,λ_ _=>.inl ⟨trivial,⟨by simp;omega,cm⟩,rfl⟩,?_⟩
  .simp only[execOp,resolve,invoke,builtin,e1,e2,Xag,Xai,Xab,Xb0,Xbl,Xcy,hrun];congr 2
   .simp;exact(XaY (by omega)).symm
   .simp [World.drew]
  .have hz:=Sw (A:=A) (w:=w) (i:=i) hi5 (m:=m) (gc:=gc-k) (by omega) (by omega) (by unfold LG;omega);obtain⟨z1,z2,z3,z4,z5⟩:=hz;obtain⟨p1,p2⟩:=(Vh (i:=i) (c:=c) (n:=k) hk).rd (A:=A) (w:=w) (cs:=cs) ⟨r1,r2,r3,r4,r5⟩;have htl:(xs.take k).length=k:=by simp;omega
   rw[htl]at p1 p2;have hsl:(seg cs 0 (k*Dat.sz α)).length=k*Dat.sz α:=ZA (by omega);have e9:gc-(k+m)=gc-k-m:=by omega
   rw[Array.toList_append]at z1 z5;rw[e9,XaM];refine⟨?_,by simp;omega,cm,by simp;unfold LG;omega,A7.append p2 z5 (by rw[hsl,htl])⟩;rw[XaD,hsl,z1,<-Xa6];congr 1;omega
theorem Rl[S:TSl P t e][T:TEl P e α i bt]{x y:Operand}{b k m1 m2 o1 o2 c:Nat}{pr:Prop}{xs:List α}[hx:Has Γ x (Sv b pr o1 m1)] [hy:Has Γ y (Sv b pr o2 m2)] [pk:Pick Ω b pr (Row xs c) Ωr]
  (h1:o1=(k+1)*Dat.sz α) (h2:o2=k*Dat.sz α) (hk:k<xs.length) (hm1:m1=xs.length-k) (hm2:m2=xs.length+1-k) (hc:xs.length+1<=c) (hmo:xs.length+1<=LG) :
  OpT P B Ωs Ω Γ ⟨dst,.call { callee:=.builtin .copy,args:=#[x,y],argTypes:=#[t,u] },ty,pos,aft,none⟩ (λ_:Unit=>Ty.any) λ_=>⟨b,pr,Row (splice xs (k+1) (xs.drop k)) c⟩::Ωr:=
 O9 (C:=Row xs c) rfl λA a w hks hl=>by
  have e1:=hx.le a _ w λt ht=>hl t (by simp[Xae,XaE,<-ht])
  have e2:=hy.le a _ w λt ht=>hl t (by simp[Xae,XaE,<-ht])
  refine⟨.int .i64 (xs.length-k:Nat),λ_ _=>trivial,?_⟩;obtain⟨hp,c1,e1⟩:pr/\∃c1,a.eval x=.slice (some ⟨b,o1,none⟩) m1 c1:=by
   rcases e1 with⟨hp,o1',c1,e1,-,ho1⟩|⟨hp,h0,_⟩
   .obtain rfl:=ho1 (by omega);exact⟨hp,c1,e1⟩
   .omega
  obtain⟨c2,e2⟩:∃c2,a.eval y=.slice (some ⟨b,o2,none⟩) m2 c2:=by
   rcases e2 with⟨-,o2',c2,e2,-,ho2⟩|⟨hp',_⟩
   .obtain rfl:=ho2 (by omega);exact⟨c2,e2⟩
   .exact absurd hp hp'
  obtain⟨cs,g1,g2⟩:=hks ⟨b,pr,Row xs c⟩ (XaL _ (pk.perm.mem_iff.2 (Xay ..))) hp;have hlen:cs.length=c*Dat.sz α:=g2.1;have hp1:=PlS.row (i:=i) (xs:=xs) (c:=c) (k:=k) (n:=xs.length-k) (by omega);have hd:(xs.drop k).take (xs.length-k)=xs.drop k:=XaB (by simp);rw[hd]at hp1;obtain⟨q1,q2⟩:=hp1.rd g2;have hdl:(xs.drop k).length=xs.length-k:=by simp
  rw[hdl]at q1 q2;have hnews:(seg cs (k*Dat.sz α) ((xs.length-k)*Dat.sz α)).length=(xs.drop k).length*Dat.sz α:=by rw[ZA q1,hdl]
  have hsp:=Row.splice (k:=k+1) g2 q2 hnews (by omega) (by rw[hdl];omega) (by rw[hdl];unfold LG at *;omega);have hfit:(k+1)*Dat.sz α+(seg cs (k*Dat.sz α) ((xs.length-k)*Dat.sz α)).length<=cs.length:=by
   rw[hnews,hlen,<-Xa6,hdl];exact Xah _ (by omega)
  obtain⟨w',r1,r2,r3,r4⟩:=Bp (P:=P) g1 (o:=(k+1)*Dat.sz α) (vs:=seg cs (k*Dat.sz α) ((xs.length-k)*Dat.sz α)) hfit (λv hv=>q2.scal hnews v hv);refine .inr ⟨hp,w',cs,_,.inl ?_,g1,r2,r3,hsp⟩;have hld:=Lm (P:=P) g1 (o:=k*Dat.sz α) (k:=(xs.length-k)*Dat.sz α) q1;have emin:Nat.min (xs.length+1-k) (xs.length-k)=xs.length-k:=Nat.min_eq_right (by omega);subst hm1;subst hm2;subst h1;subst h2;have hfc:(XbF (Dat.sz α) (xs.length-k) (.slice (some ⟨b,k*Dat.sz α,none⟩) (xs.length+1-k) c2)).run P w=.ok (seg cs (k*Dat.sz α) ((xs.length-k)*Dat.sz α)).toArray w:=by
   simpa[XbF]using hld
  have r1':(storeCells ⟨b,(k+1)*Dat.sz α,none⟩ (seg cs (k*Dat.sz α) ((xs.length-k)*Dat.sz α)).toArray.toList).run P w=.ok () w':=by simpa using r1
  simp only[execOp,resolve,invoke,builtin,Builtin.copy_,e1,e2,Xb0,Xbl,Xcy,Xag,Xai,Xab,Xek,Xfo,List.getElem?_cons_succ,run_underlying S.h,Builtin.lenOf,T.d.sz,emin,hfc,r1',goInt]
end ops
section two
variable {P:Program}{r:Ref}{n:Nat}{ops:Array Oper}{k:Nat}{rest:List Oper}{Γ:Env}{Ω Ωr:List Pe}{Q:Exit->Act->World->Prop}{ty ty2:TypeId}{pos pos2:String}{aft aft2:Array Edge}{α:Type}{i:Dat α}{t e:TypeId}{bt:Nat}{d d2:Tmp}[op:Opens r]
theorem Sp[S:TSl P t e][T:TEl P e α i bt]{s y x:Operand}{τs τy σ:Ty}{z:α}{b:Nat}{pr:Prop}{C:Ct}{f:FuncId}{ts:Array TypeId}{ν:Type}{τ:ν->Ty}{Ω':ν->List Pe}[pk:Pick Ω b pr C Ωr] [hs:Has (Γ.set d (D [z])) s τs] [hy:Has (Γ.set d (D [z])) y τy] [hx:Has Γ x σ] [kx:ToD σ α i z] [F:Fun P f]
  (hsz:Dat.sz α<=16777216) (hd:XaZ d n=true) (hd2:XaZ d2 n=true)
  (hc:∀{A:Nat->Prop} w v0 v1 v2,(∀k,w.heap.size<=k->A k)->OwnIn A [⟨b,pr,C⟩]->Gh [⟨b,pr,C⟩]->Pks (Pub A [⟨b,pr,C⟩]) [⟨b,pr,C⟩] w->τs.p (Pub A [⟨b,pr,C⟩]) w v0->τy.p (Pub A [⟨b,pr,C⟩]) w v1->(D [z]).p (Pub A [⟨b,pr,C⟩]) w v2->Zf0 w v2->Calls P f #[v0,v1,v2] w (M7 A w [⟨b,pr,C⟩] τ Ω'))
  (hk:∀g,TS P r n ops rest (k+1+1) ((Γ.set d (D [z])).set d2 (τ g)) (Ω' g++Ωr) Q) :
  TS P r n ops (⟨some d,.buildSlice t 1 #[(0,x)],ty,pos,aft,none⟩::⟨some d2,.call { callee:=.value (.func f),args:=#[s,y,.tmp d],argTypes:=ts },ty2,pos2,aft2,none⟩::rest) k Γ Ω Q:=λhl a w hst=>by
 have h0:ops[k]?=some ⟨some d,.buildSlice t 1 #[(0,x)],ty,pos,aft,none⟩:=by simpa using (hl 0).symm
 have hl1:=F7 hl;have h1:ops[k+1]?=some ⟨some d2,.call { callee:=.value (.func f),args:=#[s,y,.tmp d],argTypes:=ts },ty2,pos2,aft2,none⟩:=by simpa using (hl1 0).symm
 haveI:HasAll Γ [x] α i [z]:=inferInstance
 obtain⟨v,w1,e1,hnew⟩:=Ii (P:=P) (t:=t) (e:=e) (bt:=bt) (A:=Pub r.A Ω) (dst:=some d) (ty:=ty) (pos:=pos) (aft:=aft) (gd:=none) (w:=w) (a:=a) [x] (ys:=[z]) (parts:=#[(0,x)]) (n:=1) rfl rfl (by omega) (λt ht=>hst.ty t);have hg:KP r.w.heap.size w w1:=hnew.new.grow hst.mu.size;have hD:(D [z]).p (Pub r.A Ω) w1 v:=hnew.new.reads hst.up;have hraw:Zf0 w1 v:=by
  obtain⟨cs,q,el,rfl,rfl,hr⟩:=hnew;refine⟨w.heap.size,cs.toArray,el,rfl,?_,?_⟩
  .exact heap_alloc_new ({ w with drawn:=q }:World) _
  .have:=hr.1;have h2:=Dat.pos (α:=α);simp only[XaP,List.length_nil]at this;simp[this];omega
 have hst1:Stt r n (Γ.set d (D [z])) Ω (a.put (some d) v) w1:=hst.put (d:=some d) (λt e=>by injection e with e;subst e;simpa using hd) hg hD;simp only[XaP,XcE];rw[wpOpsIn_cons];unfold wpOpIn;simp only[h0,Xa3,if_true];refine⟨λ_ _=>trivial,?_⟩;rw[Xdx _ _ _ (λc hc=>by cases hc),e1];simp only[XfZ];rw[wpOpsIn_cons];unfold wpOpIn;simp only[h1,Xa3,if_true];have hst2:=hst1.less (Xcz (pk.perm.trans (show(([⟨b,pr,C⟩]:List Pe)++Ωr).Perm (Ωr++[⟨b,pr,C⟩])from XcO)));have hlt:∀j,Own Ωr j->j<w1.heap.size:=λj hj=>(Bz.1 hst2.pv.ks).1.lt hj
 have ev:(a.put (some d) v).eval (.tmp d)=v:=by
  have:d<a.tmps.size:=by rw[hst.sz];simpa using hd
  simp[Act.eval,Act.put,this]
 have hcall:Ge P r.w.heap.size r.A Ωr [⟨b,pr,C⟩] τ Ω' w1 ((execOp (a.put (some d) v).eval ⟨some d2,.call { callee:=.value (.func f),args:=#[s,y,.tmp d],argTypes:=ts },ty2,pos2,aft2,none⟩).run P w1):=by
  have hr:(execOp (a.put (some d) v).eval ⟨some d2,.call { callee:=.value (.func f),args:=#[s,y,.tmp d],argTypes:=ts },ty2,pos2,aft2,none⟩).run P w1=.ok (.enter f #[(a.put (some d) v).eval s,(a.put (some d) v).eval y,v]) w1:=by
   have e1:(a.put (some d) v).eval (.func f)=.func (.func f) #[] #[]:=rfl;simp only[execOp,resolve,XbG,e1,ev,Xag,Xai,Xab,invoke,F.h,Array.append_empty,Array.empty_append,Xb0,Xbl,Xcy]
  rw[hr];have hq:Pub (Pub r.A Ωr) [⟨b,pr,C⟩]=Pub r.A (Ωr++[⟨b,pr,C⟩]):=LC;have hcc:=hc (A:=Pub r.A Ωr) w1 _ _ v (λk hk=>ZC.2 ⟨r.up k (XaG hst2.mu.size hk),λhj=>by have:=hlt k hj;omega⟩)
   ⟨λk hko=>ZC.2 ⟨op.h k (hst2.pv.own k (ZV.2 (.inr hko))),λ⟨e,he,h1,h2⟩=>by
    obtain⟨f,hf,h3,h4⟩:=hko;exact(XaH.1 hst2.pv.ap).2.2 e he f hf h1 h3 (h2.trans h4.symm)⟩⟩
   (XaH.1 hst2.pv.ap).2.1 (by rw[hq];exact(Bz.1 hst2.pv.ks).2) (by rw[hq];exact hs.le _ _ _ λt _=>hst2.ty t) (by rw[hq];exact hy.le _ _ _ λt _=>hst2.ty t) (by
    rw[hq];have:=hst2.ty d;simp only[TR,if_true]at this;have e9:(a.put (some d) v).tmps.getD d undef=v:=ev
    rwa [e9]at this) hraw
  refine hcc.mono λe w' ⟨v,g,h1,h2⟩=>⟨v,g,h1,h2.st.mono hst2.mu.size (λ_ h=>h),h2.nw,?_,by rw[<-LC];exact h2.ty,by rw[<-LC];exact h2.ks⟩
  refine XaH.2 ⟨(XaH.1 hst2.pv.ap).1,h2.ap,λx hx y hy h3 h4 h5=>?_⟩;rcases h2.nw y.b ⟨y,hy,h4,rfl⟩with⟨z,hz,h6,h7⟩|h6
  .exact (XaH.1 hst2.pv.ap).2.2 x hx z hz h3 h6 (h5.trans h7.symm)
  .have:=hlt x.b ⟨x,hx,h3,rfl⟩;omega
 exact DT hcall λg v' w' haf=>hk g (F7 hl1) _ w' ((hst2.T (d:=some d2) (λt e=>by injection e with e;subst e;simpa using hd2) haf).less (Xcz XcO))
theorem Zfy{f:FuncId}{ts:Array TypeId}[F:ExtOvl P f t] [S:TSl P t e] [T:TDat P e α i] {x y:Operand}{u:Value}{xs:List α}{b o m:Nat}{pr:Prop}{C:Ct}[hx:Has Γ x (ExD u xs)] [hy:Has Γ y (Sv b pr o m)] [hb:HasB Ω b pr C]
  (hpr:pr) (hraw:Zf0 r.w u) (hS:∀q l c,u=.slice (some ⟨q,0,none⟩) l c->¬r.S q) (hcs:∀A w cs,C.p A w cs->cs.length≠0) (hd:XaZ d n=true) (hm:0<m)
  (hk:TS P r n ops rest (k+1) (Γ.set d (D false)) Ω Q):TS P r n ops (⟨some d,.call { callee:=.value (.func f),args:=#[x,y],argTypes:=ts },ty,pos,aft,none⟩::rest) k Γ Ω Q:=λhl a w hst=>by
 have h0:ops[k]?=some ⟨some d,.call { callee:=.value (.func f),args:=#[x,y],argTypes:=ts },ty,pos,aft,none⟩:=by simpa using (hl 0).symm
 obtain⟨q,cq,el,rfl,hq,hne⟩:=hraw;have hlt:q<r.w.heap.size:=by
  rcases Nat.lt_or_ge q r.w.heap.size with h|h
  .exact h
  .rw [Array.getElem?_eq_none h]at hq;cases hq
 have hq':w.heap[q]?=some (.cells cq el (0,0)):=by rw[hst.mu.same q hlt (hS q 1 1 rfl)];exact hq
 obtain⟨ex,-⟩:=hx.le a _ w λt _=>hst.ty t
 have ey:=hy.le a _ w λt _=>hst.ty t
 obtain⟨c,ey⟩:∃c,a.eval y=.slice (some ⟨b,o,none⟩) m c:=by
  rcases ey with⟨-,o',c,ey,-,ho⟩|⟨hp,_⟩
  .obtain rfl:=ho hm;exact⟨c,ey⟩
  .exact absurd hpr hp
 obtain⟨cs,⟨eb,fb,g1,-⟩,g2⟩:=hst.pv.ks _ hb.h hpr;have hbq:q≠b:=λe=>by
  rcases hst.pv.own b ⟨_,hb.h,hpr,rfl⟩with h|h
  .omega
  .exact hS q 1 1 rfl (e▸h)
 have hcl:=hcs _ _ _ g2;have hr:(Extern.SlicesOverlaps.overlaps #[t,t] #[4] #[a.eval x,a.eval y]).run P w=.ok (.bool false) w:=by
  rw[ex,ey];exact Lib.run_overlaps_apart w t 4 e S.h (Dat.sz α) T.sz ⟨q,0,none⟩ ⟨b,o,none⟩ 1 1 m c hbq el eb cq.size cs.length (by unfold XgI;rw[hq']) (by unfold XgI;rw[g1];simp) hcl (by unfold Xgz;rw[hq'];simp) (by unfold Xgz;rw[hq'];simp)
 have hex:(execOp a.eval ⟨some d,.call { callee:=.value (.func f),args:=#[x,y],argTypes:=ts },ty,pos,aft,none⟩).run P w=.ok (.value (.bool false)) w:=by
  have e1:a.eval (.func f)=.func (.func f) #[] #[]:=rfl;simp only[execOp,resolve,XbG,e1,Xag,Xai,Xab,invoke,Array.append_empty,Array.empty_append];rw[show(#[x,y].map a.eval)=#[a.eval x,a.eval y]by simp,F.h,hr];rfl
 have hst1:Stt r n (Γ.set d (D false)) Ω (a.put (some d) (.bool false)) w:=hst.put (d:=some d) (τ:=D false) (λt e=>by injection e with e;subst e;simpa using hd) (Xdg _ _) ⟨[_],rfl,rfl⟩;simp only[XaP,XcE];rw[wpOpsIn_cons];unfold wpOpIn;simp only[h0,Xa3,if_true];refine⟨λ_ _=>trivial,?_⟩;rw[Xdx _ _ _ (λc hc=>by cases hc),hex];simp only[XfZ];exact hk (F7 hl) _ w hst1
end two
section rb
variable {α:Type}[i:Dat α]
def Wo(xs:List (List α))(c m:Nat):Ct:=⟨λA w cs=>(Row xs c).p A w cs/\∀j,m<=j->j<xs.length->cs.getD j undef=.slice none 0 0,λk ⟨h1,h2⟩=>⟨(Row xs c).keep k h1,h2⟩⟩
theorem Wo.len{xs:List (List α)}{c m:Nat}{A:Nat->Prop}{w:World}{cs:List Value} (h:(Wo xs c m).p A w cs):xs.length<=cs.length:=by
 obtain⟨⟨h1,h2,-⟩,-⟩:=h;have:Dat.sz (List α)=1:=rfl;rw[h1,this];omega
theorem Zee{xs:List (List α)}{c m o:Nat} (h:m<=o) (ho:o<xs.length):CeH (Wo xs c m) (0+o*Dat.sz (List α)) Ro:=⟨λ{A w cs} hc=>by
 have:=Wo.len hc;have e:0+o*Dat.sz (List α)=o:=by show 0+o*1=o;omega
 rw[e];exact⟨by omega,hc.2 o h ho⟩⟩
theorem Wo.st{xs:List (List α)}{c m o:Nat}{ys:List α} (h:o<m) (ho:o<xs.length):CtSet (Wo xs c m) (0+o*Dat.sz (List α)) (List α) Bv ys (Wo (xs.set o ys) c m):=⟨λ{A w cs ds} hc hd=>by
 have e:0+o*Dat.sz (List α)=o*Dat.sz (List α):=Xbg _;rw[e];obtain⟨g1,g2⟩:=(Row.set (i:=Bv) (c:=c) (y:=ys) ho).h hc.1 hd;refine⟨g1,g2,λj hj hl=>?_⟩;rw[List.length_set]at hl;have l:=Dat.len hd;have hsz:Dat.sz (List α)=1:=rfl;rw[ZT (by rw[l];exact g1),if_neg (by rw[l,hsz];omega)];exact hc.2 j hj hl⟩
theorem Wm{xs:List (List α)}{c m m' o:Nat}{τ:Ty} (h:m<=m') (ho:o<xs.length):CtH (Wo xs c m) (0+o*Dat.sz (List α)) τ (Xa4 (Wo xs c m') (0+o*Dat.sz (List α)) τ):=⟨λ{A w cs v} hc hv=>by
 have:=Wo.len hc;have e:0+o*Dat.sz (List α)=o:=by show 0+o*1=o;omega
 rw[e];exact⟨by omega,cs,v,⟨hc.1,λj hj=>hc.2 j (by omega)⟩,by omega,hv,rfl⟩⟩
theorem Wn{xs:List (List α)}{c:Nat} (ho:0<xs.length) {A:Nat->Prop}{w:World}{cs:List Value} (h:(Wo xs c 0).p A w cs):(Xa4 (Wo xs c 1) (0+Xaa 0*Dat.sz (List α)) (Sl 0 False 0 0 0)).p A w cs:=by
 have hl:=Wo.len h;have h0:=h.2 0 (Xau _) ho;have e:0+Xaa 0*Dat.sz (List α)=0:=by show 0+0*1=0;omega
 rw[e];refine⟨cs,.slice none 0 0,⟨h.1,λj _=>h.2 j (Xcq _)⟩,by omega,.inr ⟨λh=>h,rfl,rfl,rfl⟩,?_⟩;rw[<-h0,Xad,Xaf (by omega)];simp
theorem YC{P:Program}{B:Nat}{Ωs Ω:List Pe}{Γ:Env}{d:Tmp}{ty:TypeId}{pos:String}{aft:Array Edge}{t e:TypeId}{bt:Nat}[S:TSl P t e] [T:TEl P e (List α) Bv bt] {x y:Operand}{τ σ:Ty}{n:Int}{u:Unit}[hx:Has Γ x τ] [kx:AsI τ n] [hy:Has Γ y σ] [k:AsI σ n] (hr:Dv bt n=some u) :
  OpT P B Ωs Ω Γ ⟨some d,.makeSlice t x y,ty,pos,aft,none⟩ (λg:Nat×Unit=>Sl g.1 True 0 n.toNat n.toNat) λg=>⟨g.1,True,Wo (Xac n.toNat ([]:List α)) n.toNat 0⟩::Ω:=
 GB (C:=λ_=>Wo (Xac n.toNat ([]:List α)) n.toNat 0) rfl λA a w _ _ hl=>by
  obtain⟨r0,r1,r2⟩:=Ea hr;obtain⟨ti,z,hi1,hi2,hi3,hi4,hi5⟩:=T.h;have e0:a.eval x=.int .i64 n:=kx.le _ _ _ (Zy (x:=x) (τ:=τ) (op:=.makeSlice t x y) (by simp[Xae]) hl);have e1:a.eval y=.int .i64 n:=k.le _ _ _ (Zy (x:=y) (τ:=σ) (op:=.makeSlice t x y) (by simp[Xae]) hl);have hbb:(bt:Int)*n<=281474976710656:=by
   have h1:((bt*n.toNat:Nat):Int)<=281474976710656:=by omega
   rw[Int.natCast_mul,Xeu (by omega)]at h1;exact h1
  have hrm:=run_make (P:=P) w t e ti z S.h hi1 hi2 .i64 .i64 n n r0 (XaJ _) (by rw[hi4];exact hbb) (by omega);have hrun:(execOp a.eval ⟨some d,.makeSlice t x y,ty,pos,aft,none⟩).run P w=.ok (.value (.slice (some ⟨w.heap.size,0,none⟩) n.toNat n.toNat)) (w.alloc (.cells (madeCells z.cells (n.toNat*ti.size)) e)):=by
   simp only[execOp,Xag,Xai,e0,e1,hrm,Xab]
  obtain⟨cs,h1,h2⟩:=Ih (P:=P) (t:=t) (e:=e) (bt:=bt) (A:=A) (dst:=some d) (ty:=ty) (pos:=pos) (aft:=aft) (gd:=none) (α:=List α) (x:=x) (y:=y) (a:=a) (w:=w) r0 (XaJ _) r1 r2 hl;have hcs:cs=(madeCells z.cells (n.toNat*ti.size)).toList:=by
   rw[hrun]at h1;injection h1 with h1 h3;unfold World.alloc at h3;injection h3 with h3;have:=congrArg Array.back? h3;simp at this;rw[this]
  refine⟨(),_,w.drawn,cs,e,h1,λ_ _=>.inl ⟨trivial,⟨by omega,h2.2.2.1⟩,rfl⟩,h2,λj _ hj=>?_⟩;rw[XaK]at hj;have hsz:ti.size=1:=hi3;have hz:z.cells=#[.slice none 0 0]:=hi5;rw[hcs];simp[madeCells,Xad,hsz,hj,hz,Xg4]
end rb
section nile
variable {P:Program}{r:Ref}{n:Nat}{Γ:Env}{Ω:List Pe}{Q:Exit->Act->World->Prop}
theorem Yk{c:Code}(b:Nat)(α:Type)[i:Dat α](h:TC P r n Γ (⟨b,False,Row ([]:List α) 0⟩::Ω) c Q):TC P r n Γ Ω c Q:=
 TC.less (Kn λh=>h) h
theorem ZfB{c:Code}(b:Nat){pr:Prop}{C C':Ct}{Ωr:List Pe}[pk:Pick Ω b pr C Ωr] (h:∀A w cs,C.p A w cs->C'.p A w cs) (hk:TC P r n Γ (⟨b,pr,C'⟩::Ωr) c Q):TC P r n Γ Ω c Q:=
 TC.less ((Xcz pk.perm).trans (Ug h)) hk
end nile
structure Zo where
 Pages:(List (List UInt8))
 Used:Int
 Worn:Int
 Bad:Bool
def GD:Zo->((List (List UInt8))×(Int×(Int×Bool))):=λx=>(x.Pages,x.Used,x.Worn,x.Bad)
def Js:((List (List UInt8))×(Int×(Int×Bool)))->Zo:=λp=>⟨p.1,p.2.1,p.2.2.1,p.2.2.2⟩
instance IT:Dat Zo:=Xcl GD Js (λ_=>rfl)
instance :Inhabited Zo:=⟨Js default⟩
theorem YT{x y:Zo}(h:GD x=GD y):x=y:=by have e:=congrArg Js h;exact e
instance :DecidableEq Zo:=λx y=>if h:GD x=GD y then isTrue (YT h)else isFalse λe=>h (by rw[e])
instance :Fld Zo IT 0 (List (List UInt8)) inferInstance Zo.Pages (λy x=>⟨y,x.Used,x.Worn,x.Bad⟩):=Xba (f:=GD) (g:=Js) (h:=λ_=>rfl) (XbD (α:=(List (List UInt8))) (β:=(Int×(Int×Bool))))
instance :Fld Zo IT 1 Int inferInstance Zo.Used (λy x=>⟨x.Pages,y,x.Worn,x.Bad⟩):=Xba (f:=GD) (g:=Js) (h:=λ_=>rfl) (Xbc (α:=(List (List UInt8))) (β:=(Int×(Int×Bool))) (XbD (α:=Int) (β:=(Int×Bool))))
instance :Fld Zo IT 2 Int inferInstance Zo.Worn (λy x=>⟨x.Pages,x.Used,y,x.Bad⟩):=Xba (f:=GD) (g:=Js) (h:=λ_=>rfl) (Xbc (α:=(List (List UInt8))) (β:=(Int×(Int×Bool))) (Xbc (α:=Int) (β:=(Int×Bool)) (XbD (α:=Int) (β:=Bool))))
instance :Fld Zo IT 3 Bool inferInstance Zo.Bad (λy x=>⟨x.Pages,x.Used,x.Worn,y⟩):=Xba (f:=GD) (g:=Js) (h:=λ_=>rfl) (Xbc (α:=(List (List UInt8))) (β:=(Int×(Int×Bool))) (Xbc (α:=Int) (β:=(Int×Bool)) (XcG (α:=Int) (β:=Bool))))
structure Au where
 Op:Int
 Fail:Bool
 Cut:Bool
 Mask:UInt8
def GC:Au->(Int×(Bool×(Bool×UInt8))):=λx=>(x.Op,x.Fail,x.Cut,x.Mask)
def KQ:(Int×(Bool×(Bool×UInt8)))->Au:=λp=>⟨p.1,p.2.1,p.2.2.1,p.2.2.2⟩
instance Mu:Dat Au:=Xcl GC KQ (λ_=>rfl)
theorem YM{x y:Au}(h:GC x=GC y):x=y:=by have e:=congrArg KQ h;exact e
instance :DecidableEq Au:=λx y=>if h:GC x=GC y then isTrue (YM h)else isFalse λe=>h (by rw[e])
instance :Fld Au Mu 0 Int inferInstance Au.Op (λy x=>⟨y,x.Fail,x.Cut,x.Mask⟩):=Xba (f:=GC) (g:=KQ) (h:=λ_=>rfl) (XbD (α:=Int) (β:=(Bool×(Bool×UInt8))))
instance :Fld Au Mu 1 Bool inferInstance Au.Fail (λy x=>⟨x.Op,y,x.Cut,x.Mask⟩):=Xba (f:=GC) (g:=KQ) (h:=λ_=>rfl) (Xbc (α:=Int) (β:=(Bool×(Bool×UInt8))) (XbD (α:=Bool) (β:=(Bool×UInt8))))
instance :Fld Au Mu 2 Bool inferInstance Au.Cut (λy x=>⟨x.Op,x.Fail,y,x.Mask⟩):=Xba (f:=GC) (g:=KQ) (h:=λ_=>rfl) (Xbc (α:=Int) (β:=(Bool×(Bool×UInt8))) (Xbc (α:=Bool) (β:=(Bool×UInt8)) (XbD (α:=Bool) (β:=UInt8))))
instance :Fld Au Mu 3 UInt8 inferInstance Au.Mask (λy x=>⟨x.Op,x.Fail,x.Cut,y⟩):=Xba (f:=GC) (g:=KQ) (h:=λ_=>rfl) (Xbc (α:=Int) (β:=(Bool×(Bool×UInt8))) (Xbc (α:=Bool) (β:=(Bool×UInt8)) (XcG (α:=Bool) (β:=UInt8))))
structure Chip where
 Pages:Int
 Size:Int
 Blocks:(List Zo)
 Ops:Int
 Off:Bool
 Faults:(List Au)
def HC:Chip->(Int×(Int×((List Zo)×(Int×(Bool×(List Au)))))):=λx=>(x.Pages,x.Size,x.Blocks,x.Ops,x.Off,x.Faults)
def Ko:(Int×(Int×((List Zo)×(Int×(Bool×(List Au))))))->Chip:=λp=>⟨p.1,p.2.1,p.2.2.1,p.2.2.2.1,p.2.2.2.2.1,p.2.2.2.2.2⟩
instance HZ:Dat Chip:=Xcl HC Ko (λ_=>rfl)
theorem Zcb{x y:Chip}(h:HC x=HC y):x=y:=by have e:=congrArg Ko h;exact e
instance :DecidableEq Chip:=λx y=>if h:HC x=HC y then isTrue (Zcb h)else isFalse λe=>h (by rw[e])
instance :Fld Chip HZ 0 Int inferInstance Chip.Pages (λy x=>⟨y,x.Size,x.Blocks,x.Ops,x.Off,x.Faults⟩):=Xba (f:=HC) (g:=Ko) (h:=λ_=>rfl) (XbD (α:=Int) (β:=(Int×((List Zo)×(Int×(Bool×(List Au)))))))
instance :Fld Chip HZ 1 Int inferInstance Chip.Size (λy x=>⟨x.Pages,y,x.Blocks,x.Ops,x.Off,x.Faults⟩):=Xba (f:=HC) (g:=Ko) (h:=λ_=>rfl) (Xbc (α:=Int) (β:=(Int×((List Zo)×(Int×(Bool×(List Au)))))) (XbD (α:=Int) (β:=((List Zo)×(Int×(Bool×(List Au)))))))
instance :Fld Chip HZ 2 (List Zo) inferInstance Chip.Blocks (λy x=>⟨x.Pages,x.Size,y,x.Ops,x.Off,x.Faults⟩):=Xba (f:=HC) (g:=Ko) (h:=λ_=>rfl) (Xbc (α:=Int) (β:=(Int×((List Zo)×(Int×(Bool×(List Au)))))) (Xbc (α:=Int) (β:=((List Zo)×(Int×(Bool×(List Au))))) (XbD (α:=(List Zo)) (β:=(Int×(Bool×(List Au)))))))
instance :Fld Chip HZ 3 Int inferInstance Chip.Ops (λy x=>⟨x.Pages,x.Size,x.Blocks,y,x.Off,x.Faults⟩):=Xba (f:=HC) (g:=Ko) (h:=λ_=>rfl) (Xbc (α:=Int) (β:=(Int×((List Zo)×(Int×(Bool×(List Au)))))) (Xbc (α:=Int) (β:=((List Zo)×(Int×(Bool×(List Au))))) (Xbc (α:=(List Zo)) (β:=(Int×(Bool×(List Au)))) (XbD (α:=Int) (β:=(Bool×(List Au)))))))
instance :Fld Chip HZ 4 Bool inferInstance Chip.Off (λy x=>⟨x.Pages,x.Size,x.Blocks,x.Ops,y,x.Faults⟩):=Xba (f:=HC) (g:=Ko) (h:=λ_=>rfl) (Xbc (α:=Int) (β:=(Int×((List Zo)×(Int×(Bool×(List Au)))))) (Xbc (α:=Int) (β:=((List Zo)×(Int×(Bool×(List Au))))) (Xbc (α:=(List Zo)) (β:=(Int×(Bool×(List Au)))) (Xbc (α:=Int) (β:=(Bool×(List Au))) (XbD (α:=Bool) (β:=(List Au)))))))
instance :Fld Chip HZ 5 (List Au) inferInstance Chip.Faults (λy x=>⟨x.Pages,x.Size,x.Blocks,x.Ops,x.Off,y⟩):=Xba (f:=HC) (g:=Ko) (h:=λ_=>rfl) (Xbc (α:=Int) (β:=(Int×((List Zo)×(Int×(Bool×(List Au)))))) (Xbc (α:=Int) (β:=((List Zo)×(Int×(Bool×(List Au))))) (Xbc (α:=(List Zo)) (β:=(Int×(Bool×(List Au)))) (Xbc (α:=Int) (β:=(Bool×(List Au))) (XcG (α:=Bool) (β:=(List Au)))))))
structure Vol where
 Chip:Chip
 At:(List Int)
 Gen:UInt64
 Last:Int
def Mo:Vol->(Chip×((List Int)×(UInt64×Int))):=λx=>(x.Chip,x.At,x.Gen,x.Last)
def Qc:(Chip×((List Int)×(UInt64×Int)))->Vol:=λp=>⟨p.1,p.2.1,p.2.2.1,p.2.2.2⟩
instance Q5:Dat Vol:=Xcl Mo Qc (λ_=>rfl)
theorem Zd4{x y:Vol}(h:Mo x=Mo y):x=y:=by have e:=congrArg Qc h;exact e
instance :DecidableEq Vol:=λx y=>if h:Mo x=Mo y then isTrue (Zd4 h)else isFalse λe=>h (by rw[e])
instance :Fld Vol Q5 0 Chip inferInstance Vol.Chip (λy x=>⟨y,x.At,x.Gen,x.Last⟩):=Xba (f:=Mo) (g:=Qc) (h:=λ_=>rfl) (XbD (α:=Chip) (β:=((List Int)×(UInt64×Int))))
instance :Fld Vol Q5 6 (List Int) inferInstance Vol.At (λy x=>⟨x.Chip,y,x.Gen,x.Last⟩):=Xba (f:=Mo) (g:=Qc) (h:=λ_=>rfl) (Xbc (α:=Chip) (β:=((List Int)×(UInt64×Int))) (XbD (α:=(List Int)) (β:=(UInt64×Int))))
instance :Fld Vol Q5 7 UInt64 inferInstance Vol.Gen (λy x=>⟨x.Chip,x.At,y,x.Last⟩):=Xba (f:=Mo) (g:=Qc) (h:=λ_=>rfl) (Xbc (α:=Chip) (β:=((List Int)×(UInt64×Int))) (Xbc (α:=(List Int)) (β:=(UInt64×Int)) (XbD (α:=UInt64) (β:=Int))))
instance :Fld Vol Q5 8 Int inferInstance Vol.Last (λy x=>⟨x.Chip,x.At,x.Gen,y⟩):=Xba (f:=Mo) (g:=Qc) (h:=λ_=>rfl) (Xbc (α:=Chip) (β:=((List Int)×(UInt64×Int))) (Xbc (α:=(List Int)) (β:=(UInt64×Int)) (XcG (α:=UInt64) (β:=Int))))
structure Prefix where
 Bits:Int
 Len:Int
 Key:(Vec UInt8 16)
def E6:Prefix->(Int×(Int×(Vec UInt8 16))):=λx=>(x.Bits,x.Len,x.Key)
def Hv:(Int×(Int×(Vec UInt8 16)))->Prefix:=λp=>⟨p.1,p.2.1,p.2.2⟩
instance KM:Dat Prefix:=Xcl E6 Hv (λ_=>rfl)
instance :Inhabited Prefix:=⟨Hv default⟩
theorem Wr{x y:Prefix}(h:E6 x=E6 y):x=y:=by have e:=congrArg Hv h;exact e
instance :DecidableEq Prefix:=λx y=>if h:E6 x=E6 y then isTrue (Wr h)else isFalse λe=>h (by rw[e])
instance :Fld Prefix KM 0 Int inferInstance Prefix.Bits (λy x=>⟨y,x.Len,x.Key⟩):=Xba (f:=E6) (g:=Hv) (h:=λ_=>rfl) (XbD (α:=Int) (β:=(Int×(Vec UInt8 16))))
instance :Fld Prefix KM 1 Int inferInstance Prefix.Len (λy x=>⟨x.Bits,y,x.Key⟩):=Xba (f:=E6) (g:=Hv) (h:=λ_=>rfl) (Xbc (α:=Int) (β:=(Int×(Vec UInt8 16))) (XbD (α:=Int) (β:=(Vec UInt8 16))))
instance :Fld Prefix KM 2 (Vec UInt8 16) inferInstance Prefix.Key (λy x=>⟨x.Bits,x.Len,y⟩):=Xba (f:=E6) (g:=Hv) (h:=λ_=>rfl) (Xbc (α:=Int) (β:=(Int×(Vec UInt8 16))) (XcG (α:=Int) (β:=(Vec UInt8 16))))
structure Route where
 Prefix:Prefix
 Hop:UInt16
def HT:Route->(Prefix×UInt16):=λx=>(x.Prefix,x.Hop)
def KL:(Prefix×UInt16)->Route:=λp=>⟨p.1,p.2⟩
instance O0:Dat Route:=Xcl HT KL (λ_=>rfl)
instance :Inhabited Route:=⟨KL default⟩
theorem Yl{x y:Route}(h:HT x=HT y):x=y:=by have e:=congrArg KL h;exact e
instance :DecidableEq Route:=λx y=>if h:HT x=HT y then isTrue (Yl h)else isFalse λe=>h (by rw[e])
instance :Fld Route O0 0 Prefix inferInstance Route.Prefix (λy x=>⟨y,x.Hop⟩):=Xba (f:=HT) (g:=KL) (h:=λ_=>rfl) (XbD (α:=Prefix) (β:=UInt16))
instance :Fld Route O0 18 UInt16 inferInstance Route.Hop (λy x=>⟨x.Prefix,y⟩):=Xba (f:=HT) (g:=KL) (h:=λ_=>rfl) (XcG (α:=Prefix) (β:=UInt16))
structure Fib where
 Vol:Vol
 Table:(List Route)
def YI:Fib->(Vol×(List Route)):=λx=>(x.Vol,x.Table)
def YK:(Vol×(List Route))->Fib:=λp=>⟨p.1,p.2⟩
instance YL:Dat Fib:=Xcl YI YK (λ_=>rfl)
instance :Fld Fib YL 0 Vol inferInstance Fib.Vol (λy x=>⟨y,x.Table⟩):=Xba (f:=YI) (g:=YK) (h:=λ_=>rfl) (XbD (α:=Vol) (β:=(List Route)))
instance :Fld Fib YL 9 (List Route) inferInstance Fib.Table (λy x=>⟨x.Vol,y⟩):=Xba (f:=YI) (g:=YK) (h:=λ_=>rfl) (XcG (α:=Vol) (β:=(List Route)))
structure BA where
 Route:Route
 Gone:Bool
def Mx:BA->(Route×Bool):=λx=>(x.Route,x.Gone)
def My:(Route×Bool)->BA:=λp=>⟨p.1,p.2⟩
instance Nd:Dat BA:=Xcl Mx My (λ_=>rfl)
instance :Fld BA Nd 0 Route inferInstance BA.Route (λy x=>⟨y,x.Gone⟩):=Xba (f:=Mx) (g:=My) (h:=λ_=>rfl) (XbD (α:=Route) (β:=Bool))
instance :Fld BA Nd 19 Bool inferInstance BA.Gone (λy x=>⟨x.Route,y⟩):=Xba (f:=Mx) (g:=My) (h:=λ_=>rfl) (XcG (α:=Route) (β:=Bool))
structure Fg where
 Id:Int
 Body:(List UInt8)
def Uh:Fg->(Int×(List UInt8)):=λx=>(x.Id,x.Body)
def Ui:(Int×(List UInt8))->Fg:=λp=>⟨p.1,p.2⟩
instance Vn:Dat Fg:=Xcl Uh Ui (λ_=>rfl)
instance :Fld Fg Vn 0 Int inferInstance Fg.Id (λy x=>⟨y,x.Body⟩):=Xba (f:=Uh) (g:=Ui) (h:=λ_=>rfl) (XbD (α:=Int) (β:=(List UInt8)))
instance :Fld Fg Vn 1 (List UInt8) inferInstance Fg.Body (λy x=>⟨x.Id,y⟩):=Xba (f:=Uh) (g:=Ui) (h:=λ_=>rfl) (XcG (α:=Int) (β:=(List UInt8)))
structure Es where
 Len:Int
 Hop:UInt16
def TX:Es->(Int×UInt16):=λx=>(x.Len,x.Hop)
def TY:(Int×UInt16)->Es:=λp=>⟨p.1,p.2⟩
instance Vd:Dat Es:=Xcl TX TY (λ_=>rfl)
instance :Fld Es Vd 0 Int inferInstance Es.Len (λy x=>⟨y,x.Hop⟩):=Xba (f:=TX) (g:=TY) (h:=λ_=>rfl) (XbD (α:=Int) (β:=UInt16))
instance :Fld Es Vd 1 UInt16 inferInstance Es.Hop (λy x=>⟨x.Len,y⟩):=Xba (f:=TX) (g:=TY) (h:=λ_=>rfl) (XcG (α:=Int) (β:=UInt16))
structure ZZ where
 Slots:(Vec Es 16)
 Next:(Vec Int 16)
def Uc:ZZ->((Vec Es 16)×(Vec Int 16)):=λx=>(x.Slots,x.Next)
def Ud:((Vec Es 16)×(Vec Int 16))->ZZ:=λp=>⟨p.1,p.2⟩
instance Vm:Dat ZZ:=Xcl Uc Ud (λ_=>rfl)
instance :Fld ZZ Vm 0 (Vec Es 16) inferInstance ZZ.Slots (λy x=>⟨y,x.Next⟩):=Xba (f:=Uc) (g:=Ud) (h:=λ_=>rfl) (XbD (α:=(Vec Es 16)) (β:=(Vec Int 16)))
instance :Fld ZZ Vm 32 (Vec Int 16) inferInstance ZZ.Next (λy x=>⟨x.Slots,y⟩):=Xba (f:=Uc) (g:=Ud) (h:=λ_=>rfl) (XcG (α:=(Vec Es 16)) (β:=(Vec Int 16)))
structure Trie where
 Bits:Int
 Nodes:(List ZZ)
def TN:Trie->(Int×(List ZZ)):=λx=>(x.Bits,x.Nodes)
def TO:(Int×(List ZZ))->Trie:=λp=>⟨p.1,p.2⟩
instance Va:Dat Trie:=Xcl TN TO (λ_=>rfl)
instance :Fld Trie Va 0 Int inferInstance Trie.Bits (λy x=>⟨y,x.Nodes⟩):=Xba (f:=TN) (g:=TO) (h:=λ_=>rfl) (XbD (α:=Int) (β:=(List ZZ)))
instance :Fld Trie Va 1 (List ZZ) inferInstance Trie.Nodes (λy x=>⟨x.Bits,y⟩):=Xba (f:=TN) (g:=TO) (h:=λ_=>rfl) (XcG (α:=Int) (β:=(List ZZ)))
structure Zc where
 Vol:Vol
 beyond:Bool
def B3:Zc->(Vol×Bool):=λx=>(x.Vol,x.beyond)
def EW:(Vol×Bool)->Zc:=λp=>⟨p.1,p.2⟩
instance Jw:Dat Zc:=Xcl B3 EW (λ_=>rfl)
theorem ND{x y:Zc}(h:B3 x=B3 y):x=y:=by have e:=congrArg EW h;exact e
instance :DecidableEq Zc:=λx y=>if h:B3 x=B3 y then isTrue (ND h)else isFalse λe=>h (by rw[e])
instance :Fld Zc Jw 0 Vol inferInstance Zc.Vol (λy x=>⟨y,x.beyond⟩):=Xba (f:=B3) (g:=EW) (h:=λ_=>rfl) (XbD (α:=Vol) (β:=Bool))
instance :Fld Zc Jw 9 Bool inferInstance Zc.beyond (λy x=>⟨x.Vol,y⟩):=Xba (f:=B3) (g:=EW) (h:=λ_=>rfl) (XcG (α:=Vol) (β:=Bool))
structure Zk where
 Trie:Trie
def JF:Zk->Trie:=λx=>x.Trie
def JG:Trie->Zk:=λp=>⟨p⟩
instance Ba:Dat Zk:=Xcl JF JG (λ_=>rfl)
instance :Fld Zk Ba 0 Trie inferInstance Zk.Trie (λy x=>⟨y⟩):=Xba (f:=JF) (g:=JG) (h:=λ_=>rfl) (YG (i:=inferInstance) rfl)
structure AA where
 Gen:UInt64
 At:(List Int)
def Ra:AA->(UInt64×(List Int)):=λx=>(x.Gen,x.At)
def Rb:(UInt64×(List Int))->AA:=λp=>⟨p.1,p.2⟩
instance Sx:Dat AA:=Xcl Ra Rb (λ_=>rfl)
instance :Fld AA Sx 0 UInt64 inferInstance AA.Gen (λy x=>⟨y,x.At⟩):=Xba (f:=Ra) (g:=Rb) (h:=λ_=>rfl) (XbD (α:=UInt64) (β:=(List Int)))
instance :Fld AA Sx 1 (List Int) inferInstance AA.At (λy x=>⟨x.Gen,y⟩):=Xba (f:=Ra) (g:=Rb) (h:=λ_=>rfl) (XcG (α:=UInt64) (β:=(List Int)))
structure B9 where
 Kind:Int
 Id:Int
 Gen:UInt64
 Body:(List UInt8)
def O3:B9->(Int×(Int×(UInt64×(List UInt8)))):=λx=>(x.Kind,x.Id,x.Gen,x.Body)
def O4:(Int×(Int×(UInt64×(List UInt8))))->B9:=λp=>⟨p.1,p.2.1,p.2.2.1,p.2.2.2⟩
instance Ob:Dat B9:=Xcl O3 O4 (λ_=>rfl)
instance :Fld B9 Ob 0 Int inferInstance B9.Kind (λy x=>⟨y,x.Id,x.Gen,x.Body⟩):=Xba (f:=O3) (g:=O4) (h:=λ_=>rfl) (XbD (α:=Int) (β:=(Int×(UInt64×(List UInt8)))))
instance :Fld B9 Ob 1 Int inferInstance B9.Id (λy x=>⟨x.Kind,y,x.Gen,x.Body⟩):=Xba (f:=O3) (g:=O4) (h:=λ_=>rfl) (Xbc (α:=Int) (β:=(Int×(UInt64×(List UInt8)))) (XbD (α:=Int) (β:=(UInt64×(List UInt8)))))
instance :Fld B9 Ob 2 UInt64 inferInstance B9.Gen (λy x=>⟨x.Kind,x.Id,y,x.Body⟩):=Xba (f:=O3) (g:=O4) (h:=λ_=>rfl) (Xbc (α:=Int) (β:=(Int×(UInt64×(List UInt8)))) (Xbc (α:=Int) (β:=(UInt64×(List UInt8))) (XbD (α:=UInt64) (β:=(List UInt8)))))
instance :Fld B9 Ob 3 (List UInt8) inferInstance B9.Body (λy x=>⟨x.Kind,x.Id,x.Gen,y⟩):=Xba (f:=O3) (g:=O4) (h:=λ_=>rfl) (Xbc (α:=Int) (β:=(Int×(UInt64×(List UInt8)))) (Xbc (α:=Int) (β:=(UInt64×(List UInt8))) (XcG (α:=UInt64) (β:=(List UInt8)))))
structure Wear where
 Live:Int
 Used:Int
 Worn:Int
 Bad:Bool
def Jo:Wear->(Int×(Int×(Int×Bool))):=λx=>(x.Live,x.Used,x.Worn,x.Bad)
def LB:(Int×(Int×(Int×Bool)))->Wear:=λp=>⟨p.1,p.2.1,p.2.2.1,p.2.2.2⟩
instance Mn:Dat Wear:=Xcl Jo LB (λ_=>rfl)
instance :Inhabited Wear:=⟨LB default⟩
theorem ZbC{x y:Wear}(h:Jo x=Jo y):x=y:=by have e:=congrArg LB h;exact e
instance :DecidableEq Wear:=λx y=>if h:Jo x=Jo y then isTrue (ZbC h)else isFalse λe=>h (by rw[e])
instance :Flat Wear Mn:=Flat.iso (h:=λ_=>rfl) inferInstance
instance :Fld Wear Mn 0 Int inferInstance Wear.Live (λy x=>⟨y,x.Used,x.Worn,x.Bad⟩):=Xba (f:=Jo) (g:=LB) (h:=λ_=>rfl) (XbD (α:=Int) (β:=(Int×(Int×Bool))))
instance :Fld Wear Mn 1 Int inferInstance Wear.Used (λy x=>⟨x.Live,y,x.Worn,x.Bad⟩):=Xba (f:=Jo) (g:=LB) (h:=λ_=>rfl) (Xbc (α:=Int) (β:=(Int×(Int×Bool))) (XbD (α:=Int) (β:=(Int×Bool))))
instance :Fld Wear Mn 2 Int inferInstance Wear.Worn (λy x=>⟨x.Live,x.Used,y,x.Bad⟩):=Xba (f:=Jo) (g:=LB) (h:=λ_=>rfl) (Xbc (α:=Int) (β:=(Int×(Int×Bool))) (Xbc (α:=Int) (β:=(Int×Bool)) (XbD (α:=Int) (β:=Bool))))
instance :Fld Wear Mn 3 Bool inferInstance Wear.Bad (λy x=>⟨x.Live,x.Used,x.Worn,y⟩):=Xba (f:=Jo) (g:=LB) (h:=λ_=>rfl) (Xbc (α:=Int) (β:=(Int×(Int×Bool))) (Xbc (α:=Int) (β:=(Int×Bool)) (XcG (α:=Int) (β:=Bool))))
structure Zn where
 Wear:Wear
 pages:Int
def IV:Zn->(Wear×Int):=λx=>(x.Wear,x.pages)
def IW:(Wear×Int)->Zn:=λp=>⟨p.1,p.2⟩
instance K4:Dat Zn:=Xcl IV IW (λ_=>rfl)
instance :Fld Zn K4 0 Wear inferInstance Zn.Wear (λy x=>⟨y,x.pages⟩):=Xba (f:=IV) (g:=IW) (h:=λ_=>rfl) (XbD (α:=Wear) (β:=Int))
instance :Fld Zn K4 4 Int inferInstance Zn.pages (λy x=>⟨x.Wear,y⟩):=Xba (f:=IV) (g:=IW) (h:=λ_=>rfl) (XcG (α:=Wear) (β:=Int))
end
theorem mix:Tryz.prog.follows .mixedOrders=true:=by kernel_rfl
instance :TIn Tryz.prog 3 .i64:=⟨Tryz.underlying3⟩
instance :TEl Tryz.prog 3 Int inferInstance 8:=⟨⟨Tryz.isAgg3,Tryz.sizeOf3⟩,Tryz.t3,_,Tryz.type3,rfl,rfl,rfl,rfl⟩
instance :TEl Tryz.prog 4 Bool inferInstance 1:=⟨⟨Tryz.isAgg4,Tryz.sizeOf4⟩,Tryz.t4,_,Tryz.type4,rfl,rfl,rfl,rfl⟩
instance :TIn Tryz.prog 5 .u8:=⟨Tryz.underlying5⟩
instance :TEl Tryz.prog 5 UInt8 inferInstance 1:=⟨⟨Tryz.isAgg5,Tryz.sizeOf5⟩,Tryz.t5,_,Tryz.type5,rfl,rfl,rfl,rfl⟩
instance :TStr Tryz.prog 9:=⟨Tryz.underlying9⟩
instance :TEl Tryz.prog 9 Txt inferInstance 16:=⟨⟨Tryz.isAgg9,Tryz.sizeOf9⟩,Tryz.t9,_,Tryz.type9,rfl,rfl,rfl,rfl⟩
instance :TSl Tryz.prog 25 111:=⟨Tryz.underlying25⟩
instance :TEl Tryz.prog 25 (List Zo) inferInstance 24:=⟨⟨Tryz.isAgg25,Tryz.sizeOf25⟩,Tryz.t25,_,Tryz.type25,rfl,rfl,rfl,rfl⟩
instance :TSl Tryz.prog 26 120:=⟨Tryz.underlying26⟩
instance :TEl Tryz.prog 26 (List Au) inferInstance 24:=⟨⟨Tryz.isAgg26,Tryz.sizeOf26⟩,Tryz.t26,_,Tryz.type26,rfl,rfl,rfl,rfl⟩
instance :TFld Tryz.prog 28 0 3 0:=⟨_,_,Tryz.underlying28,rfl,rfl,rfl⟩
instance :TFld Tryz.prog 28 1 3 1:=⟨_,_,Tryz.underlying28,rfl,rfl,rfl⟩
instance :TFld Tryz.prog 28 2 25 2:=⟨_,_,Tryz.underlying28,rfl,rfl,rfl⟩
instance :TFld Tryz.prog 28 3 3 3:=⟨_,_,Tryz.underlying28,rfl,rfl,rfl⟩
instance :TFld Tryz.prog 28 4 4 4:=⟨_,_,Tryz.underlying28,rfl,rfl,rfl⟩
instance :TFld Tryz.prog 28 5 26 5:=⟨_,_,Tryz.underlying28,rfl,rfl,rfl⟩
instance :TEl Tryz.prog 28 Chip inferInstance 80:=⟨⟨Tryz.isAgg28,Tryz.sizeOf28⟩,Tryz.t28,_,Tryz.type28,rfl,rfl,rfl,rfl⟩
instance :TEl Tryz.prog 29 Int inferInstance 8:=⟨⟨Tryz.isAgg29,Tryz.sizeOf29⟩,Tryz.t29,_,Tryz.type29,rfl,rfl,rfl,rfl⟩
instance :TSl Tryz.prog 32 3:=⟨Tryz.underlying32⟩
instance :TEl Tryz.prog 32 (List Int) inferInstance 24:=⟨⟨Tryz.isAgg32,Tryz.sizeOf32⟩,Tryz.t32,_,Tryz.type32,rfl,rfl,rfl,rfl⟩
instance :TIn Tryz.prog 33 .u64:=⟨Tryz.underlying33⟩
instance :TEl Tryz.prog 33 UInt64 inferInstance 8:=⟨⟨Tryz.isAgg33,Tryz.sizeOf33⟩,Tryz.t33,_,Tryz.type33,rfl,rfl,rfl,rfl⟩
instance :TFld Tryz.prog 35 0 28 0:=⟨_,_,Tryz.underlying35,rfl,rfl,rfl⟩
instance :TFld Tryz.prog 35 1 32 6:=⟨_,_,Tryz.underlying35,rfl,rfl,rfl⟩
instance :TFld Tryz.prog 35 2 33 7:=⟨_,_,Tryz.underlying35,rfl,rfl,rfl⟩
instance :TFld Tryz.prog 35 3 3 8:=⟨_,_,Tryz.underlying35,rfl,rfl,rfl⟩
instance :TEl Tryz.prog 35 Vol inferInstance 120:=⟨⟨Tryz.isAgg35,Tryz.sizeOf35⟩,Tryz.t35,_,Tryz.type35,rfl,rfl,rfl,rfl⟩
instance :TSl Tryz.prog 36 87:=⟨Tryz.underlying36⟩
instance :TEl Tryz.prog 36 (List Route) inferInstance 24:=⟨⟨Tryz.isAgg36,Tryz.sizeOf36⟩,Tryz.t36,_,Tryz.type36,rfl,rfl,rfl,rfl⟩
instance :TFld Tryz.prog 38 0 35 0:=⟨_,_,Tryz.underlying38,rfl,rfl,rfl⟩
instance :TFld Tryz.prog 38 1 36 9:=⟨_,_,Tryz.underlying38,rfl,rfl,rfl⟩
instance :TEl Tryz.prog 38 Fib inferInstance 144:=⟨⟨Tryz.isAgg38,Tryz.sizeOf38⟩,Tryz.t38,_,Tryz.type38,rfl,rfl,rfl,rfl⟩
instance :TSl Tryz.prog 43 106:=⟨Tryz.underlying43⟩
instance :TEl Tryz.prog 43 (List BA) inferInstance 24:=⟨⟨Tryz.isAgg43,Tryz.sizeOf43⟩,Tryz.t43,_,Tryz.type43,rfl,rfl,rfl,rfl⟩
instance :TSl Tryz.prog 63 72:=⟨Tryz.underlying63⟩
instance :TIn Tryz.prog 68 .u16:=⟨Tryz.underlying68⟩
instance :TEl Tryz.prog 68 UInt16 inferInstance 2:=⟨⟨Tryz.isAgg68,Tryz.sizeOf68⟩,Tryz.t68,_,Tryz.type68,rfl,rfl,rfl,rfl⟩
instance :TSl Tryz.prog 70 5:=⟨Tryz.underlying70⟩
instance :TEl Tryz.prog 70 (List UInt8) inferInstance 24:=⟨⟨Tryz.isAgg70,Tryz.sizeOf70⟩,Tryz.t70,_,Tryz.type70,rfl,rfl,rfl,rfl⟩
instance :TFld Tryz.prog 72 0 3 0:=⟨_,_,Tryz.underlying72,rfl,rfl,rfl⟩
instance :TFld Tryz.prog 72 1 70 1:=⟨_,_,Tryz.underlying72,rfl,rfl,rfl⟩
instance :TEl Tryz.prog 72 Fg inferInstance 32:=⟨⟨Tryz.isAgg72,Tryz.sizeOf72⟩,Tryz.t72,_,Tryz.type72,rfl,rfl,rfl,rfl⟩
instance :TSl Tryz.prog 81 43:=⟨Tryz.underlying81⟩
instance :TAr Tryz.prog 83 16 5:=⟨Tryz.underlying83⟩
instance :TEl Tryz.prog 83 (Vec UInt8 16) inferInstance 16:=⟨⟨Tryz.isAgg83,Tryz.sizeOf83⟩,Tryz.t83,_,Tryz.type83,rfl,rfl,rfl,rfl⟩
instance :TFld Tryz.prog 85 0 3 0:=⟨_,_,Tryz.underlying85,rfl,rfl,rfl⟩
instance :TFld Tryz.prog 85 1 3 1:=⟨_,_,Tryz.underlying85,rfl,rfl,rfl⟩
instance :TFld Tryz.prog 85 2 83 2:=⟨_,_,Tryz.underlying85,rfl,rfl,rfl⟩
instance :TEl Tryz.prog 85 Prefix inferInstance 32:=⟨⟨Tryz.isAgg85,Tryz.sizeOf85⟩,Tryz.t85,_,Tryz.type85,rfl,rfl,rfl,rfl⟩
instance :TFld Tryz.prog 87 0 85 0:=⟨_,_,Tryz.underlying87,rfl,rfl,rfl⟩
instance :TFld Tryz.prog 87 1 68 18:=⟨_,_,Tryz.underlying87,rfl,rfl,rfl⟩
instance :TEl Tryz.prog 87 Route inferInstance 40:=⟨⟨Tryz.isAgg87,Tryz.sizeOf87⟩,Tryz.t87,_,Tryz.type87,rfl,rfl,rfl,rfl⟩
instance :TSl Tryz.prog 91 160:=⟨Tryz.underlying91⟩
instance :TEl Tryz.prog 91 (List ZZ) inferInstance 24:=⟨⟨Tryz.isAgg91,Tryz.sizeOf91⟩,Tryz.t91,_,Tryz.type91,rfl,rfl,rfl,rfl⟩
instance :TFld Tryz.prog 93 0 3 0:=⟨_,_,Tryz.underlying93,rfl,rfl,rfl⟩
instance :TFld Tryz.prog 93 1 91 1:=⟨_,_,Tryz.underlying93,rfl,rfl,rfl⟩
instance :TEl Tryz.prog 93 Trie inferInstance 32:=⟨⟨Tryz.isAgg93,Tryz.sizeOf93⟩,Tryz.t93,_,Tryz.type93,rfl,rfl,rfl,rfl⟩
instance :TFld Tryz.prog 106 0 87 0:=⟨_,_,Tryz.underlying106,rfl,rfl,rfl⟩
instance :TFld Tryz.prog 106 1 4 19:=⟨_,_,Tryz.underlying106,rfl,rfl,rfl⟩
instance :TEl Tryz.prog 106 BA inferInstance 48:=⟨⟨Tryz.isAgg106,Tryz.sizeOf106⟩,Tryz.t106,_,Tryz.type106,rfl,rfl,rfl,rfl⟩
instance :TSl Tryz.prog 109 70:=⟨Tryz.underlying109⟩
instance :TEl Tryz.prog 109 (List (List UInt8)) inferInstance 24:=⟨⟨Tryz.isAgg109,Tryz.sizeOf109⟩,Tryz.t109,_,Tryz.type109,rfl,rfl,rfl,rfl⟩
instance :TFld Tryz.prog 111 0 109 0:=⟨_,_,Tryz.underlying111,rfl,rfl,rfl⟩
instance :TFld Tryz.prog 111 1 3 1:=⟨_,_,Tryz.underlying111,rfl,rfl,rfl⟩
instance :TFld Tryz.prog 111 2 3 2:=⟨_,_,Tryz.underlying111,rfl,rfl,rfl⟩
instance :TFld Tryz.prog 111 3 4 3:=⟨_,_,Tryz.underlying111,rfl,rfl,rfl⟩
instance :TEl Tryz.prog 111 Zo inferInstance 48:=⟨⟨Tryz.isAgg111,Tryz.sizeOf111⟩,Tryz.t111,_,Tryz.type111,rfl,rfl,rfl,rfl⟩
instance :TFld Tryz.prog 120 0 3 0:=⟨_,_,Tryz.underlying120,rfl,rfl,rfl⟩
instance :TFld Tryz.prog 120 1 4 1:=⟨_,_,Tryz.underlying120,rfl,rfl,rfl⟩
instance :TFld Tryz.prog 120 2 4 2:=⟨_,_,Tryz.underlying120,rfl,rfl,rfl⟩
instance :TFld Tryz.prog 120 3 5 3:=⟨_,_,Tryz.underlying120,rfl,rfl,rfl⟩
instance :TEl Tryz.prog 120 Au inferInstance 16:=⟨⟨Tryz.isAgg120,Tryz.sizeOf120⟩,Tryz.t120,_,Tryz.type120,rfl,rfl,rfl,rfl⟩
instance :TPtr Tryz.prog 134:=⟨Tryz.isAgg134,Tryz.sizeOf134⟩
instance :TFld Tryz.prog 136 0 35 0:=⟨_,_,Tryz.underlying136,rfl,rfl,rfl⟩
instance :TFld Tryz.prog 136 1 4 9:=⟨_,_,Tryz.underlying136,rfl,rfl,rfl⟩
instance :TEl Tryz.prog 136 Zc inferInstance 128:=⟨⟨Tryz.isAgg136,Tryz.sizeOf136⟩,Tryz.t136,_,Tryz.type136,rfl,rfl,rfl,rfl⟩
instance :TFld Tryz.prog 153 0 93 0:=⟨_,_,Tryz.underlying153,rfl,rfl,rfl⟩
instance :TEl Tryz.prog 153 Zk inferInstance 32:=⟨⟨Tryz.isAgg153,Tryz.sizeOf153⟩,Tryz.t153,_,Tryz.type153,rfl,rfl,rfl,rfl⟩
instance :TFld Tryz.prog 156 0 3 0:=⟨_,_,Tryz.underlying156,rfl,rfl,rfl⟩
instance :TFld Tryz.prog 156 1 68 1:=⟨_,_,Tryz.underlying156,rfl,rfl,rfl⟩
instance :TEl Tryz.prog 156 Es inferInstance 16:=⟨⟨Tryz.isAgg156,Tryz.sizeOf156⟩,Tryz.t156,_,Tryz.type156,rfl,rfl,rfl,rfl⟩
instance :TAr Tryz.prog 157 16 156:=⟨Tryz.underlying157⟩
instance :TEl Tryz.prog 157 (Vec Es 16) inferInstance 256:=⟨⟨Tryz.isAgg157,Tryz.sizeOf157⟩,Tryz.t157,_,Tryz.type157,rfl,rfl,rfl,rfl⟩
instance :TAr Tryz.prog 158 16 3:=⟨Tryz.underlying158⟩
instance :TEl Tryz.prog 158 (Vec Int 16) inferInstance 128:=⟨⟨Tryz.isAgg158,Tryz.sizeOf158⟩,Tryz.t158,_,Tryz.type158,rfl,rfl,rfl,rfl⟩
instance :TFld Tryz.prog 160 0 157 0:=⟨_,_,Tryz.underlying160,rfl,rfl,rfl⟩
instance :TFld Tryz.prog 160 1 158 32:=⟨_,_,Tryz.underlying160,rfl,rfl,rfl⟩
instance :TEl Tryz.prog 160 ZZ inferInstance 384:=⟨⟨Tryz.isAgg160,Tryz.sizeOf160⟩,Tryz.t160,_,Tryz.type160,rfl,rfl,rfl,rfl⟩
instance :TFld Tryz.prog 193 0 33 0:=⟨_,_,Tryz.underlying193,rfl,rfl,rfl⟩
instance :TFld Tryz.prog 193 1 32 1:=⟨_,_,Tryz.underlying193,rfl,rfl,rfl⟩
instance :TEl Tryz.prog 193 AA inferInstance 32:=⟨⟨Tryz.isAgg193,Tryz.sizeOf193⟩,Tryz.t193,_,Tryz.type193,rfl,rfl,rfl,rfl⟩
instance :TMap Tryz.prog 196 3 197:=⟨Tryz.underlying196,Tryz.underlying3,⟨Tryz.t197,_,Tryz.type197,rfl,rfl⟩⟩
instance :TEmp Tryz.prog 197:=⟨by kernel_rfl,⟨Tryz.t197,_,Tryz.type197,rfl,rfl,rfl⟩⟩
instance :TFld Tryz.prog 202 0 3 0:=⟨_,_,Tryz.underlying202,rfl,rfl,rfl⟩
instance :TFld Tryz.prog 202 1 3 1:=⟨_,_,Tryz.underlying202,rfl,rfl,rfl⟩
instance :TFld Tryz.prog 202 2 33 2:=⟨_,_,Tryz.underlying202,rfl,rfl,rfl⟩
instance :TFld Tryz.prog 202 3 70 3:=⟨_,_,Tryz.underlying202,rfl,rfl,rfl⟩
instance :TEl Tryz.prog 202 B9 inferInstance 48:=⟨⟨Tryz.isAgg202,Tryz.sizeOf202⟩,Tryz.t202,_,Tryz.type202,rfl,rfl,rfl,rfl⟩
instance :TIn Tryz.prog 213 .u64:=⟨Tryz.underlying213⟩
instance :TAr Tryz.prog 218 20 5:=⟨Tryz.underlying218⟩
instance :TEl Tryz.prog 218 (Vec UInt8 20) inferInstance 20:=⟨⟨Tryz.isAgg218,Tryz.sizeOf218⟩,Tryz.t218,_,Tryz.type218,rfl,rfl,rfl,rfl⟩
instance :TSl Tryz.prog 234 32:=⟨Tryz.underlying234⟩
instance :TIn Tryz.prog 239 .u32:=⟨Tryz.underlying239⟩
instance :TSl Tryz.prog 255 109:=⟨Tryz.underlying255⟩
instance :TSl Tryz.prog 258 261:=⟨Tryz.underlying258⟩
instance :TFld Tryz.prog 261 0 3 0:=⟨_,_,Tryz.underlying261,rfl,rfl,rfl⟩
instance :TFld Tryz.prog 261 1 3 1:=⟨_,_,Tryz.underlying261,rfl,rfl,rfl⟩
instance :TFld Tryz.prog 261 2 3 2:=⟨_,_,Tryz.underlying261,rfl,rfl,rfl⟩
instance :TFld Tryz.prog 261 3 4 3:=⟨_,_,Tryz.underlying261,rfl,rfl,rfl⟩
instance :TEl Tryz.prog 261 Wear inferInstance 32:=⟨⟨Tryz.isAgg261,Tryz.sizeOf261⟩,Tryz.t261,_,Tryz.type261,rfl,rfl,rfl,rfl⟩
instance :TSl Tryz.prog 270 9:=⟨Tryz.underlying270⟩
instance :TFld Tryz.prog 282 0 261 0:=⟨_,_,Tryz.underlying282,rfl,rfl,rfl⟩
instance :TFld Tryz.prog 282 1 3 4:=⟨_,_,Tryz.underlying282,rfl,rfl,rfl⟩
instance :TEl Tryz.prog 282 Zn inferInstance 40:=⟨⟨Tryz.isAgg282,Tryz.sizeOf282⟩,Tryz.t282,_,Tryz.type282,rfl,rfl,rfl,rfl⟩
instance :TEl Tryz.prog 283 (F2 Tryz.prog Zn Zn Int) inferInstance 8:=⟨⟨Tryz.isAgg283,Tryz.sizeOf283⟩,Tryz.t283,_,Tryz.type283,rfl,rfl,rfl,rfl⟩
instance :TSl Tryz.prog 289 283:=⟨Tryz.underlying289⟩
theorem Vo:EqN Tryz.prog 83 (Vec UInt8 16) inferInstance 1:=Zer Tryz.underlying83 (EqN.u8 (n:=0) Tryz.underlying5)
theorem YQ:Tryz.prog.eqGuardType Tryz.prog.depth 83=false:=by decide +kernel
theorem Zc4:EqN Tryz.prog 85 Prefix inferInstance 2:=Xgd Tryz.underlying85 (by decide +kernel) rfl λ{A} w d {cs ds x y} hx hy=>by
 have h1:cs.length=Dat.sz Prefix:=Dat.len hx;have h2:ds.length=Dat.sz Prefix:=Dat.len hy;refine Xc2 (b:=.ok (decide (x.Bits=y.Bits)&&(decide (x.Len=y.Len)&&(decide (x.Key=y.Key)&&true))) w) ?_ ?_
 .exact (Gu (n:=1) (A:=A) (off:=0) (β:=Int) (a:=x.Bits) (b:=y.Bits) (by decide) rfl rfl (XeD (XgZ (n:=0) Tryz.underlying3) (by decide)) (by rw[h1];decide) (by rw[h2];decide) (Fld.rd (α:=Prefix) (off:=0) hx) (Fld.rd (α:=Prefix) (off:=0) hy) (Gu (n:=1) (A:=A) (off:=1) (β:=Int) (a:=x.Len) (b:=y.Len) (by decide) rfl rfl (XeD (XgZ (n:=0) Tryz.underlying3) (by decide)) (by rw[h1];decide) (by rw[h2];decide) (Fld.rd (α:=Prefix) (off:=1) hx) (Fld.rd (α:=Prefix) (off:=1) hy) (Gu (n:=1) (A:=A) (off:=2) (β:=(Vec UInt8 16)) (a:=x.Key) (b:=y.Key) (by decide) rfl rfl (XeD Vo (by decide)) (by rw[h1];decide) (by rw[h2];decide) (Fld.rd (α:=Prefix) (off:=2) hx) (Fld.rd (α:=Prefix) (off:=2) hy) Tv)))
 congr 1;cases x;cases y;rw[Xbt];simp
theorem ZfO:Tryz.prog.eqGuardType Tryz.prog.depth 85=false:=by decide +kernel
theorem YO:EqN Tryz.prog 87 Route inferInstance 3:=Xgd Tryz.underlying87 (by decide +kernel) rfl λ{A} w d {cs ds x y} hx hy=>by
 have h1:cs.length=Dat.sz Route:=Dat.len hx;have h2:ds.length=Dat.sz Route:=Dat.len hy;refine Xc2 (b:=.ok (decide (x.Prefix=y.Prefix)&&(decide (x.Hop=y.Hop)&&true)) w) ?_ ?_
 .exact (Gu (n:=2) (A:=A) (off:=0) (β:=Prefix) (a:=x.Prefix) (b:=y.Prefix) (by decide) rfl rfl (XeD Zc4 (by decide)) (by rw[h1];decide) (by rw[h2];decide) (Fld.rd (α:=Route) (off:=0) hx) (Fld.rd (α:=Route) (off:=0) hy) (Gu (n:=2) (A:=A) (off:=18) (β:=UInt16) (a:=x.Hop) (b:=y.Hop) (by decide) rfl rfl (XeD (EqN.u16 (n:=0) Tryz.underlying68) (by decide)) (by rw[h1];decide) (by rw[h2];decide) (Fld.rd (α:=Route) (off:=18) hx) (Fld.rd (α:=Route) (off:=18) hy) Tv))
 congr 1;cases x;cases y;rw[Xbt];simp
theorem YP:Tryz.prog.eqGuardType Tryz.prog.depth 87=false:=by decide +kernel
theorem Zeq:EqN Tryz.prog 120 Au inferInstance 1:=Xgd Tryz.underlying120 (by decide +kernel) rfl λ{A} w d {cs ds x y} hx hy=>by
 have h1:cs.length=Dat.sz Au:=Dat.len hx;have h2:ds.length=Dat.sz Au:=Dat.len hy;refine Xc2 (b:=.ok (decide (x.Op=y.Op)&&(decide (x.Fail=y.Fail)&&(decide (x.Cut=y.Cut)&&(decide (x.Mask=y.Mask)&&true)))) w) ?_ ?_
 .exact (Gu (n:=0) (A:=A) (off:=0) (β:=Int) (a:=x.Op) (b:=y.Op) (by decide) rfl rfl (XeD (XgZ (n:=0) Tryz.underlying3) (by decide)) (by rw[h1];decide) (by rw[h2];decide) (Fld.rd (α:=Au) (off:=0) hx) (Fld.rd (α:=Au) (off:=0) hy) (Gu (n:=0) (A:=A) (off:=1) (β:=Bool) (a:=x.Fail) (b:=y.Fail) (by decide) rfl rfl (XeD (EqN.bool (n:=0) Tryz.underlying4) (by decide)) (by rw[h1];decide) (by rw[h2];decide) (Fld.rd (α:=Au) (off:=1) hx) (Fld.rd (α:=Au) (off:=1) hy) (Gu (n:=0) (A:=A) (off:=2) (β:=Bool) (a:=x.Cut) (b:=y.Cut) (by decide) rfl rfl (XeD (EqN.bool (n:=0) Tryz.underlying4) (by decide)) (by rw[h1];decide) (by rw[h2];decide) (Fld.rd (α:=Au) (off:=2) hx) (Fld.rd (α:=Au) (off:=2) hy) (Gu (n:=0) (A:=A) (off:=3) (β:=UInt8) (a:=x.Mask) (b:=y.Mask) (by decide) rfl rfl (XeD (EqN.u8 (n:=0) Tryz.underlying5) (by decide)) (by rw[h1];decide) (by rw[h2];decide) (Fld.rd (α:=Au) (off:=3) hx) (Fld.rd (α:=Au) (off:=3) hy) Tv))))
 congr 1;cases x;cases y;rw[Xbt];simp
theorem Zes:Tryz.prog.eqGuardType Tryz.prog.depth 120=false:=by decide +kernel
instance :Fun Tryz.prog 7:=⟨Tryz.call7⟩
instance :Fun Tryz.prog 9:=⟨Tryz.call9⟩
instance :Fun Tryz.prog 10:=⟨Tryz.call10⟩
instance :Fun Tryz.prog 11:=⟨Tryz.call11⟩
instance :Fun Tryz.prog 12:=⟨Tryz.call12⟩
instance :Fun Tryz.prog 13:=⟨Tryz.call13⟩
instance :Fun Tryz.prog 14:=⟨Tryz.call14⟩
instance :Fun Tryz.prog 15:=⟨Tryz.call15⟩
instance :Fun Tryz.prog 16:=⟨Tryz.call16⟩
instance :Fun Tryz.prog 17:=⟨Tryz.call17⟩
instance :Fun Tryz.prog 18:=⟨Tryz.call18⟩
instance :Fun Tryz.prog 22:=⟨Tryz.call22⟩
instance :Fun Tryz.prog 23:=⟨Tryz.call23⟩
instance :Fun Tryz.prog 25:=⟨Tryz.call25⟩
instance :Fun Tryz.prog 31:=⟨Tryz.call31⟩
instance :Fun Tryz.prog 32:=⟨Tryz.call32⟩
instance :Fun Tryz.prog 33:=⟨Tryz.call33⟩
instance :Fun Tryz.prog 34:=⟨Tryz.call34⟩
instance :Fun Tryz.prog 35:=⟨Tryz.call35⟩
instance :Fun Tryz.prog 36:=⟨Tryz.call36⟩
instance :Fun Tryz.prog 37:=⟨Tryz.call37⟩
instance :Fun Tryz.prog 38:=⟨Tryz.call38⟩
instance :Fun Tryz.prog 39:=⟨Tryz.call39⟩
instance :Fun Tryz.prog 41:=⟨Tryz.call41⟩
instance :Fun Tryz.prog 42:=⟨Tryz.call42⟩
instance :Fun Tryz.prog 43:=⟨Tryz.call43⟩
instance :Fun Tryz.prog 44:=⟨Tryz.call44⟩
instance :Fun Tryz.prog 45:=⟨Tryz.call45⟩
instance :Fun Tryz.prog 46:=⟨Tryz.call46⟩
instance :Fun Tryz.prog 47:=⟨Tryz.call47⟩
instance :Fun Tryz.prog 48:=⟨Tryz.call48⟩
instance :Fun Tryz.prog 49:=⟨Tryz.call49⟩
instance :Fun Tryz.prog 50:=⟨Tryz.call50⟩
instance :Fun Tryz.prog 51:=⟨Tryz.call51⟩
instance :Fun Tryz.prog 52:=⟨Tryz.call52⟩
instance :Fun Tryz.prog 53:=⟨Tryz.call53⟩
instance :Fun Tryz.prog 54:=⟨Tryz.call54⟩
instance :Fun Tryz.prog 55:=⟨Tryz.call55⟩
instance :Fun Tryz.prog 56:=⟨Tryz.call56⟩
instance :Fun Tryz.prog 57:=⟨Tryz.call57⟩
instance :Fun Tryz.prog 58:=⟨Tryz.call58⟩
instance :Fun Tryz.prog 59:=⟨Tryz.call59⟩
instance :Fun Tryz.prog 60:=⟨Tryz.call60⟩
instance :Fun Tryz.prog 61:=⟨Tryz.call61⟩
instance :Fun Tryz.prog 64:=⟨Tryz.call64⟩
instance :Fun Tryz.prog 65:=⟨Tryz.call65⟩
instance :Fun Tryz.prog 66:=⟨Tryz.call66⟩
instance :Fun Tryz.prog 67:=⟨Tryz.call67⟩
instance :Fun Tryz.prog 68:=⟨Tryz.call68⟩
instance :Fun Tryz.prog 69:=⟨Tryz.call69⟩
instance :Fun Tryz.prog 70:=⟨Tryz.call70⟩
instance :Fun Tryz.prog 71:=⟨Tryz.call71⟩
instance :Fun Tryz.prog 72:=⟨Tryz.call72⟩
instance :Fun Tryz.prog 76:=⟨Tryz.call76⟩
instance :Fun Tryz.prog 77:=⟨Tryz.call77⟩
instance :Fun Tryz.prog 78:=⟨Tryz.call78⟩
instance :Fun Tryz.prog 79:=⟨Tryz.call79⟩
instance :Fun Tryz.prog 80:=⟨Tryz.call80⟩
instance :Fun Tryz.prog 81:=⟨Tryz.call81⟩
instance :Fun Tryz.prog 82:=⟨Tryz.call82⟩
instance :Fun Tryz.prog 83:=⟨Tryz.call83⟩
instance :Fun Tryz.prog 84:=⟨Tryz.call84⟩
instance :Fun Tryz.prog 85:=⟨Tryz.call85⟩
instance :Fun Tryz.prog 86:=⟨Tryz.call86⟩
instance :Fun Tryz.prog 87:=⟨Tryz.call87⟩
instance :Fun Tryz.prog 88:=⟨Tryz.call88⟩
instance :Fun Tryz.prog 89:=⟨Tryz.call89⟩
instance :Fun Tryz.prog 90:=⟨Tryz.call90⟩
instance :Fun Tryz.prog 91:=⟨Tryz.call91⟩
instance :Fun Tryz.prog 92:=⟨Tryz.call92⟩
instance :Fun Tryz.prog 93:=⟨Tryz.call93⟩
instance :Fun Tryz.prog 94:=⟨Tryz.call94⟩
instance :Fun Tryz.prog 95:=⟨Tryz.call95⟩
instance :Fun Tryz.prog 96:=⟨Tryz.call96⟩
instance :Fun Tryz.prog 97:=⟨Tryz.call97⟩
instance :Fun Tryz.prog 98:=⟨Tryz.call98⟩
instance :Fun Tryz.prog 99:=⟨Tryz.call99⟩
instance :Fun Tryz.prog 100:=⟨Tryz.call100⟩
instance :Fun Tryz.prog 101:=⟨Tryz.call101⟩
instance :Fun Tryz.prog 102:=⟨Tryz.call102⟩
instance :Fun Tryz.prog 103:=⟨Tryz.call103⟩
instance :Fun Tryz.prog 104:=⟨Tryz.call104⟩
instance :Fun Tryz.prog 105:=⟨Tryz.call105⟩
instance :Fun Tryz.prog 106:=⟨Tryz.call106⟩
instance :Fun Tryz.prog 107:=⟨Tryz.call107⟩
instance :Fun Tryz.prog 108:=⟨Tryz.call108⟩
instance :Fun Tryz.prog 109:=⟨Tryz.call109⟩
instance :Fun Tryz.prog 110:=⟨Tryz.call110⟩
instance :Fun Tryz.prog 113:=⟨Tryz.call113⟩
instance :Fun Tryz.prog 114:=⟨Tryz.call114⟩
instance :Fun Tryz.prog 115:=⟨Tryz.call115⟩
instance :Fun Tryz.prog 116:=⟨Tryz.call116⟩
instance :Fun Tryz.prog 117:=⟨Tryz.call117⟩
instance :Fun Tryz.prog 118:=⟨Tryz.call118⟩
instance :Fun Tryz.prog 119:=⟨Tryz.call119⟩
instance :Fun Tryz.prog 120:=⟨Tryz.call120⟩
instance :Fun Tryz.prog 121:=⟨Tryz.call121⟩
instance :Fun Tryz.prog 122:=⟨Tryz.call122⟩
instance :Fun Tryz.prog 126:=⟨Tryz.call126⟩
instance :Fun Tryz.prog 127:=⟨Tryz.call127⟩
instance :Fun Tryz.prog 128:=⟨Tryz.call128⟩
instance :Fun Tryz.prog 129:=⟨Tryz.call129⟩
instance :Fun Tryz.prog 130:=⟨Tryz.call130⟩
instance :Fun Tryz.prog 131:=⟨Tryz.call131⟩
instance :Fun Tryz.prog 132:=⟨Tryz.call132⟩
instance :Fun Tryz.prog 135:=⟨Tryz.call135⟩
instance :Fun Tryz.prog 136:=⟨Tryz.call136⟩
instance :Fun Tryz.prog 138:=⟨Tryz.call138⟩
instance :Fun Tryz.prog 139:=⟨Tryz.call139⟩
instance :Fun Tryz.prog 140:=⟨Tryz.call140⟩
instance :Fun Tryz.prog 141:=⟨Tryz.call141⟩
instance :Fun Tryz.prog 142:=⟨Tryz.call142⟩
instance :Fun Tryz.prog 143:=⟨Tryz.call143⟩
instance :Fun Tryz.prog 144:=⟨Tryz.call144⟩
instance :Fun Tryz.prog 145:=⟨Tryz.call145⟩
instance :Fun Tryz.prog 146:=⟨Tryz.call146⟩
instance :Fun Tryz.prog 147:=⟨Tryz.call147⟩
instance :Fun Tryz.prog 148:=⟨Tryz.call148⟩
instance :Fun Tryz.prog 149:=⟨Tryz.call149⟩
instance :Fun Tryz.prog 150:=⟨Tryz.call150⟩
instance :Fun Tryz.prog 151:=⟨Tryz.call151⟩
instance :Fun Tryz.prog 152:=⟨Tryz.call152⟩
instance :Fun Tryz.prog 153:=⟨Tryz.call153⟩
instance :Fun Tryz.prog 154:=⟨Tryz.call154⟩
instance :Fun Tryz.prog 155:=⟨Tryz.call155⟩
instance :Fun Tryz.prog 156:=⟨Tryz.call156⟩
instance :Fun Tryz.prog 157:=⟨Tryz.call157⟩
instance :Fun Tryz.prog 158:=⟨Tryz.call158⟩
instance :Fun Tryz.prog 159:=⟨Tryz.call159⟩
instance :Fun Tryz.prog 161:=⟨Tryz.call161⟩
instance :Fun Tryz.prog 162:=⟨Tryz.call162⟩
instance :Fun Tryz.prog 163:=⟨Tryz.call163⟩
instance :Fun Tryz.prog 164:=⟨Tryz.call164⟩
instance :Fun Tryz.prog 165:=⟨Tryz.call165⟩
instance :Fun Tryz.prog 166:=⟨Tryz.call166⟩
instance :Fun Tryz.prog 167:=⟨Tryz.call167⟩
instance :Fun Tryz.prog 168:=⟨Tryz.call168⟩
instance :Fun Tryz.prog 169:=⟨Tryz.call169⟩
instance :Fun Tryz.prog 170:=⟨Tryz.call170⟩
instance :Fun Tryz.prog 171:=⟨Tryz.call171⟩
instance :Fun Tryz.prog 172:=⟨Tryz.call172⟩
instance :Fun Tryz.prog 173:=⟨Tryz.call173⟩
instance :Fun Tryz.prog 174:=⟨Tryz.call174⟩
instance :Fun Tryz.prog 175:=⟨Tryz.call175⟩
instance :Fun Tryz.prog 176:=⟨Tryz.call176⟩
instance :Fun Tryz.prog 177:=⟨Tryz.call177⟩
instance :Fun Tryz.prog 178:=⟨Tryz.call178⟩
instance :Fun Tryz.prog 179:=⟨Tryz.call179⟩
instance :Fun Tryz.prog 180:=⟨Tryz.call180⟩
instance :Fun Tryz.prog 181:=⟨Tryz.call181⟩
instance :Fun Tryz.prog 182:=⟨Tryz.call182⟩
instance :Fun Tryz.prog 183:=⟨Tryz.call183⟩
instance :Fun Tryz.prog 187:=⟨Tryz.call187⟩
instance :Fun Tryz.prog 188:=⟨Tryz.call188⟩
instance :Fun Tryz.prog 190:=⟨Tryz.call190⟩
instance :Fun Tryz.prog 191:=⟨Tryz.call191⟩
instance :Fun Tryz.prog 192:=⟨Tryz.call192⟩
instance :Fun Tryz.prog 193:=⟨Tryz.call193⟩
instance :Fun Tryz.prog 194:=⟨Tryz.call194⟩
instance :Fun Tryz.prog 195:=⟨Tryz.call195⟩
instance :Fun Tryz.prog 196:=⟨Tryz.call196⟩
instance :Fun Tryz.prog 197:=⟨Tryz.call197⟩
instance :Fun Tryz.prog 198:=⟨Tryz.call198⟩
instance :Fun Tryz.prog 199:=⟨Tryz.call199⟩
instance :Fun Tryz.prog 200:=⟨Tryz.call200⟩
instance :Fun Tryz.prog 201:=⟨Tryz.call201⟩
instance :Fun Tryz.prog 204:=⟨Tryz.call204⟩
instance :Fun Tryz.prog 205:=⟨Tryz.call205⟩
instance :Fun Tryz.prog 206:=⟨Tryz.call206⟩
instance :Fun Tryz.prog 207:=⟨Tryz.call207⟩
instance :Fun Tryz.prog 208:=⟨Tryz.call208⟩
instance :Fun Tryz.prog 209:=⟨Tryz.call209⟩
instance :Fun Tryz.prog 210:=⟨Tryz.call210⟩
instance :Fun Tryz.prog 211:=⟨Tryz.call211⟩
instance :Fun Tryz.prog 212:=⟨Tryz.call212⟩
instance :Fun Tryz.prog 213:=⟨Tryz.call213⟩
instance :Fun Tryz.prog 214:=⟨Tryz.call214⟩
instance :Fun Tryz.prog 215:=⟨Tryz.call215⟩
instance :Fun Tryz.prog 216:=⟨Tryz.call216⟩
instance :Fun Tryz.prog 217:=⟨Tryz.call217⟩
instance :Fun Tryz.prog 218:=⟨Tryz.call218⟩
instance :ExtOvl Tryz.prog 133 36:=⟨λargs w=>run_callFunc_extern Tryz.func133 (by kernel_rfl) (by kernel_rfl) (by kernel_rfl) (by kernel_rfl) args w⟩
instance :ExtCmp Tryz.prog 137:=⟨λargs w=>run_callFunc_extern Tryz.func137 (by kernel_rfl) (by kernel_rfl) (by kernel_rfl) (by kernel_rfl) args w⟩
instance :ExtIdx Tryz.prog 202:=⟨λargs w=>run_callFunc_extern Tryz.func202 (by kernel_rfl) (by kernel_rfl) (by kernel_rfl) (by kernel_rfl) args w⟩
instance :ExtCnt Tryz.prog 220:=⟨λargs w=>run_callFunc_extern Tryz.func220 (by kernel_rfl) (by kernel_rfl) (by kernel_rfl) (by kernel_rfl) args w⟩
section
open Go Go.RowKit Go.ChangeShapes Go.WideShapes Go.ChangeAt
theorem P4{w:World}{base:Nat}{a:Addr}{n:Nat}{cs:List Value} (h:w.cells? base a n=some cs) (hn:0<n):a.spot=none/\cs.length=n/\KT w a.block a.off cs:=by
 obtain⟨-,hl,hc⟩:=World.cells?_some h;obtain⟨b,off,sp⟩:=a;have hsp:sp=none:=by
  have h0:=hc 0 hn;rw[Xaf (by omega)]at h0;simpa[Addr.add]using World.cell?_spot h0
 subst hsp;refine⟨rfl,hl,λj hj=>?_⟩;have:=hc j (by omega);rw[Xaf hj]at this;rw[Xad,Xaf hj]
 rwa [Bf]at this
class TOpen(P:Program)(t:TypeId)(α:outParam Type)(i:outParam (Dat α)):Prop where
 h:∀{H:Type}{enc:TypeId×Value->H}{W:World}{base:Nat}{sp:Nat->Bool}{held:Bool}{fuel:Nat}{cs:List Value}{d:DataW H}{ps:List MemPlace},
  Xg0 enc P W base sp held fuel t cs=some (d,ps)->(∀n∈d.weights P t,n<=reachBytes)->∃x:α,Dat.rd (λ_=>True) W cs x
 s:∀{W:World}{base:Nat}{v:Value},XeA P W .any base t v->v=mkV α v.cells.toList
theorem VL:reachBytes<=LG:=by decide
theorem Zf3{n:Int}(h:(XgW .u8 n).wf=true):0<=n/\n<256:=by
 simp[Xha,Xc6,XcI,Xfp,Xfq]at h;omega
theorem ZeS{n:Int}(h:(XgW .u16 n).wf=true):0<=n/\n<65536:=by
 simp[Xha,Xc6,XcI,Xfp,Xfq]at h;omega
theorem ZeT{n:Int}(h:(XgW .i64 n).wf=true):FA n:=by
 simp[Xha,Xc6,XcI,Xfp,Xfq]at h;unfold FA;omega
theorem WN{P:Program}{t:TypeId} (ht:P.underlying t=some (.int .i64)):TOpen P t Int inferInstance where
 h hd _:=by
  obtain⟨n,rfl,-,hw⟩:=Xe2 ht hd;exact⟨n,rfl,ZeT hw⟩
 s hv:=by obtain⟨n,rfl⟩:=okWide_int ht hv;rfl
theorem Zaf{P:Program}{t:TypeId} (ht:P.underlying t=some (.int .u8)):TOpen P t UInt8 inferInstance where
 h hd _:=by
  obtain⟨n,rfl,-,hw⟩:=Xe2 ht hd;have:=Zf3 hw;refine⟨XaN n.toNat,?_⟩;show[XbR .u8 n]=[.int .u8 _];rw[UInt8.toNat_ofNat_of_lt' (by show n.toNat<256;omega),Xeu this.1]
 s hv:=by obtain⟨n,rfl⟩:=okWide_int ht hv;rfl
theorem WM{P:Program}{t:TypeId} (ht:P.underlying t=some (.int .u16)):TOpen P t UInt16 inferInstance where
 h hd _:=by
  obtain⟨n,rfl,-,hw⟩:=Xe2 ht hd;have:=ZeS hw;refine⟨UInt16.ofNat n.toNat,?_⟩;show[XbR .u16 n]=[.int .u16 _];rw[UInt16.toNat_ofNat_of_lt' (by show n.toNat<65536;omega),Xeu this.1]
 s hv:=by obtain⟨n,rfl⟩:=okWide_int ht hv;rfl
theorem Vv{P:Program}{t:TypeId} (ht:P.underlying t=some .bool):TOpen P t Bool inferInstance where
 h hd _:=by
  obtain⟨b,rfl,-⟩:=DataW.trod_bool ht hd;exact⟨b,rfl⟩
 s hv:=by obtain⟨n,rfl⟩:=okWide_bool ht hv;rfl
theorem Ia{H:Type}{P:Program}{e:TypeId}{d:DataW H}{n:Nat} (hn:n∈d.weights P e):∀{l:List (DataW H)},d∈l->n∈Xge P e l
 | [],h=>by cases h
 | x::r,h=>by
  simp only[Xge,Xar];rcases Xa1.1 h with rfl|h
  .exact .inl hn
  .exact .inr (Ia hn h)
theorem Pz{P:Program}{t e:TypeId}{α:Type}{i:Dat α} (ht:P.underlying t=some (.slice e)) (hc:P.cellsOf e=Dat.sz α) (hb:1<=P.bytesOf e) [k:TOpen P e α i]:TOpen P t (List α) inferInstance where
 h {H enc W base sp held fuel cs d ps} hd hw:=by
  rcases Go.Deep.open_slice ht hd with⟨rfl,-⟩|⟨a,len,cap,m,n,Df,Pl,rfl,-,h1,h2,hm,hx,hel⟩
  .exact ⟨[],none,0,rfl,Xau _,Xcq _,Xcq _,λi hi=>absurd hi (by simp)⟩
  .have hlm:len<=m:=by rw[hm];split<;>omega
   injection hx with hx1 hx2;subst hx1;have hwt:∀i,i<len->∀n∈(Df i).weights P e,n<=reachBytes:=λi hi n hn=>by
    refine hw n ?_;simp only[Xet,ht];refine Xaw _ (List.mem_append_left _ ?_);exact Ia hn (XdO.2 ⟨i,by simpa using hi,rfl⟩)
   have hlen:len<=LG:=by
    have:=hw ((((Xbe len).map Df).length+((Xbe (m-len)).map λj=>Df (len+j)).length)*P.bytesOf e) (by simp only[Xet,ht];exact Xay ..);simp only[List.length_map,List.length_range]at this;have h3:len<=(len+(m-len))*P.bytesOf e:=XaG (Nat.le_add_right _ _) (Nat.le_mul_of_pos_right _ hb);exact XaG (XaG h3 this) VL
   have hx:∀i:Fin len,∃x:α,∃es,W.cells? base (a.add (i.1*P.cellsOf e)) (P.cellsOf e)=some es/\Dat.rd (λ_=>True) W es x:=λi=>by
    obtain⟨cs',g1,g2⟩:=hel i.1 (Nat.lt_of_lt_of_le i.2 hlm);obtain⟨x,hx⟩:=k.h g2 (hwt i.1 i.2);exact⟨x,cs',g1,hx⟩
   refine⟨Xhb λi=>Xfl (hx i),some a,cap,by simp,by simpa using h1,h2,by simpa using hlen,λi hi=>?_⟩;have hi':i<len:=by simpa using hi
   obtain⟨es,g1,g2⟩:=XeP (hx ⟨i,hi'⟩);have hpos:0<P.cellsOf e:=by rw[hc];exact Dat.pos
   obtain⟨-,q2,q3⟩:=P4 g1 hpos;obtain⟨cs0,g0,-⟩:=hel 0 (by omega);rw[Xc7]at g0;obtain⟨q1,-,-⟩:=P4 g0 hpos;refine⟨a.block,a.off,?_,trivial,es,?_,by simpa using g2⟩
   .obtain ⟨b,off,s⟩:=a;obtain rfl:s=none:=q1;rfl
   .obtain ⟨b,off,s⟩:=a;obtain rfl:s=none:=q1;rw[hc]at q3;rw[Bf]at q3;exact q3
 s hv:=by obtain⟨a,l,c,rfl⟩:=okWide_slice ht hv;rfl
theorem GW{H:Type}{P:Program}:∀{ts:List TypeId}{ds:List (DataW H)}{j:Nat}{t:TypeId}{d:DataW H}{n:Nat},ts[j]?=some t->ds[j]?=some d->n∈d.weights P t->n∈XcJ P ts ds
 | [],_,_,_,_,_,h,_,_=>by simp at h
 | _::_,[],_,_,_,_,_,h,_=>by simp at h
 | t::ts,d::ds,0,_,_,n,h1,h2,h3=>by
  obtain rfl:t=_:=by simpa using h1
  obtain rfl:d=_:=by simpa using h2
  simp only[XcJ,Xar];exact .inl h3
 | t::ts,d::ds,j+1,_,_,n,h1,h2,h3=>by
  simp only[XcJ,Xar];exact .inr (GW (j:=j) (by simpa using h1) (by simpa using h2) h3)
class TOpF(P:Program)(fs:List Field)(o:Nat)(α:Type)(i:Dat α):Prop where
 h:∀{H:Type}{enc:TypeId×Value->H}{W:World}{base:Nat}{sp:Nat->Bool}{held:Bool}{fuel:Nat}{cs:List Value}{xs:List (DataW H×List MemPlace)},
  cs.length=o+Dat.sz α->(∀(j:Nat) (f:Field),fs[j]?=some f->Xg0 enc P W base sp held fuel f.type ((cs.drop f.offset).take (P.cellsOf f.type))=xs[j]?)->
  xs.length=fs.length->(∀n∈XcJ P (fs.map (·.type)) (xs.map (·.1)),n<=reachBytes)->∃x:α,Dat.rd (λ_=>True) W (cs.drop o) x
theorem Qr{P:Program}{f:Field}{α:Type}{i:Dat α}{o:Nat}{t:TypeId} (k:TOpen P t α i) (hc:P.cellsOf t=Dat.sz α) (ht:f.type=t) (ho:f.offset=o):TOpF P [f] o α i where
 h {H enc W base sp held fuel cs xs} hl hx hn hw:=by
  subst ht
  match xs,hn with
  | [x],_=>
   have h0:=hx 0 f rfl;rw[hc,ho]at h0;have e:(cs.drop o).take (Dat.sz α)=cs.drop o:=XaB (by rw[XbP,hl];omega);rw[e]at h0;exact k.h h0 λn hn=>hw n (GW (j:=0) rfl rfl hn)
theorem LL{P:Program}{f:Field}{fs:List Field}{α β:Type}{i:Dat α}{j:Dat β}{o o':Nat}{t:TypeId} (k:TOpen P t α i) (hc:P.cellsOf t=Dat.sz α) (ht:f.type=t) (ho:f.offset=o) (ho':o'=o+Dat.sz α) (r:TOpF P fs o' β j):TOpF P (f::fs) o (α×β) US where
 h {H enc W base sp held fuel cs xs} hl hx hn hw:=by
  subst ht;subst ho'
  match xs,hn with
  | x::xs',hn=>
   have h0:=hx 0 f rfl;rw[hc,ho]at h0;obtain⟨a,ha⟩:=k.h h0 λn hn=>hw n (GW (j:=0) rfl rfl hn)
   have hl':cs.length=o+Dat.sz α+Dat.sz β:=by
    have:Dat.sz (α×β)=Dat.sz α+Dat.sz β:=rfl;omega
   obtain⟨b,hb⟩:=r.h hl' (λq g hg=>hx (q+1) g hg) (by simpa using hn) λn hn=>hw n (by
    simp only[Xbl,XcJ,Xar];exact .inr hn)
   refine⟨(a,b),?_,?_,?_⟩
   .rw [XbP,hl'];omega
   .show Dat.rd _ W (seg (cs.drop o) 0 (Dat.sz α)) a;simpa[seg]using ha
   .show Dat.rd _ W (seg (cs.drop o) (Dat.sz α) (Dat.sz β)) b;have e:seg (cs.drop o) (Dat.sz α) (Dat.sz β)=cs.drop (o+Dat.sz α):=by
     simp only[seg,XdR];exact XaB (by rw[XbP,hl'];omega)
    rw[e];exact hb
theorem JK{P:Program}{t:TypeId}{fs:Array Field}{α:Type}{i:Dat α}{β:Type}{j:Dat β} (f:α->β) (g:β->α) (hfg:∀y,f (g y)=y) (hi:i=Xcl f g hfg) (ht:P.underlying t=some (.struct fs)) (ha:Dat.agg β=true) (hc:P.cellsOf t=Dat.sz β) (k:TOpF P fs.toList 0 β j):TOpen P t α i where
 h {H enc W base sp held fuel cs d ps} hd hw:=by
  obtain⟨xs,n,rfl,hx,hl,hn,hel⟩:=DataW.trod_struct ht hd;injection hx with hx1 hx2;subst hx1;obtain⟨y,hy⟩:=k.h (by rw[hl,hc];omega) (λq f hf=>hel q f (by simpa using hf)) (by simpa using hn) (λn hn=>hw n (by simp only[Xet,ht];exact hn));subst hi;refine⟨g y,?_⟩;show Dat.rd _ W cs (f (g y));rw[hfg];simpa using hy
 s {W base v} hv:=by
  simp only[XeA,ht]at hv;obtain⟨cs,rfl,-⟩:=hv;subst hi;show _=@mkV α (Xcl f g hfg) _;have:@Dat.agg α (Xcl f g hfg)=true:=ha;simp[mkV,this,Value.cells]
theorem WL{P:Program}{t e:TypeId}{n:Nat}{α:Type}{i:Dat α}[hn:BoolIs (Xbn 1 n) true] (ht:P.underlying t=some (.array n e)) (hc:P.cellsOf e=Dat.sz α) (hct:P.cellsOf t=n*Dat.sz α) [k:TOpen P e α i]:TOpen P t (Vec α n) Lu where
 h {H enc W base sp held fuel cs d ps} hd hw:=by
  obtain⟨xs,m,rfl,hx,hl,hm,hel⟩:=DataW.trod_array ht hd;injection hx with hx1 hx2;subst hx1;have hx:∀q:Fin n,∃x:α,Dat.rd (λ_=>True) W (seg cs (q.1*Dat.sz α) (Dat.sz α)) x:=λq=>by
   have h1:=hel q.1 q.2;rw[hc,Xaf (by rw[hm];exact q.2)]at h1;refine k.h h1 λw hwn=>hw w ?_
   simp only[Xet,ht];exact Ia hwn (XdO.2 ⟨_,Xax _,rfl⟩)
  refine⟨⟨Xhb λq=>Xfl (hx q),by simp⟩,by rw[hl,hct],λq hq=>?_⟩;have hq':q<n:=by simpa using hq
  have:=XeP (hx ⟨q,hq'⟩);simpa using this
 s {W base v} hv:=by
  simp only[XeA,ht]at hv;obtain⟨cs,rfl,-⟩:=hv;rfl
theorem LM{P:Program}{t:TypeId}{α:Type}{i:Dat α}[k:TOpen P t α i] {H:Type}{enc:TypeId×Value->H}{W:World}{base b0:Nat}{sp:Nat->Bool}{held:Bool}{v:Value}{d:DataW H}{ps:List MemPlace}
  (h:DataW.Trod enc P W base sp held t v d ps) (hv:XeA P W .any b0 t v) (hw:∀n∈d.weights P t,n<=reachBytes):∃x:α,(D x).p (λ_=>True) W v:=by
 obtain⟨fuel,hf⟩:=h;obtain⟨x,hx⟩:=k.h hf hw;exact⟨x,_,hx,k.s hv⟩
theorem LJ{H:Type}{enc:TypeId×Value->H}{P:Program} (hl:laidOutB P=true) {W W':World} (hb:Below W.heap.size W W'):∀{ts:List TypeId}{vs:List Value}{ds:List (DataW H)}{ps:List MemPlace},
  (∀t∈ts,P.readableRec t=true/\t<P.types.size)->XgH enc P W 0 (λ_=>true) true ts vs ds ps->XgH enc P W' 0 (λb=>decide (b<W.heap.size)) true ts vs ds ps
 | [],vs,ds,ps,_,h=>by obtain⟨rfl,rfl,rfl⟩:=trodAll_nil h;exact trodAll_mk0
 | t::ts,vs,ds,ps,hr,h=>by
  obtain⟨v,vs',d,ds',p,q,rfl,rfl,rfl,h1,h2⟩:=trodAll_cons h;have hlt:∀x∈p,x.block<W.heap.size:=by obtain⟨m,hm⟩:=h1;exact DataW.trod_lt m _ _ _ hm
  exact trodAll_cons_mk (Below.trod hl (hr t (Xay ..)).1 (hr t (Xay ..)).2 h1 hb hlt) (LJ hl hb (λu hu=>hr u (Xaw _ hu)) h2)
theorem Za0{H:Type}{enc:TypeId×Value->H}{P:Program}{f:Func}{s:ChangeSpec}{tb:TypeId} (hl:laidOutB P=true) (hb:P.underlying tb=some .bool) (hres:f.resultTypes=#[tb]) (hvars:s.vars=[])
  (hr:∀t∈f.params.toList,P.readableRec t=true/\t<P.types.size) {W W':World}{args:Array Value}{ds gs:List (DataW H)}{before:List MemPlace}{e:Ending}
  (hs:s.fn H ds={ results:=[.lit (.bool true)],args:=ds })
  (hW:DataW.Whole enc P f.params.toList s.vars false W args.toList ds gs before) (h:Ret (λ_=>True) W (D true) e W'):∃v,e=.returned v/\s.post enc P f false true false false W args v W':=by
 obtain⟨v,rfl,hg,hv⟩:=h;obtain rfl:v=.bool true:=by
  have:=NM rfl hv;simpa[Dat.rd]using this
 have hW':=hW;obtain⟨p,q,hA,hV,rfl,-,-⟩:=hW;rw[hvars]at hV;obtain⟨rfl,rfl⟩:=trodVars_none hV;refine⟨_,rfl,ds,[],p++[],[],p,[],hW',?_,?_,?_,hg.below.frame _,λh=>by cases h⟩
 .rw [XaX,hs,hres];exact trodAll_mk1 (shut_bool hb _)
 .rw [XaX,hs];exact LJ hl hg.below hr hA
 .rw [XaX,hs,hvars];rfl
end
theorem ZM {σ ε : Type} {f : σ → Option (σ ⊕ ε)} (g : Nat → σ) (n : Nat) {e : ε} (hn : n < 18446744073709551616) (h : ∀ i, i < n → f (g i) = some (.inl (g (i + 1)))) (he : f (g n) = some (.inr e)) {s : σ} (hs : s = g 0) : ZN f s = some e := by
  have key : ∀ k i, i + k = n → Fz f (k + 1) (g i) = some e := by
    intro k
    induction k with
    | zero => intro i hi; obtain rfl : i = n := by omega
              exact Fy he
    | succ k ih => intro i hi; rw [ED (h i (by omega))]; exact ih (i + 1) (by omega)
  subst hs
  exact Ja (n + 1) (by omega) (key n 0 (by omega))
theorem GL{σ ε:Type}{f:σ->Option (σ⊕ε)} (g:Nat->σ) (n:Nat) (p:Nat->Bool) (x:Nat->ε) {y:ε} (hn:n<18446744073709551616)
  (h:∀i,i<n->p i=false->f (g i)=some (.inl (g (i+1)))) (hx:∀i,i<n->p i=true->f (g i)=some (.inr (x i))) (he:f (g n)=some (.inr y)) {s:σ} (hs:s=g 0) :
  (∃i,i<n/\p i=true/\(∀j,j<i->p j=false)/\ZN f s=some (x i))\/((∀j,j<n->p j=false)/\ZN f s=some y):=by
 by_cases hex:∃i,i<n/\p i=true
 .left
  have key:∀m,(∃i,i<m/\i<n/\p i=true)->∃i,i<n/\p i=true/\∀j,j<i->p j=false:=by
   intro m
   induction m with
   | zero=>rintro⟨i,h,_⟩;omega
   | succ m ih=>
    rintro⟨i,h1,h2,h3⟩
    by_cases hs:∃i,i<m/\i<n/\p i=true
    .exact ih hs
    .refine ⟨i,h2,h3,λj hj=>?_⟩;cases hp:p j with
     | false=>rfl
     | true=>exact absurd ⟨j,by omega,by omega,hp⟩ hs
  obtain⟨i0,h0,h1⟩:=hex;obtain⟨i,h1,h2,h3⟩:=key (i0+1) ⟨i0,by omega,h0,h1⟩;exact⟨i,h1,h2,h3,ZM g i (by omega) (λj hj=>h j (by omega) (h3 j hj)) (hx i h1 h2) hs⟩
 .right
  have hall:∀j,j<n->p j=false:=λj hj=>by
   cases hp:p j with
   | false=>rfl
   | true=>exact absurd ⟨j,hj,hp⟩ hex
  exact⟨hall,ZM g n hn (λj hj=>h j hj (hall j hj)) he hs⟩
theorem El{i n:Nat}(h:i<n):decide ((i:Int)<(n:Int))=true:=by simpa using h
theorem Jv{n:Nat}:decide ((n:Int)<(n:Int))=false:=by simp
theorem I9{i n:Nat}(h:n<=i):decide ((i:Int)<(n:Int))=false:=by simpa using h
theorem ZL{i:Nat}(h:i<9223372036854775807):AC (i:Int) 1=some (((i+1:Nat)):Int):=Gz h
theorem Zj{α:Type}{b:Bool}{x y:α} (h:b=true):(bif b then x else y)=x:=by rw[h,Zu]
theorem Zg{α:Type}{b:Bool}{x y:α} (h:b=false):(bif b then x else y)=y:=by rw[h,Zq]
theorem Bt{α β:Type}{x:Option α}{a:α}{f:α->Option β} (h:x=some a):x.bind f=f a:=by rw[h,Zb]
theorem J0{α:Type}[Inhabited α] {g:Bool}{x:Option α}{a:α} (h:x=some a):gb g x=some (bif g then a else default):=Zgc λ_=>h
theorem QA{a b:Nat}(h:0<b):RM (a:Int) (b:Int)=some ((a%b:Nat):Int):=by rw[Lo (by omega) (by omega)];rfl
theorem Ku{a b:Nat}(h:0<b):JB (a:Int) (b:Int)=some ((a/b:Nat):Int):=by rw[G7 (by omega) (by omega)];rfl
section
open Go Go.RowKit
class OpA(P:Program)(B:Nat)(Ω:List Pe)(Γ:Env)(o:Oper)(τ:outParam Ty):Prop where
 h:∀{A:Nat->Prop},OpY P B A Ω Γ o τ
class OpB(P:Program)(B:Nat)(Ω:List Pe)(Γ:Env)(o:Oper)(α:outParam Type)(x:outParam (Option α))(τ:outParam (α->Ty)):Prop where
 h:∀{a:α},x=some a->∀{A:Nat->Prop},OpY P B A Ω Γ o (τ a)
class FtE{α:Type}(e:Option α)(v:outParam α):Prop where
 h:e=some v
class FtG{α:Type}[Inhabited α] (e:Option α) (g:outParam Bool) (v:outParam α):Prop where
 h:gb g e=some v
class FtT(g:Bool):Prop where
 h:g=true
instance {b:Bool}[h:Ft (b=true)]:FtT b:=⟨h.h⟩
instance {b:Bool}[h:Ft (b=false)]:FtT (!b):=⟨nF h.h⟩
instance {p q:Prop}[h:Ft p] [k:Ft q]:Ft (p/\q):=⟨⟨h.h,k.h⟩⟩
class TupAt(τs:List Ty)(k:Nat)(σ:outParam Ty):Prop where
 h:τs[k]?=some σ
instance {σ:Ty}{τs:List Ty}:TupAt (σ::τs) 0 σ:=⟨rfl⟩
instance {σ τ:Ty}{τs:List Ty}{k:Nat}[h:TupAt τs k σ]:TupAt (τ::τs) (k+1) σ:=⟨by simpa using h.h⟩
class PlO(C:Ct)(o:Nat)(α:outParam Type)(i:outParam (Dat α))(v:outParam α)(upd:outParam (α->Ct)):Prop where
 h:Pl C o α i v upd
instance {α:Type}{i:Dat α}{x:α}:PlO (One x) 0 α i x One:=⟨ZB⟩
instance {α β:Type}{i:Dat α}{j:Dat β}{C:Ct}{o off:Nat}{get:α->β}{set:β->α->α}{x:α}{upd:α->Ct}[h:PlO C o α i x upd] [L:Fld α i off β j get set]:PlO C (o+off) β j (get x) (λy=>upd (set y x)):=⟨Pl.fld h.h⟩
instance {α:Type}{i:Dat α}{xs:List α}{c:Nat}{k:Int}{x:α}[h:FtE (idx xs k) x]:PlO (Row xs c) (0+k.toNat*Dat.sz α) α i x (λy=>Row (xs.set k.toNat y) c):=⟨AP h.h⟩
section ops
variable {P:Program}{B0:Nat}{Ω:List Pe}{Γ:Env}{dst:Option Tmp}{ty:TypeId}{pos:String}{aft:Array Edge}{gd:Option (Nat×Bool)}{x y c:Operand}{τ σ ρ:Ty}{t u e s d:TypeId}{α β:Type}{i:Dat α}{j:Dat β}
instance [Has Γ x τ][AsT τ σ]:OpA P B0 Ω Γ ⟨dst,.move x,ty,pos,aft,gd⟩ σ:=⟨E9⟩
instance [Has Γ x τ][AsT τ σ]:OpA P B0 Ω Γ ⟨dst,.assign x,ty,pos,aft,gd⟩ σ:=⟨FM⟩
instance {f off:Nat}[Has Γ x τ] [F:TFld P t f u off] [S:TDat P t α i] [T:TDat P u β j] [k:FaP τ α off β σ]:OpA P B0 Ω Γ ⟨dst,.fieldAddr t x f,ty,pos,aft,gd⟩ σ:=⟨A9⟩
instance {v:α}[Has Γ x τ] [hx:AsPtr τ α i v] [T:TDat P t α i]:OpA P B0 Ω Γ ⟨dst,.load t x,ty,pos,aft,gd⟩ (D v):=⟨Vl⟩
instance (priority:=900){b o:Nat}{pr:Prop}{C:Ct}{v:α}{upd:α->Ct}[hx:Has Γ x τ] [q:AsPq τ b o pr] [T:TDat P t α i] [hb:HasB Ω b pr C] [p:PlO C o α i v upd]:OpA P B0 Ω Γ ⟨dst,.load t x,ty,pos,aft,gd⟩ (D v):=⟨AL p.h⟩
instance {τs:List Ty}{k:Nat}[Has Γ x τ] [hx:AsTup τ τs] [h:TupAt τs k σ]:OpA P B0 Ω Γ ⟨dst,.extract x k,ty,pos,aft,gd⟩ σ:=⟨Hx h.h⟩
instance [Has Γ x τ][k:AsT τ σ][q:IsPtr σ]:OpA P B0 Ω Γ ⟨dst,.nilCheck x,ty,pos,aft,gd⟩ σ:=⟨Kh⟩
instance {b:Bool}[Has Γ x τ] [hb:AsB τ b]:OpA P B0 Ω Γ ⟨dst,.unOp .not t x,ty,pos,aft,gd⟩ (B (!b)):=⟨ZbS⟩
instance {b d:Bool}[Has Γ c τ] [hb:AsB τ b] [Has Γ x σ] [hd:AsBC σ b true d]:OpA P B0 Ω Γ ⟨dst,.pick c x (.const (.bool false)),ty,pos,aft,gd⟩ (B (b&&d)):=⟨T2⟩
instance {b d:Bool}[Has Γ c τ] [hb:AsB τ b] [Has Γ x σ] [hd:AsBC σ b false d]:OpA P B0 Ω Γ ⟨dst,.pick c (.const (.bool true)) x,ty,pos,aft,gd⟩ (B (b||d)):=⟨Wt⟩
section cmp
variable {m k:Int}[hsx:Has Γ x τ] [hx:AsI τ m] [hsy:Has Γ y σ] [hy:AsI σ k]
include hx hy hsx hsy
instance :OpA P B0 Ω Γ ⟨dst,.binOp .lss t x y u,ty,pos,aft,gd⟩ (B (decide (m<k))):=⟨Zeh⟩
instance :OpA P B0 Ω Γ ⟨dst,.binOp .leq t x y u,ty,pos,aft,gd⟩ (B (decide (m<=k))):=⟨OpY.leq⟩
instance :OpA P B0 Ω Γ ⟨dst,.binOp .gtr t x y u,ty,pos,aft,gd⟩ (B (decide (m>k))):=⟨OpY.gtr⟩
instance :OpA P B0 Ω Γ ⟨dst,.binOp .geq t x y u,ty,pos,aft,gd⟩ (B (decide (m>=k))):=⟨OpY.geq⟩
instance :OpA P B0 Ω Γ ⟨dst,.binOp .eql t x y u,ty,pos,aft,gd⟩ (B (decide (m=k))):=⟨Zej⟩
instance :OpA P B0 Ω Γ ⟨dst,.binOp .neq t x y u,ty,pos,aft,gd⟩ (B (decide (m≠k))):=⟨Zeg⟩
instance :OpB P B0 Ω Γ ⟨dst,.binOp .add t x y u,ty,pos,aft,gd⟩ Int (AC m k) D:=⟨λh=>HB h⟩
instance :OpB P B0 Ω Γ ⟨dst,.binOp .sub t x y u,ty,pos,aft,gd⟩ Int (GG m k) D:=⟨λh=>OpD.sub h⟩
instance :OpB P B0 Ω Γ ⟨dst,.binOp .mul t x y u,ty,pos,aft,gd⟩ Int (RX m k) D:=⟨λh=>OpD.mul h⟩
end cmp
instance {m k:Int}[hsx:Has Γ x τ] [hx:ToD τ Int inferInstance m] [hsy:Has Γ y σ] [hy:ToD σ Int inferInstance k]:OpB P B0 Ω Γ ⟨dst,.binOp .quo t x y u,ty,pos,aft,gd⟩ Int (JB m k) D:=⟨λh=>OpD.quo h⟩
instance {m k:Int}[hsx:Has Γ x τ] [hx:ToD τ Int inferInstance m] [hsy:Has Γ y σ] [hy:ToD σ Int inferInstance k]:OpB P B0 Ω Γ ⟨dst,.binOp .rem t x y u,ty,pos,aft,gd⟩ Int (RM m k) D:=⟨λh=>OpD.rem h⟩
instance {m k:Int}[hsx:Has Γ x τ] [hx:ToD τ Int inferInstance m] [hsy:Has Γ y σ] [hy:ToD σ Int inferInstance k]:OpB P B0 Ω Γ ⟨dst,.binOp .and t x y u,ty,pos,aft,gd⟩ Int (Zft m k) D:=⟨λh=>Zb6 h⟩
instance {m k:Int}[hsx:Has Γ x τ] [hx:ToD τ Int inferInstance m] [hsy:Has Γ y σ] [hy:ToD σ Int inferInstance k]:OpB P B0 Ω Γ ⟨dst,.binOp .or t x y u,ty,pos,aft,gd⟩ Int (orI m k) D:=⟨λh=>Zel h⟩
instance {m k:Int}[hsx:Has Γ x τ] [hx:ToD τ Int inferInstance m] [hsy:Has Γ y σ] [hy:AsCnt σ k]:OpB P B0 Ω Γ ⟨dst,.binOp .shl t x y u,ty,pos,aft,gd⟩ Int (Uu m k) D:=⟨λh=>Zb5 h⟩
instance {m k:Int}[hsx:Has Γ x τ] [hx:ToD τ Int inferInstance m] [hsy:Has Γ y σ] [hy:AsCnt σ k]:OpB P B0 Ω Γ ⟨dst,.binOp .shr t x y u,ty,pos,aft,gd⟩ Int (WZ m k) D:=⟨λh=>Zb4 h⟩
instance {xs:List α}[hsx:Has Γ x τ] [hx:AsL τ α i xs] [S:TSl P t e]:OpA P B0 Ω Γ ⟨dst,.call { callee:=.builtin .len,args:=#[x],argTypes:=#[t] },ty,pos,aft,gd⟩ (D (xs.length:Int)):=⟨Zem⟩
instance {m k:Int}{ts:Array TypeId}[hsx:Has Γ x τ] [hx:ToD τ Int inferInstance m] [hsy:Has Γ y σ] [hy:ToD σ Int inferInstance k]:OpA P B0 Ω Γ ⟨dst,.call { callee:=.builtin .min,args:=#[x,y],argTypes:=ts },ty,pos,aft,gd⟩ (D (min m k)):=⟨OpD.min⟩
instance {m k:Int}{ts:Array TypeId}[hsx:Has Γ x τ] [hx:ToD τ Int inferInstance m] [hsy:Has Γ y σ] [hy:ToD σ Int inferInstance k]:OpA P B0 Ω Γ ⟨dst,.call { callee:=.builtin .max,args:=#[x,y],argTypes:=ts },ty,pos,aft,gd⟩ (D (max m k)):=⟨OpD.max⟩
instance {m:UInt8}[hsx:Has Γ x τ] [hx:AsU8 τ m] [S:TIn P s .u8] [T:TIn P d .i64]:OpA P B0 Ω Γ ⟨dst,.convert s d x,ty,pos,aft,gd⟩ (D (m.toNat:Int)):=⟨Ub⟩
instance {z:Int}[hsx:Has Γ x τ] [hx:AsI τ z] [S:TIn P s .i64] [T:TIn P d .u8]:OpA P B0 Ω Γ ⟨dst,.convert s d x,ty,pos,aft,gd⟩ (U8 (Xao z)):=⟨T4⟩
instance {xs:List α}{l:Int}[Has Γ x τ] [hx:AsL τ α i xs] [Has Γ y σ] [hy:AsIx σ l] [S:TSl P t e] [T:TDat P e α i]:OpB P B0 Ω Γ ⟨dst,.indexAddr t x y,ty,pos,aft,gd⟩ α (idx xs l) K3:=⟨λh=>Pa h⟩
instance {xs:List α}{l r:Int}{z:Operand}[hsx:Has Γ x τ] [hx:AsL τ α i xs] [hsy:Has Γ y σ] [hy:AsI σ l] [hsz:Has Γ z ρ] [hz:AsI ρ r] [S:TSl P t e] [T:TDat P e α i]:OpB P B0 Ω Γ ⟨dst,.slice t x (some y) (some z) none,ty,pos,aft,gd⟩ Unit (cut xs.length l r) (λ_=>D ((xs.take r.toNat).drop l.toNat)):=⟨λh=>Wy h⟩
instance {xs:List α}{r:Int}{z:Operand}[hsx:Has Γ x τ] [hx:AsL τ α i xs] [hsz:Has Γ z ρ] [hz:AsI ρ r] [S:TSl P t e] [T:TDat P e α i]:OpB P B0 Ω Γ ⟨dst,.slice t x none (some z) none,ty,pos,aft,gd⟩ Unit (cut xs.length 0 r) (λ_=>D (xs.take r.toNat)):=⟨λh=>Ua h⟩
instance {xs:List α}{l:Int}[hsx:Has Γ x τ] [hx:AsL τ α i xs] [hsy:Has Γ y σ] [hy:AsI σ l] [S:TSl P t e] [T:TDat P e α i]:OpB P B0 Ω Γ ⟨dst,.slice t x (some y) none none,ty,pos,aft,gd⟩ Unit (cut xs.length l xs.length) (λ_=>D (xs.drop l.toNat)):=⟨λh=>Rn h⟩
end ops
class Fn1(P:Program)(f:FuncId)(α:outParam Type)(i:outParam (Dat α))(ρ:outParam Type)(g:outParam (α->Option ρ))(σ:outParam (ρ->Ty)):Prop where
 h:∀{A:Nat->Prop}{a:α}{r:ρ} (w:World) (v0:Value),(∀k,w.heap.size<=k->A k)->(D a).p A w v0->g a=some r->Calls P f #[v0] w (Ret A w (σ r))
class Fn2(P:Program)(f:FuncId)(α:outParam Type)(i:outParam (Dat α))(β:outParam Type)(j:outParam (Dat β))(ρ:outParam Type)(g:outParam (α->β->Option ρ))(σ:outParam (ρ->Ty)):Prop where
 h:∀{A:Nat->Prop}{a:α}{b:β}{r:ρ} (w:World) (v0 v1:Value),(∀k,w.heap.size<=k->A k)->(D a).p A w v0->(D b).p A w v1->g a b=some r->Calls P f #[v0,v1] w (Ret A w (σ r))
class Fn3(P:Program)(f:FuncId)(α:outParam Type)(i:outParam (Dat α))(β:outParam Type)(j:outParam (Dat β))(γ:outParam Type)(k:outParam (Dat γ))(ρ:outParam Type)(g:outParam (α->β->γ->Option ρ))(σ:outParam (ρ->Ty)):Prop where
 h:∀{A:Nat->Prop}{a:α}{b:β}{c:γ}{r:ρ} (w:World) (v0 v1 v2:Value),(∀k,w.heap.size<=k->A k)->(D a).p A w v0->(D b).p A w v1->(D c).p A w v2->g a b c=some r->Calls P f #[v0,v1,v2] w (Ret A w (σ r))
class Fn4(P:Program)(f:FuncId)(α:outParam Type)(i:outParam (Dat α))(β:outParam Type)(j:outParam (Dat β))(γ:outParam Type)(k:outParam (Dat γ))(δ:outParam Type)(l:outParam (Dat δ))(ρ:outParam Type)(g:outParam (α->β->γ->δ->Option ρ))(σ:outParam (ρ->Ty)):Prop where
 h:∀{A:Nat->Prop}{a:α}{b:β}{c:γ}{d:δ}{r:ρ} (w:World) (v0 v1 v2 v3:Value),(∀k,w.heap.size<=k->A k)->(D a).p A w v0->(D b).p A w v1->(D c).p A w v2->(D d).p A w v3->g a b c d=some r->Calls P f #[v0,v1,v2,v3] w (Ret A w (σ r))
section calls
variable {P:Program}{B0:Nat}{Ω:List Pe}{Γ:Env}{dst:Option Tmp}{ty:TypeId}{pos:String}{aft:Array Edge}{gd:Option (Nat×Bool)}{f:FuncId}{ts:Array TypeId}{x0 x1 x2 x3:Operand}{τ0 τ1 τ2 τ3 σ0 σ1 σ2 σ3:Ty}{α β γ δ ρ:Type}{i:Dat α}{j:Dat β}{k:Dat γ}{l:Dat δ}{a:α}{b:β}{c:γ}{d:δ}{σ:ρ->Ty}{r:ρ}
instance {g:α->Option ρ}[F:Fun P f] [C:Fn1 P f α i ρ g σ] [h0:Has Γ x0 τ0] [k0:AsT τ0 σ0] [d0:ToD σ0 α i a]:OpB P B0 Ω Γ ⟨dst,.call { callee:=.value (.func f),args:=#[x0],argTypes:=ts },ty,pos,aft,gd⟩ ρ (g a) σ:=
 ⟨λe=>F8 λw v0 hA h0=>C.h w v0 hA (toD h0) e⟩
instance {g:α->β->Option ρ}[F:Fun P f] [C:Fn2 P f α i β j ρ g σ] [h0:Has Γ x0 τ0] [k0:AsT τ0 σ0] [d0:ToD σ0 α i a] [h1:Has Γ x1 τ1] [k1:AsT τ1 σ1] [d1:ToD σ1 β j b]:OpB P B0 Ω Γ ⟨dst,.call { callee:=.value (.func f),args:=#[x0,x1],argTypes:=ts },ty,pos,aft,gd⟩ ρ (g a b) σ:=
 ⟨λe=>Kl λw v0 v1 hA h0 h1=>C.h w v0 v1 hA (toD h0) (toD h1) e⟩
instance {g:α->β->γ->Option ρ}[F:Fun P f] [C:Fn3 P f α i β j γ k ρ g σ] [h0:Has Γ x0 τ0] [k0:AsT τ0 σ0] [d0:ToD σ0 α i a] [h1:Has Γ x1 τ1] [k1:AsT τ1 σ1] [d1:ToD σ1 β j b] [h2:Has Γ x2 τ2] [k2:AsT τ2 σ2] [d2:ToD σ2 γ k c]:OpB P B0 Ω Γ ⟨dst,.call { callee:=.value (.func f),args:=#[x0,x1,x2],argTypes:=ts },ty,pos,aft,gd⟩ ρ (g a b c) σ:=
 ⟨λe=>Yz λw v0 v1 v2 hA h0 h1 h2=>C.h w v0 v1 v2 hA (toD h0) (toD h1) (toD h2) e⟩
instance {g:α->β->γ->δ->Option ρ}[F:Fun P f] [C:Fn4 P f α i β j γ k δ l ρ g σ] [h0:Has Γ x0 τ0] [k0:AsT τ0 σ0] [d0:ToD σ0 α i a] [h1:Has Γ x1 τ1] [k1:AsT τ1 σ1] [d1:ToD σ1 β j b] [h2:Has Γ x2 τ2] [k2:AsT τ2 σ2] [d2:ToD σ2 γ k c] [h3:Has Γ x3 τ3] [k3:AsT τ3 σ3] [d3:ToD σ3 δ l d]:OpB P B0 Ω Γ ⟨dst,.call { callee:=.value (.func f),args:=#[x0,x1,x2,x3],argTypes:=ts },ty,pos,aft,gd⟩ ρ (g a b c d) σ:=
 ⟨λe=>Yy λw v0 v1 v2 v3 hA h0 h1 h2 h3=>C.h w v0 v1 v2 v3 hA (toD h0) (toD h1) (toD h2) (toD h3) e⟩
end calls
section st
variable {P:Program}{r:Ref}{B:Nat}{Ωs:List Pe}{ops:Array Oper}{n:Nat}{ms:List Nat}{k:Nat}{Γ Δ:Env}{Ω Ω':List Pe}{F:Fam}{Q:Exit->Act->World->Prop}{K:Env->Fam->Prop}
 {d:Tmp}{op:Op}{ty:TypeId}{pos:String}{aft:Array Edge}{rest:List Oper}{τ σ:Ty}{j:Nat}{want b:Bool}{g:Tmp}{c:Prop}{p:Prop}{x y:Code}{id:Nat}{l:List Oper}{W:Act->World->Prop}
theorem TSA[h:OpA P r.w.heap.size Ω Γ ⟨some d,op,ty,pos,aft,none⟩ τ](hd:XaZ d n=true)(hk:p->TS P r n ops rest (k+1) (Γ.set d τ) Ω Q):p->TS P r n ops (⟨some d,op,ty,pos,aft,none⟩::rest) k Γ Ω Q:=λH=>A4 h.h hd (hk H)
theorem TSG(hg:(ops[j]?).bind (·.dst)=some g)[hs:Has Γ (.tmp g) σ][hb:AsB σ b](h:Ft (b=want)->OpA P r.w.heap.size Ω Γ ⟨some d,op,ty,pos,aft,some (j,want)⟩ τ)(hd:XaZ d n=true)(hk:p->TS P r n ops rest (k+1) (Γ.set d (HY (b=want) τ)) Ω Q):p->TS P r n ops (⟨some d,op,ty,pos,aft,some (j,want)⟩::rest) k Γ Ω Q:=
 λH=>MC g hg (λhg=>(h hg).h) hd (hk H)
theorem TSH(hg:(ops[j]?).bind (·.dst)=some g)[hs:Has Γ (.tmp g) (HY c σ)][hb:AsB σ b](h:Ft c->Ft (b=want)->OpA P r.w.heap.size Ω Γ ⟨some d,op,ty,pos,aft,some (j,want)⟩ τ)(hd:XaZ d n=true)(hk:p->TS P r n ops rest (k+1) (Γ.set d (HY (c/\b=want) τ)) Ω Q):p->TS P r n ops (⟨some d,op,ty,pos,aft,some (j,want)⟩::rest) k Γ Ω Q:=
 λH=>Q7 g hg (λhp hg=>(h hp hg).h) hd (hk H)
theorem TRA[h:OpA P B Ωs Γ ⟨some d,op,ty,pos,aft,none⟩ τ](hd:(XaZ d n && !ms.contains k && !F.tl.contains d)=true)(hk:p->TRw P B Ωs ops n ms (k+1) rest (Γ.set d τ) F K):p->TRw P B Ωs ops n ms k (⟨some d,op,ty,pos,aft,none⟩::rest) Γ F K:=λH=>Fd h.h hd (hk H)
theorem TRG(hg:(ops[j]?).bind (·.dst)=some g)[hs:Has Γ (.tmp g) σ][hb:AsB σ b](h:Ft (b=want)->OpA P B Ωs Γ ⟨some d,op,ty,pos,aft,some (j,want)⟩ τ)(hd:(XaZ d n && !ms.contains k && !F.tl.contains d)=true)(hk:p->TRw P B Ωs ops n ms (k+1) rest (Γ.set d (HY (b=want) τ)) F K):p->TRw P B Ωs ops n ms k (⟨some d,op,ty,pos,aft,some (j,want)⟩::rest) Γ F K:=
 λH=>Yg g hg (λhg=>(h hg).h) hd (hk H)
theorem TRH(hg:(ops[j]?).bind (·.dst)=some g)[hs:Has Γ (.tmp g) (HY c σ)][hb:AsB σ b](h:Ft c->Ft (b=want)->OpA P B Ωs Γ ⟨some d,op,ty,pos,aft,some (j,want)⟩ τ)(hd:(XaZ d n && !ms.contains k && !F.tl.contains d)=true)(hk:p->TRw P B Ωs ops n ms (k+1) rest (Γ.set d (HY (c/\b=want) τ)) F K):p->TRw P B Ωs ops n ms k (⟨some d,op,ty,pos,aft,some (j,want)⟩::rest) Γ F K:=
 λH=>Zd7 g hg (λhp hg=>(h hp hg).h) hd (hk H)
section b
variable {α γ:Type}{v:Option α}{f:α->Option γ}{z:γ}{ζ:α->Ty}{G:Bool}
theorem TSB[h:OpB P r.w.heap.size Ω Γ ⟨some d,op,ty,pos,aft,none⟩ α v ζ](hd:XaZ d n=true)(hk:∀a,FtE v a->f a=some z->TS P r n ops rest (k+1) (Γ.set d (ζ a)) Ω Q):v.bind f=some z->TS P r n ops (⟨some d,op,ty,pos,aft,none⟩::rest) k Γ Ω Q:=λH=>let ⟨a,e,H⟩:=bnd H;A4 (h.h e) hd (hk a ⟨e⟩ H)
theorem TSGB[Inhabited α](hg:(ops[j]?).bind (·.dst)=some g)[hs:Has Γ (.tmp g) σ][hb:AsB σ b](h:Ft (b=want)->OpB P r.w.heap.size Ω Γ ⟨some d,op,ty,pos,aft,some (j,want)⟩ α v ζ)(ht:Ft (b=want)->FtT G)(hd:XaZ d n=true)(hk:∀a,FtG v G a->f a=some z->TS P r n ops rest (k+1) (Γ.set d (HY (b=want) (ζ a))) Ω Q):(gb G v).bind f=some z->TS P r n ops (⟨some d,op,ty,pos,aft,some (j,want)⟩::rest) k Γ Ω Q:=
 λH=>let ⟨a,e,H⟩:=bnd H;MC g hg (λhg=>(h hg).h (BM e (ht hg).h)) hd (hk a ⟨e⟩ H)
theorem TSHB[Inhabited α](hg:(ops[j]?).bind (·.dst)=some g)[hs:Has Γ (.tmp g) (HY c σ)][hb:AsB σ b](h:Ft c->Ft (b=want)->OpB P r.w.heap.size Ω Γ ⟨some d,op,ty,pos,aft,some (j,want)⟩ α v ζ)(ht:Ft c->Ft (b=want)->FtT G)(hd:XaZ d n=true)(hk:∀a,FtG v G a->f a=some z->TS P r n ops rest (k+1) (Γ.set d (HY (c/\b=want) (ζ a))) Ω Q):(gb G v).bind f=some z->TS P r n ops (⟨some d,op,ty,pos,aft,some (j,want)⟩::rest) k Γ Ω Q:=
 λH=>let ⟨a,e,H⟩:=bnd H;Q7 g hg (λhp hg=>(h hp hg).h (BM e (ht hp hg).h)) hd (hk a ⟨e⟩ H)
theorem TRB[h:OpB P B Ωs Γ ⟨some d,op,ty,pos,aft,none⟩ α v ζ](hd:(XaZ d n && !ms.contains k && !F.tl.contains d)=true)(hk:∀a,FtE v a->f a=some z->TRw P B Ωs ops n ms (k+1) rest (Γ.set d (ζ a)) F K):v.bind f=some z->TRw P B Ωs ops n ms k (⟨some d,op,ty,pos,aft,none⟩::rest) Γ F K:=λH=>let ⟨a,e,H⟩:=bnd H;Fd (h.h e) hd (hk a ⟨e⟩ H)
theorem TRGB[Inhabited α](hg:(ops[j]?).bind (·.dst)=some g)[hs:Has Γ (.tmp g) σ][hb:AsB σ b](h:Ft (b=want)->OpB P B Ωs Γ ⟨some d,op,ty,pos,aft,some (j,want)⟩ α v ζ)(ht:Ft (b=want)->FtT G)(hd:(XaZ d n && !ms.contains k && !F.tl.contains d)=true)(hk:∀a,FtG v G a->f a=some z->TRw P B Ωs ops n ms (k+1) rest (Γ.set d (HY (b=want) (ζ a))) F K):(gb G v).bind f=some z->TRw P B Ωs ops n ms k (⟨some d,op,ty,pos,aft,some (j,want)⟩::rest) Γ F K:=
 λH=>let ⟨a,e,H⟩:=bnd H;Yg g hg (λhg=>(h hg).h (BM e (ht hg).h)) hd (hk a ⟨e⟩ H)
theorem TRHB[Inhabited α](hg:(ops[j]?).bind (·.dst)=some g)[hs:Has Γ (.tmp g) (HY c σ)][hb:AsB σ b](h:Ft c->Ft (b=want)->OpB P B Ωs Γ ⟨some d,op,ty,pos,aft,some (j,want)⟩ α v ζ)(ht:Ft c->Ft (b=want)->FtT G)(hd:(XaZ d n && !ms.contains k && !F.tl.contains d)=true)(hk:∀a,FtG v G a->f a=some z->TRw P B Ωs ops n ms (k+1) rest (Γ.set d (HY (c/\b=want) (ζ a))) F K):(gb G v).bind f=some z->TRw P B Ωs ops n ms k (⟨some d,op,ty,pos,aft,some (j,want)⟩::rest) Γ F K:=
 λH=>let ⟨a,e,H⟩:=bnd H;Zd7 g hg (λhp hg=>(h hp hg).h (BM e (ht hp hg).h)) hd (hk a ⟨e⟩ H)
theorem uSB{a:α}(e:FtE v a)[h:OpB P r.w.heap.size Ω Γ ⟨some d,op,ty,pos,aft,none⟩ α v ζ](hd:XaZ d n=true)(hk:p->TS P r n ops rest (k+1) (Γ.set d (ζ a)) Ω Q):p->TS P r n ops (⟨some d,op,ty,pos,aft,none⟩::rest) k Γ Ω Q:=λH=>A4 (h.h e.h) hd (hk H)
theorem uRB{a:α}(e:FtE v a)[h:OpB P B Ωs Γ ⟨some d,op,ty,pos,aft,none⟩ α v ζ](hd:(XaZ d n && !ms.contains k && !F.tl.contains d)=true)(hk:p->TRw P B Ωs ops n ms (k+1) rest (Γ.set d (ζ a)) F K):p->TRw P B Ωs ops n ms k (⟨some d,op,ty,pos,aft,none⟩::rest) Γ F K:=λH=>Fd (h.h e.h) hd (hk H)
theorem uSG[Inhabited α]{a:α}(e:FtG v G a)(hg:(ops[j]?).bind (·.dst)=some g)[hs:Has Γ (.tmp g) σ][hb:AsB σ b](h:Ft (b=want)->OpB P r.w.heap.size Ω Γ ⟨some d,op,ty,pos,aft,some (j,want)⟩ α v ζ)(ht:Ft (b=want)->FtT G)(hd:XaZ d n=true)(hk:p->TS P r n ops rest (k+1) (Γ.set d (HY (b=want) (ζ a))) Ω Q):p->TS P r n ops (⟨some d,op,ty,pos,aft,some (j,want)⟩::rest) k Γ Ω Q:=
 λH=>MC g hg (λhg=>(h hg).h (BM e.h (ht hg).h)) hd (hk H)
theorem uSH[Inhabited α]{a:α}(e:FtG v G a)(hg:(ops[j]?).bind (·.dst)=some g)[hs:Has Γ (.tmp g) (HY c σ)][hb:AsB σ b](h:Ft c->Ft (b=want)->OpB P r.w.heap.size Ω Γ ⟨some d,op,ty,pos,aft,some (j,want)⟩ α v ζ)(ht:Ft c->Ft (b=want)->FtT G)(hd:XaZ d n=true)(hk:p->TS P r n ops rest (k+1) (Γ.set d (HY (c/\b=want) (ζ a))) Ω Q):p->TS P r n ops (⟨some d,op,ty,pos,aft,some (j,want)⟩::rest) k Γ Ω Q:=
 λH=>Q7 g hg (λhp hg=>(h hp hg).h (BM e.h (ht hp hg).h)) hd (hk H)
theorem uRG[Inhabited α]{a:α}(e:FtG v G a)(hg:(ops[j]?).bind (·.dst)=some g)[hs:Has Γ (.tmp g) σ][hb:AsB σ b](h:Ft (b=want)->OpB P B Ωs Γ ⟨some d,op,ty,pos,aft,some (j,want)⟩ α v ζ)(ht:Ft (b=want)->FtT G)(hd:(XaZ d n && !ms.contains k && !F.tl.contains d)=true)(hk:p->TRw P B Ωs ops n ms (k+1) rest (Γ.set d (HY (b=want) (ζ a))) F K):p->TRw P B Ωs ops n ms k (⟨some d,op,ty,pos,aft,some (j,want)⟩::rest) Γ F K:=
 λH=>Yg g hg (λhg=>(h hg).h (BM e.h (ht hg).h)) hd (hk H)
theorem uRH[Inhabited α]{a:α}(e:FtG v G a)(hg:(ops[j]?).bind (·.dst)=some g)[hs:Has Γ (.tmp g) (HY c σ)][hb:AsB σ b](h:Ft c->Ft (b=want)->OpB P B Ωs Γ ⟨some d,op,ty,pos,aft,some (j,want)⟩ α v ζ)(ht:Ft c->Ft (b=want)->FtT G)(hd:(XaZ d n && !ms.contains k && !F.tl.contains d)=true)(hk:p->TRw P B Ωs ops n ms (k+1) rest (Γ.set d (HY (c/\b=want) (ζ a))) F K):p->TRw P B Ωs ops n ms k (⟨some d,op,ty,pos,aft,some (j,want)⟩::rest) Γ F K:=
 λH=>Zd7 g hg (λhp hg=>(h hp hg).h (BM e.h (ht hp hg).h)) hd (hk H)
end b
theorem tN(h:p->TC P r n Γ Ω y Q):p->TS P r n ops [] k Γ Ω (Exit.then (y.wpIn (FR r.ρ) 0 P Q) Q):=λH=>ZcY (Az (h H))
theorem Zde(h:p->TE r n Γ Ω Q .normal):p->TS P r n ops [] k Γ Ω Q:=λH=>ZcY (h H)
theorem tSq(h:p->TS P r n l.toArray l 0 Γ Ω (Exit.then (y.wpIn (FR r.ρ) 0 P Q) Q)):p->TC P r n Γ Ω (.seq (.region id l.toArray false) y) Q:=λH=>Zeb (h H)
theorem tRg(h:p->TS P r n l.toArray l 0 Γ Ω Q):p->TC P r n Γ Ω (.region id l.toArray false) Q:=λH=>Qf (h H)
theorem tDq(hm:P.follows .mixedOrders=true)[op:Opens r](hB:Region.lexB .any l.toArray=true)(h:p->TRw P r.w.heap.size Ω l.toArray n [] 0 l Γ (XaS []) λΓ' _=>TC P r n Γ' Ω y Q):p->TC P r n Γ Ω (.seq (.region id l.toArray true) y) Q:=λH=>ZbG hm hB (h H)
theorem Zcl(h:p->TC P r n Γ Ω x (Exit.then (y.wpIn (FR r.ρ) 0 P Q) Q)):p->TC P r n Γ Ω (.seq x y) Q:=λH=>AI (h H)
theorem Ry(h:p->TC P r n Γ Ω y Q):p->TE r n Γ Ω (Exit.then (y.wpIn (FR r.ρ) 0 P Q) Q) .normal:=λH=>Az (h H)
theorem Rz(h:p->TE r n Γ Ω Q .normal):p->TC P r n Γ Ω .skip Q:=λH=>AH (h H)
theorem Zeu(h:p->TE r n Γ Ω Q .ret):p->TC P r n Γ Ω .ret Q:=λH=>ZO (h H)
theorem tRt(h:p->TE r n Γ Ω Q .ret):p->TE r n Γ Ω (Exit.then W Q) .ret:=λH=>Zi (h H)
theorem tRi(h:p->TE r n Γ Ω Q .ret):p->TE r n Γ Ω (Xcm id Q) .ret:=λH=>Zh (h H)
theorem tNi(h:p->TE r n Γ Ω Q .normal):p->TE r n Γ Ω (Xcm id Q) .normal:=λH=>BV (h H)
theorem tBk(h:p->TC P r n Γ Ω y (Xcm id Q)):p->TC P r n Γ Ω (.block id y) Q:=λH=>Zr (h H)
theorem tRn(h:p->K Γ F):p->TRw P B Ωs ops n ms k [] Γ F K:=λH=>Sq (h H)
theorem tXt(h:p->TE r n Γ Ω Q (.exit id)):p->TE r n Γ Ω (Exit.then W Q) (.exit id):=λH=>Kd (h H)
theorem tEx(h:p->TE r n Γ Ω Q (.exit id)):p->TC P r n Γ Ω (.exit id) Q:=λH=>TC.exit (h H)
theorem tXe{σ ν:Type}{pp:σ->Prop}{Δ:σ->ν->Env}{J:σ->ν->List Pe} (h:p->TE r n Γ Ω Q (.exit id)):p->TE r n Γ Ω (ZeQ r n pp Δ J Q) (.exit id):=λH=>TQ (h H)
theorem tCr{σ ν:Type}{pp:σ->Prop}{Δ:σ->ν->Env}{J:σ->ν->List Pe} (h:p->TE r n Γ Ω Q .ret):p->TE r n Γ Ω (ZeQ r n pp Δ J Q) .ret:=λH=>Zw (h H)
theorem tXh(h:p->TE r n Γ Ω Q .normal):p->TE r n Γ Ω (Xcm id Q) (.exit id):=λH=>Ke (h H)
theorem tXo{id':Nat}(hne:(id' == id)=false)(h:p->TE r n Γ Ω Q (.exit id')):p->TE r n Γ Ω (Xcm id Q) (.exit id'):=λH=>NK hne (h H)
theorem TSW[op:Opens r]{t:TypeId}{v x:Operand}{α:Type}{i:Dat α}{bl o:Nat}{pr:Prop}{C:Ct}{Ωr:List Pe}{u y:α}{upd:α->Ct}[hp:Has Γ v τ] [q:AsPq τ bl o pr] [pk:Pick Ω bl pr C Ωr] [hx:Has Γ x σ] [T:TDat P t α i] [hy:ToD σ α i y] [pl:PlO C o α i u upd]
  (hk:p->TS P r n ops rest (k+1) Γ (⟨bl,pr,upd y⟩::Ωr) Q):p->TS P r n ops (⟨none,.store t v x,ty,pos,aft,none⟩::rest) k Γ Ω Q:=λH=>Bk (ZD pl.h) (hk H)
theorem tBox[op:Opens r]{t:TypeId}{x:Operand}{α:Type}{i:Dat α}{y:α}[T:TDat P t α i] [hx:Has Γ x τ] [hy:ToD τ α i y] (hd:XaZ d n=true) (hk:∀b,p->TS P r n ops rest (k+1) (Γ.set d (Pt b 0)) (⟨b,True,One y⟩::Ω) Q):p->TS P r n ops (⟨some d,.box t x,ty,pos,aft,none⟩::rest) k Γ Ω Q:=λH=>Xa9 hd λb=>hk b H
theorem tAl[op:Opens r]{t:TypeId}{α:Type}{i:Dat α}{bt:Nat}[T:TEl P t α i bt] (hd:XaZ d n=true) (hk:∀b,p->TS P r n ops rest (k+1) (Γ.set d (Pt b 0)) (⟨b,True,One (Dat.z:α)⟩::Ω) Q):p->TS P r n ops (⟨some d,.alloc t,ty,pos,aft,none⟩::rest) k Γ Ω Q:=λH=>Xaq hd λb=>hk b H
theorem gS{o:Oper}(h:p->TS P r n ops (o::rest) k Γ Ω Q):p->TS P r n ops (o::rest) k Γ Ω Q:=h
theorem gR{o:Oper}(h:p->TRw P B Ωs ops n ms k (o::rest) Γ F K):p->TRw P B Ωs ops n ms k (o::rest) Γ F K:=h
theorem gD(h:p->TC P r n Γ Ω (.seq (.region id l.toArray true) y) Q):p->TC P r n Γ Ω (.seq (.region id l.toArray true) y) Q:=h
theorem gE{e:Exit}(h:p->TE r n Γ Ω Q e):p->TE r n Γ Ω Q e:=h
theorem bS{α β:Type}{a:α}{f:α->Option β}{z:β} (k:f a=some z->p):(some a).bind f=some z->p:=k
theorem cI{o:Operand}{α:Type}{u v:Option α}{z:α}[hc:Has Γ o τ] [hb:AsB τ b] (h1:b=true->u=some z->TC P r n Γ Ω x Q) (h2:b=false->v=some z->TC P r n Γ Ω y Q):(bif b then u else v)=some z->TC P r n Γ Ω (.cond o x y) Q:=
 λH=>Hu (λhc=>h1 hc (cT H hc)) λhc=>h2 hc (cF H hc)
class CvL(τs σs:List Ty):Prop where
 h:LeAll τs σs
instance :CvL [] []:=⟨.nil⟩
instance {τ σ:Ty}{τs σs:List Ty}[c:Cv τ σ] [k:CvL τs σs]:CvL (τ::τs) (σ::σs):=⟨.cons c.le k.h⟩
end st
abbrev Fd1(f:FuncId){α ρ:Type}[i:Dat α] (g:α->Option ρ) (σ:ρ->Ty):Prop:=Fn1 Tryz.prog f α i ρ g σ
abbrev Fd2(f:FuncId){α β ρ:Type}[i:Dat α] [j:Dat β] (g:α->β->Option ρ) (σ:ρ->Ty):Prop:=Fn2 Tryz.prog f α i β j ρ g σ
abbrev Fd3(f:FuncId){α β γ ρ:Type}[i:Dat α] [j:Dat β] [k:Dat γ] (g:α->β->γ->Option ρ) (σ:ρ->Ty):Prop:=Fn3 Tryz.prog f α i β j γ k ρ g σ
abbrev Fd4(f:FuncId){α β γ δ ρ:Type}[i:Dat α] [j:Dat β] [k:Dat γ] [l:Dat δ] (g:α->β->γ->δ->Option ρ) (σ:ρ->Ty):Prop:=Fn4 Tryz.prog f α i β j γ k δ l ρ g σ
section en
variable {f:FuncId}{fn:Func}{n:Nat}{c:Code}{α β γ δ ρ:Type}[i:Dat α] [j:Dat β] [k:Dat γ] [l:Dat δ] {σ:ρ->Ty}
theorem en1{g:α->Option ρ}(hf:Tryz.prog.funcs[f]?=some fn)(hb:fn.body=some c)(hn:fn.ntmps=n)
 (h:∀(A:Nat->Prop) (w:World) (hA:∀k,w.heap.size<=k->A k) (a:α) (r:ρ),g a=some r->TC Tryz.prog (G6 A w hA) n (TR Xaj 0 (D a)) [] c (bodyPost Tryz.prog fn (Ret A w (σ r)))) (hl:Xbn 1 n=true:=by rfl):Fd1 f g σ:=
 ⟨λw v0 hA h0 H=>U0 hA hf hb hn hl h0 (h _ w hA _ _ H)⟩
theorem en2{g:α->β->Option ρ}(hf:Tryz.prog.funcs[f]?=some fn)(hb:fn.body=some c)(hn:fn.ntmps=n)
 (h:∀(A:Nat->Prop) (w:World) (hA:∀k,w.heap.size<=k->A k) (a:α) (b:β) (r:ρ),g a b=some r->TC Tryz.prog (G6 A w hA) n (TR (TR Xaj 0 (D a)) 1 (D b)) [] c (bodyPost Tryz.prog fn (Ret A w (σ r)))) (hl:Xbn 2 n=true:=by rfl):Fd2 f g σ:=
 ⟨λw v0 v1 hA h0 h1 H=>Sd hA hf hb hn hl h0 h1 (h _ w hA _ _ _ H)⟩
theorem en3{g:α->β->γ->Option ρ}(hf:Tryz.prog.funcs[f]?=some fn)(hb:fn.body=some c)(hn:fn.ntmps=n)
 (h:∀(A:Nat->Prop) (w:World) (hA:∀k,w.heap.size<=k->A k) (a:α) (b:β) (c0:γ) (r:ρ),g a b c0=some r->TC Tryz.prog (G6 A w hA) n (TR (TR (TR Xaj 0 (D a)) 1 (D b)) 2 (D c0)) [] c (bodyPost Tryz.prog fn (Ret A w (σ r)))) (hl:Xbn 3 n=true:=by rfl):Fd3 f g σ:=
 ⟨λw v0 v1 v2 hA h0 h1 h2 H=>ZcK hA hf hb hn hl h0 h1 h2 (h _ w hA _ _ _ _ H)⟩
theorem en4{g:α->β->γ->δ->Option ρ}(hf:Tryz.prog.funcs[f]?=some fn)(hb:fn.body=some c)(hn:fn.ntmps=n)
 (h:∀(A:Nat->Prop) (w:World) (hA:∀k,w.heap.size<=k->A k) (a:α) (b:β) (c0:γ) (d:δ) (r:ρ),g a b c0 d=some r->TC Tryz.prog (G6 A w hA) n (TR (TR (TR (TR Xaj 0 (D a)) 1 (D b)) 2 (D c0)) 3 (D d)) [] c (bodyPost Tryz.prog fn (Ret A w (σ r)))) (hl:Xbn 4 n=true:=by rfl):Fd4 f g σ:=
 ⟨λw v0 v1 v2 v3 hA h0 h1 h2 h3 H=>Zfk hA hf hb hn hl h0 h1 h2 h3 (h _ w hA _ _ _ _ _ H)⟩
end en
theorem zY{p q:Prop}(H:p)(h:p->q:=by
 repeat' (first
  | ((with_reducible refine gS ?_);(first|refine TSA rfl ?_|refine TSB rfl λ_ _=>?_|refine TSG rfl (λ_=>inferInstance) rfl ?_|refine TSGB rfl (λ_=>inferInstance) (λ_=>inferInstance) rfl λ_ _=>?_|refine TSH rfl (λ_ _=>inferInstance) rfl ?_|refine TSH rfl (λh _=>haveI:=XgG h;haveI:=Y7 h;inferInstance) rfl ?_|refine TSHB rfl (λ_ _=>inferInstance) (λ_ _=>inferInstance) rfl λ_ _=>?_|refine TSW ?_|refine tBox rfl λ_=>?_|refine tAl rfl λ_=>?_))
  | with_reducible refine tN ?_
  | with_reducible refine tSq ?_
  | with_reducible refine bS ?_
  | with_reducible refine cI (λ_=>?_) (λ_=>?_)
  | ((with_reducible refine gD ?_);refine tDq mix (by kernel_rfl) ?_)
  | with_reducible refine Zcl ?_
  | with_reducible refine Ry ?_
  | with_reducible refine Rz ?_
  | with_reducible refine Zeu ?_
  | with_reducible refine tRt ?_
  | with_reducible refine tRi ?_
  | with_reducible refine tNi ?_
  | with_reducible refine tBk ?_
  | ((with_reducible refine gR ?_);(first|refine TRA rfl ?_|refine TRB rfl λ_ _=>?_|refine TRG rfl (λ_=>inferInstance) rfl ?_|refine TRGB rfl (λ_=>inferInstance) (λ_=>inferInstance) rfl λ_ _=>?_|refine TRH rfl (λ_ _=>inferInstance) rfl ?_|refine TRHB rfl (λ_ _=>inferInstance) (λ_ _=>inferInstance) rfl λ_ _=>?_))
  | with_reducible refine tRn ?_
  | with_reducible refine Zde ?_
  | with_reducible refine tRg ?_
  | ((with_reducible refine gE ?_);intro h;obtain rfl:=ZZi h;first|exact Bc rfl Cv.le|exact Eo rfl rfl CvL.h))):q:=h H
theorem zg{m q:Prop}(k:q)(h:q->True->m:=by
 intro k
 repeat (first
  | ((with_reducible refine gS ?_);(first|refine TSA rfl ?_|refine TSG rfl (λ_=>inferInstance) rfl ?_|refine TSH rfl (λ_ _=>inferInstance) rfl ?_|refine TSH rfl (λh _=>haveI:=XgG h;haveI:=Y7 h;inferInstance) rfl ?_|refine TSW ?_))
  | with_reducible refine tN ?_
  | with_reducible refine tSq ?_
  | ((with_reducible refine gD ?_);refine tDq mix (by kernel_rfl) ?_)
  | with_reducible refine Zcl ?_
  | with_reducible refine Ry ?_
  | with_reducible refine Rz ?_
  | with_reducible refine Zeu ?_
  | with_reducible refine tRt ?_
  | with_reducible refine tRi ?_
  | with_reducible refine tNi ?_
  | with_reducible refine tBk ?_
  | ((with_reducible refine gR ?_);(first|refine TRA rfl ?_|refine TRG rfl (λ_=>inferInstance) rfl ?_|refine TRH rfl (λ_ _=>inferInstance) rfl ?_))
  | with_reducible refine tRn ?_
  | with_reducible refine Zde ?_
  | with_reducible refine tRg ?_
  | with_reducible refine tXt ?_
  | with_reducible refine tXe ?_
  | with_reducible refine tCr ?_
  | with_reducible refine tEx ?_
  | with_reducible refine tXh ?_
  | (with_reducible refine tXo rfl ?_))
 exact λ_=>k):m:=h k trivial
theorem zX{m p q:Prop}(f:m->p)(k:q)(h:q->True->m:=by
 intro k
 repeat (first
  | ((with_reducible refine gS ?_);(first|refine TSA rfl ?_|refine TSG rfl (λ_=>inferInstance) rfl ?_|refine TSH rfl (λ_ _=>inferInstance) rfl ?_|refine TSH rfl (λh _=>haveI:=XgG h;haveI:=Y7 h;inferInstance) rfl ?_|refine TSW ?_))
  | with_reducible refine tN ?_
  | with_reducible refine tSq ?_
  | ((with_reducible refine gD ?_);refine tDq mix (by kernel_rfl) ?_)
  | with_reducible refine Zcl ?_
  | with_reducible refine Ry ?_
  | with_reducible refine Rz ?_
  | with_reducible refine Zeu ?_
  | with_reducible refine tRt ?_
  | with_reducible refine tRi ?_
  | with_reducible refine tNi ?_
  | with_reducible refine tBk ?_
  | ((with_reducible refine gR ?_);(first|refine TRA rfl ?_|refine TRG rfl (λ_=>inferInstance) rfl ?_|refine TRH rfl (λ_ _=>inferInstance) rfl ?_))
  | with_reducible refine tRn ?_
  | with_reducible refine Zde ?_
  | with_reducible refine tRg ?_
  | with_reducible refine tXt ?_
  | with_reducible refine tXe ?_
  | with_reducible refine tCr ?_
  | with_reducible refine tEx ?_
  | with_reducible refine tXh ?_
  | (with_reducible refine tXo rfl ?_))
 exact λ_=>k):p:=f (h k trivial)
theorem zb{α β:Type}{x:Option α}{f:α->Option β}{z:β}{p:Prop}{q:α->Prop} (H:x.bind f=some z) (k:∀a,FtE x a->f a=some z->q a) (h:∀a,FtE x a->q a->True->p:=by
 intro a e k
 (first|refine uSB e rfl ?_|refine uRB e rfl ?_)
 repeat (first
  | ((with_reducible refine gS ?_);(first|refine TSA rfl ?_|refine TSG rfl (λ_=>inferInstance) rfl ?_|refine TSH rfl (λ_ _=>inferInstance) rfl ?_|refine TSH rfl (λh _=>haveI:=XgG h;haveI:=Y7 h;inferInstance) rfl ?_|refine TSW ?_))
  | with_reducible refine tN ?_
  | with_reducible refine tSq ?_
  | ((with_reducible refine gD ?_);refine tDq mix (by kernel_rfl) ?_)
  | with_reducible refine Zcl ?_
  | with_reducible refine Ry ?_
  | with_reducible refine Rz ?_
  | with_reducible refine Zeu ?_
  | with_reducible refine tRt ?_
  | with_reducible refine tRi ?_
  | with_reducible refine tNi ?_
  | with_reducible refine tBk ?_
  | ((with_reducible refine gR ?_);(first|refine TRA rfl ?_|refine TRG rfl (λ_=>inferInstance) rfl ?_|refine TRH rfl (λ_ _=>inferInstance) rfl ?_))
  | with_reducible refine tRn ?_
  | with_reducible refine Zde ?_
  | with_reducible refine tRg ?_
  | with_reducible refine tXt ?_
  | with_reducible refine tXe ?_
  | with_reducible refine tCr ?_
  | with_reducible refine tEx ?_
  | with_reducible refine tXh ?_
  | (with_reducible refine tXo rfl ?_))
 exact λ_=>k):p:=let ⟨a,e,H⟩:=bnd H;h a ⟨e⟩ (k a ⟨e⟩ H) trivial
theorem zd{α β:Type}[Inhabited α] {g:Bool}{x:Option α}{f:α->Option β}{z:β}{p:Prop}{q:α->Prop} (H:(gb g x).bind f=some z) (k:∀a,FtG x g a->f a=some z->q a) (h:∀a,FtG x g a->q a->True->p:=by
 intro a e k
 (first|refine uSG e rfl (λ_=>inferInstance) (λ_=>inferInstance) rfl ?_|refine uRG e rfl (λ_=>inferInstance) (λ_=>inferInstance) rfl ?_|refine uSH e rfl (λ_ _=>inferInstance) (λ_ _=>inferInstance) rfl ?_|refine uRH e rfl (λ_ _=>inferInstance) (λ_ _=>inferInstance) rfl ?_)
 repeat (first
  | ((with_reducible refine gS ?_);(first|refine TSA rfl ?_|refine TSG rfl (λ_=>inferInstance) rfl ?_|refine TSH rfl (λ_ _=>inferInstance) rfl ?_|refine TSH rfl (λh _=>haveI:=XgG h;haveI:=Y7 h;inferInstance) rfl ?_|refine TSW ?_))
  | with_reducible refine tN ?_
  | with_reducible refine tSq ?_
  | ((with_reducible refine gD ?_);refine tDq mix (by kernel_rfl) ?_)
  | with_reducible refine Zcl ?_
  | with_reducible refine Ry ?_
  | with_reducible refine Rz ?_
  | with_reducible refine Zeu ?_
  | with_reducible refine tRt ?_
  | with_reducible refine tRi ?_
  | with_reducible refine tNi ?_
  | with_reducible refine tBk ?_
  | ((with_reducible refine gR ?_);(first|refine TRA rfl ?_|refine TRG rfl (λ_=>inferInstance) rfl ?_|refine TRH rfl (λ_ _=>inferInstance) rfl ?_))
  | with_reducible refine tRn ?_
  | with_reducible refine Zde ?_
  | with_reducible refine tRg ?_
  | with_reducible refine tXt ?_
  | with_reducible refine tXe ?_
  | with_reducible refine tCr ?_
  | with_reducible refine tEx ?_
  | with_reducible refine tXh ?_
  | (with_reducible refine tXo rfl ?_))
 exact λ_=>k):p:=let ⟨a,e,H⟩:=bnd H;h a ⟨e⟩ (k a ⟨e⟩ H) trivial
theorem zo{α β:Type}{x:Option α}{f:α->Option β}{z:β}{p:Prop}{q:α->Prop} (H:x.bind f=some z) (k:∀a,FtE x a->f a=some z->q a) (h:∀a,FtE x a->q a->True->p:=by
 intro a e k
 (first|refine uSB e rfl ?_|refine uRB e rfl ?_)
 exact λ_=>k):p:=let ⟨a,e,H⟩:=bnd H;h a ⟨e⟩ (k a ⟨e⟩ H) trivial
theorem zh{α β:Type}{x:Option α}{f:α->Option β}{z:β}{p:Prop} (H:x.bind f=some z) (k:∀a,x=some a->f a=some z->p):p:=let ⟨a,e,H⟩:=bnd H;k a e H
theorem zn{α β:Type}{x:Option α}{f:α->Option β}{z:β}{p:Prop} (H:x.bind f=some z) (k:∀a,FtE x a->f a=some z->p):p:=let ⟨a,e,H⟩:=bnd H;k a ⟨e⟩ H
theorem zm{α β:Type}[Inhabited α] {g:Bool}{x:Option α}{f:α->Option β}{z:β}{p:Prop} (H:(gb g x).bind f=some z) (k:∀a,FtG x g a->f a=some z->p):p:=let ⟨a,e,H⟩:=bnd H;k a ⟨e⟩ H
theorem zc{P:Program}{r:Ref}{n:Nat}{Γ:Env}{Ω:List Pe}{Q:Exit->Act->World->Prop}{o:Operand}{x y:Code}{τ:Ty}{b:Bool}{α:Type}{u v:Option α}{z:α} (H:(bif b then u else v)=some z) [hc:Has Γ o τ] [hb:AsB τ b] (k1:b=true->u=some z->TC P r n Γ Ω x Q) (k2:b=false->v=some z->TC P r n Γ Ω y Q):TC P r n Γ Ω (.cond o x y) Q:=Hu (λhc=>k1 hc (cT H hc)) λhc=>k2 hc (cF H hc)
theorem zC{m q:Prop}(k:q)(h:q->True->m:=by
 intro k
 repeat (first
  | with_reducible refine tSq ?_
  | ((with_reducible refine gD ?_);refine tDq mix (by kernel_rfl) ?_)
  | with_reducible refine tRg ?_
  | with_reducible refine Zcl ?_
  | with_reducible refine Ry ?_
  | with_reducible refine Rz ?_
  | with_reducible refine tNi ?_
  | with_reducible refine tBk ?_)
 repeat (first
  | ((with_reducible refine gS ?_);(first|refine TSA rfl ?_|refine TSG rfl (λ_=>inferInstance) rfl ?_|refine TSH rfl (λ_ _=>inferInstance) rfl ?_|refine TSH rfl (λh _=>haveI:=XgG h;haveI:=Y7 h;inferInstance) rfl ?_|refine TSW ?_))
  | ((with_reducible refine gR ?_);(first|refine TRA rfl ?_|refine TRG rfl (λ_=>inferInstance) rfl ?_|refine TRH rfl (λ_ _=>inferInstance) rfl ?_)))
 (first|with_reducible refine tN ?_|with_reducible refine tRn ?_)
 exact λ_=>k):m:=h k trivial
theorem zE{m q:Prop}(k:q)(h:q->True->m:=by
 intro k
 repeat (first
  | with_reducible refine tSq ?_
  | ((with_reducible refine gD ?_);refine tDq mix (by kernel_rfl) ?_)
  | with_reducible refine tRg ?_
  | with_reducible refine Zcl ?_
  | with_reducible refine Ry ?_
  | with_reducible refine Rz ?_
  | with_reducible refine tNi ?_
  | with_reducible refine tBk ?_)
 repeat (first
  | ((with_reducible refine gS ?_);(first|refine TSA rfl ?_|refine TSG rfl (λ_=>inferInstance) rfl ?_|refine TSH rfl (λ_ _=>inferInstance) rfl ?_|refine TSH rfl (λh _=>haveI:=XgG h;haveI:=Y7 h;inferInstance) rfl ?_|refine TSW ?_))
  | ((with_reducible refine gR ?_);(first|refine TRA rfl ?_|refine TRG rfl (λ_=>inferInstance) rfl ?_|refine TRH rfl (λ_ _=>inferInstance) rfl ?_)))
 with_reducible refine Zde ?_
 exact λ_=>k):m:=h k trivial
def CO1(f:FuncId)(Ωt:List Pe)(τ0:Ty){ν:Type}(τ:ν->Ty)(Ω':ν->List Pe):Prop:=∀{A:Nat->Prop} (w:World) (v0:Value),(∀k,w.heap.size<=k->A k)->OwnIn A Ωt->Gh Ωt->Pks (Pub A Ωt) Ωt w->τ0.p (Pub A Ωt) w v0->Calls Tryz.prog f #[v0] w (M7 A w Ωt τ Ω')
theorem eO1{f:FuncId}{fn:Func}{n:Nat}{c:Code}{Ωt:List Pe}{τ0:Ty}{ν:Type}{τ:ν->Ty}{Ω':ν->List Pe} (hf:Tryz.prog.funcs[f]?=some fn) (hb:fn.body=some c) (hn:fn.ntmps=n)
 (h:∀(A:Nat->Prop) (w:World) (hA:∀k,w.heap.size<=k->A k) (hO:OwnIn A Ωt),TC Tryz.prog (Gi A w Ωt hA) n (TR Xaj 0 τ0) Ωt c (bodyPost Tryz.prog fn (M7 A w Ωt τ Ω'))) (hl:Xbn 1 n=true:=by rfl):CO1 f Ωt τ0 τ Ω':=
 λw v0 hA hO hap hks h0=>QW hA hap hks hf hb hn hl h0 (h _ w hA hO)
theorem oc1{B:Nat}{Ωs Ω Ωt Ωr:List Pe}{Γ:Env}{dst:Option Tmp}{ty:TypeId}{pos:String}{aft:Array Edge}{f:FuncId}{ts:Array TypeId}{ν:Type}{τ:ν->Ty}{Ω':ν->List Pe}{x0:Operand}{ρ0 τ0:Ty}[F:Fun Tryz.prog f] [H0:Has Γ x0 ρ0] (bs:List Nat) [sp:Sel2 Ω bs Ωt Ωr] (C:CO1 f Ωt τ0 τ Ω') (k0:∀{A:Nat->Prop}{w:World}{v:Value},ρ0.p A w v->τ0.p A w v) :
 OpT Tryz.prog B Ωs Ω Γ ⟨dst,.call { callee:=.value (.func f),args:=#[x0],argTypes:=ts },ty,pos,aft,none⟩ τ λg=>Ω' g++Ωr:=
 IR bs λw v0 hA hO hap hks h0=>C w v0 hA hO hap hks (k0 h0)
def CO2(f:FuncId)(Ωt:List Pe)(τ0 τ1:Ty){ν:Type}(τ:ν->Ty)(Ω':ν->List Pe):Prop:=∀{A:Nat->Prop} (w:World) (v0 v1:Value),(∀k,w.heap.size<=k->A k)->OwnIn A Ωt->Gh Ωt->Pks (Pub A Ωt) Ωt w->τ0.p (Pub A Ωt) w v0->τ1.p (Pub A Ωt) w v1->Calls Tryz.prog f #[v0,v1] w (M7 A w Ωt τ Ω')
theorem eO2{f:FuncId}{fn:Func}{n:Nat}{c:Code}{Ωt:List Pe}{τ0 τ1:Ty}{ν:Type}{τ:ν->Ty}{Ω':ν->List Pe} (hf:Tryz.prog.funcs[f]?=some fn) (hb:fn.body=some c) (hn:fn.ntmps=n)
 (h:∀(A:Nat->Prop) (w:World) (hA:∀k,w.heap.size<=k->A k) (hO:OwnIn A Ωt),TC Tryz.prog (Gi A w Ωt hA) n (TR (TR Xaj 0 τ0) 1 τ1) Ωt c (bodyPost Tryz.prog fn (M7 A w Ωt τ Ω'))) (hl:Xbn 2 n=true:=by rfl):CO2 f Ωt τ0 τ1 τ Ω':=
 λw v0 v1 hA hO hap hks h0 h1=>ZdR hA hap hks hf hb hn hl h0 h1 (h _ w hA hO)
theorem oc2{B:Nat}{Ωs Ω Ωt Ωr:List Pe}{Γ:Env}{dst:Option Tmp}{ty:TypeId}{pos:String}{aft:Array Edge}{f:FuncId}{ts:Array TypeId}{ν:Type}{τ:ν->Ty}{Ω':ν->List Pe}{x0 x1:Operand}{ρ0 ρ1 τ0 τ1:Ty}[F:Fun Tryz.prog f] [H0:Has Γ x0 ρ0] [H1:Has Γ x1 ρ1] (bs:List Nat) [sp:Sel2 Ω bs Ωt Ωr] (C:CO2 f Ωt τ0 τ1 τ Ω') (k0:∀{A:Nat->Prop}{w:World}{v:Value},ρ0.p A w v->τ0.p A w v) (k1:∀{A:Nat->Prop}{w:World}{v:Value},ρ1.p A w v->τ1.p A w v) :
 OpT Tryz.prog B Ωs Ω Γ ⟨dst,.call { callee:=.value (.func f),args:=#[x0,x1],argTypes:=ts },ty,pos,aft,none⟩ τ λg=>Ω' g++Ωr:=
 Qm bs λw v0 v1 hA hO hap hks h0 h1=>C w v0 v1 hA hO hap hks (k0 h0) (k1 h1)
def CO3(f:FuncId)(Ωt:List Pe)(τ0 τ1 τ2:Ty){ν:Type}(τ:ν->Ty)(Ω':ν->List Pe):Prop:=∀{A:Nat->Prop} (w:World) (v0 v1 v2:Value),(∀k,w.heap.size<=k->A k)->OwnIn A Ωt->Gh Ωt->Pks (Pub A Ωt) Ωt w->τ0.p (Pub A Ωt) w v0->τ1.p (Pub A Ωt) w v1->τ2.p (Pub A Ωt) w v2->Calls Tryz.prog f #[v0,v1,v2] w (M7 A w Ωt τ Ω')
theorem eO3{f:FuncId}{fn:Func}{n:Nat}{c:Code}{Ωt:List Pe}{τ0 τ1 τ2:Ty}{ν:Type}{τ:ν->Ty}{Ω':ν->List Pe} (hf:Tryz.prog.funcs[f]?=some fn) (hb:fn.body=some c) (hn:fn.ntmps=n)
 (h:∀(A:Nat->Prop) (w:World) (hA:∀k,w.heap.size<=k->A k) (hO:OwnIn A Ωt),TC Tryz.prog (Gi A w Ωt hA) n (TR (TR (TR Xaj 0 τ0) 1 τ1) 2 τ2) Ωt c (bodyPost Tryz.prog fn (M7 A w Ωt τ Ω'))) (hl:Xbn 3 n=true:=by rfl):CO3 f Ωt τ0 τ1 τ2 τ Ω':=
 λw v0 v1 v2 hA hO hap hks h0 h1 h2=>Tw hA hap hks hf hb hn hl h0 h1 h2 (h _ w hA hO)
theorem oc3{B:Nat}{Ωs Ω Ωt Ωr:List Pe}{Γ:Env}{dst:Option Tmp}{ty:TypeId}{pos:String}{aft:Array Edge}{f:FuncId}{ts:Array TypeId}{ν:Type}{τ:ν->Ty}{Ω':ν->List Pe}{x0 x1 x2:Operand}{ρ0 ρ1 ρ2 τ0 τ1 τ2:Ty}[F:Fun Tryz.prog f] [H0:Has Γ x0 ρ0] [H1:Has Γ x1 ρ1] [H2:Has Γ x2 ρ2] (bs:List Nat) [sp:Sel2 Ω bs Ωt Ωr] (C:CO3 f Ωt τ0 τ1 τ2 τ Ω') (k0:∀{A:Nat->Prop}{w:World}{v:Value},ρ0.p A w v->τ0.p A w v) (k1:∀{A:Nat->Prop}{w:World}{v:Value},ρ1.p A w v->τ1.p A w v) (k2:∀{A:Nat->Prop}{w:World}{v:Value},ρ2.p A w v->τ2.p A w v) :
 OpT Tryz.prog B Ωs Ω Γ ⟨dst,.call { callee:=.value (.func f),args:=#[x0,x1,x2],argTypes:=ts },ty,pos,aft,none⟩ τ λg=>Ω' g++Ωr:=
 Ql bs λw v0 v1 v2 hA hO hap hks h0 h1 h2=>C w v0 v1 v2 hA hO hap hks (k0 h0) (k1 h1) (k2 h2)
theorem on1{f:FuncId}{τ0:Ty}{ν:Type}{τ:ν->Ty}{Ω':ν->List Pe} (C:CO1 f [] τ0 τ Ω') {A:Nat->Prop} (w:World) (v0:Value) (hA:∀k,w.heap.size<=k->A k) (h0:τ0.p A w v0):Calls Tryz.prog f #[v0] w (M7 A w [] τ Ω'):=
 C w v0 hA ⟨λk ⟨e,he,_⟩=>absurd he (by simp)⟩ List.Pairwise.nil (λe he=>absurd he (by simp)) (Xe5 h0)
theorem on2{f:FuncId}{τ0 τ1:Ty}{ν:Type}{τ:ν->Ty}{Ω':ν->List Pe} (C:CO2 f [] τ0 τ1 τ Ω') {A:Nat->Prop} (w:World) (v0 v1:Value) (hA:∀k,w.heap.size<=k->A k) (h0:τ0.p A w v0) (h1:τ1.p A w v1):Calls Tryz.prog f #[v0,v1] w (M7 A w [] τ Ω'):=
 C w v0 v1 hA ⟨λk ⟨e,he,_⟩=>absurd he (by simp)⟩ List.Pairwise.nil (λe he=>absurd he (by simp)) (Xe5 h0) (Xe5 h1)
class TBu(P:Program)(t:TypeId):Prop where
 h:∃fs,P.underlying t=some (.struct fs)/\(fs.toList.mapM (λf=>(P.info? f.type).map λi=>(f.offset,i.size))).isSome=true
class HasPa(P:Program)(t:TypeId)(Γ:Env)(ps:Array (Nat×Operand))(α:Type)(i:Dat α)(x0:α)(x:outParam α):Prop where
 h:∃l,ps=l.toArray/\HasParts P t Γ l α i x0 x
instance {P:Program}{t:TypeId}{Γ:Env}{l:List (Nat×Operand)}{α:Type}{i:Dat α}{x0 x:α}[h:HasParts P t Γ l α i x0 x]:HasPa P t Γ l.toArray α i x0 x:=⟨l,rfl,h⟩
theorem tB{P:Program}{B0:Nat}{A:Nat->Prop}{Ω:List Pe}{Γ:Env}{dst:Option Tmp}{ty:TypeId}{pos:String}{aft:Array Edge}{gd:Option (Nat×Bool)}{α:Type}{i:Dat α}{t:TypeId}{parts:Array (Nat×Operand)}{bt:Nat}{x:α} (y:α) [T:TEl P t α i bt] [U:TBu P t] [h:HasPa P t Γ parts α i Dat.z x] (ha:Dat.agg α=true) (hxy:x=y):OpY P B0 A Ω Γ ⟨dst,.build t parts,ty,pos,aft,gd⟩ (D y):=
 let ⟨l,e,h⟩:=h.h;O8 y e U.h ha hxy
theorem zw{m q:Prop}(k:q)(h:q->True->m:=by
 intro k;dsimp only[Xan,Xam]
 repeat (first
  | ((with_reducible refine gS ?_);(first|refine TSA rfl ?_|refine TSG rfl (λ_=>inferInstance) rfl ?_|refine TSH rfl (λ_ _=>inferInstance) rfl ?_|refine TSH rfl (λh _=>haveI:=XgG h;haveI:=Y7 h;inferInstance) rfl ?_|refine TSW ?_))
  | with_reducible refine tN ?_
  | with_reducible refine tSq ?_
  | ((with_reducible refine gD ?_);refine tDq mix (by kernel_rfl) ?_)
  | with_reducible refine Zcl ?_
  | with_reducible refine Ry ?_
  | with_reducible refine Rz ?_
  | with_reducible refine Zeu ?_
  | with_reducible refine tRt ?_
  | with_reducible refine tRi ?_
  | with_reducible refine tNi ?_
  | with_reducible refine tBk ?_
  | ((with_reducible refine gR ?_);(first|refine TRA rfl ?_|refine TRG rfl (λ_=>inferInstance) rfl ?_|refine TRH rfl (λ_ _=>inferInstance) rfl ?_))
  | with_reducible refine tRn ?_
  | with_reducible refine Zde ?_
  | with_reducible refine tRg ?_
  | with_reducible refine tXt ?_
  | with_reducible refine tXe ?_
  | with_reducible refine tCr ?_
  | with_reducible refine tEx ?_
  | with_reducible refine tXh ?_
  | (with_reducible refine tXo rfl ?_))
 exact λ_=>k):m:=h k trivial
end
instance :TBu Tryz.prog 106:=⟨_,Tryz.underlying106,by kernel_rfl⟩
instance :TBu Tryz.prog 120:=⟨_,Tryz.underlying120,by kernel_rfl⟩
instance :TBu Tryz.prog 136:=⟨_,Tryz.underlying136,by kernel_rfl⟩
instance :TBu Tryz.prog 156:=⟨_,Tryz.underlying156,by kernel_rfl⟩
instance :TBu Tryz.prog 160:=⟨_,Tryz.underlying160,by kernel_rfl⟩
instance :TBu Tryz.prog 193:=⟨_,Tryz.underlying193,by kernel_rfl⟩
instance :TBu Tryz.prog 202:=⟨_,Tryz.underlying202,by kernel_rfl⟩
instance :TBu Tryz.prog 261:=⟨_,Tryz.underlying261,by kernel_rfl⟩
instance :TBu Tryz.prog 28:=⟨_,Tryz.underlying28,by kernel_rfl⟩
instance :TBu Tryz.prog 282:=⟨_,Tryz.underlying282,by kernel_rfl⟩
instance :TBu Tryz.prog 35:=⟨_,Tryz.underlying35,by kernel_rfl⟩
instance :TBu Tryz.prog 38:=⟨_,Tryz.underlying38,by kernel_rfl⟩
instance :TBu Tryz.prog 72:=⟨_,Tryz.underlying72,by kernel_rfl⟩
instance :TBu Tryz.prog 85:=⟨_,Tryz.underlying85,by kernel_rfl⟩
instance :TBu Tryz.prog 87:=⟨_,Tryz.underlying87,by kernel_rfl⟩
instance :TBu Tryz.prog 93:=⟨_,Tryz.underlying93,by kernel_rfl⟩
section cz
variable {P:Program}{r:Ref}{B:Nat}{Ωs:List Pe}{ops:Array Oper}{n:Nat}{ms:List Nat}{k:Nat}{Γ Δ:Env}{Ω Ω':List Pe}{F:Fam}{Q:Exit->Act->World->Prop}{K:Env->Fam->Prop}
 {d:Tmp}{op:Op}{ty:TypeId}{pos:String}{aft:Array Edge}{rest:List Oper}{τ σ:Ty}{x:Operand}
theorem TSx(h:∀{A:Nat->Prop},OpY P r.w.heap.size A Ω Γ ⟨some d,op,ty,pos,aft,none⟩ τ)(hk:TS P r n ops rest (k+1) (Γ.set d τ) Ω Q)(hd:XaZ d n=true:=by rfl):TS P r n ops (⟨some d,op,ty,pos,aft,none⟩::rest) k Γ Ω Q:=A4 h hd hk
theorem TSm[Has Γ x τ][AsT τ σ](hk:TS P r n ops rest (k+1) (Γ.set d σ) Ω Q)(hd:XaZ d n=true:=by rfl):TS P r n ops (⟨some d,.move x,ty,pos,aft,none⟩::rest) k Γ Ω Q:=A4 E9 hd hk
theorem TSa[Has Γ x τ][AsT τ σ](hk:TS P r n ops rest (k+1) (Γ.set d σ) Ω Q)(hd:XaZ d n=true:=by rfl):TS P r n ops (⟨some d,.assign x,ty,pos,aft,none⟩::rest) k Γ Ω Q:=A4 FM hd hk
theorem TRx(h:∀{A:Nat->Prop},OpY P B A Ωs Γ ⟨some d,op,ty,pos,aft,none⟩ τ)(hk:TRw P B Ωs ops n ms (k+1) rest (Γ.set d τ) F K)(hd:(XaZ d n && !ms.contains k && !F.tl.contains d)=true:=by rfl):TRw P B Ωs ops n ms k (⟨some d,op,ty,pos,aft,none⟩::rest) Γ F K:=Fd h hd hk
theorem TRm[Has Γ x τ][AsT τ σ](hk:TRw P B Ωs ops n ms (k+1) rest (Γ.set d σ) F K)(hd:(XaZ d n && !ms.contains k && !F.tl.contains d)=true:=by rfl):TRw P B Ωs ops n ms k (⟨some d,.move x,ty,pos,aft,none⟩::rest) Γ F K:=Fd E9 hd hk
theorem PF(off:Nat)(α β:Type){i:Dat α}{j:Dat β}{C:Ct}{o:Nat}{get:α->β}{set:β->α->α}{x:α}{upd:α->Ct} (h:Pl C o α i x upd) [L:Fld α i off β j get set]:Pl C (o+off) β j (get x) λy=>upd (set y x):=h.fld
end cz
section
open Go Go.RowKit
set_option synthInstance.maxHeartbeats 400000
set_option synthInstance.maxSize 4096
def G9(size0:Int):Option Bool:=
 some ((decide (size0>=(24:Int)))&&(decide (size0<=(256:Int))))
instance Zdq:Fd1 101 G9 λr=>D r:=en1 Tryz.func101 rfl Tryz.ntmps101 λ_ _ _ _ _ H=>by
 unfold G9 at H;exact zY H
def Dy(size0:Int):Option Int:=
 (G9 size0).bind λx_1=>bif (!x_1)then(some (0:Int))else((GG size0 16).bind λx_2=>some x_2)
instance Zdr:Fd1 54 Dy λr=>D r:=en1 Tryz.func54 rfl Tryz.ntmps54 λ_ _ _ _ _ H=>by
 unfold Dy at H;exact zY H
def Kx(p0:B9)(size0:Int):Option Bool:=
 (G9 size0).bind λx_2=>(gb ((((x_2&&((decide (p0.Kind=(1:Int)))||(decide (p0.Kind=(2:Int)))))&&(decide (p0.Id>=(0:Int))))&&(decide (p0.Id<(64:Int))))&&(decide (p0.Gen<(Xap 281474976710656)))) (Dy size0)).bind λx_3=>some (((((x_2&&((decide (p0.Kind=(1:Int)))||(decide (p0.Kind=(2:Int)))))&&(decide (p0.Id>=(0:Int))))&&(decide (p0.Id<(64:Int))))&&(decide (p0.Gen<(Xap 281474976710656))))&&(decide ((p0.Body.length:Int)<=x_3)))
instance Zey:Fd2 155 Kx λr=>D r:=en2 Tryz.func155 rfl Tryz.ntmps155 λA w hA p0 size0 r H=>by
 unfold Kx at H;refine zg ?_;refine Xa9 rfl λb2_0=>zg ?_
 refine zb H λ_ _ H=>?_
 refine Yg 27 rfl (λhg=>Yu) rfl ?_;exact zY H
def Kr(n0:UInt64)(many0:Int)(l_3:(List UInt8))(x_6:Int)(bx_7:(List UInt8)):Option ((Int×(List UInt8))⊕(List UInt8)):=
 bif (decide (x_6<(l_3.length:Int)))then((GG many0 1).bind λx_9=>(GG x_9 x_6).bind λx_10=>(RX (8:Int) x_6).bind λx_11=>(cnt x_11).bind λn_12=>(idx bx_7 x_10).bind λx_13=>(some ((bx_7.set (Xaa x_10) ((shr64 n0 x_11).toUInt8)):(List UInt8))).bind λl_14=>(AC x_6 1).bind λx_15=>some (.inl (x_15,l_14)))else(some (.inr bx_7))
def Lh(n0:UInt64)(many0:Int):Option (List UInt8):=
 bif ((decide (many0<(1:Int)))||(decide (many0>(8:Int))))then(some ([]:List UInt8))else((Dv 1 many0).bind λu_1=>(some ((Xac (Xaa many0) (Dat.z:UInt8)):(List UInt8))).bind λl_3=>(ZN (λs=>Kr n0 many0 l_3 s.1 s.2) ((0:Int),l_3)).bind λbx_4=>some bx_4)
instance ZeU:Fd2 166 Lh λr=>D r:=en2 Tryz.func166 rfl Tryz.ntmps166 λA w hA n0 many0 r H=>by
 unfold Lh at H;refine zg ?_;refine zc H (λhc H=>?_) λhc H=>?_
 .exact zY H
 .refine zg ?_;refine zn H λ_ eu_1 H=>?_
  refine FJ eu_1.h ⟨(A6 eu_1.h).1,XaJ _⟩ rfl λb14_1=>?_
  refine zC ?_;refine zn H λl_3 el_3 H=>?_
  refine ZF b14_1 (Ah el_3.h) ?_;refine zX (B8 5 _ (AY el_3.h (by simp))) ?_;refine TSx (AK (n:=l_3.length) rfl) ?_;refine zC ?_;refine zh H λo_5 H5 H=>?_
  refine Zs (λs:(List UInt8)=>o_5=s) (λ(bx_4:(List UInt8)) (_:Unit)=>(TR Xaj 5 (Sl b14_1 True 0 bx_4.length (Xaa many0)))) (λ(bx_4:(List UInt8)) (_:Unit)=>[⟨b14_1,True,(Row (bx_4:List UInt8) (Xaa many0))⟩]) ?_ ?_
  .skip;refine Zr<|Zx H5 (λ⟨x_6,bx_7⟩ (_:Unit)=>(TR (TR (TR (TR (TR Xaj 0 (D n0)) 1 (D many0)) 5 (Sl b14_1 True 0 bx_7.length (Xaa many0))) 16 (D ((l_3.length:Int):Int))) 17 (D x_6))) (λ⟨x_6,bx_7⟩ (_:Unit)=>[⟨b14_1,True,(Row (bx_7:List UInt8) (Xaa many0))⟩]) () (Za (Za (Zm (ZH rfl) (Za (Za (Ze _)))))) (Zd rfl (Zf _)) ?_;rintro⟨x_6,bx_7⟩ ⟨⟩ x_8 H8 he8;dsimp only at H8;unfold Kr at H8;refine zg ?_;refine zc H8 (λhc H8=>?_) λhc H8=>?_
   .refine zg ?_;refine zb H8 λ_ _ H8=>?_
    refine zb H8 λ_ _ H8=>?_
    refine zb H8 λ_ _ H8=>?_
    refine zn H8 λ_ en_12 H8=>?_
    refine TSx (OpD.shr64 (U2 en_12.h).1)<|TSx SN ?_;refine zn H8 λ_ ex_13 H8=>?_
    refine TSx (Zt (ZP ex_13.h rfl)) ?_;refine zE ?_;refine zn H8 λl_14 el_14 H8=>?_
    refine Ai b14_1 (Ah el_14.h) ?_;refine zX (C9 5 _ (AY el_14.h (by simp))) ?_;refine zb H8 λx_15 _ H8=>?_
    exact Zv ⟨x_15,l_14⟩ () (ZZs H8) (Za (Za (Zm (ZH rfl) (Za (Za (Ze _)))))) (Zd rfl (Zf _))
   .refine zg ?_;exact Zl bx_7 () (he8 _ (ZZs H8)).symm (Zm (ZH rfl) (Ze _)) (Zd rfl (Zf _))
  rintro bx_4 ⟨⟩ hp;replace hp:=hp.symm;subst hp;refine zC ?_;refine ZO<|TE.pub b14_1 (XbM 4 (ZJ XaR rfl) Xb2) ?_;exact zY H
def LN(n_9:UInt32)(x_10:Int):Option ((UInt32×Int)⊕UInt32):=
 bif (decide (x_10<(8:Int)))then((some ((n_9 &&& (XcC 1)):UInt32)).bind λodd_12=>(some ((shr32 n_9 ((Xap 1).toNat:Int)):UInt32)).bind λn_13=>(some ((n_13 ^^^ ((XcC 3988292384)*odd_12)):UInt32)).bind λn_14=>(AC x_10 1).bind λx_15=>some (.inl (n_14,x_15)))else(some (.inr n_9))
def LO(b0:(List UInt8))(n_3:UInt32)(x_4:Int):Option ((UInt32×Int)⊕UInt32):=
 bif (decide (x_4<(b0.length:Int)))then((idx b0 x_4).bind λx_6=>(ZN (λs=>LN s.1 s.2) ((n_3 ^^^ (x_6.toUInt32)),(0:Int))).bind λn_7=>(AC x_4 1).bind λx_16=>some (.inl (n_7,x_16)))else(some (.inr n_3))
def RA(sum0:UInt32)(b0:(List UInt8)):Option UInt32:=
 (ZN (λs=>LO b0 s.1 s.2) ((~~~sum0),(0:Int))).bind λn_1=>some (~~~n_1)
instance ZfS:Fd2 182 RA λr=>D r:=en2 Tryz.func182 rfl Tryz.ntmps182 λA w hA sum0 b0 r H=>by
 unfold RA at H;refine zg ?_;refine TSx SE ?_;refine zC ?_;refine zC ?_;refine zh H λo_2 H2 H=>?_
 refine Zs (λs:UInt32=>o_2=s) (λ(n_1:UInt32) (_:Unit)=>(TR Xaj 5 (D n_1))) (λ(n_1:UInt32) (_:Unit)=>[]) ?_ ?_
 .skip;refine Zr<|Zx H2 (λ⟨n_3,x_4⟩ (_:Unit)=>(TR (TR (TR (TR Xaj 5 (D n_3)) 11 (D b0)) 12 (D ((b0.length:Int):Int))) 13 (D x_4))) (λ⟨n_3,x_4⟩ (_:Unit)=>[]) () (Za (Za (Za (Za (Ze _))))) (Zf _) ?_;rintro⟨n_3,x_4⟩ ⟨⟩ x_5 H5 he5;dsimp only at H5;unfold LO at H5;refine zg ?_;refine zc H5 (λhc H5=>?_) λhc H5=>?_
  .refine zg ?_;refine zb H5 λ_ _ H5=>?_
   refine TSx SL<|TSx SB ?_;refine zC ?_;refine zC ?_;refine zh H5 λo_8 H8 H5=>?_
   refine Zs (λs:UInt32=>o_8=s) (λ(n_7:UInt32) (_:Unit)=>(TR (TR (TR (TR Xaj 5 (D n_7)) 11 (D b0)) 12 (D ((b0.length:Int):Int))) 13 (D x_4))) (λ(n_7:UInt32) (_:Unit)=>[]) ?_ ?_
   .skip;refine Zr<|Zx H8 (λ⟨n_9,x_10⟩ (_:Unit)=>(TR (TR (TR (TR (TR Xaj 5 (D n_9)) 11 (D b0)) 12 (D ((b0.length:Int):Int))) 13 (D x_4)) 21 (D x_10))) (λ⟨n_9,x_10⟩ (_:Unit)=>[]) () (Za (Za (Za (Za (Za (Ze _)))))) (Zf _) ?_;rintro⟨n_9,x_10⟩ ⟨⟩ x_11 H11 he11;dsimp only at H11;unfold LN at H11;refine zg ?_;refine zc H11 (λhc H11=>?_) λhc H11=>?_
    .refine zg ?_;refine TSx YB ?_;refine zC ?_;refine zn H11 λodd_12 eodd_12 H11=>?_
     refine zX (B8 8 (D odd_12) (RU eodd_12.h)) ?_;refine TSx (OpD.shr32 (XcM _)) ?_;refine zC ?_;refine zn H11 λn_13 en_13 H11=>?_
     refine zX (B8 5 (D n_13) (RU en_13.h)) ?_;refine TSx Yr<|TSx SB ?_;refine zE ?_;refine zn H11 λn_14 en_14 H11=>?_
     refine zX (C9 5 (D n_14) (RU en_14.h)) ?_;refine zb H11 λx_15 _ H11=>?_
     exact Zv ⟨n_14,x_15⟩ () (ZZs H11) (Za (Za (Za (Za (Za (Ze _)))))) (Zf _)
    .refine zg ?_;exact Zl n_9 () (he11 _ (ZZs H11)).symm (Za (Za (Za (Za (Ze _))))) (Zf _)
   rintro n_7 ⟨⟩ hp;replace hp:=hp.symm;subst hp;refine zg ?_;refine zb H5 λx_16 _ H5=>?_
   exact Zv ⟨n_7,x_16⟩ () (ZZs H5) (Za (Za (Za (Za (Ze _))))) (Zf _)
  .refine zg ?_;exact Zl n_3 () (he5 _ (ZZs H5)).symm (Za (Ze _)) (Zf _)
 rintro n_1 ⟨⟩ hp;replace hp:=hp.symm;subst hp;refine zg ?_;refine TSx SE ?_;exact zY H
def PA(b0:(List UInt8)):Option UInt32:=
 (RA (XcC 0) b0).bind λx_1=>some x_1
instance ZfT:Fd1 154 PA λr=>D r:=en1 Tryz.func154 rfl Tryz.ntmps154 λ_ _ _ _ _ H=>by
 unfold PA at H;exact zY H
def Ej(s0:(List UInt8))(n0:Int):Option (List UInt8):=
 bif (decide (n0<(0:Int)))then(none)else(((GG (0:Int) (0:Int)).bind λx_4=>(GG n0 x_4).bind λx_5=>bif (decide (x_5>(0:Int)))then((Dv 1 x_5).bind λu_6=>(ZaF x_5).bind λu_7=>(cut (Xac (Xaa x_5) (Dat.z:UInt8)).length 0 (0:Int)).bind λu_9=>(some (((Xac (Xaa x_5) (Dat.z:UInt8)).take (Xaa (0:Int))):(List UInt8))).bind λl_10=>some l_10)else(some [])).bind λs_2=>some s_2)
theorem LQ{s0:(List UInt8)}{n0:Int}{r:(List UInt8)} (H:Ej s0 n0=some r):CO2 190 [] (Ro) (D n0) (λg:Nat×Prop×Nat=>Sl g.1 g.2.1 0 (Xat r) g.2.2) λg=>[⟨g.1,g.2.1,Row (r:List UInt8) g.2.2⟩]:=eO2 Tryz.func190 rfl Tryz.ntmps190 λA w hA hO=>by
 unfold Ej at H;refine zg ?_;refine zc H (λhc H=>?_) λhc H=>?_
 .cases H
 .refine AH<|Az<|AI ?_;refine zh H λo_3 H3 H=>?_
  refine Zs (λs:(List UInt8)=>o_3=s) (λ(s_2:(List UInt8)) (⟨b_0,p_0,c_0⟩:Nat×Prop×Nat)=>(TR Xaj 0 (Sl b_0 p_0 0 s_2.length c_0))) (λ(s_2:(List UInt8)) (⟨b_0,p_0,c_0⟩:Nat×Prop×Nat)=>[⟨b_0,p_0,(Row (s_2:List UInt8) c_0)⟩]) ?_ ?_
  .skip;refine zg ?_;refine zX (A4 KN rfl) ?_;refine TSx KO ?_;refine zb H3 λ_ _ H3=>?_
   refine zb H3 λx_5 _ H3=>?_
   refine zc H3 (λhc H3=>?_) λhc H3=>?_
   .refine zg ?_;refine TSx KN ?_;refine zX (A4 (Nt (α:=UInt8)) rfl) ?_;refine zn H3 λ_ eu_6 H3=>?_
    refine zn H3 λ_ eu_7 H3=>?_
    refine Qd (α:=UInt8) eu_6.h eu_7.h rfl λb22_7 c22_7=>zg ?_
    refine TSx KO ?_;refine zn H3 λ_ eu_9 H3=>?_
    refine TSx (E8 (EY eu_9.h rfl).2.1 (EY eu_9.h rfl).2.2) ?_;refine zE ?_;refine Yh b22_7 (Xaa (0:Int)) (M0 eu_9.h)<|C9 0 _ (ZH (List.length_take_of_le (l:=(Xac (Xaa x_5) (Dat.z:UInt8))) (M0 eu_9.h)).symm) ?_;refine zn H3 λl_10 el_10 H3=>?_
    exact Ai b22_7 (Ah el_10.h)<|C9 0 _ (AY el_10.h rfl)<|Zl l_10 ⟨b22_7,True,c22_7⟩ (ZZs H3) (Zm (ZH rfl) (Ze _)) (Zd rfl (Zf _))
   .refine zg ?_;exact Zl [] ⟨0,False,0⟩ (ZZs H3) (Zm Dt (Ze _)) (BD (Zf _))
  rintro s_2 ⟨b_0,p_0,c_0⟩ hp;replace hp:=hp.symm;subst hp;refine zg ?_;obtain rfl:=ZZi H;exact ZG rfl ⟨b_0,p_0,c_0⟩ (ZH rfl) (Zd rfl (Zf _))
def Ch(slices0:(List (List UInt8)))(size_3:Int)(x_4:Int):Option ((Int×Int)⊕Int):=
 bif (decide (x_4<(slices0.length:Int)))then((idx slices0 x_4).bind λx_6=>(AC size_3 (x_6.length:Int)).bind λx_7=>bif (decide (x_7<(0:Int)))then(none)else((AC x_4 1).bind λx_8=>some (.inl (x_7,x_8))))else(some (.inr size_3))
def Cg(slices0:(List (List UInt8)))(x_14:Int)(newslice_16:(List UInt8)):Option ((Int×(List UInt8))⊕(List UInt8)):=
 bif (decide (x_14<(slices0.length:Int)))then((idx slices0 x_14).bind λx_18=>(Dv 1 ((newslice_16.length+x_18.length:Nat):Int)).bind λu_20=>(some ((newslice_16++x_18):(List UInt8))).bind λl_21=>(AC x_14 1).bind λx_22=>some (.inl (x_22,l_21)))else(some (.inr newslice_16))
def Cj(slices0:(List (List UInt8))):Option (List UInt8):=
 (ZN (λs=>Ch slices0 s.1 s.2) ((0:Int),(0:Int))).bind λsize_1=>(Ej [] size_1).bind λx_9=>(ZN (λs=>Cg slices0 s.1 s.2) ((0:Int),x_9)).bind λnewslice_12=>some newslice_12
instance SS:Fd1 167 Cj λr=>D r:=en1 Tryz.func167 rfl Tryz.ntmps167 λA w hA slices0 r H=>by
 unfold Cj at H;refine zC ?_;refine zC ?_;refine zC ?_;refine zh H λo_2 H2 H=>?_
 refine Zs (λs:Int=>o_2=s) (λ(size_1:Int) (_:Unit)=>(TR (TR Xaj 0 (D slices0)) 3 (D size_1))) (λ(size_1:Int) (_:Unit)=>[]) ?_ ?_
 .skip;refine Zr<|Zx H2 (λ⟨size_3,x_4⟩ (_:Unit)=>(TR (TR (TR (TR (TR Xaj 0 (D slices0)) 3 (D size_3)) 9 (D slices0)) 10 (D ((slices0.length:Int):Int))) 11 (D x_4))) (λ⟨size_3,x_4⟩ (_:Unit)=>[]) () (Za (Za (Za (Za (Za (Ze _)))))) (Zf _) ?_;rintro⟨size_3,x_4⟩ ⟨⟩ x_5 H5 he5;dsimp only at H5;unfold Ch at H5;refine zg ?_;refine zc H5 (λhc H5=>?_) λhc H5=>?_
  .refine zg ?_;refine zb H5 λ_ _ H5=>?_
   refine zb H5 λx_7 _ H5=>?_
   refine zc H5 (λhc H5=>?_) λhc H5=>?_
   .cases H5
   .refine zg ?_;refine zb H5 λx_8 _ H5=>?_
    exact Zv ⟨x_7,x_8⟩ () (ZZs H5) (Za (Za (Za (Za (Za (Ze _)))))) (Zf _)
  .refine zg ?_;exact Zl size_3 () (he5 _ (ZZs H5)).symm (Za (Za (Ze _))) (Zf _)
 rintro size_1 ⟨⟩ hp;replace hp:=hp.symm;subst hp;refine zg ?_;refine zn H λ_ ex_9 H=>?_
 refine D4 (oc2 [] (LQ ex_9.h) id toD) rfl λ⟨b24_9,p24_9,c24_9⟩=>?_
 dsimp only[Xan,Xam];refine zC ?_;refine zC ?_;refine zh H λo_13 H13 H=>?_
 refine Zs (λs:(List UInt8)=>o_13=s) (λ(newslice_12:(List UInt8)) (⟨b_10,p_10,c_10⟩:Nat×Prop×Nat)=>(TR Xaj 6 (Sl b_10 p_10 0 newslice_12.length c_10))) (λ(newslice_12:(List UInt8)) (⟨b_10,p_10,c_10⟩:Nat×Prop×Nat)=>[⟨b_10,p_10,(Row (newslice_12:List UInt8) c_10)⟩]) ?_ ?_
 .skip;refine Zr<|Zx H13 (λ⟨x_14,newslice_16⟩ (⟨b_14,p_14,c_14⟩:Nat×Prop×Nat)=>(TR (TR (TR (TR Xaj 6 (Sl b_14 p_14 0 newslice_16.length c_14)) 25 (D slices0)) 26 (D ((slices0.length:Int):Int))) 27 (D x_14))) (λ⟨x_14,newslice_16⟩ (⟨b_14,p_14,c_14⟩:Nat×Prop×Nat)=>[⟨b_14,p_14,(Row (newslice_16:List UInt8) c_14)⟩]) ⟨b24_9,p24_9,c24_9⟩ (Za (Za (Za (Zm (ZH rfl) (Ze _))))) (Zd rfl (Zf _)) ?_;rintro⟨x_14,newslice_16⟩ ⟨b_14,p_14,c_14⟩ x_17 H17 he17;dsimp only at H17;unfold Cg at H17;refine zg ?_;refine zc H17 (λhc H17=>?_) λhc H17=>?_
  .refine zg ?_;refine zb H17 λx_18 _ H17=>?_
   refine zn H17 λ_ eu_20 H17=>?_
   refine Xdt (ys:=x_18) inferInstance eu_20.h rfl rfl rfl λb33_18 p33_18 c33_18=>?_
   refine zE ?_;refine zn H17 λl_21 el_21 H17=>?_
   refine Ai b33_18 (Ah el_21.h) ?_;refine zX (C9 6 _ (AY el_21.h rfl)) ?_;refine zb H17 λx_22 _ H17=>?_
   exact Zv ⟨x_22,l_21⟩ ⟨b33_18,p33_18,c33_18⟩ (ZZs H17) (Za (Za (Za (Zm (ZH rfl) (Ze _))))) (Zd rfl (Zf _))
  .refine zg ?_;exact Zl newslice_16 ⟨b_14,p_14,c_14⟩ (he17 _ (ZZs H17)).symm (Zm (ZH rfl) (Ze _)) (Zd rfl (Zf _))
 rintro newslice_12 ⟨b_10,p_10,c_10⟩ hp;replace hp:=hp.symm;subst hp;refine zC ?_;refine ZO<|TE.pub b_10 (XbM 2 (ZJ XaR rfl) Xb2) ?_;exact zY H
def Gr(p0:B9)(size0:Int):Option ((List UInt8)×Int):=
 (Kx p0 size0).bind λx_2=>bif (!x_2)then(some (([]:List UInt8),(1:Int)))else((GG size0 4).bind λx_3=>(Dv 1 x_3).bind λu_4=>(some ((Xac (Xaa x_3) (Dat.z:UInt8)):(List UInt8))).bind λl_6=>(idx l_6 0).bind λx_7=>(idx (l_6.set (Xaa (0:Int)) (Xao p0.Kind)) (1:Int)).bind λx_8=>(some (((l_6.set (Xaa (0:Int)) (Xao p0.Kind)).set (Xaa (1:Int)) (Xao p0.Id)):(List UInt8))).bind λl_9=>(cut l_9.length (2:Int) (8:Int)).bind λu_10=>(Lh p0.Gen (6:Int)).bind λx_11=>(some ((splice l_9 (Xaa (2:Int)) (over ((l_9.drop (Xaa (2:Int))).take (((8:Int)-(2:Int)).toNat)) x_11)):(List UInt8))).bind λl_12=>(cut l_12.length (8:Int) (10:Int)).bind λu_13=>(Lh (Xcp (p0.Body.length:Int)) (2:Int)).bind λx_14=>(some ((splice l_12 (Xaa (8:Int)) (over ((l_12.drop (Xaa (8:Int))).take (((10:Int)-(8:Int)).toNat)) x_14)):(List UInt8))).bind λl_15=>(cut l_15.length (10:Int) (l_15.length:Int)).bind λu_16=>(some ((splice l_15 (Xaa (10:Int)) (over ((l_15.drop (Xaa (10:Int))).take (((l_15.length:Nat)-(10:Int):Int).toNat)) p0.Body)):(List UInt8))).bind λl_17=>(PA l_17).bind λx_18=>(Lh (x_18.toUInt64) (4:Int)).bind λx_19=>(Cj ([l_17,x_19]:List (List UInt8))).bind λx_20=>some (x_20,(0:Int)))
instance Zex:Fd2 142 Gr λr=>Tup [D r.1,D r.2]:=en2 Tryz.func142 rfl Tryz.ntmps142 λA w hA p0 size0 r H=>by
 unfold Gr at H;refine zg ?_;refine Xa9 rfl λb2_0=>zg ?_
 refine zb H λ_ _ H=>?_
 refine zc H (λhc H=>?_) λhc H=>?_
 .exact zY H
 .refine zg ?_;refine zb H λ_ _ H=>?_
  refine zn H λ_ eu_4 H=>?_
  refine FJ eu_4.h ⟨(A6 eu_4.h).1,XaJ _⟩ rfl λb13_4=>?_
  refine zC ?_;refine zn H λ_ el_6 H=>?_
  refine ZF b13_4 (Ah el_6.h)<|B8 6 _ (AY el_6.h (by simp)) ?_;refine zX (Bd [9,11] [b13_4] mix (by kernel_rfl) (by kernel_rfl)) ?_;refine zn H λ_ ex_7 H=>?_
  refine TRx (Zt (ZP ex_7.h rfl))<|DP (λg=>(ZD (y:=((Xao p0.Kind):UInt8)) (AP ex_7.h))) rfl ?_;refine zn H λ_ ex_8 H=>?_
  refine TRx (Zt (ZP ex_8.h (by simp)))<|DP (λg=>(ZD (y:=((Xao p0.Id):UInt8)) (AP ex_8.h))) rfl ?_;refine zC ?_;rintro⟨⟨_,_⟩,_⟩;dsimp only[XaV,XaW,XaS,Xan,Xam];refine zn H λ_ el_9 H=>?_
  refine ZF b13_4 (Ah el_9.h)<|B8 6 _ (AY el_9.h (by simp)) ?_;refine zX (Bd [5] [b13_4] mix (by kernel_rfl) (by kernel_rfl)) ?_;refine zn H λ_ eu_10 H=>?_
  refine zX (Fd (Ns (EY eu_10.h rfl).1 (EY eu_10.h rfl).2.1 (EY eu_10.h rfl).2.2) rfl) ?_;refine zb H λx_11 _ H=>?_
  refine GT (λg=>(Dk (ys:=x_11) inferInstance (HU (Jy eu_10.h)) (Ip eu_10.h rfl) (λ_ h=>by simp[h,splice,FH]))) rfl ?_;refine zC ?_;rintro⟨_,_⟩;dsimp only[XaV,XaW,XaS,Xan,Xam];refine zn H λ_ el_12 H=>?_
  refine ZF b13_4 (Ah el_12.h)<|B8 6 _ (AY el_12.h (G2 (Jy eu_10.h)).symm) ?_;refine zX (Bd [7] [b13_4] mix (by kernel_rfl) (by kernel_rfl)) ?_;refine zn H λ_ eu_13 H=>?_
  refine zX (Fd (Ns (EY eu_13.h rfl).1 (EY eu_13.h rfl).2.1 (EY eu_13.h rfl).2.2) rfl) ?_;refine TRx Kj ?_;refine zb H λx_14 _ H=>?_
  refine GT (λg=>(Dk (ys:=x_14) inferInstance (HU (Jy eu_13.h)) (Ip eu_13.h rfl) (λ_ h=>by simp[h,splice,FH]))) rfl ?_;refine zC ?_;rintro⟨_,_⟩;dsimp only[XaV,XaW,XaS,Xan,Xam];refine zn H λ_ el_15 H=>?_
  refine ZF b13_4 (Ah el_15.h)<|B8 6 _ (AY el_15.h (G2 (Jy eu_13.h)).symm) ?_;refine zX (Bd [4] [b13_4] mix (by kernel_rfl) (by kernel_rfl)) ?_;refine zn H λ_ eu_16 H=>?_
  refine zX (Fd (AZ (EY eu_16.h rfl).1 (EY eu_16.h rfl).2.1) rfl) ?_;refine GT (λg=>(Dk (ys:=p0.Body) inferInstance (HU (XS eu_16.h rfl)) (Zbm eu_16.h rfl) (λ_ h=>by simp[h,splice,FH]))) rfl ?_;refine zC ?_;rintro⟨_,_⟩;dsimp only[XaV,XaW,XaS,Xan,Xam];refine zn H λ_ el_17 H=>?_
  refine ZF b13_4 (Ah el_17.h) ?_;refine zX (B8 6 _ (AY el_17.h (G2 (XS eu_16.h rfl)).symm)) ?_;refine zn H λ_ ex_18 H=>?_
  refine TSx (GV [b13_4] (Kp XaR rfl (by simp)) λw v0 hA h0=>ZfT.h w v0 hA (toD h0) ex_18.h)<|TSx Mt ?_;refine zb H λ_ _ H=>?_
  refine TS.pub b13_4 (XbM 44 (ZJ XaR rfl) (XbM 43 (ZJ XaR rfl) (XbM 6 (ZJ XaR rfl) Xb2))) ?_;refine TSx (Xbx [.tmp 43,.tmp 47] rfl rfl (by decide)) ?_;exact zY H
def I7(b0:(List UInt8))(x_2:Int):Option (Int⊕(Unit⊕Bool)):=
 bif (decide (x_2<(b0.length:Int)))then((idx b0 x_2).bind λx_4=>bif (decide (x_4≠(XaN 255)))then(some (.inr (.inr false)))else((AC x_2 1).bind λx_6=>some (.inl x_6)))else(some (.inr (.inl ())))
def GJ(b0:(List UInt8)):Option Bool:=
 (ZN (λs=>I7 b0 s) (0:Int)).bind λo_1=>elS o_1 (λ_=>some true) (λq=>some q)
instance Zco:Fd1 152 GJ λr=>D r:=en1 Tryz.func152 rfl Tryz.ntmps152 λA w hA b0 r H=>by
 unfold GJ at H;refine zC ?_;refine zC ?_;refine zh H λo_1 H1 H=>?_
 refine Zs (λs:Unit=>o_1=.inl s) (λ(_:Unit) (_:Unit)=>Xaj) (λ(_:Unit) (_:Unit)=>[]) ?_ ?_
 .skip;refine Zr<|Zx H1 (λ(x_2:Int) (_:Unit)=>(TR (TR (TR Xaj 5 (D b0)) 6 (D ((b0.length:Int):Int))) 7 (D x_2))) (λ(x_2:Int) (_:Unit)=>[]) () (Za (Za (Za (Ze _)))) (Zf _) ?_;rintro x_2 ⟨⟩ x_3 H3 he3;unfold I7 at H3;refine zg ?_;refine zc H3 (λhc H3=>?_) λhc H3=>?_
  .refine zg ?_;refine zb H3 λ_ _ H3=>?_
   refine zX (A4 Vk rfl) ?_;refine zc H3 (λhc H3=>?_) λhc H3=>?_
   .refine zC ?_;refine ZO<|Zh<|Zi<|Zi<|Zh<|Zw ?_;have R4:=AQ (he3 _ (ZZs H3)) H;refine zg ?_;obtain rfl:=ZZi R4;exact Bc rfl Cv.le
   .refine zg ?_;refine zb H3 λx_6 _ H3=>?_
    exact Zv x_6 () (ZZs H3) (Za (Za (Za (Ze _)))) (Zf _)
  .refine zg ?_;exact Zl () () (he3 _ (ZZs H3)).symm (Ze _) (Zf _)
 rintro⟨⟩ ⟨⟩ hp;replace H:=Bs hp H;exact zY H
def Ks(b0:(List UInt8))(n_3:UInt64)(x_4:Int):Option ((UInt64×Int)⊕UInt64):=
 bif (decide (x_4<(b0.length:Int)))then((idx b0 x_4).bind λx_6=>(some (((shl64 n_3 ((Xap 8).toNat:Int)) ||| (x_6.toUInt64)):UInt64)).bind λn_7=>(AC x_4 1).bind λx_8=>some (.inl (n_7,x_8)))else(some (.inr n_3))
def Li(b0:(List UInt8)):Option UInt64:=
 (ZN (λs=>Ks b0 s.1 s.2) ((Xap 0),(0:Int))).bind λn_1=>some n_1
instance ZeV:Fd1 153 Li λr=>D r:=en1 Tryz.func153 rfl Tryz.ntmps153 λA w hA b0 r H=>by
 unfold Li at H;refine zC ?_;refine zC ?_;refine zC ?_;refine zh H λo_2 H2 H=>?_
 refine Zs (λs:UInt64=>o_2=s) (λ(n_1:UInt64) (_:Unit)=>(TR Xaj 3 (D n_1))) (λ(n_1:UInt64) (_:Unit)=>[]) ?_ ?_
 .skip;refine Zr<|Zx H2 (λ⟨n_3,x_4⟩ (_:Unit)=>(TR (TR (TR (TR Xaj 3 (D n_3)) 6 (D b0)) 7 (D ((b0.length:Int):Int))) 8 (D x_4))) (λ⟨n_3,x_4⟩ (_:Unit)=>[]) () (Za (Za (Za (Za (Ze _))))) (Zf _) ?_;rintro⟨n_3,x_4⟩ ⟨⟩ x_5 H5 he5;dsimp only at H5;unfold Ks at H5;refine zg ?_;refine zc H5 (λhc H5=>?_) λhc H5=>?_
  .refine zg ?_;refine zb H5 λ_ _ H5=>?_
   refine zX (A4 (OpD.shl64 (XcM _)) rfl) ?_;refine TSx SK<|TSx ZbR ?_;refine zE ?_;refine zn H5 λn_7 en_7 H5=>?_
   refine zX (C9 3 (D n_7) (RU en_7.h)) ?_;refine zb H5 λx_8 _ H5=>?_
   exact Zv ⟨n_7,x_8⟩ () (ZZs H5) (Za (Za (Za (Za (Ze _))))) (Zf _)
  .refine zg ?_;exact Zl n_3 () (he5 _ (ZZs H5)).symm (Za (Ze _)) (Zf _)
 rintro n_1 ⟨⟩ hp;replace hp:=hp.symm;subst hp;exact zY H
def CU(s0:(List UInt8)):Option (List UInt8):=
 (Dv 1 ((0+s0.length:Nat):Int)).bind λ_=>some s0
theorem Lk{s0:(List UInt8)}{r:(List UInt8)} (H:CU s0=some r):CO1 156 [] (D s0) (λg:Nat×Prop×Nat=>Sl g.1 g.2.1 0 (Xat r) g.2.2) λg=>[⟨g.1,g.2.1,Row (r:List UInt8) g.2.2⟩]:=eO1 Tryz.func156 rfl Tryz.ntmps156 λA w hA hO=>by
 unfold CU at H;refine zn H λ_ eu H=>?_
 obtain rfl:=ZZi H;refine zg ?_;refine TSx BO ?_;refine zC ?_;refine GA (λhc=>?_) (λhc=>?_)
 .obtain rfl:=hc rfl;refine zg ?_;exact ZG rfl ⟨0,False,0⟩ Dt (BD (Zf _))
 .refine zg ?_;refine XeE [] rfl rfl (by decide) rfl λb=>zg ?_
  refine Xdt (ys:=s0) inferInstance eu.h rfl rfl rfl λb1 p1 c1=>zg ?_
  exact ZG rfl ⟨b1,p1,c1⟩ (ZH (by simp)) (Zd rfl (Zf _))
instance S0:Fd1 156 CU λr=>D r:=⟨λw v0 hA h0 H=>(on1 (Lk H) w v0 hA h0).mono λe w' h=>IQ hA h⟩
def Ey(inner_10:(List UInt8))(x_27:Int)(x_30:Int):Option (Int⊕(Unit⊕(B9×Int))):=
 bif (decide (x_30<((inner_10.drop (Xaa x_27)).length:Int)))then((idx (inner_10.drop (Xaa x_27)) x_30).bind λx_32=>bif (decide (x_32≠(XaN 0)))then((some ((⟨0,0,0,[]⟩:B9):B9)).bind λk_33=>some (.inr (.inr (k_33,(2:Int)))))else((AC x_30 1).bind λx_35=>some (.inl x_35)))else(some (.inr (.inl ())))
def Eb(b0:(List UInt8)):Option (B9×Int):=
 (G9 (b0.length:Int)).bind λx_2=>bif (!x_2)then((some ((⟨0,0,0,[]⟩:B9):B9)).bind λk_3=>some (k_3,(3:Int)))else((GJ b0).bind λx_4=>bif x_4 then((some ((⟨(0:Int),0,0,[]⟩:B9):B9)).bind λk_5=>some (k_5,(0:Int)))else((GG (b0.length:Int) (4:Int)).bind λx_6=>(cut b0.length 0 x_6).bind λu_7=>(GG (b0.length:Int) (4:Int)).bind λx_8=>(cut b0.length x_8 b0.length).bind λu_9=>(some ((b0.take (Xaa x_6)):(List UInt8))).bind λinner_10=>(some ((b0.drop (Xaa x_8)):(List UInt8))).bind λend_11=>(Li end_11).bind λx_12=>(PA inner_10).bind λx_13=>bif (decide (x_12≠(x_13.toUInt64)))then((some ((⟨0,0,0,[]⟩:B9):B9)).bind λk_14=>some (k_14,(4:Int)))else((idx b0 0).bind λx_15=>(idx b0 1).bind λx_16=>(cut b0.length (2:Int) (8:Int)).bind λu_17=>(Li ((b0.take (Xaa (8:Int))).drop (Xaa (2:Int)))).bind λx_18=>(some ((⟨(x_15.toNat:Int),(x_16.toNat:Int),x_18,[]⟩:B9):B9)).bind λpx_20=>(cut b0.length (8:Int) (10:Int)).bind λu_21=>(Li ((b0.take (Xaa (10:Int))).drop (Xaa (8:Int)))).bind λx_22=>(Ky (x_22.toNat:Int)).bind λx_23=>(Dy (b0.length:Int)).bind λx_24=>(gb (!(decide (x_23>x_24))) (Kx px_20 (b0.length:Int))).bind λx_25=>bif ((decide (x_23>x_24))||(!x_25))then((some ((⟨0,0,0,[]⟩:B9):B9)).bind λk_26=>some (k_26,(2:Int)))else((AC (10:Int) x_23).bind λx_27=>(cut inner_10.length x_27 inner_10.length).bind λu_28=>(ZN (λs=>Ey inner_10 x_27 s) (0:Int)).bind λo_29=>elS o_29 (λ_=>(bif (decide (x_23>(0:Int)))then((AC (10:Int) x_23).bind λx_38=>(cut b0.length (10:Int) x_38).bind λu_39=>(CU ((b0.take (Xaa x_38)).drop (Xaa (10:Int)))).bind λx_40=>(some ((⟨px_20.Kind,px_20.Id,px_20.Gen,x_40⟩:B9):B9)).bind λpx_41=>some px_41)else(some px_20)).bind λpx_36=>some (px_36,(0:Int))) (λq=>some q)))))
instance Zds:Fd1 126 Eb λr=>Tup [D r.1,D r.2]:=en1 Tryz.func126 rfl Tryz.ntmps126 λA w hA b0 r H=>by
 unfold Eb at H;refine zg ?_;refine Xaq rfl λb2_0=>zg ?_
 refine zb H λ_ _ H=>?_
 refine zc H (λhc H=>?_) λhc H=>?_
 .refine zg ?_;refine TSx (tB (⟨0,0,0,[]⟩:B9) rfl rfl) ?_;exact zY H
 .refine zg ?_;refine zb H λ_ _ H=>?_
  refine zc H (λhc H=>?_) λhc H=>?_
  .refine zg ?_;refine TSx (tB (⟨(0:Int),0,0,[]⟩:B9) rfl rfl) ?_;exact zY H
  .refine zg ?_;refine zb H λ_ _ H=>?_
   refine zb H λ_ _ H=>?_
   refine zb H λ_ _ H=>?_
   refine zo H λ_ _ H=>?_
   refine zC ?_;refine zn H λinner_10 einner_10 H=>?_
   refine B8 4 (D inner_10) (RU einner_10.h) ?_;refine zn H λend_11 eend_11 H=>?_
   refine zX (B8 5 (D end_11) (RU eend_11.h)) ?_;refine zb H λ_ _ H=>?_
   refine zb H λ_ _ H=>?_
   refine TSx Mt ?_;refine zX (A4 SF rfl) ?_;refine zc H (λhc H=>?_) λhc H=>?_
   .refine zg ?_;refine TSx (tB (⟨0,0,0,[]⟩:B9) rfl rfl) ?_;exact zY H
   .refine AH<|Az ?_;refine zX (Bd [12,13] [] mix (by kernel_rfl) (by kernel_rfl)) ?_;refine zb H λx_15 _ H=>?_
    refine zb H λx_16 _ H=>?_
    refine zb H λ_ _ H=>?_
    refine zb H λx_18 _ H=>?_
    refine TRx (tB (⟨(x_15.toNat:Int),(x_16.toNat:Int),x_18,[]⟩:B9) rfl rfl)<|GT (λg=>DZ (α:=B9)) rfl<|DP (λg=>(ZD (y:=((⟨(x_15.toNat:Int),(x_16.toNat:Int),x_18,[]⟩:B9):B9)) ZB)) rfl ?_;refine zC ?_;rintro⟨⟨_,⟨b6_18,_⟩⟩,_⟩;dsimp only[XaV,XaW,XaS,Xan,Xam];refine zn H λpx_20 epx_20 H=>?_
    refine zX (ZF b6_18 (Ag epx_20.h)) ?_;refine zb H λ_ _ H=>?_
    refine zb H λ_ _ H=>?_
    refine zn H λx_23 ex_23 H=>?_
    refine zX (A4 (Ny ex_23.h) rfl) ?_;refine zb H λ_ _ H=>?_
    refine zd H λ_ _ H=>?_
    refine zc H (λhc H=>?_) λhc H=>?_
    .refine zg ?_;refine TSx (tB (⟨0,0,0,[]⟩:B9) rfl rfl) ?_;exact zY H
    .refine zg ?_;refine zb H λx_27 _ H=>?_
     refine zo H λ_ _ H=>?_
     refine zC ?_;refine zh H λo_29 H29 H=>?_
     refine Zs (λs:Unit=>o_29=.inl s) (λ(_:Unit) (_:Unit)=>(TR (TR (TR (TR Xaj 0 (D b0)) 2 (Pt b2_0 0)) 6 (Pt b6_18 0)) 7 (D x_23))) (λ(_:Unit) (_:Unit)=>[⟨b2_0,True,(One ((Dat.z:B9):B9))⟩,⟨b6_18,True,(One px_20)⟩]) ?_ ?_
     .skip;refine Zr<|Zx H29 (λ(x_30:Int) (_:Unit)=>(TR (TR (TR (TR (TR (TR (TR Xaj 0 (D b0)) 2 (Pt b2_0 0)) 6 (Pt b6_18 0)) 7 (D x_23)) 67 (D ((inner_10.drop (Xaa x_27)):(List UInt8)))) 68 (D (((inner_10.drop (Xaa x_27)).length:Int):Int))) 69 (D x_30))) (λ(x_30:Int) (_:Unit)=>[⟨b2_0,True,(One ((Dat.z:B9):B9))⟩,⟨b6_18,True,(One px_20)⟩]) () (Za (Za (Za (Za (Za (Za (Za (Ze _)))))))) (Zd rfl (Zd rfl (Zf _))) ?_;rintro x_30 ⟨⟩ x_31 H31 he31;unfold Ey at H31;refine zg ?_;refine zc H31 (λhc H31=>?_) λhc H31=>?_
      .refine zg ?_;refine zb H31 λ_ _ H31=>?_
       refine zX (A4 Vk rfl) ?_;refine zc H31 (λhc H31=>?_) λhc H31=>?_
       .refine zg ?_;refine TSx (tB (⟨0,0,0,[]⟩:B9) rfl rfl) ?_;refine zC ?_;refine zn H31 λ_ ek_33 H31=>?_
        refine ZF b2_0 (Ag ek_33.h)<|ZO<|Zh<|Zi<|Zi<|Zh<|Zw ?_;have R33:=AQ (he31 _ (ZZs H31)) H;refine zg ?_;obtain rfl:=ZZi R33;exact Eo rfl rfl (.cons Cv.le (.cons Cv.le .nil))
       .refine zg ?_;refine zb H31 λx_35 _ H31=>?_
        exact Zv x_35 () (ZZs H31) (Za (Za (Za (Za (Za (Za (Za (Ze _)))))))) (Zd rfl (Zd rfl (Zf _)))
      .refine zg ?_;exact Zl () () (he31 _ (ZZs H31)).symm (Za (Za (Za (Za (Ze _))))) (Zd rfl (Zd rfl (Zf _)))
     rintro⟨⟩ ⟨⟩ hp;replace H:=Bs hp H;refine Az<|AI ?_;refine zh H λo_37 H37 H=>?_
     refine Zs (λs:B9=>o_37=s) (λ(px_36:B9) (_:Unit)=>(TR (TR Xaj 2 (Pt b2_0 0)) 6 (Pt b6_18 0))) (λ(px_36:B9) (_:Unit)=>[⟨b2_0,True,(One ((Dat.z:B9):B9))⟩,⟨b6_18,True,(One px_36)⟩]) ?_ ?_
     .skip;refine zg ?_;refine zc H37 (λhc H37=>?_) λhc H37=>?_
      .refine zg ?_;refine zb H37 λ_ _ H37=>?_
       refine zb H37 λ_ _ H37=>?_
       refine zo H37 λ_ _ H37=>?_
       refine zE ?_;refine zn H37 λpx_41 epx_41 H37=>?_
       exact Ai b6_18 (Ag epx_41.h)<|Zl px_41 () (ZZs H37) (Za (Za (Ze _))) (Zd rfl (Zd rfl (Zf _)))
      .refine zg ?_;exact Zl px_20 () (ZZs H37) (Za (Za (Ze _))) (Zd rfl (Zd rfl (Zf _)))
     rintro px_36 ⟨⟩ hp;replace hp:=hp.symm;subst hp;exact zY H
def G5(size0:Int):Option Int:=
 (Dy size0).bind λx_1=>(JB x_1 2).bind λx_2=>some (min (64:Int) x_2)
instance Zdk:Fd1 65 G5 λr=>D r:=en1 Tryz.func65 rfl Tryz.ntmps65 λ_ _ _ _ _ H=>by
 unfold G5 at H;exact zY H
def Fs(r0:AA)(x_5:Int):Option (Int⊕(Unit⊕Bool)):=
 bif (decide (x_5<(r0.At.length:Int)))then((idx r0.At x_5).bind λx_7=>bif ((decide (x_7<(0:Int)))||(decide (x_7>(65535:Int))))then(some (.inr (.inr false)))else((AC x_5 1).bind λx_9=>some (.inl x_9)))else(some (.inr (.inl ())))
def LW(r0:AA)(size0:Int):Option Bool:=
 (Dy size0).bind λx_2=>(gb (!((decide (x_2=(0:Int)))||(decide ((Xap 281474976710656)<=r0.Gen)))) (G5 size0)).bind λx_3=>bif (((decide (x_2=(0:Int)))||(decide ((Xap 281474976710656)<=r0.Gen)))||(decide ((r0.At.length:Int)>x_3)))then(some false)else((ZN (λs=>Fs r0 s) (0:Int)).bind λo_4=>elS o_4 (λ_=>some true) (λq=>some q))
instance Zew:Fd2 141 LW λr=>D r:=en2 Tryz.func141 rfl Tryz.ntmps141 λA w hA r0 size0 r H=>by
 unfold LW at H;refine zg ?_;refine Xa9 rfl λb2_0=>zg ?_
 refine zb H λ_ _ H=>?_
 refine zX (Yg 10 rfl (λhg=>Ms) rfl) ?_;refine zd H λ_ _ H=>?_
 refine zc H (λhc H=>?_) λhc H=>?_
 .exact zY H
 .refine zC ?_;refine zh H λo_4 H4 H=>?_
  refine Zs (λs:Unit=>o_4=.inl s) (λ(_:Unit) (_:Unit)=>Xaj) (λ(_:Unit) (_:Unit)=>[]) ?_ ?_
  .skip;refine Zr<|Zx H4 (λ(x_5:Int) (_:Unit)=>(TR (TR (TR Xaj 24 (D r0.At)) 25 (D ((r0.At.length:Int):Int))) 26 (D x_5))) (λ(x_5:Int) (_:Unit)=>[]) () (Za (Za (Za (Ze _)))) (Zf _) ?_;rintro x_5 ⟨⟩ x_6 H6 he6;unfold Fs at H6;refine zg ?_;refine zc H6 (λhc H6=>?_) λhc H6=>?_
   .refine zg ?_;refine zb H6 λ_ _ H6=>?_
    refine zc H6 (λhc H6=>?_) λhc H6=>?_
    .refine zC ?_;refine ZO<|Zh<|Zi<|Zi<|Zh<|Zw ?_;have R7:=AQ (he6 _ (ZZs H6)) H;refine zg ?_;obtain rfl:=ZZi R7;exact Bc rfl Cv.le
    .refine zg ?_;refine zb H6 λx_9 _ H6=>?_
     exact Zv x_9 () (ZZs H6) (Za (Za (Za (Ze _)))) (Zf _)
   .refine zg ?_;exact Zl () () (he6 _ (ZZs H6)).symm (Ze _) (Zf _)
  rintro⟨⟩ ⟨⟩ hp;replace H:=Bs hp H;exact zY H
def I4(r0:AA)(x_10:Int)(l_12:(List UInt8)):Option ((Int×(List UInt8))⊕(List UInt8)):=
 bif (decide (x_10<(r0.At.length:Int)))then((idx r0.At x_10).bind λx_14=>(WZ x_14 8).bind λx_15=>(Dv 1 ((l_12.length+([(Xao x_15),(Xao x_14)]:List UInt8).length:Nat):Int)).bind λu_17=>(some ((l_12++([(Xao x_15),(Xao x_14)]:List UInt8)):(List UInt8))).bind λl_18=>(AC x_10 1).bind λx_19=>some (.inl (x_19,l_18)))else(some (.inr l_12))
def Kt(r0:AA)(size0:Int):Option ((List UInt8)×Int):=
 (LW r0 size0).bind λx_2=>bif (!x_2)then(some (([]:List UInt8),(1:Int)))else((GG (r0.At.length:Int) (1:Int)).bind λx_3=>(some ((⟨(2:Int),(max (0:Int) x_3),r0.Gen,[]⟩:B9):B9)).bind λpx_5=>(some (([]:List UInt8):(List UInt8))).bind λl_6=>(ZN (λs=>I4 r0 s.1 s.2) ((0:Int),l_6)).bind λl_8=>(Gr (⟨px_5.Kind,px_5.Id,px_5.Gen,l_8⟩:B9) size0).bind λr_20=>some (r_20.1,r_20.2))
instance Zev:Fd2 116 Kt λr=>Tup [D r.1,D r.2]:=en2 Tryz.func116 rfl Tryz.ntmps116 λA w hA r0 size0 r H=>by
 unfold Kt at H;refine zg ?_;refine Xa9 rfl λb2_0=>zg ?_
 refine zb H λ_ _ H=>?_
 refine zc H (λhc H=>?_) λhc H=>?_
 .exact zY H
 .refine zg ?_;refine zb H λ_ _ H=>?_
  refine Ye 0 UInt8 ?_;refine TSx (Qj (ps:=_) rfl ⟨_,Tryz.underlying202,by kernel_rfl⟩ (Zbz.mix (α:=B9) (o:=3) (b:=0) (Zbz.one (α:=B9)) rfl) (Xex (((Xcw (PF 0 B9 Int ZB) (by first|decide|omega))).st _) (Xex (((Xcw (PF 1 B9 Int ZB) (by first|decide|omega))).st _) (Xex (((Xcw (PF 2 B9 UInt64 ZB) (by first|decide|omega))).st _) inferInstance)))) ?_;refine Xaq rfl λb6_3=>?_
  refine Bk (Aj trivial rfl CtSc.h) ?_;refine zC ?_;refine zn H λpx_5 epx_5 H=>?_
  refine ZF b6_3 (DC (Ag epx_5.h)) ?_;refine zn H λ_ el_6 H=>?_
  refine ZF 0 (Ah el_6.h)<|ZF b6_3 (Fw (EB el_6.h (by simp))) ?_;refine zC ?_;refine zh H λo_9 H9 H=>?_
  refine Zs (λs:(List UInt8)=>o_9=s) (λ(l_8:(List UInt8)) (⟨b_6,p_6,c_6⟩:Nat×Prop×Nat)=>(TR (TR Xaj 1 (D size0)) 6 (Pt b6_3 0))) (λ(l_8:(List UInt8)) (⟨b_6,p_6,c_6⟩:Nat×Prop×Nat)=>[⟨b_6,p_6,(Row (l_8:List UInt8) c_6)⟩,⟨b6_3,True,(Xa4 (One px_5) 3 (Sl b_6 p_6 0 l_8.length c_6))⟩]) ?_ ?_
  .skip;refine Zr<|Zx H9 (λ⟨x_10,l_12⟩ (⟨b_10,p_10,c_10⟩:Nat×Prop×Nat)=>(TR (TR (TR (TR (TR Xaj 1 (D size0)) 6 (Pt b6_3 0)) 22 (D r0.At)) 23 (D ((r0.At.length:Int):Int))) 24 (D x_10))) (λ⟨x_10,l_12⟩ (⟨b_10,p_10,c_10⟩:Nat×Prop×Nat)=>[⟨b_10,p_10,(Row (l_12:List UInt8) c_10)⟩,⟨b6_3,True,(Xa4 (One px_5) 3 (Sl b_10 p_10 0 l_12.length c_10))⟩]) ⟨0,False,0⟩ (Za (Za (Za (Za (Za (Ze _)))))) (Zd rfl (Zd rfl (Zf _))) ?_;rintro⟨x_10,l_12⟩ ⟨b_10,p_10,c_10⟩ x_13 H13 he13;dsimp only at H13;unfold I4 at H13;refine zg ?_;refine zc H13 (λhc H13=>?_) λhc H13=>?_
   .refine zg ?_;refine zb H13 λx_14 _ H13=>?_
    refine zX (A4 (ZW Af) rfl) ?_;refine zb H13 λx_15 _ H13=>?_
    refine TSx (Xbx [.tmp 32,.tmp 34] rfl rfl (by decide)) ?_;refine zn H13 λ_ eu_17 H13=>?_
    refine Xdt (ys:=([(Xao x_15),(Xao x_14)]:List UInt8)) inferInstance eu_17.h rfl rfl rfl λb36_15 p36_15 c36_15=>zg ?_
    refine Bk (AS Xg7) ?_;refine zE ?_;refine zn H13 λl_18 el_18 H13=>?_
    refine Ai b36_15 (Ah el_18.h) ?_;refine zX (Ai b6_3 (Fw (EB el_18.h rfl))) ?_;refine zb H13 λx_19 _ H13=>?_
    exact Zv ⟨x_19,l_18⟩ ⟨b36_15,p36_15,c36_15⟩ (ZZs H13) (Za (Za (Za (Za (Za (Ze _)))))) (Zd rfl (Zd rfl (Zf _)))
   .refine zg ?_;exact Zl l_12 ⟨b_10,p_10,c_10⟩ (he13 _ (ZZs H13)).symm (Za (Za (Ze _))) (Zd rfl (Zd rfl (Zf _)))
  rintro l_8 ⟨b_6,p_6,c_6⟩ hp;replace hp:=hp.symm;subst hp;refine zg ?_;refine XfL b6_3 b_6 (o:=3) (((PF 3 B9 (List UInt8) ZB)).st (l_8:List UInt8)) (ZJ XaR rfl) ?_;exact zY H
def HK(r_2:(B9×Int))(x_6:Int)(x_16:Int)(l_18:(List Int)):Option ((Int×(List Int))⊕(List Int)):=
 bif (decide (x_16<x_6))then((RX (2:Int) x_16).bind λx_20=>(idx r_2.1.Body x_20).bind λx_21=>(Uu (x_21.toNat:Int) 8).bind λx_22=>(RX (2:Int) x_16).bind λx_23=>(AC x_23 1).bind λx_24=>(idx r_2.1.Body x_24).bind λx_25=>(orI x_22 (x_25.toNat:Int)).bind λx_26=>(Dv 8 ((l_18.length+([x_26]:List Int).length:Nat):Int)).bind λu_28=>(some ((l_18++([x_26]:List Int)):(List Int))).bind λl_29=>(AC x_16 1).bind λx_30=>some (.inl (x_30,l_29)))else(some (.inr l_18))
def Ix(b0:(List UInt8)):Option (AA×Int):=
 (Eb b0).bind λr_2=>bif (decide (r_2.2≠(0:Int)))then((some ((⟨0,[]⟩:AA):AA)).bind λk_4=>some (k_4,r_2.2))else(bif (decide (r_2.1.Kind=(0:Int)))then((some ((⟨0,[]⟩:AA):AA)).bind λk_5=>some (k_5,(6:Int)))else((JB (r_2.1.Body.length:Int) (2:Int)).bind λx_6=>(gb (!(decide (r_2.1.Kind≠(2:Int)))) (RM (r_2.1.Body.length:Int) (2:Int))).bind λx_7=>(gb (!((decide (r_2.1.Kind≠(2:Int)))||(decide (x_7≠(0:Int))))) (GG x_6 1)).bind λx_8=>bif (((decide (r_2.1.Kind≠(2:Int)))||(decide (x_7≠(0:Int))))||(decide (r_2.1.Id≠(max (0:Int) x_8))))then((some ((⟨0,[]⟩:AA):AA)).bind λk_9=>some (k_9,(2:Int)))else((some ((⟨r_2.1.Gen,[]⟩:AA):AA)).bind λr_11=>(some (([]:List Int):(List Int))).bind λl_12=>(ZN (λs=>HK r_2 x_6 s.1 s.2) ((0:Int),l_12)).bind λl_14=>(some ((⟨r_11.Gen,l_14⟩:AA):AA)).bind λk_31=>some (k_31,(0:Int)))))
instance Zdj:Fd1 161 Ix λr=>Tup [D r.1,D r.2]:=en1 Tryz.func161 rfl Tryz.ntmps161 λA w hA b0 r H=>by
 unfold Ix at H;refine zg ?_;refine Xaq rfl λb2_0=>zg ?_
 refine zb H λr_2 _ H=>?_
 refine Xaq rfl λb4_2=>zg ?_
 refine zc H (λhc H=>?_) λhc H=>?_
 .refine zg ?_;refine TSx (tB (⟨0,[]⟩:AA) rfl rfl) ?_;exact zY H
 .refine zg ?_;refine zc H (λhc H=>?_) λhc H=>?_
  .refine zg ?_;refine TSx (tB (⟨0,[]⟩:AA) rfl rfl) ?_;exact zY H
  .refine zg ?_;refine zb H λx_6 _ H=>?_
   refine zd H λ_ _ H=>?_
   refine zd H λ_ _ H=>?_
   refine zc H (λhc H=>?_) λhc H=>?_
   .refine zg ?_;refine TSx (tB (⟨0,[]⟩:AA) rfl rfl) ?_;exact zY H
   .refine zg ?_;refine Ye 0 Int ?_;refine TSx (Qj (ps:=_) rfl ⟨_,Tryz.underlying193,by kernel_rfl⟩ (Zbz.mix (α:=AA) (o:=1) (b:=0) (Zbz.one (α:=AA)) rfl) (Xex (((Xcw (PF 0 AA UInt64 ZB) (by first|decide|omega))).st _) inferInstance)) ?_;refine Xaq rfl λb7_9=>?_
    refine Bk (Aj trivial rfl CtSc.h) ?_;refine zC ?_;refine zn H λr_11 er_11 H=>?_
    refine ZF b7_9 (DC (Ag er_11.h)) ?_;refine zn H λ_ el_12 H=>?_
    refine ZF 0 (Ah el_12.h)<|ZF b7_9 (Fw (EB el_12.h (by simp))) ?_;refine zC ?_;refine zh H λo_15 H15 H=>?_
    refine Zs (λs:(List Int)=>o_15=s) (λ(l_14:(List Int)) (⟨b_12,p_12,c_12⟩:Nat×Prop×Nat)=>(TR (TR Xaj 2 (Pt b2_0 0)) 7 (Pt b7_9 0))) (λ(l_14:(List Int)) (⟨b_12,p_12,c_12⟩:Nat×Prop×Nat)=>[⟨b_12,p_12,(Row (l_14:List Int) c_12)⟩,⟨b2_0,True,(One ((Dat.z:AA):AA))⟩,⟨b7_9,True,(Xa4 (One r_11) 1 (Sl b_12 p_12 0 l_14.length c_12))⟩]) ?_ ?_
    .skip;refine Zr<|Zx H15 (λ⟨x_16,l_18⟩ (⟨b_16,p_16,c_16⟩:Nat×Prop×Nat)=>(TR (TR (TR (TR (TR Xaj 2 (Pt b2_0 0)) 4 (Pt b4_2 0)) 7 (Pt b7_9 0)) 48 (D x_6)) 49 (D x_16))) (λ⟨x_16,l_18⟩ (⟨b_16,p_16,c_16⟩:Nat×Prop×Nat)=>[⟨b_16,p_16,(Row (l_18:List Int) c_16)⟩,⟨b2_0,True,(One ((Dat.z:AA):AA))⟩,⟨b4_2,True,(One r_2.1)⟩,⟨b7_9,True,(Xa4 (One r_11) 1 (Sl b_16 p_16 0 l_18.length c_16))⟩]) ⟨0,False,0⟩ (Za (Za (Za (Za (Za (Ze _)))))) (Zd rfl (Zd rfl (Zd rfl (Zd rfl (Zf _))))) ?_;rintro⟨x_16,l_18⟩ ⟨b_16,p_16,c_16⟩ x_19 H19 he19;dsimp only at H19;unfold HK at H19;refine zg ?_;refine zc H19 (λhc H19=>?_) λhc H19=>?_
     .refine zC ?_;refine zX (Gf [1,20,22] [b7_9,b_16] mix (by kernel_rfl) (by kernel_rfl)) ?_;refine zX (GT (λg=>HA rfl (ZW Af)) rfl) ?_;refine zb H19 λ_ _ H19=>?_
      refine zb H19 λ_ _ H19=>?_
      refine zb H19 λ_ _ H19=>?_
      refine zb H19 λ_ _ H19=>?_
      refine zb H19 λ_ _ H19=>?_
      refine zb H19 λ_ _ H19=>?_
      refine zb H19 λx_26 _ H19=>?_
      refine TRx (Xbx [.tmp 70] rfl rfl (by decide)) ?_;refine zn H19 λ_ eu_28 H19=>?_
      refine zX (GT (λg=>Zb3 (ys:=([x_26]:List Int)) inferInstance eu_28.h rfl rfl) rfl) ?_;refine DP (λg=>(AS Xg7)) rfl ?_;refine zC ?_;rintro⟨⟨⟨_,_⟩,⟨b72_26,p72_26,c72_26⟩⟩,_⟩;dsimp only[XaV,XaW,XaS,Xan,Xam];refine zn H19 λl_29 el_29 H19=>?_
      refine Ai b72_26 (Ah el_29.h) ?_;refine zX (Ai b7_9 (Fw (EB el_29.h rfl))) ?_;refine zb H19 λx_30 _ H19=>?_
      exact Zv ⟨x_30,l_29⟩ ⟨b72_26,p72_26,c72_26⟩ (ZZs H19) (Za (Za (Za (Za (Za (Ze _)))))) (Zd rfl (Zd rfl (Zd rfl (Zd rfl (Zf _)))))
     .refine zg ?_;exact Zl l_18 ⟨b_16,p_16,c_16⟩ (he19 _ (ZZs H19)).symm (Za (Za (Ze _))) (Zd rfl (Zd rfl (Zd rfl (Zf _))))
    rintro l_14 ⟨b_12,p_12,c_12⟩ hp;replace hp:=hp.symm;subst hp;refine zg ?_;refine XfL b7_9 b_12 (o:=1) (((PF 1 AA (List Int) ZB)).st (l_14:List Int)) (ZJ XaR rfl) ?_;exact zY H
def FO(l0:(List (List UInt8)))(at_9:Int)(found_10:Bool)(blank_11:Bool)(x_12:Int)(newest_13:AA):Option ((Int×Bool×Bool×Int×AA)⊕(Int×Bool×Bool×AA)):=
 bif (decide (x_12<(l0.length:Int)))then(((idx l0 x_12).bind λx_20=>(gb blank_11 (GJ x_20)).bind λx_21=>(Ix x_20).bind λr_22=>bif ((decide (r_22.2=(0:Int)))&&((!found_10)||(decide (newest_13.Gen<=r_22.1.Gen))))then(some (x_12,true,(blank_11&&x_21),r_22.1))else(some (at_9,found_10,(blank_11&&x_21),newest_13))).bind λo_19=>el4 o_19 (λat_15 found_16 blank_17 newest_18=>(AC x_12 1).bind λx_24=>some (.inl (at_15,found_16,blank_17,x_24,newest_18))))else(some (.inr (at_9,found_10,blank_11,newest_13)))
def Fq(l0:(List (List UInt8))):Option (Int×AA×Int):=
 (some ((⟨0,[]⟩:AA):AA)).bind λnewest_3=>(ZN (λs=>FO l0 s.1 s.2.1 s.2.2.1 s.2.2.2.1 s.2.2.2.2) ((0:Int),false,true,(0:Int),newest_3)).bind λo_8=>el4 o_8 (λat_4 found_5 blank_6 newest_7=>bif found_5 then(some (at_4,newest_7,(0:Int)))else(bif blank_6 then((some ((⟨0,[]⟩:AA):AA)).bind λk_25=>some ((0:Int),k_25,(6:Int)))else((some ((⟨0,[]⟩:AA):AA)).bind λk_26=>some ((0:Int),k_26,(2:Int)))))
instance Zay:Fd1 144 Fq λr=>Tup [D r.1,D r.2.1,D r.2.2]:=en1 Tryz.func144 rfl Tryz.ntmps144 λA w hA l0 r H=>by
 unfold Fq at H;refine zg ?_;refine Xaq rfl λb3_0=>zg ?_
 refine TSx (tB (⟨0,[]⟩:AA) rfl rfl) ?_;refine Xaq rfl λb6_1=>?_
 refine zC ?_;refine zn H λ_ enewest_3 H=>?_
 refine ZF b6_1 (Ag enewest_3.h) ?_;refine zC ?_;refine zh H λo_8 H8 H=>?_
 refine Zs (λs:(Int×Bool×Bool×AA)=>o_8=s) (λ⟨at_4,found_5,blank_6,newest_7⟩ (_:Unit)=>(TR (TR (TR (TR (TR Xaj 3 (Pt b3_0 0)) 5 (D at_4)) 6 (Pt b6_1 0)) 7 (D found_5)) 8 (D blank_6))) (λ⟨at_4,found_5,blank_6,newest_7⟩ (_:Unit)=>[⟨b3_0,True,(One ((Dat.z:AA):AA))⟩,⟨b6_1,True,(One newest_7)⟩]) ?_ ?_
 .skip;refine Zr<|Zx H8 (λ⟨at_9,found_10,blank_11,x_12,newest_13⟩ (_:Unit)=>(TR (TR (TR (TR (TR (TR (TR (TR Xaj 3 (Pt b3_0 0)) 5 (D at_9)) 6 (Pt b6_1 0)) 7 (D found_10)) 8 (D blank_11)) 14 (D l0)) 15 (D ((l0.length:Int):Int))) 16 (D x_12))) (λ⟨at_9,found_10,blank_11,x_12,newest_13⟩ (_:Unit)=>[⟨b3_0,True,(One ((Dat.z:AA):AA))⟩,⟨b6_1,True,(One newest_13)⟩]) () (Za (Za (Za (Za (Za (Za (Za (Za (Ze _))))))))) (Zd rfl (Zd rfl (Zf _))) ?_;rintro⟨at_9,found_10,blank_11,x_12,newest_13⟩ ⟨⟩ x_14 H14 he14;dsimp only at H14;unfold FO at H14;refine zg ?_;refine zc H14 (λhc H14=>?_) λhc H14=>?_
  .refine AH<|Az<|AI ?_;refine zh H14 λo_19 H19 H14=>?_
   refine Zs (λs:(Int×Bool×Bool×AA)=>o_19=s) (λ⟨at_15,found_16,blank_17,newest_18⟩ (_:Unit)=>(TR (TR (TR (TR (TR (TR (TR (TR Xaj 3 (Pt b3_0 0)) 5 (D at_15)) 6 (Pt b6_1 0)) 7 (D found_16)) 8 (D blank_17)) 14 (D l0)) 15 (D ((l0.length:Int):Int))) 16 (D x_12))) (λ⟨at_15,found_16,blank_17,newest_18⟩ (_:Unit)=>[⟨b3_0,True,(One ((Dat.z:AA):AA))⟩,⟨b6_1,True,(One newest_18)⟩]) ?_ ?_
   .skip;refine zg ?_;refine zb H19 λ_ _ H19=>?_
    refine zd H19 λx_21 _ H19=>?_
    refine zb H19 λr_22 _ H19=>?_
    refine Xaq rfl λb11_22=>zg ?_
    refine zX (Q7 36 rfl (λhp hg=>Ms) rfl) ?_;refine zc H19 (λhc H19=>?_) λhc H19=>?_
    .refine zX (Gf [3] [b6_1] mix (by kernel_rfl) (by kernel_rfl)) ?_;refine DP (λg=>(ZD (y:=(r_22.1:AA)) ZB)) rfl ?_;refine zC ?_;rintro⟨_,_⟩;dsimp only[XaV,XaW,XaS,Xan,Xam];refine zg ?_;exact Zl ⟨x_12,true,(blank_11&&x_21),r_22.1⟩ () (ZZs H19) (Za (Za (Za (Za (Za (Za (Za (Za (Ze _))))))))) (Zd rfl (Zd rfl (Zf _)))
    .refine zg ?_;exact Zl ⟨at_9,found_10,(blank_11&&x_21),newest_13⟩ () (ZZs H19) (Za (Za (Za (Za (Za (Za (Za (Za (Ze _))))))))) (Zd rfl (Zd rfl (Zf _)))
   rintro⟨at_15,found_16,blank_17,newest_18⟩ ⟨⟩ hp;replace hp:=hp.symm;subst hp;replace H14:=ZcL H14;refine zg ?_;refine zb H14 λx_24 _ H14=>?_
   exact Zv ⟨at_15,found_16,blank_17,x_24,newest_18⟩ () (ZZs H14) (Za (Za (Za (Za (Za (Za (Za (Za (Ze _))))))))) (Zd rfl (Zd rfl (Zf _)))
  .refine zg ?_;exact Zl ⟨at_9,found_10,blank_11,newest_13⟩ () (he14 _ (ZZs H14)).symm (Za (Za (Za (Za (Za (Ze _)))))) (Zd rfl (Zd rfl (Zf _)))
 rintro⟨at_4,found_5,blank_6,newest_7⟩ ⟨⟩ hp;replace hp:=hp.symm;subst hp;replace H:=ZcL H;refine zg ?_;refine zc H (λhc H=>?_) λhc H=>?_
 .refine zX (Bd [3] [b3_0] mix (by kernel_rfl) (by kernel_rfl)) ?_;refine DP (λg=>(ZD (y:=(newest_7:AA)) ZB)) rfl ?_;refine zC ?_;rintro⟨_,_⟩;dsimp only[XaV,XaW,XaS,Xan,Xam];exact zY H
 .refine zg ?_;refine zc H (λhc H=>?_) λhc H=>?_
  .refine zg ?_;refine TSx (tB (⟨0,[]⟩:AA) rfl rfl) ?_;exact zY H
  .refine zg ?_;refine TSx (tB (⟨0,[]⟩:AA) rfl rfl) ?_;exact zY H
end
def ZdT:UInt32:=0xEDB88320
def Zfn(n:UInt32):UInt32:=XcC (n.toNat/2^(1:Int).toNat) ^^^ ZdT*(n &&& 1)
def QX:Nat->UInt32->UInt32
 | 0,n=>n
 | k+1,n=>Zfn (QX k n)
def HR(n:UInt32)(xs:List UInt8):UInt32:=xs.foldl (λn x=>QX 8 (n ^^^ x.toUInt32)) n
def Po(s:UInt32)(xs:List UInt8):UInt32:= ~~~HR (~~~s) xs
def Ee(xs:List UInt8):UInt64:=xs.foldl (λn x=>Xap (n.toNat*2^(8:Int).toNat) ||| x.toUInt64) 0
def Sj(n:UInt64)(k:Nat):UInt8:=(Xap (n.toNat/2^(8*(k:Int)).toNat)).toUInt8
def Bu(n:UInt64):Nat->List UInt8
 | 0=>[]
 | k+1=>Sj n k::Bu n k
def LY(n:UInt64)(m:Int):List UInt8:=if 1<=m/\m<=8 then Bu n m.toNat else[]
theorem Cd{α:Type}{xs:List α}{k:Nat} (hk:k<xs.length):xs.take (k+1)=xs.take k++[xs[k]]:=by
 rw[Xbo hk]
theorem XT{n:UInt32}{xs:List UInt8}{k j:Nat} (hk:k<xs.length) (hj:j=8):QX j (HR n (xs.take k) ^^^ xs[k].toUInt32)=HR n (xs.take (k+1)):=by
 subst hj;rw[Cd hk];unfold HR;rw[XdZ];rfl
theorem Tn{xs:List UInt8}{k:Nat} (hk:k<xs.length):Xap ((Ee (xs.take k)).toNat*2^(8:Int).toNat) ||| xs[k].toUInt64=Ee (xs.take (k+1)):=by
 rw[Cd hk];unfold Ee;rw[XdZ];rfl
theorem Ze2(n:UInt64)(x:UInt8):Xap (n.toNat*2^(8:Int).toNat) ||| x.toUInt64=n*256+x.toUInt64:=by
 rw[<-XcN,UInt64.toNat_or,XdU,XfV,Xdv,XfD];have hx:=x.toNat_lt;have h1:(256:UInt64).toNat=256:=rfl;have h2:2^(8:Int).toNat=256:=rfl;rw[h1,h2];have h3:n.toNat*256%2^64=(n.toNat%2^56) <<< 8:=by
  rw[Xe8];omega
 rw[h3,<-Nat.shiftLeft_add_eq_or_of_lt (by omega),Xe8];omega
theorem AF(n:UInt64)(k:Nat):(Bu n k).length=k:=by
 induction k with
 | zero=>rfl
 | succ k ih=>simp[Bu,ih]
theorem VM{n:UInt64}{m:Int} (h:m<1\/8<m):LY n m=[]:=by
 unfold LY;rw[if_neg (by omega)]
theorem ZaD{n:UInt64}{m:Int}{k:Nat} (hk:k<m.toNat) (h:0<=m) :
  (Xac (m.toNat-k) 0++Bu n k).set (m-1-(k:Int)).toNat (Sj n k)=Xac (m.toNat-(k+1)) 0++Bu n (k+1):=by
 have e1:(m-1-(k:Int)).toNat=m.toNat-(k+1):=by omega
 have e2:m.toNat-k=(m.toNat-(k+1))+1:=by omega
 rw[e1,e2,List.replicate_succ',XaM,List.set_append_right _ _ (by simp)];simp[Bu]
theorem Zdm{n:UInt64}{m:Int}{k:Nat} (hk:k=m.toNat) (h1:1<=m) (h2:m<=8):Xac (m.toNat-k) 0++Bu n k=LY n m:=by
 subst hk;unfold LY;rw[if_pos ⟨h1,h2⟩];simp
theorem Kw{n:UInt64}{m:Int} (h1:1<=m) (h2:m<=8):LY n m=Bu n m.toNat:=by unfold LY;rw[if_pos ⟨h1,h2⟩]
theorem ZaE(n:UInt64)(m:Int):(LY n m).length<=8:=by
 unfold LY;split
 .rw [AF];omega
 .simp
theorem J2{α:Type}{xss:List (List α)}{k:Nat} (hk:k<xss.length):(xss.take (k+1)).flatten=(xss.take k).flatten++xss[k]:=by
 rw[Cd hk,XcB];simp
theorem J1{α:Type}(xss:List (List α))(k:Nat):(xss.take k).flatten.length<=xss.flatten.length:=by
 have h:=Xbv k xss;have h2:(xss.take k).flatten++(xss.drop k).flatten=xss.flatten:=by rw[<-XcB,h]
 rw[<-h2,XaD];omega
theorem ZdG{α:Type}{xss:List (List α)}{k:Nat} (hk:k<xss.length):(xss.take k).flatten.length+xss[k].length<=xss.flatten.length:=by
 have:=J1 xss (k+1);rw[J2 hk,XaD]at this;exact this
def BP(xs:List UInt8):List UInt8:=xs++LY (Po 0 xs).toUInt64 4
theorem Nq(n:UInt64)(k:Nat):(Sj n k).toNat=n.toNat/256^k%256:=by
 unfold Sj;have h1:n.toNat/2^(8*(k:Int)).toNat<2^64:=Nat.lt_of_le_of_lt (Nat.div_le_self _ _) n.toNat_lt;rw[UInt64.toNat_toUInt8,XcP h1];rw[show(8*(k:Int)).toNat=8*k by omega,Nat.pow_mul]
def Ju(xs:List UInt8):Nat:=xs.foldl (λn x=>n*256+x.toNat) 0
theorem Tf(xs:List UInt8)(a:Nat):xs.foldl (λn x=>n*256+x.toNat) a=a*256^xs.length+Ju xs:=by
 unfold Ju
 induction xs generalizing a with
 | nil=>simp
 | cons x xs ih=>
  simp only[Xel,XaP];rw[ih,ih (0*256+x.toNat),XcY,Xc7,Xbg,Xa6,Xbb (256^xs.length) 256,<-Xcr];omega
theorem Lr(x:UInt8)(xs:List UInt8):Ju (x::xs)=x.toNat*256^xs.length+Ju xs:=by
 show(xs.foldl _ (0*256+x.toNat))=_;rw[Tf];simp
theorem L4(xs:List UInt8):Ju xs<256^xs.length:=by
 induction xs with
 | nil=>simp[Ju]
 | cons x xs ih=>
  rw[Lr,XaP,XcY];have:=x.toNat_lt;have h:x.toNat*256^xs.length<=255*256^xs.length:=Xah _ (by omega);omega
theorem VT(n:UInt64)(k:Nat):Ju (Bu n k)=n.toNat%256^k:=by
 induction k with
 | zero=>simp[Bu,Ju,Xg4]
 | succ k ih=>
  rw[Bu,Lr,ih,AF,Nq,XcY,Nat.mod_mul];rw[Xbb (256^k)];omega
theorem KD(xs:List UInt8):(Ee xs).toNat=Ju xs%2^64:=by
 have h:∀(xs:List UInt8) (a:UInt64) (b:Nat),a.toNat=b%2^64->(xs.foldl (λn x=>Xap (n.toNat*2^(8:Int).toNat) ||| x.toUInt64) a).toNat=(xs.foldl (λn x=>n*256+x.toNat) b)%2^64:=by
  intro xs
  induction xs with
  | nil=>intro a b h;simpa using h
  | cons x xs ih=>
   intro a b h;simp only[Xel];refine ih _ _ ?_;rw[Ze2,XdU,XfV,XfD,h];show(b%2^64*256%2^64+x.toNat)%2^64=_;omega
 exact h xs 0 0 rfl
theorem XD(n:UInt64){k:Nat}(hk:k<=8):(Ee (Bu n k)).toNat=n.toNat%256^k:=by
 rw[KD,VT];have:256^k<=2^64:=XaG (Xcg (by decide) hk) (by decide);have h2:n.toNat%256^k<256^k:=Nat.mod_lt _ (Xg2 (by decide));omega
theorem S7(xs:List UInt8)(h:xs.length<=8):Bu (Ee xs) xs.length=xs:=by
 have hval:(Ee xs).toNat=Ju xs:=by
  rw[KD];have h1:=L4 xs;have:256^xs.length<=2^64:=XaG (Xcg (by decide) h) (by decide);omega
 have key:∀(ys:List UInt8) (n:UInt64),(∃c,n.toNat=c*256^ys.length+Ju ys)->Bu n ys.length=ys:=by
  intro ys
  induction ys with
  | nil=>intro n _;rfl
  | cons y ys ih=>
   intro n ⟨c,hc⟩;rw[Lr,XaP,XcY]at hc;have hlt:=L4 ys;have hy:=y.toNat_lt;have hp:0<256^ys.length:=Xg2 (by decide);have hc2:n.toNat=(c*256+y.toNat)*256^ys.length+Ju ys:=by rw[hc,Xa6,Xcr,Xbb 256];omega
   show Sj n ys.length::Bu n ys.length=y::ys;rw[ih n ⟨_,hc2⟩];congr 1;rw[<-Xcs,Nq,hc2,Xbb (c*256+y.toNat),Nat.mul_add_div hp,Nat.div_eq_of_lt hlt];omega
 exact key xs _ ⟨0,by rw[hval];simp⟩
theorem WO{s:UInt32}{ys:List UInt8} (hy:ys.length=4):s.toUInt64=Ee ys↔LY s.toUInt64 4=ys:=by
 rw[Kw (by decide) (by decide)]
 constructor
 .intro h;rw[h];have:=S7 ys (by omega);rw[hy]at this;exact this
 .intro h;have h1:=XD s.toUInt64 (k:=(4:Int).toNat) (by decide);rw[h]at h1;rw[<-XcN,h1];have h2:s.toUInt64.toNat=s.toNat:=by simp
  have:=s.toNat_lt;rw[h2];show s.toNat=s.toNat%256^4;omega
theorem VG{xs:List UInt8}(h:¬xs.length<4):BP (xs.take (xs.length-4))=xs↔(Po 0 (xs.take (xs.length-4))).toUInt64=Ee (xs.drop (xs.length-4)):=by
 have e:=Xbv (xs.length-4) xs;have hl:(xs.drop (xs.length-4)).length=4:=by simp;omega
 rw[WO hl];unfold BP
 constructor
 .intro h1;rw[<-List.append_cancel_left_eq (xs.take (xs.length-4)),h1,e]
 .intro h1;rw[h1,e]
def Zdh(d:List UInt8)(c:UInt32):List UInt8:=d++Bu c.toUInt64 4
theorem SY(d:List UInt8)(c:UInt32):(Zdh d c).length=d.length+4:=by simp[Zdh,AF]
theorem LS(d:List UInt8):BP d=Zdh d (Po 0 d):=by
 unfold BP Zdh;rw[Kw (by decide) (by decide)];rfl
theorem I2(b:List UInt8):(BP b).length=b.length+4:=by rw[LS,SY]
theorem WP(s:UInt32)(b:List UInt8)(hb:b.length<=1000000):RA s b=some (Po s b):=by
 unfold RA;refine(Bt (ZM (λi=>(HR (~~~s) (b.take i),(i:Int))) b.length (e:=HR (~~~s) b) (by omega) (λi hi=>?_) ?_ rfl)).trans ?_
 rotate_right
 .rfl
 .unfold LO;dsimp only;rw[El hi,Zu,Zz hi,Zb];refine(Bt (ZM (λk=>(QX k (HR (~~~s) (b.take i) ^^^ b[i].toUInt32),(k:Int))) 8 (e:=HR (~~~s) (b.take (i+1))) (by omega) (λk hk=>?_) ?_ rfl)).trans ?_
  rotate_right
  .rw [ZL (by omega),Zb]
  .unfold LN;dsimp only;rw[show decide ((k:Int)<(8:Int))=true by simp;omega,Zu,Zb,Zb,ZL (by omega),Zb];rfl
  .unfold LN;dsimp only;rw[show decide (((8:Nat):Int)<(8:Int))=false by decide,Zq,XT hi rfl]
 .unfold LO;dsimp only;rw[Jv,Zq,Xbp]
theorem RB(b:List UInt8)(hb:b.length<=1000000):PA b=some (Po 0 b):=by
 unfold PA;rw[show(XcC 0)=0 from rfl,WP 0 b hb,Zb]
theorem MH(b:List UInt8)(hb:b.length<=1000000):Li b=some (Ee b):=by
 unfold Li;refine(Bt (ZM (λi=>(Ee (b.take i),(i:Int))) b.length (e:=Ee b) (by omega) (λi hi=>?_) ?_ rfl)).trans ?_
 rotate_right
 .rfl
 .unfold Ks;dsimp only;rw[El hi,Zu,Zz hi,Zb,Zb,ZL (by omega),Zb,<-Tn hi];rfl
 .unfold Ks;dsimp only;rw[Jv,Zq,Xbp]
theorem MG(n:UInt64)(m:Int):Lh n m=some (LY n m):=by
 unfold Lh
 by_cases h:1<=m/\m<=8
 .obtain ⟨k,rfl⟩:=Xck (show 0<=m by omega);have hk:1<=k/\k<=8:=by omega
  rw[Zg (by simp;omega),Aq (by omega) (by omega) (by omega),Zb,Zb];refine(Bt (ZM (λi=>((i:Int),(Xac (k-i) (Dat.z:UInt8)++Bu n i))) k (e:=LY n k) (by omega) (λi hi=>?_) ?_ (by simp[Bu]))).trans ?_
  rotate_right
  .rfl
  .unfold Kr;dsimp only;rw[XaK,Xak,El hi,Zu,Ax (by omega) (by omega),Zb,Ax (by omega) (by omega),Zb,Gb (by omega) (by omega),Zb];rw[show cnt (8*(i:Int))=some (8*i)by unfold cnt;rw[if_pos (by omega)];congr 1,Zb];rw[Xz (by omega) (by simp[AF];omega),Zb,Zb,ZL (by omega),Zb];have h1:=ZaD (n:=n) (m:=k) (k:=i) (by simpa using hi) (by omega);rw[Xak]at h1;exact congrArg (λz:List UInt8=>some (Sum.inl (((i+1:Nat):Int),z))) h1
  .unfold Kr;dsimp only;rw[XaK,Xak,Jv,Zq];have h1:=Zdm (n:=n) (m:=k) (k:=k) rfl (by omega) (by omega);rw[Xak]at h1;exact congrArg (λz:List UInt8=>some (Sum.inr z)) h1
 .rw [Zj (by simp;omega),VM (by omega)]
theorem V9(a b:List UInt8)(ha:a.length<=1000000)(hb:b.length<=1000000):Cj [a,b]=some (a++b):=by
 unfold Cj;refine(Bt (ZM (λi=>((([a,b].take i).flatten.length:Int),(i:Int))) 2 (e:=((a++b).length:Int)) (by omega) (λi hi=>?_) ?_ rfl)).trans ?_
 rotate_right
 .unfold Ej;rw[Zg (by simp;omega),Ax (by omega) (by omega),Zb,Ax (by simp;omega) (by simp;omega),Zb];have e:∀x:List UInt8,x=[]->(some x).bind (λs_2=>some s_2)=some ([]:List UInt8):=λx h=>by rw[h,Zb]
  have e9:(bif decide ((((a++b).length:Int))-((0:Int)-0)>(0:Int))then((Dv 1 ((((a++b).length:Int))-((0:Int)-0))).bind λu_6=>(ZaF ((((a++b).length:Int))-((0:Int)-0))).bind λu_7=>(cut (Xac (Xaa ((((a++b).length:Int))-((0:Int)-0))) (Dat.z:UInt8)).length 0 (0:Int)).bind λu_9=>(some (((Xac (Xaa ((((a++b).length:Int))-((0:Int)-0))) (Dat.z:UInt8)).take (Xaa (0:Int))):(List UInt8))).bind λl_10=>some l_10)else(some []))=some ([]:List UInt8):=by
   by_cases h0:0<(a++b).length
   .rw [Zj (by simp at h0⊢;omega),Aq (by simp;omega) (by simp;omega) (by simp;omega),Zb,Xc (by simp at h0⊢;omega),Zb,Ef (by omega) (by omega) (by simp;omega),Zb,Zb];simp
   .rw [Zg (by simp at h0⊢;simp[h0])]
  rw[Bt e9,Zb];refine(Bt (ZM (λi=>((i:Int),([a,b].take i).flatten)) 2 (e:=a++b) (by omega) (λi hi=>?_) ?_ rfl)).trans ?_
  rotate_right
  .rfl
  .unfold Cg;dsimp only;rw[show decide ((i:Int)<(([a,b].length:Nat):Int))=true by simp;omega,Zu,Zz (show i < [a,b].length by simpa using hi),Zb];have h1:=J2 (xss:=[a,b]) (k:=i) (by simpa using hi);have h2:([a,b].take i).flatten.length+([a,b][i]'(by simpa using hi)).length<=2000000:=by
    rw[<-XaD,<-h1];have:=J1 [a,b] (i+1);have e3:[a,b].flatten.length=a.length+b.length:=by simp
    omega
   rw[Aq (by omega) (by omega) (by omega),Zb,Zb,ZL (by omega),Zb,<-h1]
  .unfold Cg;dsimp only;rw[show decide (((2:Nat):Int)<(([a,b].length:Nat):Int))=false by simp,Zq];simp
 .unfold Ch;dsimp only;rw[show decide ((i:Int)<(([a,b].length:Nat):Int))=true by simp;omega,Zu,Zz (show i < [a,b].length by simpa using hi),Zb];have h1:=J2 (xss:=[a,b]) (k:=i) (by simpa using hi);have h2:([a,b].take i).flatten.length+([a,b][i]'(by simpa using hi)).length<=2000000:=by
   rw[<-XaD,<-h1];have:=J1 [a,b] (i+1);have e3:[a,b].flatten.length=a.length+b.length:=by simp
   omega
  rw[Aa (by omega) (by omega),Zb,Zg (by simp;omega),ZL (by omega),Zb,h1,XaD];rfl
 .unfold Ch;dsimp only;rw[show decide (((2:Nat):Int)<(([a,b].length:Nat):Int))=false by simp,Zq];simp
def Hw(s:Int):Prop:=24<=s/\s<=256
instance {s:Int}:Decidable (Hw s):=by unfold Hw;exact inferInstance
def Qi(p:B9)(s:Int):Prop:=Hw s/\(p.Kind=1\/p.Kind=2)/\0<=p.Id/\p.Id<64/\p.Gen<Xap 281474976710656/\(p.Body.length:Int)<=s-16
instance {p:B9}{s:Int}:Decidable (Qi p s):=by unfold Qi;exact inferInstance
theorem HM(s:Int):G9 s=some (decide (Hw s)):=by
 unfold G9;congr 1;rw[Xbt];simp only[Xaz,decide_eq_true_eq,ge_iff_le];rfl
theorem Zfs{c:Bool}{r d:Int}{P:Int->Bool}:(c&&P (bif c then r else d))=(c&&P r):=by cases c<;>rfl
def E5(s:Int):Int:=if Hw s then s-16 else 0
theorem Dx(s:Int):Dy s=some (E5 s):=by
 unfold Dy E5;rw[HM,Zb]
 by_cases h:Hw s
 .have h2:=h;unfold Hw at h2;rw[Zg (by simp[h]),Ax (by omega) (by omega),Zb,if_pos h]
 .rw [Zj (by simp[h]),if_neg h]
theorem OB(p:B9)(s:Int):Kx p s=some (decide (Qi p s)):=by
 unfold Kx;rw[HM,Zb,J0 (Dx s),Zb,Zfs (P:=λr=>decide ((p.Body.length:Int)<=r))];congr 1;rw[Xbt];simp only[Xaz,Bool.or_eq_true,decide_eq_true_eq];unfold Qi E5
 constructor
 .rintro ⟨⟨⟨⟨⟨h1,h2⟩,h3⟩,h4⟩,h5⟩,h6⟩;rw[if_pos h1]at h6;exact⟨h1,h2,h3,h4,h5,h6⟩
 .rintro ⟨h1,h2,h3,h4,h5,h6⟩;rw[if_pos h1];exact⟨⟨⟨⟨⟨h1,h2⟩,h3⟩,h4⟩,h5⟩,h6⟩
theorem Wj{f:Int->Option (Int⊕(Unit⊕Bool))}{b:List UInt8} (hb:b.length<=1000000000000000)
  (h1:∀i,(hi:i<b.length)->b[i]≠255->f (i:Int)=some (.inr (.inr false))) (h2:∀i,(hi:i<b.length)->b[i]=255->f (i:Int)=some (.inl ((i+1:Nat):Int))) (h3:f (b.length:Int)=some (.inr (.inl ()))) :
  ((ZN f (0:Int)).bind λo=>elS o (λ_=>some true) (λq=>some q))=some (decide (∀x∈b,x=255)):=by
 rcases GL (f:=f) (λi=>(i:Int)) b.length (λi=>decide (b.getD i 255≠255)) (λ_=>.inr false) (y:=.inl ()) (by omega)
  (λi hi hp=>h2 i hi (by simpa[Xad,Xaf hi]using hp))
  (λi hi hp=>h1 i hi (by simpa[Xad,Xaf hi]using hp)) h3 (s:=(0:Int)) rfl with⟨i,hi,hp,-,e⟩|⟨hall,e⟩
 .rw [e,Zb,A2];congr 1
  symm
  simp only[decide_eq_false_iff_not];intro h;have:=h _ (Xax hi);simp[Xad,Xaf hi,this]at hp
 .rw [e,Zb,ZU];congr 1
  symm
  simp only[decide_eq_true_eq];intro x hx;obtain⟨j,hj,rfl⟩:=XaQ hx;have:=hall j hj;simpa[Xad,Xaf hj]using this
theorem LZ(b:List UInt8)(hb:b.length<=1000000000000000):GJ b=some (decide (∀x∈b,x=255)):=by
 unfold GJ;refine Wj hb (λi hi hx=>?_) (λi hi hx=>?_) ?_<;>unfold I7
 .rw [El hi,Zu,Zz hi,Zb,Zj (by simpa using hx)]
 .rw [El hi,Zu,Zz hi,Zb,Zg (by simpa using hx),ZL (by omega),Zb]
 .rw [Jv,Zq]
def JQ(p:B9):List UInt8:=[Xao p.Kind,Xao p.Id]++Bu p.Gen 6++Bu (Xap p.Body.length) 2
def BR(p:B9)(n:Nat):List UInt8:=JQ p++p.Body++Xac (n-14-p.Body.length) 0
def Y4(p:B9)(s:Int):List UInt8×Int:=if Qi p s then(BP (BR p s.toNat),0)else([],1)
theorem HN(p:B9):(JQ p).length=10:=by simp[JQ,AF]
theorem L0{p:B9}{s:Int} (h:Qi p s):(BR p s.toNat).length=s.toNat-4:=by
 obtain⟨⟨h1,h2⟩,-,-,-,-,h3⟩:=h;simp[BR,HN];omega
theorem LP{a b ys:List UInt8}{k m:Nat} (hk:k=a.length) (hm:m<=b.length) (hy:ys.length<=m):splice (a++b) k (over (((a++b).drop k).take m) ys)=a++ys++b.drop ys.length:=by
 subst hk;unfold splice over;rw[XdQ,Xfj];have e1:(b.take m).length=m:=by simp;omega
 rw[e1,XaB hy];have e2:(ys++(b.take m).drop ys.length).length=m:=by simp;omega
 rw[e2,<-XdR,XdQ,XaM,XaM,XaM];congr 2;have:b.drop ys.length=(b.take m).drop ys.length++b.drop m:=by
  have h:=congrArg (List.drop ys.length) (Xbv m b);rw[List.drop_append_of_le_length (by omega)]at h;exact h.symm
 rw[this]
theorem I6(p:B9)(s:Int):Gr p s=some (Y4 p s):=by
 unfold Gr Y4;rw[OB,Zb]
 by_cases h:Qi p s
 .rw [Zg (by simp[h]),if_pos h];have hm:=h;obtain⟨⟨h1,h2⟩,h3,h4,h5,h6,h7⟩:=h;obtain⟨n,rfl⟩:=Xck (show 0<=s by omega);rw[Ax (by omega) (by omega),Zb,Aq (by omega) (by omega) (by omega),Zb,Zb];have e0:Xac (Xaa ((n:Int)-4)) (Dat.z:UInt8)=[0,0]++Xac (n-6) 0:=by
   rw[show((n:Int)-4).toNat=(n-6)+1+1 by omega,XdJ,XdJ];rfl
  rw[e0,Xz (by omega) (by simp;omega),Zb];rw[Xz (by omega) (by simp;omega),Zb,Zb];have e1:(([0,0]++Xac (n-6) (0:UInt8)).set (Xaa (0:Int)) (Xao p.Kind)).set (Xaa (1:Int)) (Xao p.Id)=[Xao p.Kind,Xao p.Id]++Xac (n-6) (0:UInt8):=rfl;rw[e1,Ef (by omega) (by omega) (by simp;omega),Zb,MG,Zb,Zb];have e2:splice ([Xao p.Kind,Xao p.Id]++Xac (n-6) (0:UInt8)) (Xaa 2) (over ((([Xao p.Kind,Xao p.Id]++Xac (n-6) (0:UInt8)).drop (Xaa 2)).take ((8:Int)-2).toNat) (LY p.Gen 6))=([Xao p.Kind,Xao p.Id]++Bu p.Gen 6)++Xac (n-12) (0:UInt8):=by
   rw[Kw (by omega) (by omega),LP (k:=Xaa 2) rfl (by simp;omega) (by simp[AF]),AF,Xc0];congr 2
  rw[e2,Ef (by omega) (by omega) (by simp[AF];omega),Zb,MG,Zb,Zb];have e3:splice (([Xao p.Kind,Xao p.Id]++Bu p.Gen 6)++Xac (n-12) (0:UInt8)) (Xaa 8) (over (((([Xao p.Kind,Xao p.Id]++Bu p.Gen 6)++Xac (n-12) (0:UInt8)).drop (Xaa 8)).take ((10:Int)-8).toNat) (LY (Xcp (p.Body.length:Int)) 2))=JQ p++Xac (n-14) (0:UInt8):=by
   rw[Kw (by omega) (by omega),LP (by simp[AF]) (by simp;omega) (by simp[AF]),AF,Xc0];unfold JQ;have e9:Xcp (p.Body.length:Int)=Xap p.Body.length:=by
    unfold Xcp;rw[<-XcN,Xdv,Xdv];omega
   rw[e9];congr 2
  rw[e3];have hl:(JQ p++Xac (n-14) (0:UInt8)).length=n-4:=by simp[HN];omega
  rw[Ef (by omega) (by omega) (by omega),Zb,Zb];have e4:splice (JQ p++Xac (n-14) (0:UInt8)) (Xaa 10) (over (((JQ p++Xac (n-14) (0:UInt8)).drop (Xaa 10)).take (((JQ p++Xac (n-14) (0:UInt8)).length:Nat)-(10:Int):Int).toNat) p.Body)=BR p n:=by
   rw[LP (by rw[HN];rfl) (by rw[hl];simp;omega) (by rw[hl];omega),Xc0];rfl
  rw[e4];have hi:=L0 hm;rw[Xak]at hi;rw[RB _ (by omega),Zb,MG,Zb,V9 _ _ (by omega) (by have:=ZaE (Po 0 (BR p n)).toUInt64 4;omega),Zb,Xak];rfl
 .rw [Zj (by simp[h]),if_neg h]
def TZ:B9:=⟨0,0,0,[]⟩
def Ed(b:List UInt8):Nat:=(Ee ((b.take 10).drop 8)).toNat
def pOf(b:List UInt8):B9:=⟨((b.getD 0 0).toNat:Int),((b.getD 1 0).toNat:Int),Ee ((b.take 8).drop 2),(b.take (10+Ed b)).drop 10⟩
def Yp(b:List UInt8):Prop:=(b.getD 0 0=1\/b.getD 0 0=2)/\(b.getD 1 0).toNat<64/\16+Ed b<=b.length/\∀x∈(b.take (b.length-4)).drop (10+Ed b),x=0
instance {b:List UInt8}:Decidable (Yp b):=by unfold Yp;exact inferInstance
def Y6(b:List UInt8):Prop:=Ee (b.drop (b.length-4))=(Po 0 (b.take (b.length-4))).toUInt64
instance {b:List UInt8}:Decidable (Y6 b):=by unfold Y6;exact inferInstance
def D5(b:List UInt8):B9×Int:=
 if ¬Hw b.length then(TZ,3)else if ∀x∈b,x=255 then(TZ,0)else if ¬Y6 b then(TZ,4)else if ¬Yp b then(TZ,2)else(pOf b,0)
theorem ZaH(b:List UInt8):Ed b<65536:=by
 unfold Ed;rw[KD];have h:=L4 ((b.take 10).drop 8);have h2:((b.take 10).drop 8).length<=2:=by simp;omega
 have h3:256^((b.take 10).drop 8).length<=256^2:=Xcg (by omega) h2;omega
theorem ZcC(b:List UInt8):Ee ((b.take 8).drop 2)<Xap 281474976710656:=by
 rw[Xci,KD];have h:=L4 ((b.take 8).drop 2);have h2:((b.take 8).drop 2).length<=6:=by simp;omega
 have h3:256^((b.take 8).drop 2).length<=256^6:=Xcg (by omega) h2;have h4:(Xap 281474976710656).toNat=281474976710656:=by decide
 omega
theorem Vp{f:Int->Option (Int⊕(Unit⊕(B9×Int)))}{c:List UInt8}{k:Nat}{y:B9×Int} (hc:c.length<=1000000)
  (h1:∀i,(hi:i<c.length)->c[i]≠0->f ((k+i:Nat):Int)=some (.inr (.inr y))) (h2:∀i,(hi:i<c.length)->c[i]=0->f ((k+i:Nat):Int)=some (.inl ((k+(i+1):Nat):Int))) (h3:f ((k+c.length:Nat):Int)=some (.inr (.inl ()))) :
  ((∀x∈c,x=0)/\ZN f (k:Int)=some (.inl ()))\/((¬∀x∈c,x=0)/\ZN f (k:Int)=some (.inr y)):=by
 rcases GL (f:=f) (λi=>((k+i:Nat):Int)) c.length (λi=>decide (c.getD i 0≠0)) (λ_=>.inr y) (y:=.inl ()) (by omega)
  (λi hi hp=>h2 i hi (by simpa[Xad,Xaf hi]using hp))
  (λi hi hp=>h1 i hi (by simpa[Xad,Xaf hi]using hp)) h3 (s:=(k:Int)) rfl with⟨i,hi,hp,-,e⟩|⟨hall,e⟩
 .refine .inr ⟨λh=>?_,e⟩;have:=h _ (Xax hi);simp[Xad,Xaf hi,this]at hp
 .refine .inl ⟨λx hx=>?_,e⟩;obtain⟨j,hj,rfl⟩:=XaQ hx;have:=hall j hj;simpa[Xad,Xaf hj]using this
theorem QP{b:List UInt8}{i:Nat} (h:i<b.length):b.getD i 0=b[i]:=by rw[Xad,Xaf h];rfl
theorem Za3{b:List UInt8}{i:Nat}{k:Int} (hk:k=i) (h:i<b.length):idx b k=some (b.getD i 0):=by subst hk;rw[Zz h,QP h]
theorem MF(x:UInt8):((x.toNat:Int)=1↔x=1)/\((x.toNat:Int)=2↔x=2):=by
 constructor
 .rw [<-Xcs];show _↔x.toNat=1;omega
 .rw [<-Xcs];show _↔x.toNat=2;omega
theorem RT(b:List UInt8)(hb:b.length<=1000000):Eb b=some (D5 b):=by
 unfold Eb D5;rw[HM,Zb]
 by_cases h1:Hw b.length
 .have h1':=h1;unfold Hw at h1';rw[Zg (by simp[h1]),if_neg (by simp[h1]),LZ b (by omega),Zb]
  by_cases h2:∀x∈b,x=255
  .rw [Zj (by simpa using h2),if_pos h2,Zb];rfl
  .rw [Zg (by simpa using h2),if_neg h2,Ax (by omega) (by omega),Zb,Ef (by omega) (by omega) (by omega),Zb,Zb,Ef (by omega) (by omega) (by omega),Zb,Zb,Zb,
    MH _ (by simp;omega),Zb,RB _ (by simp;omega),Zb]
   rw[show((b.length:Int)-4).toNat=b.length-4 by omega]
   by_cases h3:Y6 b
   .rw [Zg (by unfold Y6 at h3;simpa using h3),if_neg (by simp[h3]),Za3 (b:=b) (i:=0) (k:=0) rfl (by omega),Zb,Za3 (b:=b) (i:=1) (k:=1) rfl (by omega),Zb,Ef (by omega) (by omega) (by omega),Zb,MH _ (by simp;omega),Zb,Zb,
     Ef (by omega) (by omega) (by omega),Zb,MH _ (by simp;omega),Zb]
    have hm:=ZaH b;have e0:((Ee ((b.take (Xaa 10)).drop (Xaa 8))).toNat:Int)=(Ed b:Int):=rfl;rw[e0,OE (by omega) (by omega),Zb,Dx,Zb,J0 (OB _ _),Zb];have hr:E5 b.length=b.length-16:=by unfold E5;rw[if_pos h1]
    rw[hr]
    by_cases h4:(b.getD 0 0=1\/b.getD 0 0=2)/\(b.getD 1 0).toNat<64/\16+Ed b<=b.length
    .obtain ⟨g1,g2,g3⟩:=h4;have hmay:Qi ⟨((b.getD 0 0).toNat:Int),((b.getD 1 0).toNat:Int),Ee ((b.take (Xaa 8)).drop (Xaa 2)),[]⟩ b.length:=by
      refine⟨h1,?_,by dsimp only;omega,by dsimp only;omega,ZcC b,by simp;omega⟩;rcases g1 with g|g
      .exact .inl ((MF _).1.2 g)
      .exact .inr ((MF _).2.2 g)
     have d0:decide ((Ed b:Int)>(b.length:Int)-16)=false:=by simp;omega
     rw[d0,decide_eq_true hmay];rw[show((false || !bif !false then true else default):Bool)=false from rfl,Zq,Aa (by omega) (by omega),Zb,Ef (by omega) (by simp;omega) (by simp),Zb];have hz:=Vp (f:=λs=>Ey (b.take (b.length-4)) (10+(Ed b:Int)) s) (c:=(b.take (b.length-4)).drop (10+Ed b)) (k:=0) (y:=(TZ,2)) (by simp;omega) (λi hi hx=>by
       unfold Ey;rw[show(10+(Ed b:Int)).toNat=10+Ed b by omega,Xbg,El hi,Zu,Zz hi,Zb,Zj (by simpa using hx),Zb];rfl) (λi hi hx=>by
       unfold Ey;rw[show(10+(Ed b:Int)).toNat=10+Ed b by omega,Xbg,Xbg,El hi,Zu,Zz hi,Zb,Zg (by simpa using hx),ZL (by simp at hi;omega),Zb]) (by
       unfold Ey;rw[show(10+(Ed b:Int)).toNat=10+Ed b by omega,Xbg,Jv,Zq])
     rcases hz with⟨z1,z2⟩|⟨z1,z2⟩
     .rw [show((0:Int))=((0:Nat):Int)from rfl,z2,Zb,ZU,if_neg (by rw[XbX];exact⟨g1,g2,g3,z1⟩)]
      by_cases hp:Ed b=0
      .rw [Zg (by simp[hp]),Zb];congr 2;unfold pOf;rw[hp];simp
      .rw [Zj (by simp;omega),Zb,Ef (by omega) (by omega) (by omega),Zb];unfold CU;rw[Aq (by omega) (by simp;omega) (by simp;omega),Zb,Zb,Zb,Zb];rw[show(10+(Ed b:Int)).toNat=10+Ed b by omega];rfl
     .rw [show((0:Int))=((0:Nat):Int)from rfl,z2,Zb,A2,if_pos (λh=>z1 h.2.2.2)]
    .have hnm:(decide ((Ed b:Int)>(b.length:Int)-16) || !(bif !(decide ((Ed b:Int)>(b.length:Int)-16))then decide (Qi ⟨((b.getD 0 0).toNat:Int),((b.getD 1 0).toNat:Int),Ee ((b.take (Xaa 8)).drop (Xaa 2)),[]⟩ b.length)else default))=true:=by
      by_cases g3:(Ed b:Int)>(b.length:Int)-16
      .simp [g3]
      .rw [decide_eq_false g3];have:¬Qi ⟨((b.getD 0 0).toNat:Int),((b.getD 1 0).toNat:Int),Ee ((b.take (Xaa 8)).drop (Xaa 2)),[]⟩ b.length:=λhp=>h4 (by
        obtain⟨q1,q2,q3,q4,q5,q6⟩:=hp;dsimp only at q2 q3 q4;refine⟨?_,by omega,by omega⟩;rcases q2 with q|q
        .exact .inl ((MF _).1.1 q)
        .exact .inr ((MF _).2.1 q))
       rw[decide_eq_false this];rfl
     rw[hnm,Zu,Zb,if_pos (λh=>h4 ⟨h.1,h.2.1,h.2.2.1⟩)];rfl
   .rw [Zj (by unfold Y6 at h3;simpa using h3),Zb,if_pos h3];rfl
 .rw [Zj (by simp[h1]),if_pos h1,Zb];rfl
theorem MS{n:UInt64}{k:Nat} (hk:k<=8) (h:n.toNat<256^k):Ee (Bu n k)=n:=by
 rw[<-XcN,XD n hk,Nat.mod_eq_of_lt h]
theorem Is{z:Int}(h0:0<=z)(h:z<256):((Xao z).toNat:Int)=z:=by rw[QD];omega
theorem Oo(xs:List UInt8):(BP xs).take ((BP xs).length-4)=xs:=by
 rw[I2,LS];unfold Zdh;simp
theorem S2(xs:List UInt8):(BP xs).drop ((BP xs).length-4)=Bu (Po 0 xs).toUInt64 4:=by
 rw[I2,LS];unfold Zdh;simp
theorem VF(xs:List UInt8):Y6 (BP xs):=by
 unfold Y6;rw[Oo,S2,MS (by omega)];have:=(Po 0 xs).toNat_lt;rw[UInt32.toNat_toUInt64];omega
theorem Kv{p:B9}{n:Nat} (h:Qi p n) {x:List UInt8} (hx:x=BP (BR p n)) :
  x.length=n/\x.getD 0 0=Xao p.Kind/\x.getD 1 0=Xao p.Id/\(x.take 8).drop 2=Bu p.Gen 6/\(x.take 10).drop 8=Bu (Xap p.Body.length) 2/\(x.take (10+p.Body.length)).drop 10=p.Body/\(x.take (x.length-4)).drop (10+p.Body.length)=Xac (n-14-p.Body.length) 0:=by
 have hl:=L0 h;rw[Xak]at hl;obtain⟨⟨h1,h2⟩,h3,h4,h5,h6,h7⟩:=h;have hn:x.length=n:=by rw[hx,I2];omega
 have e0:x=JQ p++(p.Body++(Xac (n-14-p.Body.length) 0++Bu (Po 0 (BR p n)).toUInt64 4)):=by
  rw[hx,LS];unfold Zdh BR;simp only[XaM]
 have eh:JQ p=[Xao p.Kind,Xao p.Id]++(Bu p.Gen 6++Bu (Xap p.Body.length) 2):=by unfold JQ;rw[XaM]
 have hh:=HN p;have t8:x.take 8=[Xao p.Kind,Xao p.Id]++Bu p.Gen 6:=by
  rw[e0,Xcf (by omega),eh,<-XaM,Xcf (by simp[AF]),XaB (by simp[AF])]
 have t10:x.take 10=JQ p:=by
  rw[e0,Xcf (by omega),XaB (by omega)]
 have tb:x.take (10+p.Body.length)=JQ p++p.Body:=by
  rw[e0,<-XaM,Xcf (by simp[hh]),XaB (by simp[hh])]
 refine⟨hn,?_,?_,?_,?_,?_,?_⟩
 .rw [e0,eh];rfl
 .rw [e0,eh];rfl
 .rw [t8];rfl
 .rw [t10];unfold JQ;exact XeW (by simp[AF])
 .rw [tb];exact XeW hh
 .have e1:x.take (x.length-4)=BR p n:=by rw[hx,Oo]
  rw[e1];unfold BR;exact XeW (by simp[hh])
theorem QB{p:B9}{n:Nat} (h:Qi p n):D5 (BP (BR p n))=(p,0):=by
 generalize hx:BP (BR p n)=x;obtain⟨g1,g2,g3,g4,g5,g6,g7⟩:=Kv h hx.symm;obtain⟨⟨h1,h2⟩,h3,h4,h5,h6,h7⟩:=h;have hk:p.Kind=1\/p.Kind=2:=h3;have hm:Ed x=p.Body.length:=by
  unfold Ed;have hb:(Xap p.Body.length).toNat=p.Body.length:=XcP (show p.Body.length<18446744073709551616 by omega);rw[g5,MS (k:=2) (by omega) (by rw[hb];omega),hb]
 have hid:((Xao p.Id).toNat:Int)=p.Id:=Is (by omega) (by omega);have hkd:((Xao p.Kind).toNat:Int)=p.Kind:=Is (by omega) (by omega);have k1:Xao p.Kind=1\/Xao p.Kind=2:=by
  rcases hk with e|e
  .left;rw[e];rfl
  .right;rw[e];rfl
 unfold D5;rw[if_neg (by rw[XbX];unfold Hw;omega),if_neg (λhall=>by
  have h0:x.getD 0 0=255:=by rw[QP (by omega)];exact hall _ (Xax _)
  rw[g2]at h0;rcases k1 with e|e<;>rw[e]at h0<;>exact absurd h0 (by decide)),if_neg (by rw[XbX,<-hx];exact VF _),if_neg (by
  rw[XbX];refine⟨by rw[g2];exact k1,by rw[g3];omega,by rw[hm];omega,λy hy=>?_⟩;rw[hm,g7]at hy;exact List.eq_of_mem_replicate hy)]
 congr 1;unfold pOf;rw[hm,g2,g3,g4,g6,hid,hkd,MS (by omega) (by
  rw[Xci]at h6;have:(Xap 281474976710656).toNat=281474976710656:=by decide
  omega)]
theorem W7{b:List UInt8}(h:(D5 b).2=0)(hk:(D5 b).1.Kind≠0):Qi (D5 b).1 b.length/\BP (BR (D5 b).1 b.length)=b:=by
 unfold D5 at *
 by_cases h1:Hw b.length
 .rw [if_neg (by simp[h1])]at *
  by_cases h2:∀x∈b,x=255
  .rw [if_pos h2]at hk;exact absurd rfl hk
  .rw [if_neg h2]at *
   by_cases h3:Y6 b
   .rw [if_neg (by simp[h3])]at *
    by_cases h4:Yp b
    .rw [if_neg (by simp[h4])]at *;dsimp only;obtain⟨g1,g2,g3,g4⟩:=h4;have h1':=h1;unfold Hw at h1';have hbl:(pOf b).Body.length=Ed b:=by unfold pOf;simp;omega
     have hmay:Qi (pOf b) b.length:=by
      refine⟨h1,?_,by unfold pOf;dsimp only;omega,by unfold pOf;dsimp only;omega,ZcC b,by rw[hbl];omega⟩;rcases g1 with g|g
      .exact .inl ((MF _).1.2 g)
      .exact .inr ((MF _).2.2 g)
     refine⟨hmay,?_⟩;have key:BR (pOf b) b.length=b.take (b.length-4):=by
      unfold BR;rw[hbl];have e0:JQ (pOf b)=b.take 10:=by
       unfold JQ;rw[hbl];have a1:Xao (pOf b).Kind=b.getD 0 0:=by
        rw[<-Xcs];have:((Xao (pOf b).Kind).toNat:Int)=(b.getD 0 0).toNat:=by
         have q:=(b.getD 0 0).toNat_lt;exact Is (by unfold pOf;dsimp only;omega) (by unfold pOf;dsimp only;omega)
        omega
       have a2:Xao (pOf b).Id=b.getD 1 0:=by
        rw[<-Xcs];have:((Xao (pOf b).Id).toNat:Int)=(b.getD 1 0).toNat:=by
         have q:=(b.getD 1 0).toNat_lt;exact Is (by unfold pOf;dsimp only;omega) (by unfold pOf;dsimp only;omega)
        omega
       have a3:Bu (pOf b).Gen 6=(b.take 8).drop 2:=by
        have l6:((b.take 8).drop 2).length=6:=by simp;omega
        have:=S7 ((b.take 8).drop 2) (by omega);rw[l6]at this;exact this
       have a4:Bu (Xap (Ed b)) 2=(b.take 10).drop 8:=by
        have l2:((b.take 10).drop 8).length=2:=by simp;omega
        have:=S7 ((b.take 10).drop 8) (by omega);rw[l2]at this;rw[<-this];congr 1;unfold Ed;exact UInt64.ofNat_toNat
       rw[a1,a2,a3,a4];have a5:[b.getD 0 0,b.getD 1 0]=b.take 2:=by
        apply List.ext_getElem
        .simp;omega
        .intro j q1 q2;simp at q1;rcases (by omega:j=0\/j=1)with rfl|rfl
         .show b.getD 0 0=_;rw[QP (by omega),Xb6]
         .show b.getD 1 0=_;rw[QP (by omega),Xb6]
       rw[a5];have a6:b.take 2++(b.take 8).drop 2=b.take 8:=by
        have:=Xbv 2 (b.take 8);rw[Xdl]at this;exact this
       have a7:b.take 8++(b.take 10).drop 8=b.take 10:=by
        have:=Xbv 8 (b.take 10);rw[Xdl]at this;exact this
       rw[a6,a7]
      have e1:b.take 10++(pOf b).Body=b.take (10+Ed b):=by
       have:=Xbv 10 (b.take (10+Ed b));rw[Xdl,XaY (by omega)]at this;exact this
      have e2:Xac (b.length-14-Ed b) (0:UInt8)=(b.take (b.length-4)).drop (10+Ed b):=by
       symm
       rw[List.eq_replicate_iff];exact⟨by simp;omega,g4⟩
      rw[e0,e1,e2];have:=Xbv (10+Ed b) (b.take (b.length-4));rw[Xdl,XaY (by omega)]at this;exact this
     rw[key];exact(VG (by omega)).2 h3.symm
    .rw [if_pos h4]at h;exact absurd h (by decide)
   .rw [if_pos h3]at h;exact absurd h (by decide)
 .rw [if_pos h1]at h;exact absurd h (by decide)
theorem W8{b:List UInt8}(h:(D5 b).2≠0\/(D5 b).1.Kind=0):(D5 b).1=TZ:=by
 unfold D5 at *
 by_cases h1:Hw b.length
 .rw [if_neg (by simp[h1])]at *
  by_cases h2:∀x∈b,x=255
  .rw [if_pos h2]
  .rw [if_neg h2]at *
   by_cases h3:Y6 b
   .rw [if_neg (by simp[h3])]at *
    by_cases h4:Yp b
    .rw [if_neg (by simp[h4])]at *
     exfalso
     rcases h with h|h
     .exact h rfl
     .have e:((b.getD 0 0).toNat:Int)=0:=h;rcases h4.1 with g|g<;>rw[g]at e<;>exact absurd e (by decide)
    .rw [if_pos h4]
   .rw [if_pos h3]
 .rw [if_pos h1]
section
open Go Go.RowKit
set_option synthInstance.maxHeartbeats 400000
set_option synthInstance.maxSize 4096
def GR(blocks0:Int)(pages0:Int)(size0:Int):Option Bool:=
 some ((((((decide (blocks0>=(1:Int)))&&(decide (blocks0<=(32:Int))))&&(decide (pages0>=(1:Int))))&&(decide (pages0<=(16:Int))))&&(decide (size0>=(1:Int))))&&(decide (size0<=(256:Int))))
instance ZcP:Fd3 41 GR λr=>D r:=en3 Tryz.func41 rfl Tryz.ntmps41 λ_ _ _ _ _ _ _ H=>by
 unfold GR at H;exact zY H
def CC(b0x:(List UInt8))(x_3:Int)(bx_4:(List UInt8)):Option ((Int×(List UInt8))⊕(List UInt8)):=
 bif (decide (x_3<(b0x.length:Int)))then((idx bx_4 x_3).bind λx_6=>(some ((bx_4.set (Xaa x_3) (XaN 255)):(List UInt8))).bind λl_7=>(AC x_3 1).bind λx_8=>some (.inl (x_8,l_7)))else(some (.inr bx_4))
def Eg(b0x:(List UInt8)):Option (List UInt8):=
 (ZN (λs=>CC b0x s.1 s.2) ((0:Int),b0x)).bind λbx_1=>some bx_1
theorem TG{b0x:(List UInt8)}{b0 c0:Nat}{p0:Prop}{r:(List UInt8)} (H:Eg b0x=some r):CO1 42 [⟨b0,p0,Row (b0x:List UInt8) c0⟩] (Sl b0 p0 0 b0x.length c0) (λg:Unit=>Tup []) λg=>[⟨b0,p0,Row (r:List UInt8) c0⟩]:=eO1 Tryz.func42 rfl Tryz.ntmps42 λA w hA hO=>by
 unfold Eg at H;refine zg ?_;refine TSx (AK (n:=b0x.length) rfl) ?_;refine zC ?_;refine zh H λo_2 H2 H=>?_
 refine Zs (λs:(List UInt8)=>o_2=s) (λ(bx_1:(List UInt8)) (_:Unit)=>Xaj) (λ(bx_1:(List UInt8)) (_:Unit)=>[⟨b0,p0,(Row (bx_1:List UInt8) c0)⟩]) ?_ ?_
 .skip;refine Zr<|Zx H2 (λ⟨x_3,bx_4⟩ (_:Unit)=>(TR (TR (TR Xaj 0 (Sl b0 p0 0 bx_4.length c0)) 4 (D ((b0x.length:Int):Int))) 5 (D x_3))) (λ⟨x_3,bx_4⟩ (_:Unit)=>[⟨b0,p0,(Row (bx_4:List UInt8) c0)⟩]) () (Za (Za (Zm (ZH rfl) (Ze _)))) (Zd rfl (Zf _)) ?_;rintro⟨x_3,bx_4⟩ ⟨⟩ x_5 H5 he5;dsimp only at H5;unfold CC at H5;refine zg ?_;refine zc H5 (λhc H5=>?_) λhc H5=>?_
  .refine zg ?_;refine zn H5 λ_ ex_6 H5=>?_
   refine TSx (Zt (ZP ex_6.h rfl)) ?_;refine zE ?_;refine zn H5 λl_7 el_7 H5=>?_
   refine Ai b0 (Ah el_7.h) ?_;refine zX (C9 0 _ (AY el_7.h (by simp))) ?_;refine zb H5 λx_8 _ H5=>?_
   exact Zv ⟨x_8,l_7⟩ () (ZZs H5) (Za (Za (Zm (ZH rfl) (Ze _)))) (Zd rfl (Zf _))
  .refine zg ?_;exact Zl bx_4 () (he5 _ (ZZs H5)).symm (Ze _) (Zd rfl (Zf _))
 rintro bx_1 ⟨⟩ hp;replace hp:=hp.symm;subst hp;obtain rfl:=ZZi H;exact N6 rfl rfl () .nil (Zd rfl (Zf _))
theorem Mj{b r:List UInt8}(H:Eg b=some r):r.length=b.length:=by
 unfold Eg at H;refine zn H λ_ hx H=>?_
 obtain rfl:=ZZi H;refine MR (λs:Int×List UInt8=>s.2.length=b.length) (λr=>r.length=b.length) ?_ ?_ rfl hx.h
 .rintro ⟨i,l⟩ ⟨i',l'⟩ h1 hf;dsimp only at h1 hf⊢;unfold CC at hf;cases hc:decide (i<(b.length:Int))with
  | false=>replace hf:=cF hf hc;cases ZZi hf
  | true=>
    replace hf:=cT hf hc;obtain⟨_,_,hf⟩:=bnd hf;obtain⟨l2,e2,hf⟩:=bnd hf;obtain⟨_,_,hf⟩:=bnd hf;have h2:=ZZi hf;injection h2 with h2;injection h2 with e3 e4;subst e4;rw[<-ZZi e2];simpa using h1
 .rintro ⟨i,l⟩ e h1 hf;dsimp only at h1 hf⊢;unfold CC at hf;cases hc:decide (i<(b.length:Int))with
  | true=>
    replace hf:=cT hf hc;obtain⟨_,_,hf⟩:=bnd hf;obtain⟨l2,e2,hf⟩:=bnd hf;obtain⟨_,_,hf⟩:=bnd hf;cases ZZi hf
  | false=>
    replace hf:=cF hf hc;have h2:=ZZi hf;injection h2 with h2;subst h2;exact h1
theorem Pr{b l l':List UInt8}{i i':Int} (hf:CC b i l=some (.inl (i',l'))):l'.length=l.length:=by
 unfold CC at hf;cases hc:decide (i<(b.length:Int))with
 | false=>replace hf:=cF hf hc;cases ZZi hf
 | true=>
   replace hf:=cT hf hc;obtain⟨_,_,hf⟩:=bnd hf;obtain⟨l2,e2,hf⟩:=bnd hf;obtain⟨_,_,hf⟩:=bnd hf;have h2:=ZZi hf;injection h2 with h2;injection h2 with e3 e4;subst e4;rw[<-ZZi e2];simp
theorem TF{A:Nat->Prop}{b0x:(List UInt8)}{b0 o:Nat}{p0:Prop}{C0:Ct}{Cf:List UInt8->Ct}{r:(List UInt8)} (hC:C0=Cf b0x) (hf:∀ys,ys.length=b0x.length->PlS (Cf ys) o UInt8 inferInstance ys Cf) (w:World) (v0:Value) (hA:∀k,w.heap.size<=k->A k) (hO:OwnIn A [⟨b0,p0,C0⟩]) (hap:Gh [⟨b0,p0,C0⟩]) (hks:Pks (Pub A [⟨b0,p0,C0⟩]) [⟨b0,p0,C0⟩] w) (h0:(Sv b0 p0 o b0x.length).p (Pub A [⟨b0,p0,C0⟩]) w v0) (H:Eg b0x=some r) :
    Calls Tryz.prog 42 #[v0] w (M7 A w [⟨b0,p0,C0⟩] (λg:Unit=>Tup []) λg=>[⟨b0,p0,Cf r⟩]):=by
 subst hC;unfold Eg at H;refine zX (QW hA hap hks Tryz.func42 rfl Tryz.ntmps42 rfl h0) ?_;refine TSx (AK (n:=b0x.length) rfl) ?_;refine zC ?_;refine zh H λo_2 H2 H=>?_
 refine Zs (λs:(List UInt8)=>o_2=s) (λ(b_1:(List UInt8)) (_:Unit)=>Xaj) (λ(b_1:(List UInt8)) (_:Unit)=>[⟨b0,p0,Cf b_1⟩]) ?_ ?_
 .skip;refine Zr<|St H2 (λs:Int×List UInt8=>s.2.length=b0x.length) rfl (λ⟨_,_⟩ ⟨_,_⟩ h1 hf=>(Pr hf).trans h1) (λ⟨x_3,b_4⟩ (_:Unit)=>(TR (TR (TR Xaj 0 (Sv b0 p0 o b0x.length)) 4 (D ((b0x.length:Int):Int))) 5 (D x_3))) (λ⟨x_3,b_4⟩ (_:Unit)=>[⟨b0,p0,Cf b_4⟩]) () (Za (Za (Zm (Ty.le.refl _) (Ze _)))) (Zd rfl (Zf _)) ?_;rintro⟨x_3,b_4⟩ ⟨⟩ x_5 hI H5 he5;replace hI:b_4.length=b0x.length:=hI
  try dsimp only at H5
  unfold CC at H5;refine zg ?_;refine zc H5 (λhc H5=>?_) λhc H5=>?_
  .refine zg ?_;refine zn H5 λ_ ex_6 H5=>?_
   refine TSx (Zt (ZP ex_6.h hI.symm))<|Bk (ZD (y:=((XaN 255):UInt8)) (ZbO (hf b_4 hI) ex_6.h)) ?_;refine zE ?_;refine zn H5 λl_7 el_7 H5=>?_
   refine zX (Ai b0 (congrArg Cf (ZZi el_7.h))) ?_;refine zb H5 λx_8 _ H5=>?_
   exact Zv ⟨x_8,l_7⟩ () (ZZs H5) (Za (Za (Zm (Ty.le.refl _) (Ze _)))) (Zd rfl (Zf _))
  .refine zg ?_;exact Zl b_4 () (he5 _ (ZZs H5)).symm (Ze _) (Zd rfl (Zf _))
 rintro b_1 ⟨⟩ hp;replace hp:=hp.symm;subst hp;obtain rfl:=ZZi H;exact N6 rfl rfl () .nil (Zd rfl (Zf _))
def Jj(pages0:Int)(size0:Int)(x_11:Int)(l_12:(List Zo))(x_20:Int)(l_21:(List (List UInt8))):Option ((Int×(List (List UInt8)))⊕(List (List UInt8))):=
 bif (decide (x_20<pages0))then((idx l_12 x_11).bind λx_23=>(Dv 1 size0).bind λu_24=>(idx l_21 x_20).bind λx_26=>(some ((Xac (Xaa size0) (Dat.z:UInt8)):(List UInt8))).bind λl_27=>(idx l_12 x_11).bind λx_28=>(idx l_21 x_20).bind λx_29=>(Eg l_27).bind λx_30=>(AC x_20 1).bind λx_32=>some (.inl (x_32,(l_21.set (Xaa x_20) x_30))))else(some (.inr l_21))
def Jk(blocks0:Int)(pages0:Int)(size0:Int)(x_11:Int)(l_12:(List Zo)):Option ((Int×(List Zo))⊕(List Zo)):=
 bif (decide (x_11<blocks0))then((Dv 24 pages0).bind λu_14=>(idx l_12 x_11).bind λx_16=>(some ((Xac (Xaa pages0) (Dat.z:(List UInt8))):(List (List UInt8)))).bind λl_17=>(ZN (λs=>Jj pages0 size0 x_11 l_12 s.1 s.2) ((0:Int),l_17)).bind λl_18=>(AC x_11 1).bind λx_33=>some (.inl (x_33,(l_12.set (Xaa x_11) (⟨l_18,x_16.Used,x_16.Worn,x_16.Bad⟩:Zo)))))else(some (.inr l_12))
def Jl(blocks0:Int)(pages0:Int)(size0:Int):Option (Chip×Int):=
 (GR blocks0 pages0 size0).bind λx_2=>bif (!x_2)then((some ((⟨0,0,[],0,false,[]⟩:Chip):Chip)).bind λk_3=>some (k_3,(1:Int)))else((Dv 48 blocks0).bind λu_4=>(some ((⟨pages0,size0,[],0,false,[]⟩:Chip):Chip)).bind λcx_7=>(some ((Xac (Xaa blocks0) (Dat.z:Zo)):(List Zo))).bind λl_8=>(ZN (λs=>Jk blocks0 pages0 size0 s.1 s.2) ((0:Int),l_8)).bind λl_9=>some ((⟨cx_7.Pages,cx_7.Size,l_9,cx_7.Ops,cx_7.Off,cx_7.Faults⟩:Chip),(0:Int)))
instance ZeL:Fd3 9 Jl λr=>Tup [D r.1,D r.2]:=en3 Tryz.func9 rfl Tryz.ntmps9 λA w hA blocks0 pages0 size0 r H=>by
 unfold Jl at H;refine zg ?_;refine Xaq rfl λb6_0=>zg ?_
 refine zb H λ_ _ H=>?_
 refine zc H (λhc H=>?_) λhc H=>?_
 .refine zg ?_;refine TSx (tB (⟨0,0,[],0,false,[]⟩:Chip) rfl rfl) ?_;exact zY H
 .refine zg ?_;refine zn H λ_ eu_4 H=>?_
  refine FJ eu_4.h ⟨(A6 eu_4.h).1,XaJ _⟩ rfl λb20_4=>?_
  refine TSx (Qk (ps:=_) rfl ⟨_,Tryz.underlying28,by kernel_rfl⟩ ((Xex (((PF 0 Chip Int ZB)).st _) (Xex (((PF 1 Chip Int ZB)).st _) (SA (Xf5 (by decide)) inferInstance))))) ?_;refine Xaq rfl λb8_5=>?_
  refine Bk (Aj trivial rfl CtSc.h) ?_;refine zC ?_;refine zn H λcx_7 ecx_7 H=>?_
  refine ZF b8_5 (DC (Ag ecx_7.h)) ?_;refine zn H λ_ el_8 H=>?_
  refine ZF b20_4 (Ah el_8.h)<|ZF b8_5 (Fw (EB el_8.h (by simp))) ?_;refine zC ?_;refine zh H λo_10 H10 H=>?_
  refine Zs (λs:(List Zo)=>o_10=s) (λ(l_9:(List Zo)) (_:Unit)=>(TR (TR Xaj 6 (Pt b6_0 0)) 8 (Pt b8_5 0))) (λ(l_9:(List Zo)) (_:Unit)=>[⟨b20_4,True,(Row (l_9:List Zo) (Xaa blocks0))⟩,⟨b6_0,True,(One ((Dat.z:Chip):Chip))⟩,⟨b8_5,True,(Xa4 (One cx_7) 2 (Sl b20_4 True 0 l_9.length (Xaa blocks0)))⟩]) ?_ ?_
  .skip;refine Zr<|Zx H10 (λ⟨x_11,l_12⟩ (_:Unit)=>(TR (TR (TR (TR (TR (TR Xaj 1 (D pages0)) 2 (D size0)) 6 (Pt b6_0 0)) 8 (Pt b8_5 0)) 22 (D blocks0)) 23 (D x_11))) (λ⟨x_11,l_12⟩ (_:Unit)=>[⟨b20_4,True,(Row (l_12:List Zo) (Xaa blocks0))⟩,⟨b6_0,True,(One ((Dat.z:Chip):Chip))⟩,⟨b8_5,True,(Xa4 (One cx_7) 2 (Sl b20_4 True 0 l_12.length (Xaa blocks0)))⟩]) () (Za (Za (Za (Za (Za (Za (Ze _))))))) (Zd rfl (Zd rfl (Zd rfl (Zf _)))) ?_;rintro⟨x_11,l_12⟩ ⟨⟩ x_13 H13 he13;dsimp only at H13;unfold Jk at H13;refine zg ?_;refine zc H13 (λhc H13=>?_) λhc H13=>?_
   .refine zC ?_;refine zX (Bd [4,7] [b20_4] mix (by kernel_rfl) (by kernel_rfl)) ?_;refine zX (Fd (ZW Af) rfl) ?_;refine zn H13 λ_ eu_14 H13=>?_
    refine GT (λg=>XgN (A6 eu_14.h).1 (XaJ _) (Ea eu_14.h).2.1 (Ea eu_14.h).2.2) rfl ?_;refine zn H13 λx_16 ex_16 H13=>?_
    refine zX (Fd (Zt (ZP ex_16.h rfl)) rfl) ?_;refine DP (λg=>(AS (Mw ex_16.h (off:=0) (by omega) (by decide)))) rfl ?_;refine zC ?_;rintro⟨⟨_,⟨b30_14,_⟩⟩,_⟩;dsimp only[XaV,XaW,XaS,Xan,Xam];refine zn H13 λ_ el_17 H13=>?_
    refine ZF b30_14 (Ah el_17.h)<|ZF b20_4 (Fw (EB el_17.h (by simp))) ?_;refine zC ?_;refine zh H13 λo_19 H19 H13=>?_
    refine Zs (λs:(List (List UInt8))=>o_19=s) (λ(l_18:(List (List UInt8))) (_:Unit)=>(TR (TR (TR (TR (TR (TR Xaj 1 (D pages0)) 2 (D size0)) 6 (Pt b6_0 0)) 8 (Pt b8_5 0)) 22 (D blocks0)) 23 (D x_11))) (λ(l_18:(List (List UInt8))) (_:Unit)=>[⟨b20_4,True,(Xa4 (Row (l_12:List Zo) (Xaa blocks0)) ((0+Xaa x_11*Dat.sz Zo)+0) (Sl b30_14 True 0 l_18.length (Xaa pages0)))⟩,⟨b30_14,True,(Row (l_18:List (List UInt8)) (Xaa pages0))⟩,⟨b6_0,True,(One ((Dat.z:Chip):Chip))⟩,⟨b8_5,True,(Xa4 (One cx_7) 2 (Sl b20_4 True 0 l_12.length (Xaa blocks0)))⟩]) ?_ ?_
    .skip;refine Zr<|Zx H19 (λ⟨x_20,l_21⟩ (_:Unit)=>(TR (TR (TR (TR (TR (TR (TR (TR (TR Xaj 1 (D pages0)) 2 (D size0)) 6 (Pt b6_0 0)) 8 (Pt b8_5 0)) 9 (D x_11)) 22 (D blocks0)) 23 (D x_11)) 33 (D pages0)) 34 (D x_20))) (λ⟨x_20,l_21⟩ (_:Unit)=>[⟨b20_4,True,(Xa4 (Row (l_12:List Zo) (Xaa blocks0)) ((0+Xaa x_11*Dat.sz Zo)+0) (Sl b30_14 True 0 l_21.length (Xaa pages0)))⟩,⟨b30_14,True,(Row (l_21:List (List UInt8)) (Xaa pages0))⟩,⟨b6_0,True,(One ((Dat.z:Chip):Chip))⟩,⟨b8_5,True,(Xa4 (One cx_7) 2 (Sl b20_4 True 0 l_12.length (Xaa blocks0)))⟩]) () (Za (Za (Za (Za (Za (Za (Za (Za (Za (Ze _)))))))))) (Zd rfl (Zd rfl (Zd rfl (Zd rfl (Zf _))))) ?_;rintro⟨x_20,l_21⟩ ⟨⟩ x_22 H22 he22;dsimp only at H22;unfold Jj at H22;refine zg ?_;refine zc H22 (λhc H22=>?_) λhc H22=>?_
     .refine zC ?_;refine zX (Bd [8,10] [b30_14] mix (by kernel_rfl) (by kernel_rfl)) ?_;refine zX (Fd (ZW Af) rfl) ?_;refine zn H22 λ_ ex_23 H22=>?_
      refine zX (Fd (Zt (ZP ex_23.h rfl)) rfl) ?_;refine zX (Fd (ZW Af) rfl) ?_;refine zn H22 λ_ eu_24 H22=>?_
      refine GT (λg=>XgN (A6 eu_24.h).1 (XaJ _) (Ea eu_24.h).2.1 (Ea eu_24.h).2.2) rfl ?_;refine zn H22 λ_ ex_26 H22=>?_
      refine TRx (Zt (ZP ex_26.h rfl))<|DP (λg=>(AS (Mw ex_26.h (off:=0) (by omega) (by decide)))) rfl ?_;refine zC ?_;rintro⟨⟨_,⟨b45_24,_⟩⟩,_⟩;dsimp only[XaV,XaW,XaS,Xan,Xam];refine zn H22 λ_ el_27 H22=>?_
      refine ZF b45_24 (Ah el_27.h) ?_;refine zX (ZF b30_14 (Fw (EB el_27.h (by simp)))) ?_;refine zX (A4 (ZW Af) rfl) ?_;refine zn H22 λ_ ex_28 H22=>?_
      refine zX (A4 (Zt (ZP ex_28.h rfl)) rfl) ?_;refine zX (A4 (ZW Af) rfl) ?_;refine zn H22 λ_ ex_29 H22=>?_
      refine TSx (Zt (ZP ex_29.h rfl))<|TSx (ZW Af) ?_;refine zn H22 λx_30 ex_30 H22=>?_
      refine D4 (oc1 [b45_24] (TG ex_30.h) (slD rfl)) rfl λ_=>?_
      refine zw ?_;refine zo H22 λx_32 _ H22=>?_
      refine zE ?_;refine Xb3 b30_14 b45_24 (o:=(0+Xaa x_20*Dat.sz (List UInt8))) (((AP ex_26.h)).st (x_30:List UInt8)) (ZJ XaR (Mj ex_30.h).symm) ?_;exact Ai b20_4 (Fw (m:=l_21.length) (n:=(l_21.set (Xaa x_20) x_30).length) (by simp))<|Zv ⟨x_32,(l_21.set (Xaa x_20) x_30)⟩ () (ZZs H22) (Za (Za (Za (Za (Za (Za (Za (Za (Za (Ze _)))))))))) (Zd rfl (Zd rfl (Zd rfl (Zd rfl (Zf _)))))
     .refine zg ?_;exact Zl l_21 () (he22 _ (ZZs H22)).symm (Za (Za (Za (Za (Za (Za (Ze _))))))) (Zd rfl (Zd rfl (Zd rfl (Zd rfl (Zf _)))))
    rintro l_18 ⟨⟩ hp;replace hp:=hp.symm;subst hp;refine zg ?_;refine zo H13 λx_33 _ H13=>?_
    refine zE ?_;refine Xb3 b20_4 b30_14 (o:=((0+Xaa x_11*Dat.sz Zo)+0)) (((PF 0 Zo (List (List UInt8)) (AP ex_16.h))).st (l_18:List (List UInt8))) (ZJ XaR rfl) ?_;exact Ai b8_5 (Fw (m:=l_12.length) (n:=(l_12.set (Xaa x_11) (⟨l_18,x_16.Used,x_16.Worn,x_16.Bad⟩:Zo)).length) (by simp))<|Zv ⟨x_33,(l_12.set (Xaa x_11) (⟨l_18,x_16.Used,x_16.Worn,x_16.Bad⟩:Zo))⟩ () (ZZs H13) (Za (Za (Za (Za (Za (Za (Ze _))))))) (Zd rfl (Zd rfl (Zd rfl (Zf _))))
   .refine zg ?_;exact Zl l_12 () (he13 _ (ZZs H13)).symm (Za (Za (Ze _))) (Zd rfl (Zd rfl (Zd rfl (Zf _))))
  rintro l_9 ⟨⟩ hp;replace hp:=hp.symm;subst hp;refine zg ?_;refine TSx (D7 trivial rfl rfl)<|Bk (Aj trivial rfl CtSc.h) ?_;refine zC ?_;refine ZO<|Xb3 b6_0 b20_4 (o:=2) (((PF 2 Chip (List Zo) ZB)).st (l_9:List Zo)) (ZJ XaR rfl) ?_;exact zY H
def Ae(s0:(List Zo)):Option (List Zo):=
 (Dv 48 ((0+s0.length:Nat):Int)).bind λ_=>some s0
theorem CV{s0:(List Zo)}{r:(List Zo)} (H:Ae s0=some r):CO1 92 [] (D s0) (λg:Nat×Prop×Nat=>Sl g.1 g.2.1 0 (Xat r) g.2.2) λg=>[⟨g.1,g.2.1,Row (r:List Zo) g.2.2⟩]:=eO1 Tryz.func92 rfl Tryz.ntmps92 λA w hA hO=>by
 unfold Ae at H;refine zn H λ_ eu H=>?_
 obtain rfl:=ZZi H;refine zg ?_;refine TSx BO ?_;refine zC ?_;refine GA (λhc=>?_) (λhc=>?_)
 .obtain rfl:=hc rfl;refine zg ?_;exact ZG rfl ⟨0,False,0⟩ Dt (BD (Zf _))
 .refine zg ?_;refine XeE [] rfl rfl (by decide) rfl λb=>zg ?_
  refine Xdt (ys:=s0) inferInstance eu.h rfl rfl rfl λb1 p1 c1=>zg ?_
  exact ZG rfl ⟨b1,p1,c1⟩ (ZH (by simp)) (Zd rfl (Zf _))
def BT(p0:(List (List UInt8)))(x_1:Int)(x_2:Int):Option ((Int×Int)⊕Int):=
 bif (decide (x_1<(p0.length:Int)))then((idx p0 x_1).bind λx_3=>(AC x_2 (x_3.length:Int)).bind λx_4=>(AC x_1 1).bind λx_5=>some (.inl (x_5,x_4)))else(some (.inr x_2))
def Eh(p0:(List (List UInt8)))(x_1:Int):Option (Int⊕Unit):=
 bif (decide (x_1<(p0.length:Int)))then((idx p0 x_1).bind λx_3=>(AC x_1 1).bind λx_5=>some (.inl x_5))else(some (.inr ()))
def DJ(p0:(List (List UInt8))):Option (List (List UInt8)):=
 (ZN (λs=>BT p0 s.1 s.2) ((0:Int),(0:Int))).bind λx_1=>(Dv 1 x_1).bind λ_=>(Dv 24 (p0.length:Int)).bind λ_=>(ZN (λs=>Eh p0 s) (0:Int)).bind λ_=>some p0
theorem NH{p0:List (List UInt8)}{m:Int} (h:ZN (λs=>BT p0 s.1 s.2) ((0:Int),(0:Int))=some m):m=(p0.flatten.length:Int):=by
 refine MR (λs:Int×Int=>0<=s.1/\s.1<=(p0.length:Int)/\s.2=((p0.take s.1.toNat).flatten.length:Int)) (λm=>m=(p0.flatten.length:Int)) ?_ ?_ ⟨XaJ _,by simp,by simp⟩ h
 .rintro ⟨x,y⟩ ⟨x',y'⟩ ⟨h1,h2,h3⟩ hf;dsimp only at h1 h2 h3 hf⊢;unfold BT at hf;cases hc:decide (x<(p0.length:Int))with
  | false=>rw[hc]at hf;cases hf
  | true=>
    replace hf:=cT hf hc;obtain⟨q,eq,hf⟩:=bnd hf;obtain⟨m2,em,hf⟩:=bnd hf;obtain⟨y2,ey,hf⟩:=bnd hf;have hf:=ZZi hf;injection hf with hf;injection hf with e1 e2;subst e1;subst e2;have h4:=JZ eq;obtain⟨-,h5⟩:=A3 eq;obtain⟨h6,h7⟩:=Xav.1 h5;obtain⟨e3,-⟩:=CW ey;obtain⟨e4,-⟩:=CW em;have e5:y2.toNat=x.toNat+1:=by omega
    refine⟨by omega,by omega,?_⟩;rw[e5,Xbo h6,XcB,XaD,h7,<-e4,h3];simp
 .rintro ⟨x,y⟩ e ⟨h1,h2,h3⟩ hf;dsimp only at h1 h2 h3 hf⊢;unfold BT at hf;cases hc:decide (x<(p0.length:Int))with
  | true=>
    replace hf:=cT hf hc;obtain⟨q,eq,hf⟩:=bnd hf;obtain⟨m2,em,hf⟩:=bnd hf;obtain⟨y2,ey,hf⟩:=bnd hf;have hf:=ZZi hf;cases hf
  | false=>
    replace hf:=cF hf hc;have hf:=ZZi hf;injection hf with hf;subst hf;rw[h3,XaB (by have:=of_decide_eq_false hc;omega)]
theorem NG{p:List (List UInt8)}{i:Nat}{q:List UInt8} (hi:i<p.length) (hq:p[i]=q) :
    splice ((p.take i).flatten++Xac (p.flatten.length-(p.take i).flatten.length) (Dat.z:UInt8)) (p.take i).flatten.length q=(p.take (i+1)).flatten++Xac (p.flatten.length-(p.take (i+1)).flatten.length) (Dat.z:UInt8):=by
 have e1:(p.take (i+1)).flatten=(p.take i).flatten++q:=by
   rw[Xbo hi,XcB,hq];simp
 unfold splice;rw[e1,Xfj,XaM,XaM,<-XdR,XdQ,Xc0,XaD];congr 3;omega
theorem J6{p:List (List UInt8)}{i:Nat}{q:List UInt8} (hi:i<p.length) (hq:p[i]=q):(p.take i).flatten.length+q.length<=p.flatten.length:=by
 have:=UW hi;rw[<-NZ,hq]at this;exact this
theorem Mk{p0 r:(List (List UInt8))}(H:DJ p0=some r):CO1 96 [] (D p0) (λg:Nat×Nat×Prop×Nat×Nat=>Sl g.1 g.2.2.1 0 (Xat r) g.2.2.2.1) λg=>[⟨g.1,g.2.2.1,LH g.2.1 g.2.2.1 1 (r.map Xat) (Xat r)⟩,⟨g.2.1,g.2.2.1,Row (r.flatten:List UInt8) g.2.2.2.2⟩]:=eO1 Tryz.func96 rfl Tryz.ntmps96 λA w hA hO=>by
 unfold DJ at H;refine zn H λmany hmany H=>?_
 refine zn H λ_ eu1 H=>?_
 refine zn H λ_ eu2 H=>?_
 refine zn H λ_ eu3 H=>?_
 obtain rfl:=ZZi H;have hlen:=NH hmany.h;refine zg ?_;refine TSx BO ?_;refine zC ?_;refine GA (λhc=>?_) (λhc=>?_)
 .obtain rfl:=hc rfl;refine zg ?_;exact ZG rfl ⟨0,0,False,0,0⟩ Dt ((Kn λh=>h).trans (Kn λh=>h))
 .refine zC ?_;refine zC ?_;refine Zs (λs:Int=>many=s) (λ(m:Int) (_:Unit)=>(TR (TR Xaj 0 (D p0)) 3 (D m))) (λ(m:Int) (_:Unit)=>[]) ?_ ?_
  .skip;refine Zr<|Zx hmany.h (λ⟨x,m⟩ (_:Unit)=>(TR (TR (TR (TR (TR Xaj 0 (D p0)) 3 (D m)) 13 (D p0)) 14 (D ((p0.length:Int):Int))) 15 (D x))) (λ⟨x,m⟩ (_:Unit)=>[]) () (Za (Za (Za (Za (Za (Ze _)))))) (Zf _) ?_;rintro⟨x,m⟩ ⟨⟩ y Hy hey;replace Hy:BT p0 x m=some y:=Hy;unfold BT at Hy;refine zg ?_;refine zc Hy (λhc Hy=>?_) λhc Hy=>?_
   .refine zg ?_;refine zb Hy λ_ _ Hy=>?_
    refine zb Hy λm2 _ Hy=>?_
    refine zb Hy λy2 _ Hy=>?_
    exact Zv ⟨y2,m2⟩ () (ZZs Hy) (Za (Za (Za (Za (Za (Ze _)))))) (Zf _)
   .refine zg ?_;exact Zl m () (hey _ (ZZs Hy)).symm (Za (Za (Ze _))) (Zf _)
  rintro m ⟨⟩ hp;replace hp:=hp.symm;subst hp;refine zg ?_;refine FJ eu1.h ⟨XaJ _,(A6 eu1.h).1⟩ rfl λbr=>zg ?_
  refine FJ eu2.h ⟨(A6 eu2.h).1,XaJ _⟩ rfl λbo=>?_
  refine zC ?_;refine Zgr bo (C':=LH br True 1 [] p0.length) (λA w cs _ h=>LH.nil (by simp) A w cs h) ?_;have hmt:Xaa m=p0.flatten.length:=by rw[hlen];rfl
  rw[hmt];refine zC ?_;refine Zs (λs:Unit=>True) (λ(_:Unit) (_:Unit)=>(TR Xaj 7 (Sl bo True 0 p0.length p0.length))) (λ(_:Unit) (_:Unit)=>[⟨br,True,Row (p0.flatten:List UInt8) p0.flatten.length⟩,⟨bo,True,LH br True 1 (p0.map Xat) p0.length⟩]) ?_ ?_
  .skip;refine Zr ?_;refine Zx eu3.h (λ(x:Int) (_:Unit)=>(TR (TR (TR (TR (TR Xaj 6 (Sl br True 0 (p0.take x.toNat).flatten.length p0.flatten.length)) 7 (Sl bo True 0 p0.length p0.length)) 29 (D p0)) 30 (D ((p0.length:Int):Int))) 31 (D x)))
     (λ(x:Int) (_:Unit)=>[⟨br,True,Row ((p0.take x.toNat).flatten++Xac (p0.flatten.length-(p0.take x.toNat).flatten.length) (Dat.z:UInt8)) p0.flatten.length⟩,⟨bo,True,LH br True 1 ((p0.take x.toNat).map Xat) p0.length⟩]) () (Za (Za (Za (Zm (ZH rfl) (Zm (ZH rfl) (Ze _)))))) (Zd rfl (Zd rfl (Zf _))) ?_
   rintro x ⟨⟩ y Hy hey;replace Hy:Eh p0 x=some y:=Hy;unfold Eh at Hy;refine zg ?_;refine zc Hy (λhc Hy=>?_) λhc Hy=>?_
   .refine zn Hy λq eq Hy=>?_
    refine zn Hy λy2 ey Hy=>?_
    have h4:=JZ eq.h;obtain⟨-,h5⟩:=A3 eq.h;obtain⟨h6,h7⟩:=Xav.1 h5;obtain⟨e3,-⟩:=CW ey.h;have e5:y2.toNat=x.toNat+1:=by omega
    have hfit:=J6 h6 h7;have hll:((p0.take x.toNat).map Xat).length=x.toNat:=by simp;omega
    refine zg ?_;refine zX (A4 (Pa eq.h) rfl) ?_;refine zX (A4 (AK (n:=(p0.take x.toNat).flatten.length) rfl) rfl) ?_;refine zX (ZfX (SP (ys:=q) inferInstance trivial rfl (by rw[XaD,XaK];omega)) rfl) ?_;refine zX (A4 (AK (n:=(p0.take x.toNat).flatten.length+q.length) rfl) rfl) ?_;refine TSx (AK (n:=(p0.take x.toNat).flatten.length+q.length) rfl)<|TSx (SD (by omega) (by omega) (by omega) (by omega))<|TSx (Zt h4)<|Bk (AS (LH.put (by rw[hll];show 0+x.toNat*1=_;omega) (by rw[hll];omega) (by rw[<-OF,hll,PP];show 0+_*1=_;rw[<-List.map_take,Xdl,Nat.min_self,<-List.length_flatten];simp))) ?_;refine zE ?_;refine Ai br (C':=Row ((p0.take y2.toNat).flatten++Xac (p0.flatten.length-(p0.take y2.toNat).flatten.length) (Dat.z:UInt8)) p0.flatten.length) (by rw[NG h6 h7,e5]) ?_;refine Ai bo (C':=LH br True 1 ((p0.take y2.toNat).map Xat) p0.length) (by
      rw[e5,Xbo h6,List.map_append,h7];congr 2;simp;omega) ?_
    refine zX (C9 6 (Sl br True 0 (p0.take y2.toNat).flatten.length p0.flatten.length) (ZH (by rw[e5,Xbo h6,XcB,h7];simp))) ?_;refine zX (A4 (HB ey.h) rfl) ?_;exact Zv y2 () (ZZs Hy) (Za (Za (Za (Zm (ZH rfl) (Zm (ZH rfl) (Ze _)))))) (Zd rfl (Zd rfl (Zf _)))
   .have hge:p0.take x.toNat=p0:=XaB (by have:=of_decide_eq_false hc;omega);rw[hge];refine zg ?_;exact Zl () () trivial (Zm (ZH rfl) (Ze _)) (Zd (by rw[Nat.sub_self];simp) (Zd rfl (Zf _)))
  rintro⟨⟩ ⟨⟩ hp;refine zg ?_;exact ZG rfl ⟨bo,br,True,p0.length,p0.flatten.length⟩ (ZH rfl) (Zd rfl (Zd rfl (Zf _)))
instance Zbs:Fd1 96 DJ λr=>D r:=⟨λw v0 hA h0 H=>(on1 (Mk H) w v0 hA h0).mono λe w' h=>M7.pub hA (λg A w v hb h=>W2 (hb _ (Xay ..)) (hb _ (Xaw _ (Xay ..))) h) h⟩
def ZQ(s0:(List Au)):Option (List Au):=
 (Dv 16 ((0+s0.length:Nat):Int)).bind λ_=>some s0
theorem Iv{s0:(List Au)}{r:(List Au)} (H:ZQ s0=some r):CO1 50 [] (D s0) (λg:Nat×Prop×Nat=>Sl g.1 g.2.1 0 (Xat r) g.2.2) λg=>[⟨g.1,g.2.1,Row (r:List Au) g.2.2⟩]:=eO1 Tryz.func50 rfl Tryz.ntmps50 λA w hA hO=>by
 unfold ZQ at H;refine zn H λ_ eu H=>?_
 obtain rfl:=ZZi H;refine zg ?_;refine TSx BO ?_;refine zC ?_;refine GA (λhc=>?_) (λhc=>?_)
 .obtain rfl:=hc rfl;refine zg ?_;exact ZG rfl ⟨0,False,0⟩ Dt (BD (Zf _))
 .refine zg ?_;refine XeE [] rfl rfl (by decide) rfl λb=>zg ?_
  refine Xdt (ys:=s0) inferInstance eu.h rfl rfl rfl λb1 p1 c1=>zg ?_
  exact ZG rfl ⟨b1,p1,c1⟩ (ZH (by simp)) (Zd rfl (Zf _))
instance PI:Fd1 50 ZQ λr=>D r:=⟨λw v0 hA h0 H=>(on1 (Iv H) w v0 hA h0).mono λe w' h=>IQ hA h⟩
def A8(x_3:(List Zo))(x_7:Int)(l_8:(List Zo)):Option ((Int×(List Zo))⊕(List Zo)):=
 bif (decide (x_7<(x_3.length:Int)))then((idx l_8 x_7).bind λx_10=>(DJ x_10.Pages).bind λx_11=>(idx l_8 x_7).bind λx_12=>(some ((l_8.set (Xaa x_7) (⟨x_11,x_12.Used,x_12.Worn,x_12.Bad⟩:Zo)):(List Zo))).bind λl_13=>(AC x_7 1).bind λx_14=>some (.inl (x_14,l_13)))else(some (.inr l_8))
def By(c0:Chip):Option Chip:=
 (Ae c0.Blocks).bind λx_3=>(ZN (λs=>A8 x_3 s.1 s.2) ((0:Int),x_3)).bind λl_5=>(ZQ c0.Faults).bind λx_15=>(some ((⟨c0.Pages,c0.Size,c0.Blocks,c0.Ops,c0.Off,x_15⟩:Chip):Chip)).bind λcx_16=>some (⟨cx_16.Pages,cx_16.Size,l_5,cx_16.Ops,cx_16.Off,cx_16.Faults⟩:Chip)
theorem HS{c0:Chip}{r:Chip} (H:By c0=some r):CO1 48 [] (D c0) (λg:Nat×Prop×Nat=>VC (Xa4 (One ((⟨r.Pages,r.Size,[],r.Ops,r.Off,r.Faults⟩:Chip):Chip)) 2 (Sl g.1 g.2.1 0 (Xat r.Blocks) g.2.2))) λg=>[⟨g.1,g.2.1,Row (r.Blocks:List Zo) g.2.2⟩]:=eO1 Tryz.func48 rfl Tryz.ntmps48 λA w hA hO=>by
 unfold By at H;refine zg ?_;refine Xa9 rfl λb1_0=>?_
 refine Xaq rfl λb2_1=>zg ?_
 refine zn H λx_3 ex_3 H=>?_
 refine D4 (oc1 [] (CV ex_3.h) toD) rfl λ⟨b6_3,p6_3,c6_3⟩=>?_
 refine zw ?_;refine zX (Bk (AS (Xf5 (by decide)))) ?_;refine TSx (ZW Af)<|TSx (AK (n:=x_3.length) rfl) ?_;refine zC ?_;refine zh H λo_6 H6 H=>?_
 refine Zs (λs:(List Zo)=>o_6=s) (λ(l_5:(List Zo)) (_:Unit)=>(TR (TR Xaj 1 (Pt b1_0 0)) 2 (Pt b2_1 0))) (λ(l_5:(List Zo)) (_:Unit)=>[⟨b6_3,p6_3,(Row (l_5:List Zo) c6_3)⟩,⟨b1_0,True,(Xa4 (One c0) 2 (Sl b6_3 p6_3 0 l_5.length c6_3))⟩,⟨b2_1,True,(One ((Dat.z:Chip):Chip))⟩]) ?_ ?_
 .skip;refine Zr<|Zx H6 (λ⟨x_7,l_8⟩ (_:Unit)=>(TR (TR (TR (TR Xaj 1 (Pt b1_0 0)) 2 (Pt b2_1 0)) 10 (D ((x_3.length:Int):Int))) 11 (D x_7))) (λ⟨x_7,l_8⟩ (_:Unit)=>[⟨b6_3,p6_3,(Row (l_8:List Zo) c6_3)⟩,⟨b1_0,True,(Xa4 (One c0) 2 (Sl b6_3 p6_3 0 l_8.length c6_3))⟩,⟨b2_1,True,(One ((Dat.z:Chip):Chip))⟩]) () (Za (Za (Za (Za (Ze _))))) (Zd rfl (Zd rfl (Zd rfl (Zf _)))) ?_;rintro⟨x_7,l_8⟩ ⟨⟩ x_9 H9 he9;dsimp only at H9;unfold A8 at H9;refine zg ?_;refine zc H9 (λhc H9=>?_) λhc H9=>?_
  .refine zC ?_;refine zX (Gf [8,9,12] [b6_3] mix (by kernel_rfl) (by kernel_rfl)) ?_;refine zX (Fd (ZW Af) rfl) ?_;refine zX (Fd (ZW Af) rfl) ?_;refine zn H9 λ_ ex_10 H9=>?_
   refine zX (Fd (Zt (ZP ex_10.h rfl)) rfl) ?_;refine GT (λg=>HA rfl (AL (PF 0 Zo (List (List UInt8)) (AP ex_10.h)))) rfl ?_;refine zn H9 λx_11 ex_11 H9=>?_
   refine GT (λg=>HA rfl (F8 λw v0 hA h0=>Zbs.h w v0 hA (toD h0) ex_11.h)) rfl ?_;refine zn H9 λ_ ex_12 H9=>?_
   refine zX (Fd (Zt (ZP ex_12.h rfl)) rfl) ?_;refine DP (λg=>(ZD (y:=(x_11:(List (List UInt8)))) (PF 0 Zo (List (List UInt8)) (AP ex_12.h)))) rfl ?_;refine zC ?_;rintro⟨⟨⟨_,_⟩,_⟩,_⟩;dsimp only[XaV,XaW,XaS,Xan,Xam];refine zn H9 λl_13 el_13 H9=>?_
   refine Ai b6_3 (Ah el_13.h) ?_;refine zX (Ai b1_0 (Fw (EB el_13.h (by simp)))) ?_;refine zb H9 λx_14 _ H9=>?_
   exact Zv ⟨x_14,l_13⟩ () (ZZs H9) (Za (Za (Za (Za (Ze _))))) (Zd rfl (Zd rfl (Zd rfl (Zf _))))
  .refine zg ?_;exact Zl l_8 () (he9 _ (ZZs H9)).symm (Za (Za (Ze _))) (Zd rfl (Zd rfl (Zd rfl (Zf _))))
 rintro l_5 ⟨⟩ hp;replace hp:=hp.symm;subst hp;refine zg ?_;refine TSx (AL (Xcw (PF 5 Chip (List Au) ZB) (by first|decide|omega))) ?_;refine zb H λx_15 _ H=>?_
 refine Bk (ZD (y:=(x_15:(List Au))) (Xcw (PF 5 Chip (List Au) ZB) (by first|decide|omega))) ?_;refine zC ?_;refine zn H λcx_16 ecx_16 H=>?_
 refine zX (ZF b1_0 (DC (Ag ecx_16.h))) ?_;refine TSx (D7 trivial rfl rfl) ?_;refine zX (Bk (Aj trivial rfl CtSc.h)) ?_;obtain rfl:=ZZi H;exact ZG rfl ⟨b6_3,p6_3,c6_3⟩ (Zfw (I8 (α:=Zo) (by have h:=((PF 2 Chip (List Zo) (ZB (α:=Chip) (i:=HZ) (x:=cx_16)))).st ([]:(List Zo));exact h) rfl)) (Zd rfl (Zf _))
instance ZcQ:Fd1 48 By λr=>D r:=⟨@λ_ _ r w v0 hA h0 H=>(on1 (HS H) w v0 hA h0).mono λe w' h=>M7.pub hA (by exact λg A w v hb h=>(λv h=>VC.pub (((PF 2 Chip (List Zo) ZB)).st (r.Blocks:(List Zo))) rfl (λu h=>ZJ (C:=Row r.Blocks g.2.2) XaR rfl A w u (λhp=>hb _ (List.mem_singleton.2 rfl) hp) h) h) v h) h⟩
theorem Ei{p r:List (List UInt8)}(H:DJ p=some r):r=p:=by
 unfold DJ at H;refine zn H λ_ _ H=>?_
 refine zn H λ_ _ H=>?_
 refine zn H λ_ _ H=>?_
 refine zn H λ_ _ H=>?_
 exact(ZZs H)
theorem J7{l:List Zo}{x x':Int}{l' x3:List Zo} (h:A8 x3 x l=some (.inl (x',l'))):l'=l:=by
 unfold A8 at h;cases hc:decide (x<(x3.length:Int))with
 | false=>replace h:=cF h hc;cases ZZi h
 | true=>
   replace h:=cT h hc;obtain⟨y,ey,h⟩:=bnd h;obtain⟨p,ep,h⟩:=bnd h;obtain⟨z,ez,h⟩:=bnd h;obtain⟨l2,el,h⟩:=bnd h;obtain⟨_,_,h⟩:=bnd h;have h:=ZZi h;injection h with h;injection h with h1 h2;subst h2;rw[ey]at ez;obtain rfl:=ZZi ez;obtain rfl:=Ei ep;obtain⟨-,h5⟩:=A3 ey;obtain⟨h6,h7⟩:=Xav.1 h5;rw[<-ZZi el,<-h7,Xcc]
theorem Lb{l:List Zo}{x:Int}{l' x3:List Zo} (h:A8 x3 x l=some (.inr l')):l'=l:=by
 unfold A8 at h;cases hc:decide (x<(x3.length:Int))with
 | true=>
   replace h:=cT h hc;obtain⟨y,ey,h⟩:=bnd h;obtain⟨p,ep,h⟩:=bnd h;obtain⟨z,ez,h⟩:=bnd h;obtain⟨l2,el,h⟩:=bnd h;obtain⟨_,_,h⟩:=bnd h;cases ZZi h
 | false=>replace h:=cF h hc;injection ZZi h with h;exact h.symm
theorem J8{x3 l:List Zo}(h:ZN (λs=>A8 x3 s.1 s.2) ((0:Int),x3)=some l):l=x3:=
 MR (λs:Int×List Zo=>s.2=x3) (λl=>l=x3) (λ⟨_,_⟩ ⟨_,_⟩ h1 hf=>(J7 hf).trans h1) (λ⟨_,_⟩ _ h1 hf=>(Lb hf).trans h1) rfl h
theorem La{s r:List Zo}(h:Ae s=some r):r=s:=by
 unfold Ae at h;obtain⟨_,_,h⟩:=bnd h;exact(ZZs h)
theorem Pp{s r:List Au}(h:ZQ s=some r):r=s:=by
 unfold ZQ at h;obtain⟨_,_,h⟩:=bnd h;exact(ZZs h)
theorem Jh{c r:Chip}(H:By c=some r):r=c:=by
 unfold By at H;refine zn H λ_ e1 H=>?_
 refine zn H λ_ e2 H=>?_
 refine zn H λ_ e3 H=>?_
 refine zn H λ_ e4 H=>?_
 obtain rfl:=La e1.h;obtain rfl:=J8 e2.h;obtain rfl:=Pp e3.h;have h:=ZZi H;have h4:=ZZi e4.h;subst h4;exact h.symm
def Zfo(b6_3:Nat)(p6_3:Prop)(c6_3 b1_0 b2_1:Nat)(c0:Chip)(P:List (List UInt8))(β x:Int)(l:List Zo)(m:Nat×Nat×Prop×Nat×Nat):List Pe:=
 if x<=β then[⟨b6_3,p6_3,(Row (l:List Zo) c6_3)⟩,⟨b1_0,True,(Xa4 (One c0) 2 (Sl b6_3 p6_3 0 l.length c6_3))⟩,⟨b2_1,True,(One (Dat.z:Chip))⟩]
 else[⟨b6_3,p6_3,(Xa4 (Row (l:List Zo) c6_3) ((0+Xaa β*Dat.sz Zo)+0) (Sl m.1 m.2.2.1 0 P.length m.2.2.2.1))⟩,⟨b1_0,True,(Xa4 (One c0) 2 (Sl b6_3 p6_3 0 l.length c6_3))⟩,⟨b2_1,True,(One (Dat.z:Chip))⟩,
  ⟨m.1,m.2.2.1,LH m.2.1 m.2.2.1 1 (P.map Xat) P.length⟩,⟨m.2.1,m.2.2.1,Row (P.flatten:List UInt8) m.2.2.2.2⟩]
theorem QZ{b6_3:Nat}{p6_3:Prop}{c6_3 b1_0 b2_1:Nat}{c0:Chip}{P:List (List UInt8)}{β x:Int}{l:List Zo}{m:Nat×Nat×Prop×Nat×Nat} (h:x<=β):Zfo b6_3 p6_3 c6_3 b1_0 b2_1 c0 P β x l m =
  [⟨b6_3,p6_3,(Row (l:List Zo) c6_3)⟩,⟨b1_0,True,(Xa4 (One c0) 2 (Sl b6_3 p6_3 0 l.length c6_3))⟩,⟨b2_1,True,(One (Dat.z:Chip))⟩]:=if_pos h
theorem TD{b6_3:Nat}{p6_3:Prop}{c6_3 b1_0 b2_1:Nat}{c0:Chip}{P:List (List UInt8)}{β x:Int}{l:List Zo}{bo br:Nat}{po:Prop}{co cr:Nat} (h:β<x):Zfo b6_3 p6_3 c6_3 b1_0 b2_1 c0 P β x l ⟨bo,br,po,co,cr⟩ =
  [⟨b6_3,p6_3,(Xa4 (Row (l:List Zo) c6_3) ((0+Xaa β*Dat.sz Zo)+0) (Sl bo po 0 P.length co))⟩,⟨b1_0,True,(Xa4 (One c0) 2 (Sl b6_3 p6_3 0 l.length c6_3))⟩,⟨b2_1,True,(One (Dat.z:Chip))⟩,
   ⟨bo,po,LH br po 1 (P.map Xat) P.length⟩,⟨br,po,Row (P.flatten:List UInt8) cr⟩]:=if_neg (by omega)
theorem Np{A:Nat->Prop}{c0 r:Chip}{β:Int}{y:Zo} (w:World) (v0:Value) (hA:∀k,w.heap.size<=k->A k) (hO:OwnIn A []) (hap:Gh []) (hks:Pks (Pub A []) [] w) (h0:(D c0).p (Pub A []) w v0) (H:By c0=some r) (hβ:idx r.Blocks β=some y) :
    Calls Tryz.prog 48 #[v0] w (M7 A w [] (λg:Nat×Prop×Nat×Nat×Nat×Prop×Nat×Nat=>VC (Xa4 (One ((⟨r.Pages,r.Size,[],r.Ops,r.Off,r.Faults⟩:Chip):Chip)) 2 (Sl g.1 g.2.1 0 (Xat r.Blocks) g.2.2.1)))
      λg=>[⟨g.1,g.2.1,Xa4 (Row (r.Blocks:List Zo) g.2.2.1) ((0+Xaa β*Dat.sz Zo)+0) (Sl g.2.2.2.1 g.2.2.2.2.2.1 0 y.Pages.length g.2.2.2.2.2.2.1)⟩,⟨g.2.2.2.1,g.2.2.2.2.2.1,LH g.2.2.2.2.1 g.2.2.2.2.2.1 1 (y.Pages.map Xat) y.Pages.length⟩,⟨g.2.2.2.2.1,g.2.2.2.2.2.1,Row (y.Pages.flatten:List UInt8) g.2.2.2.2.2.2.2⟩]):=by
 have hr:=Jh H;unfold By at H;refine zX (QW hA hap hks Tryz.func48 rfl Tryz.ntmps48 rfl h0) ?_;refine Xa9 rfl λb1_0=>?_
 refine Xaq rfl λb2_1=>zg ?_
 refine zn H λx_3 ex_3 H=>?_
 have hx3:=La ex_3.h;refine D4 (oc1 [] (CV ex_3.h) toD) rfl λ⟨b6_3,p6_3,c6_3⟩=>?_
 refine zw ?_;refine zX (Bk (AS (Xf5 (by decide)))) ?_;refine TSx (ZW Af)<|TSx (AK (n:=x_3.length) rfl) ?_;refine zC ?_;refine zh H λo_6 H6 H=>?_
 have ho6:=J8 H6;have hβ':idx x_3 β=some y:=by rw[hx3,<-hr];exact hβ
 have hβ2:=JZ hβ';refine Zs (λs:(List Zo)=>o_6=s) (λ(l_5:(List Zo)) (_:Nat×Nat×Prop×Nat×Nat)=>(TR (TR Xaj 1 (Pt b1_0 0)) 2 (Pt b2_1 0))) (λ(l_5:(List Zo)) (m:Nat×Nat×Prop×Nat×Nat)=>[⟨b6_3,p6_3,(Xa4 (Row (l_5:List Zo) c6_3) ((0+Xaa β*Dat.sz Zo)+0) (Sl m.1 m.2.2.1 0 y.Pages.length m.2.2.2.1))⟩,⟨b1_0,True,(Xa4 (One c0) 2 (Sl b6_3 p6_3 0 l_5.length c6_3))⟩,⟨b2_1,True,(One (Dat.z:Chip))⟩,
   ⟨m.1,m.2.2.1,LH m.2.1 m.2.2.1 1 (y.Pages.map Xat) y.Pages.length⟩,⟨m.2.1,m.2.2.1,Row (y.Pages.flatten:List UInt8) m.2.2.2.2⟩]) ?_ ?_
 .skip;refine Zr ?_;refine St H6 (λs:Int×List Zo=>s.2=x_3) rfl (λ⟨_,_⟩ ⟨_,_⟩ h1 hf=>(J7 hf).trans h1) (λ⟨x_7,l_8⟩ (_:Nat×Nat×Prop×Nat×Nat)=>(TR (TR (TR (TR Xaj 1 (Pt b1_0 0)) 2 (Pt b2_1 0)) 10 (D ((x_3.length:Int):Int))) 11 (D x_7))) (λ⟨x_7,l_8⟩ m=>Zfo b6_3 p6_3 c6_3 b1_0 b2_1 c0 y.Pages β x_7 l_8 m) ⟨0,0,True,0,0⟩ (Za (Za (Za (Za (Ze _))))) (by
    show Fb _ (Zfo b6_3 p6_3 c6_3 b1_0 b2_1 c0 y.Pages β 0 x_3 _);rw[QZ (by omega)];exact(Zd rfl (Zd rfl (Zd rfl (Zf _))))) ?_
  rintro⟨x_7,l_8⟩ m x_9 hl8 H9 he9;replace H9:A8 x_3 x_7 l_8=some x_9:=H9;obtain rfl:l_8=x_3:=hl8;have hend:=@Lb l_8 x_7;unfold A8 at H9;show TC _ _ _ _ (Zfo b6_3 p6_3 c6_3 b1_0 b2_1 c0 y.Pages β x_7 l_8 m) _ _;rcases Int.lt_trichotomy x_7 β with hx|hx|hx
  .rw [QZ (by omega)];refine zg ?_;refine Hu (λhc=>?_) (λhc=>?_)
   .replace H9:=cT H9 hc;refine zn H9 λx_10 ex_10 H9=>?_
    refine zn H9 λx_11 ex_11 H9=>?_
    refine zn H9 λx_12 ex_12 H9=>?_
    replace ex_12:=ex_12.h;refine zn H9 λl_13 el_13 H9=>?_
    refine zn H9 λx_14 ex_14 H9=>?_
    have e14:=(CW ex_14.h).1;have hset:(l_8.set (Xaa x_7) (⟨x_11,x_12.Used,x_12.Worn,x_12.Bad⟩:Zo))=l_8:=by
      have h12:x_12=x_10:=by rw[ex_10.h]at ex_12;exact(ZZs ex_12)
      obtain⟨-,h5⟩:=A3 ex_10.h;obtain⟨h6,h7⟩:=Xav.1 h5;rw[Ei ex_11.h,h12];show l_8.set (Xaa x_7) x_10=l_8;rw[<-h7,Xcc]
    rw[show l_13=l_8 from(ZZi el_13.h).symm.trans hset]at H9;refine zC ?_;refine zX (Gf [8,9,12] [b6_3] mix (by kernel_rfl) (by kernel_rfl)) ?_;refine zX (Fd (ZW Af) rfl) ?_;refine zX (Fd (ZW Af) rfl) ?_;refine zX (Fd (Zt (ZP ex_10.h rfl)) rfl) ?_;refine GT (λg=>HA rfl (AL (PF 0 Zo (List (List UInt8)) (AP ex_10.h)))) rfl<|GT (λg=>HA rfl (F8 λw v0 hA h0=>Zbs.h w v0 hA (toD h0) ex_11.h)) rfl ?_;refine zX (Fd (Zt (ZP ex_12 rfl)) rfl) ?_;refine DP (λg=>(ZD (y:=(x_11:(List (List UInt8)))) (PF 0 Zo (List (List UInt8)) (AP ex_12)))) rfl ?_;refine zC ?_;rintro⟨⟨⟨_,_⟩,_⟩,_⟩;dsimp only[XaV,XaW,XaS,Xan,Xam];refine zX (Ai b6_3 (by rw[hset])) ?_;refine zX (A4 (HB ex_14.h) rfl) ?_;exact Zv ⟨x_14,l_8⟩ m (ZZs H9) (Za (Za (Za (Za (Ze _))))) (by rw[QZ (by omega)];exact(Zd rfl (Zd rfl (Zd rfl (Zf _)))))
   .have:=of_decide_eq_false hc;omega
  .subst hx;rw[QZ (by omega)];refine zg ?_;refine Hu (λhc=>?_) (λhc=>?_)
   .replace H9:=cT H9 hc;refine zn H9 λx_10 ex_10 H9=>?_
    replace ex_10:=ex_10.h;refine zn H9 λx_11 ex_11 H9=>?_
    refine zn H9 λx_12 ex_12 H9=>?_
    replace ex_12:=ex_12.h;refine zn H9 λl_13 el_13 H9=>?_
    refine zn H9 λx_14 ex_14 H9=>?_
    have e14:=(CW ex_14.h).1;have hset:(l_8.set (Xaa x_7) (⟨x_11,x_12.Used,x_12.Worn,x_12.Bad⟩:Zo))=l_8:=by
      have h12:x_12=x_10:=by rw[ex_10]at ex_12;exact(ZZs ex_12)
      obtain⟨-,h5⟩:=A3 ex_10;obtain⟨h6,h7⟩:=Xav.1 h5;rw[Ei ex_11.h,h12];show l_8.set (Xaa x_7) x_10=l_8;rw[<-h7,Xcc]
    rw[show l_13=l_8 from(ZZi el_13.h).symm.trans hset]at H9;have K9:=H9;rw[hβ']at ex_10;obtain rfl:=ZZi ex_10;replace ex_10:=hβ';obtain rfl:=Ei ex_11.h;refine zC ?_;refine zX (Gf [8,9,12] [b6_3] mix (by kernel_rfl) (by kernel_rfl)) ?_;refine zX (Fd (ZW Af) rfl) ?_;refine zX (Fd (ZW Af) rfl) ?_;refine zX (Fd (Zt (ZP ex_10 rfl)) rfl) ?_;refine GT (λg=>HA rfl (AL (PF 0 Zo (List (List UInt8)) (AP ex_10)))) rfl<|GT (λg=>oc1 [] (Mk ex_11.h) toD) rfl ?_;refine zX (Fd (Zt (ZP ex_12 rfl)) rfl) ?_;refine DP (λg=>(AS (Mw ex_12 (off:=0) (by omega) (by decide)))) rfl ?_;refine zC ?_;rintro⟨⟨⟨_,_⟩,⟨bo,br,po,co,cr⟩⟩,_⟩;dsimp only[XaV,XaW,XaS,Xan,Xam];skip;refine zg ?_;refine zX (A4 (HB ex_14.h) rfl) ?_;exact Zv ⟨x_14,l_8⟩ ⟨bo,br,po,co,cr⟩ (ZZs K9) (Za (Za (Za (Za (Ze _))))) (by rw[TD (by omega)];exact(Zd rfl (Zd rfl (Zd rfl (Zd rfl (Zd rfl (Zf _)))))))
   .have:=of_decide_eq_false hc;omega
  .obtain ⟨bo,br,po,co,cr⟩:=m;rw[TD hx];refine zg ?_;refine zc H9 (λhc H9=>?_) λhc H9=>?_
   .refine zn H9 λx_10 ex_10 H9=>?_
    refine zn H9 λx_11 ex_11 H9=>?_
    refine zn H9 λx_12 ex_12 H9=>?_
    replace ex_12:=ex_12.h;refine zn H9 λl_13 el_13 H9=>?_
    refine zn H9 λx_14 ex_14 H9=>?_
    have e14:=(CW ex_14.h).1;have hset:(l_8.set (Xaa x_7) (⟨x_11,x_12.Used,x_12.Worn,x_12.Bad⟩:Zo))=l_8:=by
      have h12:x_12=x_10:=by rw[ex_10.h]at ex_12;exact(ZZs ex_12)
      obtain⟨-,h5⟩:=A3 ex_10.h;obtain⟨h6,h7⟩:=Xav.1 h5;rw[Ei ex_11.h,h12];show l_8.set (Xaa x_7) x_10=l_8;rw[<-h7,Xcc]
    rw[show l_13=l_8 from(ZZi el_13.h).symm.trans hset]at H9;have hxn:Xaa x_7≠Xaa β:=by have:=JZ ex_10.h;omega
    refine zC ?_;refine zX (Gf [8,9,12] [b6_3] mix (by kernel_rfl) (by kernel_rfl)) ?_;refine zX (Fd (ZW Af) rfl) ?_;refine zX (Fd (ZW Af) rfl) ?_;refine zX (Fd (Zt (ZP ex_10.h rfl)) rfl) ?_;refine GT (λg=>HA rfl (AL (Xcw (PF 0 Zo (List (List UInt8)) (AP ex_10.h)) (by simp only[show Dat.sz Zo=4 from rfl,show Dat.sz (List (List UInt8))=1 from rfl];omega)))) rfl<|GT (λg=>HA rfl (F8 λw v0 hA h0=>Zbs.h w v0 hA (toD h0) ex_11.h)) rfl ?_;refine zX (Fd (Zt (ZP ex_12 rfl)) rfl) ?_;refine DP (λg=>(ZD (y:=(x_11:(List (List UInt8)))) (Xcw (PF 0 Zo (List (List UInt8)) (AP ex_12)) (by simp only[show Dat.sz Zo=4 from rfl,show Dat.sz (List (List UInt8))=1 from rfl];omega)))) rfl ?_;refine zC ?_;rintro⟨⟨⟨_,_⟩,_⟩,_⟩;dsimp only[XaV,XaW,XaS,Xan,Xam];refine zX (Ai b6_3 (DC (by rw[hset]))) ?_;refine zX (A4 (HB ex_14.h) rfl) ?_;exact Zv ⟨x_14,l_8⟩ ⟨bo,br,po,co,cr⟩ (ZZs H9) (Za (Za (Za (Za (Ze _))))) (by rw[TD (by omega)];exact(Zd rfl (Zd rfl (Zd rfl (Zd rfl (Zd rfl (Zf _)))))))
   .refine zg ?_;exact Zl l_8 ⟨bo,br,po,co,cr⟩ (he9 _ (ZZs H9)).symm (Za (Za (Ze _))) (Zd rfl (Zd rfl (Zd rfl (Zd rfl (Zd rfl (Zf _))))))
 rintro l_5 ⟨bo,br,po,co,cr⟩ hp;replace hp:=hp.symm;subst hp;dsimp only;refine zg ?_;refine TSx (AL (Xcw (PF 5 Chip (List Au) ZB) (by first|decide|omega))) ?_;refine zb H λx_15 _ H=>?_
 refine Bk (ZD (y:=(x_15:(List Au))) (Xcw (PF 5 Chip (List Au) ZB) (by first|decide|omega))) ?_;refine zC ?_;refine zn H λc_16 ec_16 H=>?_
 refine zX (ZF b1_0 (DC (Ag ec_16.h))) ?_;refine TSx (D7 trivial rfl rfl) ?_;refine zX (Bk (Aj trivial rfl CtSc.h)) ?_;obtain rfl:=ZZi H;exact ZG rfl ⟨b6_3,p6_3,c6_3,bo,br,po,co,cr⟩ (Zfw (I8 (α:=Zo) (by have h:=((PF 2 Chip (List Zo) (ZB (α:=Chip) (i:=HZ) (x:=c_16)))).st ([]:(List Zo));exact h) rfl)) (Zd rfl (Zd rfl (Zd rfl (Zf _))))
def E0(c0:Chip)(x_6:Zo)(x_10:Int):Option (Int⊕(Unit⊕Bool)):=
 bif (decide (x_10<(x_6.Pages.length:Int)))then((idx x_6.Pages x_10).bind λx_12=>bif (decide ((x_12.length:Int)≠c0.Size))then(some (.inr (.inr false)))else((AC x_10 1).bind λx_15=>some (.inl x_15)))else(some (.inr (.inl ())))
def E1(c0:Chip)(x_4:Int):Option (Int⊕(Unit⊕Bool)):=
 bif (decide (x_4<(c0.Blocks.length:Int)))then((idx c0.Blocks x_4).bind λx_6=>bif (((((decide ((x_6.Pages.length:Int)≠c0.Pages))||(decide (x_6.Used<(0:Int))))||(decide (x_6.Used>c0.Pages)))||(decide (x_6.Worn<(0:Int))))||(decide (x_6.Worn>(1099511627776:Int))))then(some (.inr (.inr false)))else((ZN (λs=>E0 c0 x_6 s) (0:Int)).bind λo_9=>elS o_9 (λ_=>(AC x_4 1).bind λx_16=>some (.inl x_16)) (λq=>some (.inr (.inr q)))))else(some (.inr (.inl ())))
def FG(c0:Chip):Option Bool:=
 (GR (c0.Blocks.length:Int) c0.Pages c0.Size).bind λx_2=>bif ((((!x_2)||(decide (c0.Ops<(0:Int))))||(decide (c0.Ops>(1099511627776:Int))))||(decide ((c0.Faults.length:Int)>(64:Int))))then(some false)else((ZN (λs=>E1 c0 s) (0:Int)).bind λo_3=>elS o_3 (λ_=>some true) (λq=>some q))
instance ZcR:Fd1 49 FG λr=>D r:=en1 Tryz.func49 rfl Tryz.ntmps49 λA w hA c0 r H=>by
 unfold FG at H;refine zg ?_;refine Xa9 rfl λb1_0=>zg ?_
 refine zb H λ_ _ H=>?_
 refine zc H (λhc H=>?_) λhc H=>?_
 .exact zY H
 .refine zC ?_;refine zh H λo_3 H3 H=>?_
  refine Zs (λs:Unit=>o_3=.inl s) (λ(_:Unit) (_:Unit)=>Xaj) (λ(_:Unit) (_:Unit)=>[]) ?_ ?_
  .skip;refine Zr<|Zx H3 (λ(x_4:Int) (_:Unit)=>(TR (TR (TR (TR Xaj 1 (Pt b1_0 0)) 33 (D c0.Blocks)) 34 (D ((c0.Blocks.length:Int):Int))) 35 (D x_4))) (λ(x_4:Int) (_:Unit)=>[⟨b1_0,True,(One c0)⟩]) () (Za (Za (Za (Za (Ze _))))) (Zd rfl (Zf _)) ?_;rintro x_4 ⟨⟩ x_5 H5 he5;unfold E1 at H5;refine zg ?_;refine zc H5 (λhc H5=>?_) λhc H5=>?_
   .refine zg ?_;refine zb H5 λx_6 _ H5=>?_
    refine Xaq rfl λb4_6=>zg ?_
    refine zc H5 (λhc H5=>?_) λhc H5=>?_
    .refine zC ?_;refine ZO<|Zi<|Zh<|Zi<|Zi<|Zh<|Zw ?_;have R7:=AQ (he5 _ (ZZs H5)) H;refine zg ?_;obtain rfl:=ZZi R7;exact Bc rfl Cv.le
    .refine zC ?_;refine zh H5 λo_9 H9 H5=>?_
     refine Zs (λs:Unit=>o_9=.inl s) (λ(_:Unit) (_:Unit)=>(TR (TR (TR (TR Xaj 1 (Pt b1_0 0)) 33 (D c0.Blocks)) 34 (D ((c0.Blocks.length:Int):Int))) 35 (D x_4))) (λ(_:Unit) (_:Unit)=>[⟨b1_0,True,(One c0)⟩]) ?_ ?_
     .skip;refine Zr<|Zx H9 (λ(x_10:Int) (_:Unit)=>(TR (TR (TR (TR (TR (TR (TR Xaj 1 (Pt b1_0 0)) 33 (D c0.Blocks)) 34 (D ((c0.Blocks.length:Int):Int))) 35 (D x_4)) 68 (D x_6.Pages)) 69 (D ((x_6.Pages.length:Int):Int))) 70 (D x_10))) (λ(x_10:Int) (_:Unit)=>[⟨b1_0,True,(One c0)⟩]) () (Za (Za (Za (Za (Za (Za (Za (Ze _)))))))) (Zd rfl (Zf _)) ?_;rintro x_10 ⟨⟩ x_11 H11 he11;unfold E0 at H11;refine zg ?_;refine zc H11 (λhc H11=>?_) λhc H11=>?_
      .refine zg ?_;refine zb H11 λ_ _ H11=>?_
       refine zc H11 (λhc H11=>?_) λhc H11=>?_
       .refine zC ?_;refine ZO<|Zh<|Zi<|Zi<|Zh<|Zw ?_;have R12:=AQ (he11 _ (ZZs H11)) H5;refine Zh<|Zi<|Zi<|Zh<|Zw ?_;have R13:=AQ (he5 _ (ZZs R12)) H;refine zg ?_;obtain rfl:=ZZi R13;exact Bc rfl Cv.le
       .refine zg ?_;refine zb H11 λx_15 _ H11=>?_
        exact Zv x_15 () (ZZs H11) (Za (Za (Za (Za (Za (Za (Za (Ze _)))))))) (Zd rfl (Zf _))
      .refine zg ?_;exact Zl () () (he11 _ (ZZs H11)).symm (Za (Za (Za (Za (Ze _))))) (Zd rfl (Zf _))
     rintro⟨⟩ ⟨⟩ hp;replace H5:=Bs hp H5;refine zg ?_;refine zb H5 λx_16 _ H5=>?_
     exact Zv x_16 () (ZZs H5) (Za (Za (Za (Za (Ze _))))) (Zd rfl (Zf _))
   .refine zg ?_;exact Zl () () (he5 _ (ZZs H5)).symm (Ze _) (Zf _)
  rintro⟨⟩ ⟨⟩ hp;replace H:=Bs hp H;exact zY H
def OW(c0:Chip)(faults0:(List Au)):Option (Chip×Int):=
 (By c0).bind λx_3=>(FG c0).bind λx_5=>bif ((!x_5)||(decide ((faults0.length:Int)>(64:Int))))then(some (x_3,(1:Int)))else((some ((⟨x_3.Pages,x_3.Size,x_3.Blocks,x_3.Ops,false,x_3.Faults⟩:Chip):Chip)).bind λd_6=>(ZQ faults0).bind λx_7=>(some ((⟨d_6.Pages,d_6.Size,d_6.Blocks,d_6.Ops,d_6.Off,x_7⟩:Chip):Chip)).bind λd_8=>some (d_8,(0:Int)))
instance Zfp:Fd2 12 OW λr=>Tup [D r.1,D r.2]:=en2 Tryz.func12 rfl Tryz.ntmps12 λ_ _ _ _ _ _ H=>by
 unfold OW at H;exact zY H
def FSq(c0:Chip)(block0:Int):Option Bool:=
 (FG c0).bind λx_2=>some ((x_2&&(decide (block0>=(0:Int))))&&(decide (block0<(c0.Blocks.length:Int))))
instance ZeK:Fd2 162 FSq λr=>D r:=en2 Tryz.func162 rfl Tryz.ntmps162 λ_ _ _ _ _ _ H=>by
 unfold FSq at H;exact zY H
theorem Mi{c:Chip}{n:Int}{x:Bool} (H:FSq c n=some x) (h:idx c.Blocks n=none):x=false:=by
 unfold FSq at H;refine zn H λ_ _ H=>?_
 rw[<-ZZi H];unfold idx at h
 split at h
 .have h2:=List.getElem?_eq_none_iff.1 h;have h3:decide (n<(c.Blocks.length:Int))=false:=by simp;omega
  rw[h3,XdV]
 .have h3:decide (n>=(0:Int))=false:=by simp;omega
  rw[h3,XdV,Bool.false_and]
theorem P6{xs:List Zo}{k:Int}{y:Zo} (e:idx xs k=some y):xs.set k.toNat (⟨y.Pages,y.Used,y.Worn,y.Bad⟩:Zo)=xs:=by
 obtain⟨-,h5⟩:=A3 e;obtain⟨h6,h7⟩:=Xav.1 h5;show xs.set k.toNat y=xs;rw[<-h7,Xcc]
theorem GS{xs:List Zo}{c:Nat}{k:Int}{y:Zo} (e:idx xs k=some y):CtSet (Row xs c) ((0+Xaa k*Dat.sz Zo)+0) (List (List UInt8)) Bv y.Pages (Row xs c):=by
 have h:=((Pl.fld (off:=0) (α:=Zo) (i:=IT) (β:=(List (List UInt8))) (j:=Bv) (AP (i:=IT) (c:=c) e))).st y.Pages;rw[P6 e]at h;exact h
def J9(c0:Chip)(block0:Int):Option (Chip×Int):=
 (By c0).bind λx_3=>(some ((⟨x_3.Pages,x_3.Size,[],x_3.Ops,x_3.Off,x_3.Faults⟩:Chip):Chip)).bind λd_6=>(FSq c0 block0).bind λx_7=>bif (!x_7)then((some ((⟨d_6.Pages,d_6.Size,x_3.Blocks,d_6.Ops,d_6.Off,d_6.Faults⟩:Chip):Chip)).bind λk_8=>some (k_8,(1:Int)))else(bif c0.Off then((some ((⟨d_6.Pages,d_6.Size,x_3.Blocks,d_6.Ops,d_6.Off,d_6.Faults⟩:Chip):Chip)).bind λk_9=>some (k_9,(7:Int)))else((idx x_3.Blocks block0).bind λx_10=>(some ((x_3.Blocks.set (Xaa block0) (⟨x_10.Pages,x_10.Used,x_10.Worn,true⟩:Zo)):(List Zo))).bind λl_11=>(some ((⟨d_6.Pages,d_6.Size,l_11,d_6.Ops,d_6.Off,d_6.Faults⟩:Chip):Chip)).bind λk_12=>some (k_12,(0:Int))))
instance ZdY:Fd2 165 J9 λr=>Tup [D r.1,D r.2]:=en2 Tryz.func165 rfl Tryz.ntmps165 λA w hA c0 block0 r H=>by
 unfold J9 at H;refine zg ?_;refine Xa9 rfl λb2_0=>?_
 refine Xaq rfl λb4_1=>zg ?_
 refine zn H λx_3 ex_3 H=>?_
 refine D4 (oc1 [] (HS ex_3.h) toD) rfl λ⟨b8_3,p8_3,c8_3⟩=>?_
 dsimp only[Xan,Xam];refine Xaq rfl λb6_4=>?_
 refine Bk (Aj trivial rfl CtSc.h) ?_;refine zC ?_;refine zn H λ_ ed_6 H=>?_
 refine zX (ZF b6_4 (DC (Ag ed_6.h))) ?_;refine zb H λ_ _ H=>?_
 refine zc H (λhc H=>?_) λhc H=>?_
 .refine zg ?_;refine XfL b6_4 b8_3 (o:=2) (((PF 2 Chip (List Zo) ZB)).st (x_3.Blocks:List Zo)) (ZJ XaR rfl) ?_;exact zY H
 .refine zg ?_;refine zc H (λhc H=>?_) λhc H=>?_
  .refine zg ?_;refine XfL b6_4 b8_3 (o:=2) (((PF 2 Chip (List Zo) ZB)).st (x_3.Blocks:List Zo)) (ZJ XaR rfl) ?_;exact zY H
  .refine zg ?_;refine zX (A4 (ZW Af) rfl) ?_;refine zn H λ_ ex_10 H=>?_
   refine TSx (Zt (ZP ex_10.h rfl)) ?_;refine zC ?_;refine zn H λl_11 el_11 H=>?_
   refine ZF b8_3 (Ah el_11.h) ?_;refine zX (ZF b6_4 (Fw (EB el_11.h (by simp)))) ?_;refine XfL b6_4 b8_3 (o:=2) (((PF 2 Chip (List Zo) ZB)).st (l_11:List Zo)) (ZJ XaR rfl) ?_;exact zY H
end
end Go.Proofs.YtkmojgfenlgchaaGreatDoor.Tr
