/- What the proof leans on. Conditions: none. -/
import Derived.Test.YtkmojgfenlgchaaGreatDoorZTF1
set_option linter.all false
set_option linter.unusedSimpArgs false
set_option linter.unusedVariables false
set_option linter.unusedSectionVars false
namespace Go.Proofs.YtkmojgfenlgchaaGreatDoor.Tr
open Go
open BitVec renaming ofInt->Xbf,toNat_ofInt->XdD
open Bool renaming not_false->Xas,and_eq_true->Xaz,not_true->XaC,eq_iff_iff->Xbt,false_eq_true->Xbu,or_eq_true->Xcu
open Ct renaming mix->Xa4
open D renaming wf->XgL
open DQ renaming refl->Xch
open Env renaming set->TR,or->Xce,put->Xgo
open Eq renaming trans->Xc2
open Fam renaming one->XaS,next->XdL
open Fb renaming perm->Xcz,cons->Xff,refl->XfO
open Go.Addr renaming add->XeM
open Go.Builtin renaming zeroCells->XaT,firstCells->XbF,append_->Xco,lenOf->XcT
open Go.Call renaming operands->XaE
open Go.Code renaming wpIn->Xhc
open Go.Deferred renaming ofValue->XbG
open Go.Instr renaming sliceBounds->Xa2,sliceBound->Xa8,sliceAt->Xbk,sureAddr->Xbm,fill->XbW,slice->XbY,loadAt->Xea,makeFunc->Xef,storeAt->Xer,sameNow->Xfc,indexAt->Xfd,findNow->Xfe,mapUpdate->Xgn,makeMap->XgF,lookup->XgK,index->XgP
open Go.Lib renaming bytesOf->XfU,compareBytes->Xgw
open Go.Machine renaming fenced->Xga
open Go.MapKept renaming run_getObj_map->Xc8
open Go.Next renaming value->Xdc
open Go.Op renaming operands->Xae,equalIn->Xdb,intBits->Xdj,eqFields->XdX
open Go.Oper renaming semAt_eq->Xdx,looksAt->XeJ
open Go.Program renaming built->XeY
open Go.Region renaming wanted->Xa3,ready->Xbi,Mode->XbC,binds->XbJ,lexB->XbV,lexFrom->Xcv
open Go.Result renaming andThen_ok->Xab,ok->Xdi,andThen->XeS
open Go.Sem renaming run_bind->Xag,run_pure->Xai
open Go.StepsIn renaming trans->Xgh
open Go.Value renaming int->XbR,slice->XfB,cells->XfC,func->XgQ
open Go.World renaming putObj_heap_same->Xd5,alloc_heap_new->Xfz,size_alloc->Xf7
open HD renaming mono->Xd1,refl->Xg6
open Iff renaming rfl->XgY
open Int renaming toNat->Xaa,toNat_natCast->Xak,natCast_mul->XbQ,natCast_inj->XcL,pow_nonneg->Xds,tdiv_eq_ediv_of_nonneg->XdK,ediv_le_self->XeO,ediv_nonneg->Xe1,ediv_eq_zero_of_lt->XfI,toNat_zero->XgJ
open KP renaming refl->Xdg
open List renaming replicate->Xac,getD_eq_getElem?_getD->Xad,getElem?_eq_getElem->Xaf,mem_singleton->Xal,mem_append->Xar,length->Xat,getElem?_eq_some_iff->Xav,mem_cons_of_mem->Xaw,mem_cons_self->Xay,length_set->XaA,take_of_length_le->XaB,length_append->XaD,pairwise_append->XaH,length_replicate->XaK,mem_append_right->XaL,append_assoc->XaM,pairwise_cons->XaO,length_cons->XaP,getElem_of_mem->XaQ,append_nil->XaX,drop_eq_getElem_cons->Xa0,mem_cons->Xa1,drop_of_length_le->Xa7,range->Xbe,getElem?_set_self->Xbh,map_cons->Xbl,all_eq_true->Xbq,mem_append_left->Xbr,getElem_replicate->Xbs,getElem?_set_ne->XbZ,map_toArray->Xb0,set_getElem_self->Xcc,map_nil->Xcy,range'_succ->XcE,perm_append_comm->XcO,drop_zero->XcS,getElem_map->XcZ,length_singleton->Xdn,getElem_set_self->Xdo,getElem_set_ne->Xdy,length_nil->XdB,replicate_succ->XdJ,drop_left->XdQ,flatten_cons->XeF,take_left->Xfj,length_eq_one_iff->Xfv,any_eq_true->Xgm,range'->XgX
open Min renaming min->XfH
open Mut renaming refl->Xd7
open Nat renaming mul_le_mul_right->Xah,le_refl->Xau,succ_mul->XaF,le_trans->XaG,lt_of_lt_of_le->XaU,min_eq_left->XaY,blt->XaZ,add_mul->Xa6,lt_or_ge->Xbd,zero_add->Xbg,ble->Xbn,add_zero->Xbw,add_assoc->XbO,add_comm->Xb1,eq_of_beq_eq_true->Xb9,le_of_ble_eq_true->Xcb,one_pos->Xdd,mul_one->XdA,le_of_eq->XdE,beq->Xep
open Ne renaming symm->Xc3
open OpT renaming frame->Xgr,append->Xg9
open OpY renaming val->XbH
open Option renaming map_some->Xbj,map_none->XbI,isSome_iff_exists->Xe6,any_some->Xf8
open Ty renaming any->Xb7,enter->Xe5
open UInt16 renaming ofNat->Xcj
open UInt64 renaming ofNat->Xap,lt_iff_toNat_lt->Xci
open UInt8 renaming ofNat->XaN
set_option maxRecDepth 100000
section
open Go Go.RowKit
class OneC(τ:Ty):Prop where
 h:∀{A:Nat->Prop}{w:World}{v:Value},τ.p A w v->v.cells=#[v]/\v.oneCell'=true
instance {b:Nat}{pr:Prop}{o n c:Nat}:OneC (Sl b pr o n c):=⟨λh=>by rcases h with⟨_,_,rfl⟩|⟨_,_,_,rfl⟩<;>exact⟨rfl,rfl⟩⟩
instance {b:Nat}{pr:Prop}{o n:Nat}:OneC (Sv b pr o n):=⟨λh=>by rcases h with⟨_,_,_,rfl,_⟩|⟨_,_,rfl⟩<;>exact⟨rfl,rfl⟩⟩
structure CtH(C:Ct)(off:Nat)(τ:Ty)(C':Ct):Prop where
 h:∀{A w cs v},C.p A w cs->τ.p A w v->off<cs.length/\C'.p A w (cs.set off v)
class CtLen(C:Ct)(n:outParam Nat):Prop where
 h:∀{A w cs},C.p A w cs->cs.length=n
instance {α:Type}{i:Dat α}{x:α}:CtLen (One x) (Dat.sz α):=⟨λh=>Dat.len h⟩
instance {C:Ct}{o n:Nat}{τ:Ty}[k:CtLen C n]:CtLen (C.mix o τ) n:=⟨λ⟨cs0,v,h1,h2,h3,h4⟩=>by subst h4;rw[XaA];exact k.h h1⟩
theorem CtH.new{C:Ct}{off n:Nat}{τ:Ty}[k:CtLen C n] (h:off<n):CtH C off τ (C.mix off τ):=⟨λ{A w cs v} hc hv=>by
 have:=k.h hc;exact⟨by omega,cs,v,hc,by omega,hv,rfl⟩⟩
theorem CtH.same{C:Ct}{off:Nat}{σ τ:Ty}:CtH (C.mix off σ) off τ (C.mix off τ):=⟨λ{A w cs v} ⟨cs0,u,h1,h2,h3,h4⟩ hv=>by
 subst h4;exact⟨by simpa using h2,cs0,v,h1,h2,hv,by simp⟩⟩
structure CeH(C:Ct)(off:Nat)(τ:Ty):Prop where
 h:∀{A w cs},C.p A w cs->off<cs.length/\τ.p A w (cs.getD off undef)
theorem Af{C:Ct}{off:Nat}{τ:Ty}:CeH (C.mix off τ) off τ:=⟨λ{A w cs} ⟨cs0,u,h1,h2,h3,h4⟩=>by
 subst h4;refine⟨by simpa using h2,?_⟩;rw[Xad,Xbh h2];exact h3⟩
def VC(C:Ct):Ty:=⟨λA w v=>∃cs,C.p A w cs/\v=.agg cs.toArray,λk ⟨cs,h1,h2⟩=>⟨cs,C.keep k h1,h2⟩⟩
section ops
variable {P:Program}{B:Nat}{Ωs Ω Ωr:List Pe}{Γ:Env}{dst:Option Tmp}{ty:TypeId}{pos:String}{aft:Array Edge}
variable {α β:Type}{i:Dat α}{j:Dat β}{t u:TypeId}
theorem Lm{w:World}{b:Nat}{cs:List Value}{o k:Nat} (hb:Blk w b cs) (hl:o+k<=cs.length):(loadCells ⟨b,o,none⟩ k).run P w=.ok (seg cs o k).toArray w:=by
 have:=Gp (P:=P) (hb.row hl)
 rwa [ZA hl]at this
theorem Aj{b k:Nat}{pr:Prop}{C C':Ct}{p x:Operand}[hp:Has Γ p (Pt b 0)] [pk:Pick Ω b pr C Ωr] [hx:Has Γ x (VC C')] [T:TDat P t α i] [l:CtLen C k] [l':CtLen C' k] (hpr:pr) (hk:k=Dat.sz α) (hsc:∀{A w cs},C'.p A w cs->∀v∈cs,v.oneCell'=true) :
  OpT P B Ωs Ω Γ ⟨none,.store t p x,ty,pos,aft,none⟩ (λ_:Unit=>Xb7) λ_=>⟨b,pr,C'⟩::Ωr:=
 O9 (C:=C) rfl λA a w hks hl=>by
  have e1:a.eval p=.pointer (some ⟨b,0,none⟩):=Zy (x:=p) (τ:=Pt b 0) (op:=.store t p x) (by simp[Xae]) hl;obtain⟨ds,h2,h3⟩:=Zy (x:=x) (τ:=VC C') (op:=.store t p x) (by simp[Xae]) hl;obtain⟨cs,g1,g2⟩:=hks ⟨b,pr,C⟩ (XaL _ (pk.perm.mem_iff.2 (Xay ..))) hpr;have e3:=l.h g2;have e4:=l'.h h2;obtain⟨w',r1,r2,r3,r4⟩:=Bp (P:=P) g1 (o:=0) (vs:=ds) (by omega) (hsc h2);rw[Om (by omega)]at r2;refine⟨undef,λ_ _=>trivial,.inr ⟨hpr,w',cs,ds,.inr ⟨?_,rfl⟩,g1,r2,r3,h2⟩⟩;have e5:(Value.agg ds.toArray).cells=ds.toArray:=rfl;simp only[execOp,Xer,e1,Xbm,Xag,Xai,Xab,storeVar,T.sz,h3,e5,List.size_toArray];rw[if_neg (by omega)];simp[r1]
end ops
class CtSc(C:Ct):Prop where
 h:∀{A w cs},C.p A w cs->∀v∈cs,v.oneCell'=true
instance {α:Type}{i:Dat α}{x:α}:CtSc (One x):=⟨λh=>Dat.scal h⟩
instance {C:Ct}{o:Nat}{τ:Ty}[k:CtSc C] [oc:OneC τ]:CtSc (C.mix o τ):=⟨λ⟨cs0,v,h1,h2,h3,h4⟩ u hu=>by
 subst h4;rcases List.mem_or_eq_of_mem_set hu with h|rfl
 .exact k.h h1 u h
 .exact (oc.h h3).2⟩
section rd
variable {P:Program}{B0:Nat}{A:Nat->Prop}{Ω:List Pe}{Γ:Env}{dst:Option Tmp}{ty:TypeId}{pos:String}{aft:Array Edge}{gd:Option (Nat×Bool)}
variable {α β:Type}{i:Dat α}{j:Dat β}{t u:TypeId}{f off:Nat}
theorem RH{w:World}{b k:Nat}{C:Ct}{A:Nat->Prop}{cs:List Value}[T:TDat P t α i] [l:CtLen C k] (g1:Blk w b cs) (g2:C.p A w cs) (hk:k=Dat.sz α) (ha:Dat.agg α=true):(loadVar t ⟨b,0,none⟩).run P w=.ok (.agg cs.toArray) w:=by
 have e:=l.h g2;unfold loadVar;rw[Xag,T.ag,ha];simp only[Xab,if_true];rw[Xag,T.sz];simp only[Xab];have hld:=Lm (P:=P) (o:=0) (k:=Dat.sz α) g1 (by omega);rw[Uw (by omega)]at hld;rw[Xag,hld];rfl
theorem D7{x:Operand}{b k:Nat}{pr:Prop}{C:Ct}[hx:Has Γ x (Pt b 0)] [hb:HasB Ω b pr C] [T:TDat P t α i] [l:CtLen C k] (hpr:pr) (hk:k=Dat.sz α) (ha:Dat.agg α=true):OpY P B0 A Ω Γ ⟨dst,.load t x,ty,pos,aft,gd⟩ (VC C):=λa w _ _ hp hl=>by
 have e1:a.eval x=.pointer (some ⟨b,0,none⟩):=Zy (x:=x) (τ:=Pt b 0) (op:=.load t x) (by simp[Xae]) hl;obtain⟨cs,g1,g2⟩:=hp _ hb.h hpr;simp only[execOp,Xea,e1,Xbm,Xag,Xai,Xab];rw[RH (t:=t) g1 g2 hk ha];exact⟨Xdg _ _,cs,g2,rfl⟩
instance (priority:=100) rvC {s:Tmp}{b k:Nat}{C:Ct}[h:Has Γ (.tmp s) (Pt b 0)] [hb:HasB Ω b True C] [T:TDat P t α i] [l:CtLen C k] [hk:BoolIs (Xep k (Dat.sz α)) true] [ha:BoolIs (Dat.agg α) true]:Rv P Γ Ω (.cell s t) (VC C):=⟨λht hk'=>by
 obtain⟨cs,g1,g2⟩:=hk' _ hb.h trivial;have e:_=Value.pointer (some ⟨b,0,none⟩):=h.at _ _ _ (ht s);refine⟨_,?_,cs,g2,rfl⟩;simp only[PK,Xag,e,asAddr,Xai,Xab];exact RH (t:=t) g1 g2 (Xb9 hk.h) ha.h⟩
class PartsC(P:Program)(t:TypeId)(Γ:Env)(ps:List (Nat×Operand))(C:Ct)(C':outParam Ct):Prop where
 h:∀(a:Act) A w,(∀k,.tmp k∈ps.map (·.2)->(Γ k).p A w (a.tmps.getD k undef))->∀fs places cs,P.underlying t=some (.struct fs)->fs.toList.mapM (λf=>(P.info? f.type).map λi=>(f.offset,i.size))=some places->C.p A w cs->
  ∃cs',XbW (places.toArray[·]?) cs.toArray (ps.map λp=>(p.1,a.eval p.2))=some cs'.toArray/\C'.p A w cs'
instance {C:Ct}:PartsC P t Γ [] C C:=⟨λa A w _ fs places cs _ _ h=>⟨cs,by simp[XbW],h⟩⟩
instance {p:Operand}{ps:List (Nat×Operand)}{τ:Ty}{y:β}{bt:Nat}{C C1 C':Ct}[F:TFld P t f u off] [T:TEl P u β j bt] [hp:Has Γ p τ] [hy:ToD τ β j y] [c:CtSet C off β j y C1] [r:PartsC P t Γ ps C1 C'] :
  PartsC P t Γ ((f,p)::ps) C C':=⟨λa A w ha fs places cs hu hm hr=>by
 obtain⟨fs',fl,g1,g2,g3,g4⟩:=F.h;rw[hu]at g1;injection g1 with g1;injection g1 with g1;subst g1;obtain⟨es,e1,e2⟩:=LF (hy.le _ _ _ (hp.le a A w λk e=>ha k (by simp[e])));obtain⟨ti,z,i1,i2,i3,i4,i5⟩:=T.h;have hpl:places[f]?=some (off,Dat.sz β):=by
  have:=QG hm f fl (by simpa using g2);rw[<-this,g3,g4,i1,Xbj,i3]
 have l1:es.length=Dat.sz β:=Dat.len e2;obtain⟨l3,k2⟩:=c.h hr e2;obtain⟨cs',r1,r2⟩:=r.h a A w (λk hk=>ha k (Xaw _ hk)) fs places _ hu hm k2;refine⟨cs',?_,r2⟩;have hpl2:places.toArray[f]?=some (off,Dat.sz β):=by simpa using hpl
 simp only[Xbl,XbW,hpl2,e1];rw[if_neg (by simp[l1];omega)];have h5:=EE es 0 off cs (by omega);simp only[Xbw]at h5;rw[<-r1];congr 1;rw[<-h5];simp⟩
theorem SA{p:Operand}{ps:List (Nat×Operand)}{τ:Ty}{bt:Nat}{C C1 C':Ct}[F:TFld P t f u off] [T:TEl P u (List β) Bv bt] [hp:Has Γ p τ] [oc:OneC τ] (c:CtH C off τ C1) (r:PartsC P t Γ ps C1 C') :
  PartsC P t Γ ((f,p)::ps) C C':=⟨λa A w ha fs places cs hu hm hr=>by
 obtain⟨fs',fl,g1,g2,g3,g4⟩:=F.h;rw[hu]at g1;injection g1 with g1;injection g1 with g1;subst g1;have hv:=hp.le a A w λk e=>ha k (by simp[e])
 obtain⟨e1,e2⟩:=oc.h hv;obtain⟨ti,z,i1,i2,i3,i4,i5⟩:=T.h;have i3:ti.size=1:=i3;have hpl:places[f]?=some (off,1):=by
  have:=QG hm f fl (by simpa using g2);rw[<-this,g3,g4,i1,Xbj,i3]
 obtain⟨l3,k2⟩:=c.h hr hv;obtain⟨cs',r1,r2⟩:=r.h a A w (λk hk=>ha k (Xaw _ hk)) fs places _ hu hm k2;refine⟨cs',?_,r2⟩;have hpl2:places.toArray[f]?=some (off,1):=by simpa using hpl
 simp only[Xbl,XbW,hpl2,e1];rw[if_neg (by simp;omega)];rw[<-r1];congr 1;simp⟩
theorem Qk{parts:Array (Nat×Operand)}{ps:List (Nat×Operand)}{bt:Nat}{C:Ct}[T:TEl P t α i bt] (hps:parts=ps.toArray) (hu:∃fs,P.underlying t=some (.struct fs)/\(fs.toList.mapM (λf=>(P.info? f.type).map λi=>(f.offset,i.size))).isSome=true)
  (h:PartsC P t Γ ps (One (Dat.z:α)) C):OpY P B0 A Ω Γ ⟨dst,.build t parts,ty,pos,aft,gd⟩ (VC C):=
 XbH λa w hl=>by
  subst hps;obtain⟨fs,u1,u2⟩:=hu;obtain⟨places,u2⟩:=Xe6.1 u2;obtain⟨ti,z,i1,i2,i3,i4,i5⟩:=T.h;obtain⟨cs',r1,r2⟩:=h.h a A w (λk hk=>hl k (by simp only[Xae];simpa using hk)) fs places _ u1 u2 Dat.zrd;refine⟨.agg cs'.toArray,?_,cs',r2,rfl⟩;have hb:P.built t ((ps.toArray.map λ(i,x)=>(i,a.eval x)).toList)=some cs'.toArray:=by
   unfold XeY;rw[i1,u1];simp only[i2,u2,i5];simpa using r1
  simp only[execOp,Xag,run_build w t _ cs'.toArray hb,Xab,Xai]
end rd
section co
variable {P:Program}{r:Ref}{n:Nat}{Γ:Env}{Ω Ω1 Ω2:List Pe}{Q:Exit->Act->World->Prop}{ops:Array Oper}{k:Nat}{rest:List Oper}{α:Type}{i:Dat α}
theorem Stt.coll{b0 b o m:Nat}{pr0 pr:Prop}{C C' D0:Ct}{τ:Ty}{xs:List α}[op:Opens r] [p0:Pick Ω b0 pr0 C Ω1] [p1:Pick Ω1 b pr D0 Ω2] {a:Act}{w:World}
  (hC:∀{A A':Nat->Prop}{w cs},HD A A' w w->(∀v,τ.p A w v->(D xs).p A' w v)->C.p A w cs->C'.p A' w cs) (hx:Y5 D0 b pr τ (D xs)) (h:Stt r n Γ Ω a w):Stt r n Γ (⟨b0,pr0,C'⟩::Ω2) a w:=by
 have h:=(h.less (Xcz p0.perm)).less (Xff (Xcz p1.perm));have hl:Fb (⟨b0,pr0,C⟩::⟨b,pr,D0⟩::Ω2) (⟨b0,pr0,C⟩::Ω2):=Xff (Fb.drop (XfO _));have h2:=h.less hl;have hown:∀k,Own (⟨b0,pr0,C'⟩::Ω2) k↔Own (⟨b0,pr0,C⟩::Ω2) k:=λk=>by
  constructor
  .rintro ⟨e,he,h1,h2⟩;rcases Xa1.1 he with rfl|he
   .exact ⟨_,Xay ..,h1,h2⟩
   .exact ⟨e,Xaw _ he,h1,h2⟩
  .rintro ⟨e,he,h1,h2⟩;rcases Xa1.1 he with rfl|he
   .exact ⟨_,Xay ..,h1,h2⟩
   .exact ⟨e,Xaw _ he,h1,h2⟩
 have hpub:Pub r.A (⟨b0,pr0,C'⟩::Ω2)=Pub r.A (⟨b0,pr0,C⟩::Ω2):=by
  funext k;exact propext (by rw[ZC,ZC,hown])
 have hk:HD (Pub r.A (⟨b0,pr0,C⟩::⟨b,pr,D0⟩::Ω2)) (Pub r.A (⟨b0,pr0,C⟩::Ω2)) w w:=Xd1 λj _ hj=>ZC.2 ⟨(ZC.1 hj).1,λho=>(ZC.1 hj).2 (hl.own j ho)⟩
 refine⟨h2.sz,h2.df,h2.mu,by rw[hpub];exact h2.ty,⟨λj hj=>h2.pv.own j ((hown j).1 hj),?_,XaO.2 ⟨λf hf h1 h3=>(XaO.1 h2.pv.ap).1 f hf h1 h3,(XaO.1 h2.pv.ap).2⟩⟩⟩;rw[hpub];intro e he hp;rcases Xa1.1 he with rfl|he
 .obtain ⟨cs,g1,g2⟩:=h.pv.ks ⟨b0,pr0,C⟩ (Xay ..) hp;refine⟨cs,g1,hC hk (λv hv=>hx _ w v (λhpr=>?_) (τ.keep hk hv)) g2⟩;obtain⟨cs',g3,g4⟩:=h.pv.ks ⟨b,pr,D0⟩ (Xaw _ (Xay ..)) hpr;refine⟨ZC.2 ⟨op.h b (h.pv.own b ⟨_,Xaw _ (Xay ..),hpr,rfl⟩),λ⟨f,hf,hpf,hfb⟩=>?_⟩,cs',g3,D0.keep hk g4⟩;have ha:=XaO.1 h.pv.ap;rcases Xa1.1 hf with rfl|hf
  .exact ha.1 _ (Xay ..) hpf hpr hfb
  .exact (XaO.1 ha.2).1 f hf hpr hpf hfb.symm
 .exact h2.pv.ks e (Xaw _ he) hp
theorem CtSet.coll{C C':Ct}{o:Nat}{τ:Ty}{xs:List α} (c:CtSet C o (List α) Bv xs C'):∀{A A':Nat->Prop}{w cs},HD A A' w w->(∀v,τ.p A w v->(D xs).p A' w v)->(C.mix o τ).p A w cs->C'.p A' w cs:=λ{A A' w cs} hk hv ⟨cs0,v,h1,h2,h3,h4⟩=>by
 subst h4;obtain⟨es,h5,h6⟩:=hv v h3;obtain⟨-,g2⟩:=c.h (C.keep hk h1) h5;have he:es=[v]:=by
  have hl:=Dat.len h5;have h6:v=es.getD 0 undef:=h6;obtain⟨x,rfl⟩:∃x,es=[x]:=Xfv.1 hl;simp at h6;rw[h6]
 subst he;have hs:Ab cs0 o [v]=cs0.set o v:=by
  refine AV (by rw[Zp (by simp;omega),XaA]) λq hq=>?_
  rw[ZT (by simp;omega)];simp only[Xad,Xdn]
  by_cases hqo:q=o
  .subst hqo;rw[if_pos (by omega),Xbh h2];simp
  .rw [if_neg (by omega),XbZ (Xc3 hqo)]
 rwa [hs]at g2
theorem TC.coll{c:Code}(b0 b:Nat){o:Nat}{pr0 pr:Prop}{C C' D0:Ct}{τ:Ty}{xs:List α}[op:Opens r] [p0:Pick Ω b0 pr0 (C.mix o τ) Ω1] [p1:Pick Ω1 b pr D0 Ω2] (cs:CtSet C o (List α) Bv xs C') (hx:Y5 D0 b pr τ (D xs)) (h:TC P r n Γ (⟨b0,pr0,C'⟩::Ω2) c Q):TC P r n Γ Ω c Q:=λa w hs=>h a w (hs.coll (m:=0) (o:=o) cs.coll hx)
theorem TE.coll{e:Exit}(b0 b:Nat){o:Nat}{pr0 pr:Prop}{C C' D0:Ct}{τ:Ty}{xs:List α}[op:Opens r] [p0:Pick Ω b0 pr0 (C.mix o τ) Ω1] [p1:Pick Ω1 b pr D0 Ω2] (cs:CtSet C o (List α) Bv xs C') (hx:Y5 D0 b pr τ (D xs)) (h:TE r n Γ (⟨b0,pr0,C'⟩::Ω2) Q e):TE r n Γ Ω Q e:=λa w hs=>h a w (hs.coll (m:=0) (o:=o) cs.coll hx)
theorem TS.coll(b0 b:Nat){o:Nat}{pr0 pr:Prop}{C C' D0:Ct}{τ:Ty}{xs:List α}[op:Opens r] [p0:Pick Ω b0 pr0 (C.mix o τ) Ω1] [p1:Pick Ω1 b pr D0 Ω2] (cs:CtSet C o (List α) Bv xs C') (hx:Y5 D0 b pr τ (D xs)) (h:TS P r n ops rest k Γ (⟨b0,pr0,C'⟩::Ω2) Q):TS P r n ops rest k Γ Ω Q:=λhl a w hs=>h hl a w (hs.coll (m:=0) (o:=o) cs.coll hx)
end co
def Zet(P:Program)(v:Value)(args:List Value)(w:World)(R:Ending->World->Prop):Prop:=
 ∃f first captured,v=.func (.func f) first captured/\Fun P f/\Calls P f (first++args.toArray++captured) w R
theorem Mz{P:Program}{f:FuncId}{first captured:Array Value}{args:List Value}{w:World}{R:Ending->World->Prop}[F:Fun P f] (h:Calls P f (first++args.toArray++captured) w R):Zet P (.func (.func f) first captured) args w R:=⟨f,first,captured,rfl,F,h⟩
structure F1(P:Program)(α β:Type) where
 f:α->Option β
structure F2(P:Program)(α β γ:Type) where
 f:α->β->Option γ
instance Zfc{P:Program}{α β:Type}[i:Dat α] [j:Dat β]:Dat (F1 P α β) where
 agg:=false
 sz:=1
 rd A w cs F:=∃v,cs=[v]/\v.cells=#[v]/\v.oneCell'=true/\∀A' w' u x y,HD A A' w w'->(∀k,w'.heap.size<=k->A' k)->(D x).p A' w' u->F.f x=some y->Zet P v [u] w' (Ret A' w' (D y))
 wf _:=True
 len:=λ⟨_,h,_⟩=>FP h
 one _:=rfl
 pos:=Xdd
 ok _:=trivial
 plain _:=λ⟨v,h,h2,_⟩=>by simp at h;rw[h];exact h2
 mono k:=λ⟨v,h1,h2,h3,h4⟩=>⟨v,h1,h2,h3,λA' w' u x y hk=>h4 A' w' u x y (k.trans hk)⟩
 scal:=λ⟨v,h1,h2,h3,_⟩ u hu=>by subst h1;obtain rfl:=Xal.1 hu;exact h3
 z:=⟨λ_=>none⟩
 zc:=[.nilFunc]
 zrd:=⟨_,rfl,rfl,rfl,λ_ _ _ _ _ _ _ _ h=>by cases h⟩
instance Zfb{P:Program}{α β γ:Type}[i:Dat α] [j:Dat β] [k:Dat γ]:Dat (F2 P α β γ) where
 agg:=false
 sz:=1
 rd A w cs F:=∃v,cs=[v]/\v.cells=#[v]/\v.oneCell'=true/\∀A' w' u1 u2 x1 x2 y,HD A A' w w'->(∀k,w'.heap.size<=k->A' k)->(D x1).p A' w' u1->(D x2).p A' w' u2->F.f x1 x2=some y->Zet P v [u1,u2] w' (Ret A' w' (D y))
 wf _:=True
 len:=λ⟨_,h,_⟩=>FP h
 one _:=rfl
 pos:=Xdd
 ok _:=trivial
 plain _:=λ⟨v,h,h2,_⟩=>by simp at h;rw[h];exact h2
 mono k:=λ⟨v,h1,h2,h3,h4⟩=>⟨v,h1,h2,h3,λA' w' u1 u2 x1 x2 y hk=>h4 A' w' u1 u2 x1 x2 y (k.trans hk)⟩
 scal:=λ⟨v,h1,h2,h3,_⟩ u hu=>by subst h1;obtain rfl:=Xal.1 hu;exact h3
 z:=⟨λ_ _=>none⟩
 zc:=[.nilFunc]
 zrd:=⟨_,rfl,rfl,rfl,λ_ _ _ _ _ _ _ _ _ _ _ h=>by cases h⟩
theorem F1.const{P:Program}{f:FuncId}{α β:Type}[i:Dat α] [j:Dat β] [F:Fun P f] {g:α->Option β}
  (h:∀{A:Nat->Prop}{x:α}{y:β} w v0,(∀k,w.heap.size<=k->A k)->(D x).p A w v0->g x=some y->Calls P f #[v0] w (Ret A w (D y))) {A:Nat->Prop}{w:World} :
  (D (⟨g⟩:F1 P α β)).p A w (.func (.func f) #[] #[]):=⟨[_],⟨_,rfl,rfl,rfl,λA' w' u x y _ hu hx hy=>Mz (by simpa using h w' u hu hx hy)⟩,rfl⟩
theorem F2.const{P:Program}{f:FuncId}{α β γ:Type}[i:Dat α] [j:Dat β] [k:Dat γ] [F:Fun P f] {g:α->β->Option γ}
  (h:∀{A:Nat->Prop}{x1:α}{x2:β}{y:γ} w v0 v1,(∀k,w.heap.size<=k->A k)->(D x1).p A w v0->(D x2).p A w v1->g x1 x2=some y->Calls P f #[v0,v1] w (Ret A w (D y))) {A:Nat->Prop}{w:World} :
  (D (⟨g⟩:F2 P α β γ)).p A w (.func (.func f) #[] #[]):=⟨[_],⟨_,rfl,rfl,rfl,λA' w' u1 u2 x1 x2 y _ hu h1 h2 hy=>Mz (by simpa using h w' u1 u2 hu h1 h2 hy)⟩,rfl⟩
section ops
variable {P:Program}{B0:Nat}{A:Nat->Prop}{Ω:List Pe}{Γ:Env}{dst:Option Tmp}{ty:TypeId}{pos:String}{aft:Array Edge}{gd:Option (Nat×Bool)}
variable {α β γ:Type}{i:Dat α}{j:Dat β}{k:Dat γ}{f:FuncId}{ts:Array TypeId}
theorem M9{c x1:Operand}{σ τ1:Ty}{F:F1 P α β}{x:α}{y:β}[hc:Has Γ c σ] [kc:ToD σ (F1 P α β) Zfc F] [h1:Has Γ x1 τ1] [k1:ToD τ1 α i x] (hy:F.f x=some y) :
  OpY P B0 A Ω Γ ⟨dst,.call { callee:=.value c,args:=#[x1],argTypes:=ts },ty,pos,aft,gd⟩ (D y):=λa w hB hu hp hl=>by
 obtain⟨cs,⟨v,rfl,e2,e3,h4⟩,e5⟩:=kc.le _ _ _ (hc.le a A w λt e=>hl t (by simp[Xae,XaE,e]));have e5:a.eval c=v:=e5;have g1:=k1.le _ _ _ (h1.le a A w λt e=>hl t (by simp[Xae,XaE,e]));obtain⟨f,first,captured,rfl,Fn,hcall⟩:=h4 A w _ x y (Xg6 _ _) hu g1 hy;have:(execOp a.eval ⟨dst,.call { callee:=.value c,args:=#[x1],argTypes:=ts },ty,pos,aft,gd⟩).run P w=.ok (.enter f (first ++ #[a.eval x1]++captured)) w:=by
  simp only[execOp,resolve,XbG,e5,Xag,Xai,Xab,invoke,Fn.h,Xb0,Xbl,Xcy]
 rw[this];exact⟨Xdg _ _,hcall.mono λe w' hr=>hr.yields hB⟩
theorem Ww{c x1 x2:Operand}{σ τ1 τ2:Ty}{F:F2 P α β γ}{x:α}{x':β}{y:γ}[hc:Has Γ c σ] [kc:ToD σ (F2 P α β γ) Zfb F] [h1:Has Γ x1 τ1] [k1:ToD τ1 α i x] [h2:Has Γ x2 τ2] [k2:ToD τ2 β j x'] (hy:F.f x x'=some y) :
  OpY P B0 A Ω Γ ⟨dst,.call { callee:=.value c,args:=#[x1,x2],argTypes:=ts },ty,pos,aft,gd⟩ (D y):=λa w hB hu hp hl=>by
 obtain⟨cs,⟨v,rfl,e2,e3,h4⟩,e5⟩:=kc.le _ _ _ (hc.le a A w λt e=>hl t (by simp[Xae,XaE,e]));have e5:a.eval c=v:=e5;have g1:=k1.le _ _ _ (h1.le a A w λt e=>hl t (by simp[Xae,XaE,e]));have g2:=k2.le _ _ _ (h2.le a A w λt e=>hl t (by simp[Xae,XaE,e]));obtain⟨f,first,captured,rfl,Fn,hcall⟩:=h4 A w _ _ x x' y (Xg6 _ _) hu g1 g2 hy;have:(execOp a.eval ⟨dst,.call { callee:=.value c,args:=#[x1,x2],argTypes:=ts },ty,pos,aft,gd⟩).run P w=.ok (.enter f (first ++ #[a.eval x1,a.eval x2]++captured)) w:=by
  simp only[execOp,resolve,XbG,e5,Xag,Xai,Xab,invoke,Fn.h,Xb0,Xbl,Xcy]
 rw[this];exact⟨Xdg _ _,hcall.mono λe w' hr=>hr.yields hB⟩
theorem Yt{c1:Operand}{τ1 σ1:Ty}[F:Fun P f] [h1:Has Γ c1 τ1] [k1:AsT τ1 σ1] {g:α->Option β}
  (h:∀{A:Nat->Prop}{x:α}{y:β} w v0 v1,(∀k,w.heap.size<=k->A k)->(D x).p A w v0->σ1.p A w v1->g x=some y->Calls P f #[v0,v1] w (Ret A w (D y))) :
  OpY P B0 A Ω Γ ⟨dst,.makeFunc (.func f) #[] #[c1],ty,pos,aft,gd⟩ (D (⟨g⟩:F1 P α β)):=
 XbH λa w hl=>by
  have e1:=k1.le _ _ _ (h1.le a A w λt e=>hl t (by simp[Xae,e]));refine⟨_,?_,[_],⟨.func (.func f) #[] #[a.eval c1],rfl,rfl,rfl,λA' w' u x y hk hu hx hy=>Mz (by simpa using h w' u _ hu hx (σ1.keep hk e1) hy)⟩,rfl⟩;simp[execOp,Xef,mkV,Dat.agg]
theorem Ys{c1 c2:Operand}{τ1 σ1 τ2 σ2:Ty}[F:Fun P f] [h1:Has Γ c1 τ1] [k1:AsT τ1 σ1] [h2:Has Γ c2 τ2] [k2:AsT τ2 σ2] {g:α->Option β}
  (h:∀{A:Nat->Prop}{x:α}{y:β} w v0 v1 v2,(∀k,w.heap.size<=k->A k)->(D x).p A w v0->σ1.p A w v1->σ2.p A w v2->g x=some y->Calls P f #[v0,v1,v2] w (Ret A w (D y))) :
  OpY P B0 A Ω Γ ⟨dst,.makeFunc (.func f) #[] #[c1,c2],ty,pos,aft,gd⟩ (D (⟨g⟩:F1 P α β)):=
 XbH λa w hl=>by
  have e1:=k1.le _ _ _ (h1.le a A w λt e=>hl t (by simp[Xae,e]));have e2:=k2.le _ _ _ (h2.le a A w λt e=>hl t (by simp[Xae,e]));refine⟨_,?_,[_],⟨.func (.func f) #[] #[a.eval c1,a.eval c2],rfl,rfl,rfl,λA' w' u x y hk hu hx hy=>Mz (by simpa using h w' u _ _ hu hx (σ1.keep hk e1) (σ2.keep hk e2) hy)⟩,rfl⟩;simp[execOp,Xef,mkV,Dat.agg]
end ops
structure Vec(α:Type)(n:Nat) where
 l:List α
 h:l.length=n
theorem Vec.ext{α:Type}{n:Nat}{x y:Vec α n} (h:x.l=y.l):x=y:=by cases x;cases y;cases h;rfl
instance {α:Type}{n:Nat}[DecidableEq α]:DecidableEq (Vec α n):=λx y=>if h:x.l=y.l then isTrue (Vec.ext h)else isFalse λe=>h (by rw[e])
def Vec.set{α:Type}{n:Nat} (v:Vec α n) (k:Nat) (x:α):Vec α n:=⟨v.l.set k x,by rw[XaA,v.h]⟩
def Vec.put{α:Type}{n:Nat} (v:Vec α n) (k:Nat) (ys:List α):Vec α n:=if h:(splice v.l k ys).length=n then⟨splice v.l k ys,h⟩else v
def Q6{α:Type}(n:Nat)(x:α):Vec α n:=⟨Xac n x,by simp⟩
instance {α:Type}{n:Nat}[Inhabited α]:Inhabited (Vec α n):=⟨Q6 n default⟩
theorem UV{zs:List Value}:∀(n j:Nat),j<n->seg (Xac n zs).flatten (j*zs.length) zs.length=zs
 | n+1,0,_=>by simp[seg,XdJ]
 | n+1,j+1,h=>by
  have:=UV (zs:=zs) n j (by omega);rw[XdJ,XeF,XaF,Xb1];unfold seg at *;rw[<-List.drop_drop,XdQ];exact this
theorem Za6{zs:List Value}(n:Nat):(Xac n zs).flatten.length=n*zs.length:=by
 simp[List.length_flatten]
instance Lu{α:Type}{n:Nat}[i:Dat α] [hn:BoolIs (Xbn 1 n) true]:Dat (Vec α n) where
 agg:=true
 sz:=n*Dat.sz α
 rd A w cs x:=cs.length=n*Dat.sz α/\A7 A w cs x.l
 wf x:=∀y∈x.l,Dat.wf y
 len h:=h.1
 one h:=by cases h
 pos:=Nat.mul_pos (Xcb hn.h) Dat.pos
 ok {A w cs x} h y hy:=by
  obtain⟨j,hj,rfl⟩:=XaQ hy;exact Dat.ok (h.2 j hj)
 plain h:=by cases h
 mono k h:=⟨h.1,h.2.keep k⟩
 scal {A w cs x} h:=h.2.scal (by rw[h.1,x.h])
 z:=Q6 n Dat.z
 zc:=(Xac n (Dat.zc α)).flatten
 zrd {A w}:=by
  have hl:=Dw α;refine⟨by rw[Za6,hl],λj hj=>?_⟩;have hj':j<n:=by simpa[Q6]using hj
  have:=UV (zs:=Dat.zc α) n j hj';rw[hl]at this;rw[this];simp only[Q6,Xbs];exact Dat.zrd
theorem A7.all{α:Type}[Dat α] {A:Nat->Prop}{w:World}{cs:List Value}{xs:List α} (h:A7 A w cs xs) {k m:Nat} (hm:k+m<=xs.length) (hl:xs.length*Dat.sz α<=cs.length):A7 A w (seg cs (k*Dat.sz α) (m*Dat.sz α)) ((xs.drop k).take m):=λj hj=>by
 have hj':j<m:=by simp at hj;omega
 have hfit:k*Dat.sz α+m*Dat.sz α<=cs.length:=XaG (by rw[<-Xa6];exact Xah _ hm) hl;rw[JL (by rw[<-XaF];exact Xah _ (by omega)) hfit,<-Xa6];have e:((xs.drop k).take m)[j]=xs[k+j]'(by omega):=by rw[List.getElem_take,List.getElem_drop]
 rw[e];exact h _ (by omega)
section pl
variable {α:Type}{n:Nat}[i:Dat α] [hn:BoolIs (Xbn 1 n) true] {C:Ct}{o:Nat}{v:Vec α n}{upd:Vec α n->Ct}
theorem E7(h:Pl C o (Vec α n) Lu v upd){k:Int}{x:α} (hk:idx v.l k=some x):Pl C (o+k.toNat*Dat.sz α) α i x λy=>upd (v.set k.toNat y):=by
 obtain⟨h1,h2⟩:=A3 hk;obtain⟨h3,h4⟩:=Xav.1 h2;have hv:=v.h;have hkn:k.toNat*Dat.sz α+Dat.sz α<=n*Dat.sz α:=by rw[<-XaF];exact Xah _ (by omega)
 refine⟨⟨λ{A w cs} hc=>?_⟩,λy=>⟨λ{A w cs ds} hc hd=>?_⟩⟩
 .obtain ⟨g1,g2,g3⟩:=h.rd.h hc;have g1:o+n*Dat.sz α<=cs.length:=g1;refine⟨by omega,?_⟩;have g4:=g3 k.toNat h3;rw[h4]at g4;have e:seg (seg cs o (Dat.sz (Vec α n))) (k.toNat*Dat.sz α) (Dat.sz α)=seg cs (o+k.toNat*Dat.sz α) (Dat.sz α):=JL hkn g1
  rwa [e]at g4
 .obtain ⟨g1,g2,g3⟩:=h.rd.h hc;have g1:o+n*Dat.sz α<=cs.length:=g1;have l2:=Dat.len hd;have hsl:(seg cs o (n*Dat.sz α)).length=n*Dat.sz α:=ZA g1;have hes:Dat.rd A w (Ab (seg cs o (n*Dat.sz α)) (k.toNat*Dat.sz α) ds) (v.set k.toNat y):=by
   refine⟨by rw[Zp (by omega),hsl],λq hq=>?_⟩;have hq':q<v.l.length:=by simpa[Vec.set]using hq
   by_cases hqk:q=k.toNat
   .subst hqk;have e9:=B1 (cs:=seg cs o (n*Dat.sz α)) (o:=k.toNat*Dat.sz α) (vs:=ds) (by omega);rw[l2]at e9;rw[e9];simp only[Vec.set,Xdo];exact hd
   .rw [AM (by omega) (by rw[hsl,<-XaF];exact Xah _ (by omega)) ?_]
    .simp only[Vec.set,Xdy (λh=>hqk h.symm)];exact g3 q hq'
    .rcases Xbd q k.toNat with h6|h6
     .left;rw[<-XaF];exact Xah _ (by omega)
     .right;rw[l2,<-XaF];exact Xah _ (by omega)
  obtain⟨-,g5⟩:=(h.st (v.set k.toNat y)).h hc hes;refine⟨by omega,?_⟩;have e:Ab cs o (Ab (seg cs o (n*Dat.sz α)) (k.toNat*Dat.sz α) ds)=Ab cs (o+k.toNat*Dat.sz α) ds:=by
   have hl2:(Ab (seg cs o (n*Dat.sz α)) (k.toNat*Dat.sz α) ds).length=n*Dat.sz α:=by rw[Zp (by omega),hsl]
   refine AV (by rw[Zp (by omega),Zp (by omega)]) λj hj=>?_
   rw[Zp (by omega)]at hj;rw[ZT (cs:=cs) (o:=o) (by omega),ZT (cs:=cs) (o:=o+k.toNat*Dat.sz α) (by omega),hl2]
   by_cases c1:o<=j/\j<o+n*Dat.sz α
   .rw [if_pos c1,ZT (by omega)]
    by_cases c2:k.toNat*Dat.sz α<=j-o/\j-o<k.toNat*Dat.sz α+ds.length
    .rw [if_pos c2,if_pos (by omega)];congr 1;omega
    .rw [if_neg c2,if_neg (by omega),Al (by omega)];congr 1;omega
   .rw [if_neg c1,if_neg (by omega)]
  rwa [e]at g5
theorem Kg(h:Pl C o (Vec α n) Lu v upd){k m:Nat}(hk:k+m<=n)(hmo:n<=LG):PlS C (o+k*Dat.sz α) α i ((v.l.drop k).take m) λys=>upd (v.put k ys):=by
 have hv:=v.h;have hl:((v.l.drop k).take m).length=m:=by simp;omega
 have hfit0:k*Dat.sz α+m*Dat.sz α<=n*Dat.sz α:=by rw[<-Xa6];exact Xah _ hk
 refine⟨λ_=>by omega,λ{A w cs} hc=>?_,λ{A w cs news} ys hy hc hnw he=>?_⟩
 .obtain ⟨g1,g2,g3⟩:=h.rd.h hc;have g1:o+n*Dat.sz α<=cs.length:=g1;rw[hl];refine⟨by omega,?_⟩;have hsl:(seg cs o (n*Dat.sz α)).length=n*Dat.sz α:=ZA g1;have g4:=g3.all (k:=k) (m:=m) (by omega) (by rw[hv];exact XdE hsl.symm);have e:seg (seg cs o (Dat.sz (Vec α n))) (k*Dat.sz α) (m*Dat.sz α)=seg cs (o+k*Dat.sz α) (m*Dat.sz α):=JL hfit0 g1
  rwa [e]at g4
 .obtain ⟨g1,g2,g3⟩:=h.rd.h hc;have g1:o+n*Dat.sz α<=cs.length:=g1;have hsl:(seg cs o (n*Dat.sz α)).length=n*Dat.sz α:=ZA g1;have hyl:ys.length=m:=by omega
  have hsp:(splice v.l k ys).length=n:=by rw[MJ (by omega)];omega
  have hes:Dat.rd A w (Ab (seg cs o (n*Dat.sz α)) (k*Dat.sz α) news) (v.put k ys):=by
   have h8:=A7.splice (k:=k) g3 he hnw (by rw[hv];exact XdE hsl.symm) (by omega) (by
    have e:(seg cs o (Dat.sz (Vec α n))).length=n*Dat.sz α:=hsl;rw[e,hyl];exact Xah _ hk)
   refine⟨by rw[Zp (by rw[hnw,hyl,hsl];omega),hsl],?_⟩;unfold Vec.put;rw[dif_pos hsp];exact h8
  obtain⟨-,g5⟩:=(h.st (v.put k ys)).h hc hes;have e:Ab cs o (Ab (seg cs o (n*Dat.sz α)) (k*Dat.sz α) news)=Ab cs (o+k*Dat.sz α) news:=by
   have hnl:news.length=m*Dat.sz α:=by rw[hnw,hyl]
   have hl2:(Ab (seg cs o (n*Dat.sz α)) (k*Dat.sz α) news).length=n*Dat.sz α:=by rw[Zp (by omega),hsl]
   refine AV (by rw[Zp (by omega),Zp (by omega)]) λj hj=>?_
   rw[Zp (by omega)]at hj;rw[ZT (cs:=cs) (o:=o) (by omega),ZT (cs:=cs) (o:=o+k*Dat.sz α) (by omega),hl2]
   by_cases c1:o<=j/\j<o+n*Dat.sz α
   .rw [if_pos c1,ZT (by omega)]
    by_cases c2:k*Dat.sz α<=j-o/\j-o<k*Dat.sz α+news.length
    .rw [if_pos c2,if_pos (by omega)];congr 1;omega
    .rw [if_neg c2,if_neg (by omega),Al (by omega)];congr 1;omega
   .rw [if_neg c1,if_neg (by omega)]
  rwa [e]at g5
end pl
class TAr(P:Program)(t:TypeId)(n:outParam Nat)(e:outParam TypeId):Prop where
 h:P.underlying t=some (.array n e)
section ops
variable {P:Program}{B0:Nat}{A:Nat->Prop}{Ω:List Pe}{Γ:Env}{dst:Option Tmp}{ty:TypeId}{pos:String}{aft:Array Edge}{gd:Option (Nat×Bool)}
variable {α:Type}{i:Dat α}{t e:TypeId}{n:Nat}
theorem Nv[S:TAr P t n e][T:TDat P e α i][hn:BoolIs (Xbn 1 n) true]{x y:Operand}{τ σ:Ty}{v:Vec α n}{k:Int}{z:α}[hx:Has Γ x τ] [hp:AsPtr τ (Vec α n) Lu v] [Has Γ y σ] [hy:AsIx σ k] (hk:idx v.l k=some z) :
  OpY P B0 A Ω Γ ⟨dst,.indexAddr t x y,ty,pos,aft,gd⟩ (K3 z):=
 XbH λa w hl=>by
  obtain⟨b,o,cs,e1,hA,hr,hl2,he⟩:=hp.le _ _ _ (Zy (x:=x) (τ:=τ) (op:=.indexAddr t x y) (by simp[Xae]) hl);obtain⟨kd,e2⟩:=hy.h (Zy (x:=y) (τ:=σ) (op:=.indexAddr t x y) (by simp[Xae]) hl);obtain⟨h1,h2⟩:=A3 hk;obtain⟨h3,h4⟩:=Xav.1 h2;have hv:=v.h;have hkn:k.toNat*Dat.sz α+Dat.sz α<=n*Dat.sz α:=by rw[<-XaF];exact Xah _ (by omega)
  refine⟨_,?_,b,o+k.toNat*Dat.sz α,seg cs (k.toNat*Dat.sz α) (Dat.sz α),rfl,hA,RL hr (by omega),by have:=he k.toNat h3;rwa [h4]at this⟩;have hin:0<=k/\k<(n:Int):=by omega
  simp only[execOp,e1,e2,Xfd,asIntOf,Xbm,Xag,Xai,Xab,run_underlying S.h,hin,and_self,if_true,T.sz,Bf]
class HasLo(Γ:Env)(x:Option Operand)(d:Int)(l:outParam Int):Prop where
 h:∀(a:Act) (A:Nat->Prop) (w:World),(∀s,some (.tmp s)=x->(Γ s).p A w (a.tmps.getD s undef))->x.map a.eval=some (.int .i64 l)\/x=none/\l=d
instance {Γ:Env}{d:Int}:HasLo Γ none d d:=⟨λ_ _ _ _=>.inr ⟨rfl,rfl⟩⟩
instance {Γ:Env}{x:Operand}{d l:Int}{τ:Ty}[h:Has Γ x τ] [k:AsI τ l]:HasLo Γ (some x) d l:=⟨λa A w hl=>.inl (by
 have e:a.eval x=.int .i64 l:=k.le _ _ _ (h.le a A w λt e=>hl t (by rw[e]));simp[e])⟩
class AsPt(τ:Ty)(b o:outParam Nat):Prop where
 le:τ.le (Pt b o)
instance {b o:Nat}:AsPt (Pt b o) b o:=⟨Ty.le.refl _⟩
instance {p:Prop}{τ:Ty}{b o:Nat}[h:Ft p] [k:AsPt τ b o]:AsPt (HY p τ) b o:=⟨λA w v y=>k.le A w v (y.1 h.h)⟩
theorem DR[S:TAr P t n e][T:TDat P e α i]{x:Operand}{lo hi:Option Operand}{b o:Nat}{l r:Int}{τ:Ty}[hx:Has Γ x τ] [kx:AsPt τ b o] [hlo:HasLo Γ lo 0 l] [hhi:HasLo Γ hi n r]
  (h0:0<=l) (h1:l<=r) (h2:r<=n) (hml:n<=maxLen) :
  OpY P B0 A Ω Γ ⟨dst,.slice t x lo hi none,ty,pos,aft,gd⟩ (Sv b True (o+l.toNat*Dat.sz α) (r-l).toNat):=
 XbH λa w hl=>by
  have e1:a.eval x=.pointer (some ⟨b,o,none⟩):=kx.le _ _ _ (Zy (x:=x) (τ:=τ) (op:=.slice t x lo hi none) (by simp[Xae]) hl);have el:=hlo.h a A w λs hs=>hl s (by simp only[Xae];simp[<-hs])
  have eh:=hhi.h a A w λs hs=>hl s (by simp only[Xae];simp[<-hs])
  refine⟨.slice (some (if n=l.toNat then⟨b,o,none⟩else⟨b,o+l.toNat*Dat.sz α,none⟩)) (r.toNat-l.toNat) (n-l.toNat),?_,?_⟩
  .have c1:0<=r/\r<=(n:Int):=by omega
   have c2:0<=l/\l<=(r.toNat:Int):=by omega
   have hif:(XfB (some (if n=l.toNat then(⟨b,o,none⟩:Addr)else⟨b,o+l.toNat*Dat.sz α,none⟩)) (r.toNat-l.toNat) (n-l.toNat))=XfB (some (if n=l.toNat then(⟨b,o,none⟩:Addr)else(⟨b,o,none⟩:Addr).add (l.toNat*Dat.sz α))) (r.toNat-l.toNat) (n-l.toNat):=by rw[Bf]
   rw[hif];rcases el with el|⟨rfl,rfl⟩<;>rcases eh with eh|⟨rfl,rfl⟩
   .simp only[execOp,e1,el,eh,XbI,Xbk,Xbm,run_underlying S.h,Xa2,Xa8,asIntOf,Xag,Xai,Xab,c1,c2,and_self,if_true,T.sz]
   .have c3:0<=l/\l<=(n:Int):=by omega
    simp only[execOp,e1,el,XbI,Xbk,Xbm,run_underlying S.h,Xa2,Xa8,asIntOf,Xag,Xai,Xab,c3,and_self,if_true,T.sz,Xak]
   .simp only[execOp,e1,eh,XbI,Xbk,Xbm,run_underlying S.h,Xa2,Xa8,asIntOf,Xag,Xai,Xab,c1,and_self,if_true,T.sz,XgJ]
   .simp only[execOp,e1,XbI,Xbk,Xbm,run_underlying S.h,Xa2,Xa8,asIntOf,Xag,Xai,Xab,and_self,if_true,T.sz,XgJ,Xak]
  .left
   refine⟨trivial,if n=l.toNat then o else o+l.toNat*Dat.sz α,n-l.toNat,by rw[show(r-l).toNat=r.toNat-l.toNat by omega];split<;>rfl,⟨by omega,by omega⟩,λh=>by rw[if_neg (by omega)]⟩
end ops
def Ky(z:Int):Option Int:=if -9223372036854775808<=z/\z<=9223372036854775807 then some z else none
def AC(a b:Int):Option Int:=Ky (a+b)
def GG(a b:Int):Option Int:=Ky (a-b)
def RX(a b:Int):Option Int:=Ky (a*b)
def JB(a b:Int):Option Int:=if 0<b then some (a.tdiv b)else none
theorem Zdc{m k:Int}(h3:0<k)(h1:-9223372036854775808<=m)(h2:m<=9223372036854775807):-9223372036854775808<=m.tdiv k/\m.tdiv k<=9223372036854775807:=by
 rcases Int.le_total 0 m with h|h
 .rw [XdK h];have h4:=Xe1 h (show 0<=k by omega);have h5:=XeO k h;omega
 .have e:m.tdiv k=-((-m).tdiv k):=by rw[Int.neg_tdiv,Int.neg_neg]
  have hn:0<=-m:=by omega
  rw[e,XdK hn];have h4:=Xe1 hn (show 0<=k by omega);have h5:=XeO k hn;omega
def RM(a b:Int):Option Int:=if 0<=a/\0<b then some (a%b)else none
def cnt(s:Int):Option Nat:=if 0<=s then some s.toNat else none
def cut(n:Nat)(l r:Int):Option Unit:=if 0<=l/\l<=r/\r<=n then some ()else none
def Dv(bt:Nat)(n:Int):Option Unit:=if 0<=n/\n*bt<=140737488355328/\n<=140737488351232 then some ()else none
theorem CW{z y:Int}(h:Ky z=some y):z=y/\-9223372036854775808<=z/\z<=9223372036854775807:=by
 unfold Ky at h;split at h
 .injection h with h;exact⟨h,‹_›⟩
 .cases h
theorem ZX{n:Nat}{l r:Int}{u:Unit} (h:cut n l r=some u):0<=l/\l<=r/\r<=n:=by
 unfold cut at h;split at h
 .rename_i hc;exact hc
 .cases h
theorem A6{bt:Nat}{n:Int}{u:Unit} (h:Dv bt n=some u):0<=n/\n*bt<=140737488355328/\n<=140737488351232:=by
 unfold Dv at h;split at h
 .rename_i hc;exact hc
 .cases h
theorem U2{s:Int}{k:Nat} (h:cnt s=some k):0<=s/\s.toNat=k:=by
 unfold cnt at h;split at h
 .injection h with h;exact⟨‹_›,h⟩
 .cases h
section ops
variable {P:Program}{B0:Nat}{A:Nat->Prop}{Ω:List Pe}{Γ:Env}{dst:Option Tmp}{ty:TypeId}{pos:String}{aft:Array Edge}{gd:Option (Nat×Bool)}
theorem D6{o:Oper}{τ σ:Ty} (h:τ.le σ) (k:OpY P B0 A Ω Γ o τ):OpY P B0 A Ω Γ o σ:=λa w hB hu hp hl=>by
 have:=k a w hB hu hp hl;generalize (execOp a.eval o).run P w=r at *;cases r with
 | ok x w'=>
  cases x<;>simp only[IP]at this⊢
  case value v=>exact⟨this.1,h _ _ _ this.2⟩
  case skip=>exact⟨this.1,h _ _ _ this.2⟩
  case enter f args=>exact⟨this.1,this.2.mono λe w'' ⟨v,h1,h2,h3⟩=>⟨v,h1,h2,h _ _ _ h3⟩⟩
 | halt x w'=>simp only[IP]at this
section int
variable {x y:Operand}{τ σ:Ty}{t u:TypeId}{m k z:Int}[hsx:Has Γ x τ] [hx:AsI τ m] [hsy:Has Γ y σ] [hy:AsI σ k]
include hsx hx hsy hy
theorem HB(h:AC m k=some z):OpY P B0 A Ω Γ ⟨dst,.binOp .add t x y u,ty,pos,aft,gd⟩ (D z):=by
 obtain⟨rfl,h1,h2⟩:=CW h;exact D6 (I_D h1 h2) (OpY.add h1 h2)
theorem OpD.sub(h:GG m k=some z):OpY P B0 A Ω Γ ⟨dst,.binOp .sub t x y u,ty,pos,aft,gd⟩ (D z):=by
 obtain⟨rfl,h1,h2⟩:=CW h;exact D6 (I_D h1 h2) (OpY.sub h1 h2)
theorem OpD.mul(h:RX m k=some z):OpY P B0 A Ω Γ ⟨dst,.binOp .mul t x y u,ty,pos,aft,gd⟩ (D z):=by
 obtain⟨rfl,h1,h2⟩:=CW h;exact D6 (I_D h1 h2) (OpY.mul h1 h2)
end int
section intD
variable {x y:Operand}{τ σ:Ty}{t u:TypeId}{m k z:Int}[hsx:Has Γ x τ] [hx:ToD τ Int inferInstance m] [hsy:Has Γ y σ] [hy:ToD σ Int inferInstance k]
include hsx hx hsy hy
theorem ZeI{op:BinOp}{a:Act}{w:World} (hl:∀s,.tmp s∈(Op.binOp op t x y u).operands.toList->(Γ s).p A w (a.tmps.getD s undef)) :
  a.eval x=.int .i64 m/\a.eval y=.int .i64 k/\FA m/\FA k:=by
 have h1:=hx.le _ _ _ (Zy (x:=x) (τ:=τ) (op:=.binOp op t x y u) (by simp[Xae]) hl);have h2:=hy.le _ _ _ (Zy (x:=y) (τ:=σ) (op:=.binOp op t x y u) (by simp[Xae]) hl);exact⟨D_I _ _ _ h1,D_I _ _ _ h2,XgL h1,XgL h2⟩
theorem OpD.quo(h:JB m k=some z):OpY P B0 A Ω Γ ⟨dst,.binOp .quo t x y u,ty,pos,aft,gd⟩ (D z):=λa w hB hu hp hl=>by
 unfold JB at h;split at h
 .rename_i hc
  injection h with h;subst h;obtain⟨e1,e2,hm,hk⟩:=ZeI (x:=x) (y:=y) (τ:=τ) (σ:=σ) (t:=t) (u:=u) (m:=m) (k:=k) (A:=A) (op:=.quo) hl;have hd:=Zdc hc hm.1 hm.2
  haveI:AsI τ m:=⟨hx.le.trans D_I⟩
  haveI:AsI σ k:=⟨hy.le.trans D_I⟩
  exact D6 (I_D hd.1 hd.2) (ZbQ (x:=x) (y:=y) (τ:=τ) (σ:=σ) (m:=m) (k:=k) hd.1 hd.2 hc) a w hB hu hp hl
 .cases h
theorem OpD.rem(h:RM m k=some z):OpY P B0 A Ω Γ ⟨dst,.binOp .rem t x y u,ty,pos,aft,gd⟩ (D z):=λa w hB hu hp hl=>by
 unfold RM at h;split at h
 .rename_i hc
  injection h with h;subst h;obtain⟨e1,e2,hm,hk⟩:=ZeI (x:=x) (y:=y) (τ:=τ) (σ:=σ) (t:=t) (u:=u) (m:=m) (k:=k) (A:=A) (op:=.rem) hl;have hd0:0<=m%k:=Int.emod_nonneg _ (by omega);have hd1:m%k<k:=Int.emod_lt_of_pos _ hc.2
  haveI:AsI τ m:=⟨hx.le.trans D_I⟩
  haveI:AsI σ k:=⟨hy.le.trans D_I⟩
  exact D6 (I_D (by omega) (by have:=hk.2;omega)) (OpY.rem (x:=x) (y:=y) (τ:=τ) (σ:=σ) (m:=m) (k:=k) hc.1 hc.2) a w hB hu hp hl
 .cases h
end intD
theorem OpD.min{x y:Operand}{τ σ:Ty}{ts:Array TypeId}{m k:Int}[hsx:Has Γ x τ] [hx:ToD τ Int inferInstance m] [hsy:Has Γ y σ] [hy:ToD σ Int inferInstance k] :
  OpY P B0 A Ω Γ ⟨dst,.call { callee:=.builtin .min,args:=#[x,y],argTypes:=ts },ty,pos,aft,gd⟩ (D (min m k)):=λa w hB hu hp hl=>by
 have h1:=XgL (hx.le _ _ _ (Zy (x:=x) (τ:=τ) (op:=.call { callee:=.builtin .min,args:=#[x,y],argTypes:=ts }) (by simp[Xae,XaE]) hl));have h2:=XgL (hy.le _ _ _ (Zy (x:=y) (τ:=σ) (op:=.call { callee:=.builtin .min,args:=#[x,y],argTypes:=ts }) (by simp[Xae,XaE]) hl))
 haveI:AsI τ m:=⟨hx.le.trans D_I⟩
 haveI:AsI σ k:=⟨hy.le.trans D_I⟩
 have h1:FA m:=h1;have h2:FA k:=h2;unfold FA at h1 h2;exact D6 (I_D (by omega) (by omega)) (ZbU (x:=x) (y:=y) (τ:=τ) (σ:=σ) (m:=m) (k:=k)) a w hB hu hp hl
theorem OpD.max{x y:Operand}{τ σ:Ty}{ts:Array TypeId}{m k:Int}[hsx:Has Γ x τ] [hx:ToD τ Int inferInstance m] [hsy:Has Γ y σ] [hy:ToD σ Int inferInstance k] :
  OpY P B0 A Ω Γ ⟨dst,.call { callee:=.builtin .max,args:=#[x,y],argTypes:=ts },ty,pos,aft,gd⟩ (D (max m k)):=λa w hB hu hp hl=>by
 have h1:=XgL (hx.le _ _ _ (Zy (x:=x) (τ:=τ) (op:=.call { callee:=.builtin .max,args:=#[x,y],argTypes:=ts }) (by simp[Xae,XaE]) hl));have h2:=XgL (hy.le _ _ _ (Zy (x:=y) (τ:=σ) (op:=.call { callee:=.builtin .max,args:=#[x,y],argTypes:=ts }) (by simp[Xae,XaE]) hl))
 haveI:AsI τ m:=⟨hx.le.trans D_I⟩
 haveI:AsI σ k:=⟨hy.le.trans D_I⟩
 have h1:FA m:=h1;have h2:FA k:=h2;unfold FA at h1 h2;exact D6 (I_D (by omega) (by omega)) (ZbV (x:=x) (y:=y) (τ:=τ) (σ:=σ) (m:=m) (k:=k)) a w hB hu hp hl
theorem Zem{t e:TypeId}{x:Operand}{τ:Ty}{α:Type}{i:Dat α}{xs:List α}[hsx:Has Γ x τ] [hx:AsL τ α i xs] [S:TSl P t e] :
  OpY P B0 A Ω Γ ⟨dst,.call { callee:=.builtin .len,args:=#[x],argTypes:=#[t] },ty,pos,aft,gd⟩ (D (xs.length:Int)):=λa w hB hu hp hl=>by
 have h1:=(XgL (hx.le _ _ _ (Zy (x:=x) (τ:=τ) (op:=.call { callee:=.builtin .len,args:=#[x],argTypes:=#[t] }) (by simp[Xae,XaE]) hl))).1;have h1:xs.length<=LG:=h1;unfold LG at h1;exact D6 (I_D (by omega) (by omega)) (OpY.len (x:=x) (τ:=τ) (xs:=xs)) a w hB hu hp hl
theorem KO{t e:TypeId}{x:Operand}[hsx:Has Γ x Ro] [S:TSl P t e] :
  OpY P B0 A Ω Γ ⟨dst,.call { callee:=.builtin .len,args:=#[x],argTypes:=#[t] },ty,pos,aft,gd⟩ (D (0:Int)):=
 D6 (I_D (by omega) (by omega)) Wv
theorem AK{t e:TypeId}{x:Operand}{τ:Ty}{b o m n:Nat}{pr:Prop}[hsx:Has Γ x τ] [ka:AsSv τ b pr o m] [S:TSl P t e] (hn:m=n) :
  OpY P B0 A Ω Γ ⟨dst,.call { callee:=.builtin .len,args:=#[x],argTypes:=#[t] },ty,pos,aft,gd⟩ (D (n:Int)):=λa w hB hu hp hl=>by
 subst hn;have h:=ka.le _ _ _ (Zy (x:=x) (τ:=τ) (op:=.call { callee:=.builtin .len,args:=#[x],argTypes:=#[t] }) (by simp[Xae,XaE]) hl);have h1:m<=9223372036854775807:=by
  rcases h with⟨_,o',c,_,h2,_⟩|⟨_,h2,_⟩
  .unfold maxLen at h2;omega
  .omega
 exact D6 (I_D (by omega) (by omega)) (Yv (x:=x) (τ:=τ) (b:=b) (o:=o) (m:=m) (pr:=pr)) a w hB hu hp hl
section cv
variable {s d:TypeId}{x:Operand}{τ:Ty}[hsx:Has Γ x τ]
include hsx
theorem Ub{m:UInt8}[hx:AsU8 τ m] [S:TIn P s .u8] [T:TIn P d .i64]:OpY P B0 A Ω Γ ⟨dst,.convert s d x,ty,pos,aft,gd⟩ (D (m.toNat:Int)):=D6 (I_D (by omega) (by have:=NB m;omega)) T5
theorem Ny{m:UInt64}{z:Int}[hx:AsU64 τ m] [S:TIn P s .u64] [T:TIn P d .i64] (h:Ky m.toNat=some z):OpY P B0 A Ω Γ ⟨dst,.convert s d x,ty,pos,aft,gd⟩ (D z):=by
 obtain⟨rfl,h1,h2⟩:=CW h;exact D6 (I_D h1 h2) (SM (by omega))
end cv
instance {n:Int}:AsCnt (D n) n:=⟨λA w v h=>⟨.i64,D_I _ _ _ h⟩⟩
section sl
variable {t e:TypeId}{x y z:Operand}{τ σ ρ:Ty}{α:Type}{i:Dat α}{xs:List α}{l r:Int}{u:Unit}
theorem Pa[Has Γ x τ][hx:AsL τ α i xs][Has Γ y σ][hy:AsIx σ l][S:TSl P t e][T:TDat P e α i]{v:α}(h:idx xs l=some v):OpY P B0 A Ω Γ ⟨dst,.indexAddr t x y,ty,pos,aft,gd⟩ (K3 v):=
 OpY.indexAddr (A3 h).1 (A3 h).2
theorem Wy[hsx:Has Γ x τ][hx:AsL τ α i xs][hsy:Has Γ y σ][hy:AsI σ l][hsz:Has Γ z ρ][hz:AsI ρ r][S:TSl P t e][T:TDat P e α i](h:cut xs.length l r=some u) :
  OpY P B0 A Ω Γ ⟨dst,.slice t x (some y) (some z) none,ty,pos,aft,gd⟩ (D ((xs.take r.toNat).drop l.toNat)):=by
 obtain⟨h1,h2,h3⟩:=ZX h;exact Ws h1 h2 h3
theorem Ua[hsx:Has Γ x τ][hx:AsL τ α i xs][hsz:Has Γ z ρ][hz:AsI ρ r][S:TSl P t e][T:TDat P e α i](h:cut xs.length 0 r=some u) :
  OpY P B0 A Ω Γ ⟨dst,.slice t x none (some z) none,ty,pos,aft,gd⟩ (D (xs.take r.toNat)):=by
 obtain⟨h1,h2,h3⟩:=ZX h;exact T1 h2 h3
theorem Rn[hsx:Has Γ x τ][hx:AsL τ α i xs][hsy:Has Γ y σ][hy:AsI σ l][S:TSl P t e][T:TDat P e α i](h:cut xs.length l xs.length=some u) :
  OpY P B0 A Ω Γ ⟨dst,.slice t x (some y) none none,ty,pos,aft,gd⟩ (D (xs.drop l.toNat)):=by
 obtain⟨h1,h2,h3⟩:=ZX h;exact Ri h1 h2
end sl
end ops
theorem NR{bt m k:Nat}{u:Unit} (h:Dv bt ((m+k:Nat):Int)=some u):(m+k)*bt<=140737488355328/\m+k<=LG:=by
 obtain⟨h1,h2,h3⟩:=A6 h;rw[<-XbQ]at h2;unfold LG;exact⟨by omega,by omega⟩
theorem Ea{bt:Nat}{n:Int}{u:Unit} (h:Dv bt n=some u):0<=n/\bt*n.toNat<=281474976710656/\n<=140737488351232:=by
 obtain⟨h1,h2,h3⟩:=A6 h;refine⟨h1,?_,h3⟩;have:((bt*n.toNat:Nat):Int)<=281474976710656:=by rw[XbQ,Int.toNat_of_nonneg h1,Int.mul_comm];omega
 omega
def Pq(b o:Nat)(pr:Prop):Ty:=⟨λ_ _ v=>pr/\v=.pointer (some ⟨b,o,none⟩),λ_ h=>h⟩
class AsPq(τ:Ty)(b o:outParam Nat)(pr:outParam Prop):Prop where
 le:τ.le (Pq b o pr)
instance {b o:Nat}{pr:Prop}:AsPq (Pq b o pr) b o pr:=⟨Ty.le.refl _⟩
instance {b o:Nat}:AsPq (Pt b o) b o True:=⟨λ_ _ _ h=>⟨trivial,h⟩⟩
instance {p:Prop}{τ:Ty}{b o:Nat}{pr:Prop}[h:Ft p] [k:AsPq τ b o pr]:AsPq (HY p τ) b o pr:=⟨λA w v x=>k.le A w v (x.1 h.h)⟩
section ops
variable {P:Program}{B0:Nat}{A:Nat->Prop}{Ω Ωs Ωr:List Pe}{Γ:Env}{dst:Option Tmp}{ty:TypeId}{pos:String}{aft:Array Edge}{gd:Option (Nat×Bool)}
variable {α β:Type}{i:Dat α}{j:Dat β}{t u e:TypeId}{f off:Nat}{get:α->β}{set:β->α->α}{upd:α->Ct}
instance {b o:Nat}{pr:Prop}:FaP (Pq b o pr) α off β (Pq b (o+off) pr):=⟨λh=>⟨b,o,h.2,h.1,rfl⟩⟩
theorem AL{x:Operand}{τ:Ty}{b o:Nat}{pr:Prop}{C:Ct}{v:α}[hx:Has Γ x τ] [q:AsPq τ b o pr] [T:TDat P t α i] [hb:HasB Ω b pr C] (p:Pl C o α i v upd):OpY P B0 A Ω Γ ⟨dst,.load t x,ty,pos,aft,gd⟩ (D v):=
 ZbX (τ:=τ) ⟨λ{A w u} hk hv=>by
  obtain⟨h1,h2⟩:=q.le _ _ _ hv;obtain⟨cs,g1,g2⟩:=hk _ hb.h h1;obtain⟨g3,g4⟩:=p.rd.h g2;exact⟨b,o,_,h2,g1.row g3,g4⟩⟩
theorem ZW{x:Operand}{τ0:Ty}{b o:Nat}{pr:Prop}{C:Ct}{τ:Ty}[hx:Has Γ x τ0] [q:AsPq τ0 b o pr] [hb:HasB Ω b pr C] [T:TDat P t (List α) Bv] (c:CeH C o τ):OpY P B0 A Ω Γ ⟨dst,.load t x,ty,pos,aft,gd⟩ τ:=λa w hB hu hp hl=>by
 obtain⟨hpr,e1⟩:=q.le _ _ _ (Zy (x:=x) (τ:=τ0) (op:=.load t x) (by simp[Xae]) hl);obtain⟨cs,g1,g2⟩:=hp _ hb.h hpr;obtain⟨k1,k2⟩:=c.h g2;have hag:(isAgg t).run P w=.ok false w:=T.ag w;have:(loadVar t ⟨b,o,none⟩).run P w=.ok (cs.getD o undef) w:=by
  unfold loadVar;rw[Xag,hag];simp only[Xab,Xbu,if_false];have hc:=g1.cell k1;rw[run_load,hc]
 simp only[execOp,Xea,e1,Xbm,Xag,Xai,Xab,this];exact⟨Xdg _ _,k2⟩
theorem Zt[S:TSl P t e][T:TDat P e α i]{x y:Operand}{τ σ:Ty}{b o m:Nat}{pr:Prop}{k:Int}[hx:Has Γ x τ] [ka:AsSv τ b pr o m] [Has Γ y σ] [hy:AsIx σ k] (h0:0<=k/\k<m) :
  OpY P B0 A Ω Γ ⟨dst,.indexAddr t x y,ty,pos,aft,gd⟩ (Pq b (o+k.toNat*Dat.sz α) pr):=
 XbH λa w hl=>by
  have h:=ka.le _ _ _ (Zy (x:=x) (τ:=τ) (op:=.indexAddr t x y) (by simp[Xae]) hl);obtain⟨kd,e2⟩:=hy.h (Zy (x:=y) (τ:=σ) (op:=.indexAddr t x y) (by simp[Xae]) hl);rcases h with⟨hp,o',c,e1,_,ho⟩|⟨_,h2,e1⟩
  .obtain rfl:=ho (by omega);refine⟨_,?_,hp,rfl⟩;have hin:0<=k/\k<(m:Int):=h0;simp only[execOp,e1,e2,Xfd,asIntOf,Xag,Xai,Xab,run_underlying S.h,hin,and_self,if_true,T.sz,Bf]
  .omega
theorem Ao{n:Nat}[S:TAr P t n e] [T:TDat P e α i] {x y:Operand}{τ σ:Ty}{b o:Nat}{pr:Prop}{k:Int}[hx:Has Γ x τ] [q:AsPq τ b o pr] [Has Γ y σ] [hy:AsIx σ k] (h0:0<=k/\k<n) :
  OpY P B0 A Ω Γ ⟨dst,.indexAddr t x y,ty,pos,aft,gd⟩ (Pq b (o+k.toNat*Dat.sz α) pr):=
 XbH λa w hl=>by
  obtain⟨hp,e1⟩:=q.le _ _ _ (Zy (x:=x) (τ:=τ) (op:=.indexAddr t x y) (by simp[Xae]) hl);obtain⟨kd,e2⟩:=hy.h (Zy (x:=y) (τ:=σ) (op:=.indexAddr t x y) (by simp[Xae]) hl);refine⟨_,?_,hp,rfl⟩;have hin:0<=k/\k<(n:Int):=h0;simp only[execOp,e1,e2,Xfd,asIntOf,Xbm,Xag,Xai,Xab,run_underlying S.h,hin,and_self,if_true,T.sz,Bf]
theorem ZD{b o:Nat}{pr:Prop}{C:Ct}{p x:Operand}{τ σ:Ty}{v y:α}[hp:Has Γ p τ] [q:AsPq τ b o pr] [pk:Pick Ω b pr C Ωr] [hx:Has Γ x σ] [T:TDat P t α i] [hy:ToD σ α i y] (pl:Pl C o α i v upd) :
  OpT P B0 Ωs Ω Γ ⟨none,.store t p x,ty,pos,aft,none⟩ (λ_:Unit=>Xb7) λ_=>⟨b,pr,upd y⟩::Ωr:=
 O9 (C:=C) rfl λA a w hk hl=>by
  obtain⟨hpr,e1⟩:=q.le _ _ _ (Zy (x:=p) (τ:=τ) (op:=.store t p x) (by simp[Xae]) hl);have h2:=hy.le _ _ _ (Zy (x:=x) (τ:=σ) (op:=.store t p x) (by simp[Xae]) hl);obtain⟨cs,g1,g2⟩:=hk ⟨b,pr,C⟩ (XaL _ (pk.perm.mem_iff.2 (Xay ..))) hpr;obtain⟨ds0,-,r0⟩:=LF h2;obtain⟨w',ds,k1,k2,k3,k4,k5⟩:=RG (P:=P) (t:=t) g1 ((pl.st y).h g2 r0).1 h2;refine⟨undef,λ_ _=>trivial,.inr ⟨hpr,w',cs,_,.inr ⟨?_,rfl⟩,g1,k3,k4,((pl.st y).h g2 k2).2⟩⟩;simp only[execOp,Xer,e1,Xbm,Xag,Xai,Xab,k1]
theorem AS{b o:Nat}{pr:Prop}{C C':Ct}{p x:Operand}{τ σ:Ty}[hp:Has Γ p τ] [q:AsPq τ b o pr] [pk:Pick Ω b pr C Ωr] [hx:Has Γ x σ] [T:TDat P t (List α) Bv] [oc:OneC σ] (c:CtH C o σ C') :
  OpT P B0 Ωs Ω Γ ⟨none,.store t p x,ty,pos,aft,none⟩ (λ_:Unit=>Xb7) λ_=>⟨b,pr,C'⟩::Ωr:=
 O9 (C:=C) rfl λA a w hk hl=>by
  obtain⟨hpr,e1⟩:=q.le _ _ _ (Zy (x:=p) (τ:=τ) (op:=.store t p x) (by simp[Xae]) hl);have h2:=Zy (x:=x) (τ:=σ) (op:=.store t p x) (by simp[Xae]) hl;obtain⟨cs,g1,g2⟩:=hk ⟨b,pr,C⟩ (XaL _ (pk.perm.mem_iff.2 (Xay ..))) hpr;obtain⟨h3,h4⟩:=oc.h h2;obtain⟨k1,k2⟩:=c.h g2 h2;have hs:Ab cs o [a.eval x]=cs.set o (a.eval x):=by
   refine AV (by rw[Zp (by simp;omega),XaA]) λq hq=>?_
   rw[ZT (by simp;omega)];simp only[Xad,Xdn]
   by_cases hqo:q=o
   .subst hqo;rw[if_pos (by omega),Xbh k1];simp
   .rw [if_neg (by omega),XbZ (Xc3 hqo)]
  obtain⟨w',r1,r2,r3,r4⟩:=Bp (P:=P) g1 (o:=o) (vs:=[a.eval x]) (by simp;omega) (by simp[h4]);refine⟨undef,λ_ _=>trivial,.inr ⟨hpr,w',cs,_,.inr ⟨?_,rfl⟩,g1,r2,r3,by rw[hs];exact k2⟩⟩;have hsz:(sizeOf t).run P w=.ok 1 w:=T.sz w;simp only[execOp,Xer,e1,Xbm,Xag,Xai,Xab,storeVar,hsz,h3];simp[r1]
theorem O1{C:Ct}{b o:Nat}{pr:Prop}{τ:Ty}{x:α}[q:AsPq τ b o pr] (p:Pl C o α i x upd):Y5 C b pr τ (K3 x):=λA w v hb h=>by
 obtain⟨hp,h2⟩:=q.le _ _ _ h;obtain⟨ha,cs,g1,g2⟩:=hb hp;obtain⟨e1,e2⟩:=p.rd.h g2;exact⟨b,o,_,h2,ha,g1.row e1,e2⟩
end ops
theorem ZP{α:Type}{xs:List α}{k:Int}{x:α}{m:Nat} (h:idx xs k=some x) (hm:m=xs.length):0<=k/\k<m:=by rw[hm];exact JZ h
theorem PlS.all{α:Type}{i:Dat α}{xs:List α}{c:Nat}:PlS (Row xs c) 0 α i xs λys=>Row (splice xs 0 ys) c:=by
 have:=Vh (i:=i) (xs:=xs) (c:=c) (n:=xs.length) (Xau _)
 rwa [XaB (Xau _)]at this
theorem EY{m:Nat}{n:Nat}{l r:Int}{u:Unit} (h:cut n l r=some u) (hm:m=n):0<=l/\l<=r/\r<=m:=by rw[hm];exact ZX h
section ts
variable {P:Program}{r:Ref}{n:Nat}{ops:Array Oper}{k:Nat}{rest:List Oper}{Γ:Env}{Ω Ωr:List Pe}{Q:Exit->Act->World->Prop}[op:Opens r]
variable {d:Tmp}{ty:TypeId}{pos:String}{aft:Array Edge}{α:Type}{i:Dat α}{t e:TypeId}{bt:Nat}
theorem TS.box{x:Operand}{τ:Ty}{y:α}[T:TDat P t α i] [hx:Has Γ x τ] [hy:ToD τ α i y] (hd:XaZ d n=true)
  (hk:∀b,TS P r n ops rest (k+1) (Γ.set d (Pt b 0)) (⟨b,True,One y⟩::Ω) Q):TS P r n ops (⟨some d,.box t x,ty,pos,aft,none⟩::rest) k Γ Ω Q:=
 D4 OpT.box hd λg=>hk g.1
theorem TS.alloc[T:TEl P t α i bt](hd:XaZ d n=true)
  (hk:∀b,TS P r n ops rest (k+1) (Γ.set d (Pt b 0)) (⟨b,True,One (Dat.z:α)⟩::Ω) Q):TS P r n ops (⟨some d,.alloc t,ty,pos,aft,none⟩::rest) k Γ Ω Q:=
 D4 (OpT.alloc (by obtain⟨ti,z,h1,h2,_,_,h3⟩:=T.h;exact⟨ti,z,h1,h2,h3⟩)) hd λg=>hk g.1
theorem TS.build[S:TSl P t e][T:TEl P e α i bt]{m:Nat}{parts:Array (Nat×Operand)} (xs:List Operand) {ys:List α}[h:HasAll Γ xs α i ys]
  (hp:parts=(xs.zipIdx.map λp=>(p.2,p.1)).toArray) (hn:xs.length=m) (hs:m*Dat.sz α<=16777216) (hd:XaZ d n=true)
  (hk:∀b,TS P r n ops rest (k+1) (Γ.set d (Sl b True 0 ys.length ys.length)) (⟨b,True,Row ys ys.length⟩::Ω) Q):TS P r n ops (⟨some d,.buildSlice t m parts,ty,pos,aft,none⟩::rest) k Γ Ω Q:=
 D4 (OpT.buildSlice xs hp hn hs) hd λg=>hk g.1
theorem FJ[S:TSl P t e][T:TEl P e α i bt]{x y:Operand}{τ σ:Ty}{m q:Int}{u:Unit}[hx:Has Γ x τ] [kx:AsI τ m] [hy:Has Γ y σ] [kk:AsI σ q] (h0:Dv bt q=some u) (hm:0<=m/\m<=q) (hd:XaZ d n=true)
  (hk:∀b,TS P r n ops rest (k+1) (Γ.set d (Sl b True 0 m.toNat q.toNat)) (⟨b,True,Row (Xac q.toNat (Dat.z (α:=α))) q.toNat⟩::Ω) Q):TS P r n ops (⟨some d,.makeSlice t x y,ty,pos,aft,none⟩::rest) k Γ Ω Q:=
 D4 (OpT.makeSlice hm.1 hm.2 (Ea h0).2.1 (Ea h0).2.2) hd λg=>hk g.1
theorem TS.app[S:TSl P t e][T:TEl P e α i bt]{s x:Operand}{σ:Ty}{b m c c':Nat}{pr:Prop}{xs ys:List α}{u:Unit}[hs:Has Γ s (Sl b pr 0 m c')] [sp:Pick Ω b pr (Row xs c) Ωr] [hx:Has Γ x σ] (hl:SrcOf Ω σ α i ys)
  (hr:Dv bt ((xs.length+ys.length:Nat):Int)=some u) (hc:c'=c) (hm:m=xs.length) (hd:XaZ d n=true)
  (hk:∀b pr c,TS P r n ops rest (k+1) (Γ.set d (Sl b pr 0 (xs++ys).length c)) (⟨b,pr,Row (xs++ys) c⟩::Ωr) Q):TS P r n ops (⟨some d,.call { callee:=.builtin .append,args:=#[s,x],argTypes:=#[t,t] },ty,pos,aft,none⟩::rest) k Γ Ω Q:=
 D4 (Xg9 hl hc hm (NR hr).1 (NR hr).2) hd λg=>hk g.1 g.2.1 g.2.2
theorem ZfX{gd:Option (Nat×Bool)}{o:Op}{τ:Ty}{Ω':List Pe} (h:OpT P r.w.heap.size [] Ω Γ ⟨some d,o,ty,pos,aft,gd⟩ (λ_:Unit=>τ) λ_=>Ω') (hd:XaZ d n=true) (hk:TS P r n ops rest (k+1) (Γ.set d τ) Ω' Q):TS P r n ops (⟨some d,o,ty,pos,aft,gd⟩::rest) k Γ Ω Q:=
 D4 h hd λ_=>hk
theorem Bk{gd:Option (Nat×Bool)}{o:Op}{τ:Ty}{Ω':List Pe} (h:OpT P r.w.heap.size [] Ω Γ ⟨none,o,ty,pos,aft,gd⟩ (λ_:Unit=>τ) λ_=>Ω') (hk:TS P r n ops rest (k+1) Γ Ω' Q):TS P r n ops (⟨none,o,ty,pos,aft,gd⟩::rest) k Γ Ω Q:=
 Zgn h λ_=>hk
end ts
section cut
variable {P:Program}{r:Ref}{n:Nat}{Γ:Env}{Ω Ωr:List Pe}{Q:Exit->Act->World->Prop}
def ZeQ{σ ν:Type}(r:Ref)(n:Nat)(p:σ->Prop)(Δ:σ->ν->Env)(J:σ->ν->List Pe)(Q:Exit->Act->World->Prop):Exit->Act->World->Prop
 | .normal,a,w=>∃s m,p s/\Stt r n (Δ s m) (J s m) a w
 | e,a,w=>Q e a w
theorem Zs{σ ν:Type}{c:Code} (p:σ->Prop) (Δ:σ->ν->Env) (J:σ->ν->List Pe) (h:TC P r n Γ Ω c (ZeQ r n p Δ J Q)) (k:∀s m,p s->TE r n (Δ s m) (J s m) Q .normal):TC P r n Γ Ω c Q:=λa w hs=>wpIn_mono (h a w hs) λe a' w' hq=>by
 cases e with
 | normal=>obtain⟨s,m,h1,h2⟩:=hq;exact k s m h1 a' w' h2
 | _=>exact hq
theorem Zl{σ ν:Type}{p:σ->Prop}{Δ:σ->ν->Env}{J:σ->ν->List Pe} (s:σ) (m:ν) (hp:p s) (h:Γ.le (Δ s m)) (j:Fb Ω (J s m)):TE r n Γ Ω (ZeQ r n p Δ J Q) .normal:=
 λ_ _ hs=>⟨s,m,hp,(hs.le h).less j⟩
theorem TQ{σ ν:Type}{p:σ->Prop}{Δ:σ->ν->Env}{J:σ->ν->List Pe}{id:Nat} (h:TE r n Γ Ω Q (.exit id)):TE r n Γ Ω (ZeQ r n p Δ J Q) (.exit id):=h
theorem Zw{σ ν:Type}{p:σ->Prop}{Δ:σ->ν->Env}{J:σ->ν->List Pe} (h:TE r n Γ Ω Q .ret):TE r n Γ Ω (ZeQ r n p Δ J Q) .ret:=h
theorem ZF{c:Code}(b:Nat){pr:Prop}{C C':Ct}[pk:Pick Ω b pr C Ωr] (h:C=C') (k:TC P r n Γ (⟨b,pr,C'⟩::Ωr) c Q):TC P r n Γ Ω c Q:=λa w hs=>k a w (by subst h;exact hs.less (Xcz pk.perm))
theorem Ai{e:Exit}(b:Nat){pr:Prop}{C C':Ct}[pk:Pick Ω b pr C Ωr] (h:C=C') (k:TE r n Γ (⟨b,pr,C'⟩::Ωr) Q e):TE r n Γ Ω Q e:=λa w hs=>k a w (by subst h;exact hs.less (Xcz pk.perm))
end cut
theorem Ag{α:Type}{i:Dat α}{x y:α} (h:some x=some y):One x=One y:=by injection h with h;rw[h]
theorem Ah{α:Type}{i:Dat α}{x y:List α}{c:Nat} (h:some x=some y):Row x c=Row y c:=by injection h with h;rw[h]
theorem DC{C C':Ct}{o:Nat}{τ:Ty} (h:C=C'):C.mix o τ=C'.mix o τ:=by rw[h]
theorem RU{τ:Ty}{α:Type}{i:Dat α}{x y:α}[k:ToD τ α i x] (h:some x=some y):τ.le (D y):=by injection h with h;rw[<-h];exact k.le
theorem Bs{α β γ:Type}{o:α⊕β}{s:α}{f:α->Option γ}{g:β->Option γ}{r:γ} (F:o=.inl s) (h:elS o f g=some r):f s=some r:=by subst F;exact h
theorem AQ{α β γ:Type}{o:α⊕β}{q:β}{f:α->Option γ}{g:β->Option γ}{r:γ} (F:.inr q=o) (h:elS o f g=some r):g q=some r:=by subst F;exact h
instance ZgC{n:Nat}[h:BoolIs (Xbn n 9223372036854775808) true]:Ft (FA (-(no_index (OfNat.ofNat n)))):=⟨by
 have:=Xcb h.h;show FA (-(n:Int));unfold FA;omega⟩
instance Zgw{Θ Γ:Env}{x:Operand}{τ:Ty}[h:Has Θ x τ]:Has (Xce Θ Γ) x τ:=⟨λa A w hl=>h.le a A w λt e=>(hl t e).1⟩
instance (priority:=100) Has.orR {Θ Γ:Env}{x:Operand}{τ:Ty}[h:Has Γ x τ]:Has (Xce Θ Γ) x τ:=⟨λa A w hl=>h.le a A w λt e=>(hl t e).2⟩
theorem nF{b:Bool}(h:b=false):(!b)=true:=by rw[h];rfl
theorem aT{x y:Bool}(h:x=true)(k:y=true):(x&&y)=true:=by rw[h,k];rfl
theorem Ft.l{p q:Prop}(h:Ft (p/\q)):Ft p:=⟨h.h.1⟩
theorem Y7{p q:Prop}(h:Ft (p/\q)):Ft q:=⟨h.h.2⟩
instance {p:Prop}{b want d:Bool}{τ:Ty}[h:Ft p] [k:AsB τ d]:AsBC (HY (p/\b=want) τ) b want d:=⟨λe A w v x=>k.le A w v (x.1 ⟨h.h,e⟩)⟩
theorem toD{τ:Ty}{α:Type}{i:Dat α}{x:α}[k:ToD τ α i x] {A:Nat->Prop}{w:World}{v:Value} (h:τ.p A w v):(D x).p A w v:=k.le _ _ _ h
theorem IQ{A:Nat->Prop}{w:World}{α:Type}{i:Dat α}{xs:List α}{e:Ending}{w':World} (hA:∀k,w.heap.size<=k->A k)
  (h:M7 A w [] (λg:Nat×Prop×Nat=>Sl g.1 g.2.1 0 xs.length g.2.2) (λg=>[⟨g.1,g.2.1,Row xs g.2.2⟩]) e w'):Ret A w (D xs) e w':=by
 obtain⟨v,⟨b,pr,c⟩,h1,h2⟩:=h;refine⟨v,h1,⟨h2.st.os,h2.st.tape,h2.st.output,h2.st.size,λk hk=>h2.st.old k hk λ⟨e,he,_⟩=>absurd he (by simp),λk hk=>h2.st.cells k hk λ⟨e,he,_⟩=>absurd he (by simp)⟩,?_⟩;refine ZJ (C:=Row xs c) (b:=b) (pr:=pr) (τ:=Sl b pr 0 xs.length c) PlS.all rfl A w' v (λhp=>?_) (Ty.keep _ (Xd1 λk _ hk=>(ZC.1 hk).1) h2.ty);obtain⟨cs,g1,g2⟩:=h2.ks ⟨b,pr,Row xs c⟩ (by simp) hp;refine⟨?_,cs,g1,(Row xs c).keep (Xd1 λk _ hk=>(ZC.1 hk).1) g2⟩;rcases h2.nw b ⟨_,Xal.2 rfl,hp,rfl⟩with⟨e,he,_⟩|h
 .exact absurd he (by simp)
 .exact hA b h
theorem CtH.nil{C:Ct}{A:Nat->Prop}{w:World}{cs:List Value}{o b:Nat} (hc:C.p A w cs) (h:cs[o]?=some (.slice none 0 0)):(C.mix o (Sl b False 0 0 0)).p A w cs:=by
 obtain⟨h1,h2⟩:=Xav.1 h;exact⟨cs,.slice none 0 0,hc,h1,.inr ⟨λh=>h,rfl,rfl,rfl⟩,by rw[<-h2];simp⟩
theorem Zd{Ω Ωr Δ:List Pe}{b:Nat}{pr:Prop}{C C':Ct}[h:Pick Ω b pr C Ωr] (e:C=C') (k:Fb Ωr Δ):Fb Ω (⟨b,pr,C'⟩::Δ):=(Xcz h.perm).trans (e▸Xff k)
theorem AP{α:Type}{i:Dat α}{xs:List α}{c:Nat}{k:Int}{x:α} (h:idx xs k=some x):Pl (Row xs c) (0+k.toNat*Dat.sz α) α i x λy=>Row (xs.set k.toNat y) c:=by
 rw[Xbg];exact Pl.row h
theorem EB{α:Type}{x y:List α}{m:Nat} (h:some x=some y) (hn:m=x.length):m=y.length:=by injection h with h;rw[<-h];exact hn
theorem AY{α:Type}{b o c m:Nat}{pr:Prop}{x y:List α} (h:some x=some y) (hn:m=x.length):(Sl b pr o m c).le (Sl b pr o y.length c):=by rw[EB h hn];exact Ty.le.refl _
theorem Fw{C:Ct}{o b q m n c:Nat}{pr:Prop} (e:m=n):C.mix o (Sl b pr q m c)=C.mix o (Sl b pr q n c):=by rw[e]
theorem EX{α β γ:Type}{a:α}{b:β}{f:α->β->Option γ}{r:γ} (h:el2 (a,b) f=some r):f a b=some r:=h
theorem ZcM{α β γ δ:Type}{a:α}{b:β}{c:γ}{f:α->β->γ->Option δ}{r:δ} (h:el3 (a,b,c) f=some r):f a b c=some r:=h
theorem ZcL{α β γ δ ε:Type}{a:α}{b:β}{c:γ}{d:δ}{f:α->β->γ->δ->Option ε}{r:ε} (h:el4 (a,b,c,d) f=some r):f a b c d=some r:=h
theorem Jy{n:Nat}{l r:Int}{u:Unit} (h:cut n l r=some u):l.toNat+(r-l).toNat<=n:=by have:=ZX h;omega
theorem M0{n:Nat}{r:Int}{u:Unit} (h:cut n 0 r=some u):r.toNat<=n:=by have:=ZX h;omega
theorem Ip{α:Type}{xs:List α}{n:Nat}{l r:Int}{u:Unit} (h:cut n l r=some u) (hn:xs.length=n):(r-l).toNat=((xs.drop l.toNat).take (r-l).toNat).length:=by have:=ZX h;simp;omega
theorem XS{α:Type}{xs:List α}{m:Nat}{l:Int}{u:Unit} (h:cut xs.length l xs.length=some u) (hm:m=xs.length):l.toNat+((m:Int)-l).toNat<=xs.length:=by have:=ZX h;omega
theorem Zbm{α:Type}{xs:List α}{m:Nat}{l:Int}{u:Unit} (h:cut xs.length l xs.length=some u) (hm:m=xs.length):((m:Int)-l).toNat=((xs.drop l.toNat).take ((m:Int)-l).toNat).length:=by have:=ZX h;simp;omega
theorem HU{α:Type}{i:Dat α}{xs:List α}{c k n:Nat} (h:k+n<=xs.length):PlS (Row xs c) (0+k*Dat.sz α) α i ((xs.drop k).take n) λys=>Row (splice xs k ys) c:=by
 rw[Xbg];exact PlS.row h
theorem Xn{bt:Nat}{m n:Int}{u v:Unit} (h:Dv bt n=some u) (k:cut n.toNat 0 m=some v):0<=m/\m<=n:=by
 have:=ZX k;have:=A6 h;omega
theorem NV{α:Type}{z:α}{bt:Nat}{m n:Int}{u v:Unit} (h:Dv bt n=some u) (k:cut n.toNat 0 m=some v):m.toNat<=(Xac n.toNat z).length:=by
 have:=ZX k;simp;omega
theorem FH{α:Type}{n:Nat}{v:Vec α n}{k:Nat}:v.put k []=v:=by
 unfold Vec.put splice
 split
 .cases v;simp
 .rfl
theorem slD{b c m n:Nat}{pr:Prop}{A:Nat->Prop}{w:World}{v:Value} (e:m=n) (h:(Sl b pr 0 m c).p A w v):(Sl b pr 0 n c).p A w v:=e▸h
theorem Zfw{C C':Ct}(h:∀A w cs,C.p A w cs->C'.p A w cs):(VC C).le (VC C'):=λA w v ⟨cs,h1,h2⟩=>⟨cs,h A w cs h1,h2⟩
theorem I8{α:Type}{i:Dat α}{C C':Ct}{o b m n c:Nat}{pr:Prop} (hs:CtSet C o (List α) Bv [] C') (e:m=n):∀A w cs,(C.mix o (Sl b pr 0 m c)).p A w cs->(C'.mix o (Sl b pr 0 n c)).p A w cs:=λA w cs ⟨cs0,v,h1,h2,h3,h4⟩=>by
 subst e;have hz:Dat.rd A w [.slice none 0 0] ([]:List α):=⟨none,0,rfl,Xau _,by unfold maxLen;omega,by unfold LG;simp,λi hi=>absurd hi (by simp)⟩;obtain⟨-,g2⟩:=hs.h h1 hz;have hss:Ab cs0 o [XfB none 0 0]=cs0.set o (.slice none 0 0):=by
  refine AV (by rw[Zp (by simp;omega),XaA]) λq hq=>?_
  rw[ZT (by simp;omega)];simp only[Xad,Xdn]
  by_cases hqo:q=o
  .subst hqo;rw[if_pos (by omega),Xbh h2];simp
  .rw [if_neg (by omega),XbZ (Xc3 hqo)]
 rw[hss]at g2;exact⟨_,v,g2,by simpa using h2,h3,by rw[h4];simp⟩
section ops
variable {P:Program}{B0:Nat}{A:Nat->Prop}{Ω:List Pe}{Γ:Env}{dst:Option Tmp}{ty:TypeId}{pos:String}{aft:Array Edge}{gd:Option (Nat×Bool)}
def shl8(m:UInt8)(s:Int):UInt8:=XaN (m.toNat*2^s.toNat)
def shr8(m:UInt8)(s:Int):UInt8:=XaN (m.toNat/2^s.toNat)
def shl16(m:UInt16)(s:Int):UInt16:=Xcj (m.toNat*2^s.toNat)
def shr16(m:UInt16)(s:Int):UInt16:=Xcj (m.toNat/2^s.toNat)
def shr32(m:UInt32)(s:Int):UInt32:=UInt32.ofNat (m.toNat/2^s.toNat)
def shl64(m:UInt64)(s:Int):UInt64:=Xap (m.toNat*2^s.toNat)
def shr64(m:UInt64)(s:Int):UInt64:=Xap (m.toNat/2^s.toNat)
section
variable {x y:Operand}{τ σ:Ty}{t u:TypeId}{s:Int}[hsx:Has Γ x τ] [hsy:Has Γ y σ] [hy:AsCnt σ s]
include hsx hsy hy
theorem OpD.shl8{m:UInt8}[hx:AsU8 τ m] (h:0<=s):OpY P B0 A Ω Γ ⟨dst,.binOp .shl t x y u,ty,pos,aft,gd⟩ (U8 (Tr.shl8 m s)):=OpY.shl8 h
theorem OpD.shr8{m:UInt8}[hx:AsU8 τ m] (h:0<=s):OpY P B0 A Ω Γ ⟨dst,.binOp .shr t x y u,ty,pos,aft,gd⟩ (U8 (Tr.shr8 m s)):=OpY.shr8 h
theorem OpD.shl16{m:UInt16}[hx:AsU16 τ m] (h:0<=s):OpY P B0 A Ω Γ ⟨dst,.binOp .shl t x y u,ty,pos,aft,gd⟩ (U16 (Tr.shl16 m s)):=OpY.shl16 h
theorem OpD.shr16{m:UInt16}[hx:AsU16 τ m] (h:0<=s):OpY P B0 A Ω Γ ⟨dst,.binOp .shr t x y u,ty,pos,aft,gd⟩ (U16 (Tr.shr16 m s)):=OpY.shr16 h
theorem OpD.shr32{m:UInt32}[hx:AsU32 τ m] (h:0<=s):OpY P B0 A Ω Γ ⟨dst,.binOp .shr t x y u,ty,pos,aft,gd⟩ (U32 (Tr.shr32 m s)):=OpY.shr32 h
theorem OpD.shl64{m:UInt64}[hx:AsU64 τ m] (h:0<=s):OpY P B0 A Ω Γ ⟨dst,.binOp .shl t x y u,ty,pos,aft,gd⟩ (U64 (Tr.shl64 m s)):=OpY.shl64 h
theorem OpD.shr64{m:UInt64}[hx:AsU64 τ m] (h:0<=s):OpY P B0 A Ω Γ ⟨dst,.binOp .shr t x y u,ty,pos,aft,gd⟩ (U64 (Tr.shr64 m s)):=OpY.shr64 h
end
end ops
section s3
variable {P:Program}{B0:Nat}{A:Nat->Prop}{Ω:List Pe}{Γ:Env}{dst:Option Tmp}{ty:TypeId}{pos:String}{aft:Array Edge}{gd:Option (Nat×Bool)}
variable {α:Type}{i:Dat α}{t e:TypeId}{x y z q:Operand}{τ σ ρ υ:Ty}{b o m:Nat}{pr:Prop}{l r k:Int}{u v:Unit}{xs:List α}
theorem SC[S:TSl P t e][T:TDat P e α i][hx:Has Γ x τ][ka:AsSv τ b pr o m][Has Γ y σ][hy:AsI σ l][Has Γ z ρ][hz:AsI ρ r][Has Γ q υ][hq:AsI υ k](h:cut k.toNat l r=some u)(h':cut m 0 k=some v) :
  OpY P B0 A Ω Γ ⟨dst,.slice t x (some y) (some z) (some q),ty,pos,aft,gd⟩ Xb7:=
 XbH λa w hl=>by
  have h2:=ZX h;have h3:=ZX h';have h:=ka.le _ _ _ (Zy (x:=x) (τ:=τ) (op:=.slice t x (some y) (some z) (some q)) (by simp[Xae]) hl);have ey:a.eval y=.int .i64 l:=hy.le _ _ _ (Zy (x:=y) (τ:=σ) (op:=.slice t x (some y) (some z) (some q)) (by simp[Xae]) hl);have ez:a.eval z=.int .i64 r:=hz.le _ _ _ (Zy (x:=z) (τ:=ρ) (op:=.slice t x (some y) (some z) (some q)) (by simp[Xae]) hl);have eq:a.eval q=.int .i64 k:=hq.le _ _ _ (Zy (x:=q) (τ:=υ) (op:=.slice t x (some y) (some z) (some q)) (by simp[Xae]) hl);rcases h with⟨hp,o',c,ex,hmc,ho⟩|⟨hp,rfl,ex⟩
  .refine ⟨.slice (if k.toNat=l.toNat then some ⟨b,o',none⟩else some ⟨b,o' + l.toNat*Dat.sz α,none⟩) (r.toNat-l.toNat) (k.toNat-l.toNat),?_,trivial⟩;have c0:0<=k/\k<=(c:Int):=by omega
   have c1:0<=r/\r<=(k.toNat:Int):=by omega
   have c2:0<=l/\l<=(r.toNat:Int):=by omega
   simp only[execOp,ex,ey,ez,eq,Xbk,XbY,Xbj,Xag,run_underlying S.h,Xab,Xa2,Xa8,asIntOf,Xai,c0,c1,c2,and_self,if_true,T.sz,Bf]
  .have hk:k=0:=by omega
   have hr:r=0:=by omega
   have hl0:l=0:=by omega
   subst hk;subst hr;subst hl0;refine⟨.slice none 0 0,?_,trivial⟩;simp[execOp,ex,ey,ez,eq,Xbk,XbY,run_underlying S.h,Xa2,Xa8,asIntOf,T.sz]
end s3
section hasb
instance (priority:=800){b:Nat}{pr:Prop}{C:Ct}{Ω Ω' Ωr:List Pe}[h:Pick Ω' b pr C Ωr]:Pick (Ω++Ω') b pr C (Ω++Ωr):=⟨(h.perm.append_left Ω).trans List.perm_middle⟩
instance (priority:=900){b:Nat}{pr:Prop}{C:Ct}{Ω Ω':List Pe}[h:HasB Ω' b pr C]:HasB (Ω++Ω') b pr C:=⟨XaL _ h.h⟩
instance (priority:=800){b:Nat}{pr:Prop}{C:Ct}{Ω Ω':List Pe}[h:HasB Ω b pr C]:HasB (Ω++Ω') b pr C:=⟨Xbr _ h.h⟩
end hasb
section within
variable {P:Program}{B:Nat}{Ωs Ω Ωr:List Pe}{Γ:Env}{t ty e:TypeId}{d:Tmp}{pos:String}{aft:Array Edge}{α:Type}{i:Dat α}{bt:Nat}
theorem RK[S:TSl P t e][T:TEl P e α i bt]{A:Nat->Prop}{w:World}{b m c:Nat}{cs:List Value}{u:Value}{xs ys:List α}{ty:TypeId} (hblk:Blk w b cs) (hrow:(Row xs c).p A w cs) (hu:Src A w u ys) (hm:m+ys.length<=xs.length) :
  ∃w',(Xco #[t,t] ty #[.slice (some ⟨b,0,none⟩) m c,u]).run P w=.ok (.slice (some ⟨b,0,none⟩) (m+ys.length) c) w'/\((ys=[]/\w'=w)\/
   ∃news,Blk w' b (Ab cs (m*Dat.sz α) news)/\Mut (λk=>k=b) w w'/\news.length=ys.length*Dat.sz α/\A7 A w news ys):=by
 obtain⟨ti,z,hi1,hi2,hi3,hi4,hi5⟩:=T.h;obtain⟨ad,c2,rfl,h4⟩:=hu;obtain⟨hcl,hle,hcm,hmx,hel⟩:=hrow;have hroom:m+ys.length<=c:=by omega
 have hmc:m<=c:=by omega
 rcases Nat.eq_zero_or_pos ys.length with h0|h0
 .have hy0:ys=[]:=List.eq_nil_of_length_eq_zero h0;subst hy0;refine⟨w,?_,.inl ⟨rfl,rfl⟩⟩;have hf:(XbF ti.size 0 (.slice ad 0 c2)).run P w=.ok #[] w:=by
   cases ad<;>simp[XbF,loadCells,loadCellsFrom]
  simp[Xco,run_underlying S.h,sizeOf,typeInfo,hi1,XcT,hf,hmc,storeCells]
 obtain⟨b2,off,news,rfl,hl,hr,he⟩:=h4 h0;have hnews:∀j v,news[j]?=some v->w.cell? (XeM ⟨b2,off,none⟩ j)=some v:=λj v hj=>by
  obtain⟨h5,rfl⟩:=Xav.1 hj;rw[Bf,hr j h5,Xad,Xaf h5];rfl
 have hfit:m*Dat.sz α+news.length<=cs.length:=by rw[hl,hcl,<-Xa6];exact Xah _ hroom
 obtain⟨w',r1,r2,r3,r4⟩:=Bp (P:=P) hblk hfit (he.scal hl);have hf:=run_firstCells_some (P:=P) w ti.size ys.length ⟨b2,off,none⟩ ys.length c2 news (by rw[hl,hi3]) hnews;refine⟨w',?_,.inr ⟨news,r2,r3,hl,he⟩⟩;rw[hi3]at hf;simp[Xco,run_underlying S.h,sizeOf,typeInfo,hi1,hi3,XcT,hroom,hf,Bf,r1]
theorem SP[S:TSl P t e][T:TEl P e α i bt]{s x:Operand}{σ:Ty}{b m c c':Nat}{pr:Prop}{xs ys:List α}[hs:Has Γ s (Sl b pr 0 m c')] [pk:Pick Ω b pr (Row xs c) Ωr] [hx:Has Γ x σ] (hl:SrcOf (Ωs++Ω) σ α i ys)
  (hp:pr) (hc:c'=c) (hm:m+ys.length<=xs.length) :
  OpT P B Ωs Ω Γ ⟨some d,.call { callee:=.builtin .append,args:=#[s,x],argTypes:=#[t,t] },ty,pos,aft,none⟩ (λ_:Unit=>Sl b pr 0 (m+ys.length) c') λ_=>⟨b,pr,Row (splice xs m ys) c⟩::Ωr:=by
 subst hc;exact O9 (C:=Row xs c') rfl λA a w hk hlv=>by
  have h1:=hs.le a _ w λt ht=>hlv t (by simp[Xae,XaE,<-ht])
  have h2:=hl.h hk (hx.le a _ w λt ht=>hlv t (by simp[Xae,XaE,<-ht]));rcases h1 with⟨-,h0,h1⟩|⟨hn,-⟩
  .obtain ⟨cs,g1,g2⟩:=hk ⟨b,pr,Row xs c'⟩ (XaL _ (pk.perm.mem_iff.2 (Xay ..))) hp;obtain⟨w',r1,r2⟩:=RK (P:=P) (t:=t) (e:=e) (bt:=bt) (ty:=ty) (m:=m) g1 g2 h2 hm;rw[<-h1]at r1;have hle:xs.length<=c':=g2.2.1;refine⟨_,λ_ _=>.inl ⟨hp,⟨by omega,h0.2⟩,rfl⟩,?_⟩;rcases r2 with⟨hy,rfl⟩|⟨news,r2,r3,r4,r5⟩
   .left
    refine⟨.inl (TL r1),λA cs _ hc=>?_⟩;subst hy;have:splice xs m ([]:List α)=xs:=by simp[splice]
    rw[this];exact hc
   .right
    refine⟨hp,w',cs,_,.inl (TL r1),g1,r2,r3,?_⟩;exact Row.splice g2 r5 r4 (by omega) (by omega) (by have:=g2.2.2.2.1;omega)
  .exact absurd hp hn
theorem O5{B0:Nat}{A:Nat->Prop}{dst:Option Tmp}{gd:Option (Nat×Bool)}[S:TSl P t e] [T:TDat P e α i] {x y z:Operand}{σ ρ:Ty}{b m c:Nat}{pr:Prop}{l r:Int}{xs:List α}[hx:Has Γ x (Sl b pr 0 m c)] [hb:HasB Ω b pr (Row xs c)] [Has Γ y σ] [hy:AsI σ l] [Has Γ z ρ] [hz:AsI ρ r] (hpr:pr) (h0:0<=l) (h1:l<=r) (h2:r<=xs.length) :
  OpY P B0 A Ω Γ ⟨dst,.slice t x (some y) (some z) none,ty,pos,aft,gd⟩ (Sv b pr (0+l.toNat*Dat.sz α) (r-l).toNat):=λa w hB hA hp hl=>by
 have hcs:=hp _ hb.h hpr;obtain⟨cs,g1,g2⟩:=hcs;have hle:xs.length<=c:=g2.2.1;have h:=Zy (x:=x) (τ:=Sl b pr 0 m c) (op:=.slice t x (some y) (some z) none) (by simp[Xae]) hl;have ey:a.eval y=.int .i64 l:=hy.le _ _ _ (Zy (x:=y) (τ:=σ) (op:=.slice t x (some y) (some z) none) (by simp[Xae]) hl);have ez:a.eval z=.int .i64 r:=hz.le _ _ _ (Zy (x:=z) (τ:=ρ) (op:=.slice t x (some y) (some z) none) (by simp[Xae]) hl);rcases h with⟨-,hmc,ex⟩|⟨hn,-⟩
 .have c1:0<=r/\r<=(c:Int):=by omega
  have c2:0<=l/\l<=(r.toNat:Int):=by omega
  have hv:(Sv b pr (0+l.toNat*Dat.sz α) (r-l).toNat).p A w (.slice (if c=l.toNat then some ⟨b,0,none⟩else some ⟨b,0+l.toNat*Dat.sz α,none⟩) (r.toNat-l.toNat) (c-l.toNat)):=Sv.cut (α:=α) (m:=c) hpr ⟨Xau _,hmc.2⟩ (λ_=>rfl) h0 h1 c1.2 rfl;simp only[execOp,ex,ey,ez,Xbk,XbY,Xbj,XbI,Xag,run_underlying S.h,Xab,Xa2,Xa8,asIntOf,Xai,c1,c2,and_self,if_true,T.sz,Bf];exact⟨Xdg _ _,hv⟩
 .exact absurd hpr hn
theorem Ug{b:Nat}{pr:Prop}{C C':Ct} (h:∀A w cs,C.p A w cs->C'.p A w cs):Fb (⟨b,pr,C⟩::Ω) (⟨b,pr,C'⟩::Ω):=
 ⟨λk ⟨e,he,h1,h2⟩=>by
  rcases Xa1.1 he with rfl|he
  .exact ⟨_,Xay ..,h1,h2⟩
  .exact ⟨e,Xaw _ he,h1,h2⟩,λhap=>by
  obtain⟨h1,h2⟩:=XaO.1 hap;exact XaO.2 ⟨λf hf a1 a2=>h1 f hf a1 a2,h2⟩,λA w hk e he h1=>by
  rcases Xa1.1 he with rfl|he
  .obtain ⟨cs,g1,g2⟩:=hk _ (Xay ..) h1;exact⟨cs,g1,h _ _ _ g2⟩
  .exact hk e (Xaw _ he) h1⟩
theorem LE{Δ:List Pe}{b c:Nat}{pr:Prop}{xs ys:List α} (m:Nat) [h:Pick Ω b pr (Row xs c) Ωr] (hm:m<=xs.length) (he:xs.take m=ys) (k:Fb Ωr Δ):Fb Ω (⟨b,pr,Row ys c⟩::Δ):=by
 subst he;exact(Xcz h.perm).trans ((Xff k).trans (Ug λA w cs hc=>Row.take hc hm))
theorem ZcN{n:Nat}{l r:Int} (h1:0<=l) (h2:l<=r) (h3:r<=n):cut n l r=some ():=by unfold cut;rw[if_pos ⟨h1,h2,h3⟩]
theorem O2{xs:List α}{c k:Nat} (h:k<=xs.length):PlS (Row xs c) (0+k*Dat.sz α) α i (xs.drop k) λys=>Row (splice xs k ys) c:=by
 have:=HU (i:=i) (c:=c) (xs:=xs) (k:=k) (n:=xs.length-k) (by omega)
 rwa [XaB (by simp)]at this
omit i in
theorem Zbl{S zs:List α}{a j m:Nat} (hk:a<=S.length) (hm:m=a+(S.drop j).length):(splice (splice S a (S.drop j)) (Xaa ((m:Nat):Int)) zs).take m=S.take a++S.drop j:=by
 have h1:(splice S a (S.drop j)).take m=S.take a++S.drop j:=SZ hm hk;have h2:((splice S a (S.drop j)).take m).length=m:=by rw[h1,hm];simp;omega
 show((splice S a (S.drop j)).take (Xaa ((m:Nat):Int))++zs++_).take m=_;rw[Xak,XaM,List.take_left' h2,h1]
end within
section al
variable {P:Program}{B:Nat}{Ωs Ω:List Pe}{Γ:Env}{t ty:TypeId}{d:Tmp}{pos:String}{aft:Array Edge}{α:Type}{i:Dat α}{bt:Nat}
theorem DZ[T:TEl P t α i bt]:OpT P B Ωs Ω Γ ⟨some d,.alloc t,ty,pos,aft,none⟩ (λg:Nat×Unit=>Pt g.1 0) λg=>⟨g.1,True,One (Dat.z:α)⟩::Ω:=
 OpT.alloc (by obtain⟨ti,z,h1,h2,_,_,h3⟩:=T.h;exact⟨ti,z,h1,h2,h3⟩)
end al
section pc
variable {P:Program}{t u:TypeId}{Γ:Env}{f off:Nat}{β:Type}{j:Dat β}
theorem PartsC.d{p:Operand}{ps:List (Nat×Operand)}{τ:Ty}{y:β}{bt:Nat}{C C1 C':Ct}[F:TFld P t f u off] [T:TEl P u β j bt] [hp:Has Γ p τ] [hy:ToD τ β j y] (c:CtSet C off β j y C1) (r:PartsC P t Γ ps C1 C') :
  PartsC P t Γ ((f,p)::ps) C C':=by haveI:=c;haveI:=r;infer_instance
end pc
theorem Q8{P:Program}{B:Nat}{Ωs:List Pe}{ops:Array Oper}{n:Nat}{ms:List Nat}{K K':Env->Fam->Prop} (hk:∀Γ F,K Γ F->K' Γ F):∀(l:List Oper) (k:Nat) (Γ:Env) (F:Fam),TRw P B Ωs ops n ms k l Γ F K->TRw P B Ωs ops n ms k l Γ F K'
 | [],_,_,_,h=>hk _ _ h
 | o::l,k,_,_,h=>by
  obtain⟨h1,h2⟩:=h;refine⟨h1,?_⟩;rcases h2 with⟨h2,h3,τ,h4,h5⟩|⟨h2,μ,τ,Ω',h4,h5⟩
  .exact .inl ⟨h2,h3,τ,h4,Q8 hk l _ _ _ h5⟩
  .exact .inr ⟨h2,μ,τ,Ω',h4,Q8 hk l _ _ _ h5⟩
section drawn
variable {P:Program}{r:Ref}{n:Nat}{Γ:Env}{Ω Ωs Ωt:List Pe}{Q:Exit->Act->World->Prop}[op:Opens r]
theorem Gf{id:Nat}{l:List Oper} (ms:List Nat) (bs:List Nat) [hs:Split Ω bs Ωs Ωt] (hm:P.follows .mixedOrders=true) (hB:XbV .any l.toArray=true) (hc:IN .any l.toArray ms=true)
  (h:TRw P r.w.heap.size Ωs l.toArray n ms 0 l Γ (XaS Ωt) λΓ' F'=>∀g,TE r n (Xce (F'.Θ g) Γ') (Ωs++F'.Ω g) Q .normal):TC P r n Γ Ω (.region id l.toArray true) Q:=
 M4 ms Ωs Ωt (Xcz hs.perm) hm hB hc h
theorem Bd{id:Nat}{l:List Oper}{y:Code} (ms:List Nat) (bs:List Nat) [hs:Split Ω bs Ωs Ωt] (hm:P.follows .mixedOrders=true) (hB:XbV .any l.toArray=true) (hc:IN .any l.toArray ms=true)
  (h:TRw P r.w.heap.size Ωs l.toArray n ms 0 l Γ (XaS Ωt) λΓ' F'=>∀g,TC P r n (Xce (F'.Θ g) Γ') (Ωs++F'.Ω g) y Q):TC P r n Γ Ω (.seq (.region id l.toArray true) y) Q:=
 AI (M4 ms Ωs Ωt (Xcz hs.perm) hm hB hc h)
theorem YE{Ω Ω':List Pe}:Fb (Ω++Ω') Ω:=⟨λk hk=>ZV.2 (.inl hk),λhp=>(XaH.1 hp).1,λA w hk=>(Bz.1 hk).1⟩
theorem YR{Θ Γ:Env}:(Xce Θ Γ).le Γ:=λt A w v h=>h.2
theorem ZbI{id:Nat}{l:List Oper} (hm:P.follows .mixedOrders=true) (hB:XbV .any l.toArray=true)
  (h:TRw P r.w.heap.size Ω l.toArray n [] 0 l Γ (XaS []) λΓ' _=>TE r n Γ' Ω Q .normal):TC P r n Γ Ω (.region id l.toArray true) Q:=
 M4 [] Ω [] (by rw[XaX];exact XfO _) hm hB rfl (Q8 (λΓ' F' hk g a w hs=>hk a w ((hs.le YR).less YE)) _ _ _ _ h)
theorem ZbG{id:Nat}{l:List Oper}{y:Code} (hm:P.follows .mixedOrders=true) (hB:XbV .any l.toArray=true)
  (h:TRw P r.w.heap.size Ω l.toArray n [] 0 l Γ (XaS []) λΓ' _=>TC P r n Γ' Ω y Q):TC P r n Γ Ω (.seq (.region id l.toArray true) y) Q:=
 AI (ZbI hm hB h)
variable {B:Nat}{Ωr:List Pe}{α:Type}{i:Dat α}{t e:TypeId}{bt:Nat}{d:Tmp}{ty:TypeId}{pos:String}{aft:Array Edge}
theorem Zb3[S:TSl P t e][T:TEl P e α i bt]{s x:Operand}{σ:Ty}{b m c c':Nat}{pr:Prop}{xs ys:List α}{u:Unit}[hs:Has Γ s (Sl b pr 0 m c')] [sp:Pick Ω b pr (Row xs c) Ωr] [hx:Has Γ x σ] (hl:SrcOf (Ωs++Ω) σ α i ys)
  (hr:Dv bt ((xs.length+ys.length:Nat):Int)=some u) (hc:c'=c) (hm:m=xs.length) :
  OpT P B Ωs Ω Γ ⟨some d,.call { callee:=.builtin .append,args:=#[s,x],argTypes:=#[t,t] },ty,pos,aft,none⟩ (λg:Nat×Prop×Nat=>Sl g.1 g.2.1 0 (xs++ys).length g.2.2) λg=>⟨g.1,g.2.1,Row (xs++ys) g.2.2⟩::Ωr:=
 Xg9 hl hc hm (NR hr).1 (NR hr).2
end drawn
def V6(md:XbC)(ops:Array Oper)(i t:Nat):Bool:=(ops[i]?).any λo=>o.after.toList.any λe=>XbJ md e&&decide (e.on=t)
theorem P1{md:XbC}{ops:Array Oper}{i t:Nat} (h:V6 md ops i t=true):∃o,ops[i]?=some o/\∃e∈o.after,XbJ md e=true/\e.on=t:=by
 unfold V6 at h;cases ho:ops[i]? with
 | none=>rw[ho]at h;cases h
 | some o=>
  rw[ho]at h;simp only[Xf8,Xgm,Xaz,decide_eq_true_eq]at h;obtain⟨e,he,h1,h2⟩:=h;exact⟨o,rfl,e,by simpa using he,h1,h2⟩
def ZcV(md:XbC)(ops:Array Oper)(k:Nat):Bool:=
 ((Xbe ops.size).all λi=>(ops[i]?).all λo=>
  (o.after.toList.all λe=>!Region.binds md e||decide (e.on<i))&&(o.guard.all λg=>decide (g.1<i))) &&
 (Xbe k).all λt=>((Xbe (ops.size-k)).all λi=>V6 md ops (k+i) t)||(Xbe (k-t-1)).any λs=>V6 md ops (t+1+s) t
theorem Ka{md:XbC}{ops:Array Oper}{k:Nat} (h:ZcV md ops k=true) {i:Nat}{o:Oper} (ho:ops[i]?=some o) :
  (∀e∈o.after,XbJ md e=true->e.on<i)/\(∀g,o.guard=some g->g.1<i):=by
 have hi:i<ops.size:=(Array.getElem?_eq_some_iff.1 ho).1;unfold ZcV at h;rw[Xaz]at h;have h1:=Xbq.1 h.1 i (by simpa using hi);rw[ho]at h1;simp only[Option.all_some,Xaz,Xbq]at h1;obtain⟨h2,h3⟩:=h1;refine⟨λe he hb=>by simpa[hb]using h2 e (by simpa using he),λg hg=>?_⟩;rw[hg]at h3;simpa using h3
theorem X8{md:XbC}{ops:Array Oper}{k:Nat} (h:ZcV md ops k=true) {t:Nat} (ht:t<k) :
  (∀i,k<=i->i<ops.size->V6 md ops i t=true)\/∃s,t<s/\s<k/\V6 md ops s t=true:=by
 unfold ZcV at h;rw[Xaz]at h;have h1:=Xbq.1 h.2 t (by simpa using ht);rw[Xcu]at h1;rcases h1 with h1|h1
 .left
  intro i hi hs;have:=Xbq.1 h1 (i-k) (by simp;omega)
  rwa [show k+(i-k)=i by omega]at this
 .right
  obtain⟨s,hs,he⟩:=Xgm.1 h1;exact⟨t+1+s,by omega,by simp at hs;omega,he⟩
section ext
variable {P:Program}{B:Nat}{Ωs:List Pe}{ops ops1:Array Oper}{n:Nat}{ms:List Nat}{md:XbC}
theorem OpG.ext{Γ:Env}{o:Oper}{τ:Ty} (hg:∀g,o.guard=some g->ops1[g.1]?=ops[g.1]?) (h:OpG P B ops1 Ωs Γ o τ):OpG P B ops Ωs Γ o τ:=by
 intro A a w hB hu hp hl;have e1:o.looksAt ops=o.looksAt ops1:=by
  unfold XeJ;cases hq:o.guard with
  | none=>rfl
  | some g=>obtain⟨g,b⟩:=g;simp only[hg _ hq]
 have e2:Xa3 o (yielded ops a.tmps)=Xa3 o (yielded ops1 a.tmps):=by
  unfold Xa3;cases hq:o.guard with
  | none=>rfl
  | some g=>obtain⟨g,b⟩:=g;have:=hg _ hq;simp only at this;simp only[yielded,this]
 have:=h A a w hB hu hp (by rw[<-e1];exact hl);rw[e2];exact this
theorem OpF.ext{Γ:Env}{F:Fam}{o:Oper}{μ:F.ν->Type}{τ:(g:F.ν)->μ g->Ty}{Ω':(g:F.ν)->μ g->List Pe} (hg:∀g,o.guard=some g->ops1[g.1]?=ops[g.1]?) (h:OpF P B Ωs ops1 Γ F o τ Ω'):OpF P B Ωs ops Γ F o τ Ω':=λg=>⟨λA a w hl=>by
 have e1:o.looksAt ops=o.looksAt ops1:=by
  unfold XeJ;cases hq:o.guard with
  | none=>rfl
  | some g=>obtain⟨g,b⟩:=g;simp only[hg _ hq]
 have e2:Xa3 o (yielded ops a.tmps)=Xa3 o (yielded ops1 a.tmps):=by
  unfold Xa3;cases hq:o.guard with
  | none=>rfl
  | some g=>obtain⟨g,b⟩:=g;have:=hg _ hq;simp only at this;simp only[yielded,this]
 rw[e2];exact(h g).1 A a w (by rw[<-e1];exact hl),(h g).2⟩
theorem Zdd{i:Nat}{K:Env->Fam->Prop}{Γ:Env}{F:Fam} (he:ops1[i]?=ops[i]?) (hg:∀o,ops[i]?=some o->∀g,o.guard=some g->ops1[g.1]?=ops[g.1]?) (h:tOp P B Ωs ops1 n ms i K Γ F):tOp P B Ωs ops n ms i K Γ F:=by
 unfold tOp at *;rw[he]at h
 split
 .rename_i ho;simp only[ho]at h;exact h
 .rename_i o ho
  simp only[ho]at h;obtain⟨h1,h2⟩:=h;refine⟨h1,?_⟩;rcases h2 with⟨h3,h4,τ,h5,h6⟩|h2
  .exact .inl ⟨h3,h4,τ,h5.ext (hg o ho),h6⟩
  .obtain ⟨h3,μ,τ,Ω',h4,h5⟩:=h2;exact .inr ⟨h3,μ,τ,Ω',h4.ext (hg o ho),h5⟩
end ext
section any
variable {P:Program}{ops:Array Oper}{md:XbC}{Q:Exit->Act->World->Prop}
theorem Py{ρ:Option Nat}:∀(f:Nat) (listed:Array Bool) (a:Act) (w:World),wpAnyIn (FR ρ) 0 P md ops Q f listed a w->wpAnyIn (FR ρ) 0 P md ops Q (f+1) listed a w
 | 0,listed,a,w,h=>⟨λ_=>h.2,λi hi=>by rw[h.1]at hi;cases hi⟩
 | f+1,listed,a,w,h=>⟨h.1,λi hi=>wpOpIn_mono (λa' w' h'=>Py f _ a' w' h') (h.2 i hi)⟩
theorem Zaa{ρ:Option Nat}{f g:Nat} (hfg:f<=g) {listed:Array Bool}{a:Act}{w:World} (h:wpAnyIn (FR ρ) 0 P md ops Q f listed a w):wpAnyIn (FR ρ) 0 P md ops Q g listed a w:=by
 induction hfg with
 | refl=>exact h
 | step _ ih=>exact Py _ _ _ _ ih
variable {r:Ref}{n:Nat}{Ωs:List Pe}{ms:List Nat}{ops1:Array Oper}{k m:Nat}
theorem SV[op:Opens r](hb:ZcV md ops k=true)(hk:k<=ops.size)(h1:∀i,i<k->ops1[i]?=ops[i]?)(hz1:ops1.size=k){K:Env->Fam->Prop}
  (hQ:∀Γ F a w (listed:Array Bool),listed.size=ops.size->(∀t,t<ops.size->listed.getD t true=decide (t<k))->RSt r n Ωs Γ F a w->K Γ F->wpAnyIn (FR r.ρ) 0 P md ops Q m listed a w) :
  ∀(fuel:Nat) (l1 listed:Array Bool) (Γ:Env) (F:Fam) (a:Act) (w:World),l1.size=k->listed.size=ops.size->(∀t,t<k->listed.getD t true=l1.getD t true)->(∀t,k<=t->t<ops.size->listed.getD t true=false)->
   (∀j,j<k->l1.getD j true=true->∀o,ops1[j]?=some o->∀e∈o.after,XbJ md e=true->l1.getD e.on false=true)->
   RSt r n Ωs Γ F a w->Zed P r.w.heap.size Ωs ops1 n ms md K fuel l1 Γ F->wpAnyIn (FR r.ρ) 0 P md ops Q (fuel+m) listed a w:=by
 have hgd:∀(l:Array Bool) (t:Nat),t<l.size->l.getD t false=l.getD t true:=λl t ht=>by simp[ht]
 -- when nothing of the first phase is ready, all of it is done
 have hall:∀(l1:Array Bool),l1.size=k->Xbi md ops1 l1=[]->∀t,t<k->l1.getD t true=true:=by
  intro l1 hs hr t
  induction t using Nat.strongRecOn with
  | _ t ih=>
   intro ht;cases hc:l1.getD t true with
   | true=>rfl
   | false=>
    exfalso
    obtain⟨o,ho⟩:∃o,ops1[t]?=some o:=⟨ops1[t]'(by omega),Array.getElem?_eq_getElem (by omega)⟩;have hmem:t∈Xbi md ops1 l1:=mem_ready.2 ⟨hc,o,ho,λe he hbe=>by
     have hlt:=(Ka hb (by rw[<-h1 t ht];exact ho)).1 e he hbe;rw[hgd l1 e.on (by omega)];exact ih e.on hlt (by omega)⟩
    rw[hr]at hmem;cases hmem
 have hrd:∀(l1 listed:Array Bool),l1.size=k->listed.size=ops.size->(∀t,t<k->listed.getD t true=l1.getD t true)->(∀t,k<=t->t<ops.size->listed.getD t true=false)->
   (∀j,j<k->l1.getD j true=true->∀o,ops1[j]?=some o->∀e∈o.after,XbJ md e=true->l1.getD e.on false=true)->¬(∀t,t<k->l1.getD t true=true)->
   ∀i,i∈Xbi md ops listed->i<k/\i∈Xbi md ops1 l1:=by
  intro l1 listed hs hz he hf hcl hn i hi;obtain⟨hun,o,ho,hall'⟩:=mem_ready.1 hi;have hik:i<k:=by
   rcases Xbd i k with h|h
   .exact h
   .exfalso
    have key:∀q t,t<k->k-t<=q->l1.getD t true=true:=by
     intro q
     induction q with
     | zero=>intro t ht hq;omega
     | succ q ih=>
      intro t ht hq;rcases X8 hb ht with h5|⟨s,h5,h6,h7⟩
      .obtain ⟨o',ho',e,he1,he2,he3⟩:=P1 (h5 i h (by have:=(Array.getElem?_eq_some_iff.1 ho).1;omega));rw[ho]at ho';injection ho' with ho';subst ho';have:=hall' e he1 he2;rw[he3,hgd listed t (by omega)]at this;rw[<-he t ht];exact this
      .obtain ⟨o',ho',e,he1,he2,he3⟩:=P1 h7;have:=hcl s h6 (ih s h6 (by omega)) o' (by rw[h1 s h6];exact ho') e he1 he2;rw[he3,hgd l1 t (by omega)]at this;exact this
    exact hn λt ht=>key k t ht (by omega)
  refine⟨hik,mem_ready.2 ⟨by rw[<-he i hik];exact hun,o,by rw[h1 i hik];exact ho,λe he1 he2=>?_⟩⟩;have hlt:=(Ka hb ho).1 e he1 he2;have:=hall' e he1 he2;rw[hgd listed _ (by omega)]at this;rw[hgd l1 _ (by omega),<-he _ (by omega)];exact this
 intro fuel
 induction fuel with
 | zero=>
  intro l1 listed Γ F a w hs hz he hf hcl ha h;have hd:=hall l1 hs h.1;rw[Xbg];refine hQ Γ F a w listed hz (λt ht=>?_) ha h.2
  by_cases htk:t<k
  .rw [he t htk,hd t htk];simp[htk]
  .rw [hf t (by omega) ht];simp[htk]
 | succ fuel ih=>
  intro l1 listed Γ F a w hs hz he hf hcl ha h
  by_cases hd:∀t,t<k->l1.getD t true=true
  .have hr:Xbi md ops1 l1=[]:=by
    cases hr:Xbi md ops1 l1 with
    | nil=>rfl
    | cons i _=>
     exfalso
     obtain⟨hun,o,ho,-⟩:=mem_ready.1 (show i∈Xbi md ops1 l1 by rw[hr];exact Xay ..);have hi:i<k:=by have:=(Array.getElem?_eq_some_iff.1 ho).1;omega
     rw[hd i hi]at hun;cases hun
   exact Zaa (by omega) (hQ Γ F a w listed hz (λt ht=>by
    by_cases htk:t<k
    .rw [he t htk,hd t htk];simp[htk]
    .rw [hf t (by omega) ht];simp[htk]) ha (h.1 hr))
  .rw [show fuel+1+m=(fuel+m)+1 by omega];refine⟨λhr=>?_,λi hi=>?_⟩
   .exfalso
    -- the first that isn't listed is ready
    refine hd (hall l1 hs ?_);cases hr1:Xbi md ops1 l1 with
    | nil=>rfl
    | cons i _=>
     exfalso
     obtain⟨hun,o,ho,hall'⟩:=mem_ready.1 (show i∈Xbi md ops1 l1 by rw[hr1];exact Xay ..);have hik:i<k:=by have:=(Array.getElem?_eq_some_iff.1 ho).1;omega
     have:i∈Xbi md ops listed:=mem_ready.2 ⟨by rw[he i hik];exact hun,o,by rw[<-h1 i hik];exact ho,λe he1 he2=>by
      have hlt:=(Ka hb (by rw[<-h1 i hik];exact ho)).1 e he1 he2;have:=hall' e he1 he2;rw[hgd l1 _ (by omega)]at this;rw[hgd listed _ (by omega),he _ (by omega)];exact this⟩
     rw[hr]at this;cases this
   .obtain ⟨hik,hi1⟩:=hrd l1 listed hs hz he hf hcl hd i hi;have ht:=Zdd (h1 i hik) (λo ho g hg=>h1 _ (by have:=(Ka hb ho).2 g hg;omega)) (h.2 i hi1);refine Oe ha (λΓ' F' a' w' ha' hK=>ih _ _ Γ' F' a' w' (by simpa using hs) (by simpa using hz) (λt htk=>?_) (λt htk hts=>?_) (λj hj hjl o ho e he1 he2=>?_) ha' hK) ht
    .by_cases e:i=t
     .subst e;simp[hs,hz,hik,show i<ops.size by omega]
     .rw [getD_set_ne true e,getD_set_ne true e];exact he t htk
    .rw [getD_set_ne true (show i≠t by omega)];exact hf t htk hts
    .have hlt:=(Ka hb (by rw[<-h1 j hj];exact ho)).1 e he1 he2;have hold:l1.getD e.on false=true:=by
      by_cases hij:i=j
      .subst hij;obtain⟨-,o2,ho2,hall'⟩:=mem_ready.1 hi1;rw[ho]at ho2;injection ho2 with ho2;subst ho2;exact hall' e he1 he2
      .rw [getD_set_ne true hij]at hjl;exact hcl j hj hjl o ho e he1 he2
     by_cases h9:i=e.on
     .simp [<-h9,hs,hik]
     .rw [getD_set_ne false h9];exact hold
end any
theorem Nk{md:XbC}{ops:Array Oper}:∀(j m s:Nat) (listed:Array Bool),listed.size=ops.size->s+j<=ops.size->(∀t,t<ops.size->listed.getD t true=decide (t<s))->Xcv md ops (j+m) s listed=true->
  ∃listed',listed'.size=ops.size/\(∀t,t<ops.size->listed'.getD t true=decide (t<s+j))/\Xcv md ops m (s+j) listed'=true
 | 0,m,s,listed,hz,_,ht,h=>⟨listed,hz,ht,by rw[Xbg]at h;exact h⟩
 | j+1,m,s,listed,hz,hs,ht,h=>by
  rw[show j+1+m=(j+m)+1 by omega]at h;simp only[Xcv,Xaz]at h;have:=Nk j m (s+1) (listed.setIfInBounds s true) (by simpa using hz) (by omega) (λt hts=>by
   by_cases h1:s=t
   .subst h1;have:s<listed.size:=by omega
    simp[this]
   .rw [getD_set_ne true h1,ht t hts,decide_eq_decide];omega) h.2
  rw[show s+(j+1)=s+1+j by omega];exact this
theorem VX{l l':Array Bool}(hs:l.size=l'.size)(h:∀t,t<l.size->l.getD t true=l'.getD t true):l=l':=by
 apply Array.ext hs;intro t h1 h2;have:=h t h1;simpa[h1,h2]using this
section tc
variable {P:Program}{r:Ref}{n:Nat}{Γ:Env}{Ω:List Pe}{Q:Exit->Act->World->Prop}
theorem Qg[op:Opens r]{id:Nat}{l:List Oper}{Q':Exit->Act->World->Prop} (k:Nat) (ms ms2:List Nat) (Ωs Ωt:List Pe) (hΩ:Fb Ω (Ωs++Ωt)) (hm:P.follows .mixedOrders=true) (hB:XbV .any l.toArray=true) (hB1:XbV .any (l.take k).toArray=true)
  (hk:Xbn k l.length=true) (hb:ZcV .any l.toArray k=true) (hc:IN .any (l.take k).toArray ms=true) (hc2:IN .any l.toArray ms2=true)
  (h:TRw P r.w.heap.size Ωs (l.take k).toArray n ms 0 (l.take k) Γ (XaS Ωt) λΓ' F'=>∀g,∃Ωs2 Ωt2,Fb (Ωs++F'.Ω g) (Ωs2++Ωt2)/\
   TRw P r.w.heap.size Ωs2 l.toArray n ms2 k (l.drop k) (Xce (F'.Θ g) Γ') (XaS Ωt2) λΓ'' F''=>∀g,TE r n (Xce (F''.Θ g) Γ'') (Ωs2++F''.Ω g) Q' .normal):TC P r n Γ Ω (.region id l.toArray true) Q':=by
 intro a w hs;have hs:=hs.less hΩ;have hkl:k<=l.length:=Xcb hk;have hB0:=hB;simp only[XbV,Xaz]at hB hB1;refine wpIn_region_any hm ?_;have h2:=N9 (P:=P) (md:=.any) (ops:=(l.take k).toArray) hc (l.take k) 0 (Array.replicate (l.take k).toArray.size false) Γ (XaS Ωt) (λj=>by simp) (by simp) (λt ht=>by
  rw[Array.getD_eq_getD_getElem?,Array.getElem?_replicate];have h6:t<min k l.length:=by simpa using ht
  simp[h6]) (by simpa using hB1.2) h
 have hg:KP r.w.heap.size w { w with drawn:=w.drawn+1 }:=KP.drawn _;have h3:RSt r n Ωs Γ (XaS Ωt) a { w with drawn:=w.drawn+1 }:=
  ⟨(),hs.sz,hs.df,hs.mu.stp (Er (S:=λ_=>False) hg) (λj hj=>hj.elim),λt=>⟨trivial,(Γ t).st hg (hs.ty t)⟩,hs.pv.grow hg⟩
 have hsz:l.toArray.size=k+(l.drop k).length:=by simp;omega
 have:=SV (P:=P) (md:=.any) (ops:=l.toArray) (ops1:=(l.take k).toArray) (Q:=Q') (r:=r) (n:=n) (Ωs:=Ωs) (ms:=ms) (k:=k) (m:=(l.drop k).length) hb (by simpa using hkl) (λi hi=>by simp[List.getElem?_take,hi]) (by simp;omega)
  (λΓ' F' a w listed hz ht ⟨g,hok⟩ hK=>by
   obtain⟨Ωs2,Ωt2,hl2,hT⟩:=hK g;obtain⟨listed',hz',ht',hlex⟩:=Nk (md:=.any) (ops:=l.toArray) k (l.drop k).length 0 (Array.replicate l.toArray.size false) (by simp) (by simpa using hkl) (λt ht=>by
    rw[Array.getD_eq_getD_getElem?,Array.getElem?_replicate];simp at ht;simp[ht]) (by rw[<-hsz];simpa using hB.2)
   have he:listed'=listed:=VX (by rw[hz,hz']) λt htt=>by
    rw[hz']at htt;rw[ht' t htt,ht t htt,Xbg]
   subst he;have h4:=N9 (P:=P) (md:=.any) (ops:=l.toArray) hc2 (l.drop k) k listed' (Xce (F'.Θ g) Γ') (XaS Ωt2) (λj=>by simp[List.getElem?_drop]) hz ht (by rw[Xbg]at hlex;exact hlex) hT;have hok':=hok.less hl2;exact ME (P:=P) (Q':=Q') (md:=.any) (λΓ'' F'' a w ⟨g,hok⟩ hK=>hK g a w hok) _ _ _ (XaS Ωt2) a w ⟨(),hok'.sz,hok'.df,hok'.mu,λt=>⟨trivial,hok'.ty t⟩,hok'.pv⟩ h4)
  (l.take k).length (Array.replicate (l.take k).toArray.size false) (Array.replicate l.toArray.size false) Γ (XaS Ωt) a { w with drawn:=w.drawn+1 } (by simp;omega) (by simp) (λt ht=>by
   rw[Array.getD_eq_getD_getElem?,Array.getElem?_replicate,Array.getD_eq_getD_getElem?,Array.getElem?_replicate];have h5:t<l.length:=by omega
   have h6:t<min k l.length:=by omega
   simp[h5,h6]) (λt h5 h6=>by
   rw[Array.getD_eq_getD_getElem?,Array.getElem?_replicate];simp at h6;simp[h6]) (λj hj hjl=>by
   rw[Array.getD_eq_getD_getElem?,Array.getElem?_replicate]at hjl;have h6:j<min k l.length:=by omega
   simp[h6]at hjl) h3 h2
 have hk':(l.take k).length=k:=by simp;omega
 rw[hk',<-hsz]at this;exact this
theorem ZbF[op:Opens r]{id:Nat}{l:List Oper}{y:Code}{Ωs Ωt:List Pe} (k:Nat) (ms ms2 bs:List Nat) [hs:Split Ω bs Ωs Ωt] (hm:P.follows .mixedOrders=true) (hB:XbV .any l.toArray=true) (hB1:XbV .any (l.take k).toArray=true)
  (hk:Xbn k l.length=true) (hb:ZcV .any l.toArray k=true) (hc:IN .any (l.take k).toArray ms=true) (hc2:IN .any l.toArray ms2=true)
  (h:TRw P r.w.heap.size Ωs (l.take k).toArray n ms 0 (l.take k) Γ (XaS Ωt) λΓ' F'=>∀g,∃Ωs2 Ωt2,Fb (Ωs++F'.Ω g) (Ωs2++Ωt2)/\
   TRw P r.w.heap.size Ωs2 l.toArray n ms2 k (l.drop k) (Xce (F'.Θ g) Γ') (XaS Ωt2) λΓ'' F''=>∀g,TC P r n (Xce (F''.Θ g) Γ'') (Ωs2++F''.Ω g) y Q):TC P r n Γ Ω (.seq (.region id l.toArray true) y) Q:=
 AI (Qg k ms ms2 Ωs Ωt (Xcz hs.perm) hm hB hB1 hk hb hc hc2 h)
theorem ZbH[op:Opens r]{id:Nat}{l:List Oper}{Ωs Ωt:List Pe} (k:Nat) (ms ms2 bs:List Nat) [hs:Split Ω bs Ωs Ωt] (hm:P.follows .mixedOrders=true) (hB:XbV .any l.toArray=true) (hB1:XbV .any (l.take k).toArray=true)
  (hk:Xbn k l.length=true) (hb:ZcV .any l.toArray k=true) (hc:IN .any (l.take k).toArray ms=true) (hc2:IN .any l.toArray ms2=true)
  (h:TRw P r.w.heap.size Ωs (l.take k).toArray n ms 0 (l.take k) Γ (XaS Ωt) λΓ' F'=>∀g,∃Ωs2 Ωt2,Fb (Ωs++F'.Ω g) (Ωs2++Ωt2)/\
   TRw P r.w.heap.size Ωs2 l.toArray n ms2 k (l.drop k) (Xce (F'.Θ g) Γ') (XaS Ωt2) λΓ'' F''=>∀g,TE r n (Xce (F''.Θ g) Γ'') (Ωs2++F''.Ω g) Q .normal):TC P r n Γ Ω (.region id l.toArray true) Q:=
 Qg k ms ms2 Ωs Ωt (Xcz hs.perm) hm hB hB1 hk hb hc hc2 h
theorem PH.next{B:Nat}{ops:Array Oper}{ms2:List Nat}{k:Nat}{l:List Oper}{K:List Pe->Env->Fam->Prop}{Ωs2 Ωt2:List Pe} (bs:List Nat) [hs:Split Ω bs Ωs2 Ωt2] (h:TRw P B Ωs2 ops n ms2 k l Γ (XaS Ωt2) (K Ωs2)) :
  ∃Ωs2 Ωt2,Fb Ω (Ωs2++Ωt2)/\TRw P B Ωs2 ops n ms2 k l Γ (XaS Ωt2) (K Ωs2):=⟨Ωs2,Ωt2,Xcz hs.perm,h⟩
end tc
end
theorem Zz{α:Type}{l:List α}{i:Nat} (h:i<l.length):idx l (i:Int)=some l[i]:=by
 unfold idx;rw[if_pos (by omega),Xak,Xaf h]
theorem Xz{α:Type}{l:List α}{k:Int} (h0:0<=k) (h:k<l.length):idx l k=some (l[k.toNat]'(by omega)):=by
 unfold idx;rw[if_pos h0,Xaf (by omega)]
theorem OE{z:Int}(h1:-9223372036854775808<=z)(h2:z<=9223372036854775807):Ky z=some z:=by
 unfold Ky;rw[if_pos ⟨h1,h2⟩]
theorem Aa{a b:Int}(h1:-9223372036854775808<=a+b)(h2:a+b<=9223372036854775807):AC a b=some (a+b):=OE h1 h2
theorem Ax{a b:Int}(h1:-9223372036854775808<=a-b)(h2:a-b<=9223372036854775807):GG a b=some (a-b):=OE h1 h2
theorem Gb{a b:Int}(h1:-9223372036854775808<=a*b)(h2:a*b<=9223372036854775807):RX a b=some (a*b):=OE h1 h2
theorem Gz{i:Nat}(h:i<9223372036854775807):AC (i:Int) 1=some ((i+1:Nat):Int):=by
 rw[Aa (by omega) (by omega)];rfl
theorem Lo{a b:Int}(h1:0<=a)(h2:0<b):RM a b=some (a%b):=by unfold RM;rw[if_pos ⟨h1,h2⟩]
theorem G7{a b:Int}(h1:0<=a)(h2:0<b):JB a b=some (a/b):=by unfold JB;rw[if_pos h2,XdK h1]
theorem Aq{bt:Nat}{n:Int} (h0:0<=n) (h1:n*bt<=140737488355328) (h2:n<=140737488351232):Dv bt n=some ():=by unfold Dv;rw[if_pos ⟨h0,h1,h2⟩]
theorem Ef{n:Nat}{l r:Int} (h1:0<=l) (h2:l<=r) (h3:r<=n):cut n l r=some ():=by unfold cut;rw[if_pos ⟨h1,h2,h3⟩]
-- not by rfl alone: what a rule by rfl rewrites the kernel would run
theorem Av{α:Type}[Inhabited α] {x:Option α}:gb true x=x:=Xc2 rfl rfl
theorem BN{α:Type}[Inhabited α] {x:Option α}:gb false x=some default:=Xc2 rfl rfl
theorem Zu{α:Type}{x y:α}:(bif true then x else y)=x:=Xc2 rfl rfl
theorem Zq{α:Type}{x y:α}:(bif false then x else y)=y:=Xc2 rfl rfl
theorem Zb{α β:Type}{a:α}{f:α->Option β}:(some a).bind f=f a:=Xc2 rfl rfl
theorem CB{α β ρ:Type}{a:α}{b:β}{f:α->β->ρ}:el2 (a,b) f=f a b:=Xc2 rfl rfl
theorem XQ{α β γ δ ρ:Type}{a:α}{b:β}{c:γ}{d:δ}{f:α->β->γ->δ->ρ}:el4 (a,b,c,d) f=f a b c d:=Xc2 rfl rfl
theorem ZU{α β γ:Type}{a:α}{f:α->γ}{g:β->γ}:elS (.inl a) f g=f a:=Xc2 rfl rfl
theorem A2{α β γ:Type}{a:β}{f:α->γ}{g:β->γ}:elS (.inr a) f g=g a:=Xc2 rfl rfl
theorem XR{α β γ:Type}{s:α×β}{f:α->β->γ}:el2 s f=f s.1 s.2:=Xc2 rfl rfl
theorem Ja{σ ε:Type}{f:σ->Option (σ⊕ε)}{s:σ}{e:ε} (k:Nat) (hk:k<=18446744073709551616) (h:Fz f k s=some e):ZN f s=some e:=PU _ h hk
theorem Fy{σ ε:Type}{f:σ->Option (σ⊕ε)}{s:σ}{e:ε}{k:Nat} (h:f s=some (.inr e)):Fz f (k+1) s=some e:=by unfold Fz;rw[h]
theorem ED{σ ε:Type}{f:σ->Option (σ⊕ε)}{s s':σ}{k:Nat} (h:f s=some (.inl s')):Fz f (k+1) s=Fz f k s':=by rw[Fz,h]
theorem Zgc{α:Type}[Inhabited α] {g:Bool}{x:Option α}{a:α} (h:g=true->x=some a):gb g x=some (bif g then a else default):=by
 cases g with
 | true=>exact h rfl
 | false=>rfl
section
open Go Go.RowKit
theorem Sw{α:Type}{i:Dat α}{A:Nat->Prop}{w:World}{zs:Array Value}{m gc:Nat} (hz:zs=(Dat.zc α).toArray) (ge:m<=gc) (cm:gc<=maxLen) (hm:m<=LG) :
  (Row (Xac m (Dat.z (α:=α))) gc).p A w (XaT zs m++XaT zs (gc-m)).toList:=by
 have hzl:zs.size=Dat.sz α:=by rw[hz];simpa using Dat.len (Dat.zrd (α:=α) (A:=λ_=>True) (w:=w))
 have hsz:=Dat.pos (α:=α);refine⟨?_,by simpa using ge,cm,by simpa using hm,λj hj=>?_⟩
 .simp only[Array.length_toList,Array.size_append,size_zeroCells,hzl,<-Xa6];congr 1;omega
 .simp only[XaK]at hj;have hzc:(Dat.zc α).length=Dat.sz α:=Dat.len (Dat.zrd (α:=α) (A:=λ_=>True) (w:=w));have hle:j*Dat.sz α+Dat.sz α<=m*Dat.sz α:=by rw[<-XaF];exact Xah _ (by omega)
  have e3:seg (XaT zs m++XaT zs (gc-m)).toList (j*Dat.sz α) (Dat.sz α)=Dat.zc α:=by
   rw[Array.toList_append,LR (by rw[Array.length_toList,size_zeroCells,hzl];exact hle)];refine AV (by rw[ZA (by rw[Array.length_toList,size_zeroCells,hzl];exact hle),hzc]) λq hq=>?_
   rw[ZA (by rw[Array.length_toList,size_zeroCells,hzl];exact hle)]at hq;rw[Al hq];have h3:j*Dat.sz α+q<m*Dat.sz α:=by omega
   have h4:(j*Dat.sz α+q)%Dat.sz α=q:=by rw[Nat.mul_comm,Nat.mul_add_mod,Nat.mod_eq_of_lt hq]
   have h5:(XaT zs m).toList.getD (j*Dat.sz α+q) undef=zs[(j*Dat.sz α+q)%zs.size]!:=by
    simp[XaT,Xad,hzl,h3]
   rw[h5,hzl,h4,hz,getElem!_pos _ _ (by simpa[hzc]using hq)];simp[Xad,hzc,hq]
  rw[e3,Xbs];exact Dat.zrd
def ZaF(n:Int):Option Unit:=if 0<n then some ()else none
theorem Xb{n:Int}{u:Unit} (h:ZaF n=some u):0<n:=by
 unfold ZaF at h;split at h
 .assumption
 .cases h
theorem Xc{n:Int}(h:0<n):ZaF n=some ():=by unfold ZaF;rw[if_pos h]
section am
variable {P:Program}{B:Nat}{Ωs Ω:List Pe}{Γ:Env}{t e u ty:TypeId}{d:Tmp}{pos:String}{aft:Array Edge}{α:Type}{i:Dat α}{bt:Nat}
theorem T9[S:TSl P t e][T:TEl P e α i bt][U:TIn P u .i64]{s x:Operand}{σ:Ty}{n:Int}{v v':Unit}[hs:Has Γ s Ro] [hx:Has Γ x σ] [k:AsI σ n] (hr:Dv bt n=some v) (h0':ZaF n=some v') :
  OpT P B Ωs Ω Γ ⟨some d,.call { callee:=.builtin .append,args:=#[s,x],argTypes:=#[t,u] },ty,pos,aft,none⟩ (λg:Nat×Nat=>Sl g.1 True 0 (Xac n.toNat (Dat.z (α:=α))).length g.2)
   λg=>⟨g.1,True,Row (Xac n.toNat (Dat.z (α:=α))) g.2⟩::Ω:=
 GB (C:=λc=>Row (Xac n.toNat (Dat.z (α:=α))) c) rfl λA a w _ _ hl=>by
  have h0:=Xb h0';obtain⟨-,h1',hm'⟩:=A6 hr;obtain⟨m,rfl⟩:=Int.eq_ofNat_of_zero_le (show 0<=n by omega);have h1:m*bt<=140737488355328:=by rw[<-XbQ]at h1';omega
  have hm:m<=140737488351232:=by omega
  simp only[Xak,XaK];obtain⟨ti,z,hi1,hi2,hi3,hi4,hi5⟩:=T.h;have e1:a.eval s=.slice none 0 0:=Zy (x:=s) (τ:=Ro) (op:=.call { callee:=.builtin .append,args:=#[s,x],argTypes:=#[t,u] }) (by simp[Xae,XaE]) hl;have e2:a.eval x=.int .i64 m:=k.le _ _ _ (Zy (x:=x) (τ:=σ) (op:=.call { callee:=.builtin .append,args:=#[s,x],argTypes:=#[t,u] }) (by simp[Xae,XaE]) hl);have hsz:=Dat.pos (α:=α);have hw:IntKind.i64.wrap (m:Int)=m:=D8 (by omega) (by omega);have n0:¬m=0:=by omega
  have n1:¬(m:Int)<0:=by omega
  have hb:(m:Int)*(ti.bytes:Int)<=281474976710656:=by
   rw[hi4];have h2:((m*bt:Nat):Int)<=140737488355328:=by omega
   rw[XbQ]at h2;omega
  have n2:¬(281474976710656<(m:Int)*(ti.bytes:Int)):=by omega
  have n3:¬((9223372036854775807:Int)<(m:Int)):=by omega
  have n4:¬(281474976710656<Builtin.nextslicecap m 0*ti.bytes):=by rw[nextslicecap_zero (by omega),hi4];omega
  have n5:¬m*Dat.sz α=0:=by intro h;rcases Nat.mul_eq_zero.1 h with h|h<;>omega
  have ge:=grownCap_ge w m 0 e;have cm:=grownCap_le_maxLen w m 0 e (by unfold maxLen;omega);have hrun:(execOp a.eval ⟨some d,.call { callee:=.builtin .append,args:=#[s,x],argTypes:=#[t,u] },ty,pos,aft,none⟩).run P w =
    .ok (.value (.slice (some ⟨w.heap.size,0,none⟩) m (grownCap w m 0 e))) (w.drew.alloc (.cells (XaT z.cells m++XaT z.cells (grownCap w m 0 e-m)) e)):=by
   simp[execOp,resolve,invoke,builtin,e1,e2,Xco,run_underlying S.h,run_underlying U.h,sizeOf,typeInfo,zeroValue,hi1,hi2,hi3,asInt,asIntOf,hw,n0,n1,n2,n3,n4,n5,Question.forced,XbF,newRow,grownCap]
  generalize grownCap w m 0 e=gc at *;refine⟨gc,_,w.drawn+1,(XaT z.cells m++XaT z.cells (gc-m)).toList,e,?_,λ_ _=>.inl ⟨trivial,⟨ge,cm⟩,rfl⟩,Sw hi5 ge cm (by unfold LG;omega)⟩;rw[hrun,Array.toArray_toList];rfl
end am
section ts
variable {P:Program}{r:Ref}{n:Nat}{ops:Array Oper}{k:Nat}{rest:List Oper}{Γ:Env}{Ω:List Pe}{Q:Exit->Act->World->Prop}
variable {t e u ty:TypeId}{d:Tmp}{pos:String}{aft:Array Edge}{α:Type}{i:Dat α}{bt:Nat}
theorem Qd[op:Opens r][S:TSl P t e][T:TEl P e α i bt][U:TIn P u .i64]{s x:Operand}{σ:Ty}{q:Int}{v v':Unit}[hs:Has Γ s Ro] [hx:Has Γ x σ] [kx:AsI σ q] (hr:Dv bt q=some v) (h0:ZaF q=some v') (hd:XaZ d n=true)
  (hk:∀b c,TS P r n ops rest (k+1) (Γ.set d (Sl b True 0 (Xac q.toNat (Dat.z (α:=α))).length c)) (⟨b,True,Row (Xac q.toNat (Dat.z (α:=α))) c⟩::Ω) Q) :
  TS P r n ops (⟨some d,.call { callee:=.builtin .append,args:=#[s,x],argTypes:=#[t,u] },ty,pos,aft,none⟩::rest) k Γ Ω Q:=
 D4 (T9 hr h0) hd λg=>hk g.1 g.2
theorem Ye(b:Nat)(α:Type)[i:Dat α](h:TS P r n ops rest k Γ (⟨b,False,Row ([]:List α) 0⟩::Ω) Q):TS P r n ops rest k Γ Ω Q:=
 Yc (Env.le.refl _) (Kn λh=>h) h
structure Zbz(α:Type)(i:Dat α)(C:Ct):Prop where
 h:∀{A:Nat->Prop}{w:World},C.p A w (Dat.zc α)
theorem Zbz.one:Zbz α i (One (Dat.z:α)):=⟨Dat.zrd⟩
theorem Zbz.mix{C:Ct}{o b:Nat} (h:Zbz α i C) (hz:(Dat.zc α)[o]?=some (.slice none 0 0)):Zbz α i (C.mix o (Sl b False 0 0 0)):=⟨CtH.nil h.h hz⟩
theorem Qj{B0:Nat}{A:Nat->Prop}{dst:Option Tmp}{gd:Option (Nat×Bool)}{parts:Array (Nat×Operand)}{ps:List (Nat×Operand)}{C0 C:Ct}[T:TEl P t α i bt] (hps:parts=ps.toArray) (hu:∃fs,P.underlying t=some (.struct fs)/\(fs.toList.mapM (λf=>(P.info? f.type).map λi=>(f.offset,i.size))).isSome=true)
  (hz:Zbz α i C0) (h:PartsC P t Γ ps C0 C):OpY P B0 A Ω Γ ⟨dst,.build t parts,ty,pos,aft,gd⟩ (VC C):=
 XbH λa w hl=>by
  subst hps;obtain⟨fs,u1,u2⟩:=hu;obtain⟨places,u2⟩:=Xe6.1 u2;obtain⟨ti,z,i1,i2,i3,i4,i5⟩:=T.h;obtain⟨cs',r1,r2⟩:=h.h a A w (λk hk=>hl k (by simp only[Xae];simpa using hk)) fs places _ u1 u2 hz.h;refine⟨.agg cs'.toArray,?_,cs',r2,rfl⟩;have hb:P.built t ((ps.toArray.map λ(i,x)=>(i,a.eval x)).toList)=some cs'.toArray:=by
   unfold XeY;rw[i1,u1];simp only[i2,u2,i5];simpa using r1
  simp only[execOp,Xag,run_build w t _ cs'.toArray hb,Xab,Xai]
theorem TU{c:Code}(b m:Nat){pr:Prop}{c0:Nat}{xs:List α}{Ωr:List Pe}[h:Pick Ω b pr (Row xs c0) Ωr] (hm:m<=xs.length) (hk:TC P r n Γ (⟨b,pr,Row (xs.take m) c0⟩::Ωr) c Q):TC P r n Γ Ω c Q:=
 TC.less (LE m hm rfl (XfO _)) hk
theorem Yh{e:Exit}(b m:Nat){pr:Prop}{c0:Nat}{xs:List α}{Ωr:List Pe}[h:Pick Ω b pr (Row xs c0) Ωr] (hm:m<=xs.length) (hk:TE r n Γ (⟨b,pr,Row (xs.take m) c0⟩::Ωr) Q e):TE r n Γ Ω Q e:=
 TE.less (LE m hm rfl (XfO _)) hk
end ts
theorem M7.pub{A:Nat->Prop}{w:World}{ν:Type}{τ:ν->Ty}{σ:Ty}{Ω':ν->List Pe}{e:Ending}{w':World} (hA:∀k,w.heap.size<=k->A k)
  (hσ:∀g (A:Nat->Prop) w v,(∀e∈Ω' g,e.pr->A e.b/\∃cs,Blk w e.b cs/\e.C.p A w cs)->(τ g).p A w v->σ.p A w v) (h:M7 A w [] τ Ω' e w'):Ret A w σ e w':=by
 obtain⟨v,g,h1,h2⟩:=h;refine⟨v,h1,⟨h2.st.os,h2.st.tape,h2.st.output,h2.st.size,λk hk=>h2.st.old k hk λ⟨e,he,_⟩=>absurd he (by simp),λk hk=>h2.st.cells k hk λ⟨e,he,_⟩=>absurd he (by simp)⟩,?_⟩;refine hσ g A w' v (λe he hp=>?_) (Ty.keep _ (Xd1 λk _ hk=>(ZC.1 hk).1) h2.ty);obtain⟨cs,g1,g2⟩:=h2.ks e he hp;refine⟨?_,cs,g1,e.C.keep (Xd1 λk _ hk=>(ZC.1 hk).1) g2⟩;rcases h2.nw e.b ⟨e,he,hp,rfl⟩with⟨x,hx,_⟩|h
 .exact absurd hx (by simp)
 .exact hA e.b h
theorem VC.pub{α β:Type}{i:Dat α}{j:Dat β}{A:Nat->Prop}{w:World}{C:Ct}{o:Nat}{τ:Ty}{xs:List α}{y:β}{v:Value} (c:CtSet C o (List α) Bv xs (One y)) (ha:Dat.agg β=true) (hτ:∀u,τ.p A w u->(D xs).p A w u) (h:(VC (C.mix o τ)).p A w v):(D y).p A w v:=by
 obtain⟨cs,h1,rfl⟩:=h;have h2:=c.coll (Xg6 A w) hτ h1;exact⟨cs,h2,by simp[mkV,ha]⟩
theorem G2{α:Type}{l ys:List α}{k m:Nat} (h:k+m<=l.length):(splice l k (over ((l.drop k).take m) ys)).length=l.length:=by
 rw[MJ (by omega),UG,List.length_take,List.length_drop];omega
def Zft(a b:Int):Option Int:=if 0<=a/\0<=b then some ((a.toNat &&& b.toNat:Nat):Int)else none
def orI(a b:Int):Option Int:=if 0<=a/\0<=b then some ((a.toNat ||| b.toNat:Nat):Int)else none
def WZ(a s:Int):Option Int:=if 0<=a/\0<=s then some (a/2^s.toNat)else none
def Uu(a s:Int):Option Int:=if 0<=a/\0<=s/\s<=62/\a*2^s.toNat<=9223372036854775807 then some (a*2^s.toNat)else none
section bi
variable {P:Program}{B0:Nat}{A:Nat->Prop}{Ω:List Pe}{Γ:Env}{dst:Option Tmp}{ty:TypeId}{pos:String}{aft:Array Edge}{gd:Option (Nat×Bool)}
theorem Zb6{x y:Operand}{τ σ:Ty}{t u:TypeId}{m k z:Int}[hsx:Has Γ x τ] [hx:ToD τ Int inferInstance m] [hsy:Has Γ y σ] [hy:ToD σ Int inferInstance k] (h:Zft m k=some z) :
  OpY P B0 A Ω Γ ⟨dst,.binOp .and t x y u,ty,pos,aft,gd⟩ (D z):=λa w hB hu hp hl=>by
 unfold Zft at h;split at h
 .rename_i hc
  injection h with h;subst h;obtain⟨e1,e2,hm,hk⟩:=ZeI (x:=x) (y:=y) (τ:=τ) (σ:=σ) (t:=t) (u:=u) (m:=m) (k:=k) (A:=A) (op:=.and) hl;unfold FA at hm hk;have h1:m.toNat<2^63:=by omega
  have h2:k.toNat<2^63:=by omega
  have h3:m.toNat &&& k.toNat<2^63:=Nat.and_lt_two_pow _ h2;refine D6 (I_D (by omega) (by omega)) (XbH λa w hl=>⟨.int .i64 (m.toNat &&& k.toNat:Nat),?_,rfl⟩) a w hB hu hp hl;obtain⟨e1,e2,-,-⟩:=ZeI (x:=x) (y:=y) (τ:=τ) (σ:=σ) (t:=t) (u:=u) (m:=m) (k:=k) (A:=A) (op:=.and) hl;have e3:IntKind.i64.wrap ((Xbf IntKind.i64.bits m &&& Xbf IntKind.i64.bits k).toNat:Int)=((m.toNat &&& k.toNat:Nat):Int):=by
   have g1:(Xbf IntKind.i64.bits m).toNat=m.toNat:=by show(Xbf 64 m).toNat=_;rw[XdD];omega
   have g2:(Xbf IntKind.i64.bits k).toNat=k.toNat:=by show(Xbf 64 k).toNat=_;rw[XdD];omega
   rw[BitVec.toNat_and,g1,g2];exact D8 (by omega) (by omega)
  simp only[execOp,e1,e2,eqGuard_and,binOp_and,Xdj,Xag,Xai,Xab];exact congrArg (λz=>Xdi (Xdc (XbR .i64 z)) w) e3
 .cases h
theorem Zel{x y:Operand}{τ σ:Ty}{t u:TypeId}{m k z:Int}[hsx:Has Γ x τ] [hx:ToD τ Int inferInstance m] [hsy:Has Γ y σ] [hy:ToD σ Int inferInstance k] (h:orI m k=some z) :
  OpY P B0 A Ω Γ ⟨dst,.binOp .or t x y u,ty,pos,aft,gd⟩ (D z):=λa w hB hu hp hl=>by
 unfold orI at h;split at h
 .rename_i hc
  injection h with h;subst h;obtain⟨e1,e2,hm,hk⟩:=ZeI (x:=x) (y:=y) (τ:=τ) (σ:=σ) (t:=t) (u:=u) (m:=m) (k:=k) (A:=A) (op:=.or) hl;unfold FA at hm hk;have h1:m.toNat<2^63:=by omega
  have h2:k.toNat<2^63:=by omega
  have h3:m.toNat ||| k.toNat<2^63:=Nat.or_lt_two_pow h1 h2;refine D6 (I_D (by omega) (by omega)) (XbH λa w hl=>⟨.int .i64 (m.toNat ||| k.toNat:Nat),?_,rfl⟩) a w hB hu hp hl;obtain⟨e1,e2,-,-⟩:=ZeI (x:=x) (y:=y) (τ:=τ) (σ:=σ) (t:=t) (u:=u) (m:=m) (k:=k) (A:=A) (op:=.or) hl;have e3:IntKind.i64.wrap ((Xbf IntKind.i64.bits m ||| Xbf IntKind.i64.bits k).toNat:Int)=((m.toNat ||| k.toNat:Nat):Int):=by
   have g1:(Xbf IntKind.i64.bits m).toNat=m.toNat:=by show(Xbf 64 m).toNat=_;rw[XdD];omega
   have g2:(Xbf IntKind.i64.bits k).toNat=k.toNat:=by show(Xbf 64 k).toNat=_;rw[XdD];omega
   rw[BitVec.toNat_or,g1,g2];exact D8 (by omega) (by omega)
  simp only[execOp,e1,e2,eqGuard_or,binOp_or,Xdj,Xag,Xai,Xab];exact congrArg (λz=>Xdi (Xdc (XbR .i64 z)) w) e3
 .cases h
theorem Zb4{x y:Operand}{τ σ:Ty}{t u:TypeId}{m k z:Int}[hsx:Has Γ x τ] [hx:ToD τ Int inferInstance m] [hsy:Has Γ y σ] [hy:AsCnt σ k] (h:WZ m k=some z) :
  OpY P B0 A Ω Γ ⟨dst,.binOp .shr t x y u,ty,pos,aft,gd⟩ (D z):=λa w hB hu hp hl=>by
 unfold WZ at h;split at h
 .rename_i hc
  injection h with h;subst h;have h1:=hx.le _ _ _ (Zy (x:=x) (τ:=τ) (op:=.binOp .shr t x y u) (by simp[Xae]) hl);have hm:=XgL h1;have hm:FA m:=hm;unfold FA at hm;have hd0:0<=m/2^k.toNat:=Xe1 hc.1 (Xds (by decide));have hd1:m/2^k.toNat<=m:=XeO _ hc.1;refine D6 (I_D (by omega) (by omega)) (XbH λa w hl=>⟨.int .i64 (m/2^k.toNat),?_,rfl⟩) a w hB hu hp hl;have e1:a.eval x=.int .i64 m:=D_I _ _ _ (hx.le _ _ _ (Zy (x:=x) (τ:=τ) (op:=.binOp .shr t x y u) (by simp[Xae]) hl));obtain⟨K,e2⟩:=hy.ex _ _ _ (Zy (x:=y) (τ:=σ) (op:=.binOp .shr t x y u) (by simp[Xae]) hl);have e3:m.fdiv ((2:Int)^(XfH k.toNat IntKind.i64.bits:Nat))=m/2^k.toNat:=by
   rw[Int.fdiv_eq_ediv_of_nonneg _ (Xds (by decide))];rcases Nat.le_total k.toNat 64 with hs|hs
   .rw [show XfH k.toNat IntKind.i64.bits=k.toNat from XaY hs]
   .rw [show XfH k.toNat IntKind.i64.bits=64 from Nat.min_eq_right hs];have hp:(2:Nat)^64<=2^k.toNat:=Nat.pow_le_pow_right (by decide) hs;have hp2:(2:Int)^64<=2^k.toNat:=by exact_mod_cast hp
    rw[XfI hc.1 (by omega),XfI hc.1 (by omega)]
  simp only[execOp,e1,e2,eqGuard_shr,binOp_shr,Op.shift];rw[if_neg (by omega)];simp only[e3,Xag,Xai,Xab]
 .cases h
theorem Zb5{x y:Operand}{τ σ:Ty}{t u:TypeId}{m k z:Int}[hsx:Has Γ x τ] [hx:ToD τ Int inferInstance m] [hsy:Has Γ y σ] [hy:AsCnt σ k] (h:Uu m k=some z) :
  OpY P B0 A Ω Γ ⟨dst,.binOp .shl t x y u,ty,pos,aft,gd⟩ (D z):=λa w hB hu hp hl=>by
 unfold Uu at h;split at h
 .rename_i hc
  injection h with h;subst h;have hd0:0<=m*2^k.toNat:=Int.mul_nonneg hc.1 (Xds (by decide));refine D6 (I_D (by omega) (by omega)) (XbH λa w hl=>⟨.int .i64 (m*2^k.toNat),?_,rfl⟩) a w hB hu hp hl;have e1:a.eval x=.int .i64 m:=D_I _ _ _ (hx.le _ _ _ (Zy (x:=x) (τ:=τ) (op:=.binOp .shl t x y u) (by simp[Xae]) hl));obtain⟨K,e2⟩:=hy.ex _ _ _ (Zy (x:=y) (τ:=σ) (op:=.binOp .shl t x y u) (by simp[Xae]) hl);have e3:IntKind.i64.wrap (m*(2:Int)^(XfH k.toNat IntKind.i64.bits:Nat))=m*2^k.toNat:=by
   rw[show XfH k.toNat IntKind.i64.bits=k.toNat from XaY (show k.toNat<=64 by omega)];exact D8 (by omega) (by omega)
  simp only[execOp,e1,e2,eqGuard_shl,binOp_shl,Op.shift];rw[if_neg (by omega)];simp only[e3,Xag,Xai,Xab]
 .cases h
end bi
end
section
open Go Go.RowKit Go.MapKept
def PX(k:Int):Value:=.int .i64 k
def Zb8(w:World)(N:Nat)(M:List Int):Prop:=
 ∃es clock,w.heap[N]?=some (.map es clock)/\es.toList.map (·.key)=M.map PX/\∀e∈es.toList,e.val=.agg #[]
theorem Zb8.lt{w:World}{N:Nat}{M:List Int} (h:Zb8 w N M):N<w.heap.size:=by
 obtain⟨es,c,h,-⟩:=h;rcases Xbd N w.heap.size with h1|h1
 .exact h1
 .rw [Array.getElem?_eq_none h1]at h;cases h
structure Ep(r0:Ref)(N:Nat)(M:List Int)(r:Ref):Prop where
 a:∀k,r.A k↔(r0.A k/\k≠N)
 sub:∀k,r.S k->r0.w.heap.size<=k\/r0.S k
 mt:Mut r0.S r0.w r.w
 op:Opens r
 nS:¬r.S N
 new:r0.w.heap.size<=N
 mp:Zb8 r.w N M
 rh:r.ρ=r0.ρ
 dq:r.ds=r0.ds
theorem Ep.cur{r0 r:Ref}{N:Nat}{M:List Int}{n:Nat}{Γ:Env}{Ω:List Pe}{a:Act}{w:World} (h:Ep r0 N M r) (s:Stt r n Γ Ω a w):Zb8 w N M:=by
 obtain⟨es,c,h1,h2,h3⟩:=h.mp;exact⟨es,c,by rw[s.mu.same N h.mp.lt h.nS];exact h1,h2,h3⟩
theorem Ep.nOwn{r0 r:Ref}{N:Nat}{M:List Int}{n:Nat}{Γ:Env}{Ω:List Pe}{a:Act}{w:World} (h:Ep r0 N M r) (s:Stt r n Γ Ω a w):¬Own Ω N:=λho=>by
 rcases s.pv.own N ho with h1|h1
 .have:=h.mp.lt;omega
 .exact h.nS h1
theorem Ep.back{r0 r:Ref}{N:Nat}{M:List Int}{n:Nat}{Γ:Env}{Ω:List Pe}{a:Act}{w:World} (h:Ep r0 N M r) (s:Stt r n Γ Ω a w):Stt r0 n Γ Ω a w:=by
 have hk:HD (Pub r.A Ω) (Pub r0.A Ω) w w:=Xd1 λk _ hk=>ZC.2 ⟨((h.a k).1 (ZC.1 hk).1).1,(ZC.1 hk).2⟩
 refine⟨s.sz,s.df.trans h.dq,⟨s.mu.os.trans h.mt.os,s.mu.tape.trans h.mt.tape,s.mu.output.trans h.mt.output,XaG h.mt.size s.mu.size,λk hk hs=>?_⟩,λt=>(Γ t).keep hk (s.ty t),⟨λk hk=>?_,s.pv.ks.keep hk λj _ _=>Xch _,s.pv.ap⟩⟩
 .rw [s.mu.same k (XaU hk h.mt.size) (λhS=>by rcases h.sub k hS with h1|h1;omega;exact hs h1)];exact h.mt.same k hk hs
 .rcases s.pv.own k hk with h1|h1
  .exact .inl (XaG h.mt.size h1)
  .exact h.sub k h1
section rules
variable {P:Program}{r0 r:Ref}{n:Nat}{Γ:Env}{Ω:List Pe}{Q:Exit->Act->World->Prop}{N:Nat}{M:List Int}
theorem GU{e:Exit}(h:Ep r0 N M r)(k:TE r0 n Γ Ω Q e):TE r n Γ Ω Q e:=λa w hs=>k a w (h.back hs)
def ZgB{σ ν:Type}(r0:Ref)(N:Nat)(n:Nat)(p:σ->Prop)(Mf:σ->List Int)(Δ:σ->ν->Env)(J:σ->ν->List Pe)(Q:Exit->Act->World->Prop):Exit->Act->World->Prop
 | .normal,a,w=>∃s m r,p s/\Ep r0 N (Mf s) r/\Stt r n (Δ s m) (J s m) a w
 | e,a,w=>Q e a w
theorem M5{σ ν:Type}{c:Code} (h0:Ep r0 N M r) (p:σ->Prop) (Mf:σ->List Int) (Δ:σ->ν->Env) (J:σ->ν->List Pe) (h:TC P r n Γ Ω c (ZgB r0 N n p Mf Δ J Q)) (k:∀s m,p s->∀r,Ep r0 N (Mf s) r->TE r n (Δ s m) (J s m) Q .normal):TC P r n Γ Ω c Q:=λa w hs=>wpIn_mono (h a w hs) λe a' w' hq=>by
 cases e with
 | normal=>obtain⟨s,m,r,h1,h2,h3⟩:=hq;exact k s m h1 r h2 a' w' h3
 | _=>exact hq
theorem Kf{σ ν:Type}{p:σ->Prop}{Mf:σ->List Int}{Δ:σ->ν->Env}{J:σ->ν->List Pe} (h0:Ep r0 N M r) (s:σ) (m:ν) (hp:p s) (hM:M=Mf s) (h:Γ.le (Δ s m)) (j:Fb Ω (J s m)):TE r n Γ Ω (ZgB r0 N n p Mf Δ J Q) .normal:=
 λ_ _ hs=>⟨s,m,r,hp,hM▸h0,(hs.le h).less j⟩
theorem Jp{σ ν:Type}{p:σ->Prop}{Mf:σ->List Int}{Δ:σ->ν->Env}{J:σ->ν->List Pe} (h:TE r n Γ Ω Q .ret):TE r n Γ Ω (ZgB r0 N n p Mf Δ J Q) .ret:=h
theorem N8{σ ε ν:Type}{f:σ->Option (σ⊕ε)}{s0:σ}{e:ε}{c:Code} (hl:ZN f s0=some e) (h00:Ep r0 N M r) (Mf:σ->List Int) (I:σ->ν->Env) (J:σ->ν->List Pe) (m0:ν) (hM:M=Mf s0) (h0:Γ.le (I s0 m0)) (j0:Fb Ω (J s0 m0))
  (round:∀s m x,f s=some x->(∀e',x=.inr e'->e'=e)->∀r,Ep r0 N (Mf s) r->TC P r n (I s m) (J s m) c (Exit.then (λa w=>∃s' m' r,x=.inl s'/\Ep r0 N (Mf s') r/\Stt r n (I s' m') (J s' m') a w) Q)):TC P r n Γ Ω (.loop c) Q:=by
 intro a w hs b k cs hro hb hr;have key:∀(m:Nat) (s:σ) (v:ν) (r:Ref) a w,Fz f m s=some e->Ep r0 N (Mf s) r->Stt r n (I s v) (J s v) a w->
   ∃e a' w',Q e a' w'/\ArrivesIn (Xga P (FR none)) P (lone (b.atR a (.code c :: .inLoop c::k)) cs w) b k cs e a' w':=by
  intro m
  induction m with
  | zero=>intro s v r a w hg;cases hg
  | succ m ih=>
   intro s v r a w hg hE hI;unfold Fz at hg;cases hf:f s with
   | none=>rw[hf]at hg;cases hg
   | some x=>
    rw[hf]at hg;obtain⟨ex,a₁,w₁,hq,harr⟩:=round s v x hf (λe' h=>by subst h;injection hg) r hE a w hI b (.inLoop c::k) cs (by rw[hE.rh,<-h00.rh];exact hro) trivial (λd hd=>by cases hd);cases ex with
    | normal=>
     obtain⟨s',m',r',hx,hE',hI₁⟩:=hq;subst hx;obtain⟨e₂,a₂,w₂,hq₂,harr₂⟩:=ih s' m' r' a₁ w₁ hg hE' hI₁;exact⟨e₂,a₂,w₂,hq₂,.of_steps (Xgh harr (.one (fenced_calm (F:=FR none) (n:=0) trivial (λd hd=>by cases hd) rfl) stepR_inLoop)) harr₂⟩
    | exit id=>exact⟨_,a₁,w₁,hq,.pass (x:=.inLoop c) rfl (λ_ _=>.inl (by simp)) harr⟩
    | goto l=>exact⟨_,a₁,w₁,hq,.pass (x:=.inLoop c) rfl (λ_ _=>.inl (by simp)) harr⟩
    | ret=>exact⟨_,a₁,w₁,hq,.pass (x:=.inLoop c) rfl (λ_ _=>.inl (by simp)) harr⟩
    | panic ch=>exact⟨_,a₁,w₁,hq,.pass (x:=.inLoop c) rfl (λ_ _=>.inl (by simp)) harr⟩
    | outgrown=>exact⟨_,a₁,w₁,hq,.pass (x:=.inLoop c) rfl (λ_ _=>.inl (by simp)) harr⟩
 obtain⟨e',a',w',hq,harr⟩:=key _ s0 m0 r a w hl (hM▸h00) ((hs.le h0).less j0);exact⟨e',a',w',hq,.of_steps (.one (fenced_calm (F:=FR r.ρ) (n:=0) trivial (λd hd=>by cases hd) rfl) stepR_loop) harr⟩
theorem N7{σ ε ν:Type}{Mf:σ->List Int}{I:σ->ν->Env}{J:σ->ν->List Pe}{x:σ⊕ε} (h0:Ep r0 N M r) (s':σ) (m':ν) (hx:x=.inl s') (hM:M=Mf s') (h:Γ.le (I s' m')) (j:Fb Ω (J s' m')) :
  TE r n Γ Ω (Exit.then (λa w=>∃s' m' r,x=.inl s'/\Ep r0 N (Mf s') r/\Stt r n (I s' m') (J s' m') a w) Q) .normal:=λ_ _ hs=>⟨s',m',r,hx,hM▸h0,(hs.le h).less j⟩
end rules
def WE(M:List Int)(k:Int):List Int:=if k∈M then M else M++[k]
def WA(N:Nat):Ty:=Ex (.map (some N))
def ZfP:Ty:=Ex (.agg #[])
theorem Ep.put{r0 r:Ref}{N:Nat}{M M':List Int}{n:Nat}{Γ:Env}{Ω:List Pe}{a:Act}{w:World}{es:Array MapEntry}{c:Nat} (h:Ep r0 N M r) (s:Stt r n Γ Ω a w)
  (hm:Zb8 { w with heap:=w.heap.setIfInBounds N (.map es c) } N M'):∃r',Ep r0 N M' r'/\Stt r' n Γ Ω a { w with heap:=w.heap.setIfInBounds N (.map es c) }:=by
 have hno:=h.nOwn s;have hlt:N<w.heap.size:=(h.cur s).lt;have hsame:∀k,k≠N->({ w with heap:=w.heap.setIfInBounds N (.map es c) }:World).heap[k]?=w.heap[k]?:=λk hk=>by
  show(w.heap.setIfInBounds N _)[k]?=_;rw[Array.getElem?_setIfInBounds_ne (Xc3 hk)]
 have hsz:({ w with heap:=w.heap.setIfInBounds N (.map es c) }:World).heap.size=w.heap.size:=by simp
 have hA:∀k,Pub r.A Ω k->k≠N:=λk hk=>((h.a k).1 (ZC.1 hk).1).2
 have hin:∀k,Own Ω k->k≠N:=λk hk e=>hno (e▸hk)
 have hkeep:HD (Pub r.A Ω) (Pub r.A Ω) w { w with heap:=w.heap.setIfInBounds N (.map es c) }:=⟨by rw[hsz];exact Xau _,λk _ hk=>⟨hk,by rw[hsame k (hA k hk)];exact Xch _⟩⟩;refine⟨⟨{ w with heap:=w.heap.setIfInBounds N (.map es c) },r.A,Own Ω,λk hk=>r.up k (XaG s.mu.size (by rw[<-hsz];exact hk)),r.ρ,r.ds⟩,⟨h.a,λk hk=>?_,?_,⟨λk hk=>?_⟩,hno,h.new,hm,h.rh,h.dq⟩,⟨s.sz,s.df,Xd7 _ _,λt=>(Γ t).keep hkeep (s.ty t),⟨λk hk=>.inr hk,s.pv.ks.keep hkeep λj hj ho=>by rw[hsame j (hin j ho)];exact Xch _,s.pv.ap⟩⟩⟩
 .rcases s.pv.own k hk with h1|h1
  .exact .inl (XaG h.mt.size h1)
  .exact h.sub k h1
 .have hb:=(h.back s).mu;refine⟨hb.os,hb.tape,hb.output,XaG hb.size (by rw[hsz];exact Xau _),λk hk hS=>?_⟩;rw[hsame k (λe=>by have:=h.new;omega)];exact hb.same k hk hS
 .rcases hk with hk|hk
  .exact r.up k (XaG s.mu.size (by rw[<-hsz];exact hk))
  .exact h.op.h k (s.pv.own k hk)
section ops
variable {P:Program}{r0 r:Ref}{n:Nat}{Γ:Env}{Ω:List Pe}{Q:Exit->Act->World->Prop}{N:Nat}{M:List Int}{ops:Array Oper}{k:Nat}{rest:List Oper}
variable {t kt et ty:TypeId}{d:Tmp}{pos:String}{aft:Array Edge}
class TMap(P:Program)(t:TypeId)(kt et:outParam TypeId):Prop where
 h:P.underlying t=some (.map kt et)
 k:P.underlying kt=some (.int .i64)
 z:∃ti z,P.info? et=some ti/\ti.zero=some z/\z=.agg #[]
theorem TS.step{o:Oper}{a:Act}{w w':World}{v:Value} (hg:o.guard=none) (hrun:(execOp a.eval o).run P w=.ok (.value v) w')
  (hl:∀j,(o::rest)[j]?=ops[k+j]?) {ρ:Option Nat} (hk:wpOpsIn (FR ρ) 0 P ops Q (XgX (k+1) rest.length) (a.put o.dst v) w'):wpOpsIn (FR ρ) 0 P ops Q (XgX k (o::rest).length) a w:=by
 have h0:ops[k]?=some o:=by simpa using (hl 0).symm
 simp only[XaP,XcE];rw[wpOpsIn_cons];unfold wpOpIn;simp only[h0,Xa3,hg,if_true];have hn:∀c,o.op≠.defer c:=λc hc=>by rcases Oq (ρ:=a.eval) (P:=P) (w:=w) hc with⟨d,w',e⟩|⟨x,w',e⟩<;>rw[e]at hrun<;>cases hrun
 refine⟨λ_ _=>trivial,?_⟩;rw[Xdx _ _ _ hn,hrun];exact hk
theorem F7{o:Oper}(hl:∀j,(o::rest)[j]?=ops[k+j]?):∀j,rest[j]?=ops[k+1+j]?:=λj=>by have:=hl (j+1);simpa[XbO,Xb1 1 j]using this
theorem Mp {hint : Option Operand} [op : Opens r0] (hd : XaZ d n = true)
    (hrun : ∀ a w, Stt r0 n Γ Ω a w → (execOp a.eval ⟨some d, .makeMap t hint, ty, pos, aft, none⟩).run P w = .ok (.value (.map (some w.heap.size))) (w.alloc (.map #[] 0)))
    (hk : ∀ N r, Ep r0 N [] r → TS P r n ops rest (k + 1) (Γ.set d (WA N)) Ω Q) : TS P r0 n ops (⟨some d, .makeMap t hint, ty, pos, aft, none⟩ :: rest) k Γ Ω Q := fun hl a w hs => by
  refine TS.step rfl (hrun a w hs) hl ?_
  have hown : ∀ k, Own Ω k → k < w.heap.size := fun k hk => hs.pv.ks.lt hk
  have hh : ∀ k, k < w.heap.size → (w.alloc (.map #[] 0)).heap[k]? = w.heap[k]? := (heap_alloc w _).2
  have hsz : (w.alloc (.map #[] 0)).heap.size = w.heap.size + 1 := Xf7 _ _
  have hkeep : HD (Pub r0.A Ω) (Pub (fun k => r0.A k ∧ k ≠ w.heap.size) Ω) w (w.alloc (.map #[] 0)) := ⟨by omega, fun k hk hp => ⟨ZC.2 ⟨⟨(ZC.1 hp).1, by omega⟩, (ZC.1 hp).2⟩, by rw [hh k hk]; exact Xch _⟩⟩
  refine hk w.heap.size ⟨w.alloc (.map #[] 0), fun k => r0.A k ∧ k ≠ w.heap.size, Own Ω, fun k hk => ⟨r0.up k (by have := hs.mu.size; omega), by omega⟩, r0.ρ, r0.ds⟩ ⟨fun k => XgY, fun k hk => hs.pv.own k hk, ?_, ⟨fun k hk => ?_⟩, fun hN => by have := hown _ hN; omega, hs.mu.size, ⟨#[], 0, (heap_alloc w _).1, rfl, fun e he => by simp at he⟩, rfl, rfl⟩ (F7 hl) _ _ ?_
  · exact ⟨hs.mu.os, hs.mu.tape, hs.mu.output, by have := hs.mu.size; rw [hsz]; omega, fun k hk hS => by rw [hh k (by have := hs.mu.size; omega)]; exact hs.mu.same k hk hS⟩
  · rcases hk with hk | hk
    · exact ⟨r0.up k (by have := hs.mu.size; have h2 : w.heap.size + 1 ≤ k := by rw [← hsz]; exact hk
                         omega), by have h2 : w.heap.size + 1 ≤ k := by rw [← hsz]; exact hk
                                    omega⟩
    · exact ⟨op.h k (hs.pv.own k hk), by have := hown k hk; omega⟩
  · obtain ⟨h1, h2, h3⟩ := Kq (a := a) (d := some d) (τ := WA w.heap.size) (v := .map (some w.heap.size)) (w' := w.alloc (.map #[] 0)) hs.sz (fun t ht => by injection ht with ht; subst ht; simpa using hd) (fun t => (Γ t).keep hkeep (hs.ty t)) rfl
    exact ⟨h1, h2.trans hs.df, Xd7 _ _, h3, ⟨fun k hk => .inr hk, hs.pv.ks.keep hkeep fun j hj _ => by rw [hh j hj]; exact Xch _, hs.pv.ap⟩⟩
theorem TS.makeMap[op:Opens r0](hd:XaZ d n=true)(hk:∀N r,Ep r0 N [] r->TS P r n ops rest (k+1) (Γ.set d (WA N)) Ω Q):TS P r0 n ops (⟨some d,.makeMap t none,ty,pos,aft,none⟩::rest) k Γ Ω Q:=
 Mp hd (λa w _=>by simp[execOp,XgF]) hk
theorem TP[op:Opens r0]{x:Operand}{τ:Ty}{q:Int}[m:TMap P t kt et] [hx:Has Γ x τ] [hq:AsI τ q] (hd:XaZ d n=true) (hk:∀N r,Ep r0 N [] r->TS P r n ops rest (k+1) (Γ.set d (WA N)) Ω Q):TS P r0 n ops (⟨some d,.makeMap t (some x),ty,pos,aft,none⟩::rest) k Γ Ω Q:=
 Mp hd (λa w hs=>by
  have e1:a.eval x=.int .i64 q:=hq.le _ _ _ (hx.le a _ w λt _=>hs.ty t);simp[execOp,XgF,e1,run_underlying m.h,asInt,asIntOf]) hk
theorem UX {M : List Int} {q : Int} : ∀ (es : List MapEntry) (i : Nat), es.map (·.key) = M.map PX →
    (q ∉ M ∧ Xfe (.int .i64) (PX q) es i = some none) ∨ (q ∈ M ∧ ∃ j e, es[j]? = some e ∧ e.key = PX q ∧ Xfe (.int .i64) (PX q) es i = some (some (i + j, e.val))) := by
  induction M with
  | nil => intro es i h; left; have : es = [] := by simpa using h
           subst this; exact ⟨by simp, rfl⟩
  | cons x M ih =>
    intro es i h
    cases es with
    | nil => simp at h
    | cons e es =>
      simp only [Xbl, List.cons.injEq] at h
      obtain ⟨h1, h2⟩ := h
      unfold Xfe
      rw [h1]
      by_cases hq : q = x
      · subst hq
        right
        refine ⟨by simp, 0, e, rfl, h1, ?_⟩
        simp [Xfc, PX]
      · have hs : Xfc (.int .i64) (PX q) (PX x) = some false := by simp [Xfc, PX, hq]
        rw [hs]
        rcases ih es (i + 1) h2 with ⟨g1, g2⟩ | ⟨g1, j, e', g2, g3, g4⟩
        · left; exact ⟨by simp [hq, g1], g2⟩
        · right; exact ⟨by simp [g1], j + 1, e', by simpa using g2, g3, by rw [g4, show i + 1 + j = i + (j + 1) by omega]⟩
theorem TS.mapUpdate{m x y:Operand}{τ:Ty}{q:Int}[T:TMap P t kt et] (h0:Ep r0 N M r) [hm:Has Γ m (WA N)] [hx:Has Γ x τ] [hq:AsI τ q] [hy:Has Γ y ZfP]
  (hk:∀r,Ep r0 N (WE M q) r->TS P r n ops rest (k+1) Γ Ω Q):TS P r n ops (⟨none,.mapUpdate t m x y,ty,pos,aft,none⟩::rest) k Γ Ω Q:=λhl a w hs=>by
 have e1:a.eval m=.map (some N):=hm.le a _ w λt _=>hs.ty t
 have e2:a.eval x=PX q:=hq.le _ _ _ (hx.le a _ w λt _=>hs.ty t);have e3:a.eval y=.agg #[]:=hy.le a _ w λt _=>hs.ty t
 obtain⟨es,c,b1,b2,b3⟩:=h0.cur hs;have hkey:IsKey (.int .i64) (PX q):=rfl;have hck:=run_checkKey (P:=P) (w:=w) (kt:=kt) (k:=PX q) T.k hkey false 9999;rcases UX (q:=q) es.toList 0 b2 with⟨g1,g2⟩|⟨g1,j,e,g2,g3,g4⟩
 .have hf:=run_findKey (P:=P) (w:=w) (kt:=kt) T.k g2;have hrun:(execOp a.eval ⟨none,.mapUpdate t m x y,ty,pos,aft,none⟩).run P w=.ok .skip { w with heap:=w.heap.setIfInBounds N (.map (es.push { key:=PX q,val:=.agg #[],born:=c }) (c+1)) }:=by
   simp only[execOp,Xgn,e1,e2,e3,Xag,run_underlying T.h,Xab,Xc8 b1,hck,hf,run_setObj_map _ b1,Xai]
  obtain⟨r',p1,p2⟩:=h0.put (M':=WE M q) hs ⟨es.push { key:=PX q,val:=.agg #[],born:=c },c+1,(heap_set b1).1,by unfold WE;rw[if_neg g1];simp[b2],λe he=>by
   simp only[Array.toList_push,Xar,Xal]at he;rcases he with he|rfl
   .exact b3 e he
   .rfl⟩
  have h1:ops[k]?=some ⟨none,.mapUpdate t m x y,ty,pos,aft,none⟩:=by simpa using (hl 0).symm
  simp only[XaP,XcE];rw[wpOpsIn_cons];unfold wpOpIn;simp only[h1,Xa3,if_true];refine⟨λ_ _=>trivial,?_⟩;rw[Xdx _ _ _ (λc hc=>by cases hc),hrun];have:=hk r' p1 (F7 hl) _ _ p2;rw[p1.rh,<-h0.rh]at this;exact this
 .have hf:=run_findKey (P:=P) (w:=w) (kt:=kt) T.k g4;have hes:es[0+j]?=some e:=by rw[Xbg];simpa using g2
  have hst:=run_keyThatStays (P:=P) (w:=w) hkey;have hrun:(execOp a.eval ⟨none,.mapUpdate t m x y,ty,pos,aft,none⟩).run P w=.ok .skip { w with heap:=w.heap.setIfInBounds N (.map (es.modify (0+j) λe=>{ e with key:=PX q,val:=.agg #[] }) c) }:=by
   simp only[execOp,Xgn,e1,e2,e3,Xag,run_underlying T.h,Xab,Xc8 b1,hck,hf,hes,Xbj,Option.getD_some,g3,hst,run_setObj_map _ b1,Xai]
  obtain⟨r',p1,p2⟩:=h0.put (M':=WE M q) hs ⟨es.modify (0+j) λe=>{ e with key:=PX q,val:=.agg #[] },c,(heap_set b1).1,by
   unfold WE;rw[if_pos g1,modify_keys _ _ (λe' he'=>by
    rw[hes]at he';injection he' with he';subst he';exact g3.symm),b2],λe' he'=>by
   obtain⟨i,hi,hie⟩:=XaQ he';simp only[Array.toList_modify]at hi hie;rw[List.getElem_modify]at hie
   split at hie
   .rw [<-hie]
   .rw [<-hie];exact b3 _ (List.getElem_mem _)⟩
  have h1:ops[k]?=some ⟨none,.mapUpdate t m x y,ty,pos,aft,none⟩:=by simpa using (hl 0).symm
  simp only[XaP,XcE];rw[wpOpsIn_cons];unfold wpOpIn;simp only[h1,Xa3,if_true];refine⟨λ_ _=>trivial,?_⟩;rw[Xdx _ _ _ (λc hc=>by cases hc),hrun];have:=hk r' p1 (F7 hl) _ _ p2;rw[p1.rh,<-h0.rh]at this;exact this
theorem Kc{m x:Operand}{τ:Ty}{q:Int}[T:TMap P t kt et] (h0:Ep r0 N M r) [hm:Has Γ m (WA N)] [hx:Has Γ x τ] [hq:AsI τ q] (hd:XaZ d n=true)
  (hk:TS P r n ops rest (k+1) (Γ.set d (Tup [ZfP,B (decide (q∈M))])) Ω Q):TS P r n ops (⟨some d,.lookup t m x true,ty,pos,aft,none⟩::rest) k Γ Ω Q:=λhl a w hs=>by
 have e1:a.eval m=.map (some N):=hm.le a _ w λt _=>hs.ty t
 have e2:a.eval x=PX q:=hq.le _ _ _ (hx.le a _ w λt _=>hs.ty t);obtain⟨es,c,b1,b2,b3⟩:=h0.cur hs;have hkey:IsKey (.int .i64) (PX q):=rfl;obtain⟨ti,z,z1,z2,rfl⟩:=T.z;have hck:∀em,(Instr.checkKey em 10000 kt (PX q)).run P w=.ok () w:=λem=>run_checkKey (P:=P) (w:=w) (kt:=kt) (k:=PX q) T.k hkey em 9999
 have hrun:(execOp a.eval ⟨some d,.lookup t m x true,ty,pos,aft,none⟩).run P w=.ok (.value (.tuple #[.agg #[],.bool (decide (q∈M))])) w:=by
  rcases UX (q:=q) es.toList 0 b2 with⟨g1,g2⟩|⟨g1,j,e,g2,g3,g4⟩
  .have hf:=run_findKey (P:=P) (w:=w) (kt:=kt) T.k g2;simp[execOp,XgK,e1,e2,run_underlying T.h,Xc8 b1,hck,hf,zeroValue,typeInfo,z1,z2,g1]
  .have hf:=run_findKey (P:=P) (w:=w) (kt:=kt) T.k g4;have hv:=b3 e (List.mem_of_getElem? g2);simp[execOp,XgK,e1,e2,run_underlying T.h,Xc8 b1,hck,hf,hv,g1]
 refine TS.step rfl hrun hl (hk (F7 hl) _ _ (hs.put (d:=some d) (λt ht=>by injection ht with ht;subst ht;simpa using hd) (Xdg _ _) ⟨[.agg #[],.bool (decide (q∈M))],rfl,rfl,λi hi=>?_⟩))
 match i,hi with
 | 0,_=>rfl
 | 1,_=>rfl
end ops
section sn
variable {P:Program}{r:Ref}{n:Nat}{Γ:Env}{Ω:List Pe}{Q:Exit->Act->World->Prop}{ops:Array Oper}{k:Nat}{rest:List Oper}{op:Op}{ty:TypeId}{pos:String}{aft:Array Edge}
theorem Zd5{τ:Ty}(h:∀{A:Nat->Prop},OpY P r.w.heap.size A Ω Γ ⟨none,op,ty,pos,aft,none⟩ τ)(hk:TS P r n ops rest (k+1) Γ Ω Q):TS P r n ops (⟨none,op,ty,pos,aft,none⟩::rest) k Γ Ω Q:=
 ZfY (τ:=τ) (λt ht=>by cases ht) (λA a w hB hu hp hl=>by
  rw[if_pos (by simp[Xa3])];exact h a w hB hu hp λt ht=>hl t (IC ht)) hk
end sn
section emp
variable {P:Program}{B0:Nat}{A:Nat->Prop}{Ω:List Pe}{Γ:Env}{dst:Option Tmp}{ty:TypeId}{pos:String}{aft:Array Edge}{gd:Option (Nat×Bool)}{t:TypeId}
def Zgu:Ty:=⟨λ_ _ v=>∃b,v=.pointer (some ⟨b,0,none⟩),λ_ h=>h⟩
class TEmp(P:Program)(t:TypeId):Prop where
 b:P.built t []=some #[]
 z:∃ti z,P.info? t=some ti/\ti.zero=some z/\z=.agg #[]/\ti.size=0
theorem Na[T:TEmp P t]:OpY P B0 A Ω Γ ⟨dst,.build t #[],ty,pos,aft,gd⟩ ZfP:=
 XbH λa w hl=>⟨.agg #[],by
  have hb:P.built t ((#[].map λ(i,x)=>(i,a.eval x)).toList)=some #[]:=by simpa using T.b
  simp only[execOp,Xag,run_build w t _ #[] hb,Xab,Xai],rfl⟩
theorem Nb[T:TEmp P t]:OpY P B0 A Ω Γ ⟨dst,.alloc t,ty,pos,aft,gd⟩ Zgu:=λa w hB hu hp hl=>by
 obtain⟨ti,z,z1,z2,rfl,z3⟩:=T.z;have hrun:(execOp a.eval ⟨dst,.alloc t,ty,pos,aft,gd⟩).run P w=.ok (.value (.pointer (some ⟨w.heap.size,0,none⟩))) (w.alloc (.cells #[] t)):=by
  simp[execOp,Instr.alloc,zeroValue,typeInfo,z1,z2,newVar,newRow,XfC]
 rw[hrun];exact⟨KP.push _ hB,_,rfl⟩
theorem M8[T:TEmp P t]{p x:Operand}[hp:Has Γ p Zgu] [hx:Has Γ x ZfP]:OpY P B0 A Ω Γ ⟨dst,.store t p x,ty,pos,aft,gd⟩ Xb7:=λa w hB hu hpk hl=>by
 obtain⟨b,e1⟩:=Zy (x:=p) (τ:=Zgu) (op:=.store t p x) (by simp[Xae]) hl;have e2:a.eval x=.agg #[]:=Zy (x:=x) (τ:=ZfP) (op:=.store t p x) (by simp[Xae]) hl;obtain⟨ti,z,z1,z2,rfl,z3⟩:=T.z;have hrun:(execOp a.eval ⟨dst,.store t p x,ty,pos,aft,gd⟩).run P w=.ok .skip w:=by
  simp[execOp,Xer,e1,e2,Xbm,storeVar,sizeOf,typeInfo,z1,z3,XfC,storeCells]
 rw[hrun];exact⟨Xdg _ _,trivial⟩
end emp
end
section
open Go Go.RowKit
section op
variable {P:Program}{B:Nat}{Ωs Ωt:List Pe}{ops:Array Oper}
theorem Jq{Γ1 Γ2:Env}{o:Oper}{ν:Type}{τ:ν->Ty}{Ω':ν->List Pe} (h:OpT P B Ωs Ωt Γ1 o τ Ω') (he:∀t∈o.looksAt ops,(Γ2 t).le (Γ1 t)):OpT P B Ωs Ωt Γ2 o τ Ω':=
 ⟨h.1,λA0 a w hB hu ho ha hp hl=>h.2 A0 a w hB hu ho ha hp λt ht=>he t (IC ht) _ _ _ (hl t ht)⟩
theorem LD{Γ1 Γ2:Env}{o:Oper}{τ:Ty} (h:OpG P B ops Ωs Γ1 o τ) (he:∀t∈o.looksAt ops,(Γ2 t).le (Γ1 t)):OpG P B ops Ωs Γ2 o τ:=
 λA a w hB hu hp hl=>h A a w hB hu hp λt ht=>he t ht _ _ _ (hl t ht)
theorem Rm{Γ:Env}{o:Oper}{τ:Ty}{Ω2:List Pe} (h:OpG P B ops Ωs Γ o τ) (hk:∀A w,Pks A Ω2 w->Pks A Ωs w):OpG P B ops Ω2 Γ o τ:=
 λA a w hB hu hp hl=>h A a w hB hu (hk _ _ hp) hl
theorem OpT.map{Γ:Env}{o:Oper}{ν ν':Type}{τ:ν->Ty}{τ':ν'->Ty}{Ω1:ν->List Pe}{Ω2:ν'->List Pe} (f:ν->ν') (h1:∀g,τ' (f g)=τ g) (h2:∀g,Ω2 (f g)=Ω1 g) (h:OpT P B Ωs Ωt Γ o τ Ω1):OpT P B Ωs Ωt Γ o τ' Ω2:=
 ⟨h.1,λA0 a w hB hu ho ha hp hl=>by
  have hy:=h.2 A0 a w hB hu ho ha hp hl;generalize (execOp a.eval o).run P w=r at *;cases r with
  | ok x w'=>
   cases x<;>simp only[Ge]at hy⊢
   case value v=>obtain⟨g,hg⟩:=hy;exact⟨f g,by rw[h1,h2];exact hg⟩
   case skip=>obtain⟨g,hg⟩:=hy;exact⟨f g,by rw[h1,h2];exact hg⟩
   case enter g args=>exact hy.mono λe w' ⟨v,g,he,hg⟩=>⟨v,f g,he,by rw[h1,h2];exact hg⟩
  | halt x w'=>simp only[Ge]at hy⟩
theorem OpT.perm{Γ:Env}{o:Oper}{ν:Type}{τ:ν->Ty}{Ω':ν->List Pe}{Ω2:List Pe} (hp:Ω2.Perm Ωt) (h:OpT P B Ωs Ωt Γ o τ Ω'):OpT P B Ωs Ω2 Γ o τ λg=>Ω' g++[]:=
 Xgr (Ωt:=Ωt) (Ωr:=[]) (by rw[XaX];exact hp) (by rw[XaX];exact h)
end op
structure Sub(F' F:Fam) where
 h:F'.ν->F.ν
 th:∀g t,(F'.Θ g t).le (F.Θ (h g) t)
 pm:∀g,(F'.Ω g).Perm (F.Ω (h g))
 tl:∀t,t∈F'.tl↔t∈F.tl
theorem ZeY{Γ Δ:Env}{τ:Ty}{d:Option Tmp} (h:∀t,(Γ t).le (Δ t)):∀t,(Γ.put d τ t).le (Δ.put d τ t):=λt=>by
 cases d with
 | none=>exact h t
 | some d=>
  simp only[Xgo,TR]
  split
  .exact Ty.le.refl _
  .exact h t
def Sub.next{F' F:Fam}(s:Sub F' F)(d:Option Tmp){μ:F.ν->Type}(τ:(g:F.ν)->μ g->Ty)(Ω':(g:F.ν)->μ g->List Pe)(Ω'':(g:F'.ν)->μ (s.h g)->List Pe)(hp:∀g m,(Ω'' g m).Perm (Ω' (s.h g) m)) :
  Sub (F'.next d (μ:=λg=>μ (s.h g)) (λg m=>τ (s.h g) m) Ω'') (F.next d τ Ω') where
 h g:=⟨s.h g.1,g.2⟩
 th g:=ZeY (s.th g.1)
 pm g:=hp g.1 g.2
 tl t:=by simp only[XdL,Xar,s.tl]
theorem ZaJ{Θ1 Θ2 Γ:Env}(h:∀t,(Θ1 t).le (Θ2 t))(t:Tmp):(Xce Θ1 Γ t).le (Xce Θ2 Γ t):=λA w v x=>⟨h t A w v x.1,x.2⟩
def YW(P:Program)(o:Oper)(C:Ct):Prop:=∀(B:Nat) (Ωs Ω:List Pe) (Γ:Env),OpT P B Ωs Ω Γ o (λb:Nat=>Pt b 0) λb=>⟨b,True,C⟩::Ω
theorem YV{P:Program}{t ty:TypeId}{d:Tmp}{pos:String}{aft:Array Edge}{α:Type}{i:Dat α}{bt:Nat}[T:TEl P t α i bt]:YW P ⟨some d,.alloc t,ty,pos,aft,none⟩ (One (Dat.z:α)):=λB Ωs Ω Γ=>
 OpT.map (λg:Nat×Unit=>g.1) (λ_=>rfl) (λ_=>rfl) (DZ (α:=α))
section cls
variable (P:Program)(B:Nat)(Ωs:List Pe)(ops:Array Oper)(n:Nat)(cl:Nat->Nat)
def OpU(Γ:Env)(F:Fam)(o:Oper){μ:F.ν->Type}(τ:(g:F.ν)->μ g->Ty)(Ω':(g:F.ν)->μ g->List Pe):Prop:=
 ∀Ωr g,OpT P B (Ωs++Ωr) (F.Ω g) (Xce (F.Θ g) Γ) o (τ g) (Ω' g)
def OpR(Γ:Env)(F:Fam)(o:Oper)(τ:F.ν->Ty):Prop:=∀g,OpG P B ops (Ωs++F.Ω g) (Xce (F.Θ g) Γ) o (τ g)
def OpV(Γ:Env)(F:Fam)(o:Oper)(τ:Nat->Ty)(C:Ct):Prop:=∀(B:Nat) (Ωs Ω:List Pe) (g:F.ν),OpT P B Ωs Ω (Xce (F.Θ g) Γ) o τ λb=>⟨b,True,C⟩::Ω
def Pv(c:Nat)(o:Oper)(K:Env->Fam->Prop)(Γ:Env)(F:Fam):Prop:=
 (c=0/\(∀t,o.dst=some t->t∉F.tl)/\∃τ,OpG P B ops Ωs Γ o τ/\K (Γ.put o.dst τ) F)\/
 (c=1/\∃(μ:F.ν->Type) (τ:(g:F.ν)->μ g->Ty) (Ω':(g:F.ν)->μ g->List Pe),OpU P B Ωs Γ F o τ Ω'/\K (Γ.put o.dst Xb7) (F.next o.dst τ Ω'))\/
 (c=2/\∃τ:F.ν->Ty,OpR P B Ωs ops Γ F o τ/\K (Γ.put o.dst Xb7) (F.next o.dst (μ:=λ_=>Unit) (λg _=>τ g) λg _=>F.Ω g))\/
 (c=3/\∃C,YW P o C/\K (Γ.put o.dst Xb7) (F.next o.dst (μ:=λ_=>Nat) (λ_ b=>Pt b 0) λg b=>⟨b,True,C⟩::F.Ω g))\/
 (c=4/\∃(C:Ct) (τ:Nat->Ty),OpV P Γ F o τ C/\K (Γ.put o.dst Xb7) (F.next o.dst (μ:=λ_=>Nat) (λ_ b=>τ b) λg b=>⟨b,True,C⟩::F.Ω g))
def VA(i:Nat)(K:Env->Fam->Prop)(Γ:Env)(F:Fam):Prop:=
 match ops[i]? with
 | none=>K Γ F
 | some o=>(∀t,o.dst=some t->t<n)/\Pv P B Ωs ops (cl i) o K Γ F
def Q9:Nat->List Oper->Env->Fam->(Env->Fam->Prop)->Prop
 | _,[],Γ,F,K=>K Γ F
 | k,o::rest,Γ,F,K=>(∀t,o.dst=some t->t<n)/\Pv P B Ωs ops (cl k) o (λΓ F=>Q9 (k+1) rest Γ F K) Γ F
def Wl(md:XbC)(K:Env->Fam->Prop):Nat->Array Bool->Env->Fam->Prop
 | 0,listed,Γ,F=>Xbi md ops listed=[]/\K Γ F
 | fuel+1,listed,Γ,F=>
  (Xbi md ops listed=[]->K Γ F)/\
  ∀i∈Xbi md ops listed,VA P B Ωs ops n cl i (Wl md K fuel (listed.setIfInBounds i true)) Γ F
end cls
def Cl(K:Env->Fam->Prop):Prop:=∀Γ F F',Sub F' F->K Γ F->K Γ F'
section any
variable {P:Program}{B:Nat}{Ωs:List Pe}{ops:Array Oper}{n:Nat}{cl:Nat->Nat}{md:XbC}
theorem Pv.mono{c:Nat}{o:Oper}{K K':Env->Fam->Prop}{Γ:Env}{F:Fam} (h:∀Γ F,K Γ F->K' Γ F) (hh:Pv P B Ωs ops c o K Γ F):Pv P B Ωs ops c o K' Γ F:=by
 rcases hh with⟨h0,h1,τ,h2,h3⟩|⟨h0,μ,τ,Ω',h2,h3⟩|⟨h0,τ,h2,h3⟩|⟨h0,C,h2,h3⟩|⟨h0,C,τ,h2,h3⟩
 .exact .inl ⟨h0,h1,τ,h2,h _ _ h3⟩
 .exact .inr (.inl ⟨h0,μ,τ,Ω',h2,h _ _ h3⟩)
 .exact .inr (.inr (.inl ⟨h0,τ,h2,h _ _ h3⟩))
 .exact .inr (.inr (.inr (.inl ⟨h0,C,h2,h _ _ h3⟩)))
 .exact .inr (.inr (.inr (.inr ⟨h0,C,τ,h2,h _ _ h3⟩)))
theorem VA.mono{i:Nat}{K K':Env->Fam->Prop}{Γ:Env}{F:Fam} (h:∀Γ F,K Γ F->K' Γ F) (hh:VA P B Ωs ops n cl i K Γ F):VA P B Ωs ops n cl i K' Γ F:=by
 unfold VA at *
 split
 .rename_i ho;simp only[ho]at hh;exact h _ _ hh
 .rename_i o ho;simp only[ho]at hh;exact⟨hh.1,hh.2.mono h⟩
theorem Pv.sub{c:Nat}{o:Oper}{K:Env->Fam->Prop} (hK:Cl K) {Γ:Env}{F F':Fam} (s:Sub F' F) (hh:Pv P B Ωs ops c o K Γ F):Pv P B Ωs ops c o K Γ F':=by
 rcases hh with⟨h0,h1,τ,h2,h3⟩|⟨h0,μ,τ,Ω',h2,h3⟩|⟨h0,τ,h2,h3⟩|⟨h0,C,h2,h3⟩|⟨h0,C,τ,h2,h3⟩
 .exact .inl ⟨h0,λt ht hm=>h1 t ht ((s.tl t).1 hm),τ,h2,hK _ _ _ s h3⟩
 .refine .inr (.inl ⟨h0,λg=>μ (s.h g),λg m=>τ (s.h g) m,λg m=>Ω' (s.h g) m++[],λΩr g=>Jq (ops:=ops) (OpT.perm (s.pm g) (h2 Ωr (s.h g))) λt _=>ZaJ (s.th g) t,hK _ _ _ (s.next _ _ _ _ λg m=>by rw[XaX]) h3⟩)
 .refine .inr (.inr (.inl ⟨h0,λg=>τ (s.h g),λg=>Rm (LD (h2 (s.h g)) λt _=>ZaJ (s.th g) t) λA w hk e he=>hk e (((s.pm g).append_left Ωs).mem_iff.2 he),hK _ _ _ (s.next o.dst (μ:=λ_=>Unit) (λg _=>τ g) (λg _=>F.Ω g) (λg _=>F'.Ω g) λg m=>s.pm g) h3⟩))
 .exact .inr (.inr (.inr (.inl ⟨h0,C,h2,hK _ _ _ (s.next o.dst (μ:=λ_=>Nat) (λ_ b=>Pt b 0) (λg b=>⟨b,True,C⟩::F.Ω g) (λg b=>⟨b,True,C⟩::F'.Ω g) λg m=>(s.pm g).cons _) h3⟩)))
 .exact .inr (.inr (.inr (.inr ⟨h0,C,τ,λB Ωs Ω g=>Jq (ops:=ops) (h2 B Ωs Ω (s.h g)) λt _=>ZaJ (s.th g) t,hK _ _ _ (s.next o.dst (μ:=λ_=>Nat) (λ_ b=>τ b) (λg b=>⟨b,True,C⟩::F.Ω g) (λg b=>⟨b,True,C⟩::F'.Ω g) λg m=>(s.pm g).cons _) h3⟩)))
theorem VA.sub{i:Nat}{K:Env->Fam->Prop} (hK:Cl K):Cl (VA P B Ωs ops n cl i K):=λΓ F F' s hh=>by
 unfold VA at *
 split
 .rename_i ho;simp only[ho]at hh;exact hK _ _ _ s hh
 .rename_i o ho;simp only[ho]at hh;exact⟨hh.1,hh.2.sub hK s⟩
theorem Wl.sub{K:Env->Fam->Prop}(hK:Cl K):∀(fuel:Nat) (listed:Array Bool),Cl (Wl P B Ωs ops n cl md K fuel listed)
 | 0,_=>λΓ F F' s h=>⟨h.1,hK _ _ _ s h.2⟩
 | fuel+1,listed=>λΓ F F' s h=>⟨λh0=>hK _ _ _ s (h.1 h0),λi hi=>VA.sub (Wl.sub hK fuel _) _ _ _ s (h.2 i hi)⟩
def Cmp(c d:Nat):Prop:=c=0\/d=0\/d=3\/(c=2/\d=2)\/(c=2/\d=4)
theorem exch{j:Nat}{oi oj:Oper}{ci:Nat} (hj:ops[j]?=some oj) (hap:oi.apart ops oj=true) (hc:Cmp ci (cl j)) {K:Env->Fam->Prop} (hK:Cl K) {Γ:Env}{F:Fam}
  (h:Pv P B Ωs ops ci oi (VA P B Ωs ops n cl j K) Γ F):VA P B Ωs ops n cl j (λΓ' F'=>Pv P B Ωs ops ci oi K Γ' F') Γ F:=by
 obtain⟨a1,a2,a3⟩:=Oper.apart_spec hap;have e1:∀(Γ:Env) (τ:Ty),∀t∈oj.looksAt ops,Γ.put oi.dst τ t=Γ t:=λΓ τ t ht=>CJ Γ τ λe=>a1 t e ht
 have e2:∀(Γ:Env) (τ:Ty),∀t∈oi.looksAt ops,Γ.put oj.dst τ t=Γ t:=λΓ τ t ht=>CJ Γ τ λe=>a3 t e ht
 have pc:∀(Γ:Env) (τ σ:Ty),(Γ.put oi.dst τ).put oj.dst σ=(Γ.put oj.dst σ).put oi.dst τ:=λΓ τ σ=>HX Γ τ σ a2
 unfold VA at *;simp only[hj]at *;rcases h with⟨c0,hoff,τi,hi,hd,h⟩|⟨c0,μi,τi,Ωi,hi,hd,h⟩|⟨c0,τi,hi,hd,h⟩|⟨c0,Ci,hi,hd,h⟩|⟨c0,Ci,τi,hi,hd,h⟩
 . -- i touches nothing
  refine⟨hd,?_⟩;rcases h with⟨d0,hof,τ,ho,hk⟩|⟨d0,μ,τ,Ω',ho,hk⟩|⟨d0,τ,ho,hk⟩|⟨d0,C,ho,hk⟩|⟨d0,C,τ,ho,hk⟩
  .refine .inl ⟨d0,hof,τ,ho.congr λt ht=>(e1 Γ τi t ht).symm,.inl ⟨c0,hoff,τi,hi.congr λt ht=>e2 Γ τ t ht,?_⟩⟩;rw[<-pc];exact hk
  .refine .inr (.inl ⟨d0,μ,τ,Ω',λΩr g=>Jq (ops:=ops) (ho Ωr g) λt ht A w v x=>⟨x.1,by rw[e1 Γ τi t ht];exact x.2⟩,.inl ⟨c0,λt ht hx=>?_,τi,hi.congr λt ht=>e2 Γ Xb7 t ht,?_⟩⟩)
   .rcases Xar.1 hx with hx|hx
    .exact a2 t ht (by simpa using hx)
    .exact hoff t ht hx
   .rw [<-pc];exact hk
  .refine .inr (.inr (.inl ⟨d0,τ,λg=>LD (ho g) λt ht A w v x=>⟨x.1,by rw[e1 Γ τi t ht];exact x.2⟩,.inl ⟨c0,λt ht hx=>?_,τi,hi.congr λt ht=>e2 Γ Xb7 t ht,?_⟩⟩))
   .rcases Xar.1 hx with hx|hx
    .exact a2 t ht (by simpa using hx)
    .exact hoff t ht hx
   .rw [<-pc];exact hk
  .refine .inr (.inr (.inr (.inl ⟨d0,C,ho,.inl ⟨c0,λt ht hx=>?_,τi,hi.congr λt ht=>e2 Γ Xb7 t ht,?_⟩⟩)))
   .rcases Xar.1 hx with hx|hx
    .exact a2 t ht (by simpa using hx)
    .exact hoff t ht hx
   .rw [<-pc];exact hk
  .refine .inr (.inr (.inr (.inr ⟨d0,C,τ,λB Ωs Ω g=>Jq (ops:=ops) (ho B Ωs Ω g) λt ht A w v x=>⟨x.1,by rw[e1 Γ τi t ht];exact x.2⟩,.inl ⟨c0,λt ht hx=>?_,τi,hi.congr λt ht=>e2 Γ Xb7 t ht,?_⟩⟩)))
   .rcases Xar.1 hx with hx|hx
    .exact a2 t ht (by simpa using hx)
    .exact hoff t ht hx
   .rw [<-pc];exact hk
 . -- i touches
  refine⟨hd,?_⟩;have hi2:∀(σ:Ty),OpU P B Ωs (Γ.put oj.dst σ) F oi τi Ωi:=λσ Ωr g=>Jq (ops:=ops) (hi Ωr g) λt ht A w v x=>⟨x.1,by have:=x.2;rwa [e2 Γ σ t ht]at this⟩
  rcases h with⟨d0,hof,τ,ho,hk⟩|⟨d0,_⟩|⟨d0,_⟩|⟨d0,C,ho,hk⟩|⟨d0,_⟩
  .refine .inl ⟨d0,λt ht hx=>hof t ht (XaL _ hx),τ,ho.congr λt ht=>(e1 Γ Xb7 t ht).symm,.inr (.inl ⟨c0,μi,τi,Ωi,hi2 τ,?_⟩)⟩;rw[<-pc];exact hk
  .exact absurd hc (by unfold Cmp;omega)
  .exact absurd hc (by unfold Cmp;omega)
  .refine .inr (.inr (.inr (.inl ⟨d0,C,ho,.inr (.inl ⟨c0,λg=>μi g.1,λg m=>τi g.1 m,λg m=>Ωi g.1 m++[⟨g.2,True,C⟩],λΩr g=>?_,?_⟩)⟩)))
   .have h1:=hi2 Xb7 (Ωr++[⟨g.2,True,C⟩]) g.1;rw[<-XaM]at h1;refine Jq (ops:=ops) (Xgr (Ωt:=F.Ω g.1) (Ωr:=[⟨g.2,True,C⟩]) ?_ h1) λt ht A w v x=>⟨?_,x.2⟩
    .exact (XcO (l₁:=[(⟨g.2,True,C⟩:Pe)]) (l₂:=F.Ω g.1))
    .have:=x.1
     rwa [show(F.next oj.dst (μ:=λ_=>Nat) (λ_ b=>Pt b 0) λg b=>⟨b,True,C⟩::F.Ω g).Θ g t=(F.Θ g.1).put oj.dst (Pt g.2 0) t from rfl,e2 (F.Θ g.1) (Pt g.2 0) t ht]at this
   .rw [<-pc];refine hK _ _ _ ?_ hk;refine⟨λg=>⟨⟨g.1.1,g.2⟩,g.1.2⟩,λg t=>?_,λg=>?_,λt=>?_⟩
    .show (((F.Θ g.1.1).put oj.dst (Pt g.1.2 0)).put oi.dst (τi g.1.1 g.2) t).le (((F.Θ g.1.1).put oi.dst (τi g.1.1 g.2)).put oj.dst (Pt g.1.2 0) t);rw[pc];exact Ty.le.refl _
    .exact XcO (l₁:=Ωi g.1.1 g.2) (l₂:=[(⟨g.1.2,True,C⟩:Pe)])
    .simp only[XdL,Xar];constructor<;>rintro(h|h|h)<;>simp[h]
  .exact absurd hc (by unfold Cmp;omega)
 . -- i reads what is touched
  refine⟨hd,?_⟩;have hi2:∀(σ:Ty),OpR P B Ωs ops (Γ.put oj.dst σ) F oi τi:=λσ g=>LD (hi g) λt ht A w v x=>⟨x.1,by have:=x.2;rwa [e2 Γ σ t ht]at this⟩
  rcases h with⟨d0,hof,τ,ho,hk⟩|⟨d0,_⟩|⟨d0,τ,ho,hk⟩|⟨d0,C,ho,hk⟩|⟨d0,C,τ,ho,hk⟩
  .refine .inl ⟨d0,λt ht hx=>hof t ht (XaL _ hx),τ,ho.congr λt ht=>(e1 Γ Xb7 t ht).symm,.inr (.inr (.inl ⟨c0,τi,hi2 τ,?_⟩))⟩;rw[<-pc];exact hk
  .exact absurd hc (by unfold Cmp;omega)
  .refine .inr (.inr (.inl ⟨d0,λg=>τ ⟨g,()⟩,λg=>LD (ho ⟨g,()⟩) λt ht A w v x=>⟨?_,?_⟩,.inr (.inr (.inl ⟨c0,λg=>τi g.1,λg=>LD (hi2 Xb7 g.1) λt ht A w v x=>⟨?_,x.2⟩,?_⟩))⟩))
   .show ((F.Θ g).put oi.dst (τi g) t).p A w v;rw[e1 (F.Θ g) (τi g) t ht];exact x.1
   .rw [e1 Γ Xb7 t ht];exact x.2
   .have:=x.1
    rwa [show(F.next oj.dst (μ:=λ_=>Unit) (λg _=>τ ⟨g,()⟩) λg _=>F.Ω g).Θ g t=(F.Θ g.1).put oj.dst (τ ⟨g.1,()⟩) t from rfl,e2 (F.Θ g.1) (τ ⟨g.1,()⟩) t ht]at this
   .rw [<-pc];refine hK _ _ _ ?_ hk;refine⟨λg=>⟨⟨g.1.1,()⟩,()⟩,λg t=>?_,λg=>List.Perm.refl _,λt=>?_⟩
    .show (((F.Θ g.1.1).put oj.dst (τ ⟨g.1.1,()⟩)).put oi.dst (τi g.1.1) t).le (((F.Θ g.1.1).put oi.dst (τi g.1.1)).put oj.dst (τ ⟨g.1.1,()⟩) t);rw[pc];exact Ty.le.refl _
    .simp only[XdL,Xar];constructor<;>rintro(h|h|h)<;>simp[h]
  .refine .inr (.inr (.inr (.inl ⟨d0,C,ho,.inr (.inr (.inl ⟨c0,λg=>τi g.1,λg=>Rm (LD (hi2 Xb7 g.1) λt ht A w v x=>⟨?_,x.2⟩) λA w hk e he=>?_,?_⟩))⟩)))
   .have:=x.1
    rwa [show(F.next oj.dst (μ:=λ_=>Nat) (λ_ b=>Pt b 0) λg b=>⟨b,True,C⟩::F.Ω g).Θ g t=(F.Θ g.1).put oj.dst (Pt g.2 0) t from rfl,e2 (F.Θ g.1) (Pt g.2 0) t ht]at this
   .rcases Xar.1 he with he|he
    .exact hk e (Xbr _ he)
    .exact hk e (XaL _ (Xaw _ he))
   .rw [<-pc];refine hK _ _ _ ?_ hk;refine⟨λg=>⟨⟨g.1.1,()⟩,g.1.2⟩,λg t=>?_,λg=>List.Perm.refl _,λt=>?_⟩
    .show (((F.Θ g.1.1).put oj.dst (Pt g.1.2 0)).put oi.dst (τi g.1.1) t).le (((F.Θ g.1.1).put oi.dst (τi g.1.1)).put oj.dst (Pt g.1.2 0) t);rw[pc];exact Ty.le.refl _
    .simp only[XdL,Xar];constructor<;>rintro(h|h|h)<;>simp[h]
  .refine .inr (.inr (.inr (.inr ⟨d0,C,τ,λB Ωs Ω g=>Jq (ops:=ops) (ho B Ωs Ω ⟨g,()⟩) λt ht A w v x=>⟨?_,by rw[e1 Γ Xb7 t ht];exact x.2⟩,.inr (.inr (.inl ⟨c0,λg=>τi g.1,λg=>Rm (LD (hi2 Xb7 g.1) λt ht A w v x=>⟨?_,x.2⟩) λA w hk e he=>?_,?_⟩))⟩)))
   .show ((F.Θ g).put oi.dst (τi g) t).p A w v;rw[e1 (F.Θ g) (τi g) t ht];exact x.1
   .have:=x.1
    rwa [show(F.next oj.dst (μ:=λ_=>Nat) (λ_ b=>τ b) λg b=>⟨b,True,C⟩::F.Ω g).Θ g t=(F.Θ g.1).put oj.dst (τ g.2) t from rfl,e2 (F.Θ g.1) (τ g.2) t ht]at this
   .rcases Xar.1 he with he|he
    .exact hk e (Xbr _ he)
    .exact hk e (XaL _ (Xaw _ he))
   .rw [<-pc];refine hK _ _ _ ?_ hk;refine⟨λg=>⟨⟨g.1.1,()⟩,g.1.2⟩,λg t=>?_,λg=>List.Perm.refl _,λt=>?_⟩
    .show (((F.Θ g.1.1).put oj.dst (τ g.1.2)).put oi.dst (τi g.1.1) t).le (((F.Θ g.1.1).put oi.dst (τi g.1.1)).put oj.dst (τ g.1.2) t);rw[pc];exact Ty.le.refl _
    .simp only[XdL,Xar];constructor<;>rintro(h|h|h)<;>simp[h]
 . -- i makes a box
  refine⟨hd,?_⟩;rcases h with⟨d0,hof,τ,ho,hk⟩|⟨d0,_⟩|⟨d0,_⟩|⟨d0,C,ho,hk⟩|⟨d0,_⟩
  .refine .inl ⟨d0,λt ht hx=>hof t ht (XaL _ hx),τ,ho.congr λt ht=>(e1 Γ Xb7 t ht).symm,.inr (.inr (.inr (.inl ⟨c0,Ci,hi,?_⟩)))⟩;rw[<-pc];exact hk
  .exact absurd hc (by unfold Cmp;omega)
  .exact absurd hc (by unfold Cmp;omega)
  .refine .inr (.inr (.inr (.inl ⟨d0,C,ho,.inr (.inr (.inr (.inl ⟨c0,Ci,hi,?_⟩)))⟩)));rw[<-pc];refine hK _ _ _ ?_ hk;refine⟨λg=>⟨⟨g.1.1,g.2⟩,g.1.2⟩,λg t=>?_,λg=>List.Perm.swap _ _ _,λt=>?_⟩
   .show (((F.Θ g.1.1).put oj.dst (Pt g.1.2 0)).put oi.dst (Pt g.2 0) t).le (((F.Θ g.1.1).put oi.dst (Pt g.2 0)).put oj.dst (Pt g.1.2 0) t);rw[pc];exact Ty.le.refl _
   .simp only[XdL,Xar];constructor<;>rintro(h|h|h)<;>simp[h]
  .exact absurd hc (by unfold Cmp;omega)
 . -- i makes a block of what was read
  refine⟨hd,?_⟩;rcases h with⟨d0,hof,τ,ho,hk⟩|⟨d0,_⟩|⟨d0,_⟩|⟨d0,C,ho,hk⟩|⟨d0,_⟩
  .refine .inl ⟨d0,λt ht hx=>hof t ht (XaL _ hx),τ,ho.congr λt ht=>(e1 Γ Xb7 t ht).symm,.inr (.inr (.inr (.inr ⟨c0,Ci,τi,λB Ωs Ω g=>Jq (ops:=ops) (hi B Ωs Ω g) λt ht A w v x=>⟨x.1,by have:=x.2;rwa [e2 Γ τ t ht]at this⟩,?_⟩)))⟩;rw[<-pc];exact hk
  .exact absurd hc (by unfold Cmp;omega)
  .exact absurd hc (by unfold Cmp;omega)
  .refine .inr (.inr (.inr (.inl ⟨d0,C,ho,.inr (.inr (.inr (.inr ⟨c0,Ci,τi,λB Ωs Ω g=>Jq (ops:=ops) (hi B Ωs Ω g.1) λt ht A w v x=>⟨?_,?_⟩,?_⟩)))⟩)))
   .have:=x.1
    rwa [show(F.next oj.dst (μ:=λ_=>Nat) (λ_ b=>Pt b 0) λg b=>⟨b,True,C⟩::F.Ω g).Θ g t=(F.Θ g.1).put oj.dst (Pt g.2 0) t from rfl,e2 (F.Θ g.1) (Pt g.2 0) t ht]at this
   .have:=x.2;rwa [e2 Γ Xb7 t ht]at this
   rw[<-pc];refine hK _ _ _ ?_ hk;refine⟨λg=>⟨⟨g.1.1,g.2⟩,g.1.2⟩,λg t=>?_,λg=>List.Perm.swap _ _ _,λt=>?_⟩
   .show (((F.Θ g.1.1).put oj.dst (Pt g.1.2 0)).put oi.dst (τi g.2) t).le (((F.Θ g.1.1).put oi.dst (τi g.2)).put oj.dst (Pt g.1.2 0) t);rw[pc];exact Ty.le.refl _
   .simp only[XdL,Xar];constructor<;>rintro(h|h|h)<;>simp[h]
  .exact absurd hc (by unfold Cmp;omega)
theorem Pv.any{c:Nat}{o:Oper}{K:Env->Fam->Prop}{Γ:Env}{F:Fam} (hh:Pv P B Ωs ops c o K Γ F):∃Γ' F',K Γ' F':=by
 rcases hh with⟨h0,h1,τ,h2,h3⟩|⟨h0,μ,τ,Ω',h2,h3⟩|⟨h0,τ,h2,h3⟩|⟨h0,C,h2,h3⟩|⟨h0,C,τ,h2,h3⟩<;>exact⟨_,_,h3⟩
theorem XE{listed:Array Bool}{t:Nat} (h:listed.getD t false=true):listed.getD t true=true:=by
 rcases Xbd t listed.size with h'|h'
 .simp [h']at h⊢;exact h
 .simp [Array.getElem?_eq_none h']
def Oz(md:XbC)(ops:Array Oper):Nat->Nat->Nat->Bool
 | 0,_,_=>false
 | f+1,j,i=>(ops[j]?).any λo=>o.after.any λe=>XbJ md e&&(e.on == i||Oz md ops f e.on i)
def ZeP(md:XbC)(ops:Array Oper)(listed:Array Bool):Prop:=
 ∀(j:Nat) (o:Oper),ops[j]?=some o->listed.getD j true=true->∀e∈o.after,XbJ md e=true->listed.getD e.on true=true
theorem UD{f j i:Nat}(h:Oz md ops (f+1) j i=true):∃o,ops[j]?=some o/\∃e∈o.after,XbJ md e=true/\(e.on=i\/Oz md ops f e.on i=true):=by
 simp only[Oz]at h;cases ho:ops[j]? with
 | none=>rw[ho]at h;simp at h
 | some o=>
  rw[ho]at h;simp only[Xf8]at h;obtain⟨k,hk,he⟩:=Array.any_eq_true.1 h;simp only[Xaz,Xcu,beq_iff_eq]at he;exact⟨o,rfl,_,Array.getElem_mem hk,he.1,he.2⟩
theorem ZeP.path{listed:Array Bool}(hd:ZeP md ops listed):∀(f j i:Nat),Oz md ops f j i=true->listed.getD j true=true->listed.getD i true=true
 | 0,_,_,h,_=>by simp[Oz]at h
 | f+1,j,i,h,hj=>by
  obtain⟨o,ho,e,he,hb,h1⟩:=UD h;have h2:=hd j o ho hj e he hb;rcases h1 with rfl|h1
  .exact h2
  .exact hd.path f _ i h1 h2
theorem ZeP.ready{listed:Array Bool}(hd:ZeP md ops listed){f j i:Nat}(h:Oz md ops f j i=true)(hj:j∈Xbi md ops listed):listed.getD i true=true:=by
 cases f with
 | zero=>simp[Oz]at h
 | succ f=>
  obtain⟨o,ho,e,he,hb,h1⟩:=UD h;obtain⟨_,oj,hoj,hall⟩:=mem_ready.1 hj;rw[ho]at hoj;injection hoj with hoj;subst hoj;have h2:listed.getD e.on true=true:=XE (hall e he hb);rcases h1 with rfl|h1
  .exact h2
  .exact hd.path f _ i h1 h2
theorem QO{listed:Array Bool}{j t:Nat} (h:listed.getD t true=true):(listed.setIfInBounds j true).getD t true=true:=by
 by_cases hjt:j=t
 .subst hjt
  by_cases hj:j<listed.size
  .simp [hj]
  .rw [Array.getD_eq_getD_getElem?,Array.getElem?_eq_none (by simpa using hj)];rfl
 .rw [getD_set_ne true hjt];exact h
theorem ZeP.set{listed:Array Bool}(hd:ZeP md ops listed){j:Nat}(hj:j∈Xbi md ops listed):ZeP md ops (listed.setIfInBounds j true):=λk o ho hk e he hb=>by
 refine QO ?_
 by_cases hjk:j=k
 .subst hjk;obtain⟨_,oj,hoj,hall⟩:=mem_ready.1 hj;rw[ho]at hoj;injection hoj with hoj;subst hoj;exact XE (hall e he hb)
 .rw [getD_set_ne true hjk]at hk;exact hd k o ho hk e he hb
theorem TW{K:Env->Fam->Prop}(hK:Cl K){i:Nat}{oi:Oper} (hi:ops[i]?=some oi) (hdi:∀t,oi.dst=some t->t<n) :
  ∀(fuel:Nat) (listed:Array Bool) (Γ:Env) (F:Fam),
   (∀j oj,ops[j]?=some oj->j≠i->listed.getD j true=false->(∀e∈oj.after,XbJ md e=true->e.on≠i)->oi.apart ops oj=true)->
   (∀j,j<ops.size->j≠i->listed.getD j true=false->Cmp (cl i) (cl j)\/∃f,Oz md ops f j i=true)->ZeP md ops listed->
   i∈Xbi md ops listed->Pv P B Ωs ops (cl i) oi (Wl P B Ωs ops n cl md K fuel (listed.setIfInBounds i true)) Γ F->Wl P B Ωs ops n cl md K (fuel+1) listed Γ F:=by
 intro fuel
 induction fuel with
 | zero=>
  intro listed Γ F _ _ _ hr hy;refine⟨λh=>(by rw[h]at hr;cases hr),λj hj=>?_⟩
  by_cases hji:j=i
  .subst hji;unfold VA;simp only[hi];exact⟨hdi,hy⟩
  .have:=ready_mono hj hji;obtain⟨Γ',F',H⟩:=hy.any;rw[H.1]at this;cases this
 | succ fuel ih=>
  intro listed Γ F hfree hcm hdn hr hy;refine⟨λh=>(by rw[h]at hr;cases hr),λj hj=>?_⟩
  by_cases hji:j=i
  .subst hji;unfold VA;simp only[hi];exact⟨hdi,hy⟩
  .obtain ⟨hjun,oj,hoj,hall⟩:=mem_ready.1 hj;have hiun:=(mem_ready.1 hr).1;have hnot:∀e∈oj.after,XbJ md e=true->e.on≠i:=λe he hb heq=>by
    have h1:=hall e he hb;have h0:=(mem_ready.1 hr).1;rw[heq]at h1;rcases Xbd i listed.size with h'|h'
    .simp [h']at h0 h1;rw[h0]at h1;cases h1
    .simp [Array.getElem?_eq_none h']at h1
   have hap:=hfree j oj hoj hji hjun hnot;have hlt:j<ops.size:=(Array.getElem?_eq_some_iff.1 hoj).1;have hc:Cmp (cl i) (cl j):=by
    rcases hcm j hlt hji hjun with h|⟨f,h⟩
    .exact h
    .have h1:=hdn.ready h hj;rcases Xbd i listed.size with h'|h'
     .simp [h']at hiun h1;rw[hiun]at h1;cases h1
     .simp [Array.getElem?_eq_none h']at hiun
   have hun':∀k,(listed.setIfInBounds j true).getD k true=false->listed.getD k true=false:=λk hun=>by
    by_cases hjk:j=k
    .subst hjk;exact hjun
    .rw [getD_set_ne true hjk]at hun;exact hun
   have h1:=exch hoj hap hc (Wl.sub hK fuel _) (hy.mono λΓ' F' H=>H.2 j (ready_mono hj hji));refine VA.mono (λΓ' F' h3=>ih (listed.setIfInBounds j true) Γ' F' (λk ok hk hki hun hno=>hfree k ok hk hki (hun' k hun) hno) (λk hk hki hun=>hcm k hk hki (hun' k hun)) (hdn.set hj) (ready_mono hr (Xc3 hji)) ?_) h1;rw[Array.setIfInBounds_comm _ _ hji];exact h3
def okB(md:XbC)(ops:Array Oper)(cl:Nat->Nat)(N:Nat):Bool:=
 (Xbe N).all λi=>(Xbe N).all λj=>decide (j<=i)||(cl i == 0||cl j == 0||cl j == 3||(cl i == 2&&cl j == 2)||(cl i == 2&&cl j == 4))||Oz md ops N j i
theorem ZaL{N:Nat}(h:okB md ops cl N=true){i j:Nat}(hi:i<N)(hj:j<N)(hij:i<j):Cmp (cl i) (cl j)\/∃f,Oz md ops f j i=true:=by
 simp only[okB,Xbq,List.mem_range,Xcu,decide_eq_true_eq,Xaz,beq_iff_eq]at h;rcases h i hi j hj with(h|h)|h
 .omega
 .left;unfold Cmp;omega
 .exact .inr ⟨_,h⟩
theorem Su(hc:okB md ops cl ops.size=true){K:Env->Fam->Prop}(hK:Cl K):∀(l:List Oper) (k:Nat) (listed:Array Bool) (Γ:Env) (F:Fam),(∀j,l[j]?=ops[k+j]?)->listed.size=ops.size->(∀t,t<ops.size->listed.getD t true=decide (t<k))->ZeP md ops listed->
  Xcv md ops l.length k listed=true->Q9 P B Ωs ops n cl k l Γ F K->Wl P B Ωs ops n cl md K l.length listed Γ F
 | [],_,_,_,_,_,_,_,_,hB,h=>⟨by simpa[Xcv]using hB,h⟩
 | o::l,k,listed,Γ,F,hl,hz,ht,hdn,hB,h=>by
  have h0:ops[k]?=some o:=by simpa using (hl 0).symm
  have hk:k<ops.size:=(Array.getElem?_eq_some_iff.1 h0).1;simp only[XaP,Xcv,Xaz]at hB;obtain⟨⟨hr,hf⟩,hB'⟩:=hB;obtain⟨hd,h⟩:=h;have hr':k∈Xbi md ops listed:=by simpa using hr
  have ih:=λΓ' F' hK'=>Su hc hK l (k+1) (listed.setIfInBounds k true) Γ' F' (λj=>by have:=hl (j+1);simpa[XbO,Xb1 1 j]using this) (by simpa using hz) (λt hts=>by
   by_cases h1:k=t
   .subst h1;have:k<listed.size:=by omega
    simp[this]
   .rw [getD_set_ne true h1,ht t hts,decide_eq_decide];omega) (hdn.set hr') hB' hK'
  refine TW hK h0 hd l.length listed Γ F (Region.free_spec h0 hf) (λj hj hji hun=>?_) hdn hr' (h.mono λΓ' F' h'=>ih _ _ h');rw[ht j hj]at hun;exact ZaL hc hk hj (by have:=of_decide_eq_false hun;omega)
end any
section world
variable {P:Program}{r:Ref}{n:Nat}{Ωs:List Pe}{ops:Array Oper}{cl:Nat->Nat}{md:XbC}
theorem Vf{Γ:Env}{F:Fam}{a:Act}{w w':World}{d:Option Tmp}{v:Value}{τ:Ty}{g:F.ν} (ha:Stt r n (Xce (F.Θ g) Γ) (Ωs++F.Ω g) a w) (hd:∀t,d=some t->t<n) (hof:∀t,d=some t->t∉F.tl)
  (hg:KP r.w.heap.size w w') (hv:τ.p (Pub r.A (Ωs++F.Ω g)) w' v):RSt r n Ωs (Γ.put d τ) F (a.put d v) w':=by
 have hst:=ha.put (d:=d) (τ:=τ) hd hg hv;refine⟨g,hst.sz,hst.df,hst.mu,λt=>?_,hst.pv⟩;have ht:=hst.ty t;cases hdst:d with
 | none=>rw[hdst]at ht;exact ht
 | some d=>
  rw[hdst]at ht;simp only[Xgo,TR,Xce]at ht⊢
  by_cases htd:t=d
  .subst htd;simp only[if_true]at ht⊢;rw[F.off g t (hof t hdst)];exact⟨trivial,ht⟩
  .simp only[htd,if_false]at ht⊢;exact ht
theorem Mr{Γ:Env}{F:Fam}{a:Act}{w':World}{d:Option Tmp}{v:Value}{g:F.ν}{μ:F.ν->Type}{τ:(g:F.ν)->μ g->Ty}{Ω':(g:F.ν)->μ g->List Pe}{m:μ g}
  (hst:Stt r n ((Xce (F.Θ g) Γ).put d (τ g m)) (Ωs++Ω' g m) (a.put d v) w'):RSt r n Ωs (Γ.put d Xb7) (F.next d τ Ω') (a.put d v) w':=by
 refine⟨(⟨g,m⟩:(g:F.ν)×μ g),hst.sz,hst.df,hst.mu,λt=>?_,hst.pv⟩;have ht:=hst.ty t;cases hdst:d with
 | none=>rw[hdst]at ht;simpa only[XdL,Xgo]using ht
 | some d=>
  rw[hdst]at ht;simp only[XdL,Xgo,TR,Xce]at ht⊢
  by_cases htd:t=d
  .subst htd;simp only[if_true]at ht⊢;exact⟨ht,trivial⟩
  .simp only[htd,if_false]at ht⊢;exact ht
theorem Ru[op:Opens r]{i:Nat}{Γ:Env}{F:Fam}{K:Env->Fam->Prop}{K':Act->World->Prop}{Q':Exit->Act->World->Prop}{a:Act}{w:World} (ha:RSt r n Ωs Γ F a w)
  (h:∀Γ' F' a' w',RSt r n Ωs Γ' F' a' w'->K Γ' F'->K' a' w') (hh:VA P r.w.heap.size Ωs ops n cl i K Γ F):wpOpIn (FR r.ρ) 0 P ops Q' i K' a w:=by
 unfold VA at hh;unfold wpOpIn
 split
 .rename_i ho;simp only[ho]at hh;exact h _ _ _ _ ha hh
 .rename_i o ho
  simp only[ho]at hh;obtain⟨hd,hh⟩:=hh;obtain⟨g,ha⟩:=ha;rcases hh with⟨_,hof,τ,hy,hK⟩|⟨_,μ,τ,Ω',hy,hK⟩|⟨_,τ,hy,hK⟩|⟨_,C,hy,hK⟩|⟨_,C,τ,hy,hK⟩
  .have hy:=hy (Pub r.A (Ωs++F.Ω g)) a w ha.mu.size ha.up (Bz.1 ha.pv.ks).1 λt _=>(ha.ty t).2
   split
   .rename_i hw
    simp only[hw,if_true]at hy;exact HG hy λv w' hg hv=>h _ _ _ _ (Vf ha hd hof hg hv) hK
   .rename_i hw
    simp only[hw]at hy;exact⟨λ_ _=>trivial,h _ _ _ _ (Vf ha hd hof (Xdg _ _) hy) hK⟩
  .have hy:=hy [] g;rw[XaX]at hy;have hg:=hy.1;have hy:=ha.opT ha.ty hy;rw[if_pos (by simp[Xa3,hg])];exact DT hy λm v w' haf=>h _ _ _ _ (Mr (ha.T (d:=o.dst) hd haf)) hK
  .have hy:=hy g (Pub r.A (Ωs++F.Ω g)) a w ha.mu.size ha.up ha.pv.ks λt _=>ha.ty t
   split
   .rename_i hw
    simp only[hw,if_true]at hy;exact HG hy λv w' hg hv=>h _ _ _ _ (Mr (μ:=λ_=>Unit) (τ:=λg _=>τ g) (Ω':=λg _=>F.Ω g) (m:=()) (ha.put (d:=o.dst) hd hg hv)) hK
   .rename_i hw
    simp only[hw]at hy;exact⟨λ_ _=>trivial,h _ _ _ _ (Mr (μ:=λ_=>Unit) (τ:=λg _=>τ g) (Ω':=λg _=>F.Ω g) (m:=()) (ha.put (d:=o.dst) hd (Xdg _ _) hy)) hK⟩
  .have hy:=hy r.w.heap.size Ωs (F.Ω g) (Xce (F.Θ g) Γ);have hg:=hy.1;have hy:=ha.opT ha.ty hy;rw[if_pos (by simp[Xa3,hg])];exact DT hy λm v w' haf=>h _ _ _ _ (Mr (μ:=λ_=>Nat) (τ:=λ_ b=>Pt b 0) (Ω':=λg b=>⟨b,True,C⟩::F.Ω g) (m:=m) (ha.T (d:=o.dst) hd haf)) hK
  .have hy:=hy r.w.heap.size Ωs (F.Ω g) g;have hg:=hy.1;have hy:=ha.opT ha.ty hy;rw[if_pos (by simp[Xa3,hg])];exact DT hy λm v w' haf=>h _ _ _ _ (Mr (μ:=λ_=>Nat) (τ:=λ_ b=>τ b) (Ω':=λg b=>⟨b,True,C⟩::F.Ω g) (m:=m) (ha.T (d:=o.dst) hd haf)) hK
theorem Of[op:Opens r]{K:Env->Fam->Prop}{Q':Exit->Act->World->Prop} (hQ:∀Γ F a w,RSt r n Ωs Γ F a w->K Γ F->Q' .normal a w):∀(fuel:Nat) (listed:Array Bool) (Γ:Env) (F:Fam) (a:Act) (w:World),
  RSt r n Ωs Γ F a w->Wl P r.w.heap.size Ωs ops n cl md K fuel listed Γ F->wpAnyIn (FR r.ρ) 0 P md ops Q' fuel listed a w
 | 0,_,_,_,_,_,ha,h=>⟨h.1,hQ _ _ _ _ ha h.2⟩
 | fuel+1,_,_,_,_,_,ha,h=>⟨λh0=>hQ _ _ _ _ ha (h.1 h0),λi hi=>Ru ha (λΓ' F' a' w' ha' hK=>Of hQ fuel _ Γ' F' a' w' ha' hK) (h.2 i hi)⟩
end world
section rules
variable {P:Program}{r:Ref}{n:Nat}{Γ:Env}{Ω Ωs Ωt:List Pe}{Q:Exit->Act->World->Prop}[op:Opens r]
theorem YD{Ω1 Ω2:List Pe}(hp:Ω1.Perm Ω2):Fb (Ωs++Ω1) (Ωs++Ω2):=Xcz (hp.append_left Ωs)
theorem TV{id:Nat}{l:List Oper}{R:Env->List Pe->Prop}{Q':Exit->Act->World->Prop} (cs:List Nat) (hΩ:Fb Ω (Ωs++Ωt)) (hm:P.follows .mixedOrders=true) (hB:XbV .any l.toArray=true) (hc:okB .any l.toArray (λk=>cs.getD k 0) l.toArray.size=true)
  (hR:∀Γ Ω,R Γ Ω->∀a w,Stt r n Γ Ω a w->Q' .normal a w)
  (hle:∀Γ Γ' Ω1 Ω2,Γ'.le Γ->Ω1.Perm Ω2->R Γ (Ωs++Ω2)->R Γ' (Ωs++Ω1))
  (h:Q9 P r.w.heap.size Ωs l.toArray n (λk=>cs.getD k 0) 0 l Γ (XaS Ωt) λΓ' F'=>∀g,R (Xce (F'.Θ g) Γ') (Ωs++F'.Ω g)):TC P r n Γ Ω (.region id l.toArray true) Q':=by
 intro a w hs;have hs:=hs.less hΩ;simp only[XbV,Xaz]at hB;refine wpIn_region_any hm ?_;have hK:Cl λΓ' F'=>∀g,R (Xce (F'.Θ g) Γ') (Ωs++F'.Ω g):=λΓ F F' s hk g=>hle _ _ _ _ (λt=>ZaJ (s.th g) t) (s.pm g) (hk (s.h g))
 have h2:=Su (P:=P) (md:=.any) (ops:=l.toArray) hc hK l 0 (Array.replicate l.toArray.size false) Γ (XaS Ωt) (λj=>by simp) (by simp) (λt ht=>by
  rw[Array.getD_eq_getD_getElem?,Array.getElem?_replicate];simp at ht;simp[ht]) (λj o ho hj=>by
   have hlt:j<l.toArray.size:=(Array.getElem?_eq_some_iff.1 ho).1;rw[Array.getD_eq_getD_getElem?,Array.getElem?_replicate,if_pos hlt]at hj;cases hj) (by simpa using hB.2) h
 have hg:KP r.w.heap.size w { w with drawn:=w.drawn+1 }:=KP.drawn _;have h3:RSt r n Ωs Γ (XaS Ωt) a { w with drawn:=w.drawn+1 }:=
  ⟨(),hs.sz,hs.df,hs.mu.stp (Er (S:=λ_=>False) hg) (λj hj=>hj.elim),λt=>⟨trivial,(Γ t).st hg (hs.ty t)⟩,hs.pv.grow hg⟩
 have:=Of (P:=P) (Q':=Q') (md:=.any) (λΓ' F' a w ⟨g,hok⟩ hK=>hR _ _ (hK g) a w hok) _ _ Γ (XaS Ωt) a { w with drawn:=w.drawn+1 } h3 h2;simpa using this
theorem Vc{id:Nat}{l:List Oper}{y:Code} (cs:List Nat) (bs:List Nat) [hs:Split Ω bs Ωs Ωt] (hm:P.follows .mixedOrders=true) (hB:XbV .any l.toArray=true) (hc:okB .any l.toArray (λk=>cs.getD k 0) l.toArray.size=true)
  (h:Q9 P r.w.heap.size Ωs l.toArray n (λk=>cs.getD k 0) 0 l Γ (XaS Ωt) λΓ' F'=>∀g,TC P r n (Xce (F'.Θ g) Γ') (Ωs++F'.Ω g) y Q):TC P r n Γ Ω (.seq (.region id l.toArray true) y) Q:=
 AI (TV (R:=λΓ Ω=>TC P r n Γ Ω y Q) cs (Xcz hs.perm) hm hB hc (λ_ _ h=>h) (λ_ _ _ _ h1 h2 h3=>Yj h1 (TC.less (YD h2) h3)) h)
end rules
section steps
variable {P:Program}{B:Nat}{Ωs:List Pe}{ops:Array Oper}{n:Nat}{cl:Nat->Nat}{k:Nat}{Γ:Env}{F:Fam}{K:Env->Fam->Prop}
theorem TR2.nil(h:K Γ F):Q9 P B Ωs ops n cl k [] Γ F K:=h
theorem Zgp{d:Tmp}{op:Op}{ty:TypeId}{pos:String}{aft:Array Edge}{gd:Option (Nat×Bool)}{rest:List Oper}{τ:Ty}
  (h:OpG P B ops Ωs Γ ⟨some d,op,ty,pos,aft,gd⟩ τ) (hd:(XaZ d n&&Xep (cl k) 0 && !F.tl.contains d)=true) (hk:Q9 P B Ωs ops n cl (k+1) rest (Γ.set d τ) F K):Q9 P B Ωs ops n cl k (⟨some d,op,ty,pos,aft,gd⟩::rest) Γ F K:=by
 simp only[Xaz,Bool.not_eq_true']at hd;exact⟨λt e=>by injection e with e;subst e;simpa using hd.1.1,.inl ⟨Xb9 hd.1.2,λt e=>by injection e with e;subst e;simpa using hd.2,τ,h,hk⟩⟩
theorem TR2.s{d:Tmp}{op:Op}{ty:TypeId}{pos:String}{aft:Array Edge}{rest:List Oper}{τ:Ty}
  (h:∀{A:Nat->Prop},OpY P B A Ωs Γ ⟨some d,op,ty,pos,aft,none⟩ τ) (hd:(XaZ d n&&Xep (cl k) 0 && !F.tl.contains d)=true) (hk:Q9 P B Ωs ops n cl (k+1) rest (Γ.set d τ) F K):Q9 P B Ωs ops n cl k (⟨some d,op,ty,pos,aft,none⟩::rest) Γ F K:=
 Zgp (OpG.s h) hd hk
theorem ZfA{d:Tmp}{op:Op}{ty:TypeId}{pos:String}{aft:Array Edge}{gd:Option (Nat×Bool)}{rest:List Oper}{μ:F.ν->Type}{τ:(g:F.ν)->μ g->Ty}{Ω':(g:F.ν)->μ g->List Pe}
  (h:∀Ωr g,OpT P B (Ωs++Ωr) (F.Ω g) (Xce (F.Θ g) Γ) ⟨some d,op,ty,pos,aft,gd⟩ (τ g) (Ω' g)) (hd:(XaZ d n&&Xep (cl k) 1)=true) (hk:Q9 P B Ωs ops n cl (k+1) rest (Γ.set d Xb7) (F.nextS d τ Ω') K):Q9 P B Ωs ops n cl k (⟨some d,op,ty,pos,aft,gd⟩::rest) Γ F K:=by
 simp only[Xaz]at hd;exact⟨λt e=>by injection e with e;subst e;simpa using hd.1,.inr (.inl ⟨Xb9 hd.2,μ,τ,Ω',h,hk⟩)⟩
theorem Zfz{op:Op}{ty:TypeId}{pos:String}{aft:Array Edge}{gd:Option (Nat×Bool)}{rest:List Oper}{μ:F.ν->Type}{τ:(g:F.ν)->μ g->Ty}{Ω':(g:F.ν)->μ g->List Pe}
  (h:∀Ωr g,OpT P B (Ωs++Ωr) (F.Ω g) (Xce (F.Θ g) Γ) ⟨none,op,ty,pos,aft,gd⟩ (τ g) (Ω' g)) (hd:Xep (cl k) 1=true) (hk:Q9 P B Ωs ops n cl (k+1) rest Γ (F.nextN Ω') K):Q9 P B Ωs ops n cl k (⟨none,op,ty,pos,aft,gd⟩::rest) Γ F K:=
 ⟨λt e=>(by cases e),.inr (.inl ⟨Xb9 hd,μ,τ,Ω',h,hk⟩)⟩
theorem Pu{d:Tmp}{op:Op}{ty:TypeId}{pos:String}{aft:Array Edge}{gd:Option (Nat×Bool)}{rest:List Oper}{τ:F.ν->Ty}
  (h:∀g,OpG P B ops (Ωs++F.Ω g) (Xce (F.Θ g) Γ) ⟨some d,op,ty,pos,aft,gd⟩ (τ g)) (hd:(XaZ d n&&Xep (cl k) 2)=true) (hk:Q9 P B Ωs ops n cl (k+1) rest (Γ.set d Xb7) (F.nextS d (μ:=λ_=>Unit) (λg _=>τ g) λg _=>F.Ω g) K):Q9 P B Ωs ops n cl k (⟨some d,op,ty,pos,aft,gd⟩::rest) Γ F K:=by
 simp only[Xaz]at hd;exact⟨λt e=>by injection e with e;subst e;simpa using hd.1,.inr (.inr (.inl ⟨Xb9 hd.2,τ,h,hk⟩))⟩
theorem TR2.a{d:Tmp}{op:Op}{ty:TypeId}{pos:String}{aft:Array Edge}{gd:Option (Nat×Bool)}{rest:List Oper}{C:Ct}
  (h:YW P ⟨some d,op,ty,pos,aft,gd⟩ C) (hd:(XaZ d n&&Xep (cl k) 3)=true) (hk:Q9 P B Ωs ops n cl (k+1) rest (Γ.set d Xb7) (F.nextS d (μ:=λ_=>Nat) (λ_ b=>Pt b 0) λg b=>⟨b,True,C⟩::F.Ω g) K):Q9 P B Ωs ops n cl k (⟨some d,op,ty,pos,aft,gd⟩::rest) Γ F K:=by
 simp only[Xaz]at hd;exact⟨λt e=>by injection e with e;subst e;simpa using hd.1,.inr (.inr (.inr (.inl ⟨Xb9 hd.2,C,h,hk⟩)))⟩
theorem Zgo{d:Tmp}{op:Op}{ty:TypeId}{pos:String}{aft:Array Edge}{gd:Option (Nat×Bool)}{rest:List Oper}{C:Ct}{τ:Nat->Ty}
  (h:OpV P Γ F ⟨some d,op,ty,pos,aft,gd⟩ τ C) (hd:(XaZ d n&&Xep (cl k) 4)=true) (hk:Q9 P B Ωs ops n cl (k+1) rest (Γ.set d Xb7) (F.nextS d (μ:=λ_=>Nat) (λ_ b=>τ b) λg b=>⟨b,True,C⟩::F.Ω g) K):Q9 P B Ωs ops n cl k (⟨some d,op,ty,pos,aft,gd⟩::rest) Γ F K:=by
 simp only[Xaz]at hd;exact⟨λt e=>by injection e with e;subst e;simpa using hd.1,.inr (.inr (.inr (.inr ⟨Xb9 hd.2,C,τ,h,hk⟩)))⟩
end steps
def PP(L:List Nat)(j:Nat):Nat:=(L.take j).sum
theorem OF(L:List Nat):PP L L.length=L.sum:=by unfold PP;rw[List.take_length]
theorem OG(L M:List Nat){j:Nat}(h:j<=L.length):PP (L++M) j=PP L j:=by
 unfold PP;rw[List.take_append_of_le_length h]
def LH(b:Nat)(pr:Prop)(z:Nat)(L:List Nat)(m:Nat):Ct:=
 ⟨λA w cs=>cs.length=m/\L.length<=m/\m<=maxLen/\m<=LG/\∀j (h:j<L.length),(Sv b pr (PP L j*z) L[j]).p A w (cs.getD j undef),λ_ h=>h⟩
theorem LH.nil{α:Type}{i:Dat α}{b z m:Nat}{pr:Prop}{xs:List (List α)} (hm:m=xs.length):∀A w cs,(Row xs m).p A w cs->(LH b pr z [] m).p A w cs:=λA w cs ⟨h1,h2,h3,h4,h5⟩=>
 ⟨by rw[h1];exact XdA m,Nat.zero_le _,h3,by omega,λj h=>absurd h (by simp)⟩
theorem LH.put{b z m n o o2:Nat}{pr:Prop}{L:List Nat} (ho:o=L.length) (hm:L.length<m) (h2:o2=L.sum*z):CtH (LH b pr z L m) o (Sv b pr o2 n) (LH b pr z (L++[n]) m):=⟨λ{A w cs v} ⟨h1,h3,h4,h5,h6⟩ hv=>by
 subst ho;subst h2;refine⟨by omega,by rw[XaA];exact h1,by simp;omega,h4,h5,λj hj=>?_⟩;simp only[XaD,Xdn]at hj
 by_cases hjl:j=L.length
 .subst hjl;rw[Xad,Xbh (by omega),OG _ _ (Xau _),OF];simpa using hv
 .rw [Xad,XbZ (Xc3 hjl),<-Xad,OG _ _ (by omega),List.getElem_append_left (by omega)];exact h6 j (by omega)⟩
theorem LH.at{b z m o j:Nat}{pr:Prop}{L:List Nat} (hj:j<L.length) (ho:o=j):CeH (LH b pr z L m) o (Sv b pr (PP L j*z) L[j]):=⟨λ{A w cs} ⟨h1,h3,h4,h5,h6⟩=>by
 subst ho;exact⟨by omega,h6 o hj⟩⟩
section flat
variable {α:Type}
theorem NZ(p:List (List α))(j:Nat):(p.take j).flatten.length=PP (p.map Xat) j:=by
 unfold PP;rw[<-List.map_take]
 induction p.take j with
 | nil=>rfl
 | cons x xs ih=>simp only[XeF,XaD,Xbl,List.sum_cons,ih]
theorem KE{p:List (List α)}{j:Nat} (hj:j<p.length):p.flatten=(p.take j).flatten++(p[j]++(p.drop (j+1)).flatten):=by
 conv=>lhs;rw[<-List.take_append_drop j p]
 rw[List.flatten_append,Xa0 hj,XeF]
theorem XH{p:List (List α)}{j:Nat} (hj:j<p.length):(p.flatten.drop (PP (p.map Xat) j)).take p[j].length=p[j]:=by
 rw[KE hj,<-NZ,XdQ,Xfj]
theorem UW{p:List (List α)}{j:Nat} (hj:j<p.length):PP (p.map Xat) j+p[j].length<=p.flatten.length:=by
 rw[KE hj,<-NZ];simp
theorem Za5{p:List (List α)}{j:Nat} (hj:j<p.length) {ys:List α} (hy:ys.length=p[j].length):splice p.flatten (PP (p.map Xat) j) ys=(p.set j ys).flatten:=by
 have e1:(p.set j ys).flatten=(p.take j).flatten++(ys++(p.drop (j+1)).flatten):=by
  rw[KE (p:=p.set j ys) (j:=j) (by simpa using hj)];rw[List.take_set_of_le (Xau _),List.drop_set_of_lt (by omega)];simp
 rw[e1];unfold splice;rw[KE hj,<-NZ,Xfj,hy,<-XaM (p.take j).flatten p[j],<-XaD,XdQ,XaM]
theorem L9{p:List (List α)}{j:Nat} (hj:j<p.length) {ys:List α} (hy:ys.length=p[j].length):(p.set j ys).map Xat=p.map Xat:=by
 rw[List.map_set];refine List.ext_getElem (by simp) λk h1 h2=>?_
 rw[List.getElem_set]
 split
 .rename_i e;subst e;simp[hy]
 .rfl
end flat
theorem PlS.flat{α:Type}{i:Dat α}{p:List (List α)}{c j n:Nat} (hj:j<p.length) (hn:n=PP (p.map Xat) j):PlS (Row p.flatten c) (n*Dat.sz α) α i p[j] λys=>Row (splice p.flatten n ys) c:=by
 subst hn;have h:=PlS.row (i:=i) (c:=c) (UW hj)
 rwa [XH hj]at h
theorem Sz{α:Type}{i:Dat α}{p:List (List α)}{c j n:Nat} (hj:j<p.length) (hn:n=PP (p.map Xat) j):PlS (Row p.flatten c) (n*Dat.sz α) α i p[j] λys=>Row (p.set j ys).flatten c:=by
 have h:=PlS.flat (i:=i) (c:=c) hj hn;refine⟨h.mo,h.rd,λys hy hc hl he=>?_⟩;have h2:=h.st ys hy hc hl he;rw[hn]at h2;rw[Za5 hj hy]at h2;rw[hn];exact h2
theorem Yo{α:Type}{i:Dat α}{C:Ct}{o k:Nat}{xs:List α}{upd:List α->Ct} (h:PlS C o α i xs upd) (hk:k<xs.length):Pl C (o+k*Dat.sz α) α i xs[k] λy=>upd (xs.set k y):=by
 have hfit0:k*Dat.sz α+Dat.sz α<=xs.length*Dat.sz α:=by rw[<-XaF];exact Xah _ (by omega)
 refine⟨⟨λ{A w cs} hc=>?_⟩,λy=>⟨λ{A w cs ds} hc hd=>?_⟩⟩
 .obtain ⟨h1,h2⟩:=h.rd hc;have h3:=h2 k hk;rw[JL hfit0 h1]at h3;exact⟨by omega,h3⟩
 .obtain ⟨h1,h2⟩:=h.rd hc;have l2:=Dat.len hd;have hsl:(seg cs o (xs.length*Dat.sz α)).length=xs.length*Dat.sz α:=ZA h1;refine⟨by omega,?_⟩;have g:=h.st (xs.set k y) (by simp) hc (news:=Ab (seg cs o (xs.length*Dat.sz α)) (k*Dat.sz α) ds) (by rw[Zp (by omega),hsl];simp) λq hq=>by
   simp only[XaA]at hq;have hq2:q*Dat.sz α+Dat.sz α<=xs.length*Dat.sz α:=by rw[<-XaF];exact Xah _ (by omega)
   by_cases hqk:q=k
   .subst hqk;have e9:=B1 (cs:=seg cs o (xs.length*Dat.sz α)) (o:=q*Dat.sz α) (vs:=ds) (by omega);rw[l2]at e9;rw[e9,Xdo];exact hd
   .rw [AM (by omega) (by omega) ?_,Xdy (λh=>hqk h.symm)]
    .exact h2 q hq
    .rcases Xbd q k with h6|h6
     .left;rw[<-XaF];exact Xah _ (by omega)
     .right;rw[l2,<-XaF];exact Xah _ (by omega)
  have e:Ab cs o (Ab (seg cs o (xs.length*Dat.sz α)) (k*Dat.sz α) ds)=Ab cs (o+k*Dat.sz α) ds:=by
   have hl2:(Ab (seg cs o (xs.length*Dat.sz α)) (k*Dat.sz α) ds).length=xs.length*Dat.sz α:=by rw[Zp (by omega),hsl]
   refine AV (by rw[Zp (by omega),Zp (by omega)]) λj hj=>?_
   rw[Zp (by omega)]at hj;rw[ZT (cs:=cs) (o:=o) (by omega),ZT (cs:=cs) (o:=o+k*Dat.sz α) (by omega),hl2]
   by_cases c1:o<=j/\j<o+xs.length*Dat.sz α
   .rw [if_pos c1,ZT (by omega)]
    by_cases c2:k*Dat.sz α<=j-o/\j-o<k*Dat.sz α+ds.length
    .rw [if_pos c2,if_pos (by omega)];congr 1;omega
    .rw [if_neg c2,if_neg (by omega),Al (by omega)];congr 1;omega
   .rw [if_neg c1,if_neg (by omega)]
  rw[e]at g;exact g
section ops
variable {P:Program}{B0:Nat}{A:Nat->Prop}{Ω:List Pe}{Γ:Env}{dst:Option Tmp}{ty:TypeId}{pos:String}{aft:Array Edge}{gd:Option (Nat×Bool)}
variable {α:Type}{i:Dat α}{t e:TypeId}{x y z q:Operand}{τ σ ρ υ:Ty}{b o m c:Nat}{pr:Prop}{l r k:Int}{u v:Unit}{xs:List α}
theorem SD[S:TSl P t e][T:TDat P e α i][hx:Has Γ x (Sl b pr o m c)][Has Γ y σ][hy:AsI σ l][Has Γ z ρ][hz:AsI ρ r][Has Γ q υ][hq:AsI υ k](h0:0<=l)(h1:l<=r)(h2:r<=k)(h3:k<=m) :
  OpY P B0 A Ω Γ ⟨dst,.slice t x (some y) (some z) (some q),ty,pos,aft,gd⟩ (Sv b pr (o+l.toNat*Dat.sz α) (r-l).toNat):=
 XbH λa w hl=>by
  have h:=ZfD _ _ _ (Zy (x:=x) (τ:=Sl b pr o m c) (op:=.slice t x (some y) (some z) (some q)) (by simp[Xae]) hl);have ey:a.eval y=.int .i64 l:=hy.le _ _ _ (Zy (x:=y) (τ:=σ) (op:=.slice t x (some y) (some z) (some q)) (by simp[Xae]) hl);have ez:a.eval z=.int .i64 r:=hz.le _ _ _ (Zy (x:=z) (τ:=ρ) (op:=.slice t x (some y) (some z) (some q)) (by simp[Xae]) hl);have eq:a.eval q=.int .i64 k:=hq.le _ _ _ (Zy (x:=q) (τ:=υ) (op:=.slice t x (some y) (some z) (some q)) (by simp[Xae]) hl);rcases h with⟨hp,o',c,ex,hmc,ho⟩|⟨hp,rfl,ex⟩
  .refine ⟨.slice (if k.toNat=l.toNat then some ⟨b,o',none⟩else some ⟨b,o' + l.toNat*Dat.sz α,none⟩) (r.toNat-l.toNat) (k.toNat-l.toNat),?_,.inl ⟨hp,if k.toNat=l.toNat then o' else o' + l.toNat*Dat.sz α,k.toNat-l.toNat,?_,⟨by omega,by omega⟩,λh=>?_⟩⟩
   .have c0:0<=k/\k<=(c:Int):=by omega
    have c1:0<=r/\r<=(k.toNat:Int):=by omega
    have c2:0<=l/\l<=(r.toNat:Int):=by omega
    simp only[execOp,ex,ey,ez,eq,Xbk,XbY,Xbj,Xag,run_underlying S.h,Xab,Xa2,Xa8,asIntOf,Xai,c0,c1,c2,and_self,if_true,T.sz,Bf]
   .rw [show(r-l).toNat=r.toNat-l.toNat by omega];split<;>rfl
   .rw [if_neg (by omega),ho (by omega)]
  .have hk:k=0:=by omega
   have hr:r=0:=by omega
   have hl0:l=0:=by omega
   subst hk;subst hr;subst hl0;refine⟨.slice none 0 0,?_,.inr ⟨hp,rfl,rfl⟩⟩;simp[execOp,ex,ey,ez,eq,Xbk,XbY,run_underlying S.h,Xa2,Xa8,asIntOf,T.sz]
end ops
theorem Mw{α:Type}{i:Dat α}{xs:List α}{c o off:Nat}{k:Int}{x:α}{τ:Ty} (e:idx xs k=some x) (ho:o=0+k.toNat*Dat.sz α+off) (hoff:off<Dat.sz α):CtH (Row xs c) o τ ((Row xs c).mix o τ):=⟨λ{A w cs v} hc hv=>by
 obtain⟨h1,h2,h3,h4,h5⟩:=hc;have h6:=JZ e;have h7:k.toNat*Dat.sz α+Dat.sz α<=c*Dat.sz α:=by rw[<-XaF];exact Xah _ (by omega)
 exact⟨by omega,cs,v,⟨h1,h2,h3,h4,h5⟩,by omega,hv,rfl⟩⟩
section co
variable {P:Program}{r:Ref}{n:Nat}{Γ:Env}{Ω Ω1 Ω2:List Pe}{Q:Exit->Act->World->Prop}{ops:Array Oper}{k:Nat}{rest:List Oper}{α:Type}{i:Dat α}
theorem Stt.collG{b0 b:Nat}{pr0 pr:Prop}{C C' D0:Ct}[op:Opens r] [p0:Pick Ω b0 pr0 C Ω1] [p1:Pick Ω1 b pr D0 Ω2] {a:Act}{w:World} (hpp:pr0->pr)
  (hC:∀{A A':Nat->Prop}{w:World}{cs:List Value},HD A A' w w->(A' b/\∃cs',Blk w b cs'/\D0.p A' w cs')->C.p A w cs->C'.p A' w cs) (h:Stt r n Γ Ω a w):Stt r n Γ (⟨b0,pr0,C'⟩::Ω2) a w:=by
 have h:=(h.less (Xcz p0.perm)).less (Xff (Xcz p1.perm));have hl:Fb (⟨b0,pr0,C⟩::⟨b,pr,D0⟩::Ω2) (⟨b0,pr0,C⟩::Ω2):=Xff (Fb.drop (XfO _));have h2:=h.less hl;have hown:∀k,Own (⟨b0,pr0,C'⟩::Ω2) k↔Own (⟨b0,pr0,C⟩::Ω2) k:=λk=>by
  constructor
  .rintro ⟨e,he,h1,h2⟩;rcases Xa1.1 he with rfl|he
   .exact ⟨_,Xay ..,h1,h2⟩
   .exact ⟨e,Xaw _ he,h1,h2⟩
  .rintro ⟨e,he,h1,h2⟩;rcases Xa1.1 he with rfl|he
   .exact ⟨_,Xay ..,h1,h2⟩
   .exact ⟨e,Xaw _ he,h1,h2⟩
 have hpub:Pub r.A (⟨b0,pr0,C'⟩::Ω2)=Pub r.A (⟨b0,pr0,C⟩::Ω2):=by
  funext k;exact propext (by rw[ZC,ZC,hown])
 have hk:HD (Pub r.A (⟨b0,pr0,C⟩::⟨b,pr,D0⟩::Ω2)) (Pub r.A (⟨b0,pr0,C⟩::Ω2)) w w:=Xd1 λj _ hj=>ZC.2 ⟨(ZC.1 hj).1,λho=>(ZC.1 hj).2 (hl.own j ho)⟩
 refine⟨h2.sz,h2.df,h2.mu,by rw[hpub];exact h2.ty,⟨λj hj=>h2.pv.own j ((hown j).1 hj),?_,XaO.2 ⟨λf hf h1 h3=>(XaO.1 h2.pv.ap).1 f hf h1 h3,(XaO.1 h2.pv.ap).2⟩⟩⟩;rw[hpub];intro e he hp;rcases Xa1.1 he with rfl|he
 .obtain ⟨cs,g1,g2⟩:=h.pv.ks ⟨b0,pr0,C⟩ (Xay ..) hp;refine⟨cs,g1,hC hk ?_ g2⟩;obtain⟨cs',g3,g4⟩:=h.pv.ks ⟨b,pr,D0⟩ (Xaw _ (Xay ..)) (hpp hp);refine⟨ZC.2 ⟨op.h b (h.pv.own b ⟨_,Xaw _ (Xay ..),hpp hp,rfl⟩),λ⟨f,hf,hpf,hfb⟩=>?_⟩,cs',g3,D0.keep hk g4⟩;have ha:=XaO.1 h.pv.ap;rcases Xa1.1 hf with rfl|hf
  .exact ha.1 _ (Xay ..) hpf (hpp hp) hfb
  .exact (XaO.1 ha.2).1 f hf (hpp hp) hpf hfb.symm
 .exact h2.pv.ks e (Xaw _ he) hp
theorem LH.coll{b m c z:Nat}{pr:Prop}{p:List (List α)} (hz:z=Dat.sz α) (hm:m=p.length) {A A':Nat->Prop}{w:World}{cs:List Value} (hk:HD A A' w w) (hb:A' b/\∃cs',Blk w b cs'/\(Row p.flatten c).p A' w cs') (h:(LH b pr z (p.map Xat) m).p A w cs):(Row p m).p A' w cs:=by
 subst hz;subst hm;obtain⟨h1,h2,h3,h4,h5⟩:=h;refine⟨by rw[h1];exact(XdA _).symm,Xau _,h3,h4,λj hj=>?_⟩;have h6:=h5 j (by simpa using hj);simp only[XcZ]at h6;obtain⟨ds,h7,h8⟩:=ZJ (C:=Row p.flatten c) (τ:=Sv b pr (PP (p.map Xat) j*Dat.sz α) p[j].length) (Sz (i:=i) hj rfl) rfl A' w _ (λ_=>hb) h6;have h9:ds=[cs.getD j undef]:=by
  have hl:=Dat.len h7;obtain⟨x,rfl⟩:∃x,ds=[x]:=Xfv.1 hl;have h8:cs.getD j undef=[x].getD 0 undef:=h8;simp only[List.getD_cons_zero]at h8;rw[h8]
 have h10:seg cs (j*1) 1=[cs.getD j undef]:=by
  refine AV (by rw[ZA (by omega)];rfl) λq hq=>?_
  rw[ZA (by omega)]at hq;rw[Al hq];have:q=0:=by omega
  subst this;simp
 show Dat.rd A' w (seg cs (j*1) 1) p[j];rw[h10,<-h9];exact h7
theorem Stt.collS(b0 b:Nat){m c z:Nat}{p:List (List α)}{pr:Prop}[op:Opens r] [p0:Pick Ω b0 pr (LH b pr z (p.map Xat) m) Ω1] [p1:Pick Ω1 b pr (Row p.flatten c) Ω2] (hz:z=Dat.sz α) (hm:m=p.length) {a:Act}{w:World}
  (h:Stt r n Γ Ω a w):Stt r n Γ (⟨b0,pr,Row p m⟩::Ω2) a w:=h.collG (C':=Row p m) id λhk hb hc=>LH.coll hz hm hk hb hc
theorem TE.collS{e:Exit}(b0 b:Nat){m c z:Nat}{p:List (List α)}{pr:Prop}[op:Opens r] [p0:Pick Ω b0 pr (LH b pr z (p.map Xat) m) Ω1] [p1:Pick Ω1 b pr (Row p.flatten c) Ω2] (hz:z=Dat.sz α) (hm:m=p.length)
  (h:TE r n Γ (⟨b0,pr,Row p m⟩::Ω2) Q e):TE r n Γ Ω Q e:=λa w hs=>h a w (hs.collS b0 b hz hm)
theorem W2{b b2 m c z cc:Nat}{p:List (List α)}{pr:Prop}{A:Nat->Prop}{w:World}{v:Value} (h1:pr->A b/\∃cs,Blk w b cs/\(LH b2 pr z (p.map Xat) m).p A w cs) (h2:pr->A b2/\∃cs,Blk w b2 cs/\(Row p.flatten c).p A w cs)
  (h:(Sl b pr 0 p.length cc).p A w v) (hz:z=Dat.sz α:=by rfl) (hm:m=p.length:=by rfl):(D p).p A w v:=
 ZJ (C:=Row p m) (τ:=Sl b pr 0 p.length cc) PlS.all rfl A w v (λhp=>by
  obtain⟨g1,cs,g2,g3⟩:=h1 hp;exact⟨g1,cs,g2,LH.coll hz hm (Xd1 λ_ _ h=>h) (h2 hp) g3⟩) h
end co
theorem MR{σ ε:Type}{f:σ->Option (σ⊕ε)} (I:σ->Prop) (R:ε->Prop) (h1:∀s s',I s->f s=some (.inl s')->I s') (h2:∀s e,I s->f s=some (.inr e)->R e) {s:σ}{e:ε} (hs:I s) (h:ZN f s=some e):R e:=by
 have key:∀(k:Nat) (s:σ),I s->Fz f k s=some e->R e:=by
  intro k
  induction k with
  | zero=>intro s _ h;cases h
  | succ k ih=>
   intro s hs h;unfold Fz at h;cases hf:f s with
   | none=>rw[hf]at h;cases h
   | some x=>
    rw[hf]at h;cases x with
    | inl s'=>exact ih s' (h1 s s' hs hf) h
    | inr e'=>obtain rfl:=ZZi h;exact h2 s e' hs hf
 exact key _ s hs h
theorem St{P:Program}{r:Ref}{n:Nat}{Γ:Env}{Ω:List Pe}{Q:Exit->Act->World->Prop}{σ ε ν:Type}{f:σ->Option (σ⊕ε)}{s0:σ}{e:ε}{c:Code} (hl:ZN f s0=some e) (Inv:σ->Prop) (hi:Inv s0) (hp:∀s s',Inv s->f s=some (.inl s')->Inv s') (I:σ->ν->Env) (J:σ->ν->List Pe) (m0:ν) (h0:Γ.le (I s0 m0)) (j0:Fb Ω (J s0 m0))
  (round:∀s m x,Inv s->f s=some x->(∀e',x=.inr e'->e'=e)->TC P r n (I s m) (J s m) c (Exit.then (λa w=>∃s' m',x=.inl s'/\Stt r n (I s' m') (J s' m') a w) Q)):TC P r n Γ Ω (.loop c) Q:=by
 refine TC.loop (γ:={g:σ×ν×Nat // Fz f g.2.2 g.1=some e/\Inv g.1}) (λg=>I g.1.1 g.1.2.1) (λg=>J g.1.1 g.1.2.1) (λg=>g.1.2.2) ⟨(s0,m0,_),hl,hi⟩ h0 j0 ?_;rintro⟨⟨s,m,k⟩,hg,hv⟩;cases k with
 | zero=>cases hg
 | succ k=>
  have hg:Fz f (k+1) s=some e:=hg;have hv:Inv s:=hv;unfold Fz at hg;cases hf:f s with
  | none=>rw[hf]at hg;cases hg
  | some x=>
   rw[hf]at hg;intro a w hs;have:=round s m x hv hf (λe' h=>by subst h;injection hg) a w hs;refine wpIn_mono this λex a' w' hq=>?_
   cases ex with
   | normal=>
    obtain⟨s',m',hx,hst⟩:=hq;subst hx;exact⟨⟨(s',m',k),hg,hp s s' hv hf⟩,Nat.lt_succ_self _,hst⟩
   | _=>exact hq
theorem Oa{α:Type}{b z m o:Nat}{pr:Prop}{p:List (List α)}{k:Int}{x:List α} (e:idx p k=some x) (ho:o=k.toNat):CeH (LH b pr z (p.map Xat) m) o (Sv b pr (PP (p.map Xat) k.toNat*z) x.length):=by
 obtain⟨-,h5⟩:=A3 e;obtain⟨h6,h7⟩:=Xav.1 h5;have:=LH.at (b:=b) (z:=z) (m:=m) (pr:=pr) (L:=p.map Xat) (j:=k.toNat) (o:=o) (by simpa using h6) ho;rw[XcZ,h7]at this;exact this
theorem Qw{α:Type}{b z m:Nat}{pr:Prop}{p q:List (List α)} (h:some p=some q):LH b pr z (p.map Xat) m=LH b pr z (q.map Xat) m:=by rw[ZZi h]
theorem Qx{α:Type}{i:Dat α}{c:Nat}{p q:List (List α)} (h:some p=some q):Row p.flatten c=Row q.flatten c:=by rw[ZZi h]
theorem NQ{α:Type}{b z m:Nat}{pr:Prop}{p:List (List α)}{k:Int}{x ys:List α} (e:idx p k=some x) (hy:ys.length=x.length):LH b pr z (p.map Xat) m=LH b pr z ((p.set k.toNat ys).map Xat) m:=by
 obtain⟨-,h5⟩:=A3 e;obtain⟨h6,h7⟩:=Xav.1 h5;rw[L9 h6 (by rw[h7];exact hy)]
theorem Rg{α:Type}{i:Dat α}{p:List (List α)}{c:Nat}{k:Int}{x:List α} (e:idx p k=some x):PlS (Row p.flatten c) (PP (p.map Xat) k.toNat*Dat.sz α) α i x λys=>Row (p.set k.toNat ys).flatten c:=by
 obtain⟨-,h5⟩:=A3 e;obtain⟨h6,h7⟩:=Xav.1 h5;have:=Sz (i:=i) (c:=c) h6 rfl;rw[h7]at this;exact this
theorem Rh{α:Type}{i:Dat α}{p:List (List α)}{c:Nat}{k q:Int}{x:List α}{y:α} (e:idx p k=some x) (e2:idx x q=some y):Pl (Row p.flatten c) (PP (p.map Xat) k.toNat*Dat.sz α+q.toNat*Dat.sz α) α i y λy=>Row (p.set k.toNat (x.set q.toNat y)).flatten c:=by
 obtain⟨-,h5⟩:=A3 e2;obtain⟨h6,h7⟩:=Xav.1 h5;have:=Yo (Rg (i:=i) (c:=c) e) h6;rw[h7]at this;exact this
def Tk(n m:Nat):Option Unit:=if n=m then some ()else none
theorem Gc{n m:Nat}{u:Unit} (h:Tk n m=some u):m=n:=by
 unfold Tk at h;split at h
 .exact Eq.symm ‹_›
 .cases h
theorem Jb{n m:Nat}(h:n=m):Tk n m=some ():=if_pos h
theorem Zav{α:Type}{i:Dat α}{p:List (List α)}{c:Nat}{k:Int}{x:List α} (e:idx p k=some x) (h:x=[]):Row (p.set k.toNat ([]:List α)).flatten c=Row p.flatten c:=by
 subst h;obtain⟨-,h5⟩:=A3 e;obtain⟨h6,h7⟩:=Xav.1 h5;rw[<-h7,Xcc]
class IsPtr(τ:Ty):Prop where
 h:∀{A:Nat->Prop}{w:World}{v:Value},τ.p A w v->∃a,v=.pointer (some a)
instance {b o:Nat}{pr:Prop}:IsPtr (Pq b o pr):=⟨λh=>⟨_,h.2⟩⟩
instance {b o:Nat}:IsPtr (Pt b o):=⟨λh=>⟨_,h⟩⟩
instance {α:Type}{i:Dat α}{x:α}:IsPtr (K3 x):=⟨λ⟨b,o,cs,h,_⟩=>⟨_,h⟩⟩
theorem Kh{P:Program}{B0:Nat}{A:Nat->Prop}{Ω:List Pe}{Γ:Env}{dst:Option Tmp}{ty:TypeId}{pos:String}{aft:Array Edge}{gd:Option (Nat×Bool)}{x:Operand}{τ σ:Ty}[Has Γ x τ] [k:AsT τ σ] [q:IsPtr σ]:OpY P B0 A Ω Γ ⟨dst,.nilCheck x,ty,pos,aft,gd⟩ σ:=
 XbH λa w hl=>by
  have h:=k.le _ _ _ (Zy (x:=x) (τ:=τ) (op:=.nilCheck x) (by simp[Xae]) hl);obtain⟨ad,e⟩:=q.h h;refine⟨a.eval x,?_,h⟩;simp only[execOp,e,Xai]
theorem ZbO{α:Type}{i:Dat α}{C:Ct}{o:Nat}{xs:List α}{upd:List α->Ct}{q:Int}{y:α} (h:PlS C o α i xs upd) (e:idx xs q=some y):Pl C (o+q.toNat*Dat.sz α) α i y λy=>upd (xs.set q.toNat y):=by
 obtain⟨-,h5⟩:=A3 e;obtain⟨h6,h7⟩:=Xav.1 h5;have:=Yo h h6;rw[h7]at this;exact this
theorem W4{α:Type}{i:Dat α}{p:List (List α)}{c:Nat}{k:Int}{x:List α} (e:idx p k=some x):Row p.flatten c=Row (p.set k.toNat x).flatten c:=by
 obtain⟨-,h5⟩:=A3 e;obtain⟨h6,h7⟩:=Xav.1 h5;rw[<-h7,Xcc]
theorem Yn{α:Type}{i:Dat α}{p:List (List α)}{c:Nat}{k:Int}{x ys:List α} (e:idx p k=some x) (hy:ys.length=x.length):PlS (Row (p.set k.toNat ys).flatten c) (PP (p.map Xat) k.toNat*Dat.sz α) α i ys λzs=>Row (p.set k.toNat zs).flatten c:=by
 obtain⟨h0,h5⟩:=A3 e;obtain⟨h6,h7⟩:=Xav.1 h5;have e2:idx (p.set k.toNat ys) k=some ys:=by
  unfold idx;rw[if_pos h0,Xbh h6]
 have:=Rg (i:=i) (c:=c) e2;rw[L9 h6 (by rw[h7];exact hy)]at this;simp only[List.set_set]at this;exact this
structure EqN(P:Program)(t:TypeId)(α:Type)(i:Dat α)(n:Nat)[DecidableEq α]:Prop where
 h:∀{A:Nat->Prop} (w:World) (d:Nat) {cs ds:List Value}{x y:α},Dat.rd A w cs x->Dat.rd A w ds y->(Xdb (d+n+1) t (mkV α cs) (mkV α ds)).run P w=.ok (decide (x=y)) w
section
variable {P:Program}{t u:TypeId}{n:Nat}
theorem EqN.i64{k:IntKind}(hu:P.underlying t=some (.int k)):EqN P t Int inferInstance n:=⟨λ{A} w d {cs ds x y} hx hy=>by
 obtain⟨rfl,-⟩:=hx;obtain⟨rfl,-⟩:=hy;show(Xdb (d+n+1) t (.int .i64 x) (.int .i64 y)).run P w=_;rw[run_equalIn_int w (d+n) t .i64 k x y hu]
 by_cases h:x=y<;>simp[h]⟩
theorem EqN.u8{k:IntKind}(hu:P.underlying t=some (.int k)):EqN P t UInt8 inferInstance n:=⟨λ{A} w d {cs ds x y} hx hy=>by
 have hx:cs=[.int .u8 x.toNat]:=hx;have hy:ds=[.int .u8 y.toNat]:=hy;subst hx;subst hy;show(Xdb (d+n+1) t (.int .u8 x.toNat) (.int .u8 y.toNat)).run P w=_;rw[run_equalIn_int w (d+n) t .u8 k _ _ hu];have e3:((x.toNat:Int)=(y.toNat:Int))↔x=y:=by rw[XcL,UInt8.toNat_inj]
 have e4:((x.toNat:Int) == (y.toNat:Int))=decide (x=y):=by rw[Xbt];simp only[beq_iff_eq,e3,decide_eq_true_eq]
 rw[e4]⟩
theorem EqN.bool(hu:P.underlying t=some .bool):EqN P t Bool inferInstance n:=⟨λ{A} w d {cs ds x y} hx hy=>by
 have hx:cs=[.bool x]:=hx;have hy:ds=[.bool y]:=hy;subst hx;subst hy;show(Xdb (d+n+1) t (.bool x) (.bool y)).run P w=_;rw[run_equalIn_bool' w (d+n) t x y hu];cases x<;>cases y<;>rfl⟩
theorem Tv{d:Nat}{xs ys:Array Value}{w:World}:(XdX d xs ys []).run P w=.ok true w:=by simp[XdX]
theorem Gu{f : Field}{rest : List Field}{off : Nat}{β : Type}{j : Dat β}[DecidableEq β] (hn : f.name ≠ "_") (hu : f.type = u) (ho : f.offset = off) [T : TDat P u β j] (E : EqN P u β j n) {A : Nat -> Prop}{w : World}{d : Nat}{cs ds : List Value}{a b : β}{r : Bool}
  (la:off+Dat.sz β<=cs.length) (lb:off+Dat.sz β<=ds.length) (ra:Dat.rd A w (seg cs off (Dat.sz β)) a) (rb:Dat.rd A w (seg ds off (Dat.sz β)) b)
  (hr:(XdX (d+n+1) cs.toArray ds.toArray rest).run P w=.ok r w):(XdX (d+n+1) cs.toArray ds.toArray (f::rest)).run P w=.ok (decide (a=b)&&r) w:=by
 subst hu;subst ho;simp only[XdX,if_pos hn,Xag,LT (P:=P) (u:=f.type) ra la,LT (P:=P) (u:=f.type) rb lb,Xab,E.h w d ra rb]
 by_cases h:a=b
 .simp [h,hr]
 .simp [h]
theorem EqN.struct{α:Type}{i:Dat α}[DecidableEq α] {fs:Array Field} (hu:P.underlying t=some (.struct fs)) (hp:P.stoodInHeld t=false) (ha:Dat.agg α=true)
  (hf:∀{A:Nat->Prop} (w:World) (d:Nat) {cs ds:List Value}{x y:α},Dat.rd A w cs x->Dat.rd A w ds y->(XdX (d+n+1) cs.toArray ds.toArray fs.toList).run P w=.ok (decide (x=y)) w):EqN P t α i (n+1):=⟨λ{A} w d {cs ds x y} hx hy=>by
 have hfs:P.fieldsOf t=fs:=by unfold Program.fieldsOf;rw[hu]
 have e1:mkV α cs=.agg cs.toArray:=by unfold mkV;rw[ha];rfl
 have e2:mkV α ds=.agg ds.toArray:=by unfold mkV;rw[ha];rfl
 rw[e1,e2,run_equalIn_agg w (d+(n+1)) t _ _ (by rw[hfs];exact hu) hp,hfs];exact hf w d hx hy⟩
variable {B0:Nat}{A:Nat->Prop}{Ω:List Pe}{Γ:Env}{dst:Option Tmp}{ty:TypeId}{pos:String}{aft:Array Edge}{gd:Option (Nat×Bool)}
variable {α:Type}{i:Dat α}[DecidableEq α] {x y:Operand}{τ σ:Ty}{m k:α}
theorem FK[Has Γ x τ][hx:AsD τ α i m][Has Γ y σ][hy:AsD σ α i k](E:EqN P t α i n)(hn:n<10000)(hg:P.eqGuardType P.depth t=false)(ha:Dat.agg α=true):OpY P B0 A Ω Γ ⟨dst,.binOp .neq t x y u,ty,pos,aft,gd⟩ (B (decide (m≠k))):=
 XbH λa w hl=>by
  obtain⟨cs,h1,h2⟩:=hx.le _ _ _ (Zy (x:=x) (τ:=τ) (op:=.binOp .neq t x y u) (by simp[Xae]) hl);obtain⟨ds,h3,h4⟩:=hy.le _ _ _ (Zy (x:=y) (τ:=σ) (op:=.binOp .neq t x y u) (by simp[Xae]) hl);have e1:mkV α cs=.agg cs.toArray:=by unfold mkV;rw[ha];rfl
  have e2:mkV α ds=.agg ds.toArray:=by unfold mkV;rw[ha];rfl
  have h5:=E.h w (9999-n) h1 h3;rw[show 9999-n+n+1=10000 by omega,e1,e2]at h5;refine⟨.bool (decide (m≠k)),?_,rfl⟩;simp only[execOp,h2,h4,e1,e2,Xag,run_eqGuard_agg w .neq t x y _ _ hg,Xab,run_neq_struct,h5,Xai]
  by_cases h:m=k<;>simp[h]
theorem O6[Has Γ x τ][hx:AsD τ α i m][Has Γ y σ][hy:AsD σ α i k](E:EqN P t α i n)(hn:n<10000)(hg:P.eqGuardType P.depth t=false)(ha:Dat.agg α=true):OpY P B0 A Ω Γ ⟨dst,.binOp .eql t x y u,ty,pos,aft,gd⟩ (B (decide (m=k))):=
 XbH λa w hl=>by
  obtain⟨cs,h1,h2⟩:=hx.le _ _ _ (Zy (x:=x) (τ:=τ) (op:=.binOp .eql t x y u) (by simp[Xae]) hl);obtain⟨ds,h3,h4⟩:=hy.le _ _ _ (Zy (x:=y) (τ:=σ) (op:=.binOp .eql t x y u) (by simp[Xae]) hl);have e1:mkV α cs=.agg cs.toArray:=by unfold mkV;rw[ha];rfl
  have e2:mkV α ds=.agg ds.toArray:=by unfold mkV;rw[ha];rfl
  have h5:=E.h w (9999-n) h1 h3;rw[show 9999-n+n+1=10000 by omega,e1,e2]at h5;refine⟨.bool (decide (m=k)),?_,rfl⟩;simp only[execOp,h2,h4,e1,e2,Xag,run_eqGuard_agg w .eql t x y _ _ hg,Xab,run_eql_struct,h5,Xai]
end
def ZgI(g:Nat)(τ:Ty):Ty:=⟨λA w v=>∃c,v=.func (.func g) #[] #[c]/\τ.p A w c,λk ⟨c,h,t⟩=>⟨c,h,τ.keep k t⟩⟩
def ZgH(g:Nat)(τ1 τ2:Ty):Ty:=⟨λA w v=>∃c1 c2,v=.func (.func g) #[] #[c1,c2]/\τ1.p A w c1/\τ2.p A w c2,λk ⟨c1,c2,h,t1,t2⟩=>⟨c1,c2,h,τ1.keep k t1,τ2.keep k t2⟩⟩
def ZfW(l:Nat):Ty:=Ex (.func (.yield l) #[] #[])
section ops
variable {P:Program}{B0:Nat}{A:Nat->Prop}{Ω:List Pe}{Γ:Env}{dst:Option Tmp}{ty:TypeId}{pos:String}{aft:Array Edge}{gd:Option (Nat×Bool)}{f:FuncId}
theorem Rk{x:Operand}:OpY P B0 A Ω Γ ⟨dst,.assign x,ty,pos,aft,gd⟩ Xb7:=XbH λa w hl=>⟨a.eval x,rfl,trivial⟩
theorem Zb0{c1:Operand}{τ1 σ1:Ty}[h1:Has Γ c1 τ1] (k1:τ1.le σ1):OpY P B0 A Ω Γ ⟨dst,.makeFunc (.func f) #[] #[c1],ty,pos,aft,gd⟩ (ZgI f σ1):=
 XbH λa w hl=>⟨.func (.func f) #[] #[a.eval c1],by simp[execOp,Xef],_,rfl,k1 _ _ _ (h1.le a A w λt e=>hl t (by simp[Xae,e]))⟩
theorem ZbZ{c1 c2:Operand}{τ1 σ1 τ2 σ2:Ty}[h1:Has Γ c1 τ1] (k1:τ1.le σ1) [h2:Has Γ c2 τ2] (k2:τ2.le σ2):OpY P B0 A Ω Γ ⟨dst,.makeFunc (.func f) #[] #[c1,c2],ty,pos,aft,gd⟩ (ZgH f σ1 σ2):=
 XbH λa w hl=>⟨.func (.func f) #[] #[a.eval c1,a.eval c2],by simp[execOp,Xef],_,_,rfl,k1 _ _ _ (h1.le a A w λt e=>hl t (by simp[Xae,e])),k2 _ _ _ (h2.le a A w λt e=>hl t (by simp[Xae,e]))⟩
end ops
structure YJ(P:Program){σ α β:Type}[Dat α] [Dat β] (y:σ->α->β->Option (σ×Bool)) (l:Nat) (w0:World) (A0:Nat->Prop) (J:σ->(Nat->Prop)->(Nat->Prop)->World->Prop):Prop where
 lt:∀{s X Y W k},J s X Y W->X k\/Y k->k<W.heap.size
 st:∀{s X Y W W'},J s X Y W->(∀k,k<w0.heap.size->W'.heap[k]?=W.heap[k]?)->(∀k,X k->W'.heap[k]?=W.heap[k]?)->(∀k,Y k->DQ (W.heap[k]?) (W'.heap[k]?))->W.heap.size<=W'.heap.size->W'.os=W.os->W'.tape=W.tape->W'.output=W.output->J s X Y W'
 yl:∀{s a b s' t X Y W v1 v2}{Ac:Nat->Prop},y s a b=some (s',t)->J s X Y W->(∀k,Ac k->¬X k/\A0 k)->(D a).p Ac W v1->(D b).p Ac W v2->
  YieldAt (FR none) 0 P l #[v1,v2] W λe W'=>e=.returned (.bool t)/\∃X' Y',J s' X' Y' W'/\(∀k,X' k->X k\/W.heap.size<=k)/\(∀k,Y' k->X k\/Y k\/Ac k\/W.heap.size<=k)/\Mut X W W'
def Zep(P:Program){α β:Type}[Dat α] [Dat β] (g:FuncId) (cs:List Value) (A:Nat->Prop) (w0:World) (it:{σ:Type}->(σ->α->β->Option (σ×Bool))->σ->Option σ):Prop:=
 ∀{σ:Type} (y:σ->α->β->Option (σ×Bool)) (s0 r:σ) (A':Nat->Prop) (w:World) (l:Nat) (J:σ->(Nat->Prop)->(Nat->Prop)->World->Prop) (X0 Y0:Nat->Prop),
  it y s0=some r->HD A A' w0 w->(∀k,w.heap.size<=k->A' k)->(∀k,X0 k->¬A' k)->YJ P y l w A' J->J s0 X0 Y0 w->
  Calls P g (XgQ (.yield l) #[] #[]::cs).toArray w λe w'=>(∃v,e=.returned v)/\∃X' Y',J r X' Y' w'/\(∀k,X' k->X0 k\/w.heap.size<=k)/\Mut X0 w w'
structure Yd(P:Program){σ α β:Type}[Dat α] [Dat β] (y:σ->α->β->Option (σ×Bool)) (l:Nat) (J:σ->(Nat->Prop)->(Nat->Prop)->World->Prop) (X0:Nat->Prop) (r0:Ref) (s:σ) (r:Ref):Prop where
 j:YJ P y l r0.w r0.A J
 aa:∀k,r.A k->r0.A k
 x:∃X Y,J s X Y r.w/\(∀k,X k->¬r.A k/\¬r.S k/\(X0 k\/r0.w.heap.size<=k))/\∀k,Y k->¬r.S k
 sub:∀k,r.S k->r0.w.heap.size<=k
 mt:Mut X0 r0.w r.w
 op:Opens r
 rh:r.ρ=none
 dq:r.ds=[]
section yield
variable {P:Program}{σ α β:Type}[Dat α] [Dat β] {y:σ->α->β->Option (σ×Bool)}{l:Nat}{J:σ->(Nat->Prop)->(Nat->Prop)->World->Prop}{X0:Nat->Prop}{r0 r:Ref}{n:Nat}{Γ:Env}{Ω:List Pe}{Q:Exit->Act->World->Prop}{s:σ}
theorem Yd.cur(h:Yd P y l J X0 r0 s r){a:Act}{w:World} (st:Stt r n Γ Ω a w):∃X Y,J s X Y w/\(∀k,X k->¬r.A k/\¬Own Ω k/\(X0 k\/r0.w.heap.size<=k))/\(∀k,Y k->¬Own Ω k)/\∀k,X k\/Y k->k<r.w.heap.size:=by
 obtain⟨X,Y,h1,h2,h3⟩:=h.x;have hlt:∀k,X k\/Y k->k<r.w.heap.size:=λk hk=>h.j.lt h1 hk
 refine⟨X,Y,h.j.st h1 (λk hk=>st.mu.same k (XaU hk h.mt.size) λhS=>by have:=h.sub k hS;omega) (λk hk=>st.mu.same k (hlt k (.inl hk)) (h2 k hk).2.1) (λk hk=>by rw[st.mu.same k (hlt k (.inr hk)) (h3 k hk)];exact Xch _) st.mu.size st.mu.os st.mu.tape st.mu.output,λk hk=>⟨(h2 k hk).1,λho=>?_,(h2 k hk).2.2⟩,λk hk ho=>?_,hlt⟩
 .rcases st.pv.own k ho with h4|h4
  .have:=hlt k (.inl hk);omega
  .exact (h2 k hk).2.1 h4
 .rcases st.pv.own k ho with h4|h4
  .have:=hlt k (.inr hk);omega
  .exact h3 k hk h4
theorem Yd.mut(h:Yd P y l J X0 r0 s r){a:Act}{w:World} (st:Stt r n Γ Ω a w):Mut X0 r0.w w:=
 ⟨st.mu.os.trans h.mt.os,st.mu.tape.trans h.mt.tape,st.mu.output.trans h.mt.output,XaG h.mt.size st.mu.size,λk hk hs=>by
  rw[st.mu.same k (XaU hk h.mt.size) λhS=>by have:=h.sub k hS;omega];exact h.mt.same k hk hs⟩
theorem Yb{ops:Array Oper}{k:Nat}{rest:List Oper}{c x1 x2:Operand}{ts:Array TypeId}{ty:TypeId}{d:Tmp}{pos:String}{aft:Array Edge}{a0:α}{b0:β}{τ1 τ2:Ty}{s':σ}{t:Bool} (h:Yd P y l J X0 r0 s r) (hy:y s a0 b0=some (s',t))
  [hc:Has Γ c (ZfW l)] [h1:Has Γ x1 τ1] (k1:τ1.le (D a0)) [h2:Has Γ x2 τ2] (k2:τ2.le (D b0)) (hd:XaZ d n=true)
  (hk:∀r,Yd P y l J X0 r0 s' r->TS P r n ops rest (k+1) (Γ.set d (B t)) Ω Q):TS P r n ops (⟨some d,.call { callee:=.value c,args:=#[x1,x2],argTypes:=ts },ty,pos,aft,none⟩::rest) k Γ Ω Q:=λhl a w hs=>by
 have e0:a.eval c=.func (.yield l) #[] #[]:=hc.le a _ w λt _=>hs.ty t
 have g1:=k1 _ _ _ (h1.le a _ w λt _=>hs.ty t);have g2:=k2 _ _ _ (h2.le a _ w λt _=>hs.ty t);obtain⟨X,Y,j1,j2,j3,j4⟩:=h.cur hs;obtain⟨fn,tmps,assign,body,hrun,hround⟩:=h.j.yl hy j1 (Ac:=Pub r.A Ω) (λk hk=>⟨λhX=>(j2 k hX).1 (ZC.1 hk).1,h.aa k (ZC.1 hk).1⟩) g1 g2;have h0:ops[k]?=some ⟨some d,.call { callee:=.value c,args:=#[x1,x2],argTypes:=ts },ty,pos,aft,none⟩:=by simpa using (hl 0).symm
 simp only[XaP,XcE];rw[wpOpsIn_cons];unfold wpOpIn;simp only[h0,Xa3,if_true];refine⟨λ_ _=>trivial,?_⟩;rw[Xdx _ _ _ (λc hc=>by cases hc)];have hex:(execOp a.eval ⟨some d,.call { callee:=.value c,args:=#[x1,x2],argTypes:=ts },ty,pos,aft,none⟩).run P w=.ok (.round l fn tmps assign body) w:=by
  simp only[execOp,resolve,XbG,e0,Xag,Xai,Xab,invoke,Xb0,Xbl,Xcy];simpa using hrun
 rw[hex,h.rh];refine⟨Oc,RoundIn.mono hround λe W' he=>?_⟩;obtain⟨rfl,X',Y',q1,q2,q3,q4⟩:=he;have hown:∀k,Own Ω k->k<w.heap.size:=λk hk=>hs.pv.ks.lt hk
 have hX':∀k,X' k->k<W'.heap.size:=λk hk=>h.j.lt q1 (.inl hk)
 have hkeep:HD (Pub r.A Ω) (Pub (λk=>(k<w.heap.size/\r.A k)\/W'.heap.size<=k) Ω) w W':=⟨q4.size,λk hk hp=>by
  obtain⟨p1,p2⟩:=ZC.1 hp;exact⟨ZC.2 ⟨.inl ⟨hk,p1⟩,p2⟩,by rw[q4.same k hk λhX=>(j2 k hX).1 p1];exact Xch _⟩⟩
 have hOwnS:∀j,j<w.heap.size->Own Ω j->DQ (w.heap[j]?) (W'.heap[j]?):=λj hj ho=>by
  rw[q4.same j hj λhX=>(j2 j hX).2.1 ho];exact Xch _
 obtain⟨t1,t2,t3⟩:=Kq (a:=a) (d:=some d) (τ:=B t) (v:=.bool t) (w':=W') hs.sz (λt ht=>by injection ht with ht;subst ht;simpa using hd) (λt=>(Γ t).keep hkeep (hs.ty t)) rfl;have hw0:r0.w.heap.size<=w.heap.size:=(h.mut hs).size;have:=hk ⟨W',λk=>(k<w.heap.size/\r.A k)\/W'.heap.size<=k,Own Ω,λk hk=>.inr hk,none,[]⟩
  ⟨h.j,λk hk=>hk.elim (λh1=>h.aa k h1.2) (λh1=>r0.up k (by have:=q4.size;omega)),⟨X',Y',q1,λk hk=>⟨?_,?_,?_⟩,λk hk ho=>?_⟩,λk hk=>?_,?_,⟨λk hk=>?_⟩,rfl,rfl⟩
  (F7 hl) (a.put (some d) (.bool t)) W' ⟨t1,t2.trans (hs.df.trans h.dq),Xd7 _ _,t3,⟨λk hk=>.inr hk,hs.pv.ks.keep hkeep hOwnS,hs.pv.ap⟩⟩
 .exact this
 .rintro (⟨h5,h6⟩|h5)
  .rcases q2 k hk with h7|h7
   .exact (j2 k h7).1 h6
   .omega
  .have:=hX' k hk;omega
 .intro ho;rcases q2 k hk with h7|h7
  .exact (j2 k h7).2.1 ho
  .have:=hown k ho;omega
 .rcases q2 k hk with h7|h7
  .exact (j2 k h7).2.2
  .exact .inr (by omega)
 .rcases q3 k hk with h7|h7|h7|h7
  .exact (j2 k h7).2.1 ho
  .exact j3 k h7 ho
  .exact (ZC.1 h7).2 ho
  .have:=hown k ho;omega
 .rcases hs.pv.own k hk with h7|h7
  .exact XaG h.mt.size h7
  .exact h.sub k h7
 .have hm:=h.mut hs;refine⟨q4.os.trans hm.os,q4.tape.trans hm.tape,q4.output.trans hm.output,XaG hm.size q4.size,λk hk hS=>?_⟩;rw[q4.same k (by omega) λhX=>by rcases (j2 k hX).2.2 with h7|h7;exact hS h7;omega];exact hm.same k hk hS
 .rcases hk with hk|hk
  .exact .inr hk
  .rcases hs.pv.own k hk with h7|h7
   .exact .inl ⟨hown k hk,r.up k h7⟩
   .exact .inl ⟨hown k hk,h.op.h k (.inr h7)⟩
def ZbB{σ:Type}(J:σ->(Nat->Prop)->(Nat->Prop)->World->Prop)(X0:Nat->Prop)(w:World)(s:σ)(e:Ending)(w':World):Prop:=(∃v,e=.returned v)/\∃X' Y',J s X' Y' w'/\(∀k,X' k->X0 k\/w.heap.size<=k)/\Mut X0 w w'
theorem Zcy{fn:Func}(hr:fn.results=#[])(h:Yd P y l J X0 r0 s r){a:Act}{w:World} (hs:Stt r n Γ Ω a w):a.defers=[]/\∃v,(results fn a.tmps).run P w=.ok v w/\ZbB J X0 r0.w s (.returned v) w:=by
 obtain⟨X,Y,j1,j2,j3,j4⟩:=h.cur hs;refine⟨hs.df.trans h.dq,.tuple #[],?_,⟨_,rfl⟩,X,Y,j1,λk hk=>(j2 k hk).2.2,h.mut hs⟩;have:=FX (P:=P) (a:=a) (xs:=[]) (vs:=[]) (w:=w) hr rfl;simpa using this
theorem Zd8{fn:Func}(hr:fn.results=#[])(h:Yd P y l J X0 r0 s r):TE r n Γ Ω (bodyPost P fn (ZbB J X0 r0.w s)) .ret:=λa w hs=>Zcy hr h hs
theorem Zd9{fn:Func}(hr:fn.results=#[])(h:Yd P y l J X0 r0 s r):TE r n Γ Ω (bodyPost P fn (ZbB J X0 r0.w s)) .normal:=λa w hs=>Zcy hr h hs
end yield
section enter
variable {P:Program}{α β:Type}[Dat α] [Dat β] {n:Nat}
theorem ZbA{σ:Type}{y:σ->α->β->Option (σ×Bool)}{l:Nat}{J:σ->(Nat->Prop)->(Nat->Prop)->World->Prop}{X0 Y0:Nat->Prop}{s0:σ}{A:Nat->Prop}{w:World} (hA:∀k,w.heap.size<=k->A k) (hX:∀k,X0 k->¬A k) (j:YJ P y l w A J) (h0:J s0 X0 Y0 w):Yd P y l J X0 (G6 A w hA) s0 (G6 A w hA):=
 ⟨j,λk h=>h,⟨X0,Y0,h0,λk hk=>⟨hX k hk,λh=>h,.inl hk⟩,λk _ h=>h⟩,λk h=>h.elim,Xd7 _ _,inferInstance,rfl,rfl⟩
theorem ZdQ{f:FuncId}{fn:Func}{c:Code}{A:Nat->Prop}{w0:World}{v1 v2:Value}{τ1 τ2:Ty}{it:{σ:Type}->(σ->α->β->Option (σ×Bool))->σ->Option σ} (hf:P.funcs[f]?=some fn) (hb:fn.body=some c) (hn:fn.ntmps=n) (hl:Xbn 3 n=true) (h1:τ1.p A w0 v1) (h2:τ2.p A w0 v2)
  (h:∀{σ:Type}{y:σ->α->β->Option (σ×Bool)}{s0 q:σ}{l:Nat}{J:σ->(Nat->Prop)->(Nat->Prop)->World->Prop}{X0:Nat->Prop}{r:Ref},it y s0=some q->Yd P y l J X0 r s0 r->Opens r->
   TC P r n (TR (TR (TR Env.nil 0 (ZfW l)) 1 τ1) 2 τ2) [] c (bodyPost P fn (ZbB J X0 r.w q))):Zep P f [v1,v2] A w0 it:=by
 intro σ y s0 q A' w l J X0 Y0 H hk hA hX hj h0;refine CL (r:=G6 A' w hA) (args:=[.func (.yield l) #[] #[],v1,v2]) hf hb hn (by simpa using hl) Pok.nil (λt ht=>?_) (λt ht=>?_) (h H (ZbA hA hX hj h0) inferInstance)
 .match t,ht with
  | 0,_=>exact Xe5 (show(ZfW l).p A' w _ from rfl)
  | 1,_=>exact Xe5 (τ1.keep hk h1)
  | 2,_=>exact Xe5 (τ2.keep hk h2)
 .simp only[XaP,XdB]at ht;simp only[TR];rw[if_neg (show ¬t=2 by omega),if_neg (show ¬t=1 by omega),if_neg (show ¬t=0 by omega)];exact trivial
end enter
section cut
variable {P:Program}{σ α β:Type}[Dat α] [Dat β] {y:σ->α->β->Option (σ×Bool)}{l:Nat}{J:σ->(Nat->Prop)->(Nat->Prop)->World->Prop}{X0:Nat->Prop}{r0 r:Ref}{n:Nat}{Γ:Env}{Ω:List Pe}{Q:Exit->Act->World->Prop}{s:σ}
def ZgA{τ ν:Type}(P:Program){σ α β:Type}[Dat α] [Dat β] (y:σ->α->β->Option (σ×Bool)) (l:Nat) (J:σ->(Nat->Prop)->(Nat->Prop)->World->Prop) (X0:Nat->Prop) (r0:Ref) (n:Nat) (p:τ->Prop) (Mf:τ->σ) (Δ:τ->ν->Env) (I:τ->ν->List Pe) (Q:Exit->Act->World->Prop):Exit->Act->World->Prop
 | .normal,a,w=>∃s m r,p s/\Yd P y l J X0 r0 (Mf s) r/\Stt r n (Δ s m) (I s m) a w
 | e,a,w=>Q e a w
theorem Zec{τ ν:Type}{c:Code} (h0:Yd P y l J X0 r0 s r) (p:τ->Prop) (Mf:τ->σ) (Δ:τ->ν->Env) (I:τ->ν->List Pe) (h:TC P r n Γ Ω c (ZgA P y l J X0 r0 n p Mf Δ I Q)) (k:∀s m,p s->∀r,Yd P y l J X0 r0 (Mf s) r->TE r n (Δ s m) (I s m) Q .normal):TC P r n Γ Ω c Q:=λa w hs=>wpIn_mono (h a w hs) λe a' w' hq=>by
 cases e with
 | normal=>obtain⟨s,m,r,h1,h2,h3⟩:=hq;exact k s m h1 r h2 a' w' h3
 | _=>exact hq
theorem Zea{τ ν:Type}{p:τ->Prop}{Mf:τ->σ}{Δ:τ->ν->Env}{I:τ->ν->List Pe} (h0:Yd P y l J X0 r0 s r) (t:τ) (m:ν) (hp:p t) (hM:s=Mf t) (h:Γ.le (Δ t m)) (j:Fb Ω (I t m)):TE r n Γ Ω (ZgA P y l J X0 r0 n p Mf Δ I Q) .normal:=
 λ_ _ hs=>⟨t,m,r,hp,hM▸h0,(hs.le h).less j⟩
theorem TT{τ ν:Type}{p:τ->Prop}{Mf:τ->σ}{Δ:τ->ν->Env}{I:τ->ν->List Pe} (h:TE r n Γ Ω Q .ret):TE r n Γ Ω (ZgA P y l J X0 r0 n p Mf Δ I Q) .ret:=h
theorem ZbJ{τ ε ν:Type}{f:τ->Option (τ⊕ε)}{s0:τ}{e:ε}{c:Code} (hl:ZN f s0=some e) (h00:Yd P y l J X0 r0 s r) (Mf:τ->σ) (I:τ->ν->Env) (K:τ->ν->List Pe) (m0:ν) (hM:s=Mf s0) (h0:Γ.le (I s0 m0)) (j0:Fb Ω (K s0 m0))
  (round:∀s m x,f s=some x->(∀e',x=.inr e'->e'=e)->∀r,Yd P y l J X0 r0 (Mf s) r->TC P r n (I s m) (K s m) c (Exit.then (λa w=>∃s' m' r,x=.inl s'/\Yd P y l J X0 r0 (Mf s') r/\Stt r n (I s' m') (K s' m') a w) Q)):TC P r n Γ Ω (.loop c) Q:=by
 intro a w hs b k cs hro hb hr;have key:∀(m:Nat) (s:τ) (v:ν) (r:Ref) a w,Fz f m s=some e->Yd P y l J X0 r0 (Mf s) r->Stt r n (I s v) (K s v) a w->
   ∃e a' w',Q e a' w'/\ArrivesIn (Xga P (FR none)) P (lone (b.atR a (.code c :: .inLoop c::k)) cs w) b k cs e a' w':=by
  intro m
  induction m with
  | zero=>intro s v r a w hg;cases hg
  | succ m ih=>
   intro s v r a w hg hE hI;unfold Fz at hg;cases hf:f s with
   | none=>rw[hf]at hg;cases hg
   | some x=>
    rw[hf]at hg;obtain⟨ex,a₁,w₁,hq,harr⟩:=round s v x hf (λe' h=>by subst h;injection hg) r hE a w hI b (.inLoop c::k) cs (by rw[hE.rh,<-h00.rh];exact hro) trivial (λd hd=>by cases hd);cases ex with
    | normal=>
     obtain⟨s',m',r',hx,hE',hI₁⟩:=hq;subst hx;obtain⟨e₂,a₂,w₂,hq₂,harr₂⟩:=ih s' m' r' a₁ w₁ hg hE' hI₁;exact⟨e₂,a₂,w₂,hq₂,.of_steps (Xgh harr (.one (fenced_calm (F:=FR none) (n:=0) trivial (λd hd=>by cases hd) rfl) stepR_inLoop)) harr₂⟩
    | exit id=>exact⟨_,a₁,w₁,hq,.pass (x:=.inLoop c) rfl (λ_ _=>.inl (by simp)) harr⟩
    | goto l=>exact⟨_,a₁,w₁,hq,.pass (x:=.inLoop c) rfl (λ_ _=>.inl (by simp)) harr⟩
    | ret=>exact⟨_,a₁,w₁,hq,.pass (x:=.inLoop c) rfl (λ_ _=>.inl (by simp)) harr⟩
    | panic ch=>exact⟨_,a₁,w₁,hq,.pass (x:=.inLoop c) rfl (λ_ _=>.inl (by simp)) harr⟩
    | outgrown=>exact⟨_,a₁,w₁,hq,.pass (x:=.inLoop c) rfl (λ_ _=>.inl (by simp)) harr⟩
 obtain⟨e',a',w',hq,harr⟩:=key _ s0 m0 r a w hl (hM▸h00) ((hs.le h0).less j0);exact⟨e',a',w',hq,.of_steps (.one (fenced_calm (F:=FR r.ρ) (n:=0) trivial (λd hd=>by cases hd) rfl) stepR_loop) harr⟩
theorem ZbE{τ ε ν:Type}{Mf:τ->σ}{I:τ->ν->Env}{K:τ->ν->List Pe}{x:τ⊕ε} (h0:Yd P y l J X0 r0 s r) (s':τ) (m':ν) (hx:x=.inl s') (hM:s=Mf s') (h:Γ.le (I s' m')) (j:Fb Ω (K s' m')) :
  TE r n Γ Ω (Exit.then (λa w=>∃s' m' r,x=.inl s'/\Yd P y l J X0 r0 (Mf s') r/\Stt r n (I s' m') (K s' m') a w) Q) .normal:=λ_ _ hs=>⟨s',m',r,hx,hM▸h0,(hs.le h).less j⟩
end cut
def yT2{σ ε α β:Type}(f:σ->α->β->Option (σ⊕ε)):(σ⊕ε)->α->β->Option ((σ⊕ε)×Bool)
 | .inl s,a,b=>match f s a b with
  | some (.inl s')=>some (.inl s',true)
  | some (.inr e)=>some (.inr e,false)
  | none=>none
 | .inr _,_,_=>none
theorem Y8{σ ε α β:Type}{f:σ->α->β->Option (σ⊕ε)}{st st':σ⊕ε}{a:α}{b:β}{t:Bool} (h:yT2 f st a b=some (st',t)):∃s,st=.inl s/\f s a b=some st'/\t=st'.isLeft:=by
 cases st with
 | inr e=>cases h
 | inl s=>
  refine⟨s,rfl,?_⟩;simp only[yT2]at h;cases hf:f s a b with
  | none=>rw[hf]at h;cases h
  | some x=>rw[hf]at h;cases x<;>(simp only[Option.some.injEq,Prod.mk.injEq]at h;obtain⟨rfl,rfl⟩:=h;exact⟨rfl,rfl⟩)
section
variable (r:Ref)(n:Nat)(Γ:Env)
structure Mem(l D:Nat)(a:Act)(Ω:List Pe)(Y:Nat->Prop)(W:World):Prop where
 mu:Mut r.S r.w W
 own:∀k,Own Ω k->(r.w.heap.size<=k\/r.S k)/\k≠l/\k≠D
 ny:∀k,Y k->k<W.heap.size/\¬Own Ω k/\k≠l/\k≠D/\r.A k
 ks:Pks Y Ω W
 ap:Gh Ω
 ty:∀t,(Γ t).p Y W (a.tmps.getD t undef)
 hD:W.heap[D]?=some (.deferred (some []))
 ne:l≠D/\r.w.heap.size<=l/\r.w.heap.size<=D
structure Rec where
 fn:FuncId
 tmps:Array Value
 ps:Array Tmp
 assign:Code
 body:Code
 D:Nat
def Rec.o(q:Rec)(st:LoopState)(pe:Option Code):Obj:=.loop { state:=st,pending:=pe,fn:=q.fn,tmps:=q.tmps,params:=q.ps,assign:=q.assign,body:=q.body,defers:=q.D }
variable {σ ε ν:Type}(J:σ->ν->List Pe)(Jx:ε->ν->List Pe)
def RJ(l D:Nat)(a:Act)(q:Rec):σ⊕ε->(Nat->Prop)->(Nat->Prop)->World->Prop
 | .inl s,X,Y,W=>∃m,(∀k,X k↔Own (J s m) k\/k=l\/k=D)/\Mem r Γ l D a (J s m) Y W/\W.heap[l]?=some (q.o .ready none)
 | .inr e,X,Y,W=>∃m,(∀k,X k↔Own (Jx e m) k\/k=l\/k=D)/\Mem r Γ l D a (Jx e m) Y W/\W.heap[l]?=some (q.o .done (some .ret))
structure Rnd where
 l:Nat
 D:Nat
 a:Act
 q:Rec
 X:Nat->Prop
 Y:Nat->Prop
 Ac:Nat->Prop
 W:World
structure Rd(R:Rnd)(t:Bool)(rr:Ref):Prop where
 sz:R.W.heap.size<=rr.w.heap.size
 aa:∀k,rr.A k->(k<R.W.heap.size/\(R.X k\/R.Y k\/R.Ac k))\/R.W.heap.size<=k
 ay:∀k,R.Y k->rr.A k
 nl:¬rr.A R.l/\¬rr.A R.D/\¬rr.S R.l/\¬rr.S R.D
 sub:∀k,rr.S k->R.X k\/R.W.heap.size<=k
 os:rr.w.os=R.W.os
 tape:rr.w.tape=R.W.tape
 output:rr.w.output=R.W.output
 mt:∀k,k<R.W.heap.size->¬R.X k->rr.w.heap[k]?=R.W.heap[k]?
 hl:rr.w.heap[R.l]?=some (R.q.o (if t then .busy else .ready) none)
 hD:rr.w.heap[R.D]?=some (.deferred (some []))
 op:Opens rr
 rh:rr.ρ=some R.l
 dq:rr.ds=[]
 ac:∀k,R.Ac k->r.A k
 mem:∃Ω0,(∀k,R.X k↔Own Ω0 k\/k=R.l\/k=R.D)/\Mem r Γ R.l R.D R.a Ω0 R.Y R.W/\∀k,Own Ω0 k->r.A k
def RQ(P:Program)(R:Rnd)(x:σ⊕ε):Exit->Act->World->Prop:=roundPost P R.l λe W'=>e=.returned (.bool x.isLeft)/\
 ∃X' Y',RJ r Γ J Jx R.l R.D R.a R.q x X' Y' W'/\(∀k,X' k->R.X k\/R.W.heap.size<=k)/\(∀k,Y' k->R.X k\/R.Y k\/R.Ac k\/R.W.heap.size<=k)/\Mut R.X R.W W'
def BQ(P:Program)(R:Rnd)(body:Code)(Qb:Exit->Act->World->Prop):Exit->Act->World->Prop:=
 Exit.then (λa₁ w₁=>∃w₂,(Instr.beginRound R.l).run P w₁=.ok () w₂/\body.wpIn (FR (some R.l)) 0 P Qb a₁ w₂) λ_ _ _=>False
end
section rules
variable {P:Program}{r:Ref}{n:Nat}{Γ Γ':Env}{Ω:List Pe}{Q:Exit->Act->World->Prop}{σ ε ν:Type}{J:σ->ν->List Pe}{Jx:ε->ν->List Pe}{R:Rnd}{t:Bool}{rr:Ref}
theorem Dl{w:World}{k:Nat}{o:Obj} (h:w.heap[k]?=some o):k<w.heap.size:=(Array.getElem?_eq_some_iff.1 h).1
theorem G8{w:World}{k l:Nat}{o:Obj} (h:k≠l):(w.putObj l o).heap[k]?=w.heap[k]?:=World.putObj_heap_other h
theorem Rd.own(h:Rd r Γ R t rr){a:Act}{w:World} (hs:Stt rr n Γ' Ω a w):∀k,Own Ω k->(R.X k\/R.W.heap.size<=k)/\k≠R.l/\k≠R.D/\¬R.Y k:=λk hk=>by
 obtain⟨Ω0,hX,hM,hA0⟩:=h.mem;have h1:R.X k\/R.W.heap.size<=k:=by
  rcases hs.pv.own k hk with h2|h2
  .exact .inr (XaG h.sz h2)
  .exact h.sub k h2
 have hll:=Dl h.hl;have hDl:=Dl h.hD;refine⟨h1,λe=>?_,λe=>?_,λhY=>?_⟩
 .subst e;rcases hs.pv.own _ hk with h2|h2
  .omega
  .exact h.nl.2.2.1 h2
 .subst e;rcases hs.pv.own _ hk with h2|h2
  .omega
  .exact h.nl.2.2.2 h2
 .have hy:=hM.ny k hY;rcases h1 with h2|h2
  .rcases (hX k).1 h2 with h3|h3|h3
   .exact hy.2.1 h3
   .exact hy.2.2.1 h3
   .exact hy.2.2.2.1 h3
  .omega
theorem Dd{y:Code}{ρ:Option Nat} (hρ:r.ρ=ρ) (h:TC P r n Γ Ω y Q):TE r n Γ Ω (Exit.then (y.wpIn (FR ρ) 0 P Q) Q) .normal:=by subst hρ;exact h
theorem Rd.out(h:Rd r Γ R t rr){a:Act}{w:World} (hs:Stt rr n Γ' Ω a w) {Ω2:List Pe} (hl:Fb Ω Ω2) (o:Obj) :
  ∃X' Y':Nat->Prop,(∀k,X' k↔Own Ω2 k\/k=R.l\/k=R.D)/\Mem r Γ R.l R.D R.a Ω2 Y' (w.putObj R.l o)/\(∀k,X' k->R.X k\/R.W.heap.size<=k)/\(∀k,Y' k->R.X k\/R.Y k\/R.Ac k\/R.W.heap.size<=k)/\Mut R.X R.W (w.putObj R.l o):=by
 obtain⟨Ω0,hX,hM,hA0⟩:=h.mem;have hs2:=hs.less hl;have hown:=h.own hs2;have hll:=Dl h.hl;have hDl:=Dl h.hD;have hsz:w.heap.size=(w.putObj R.l o).heap.size:=World.putObj_size.symm;have hrs:∀k,rr.S k->¬R.Y k:=λk hk hY=>by
  have hy:=hM.ny k hY;rcases h.sub k hk with h2|h2
  .rcases (hX k).1 h2 with h3|h3|h3
   .exact hy.2.1 h3
   .exact hy.2.2.1 h3
   .exact hy.2.2.2.1 h3
  .omega
 have hYX:∀k,R.Y k->¬R.X k:=λk hY hx=>by
  have hy:=hM.ny k hY;rcases (hX k).1 hx with h3|h3|h3
  .exact hy.2.1 h3
  .exact hy.2.2.1 h3
  .exact hy.2.2.2.1 h3
 have hold:∀k,k<R.W.heap.size->¬R.X k->(w.putObj R.l o).heap[k]?=R.W.heap[k]?:=λk hk hx=>by
  rw[G8 λe=>hx ((hX k).2 (.inr (.inl e)))];rw[hs.mu.same k (XaU hk h.sz) λhS=>by
   rcases h.sub k hS with h2|h2
   .exact hx h2
   .omega]
  exact h.mt k hk hx
 have hszW:R.W.heap.size<=(w.putObj R.l o).heap.size:=by rw[<-hsz];exact XaG h.sz hs.mu.size
 have hAl:∀k,rr.A k->k≠R.l/\k≠R.D:=λk hk=>⟨λe=>h.nl.1 (e▸hk),λe=>h.nl.2.1 (e▸hk)⟩
 refine⟨λk=>Own Ω2 k\/k=R.l\/k=R.D,λk=>k<w.heap.size/\Pub rr.A Ω2 k,λk=>XgY,⟨?_,λk hk=>?_,λk hk=>?_,?_,hs2.pv.ap,λt=>?_,?_,hM.ne⟩,λk hk=>?_,λk hk=>?_,?_⟩
 .refine ⟨hs.mu.os.trans (h.os.trans hM.mu.os),hs.mu.tape.trans (h.tape.trans hM.mu.tape),hs.mu.output.trans (h.output.trans hM.mu.output),XaG hM.mu.size hszW,λk hk hS=>?_⟩;have hkW:k<R.W.heap.size:=XaU hk hM.mu.size;rw[hold k hkW λhx=>by
   rcases (hX k).1 hx with h3|h3|h3
   .rcases (hM.own k h3).1 with h4|h4
    .omega
    .exact hS h4
   .have:=hM.ne.2.1;omega
   .have:=hM.ne.2.2;omega]
  exact hM.mu.same k hk hS
 .obtain ⟨h1,h2,h3,h4⟩:=hown k hk;refine⟨?_,h2,h3⟩;rcases h1 with h1|h1
  .rcases (hX k).1 h1 with h5|h5|h5
   .exact (hM.own k h5).1
   .exact absurd h5 h2
   .exact absurd h5 h3
  .exact .inl (XaG hM.mu.size h1)
 .obtain ⟨h1,h2⟩:=hk;obtain⟨h3,h4⟩:=ZC.1 h2;refine⟨by rw[<-hsz];exact h1,h4,(hAl k h3).1,(hAl k h3).2,?_⟩;rcases h.aa k h3 with⟨h5,h6|h6|h6⟩|h5
  .rcases (hX k).1 h6 with h7|h7|h7
   .exact hA0 k h7
   .exact absurd h7 (hAl k h3).1
   .exact absurd h7 (hAl k h3).2
  .exact (hM.ny k h6).2.2.2.2
  .exact h.ac k h6
  .exact r.up k (XaG hM.mu.size h5)
 .refine hs2.pv.ks.keep (A':=λk=>k<w.heap.size/\Pub rr.A Ω2 k) ⟨XdE hsz,λk hk hp=>⟨⟨hk,hp⟩,by rw[G8 (hAl k (ZC.1 hp).1).1];exact Xch _⟩⟩ λj hj ho=>by rw[G8 (hown j ho).2.1];exact Xch _
 .refine (Γ t).keep ⟨hszW,λk hk hY=>⟨⟨XaU hk (XaG h.sz hs.mu.size),ZC.2 ⟨h.ay k hY,λho=>(hown k ho).2.2.2 hY⟩⟩,?_⟩⟩ (hM.ty t);rw[hold k hk (hYX k hY)];exact Xch _
 .rw [G8 (Xc3 hM.ne.1),hs.mu.same R.D hDl h.nl.2.2.2];exact h.hD
 .rcases hk with hk|hk|hk
  .exact (hown k hk).1
  .exact .inl ((hX k).2 (.inr (.inl hk)))
  .exact .inl ((hX k).2 (.inr (.inr hk)))
 .obtain ⟨h1,h2⟩:=hk;rcases h.aa k (ZC.1 h2).1 with⟨h5,h6|h6|h6⟩|h5
  .exact .inl h6
  .exact .inr (.inl h6)
  .exact .inr (.inr (.inl h6))
  .exact .inr (.inr (.inr h5))
 .exact ⟨hs.mu.os.trans h.os,hs.mu.tape.trans h.tape,hs.mu.output.trans h.output,hszW,hold⟩
theorem Sr(h:Rd r Γ R true rr){x:σ⊕ε}(s':σ)(m':ν)(hx:x=.inl s')(j:Fb Ω (J s' m')):TE rr n Γ' Ω (RQ r Γ J Jx P R x) .normal:=λa w hs=>by
 subst hx;have hl:w.heap[R.l]?=some (R.q.o .busy none):=by rw[hs.mu.same R.l (Dl h.hl) h.nl.2.2.1];exact h.hl
 obtain⟨X',Y',h1,h2,h3,h4,h5⟩:=h.out hs j (R.q.o .ready none);refine⟨.bool true,w.putObj R.l (R.q.o .ready none),?_,rfl,X',Y',⟨m',h1,h2,?_⟩,h3,h4,h5⟩
 .have:=run_endRound (P:=P) none hl;exact this
 .exact Xd5 (Dl hl)
theorem Yi(h:Rd r Γ R true rr){x:σ⊕ε}(e':ε)(m':ν)(hx:x=.inr e')(j:Fb Ω (Jx e' m')):TE rr n Γ' Ω (RQ r Γ J Jx P R x) .ret:=λa w hs=>by
 subst hx;have hl:w.heap[R.l]?=some (R.q.o .busy none):=by rw[hs.mu.same R.l (Dl h.hl) h.nl.2.2.1];exact h.hl
 obtain⟨X',Y',h1,h2,h3,h4,h5⟩:=h.out hs j (R.q.o .done (some .ret));refine⟨.bool false,w.putObj R.l (R.q.o .done (some .ret)),?_,rfl,X',Y',⟨m',h1,h2,?_⟩,h3,h4,h5⟩
 .have:=run_endRound (P:=P) (some .ret) hl;exact this
 .exact Xd5 (Dl hl)
theorem Vb{body:Code}{Qb:Exit->Act->World->Prop} (h:Rd r Γ R false rr) (k:∀rr,Rd r Γ R true rr->Opens rr->TC P rr n Γ' Ω body Qb):TE rr n Γ' Ω (BQ P R body Qb) .normal:=λa w hs=>by
 have hl:w.heap[R.l]?=some (R.q.o .ready none):=by rw[hs.mu.same R.l (Dl h.hl) h.nl.2.2.1];exact h.hl
 obtain⟨Ω0,hX,hM,hA0⟩:=h.mem;have hown:=h.own hs;have hAl:∀k,rr.A k->k≠R.l/\k≠R.D:=λk hk=>⟨λe=>h.nl.1 (e▸hk),λe=>h.nl.2.1 (e▸hk)⟩
 refine⟨w.putObj R.l (R.q.o .busy none),run_beginRound (P:=P) hl rfl,?_⟩;have hsz:w.heap.size=(w.putObj R.l (R.q.o .busy none)).heap.size:=World.putObj_size.symm;have hkeep:HD (Pub rr.A Ω) (Pub rr.A Ω) w (w.putObj R.l (R.q.o .busy none)):=⟨XdE hsz,λk hk hp=>⟨hp,by rw[G8 (hAl k (ZC.1 hp).1).1];exact Xch _⟩⟩;have hop:Opens (⟨w.putObj R.l (R.q.o .busy none),rr.A,Own Ω,λk hk=>rr.up k (XaG hs.mu.size (by rw[hsz];exact hk)),some R.l,[]⟩:Ref):=⟨λk hk=>by
  rcases hk with hk|hk
  .exact rr.up k (XaG hs.mu.size (by rw[hsz];exact hk))
  .exact h.op.h k (hs.pv.own k hk)⟩
 refine k ⟨w.putObj R.l (R.q.o .busy none),rr.A,Own Ω,λk hk=>rr.up k (XaG hs.mu.size (by rw[hsz];exact hk)),some R.l,[]⟩
  ⟨by rw[<-hsz];exact XaG h.sz hs.mu.size,h.aa,h.ay,⟨h.nl.1,h.nl.2.1,λho=>(hown _ ho).2.1 rfl,λho=>(hown _ ho).2.2.1 rfl⟩,λk hk=>(hown k hk).1,hs.mu.os.trans h.os,hs.mu.tape.trans h.tape,hs.mu.output.trans h.output,λk hk hx=>?_,?_,?_,hop,rfl,rfl,h.ac,⟨Ω0,hX,hM,hA0⟩⟩ hop a _
  ⟨hs.sz,hs.df.trans h.dq,Xd7 _ _,λt=>(Γ' t).keep hkeep (hs.ty t),⟨λk hk=>.inr hk,hs.pv.ks.keep hkeep λj hj ho=>by rw[G8 (hown j ho).2.1];exact Xch _,hs.pv.ap⟩⟩
 .show (w.putObj R.l _).heap[k]?=_;rw[G8 λe=>hx ((hX k).2 (.inr (.inl e)))];rw[hs.mu.same k (XaU hk h.sz) λhS=>by
   rcases h.sub k hS with h2|h2
   .exact hx h2
   .omega]
  exact h.mt k hk hx
 .exact Xd5 (Dl hl)
 .show (w.putObj R.l _).heap[R.D]?=_;rw[G8 (Xc3 hM.ne.1),hs.mu.same R.D (Dl h.hD) h.nl.2.2.2];exact h.hD
structure Dn(r:Ref)(D:Nat)(r1:Ref):Prop where
 a:∀k,r1.A k->r.A k/\k≠D
 sub:∀k,r1.S k->r.w.heap.size<=k\/r.S k
 mt:Mut r.S r.w r1.w
 nS:¬r1.S D
 hD:r1.w.heap[D]?=some (.deferred (some []))
 new:r.w.heap.size<=D
 ds:r1.ds=[{ target:=.collected D,args:=#[] }]
 dq:r.ds=[]
 rh:r1.ρ=r.ρ
 op:Opens r1
theorem Mem.dn{l D:Nat}{a:Act}{Y:Nat->Prop}{W:World} (h:Mem r Γ l D a Ω Y W) (hr:∀k,Own Ω k->r.A k) (hρ:r.ρ=none) (hds:r.ds=[]) (hsz:a.tmps.size=n) (o:Obj) :
  ∃r1,Dn r D r1/\Stt r1 n Γ Ω { a with defers:=[{ target:=.collected D,args:=#[] }] } (W.putObj l o)/\r1.ρ=none:=by
 have hs:W.heap.size=(W.putObj l o).heap.size:=World.putObj_size.symm;have hown:∀k,Own Ω k->k<W.heap.size:=λk hk=>h.ks.lt hk
 have hkeep:HD Y (Pub (λk=>(k<W.heap.size/\(Own Ω k\/Y k))\/W.heap.size<=k) Ω) W (W.putObj l o):=⟨XdE hs,λk hk hY=>⟨ZC.2 ⟨.inl ⟨hk,.inr hY⟩,(h.ny k hY).2.1⟩,by rw[G8 (h.ny k hY).2.2.1];exact Xch _⟩⟩;have hDlt:=Dl h.hD;refine⟨⟨W.putObj l o,λk=>(k<W.heap.size/\(Own Ω k\/Y k))\/W.heap.size<=k,Own Ω,λk hk=>.inr (by rw[hs];exact hk),none,[{ target:=.collected D,args:=#[] }]⟩,⟨λk hk=>?_,λk hk=>(h.own k hk).1,?_,λho=>(h.own D ho).2.2 rfl,?_,h.ne.2.2,rfl,hds,hρ.symm,⟨λk hk=>?_⟩⟩,⟨hsz,rfl,Xd7 _ _,λt=>(Γ t).keep hkeep (h.ty t),⟨λk hk=>.inr hk,h.ks.keep hkeep λj hj ho=>by rw[G8 (h.own j ho).2.1];exact Xch _,h.ap⟩⟩,rfl⟩
 .rcases hk with⟨h1,h2|h2⟩|h1
  .exact ⟨hr k h2,(h.own k h2).2.2⟩
  .exact ⟨(h.ny k h2).2.2.2.2,(h.ny k h2).2.2.2.1⟩
  .exact ⟨r.up k (XaG h.mu.size h1),by omega⟩
 .refine ⟨h.mu.os,h.mu.tape,h.mu.output,by rw[<-hs];exact h.mu.size,λk hk hS=>?_⟩;rw[G8 (by have:=h.ne.2.1;omega)];exact h.mu.same k hk hS
 .show (W.putObj l o).heap[D]?=_;rw[G8 (Xc3 h.ne.1)];exact h.hD
 .rcases hk with hk|hk
  .exact .inr (by rw[hs];exact hk)
  .exact .inl ⟨hown k hk,.inl hk⟩
theorem Dn.back{D:Nat}{r1:Ref} (h:Dn r D r1) {a:Act}{w:World} (hs:Stt r1 n Γ Ω a w):w.heap[D]?=some (.deferred (some []))/\Stt r n Γ Ω { a with defers:=[] } (w.putObj D (.deferred none)):=by
 have hD:w.heap[D]?=some (.deferred (some [])):=by rw[hs.mu.same D (Dl h.hD) h.nS];exact h.hD
 have hsz:w.heap.size=(w.putObj D (.deferred none)).heap.size:=World.putObj_size.symm;have hnD:∀k,Own Ω k->k≠D:=λk hk e=>by
  subst e;rcases hs.pv.own _ hk with h2|h2
  .have:=Dl h.hD;omega
  .exact h.nS h2
 have hkeep:HD (Pub r1.A Ω) (Pub r.A Ω) w (w.putObj D (.deferred none)):=⟨XdE hsz,λk hk hp=>by
  obtain⟨h1,h2⟩:=ZC.1 hp;exact⟨ZC.2 ⟨(h.a k h1).1,h2⟩,by rw[G8 (h.a k h1).2];exact Xch _⟩⟩
 refine⟨hD,hs.sz,h.dq.symm,⟨hs.mu.os.trans h.mt.os,hs.mu.tape.trans h.mt.tape,hs.mu.output.trans h.mt.output,by rw[<-hsz];exact XaG h.mt.size hs.mu.size,λk hk hS=>?_⟩,λt=>(Γ t).keep hkeep (hs.ty t),⟨λk hk=>?_,hs.pv.ks.keep hkeep λj hj ho=>by rw[G8 (hnD j ho)];exact Xch _,hs.pv.ap⟩⟩
 .have:=h.new;rw[G8 (by omega),hs.mu.same k (XaU hk h.mt.size) λhx=>by rcases h.sub k hx with h3|h3;omega;exact hS h3];exact h.mt.same k hk hS
 .rcases hs.pv.own k hk with h2|h2
  .exact .inl (XaG h.mt.size h2)
  .exact h.sub k h2
theorem N5{fn:Func}{F:Ending->World->Prop}{D:Nat}{r1:Ref} (h:Dn r D r1) (k:TE r n Γ Ω (bodyPost P fn F) .ret):TE r1 n Γ Ω (bodyPostM (FR none) 0 P fn F) .ret:=λa w hs=>by
 obtain⟨hD,h2⟩:=h.back hs;obtain⟨-,v,h3,h4⟩:=k _ _ h2;show LeavesInM (FR none) 0 P fn a.tmps F a.defers .returning w;rw[hs.df,h.ds];exact⟨by simp,.inl ⟨D,w.putObj D (.deferred none),rfl,run_takeDeferred hD,v,h3,h4⟩⟩
theorem Qe{fn:Func}{F:Ending->World->Prop} (hd:r.ds=[]) (k:TE r n Γ Ω (bodyPost P fn F) .ret):TE r n Γ Ω (bodyPostM (FR none) 0 P fn F) .ret:=λa w hs=>by
 obtain⟨-,v,h3,h4⟩:=k _ _ hs;show LeavesInM (FR none) 0 P fn a.tmps F a.defers .returning w;rw[hs.df,hd];exact⟨v,h3,h4⟩
theorem Ss{α β:Type}[Dat α] [Dat β] {it:{σ:Type}->(σ->α->β->Option (σ×Bool))->σ->Option σ}{f:σ->α->β->Option (σ⊕ε)}{s0:σ}{x:σ⊕ε}{g:FuncId}{t p1 p2:Tmp}{assign body:Code}{T:Ty}
  (H:it (yT2 f) (.inl s0)=some x) (hρ:r.ρ=none) (hds:r.ds=[]) [op:Opens r] [h1:Has Γ (.tmp t) T] [F:Fun P g] (hT:∀A w v,T.p A w v->∃cs:List Value,v=.func (.func g) #[] cs.toArray/\Zep P g cs A w it) (hp1:XaZ p1 n=true) (hp2:XaZ p2 n=true)
  (J:σ->ν->List Pe) (Jx:ε->ν->List Pe) (m0:ν) (j0:Fb Ω (J s0 m0))
  (round:∀s m x1 x2 x',f s x1 x2=some x'->∀R rr,Rd r Γ R false rr->Opens rr->TC P rr n ((Γ.set p1 (D x1)).set p2 (D x2)) (J s m) assign (BQ P R body (RQ r Γ J Jx P R x')))
  (done:∀s m D r1,x=.inl s->Dn r D r1->TE r1 n Γ (J s m) Q .normal)
  (stop:∀e m D r1,x=.inr e->Dn r D r1->TE r1 n Γ (Jx e m) Q .ret):TC P r n Γ Ω (.rangeFunc (.tmp t) #[p1,p2] assign body) Q:=by
 intro a w hs;have hs:=hs.less j0;have eT:=h1.le a _ w λt _=>hs.ty t
 obtain⟨cs,e0,hit⟩:=hT _ _ _ eT;rw[hρ];refine wpIn_rangeFunc (F:=FR none) λfn _=>?_
 obtain⟨q,hq⟩:∃q:Rec,q=⟨fn,a.tmps,#[p1,p2],assign,body,w.heap.size⟩:=⟨_,rfl⟩;obtain⟨w1,hw1⟩:∃w1,w1=(w.alloc (.deferred (some []))).alloc (q.o .ready none):=⟨_,rfl⟩;have hsz1:w1.heap.size=w.heap.size+2:=by rw[hw1];simp
 have hL1:w1.heap[w.heap.size+1]?=some (q.o .ready none):=by
  rw[hw1];have:=Xfz (w.alloc (.deferred (some []))) (q.o .ready none);rwa [Xf7]at this
 have hD1:w1.heap[w.heap.size]?=some (.deferred (some [])):=by
  rw[hw1];exact(Below.heap_alloc _ _ _ (by simp)).trans (Xfz w _)
 have hold:∀k,k<w.heap.size->w1.heap[k]?=w.heap[k]?:=λk hk=>by
  rw[hw1];exact(Below.heap_alloc _ _ _ (by simp;omega)).trans (Below.heap_alloc _ _ _ hk)
 have hrun:(Instr.enterLoop fn a.tmps #[p1,p2] assign body (FR none).round).run P w=.ok (w.heap.size+1,[{ target:=.collected w.heap.size,args:=#[] }]) w1:=by
  rw[hw1,hq];exact run_enterLoop_outer _ _ _ _ _
 have hA1:∀k,w1.heap.size<=k->((k<w.heap.size/\Pub r.A (J s0 m0) k)\/w1.heap.size<=k):=λk hk=>.inr hk
 have hown0:∀k,Own (J s0 m0) k->k<w.heap.size:=λk hk=>hs.pv.ks.lt hk
 have hkeep1:HD (Pub r.A (J s0 m0)) (λk=>(k<w.heap.size/\Pub r.A (J s0 m0) k)\/w1.heap.size<=k) w w1:=⟨by omega,λk hk hp=>⟨.inl ⟨hk,hp⟩,by rw[hold k hk];exact Xch _⟩⟩;have hkeep2:HD (Pub r.A (J s0 m0)) (λk=>k<w.heap.size/\Pub r.A (J s0 m0) k) w w1:=⟨by omega,λk hk hp=>⟨⟨hk,hp⟩,by rw[hold k hk];exact Xch _⟩⟩;have hopen:∀Ω:List Pe,(∀k,Own Ω k->r.w.heap.size<=k\/r.S k)->∀k,Own Ω k->r.A k:=λΩ h k hk=>op.h k (h k hk)
 -- what is carried
 have hmem0:Mem r Γ (w.heap.size+1) w.heap.size a (J s0 m0) (λk=>k<w.heap.size/\Pub r.A (J s0 m0) k) w1:=by
  refine⟨?_,λk hk=>⟨hs.pv.own k hk,by have:=hown0 k hk;omega,by have:=hown0 k hk;omega⟩,λk hk=>⟨by omega,(ZC.1 hk.2).2,by omega,by omega,(ZC.1 hk.2).1⟩,hs.pv.ks.keep hkeep2 λj hj _=>by rw[hold j hj];exact Xch _,hs.pv.ap,λt=>(Γ t).keep hkeep2 (hs.ty t),hD1,by omega,by have:=hs.mu.size;omega,hs.mu.size⟩;have e1:w1.os=w.os:=by rw[hw1];rfl
  have e2:w1.tape=w.tape:=by rw[hw1];rfl
  have e3:w1.output=w.output:=by rw[hw1];rfl
  exact⟨e1.trans hs.mu.os,e2.trans hs.mu.tape,e3.trans hs.mu.output,by have:=hs.mu.size;omega,λk hk hS=>by rw[hold k (by have:=hs.mu.size;omega)];exact hs.mu.same k hk hS⟩
 have hj:YJ P (yT2 f) (w.heap.size+1) w1 (λk=>(k<w.heap.size/\Pub r.A (J s0 m0) k)\/w1.heap.size<=k) (RJ r Γ J Jx (w.heap.size+1) w.heap.size a q):=by
  refine⟨λ{st X Y W k} h hk=>?_,λ{st X Y W W'} h hold2 hX hY hsz e1 e2 e3=>?_,λ{st x1 x2 st' tb X Y W v1 v2 Ac} hy h hAc hv1 hv2=>?_⟩
  .have key:∀(Ω:List Pe),(∀k,X k↔Own Ω k\/k=w.heap.size+1\/k=w.heap.size)->Mem r Γ (w.heap.size+1) w.heap.size a Ω Y W->w.heap.size+1<W.heap.size->k<W.heap.size:=λΩ h1 h2 h3=>by
    rcases hk with hk|hk
    .rcases (h1 k).1 hk with h4|h4|h4
     .exact h2.ks.lt h4
     .omega
     .omega
    .exact (h2.ny k hk).1
   cases st with
   | inl s=>obtain⟨m,h1,h2,h3⟩:=h;exact key _ h1 h2 (Dl h3)
   | inr e=>obtain⟨m,h1,h2,h3⟩:=h;exact key _ h1 h2 (Dl h3)
  .have key:∀(Ω:List Pe) (o:Obj),(∀k,X k↔Own Ω k\/k=w.heap.size+1\/k=w.heap.size)->Mem r Γ (w.heap.size+1) w.heap.size a Ω Y W->W.heap[w.heap.size+1]?=some o->Mem r Γ (w.heap.size+1) w.heap.size a Ω Y W'/\W'.heap[w.heap.size+1]?=some o:=λΩ o h1 h2 h3=>by
    have hkp:HD Y Y W W':=⟨hsz,λk hk hy=>⟨hy,hY k hy⟩⟩;refine⟨⟨⟨e1.trans h2.mu.os,e2.trans h2.mu.tape,e3.trans h2.mu.output,XaG h2.mu.size hsz,λk hk hS=>?_⟩,h2.own,λk hk=>⟨XaU (h2.ny k hk).1 hsz,(h2.ny k hk).2⟩,h2.ks.keep hkp λj hj ho=>by rw[hX j ((h1 j).2 (.inl ho))];exact Xch _,h2.ap,λt=>(Γ t).keep hkp (h2.ty t),?_,h2.ne⟩,?_⟩
    .rw [hold2 k (by have:=hs.mu.size;omega)];exact h2.mu.same k hk hS
    .rw [hX _ ((h1 _).2 (.inr (.inr rfl)))];exact h2.hD
    .rw [hX _ ((h1 _).2 (.inr (.inl rfl)))];exact h3
   cases st with
   | inl s=>obtain⟨m,h1,h2,h3⟩:=h;obtain⟨h4,h5⟩:=key _ _ h1 h2 h3;exact⟨m,h1,h4,h5⟩
   | inr e=>obtain⟨m,h1,h2,h3⟩:=h;obtain⟨h4,h5⟩:=key _ _ h1 h2 h3;exact⟨m,h1,h4,h5⟩
  .obtain ⟨s,rfl,hf,rfl⟩:=Y8 hy;obtain⟨m,h1,h2,h3⟩:=h;have hyr:=run_yield (P:=P) (w:=W) (args:=#[v1,v2]) (r:={ state:=.ready,pending:=none,fn:=q.fn,tmps:=q.tmps,params:=q.ps,assign:=q.assign,body:=q.body,defers:=q.D }) h3 (by rw[hq];rfl);refine⟨_,_,_,_,hyr,roundIn_of_wpIn trivial ?_⟩;subst hq;dsimp only;have hown:∀k,Own (J s m) k->k<W.heap.size:=λk hk=>h2.ks.lt hk
   have hAX:∀k,Ac k->¬Own (J s m) k/\k≠w.heap.size+1/\k≠w.heap.size:=λk hk=>⟨λho=>(hAc k hk).1 ((h1 k).2 (.inl ho)),λe=>(hAc k hk).1 ((h1 k).2 (.inr (.inl e))),λe=>(hAc k hk).1 ((h1 k).2 (.inr (.inr e)))⟩
   obtain⟨R,hR⟩:∃R:Rnd,R=⟨w.heap.size+1,w.heap.size,a,⟨fn,a.tmps,#[p1,p2],assign,body,w.heap.size⟩,X,Y,Ac,W⟩:=⟨_,rfl⟩;obtain⟨rr,hrr⟩:∃rr:Ref,rr=⟨W,λk=>(k<W.heap.size/\(Own (J s m) k\/Y k\/Ac k))\/W.heap.size<=k,Own (J s m),λk hk=>.inr hk,some (w.heap.size+1),[]⟩:=⟨_,rfl⟩;have hop:Opens rr:=⟨λk hk=>by
    rw[hrr]at hk⊢;rcases hk with hk|hk
    .exact .inr hk
    .exact .inl ⟨hown k hk,.inl hk⟩⟩
   have hrd:Rd r Γ R false rr:=by
    subst hR hrr;refine⟨Xau _,λk hk=>?_,λk hk=>.inl ⟨(h2.ny k hk).1,.inr (.inl hk)⟩,⟨?_,?_,λho=>(h2.own _ ho).2.1 rfl,λho=>(h2.own _ ho).2.2 rfl⟩,λk hk=>.inl ((h1 k).2 (.inl hk)),rfl,rfl,rfl,λ_ _ _=>rfl,h3,h2.hD,hop,rfl,rfl,λk hk=>?_,⟨J s m,h1,h2,λk hk=>hopen _ (λk hk=>(h2.own k hk).1) k hk⟩⟩
    .rcases hk with⟨h5,h6|h6|h6⟩|h5
     .exact .inl ⟨h5,.inl ((h1 k).2 (.inl h6))⟩
     .exact .inl ⟨h5,.inr (.inl h6)⟩
     .exact .inl ⟨h5,.inr (.inr h6)⟩
     .exact .inr h5
    .have hll:=Dl h3;rintro(⟨h5,h6|h6|h6⟩|h5)
     .exact (h2.own _ h6).2.1 rfl
     .exact (h2.ny _ h6).2.2.1 rfl
     .exact (hAX _ h6).2.1 rfl
     .dsimp only at h5;omega
    .have hll:=Dl h2.hD;rintro(⟨h5,h6|h6|h6⟩|h5)
     .exact (h2.own _ h6).2.2 rfl
     .exact (h2.ny _ h6).2.2.2.1 rfl
     .exact (hAX _ h6).2.2 rfl
     .dsimp only at h5;omega
    .rcases (hAc k hk).2 with h5|h5
     .exact (ZC.1 h5.2).1
     .exact r.up k (by have:=hs.mu.size;omega)
   have hkY:HD Y (Pub rr.A (J s m)) W W:=by
    subst hrr;exact Xd1 λk hk hy=>ZC.2 ⟨.inl ⟨hk,.inr (.inl hy)⟩,(h2.ny k hy).2.1⟩
   have hkA:HD Ac (Pub rr.A (J s m)) W W:=by
    subst hrr;exact Xd1 λk hk hy=>ZC.2 ⟨.inl ⟨hk,.inr (.inr hy)⟩,(hAX k hy).1⟩
   have b1:p1<n:=by simpa using hp1
   have b2:p2<n:=by simpa using hp2
   obtain⟨t1,t2,t3⟩:=Kq (a:=⟨a.tmps,[]⟩) (d:=some p1) (τ:=D x1) (v:=v1) (w':=W) (A:=Pub rr.A (J s m)) (n:=n) hs.sz (λt ht=>by injection ht with ht;subst ht;exact b1) (λt=>(Γ t).keep hkY (h2.ty t)) ((D x1).keep hkA hv1);obtain⟨t4,t5,t6⟩:=Kq (a:=(⟨a.tmps,[]⟩:Act).put (some p1) v1) (d:=some p2) (τ:=D x2) (v:=v2) (w':=W) (A:=Pub rr.A (J s m)) (n:=n) t1 (λt ht=>by injection ht with ht;subst ht;exact b2) t3 ((D x2).keep hkA hv2);have hst:Stt rr n ((Γ.set p1 (D x1)).set p2 (D x2)) (J s m) (((⟨a.tmps,[]⟩:Act).put (some p1) v1).put (some p2) v2) W:=by
    refine⟨t4,by subst hrr;exact t5.trans t2,by subst hrr;exact Xd7 _ _,t6,⟨λk hk=>?_,h2.ks.keep hkY λj _ _=>Xch _,h2.ap⟩⟩;subst hrr;exact .inr hk
   have:=round s m x1 x2 st' hf R rr hrd hop _ _ hst;subst hR hrr;have hz:Array.foldl (λ(tmps:Array Value) (x:Tmp×Value)=>tmps.setIfInBounds x.1 x.2) a.tmps ((#[p1,p2]:Array Tmp).zip #[v1,v2])=(a.tmps.setIfInBounds p1 v1).setIfInBounds p2 v2:=by simp
   have hz2:(⟨Array.foldl (λ(tmps:Array Value) (x:Tmp×Value)=>tmps.setIfInBounds x.1 x.2) a.tmps ((#[p1,p2]:Array Tmp).zip #[v1,v2]),[]⟩:Act)=((⟨a.tmps,[]⟩:Act).put (some p1) v1).put (some p2) v2:=by rw[hz];rfl
   show Xhc (FR (some (w.heap.size+1))) 0 P assign _ (⟨Array.foldl (λ(tmps:Array Value) (x:Tmp×Value)=>tmps.setIfInBounds x.1 x.2) a.tmps ((#[p1,p2]:Array Tmp).zip #[v1,v2]),[]⟩:Act) W;rw[hz2];exact this
 have h0:RJ r Γ J Jx (w.heap.size+1) w.heap.size a q (.inl s0) (λk=>Own (J s0 m0) k\/k=w.heap.size+1\/k=w.heap.size) (λk=>k<w.heap.size/\Pub r.A (J s0 m0) k) w1:=⟨m0,λk=>XgY,hmem0,hL1⟩;have hcall:=hit (yT2 f) (.inl s0) x _ w1 (w.heap.size+1) _ _ _ H hkeep1 hA1 (λk hk hA=>by
  rcases hk with hk|hk|hk
  .rcases hA with hA|hA
   .exact (ZC.1 hA.2).2 hk
   .have:=hown0 k hk;omega
  .rcases hA with hA|hA
   .omega
   .omega
  .rcases hA with hA|hA
   .omega
   .omega) hj h0
 refine⟨w.heap.size+1,[{ target:=.collected w.heap.size,args:=#[] }],w1,{ target:=.fn (.func g) cs.toArray,args:=#[.func (.yield (w.heap.size+1)) #[] #[]] },w1,g,#[.func (.yield (w.heap.size+1)) #[] #[]]++cs.toArray,w1,hrun,?_,λ_ _=>trivial,?_,Oc,KJ.2 ?_⟩
 .have e0:a.eval (.tmp t)=.func (.func g) #[] cs.toArray:=e0;simp only[resolve,e0,XbG,Xai,Xb0,Xbl,Xcy];simp[go_sem]
 .simp [invoke,go_sem,F.h]
 .have e1:(#[.func (.yield (w.heap.size+1)) #[] #[]]++cs.toArray:Array Value)=(XgQ (.yield (w.heap.size+1)) #[] #[]::cs).toArray:=by simp
  rw[e1];refine hcall.mono ?_;rintro e W3 ⟨⟨v,rfl⟩,X',Y',hx,-,-⟩;have hdf:a.defers=[]:=hs.df.trans hds;cases x with
  | inl s=>
   obtain⟨m,h1,h2,h3⟩:=hx;obtain⟨r1,d1,d2,d3⟩:=h2.dn (n:=n) (hopen _ λk hk=>(h2.own k hk).1) hρ hds hs.sz (q.o .exhausted none);refine⟨none,_,by have:=run_endLoop (P:=P) h3 (by simp);exact this,?_⟩;have:=done s m _ r1 rfl d1 _ _ d2;show Q .normal { a with defers:=[{ target:=.collected w.heap.size,args:=#[] }]++a.defers } _;rw[hdf];exact this
  | inr e=>
   obtain⟨m,h1,h2,h3⟩:=hx;obtain⟨r1,d1,d2,d3⟩:=h2.dn (n:=n) (hopen _ λk hk=>(h2.own k hk).1) hρ hds hs.sz (q.o .exhausted (some .ret));refine⟨some .ret,_,by have:=run_endLoop (P:=P) h3 (by simp);exact this,?_⟩;have:=stop e m _ r1 rfl d1 _ _ d2;show Xhc (FR none) 0 P .ret Q { a with defers:=[{ target:=.collected w.heap.size,args:=#[] }]++a.defers } _;rw[hdf];exact wpIn_ret this
end rules
section enter
variable {P:Program}{n:Nat}{R:Ending->World->Prop}
theorem Si{r:Ref}{Γ:Env}{Ω:List Pe}{f:FuncId}{fn:Func}{c:Code}{args:List Value} (hf:P.funcs[f]?=some fn) (hb:fn.body=some c) (hn:fn.ntmps=n) (hl:args.length<=n) (hΩ:Pok r Ω r.w)
  (hok:∀t,t<args.length->(Γ t).p (Pub r.A Ω) r.w (args.getD t undef)) (hout:∀t,args.length<=t->(Γ t).p (Pub r.A Ω) r.w undef)
  (h:TC P r n Γ Ω c (bodyPostM (FR none) 0 P fn R)) (hρ:r.ρ=none:=by rfl) (hds:r.ds=[]:=by rfl):Calls P f args.toArray r.w R:=by
 refine KJ.1 (callsIn_of_wp_marks (F:=FR none) (n:=0) hf hb trivial (show c.wpIn (FR none) 0 P _ _ _ from hρ▸h _ _ ⟨?_,hds.symm,Xd7 _ _,λt=>?_,hΩ⟩))
 .simp [hn];omega
 .simp only[Array.getD_eq_getD_getElem?];rcases Xbd t args.length with h1|h1
  .have:=hok t h1;rw[Xad]at this;rw[Array.getElem?_append_left (by simpa using h1)];simpa using this
  .have:=hout t h1;rw[Array.getElem?_append_right (by simpa using h1)];simp only[Array.getElem?_replicate]
   split<;>simpa using this
theorem XP{f:FuncId}{fn:Func}{c:Code}{A:Nat->Prop}{w:World}{v0:Value}{τ0:Ty} (hA:∀k,w.heap.size<=k->A k) (hf:P.funcs[f]?=some fn) (hb:fn.body=some c) (hn:fn.ntmps=n) (hl:Xbn 1 n=true) (h0:τ0.p A w v0)
  (h:TC P (G6 A w hA) n (TR Env.nil 0 τ0) [] c (bodyPostM (FR none) 0 P fn R)):Calls P f #[v0] w R:=by
 refine Si (r:=G6 A w hA) (args:=[v0]) hf hb hn (by simpa using hl) Pok.nil (λt ht=>?_) (λt ht=>?_) h
 .match t,ht with
  | 0,_=>exact Xe5 h0
 .simp only[XaP,XdB]at ht;simp only[TR];rw[if_neg (show ¬t=0 by omega)];exact trivial
end enter
theorem XZ{l:List UInt8}{i:Nat}{v:UInt8} (h:l[i]?=some v):(⟨l.toArray⟩:ByteArray)[i]?=some v:=by
 obtain⟨h1,h2⟩:=Xav.1 h;have hs:i<(⟨l.toArray⟩:ByteArray).size:=by show i<l.toArray.size;simpa using h1
 rw[getElem?_pos (⟨l.toArray⟩:ByteArray) i hs];refine congrArg some ?_;show l.toArray[i]=v;simpa using h2
section ops
variable {P:Program}{B0:Nat}{A:Nat->Prop}{Ω:List Pe}{Γ:Env}{dst:Option Tmp}{ty:TypeId}{pos:String}{aft:Array Edge}{gd:Option (Nat×Bool)}{t e:TypeId}{x y:Operand}{τ σ:Ty}
theorem SG{l l':List UInt8}{q:Int}{v:UInt8}[T:TStr P t] [Has Γ x τ] [hx:AsStr τ l'] [Has Γ y σ] [hy:AsIx σ q] (hl:l'=l) (h:idx l q=some v):OpY P B0 A Ω Γ ⟨dst,.index t x y,ty,pos,aft,gd⟩ (D v):=
 XbH λa w hl2=>by
  subst hl;have e1:a.eval x=.string ⟨l'.toArray⟩:=hx.le _ _ _ (Zy (x:=x) (τ:=τ) (op:=.index t x y) (by simp[Xae]) hl2);obtain⟨kd,e2⟩:=hy.h (Zy (x:=y) (τ:=σ) (op:=.index t x y) (by simp[Xae]) hl2);obtain⟨h1,h2⟩:=A3 h;refine⟨.int .u8 v.toNat,?_,[_],rfl,rfl⟩;simp only[execOp,e1,e2,XgP,asIntOf,Xag,Xai,Xab,run_underlying T.h,h1,if_true,XZ h2]
theorem Ki{α:Type}{i:Dat α}{n:Nat}[S:TAr P t n e] [T:TDat P e α i] [hn:BoolIs (Xbn 1 n) true] {v:Vec α n}{k:Int}{z:α}[Has Γ x τ] [hx:AsD τ (Vec α n) Lu v] [Has Γ y σ] [hy:AsIx σ k] (h:idx v.l k=some z) :
  OpY P B0 A Ω Γ ⟨dst,.index t x y,ty,pos,aft,gd⟩ (D z):=
 XbH λa w hl=>by
  obtain⟨cs,⟨c1,c2⟩,h2⟩:=hx.le _ _ _ (Zy (x:=x) (τ:=τ) (op:=.index t x y) (by simp[Xae]) hl);have e1:a.eval x=.agg cs.toArray:=by rw[h2];rfl
  obtain⟨kd,e2⟩:=hy.h (Zy (x:=y) (τ:=σ) (op:=.index t x y) (by simp[Xae]) hl);obtain⟨h1,h3⟩:=A3 h;obtain⟨h4,h5⟩:=Xav.1 h3;have hv:=v.h;have hel:=c2 k.toNat h4;rw[h5]at hel;have hkn:k.toNat*Dat.sz α+Dat.sz α<=n*Dat.sz α:=by rw[<-XaF];exact Xah _ (by omega)
  have:=LT (P:=P) (u:=e) (A:=A) (w:=w) (cs:=cs) (off:=k.toNat*Dat.sz α) (x:=z) hel (by omega);have hin:0<=k/\k<(n:Int):=by omega
  refine⟨_,?_,seg cs (k.toNat*Dat.sz α) (Dat.sz α),hel,rfl⟩;simp only[execOp,e1,e2,XgP,asIntOf,Xag,Xai,Xab,run_underlying S.h,hin,and_self,if_true,T.sz,this]
end ops
end
section
variable {P:Program}{B0:Nat}{A:Nat->Prop}{Ω:List Pe}{Γ:Env}{dst:Option Tmp}{ty:TypeId}{pos:String}{aft:Array Edge}{gd:Option (Nat×Bool)}
class ExtCmp(P:Program)(f:FuncId):Prop where
 h:∀args w,(callFunc f args).run P w=((Extern.BytealgCompare.compare args).run P w).andThen λv w'=>.ok (.value v) w'
def Dr:List UInt8->List UInt8->Int
 | [],[]=>0
 | [],_::_=>-1
 | _::_,[]=>1
 | a::l1,b::l2=>if a<b then -1 else if b<a then 1 else Dr l1 l2
theorem OU:∀a b:List UInt8,Xgw a b=Dr a b
 | [],[]=>rfl
 | [],_::_=>rfl
 | _::_,[]=>rfl
 | a::l1,b::l2=>by unfold Xgw Dr;rw[OU l1 l2]
theorem OT:∀a b:List UInt8,Dr a b=-1\/Dr a b=0\/Dr a b=1
 | [],[]=>.inr (.inl rfl)
 | [],_::_=>.inl rfl
 | _::_,[]=>.inr (.inr rfl)
 | a::l1,b::l2=>by
  unfold Dr
  split
  .exact .inl rfl
  .split
   .exact .inr (.inr rfl)
   .exact OT l1 l2
theorem Ot{w:World}{v:Value}{l:List UInt8} (h:(D l).p A w v):(Extern.Bytes.bytesOf v).run P w=.ok ⟨l.toArray⟩ w:=by
 obtain⟨ad,c,e,h1,h2,h3,h4⟩:=NM rfl h;obtain rfl:=(List.cons.inj e).1;cases l with
 | nil=>
  cases ad with
  | none=>rfl
  | some ad=>rfl
 | cons x xs=>
  obtain⟨b,off,rfl,-⟩:=h4 0 (by simp);have hl:=Lib.run_loadBytesX (P:=P) w ((x::xs).map λy=>(y.toNat:Int)) ⟨b,off,none⟩ .empty (λj z hj=>by
   rw[List.getElem?_map]at hj;obtain⟨y,hy,rfl⟩:=Option.map_eq_some_iff.1 hj;obtain⟨hjl,hy2⟩:=Xav.1 hy;obtain⟨b',off',e',-,es,g1,g2⟩:=h4 j hjl;obtain⟨rfl,rfl,-⟩:=Addr.mk.inj (ZZi e');have g2:es=[XbR .u8 ((x::xs)[j].toNat:Int)]:=g2;subst g2;have g3:=g1 0 (by simp);rw[hy2]at g3;have e2:(⟨b,off,none⟩:Addr).add j=⟨b,off+j,none⟩:=by unfold XeM;split<;>simp_all
   rw[e2];have:Dat.sz UInt8=1:=rfl;rw[this,XdA,Xbw]at g3;exact g3)
  have hb:(⟨ByteArray.empty.data++(XfU ((x::xs).map λy=>(y.toNat:Int))).toArray⟩:ByteArray)=⟨(x::xs).toArray⟩:=by
   apply ByteArray.ext;show(#[]:Array UInt8)++(XfU ((x::xs).map λy=>(y.toNat:Int))).toArray=_;rw[Array.empty_append];congr 1;unfold XfU;rw[List.map_map];rw[List.map_congr_left (g:=λy=>y) (λy _=>by show(y.toNat:Int).toNat.toUInt8=y;rw[Xak];simp),List.map_id']
  rw[hb,List.length_map]at hl;exact hl
theorem OpY.cmp{f:FuncId}{ts:Array TypeId}[F:ExtCmp P f] {x1 x2:Operand}{τ1 τ2:Ty}{l1 l2:List UInt8}[h1:Has Γ x1 τ1] [k1:AsL τ1 UInt8 instDatUInt8 l1] [h2:Has Γ x2 τ2] [k2:AsL τ2 UInt8 instDatUInt8 l2] :
  OpY P B0 A Ω Γ ⟨dst,.call { callee:=.value (.func f),args:=#[x1,x2],argTypes:=ts },ty,pos,aft,gd⟩ (D (Dr l1 l2:Int)):=λa w hB hu hp hl=>by
 have g1:=k1.le _ _ _ (h1.le a A w λt e=>hl t (by simp[Xae,XaE,e]));have g2:=k2.le _ _ _ (h2.le a A w λt e=>hl t (by simp[Xae,XaE,e]));have hr:(Extern.BytealgCompare.compare #[a.eval x1,a.eval x2]).run P w=.ok (.int .i64 (Dr l1 l2)) w:=by
  change Sem.run P (do pure (goInt (Extern.BytealgCompare.cmp (<-Extern.Bytes.bytesOf (a.eval x1)) (<-Extern.Bytes.bytesOf (a.eval x2))))) w=_
  simp only[Xag,Ot (P:=P) g1,Ot (P:=P) g2,Xab,Xai];rw[Lib.cmp_eq,OU];rfl
 have:(execOp a.eval ⟨dst,.call { callee:=.value (.func f),args:=#[x1,x2],argTypes:=ts },ty,pos,aft,gd⟩).run P w=.ok (.value (.int .i64 (Dr l1 l2))) w:=by
  have e1:a.eval (.func f)=.func (.func f) #[] #[]:=rfl;simp only[execOp,resolve,XbG,e1,Xag,Xai,Xab,invoke,Array.append_empty,Array.empty_append];rw[show(#[x1,x2].map a.eval)=#[a.eval x1,a.eval x2]by simp,F.h,hr];rfl
 rw[this];have:=OT l1 l2;exact⟨Xdg _ _,⟨[.int .i64 (Dr l1 l2)],⟨rfl,by unfold FA;omega⟩,rfl⟩⟩
section arr
variable {β:Type}{j:Dat β}{n:Nat}[hn:BoolIs (Xbn 1 n) true]
theorem Zc9{A:Nat->Prop}{w:World}{cs ds:List Value}{v:Vec β n}{k:Nat}{y:β} (hk:k<n) (h:Dat.rd A w cs v) (hd:Dat.rd A w ds y):Dat.rd A w (Ab cs (k*Dat.sz β) ds) (v.set k y):=by
 obtain⟨g1,g3⟩:=h;have hv:=v.h;have l2:=Dat.len hd;have hkn:k*Dat.sz β+Dat.sz β<=n*Dat.sz β:=by rw[<-XaF];exact Xah _ hk
 refine⟨by rw[Zp (by omega),g1],λq hq=>?_⟩;have hq':q<v.l.length:=by simpa[Vec.set]using hq
 by_cases hqk:q=k
 .subst hqk;have e9:=B1 (cs:=cs) (o:=q*Dat.sz β) (vs:=ds) (by omega);rw[l2]at e9;rw[e9];simp only[Vec.set,Xdo];exact hd
 .rw [AM (by omega) (by rw[g1,<-XaF];exact Xah _ (by omega)) ?_]
  .simp only[Vec.set,Xdy (λh=>hqk h.symm)];exact g3 q hq'
  .rcases Xbd q k with h6|h6
   .left;rw[<-XaF];exact Xah _ (by omega)
   .right;rw[l2,<-XaF];exact Xah _ (by omega)
class HasPartsA(Γ:Env)(ps:List (Nat×Operand))(β:Type)(j:Dat β)(n:Nat)[hn:BoolIs (Xbn 1 n) true](x0:Vec β n)(x:outParam (Vec β n)):Prop where
 h:∀(a:Act) A w,(∀k,.tmp k∈ps.map (·.2)->(Γ k).p A w (a.tmps.getD k undef))->∀cs,Dat.rd A w cs x0->
  ∃cs',XbW (λi=>some (i*Dat.sz β,Dat.sz β)) cs.toArray (ps.map λp=>(p.1,a.eval p.2))=some cs'.toArray/\Dat.rd A w cs' x
instance {x:Vec β n}:HasPartsA Γ [] β j n x x:=⟨λa A w _ cs h=>⟨cs,by simp[XbW],h⟩⟩
instance {x0 x:Vec β n}{p:Operand}{f:Nat}{ps:List (Nat×Operand)}{τ:Ty}{y:β}[hf:BoolIs (Xbn n f) false] [hp:Has Γ p τ] [hy:ToD τ β j y] [r:HasPartsA Γ ps β j n (x0.set f y) x] :
  HasPartsA Γ ((f,p)::ps) β j n x0 x:=⟨λa A w ha cs hr=>by
 obtain⟨es,e1,e2⟩:=LF (hy.le _ _ _ (hp.le a A w λk e=>ha k (by simp[e])));have hfn:f<n:=by
  have h:=hf.h;rcases Xbd f n with h1|h1
  .exact h1
  .rw [Nat.ble_eq_true_of_le h1]at h;cases h
 have l1:es.length=Dat.sz β:=Dat.len e2;have l2:cs.length=n*Dat.sz β:=Dat.len hr;have l3:f*Dat.sz β+Dat.sz β<=n*Dat.sz β:=by rw[<-XaF];exact Xah _ hfn
 obtain⟨cs',r1,r2⟩:=r.h a A w (λk hk=>ha k (Xaw _ hk)) _ (Zc9 hfn hr e2);refine⟨cs',?_,r2⟩;simp only[Xbl,XbW,e1];rw[if_neg (by simp[l1];omega)];have h5:=EE es 0 (f*Dat.sz β) cs (by omega);simp only[Xbw]at h5;rw[<-r1];congr 1;rw[<-h5];simp⟩
theorem DS{t e:TypeId}{parts:Array (Nat×Operand)}{ps:List (Nat×Operand)}{bt be:Nat}{x:Vec β n} (y:Vec β n) [T:TEl P t (Vec β n) Lu bt] [E:TEl P e β j be] (hps:parts=ps.toArray) (hu:P.underlying t=some (.array n e))
  [h:HasPartsA Γ ps β j n Dat.z x] (hxy:x=y):OpY P B0 A Ω Γ ⟨dst,.build t parts,ty,pos,aft,gd⟩ (D y):=hxy▸
 XbH λa w hl=>by
  subst hps;obtain⟨ti,z,i1,i2,i3,i4,i5⟩:=T.h;obtain⟨ei,ez,k1,k2,k3,k4,k5⟩:=E.h;obtain⟨cs',r1,r2⟩:=h.h a A w (λk hk=>hl k (by simp only[Xae];simpa using hk)) _ Dat.zrd;refine⟨.agg cs'.toArray,?_,cs',r2,by unfold mkV;rfl⟩;have hb:P.built t ((ps.toArray.map λ(i,x)=>(i,a.eval x)).toList)=some cs'.toArray:=by
   unfold XeY;rw[i1,hu];simp only[i2,k1,i5,k3];simpa using r1
  simp only[execOp,Xag,run_build w t _ cs'.toArray hb,Xab,Xai]
end arr
end
section
open Go Go.RowKit
section
variable {P:Program}{t u:TypeId}{n:Nat}
theorem EqN.up{α:Type}{i:Dat α}[DecidableEq α] {m:Nat} (h:EqN P t α i n) (hm:n<=m):EqN P t α i m:=⟨λ{A} w d {cs ds x y} hx hy=>by
 have:=h.h w (d+(m-n)) hx hy;rw[show d+(m-n)+n+1=d+m+1 by omega]at this;exact this⟩
theorem EqN.u16{k:IntKind}(hu:P.underlying t=some (.int k)):EqN P t UInt16 inferInstance n:=⟨λ{A} w d {cs ds x y} hx hy=>by
 have hx:cs=[.int .u16 x.toNat]:=hx;have hy:ds=[.int .u16 y.toNat]:=hy;subst hx;subst hy;show(Xdb (d+n+1) t (.int .u16 x.toNat) (.int .u16 y.toNat)).run P w=_;rw[run_equalIn_int w (d+n) t .u16 k _ _ hu];have e3:((x.toNat:Int)=(y.toNat:Int))↔x=y:=by rw[XcL,UInt16.toNat_inj]
 have e4:((x.toNat:Int) == (y.toNat:Int))=decide (x=y):=by rw[Xbt];simp only[beq_iff_eq,e3,decide_eq_true_eq]
 rw[e4]⟩
def Lx(d:Nat)(u:TypeId)(n:Nat)(xs ys:Array Value):Nat->Nat->Sem Bool
 | _,0=>pure true
 | i,k+1=>do if !(<-Xdb d u (<-part u xs (i*n)) (<-part u ys (i*n)))then pure false else Lx d u n xs ys (i+1) k
theorem MK{w:World}{d len:Nat}{xs ys:Array Value} (ht:P.underlying t=some (.array len u)) {m:Nat} (hm:∀w,(sizeOf u).run P w=.ok m w) :
  (Xdb (d+1) t (.agg xs) (.agg ys)).run P w=(Lx d u m xs ys 0 len).run P w:=by
 simp only[Xdb,Xag,run_underlying ht,Xab,hm];rw[Std.Legacy.Range.forIn_eq_forIn_range'];simp only[Std.Legacy.Range.size,Nat.sub_zero,Nat.add_sub_cancel,Nat.div_one];clear ht hm;generalize (0:Nat)=i
 induction len generalizing i w with
 | zero=>simp[Lx]
 | succ k ih=>
  rw[XcE];simp only[List.forIn_cons,Lx,Xag];generalize (part u xs (i*m)).run P w=r1;cases r1 with
  | ok a w1=>
   simp only[Xab];generalize (part u ys (i*m)).run P w1=r2;cases r2 with
   | ok b w2=>
    simp only[Xab];generalize (Xdb d u a b).run P w2=r3;cases r3 with
    | ok r w3=>
     cases r
     .simp only[Xab,Xas,if_true,Xai]
     .simp only[Xab,XaC,Xbu,if_false,Xai];exact ih (i+1)
    | halt x w3=>simp[XeS]
   | halt x w2=>simp[XeS]
  | halt x w1=>simp[XeS]
theorem Zer{β:Type}{j:Dat β}[DecidableEq β] {len:Nat}[hn:BoolIs (Xbn 1 len) true] (hu:P.underlying t=some (.array len u)) [T:TDat P u β j] (E:EqN P u β j n):EqN P t (Vec β len) Lu (n+1):=⟨λ{A} w d {cs ds x y} hx hy=>by
 have e1:mkV (Vec β len) cs=.agg cs.toArray:=rfl;have e2:mkV (Vec β len) ds=.agg ds.toArray:=rfl;rw[e1,e2,show d+(n+1)+1=(d+n+1)+1 by omega,MK hu T.sz];obtain⟨x1,x2⟩:=hx;obtain⟨y1,y2⟩:=hy;have hxl:=x.h;have hyl:=y.h;have key:∀(k i:Nat),i+k=len->(Lx (d+n+1) u (Dat.sz β) cs.toArray ds.toArray i k).run P w=.ok (decide (x.l.drop i=y.l.drop i)) w:=by
  intro k
  induction k with
  | zero=>
   intro i hi;rw[Xa7 (by omega),Xa7 (by omega)];simp[Lx]
  | succ k ih=>
   intro i hi;have hix:i<x.l.length:=by omega
   have hiy:i<y.l.length:=by omega
   have hb:i*Dat.sz β+Dat.sz β<=len*Dat.sz β:=by rw[<-XaF];exact Xah _ (by omega)
   simp only[Lx,Xag,LT (P:=P) (u:=u) (x2 i hix) (by omega),LT (P:=P) (u:=u) (y2 i hiy) (by omega),Xab,E.h w d (x2 i hix) (y2 i hiy)];rw[Xa0 hix,Xa0 hiy]
   by_cases h:x.l[i]=y.l[i]
   .simp only[h,decide_true,XaC,Xbu,if_false,ih (i+1) (by omega),List.cons.injEq,true_and]
   .simp only[h,decide_false,Xas,if_true,Xai,List.cons.injEq,false_and]
 rw[key len 0 (by omega),XcS,XcS];congr 1;rw[decide_eq_decide];exact⟨λh=>Vec.ext h,λh=>by rw[h]⟩⟩
end
section mm
variable {P:Program}{B0:Nat}{A:Nat->Prop}{Ω:List Pe}{Γ:Env}{dst:Option Tmp}{ty:TypeId}{pos:String}{aft:Array Edge}{gd:Option (Nat×Bool)}
def max64(a b:UInt64):UInt64:=if a<b then b else a
theorem OpY.max64{x y:Operand}{τ σ:Ty}{ts:Array TypeId}{m k:UInt64}[Has Γ x τ] [hx:AsU64 τ m] [Has Γ y σ] [hy:AsU64 σ k] :
  OpY P B0 A Ω Γ ⟨dst,.call { callee:=.builtin .max,args:=#[x,y],argTypes:=ts },ty,pos,aft,gd⟩ (U64 (Tr.max64 m k)):=
 XbH λa w hl=>⟨.int .u64 (Tr.max64 m k).toNat,by
  have e1:a.eval x=.int .u64 m.toNat:=hx.le _ _ _ (Zy (x:=x) (τ:=τ) (op:=.call { callee:=.builtin .max,args:=#[x,y],argTypes:=ts }) (by simp[Xae,XaE]) hl);have e2:a.eval y=.int .u64 k.toNat:=hy.le _ _ _ (Zy (x:=y) (τ:=σ) (op:=.call { callee:=.builtin .max,args:=#[x,y],argTypes:=ts }) (by simp[Xae,XaE]) hl);have e3:(if m.toNat<k.toNat then(k.toNat:Int)else(m.toNat:Int))=((Tr.max64 m k).toNat:Int):=by
   unfold Tr.max64
   by_cases h:m<k
   .rw [if_pos h,if_pos (Xci.1 h)]
   .rw [if_neg h,if_neg λh3=>h (Xci.2 h3)]
  simp[execOp,resolve,invoke,builtin,e1,e2,Builtin.max_,Builtin.max2];exact e3,rfl⟩
end mm
def ZeN(τ:Ty):Ct:=⟨λA w cs=>∃v,cs=[v]/\τ.p A w v,λk ⟨v,h,t⟩=>⟨v,h,τ.keep k t⟩⟩
def Zf1{α:Type}[Dat α] (x:α):Ty:=
  ⟨λA w v=>∃b off u,v=.pointer (some ⟨b,off,none⟩)/\A b/\w.cell? ⟨b,off,none⟩=some u/\(K3 x).p A w u,
   λk ⟨b,off,u,h1,h2,h3,h4⟩=>⟨b,off,u,h1,(k.h b (Q1 h3) h2).1,k.cell h2 h3,(K3 x).keep k h4⟩⟩
class TPtr(P:Program)(t:TypeId):Prop where
 ag:∀w,(isAgg t).run P w=.ok false w
 sz:∀w,(sizeOf t).run P w=.ok 1 w
section hold
variable {P:Program}{B:Nat}{Ωs Ω:List Pe}{Γ:Env}{dst:Option Tmp}{ty:TypeId}{pos:String}{aft:Array Edge}{gd:Option (Nat×Bool)}{d:Tmp}{t:TypeId}
theorem Zb1{x:Operand}{b o:Nat}[hx:Has Γ x (Pt b o)] :
  OpT P B Ωs Ω Γ ⟨some d,.box t x,ty,pos,aft,none⟩ (λg:Nat×Unit=>Pt g.1 0) λg=>⟨g.1,True,ZeN (Pt b o)⟩::Ω:=
 GB (C:=λ_=>ZeN (Pt b o)) rfl λA a w _ _ hl=>by
  have e1:a.eval x=.pointer (some ⟨b,o,none⟩):=Zy (x:=x) (τ:=Pt b o) (op:=.box t x) (by simp[Xae]) hl;refine⟨(),.pointer (some ⟨w.heap.size,0,none⟩),w.drawn,[.pointer (some ⟨b,o,none⟩)],t,?_,λ_ _=>rfl,_,rfl,rfl⟩;simp[execOp,Instr.box,newVar,newRow,e1,XfC]
theorem FL{A:Nat->Prop}{x:Operand}{b:Nat}{τ:Ty}[hx:Has Γ x (Pt b 0)] [hb:HasB Ω b True (ZeN τ)] [T:TPtr P t] :
  OpY P B A Ω Γ ⟨dst,.load t x,ty,pos,aft,gd⟩ τ:=λa w _ _ hp hl=>by
 have e1:a.eval x=.pointer (some ⟨b,0,none⟩):=Zy (x:=x) (τ:=Pt b 0) (op:=.load t x) (by simp[Xae]) hl;obtain⟨cs,g1,v,rfl,g2⟩:=hp _ hb.h trivial;have:(loadVar t ⟨b,0,none⟩).run P w=.ok v w:=by
  unfold loadVar;rw[Xag,T.ag];simp only[Xab,Xbu,if_false];have hc:=g1.cell (i:=0) (by simp);rw[run_load,hc];rfl
 simp only[execOp,Xea,e1,Xbm,Xag,Xai,Xab,this];exact⟨Xdg _ _,g2⟩
theorem Zei{A:Nat->Prop}{α:Type}{i:Dat α}{y:α}{x:Operand}[hx:Has Γ x (Zf1 y)] [T:TPtr P t] :
  OpY P B A Ω Γ ⟨dst,.load t x,ty,pos,aft,gd⟩ (K3 y):=λa w _ _ hp hl=>by
 obtain⟨b,off,u,e1,h2,h3,h4⟩:=Zy (x:=x) (τ:=Zf1 y) (op:=.load t x) (by simp[Xae]) hl;have:(loadVar t ⟨b,off,none⟩).run P w=.ok u w:=by
  unfold loadVar;rw[Xag,T.ag];simp only[Xab,Xbu,if_false];rw[run_load,h3]
 simp only[execOp,Xea,e1,Xbm,Xag,Xai,Xab,this];exact⟨Xdg _ _,h4⟩
end hold
theorem Du{Ω:List Pe}{bs:List Nat}{τ:Ty}{b o:Nat}{pr:Prop}{C:Ct}{α:Type}{i:Dat α}{x:α}{upd:α->Ct}[k:AsPt τ b o] [hb:HasB Ω b pr C] (p:Pl C o α i x upd) (hp:pr) (hbs:b∈bs):WB Ω bs τ (K3 x):=λA w v hk h=>
 YU p hp hbs A w v hk (k.le A w v h)
theorem Zcc{Ω:List Pe}{bs:List Nat}{b b0 o:Nat}{pr:Prop}{C:Ct}{α:Type}{i:Dat α}{x:α}{upd:α->Ct}[h1:HasB Ω b True (ZeN (Pt b0 o))] [hb:HasB Ω b0 pr C] (p:Pl C o α i x upd) (hp:pr) (hbs:b∈bs) (hbs0:b0∈bs):WB Ω bs (Pt b 0) (Zf1 x):=λA w v hk h=>by
 obtain⟨cs,g1,u,rfl,g2⟩:=hk _ h1.h trivial;exact⟨b,0,u,h,.inr hbs,g1.cell (i:=0) (by simp),YU p hp hbs0 A w u hk g2⟩
theorem Uj{P:Program}{Ω:List Pe}{bs:List Nat}{f:FuncId}{τ1 σ1:Ty}{α β:Type}{i:Dat α}{j:Dat β}{g:α->Option β}[F:Fun P f] (k:WB Ω bs τ1 σ1)
  (h:∀{A:Nat->Prop}{x:α}{y:β} w v0 v1,(∀k,w.heap.size<=k->A k)->(D x).p A w v0->σ1.p A w v1->g x=some y->Calls P f #[v0,v1] w (Ret A w (D y))) :
  WB Ω bs (ZgI f τ1) (D (⟨g⟩:F1 P α β)):=λA w v hk ⟨c,e,hc⟩=>by
 subst e;exact⟨[_],⟨.func (.func f) #[] #[c],rfl,rfl,rfl,λA' w' u x y hkp hu hx hy=>Mz (by simpa using h w' u _ hu hx (σ1.keep hkp (k A w c hk hc)) hy)⟩,rfl⟩
theorem Qo{Ω:List Pe}{bs:List Nat}{τ:Ty}{b o n b' m c c':Nat}{pr pr':Prop}{α:Type}{i:Dat α}{xs:List (List α)}{ys:List α}[k:AsSv τ b pr o n] [hb:HasB Ω b pr (Xa4 (Row xs c) 1 (Sl b' pr' 0 m c'))] [hb':HasB Ω b' pr' (Row ys c')]
  (h0:o=0) (hn:n=xs.length) (hm:m=ys.length) (hi:1<xs.length) (hbs:b∈bs) (hbs':b'∈bs):WB Ω bs τ (D (xs.set 1 ys)):=λA w v hk h=>by
 subst h0;rcases k.le _ _ _ h with⟨hp,o',cc,rfl,hcc,ho⟩|⟨hp,h1,rfl⟩
 .obtain ⟨cs,g1,cs0,u,g2,g3,g4,rfl⟩:=hk _ hb.h hp;obtain rfl:=ho (by omega);obtain⟨r1,r2,r3,r4,r5⟩:=g2;have hu:(D ys).p (Zeo A bs) w u:=Kp (τ:=Sl b' pr' 0 m c') PlS.all hm hbs' A w u hk g4;have hu:=NM rfl hu;have hsz:Dat.sz (List α)=1:=rfl;rw[hsz,XdA]at r1;refine⟨[_],⟨some ⟨b,0,none⟩,cc,by rw[hn,XaA],by rw[XaA];omega,hcc.2,by rw[XaA];exact r4,λj hj=>?_⟩,rfl⟩;rw[XaA]at hj;refine⟨b,0,rfl,.inr hbs,?_⟩;have hrow:∀z,(cs0.set 1 u)[j]?=some z->KT w b (0+j*Dat.sz (List α)) [z]:=λz hz q hq=>by
   obtain rfl:q=0:=by simpa using hq
   have:=g1.cell (i:=j) (by simp;omega);rw[hsz,Xbg,XdA,Xbw,this];simp[Xad,hz]
  by_cases h1:j=1
  .subst h1;refine⟨[u],hrow u (by rw[Xbh (by omega)]),?_⟩;rw[Xdo];exact hu
  .have r6:=r5 j hj;rw[hsz,XdA]at r6;have e1:seg cs0 j 1=[cs0.getD j undef]:=by
    refine AV (by rw[ZA (by omega)];rfl) λq hq=>?_
    rw[ZA (by omega)]at hq;obtain rfl:q=0:=by omega
    rw[Al (by omega)];rfl
   rw[e1]at r6;refine⟨[cs0.getD j undef],hrow _ (by rw[XbZ (Xc3 h1),Xad,Xaf (by omega)];rfl),?_⟩;rw[Xdy (Xc3 h1)];exact Dat.mono Zeo.keep r6
 .omega
section lo
variable {P:Program}{B:Nat}{Ωs Ω:List Pe}{Γ:Env}{dst:Option Tmp}{ty:TypeId}{pos:String}{aft:Array Edge}{f:FuncId}{ts:Array TypeId}{α:Type}{i:Dat α}
theorem T8{os:Array Operand}{xs:List α}[F:Fun P f] [Fl:Flat α i] (bs:List Nat)
  (h:∀(A:Nat->Prop) (a:Act) w,(∀k,w.heap.size<=k->Zeo A bs k)->Pks A (Ωs++Ω) w->(∀t,.tmp t∈os.toList->(Γ t).p A w (a.tmps.getD t undef))->Calls P f (os.map a.eval) w (M7 (Zeo A bs) w [] (λg:Nat×Prop×Nat=>Sl g.1 g.2.1 0 xs.length g.2.2) λg=>[⟨g.1,g.2.1,Row xs g.2.2⟩])) :
  OpT P B Ωs Ω Γ ⟨dst,.call { callee:=.value (.func f),args:=os,argTypes:=ts },ty,pos,aft,none⟩ (λg:Nat×Prop×Nat=>Sl g.1 g.2.1 0 xs.length g.2.2) λg=>⟨g.1,g.2.1,Row xs g.2.2⟩::Ω:=by
 refine Xgr (Ωt:=[]) (Ω':=λg:Nat×Prop×Nat=>[⟨g.1,g.2.1,Row xs g.2.2⟩]) (List.Perm.refl _) ⟨rfl,λA0 a w hB hu ho ha hk hl=>?_⟩;rw[XaX]at ha hk hl;have hlt:∀j,Own (Ωs++Ω) j->j<w.heap.size:=λj hj=>hk.lt hj
 have hr:(execOp a.eval ⟨dst,.call { callee:=.value (.func f),args:=os,argTypes:=ts },ty,pos,aft,none⟩).run P w=.ok (.enter f (os.map a.eval)) w:=by
  have e1:a.eval (.func f)=.func (.func f) #[] #[]:=rfl;simp only[execOp,resolve,XbG,e1,Xag,Xai,Xab,invoke,F.h,Array.append_empty,Array.empty_append]
 rw[hr];have hc:=h (Pub A0 (Ωs++Ω)) a w (λk hk=>.inl (ZC.2 ⟨hu k hk,λhj=>by have:=hlt k hj;omega⟩)) hk (λt ht=>hl t (by
  simp only[Xae,XaE,Array.toList_append,Xar];exact .inr ht))
 refine hc.mono λe w' ⟨v,g,g1,g2⟩=>⟨v,g,g1,g2.st.mono hB (λ_ h=>h),λk hk=>?_,?_,g2.ty,λe he hp=>?_⟩
 .rcases g2.nw k hk with⟨e,he,_⟩|h
  .exact absurd he (by simp)
  .exact .inr h
 .refine XaH.2 ⟨ha,List.pairwise_singleton _ _,λx hx y hy h3 h4 h5=>?_⟩;rcases g2.nw y.b ⟨y,hy,h4,rfl⟩with⟨z,hz,_⟩|h6
  .exact absurd hz (by simp)
  .have:=hlt x.b ⟨x,hx,h3,rfl⟩;omega
 .obtain ⟨cs,q1,q2⟩:=g2.ks e he hp;refine⟨cs,q1,?_⟩;obtain rfl:=Xal.1 he;obtain⟨r1,r2,r3,r4,r5⟩:=q2;exact⟨r1,r2,r3,r4,λj hj=>Fl.h (r5 j hj)⟩
theorem Ym{A:Nat->Prop}:Pub A []=A:=by funext k;exact propext ⟨λh=>h.1,λh=>⟨h,λe he=>absurd he (by simp)⟩⟩
theorem Hz{x1 x2:Operand}{τ1 σ1 τ2 σ2:Ty}{xs:List α}[h1:Has Γ x1 τ1] [h2:Has Γ x2 τ2] [F:Fun P f] [Fl:Flat α i] (bs:List Nat) (k1:WB (Ωs++Ω) bs τ1 σ1) (k2:WB (Ωs++Ω) bs τ2 σ2)
  (h:∀{A:Nat->Prop} w v1 v2,(∀k,w.heap.size<=k->A k)->OwnIn A []->Gh []->Pks (Pub A []) [] w->σ1.p (Pub A []) w v1->σ2.p (Pub A []) w v2->Calls P f #[v1,v2] w (M7 A w [] (λg:Nat×Prop×Nat=>Sl g.1 g.2.1 0 xs.length g.2.2) λg=>[⟨g.1,g.2.1,Row xs g.2.2⟩])) :
  OpT P B Ωs Ω Γ ⟨dst,.call { callee:=.value (.func f),args:=#[x1,x2],argTypes:=ts },ty,pos,aft,none⟩ (λg:Nat×Prop×Nat=>Sl g.1 g.2.1 0 xs.length g.2.2) λg=>⟨g.1,g.2.1,Row xs g.2.2⟩::Ω:=
 T8 bs λA a w hu hp hl=>by
  rw[show(#[x1,x2].map a.eval)=#[a.eval x1,a.eval x2]by simp];refine h w _ _ hu ⟨λk ⟨e,he,_⟩=>absurd he (by simp)⟩ List.Pairwise.nil (λe he=>absurd he (by simp)) ?_ ?_
  .rw [Ym];exact k1 A w _ hp (h1.le a A w λt e=>hl t (by simp[e]))
  .rw [Ym];exact k2 A w _ hp (h2.le a A w λt e=>hl t (by simp[e]))
end lo
section b2
variable {P:Program}{B:Nat}{Ωs Ω:List Pe}{Γ:Env}{ty:TypeId}{pos:String}{aft:Array Edge}{α:Type}{i:Dat α}{t e:TypeId}{bt:Nat}{d:Tmp}
theorem Qn[S:TSl P t e][T:TEl P e (List α) Bv bt]{x0 x1:Operand}{τ:Ty}{xs:List α}{b m c:Nat}{pr:Prop}[h0:Has Γ x0 τ] [k0:ToD τ (List α) Bv xs] [h1:Has Γ x1 (Sl b pr 0 m c)] :
  OpT P B Ωs Ω Γ ⟨some d,.buildSlice t 2 #[(0,x0),(1,x1)],ty,pos,aft,none⟩ (λg:Nat×Unit=>Sl g.1 True 0 2 2) λg=>⟨g.1,True,Xa4 (Row [xs,[]] 2) 1 (Sl b pr 0 m c)⟩::Ω:=
 GB (C:=λ_=>Xa4 (Row [xs,[]] 2) 1 (Sl b pr 0 m c)) rfl λA a w _ _ hl=>by
  obtain⟨ti,z,hi1,hi2,hi3,hi4,hi5⟩:=T.h;have g0:=k0.le _ _ _ (h0.le a A w λt ht=>hl t (by simp[Xae,ht]));have g1:=h1.le a A w λt ht=>hl t (by simp[Xae,ht])
  have g0':=NM rfl g0;obtain⟨h3,h4⟩:=OneC.h (τ:=Sl b pr 0 m c) g1;have hc0:(a.eval x0).cells=#[a.eval x0]:=Dat.plain rfl g0';have hz:Dat.rd A w [.slice none 0 0] ([]:List α):=⟨none,0,rfl,Xau _,by unfold maxLen;omega,by unfold LG;simp,λi hi=>absurd hi (by simp)⟩;refine⟨(),.slice (some ⟨w.heap.size,0,none⟩) 2 2,w.drawn,[a.eval x0,a.eval x1],e,?_,λ_ _=>.inl ⟨trivial,⟨Xau _,by unfold maxLen;omega⟩,rfl⟩,[a.eval x0,.slice none 0 0],a.eval x1,?_,by simp,g1,rfl⟩
  .have hsz:Dat.sz (List α)=1:=rfl;have hzc:z.cells.size=1:=by rw[hi5];rfl
   simp only[execOp,Instr.buildSlice,Xag,run_underlying S.h,Xab,sizeOf,typeInfo,run_program,hi1,Xai,hi3];rw[if_neg (by rw[hsz];omega)];have hf:XbW (λi=>some (i*Dat.sz (List α),Dat.sz (List α))) ((Array.range (2*Dat.sz (List α))).map (z.cells[· % z.cells.size]!)) [(0,a.eval x0),(1,a.eval x1)]=some #[a.eval x0,a.eval x1]:=by
    have ha:∀w0 w1:Value,XbW (λi=>some (i*1,1)) #[w0,w1] [(0,a.eval x0),(1,a.eval x1)]=some #[a.eval x0,a.eval x1]:=λw0 w1=>by
     simp[XbW,hc0,h3]
    rw[hsz];have hr:(Array.range (2*1)).map (z.cells[· % z.cells.size]!)=#[z.cells[0%z.cells.size]!,z.cells[1%z.cells.size]!]:=by
     apply Array.ext';simp[Array.range_succ,List.range_succ]
    rw[hr];exact ha _ _
   rw[hsz]at hf;have h20:¬(2*1=0):=by decide
   simp only[Xai,Xab,hsz,if_neg h20,Xag,zeroValue,typeInfo,run_program,hi1,hi2,Xb0,Xbl,Xcy,hf];simp[newRow]
  .refine ⟨rfl,by simp,by unfold maxLen;omega,by simp[LG],λj hj=>?_⟩;simp only[XaP,XdB]at hj
   match j,hj with
   | 0,_=>exact g0'
   | 1,_=>exact hz
end b2
end
end Go.Proofs.YtkmojgfenlgchaaGreatDoor.Tr
