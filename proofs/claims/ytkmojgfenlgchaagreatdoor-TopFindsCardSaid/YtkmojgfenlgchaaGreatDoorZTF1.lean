/- What the proof leans on. Conditions: none. -/
import Derived.Test.YtkmojgfenlgchaaGreatDoorRows
import Derived.Test.YtkmojgfenlgchaaGreatDoorChecked
import Derived.Still
import Derived.Below
import Derived.WalkKit
import Derived.Laws.AppendOwn
import Derived.Laws.MakeOwn
import Derived.OrdersIn
import Derived.RangeFuncLeaves
import Derived.RangeFuncFrom
import Derived.Laws.Tables
import Derived.WalkSpells
import Derived.Laws.Small
import Derived.MapKept
import Derived.Laws.StructEq
import Derived.Lib.BytesEntry
import Derived.Laws.Externs
import Derived.Laws.Strings
import Derived.Laws.Strings2
import Derived.Laws.Cover3
import Derived.Lib.Bytealg
import Derived.Lib.Overlaps
import Derived.Lib.AppendZerosOnto
import Derived.SizedLaws
import Derived.ProofKit
import Derived.OpenShut
import Derived.Carry
import Derived.ChangeOld
import Derived.Deep.Slices
import Derived.Test.YtkmojgfenlgchaaGreatDoorTie
import Derived.Test.YtkmojgfenlgchaaGreatDoorCards
import Derived.LaidMore
import Derived.Lay
import Derived.SevenTiedAt
import Derived.Stop.Joined
set_option linter.all false
set_option linter.unusedSimpArgs false
set_option linter.unusedVariables false
set_option linter.unusedSectionVars false
namespace Go.Proofs.YtkmojgfenlgchaaGreatDoor.Tr
open Go
open BitVec renaming ofInt->Xbf,eq_of_toNat_eq->Xdh,allOnes_xor->XfP,allOnes->Xgp
open Bool renaming and_eq_true->Xaz,eq_iff_iff->Xbt,false_eq_true->Xbu
open Function renaming comp_def->XfJ
open Go.Addr renaming add->XeM
open Go.Builtin renaming zeroCells->XaT,firstCells->XbF,append_->Xco,lenOf->XcT,len_->Xev,clear_->XeQ,copy_->Xe3
open Go.Call renaming operands->XaE
open Go.Conv renaming bytesToString->Xf6
open Go.Deferred renaming ofValue->XbG
open Go.Exit renaming inBlock->Xcm
open Go.Instr renaming sliceBounds->Xa2,sliceBound->Xa8,sliceAt->Xbk,sureAddr->Xbm,fill->XbW,slice->XbY,loadAt->Xea,buildSlice->Xgc
open Go.IntKind renaming signed->XcI,bits->Xc6,wrap->Xd0
open Go.Next renaming value->Xdc
open Go.Op renaming operands->Xae,intBits->Xdj,binOp->XdM,intArith->XdW,shift->Xeo,intDiv->XgA,unary->XgO,makeSlice->Xg1
open Go.Oper renaming semAt_eq->Xdx,looksAt->XeJ,uponIn->XfZ,apart_spec->Xgq
open Go.Region renaming wanted->Xa3,ready->Xbi,Mode->XbC,binds->XbJ,lexB->XbV,lexFrom->Xcv,free_spec->XfX
open Go.Result renaming andThen_ok->Xab,ok->Xdi
open Go.Sem renaming run_bind->Xag,run_pure->Xai
open Go.Value renaming int->XbR
open Go.World renaming cell?->Xfy
open Int renaming le_refl->XaJ,natCast_mul->XbQ,natCast_inj->XcL,fdiv_eq_ediv_of_nonneg->XcR,natCast_emod->Xc1,pow_nonneg->Xds,emod_lt_of_pos->XeC,natCast_pow->XeZ,emod_nonneg->Xe0,tmod_eq_emod_of_nonneg->Xfb
open List renaming replicate->Xac,getD_eq_getElem?_getD->Xad,getElem?_eq_getElem->Xaf,mem_singleton->Xal,nil_append->Xam,mem_append->Xar,getElem?_eq_some_iff->Xav,mem_cons_of_mem->Xaw,mem_cons_self->Xay,length_set->XaA,take_of_length_le->XaB,length_append->XaD,pairwise_append->XaH,eq_nil_of_length_eq_zero->XaI,length_replicate->XaK,mem_append_right->XaL,append_assoc->XaM,pairwise_cons->XaO,length_cons->XaP,getElem_of_mem->XaQ,append_nil->XaX,mem_cons->Xa1,length_take->Xa5,drop_of_length_le->Xa7,range->Xbe,getElem?_set_self->Xbh,map_cons->Xbl,mem_append_left->Xbr,getElem_replicate->Xbs,getElem?_append_right->XbK,length_drop->XbP,getElem_append_left->XbT,getElem?_set_ne->XbZ,map_toArray->Xb0,getElem_take->Xb6,getElem_append_right->Xca,pairwise_singleton->Xcx,map_nil->Xcy,range'_succ->XcE,perm_append_comm->XcO,getElem?_append_left->XcW,take_zero->Xdk,getElem?_drop->XdP,drop_drop->XdR,getElem_drop->XdY,mapM_cons->Xej,getElem?_toArray->Xek,foldl_cons->Xel,map_map->XeL,getElem?_take_of_lt->Xfk,zipIdx_cons->Xgj
open Nat renaming mul_le_mul_right->Xah,le_refl->Xau,succ_mul->XaF,le_trans->XaG,lt_of_lt_of_le->XaU,min_eq_left->XaY,blt->XaZ,add_mul->Xa6,mul_comm->Xbb,lt_or_ge->Xbd,zero_add->Xbg,ble->Xbn,add_zero->Xbw,div_eq_of_lt->Xby,eq_zero_or_pos->XbB,add_assoc->XbO,add_comm->Xb1,pow_add->Xb8,le_of_ble_eq_true->Xcb,mod_eq_of_lt->Xcd,pow_le_pow_right->Xcg,min_eq_right->Xcn,zero_le->Xcq,mul_assoc->Xcr,le_total->XcV,zero_mul->Xc7,one_pos->Xdd,mul_one->XdA,lt_of_le_of_lt->XdI,div_le_self->Xed,div_lt_of_lt_mul->Xey,mul_mod_left->XeN,div_add_mod->Xfi,le_mul_of_pos_right->Xft,mul_add_mod->XgB,mod_lt->XgC,min_le_left->XgD,sub_zero->XgU
open Ne renaming symm->Xc3
open OfNat renaming ofNat->Xee
open Option renaming map_some->Xbj,map_none->XbI,bind_some->XfY
open UInt16 renaming ofNat->Xcj,toNat_ofNat_of_lt'->XdF,ofInt->Xew,toNat_ofNat'->XfF,toNat_inj->XfW
open UInt32 renaming ofNat->XcC,toNat_ofNat_of_lt'->XeX
open UInt64 renaming ofNat->Xap,lt_iff_toNat_lt->Xci,ofInt->Xcp,toNat_inj->XcN,toNat_ofNat_of_lt'->XcP,toNat_ofNat'->Xdv
open UInt8 renaming ofInt->Xao,ofNat->XaN,toNat_inj->Xcs,lt_iff_toNat_lt->Xdm,toNat_ofNat_of_lt'->XdT,toNat_ofNat'->XfQ,toBitVec_not->XfR
set_option maxRecDepth 100000
theorem ZZi{α:Type}{a b:α} (h:some a=some b):a=b:=Option.some.inj h
theorem ZZs{α:Type}{a b:α} (h:some a=some b):b=a:=(Option.some.inj h).symm
section
open Go Go.RowKit
def DQ:Option Obj->Option Obj->Prop
 | some (.cells c e f),o'=>∃f',o'=some (.cells c e f')/\(f'=f\/(c.size<=f'.1/\(f=(0,0)\/c.size<=f.1)))
 | o,o'=>o'=o
theorem DQ.refl(o:Option Obj):DQ o o:=by
 cases o with
 | none=>rfl
 | some o=>cases o<;>first|rfl|exact⟨_,rfl,.inl rfl⟩
theorem DQ.trans{a b c:Option Obj}(h:DQ a b)(k:DQ b c):DQ a c:=by
 cases a with
 | none=>cases h;exact k
 | some o=>
  cases o with
  | cells x e f=>
   obtain⟨f1,rfl,h1⟩:=h;obtain⟨f2,rfl,h2⟩:=k;refine⟨f2,rfl,?_⟩;rcases h1 with rfl|⟨h1,h3⟩
   .exact h2
   .rcases h2 with rfl|⟨h2,_⟩
    .exact .inr ⟨h1,h3⟩
    .exact .inr ⟨h2,h3⟩
  | _=>cases h;exact k
structure KP(B:Nat)(w w':World):Prop where
 os:w'.os=w.os
 tape:w'.tape=w.tape
 output:w'.output=w.output
 size:w.heap.size<=w'.heap.size
 old:∀k,k<B->w'.heap[k]?=w.heap[k]?
 cells:∀k,k<w.heap.size->DQ (w.heap[k]?) (w'.heap[k]?)
theorem KP.refl(B:Nat)(w:World):KP B w w:=⟨rfl,rfl,rfl,Xau _,λ_ _=>rfl,λ_ _=>DQ.refl _⟩
theorem KP.trans{B:Nat}{a b c:World} (h:KP B a b) (k:KP B b c):KP B a c:=
 ⟨k.os.trans h.os,k.tape.trans h.tape,k.output.trans h.output,XaG h.size k.size,λi hi=>(k.old i hi).trans (h.old i hi),
  λi hi=>(h.cells i hi).trans (k.cells i (XaU hi h.size))⟩
theorem KP.mono{B B':Nat}{w w':World} (h:KP B w w') (hB:B'<=B):KP B' w w':=
 ⟨h.os,h.tape,h.output,h.size,λk hk=>h.old k (XaU hk hB),h.cells⟩
theorem KP.below{w w':World}(h:KP w.heap.size w w'):Below w.heap.size w w':=
 ⟨h.os,h.tape,h.output,h.size,h.old⟩
theorem KP.drawn{B:Nat}{w:World} (n:Nat):KP B w { w with drawn:=n }:=⟨rfl,rfl,rfl,Xau _,λ_ _=>rfl,λ_ _=>DQ.refl _⟩
theorem KP.push{B:Nat}{w:World} (o:Obj) (hB:B<=w.heap.size):KP B w { w with heap:=w.heap.push o }:=by
 have hk:∀k,k<w.heap.size->(w.heap.push o)[k]?=w.heap[k]?:=λk hk=>by rw[Array.getElem?_push,if_neg (by omega)]
 exact⟨rfl,rfl,rfl,by simp,λk h=>hk k (by omega),λk h=>by rw[hk k h];exact DQ.refl _⟩
theorem Q1{w:World}{a:Addr}{v:Value} (hc:w.cell? a=some v):a.block<w.heap.size:=by
 unfold Xfy at hc;rcases Xbd a.block w.heap.size with h1|h1
 .exact h1
 .rw [Array.getElem?_eq_none h1]at hc;cases hc
def KT(w:World)(b off:Nat)(cs:List Value):Prop:=∀j,j<cs.length->w.cell? ⟨b,off+j,none⟩=some (cs.getD j undef)
structure HD(A A':Nat->Prop)(w w':World):Prop where
 size:w.heap.size<=w'.heap.size
 h:∀k,k<w.heap.size->A k->A' k/\DQ (w.heap[k]?) (w'.heap[k]?)
theorem HD.refl(A:Nat->Prop)(w:World):HD A A w w:=⟨Xau _,λk _ ha=>⟨ha,DQ.refl _⟩⟩
theorem HD.trans{A A' A'':Nat->Prop}{w w' w'':World} (h:HD A A' w w') (k:HD A' A'' w' w''):HD A A'' w w'':=
 ⟨XaG h.size k.size,λi hi ha=>⟨(k.h i (XaU hi h.size) (h.h i hi ha).1).1,(h.h i hi ha).2.trans (k.h i (XaU hi h.size) (h.h i hi ha).1).2⟩⟩
theorem HD.grow{A:Nat->Prop}{B:Nat}{w w':World} (h:KP B w w'):HD A A w w':=⟨h.size,λk hk ha=>⟨ha,h.cells k hk⟩⟩
theorem HD.mono{A A':Nat->Prop}{w:World} (h:∀k,k<w.heap.size->A k->A' k):HD A A' w w:=⟨Xau _,λk hk ha=>⟨h k hk ha,DQ.refl _⟩⟩
theorem HD.cell{A A':Nat->Prop}{w w':World} (h:HD A A' w w') {a:Addr}{v:Value} (ha:A a.block) (hc:w.cell? a=some v):w'.cell? a=some v:=by
 have hs:=(h.h a.block (Q1 hc) ha).2;unfold Xfy at *;generalize w.heap[a.block]?=o at *;cases o with
 | none=>cases hc
 | some o=>
  cases o with
  | cells c e f=>obtain⟨f',h',-⟩:=hs;rw[h'];exact hc
  | _=>cases hc
theorem HD.row{A A':Nat->Prop}{w w':World} (h:HD A A' w w') {b off:Nat}{cs:List Value} (ha:A b) (hc:KT w b off cs):KT w' b off cs:=
 λj hj=>h.cell (a:=⟨b,off+j,none⟩) ha (hc j hj)
def seg(cs:List Value)(o n:Nat):List Value:=(cs.drop o).take n
def Ab(cs:List Value)(o:Nat)(vs:List Value):List Value:=cs.take o++vs++cs.drop (o+vs.length)
theorem ZA{cs:List Value}{o n:Nat} (h:o+n<=cs.length):(seg cs o n).length=n:=by simp[seg];omega
theorem Al{cs:List Value}{o n j:Nat} (hj:j<n):(seg cs o n).getD j undef=cs.getD (o+j) undef:=by
 simp[seg,Xad,hj]
theorem Zp{cs:List Value}{o:Nat}{vs:List Value} (h:o+vs.length<=cs.length):(Ab cs o vs).length=cs.length:=by simp[Ab];omega
theorem ZT{cs:List Value}{o j:Nat}{vs:List Value} (h:o+vs.length<=cs.length) :
  (Ab cs o vs).getD j undef=if o<=j/\j<o+vs.length then vs.getD (j-o) undef else cs.getD j undef:=by
 simp only[Ab,Xad,XaM];rcases Xbd j o with h1|h1
 .rw [if_neg (by omega),XcW (by simp;omega),Xfk h1]
 .rw [XbK (by simp;omega)];have e1:(cs.take o).length=o:=by simp;omega
  rw[e1];rcases Xbd j (o+vs.length)with h2|h2
  .rw [if_pos ⟨h1,h2⟩,XcW (by omega)]
  .rw [if_neg (by omega),XbK (by omega),XdP,show o+vs.length+(j-o-vs.length)=j by omega]
theorem AV{a b:List Value}(hl:a.length=b.length)(h:∀j,j<a.length->a.getD j undef=b.getD j undef):a=b:=by
 apply List.ext_getElem hl;intro j h1 h2;have:=h j h1;simpa[Xad,Xaf h1,Xaf h2]using this
theorem B1{cs:List Value}{o:Nat}{vs:List Value} (h:o+vs.length<=cs.length):seg (Ab cs o vs) o vs.length=vs:=by
 refine AV (ZA (by rw[Zp h];exact h)) λj hj=>?_
 rw[ZA (by rw[Zp h];exact h)]at hj;rw[Al hj,ZT h,if_pos (by omega)];congr 1;omega
theorem AM{cs:List Value}{o p n:Nat}{vs:List Value} (h:o+vs.length<=cs.length) (hp:p+n<=cs.length) (hd:p+n<=o\/o+vs.length<=p):seg (Ab cs o vs) p n=seg cs p n:=by
 refine AV (by rw[ZA (by rw[Zp h];exact hp),ZA hp]) λj hj=>?_
 rw[ZA (by rw[Zp h];exact hp)]at hj;rw[Al hj,Al hj,ZT h,if_neg (by omega)]
def Blk(w:World)(b:Nat)(cs:List Value):Prop:=∃e f,w.heap[b]?=some (.cells cs.toArray e f)/\(f=(0,0)\/cs.length<=f.1)
theorem Blk.lt{w:World}{b:Nat}{cs:List Value} (h:Blk w b cs):b<w.heap.size:=by
 obtain⟨e,f,h,-⟩:=h;rcases Xbd b w.heap.size with h1|h1
 .exact h1
 .rw [Array.getElem?_eq_none h1]at h;cases h
theorem Blk.cell{w:World}{b:Nat}{cs:List Value} (h:Blk w b cs) {i:Nat} (hi:i<cs.length):w.cell? ⟨b,i,none⟩=some (cs.getD i undef):=by
 obtain⟨e,f,h,-⟩:=h;simp[Xfy,h,Xad,Xaf hi]
theorem Blk.row{w:World}{b:Nat}{cs:List Value} (h:Blk w b cs) {o n:Nat} (hn:o+n<=cs.length):KT w b o (seg cs o n):=λj hj=>by
 rw[ZA hn]at hj;rw[h.cell (by omega),Al hj]
theorem Blk.free{w:World}{b:Nat}{cs:List Value} (h:Blk w b cs) {i:Nat} (hi:i<cs.length):w.frozen? ⟨b,i,none⟩=false:=by
 obtain⟨e,f,h,hf⟩:=h;unfold World.frozen?;simp only[h];rcases hf with rfl|hf
 .simp
 .simp;omega
theorem Blk.same{w w':World}{b:Nat}{cs:List Value} (h2:DQ (w.heap[b]?) (w'.heap[b]?)) (h:Blk w b cs):Blk w' b cs:=by
 obtain⟨e,f,h,hf⟩:=h;rw[h]at h2;obtain⟨f',h3,h4⟩:=h2;refine⟨e,f',h3,?_⟩;rcases h4 with rfl|⟨h4,_⟩
 .exact hf
 .exact .inr (by simpa using h4)
theorem Blk.keep{A A':Nat->Prop}{w w':World}{b:Nat}{cs:List Value} (k:HD A A' w w') (ha:A b) (h:Blk w b cs):Blk w' b cs:=h.same (k.h b h.lt ha).2
theorem Blk.new{w:World}{b:Nat}{cs:List Value}{e:TypeId} (hb:b=w.heap.size):Blk (w.alloc (.cells cs.toArray e)) b cs:=by
 subst hb;exact⟨e,(0,0),(heap_alloc_new w _),.inl rfl⟩
structure Ty where
 p:(Nat->Prop)->World->Value->Prop
 keep:∀{A A' w w' v},HD A A' w w'->p A w v->p A' w' v
def Ty.any:Ty:=⟨λ_ _ _=>True,λ_ h=>h⟩
theorem Ty.st(τ:Ty){A:Nat->Prop}{B:Nat}{w w':World}{v:Value} (h:KP B w w') (k:τ.p A w v):τ.p A w' v:=τ.keep (HD.grow h) k
structure Ct where
 p:(Nat->Prop)->World->List Value->Prop
 keep:∀{A A' w w' cs},HD A A' w w'->p A w cs->p A' w' cs
structure Pe where
 b:Nat
 pr:Prop
 C:Ct
abbrev Env:=Tmp->Ty
def Env.set(Γ:Env)(d:Tmp)(τ:Ty):Env:=λt=>if t=d then τ else Γ t
def Env.put(Γ:Env):Option Tmp->Ty->Env
 | some d,τ=>Γ.set d τ
 | none,_=>Γ
def Env.nil:Env:=λ_=>Ty.any
def Pub(A:Nat->Prop)(Ω:List Pe)(k:Nat):Prop:=A k/\∀e∈Ω,e.pr->e.b≠k
def Pks(A:Nat->Prop)(Ω:List Pe)(w:World):Prop:=∀e∈Ω,e.pr->∃cs,Blk w e.b cs/\e.C.p A w cs
def Gh(Ω:List Pe):Prop:=Ω.Pairwise λe f=>e.pr->f.pr->e.b≠f.b
def Own(Ω:List Pe)(k:Nat):Prop:=∃e∈Ω,e.pr/\e.b=k
theorem ZC{A:Nat->Prop}{Ω:List Pe}{k:Nat}:Pub A Ω k↔A k/\¬Own Ω k:=by
 unfold Pub Own
 constructor
 .rintro ⟨h1,h2⟩;exact⟨h1,λ⟨e,he,hp,hb⟩=>h2 e he hp hb⟩
 .rintro ⟨h1,h2⟩;exact⟨h1,λe he hp hb=>h2 ⟨e,he,hp,hb⟩⟩
structure Ref where
 w:World
 A:Nat->Prop
 S:Nat->Prop
 up:∀k,w.heap.size<=k->A k
 /-- the loop in whose round this is,and the deferred calls -/
 ρ:Option Nat
 ds:List Deferred
structure Mut(S:Nat->Prop)(w w':World):Prop where
 os:w'.os=w.os
 tape:w'.tape=w.tape
 output:w'.output=w.output
 size:w.heap.size<=w'.heap.size
 same:∀k,k<w.heap.size->¬S k->w'.heap[k]?=w.heap[k]?
theorem Mut.refl(S:Nat->Prop)(w:World):Mut S w w:=⟨rfl,rfl,rfl,Xau _,λ_ _ _=>rfl⟩
theorem Mut.trans{S:Nat->Prop}{a b c:World} (h:Mut S a b) (k:Mut S b c):Mut S a c:=
 ⟨k.os.trans h.os,k.tape.trans h.tape,k.output.trans h.output,XaG h.size k.size,λi hi hs=>(k.same i (XaU hi h.size) hs).trans (h.same i hi hs)⟩
theorem Mut.mono{S T:Nat->Prop}{w w':World} (h:Mut S w w') (hs:∀k,S k->T k):Mut T w w':=⟨h.os,h.tape,h.output,h.size,λk hk hn=>h.same k hk λx=>hn (hs k x)⟩
theorem Mut.keep{S A:Nat->Prop}{w w':World} (h:Mut S w w') (hA:∀k,A k->¬S k):HD A A w w':=⟨h.size,λk hk ha=>⟨ha,by rw[h.same k hk (hA k ha)];exact DQ.refl _⟩⟩
structure Stp(B:Nat)(S:Nat->Prop)(w w':World):Prop where
 os:w'.os=w.os
 tape:w'.tape=w.tape
 output:w'.output=w.output
 size:w.heap.size<=w'.heap.size
 old:∀k,k<B->¬S k->w'.heap[k]?=w.heap[k]?
 cells:∀k,k<w.heap.size->¬S k->DQ (w.heap[k]?) (w'.heap[k]?)
theorem Stp.refl(B:Nat)(S:Nat->Prop)(w:World):Stp B S w w:=⟨rfl,rfl,rfl,Xau _,λ_ _ _=>rfl,λ_ _ _=>DQ.refl _⟩
theorem Stp.mono{B B':Nat}{S S':Nat->Prop}{w w':World} (h:Stp B S w w') (hB:B'<=B) (hS:∀k,S k->S' k):Stp B' S' w w':=
 ⟨h.os,h.tape,h.output,h.size,λk hk hs=>h.old k (XaU hk hB) λx=>hs (hS k x),λk hk hs=>h.cells k hk λx=>hs (hS k x)⟩
theorem Er{B:Nat}{S:Nat->Prop}{w w':World} (h:KP B w w'):Stp B S w w':=⟨h.os,h.tape,h.output,h.size,λk hk _=>h.old k hk,λk hk _=>h.cells k hk⟩
theorem M6{B:Nat}{S:Nat->Prop}{w w':World} (h:Mut S w w') (hB:B<=w.heap.size):Stp B S w w':=
 ⟨h.os,h.tape,h.output,h.size,λk hk hs=>h.same k (XaU hk hB) hs,λk hk hs=>by rw[h.same k hk hs];exact DQ.refl _⟩
structure Pok(r:Ref)(Ω:List Pe)(w:World):Prop where
 own:∀k,Own Ω k->r.w.heap.size<=k\/r.S k
 ks:Pks (Pub r.A Ω) Ω w
 ap:Gh Ω
theorem Pks.keep{A A':Nat->Prop}{Ω:List Pe}{w w':World} (h:Pks A Ω w) (k:HD A A' w w') (hc:∀j,j<w.heap.size->Own Ω j->DQ (w.heap[j]?) (w'.heap[j]?)):Pks A' Ω w':=λe he hp=>by
 obtain⟨cs,h1,h2⟩:=h e he hp;exact⟨cs,h1.same (hc _ h1.lt ⟨e,he,hp,rfl⟩),e.C.keep k h2⟩
theorem Pok.grow{r:Ref}{Ω:List Pe}{B:Nat}{w w':World} (h:Pok r Ω w) (g:KP B w w'):Pok r Ω w':=⟨h.own,h.ks.keep (HD.grow g) λj hj _=>g.cells j hj,h.ap⟩
theorem Pks.lt{A:Nat->Prop}{Ω:List Pe}{w:World} (h:Pks A Ω w) {k:Nat} (hk:Own Ω k):k<w.heap.size:=by
 obtain⟨e,he,hp,rfl⟩:=hk;obtain⟨cs,h1,-⟩:=h e he hp;exact h1.lt
theorem Pok.up{r:Ref}{Ω:List Pe}{w:World} (h:Pok r Ω w) (hs:r.w.heap.size<=w.heap.size):∀k,w.heap.size<=k->Pub r.A Ω k:=λk hk=>
 ZC.2 ⟨r.up k (XaG hs hk),λho=>by have:=h.ks.lt ho;omega⟩
structure Stt(r:Ref)(n:Nat)(Γ:Env)(Ω:List Pe)(a:Act)(w:World):Prop where
 sz:a.tmps.size=n
 df:a.defers=r.ds
 mu:Mut r.S r.w w
 ty:∀t,(Γ t).p (Pub r.A Ω) w (a.tmps.getD t undef)
 pv:Pok r Ω w
theorem Mut.stp{S T:Nat->Prop}{w0 w w':World} (h:Mut S w0 w) (k:Stp w0.heap.size T w w') (hT:∀j,T j->w0.heap.size<=j\/S j):Mut S w0 w':=
 ⟨k.os.trans h.os,k.tape.trans h.tape,k.output.trans h.output,XaG h.size k.size,λj hj hs=>by
  rw[k.old j hj λx=>by rcases hT j x with y|y;omega;exact hs y];exact h.same j hj hs⟩
structure Aft(B:Nat)(A0:Nat->Prop)(Ωs Ωt:List Pe)(τ:Ty)(Ωt':List Pe)(w w':World)(v:Value):Prop where
 st:Stp B (Own Ωt) w w'
 nw:∀k,Own Ωt' k->Own Ωt k\/w.heap.size<=k
 ap:Gh (Ωs++Ωt')
 ty:τ.p (Pub A0 (Ωs++Ωt')) w' v
 ks:Pks (Pub A0 (Ωs++Ωt')) Ωt' w'
section
variable (P:Program)(B:Nat)
def IP(A:Nat->Prop)(w:World)(τ:Ty):Result Next->Prop
 | .ok (.value v) w'=>KP B w w'/\τ.p A w' v
 | .ok .skip w'=>KP B w w'/\τ.p A w' undef
 | .ok (.enter f args) w'=>KP B w w'/\Calls P f args w' λe w''=>∃v,e=.returned v/\KP B w' w''/\τ.p A w'' v
 | _=>False
def Ge(A0:Nat->Prop)(Ωs Ωt:List Pe){ν:Type}(τ:ν->Ty)(Ωt':ν->List Pe)(w:World):Result Next->Prop
 | .ok (.value v) w'=>∃g,Aft B A0 Ωs Ωt (τ g) (Ωt' g) w w' v
 | .ok .skip w'=>∃g,Aft B A0 Ωs Ωt (τ g) (Ωt' g) w w' undef
 | .ok (.enter f args) w1=>Calls P f args w1 λe w'=>∃v g,e=.returned v/\Aft B A0 Ωs Ωt (τ g) (Ωt' g) w w' v
 | _=>False
def OpY(A:Nat->Prop)(Ω:List Pe)(Γ:Env)(o:Oper)(τ:Ty):Prop:=
 ∀(a:Act) (w:World),B<=w.heap.size->(∀k,w.heap.size<=k->A k)->Pks A Ω w->(∀t,.tmp t∈o.op.operands.toList->(Γ t).p A w (a.tmps.getD t undef))->IP P B A w τ ((execOp a.eval o).run P w)
def OpG(ops:Array Oper)(Ω:List Pe)(Γ:Env)(o:Oper)(τ:Ty):Prop:=
 ∀(A:Nat->Prop) (a:Act) (w:World),B<=w.heap.size->(∀k,w.heap.size<=k->A k)->Pks A Ω w->(∀t∈o.looksAt ops,(Γ t).p A w (a.tmps.getD t undef))->
  if Xa3 o (yielded ops a.tmps)then IP P B A w τ ((execOp a.eval o).run P w)else τ.p A w undef
def OpT(Ωs Ωt:List Pe)(Γ:Env)(o:Oper){ν:Type}(τ:ν->Ty)(Ωt':ν->List Pe):Prop:=
 o.guard=none/\∀(A0:Nat->Prop) (a:Act) (w:World),B<=w.heap.size->(∀k,w.heap.size<=k->A0 k)->(∀k,Own Ωt k->A0 k)->Gh (Ωs++Ωt)->Pks (Pub A0 (Ωs++Ωt)) (Ωs++Ωt) w->
  (∀t,.tmp t∈o.op.operands.toList->(Γ t).p (Pub A0 (Ωs++Ωt)) w (a.tmps.getD t undef))->Ge P B A0 Ωs Ωt τ Ωt' w ((execOp a.eval o).run P w)
end
def Env.or(Θ Γ:Env):Env:=λt=>⟨λA w v=>(Θ t).p A w v/\(Γ t).p A w v,λk h=>⟨(Θ t).keep k h.1,(Γ t).keep k h.2⟩⟩
structure Fam where
 ν:Type
 Θ:ν->Env
 Ω:ν->List Pe
 tl:List Tmp
 off:∀g t,t∉tl->Θ g t=Ty.any
def Fam.next(F:Fam)(d:Option Tmp){μ:F.ν->Type}(τ:(g:F.ν)->μ g->Ty)(Ω':(g:F.ν)->μ g->List Pe):Fam where
 ν:=(g:F.ν)×μ g
 Θ:=λg=>(F.Θ g.1).put d (τ g.1 g.2)
 Ω:=λg=>Ω' g.1 g.2
 tl:=d.toList++F.tl
 off g t ht:=by
  have h1:t∉F.tl:=λh=>ht (XaL _ h)
  have h2:d≠some t:=λh=>ht (Xbr _ (by rw[h];simp))
  cases d with
  | none=>exact F.off _ _ h1
  | some d=>
   have hne:t≠d:=λe=>h2 (by rw[e])
   simp only[Env.put,Env.set,hne,if_false];exact F.off _ _ h1
section
variable (P:Program)(B:Nat)(Ωs:List Pe)(ops:Array Oper)(n:Nat)(ms:List Nat)
def Zdg(o:Oper):Oper:={ o with guard:=none }
def OpF(Γ:Env)(F:Fam)(o:Oper){μ:F.ν->Type}(τ:(g:F.ν)->μ g->Ty)(Ω':(g:F.ν)->μ g->List Pe):Prop:=
 ∀g,(∀(A:Nat->Prop) (a:Act) (w:World),(∀t∈o.looksAt ops,(Γ t).p A w (a.tmps.getD t undef))->Xa3 o (yielded ops a.tmps)=true)/\OpT P B Ωs (F.Ω g) (Env.or (F.Θ g) Γ) (Zdg o) (τ g) (Ω' g)
def TRw:Nat->List Oper->Env->Fam->(Env->Fam->Prop)->Prop
  | _,[],Γ,F,K=>K Γ F
  | k,o::rest,Γ,F,K=>(∀t,o.dst=some t->t<n)/\
      ((k∉ms/\(∀t,o.dst=some t->t∉F.tl)/\∃τ,OpG P B ops Ωs Γ o τ/\TRw (k+1) rest (Γ.put o.dst τ) F K)\/
       (k∈ms/\∃(μ:F.ν->Type) (τ:(g:F.ν)->μ g->Ty) (Ω':(g:F.ν)->μ g->List Pe),OpF P B Ωs ops Γ F o τ Ω'/\TRw (k+1) rest (Γ.put o.dst Ty.any) (F.next o.dst τ Ω') K))
def tOp(i:Nat)(K:Env->Fam->Prop)(Γ:Env)(F:Fam):Prop:=
  match ops[i]? with
  | none=>K Γ F
  | some o=>(∀t,o.dst=some t->t<n)/\
      ((i∉ms/\(∀t,o.dst=some t->t∉F.tl)/\∃τ,OpG P B ops Ωs Γ o τ/\K (Γ.put o.dst τ) F)\/
       (i∈ms/\∃(μ:F.ν->Type) (τ:(g:F.ν)->μ g->Ty) (Ω':(g:F.ν)->μ g->List Pe),OpF P B Ωs ops Γ F o τ Ω'/\K (Γ.put o.dst Ty.any) (F.next o.dst τ Ω')))
def Zed(md:XbC)(K:Env->Fam->Prop):Nat->Array Bool->Env->Fam->Prop
 | 0,listed,Γ,F=>Xbi md ops listed=[]/\K Γ F
 | fuel+1,listed,Γ,F=>
  (Xbi md ops listed=[]->K Γ F)/\
  ∀i∈Xbi md ops listed,tOp P B Ωs ops n ms i (Zed md K fuel (listed.setIfInBounds i true)) Γ F
end
section any
variable {P:Program}{B:Nat}{Ωs:List Pe}{ops:Array Oper}{n:Nat}{ms:List Nat}{md:XbC}
theorem OpG.congr{Γ Γ':Env}{o:Oper}{τ:Ty} (h:OpG P B ops Ωs Γ o τ) (he:∀t∈o.looksAt ops,Γ' t=Γ t):OpG P B ops Ωs Γ' o τ:=
 λA a w hB hu hp hl=>h A a w hB hu hp λt ht=>by have:=hl t ht;rwa [he t ht]at this
theorem IC{o:Oper}{t:Tmp} (h:.tmp t∈o.op.operands.toList):t∈o.looksAt ops:=by
 unfold XeJ;refine Xar.2 (.inl ?_);exact List.mem_filterMap.2 ⟨.tmp t,h,rfl⟩
theorem Zc2{Γ:Env}{F:Fam}{o:Oper}{μ:F.ν->Type}{τ:(g:F.ν)->μ g->Ty}{Ω':(g:F.ν)->μ g->List Pe} (h:∀g,OpT P B Ωs (F.Ω g) (Env.or (F.Θ g) Γ) o (τ g) (Ω' g)):OpF P B Ωs ops Γ F o τ Ω':=
 λg=>⟨λA a w _=>by simp[Xa3,(h g).1],by
  have e:Zdg o=o:=by
   have h1:=(h g).1;cases o;simp only at h1;subst h1;rfl
  rw[e];exact h g⟩
theorem V5(e:Operand->Value)(o:Oper):execOp e (Zdg o)=execOp e o:=by cases o;rfl
theorem OpF.congr{Γ Γ':Env}{F:Fam}{o:Oper}{μ:F.ν->Type}{τ:(g:F.ν)->μ g->Ty}{Ω':(g:F.ν)->μ g->List Pe} (h:OpF P B Ωs ops Γ F o τ Ω') (he:∀t∈o.looksAt ops,Γ' t=Γ t):OpF P B Ωs ops Γ' F o τ Ω':=
 λg=>⟨λA a w hl=>(h g).1 A a w λt ht=>by have:=hl t ht;rwa [he t ht]at this,(h g).2.1,λA0 a w hB hu ho ha hp hl=>(h g).2.2 A0 a w hB hu ho ha hp λt ht=>by
  have h2:=hl t ht;exact⟨h2.1,by have:=h2.2;rwa [he t (IC ht)]at this⟩⟩
theorem Uo{i:Nat}{Γ:Env}{F:Fam}{K K':Env->Fam->Prop} (h:∀Γ F,K Γ F->K' Γ F) (hh:tOp P B Ωs ops n ms i K Γ F):tOp P B Ωs ops n ms i K' Γ F:=by
 unfold tOp at *
 split
 .rename_i ho;simp only[ho]at hh;exact h _ _ hh
 .rename_i o ho
  simp only[ho]at hh;obtain⟨h1,hh⟩:=hh;refine⟨h1,?_⟩;rcases hh with⟨h2,h2',τ,h3,h4⟩|⟨h2,μ,τ,Ω',h3,h4⟩
  .exact .inl ⟨h2,h2',τ,h3,h _ _ h4⟩
  .exact .inr ⟨h2,μ,τ,Ω',h3,h _ _ h4⟩
theorem HX(Γ:Env){x y:Option Tmp}(τ σ:Ty)(h:∀d,x=some d->y≠some d):(Γ.put x τ).put y σ=(Γ.put y σ).put x τ:=by
 cases x with
 | none=>rfl
 | some d=>
  cases y with
  | none=>rfl
  | some e=>
   have hne:d≠e:=λhe=>h d rfl (he▸rfl)
   funext t
   simp only[Env.put,Env.set]
   by_cases h1:t=e
   .subst h1;simp[Xc3 hne]
   .simp [h1]
theorem CJ(Γ:Env){x:Option Tmp}(τ:Ty){t:Tmp}(h:x≠some t):Γ.put x τ t=Γ t:=by
 cases x with
 | none=>rfl
 | some d=>simp only[Env.put,Env.set];rw[if_neg (λe=>h (by rw[e]))]
theorem Zam{j:Nat}{oi oj:Oper}{τi:Ty} (hj:ops[j]?=some oj) (hap:oi.apart ops oj=true) {K:Env->Fam->Prop}{Γ:Env}{F:Fam}
  (hoff:∀t,oi.dst=some t->t∉F.tl)
  (hy:OpG P B ops Ωs Γ oi τi) (h:tOp P B Ωs ops n ms j K (Γ.put oi.dst τi) F) :
  tOp P B Ωs ops n ms j (λΓ' F'=>(∀t,oi.dst=some t->t∉F'.tl)/\OpG P B ops Ωs Γ' oi τi/\K (Γ'.put oi.dst τi) F') Γ F:=by
 obtain⟨h1,h2,h3⟩:=Xgq hap;unfold tOp at *;simp only[hj]at *;obtain⟨hd,h⟩:=h;refine⟨hd,?_⟩;rcases h with⟨hm,hof,τ,ho,hK⟩|⟨hm,μ,τ,Ω',ho,hK⟩
 .refine .inl ⟨hm,hof,τ,ho.congr λt ht=>(CJ _ _ λe=>h1 t e ht).symm,hoff,hy.congr λt ht=>CJ _ _ λe=>h3 t e ht,?_⟩;rw[<-HX Γ τi τ h2];exact hK
 .refine .inr ⟨hm,μ,τ,Ω',ho.congr (ops:=ops) λt ht=>(CJ _ _ λe=>h1 t e ht).symm,λt ht hx=>?_,hy.congr λt ht=>CJ _ _ λe=>h3 t e ht,?_⟩
  .rcases Xar.1 hx with hx|hx
   .exact h2 t ht (by simpa using hx)
   .exact hoff t ht hx
  .rw [<-HX Γ τi Ty.any h2];exact hK
theorem Zal{j:Nat}{oi oj:Oper} (hj:ops[j]?=some oj) (hjm:j∉ms) (hap:oi.apart ops oj=true) {K:Env->Fam->Prop}{Γ:Env}{F:Fam}{μi:F.ν->Type}{τi:(g:F.ν)->μi g->Ty}{Ωi:(g:F.ν)->μi g->List Pe}
  (hy:OpF P B Ωs ops Γ F oi τi Ωi) (h:tOp P B Ωs ops n ms j K (Γ.put oi.dst Ty.any) (F.next oi.dst τi Ωi)) :
  tOp P B Ωs ops n ms j (λΓ' F'=>∃(μi:F'.ν->Type) (τi:(g:F'.ν)->μi g->Ty) (Ωi:(g:F'.ν)->μi g->List Pe),OpF P B Ωs ops Γ' F' oi τi Ωi/\K (Γ'.put oi.dst Ty.any) (F'.next oi.dst τi Ωi)) Γ F:=by
 obtain⟨h1,h2,h3⟩:=Xgq hap;unfold tOp at *;simp only[hj]at *;obtain⟨hd,h⟩:=h;refine⟨hd,?_⟩;rcases h with⟨hm,hof,τ,ho,hK⟩|⟨hm,_⟩
 .refine .inl ⟨hm,λt ht hx=>hof t ht (XaL _ hx),τ,ho.congr λt ht=>(CJ _ _ λe=>h1 t e ht).symm,μi,τi,Ωi,hy.congr (ops:=ops) λt ht=>CJ _ _ λe=>h3 t e ht,?_⟩;rw[<-HX Γ Ty.any τ h2];exact hK
 .exact absurd hm hjm
def Wz(md:XbC)(ops:Array Oper)(ms:List Nat)(i:Nat)(listed:Array Bool):Prop:=
 i∈ms->∀t∈ms,t≠i->listed.getD t true=true\/∃i'∈ms,listed.getD i' true=false/\∀ot,ops[t]?=some ot->∃e∈ot.after,XbJ md e=true/\e.on=i'
theorem Wz.not{i j:Nat}{listed:Array Bool} (h:Wz md ops ms i listed) (hi:i∈ms) (hji:j≠i) (hj:j∈Xbi md ops listed):j∉ms:=λhm=>by
 obtain⟨hjun,oj,hoj,hall⟩:=mem_ready.1 hj;rcases h hi j hm hji with h1|⟨i',hi',hun,he⟩
 .rw [h1]at hjun;cases hjun
 .obtain ⟨e,he1,he2,he3⟩:=he oj hoj;have h2:=hall e he1 he2;rw[he3]at h2;rcases Xbd i' listed.size with h'|h'
  .simp [h']at hun h2;rw[hun]at h2;cases h2
  .simp [Array.getElem?_eq_none h']at h2
theorem Wz.set{i j:Nat}{listed:Array Bool} (h:Wz md ops ms i listed) (hj:j∉ms):Wz md ops ms i (listed.setIfInBounds j true):=λhi t ht hti=>by
 rcases h hi t ht hti with h1|⟨i',hi',hun,he⟩
 .left
  by_cases hjt:j=t
  .subst hjt;exact absurd ht hj
  .rw [getD_set_ne true hjt];exact h1
 .right
  exact⟨i',hi',by rw[getD_set_ne true (λe=>hj (by rw[e];exact hi'))];exact hun,he⟩
theorem Wz.off{i:Nat}{listed:Array Bool} (h:i∉ms):Wz md ops ms i listed:=λhi=>absurd hi h
def ZfN(P:Program)(B:Nat)(Ωs:List Pe)(ops:Array Oper)(oi:Oper)(K:Env->Fam->Prop)(Γ:Env)(F:Fam):Prop:=
 (∀t,oi.dst=some t->t∉F.tl)/\∃τ,OpG P B ops Ωs Γ oi τ/\K (Γ.put oi.dst τ) F
def ZfM(P:Program)(B:Nat)(Ωs:List Pe)(ops:Array Oper)(oi:Oper)(K:Env->Fam->Prop)(Γ:Env)(F:Fam):Prop:=
 ∃(μ:F.ν->Type) (τ:(g:F.ν)->μ g->Ty) (Ω':(g:F.ν)->μ g->List Pe),OpF P B Ωs ops Γ F oi τ Ω'/\K (Γ.put oi.dst Ty.any) (F.next oi.dst τ Ω')
theorem Qh{K:Env->Fam->Prop}{i:Nat}{oi:Oper} (hi:ops[i]?=some oi) (hdi:∀t,oi.dst=some t->t<n) :
  ∀(fuel:Nat) (listed:Array Bool) (Γ:Env) (F:Fam),
   (∀j oj,ops[j]?=some oj->j≠i->listed.getD j true=false->(∀e∈oj.after,XbJ md e=true->e.on≠i)->oi.apart ops oj=true)->
   Wz md ops ms i listed->
   i∈Xbi md ops listed->(i∉ms/\ZfN P B Ωs ops oi (Zed P B Ωs ops n ms md K fuel (listed.setIfInBounds i true)) Γ F\/
    i∈ms/\ZfM P B Ωs ops oi (Zed P B Ωs ops n ms md K fuel (listed.setIfInBounds i true)) Γ F)->Zed P B Ωs ops n ms md K (fuel+1) listed Γ F:=by
 intro fuel
 induction fuel with
 | zero=>
  intro listed Γ F _ hn hr hy;refine⟨λh=>(by rw[h]at hr;cases hr),λj hj=>?_⟩
  by_cases hji:j=i
  .subst hji;unfold tOp;simp only[hi];refine⟨hdi,?_⟩;rcases hy with⟨hm,ho,τ,hy,H⟩|⟨hm,μ,τ,Ω',hy,H⟩
   .exact .inl ⟨hm,ho,τ,hy,H⟩
   .exact .inr ⟨hm,μ,τ,Ω',hy,H⟩
  .have:=ready_mono hj hji;rcases hy with⟨hm,ho,τ,hy,H⟩|⟨hm,μ,τ,Ω',hy,H⟩<;>rw[H.1]at this<;>cases this
 | succ fuel ih=>
  intro listed Γ F hfree hn hr hy;refine⟨λh=>(by rw[h]at hr;cases hr),λj hj=>?_⟩
  by_cases hji:j=i
  .subst hji;unfold tOp;simp only[hi];refine⟨hdi,?_⟩;rcases hy with⟨hm,ho,τ,hy,H⟩|⟨hm,μ,τ,Ω',hy,H⟩
   .exact .inl ⟨hm,ho,τ,hy,H⟩
   .exact .inr ⟨hm,μ,τ,Ω',hy,H⟩
  .obtain ⟨hjun,oj,hoj,hall⟩:=mem_ready.1 hj;have hnot:∀e∈oj.after,XbJ md e=true->e.on≠i:=λe he hb heq=>by
    have h1:=hall e he hb;have h0:=(mem_ready.1 hr).1;rw[heq]at h1;rcases Xbd i listed.size with h'|h'
    .simp [h']at h0 h1;rw[h0]at h1;cases h1
    .simp [Array.getElem?_eq_none h']at h1
   have hap:=hfree j oj hoj hji hjun hnot;have hfree':∀k ok,ops[k]?=some ok->k≠i->(listed.setIfInBounds j true).getD k true=false->
     (∀e∈ok.after,XbJ md e=true->e.on≠i)->oi.apart ops ok=true:=λk ok hk hki hun hno=>by
    refine hfree k ok hk hki ?_ hno
    by_cases hjk:j=k
    .subst hjk;exact hjun
    .rw [getD_set_ne true hjk]at hun;exact hun
   rcases hy with⟨hm,ho,τ,hy,H⟩|⟨hm,μ,τ,Ω',hy,H⟩
   .have h1:=H.2 j (ready_mono hj hji);refine Uo (λΓ' F' h3=>ih (listed.setIfInBounds j true) Γ' F' hfree' (Wz.off hm) (ready_mono hr (Xc3 hji)) (.inl ⟨hm,h3.1,τ,h3.2.1,?_⟩)) (Zam hoj hap ho hy h1);rw[Array.setIfInBounds_comm _ _ hji];exact h3.2.2
   .have h1:=H.2 j (ready_mono hj hji);have hjm:=hn.not hm hji hj;refine Uo (λΓ' F' h3=>ih (listed.setIfInBounds j true) Γ' F' hfree' (hn.set hjm) (ready_mono hr (Xc3 hji)) (.inr ⟨hm,?_⟩)) (Zal hoj hjm hap hy h1);rw[Array.setIfInBounds_comm _ _ hji];exact h3
def IN(md:XbC)(ops:Array Oper):List Nat->Bool
 | p::q::r=>decide (p<q)&&((ops[q]?).all λo=>o.after.any λe=>XbJ md e&&e.on == p)&&IN md ops (q::r)
 | _=>true
theorem OX:∀(l:List Nat),IN md ops l=true->(∀t∈l,l.headD 0<=t)/\∀i∈l,∀t∈l,i<t->∃i'∈l,i<=i'/\i' < t/\∀ot,ops[t]?=some ot->∃e∈ot.after,XbJ md e=true/\e.on=i'
 | [],_=>⟨λt h=>by simp at h,λi h=>by simp at h⟩
 | [p],_=>⟨λt h=>by simp at h;simp[h],λi hi t ht hlt=>by simp at hi ht;omega⟩
 | p::q::r,h=>by
  simp only[IN,Xaz,decide_eq_true_eq]at h;obtain⟨⟨h1,h2⟩,h3⟩:=h;obtain⟨g1,g2⟩:=OX (q::r) h3;have hge:∀t∈q::r,q<=t:=λt ht=>by simpa using g1 t ht
  refine⟨λt ht=>?_,λi hi t ht hlt=>?_⟩
  .rcases Xa1.1 ht with rfl|ht1
   .simp
   .have:=hge t ht1;simp;omega
  .rcases Xa1.1 ht with rfl|ht1
   .rcases Xa1.1 hi with rfl|hi1
    .omega
    .have:=hge i hi1;omega
   .rcases Xa1.1 hi with rfl|hi1
    .by_cases hq:t=q
     .subst hq;refine⟨i,by simp,Xau _,h1,λot hot=>?_⟩;rw[hot]at h2;simp only[Option.all_some]at h2;obtain⟨j,hj,he⟩:=Array.any_eq_true.1 h2;simp only[Xaz,beq_iff_eq]at he;exact⟨_,Array.getElem_mem hj,he.1,he.2⟩
     .have:=hge t ht1;obtain⟨i',k1,k2,k3,k4⟩:=g2 q (by simp) t ht1 (by omega);exact⟨i',Xaw _ k1,by omega,k3,k4⟩
    .obtain ⟨i',k1,k2,k3,k4⟩:=g2 i hi1 t ht1 hlt;exact⟨i',Xaw _ k1,k2,k3,k4⟩
theorem N9(hc:IN md ops ms=true){K:Env->Fam->Prop}:∀(l:List Oper) (k:Nat) (listed:Array Bool) (Γ:Env) (F:Fam),(∀j,l[j]?=ops[k+j]?)->listed.size=ops.size->(∀t,t<ops.size->listed.getD t true=decide (t<k))->
  Xcv md ops l.length k listed=true->TRw P B Ωs ops n ms k l Γ F K->Zed P B Ωs ops n ms md K l.length listed Γ F
 | [],_,_,_,_,_,_,_,hB,h=>⟨by simpa[Xcv]using hB,h⟩
 | o::l,k,listed,Γ,F,hl,hz,ht,hB,h=>by
  have h0:ops[k]?=some o:=by simpa using (hl 0).symm
  have hk:k<ops.size:=(Array.getElem?_eq_some_iff.1 h0).1;simp only[XaP,Xcv,Xaz]at hB;obtain⟨⟨hr,hf⟩,hB'⟩:=hB;obtain⟨hd,h⟩:=h;have hn:Wz md ops ms k listed:=λhk' t htm htk=>by
   by_cases hts:t<ops.size
   .rcases Xbd t k with h1|h1
    .left;rw[ht t hts];simpa using h1
    .right
     obtain⟨i',k1,k2,k3,k4⟩:=(OX ms hc).2 k hk' t htm (by omega);exact⟨i',k1,by rw[ht i' (by omega)];simpa using k2,k4⟩
   .left
    rw[Array.getD_eq_getD_getElem?,Array.getElem?_eq_none (by omega)];rfl
  have ih:=λΓ' F' hK=>N9 hc (K:=K) l (k+1) (listed.setIfInBounds k true) Γ' F' (λj=>by have:=hl (j+1);simpa[XbO,Xb1 1 j]using this) (by simpa using hz) (λt hts=>by
   by_cases h1:k=t
   .subst h1;have:k<listed.size:=by omega
    simp[this]
   .rw [getD_set_ne true h1,ht t hts,decide_eq_decide];omega) hB' hK
  rcases h with⟨hm,ho,τ,hy,hK⟩|⟨hm,μ,τ,Ω',hy,hK⟩
  .exact Qh h0 hd l.length listed Γ F (XfX h0 hf) hn (by simpa using hr) (.inl ⟨hm,ho,τ,hy,ih _ _ hK⟩)
  .exact Qh h0 hd l.length listed Γ F (XfX h0 hf) hn (by simpa using hr) (.inr ⟨hm,μ,τ,Ω',hy,ih _ _ hK⟩)
end any
def FR(ρ:Option Nat):Fence:={ fn:=λ_=>True,depth:=none,alive:=false,round:=ρ }
theorem KJ{ρ:Option Nat}{n:Nat}{P:Program}{f:FuncId}{args:Array Value}{w:World}{R:Ending->World->Prop}:CallsIn (FR ρ) n P f args w R↔Calls P f args w R:=callsIn_wide (n:=n)
theorem Oq{ρ:Operand->Value}{o:Oper}{c:Call}{P:Program}{w:World} (hc:o.op=.defer c):(∃d w',(execOp ρ o).run P w=.ok (.defer d) w')\/(∃h w',(execOp ρ o).run P w=.halt h w'):=by
 have e:execOp ρ o=(do pure (.defer (<-resolve ρ c o.type))):=by unfold execOp;rw[hc]
 rw[e,Xag];cases (resolve ρ c o.type).run P w with
 | ok d w'=>exact .inl ⟨d,w',rfl⟩
 | halt h w'=>exact .inr ⟨h,w',rfl⟩
theorem Oc{ρ:Option Nat}{m:Nat}:(FR ρ).depth.isSome=true->1<=m:=λh=>by cases h
theorem ZV{Ω Ω':List Pe}{k:Nat}:Own (Ω++Ω') k↔Own Ω k\/Own Ω' k:=by
 unfold Own
 constructor
 .rintro ⟨e,he,h⟩;rcases Xar.1 he with he|he
  .exact .inl ⟨e,he,h⟩
  .exact .inr ⟨e,he,h⟩
 .rintro (⟨e,he,h⟩|⟨e,he,h⟩)
  .exact ⟨e,Xbr _ he,h⟩
  .exact ⟨e,XaL _ he,h⟩
theorem Bz{A:Nat->Prop}{Ω Ω':List Pe}{w:World}:Pks A (Ω++Ω') w↔Pks A Ω w/\Pks A Ω' w:=
 ⟨λh=>⟨λe he=>h e (Xbr _ he),λe he=>h e (XaL _ he)⟩,λh e he=>by
  rcases Xar.1 he with he|he
  .exact h.1 e he
  .exact h.2 e he⟩
theorem Kq{Γ:Env}{n:Nat}{a:Act}{A:Nat->Prop}{w':World}{d:Option Tmp}{v:Value}{τ:Ty} (hz:a.tmps.size=n) (hd:∀t,d=some t->t<n) (ht:∀t,(Γ t).p A w' (a.tmps.getD t undef)) (hv:τ.p A w' v) :
  (a.put d v).tmps.size=n/\(a.put d v).defers=a.defers/\∀t,((Γ.put d τ) t).p A w' ((a.put d v).tmps.getD t undef):=by
 cases d with
 | none=>exact⟨hz,rfl,ht⟩
 | some d=>
  refine⟨by simpa[Act.put]using hz,rfl,λt=>?_⟩;have hlt:d<a.tmps.size:=by rw[hz];exact hd d rfl
  simp only[Env.put,Env.set,Act.put]
  split
  .rename_i e;subst e
   rw[Array.getD_eq_getD_getElem?,Array.getElem?_setIfInBounds_self_of_lt hlt];exact hv
  .rename_i e
   rw[Array.getD_eq_getD_getElem?,Array.getElem?_setIfInBounds_ne (λx=>e x.symm),<-Array.getD_eq_getD_getElem?];exact ht t
theorem Stt.put{r:Ref}{n:Nat}{Γ:Env}{Ω:List Pe}{a:Act}{w w':World}{d:Option Tmp}{v:Value}{τ:Ty} (h:Stt r n Γ Ω a w) (hd:∀t,d=some t->t<n) (g:KP r.w.heap.size w w') (hv:τ.p (Pub r.A Ω) w' v):Stt r n (Γ.put d τ) Ω (a.put d v) w':=by
 obtain⟨h1,h2,h3⟩:=Kq h.sz hd (λt=>(Γ t).st g (h.ty t)) hv;exact⟨h1,h2.trans h.df,h.mu.stp (Er (S:=λ_=>False) g) (λj hj=>hj.elim),h3,h.pv.grow g⟩
theorem Stt.up{r:Ref}{n:Nat}{Γ:Env}{Ω:List Pe}{a:Act}{w:World} (h:Stt r n Γ Ω a w):∀k,w.heap.size<=k->Pub r.A Ω k:=h.pv.up h.mu.size
theorem HG{P:Program}{B:Nat}{A:Nat->Prop}{o:Oper}{a:Act}{w:World}{τ:Ty}{K:Act->World->Prop}{Q:Exit->Act->World->Prop}
  (h:IP P B A w τ ((execOp a.eval o).run P w)) (hk:∀v w',KP B w w'->τ.p A w' v->K (a.put o.dst v) w') {ρ:Option Nat}:o.wpIn (FR ρ) 0 P a w K Q:=by
 have hn:∀c,o.op≠.defer c:=λc hc=>by rcases Oq (ρ:=a.eval) (P:=P) (w:=w) hc with⟨d,w',e⟩|⟨x,w',e⟩<;>rw[e]at h<;>exact h
 refine⟨λ_ _=>trivial,?_⟩;rw[Xdx _ _ _ hn];generalize (execOp a.eval o).run P w=r at *;cases r with
 | ok x w'=>
  cases x<;>simp only[IP]at h<;>simp only[XfZ]
  case value v=>exact hk _ _ h.1 h.2
  case skip=>exact hk _ _ h.1 h.2
  case enter f args=>
   obtain⟨h1,h2⟩:=h;refine⟨Oc,KJ.2 (h2.mono λe w'' ⟨v,he,h3,h4⟩=>?_)⟩;subst he;exact hk _ _ (h1.trans h3) h4
 | halt x w'=>simp only[IP]at h
theorem DT{P:Program}{B:Nat}{A0:Nat->Prop}{Ωs Ωt:List Pe}{ν:Type}{τ:ν->Ty}{Ω':ν->List Pe}{o:Oper}{a:Act}{w:World}{K:Act->World->Prop}{Q:Exit->Act->World->Prop}
  (h:Ge P B A0 Ωs Ωt τ Ω' w ((execOp a.eval o).run P w)) (hk:∀g v w',Aft B A0 Ωs Ωt (τ g) (Ω' g) w w' v->K (a.put o.dst v) w') {ρ:Option Nat}:o.wpIn (FR ρ) 0 P a w K Q:=by
 have hn:∀c,o.op≠.defer c:=λc hc=>by rcases Oq (ρ:=a.eval) (P:=P) (w:=w) hc with⟨d,w',e⟩|⟨x,w',e⟩<;>rw[e]at h<;>exact h
 refine⟨λ_ _=>trivial,?_⟩;rw[Xdx _ _ _ hn];generalize (execOp a.eval o).run P w=r at *;cases r with
 | ok x w'=>
  cases x<;>simp only[Ge]at h<;>simp only[XfZ]
  case value v=>obtain⟨g,h⟩:=h;exact hk _ _ _ h
  case skip=>obtain⟨g,h⟩:=h;exact hk _ _ _ h
  case enter f args=>
   refine⟨Oc,KJ.2 (h.mono λe w'' ⟨v,g,he,h3⟩=>?_)⟩;subst he;exact hk _ _ _ h3
 | halt x w'=>simp only[Ge]at h
theorem Stt.T{r:Ref}{n:Nat}{Γ:Env}{Ωs Ωt Ωt':List Pe}{a:Act}{w w':World}{d:Option Tmp}{v:Value}{τ:Ty} (h:Stt r n Γ (Ωs++Ωt) a w) (hd:∀t,d=some t->t<n)
  (k:Aft r.w.heap.size r.A Ωs Ωt τ Ωt' w w' v):Stt r n (Γ.put d τ) (Ωs++Ωt') (a.put d v) w':=by
 have hkp:HD (Pub r.A (Ωs++Ωt)) (Pub r.A (Ωs++Ωt')) w w':=by
  refine⟨k.st.size,λj hj hp=>?_⟩;obtain⟨h1,h2⟩:=ZC.1 hp;refine⟨ZC.2 ⟨h1,λho=>?_⟩,k.st.cells j hj λho=>h2 (ZV.2 (.inr ho))⟩;rcases ZV.1 ho with ho|ho
  .exact h2 (ZV.2 (.inl ho))
  .rcases k.nw j ho with ho|ho
   .exact h2 (ZV.2 (.inr ho))
   .omega
 obtain⟨h1,h2,h3⟩:=Kq (d:=d) h.sz hd (λt=>(Γ t).keep hkp (h.ty t)) k.ty;refine⟨h1,h2.trans h.df,h.mu.stp k.st λj hj=>h.pv.own j (ZV.2 (.inr hj)),h3,⟨λj hj=>?_,Bz.2 ⟨(Bz.1 h.pv.ks).1.keep hkp λj hj ho=>k.st.cells j hj λho2=>?_,k.ks⟩,k.ap⟩⟩
 .rcases ZV.1 hj with hj|hj
  .exact h.pv.own j (ZV.2 (.inl hj))
  .rcases k.nw j hj with ho|ho
   .exact h.pv.own j (ZV.2 (.inr ho))
   .exact .inl (XaG h.mu.size ho)
 .obtain ⟨e,he,hp,hb⟩:=ho;obtain⟨f,hf,hq,hbf⟩:=ho2;exact(XaH.1 h.pv.ap).2.2 e he f hf hp hq (hb.trans hbf.symm)
class Opens(r:Ref):Prop where
 h:∀k,r.w.heap.size<=k\/r.S k->r.A k
theorem Stt.opT{P:Program}{r:Ref}{n:Nat}{Γ:Env}{Ωs Ωt:List Pe}{a:Act}{w:World}[op:Opens r] {o:Oper}{ν:Type}{τ:ν->Ty}{Ω':ν->List Pe}{Γ':Env} (h:Stt r n Γ (Ωs++Ωt) a w)
  (hΓ:∀t,(Γ' t).p (Pub r.A (Ωs++Ωt)) w (a.tmps.getD t undef)) (ho:OpT P r.w.heap.size Ωs Ωt Γ' o τ Ω'):Ge P r.w.heap.size r.A Ωs Ωt τ Ω' w ((execOp a.eval o).run P w):=
 ho.2 r.A a w h.mu.size (λk hk=>r.up k (XaG h.mu.size hk)) (λk hk=>op.h k (h.pv.own k (ZV.2 (.inr hk)))) h.pv.ap h.pv.ks λt _=>hΓ t
section reg
variable {P:Program}{r:Ref}{n:Nat}{Ωs:List Pe}{ops:Array Oper}{ms:List Nat}{md:XbC}
def RSt(r:Ref)(n:Nat)(Ωs:List Pe)(Γ:Env)(F:Fam)(a:Act)(w:World):Prop:=∃g,Stt r n (Env.or (F.Θ g) Γ) (Ωs++F.Ω g) a w
theorem Oe[op:Opens r]{i:Nat}{Γ:Env}{F:Fam}{K:Env->Fam->Prop}{K':Act->World->Prop}{Q':Exit->Act->World->Prop}{a:Act}{w:World} (ha:RSt r n Ωs Γ F a w)
  (h:∀Γ' F' a' w',RSt r n Ωs Γ' F' a' w'->K Γ' F'->K' a' w') (hh:tOp P r.w.heap.size Ωs ops n ms i K Γ F):wpOpIn (FR r.ρ) 0 P ops Q' i K' a w:=by
 unfold tOp at hh;unfold wpOpIn
 split
 .rename_i ho;simp only[ho]at hh;exact h _ _ _ _ ha hh
 .rename_i o ho
  simp only[ho]at hh;obtain⟨hd,hh⟩:=hh;obtain⟨g,ha⟩:=ha;rcases hh with⟨hm,hof,τ,hy,hK⟩|⟨hm,μ,τ,Ω',hy,hK⟩
  .have hy:=hy (Pub r.A (Ωs++F.Ω g)) a w ha.mu.size ha.up (Bz.1 ha.pv.ks).1 λt _=>(ha.ty t).2
   have next:∀v w',KP r.w.heap.size w w'->τ.p (Pub r.A (Ωs++F.Ω g)) w' v->RSt r n Ωs (Γ.put o.dst τ) F (a.put o.dst v) w':=λv w' hg hv=>by
    have hst:=ha.put (d:=o.dst) (τ:=τ) hd hg hv;refine⟨g,hst.sz,hst.df,hst.mu,λt=>?_,hst.pv⟩;have ht:=hst.ty t;cases hdst:o.dst with
    | none=>rw[hdst]at ht;exact ht
    | some d=>
     rw[hdst]at ht;simp only[Env.put,Env.set,Env.or]at ht⊢
     by_cases htd:t=d
     .subst htd;simp only[if_true]at ht⊢;rw[F.off g t (hof t hdst)];exact⟨trivial,ht⟩
     .simp only[htd,if_false]at ht⊢;exact ht
   split
   .rename_i hw
    simp only[hw,if_true]at hy;exact HG hy λv w' hg hv=>h _ _ _ _ (next v w' hg hv) hK
   .rename_i hw
    simp only[hw]at hy;exact⟨λ_ _=>trivial,h _ _ _ _ (next _ _ (KP.refl _ _) hy) hK⟩
  .have hw:=(hy g).1 (Pub r.A (Ωs++F.Ω g)) a w λt _=>(ha.ty t).2
   have hy:=ha.opT ha.ty (hy g).2;rw[V5]at hy;rw[if_pos hw];refine DT hy λm v w' haf=>h _ (F.next o.dst τ Ω') _ _ ⟨(⟨g,m⟩:(g:F.ν)×μ g),?_⟩ hK
   have hst:=ha.T (d:=o.dst) hd haf;refine⟨hst.sz,hst.df,hst.mu,λt=>?_,hst.pv⟩;have ht:=hst.ty t;cases hdst:o.dst with
   | none=>rw[hdst]at ht;simpa only[Fam.next,Env.put]using ht
   | some d=>
    rw[hdst]at ht;simp only[Fam.next,Env.put,Env.set,Env.or]at ht⊢
    by_cases htd:t=d
    .subst htd;simp only[if_true]at ht⊢;exact⟨ht,trivial⟩
    .simp only[htd,if_false]at ht⊢;exact ht
theorem ME[op:Opens r]{K:Env->Fam->Prop}{Q':Exit->Act->World->Prop} (hQ:∀Γ F a w,RSt r n Ωs Γ F a w->K Γ F->Q' .normal a w):∀(fuel:Nat) (listed:Array Bool) (Γ:Env) (F:Fam) (a:Act) (w:World),
  RSt r n Ωs Γ F a w->Zed P r.w.heap.size Ωs ops n ms md K fuel listed Γ F->wpAnyIn (FR r.ρ) 0 P md ops Q' fuel listed a w
 | 0,_,_,_,_,_,ha,h=>⟨h.1,hQ _ _ _ _ ha h.2⟩
 | fuel+1,_,_,_,_,_,ha,h=>⟨λh0=>hQ _ _ _ _ ha (h.1 h0),λi hi=>Oe ha (λΓ' F' a' w' ha' hK=>ME hQ fuel _ Γ' F' a' w' ha' hK) (h.2 i hi)⟩
end reg
@[reducible] def Fam.one(Ω:List Pe):Fam:=⟨Unit,λ_=>Env.nil,λ_=>Ω,[],λ_ _ _=>rfl⟩
def TC(P:Program)(r:Ref)(n:Nat)(Γ:Env)(Ω:List Pe)(c:Code)(Q:Exit->Act->World->Prop):Prop:=∀a w,Stt r n Γ Ω a w->c.wpIn (FR r.ρ) 0 P Q a w
def TE(r:Ref)(n:Nat)(Γ:Env)(Ω:List Pe)(Q:Exit->Act->World->Prop)(e:Exit):Prop:=∀a w,Stt r n Γ Ω a w->Q e a w
def Ty.le(τ σ:Ty):Prop:=∀A w v,τ.p A w v->σ.p A w v
theorem Ty.le.refl(τ:Ty):τ.le τ:=λ_ _ _ h=>h
theorem Ty.le.trans{τ σ ρ:Ty}(h:τ.le σ)(k:σ.le ρ):τ.le ρ:=λA w v x=>k A w v (h A w v x)
def Env.le(Γ Δ:Env):Prop:=∀t,(Γ t).le (Δ t)
theorem Env.le.refl(Γ:Env):Γ.le Γ:=λ_=>Ty.le.refl _
theorem Ze(Γ:Env):Γ.le Env.nil:=λ_ _ _ _ _=>trivial
theorem KR{Γ Δ:Env}{d:Tmp}{τ:Ty} (h:(Γ d).le τ) (k:Γ.le Δ):Γ.le (Δ.set d τ):=λt=>by
 unfold Env.set
 split
 .rename_i e;subst e;exact h
 .exact k t
theorem Stt.le{r:Ref}{n:Nat}{Γ Δ:Env}{Ω:List Pe}{a:Act}{w:World} (h:Stt r n Γ Ω a w) (k:Γ.le Δ):Stt r n Δ Ω a w:=⟨h.sz,h.df,h.mu,λt=>k t _ _ _ (h.ty t),h.pv⟩
structure Fb(Ω Ω':List Pe):Prop where
 own:∀k,Own Ω' k->Own Ω k
 ap:Gh Ω->Gh Ω'
 ks:∀A w,Pks A Ω w->Pks A Ω' w
theorem Fb.refl(Ω:List Pe):Fb Ω Ω:=⟨λ_ h=>h,λh=>h,λ_ _ h=>h⟩
theorem Fb.trans{Ω Ω' Ω'':List Pe}(h:Fb Ω Ω')(k:Fb Ω' Ω''):Fb Ω Ω'':=⟨λj x=>h.own j (k.own j x),λx=>k.ap (h.ap x),λA w x=>k.ks A w (h.ks A w x)⟩
theorem Zf(Ω:List Pe):Fb Ω []:=⟨λk ⟨e,he,_⟩=>absurd he (by simp),λ_=>List.Pairwise.nil,λ_ _ _ e he=>absurd he (by simp)⟩
theorem Stt.less{r:Ref}{n:Nat}{Γ:Env}{Ω Ω':List Pe}{a:Act}{w:World} (h:Stt r n Γ Ω a w) (k:Fb Ω Ω'):Stt r n Γ Ω' a w:=by
 have hk:HD (Pub r.A Ω) (Pub r.A Ω') w w:=HD.mono λj _ hj=>ZC.2 ⟨(ZC.1 hj).1,λho=>(ZC.1 hj).2 (k.own j ho)⟩
 exact⟨h.sz,h.df,h.mu,λt=>(Γ t).keep hk (h.ty t),λj hj=>h.pv.own j (k.own j hj),(k.ks _ _ h.pv.ks).keep hk λj _ _=>DQ.refl _,k.ap h.pv.ap⟩
section rules
variable {P:Program}{r:Ref}{n:Nat}{Γ:Env}{Ω:List Pe}{Q:Exit->Act->World->Prop}
theorem Yj{Δ:Env}{c:Code} (h:Γ.le Δ) (k:TC P r n Δ Ω c Q):TC P r n Γ Ω c Q:=λa w hs=>k a w (hs.le h)
theorem TC.less{Ω':List Pe}{c:Code} (h:Fb Ω Ω') (k:TC P r n Γ Ω' c Q):TC P r n Γ Ω c Q:=λa w hs=>k a w (hs.less h)
theorem TE.less{Ω':List Pe}{e:Exit} (h:Fb Ω Ω') (k:TE r n Γ Ω' Q e):TE r n Γ Ω Q e:=λa w hs=>k a w (hs.less h)
theorem M4[op:Opens r]{id:Nat}{l:List Oper}{Q':Exit->Act->World->Prop} (ms:List Nat) (Ωs Ωt:List Pe) (hΩ:Fb Ω (Ωs++Ωt)) (hm:P.follows .mixedOrders=true) (hB:XbV .any l.toArray=true) (hc:IN .any l.toArray ms=true)
  (h:TRw P r.w.heap.size Ωs l.toArray n ms 0 l Γ (Fam.one Ωt) λΓ' F'=>∀g,TE r n (Env.or (F'.Θ g) Γ') (Ωs++F'.Ω g) Q' .normal):TC P r n Γ Ω (.region id l.toArray true) Q':=by
 intro a w hs;have hs:=hs.less hΩ;simp only[XbV,Xaz]at hB;refine wpIn_region_any hm ?_;have h2:=N9 (P:=P) (md:=.any) (ops:=l.toArray) hc l 0 (Array.replicate l.toArray.size false) Γ (Fam.one Ωt) (λj=>by simp) (by simp) (λt ht=>by
  rw[Array.getD_eq_getD_getElem?,Array.getElem?_replicate];simp at ht;simp[ht]) (by simpa using hB.2) h
 have hg:KP r.w.heap.size w { w with drawn:=w.drawn+1 }:=KP.drawn _;have h3:RSt r n Ωs Γ (Fam.one Ωt) a { w with drawn:=w.drawn+1 }:=
  ⟨(),hs.sz,hs.df,hs.mu.stp (Er (S:=λ_=>False) hg) (λj hj=>hj.elim),λt=>⟨trivial,(Γ t).st hg (hs.ty t)⟩,hs.pv.grow hg⟩
 have:=ME (P:=P) (Q':=Q') (md:=.any) (λΓ' F' a w ⟨g,hok⟩ hK=>hK g a w hok) _ _ Γ (Fam.one Ωt) a { w with drawn:=w.drawn+1 } h3 h2;simpa using this
theorem AI{x y:Code}(h:TC P r n Γ Ω x (Exit.then (y.wpIn (FR r.ρ) 0 P Q) Q)):TC P r n Γ Ω (.seq x y) Q:=λa w hs=>wpIn_seq (h a w hs)
def TS(P:Program)(r:Ref)(n:Nat)(ops:Array Oper)(l:List Oper)(k:Nat)(Γ:Env)(Ω:List Pe)(Q:Exit->Act->World->Prop):Prop:=
 (∀j,l[j]?=ops[k+j]?)->∀a w,Stt r n Γ Ω a w->wpOpsIn (FR r.ρ) 0 P ops Q (List.range' k l.length) a w
theorem Qf{id:Nat}{l:List Oper} (h:TS P r n l.toArray l 0 Γ Ω Q):TC P r n Γ Ω (.region id l.toArray false) Q:=λa w hs=>by
 refine wpIn_region ?_;have:=h (λj=>by simp) a w hs;simpa[List.range_eq_range']using this
theorem Zeb{id:Nat}{l:List Oper}{y:Code} (h:TS P r n l.toArray l 0 Γ Ω (Exit.then (y.wpIn (FR r.ρ) 0 P Q) Q)):TC P r n Γ Ω (.seq (.region id l.toArray false) y) Q:=AI (Qf h)
section ts
variable {ops:Array Oper}{k:Nat}{rest:List Oper}
theorem ZcY(h:TE r n Γ Ω Q .normal):TS P r n ops [] k Γ Ω Q:=λ_ a w hs=>by simpa[wpOpsIn]using h a w hs
theorem Yc{Δ:Env}{Ω':List Pe} (h:Γ.le Δ) (h':Fb Ω Ω') (hk:TS P r n ops rest k Δ Ω' Q):TS P r n ops rest k Γ Ω Q:=λhl a w hs=>hk hl a w ((hs.le h).less h')
theorem ZfY{o:Oper}{τ:Ty} (hd:∀t,o.dst=some t->t<n) (h:OpG P r.w.heap.size ops Ω Γ o τ) (hk:TS P r n ops rest (k+1) (Γ.put o.dst τ) Ω Q):TS P r n ops (o::rest) k Γ Ω Q:=λhl a w hs=>by
 have h0:ops[k]?=some o:=by simpa using (hl 0).symm
 have hl':∀j,rest[j]?=ops[k+1+j]?:=λj=>by have:=hl (j+1);simpa[XbO,Xb1 1 j]using this
 simp only[XaP,XcE];rw[wpOpsIn_cons];unfold wpOpIn;simp only[h0];have hy:=h _ a w hs.mu.size hs.up hs.pv.ks λt _=>hs.ty t
 split
 .rename_i hw
  simp only[hw,if_true]at hy;exact HG hy λv w' hg hv=>hk hl' _ w' (hs.put hd hg hv)
 .rename_i hw
  simp only[hw]at hy;exact⟨λ_ _=>trivial,hk hl' _ w (hs.put hd (KP.refl _ _) hy)⟩
theorem TS.T[op:Opens r]{o:Oper}{ν:Type}{τ:ν->Ty}{Ωs Ωt:List Pe}{Ω':ν->List Pe} (hΩ:Fb Ω (Ωs++Ωt)) (hd:∀t,o.dst=some t->t<n) (h:OpT P r.w.heap.size Ωs Ωt Γ o τ Ω')
  (hk:∀g,TS P r n ops rest (k+1) (Γ.put o.dst (τ g)) (Ωs++Ω' g) Q):TS P r n ops (o::rest) k Γ Ω Q:=λhl a w hs=>by
 have hs:=hs.less hΩ;have h0:ops[k]?=some o:=by simpa using (hl 0).symm
 have hl':∀j,rest[j]?=ops[k+1+j]?:=λj=>by have:=hl (j+1);simpa[XbO,Xb1 1 j]using this
 simp only[XaP,XcE];rw[wpOpsIn_cons];unfold wpOpIn;simp only[h0];rw[if_pos (by simp[Xa3,h.1])];exact DT (hs.opT hs.ty h) λm v w' haf=>hk m hl' _ w' (hs.T hd haf)
end ts
theorem Az{y:Code}(h:TC P r n Γ Ω y Q):TE r n Γ Ω (Exit.then (y.wpIn (FR r.ρ) 0 P Q) Q) .normal:=h
theorem Kd{K:Act->World->Prop}{id:Nat} (h:TE r n Γ Ω Q (.exit id)):TE r n Γ Ω (Exit.then K Q) (.exit id):=h
theorem Zi{K:Act->World->Prop}(h:TE r n Γ Ω Q .ret):TE r n Γ Ω (Exit.then K Q) .ret:=h
theorem BV{id:Nat}(h:TE r n Γ Ω Q .normal):TE r n Γ Ω (Xcm id Q) .normal:=h
theorem Zh{id:Nat}(h:TE r n Γ Ω Q .ret):TE r n Γ Ω (Xcm id Q) .ret:=h
theorem Ke{id:Nat}(h:TE r n Γ Ω Q .normal):TE r n Γ Ω (Xcm id Q) (.exit id):=λa w hs=>by
 simp only[Xcm,if_true];exact h a w hs
theorem NK{id id':Nat}(hne:(id' == id)=false)(h:TE r n Γ Ω Q (.exit id')):TE r n Γ Ω (Xcm id Q) (.exit id'):=λa w hs=>by
 have hne:id'≠id:=by simpa using hne
 simp only[Xcm,hne,if_false];exact h a w hs
theorem AH(h:TE r n Γ Ω Q .normal):TC P r n Γ Ω .skip Q:=λa w hs=>wpIn_skip (h a w hs)
theorem TC.exit{id:Nat}(h:TE r n Γ Ω Q (.exit id)):TC P r n Γ Ω (.exit id) Q:=λa w hs=>wpIn_exit (h a w hs)
theorem ZO(h:TE r n Γ Ω Q .ret):TC P r n Γ Ω .ret Q:=λa w hs=>wpIn_ret (h a w hs)
theorem Zr{id:Nat}{c:Code} (h:TC P r n Γ Ω c (Xcm id Q)):TC P r n Γ Ω (.block id c) Q:=λa w hs=>wpIn_block (h a w hs)
theorem TC.loop{γ:Type}{c:Code} (I:γ->Env) (J:γ->List Pe) (μ:γ->Nat) (g0:γ) (h0:Γ.le (I g0)) (j0:Fb Ω (J g0))
  (round:∀g,TC P r n (I g) (J g) c (Exit.then (λa w=>∃g',μ g' < μ g/\Stt r n (I g') (J g') a w) Q)):TC P r n Γ Ω (.loop c) Q:=by
 intro a w hs b k cs hro hb hr;have key:∀(m:Nat) (g:γ) a w,μ g=m->Stt r n (I g) (J g) a w->
   ∃e a' w',Q e a' w'/\ArrivesIn (Machine.fenced P (FR r.ρ)) P (lone (b.atR a (.code c :: .inLoop c::k)) cs w) b k cs e a' w':=by
  intro m
  induction m using Nat.strongRecOn with
  | _ m ih=>
   intro g a w hm hI;obtain⟨e,a₁,w₁,hq,harr⟩:=round g a w hI b (.inLoop c::k) cs hro hb hr;cases e with
   | normal=>
    obtain⟨g',hlt,hI₁⟩:=hq;obtain⟨e₂,a₂,w₂,hq₂,harr₂⟩:=ih (μ g') (hm▸hlt) g' a₁ w₁ rfl hI₁;exact⟨e₂,a₂,w₂,hq₂,.of_steps (StepsIn.trans harr (.one (fenced_calm hb hr rfl) stepR_inLoop)) harr₂⟩
   | exit id=>exact⟨_,a₁,w₁,hq,.pass (x:=.inLoop c) rfl (λ_ _=>.inl (by simp)) harr⟩
   | goto l=>exact⟨_,a₁,w₁,hq,.pass (x:=.inLoop c) rfl (λ_ _=>.inl (by simp)) harr⟩
   | ret=>exact⟨_,a₁,w₁,hq,.pass (x:=.inLoop c) rfl (λ_ _=>.inl (by simp)) harr⟩
   | panic ch=>exact⟨_,a₁,w₁,hq,.pass (x:=.inLoop c) rfl (λ_ _=>.inl (by simp)) harr⟩
   | outgrown=>exact⟨_,a₁,w₁,hq,.pass (x:=.inLoop c) rfl (λ_ _=>.inl (by simp)) harr⟩
 obtain⟨e,a',w',hq,harr⟩:=key _ g0 a w rfl ((hs.le h0).less j0);exact⟨e,a',w',hq,.of_steps (.one (fenced_calm hb hr rfl) stepR_loop) harr⟩
end rules
def Ret(A:Nat->Prop)(w:World)(τ:Ty)(e:Ending)(w':World):Prop:=∃v,e=.returned v/\KP w.heap.size w w'/\τ.p A w' v
def M7(A:Nat->Prop)(w:World)(Ωt:List Pe){ν:Type}(τ:ν->Ty)(Ω':ν->List Pe)(e:Ending)(w':World):Prop:=∃v g,e=.returned v/\Aft w.heap.size A [] Ωt (τ g) (Ω' g) w w' v
def Tup(τs:List Ty):Ty:=⟨λA w v=>∃vs:List Value,v=.tuple vs.toArray/\vs.length=τs.length/\∀i (h:i<τs.length),τs[i].p A w (vs.getD i undef),
 λhg ⟨vs,h1,h2,h3⟩=>⟨vs,h1,h2,λi h=>(τs[i]).keep hg (h3 i h)⟩⟩
def G6(A:Nat->Prop)(w:World)(hA:∀k,w.heap.size<=k->A k):Ref:=⟨w,A,λ_=>False,hA,none,[]⟩
instance {A:Nat->Prop}{w:World}{hA:∀k,w.heap.size<=k->A k}:Opens (G6 A w hA):=⟨λk h=>h.elim (hA k) λh=>h.elim⟩
def Gi(A:Nat->Prop)(w:World)(Ωt:List Pe)(hA:∀k,w.heap.size<=k->A k):Ref:=⟨w,A,Own Ωt,hA,none,[]⟩
class OwnIn(A:Nat->Prop)(Ωt:List Pe):Prop where
 h:∀k,Own Ωt k->A k
instance {A:Nat->Prop}{w:World}{Ωt:List Pe}[o:OwnIn A Ωt] {hA:∀k,w.heap.size<=k->A k}:Opens (Gi A w Ωt hA):=⟨λk h=>h.elim (hA k) (o.h k)⟩
section entry
variable {P:Program}{r:Ref}{n:Nat}{Γ:Env}{Ω:List Pe}{R:Ending->World->Prop}
theorem CL{f:FuncId}{fn:Func}{c:Code}{args:List Value} (hf:P.funcs[f]?=some fn) (hb:fn.body=some c) (hn:fn.ntmps=n) (hl:args.length<=n) (hΩ:Pok r Ω r.w)
  (hok:∀t,t<args.length->(Γ t).p (Pub r.A Ω) r.w (args.getD t undef)) (hout:∀t,args.length<=t->(Γ t).p (Pub r.A Ω) r.w undef)
  (h:TC P r n Γ Ω c (bodyPost P fn R)) (hρ:r.ρ=none:=by rfl) (hds:r.ds=[]:=by rfl):Calls P f args.toArray r.w R:=by
 refine calls_of_wp hf hb (wpIn_wide.1 (show c.wpIn (FR none) 0 P _ _ _ from hρ▸h _ _ ⟨?_,hds.symm,Mut.refl _ _,λt=>?_,hΩ⟩))
 .simp [hn];omega
 .simp only[Array.getD_eq_getD_getElem?];rcases Xbd t args.length with h1|h1
  .have:=hok t h1;rw[Xad]at this;rw[Array.getElem?_append_left (by simpa using h1)];simpa using this
  .have:=hout t h1;rw[Array.getElem?_append_right (by simpa using h1)];simp only[Array.getElem?_replicate]
   split<;>simpa using this
end entry
class Dat(α:Type) where
 agg:Bool
 sz:Nat
 rd:(Nat->Prop)->World->List Value->α->Prop
 wf:α->Prop
 len:∀{A w cs x},rd A w cs x->cs.length=sz
 one:agg=false->sz=1
 pos:0<sz
 ok:∀{A w cs x},rd A w cs x->wf x
 plain:∀{A w v x},agg=false->rd A w [v] x->v.cells=#[v]
 mono:∀{A A' w w' cs x},HD A A' w w'->rd A w cs x->rd A' w' cs x
 scal:∀{A w cs x},rd A w cs x->∀v∈cs,v.oneCell'=true
 z:α
 zc:List Value
 zrd:∀{A w},rd A w zc z
def mkV(α:Type)[Dat α](cs:List Value):Value:=if Dat.agg α then .agg cs.toArray else cs.getD 0 undef
theorem Xk{α:Type}[Dat α] {A:Nat->Prop}{w:World}{cs:List Value}{x:α} (h:Dat.rd A w cs x):(mkV α cs).cells=cs.toArray:=by
 unfold mkV;cases ha:Dat.agg α with
 | true=>rfl
 | false=>
  have h1:=Dat.len h;rw[Dat.one ha]at h1
  match cs,h1 with
  | [v],_=>simpa using Dat.plain ha h
def D{α:Type}[Dat α] (x:α):Ty:=⟨λA w v=>∃cs,Dat.rd A w cs x/\v=mkV α cs,λk ⟨cs,h1,h2⟩=>⟨cs,Dat.mono k h1,h2⟩⟩
theorem D.wf{α:Type}[Dat α] {A:Nat->Prop}{x:α}{w:World}{v:Value} (h:(D x).p A w v):Dat.wf x:=let ⟨_,h1,_⟩:=h;Dat.ok h1
def K3{α:Type}[Dat α] (x:α):Ty:=
  ⟨λA w v=>∃b off cs,v=.pointer (some ⟨b,off,none⟩)/\A b/\KT w b off cs/\Dat.rd A w cs x,
   λk ⟨b,off,cs,h1,h2,h3,h4⟩=>⟨b,off,cs,h1,(k.h b (Q1 (h3 0 (by rw[Dat.len h4];exact Dat.pos))) h2).1,k.row h2 h3,Dat.mono k h4⟩⟩
def Ex(v:Value):Ty:=⟨λ_ _ u=>u=v,λ_ h=>h⟩
def I(n:Int):Ty:=Ex (.int .i64 n)
def B(b:Bool):Ty:=Ex (.bool b)
def U8(x:UInt8):Ty:=Ex (.int .u8 x.toNat)
def U16(x:UInt16):Ty:=Ex (.int .u16 x.toNat)
def U32(x:UInt32):Ty:=Ex (.int .u32 x.toNat)
def U64(x:UInt64):Ty:=Ex (.int .u64 x.toNat)
def Str(l:List UInt8):Ty:=Ex (.string ⟨l.toArray⟩)
def Ro:Ty:=Ex (.slice none 0 0)
def HY(p:Prop)(τ:Ty):Ty:=⟨λA w v=>(p->τ.p A w v)/\(¬p->v=undef),λhg h=>⟨λhp=>τ.keep hg (h.1 hp),h.2⟩⟩
def FA(n:Int):Prop:=-9223372036854775808<=n/\n<=9223372036854775807
theorem FP{cs:List Value}{v:Value} (h:cs=[v]):cs.length=1:=by rw[h];rfl
instance :Dat Int where
 agg:=false
 sz:=1
 rd _ _ cs n:=cs=[.int .i64 n]/\FA n
 wf:=FA
 len h:=FP h.1
 one _:=rfl
 pos:=Xdd
 ok h:=h.2
 plain _ h:=by simp at h;rw[h.1];rfl
 mono _ h:=h
 scal h v hv:=by rw[h.1]at hv;simp at hv;rw[hv];rfl
 z:=0
 zc:=[.int .i64 0]
 zrd:=⟨rfl,by unfold FA;omega⟩
instance :Dat UInt8 where
 agg:=false
 sz:=1
 rd _ _ cs n:=cs=[.int .u8 n.toNat]
 wf _:=True
 len h:=FP h
 one _:=rfl
 pos:=Xdd
 ok _:=trivial
 plain _ h:=by simp at h;rw[h];rfl
 mono _ h:=h
 scal h v hv:=by rw[h]at hv;simp at hv;rw[hv];rfl
 z:=0
 zc:=[.int .u8 0]
 zrd:=rfl
instance :Dat UInt16 where
 agg:=false
 sz:=1
 rd _ _ cs n:=cs=[.int .u16 n.toNat]
 wf _:=True
 len h:=FP h
 one _:=rfl
 pos:=Xdd
 ok _:=trivial
 plain _ h:=by simp at h;rw[h];rfl
 mono _ h:=h
 scal h v hv:=by rw[h]at hv;simp at hv;rw[hv];rfl
 z:=0
 zc:=[.int .u16 0]
 zrd:=rfl
instance :Dat UInt32 where
 agg:=false
 sz:=1
 rd _ _ cs n:=cs=[.int .u32 n.toNat]
 wf _:=True
 len h:=FP h
 one _:=rfl
 pos:=Xdd
 ok _:=trivial
 plain _ h:=by simp at h;rw[h];rfl
 mono _ h:=h
 scal h v hv:=by rw[h]at hv;simp at hv;rw[hv];rfl
 z:=0
 zc:=[.int .u32 0]
 zrd:=rfl
instance :Dat UInt64 where
 agg:=false
 sz:=1
 rd _ _ cs n:=cs=[.int .u64 n.toNat]
 wf _:=True
 len h:=FP h
 one _:=rfl
 pos:=Xdd
 ok _:=trivial
 plain _ h:=by simp at h;rw[h];rfl
 mono _ h:=h
 scal h v hv:=by rw[h]at hv;simp at hv;rw[hv];rfl
 z:=0
 zc:=[.int .u64 0]
 zrd:=rfl
instance :Dat Bool where
 agg:=false
 sz:=1
 rd _ _ cs b:=cs=[.bool b]
 wf _:=True
 len h:=FP h
 one _:=rfl
 pos:=Xdd
 ok _:=trivial
 plain _ h:=by simp at h;rw[h];rfl
 mono _ h:=h
 scal h v hv:=by rw[h]at hv;simp at hv;rw[hv];rfl
 z:=false
 zc:=[.bool false]
 zrd:=rfl
def LG:Nat:=140737488351232
def MY{α:Type}[Dat α] (A:Nat->Prop) (w:World) (a:Option Addr) (xs:List α):Prop:=
 ∀i (h:i<xs.length),∃b off,a=some ⟨b,off,none⟩/\A b/\∃es,KT w b (off+i*Dat.sz α) es/\Dat.rd A w es xs[i]
instance Bv{α:Type}[Dat α]:Dat (List α) where
 agg:=false
 sz:=1
 rd A w cs xs:=∃a c,cs=[.slice a xs.length c]/\xs.length<=c/\c<=maxLen/\xs.length<=LG/\MY A w a xs
 wf xs:=xs.length<=LG/\∀x∈xs,Dat.wf x
 len:=λ⟨_,_,h,_⟩=>FP h
 one _:=rfl
 pos:=Xdd
 ok:=λ⟨a,c,_,h1,_,h2,h3⟩=>⟨h2,λx hx=>by
  obtain⟨i,hi,rfl⟩:=XaQ hx;obtain⟨_,_,_,_,_,_,h⟩:=h3 i hi;exact Dat.ok h⟩
 plain _:=λ⟨_,_,h,_⟩=>by simp at h;rw[h];rfl
 scal:=λ⟨_,_,h,_⟩ v hv=>by rw[h]at hv;simp at hv;rw[hv];rfl
 z:=[]
 zc:=[.slice none 0 0]
 zrd:=⟨none,0,rfl,Xau _,Xcq _,Xcq _,λi hi=>absurd hi (by simp)⟩
 mono:=λk ⟨a,c,h0,h1,h2,h2',h3⟩=>⟨a,c,h0,h1,h2,h2',λi hi=>by
  obtain⟨b,off,g1,g2,es,g3,g4⟩:=h3 i hi;refine⟨b,off,g1,?_,es,k.row g2 g3,Dat.mono k g4⟩;exact(k.h b (Q1 (g3 0 (by rw[Dat.len g4];exact Dat.pos))) g2).1⟩
class BoolIs(x y:Bool):Prop where
 h:x=y
instance {x:Bool}:BoolIs x x:=⟨rfl⟩
class Ft(p:Prop):Prop where
 h:p
class Has(Γ:Env)(x:Operand)(τ:outParam Ty):Prop where
 le:∀(a:Act) A w,(∀t,x=.tmp t->(Γ t).p A w (a.tmps.getD t undef))->τ.p A w (a.eval x)
instance ZfV{Γ:Env}{t t':Tmp}{τ σ:Ty}[BoolIs (Nat.beq t t') false] [h:Has Γ (.tmp t) τ]:Has (Env.set Γ t' σ) (.tmp t) τ where
 le a A w hl:=h.le a A w λu hu=>by
  have:=hl u hu;injection hu with hu;subst hu;have hne:t≠t':=λe=>by
   have:=(inferInstance:BoolIs (Nat.beq t t') false).h;rw[e]at this;simp at this
  unfold Env.set at this
  rwa [if_neg hne]at this
instance (priority:=2000) hasHere {Γ:Env}{t:Tmp}{τ:Ty}:Has (Env.set Γ t τ) (.tmp t) τ where
 le a A w hl:=by
  have:=hl t rfl;unfold Env.set at this;rw[if_pos rfl]at this;exact this
instance {Γ:Env}{n:Int}:Has Γ (.const (.int .i64 n)) (I n):=⟨λ_ _ _ _=>rfl⟩
instance {Γ:Env}{b:Bool}:Has Γ (.const (.bool b)) (B b):=⟨λ_ _ _ _=>rfl⟩
instance {Γ:Env}:Has Γ (.const (.slice none 0 0)) Ro:=⟨λ_ _ _ _=>rfl⟩
instance {Γ:Env}{l:List UInt8}:Has Γ (.const (.string ⟨l.toArray⟩)) (Str l):=⟨λ_ _ _ _=>rfl⟩
instance {Γ:Env}{n:Nat}[BoolIs (Xbn n 255) true]:Has Γ (.const (.int .u8 (no_index (Xee n)))) (U8 (XaN n)):=⟨λa A w _=>by
 have h:=(inferInstance:BoolIs (Xbn n 255) true).h;have h:n<256:=by have:=Xcb h;omega
 show XbR .u8 ((n:Nat):Int)=XbR .u8 ((XaN n).toNat:Int);rw[XdT h]⟩
instance {Γ:Env}{n:Nat}[BoolIs (Xbn n 65535) true]:Has Γ (.const (.int .u16 (no_index (Xee n)))) (U16 (Xcj n)):=⟨λa A w _=>by
 have h:=(inferInstance:BoolIs (Xbn n 65535) true).h;have h:n<65536:=by have:=Xcb h;omega
 show XbR .u16 ((n:Nat):Int)=XbR .u16 ((Xcj n).toNat:Int);rw[XdF h]⟩
instance {Γ:Env}{n:Nat}[BoolIs (Xbn n 4294967295) true]:Has Γ (.const (.int .u32 (no_index (Xee n)))) (U32 (XcC n)):=⟨λa A w _=>by
 have h:=(inferInstance:BoolIs (Xbn n 4294967295) true).h;have h:n<4294967296:=by have:=Xcb h;omega
 show XbR .u32 ((n:Nat):Int)=XbR .u32 ((XcC n).toNat:Int);rw[XeX h]⟩
instance {Γ:Env}{n:Nat}[BoolIs (Xbn n 18446744073709551615) true]:Has Γ (.const (.int .u64 (no_index (Xee n)))) (U64 (Xap n)):=⟨λa A w _=>by
 have h:=(inferInstance:BoolIs (Xbn n 18446744073709551615) true).h;have h:n<18446744073709551616:=by have:=Xcb h;omega
 show XbR .u64 ((n:Nat):Int)=XbR .u64 ((Xap n).toNat:Int);rw[XcP h]⟩
class AsI(τ:Ty)(n:outParam Int):Prop where
 le:τ.le (I n)
class AsB(τ:Ty)(b:outParam Bool):Prop where
 le:τ.le (B b)
class AsU8(τ:Ty)(x:outParam UInt8):Prop where
 le:τ.le (U8 x)
class AsU16(τ:Ty)(x:outParam UInt16):Prop where
 le:τ.le (U16 x)
class AsU32(τ:Ty)(x:outParam UInt32):Prop where
 le:τ.le (U32 x)
class AsU64(τ:Ty)(x:outParam UInt64):Prop where
 le:τ.le (U64 x)
class AsStr(τ:Ty)(l:outParam (List UInt8)):Prop where
 le:τ.le (Str l)
class AsT(τ:Ty)(σ:outParam Ty):Prop where
 le:τ.le σ
instance (priority:=100){τ:Ty}:AsT τ τ:=⟨Ty.le.refl _⟩
instance {p:Prop}{τ σ:Ty}[h:Ft p] [k:AsT τ σ]:AsT (HY p τ) σ:=⟨λA w v x=>k.le A w v (x.1 h.h)⟩
theorem NM{α:Type}[Dat α] {A:Nat->Prop}{x:α}{w:World}{v:Value} (ha:Dat.agg α=false) (h:(D x).p A w v):Dat.rd A w [v] x:=by
 obtain⟨cs,h1,rfl⟩:=h;have:=Dat.len h1;rw[Dat.one ha]at this
 match cs,this with
 | [u],_=>simpa[mkV,ha]using h1
instance {n:Int}:AsI (I n) n:=⟨Ty.le.refl _⟩
instance {n:Int}:AsI (D n) n:=⟨λ_ _ _ h=>by have:=(NM rfl h).1;simpa[I,Ex]using this⟩
instance {p:Prop}{τ:Ty}{n:Int}[h:Ft p] [k:AsI τ n]:AsI (HY p τ) n:=⟨λA w v x=>k.le A w v (x.1 h.h)⟩
instance {b:Bool}:AsB (B b) b:=⟨Ty.le.refl _⟩
instance {b:Bool}:AsB (D b) b:=⟨λ_ _ _ h=>by have:=NM rfl h;simpa[B,Ex,Dat.rd]using this⟩
instance {p:Prop}{τ:Ty}{b:Bool}[h:Ft p] [k:AsB τ b]:AsB (HY p τ) b:=⟨λA w v x=>k.le A w v (x.1 h.h)⟩
instance {x:UInt8}:AsU8 (U8 x) x:=⟨Ty.le.refl _⟩
instance {x:UInt8}:AsU8 (D x) x:=⟨λ_ _ _ h=>by have:=NM rfl h;simpa[U8,Ex,Dat.rd]using this⟩
instance {p:Prop}{τ:Ty}{x:UInt8}[h:Ft p] [k:AsU8 τ x]:AsU8 (HY p τ) x:=⟨λA w v x=>k.le A w v (x.1 h.h)⟩
instance {x:UInt16}:AsU16 (U16 x) x:=⟨Ty.le.refl _⟩
instance {x:UInt16}:AsU16 (D x) x:=⟨λ_ _ _ h=>by have:=NM rfl h;simpa[U16,Ex,Dat.rd]using this⟩
instance {p:Prop}{τ:Ty}{x:UInt16}[h:Ft p] [k:AsU16 τ x]:AsU16 (HY p τ) x:=⟨λA w v x=>k.le A w v (x.1 h.h)⟩
instance {x:UInt32}:AsU32 (U32 x) x:=⟨Ty.le.refl _⟩
instance {x:UInt32}:AsU32 (D x) x:=⟨λ_ _ _ h=>by have:=NM rfl h;simpa[U32,Ex,Dat.rd]using this⟩
instance {x:UInt64}:AsU64 (U64 x) x:=⟨Ty.le.refl _⟩
instance {x:UInt64}:AsU64 (D x) x:=⟨λ_ _ _ h=>by have:=NM rfl h;simpa[U64,Ex,Dat.rd]using this⟩
instance {p:Prop}{τ:Ty}{x:UInt64}[h:Ft p] [k:AsU64 τ x]:AsU64 (HY p τ) x:=⟨λA w v x=>k.le A w v (x.1 h.h)⟩
instance {l:List UInt8}:AsStr (Str l) l:=⟨Ty.le.refl _⟩
instance {p:Prop}{τ:Ty}{l:List UInt8}[h:Ft p] [k:AsStr τ l]:AsStr (HY p τ) l:=⟨λA w v x=>k.le A w v (x.1 h.h)⟩
theorem Ro.le{α:Type}[Dat α]:Ro.le (D ([]:List α)):=λ_ _ v h=>by
 have h:v=.slice none 0 0:=h;subst h;exact⟨[.slice none 0 0],⟨none,0,rfl,Xau _,Xcq _,Xcq _,λi hi=>absurd hi (by simp)⟩,rfl⟩
theorem Has.at{Γ:Env}{t:Tmp}{τ:Ty} (h:Has Γ (.tmp t) τ):(Γ t).le τ:=λA w v hv=>by
 have:=h.le ⟨Array.replicate (t+1) v,[]⟩ A w λu hu=>by
  injection hu with hu;subst hu;simpa[Array.getD_eq_getD_getElem?]using hv
 simpa[Act.eval]using this
class InB(bs:List Nat)(b:Nat):Prop where
 h:True
instance (priority:=2000){b:Nat}{bs:List Nat}:InB (b::bs) b:=⟨trivial⟩
instance {b c:Nat}{bs:List Nat}[InB bs b]:InB (c::bs) b:=⟨trivial⟩
theorem Fb.cons{Ω Ω':List Pe}{e:Pe} (h:Fb Ω Ω'):Fb (e::Ω) (e::Ω') where
 own k:=by
  rintro⟨f,hf,hp,hb⟩;rcases Xa1.1 hf with rfl|hf
  .exact ⟨f,Xay ..,hp,hb⟩
  .obtain ⟨g,hg,h1⟩:=h.own k ⟨f,hf,hp,hb⟩;exact⟨g,Xaw _ hg,h1⟩
 ap hp:=by
  have hp:=XaO.1 hp;refine XaO.2 ⟨λf hf p1 p2 he=>?_,h.ap hp.2⟩;obtain⟨g,hg,hq,hb⟩:=h.own f.b ⟨f,hf,p2,rfl⟩;exact hp.1 g hg p1 hq (he.trans hb.symm)
 ks A w hk:=λf hf=>by
  rcases Xa1.1 hf with rfl|hf
  .exact hk f (Xay ..)
  .exact h.ks A w (λg hg=>hk g (Xaw _ hg)) f hf
theorem Fb.drop{Ω Ω':List Pe}{e:Pe} (h:Fb Ω Ω'):Fb (e::Ω) Ω':=
 ⟨λk hk=>let ⟨g,hg,h1⟩:=h.own k hk;⟨g,Xaw _ hg,h1⟩,λhp=>h.ap (XaO.1 hp).2,λA w hk=>h.ks A w λg hg=>hk g (Xaw _ hg)⟩
class AsIx(τ:Ty)(n:outParam Int):Prop where
 h:∀{A w v},τ.p A w v->∃k,v=.int k n
instance (priority:=1100){τ:Ty}{n:Int}[k:AsI τ n]:AsIx τ n:=⟨λh=>⟨.i64,k.le _ _ _ h⟩⟩
section step
variable {P:Program}{r:Ref}{B:Nat}{Ωs:List Pe}{ops:Array Oper}{n:Nat}{ms:List Nat}{k:Nat}{Γ:Env}{Ω:List Pe}{F:Fam}{Q:Exit->Act->World->Prop}{K:Env->Fam->Prop}
theorem Px{j:Nat}{g:Tmp}{b:Bool}{a:Act} (hg:(ops[j]?).bind (·.dst)=some g) (hv:a.tmps.getD g undef=.bool b):yielded ops a.tmps j=some b:=by
 unfold yielded;rw[hg];simp only[XfY];rw[Array.getD_eq_getD_getElem?]at hv;cases h:a.tmps[g]? with
 | none=>rw[h]at hv;simp[undef]at hv
 | some v=>rw[h]at hv;simp at hv;rw[hv]
theorem OpG.s{d:Option Tmp}{op:Op}{ty:TypeId}{pos:String}{aft:Array Edge}{τ:Ty} (h:∀{A:Nat->Prop},OpY P B A Ωs Γ ⟨d,op,ty,pos,aft,none⟩ τ):OpG P B ops Ωs Γ ⟨d,op,ty,pos,aft,none⟩ τ:=λA a w hB hu hp hl=>by
 rw[if_pos (by simp[Xa3])];exact h a w hB hu hp λt ht=>hl t (IC ht)
theorem ZfH{d:Tmp}{op:Op}{ty:TypeId}{pos:String}{aft:Array Edge}{τ:Ty}{j:Nat}{want:Bool}{b:Bool} (g:Tmp) {σ:Ty}[hs:Has Γ (.tmp g) σ] [hb:AsB σ b]
  (hg:(ops[j]?).bind (·.dst)=some g)
  (h:Ft (b=want)->∀{A:Nat->Prop},OpY P B A Ωs Γ ⟨some d,op,ty,pos,aft,some (j,want)⟩ τ):OpG P B ops Ωs Γ ⟨some d,op,ty,pos,aft,some (j,want)⟩ (HY (b=want) τ):=λA a w hB hu hp hl=>by
 have hv:a.tmps.getD g undef=.bool b:=by
  refine hb.le A w _ (hs.at A w _ (hl g ?_));unfold XeJ;refine Xar.2 (.inr ?_);simp[hg]
 have hy:=Px (ops:=ops) hg hv
 by_cases hbw:b=want
 .subst hbw;rw[if_pos (by simp[Xa3,hy])];have:=h ⟨rfl⟩ a w hB hu hp λt ht=>hl t (IC ht)
  generalize (execOp a.eval _).run P w=r at *;cases r with
  | ok x w'=>
   cases x<;>simp only[IP]at this⊢
   case value v=>exact⟨this.1,λ_=>this.2,λx=>absurd trivial (by simp at x)⟩
   case skip=>exact⟨this.1,λ_=>this.2,λx=>absurd trivial (by simp at x)⟩
   case enter f args=>exact⟨this.1,this.2.mono λe w'' ⟨v,h1,h2,h3⟩=>⟨v,h1,h2,λ_=>h3,λx=>absurd trivial (by simp at x)⟩⟩
  | halt x w'=>simp only[IP]at this
 .rw [if_neg (by simp[Xa3,hy];exact hbw)];exact⟨λx=>absurd x hbw,λ_=>rfl⟩
theorem Zc1{d:Tmp}{op:Op}{ty:TypeId}{pos:String}{aft:Array Edge}{τ:Ty}{j:Nat}{want:Bool}{p:Prop}{b:Bool} (g:Tmp) {σ:Ty}[hs:Has Γ (.tmp g) (HY p σ)] [hb:AsB σ b]
  (hg:(ops[j]?).bind (·.dst)=some g)
  (h:Ft p->Ft (b=want)->∀{A:Nat->Prop},OpY P B A Ωs Γ ⟨some d,op,ty,pos,aft,some (j,want)⟩ τ):OpG P B ops Ωs Γ ⟨some d,op,ty,pos,aft,some (j,want)⟩ (HY (p/\b=want) τ):=λA a w hB hu hp hl=>by
 have hv:=hs.at A w _ (hl g (by
  unfold XeJ;refine Xar.2 (.inr ?_);simp[hg]))
 by_cases hpp:p
 .have hv:a.tmps.getD g undef=.bool b:=hb.le A w _ (hv.1 hpp);have hy:=Px (ops:=ops) hg hv
  by_cases hbw:b=want
  .subst hbw;rw[if_pos (by simp[Xa3,hy])];have:=h ⟨hpp⟩ ⟨rfl⟩ a w hB hu hp λt ht=>hl t (IC ht)
   generalize (execOp a.eval _).run P w=r at *;cases r with
   | ok x w'=>
    cases x<;>simp only[IP]at this⊢
    case value v=>exact⟨this.1,λ_=>this.2,λx=>absurd hpp (by simpa using x)⟩
    case skip=>exact⟨this.1,λ_=>this.2,λx=>absurd hpp (by simpa using x)⟩
    case enter f args=>exact⟨this.1,this.2.mono λe w'' ⟨v,h1,h2,h3⟩=>⟨v,h1,h2,λ_=>h3,λx=>absurd hpp (by simpa using x)⟩⟩
   | halt x w'=>simp only[IP]at this
  .rw [if_neg (by simp[Xa3,hy];exact hbw)];exact⟨λx=>absurd x.2 hbw,λ_=>rfl⟩
 .have hu:a.tmps.getD g undef=undef:=hv.2 hpp;have hn:yielded ops a.tmps j=none:=by
   unfold yielded;rw[hg];simp only[XfY];rw[Array.getD_eq_getD_getElem?]at hu;cases h:a.tmps[g]? with
   | none=>rfl
   | some v=>rw[h]at hu;simp at hu;rw[hu];rfl
  rw[if_neg (by simp[Xa3,hn])];exact⟨λx=>absurd x.1 hpp,λ_=>rfl⟩
theorem Sq(h:K Γ F):TRw P B Ωs ops n ms k [] Γ F K:=h
theorem Zgq{d:Tmp}{op:Op}{ty:TypeId}{pos:String}{aft:Array Edge}{gd:Option (Nat×Bool)}{rest:List Oper}{τ:Ty}
  (h:OpG P B ops Ωs Γ ⟨some d,op,ty,pos,aft,gd⟩ τ) (hd:(XaZ d n && !ms.contains k && !F.tl.contains d)=true) (hk:TRw P B Ωs ops n ms (k+1) rest (Γ.set d τ) F K):TRw P B Ωs ops n ms k (⟨some d,op,ty,pos,aft,gd⟩::rest) Γ F K:=by
 simp only[Xaz,Bool.not_eq_true']at hd;exact⟨λt e=>by injection e with e;subst e;simpa using hd.1.1,.inl ⟨by simpa using hd.1.2,λt e=>by injection e with e;subst e;simpa using hd.2,τ,h,hk⟩⟩
theorem Fd{d:Tmp}{op:Op}{ty:TypeId}{pos:String}{aft:Array Edge}{rest:List Oper}{τ:Ty}
  (h:∀{A:Nat->Prop},OpY P B A Ωs Γ ⟨some d,op,ty,pos,aft,none⟩ τ) (hd:(XaZ d n && !ms.contains k && !F.tl.contains d)=true) (hk:TRw P B Ωs ops n ms (k+1) rest (Γ.set d τ) F K):TRw P B Ωs ops n ms k (⟨some d,op,ty,pos,aft,none⟩::rest) Γ F K:=
 Zgq (OpG.s h) hd hk
theorem Yg{d:Tmp}{op:Op}{ty:TypeId}{pos:String}{aft:Array Edge}{rest:List Oper}{τ:Ty}{j:Nat}{want:Bool}{b:Bool} (g:Tmp) {σ:Ty}[hs:Has Γ (.tmp g) σ] [hb:AsB σ b]
  (hg:(ops[j]?).bind (·.dst)=some g)
  (h:Ft (b=want)->∀{A:Nat->Prop},OpY P B A Ωs Γ ⟨some d,op,ty,pos,aft,some (j,want)⟩ τ) (hd:(XaZ d n && !ms.contains k && !F.tl.contains d)=true) (hk:TRw P B Ωs ops n ms (k+1) rest (Γ.set d (HY (b=want) τ)) F K):TRw P B Ωs ops n ms k (⟨some d,op,ty,pos,aft,some (j,want)⟩::rest) Γ F K:=
 Zgq (ZfH g hg h) hd hk
theorem Zd7{d:Tmp}{op:Op}{ty:TypeId}{pos:String}{aft:Array Edge}{rest:List Oper}{τ:Ty}{j:Nat}{want:Bool}{p:Prop}{b:Bool} (g:Tmp) {σ:Ty}[hs:Has Γ (.tmp g) (HY p σ)] [hb:AsB σ b]
  (hg:(ops[j]?).bind (·.dst)=some g)
  (h:Ft p->Ft (b=want)->∀{A:Nat->Prop},OpY P B A Ωs Γ ⟨some d,op,ty,pos,aft,some (j,want)⟩ τ) (hd:(XaZ d n && !ms.contains k && !F.tl.contains d)=true) (hk:TRw P B Ωs ops n ms (k+1) rest (Γ.set d (HY (p/\b=want) τ)) F K):TRw P B Ωs ops n ms k (⟨some d,op,ty,pos,aft,some (j,want)⟩::rest) Γ F K:=
 Zgq (Zc1 g hg h) hd hk
@[reducible] def Fam.nextS(F:Fam)(d:Tmp){μ:F.ν->Type}(τ:(g:F.ν)->μ g->Ty)(Ω':(g:F.ν)->μ g->List Pe):Fam:=
 ⟨(g:F.ν)×μ g,λg=>Env.set (F.Θ g.1) d (τ g.1 g.2),λg=>Ω' g.1 g.2,d::F.tl,(F.next (some d) τ Ω').off⟩
@[reducible] def Fam.nextN(F:Fam){μ:F.ν->Type}(Ω':(g:F.ν)->μ g->List Pe):Fam:=
 ⟨(g:F.ν)×μ g,λg=>F.Θ g.1,λg=>Ω' g.1 g.2,F.tl,λg t h=>F.off g.1 t h⟩
theorem GT{d:Tmp}{op:Op}{ty:TypeId}{pos:String}{aft:Array Edge}{gd:Option (Nat×Bool)}{rest:List Oper}{μ:F.ν->Type}{τ:(g:F.ν)->μ g->Ty}{Ω':(g:F.ν)->μ g->List Pe}
  (h:∀g,OpT P B Ωs (F.Ω g) (Env.or (F.Θ g) Γ) ⟨some d,op,ty,pos,aft,gd⟩ (τ g) (Ω' g)) (hd:(XaZ d n&&ms.contains k)=true) (hk:TRw P B Ωs ops n ms (k+1) rest (Γ.set d Ty.any) (F.nextS d τ Ω') K):TRw P B Ωs ops n ms k (⟨some d,op,ty,pos,aft,gd⟩::rest) Γ F K:=by
 simp only[Xaz]at hd;exact⟨λt e=>by injection e with e;subst e;simpa using hd.1,.inr ⟨by simpa using hd.2,μ,τ,Ω',Zc2 h,hk⟩⟩
theorem DP{op:Op}{ty:TypeId}{pos:String}{aft:Array Edge}{gd:Option (Nat×Bool)}{rest:List Oper}{μ:F.ν->Type}{τ:(g:F.ν)->μ g->Ty}{Ω':(g:F.ν)->μ g->List Pe}
  (h:∀g,OpT P B Ωs (F.Ω g) (Env.or (F.Θ g) Γ) ⟨none,op,ty,pos,aft,gd⟩ (τ g) (Ω' g)) (hd:ms.contains k=true) (hk:TRw P B Ωs ops n ms (k+1) rest Γ (F.nextN Ω') K):TRw P B Ωs ops n ms k (⟨none,op,ty,pos,aft,gd⟩::rest) Γ F K:=
 ⟨λt e=>(by cases e),.inr ⟨by simpa using hd,μ,τ,Ω',Zc2 h,hk⟩⟩
theorem A4{d:Tmp}{op:Op}{ty:TypeId}{pos:String}{aft:Array Edge}{rest:List Oper}{τ:Ty}
  (h:∀{A:Nat->Prop},OpY P r.w.heap.size A Ω Γ ⟨some d,op,ty,pos,aft,none⟩ τ) (hd:XaZ d n=true) (hk:TS P r n ops rest (k+1) (Γ.set d τ) Ω Q):TS P r n ops (⟨some d,op,ty,pos,aft,none⟩::rest) k Γ Ω Q:=
 ZfY (λt e=>by injection e with e;subst e;simpa using hd) (OpG.s h) hk
theorem MC{d:Tmp}{op:Op}{ty:TypeId}{pos:String}{aft:Array Edge}{rest:List Oper}{τ:Ty}{j:Nat}{want:Bool}{b:Bool} (g:Tmp) {σ:Ty}[hs:Has Γ (.tmp g) σ] [hb:AsB σ b]
  (hg:(ops[j]?).bind (·.dst)=some g)
  (h:Ft (b=want)->∀{A:Nat->Prop},OpY P r.w.heap.size A Ω Γ ⟨some d,op,ty,pos,aft,some (j,want)⟩ τ) (hd:XaZ d n=true) (hk:TS P r n ops rest (k+1) (Γ.set d (HY (b=want) τ)) Ω Q):TS P r n ops (⟨some d,op,ty,pos,aft,some (j,want)⟩::rest) k Γ Ω Q:=
 ZfY (λt e=>by injection e with e;subst e;simpa using hd) (ZfH g hg h) hk
theorem Q7{d:Tmp}{op:Op}{ty:TypeId}{pos:String}{aft:Array Edge}{rest:List Oper}{τ:Ty}{j:Nat}{want:Bool}{p:Prop}{b:Bool} (g:Tmp) {σ:Ty}[hs:Has Γ (.tmp g) (HY p σ)] [hb:AsB σ b]
  (hg:(ops[j]?).bind (·.dst)=some g)
  (h:Ft p->Ft (b=want)->∀{A:Nat->Prop},OpY P r.w.heap.size A Ω Γ ⟨some d,op,ty,pos,aft,some (j,want)⟩ τ) (hd:XaZ d n=true) (hk:TS P r n ops rest (k+1) (Γ.set d (HY (p/\b=want) τ)) Ω Q):TS P r n ops (⟨some d,op,ty,pos,aft,some (j,want)⟩::rest) k Γ Ω Q:=
 ZfY (λt e=>by injection e with e;subst e;simpa using hd) (Zc1 g hg h) hk
theorem D4[op:Opens r]{d:Tmp}{op:Op}{ty:TypeId}{pos:String}{aft:Array Edge}{gd:Option (Nat×Bool)}{rest:List Oper}{ν:Type}{τ:ν->Ty}{Ω':ν->List Pe}
  (h:OpT P r.w.heap.size [] Ω Γ ⟨some d,op,ty,pos,aft,gd⟩ τ Ω') (hd:XaZ d n=true) (hk:∀g,TS P r n ops rest (k+1) (Γ.set d (τ g)) (Ω' g) Q):TS P r n ops (⟨some d,op,ty,pos,aft,gd⟩::rest) k Γ Ω Q:=
 TS.T (Ωs:=[]) (Fb.refl _) (λt e=>by injection e with e;subst e;simpa using hd) h hk
theorem Zgn[op:Opens r]{op:Op}{ty:TypeId}{pos:String}{aft:Array Edge}{gd:Option (Nat×Bool)}{rest:List Oper}{ν:Type}{τ:ν->Ty}{Ω':ν->List Pe}
  (h:OpT P r.w.heap.size [] Ω Γ ⟨none,op,ty,pos,aft,gd⟩ τ Ω') (hk:∀g,TS P r n ops rest (k+1) Γ (Ω' g) Q):TS P r n ops (⟨none,op,ty,pos,aft,gd⟩::rest) k Γ Ω Q:=
 TS.T (Ωs:=[]) (Fb.refl _) (λt e=>by cases e) h hk
theorem OpT.frame{Ω Ωt Ωr:List Pe}{Γ:Env}{o:Oper}{ν:Type}{τ:ν->Ty}{Ω':ν->List Pe} (hp:Ω.Perm (Ωt++Ωr)) (h:OpT P B (Ωs++Ωr) Ωt Γ o τ Ω'):OpT P B Ωs Ω Γ o τ λm=>Ω' m++Ωr:=by
 refine⟨h.1,λA0 a w hB hu ho ha hk hl=>?_⟩;have hp1:(Ωs++Ω).Perm ((Ωs++Ωr)++Ωt):=by
  rw[XaM];exact(hp.trans XcO).append_left _
 have hown:∀k,Own ((Ωs++Ωr)++Ωt) k↔Own (Ωs++Ω) k:=λk=>⟨λ⟨e,he,h1⟩=>⟨e,hp1.mem_iff.2 he,h1⟩,λ⟨e,he,h1⟩=>⟨e,hp1.mem_iff.1 he,h1⟩⟩
 have hpub:Pub A0 ((Ωs++Ωr)++Ωt)=Pub A0 (Ωs++Ω):=by
  funext k;exact propext (by rw[ZC,ZC,hown])
 have hap:Gh ((Ωs++Ωr)++Ωt):=(hp1.pairwise_iff (λ{x y} hxy p1 p2 he=>hxy p2 p1 he.symm)).1 ha;have hks:Pks (Pub A0 ((Ωs++Ωr)++Ωt)) ((Ωs++Ωr)++Ωt) w:=by
  rw[hpub];exact λe he=>hk e (hp1.mem_iff.2 he)
 have hot:∀k,Own Ωt k->Own Ω k:=λk ⟨e,he,h1⟩=>⟨e,hp.mem_iff.2 (Xbr _ he),h1⟩
 have hor:∀k,Own Ωr k->Own Ω k:=λk ⟨e,he,h1⟩=>⟨e,hp.mem_iff.2 (XaL _ he),h1⟩
 have hy:=h.2 A0 a w hB hu (λk hk=>ho k (hot k hk)) hap hks (λt ht=>by rw[hpub];exact hl t ht);have conv:∀g w' v,Aft B A0 (Ωs++Ωr) Ωt (τ g) (Ω' g) w w' v->Aft B A0 Ωs Ω (τ g) (Ω' g++Ωr) w w' v:=λg w' v k=>by
  have hp2:((Ωs++Ωr)++Ω' g).Perm (Ωs++(Ω' g++Ωr)):=by
   rw[XaM];exact List.perm_append_comm.append_left _
  have hown2:∀k,Own ((Ωs++Ωr)++Ω' g) k↔Own (Ωs++(Ω' g++Ωr)) k:=λk=>⟨λ⟨e,he,h1⟩=>⟨e,hp2.mem_iff.1 he,h1⟩,λ⟨e,he,h1⟩=>⟨e,hp2.mem_iff.2 he,h1⟩⟩
  have hpub2:Pub A0 ((Ωs++Ωr)++Ω' g)=Pub A0 (Ωs++(Ω' g++Ωr)):=by
   funext k;exact propext (by rw[ZC,ZC,hown2])
  have hkp:HD (Pub A0 ((Ωs++Ωr)++Ωt)) (Pub A0 ((Ωs++Ωr)++Ω' g)) w w':=by
   refine⟨k.st.size,λj hj hpj=>?_⟩;obtain⟨h1,h2⟩:=ZC.1 hpj;refine⟨ZC.2 ⟨h1,λho=>?_⟩,k.st.cells j hj λho=>h2 (ZV.2 (.inr ho))⟩;rcases ZV.1 ho with ho|ho
   .exact h2 (ZV.2 (.inl ho))
   .rcases k.nw j ho with ho|ho
    .exact h2 (ZV.2 (.inr ho))
    .omega
  refine⟨k.st.mono (Xau _) hot,λj hj=>?_,(hp2.pairwise_iff (λ{x y} hxy p1 p2 he=>hxy p2 p1 he.symm)).1 k.ap,by rw[<-hpub2];exact k.ty,?_⟩
  .rcases ZV.1 hj with hj|hj
   .rcases k.nw j hj with h1|h1
    .exact .inl (hot j h1)
    .exact .inr h1
   .exact .inl (hor j hj)
  .rw [<-hpub2];refine Bz.2 ⟨k.ks,?_⟩;refine(Bz.1 (Bz.1 hks).1).2.keep hkp λj hj ho=>k.st.cells j hj λho2=>?_
   obtain⟨e,he,hp,hb⟩:=ho;obtain⟨f,hf,hq,hbf⟩:=ho2;exact(XaH.1 hap).2.2 e (XaL _ he) f hf hp hq (hb.trans hbf.symm)
 generalize (execOp a.eval o).run P w=r at *;cases r with
 | ok x w'=>
  cases x<;>simp only[Ge]at hy⊢
  case value v=>obtain⟨g,h⟩:=hy;exact⟨g,conv _ _ _ h⟩
  case skip=>obtain⟨g,h⟩:=hy;exact⟨g,conv _ _ _ h⟩
  case enter f args=>exact hy.mono λe w'' ⟨v,g,h1,h2⟩=>⟨v,g,h1,conv _ _ _ h2⟩
 | halt x w'=>simp only[Ge]at hy
theorem HA{Γ:Env}{o:Oper}{τ:Ty} (hg:o.guard=none) (h:∀{A:Nat->Prop},OpY P B A (Ωs++Ω) Γ o τ):OpT P B Ωs Ω Γ o (λ_:Unit=>τ) λ_=>Ω:=by
 refine⟨hg,λA0 a w hB hu ho ha hk hl=>?_⟩;have hy:=h (A:=Pub A0 (Ωs++Ω)) a w hB (λk hk'=>ZC.2 ⟨hu k hk',λho=>by have:=hk.lt ho;omega⟩) hk hl;have conv:∀w' v,KP B w w'->τ.p (Pub A0 (Ωs++Ω)) w' v->Aft B A0 Ωs Ω τ Ω w w' v:=λw' v hg hv=>
  ⟨Er hg,λk hk=>.inl hk,ha,hv,(Bz.1 hk).2.keep (HD.grow hg) λj hj _=>hg.cells j hj⟩
 generalize (execOp a.eval o).run P w=r at *;cases r with
 | ok x w'=>
  cases x<;>simp only[IP]at hy<;>simp only[Ge]
  case value v=>exact⟨(),conv _ _ hy.1 hy.2⟩
  case skip=>exact⟨(),conv _ _ hy.1 hy.2⟩
  case enter f args=>exact hy.2.mono λe w'' ⟨v,h1,h2,h3⟩=>⟨v,(),h1,conv _ _ (hy.1.trans h2) h3⟩
 | halt x w'=>simp only[IP]at hy
end step
section ops
variable {P:Program}{B0:Nat}{A:Nat->Prop}{Ω:List Pe}{Γ:Env}{dst:Option Tmp}{ty:TypeId}{pos:String}{aft:Array Edge}{gd:Option (Nat×Bool)}
theorem OpY.val{op:Op}{τ:Ty} (h:∀(a:Act) (w:World),(∀t,.tmp t∈op.operands.toList->(Γ t).p A w (a.tmps.getD t undef))->∃v,(execOp a.eval ⟨dst,op,ty,pos,aft,gd⟩).run P w=.ok (.value v) w/\τ.p A w v) :
  OpY P B0 A Ω Γ ⟨dst,op,ty,pos,aft,gd⟩ τ:=λa w _ _ _ hl=>by
 obtain⟨v,h1,h2⟩:=h a w hl;rw[h1];exact⟨KP.refl _ _,h2⟩
theorem Zy{x:Operand}{τ:Ty}[h:Has Γ x τ] {op:Op}{a:Act}{w:World} (hx:x∈op.operands.toList) (hl:∀t,.tmp t∈op.operands.toList->(Γ t).p A w (a.tmps.getD t undef)):τ.p A w (a.eval x):=
 h.le a A w λt e=>hl t (e▸hx)
theorem E9{x:Operand}{τ σ:Ty}[Has Γ x τ] [k:AsT τ σ]:OpY P B0 A Ω Γ ⟨dst,.move x,ty,pos,aft,gd⟩ σ:=
 OpY.val λa w hl=>⟨a.eval x,rfl,k.le _ _ _ (Zy (τ:=τ) (by simp[Xae]) hl)⟩
theorem FM{x:Operand}{τ σ:Ty}[Has Γ x τ] [k:AsT τ σ]:OpY P B0 A Ω Γ ⟨dst,.assign x,ty,pos,aft,gd⟩ σ:=
 OpY.val λa w hl=>⟨a.eval x,rfl,k.le _ _ _ (Zy (τ:=τ) (by simp[Xae]) hl)⟩
theorem evC(a:Act)(v:Value):a.eval (.const v)=v:=rfl
class AsBC(σ:Ty)(b want:Bool)(d:outParam Bool):Prop where
 le:b=want->σ.le (B d)
instance {b want d:Bool}{τ:Ty}[k:AsB τ d]:AsBC (HY (b=want) τ) b want d:=⟨λh _ _ _ x=>k.le _ _ _ (x.1 h)⟩
theorem T2{c x:Operand}{τ σ:Ty}{b d:Bool}[Has Γ c τ] [hb:AsB τ b] [Has Γ x σ] [hd:AsBC σ b true d] :
  OpY P B0 A Ω Γ ⟨dst,.pick c x (.const (.bool false)),ty,pos,aft,gd⟩ (B (b&&d)):=
 OpY.val λa w hl=>by
  have h1:a.eval c=.bool b:=hb.le _ _ _ (Zy (τ:=τ) (by simp[Xae]) hl);have h2:σ.p A w (a.eval x):=Zy (by simp[Xae]) hl;cases b with
  | false=>exact⟨.bool false,by simp[execOp,h1,asBool,evC],rfl⟩
  | true=>
   have h3:a.eval x=.bool d:=hd.le rfl _ _ _ h2;exact⟨.bool d,by simp[execOp,h1,asBool,h3,evC],rfl⟩
theorem Wt{c x:Operand}{τ σ:Ty}{b d:Bool}[Has Γ c τ] [hb:AsB τ b] [Has Γ x σ] [hd:AsBC σ b false d] :
  OpY P B0 A Ω Γ ⟨dst,.pick c (.const (.bool true)) x,ty,pos,aft,gd⟩ (B (b||d)):=
 OpY.val λa w hl=>by
  have h1:a.eval c=.bool b:=hb.le _ _ _ (Zy (τ:=τ) (by simp[Xae]) hl);have h2:σ.p A w (a.eval x):=Zy (by simp[Xae]) hl;cases b with
  | true=>exact⟨.bool true,by simp[execOp,h1,asBool,evC],rfl⟩
  | false=>
   have h3:a.eval x=.bool d:=hd.le rfl _ _ _ h2;exact⟨.bool d,by simp[execOp,h1,asBool,h3,evC],rfl⟩
theorem ZbS{x:Operand}{t:TypeId}{τ:Ty}{b:Bool}[Has Γ x τ] [hb:AsB τ b]:OpY P B0 A Ω Γ ⟨dst,.unOp .not t x,ty,pos,aft,gd⟩ (B (!b)):=
 OpY.val λa w hl=>⟨.bool (!b),by
  have e1:a.eval x=.bool b:=hb.le _ _ _ (Zy (x:=x) (τ:=τ) (op:=.unOp .not t x) (by simp[Xae]) hl);simp only[execOp,e1,XgO,Xag,Xai,Xab],rfl⟩
theorem D8{z:Int}(h1:-9223372036854775808<=z)(h2:z<=9223372036854775807):IntKind.i64.wrap z=z:=by
 simp[Xd0,Xc6,XcI];split<;>omega
section int
variable {x y:Operand}{τ σ:Ty}{t u:TypeId}{m k:Int}[hsx:Has Γ x τ] [hx:AsI τ m] [hsy:Has Γ y σ] [hy:AsI σ k]
include hsx hx hsy hy
theorem ev2{op:BinOp}{a:Act}{w:World} (hl:∀s,.tmp s∈(XdM op t x y u).operands.toList->(Γ s).p A w (a.tmps.getD s undef)) :
  a.eval x=.int .i64 m/\a.eval y=.int .i64 k:=
 ⟨hx.le _ _ _ (Zy (τ:=τ) (op:=.binOp op t x y u) (by simp[Xae]) hl),hy.le _ _ _ (Zy (τ:=σ) (op:=.binOp op t x y u) (by simp[Xae]) hl)⟩
theorem OpY.add(h1:-9223372036854775808<=m+k)(h2:m+k<=9223372036854775807):OpY P B0 A Ω Γ ⟨dst,.binOp .add t x y u,ty,pos,aft,gd⟩ (I (m+k)):=
 OpY.val λa w hl=>⟨.int .i64 (m+k),by obtain⟨e1,e2⟩:=ev2 (m:=m) (k:=k) hl;simp[execOp,e1,e2,eqGuard_add,binOp_add,XdW,D8 h1 h2],rfl⟩
theorem OpY.sub(h1:-9223372036854775808<=m-k)(h2:m-k<=9223372036854775807):OpY P B0 A Ω Γ ⟨dst,.binOp .sub t x y u,ty,pos,aft,gd⟩ (I (m-k)):=
 OpY.val λa w hl=>⟨.int .i64 (m-k),by obtain⟨e1,e2⟩:=ev2 (m:=m) (k:=k) hl;simp[execOp,e1,e2,eqGuard_sub,binOp_sub,XdW,D8 h1 h2],rfl⟩
theorem OpY.mul(h1:-9223372036854775808<=m*k)(h2:m*k<=9223372036854775807):OpY P B0 A Ω Γ ⟨dst,.binOp .mul t x y u,ty,pos,aft,gd⟩ (I (m*k)):=
 OpY.val λa w hl=>⟨.int .i64 (m*k),by obtain⟨e1,e2⟩:=ev2 (m:=m) (k:=k) hl;simp[execOp,e1,e2,eqGuard_mul,binOp_mul,XdW,D8 h1 h2],rfl⟩
theorem Zeh:OpY P B0 A Ω Γ ⟨dst,.binOp .lss t x y u,ty,pos,aft,gd⟩ (B (decide (m<k))):=
 OpY.val λa w hl=>⟨.bool (decide (m<k)),by obtain⟨e1,e2⟩:=ev2 (m:=m) (k:=k) hl;simp[execOp,e1,e2,eqGuard_lss,binOp_lss],rfl⟩
theorem OpY.leq:OpY P B0 A Ω Γ ⟨dst,.binOp .leq t x y u,ty,pos,aft,gd⟩ (B (decide (m<=k))):=
 OpY.val λa w hl=>⟨.bool (decide (m<=k)),by obtain⟨e1,e2⟩:=ev2 (m:=m) (k:=k) hl;simp[execOp,e1,e2,eqGuard_leq,binOp_leq],rfl⟩
theorem OpY.gtr:OpY P B0 A Ω Γ ⟨dst,.binOp .gtr t x y u,ty,pos,aft,gd⟩ (B (decide (m>k))):=
 OpY.val λa w hl=>⟨.bool (decide (m>k)),by obtain⟨e1,e2⟩:=ev2 (m:=m) (k:=k) hl;simp[execOp,e1,e2,eqGuard_gtr,binOp_gtr],rfl⟩
theorem OpY.geq:OpY P B0 A Ω Γ ⟨dst,.binOp .geq t x y u,ty,pos,aft,gd⟩ (B (decide (m>=k))):=
 OpY.val λa w hl=>⟨.bool (decide (m>=k)),by obtain⟨e1,e2⟩:=ev2 (m:=m) (k:=k) hl;simp[execOp,e1,e2,eqGuard_geq,binOp_geq],rfl⟩
theorem Zej:OpY P B0 A Ω Γ ⟨dst,.binOp .eql t x y u,ty,pos,aft,gd⟩ (B (decide (m=k))):=
 OpY.val λa w hl=>⟨.bool (decide (m=k)),by obtain⟨e1,e2⟩:=ev2 (m:=m) (k:=k) hl;simp[execOp,e1,e2,eqGuard_at_int,binOp_eql];rfl,rfl⟩
theorem Zeg:OpY P B0 A Ω Γ ⟨dst,.binOp .neq t x y u,ty,pos,aft,gd⟩ (B (decide (m≠k))):=
 OpY.val λa w hl=>⟨.bool (decide (m≠k)),by obtain⟨e1,e2⟩:=ev2 (m:=m) (k:=k) hl;simp[execOp,e1,e2,eqGuard_at_int,binOp_neq];rfl,rfl⟩
theorem ZbQ(h1:-9223372036854775808<=m.tdiv k)(h2:m.tdiv k<=9223372036854775807)(h3:0<k):OpY P B0 A Ω Γ ⟨dst,.binOp .quo t x y u,ty,pos,aft,gd⟩ (I (m.tdiv k)):=
 OpY.val λa w hl=>⟨.int .i64 (m.tdiv k),by
  obtain⟨e1,e2⟩:=ev2 (m:=m) (k:=k) hl;have e3:IntKind.i64.wrap (m.tdiv k)=m.tdiv k:=D8 h1 h2;have h7:¬k=0:=by omega
  simp only[execOp,e1,e2,eqGuard_quo,binOp_quo,XgA,h7,if_false,e3,Xag,Xai,Xab],rfl⟩
theorem OpY.rem(h1:0<=m)(h3:0<k):OpY P B0 A Ω Γ ⟨dst,.binOp .rem t x y u,ty,pos,aft,gd⟩ (I (m%k)):=
 OpY.val λa w hl=>⟨.int .i64 (m%k),by
  obtain⟨e1,e2⟩:=ev2 (m:=m) (k:=k) hl;have e3:m.tmod k=m%k:=Xfb h1;have h7:¬k=0:=by omega
  simp only[execOp,e1,e2,eqGuard_rem,binOp_rem,XgA,h7,if_false,e3,Xag,Xai,Xab],rfl⟩
end int
class AsCnt(τ:Ty)(s:outParam Int):Prop where
 ex:∀A w v,τ.p A w v->∃K,v=.int K s
instance {x:UInt64}:AsCnt (U64 x) x.toNat:=⟨λ_ _ _ h=>⟨_,h⟩⟩
theorem Nf(z:Int):IntKind.u8.wrap z=z%256:=by simp[Xd0,Xc6,XcI]
theorem NB(x:UInt8):x.toNat<256:=x.toNat_lt
theorem bvU8(x:UInt8):Xbf 8 (x.toNat:Int)=x.toBitVec:=by
 apply Xdh;have:=NB x;simp
theorem ZdZ(x:UInt8):Xbf IntKind.u8.bits (x.toNat:Int)=x.toBitVec:=bvU8 x
theorem QD(z:Int):((Xao z).toNat:Int)=z%256:=by
 unfold Xao;have h1:0<=z%256:=Xe0 _ (by decide);have h2:z%256<256:=XeC _ (by decide);rw[XfQ];rw[show((2:Int)^8)=256 by decide,show((2:Nat)^8)=256 by decide,Xcd (by omega)];omega
section u8
variable {x y:Operand}{τ σ:Ty}{t u:TypeId}{m n:UInt8}[hsx:Has Γ x τ] [hx:AsU8 τ m] [hsy:Has Γ y σ] [hy:AsU8 σ n]
include hsx hx hsy hy
theorem ZcJ{op:BinOp}{a:Act}{w:World} (hl:∀s,.tmp s∈(XdM op t x y u).operands.toList->(Γ s).p A w (a.tmps.getD s undef)) :
  a.eval x=.int .u8 m.toNat/\a.eval y=.int .u8 n.toNat:=
 ⟨hx.le _ _ _ (Zy (τ:=τ) (op:=.binOp op t x y u) (by simp[Xae]) hl),hy.le _ _ _ (Zy (τ:=σ) (op:=.binOp op t x y u) (by simp[Xae]) hl)⟩
theorem T3:OpY P B0 A Ω Γ ⟨dst,.binOp .or t x y u,ty,pos,aft,gd⟩ (U8 (m ||| n)):=
 OpY.val λa w hl=>⟨.int .u8 (m ||| n).toNat,by
  obtain⟨e1,e2⟩:=ZcJ (m:=m) (n:=n) hl;have:=NB (m ||| n);have e3:IntKind.u8.wrap ((m.toBitVec ||| n.toBitVec).toNat:Int)=((m ||| n).toNat:Int):=by
   rw[Nf,<-UInt8.toBitVec_or];show(((m ||| n).toNat:Nat):Int)%256=_;omega
  simp only[execOp,e1,e2,eqGuard_or,binOp_or,Xdj,ZdZ,Xag,Xai,Xab];exact congrArg (λz=>Xdi (Xdc (XbR .u8 z)) w) e3,rfl⟩
theorem T6:OpY P B0 A Ω Γ ⟨dst,.binOp .andNot t x y u,ty,pos,aft,gd⟩ (U8 (m &&& ~~~n)):=
 OpY.val λa w hl=>⟨.int .u8 (m &&& ~~~n).toNat,by
  obtain⟨e1,e2⟩:=ZcJ (m:=m) (n:=n) hl;have:=NB (m &&& ~~~n);have e3:IntKind.u8.wrap ((m.toBitVec &&& ~~~n.toBitVec).toNat:Int)=((m &&& ~~~n).toNat:Int):=by
   rw[Nf,<-XfR,<-UInt8.toBitVec_and];show(((m &&& ~~~n).toNat:Nat):Int)%256=_;omega
  simp only[execOp,e1,e2,eqGuard_andNot,binOp_andNot,Xdj,ZdZ,Xag,Xai,Xab];exact congrArg (λz=>Xdi (Xdc (XbR .u8 z)) w) e3,rfl⟩
theorem ZbP:OpY P B0 A Ω Γ ⟨dst,.binOp .sub t x y u,ty,pos,aft,gd⟩ (U8 (m-n)):=
 OpY.val λa w hl=>⟨.int .u8 (m-n).toNat,by
  obtain⟨e1,e2⟩:=ZcJ (m:=m) (n:=n) hl;have h1:=NB m;have h2:=NB n;have e3:IntKind.u8.wrap ((m.toNat:Int)-(n.toNat:Int))=((m-n).toNat:Int):=by
   rw[Nf,UInt8.toNat_sub,show((2:Nat)^8)=256 by decide];omega
  simp only[execOp,e1,e2,eqGuard_sub,binOp_sub,XdW,e3,Xag,Xai,Xab],rfl⟩
theorem ZbW:OpY P B0 A Ω Γ ⟨dst,.binOp .lss t x y u,ty,pos,aft,gd⟩ (B (decide (m<n))):=
 OpY.val λa w hl=>⟨.bool (decide (m<n)),by
  obtain⟨e1,e2⟩:=ZcJ (m:=m) (n:=n) hl;have e3:decide ((m.toNat:Int)<n.toNat)=decide (m<n):=by rw[decide_eq_decide,Xdm];omega
  simp only[execOp,e1,e2,eqGuard_lss,binOp_lss,e3,Xag,Xai,Xab],rfl⟩
theorem ZbY:OpY P B0 A Ω Γ ⟨dst,.binOp .gtr t x y u,ty,pos,aft,gd⟩ (B (decide (n<m))):=
 OpY.val λa w hl=>⟨.bool (decide (n<m)),by
  obtain⟨e1,e2⟩:=ZcJ (m:=m) (n:=n) hl;have e3:decide ((m.toNat:Int)>n.toNat)=decide (n<m):=by rw[decide_eq_decide,Xdm];omega
  simp only[execOp,e1,e2,eqGuard_gtr,binOp_gtr,e3,Xag,Xai,Xab],rfl⟩
theorem Rj:OpY P B0 A Ω Γ ⟨dst,.binOp .eql t x y u,ty,pos,aft,gd⟩ (B (decide (m=n))):=
 OpY.val λa w hl=>⟨.bool (decide (m=n)),by
  obtain⟨e1,e2⟩:=ZcJ (m:=m) (n:=n) hl;have e3:((m.toNat:Int)=(n.toNat:Int))↔m=n:=by rw[XcL,Xcs]
  have e4:((m.toNat:Int) == (n.toNat:Int))=decide (m=n):=by rw[Xbt];simp only[beq_iff_eq,e3,decide_eq_true_eq]
  simp only[execOp,e1,e2,eqGuard_at_int,binOp_eql,e4,Xag,Xai,Xab],rfl⟩
theorem Vk:OpY P B0 A Ω Γ ⟨dst,.binOp .neq t x y u,ty,pos,aft,gd⟩ (B (decide (m≠n))):=
 OpY.val λa w hl=>⟨.bool (decide (m≠n)),by
  obtain⟨e1,e2⟩:=ZcJ (m:=m) (n:=n) hl;have e3:((m.toNat:Int)=(n.toNat:Int))↔m=n:=by rw[XcL,Xcs]
  have e4:((m.toNat:Int) == (n.toNat:Int))=decide (m=n):=by rw[Xbt];simp only[beq_iff_eq,e3,decide_eq_true_eq]
  simp only[execOp,e1,e2,eqGuard_at_int,binOp_neq,e4,bne,decide_not,Xag,Xai,Xab],rfl⟩
end u8
section un8
variable {x:Operand}{τ:Ty}{t:TypeId}{m:UInt8}[hsx:Has Γ x τ] [hx:AsU8 τ m]
include hsx hx
theorem ZbT:OpY P B0 A Ω Γ ⟨dst,.unOp .xor t x,ty,pos,aft,gd⟩ (U8 (~~~m)):=
 OpY.val λa w hl=>⟨.int .u8 (~~~m).toNat,by
  have e1:a.eval x=.int .u8 m.toNat:=hx.le _ _ _ (Zy (τ:=τ) (op:=.unOp .xor t x) (by simp[Xae]) hl);have e3:IntKind.u8.wrap ((Xbf 8 IntKind.u8.max ^^^ m.toBitVec).toNat:Int)=((~~~m).toNat:Int):=by
   have h0:Xbf 8 IntKind.u8.max=Xgp 8:=by decide
   rw[Nf,h0,XfP,<-XfR];have:=NB (~~~m);show(((~~~m).toNat:Nat):Int)%256=_;omega
  simp only[execOp,e1,XgO,Xdj,ZdZ,Xag,Xai,Xab];exact congrArg (λz=>Xdi (Xdc (XbR .u8 z)) w) e3,rfl⟩
end un8
section sh8
variable {x y:Operand}{τ σ:Ty}{t u:TypeId}{m:UInt8}{s:Int}[hsx:Has Γ x τ] [hx:AsU8 τ m] [hsy:Has Γ y σ] [hy:AsCnt σ s]
include hsx hx hsy hy
theorem ZgF{op:BinOp}{a:Act}{w:World} (hl:∀s,.tmp s∈(XdM op t x y u).operands.toList->(Γ s).p A w (a.tmps.getD s undef)) :
  a.eval x=.int .u8 m.toNat/\∃K,a.eval y=.int K s:=
 ⟨hx.le _ _ _ (Zy (τ:=τ) (op:=.binOp op t x y u) (by simp[Xae]) hl),hy.ex _ _ _ (Zy (τ:=σ) (op:=.binOp op t x y u) (by simp[Xae]) hl)⟩
theorem OpY.shr8(h:0<=s):OpY P B0 A Ω Γ ⟨dst,.binOp .shr t x y u,ty,pos,aft,gd⟩ (U8 (XaN (m.toNat/2^s.toNat))):=
 OpY.val λa w hl=>⟨.int .u8 (XaN (m.toNat/2^s.toNat)).toNat,by
  obtain⟨e1,K,e2⟩:=ZgF (m:=m) (s:=s) hl;have h1:=NB m;have e3:((m.toNat:Int).fdiv (2^(min s.toNat IntKind.u8.bits)))=((XaN (m.toNat/2^s.toNat)).toNat:Int):=by
   have hlt:m.toNat/2^s.toNat<256:=XdI (Xed _ _) h1;rw[XdT hlt,XcR _ (Xds (by decide))];rcases XcV s.toNat 8 with hs|hs
   .rw [show min s.toNat IntKind.u8.bits=s.toNat from XaY hs];push_cast;rfl
   .rw [show min s.toNat IntKind.u8.bits=8 from Xcn hs];have hp:256<=2^s.toNat:=XaG (by decide) (Xcg (by decide) hs);rw[Xby (XaU h1 hp)];rw[show((2:Int)^8)=256 by decide];omega
  simp only[execOp,e1,e2,eqGuard_shr,binOp_shr,Xeo];rw[if_neg (by omega)];simp only[e3,Xag,Xai,Xab],rfl⟩
theorem OpY.shl8(h:0<=s):OpY P B0 A Ω Γ ⟨dst,.binOp .shl t x y u,ty,pos,aft,gd⟩ (U8 (XaN (m.toNat*2^s.toNat))):=
 OpY.val λa w hl=>⟨.int .u8 (XaN (m.toNat*2^s.toNat)).toNat,by
  obtain⟨e1,K,e2⟩:=ZgF (m:=m) (s:=s) hl;have e3:IntKind.u8.wrap ((m.toNat:Int)*2^(min s.toNat IntKind.u8.bits))=((XaN (m.toNat*2^s.toNat)).toNat:Int):=by
   rw[Nf,XfQ];rw[show((2:Nat)^8)=256 by decide];rcases XcV s.toNat 8 with hs|hs
   .rw [show min s.toNat IntKind.u8.bits=s.toNat from XaY hs,Xc1,XbQ,XeZ];rfl
   .rw [show min s.toNat IntKind.u8.bits=8 from Xcn hs];obtain⟨d,hd⟩:∃d,s.toNat=8+d:=⟨s.toNat-8,by omega⟩;rw[hd,Xb8,show((2:Nat)^8)=256 by decide,show((2:Int)^8)=256 by decide,Xbb 256,<-Xcr,XeN];omega
  simp only[execOp,e1,e2,eqGuard_shl,binOp_shl,Xeo];rw[if_neg (by omega)];simp only[e3,Xag,Xai,Xab],rfl⟩
end sh8
theorem Qp(z:Int):IntKind.u16.wrap z=z%65536:=by simp[Xd0,Xc6,XcI]
theorem UN(x:UInt16):x.toNat<65536:=x.toNat_lt
theorem Zgg(x:UInt16):Xbf 16 (x.toNat:Int)=x.toBitVec:=by
 apply Xdh;have:=UN x;simp
theorem Zfr(x:UInt16):Xbf IntKind.u16.bits (x.toNat:Int)=x.toBitVec:=Zgg x
theorem ZaN(z:Int):((Xew z).toNat:Int)=z%65536:=by
 unfold Xew;have h1:0<=z%65536:=Xe0 _ (by decide);have h2:z%65536<65536:=XeC _ (by decide);rw[XfF];rw[show((2:Int)^16)=65536 by decide,show((2:Nat)^16)=65536 by decide,Xcd (by omega)];omega
section u16
variable {x y:Operand}{τ σ:Ty}{t u:TypeId}{m n:UInt16}[hsx:Has Γ x τ] [hx:AsU16 τ m] [hsy:Has Γ y σ] [hy:AsU16 σ n]
include hsx hx hsy hy
theorem ZdO{op:BinOp}{a:Act}{w:World} (hl:∀s,.tmp s∈(XdM op t x y u).operands.toList->(Γ s).p A w (a.tmps.getD s undef)) :
  a.eval x=.int .u16 m.toNat/\a.eval y=.int .u16 n.toNat:=
 ⟨hx.le _ _ _ (Zy (τ:=τ) (op:=.binOp op t x y u) (by simp[Xae]) hl),hy.le _ _ _ (Zy (τ:=σ) (op:=.binOp op t x y u) (by simp[Xae]) hl)⟩
theorem Vj:OpY P B0 A Ω Γ ⟨dst,.binOp .or t x y u,ty,pos,aft,gd⟩ (U16 (m ||| n)):=
 OpY.val λa w hl=>⟨.int .u16 (m ||| n).toNat,by
  obtain⟨e1,e2⟩:=ZdO (m:=m) (n:=n) hl;have:=UN (m ||| n);have e3:IntKind.u16.wrap ((m.toBitVec ||| n.toBitVec).toNat:Int)=((m ||| n).toNat:Int):=by
   rw[Qp,<-UInt16.toBitVec_or];show(((m ||| n).toNat:Nat):Int)%65536=_;omega
  simp only[execOp,e1,e2,eqGuard_or,binOp_or,Xdj,Zfr,Xag,Xai,Xab];exact congrArg (λz=>Xdi (Xdc (XbR .u16 z)) w) e3,rfl⟩
theorem SI:OpY P B0 A Ω Γ ⟨dst,.binOp .eql t x y u,ty,pos,aft,gd⟩ (B (decide (m=n))):=
 OpY.val λa w hl=>⟨.bool (decide (m=n)),by
  obtain⟨e1,e2⟩:=ZdO (m:=m) (n:=n) hl;have e3:((m.toNat:Int)=(n.toNat:Int))↔m=n:=by rw[XcL,XfW]
  have e4:((m.toNat:Int) == (n.toNat:Int))=decide (m=n):=by rw[Xbt];simp only[beq_iff_eq,e3,decide_eq_true_eq]
  simp only[execOp,e1,e2,eqGuard_at_int,binOp_eql,e4,Xag,Xai,Xab],rfl⟩
theorem Yq:OpY P B0 A Ω Γ ⟨dst,.binOp .neq t x y u,ty,pos,aft,gd⟩ (B (decide (m≠n))):=
 OpY.val λa w hl=>⟨.bool (decide (m≠n)),by
  obtain⟨e1,e2⟩:=ZdO (m:=m) (n:=n) hl;have e3:((m.toNat:Int)=(n.toNat:Int))↔m=n:=by rw[XcL,XfW]
  have e4:((m.toNat:Int) == (n.toNat:Int))=decide (m=n):=by rw[Xbt];simp only[beq_iff_eq,e3,decide_eq_true_eq]
  simp only[execOp,e1,e2,eqGuard_at_int,binOp_neq,e4,bne,decide_not,Xag,Xai,Xab],rfl⟩
end u16
section sh16
variable {x y:Operand}{τ σ:Ty}{t u:TypeId}{m:UInt16}{s:Int}[hsx:Has Γ x τ] [hx:AsU16 τ m] [hsy:Has Γ y σ] [hy:AsCnt σ s]
include hsx hx hsy hy
theorem Zfi{op:BinOp}{a:Act}{w:World} (hl:∀s,.tmp s∈(XdM op t x y u).operands.toList->(Γ s).p A w (a.tmps.getD s undef)) :
  a.eval x=.int .u16 m.toNat/\∃K,a.eval y=.int K s:=
 ⟨hx.le _ _ _ (Zy (τ:=τ) (op:=.binOp op t x y u) (by simp[Xae]) hl),hy.ex _ _ _ (Zy (τ:=σ) (op:=.binOp op t x y u) (by simp[Xae]) hl)⟩
theorem OpY.shr16(h:0<=s):OpY P B0 A Ω Γ ⟨dst,.binOp .shr t x y u,ty,pos,aft,gd⟩ (U16 (Xcj (m.toNat/2^s.toNat))):=
 OpY.val λa w hl=>⟨.int .u16 (Xcj (m.toNat/2^s.toNat)).toNat,by
  obtain⟨e1,K,e2⟩:=Zfi (m:=m) (s:=s) hl;have h1:=UN m;have e3:((m.toNat:Int).fdiv (2^(min s.toNat IntKind.u16.bits)))=((Xcj (m.toNat/2^s.toNat)).toNat:Int):=by
   have hlt:m.toNat/2^s.toNat<65536:=XdI (Xed _ _) h1;rw[XdF hlt,XcR _ (Xds (by decide))];rcases XcV s.toNat 16 with hs|hs
   .rw [show min s.toNat IntKind.u16.bits=s.toNat from XaY hs];push_cast;rfl
   .rw [show min s.toNat IntKind.u16.bits=16 from Xcn hs];have hp:65536<=2^s.toNat:=XaG (by decide) (Xcg (by decide) hs);rw[Xby (XaU h1 hp)];rw[show((2:Int)^16)=65536 by decide];omega
  simp only[execOp,e1,e2,eqGuard_shr,binOp_shr,Xeo];rw[if_neg (by omega)];simp only[e3,Xag,Xai,Xab],rfl⟩
theorem OpY.shl16(h:0<=s):OpY P B0 A Ω Γ ⟨dst,.binOp .shl t x y u,ty,pos,aft,gd⟩ (U16 (Xcj (m.toNat*2^s.toNat))):=
 OpY.val λa w hl=>⟨.int .u16 (Xcj (m.toNat*2^s.toNat)).toNat,by
  obtain⟨e1,K,e2⟩:=Zfi (m:=m) (s:=s) hl;have e3:IntKind.u16.wrap ((m.toNat:Int)*2^(min s.toNat IntKind.u16.bits))=((Xcj (m.toNat*2^s.toNat)).toNat:Int):=by
   rw[Qp,XfF];rw[show((2:Nat)^16)=65536 by decide];rcases XcV s.toNat 16 with hs|hs
   .rw [show min s.toNat IntKind.u16.bits=s.toNat from XaY hs,Xc1,XbQ,XeZ];rfl
   .rw [show min s.toNat IntKind.u16.bits=16 from Xcn hs];obtain⟨d,hd⟩:∃d,s.toNat=16+d:=⟨s.toNat-16,by omega⟩;rw[hd,Xb8,show((2:Nat)^16)=65536 by decide,show((2:Int)^16)=65536 by decide,Xbb 65536,<-Xcr,XeN];omega
  simp only[execOp,e1,e2,eqGuard_shl,binOp_shl,Xeo];rw[if_neg (by omega)];simp only[e3,Xag,Xai,Xab],rfl⟩
end sh16
theorem Od(z:Int):IntKind.u32.wrap z=z%4294967296:=by simp[Xd0,Xc6,XcI]
theorem Ni(x:UInt32):x.toNat<4294967296:=x.toNat_lt
theorem Zgf(x:UInt32):Xbf 32 (x.toNat:Int)=x.toBitVec:=by
 apply Xdh;have:=Ni x;simp
theorem X3(x:UInt32):Xbf IntKind.u32.bits (x.toNat:Int)=x.toBitVec:=Zgf x
section u32
variable {x y:Operand}{τ σ:Ty}{t u:TypeId}{m n:UInt32}[hsx:Has Γ x τ] [hx:AsU32 τ m] [hsy:Has Γ y σ] [hy:AsU32 σ n]
include hsx hx hsy hy
theorem ZdN{op:BinOp}{a:Act}{w:World} (hl:∀s,.tmp s∈(XdM op t x y u).operands.toList->(Γ s).p A w (a.tmps.getD s undef)) :
  a.eval x=.int .u32 m.toNat/\a.eval y=.int .u32 n.toNat:=
 ⟨hx.le _ _ _ (Zy (τ:=τ) (op:=.binOp op t x y u) (by simp[Xae]) hl),hy.le _ _ _ (Zy (τ:=σ) (op:=.binOp op t x y u) (by simp[Xae]) hl)⟩
theorem YB:OpY P B0 A Ω Γ ⟨dst,.binOp .and t x y u,ty,pos,aft,gd⟩ (U32 (m &&& n)):=
 OpY.val λa w hl=>⟨.int .u32 (m &&& n).toNat,by
  obtain⟨e1,e2⟩:=ZdN (m:=m) (n:=n) hl;have:=Ni (m &&& n);have e3:IntKind.u32.wrap ((m.toBitVec &&& n.toBitVec).toNat:Int)=((m &&& n).toNat:Int):=by
   rw[Od,<-UInt32.toBitVec_and];show(((m &&& n).toNat:Nat):Int)%4294967296=_;omega
  simp only[execOp,e1,e2,eqGuard_and,binOp_and,Xdj,X3,Xag,Xai,Xab];exact congrArg (λz=>Xdi (Xdc (XbR .u32 z)) w) e3,rfl⟩
theorem SB:OpY P B0 A Ω Γ ⟨dst,.binOp .xor t x y u,ty,pos,aft,gd⟩ (U32 (m ^^^ n)):=
 OpY.val λa w hl=>⟨.int .u32 (m ^^^ n).toNat,by
  obtain⟨e1,e2⟩:=ZdN (m:=m) (n:=n) hl;have:=Ni (m ^^^ n);have e3:IntKind.u32.wrap ((m.toBitVec ^^^ n.toBitVec).toNat:Int)=((m ^^^ n).toNat:Int):=by
   rw[Od,<-UInt32.toBitVec_xor];show(((m ^^^ n).toNat:Nat):Int)%4294967296=_;omega
  simp only[execOp,e1,e2,eqGuard_xor,binOp_xor,Xdj,X3,Xag,Xai,Xab];exact congrArg (λz=>Xdi (Xdc (XbR .u32 z)) w) e3,rfl⟩
theorem Yr:OpY P B0 A Ω Γ ⟨dst,.binOp .mul t x y u,ty,pos,aft,gd⟩ (U32 (m*n)):=
 OpY.val λa w hl=>⟨.int .u32 (m*n).toNat,by
  obtain⟨e1,e2⟩:=ZdN (m:=m) (n:=n) hl;have h1:=Ni m;have h2:=Ni n;have e3:IntKind.u32.wrap ((m.toNat:Int)*(n.toNat:Int))=((m*n).toNat:Int):=by
   rw[Od,UInt32.toNat_mul,show((2:Nat)^32)=4294967296 by decide];rw[Xc1,XbQ];rfl
  simp only[execOp,e1,e2,eqGuard_mul,binOp_mul,XdW,e3,Xag,Xai,Xab],rfl⟩
end u32
section un32
variable {x:Operand}{τ:Ty}{t:TypeId}{m:UInt32}[hsx:Has Γ x τ] [hx:AsU32 τ m]
include hsx hx
theorem SE:OpY P B0 A Ω Γ ⟨dst,.unOp .xor t x,ty,pos,aft,gd⟩ (U32 (~~~m)):=
 OpY.val λa w hl=>⟨.int .u32 (~~~m).toNat,by
  have e1:a.eval x=.int .u32 m.toNat:=hx.le _ _ _ (Zy (τ:=τ) (op:=.unOp .xor t x) (by simp[Xae]) hl);have e3:IntKind.u32.wrap ((Xbf 32 IntKind.u32.max ^^^ m.toBitVec).toNat:Int)=((~~~m).toNat:Int):=by
   have h0:Xbf 32 IntKind.u32.max=Xgp 32:=by decide
   rw[Od,h0,XfP,<-UInt32.toBitVec_not];have:=Ni (~~~m);show(((~~~m).toNat:Nat):Int)%4294967296=_;omega
  simp only[execOp,e1,XgO,Xdj,X3,Xag,Xai,Xab];exact congrArg (λz=>Xdi (Xdc (XbR .u32 z)) w) e3,rfl⟩
end un32
section sh32
variable {x y:Operand}{τ σ:Ty}{t u:TypeId}{m:UInt32}{s:Int}[hsx:Has Γ x τ] [hx:AsU32 τ m] [hsy:Has Γ y σ] [hy:AsCnt σ s]
include hsx hx hsy hy
theorem Zgd{op:BinOp}{a:Act}{w:World} (hl:∀s,.tmp s∈(XdM op t x y u).operands.toList->(Γ s).p A w (a.tmps.getD s undef)) :
  a.eval x=.int .u32 m.toNat/\∃K,a.eval y=.int K s:=
 ⟨hx.le _ _ _ (Zy (τ:=τ) (op:=.binOp op t x y u) (by simp[Xae]) hl),hy.ex _ _ _ (Zy (τ:=σ) (op:=.binOp op t x y u) (by simp[Xae]) hl)⟩
theorem OpY.shr32(h:0<=s):OpY P B0 A Ω Γ ⟨dst,.binOp .shr t x y u,ty,pos,aft,gd⟩ (U32 (XcC (m.toNat/2^s.toNat))):=
 OpY.val λa w hl=>⟨.int .u32 (XcC (m.toNat/2^s.toNat)).toNat,by
  obtain⟨e1,K,e2⟩:=Zgd (m:=m) (s:=s) hl;have h1:=Ni m;have e3:((m.toNat:Int).fdiv (2^(min s.toNat IntKind.u32.bits)))=((XcC (m.toNat/2^s.toNat)).toNat:Int):=by
   have hlt:m.toNat/2^s.toNat<4294967296:=XdI (Xed _ _) h1;rw[XeX hlt,XcR _ (Xds (by decide))];rcases XcV s.toNat 32 with hs|hs
   .rw [show min s.toNat IntKind.u32.bits=s.toNat from XaY hs];push_cast;rfl
   .rw [show min s.toNat IntKind.u32.bits=32 from Xcn hs];have hp:4294967296<=2^s.toNat:=XaG (by decide) (Xcg (by decide) hs);rw[Xby (XaU h1 hp)];rw[show((2:Int)^32)=4294967296 by decide];omega
  simp only[execOp,e1,e2,eqGuard_shr,binOp_shr,Xeo];rw[if_neg (by omega)];simp only[e3,Xag,Xai,Xab],rfl⟩
end sh32
theorem MD(z:Int):IntKind.u64.wrap z=z%18446744073709551616:=by simp[Xd0,Xc6,XcI]
theorem PS(x:UInt64):x.toNat<18446744073709551616:=x.toNat_lt
theorem Zge(x:UInt64):Xbf 64 (x.toNat:Int)=x.toBitVec:=by
 apply Xdh;have:=PS x;simp
theorem Zfq(x:UInt64):Xbf IntKind.u64.bits (x.toNat:Int)=x.toBitVec:=Zge x
theorem ZaM(z:Int):((Xcp z).toNat:Int)=z%18446744073709551616:=by
 unfold Xcp;have h1:0<=z%18446744073709551616:=Xe0 _ (by decide);have h2:z%18446744073709551616<18446744073709551616:=XeC _ (by decide);rw[Xdv];rw[show((2:Int)^64)=18446744073709551616 by decide,show((2:Nat)^64)=18446744073709551616 by decide,Xcd (by omega)];omega
section u64
variable {x y:Operand}{τ σ:Ty}{t u:TypeId}{m n:UInt64}[hsx:Has Γ x τ] [hx:AsU64 τ m] [hsy:Has Γ y σ] [hy:AsU64 σ n]
include hsx hx hsy hy
theorem Tq{op:BinOp}{a:Act}{w:World} (hl:∀s,.tmp s∈(XdM op t x y u).operands.toList->(Γ s).p A w (a.tmps.getD s undef)) :
  a.eval x=.int .u64 m.toNat/\a.eval y=.int .u64 n.toNat:=
 ⟨hx.le _ _ _ (Zy (τ:=τ) (op:=.binOp op t x y u) (by simp[Xae]) hl),hy.le _ _ _ (Zy (τ:=σ) (op:=.binOp op t x y u) (by simp[Xae]) hl)⟩
theorem ZbR:OpY P B0 A Ω Γ ⟨dst,.binOp .or t x y u,ty,pos,aft,gd⟩ (U64 (m ||| n)):=
 OpY.val λa w hl=>⟨.int .u64 (m ||| n).toNat,by
  obtain⟨e1,e2⟩:=Tq (m:=m) (n:=n) hl;have:=PS (m ||| n);have e3:IntKind.u64.wrap ((m.toBitVec ||| n.toBitVec).toNat:Int)=((m ||| n).toNat:Int):=by
   rw[MD,<-UInt64.toBitVec_or];show(((m ||| n).toNat:Nat):Int)%18446744073709551616=_;omega
  simp only[execOp,e1,e2,eqGuard_or,binOp_or,Xdj,Zfq,Xag,Xai,Xab];exact congrArg (λz=>Xdi (Xdc (XbR .u64 z)) w) e3,rfl⟩
theorem Km:OpY P B0 A Ω Γ ⟨dst,.binOp .add t x y u,ty,pos,aft,gd⟩ (U64 (m+n)):=
 OpY.val λa w hl=>⟨.int .u64 (m+n).toNat,by
  obtain⟨e1,e2⟩:=Tq (m:=m) (n:=n) hl;have h1:=PS m;have h2:=PS n;have e3:IntKind.u64.wrap ((m.toNat:Int)+(n.toNat:Int))=((m+n).toNat:Int):=by
   rw[MD,UInt64.toNat_add,show((2:Nat)^64)=18446744073709551616 by decide];omega
  simp only[execOp,e1,e2,eqGuard_add,binOp_add,XdW,e3,Xag,Xai,Xab],rfl⟩
theorem Yu:OpY P B0 A Ω Γ ⟨dst,.binOp .lss t x y u,ty,pos,aft,gd⟩ (B (decide (m<n))):=
 OpY.val λa w hl=>⟨.bool (decide (m<n)),by
  obtain⟨e1,e2⟩:=Tq (m:=m) (n:=n) hl;have e3:decide ((m.toNat:Int)<n.toNat)=decide (m<n):=by rw[decide_eq_decide,Xci];omega
  simp only[execOp,e1,e2,eqGuard_lss,binOp_lss,e3,Xag,Xai,Xab],rfl⟩
theorem Yw:OpY P B0 A Ω Γ ⟨dst,.binOp .gtr t x y u,ty,pos,aft,gd⟩ (B (decide (n<m))):=
 OpY.val λa w hl=>⟨.bool (decide (n<m)),by
  obtain⟨e1,e2⟩:=Tq (m:=m) (n:=n) hl;have e3:decide ((m.toNat:Int)>n.toNat)=decide (n<m):=by rw[decide_eq_decide,Xci];omega
  simp only[execOp,e1,e2,eqGuard_gtr,binOp_gtr,e3,Xag,Xai,Xab],rfl⟩
theorem Ms:OpY P B0 A Ω Γ ⟨dst,.binOp .geq t x y u,ty,pos,aft,gd⟩ (B (decide (n<=m))):=
 OpY.val λa w hl=>⟨.bool (decide (n<=m)),by
  obtain⟨e1,e2⟩:=Tq (m:=m) (n:=n) hl;have e3:decide ((m.toNat:Int)>=n.toNat)=decide (n<=m):=by rw[decide_eq_decide,UInt64.le_iff_toNat_le];omega
  simp only[execOp,e1,e2,eqGuard_geq,binOp_geq,e3,Xag,Xai,Xab],rfl⟩
theorem O7:OpY P B0 A Ω Γ ⟨dst,.binOp .eql t x y u,ty,pos,aft,gd⟩ (B (decide (m=n))):=
 OpY.val λa w hl=>⟨.bool (decide (m=n)),by
  obtain⟨e1,e2⟩:=Tq (m:=m) (n:=n) hl;have e3:((m.toNat:Int)=(n.toNat:Int))↔m=n:=by rw[XcL,XcN]
  have e4:((m.toNat:Int) == (n.toNat:Int))=decide (m=n):=by rw[Xbt];simp only[beq_iff_eq,e3,decide_eq_true_eq]
  simp only[execOp,e1,e2,eqGuard_at_int,binOp_eql,e4,Xag,Xai,Xab],rfl⟩
theorem SF:OpY P B0 A Ω Γ ⟨dst,.binOp .neq t x y u,ty,pos,aft,gd⟩ (B (decide (m≠n))):=
 OpY.val λa w hl=>⟨.bool (decide (m≠n)),by
  obtain⟨e1,e2⟩:=Tq (m:=m) (n:=n) hl;have e3:((m.toNat:Int)=(n.toNat:Int))↔m=n:=by rw[XcL,XcN]
  have e4:((m.toNat:Int) == (n.toNat:Int))=decide (m=n):=by rw[Xbt];simp only[beq_iff_eq,e3,decide_eq_true_eq]
  simp only[execOp,e1,e2,eqGuard_at_int,binOp_neq,e4,bne,decide_not,Xag,Xai,Xab],rfl⟩
end u64
section sh64
variable {x y:Operand}{τ σ:Ty}{t u:TypeId}{m:UInt64}{s:Int}[hsx:Has Γ x τ] [hx:AsU64 τ m] [hsy:Has Γ y σ] [hy:AsCnt σ s]
include hsx hx hsy hy
theorem Zfh{op:BinOp}{a:Act}{w:World} (hl:∀s,.tmp s∈(XdM op t x y u).operands.toList->(Γ s).p A w (a.tmps.getD s undef)) :
  a.eval x=.int .u64 m.toNat/\∃K,a.eval y=.int K s:=
 ⟨hx.le _ _ _ (Zy (τ:=τ) (op:=.binOp op t x y u) (by simp[Xae]) hl),hy.ex _ _ _ (Zy (τ:=σ) (op:=.binOp op t x y u) (by simp[Xae]) hl)⟩
theorem OpY.shr64(h:0<=s):OpY P B0 A Ω Γ ⟨dst,.binOp .shr t x y u,ty,pos,aft,gd⟩ (U64 (Xap (m.toNat/2^s.toNat))):=
 OpY.val λa w hl=>⟨.int .u64 (Xap (m.toNat/2^s.toNat)).toNat,by
  obtain⟨e1,K,e2⟩:=Zfh (m:=m) (s:=s) hl;have h1:=PS m;have e3:((m.toNat:Int).fdiv (2^(min s.toNat IntKind.u64.bits)))=((Xap (m.toNat/2^s.toNat)).toNat:Int):=by
   have hlt:m.toNat/2^s.toNat<18446744073709551616:=XdI (Xed _ _) h1;rw[XcP hlt,XcR _ (Xds (by decide))];rcases XcV s.toNat 64 with hs|hs
   .rw [show min s.toNat IntKind.u64.bits=s.toNat from XaY hs];push_cast;rfl
   .rw [show min s.toNat IntKind.u64.bits=64 from Xcn hs];have hp:18446744073709551616<=2^s.toNat:=XaG (by decide) (Xcg (by decide) hs);rw[Xby (XaU h1 hp)];rw[show((2:Int)^64)=18446744073709551616 by decide];omega
  simp only[execOp,e1,e2,eqGuard_shr,binOp_shr,Xeo];rw[if_neg (by omega)];simp only[e3,Xag,Xai,Xab],rfl⟩
theorem OpY.shl64(h:0<=s):OpY P B0 A Ω Γ ⟨dst,.binOp .shl t x y u,ty,pos,aft,gd⟩ (U64 (Xap (m.toNat*2^s.toNat))):=
 OpY.val λa w hl=>⟨.int .u64 (Xap (m.toNat*2^s.toNat)).toNat,by
  obtain⟨e1,K,e2⟩:=Zfh (m:=m) (s:=s) hl;have e3:IntKind.u64.wrap ((m.toNat:Int)*2^(min s.toNat IntKind.u64.bits))=((Xap (m.toNat*2^s.toNat)).toNat:Int):=by
   rw[MD,Xdv];rw[show((2:Nat)^64)=18446744073709551616 by decide];rcases XcV s.toNat 64 with hs|hs
   .rw [show min s.toNat IntKind.u64.bits=s.toNat from XaY hs,Xc1,XbQ,XeZ];rfl
   .rw [show min s.toNat IntKind.u64.bits=64 from Xcn hs];obtain⟨d,hd⟩:∃d,s.toNat=64+d:=⟨s.toNat-64,by omega⟩;rw[hd,Xb8,show((2:Nat)^64)=18446744073709551616 by decide,show((2:Int)^64)=18446744073709551616 by decide,Xbb 18446744073709551616,<-Xcr,XeN];omega
  simp only[execOp,e1,e2,eqGuard_shl,binOp_shl,Xeo];rw[if_neg (by omega)];simp only[e3,Xag,Xai,Xab],rfl⟩
end sh64
end ops
class TSl(P:Program)(t:TypeId)(e:outParam TypeId):Prop where
 h:P.underlying t=some (.slice e)
class TIn(P:Program)(t:TypeId)(k:outParam IntKind):Prop where
 h:P.underlying t=some (.int k)
class TStr(P:Program)(t:TypeId):Prop where
 h:P.underlying t=some .string
class TDat(P:Program)(t:TypeId)(α:outParam Type)(i:outParam (Dat α)):Prop where
 ag:∀w,(isAgg t).run P w=.ok (Dat.agg α) w
 sz:∀w,(sizeOf t).run P w=.ok (Dat.sz α) w
class TFld(P:Program)(t:TypeId)(f:Nat)(u:outParam TypeId)(off:outParam Nat):Prop where
 h:∃fs fl,P.underlying t=some (.struct fs)/\fs[f]?=some fl/\fl.type=u/\fl.offset=off
class AsD(τ:Ty)(α:outParam Type)(i:outParam (Dat α))(x:outParam α):Prop where
 le:τ.le (D x)
instance {α:Type}[i:Dat α] {x:α}:AsD (D x) α i x:=⟨Ty.le.refl _⟩
instance {p:Prop}{τ:Ty}{α:Type}{i:Dat α}{x:α}[h:Ft p] [k:AsD τ α i x]:AsD (HY p τ) α i x:=⟨λA w v y=>k.le A w v (y.1 h.h)⟩
class AsL(τ:Ty)(α:outParam Type)(i:outParam (Dat α))(x:outParam (List α)):Prop where
 le:τ.le (D x)
instance {α:Type}[i:Dat α] {x:List α}:AsL (D x) α i x:=⟨Ty.le.refl _⟩
instance {p:Prop}{τ:Ty}{α:Type}{i:Dat α}{x:List α}[h:Ft p] [k:AsL τ α i x]:AsL (HY p τ) α i x:=⟨λA w v y=>k.le A w v (y.1 h.h)⟩
class AsPtr(τ:Ty)(α:outParam Type)(i:outParam (Dat α))(x:outParam α):Prop where
 le:τ.le (K3 x)
instance {α:Type}[i:Dat α] {x:α}:AsPtr (K3 x) α i x:=⟨Ty.le.refl _⟩
instance {p:Prop}{τ:Ty}{α:Type}{i:Dat α}{x:α}[h:Ft p] [k:AsPtr τ α i x]:AsPtr (HY p τ) α i x:=⟨λA w v y=>k.le A w v (y.1 h.h)⟩
theorem Iw{P:Program}{w:World}{b off:Nat} (cs:List Value):∀(k i:Nat) (acc:Array Value),i+k=cs.length->KT w b off cs->
  (loadCellsFrom ⟨b,off,none⟩ i k acc).run P w=.ok (acc++(cs.drop i).toArray) w
 | 0,i,acc,h,_=>by
  have:cs.drop i=[]:=List.drop_eq_nil_of_le (by omega);simp[loadCellsFrom,this]
 | k+1,i,acc,h,hr=>by
  have hi:i<cs.length:=by omega
  have hc:=hr i hi;have ha:XeM ⟨b,off,none⟩ i=⟨b,off+i,none⟩:=by
   unfold XeM;split
   .subst_vars;rfl
   .rfl
  have hd:cs.drop i=cs.getD i undef::cs.drop (i+1):=by
   rw[List.drop_eq_getElem_cons hi,Xad,Xaf hi];rfl
  unfold loadCellsFrom;rw[Xag,ha,run_load,hc];simp only[Xab];rw[Iw cs k (i+1) _ (by omega) hr,hd];simp
theorem Gp{P:Program}{w:World}{b off:Nat}{cs:List Value} (h:KT w b off cs):(loadCells ⟨b,off,none⟩ cs.length).run P w=.ok cs.toArray w:=by
 unfold loadCells;rw[Iw cs cs.length 0 #[] (by omega) h];simp
theorem Ll{P:Program}{w:World}{t:TypeId}{α:Type}[i:Dat α] [T:TDat P t α i] {A:Nat->Prop}{b off:Nat}{cs:List Value}{x:α} (h:KT w b off cs) (hr:Dat.rd A w cs x) :
  (loadVar t ⟨b,off,none⟩).run P w=.ok (mkV α cs) w:=by
 unfold loadVar mkV;rw[Xag,T.ag];simp only[Xab];cases ha:Dat.agg α with
 | true=>
  simp only[if_true];rw[Xag,T.sz];simp only[Xab];rw[<-Dat.len hr,Xag,Gp h];rfl
 | false=>
  simp only[Xbu,if_false];have hl:0<cs.length:=by rw[Dat.len hr];exact Dat.pos
  have:=h 0 hl;simp only[Xbw]at this;rw[run_load,this]
section
variable {P:Program}{B0:Nat}{A:Nat->Prop}{Ω:List Pe}{Γ:Env}{dst:Option Tmp}{ty:TypeId}{pos:String}{aft:Array Edge}{gd:Option (Nat×Bool)}
theorem Vl{t:TypeId}{x:Operand}{τ:Ty}{α:Type}{i:Dat α}{v:α}[Has Γ x τ] [hx:AsPtr τ α i v] [T:TDat P t α i] :
  OpY P B0 A Ω Γ ⟨dst,.load t x,ty,pos,aft,gd⟩ (D v):=
 OpY.val λa w hl=>by
  obtain⟨b,off,cs,h1,h2,h3,h4⟩:=hx.le _ _ _ (Zy (x:=x) (τ:=τ) (op:=.load t x) (by simp[Xae]) hl);refine⟨mkV α cs,?_,cs,h4,rfl⟩;simp only[execOp,Xea,h1,Xbm,Xag,Xai,Xab];rw[Ll (t:=t) h3 h4];simp only[Xab]
theorem Bf(b off n:Nat):XeM ⟨b,off,none⟩ n=⟨b,off+n,none⟩:=by
 unfold XeM;split
 .subst_vars;rfl
 .rfl
theorem OpY.indexAddr{t e:TypeId}{x y:Operand}{τ σ:Ty}{α:Type}{i:Dat α}{xs:List α}{k:Int}{v:α}[Has Γ x τ] [hx:AsL τ α i xs] [Has Γ y σ] [hy:AsIx σ k] [S:TSl P t e] [T:TDat P e α i]
  (h0:0<=k) (hv:xs[k.toNat]?=some v):OpY P B0 A Ω Γ ⟨dst,.indexAddr t x y,ty,pos,aft,gd⟩ (K3 v):=
 OpY.val λa w hl=>by
  obtain⟨cs,⟨ad,c,h1,h2,h3,h3',h4⟩,h5⟩:=hx.le _ _ _ (Zy (x:=x) (τ:=τ) (op:=.indexAddr t x y) (by simp[Xae]) hl);obtain⟨kd,e2⟩:=hy.h (Zy (x:=y) (τ:=σ) (op:=.indexAddr t x y) (by simp[Xae]) hl);subst h1;have e1:a.eval x=.slice ad xs.length c:=h5;obtain⟨hk,rfl⟩:=Xav.1 hv;obtain⟨b,off,rfl,g2,es,g3,g4⟩:=h4 _ hk;refine⟨.pointer (some ⟨b,off+k.toNat*Dat.sz α,none⟩),?_,b,_,es,rfl,g2,g3,g4⟩;have hin:0<=k/\k<(xs.length:Int):=by omega
  simp only[execOp,e1,e2,Instr.indexAt,asIntOf,Xag,Xai,Xab,run_underlying S.h,hin,and_self,if_true,T.sz,Bf]
theorem OpY.len{t:TypeId}{e:TypeId}{x:Operand}{τ:Ty}{α:Type}{i:Dat α}{xs:List α}[Has Γ x τ] [hx:AsL τ α i xs] [S:TSl P t e] :
  OpY P B0 A Ω Γ ⟨dst,.call { callee:=.builtin .len,args:=#[x],argTypes:=#[t] },ty,pos,aft,gd⟩ (I xs.length):=
 OpY.val λa w hl=>by
  obtain⟨cs,⟨ad,c,h1,h2,h3,h3',h4⟩,h5⟩:=hx.le _ _ _ (Zy (x:=x) (τ:=τ) (op:=.call { callee:=.builtin .len,args:=#[x],argTypes:=#[t] }) (by simp[Xae,XaE]) hl);subst h1;have e1:a.eval x=.slice ad xs.length c:=h5;exact⟨.int .i64 xs.length,by simp[execOp,resolve,invoke,builtin,e1,Xev,run_underlying S.h,goInt],rfl⟩
theorem Wv{t:TypeId}{e:TypeId}{x:Operand}[hs:Has Γ x Ro] [S:TSl P t e] :
  OpY P B0 A Ω Γ ⟨dst,.call { callee:=.builtin .len,args:=#[x],argTypes:=#[t] },ty,pos,aft,gd⟩ (I 0):=
 OpY.val λa w hl=>by
  have e1:a.eval x=.slice none 0 0:=Zy (x:=x) (τ:=Ro) (op:=.call { callee:=.builtin .len,args:=#[x],argTypes:=#[t] }) (by simp[Xae,XaE]) hl;exact⟨.int .i64 0,by simp[execOp,resolve,invoke,builtin,e1,Xev,run_underlying S.h,goInt],rfl⟩
section conv
variable {s d:TypeId}{x:Operand}{τ:Ty}[hsx:Has Γ x τ]
include hsx
theorem Fa{ks kd:IntKind}{z z':Int}{σ:Ty} (S:P.underlying s=some (.int ks)) (T:P.underlying d=some (.int kd)) (e:∀w v,τ.p A w v->v=.int ks z) (h:kd.wrap z=z') (hσ:∀w,σ.p A w (.int kd z')) :
  OpY P B0 A Ω Γ ⟨dst,.convert s d x,ty,pos,aft,gd⟩ σ:=
 OpY.val λa w hl=>⟨.int kd z',by
  have e:=e w _ (Zy (x:=x) (τ:=τ) (op:=.convert s d x) (by simp[Xae]) hl);simp only[execOp,e,convert,Xag,run_underlying S,run_underlying T,Xab,Conv.intToInt,Xai,h],hσ w⟩
theorem HV{m:UInt8}[hx:AsU8 τ m] [S:TIn P s .u8] [T:TIn P d .u16]:OpY P B0 A Ω Γ ⟨dst,.convert s d x,ty,pos,aft,gd⟩ (U16 m.toUInt16):=
 Fa S.h T.h (λw v h=>hx.le _ w v h) (z':=(m.toUInt16.toNat:Int)) (by rw[Qp,UInt8.toNat_toUInt16];have:=NB m;omega) (λ_=>rfl)
theorem SL{m:UInt8}[hx:AsU8 τ m] [S:TIn P s .u8] [T:TIn P d .u32]:OpY P B0 A Ω Γ ⟨dst,.convert s d x,ty,pos,aft,gd⟩ (U32 m.toUInt32):=
 Fa S.h T.h (λw v h=>hx.le _ w v h) (z':=(m.toUInt32.toNat:Int)) (by rw[Od,UInt8.toNat_toUInt32];have:=NB m;omega) (λ_=>rfl)
theorem SK{m:UInt8}[hx:AsU8 τ m] [S:TIn P s .u8] [T:TIn P d .u64]:OpY P B0 A Ω Γ ⟨dst,.convert s d x,ty,pos,aft,gd⟩ (U64 m.toUInt64):=
 Fa S.h T.h (λw v h=>hx.le _ w v h) (z':=(m.toUInt64.toNat:Int)) (by rw[MD,UInt8.toNat_toUInt64];have:=NB m;omega) (λ_=>rfl)
theorem T5{m:UInt8}[hx:AsU8 τ m] [S:TIn P s .u8] [T:TIn P d .i64]:OpY P B0 A Ω Γ ⟨dst,.convert s d x,ty,pos,aft,gd⟩ (I m.toNat):=
 Fa S.h T.h (λw v h=>hx.le _ w v h) (by have:=NB m;rw[D8 (by omega) (by omega)]) (λ_=>rfl)
theorem T4{z:Int}[hx:AsI τ z] [S:TIn P s .i64] [T:TIn P d .u8]:OpY P B0 A Ω Γ ⟨dst,.convert s d x,ty,pos,aft,gd⟩ (U8 (Xao z)):=
 Fa S.h T.h (λw v h=>hx.le _ w v h) (by rw[Nf,QD]) (λ_=>rfl)
theorem HW{m:UInt16}[hx:AsU16 τ m] [S:TIn P s .u16] [T:TIn P d .u8]:OpY P B0 A Ω Γ ⟨dst,.convert s d x,ty,pos,aft,gd⟩ (U8 m.toUInt8):=
 Fa S.h T.h (λw v h=>hx.le _ w v h) (z':=(m.toUInt8.toNat:Int)) (by rw[Nf,UInt16.toNat_toUInt8];have:=UN m;omega) (λ_=>rfl)
theorem SJ{z:Int}[hx:AsI τ z] [S:TIn P s .i64] [T:TIn P d .u16]:OpY P B0 A Ω Γ ⟨dst,.convert s d x,ty,pos,aft,gd⟩ (U16 (Xew z)):=
 Fa S.h T.h (λw v h=>hx.le _ w v h) (by rw[Qp,ZaN]) (λ_=>rfl)
theorem Mt{m:UInt32}[hx:AsU32 τ m] [S:TIn P s .u32] [T:TIn P d .u64]:OpY P B0 A Ω Γ ⟨dst,.convert s d x,ty,pos,aft,gd⟩ (U64 m.toUInt64):=
 Fa S.h T.h (λw v h=>hx.le _ w v h) (z':=(m.toUInt64.toNat:Int)) (by rw[MD,UInt32.toNat_toUInt64];have:=Ni m;omega) (λ_=>rfl)
theorem SN{m:UInt64}[hx:AsU64 τ m] [S:TIn P s .u64] [T:TIn P d .u8]:OpY P B0 A Ω Γ ⟨dst,.convert s d x,ty,pos,aft,gd⟩ (U8 m.toUInt8):=
 Fa S.h T.h (λw v h=>hx.le _ w v h) (z':=(m.toUInt8.toNat:Int)) (by rw[Nf,UInt64.toNat_toUInt8];have:=PS m;omega) (λ_=>rfl)
theorem SM{m:UInt64}[hx:AsU64 τ m] [S:TIn P s .u64] [T:TIn P d .i64] (hm:m.toNat<=9223372036854775807):OpY P B0 A Ω Γ ⟨dst,.convert s d x,ty,pos,aft,gd⟩ (I m.toNat):=
 Fa S.h T.h (λw v h=>hx.le _ w v h) (by rw[D8 (by omega) (by omega)]) (λ_=>rfl)
theorem Kj{z:Int}[hx:AsI τ z] [S:TIn P s .i64] [T:TIn P d .u64]:OpY P B0 A Ω Γ ⟨dst,.convert s d x,ty,pos,aft,gd⟩ (U64 (Xcp z)):=
 Fa S.h T.h (λw v h=>hx.le _ w v h) (by rw[MD,ZaM]) (λ_=>rfl)
end conv
theorem MY.cut{α:Type}[Dat α] {A:Nat->Prop}{w:World}{a:Option Addr}{xs:List α} (h:MY A w a xs) (l r:Nat) (hr:r<=xs.length) :
  MY A w (a.map (·.add (l*Dat.sz α))) ((xs.take r).drop l):=λi hi=>by
 have hi':l+i<xs.length:=by simp at hi;omega
 obtain⟨b,off,rfl,h2,es,h3,h4⟩:=h (l+i) hi';refine⟨b,off+l*Dat.sz α,by simp[Bf],h2,es,?_,?_⟩
 .rw [XbO,<-Xa6];exact h3
 .rw [XdY,Xb6];exact h4
theorem MY.nil{α:Type}[Dat α] {A:Nat->Prop}{w:World}{a:Option Addr}:MY A w a ([]:List α):=λi hi=>absurd hi (by simp)
section cut
variable {t e:TypeId}{x y z:Operand}{τ σ ρ:Ty}{α:Type}{i:Dat α}{xs:List α}{l r:Int}
theorem OS{α:Type}[Dat α] {A:Nat->Prop}{w:World}{ad:Option Addr}{c:Nat}{xs:List α}{l r:Nat} (hl:l<=r) (hr:r<=xs.length) (h2:xs.length<=c) (h3:c<=maxLen) (h3':xs.length<=LG) (h4:MY A w ad xs) :
  (D ((xs.take r).drop l)).p A w (.slice (if c=l then ad else ad.map (·.add (l*Dat.sz α))) (r-l) (c-l)):=by
 have hlen:((xs.take r).drop l).length=r-l:=by simp;omega
 refine⟨[_],⟨_,c-l,by rw[hlen],by rw[hlen];omega,by omega,by rw[hlen];omega,?_⟩,rfl⟩
 split
 .have:(xs.take r).drop l=[]:=by apply XaI;rw[hlen];omega
  rw[this];exact MY.nil
 .exact h4.cut l r hr
theorem Ws[hsx:Has Γ x τ][hx:AsL τ α i xs][hsy:Has Γ y σ][hy:AsI σ l][hsz:Has Γ z ρ][hz:AsI ρ r][S:TSl P t e][T:TDat P e α i]
  (h0:0<=l) (h1:l<=r) (h2:r<=xs.length):OpY P B0 A Ω Γ ⟨dst,.slice t x (some y) (some z) none,ty,pos,aft,gd⟩ (D ((xs.take r.toNat).drop l.toNat)):=
 OpY.val λa w hl=>by
  obtain⟨cs,⟨ad,c,g1,g2,g3,g3',g4⟩,g5⟩:=hx.le _ _ _ (Zy (x:=x) (τ:=τ) (op:=.slice t x (some y) (some z) none) (by simp[Xae]) hl);have ey:a.eval y=.int .i64 l:=hy.le _ _ _ (Zy (x:=y) (τ:=σ) (op:=.slice t x (some y) (some z) none) (by simp[Xae]) hl);have ez:a.eval z=.int .i64 r:=hz.le _ _ _ (Zy (x:=z) (τ:=ρ) (op:=.slice t x (some y) (some z) none) (by simp[Xae]) hl);subst g1;have ex:a.eval x=.slice ad xs.length c:=g5;refine⟨_,?_,OS (l:=l.toNat) (r:=r.toNat) (by omega) (by omega) g2 g3 g3' g4⟩;have c1:0<=r/\r<=(c:Int):=by unfold maxLen at g3;omega
  have c2:0<=l/\l<=(r.toNat:Int):=by omega
  simp only[execOp,ex,ey,ez,Xbk,XbY,Xbj,XbI,Xag,run_underlying S.h,Xab,Xa2,Xa8,asIntOf,Xai,c1,c2,and_self,if_true,T.sz]
theorem T1[hsx:Has Γ x τ][hx:AsL τ α i xs][hsz:Has Γ z ρ][hz:AsI ρ r][S:TSl P t e][T:TDat P e α i]
  (h1:0<=r) (h2:r<=xs.length):OpY P B0 A Ω Γ ⟨dst,.slice t x none (some z) none,ty,pos,aft,gd⟩ (D (xs.take r.toNat)):=
 OpY.val λa w hl=>by
  obtain⟨cs,⟨ad,c,g1,g2,g3,g3',g4⟩,g5⟩:=hx.le _ _ _ (Zy (x:=x) (τ:=τ) (op:=.slice t x none (some z) none) (by simp[Xae]) hl);have ez:a.eval z=.int .i64 r:=hz.le _ _ _ (Zy (x:=z) (τ:=ρ) (op:=.slice t x none (some z) none) (by simp[Xae]) hl);subst g1;have ex:a.eval x=.slice ad xs.length c:=g5;refine⟨.slice (if c=0 then ad else ad.map (·.add (0*Dat.sz α))) r.toNat c,?_,by simpa using OS (l:=0) (r:=r.toNat) (by omega) (by omega) g2 g3 g3' g4⟩;have c1:0<=r/\r<=(c:Int):=by unfold maxLen at g3;omega
  simp only[execOp,ex,ez,Xbk,XbY,Xbj,XbI,Xag,run_underlying S.h,Xab,Xa2,Xa8,asIntOf,Xai,c1,and_self,if_true,T.sz,XgU]
theorem Ri[hsx:Has Γ x τ][hx:AsL τ α i xs][hsy:Has Γ y σ][hy:AsI σ l][S:TSl P t e][T:TDat P e α i]
  (h0:0<=l) (h1:l<=xs.length):OpY P B0 A Ω Γ ⟨dst,.slice t x (some y) none none,ty,pos,aft,gd⟩ (D (xs.drop l.toNat)):=
 OpY.val λa w hl=>by
  obtain⟨cs,⟨ad,c,g1,g2,g3,g3',g4⟩,g5⟩:=hx.le _ _ _ (Zy (x:=x) (τ:=τ) (op:=.slice t x (some y) none none) (by simp[Xae]) hl);have ey:a.eval y=.int .i64 l:=hy.le _ _ _ (Zy (x:=y) (τ:=σ) (op:=.slice t x (some y) none none) (by simp[Xae]) hl);subst g1;have ex:a.eval x=.slice ad xs.length c:=g5;refine⟨_,?_,by simpa using OS (l:=l.toNat) (r:=xs.length) (by omega) (by omega) g2 g3 g3' g4⟩;have c1:0<=l/\l<=(xs.length:Int):=by omega
  simp only[execOp,ex,ey,Xbk,XbY,Xbj,XbI,Xag,run_underlying S.h,Xab,Xa2,Xa8,asIntOf,Xai,c1,and_self,if_true,T.sz]
end cut
theorem Ret.yields{w w':World}{τ:Ty}{e:Ending} (hB:B0<=w.heap.size) (h:Ret A w τ e w'):∃v,e=.returned v/\KP B0 w w'/\τ.p A w' v:=
 let ⟨v,h1,h2,h3⟩:=h;⟨v,h1,h2.mono hB,h3⟩
class Fun(P:Program)(f:FuncId):Prop where
 h:∀args w,(callFunc f args).run P w=.ok (.enter f args) w
theorem Kk{f:FuncId}{xs:Array Operand}{ts:Array TypeId}{τ:Ty}[F:Fun P f]
  (h:∀(a:Act) w,(∀k,w.heap.size<=k->A k)->(∀t,.tmp t∈xs.toList->(Γ t).p A w (a.tmps.getD t undef))->Calls P f (xs.map a.eval) w (Ret A w τ)) :
  OpY P B0 A Ω Γ ⟨dst,.call { callee:=.value (.func f),args:=xs,argTypes:=ts },ty,pos,aft,gd⟩ τ:=λa w hB hu hp hl=>by
 have h4:=h a w hu λt ht=>hl t (by
  simp only[Xae,XaE,Array.toList_append,Xar];exact .inr ht)
 have:(execOp a.eval ⟨dst,.call { callee:=.value (.func f),args:=xs,argTypes:=ts },ty,pos,aft,gd⟩).run P w=.ok (.enter f (xs.map a.eval)) w:=by
  have e1:a.eval (.func f)=.func (.func f) #[] #[]:=rfl;simp only[execOp,resolve,XbG,e1,Xag,Xai,Xab,invoke,F.h,Array.append_empty,Array.empty_append]
 rw[this];exact⟨KP.refl _ _,h4.mono λe w' hr=>hr.yields hB⟩
theorem YA{f:FuncId}{ts:Array TypeId}{τ:Ty}[F:Fun P f]
  (h:∀w,(∀k,w.heap.size<=k->A k)->Calls P f #[] w (Ret A w τ)) :
  OpY P B0 A Ω Γ ⟨dst,.call { callee:=.value (.func f),args:=#[],argTypes:=ts },ty,pos,aft,gd⟩ τ:=
 Kk λa w hu _=>by rw[Array.map_empty];exact h w hu
theorem F8{f:FuncId}{ts:Array TypeId}{τ:Ty}[F:Fun P f] {x1:Operand}{τ1 σ1:Ty}[h1:Has Γ x1 τ1] [k1:AsT τ1 σ1]
  (h:∀w v1,(∀k,w.heap.size<=k->A k)->σ1.p A w v1->Calls P f #[v1] w (Ret A w τ)) :
  OpY P B0 A Ω Γ ⟨dst,.call { callee:=.value (.func f),args:=#[x1],argTypes:=ts },ty,pos,aft,gd⟩ τ:=
 Kk λa w hu hl=>by
  rw[show(#[x1].map a.eval)=#[a.eval x1]by simp];exact h w _ hu (k1.le _ _ _ (h1.le a A w λt e=>hl t (by simp[e])))
theorem Kl{f:FuncId}{ts:Array TypeId}{τ:Ty}[F:Fun P f] {x1 x2:Operand}{τ1 σ1 τ2 σ2:Ty}[h1:Has Γ x1 τ1] [k1:AsT τ1 σ1] [h2:Has Γ x2 τ2] [k2:AsT τ2 σ2]
  (h:∀w v1 v2,(∀k,w.heap.size<=k->A k)->σ1.p A w v1->σ2.p A w v2->Calls P f #[v1,v2] w (Ret A w τ)) :
  OpY P B0 A Ω Γ ⟨dst,.call { callee:=.value (.func f),args:=#[x1,x2],argTypes:=ts },ty,pos,aft,gd⟩ τ:=
 Kk λa w hu hl=>by
  rw[show(#[x1,x2].map a.eval)=#[a.eval x1,a.eval x2]by simp];exact h w _ _ hu (k1.le _ _ _ (h1.le a A w λt e=>hl t (by simp[e]))) (k2.le _ _ _ (h2.le a A w λt e=>hl t (by simp[e])))
theorem Yz{f:FuncId}{ts:Array TypeId}{τ:Ty}[F:Fun P f] {x1 x2 x3:Operand}{τ1 σ1 τ2 σ2 τ3 σ3:Ty}[h1:Has Γ x1 τ1] [k1:AsT τ1 σ1] [h2:Has Γ x2 τ2] [k2:AsT τ2 σ2] [h3:Has Γ x3 τ3] [k3:AsT τ3 σ3]
  (h:∀w v1 v2 v3,(∀k,w.heap.size<=k->A k)->σ1.p A w v1->σ2.p A w v2->σ3.p A w v3->Calls P f #[v1,v2,v3] w (Ret A w τ)) :
  OpY P B0 A Ω Γ ⟨dst,.call { callee:=.value (.func f),args:=#[x1,x2,x3],argTypes:=ts },ty,pos,aft,gd⟩ τ:=
 Kk λa w hu hl=>by
  rw[show(#[x1,x2,x3].map a.eval)=#[a.eval x1,a.eval x2,a.eval x3]by simp];exact h w _ _ _ hu (k1.le _ _ _ (h1.le a A w λt e=>hl t (by simp[e]))) (k2.le _ _ _ (h2.le a A w λt e=>hl t (by simp[e]))) (k3.le _ _ _ (h3.le a A w λt e=>hl t (by simp[e])))
theorem Yy{f:FuncId}{ts:Array TypeId}{τ:Ty}[F:Fun P f] {x1 x2 x3 x4:Operand}{τ1 σ1 τ2 σ2 τ3 σ3 τ4 σ4:Ty}[h1:Has Γ x1 τ1] [k1:AsT τ1 σ1] [h2:Has Γ x2 τ2] [k2:AsT τ2 σ2] [h3:Has Γ x3 τ3] [k3:AsT τ3 σ3] [h4:Has Γ x4 τ4] [k4:AsT τ4 σ4]
  (h:∀w v1 v2 v3 v4,(∀k,w.heap.size<=k->A k)->σ1.p A w v1->σ2.p A w v2->σ3.p A w v3->σ4.p A w v4->Calls P f #[v1,v2,v3,v4] w (Ret A w τ)) :
  OpY P B0 A Ω Γ ⟨dst,.call { callee:=.value (.func f),args:=#[x1,x2,x3,x4],argTypes:=ts },ty,pos,aft,gd⟩ τ:=
 Kk λa w hu hl=>by
  rw[show(#[x1,x2,x3,x4].map a.eval)=#[a.eval x1,a.eval x2,a.eval x3,a.eval x4]by simp];exact h w _ _ _ _ hu (k1.le _ _ _ (h1.le a A w λt e=>hl t (by simp[e]))) (k2.le _ _ _ (h2.le a A w λt e=>hl t (by simp[e]))) (k3.le _ _ _ (h3.le a A w λt e=>hl t (by simp[e]))) (k4.le _ _ _ (h4.le a A w λt e=>hl t (by simp[e])))
class AsTup(τ:Ty)(τs:outParam (List Ty)):Prop where
 le:τ.le (Tup τs)
instance {τs:List Ty}:AsTup (Tup τs) τs:=⟨Ty.le.refl _⟩
theorem Hx{x:Operand}{τ σ:Ty}{τs:List Ty}{k:Nat}[Has Γ x τ] [hx:AsTup τ τs] (hk:τs[k]?=some σ) :
  OpY P B0 A Ω Γ ⟨dst,.extract x k,ty,pos,aft,gd⟩ σ:=
 OpY.val λa w hl=>by
  obtain⟨vs,h1,h2,h3⟩:=hx.le _ _ _ (Zy (x:=x) (τ:=τ) (op:=.extract x k) (by simp[Xae]) hl);obtain⟨hlt,rfl⟩:=Xav.1 hk;have h4:=h3 k hlt;have h5:vs.toArray[k]?=some (vs.getD k undef):=by
   rw[Xek,Xad,Xaf (by omega)];rfl
  refine⟨vs.getD k undef,?_,h4⟩;simp only[execOp,h1,Instr.extract,h5,Xag,Xai,Xab]
end
theorem LR{a b:List Value}{o n:Nat} (h:o+n<=a.length):seg (a++b) o n=seg a o n:=by
 refine AV (by rw[ZA h,ZA (by simp;omega)]) λj hj=>?_
 rw[ZA (by simp;omega)]at hj;rw[Al hj,Al hj];simp[Xad,XcW (show o+j<a.length by omega)]
theorem RF{a b:List Value}{o n:Nat} (h:o+n<=b.length):seg (a++b) (a.length+o) n=seg b o n:=by
 refine AV (by rw[ZA h,ZA (by simp;omega)]) λj hj=>?_
 rw[ZA (by simp;omega)]at hj;rw[Al hj,Al hj];simp[Xad,XbK (show a.length<=a.length+o+j by omega),show a.length+o+j-a.length=o+j by omega]
theorem Uv{a:List Value}{o n k:Nat} (h:o+n<=k) (hk:k<=a.length):seg (a.take k) o n=seg a o n:=by
 refine AV (by rw[ZA (by simp;omega),ZA (by omega)]) λj hj=>?_
 rw[ZA (by simp;omega)]at hj;rw[Al hj,Al hj];simp[Xad,Xfk (show o+j<k by omega)]
theorem Qu{cs:List Value}{o p q:Nat}{vs:List Value} (h:o+vs.length<=cs.length) (hp:p+q<=vs.length):seg (Ab cs o vs) (o+p) q=seg vs p q:=by
 have h1:o+p+q<=(Ab cs o vs).length:=by rw[Zp h];omega
 refine AV (by rw[ZA h1,ZA hp]) λj hj=>?_
 rw[ZA h1]at hj;rw[Al hj,Al hj,ZT h,if_pos (by omega)];congr 1;omega
theorem Mut.setCell{w:World}{b i:Nat}{v:Value}:Mut (λk=>k=b) w (w.setCell ⟨b,i,none⟩ v):=
 ⟨rfl,rfl,rfl,by simp,λk hk hn=>Below.heap_setCell _ _ _ _ (by simpa using hn)⟩
theorem Blk.setCell{w:World}{b i:Nat}{v:Value}{cs:List Value} (h:Blk w b cs):Blk (w.setCell ⟨b,i,none⟩ v) b (cs.set i v):=by
 obtain⟨e,f,h,hf⟩:=h;refine⟨e,f,?_,by simpa using hf⟩;simp only[World.setCell,Array.getElem?_modify,if_true,h,Xbj];simp
theorem PJ{cs:List Value}{o:Nat}{v:Value}{vs:List Value} (h:o+(vs.length+1)<=cs.length):Ab (cs.set o v) (o+1) vs=Ab cs o (v::vs):=by
 have h1:o+1+vs.length<=(cs.set o v).length:=by simp;omega
 have h2:o+(v::vs).length<=cs.length:=by simpa using h
 refine AV (by rw[Zp h1,Zp h2];simp) λj hj=>?_
 rw[Zp h1]at hj;rw[ZT h1,ZT h2];simp only[XaP]
 by_cases c1:j=o
 .subst c1;rw[if_neg (by omega),if_pos (by omega)];simp[Xad,Xbh (show j<cs.length by omega)]
 .by_cases c2:o+1<=j/\j<o+1+vs.length
  .rw [if_pos c2,if_pos (by omega)];rw[show j-o=(j-(o+1))+1 by omega];simp[Xad]
  .rw [if_neg c2,if_neg (by omega)];simp[Xad,XbZ (show o≠j from λe=>c1 e.symm)]
theorem JM{P:Program}{b o:Nat}:∀(vs:List Value) (i:Nat) (cs:List Value) (w:World),Blk w b cs->o+i+vs.length<=cs.length->(∀v∈vs,v.oneCell'=true)->
  ∃w',(storeCells ⟨b,o,none⟩ vs i).run P w=.ok () w'/\Blk w' b (Ab cs (o+i) vs)/\Mut (λk=>k=b) w w'/\w'.heap.size=w.heap.size
 | [],i,cs,w,hb,_,_=>⟨w,rfl,by simpa[Ab]using hb,Mut.refl _ _,rfl⟩
 | v::vs,i,cs,w,hb,hl,h1=>by
  have hl':o+i+(vs.length+1)<=cs.length:=by simpa using hl
  obtain⟨w',r1,r2,r3,r4⟩:=JM (P:=P) (b:=b) (o:=o) vs (i+1) (cs.set (o+i) v) (w.setCell ⟨b,o+i,none⟩ v) hb.setCell (by simp;omega) λu hu=>h1 u (Xaw _ hu)
  refine⟨w',?_,?_,Mut.setCell.trans r3,by rw[r4];simp⟩
  .unfold storeCells;rw[Xag,Bf,run_store _ _ _ _ _ (h1 v Xay),hb.cell (by omega),hb.free (by omega)];simpa using r1
  .rw [<-XbO,PJ hl']at r2;exact r2
theorem Bp{P:Program}{b o:Nat}{vs:List Value}{cs:List Value}{w:World} (hb:Blk w b cs) (hl:o+vs.length<=cs.length) (h1:∀v∈vs,v.oneCell'=true) :
  ∃w',(storeCells ⟨b,o,none⟩ vs).run P w=.ok () w'/\Blk w' b (Ab cs o vs)/\Mut (λk=>k=b) w w'/\w'.heap.size=w.heap.size:=
 JM vs 0 cs w hb (by omega) h1
theorem JL{cs:List Value}{a m o n:Nat} (h:o+n<=m) (hm:a+m<=cs.length):seg (seg cs a m) o n=seg cs (a+o) n:=by
 have hl:(seg cs a m).length=m:=ZA hm;refine AV (by rw[ZA (by omega),ZA (by omega)]) λj hj=>?_
 rw[ZA (by omega)]at hj;rw[Al hj,Al hj,Al (by omega)];congr 1;omega
theorem NA{cs:List Value}{a m o:Nat}{es:List Value} (h:o+es.length<=m) (hm:a+m<=cs.length):seg (Ab cs (a+o) es) a m=Ab (seg cs a m) o es:=by
 have hl:(seg cs a m).length=m:=ZA hm;have h1:a+o+es.length<=cs.length:=by omega
 have h2:o+es.length<=(seg cs a m).length:=by omega
 refine AV (by rw[ZA (by rw[Zp h1];omega),Zp h2,hl]) λj hj=>?_
 rw[ZA (by rw[Zp h1];omega)]at hj;rw[Al hj,ZT h1,ZT h2,Al hj]
 by_cases c:o<=j/\j<o+es.length
 .rw [if_pos (by omega),if_pos c];congr 1;omega
 .rw [if_neg (by omega),if_neg c]
theorem Zdi{cs:List Value}{a b:Nat} (h:cs.length=a+b):cs=seg cs 0 a++seg cs a b:=by
 have e1:seg cs 0 a=cs.take a:=by simp[seg]
 have e2:seg cs a b=cs.drop a:=by simp only[seg];exact XaB (by simp;omega)
 rw[e1,e2,List.take_append_drop]
theorem Dw(α:Type)[Dat α]:(Dat.zc α).length=Dat.sz α:=Dat.len (Dat.zrd (A:=λ_=>True) (w:=default))
instance US{α β:Type}[Dat α] [Dat β]:Dat (α×β) where
 agg:=true
 sz:=Dat.sz α+Dat.sz β
 rd A w cs x:=cs.length=Dat.sz α+Dat.sz β/\Dat.rd A w (seg cs 0 (Dat.sz α)) x.1/\Dat.rd A w (seg cs (Dat.sz α) (Dat.sz β)) x.2
 wf x:=Dat.wf x.1/\Dat.wf x.2
 len h:=h.1
 one h:=by cases h
 pos:=by have:=Dat.pos (α:=α);omega
 ok h:=⟨Dat.ok h.2.1,Dat.ok h.2.2⟩
 plain h:=by cases h
 mono k h:=⟨h.1,Dat.mono k h.2.1,Dat.mono k h.2.2⟩
 scal h v hv:=by
  rw[Zdi h.1,Xar]at hv;rcases hv with hv|hv
  .exact Dat.scal h.2.1 v hv
  .exact Dat.scal h.2.2 v hv
 z:=(Dat.z,Dat.z)
 zc:=Dat.zc α++Dat.zc β
 zrd {A w}:=⟨by rw[XaD,Dw,Dw],by
   rw[LR (by rw[Dw];omega)];have:seg (Dat.zc α) 0 (Dat.sz α)=Dat.zc α:=by rw[<-Dw α];simp[seg]
   rw[this];exact Dat.zrd,by
   have e:=RF (a:=Dat.zc α) (b:=Dat.zc β) (o:=0) (n:=Dat.sz β) (by rw[Dw];omega);rw[Dw,Xbw]at e;rw[e];have:seg (Dat.zc β) 0 (Dat.sz β)=Dat.zc β:=by rw[<-Dw β];simp[seg]
   rw[this];exact Dat.zrd⟩
@[reducible] def Dat.iso{α β:Type}[i:Dat β] (f:α->β) (g:β->α) (h:∀y,f (g y)=y):Dat α where
 agg:=Dat.agg β
 sz:=Dat.sz β
 rd A w cs x:=Dat.rd A w cs (f x)
 wf x:=Dat.wf (f x)
 len h:=Dat.len h
 one h:=Dat.one h
 pos:=Dat.pos
 ok h:=Dat.ok h
 plain h:=Dat.plain h
 mono k h:=Dat.mono k h
 scal h:=Dat.scal h
 z:=g Dat.z
 zc:=Dat.zc β
 zrd:=by intro A w;show Dat.rd A w (Dat.zc β) (f (g Dat.z));rw[h];exact Dat.zrd
class Fld(α:Type)(i:Dat α)(off:Nat)(β:outParam Type)(j:outParam (Dat β))(get:outParam (α->β))(set:outParam (β->α->α)):Prop where
 agg:Dat.agg α=true
 le:off+Dat.sz β<=Dat.sz α
 rd:∀{A w cs x},Dat.rd A w cs x->Dat.rd A w (seg cs off (Dat.sz β)) (get x)
 st:∀{A w cs x es y},Dat.rd A w cs x->Dat.rd A w es y->Dat.rd A w (Ab cs off es) (set y x)
theorem Fld.fst{α β:Type}[Dat α] [Dat β]:Fld (α×β) inferInstance 0 α inferInstance Prod.fst (λy x=>(y,x.2)) where
 agg:=rfl
 le:=by show 0+Dat.sz α<=Dat.sz α+Dat.sz β;omega
 rd h:=h.2.1
 st {A w cs x es y} h k:=by
  have l:=Dat.len k;have l1:=h.1;refine⟨by rw[Zp (by omega)];exact h.1,?_,?_⟩
  .have e:=B1 (cs:=cs) (o:=0) (vs:=es) (by omega);rw[l]at e;rw[e];exact k
  .rw [AM (by omega) (by omega) (.inr (by omega))];exact h.2.2
theorem Fld.snd{α β:Type}[Dat α] [Dat β]:Fld (α×β) inferInstance (Dat.sz α) β inferInstance Prod.snd (λy x=>(x.1,y)) where
 agg:=rfl
 le:=Xau _
 rd h:=h.2.2
 st {A w cs x es y} h k:=by
  have l:=Dat.len k;have l1:=h.1;refine⟨by rw[Zp (by omega)];exact h.1,?_,?_⟩
  .rw [AM (by omega) (by omega) (.inl (by omega))];exact h.2.1
  .have e:=B1 (cs:=cs) (o:=Dat.sz α) (vs:=es) (by omega);rw[l]at e;rw[e];exact k
theorem Fld.next{α β γ:Type}[Dat α] [b:Dat β] {j:Dat γ}{off:Nat}{get:β->γ}{set:γ->β->β} (F:Fld β b off γ j get set):Fld (α×β) inferInstance (Dat.sz α+off) γ j (λx=>get x.2) (λy x=>(x.1,set y x.2)) where
 agg:=rfl
 le:=by have:=F.le;show Dat.sz α+off+Dat.sz γ<=Dat.sz α+Dat.sz β;omega
 rd {A w cs x} h:=by
  have l1:=h.1;have:=F.le;have k:=F.rd h.2.2
  rwa [JL (by omega) (by omega)]at k
 st {A w cs x es y} h k:=by
  have l:=Dat.len k;have l1:=h.1;have:=F.le;refine⟨by rw[Zp (by omega)];exact h.1,?_,?_⟩
  .rw [AM (by omega) (by omega) (.inl (by omega))];exact h.2.1
  .rw [NA (by omega) (by omega)];exact F.st h.2.2 k
theorem Fld.iso{α β γ:Type}[b:Dat β] {j:Dat γ}{f:α->β}{g:β->α}{h:∀y,f (g y)=y}{off:Nat}{get:β->γ}{set:γ->β->β} (F:Fld β b off γ j get set):Fld α (Dat.iso f g h) off γ j (λx=>get (f x)) (λy x=>g (set y (f x))) where
 agg:=F.agg
 le:=F.le
 rd k:=F.rd k
 st {A w cs x es y} k l:=by show Dat.rd A w _ (f (g _));rw[h];exact F.st k l
class ToD(τ:Ty)(α:Type)(i:Dat α)(x:outParam α):Prop where
 le:τ.le (D x)
theorem I_D{n:Int}(h1:-9223372036854775808<=n)(h2:n<=9223372036854775807):(I n).le (D n):=λ_ _ v h=>by
 have h:v=.int .i64 n:=h;subst h;exact⟨[_],⟨rfl,h1,h2⟩,rfl⟩
theorem U8_D{n:UInt8}:(U8 n).le (D n):=λ_ _ v h=>⟨[_],rfl,h⟩
theorem Zgm{n:UInt16}:(U16 n).le (D n):=λ_ _ v h=>⟨[_],rfl,h⟩
theorem Zgl{n:UInt32}:(U32 n).le (D n):=λ_ _ v h=>⟨[_],rfl,h⟩
theorem Zgk{n:UInt64}:(U64 n).le (D n):=λ_ _ v h=>⟨[_],rfl,h⟩
theorem B_D{n:Bool}:(B n).le (D n):=λ_ _ v h=>⟨[_],rfl,h⟩
instance {α:Type}{i:Dat α}{x:α}:ToD (D x) α i x:=⟨Ty.le.refl _⟩
instance {x:UInt8}:ToD (U8 x) UInt8 inferInstance x:=⟨U8_D⟩
instance {x:UInt16}:ToD (U16 x) UInt16 inferInstance x:=⟨Zgm⟩
instance {x:UInt32}:ToD (U32 x) UInt32 inferInstance x:=⟨Zgl⟩
instance {x:UInt64}:ToD (U64 x) UInt64 inferInstance x:=⟨Zgk⟩
instance {x:Bool}:ToD (B x) Bool inferInstance x:=⟨B_D⟩
instance {x:Int}[h:Ft (FA x)]:ToD (I x) Int inferInstance x:=⟨I_D h.h.1 h.h.2⟩
instance {α:Type}{i:Dat α}:ToD Ro (List α) Bv []:=⟨Ro.le⟩
instance {p:Prop}{τ:Ty}{α:Type}{i:Dat α}{x:α}[h:Ft p] [k:ToD τ α i x]:ToD (HY p τ) α i x:=⟨λA w v y=>k.le A w v (y.1 h.h)⟩
instance ZgE{n:Nat}[h:BoolIs (Xbn n 9223372036854775807) true]:Ft (FA (no_index (Xee n))):=⟨by
 have:=Xcb h.h;show FA (n:Int);unfold FA;omega⟩
instance :Ft True:=⟨trivial⟩
theorem LF{α:Type}[Dat α] {A:Nat->Prop}{w:World}{x:α}{v:Value} (h:(D x).p A w v):∃cs,v.cells=cs.toArray/\Dat.rd A w cs x:=by
 obtain⟨cs,h1,rfl⟩:=h;exact⟨cs,Xk h1,h1⟩
def One{α:Type}[Dat α] (x:α):Ct:=⟨λA w cs=>Dat.rd A w cs x,λk h=>Dat.mono k h⟩
def A7{α:Type}[Dat α] (A:Nat->Prop) (w:World) (cs:List Value) (xs:List α):Prop:=∀i (h:i<xs.length),Dat.rd A w (seg cs (i*Dat.sz α) (Dat.sz α)) xs[i]
theorem A7.keep{α:Type}[Dat α] {A A':Nat->Prop}{w w':World}{cs:List Value}{xs:List α} (k:HD A A' w w') (h:A7 A w cs xs):A7 A' w' cs xs:=λi hi=>Dat.mono k (h i hi)
def Row{α:Type}[Dat α] (xs:List α) (c:Nat):Ct:=
 ⟨λA w cs=>cs.length=c*Dat.sz α/\xs.length<=c/\c<=maxLen/\xs.length<=LG/\A7 A w cs xs,λk ⟨h1,h2,h3,h4,h5⟩=>⟨h1,h2,h3,h4,h5.keep k⟩⟩
def Pt(b off:Nat):Ty:=Ex (.pointer (some ⟨b,off,none⟩))
def Sl(b:Nat)(pr:Prop)(o n c:Nat):Ty:=⟨λ_ _ v=>(pr/\(n<=c/\c<=maxLen)/\v=.slice (some ⟨b,o,none⟩) n c)\/(¬pr/\n=0/\c=0/\v=.slice none 0 0),λ_ h=>h⟩
class HasB(Ω:List Pe)(b:Nat)(pr:outParam Prop)(C:outParam Ct):Prop where
 h:(⟨b,pr,C⟩:Pe)∈Ω
instance (priority:=2000){b:Nat}{pr:Prop}{C:Ct}{Ω:List Pe}:HasB (⟨b,pr,C⟩::Ω) b pr C:=⟨Xay ..⟩
instance {e:Pe}{b:Nat}{pr:Prop}{C:Ct}{Ω:List Pe}[h:HasB Ω b pr C]:HasB (e::Ω) b pr C:=⟨Xaw _ h.h⟩
theorem Fb.perm{Ω Ω':List Pe}(h:Ω.Perm Ω'):Fb Ω Ω' where
 own k:=λ⟨e,he,h1⟩=>⟨e,h.mem_iff.2 he,h1⟩
 ap hp:=(h.pairwise_iff (λ{x y} hxy p1 p2 he=>hxy p2 p1 he.symm)).1 hp
 ks A w hk:=λe he=>hk e (h.mem_iff.2 he)
class Split(Ω:List Pe)(bs:List Nat)(Ωs Ωt:outParam (List Pe)):Prop where
 perm:Ω.Perm (Ωs++Ωt)
instance {bs:List Nat}:Split [] bs [] []:=⟨List.Perm.refl _⟩
instance (priority:=500){e:Pe}{Ω Ωs Ωt:List Pe}{bs:List Nat}[h:Split Ω bs Ωs Ωt]:Split (e::Ω) bs (e::Ωs) Ωt:=⟨h.perm.cons e⟩
instance (priority:=2000){b:Nat}{pr:Prop}{C:Ct}{Ω Ωs Ωt:List Pe}{bs:List Nat}[InB bs b] [h:Split Ω bs Ωs Ωt]:Split (⟨b,pr,C⟩::Ω) bs Ωs (⟨b,pr,C⟩::Ωt):=⟨(h.perm.cons _).trans List.perm_middle.symm⟩
class Pick(Ω:List Pe)(b:Nat)(pr:outParam Prop)(C:outParam Ct)(Ωr:outParam (List Pe)):Prop where
 perm:Ω.Perm (⟨b,pr,C⟩::Ωr)
instance (priority:=2000){b:Nat}{pr:Prop}{C:Ct}{Ω:List Pe}:Pick (⟨b,pr,C⟩::Ω) b pr C Ω:=⟨List.Perm.refl _⟩
instance {e:Pe}{b:Nat}{pr:Prop}{C:Ct}{Ω Ωr:List Pe}[h:Pick Ω b pr C Ωr]:Pick (e::Ω) b pr C (e::Ωr):=⟨(h.perm.cons e).trans (List.Perm.swap _ _ _)⟩
section ops
variable {P:Program}{B:Nat}{Ωs Ω:List Pe}{Γ:Env}
theorem GB{o:Oper}{κ:Type}{τ:Nat×κ->Ty}{C:κ->Ct} (hg:o.guard=none)
  (h:∀(A:Nat->Prop) (a:Act) (w:World),(∀k,w.heap.size<=k->A k)->Pks A (Ωs++Ω) w->(∀t,.tmp t∈o.op.operands.toList->(Γ t).p A w (a.tmps.getD t undef))->
   ∃k v q cs e,(execOp a.eval o).run P w=.ok (.value v) (({ w with drawn:=q }:World).alloc (.cells cs.toArray e))/\(∀A w',(τ (w.heap.size,k)).p A w' v)/\(C k).p A w cs) :
  OpT P B Ωs Ω Γ o τ λg=>⟨g.1,True,C g.2⟩::Ω:=by
 have key:OpT P B (Ωs++Ω) [] Γ o τ λg=>[⟨g.1,True,C g.2⟩]:=by
  refine⟨hg,λA0 a w hB hu ho ha hk hl=>?_⟩;rw[XaX]at ha hk hl;obtain⟨k,v,q,cs,e,h1,h2,h3⟩:=h (Pub A0 (Ωs++Ω)) a w (λk hk'=>ZC.2 ⟨hu k hk',λho=>by have:=hk.lt ho;omega⟩) hk hl;rw[h1];have hlt:∀j,Own (Ωs++Ω) j->j<w.heap.size:=λj hj=>hk.lt hj
  have hown:∀j,Own ((Ωs++Ω)++[⟨w.heap.size,True,C k⟩]) j->Own (Ωs++Ω) j\/j=w.heap.size:=λj hj=>by
   rcases ZV.1 hj with hj|⟨f,hf,_,hb⟩
   .exact .inl hj
   .obtain rfl:=Xal.1 hf;exact .inr hb.symm
  have hgr:KP B w (({ w with drawn:=q }:World).alloc (.cells cs.toArray e)):=(KP.drawn q).trans (KP.push _ hB);have hkp:HD (Pub A0 (Ωs++Ω)) (Pub A0 ((Ωs++Ω)++[⟨w.heap.size,True,C k⟩])) w (({ w with drawn:=q }:World).alloc (.cells cs.toArray e)):=by
   refine⟨hgr.size,λj hj hp=>⟨ZC.2 ⟨(ZC.1 hp).1,λho=>?_⟩,hgr.cells j hj⟩⟩;rcases hown j ho with ho|ho
   .exact (ZC.1 hp).2 ho
   .omega
  refine⟨(w.heap.size,k),Er hgr,λj ⟨f,hf,_,hb⟩=>?_,?_,h2 _ _,λf hf _=>?_⟩
  .obtain rfl:=Xal.1 hf;right;simp at hb;omega
  .refine XaH.2 ⟨ha,Xcx _ _,λx hx y hy hp _ hb=>?_⟩;obtain rfl:=Xal.1 hy;have:=hlt _ ⟨x,hx,hp,rfl⟩;simp at hb;omega
  .obtain rfl:=Xal.1 hf;exact⟨cs,Blk.new rfl,(C k).keep hkp h3⟩
 exact key.frame (Ωt:=[]) (List.Perm.refl _)
theorem OpT.box{t:TypeId}{x:Operand}{d:Tmp}{ty:TypeId}{pos:String}{aft:Array Edge}{τ:Ty}{α:Type}{i:Dat α}{y:α}[T:TDat P t α i] [hx:Has Γ x τ] [hy:ToD τ α i y] :
  OpT P B Ωs Ω Γ ⟨some d,.box t x,ty,pos,aft,none⟩ (λg:Nat×Unit=>Pt g.1 0) λg=>⟨g.1,True,One y⟩::Ω:=
 GB (C:=λ_=>One y) rfl λA a w _ _ hl=>by
  obtain⟨cs,e1,r1⟩:=LF (hy.le _ _ _ (Zy (x:=x) (τ:=τ) (op:=.box t x) (by simp[Xae]) hl));refine⟨(),.pointer (some ⟨w.heap.size,0,none⟩),w.drawn,cs,t,?_,λ_ _=>rfl,r1⟩;simp[execOp,Instr.box,newVar,newRow,e1]
theorem OpT.alloc{t:TypeId}{d:Tmp}{ty:TypeId}{pos:String}{aft:Array Edge}{α:Type}{i:Dat α} (T:∃ti z,P.info? t=some ti/\ti.zero=some z/\z.cells=(Dat.zc α).toArray) :
  OpT P B Ωs Ω Γ ⟨some d,.alloc t,ty,pos,aft,none⟩ (λg:Nat×Unit=>Pt g.1 0) λg=>⟨g.1,True,One (Dat.z:α)⟩::Ω:=
 GB (C:=λ_=>One (Dat.z:α)) rfl λA a w _ _ hl=>by
  obtain⟨ti,z,h1,h2,h3⟩:=T;refine⟨(),.pointer (some ⟨w.heap.size,0,none⟩),w.drawn,Dat.zc α,t,?_,λ_ _=>rfl,Dat.zrd⟩;simp[execOp,Instr.alloc,zeroValue,typeInfo,h1,h2,newVar,newRow,h3]
end ops
theorem Uw{cs:List Value}{n:Nat} (h:cs.length=n):seg cs 0 n=cs:=by subst h;simp[seg]
theorem Om{cs vs:List Value}(h:cs.length=vs.length):Ab cs 0 vs=vs:=by
 unfold Ab;rw[Xbg,<-h];simp
class CtAt(C:Ct)(off:Nat)(α:Type)(i:Dat α)(x:outParam α):Prop where
 h:∀{A w cs},C.p A w cs->off+Dat.sz α<=cs.length/\Dat.rd A w (seg cs off (Dat.sz α)) x
class CtSet(C:Ct)(off:Nat)(α:Type)(i:Dat α)(y:α)(C':outParam Ct):Prop where
 h:∀{A w cs ds},C.p A w cs->Dat.rd A w ds y->off+Dat.sz α<=cs.length/\C'.p A w (Ab cs off ds)
instance (priority:=2000){α:Type}{i:Dat α}{x:α}:CtAt (One x) 0 α i x:=⟨λ{A w cs} h=>by
 have h:Dat.rd A w cs x:=h;have l:=Dat.len h;rw[Uw l];exact⟨by omega,h⟩⟩
instance (priority:=2000){α:Type}{i:Dat α}{x y:α}:CtSet (One x) 0 α i y (One y):=⟨λ{A w cs ds} h k=>by
 have h:Dat.rd A w cs x:=h;have l:=Dat.len h;have l2:=Dat.len k;refine⟨by omega,?_⟩;show Dat.rd A w (Ab cs 0 ds) y;rw[Om (by omega)];exact k⟩
theorem Row.at{α:Type}[i:Dat α] {xs:List α}{c j:Nat} (hj:j<xs.length):CtAt (Row xs c) (j*Dat.sz α) α i xs[j]:=⟨λ{A w cs} h=>by
 obtain⟨h1,h2,h3,h4,h5⟩:=h;exact⟨by rw[h1,<-XaF];exact Xah _ (by omega),h5 j hj⟩⟩
theorem Row.set{α:Type}[i:Dat α] {xs:List α}{c j:Nat}{y:α} (hj:j<xs.length):CtSet (Row xs c) (j*Dat.sz α) α i y (Row (xs.set j y) c):=⟨λ{A w cs ds} h k=>by
 obtain⟨h1,h2,h3,h4,h5⟩:=h;have l2:=Dat.len k;have hfit:j*Dat.sz α+Dat.sz α<=cs.length:=by rw[h1,<-XaF];exact Xah _ (by omega)
 refine⟨hfit,by rw[Zp (by omega)];exact h1,by simpa using h2,h3,by simpa using h4,λq hq=>?_⟩;simp only[XaA]at hq
 by_cases hqj:q=j
 .subst hqj;have e9:=B1 (cs:=cs) (o:=q*Dat.sz α) (vs:=ds) (by omega);rw[l2]at e9;rw[e9,List.getElem_set_self];exact k
 .rw [AM (by omega) (by rw[h1,<-XaF];exact Xah _ (by omega)) ?_,List.getElem_set_ne (λh=>hqj h.symm)]
  .exact h5 q hq
  .rcases Xbd q j with h6|h6
   .left;rw[<-XaF];exact Xah _ (by omega)
   .right;rw[l2,<-XaF];exact Xah _ (by omega)⟩
theorem CtAt.fld{α β:Type}{i:Dat α}{j:Dat β}{C:Ct}{o off:Nat}{get:α->β}{set:β->α->α}{x:α} (h:CtAt C o α i x) (L:Fld α i off β j get set):CtAt C (o+off) β j (get x):=⟨λ{A w cs} hc=>by
 obtain⟨h1,h2⟩:=h.h hc;have h3:=L.le;have h4:=L.rd h2;rw[JL (by omega) (by omega)]at h4;exact⟨by omega,h4⟩⟩
structure Pl(C:Ct)(o:Nat)(α:Type)(i:Dat α)(x:α)(upd:α->Ct):Prop where
 rd:CtAt C o α i x
 st:∀y,CtSet C o α i y (upd y)
theorem ZB{α:Type}{i:Dat α}{x:α}:Pl (One x) 0 α i x One:=⟨inferInstance,λy=>inferInstance⟩
theorem Pl.fld{α β:Type}{i:Dat α}{j:Dat β}{C:Ct}{o off:Nat}{get:α->β}{set:β->α->α}{x:α}{upd:α->Ct} (h:Pl C o α i x upd) [L:Fld α i off β j get set]:Pl C (o+off) β j (get x) λy=>upd (set y x):=
 ⟨h.rd.fld L,λy=>⟨λ{A w cs ds} hc hd=>by
  obtain⟨h1,h2⟩:=h.rd.h hc;have l2:=Dat.len hd;have hL:=L.le;obtain⟨-,g2⟩:=(h.st (set y x)).h hc (L.st h2 hd);refine⟨by omega,?_⟩;have e:Ab cs o (Ab (seg cs o (Dat.sz α)) off ds)=Ab cs (o+off) ds:=by
   have hl:(seg cs o (Dat.sz α)).length=Dat.sz α:=ZA h1;have hl2:(Ab (seg cs o (Dat.sz α)) off ds).length=Dat.sz α:=by rw[Zp (by omega),hl]
   refine AV (by rw[Zp (by omega),Zp (by omega)]) λj hj=>?_
   rw[Zp (by omega)]at hj;rw[ZT (cs:=cs) (o:=o) (by omega),ZT (cs:=cs) (o:=o+off) (by omega),hl2]
   by_cases c1:o<=j/\j<o+Dat.sz α
   .rw [if_pos c1,ZT (by omega)]
    by_cases c2:off<=j-o/\j-o<off+ds.length
    .rw [if_pos c2,if_pos (by omega)];congr 1;omega
    .rw [if_neg c2,if_neg (by omega),Al (by omega)];congr 1;omega
   .rw [if_neg c1,if_neg (by omega)]
  rw[e]at g2;exact g2⟩⟩
def idx{α:Type}(xs:List α)(k:Int):Option α:=if 0<=k then xs[k.toNat]? else none
theorem A3{α:Type}{xs:List α}{k:Int}{x:α} (h:idx xs k=some x):0<=k/\xs[k.toNat]?=some x:=by
 unfold idx at h;split at h
 .exact ⟨‹_›,h⟩
 .cases h
theorem JZ{α:Type}{xs:List α}{k:Int}{x:α} (h:idx xs k=some x):0<=k/\k<xs.length:=by
 obtain⟨h1,h2⟩:=A3 h;have:=(Xav.1 h2).1;omega
theorem Pl.row{α:Type}{i:Dat α}{xs:List α}{c:Nat}{k:Int}{x:α} (h:idx xs k=some x):Pl (Row xs c) (k.toNat*Dat.sz α) α i x λy=>Row (xs.set k.toNat y) c:=by
 obtain⟨h1,h2⟩:=A3 h;obtain⟨h3,h4⟩:=Xav.1 h2;subst h4;exact⟨Row.at h3,λy=>Row.set h3⟩
def Ct.mix(C:Ct)(o:Nat)(τ:Ty):Ct:=
 ⟨λA w cs=>∃cs0 v,C.p A w cs0/\o<cs0.length/\τ.p A w v/\cs=cs0.set o v,λk ⟨cs0,v,h1,h2,h3,h4⟩=>⟨cs0,v,C.keep k h1,h2,τ.keep k h3,h4⟩⟩
theorem Qt{cs:List Value}{o off n:Nat}{v:Value} (h:o<off\/off+n<=o) (hl:off+n<=cs.length):seg (cs.set o v) off n=seg cs off n:=by
 refine AV (by rw[ZA (by simpa using hl),ZA hl]) λj hj=>?_
 rw[ZA (by simpa using hl)]at hj;rw[Al hj,Al hj];simp only[Xad];rw[XbZ (by omega)]
theorem Nz{cs ds:List Value}{o off:Nat}{v:Value} (h:o<off\/off+ds.length<=o) (hl:off+ds.length<=cs.length):Ab (cs.set o v) off ds=(Ab cs off ds).set o v:=by
 refine AV (by rw[Zp (by simpa using hl),XaA,XaA,Zp hl]) λj hj=>?_
 rw[Zp (by simpa using hl),XaA]at hj;rw[ZT (by simpa using hl)]
 by_cases hjo:j=o
 .subst hjo;rw[if_neg (by omega)];simp only[Xad];rw[Xbh (by omega),Xbh (by rw[Zp hl];omega)]
 .have e1:((Ab cs off ds).set o v).getD j undef=(Ab cs off ds).getD j undef:=by
   simp only[Xad];rw[XbZ (λh=>hjo h.symm)]
  have e2:(cs.set o v).getD j undef=cs.getD j undef:=by
   simp only[Xad];rw[XbZ (λh=>hjo h.symm)]
  rw[e1,e2,ZT hl]
theorem CtAt.mix{C:Ct}{o off:Nat}{τ:Ty}{α:Type}{i:Dat α}{x:α} (h:CtAt C off α i x) (hd:o<off\/off+Dat.sz α<=o):CtAt (C.mix o τ) off α i x:=⟨λ{A w cs} ⟨cs0,v,h1,h2,h3,h4⟩=>by
 obtain⟨g1,g2⟩:=h.h h1;subst h4;exact⟨by simpa using g1,by rw[Qt hd g1];exact g2⟩⟩
theorem CtSet.mix{C C':Ct}{o off:Nat}{τ:Ty}{α:Type}{i:Dat α}{y:α} (h:CtSet C off α i y C') (hd:o<off\/off+Dat.sz α<=o):CtSet (C.mix o τ) off α i y (C'.mix o τ):=⟨λ{A w cs ds} ⟨cs0,v,h1,h2,h3,h4⟩ k=>by
 obtain⟨g1,g2⟩:=h.h h1 k;have l:=Dat.len k;subst h4;exact⟨by simpa using g1,Ab cs0 off ds,v,g2,by rw[Zp (by omega)];exact h2,h3,Nz (by omega) (by omega)⟩⟩
theorem Pl.mix{C:Ct}{o off:Nat}{τ:Ty}{α:Type}{i:Dat α}{x:α}{upd:α->Ct} (h:Pl C off α i x upd) (hd:o<off\/off+Dat.sz α<=o):Pl (C.mix o τ) off α i x λy=>(upd y).mix o τ:=⟨h.rd.mix hd,λy=>(h.st y).mix hd⟩
section ops
variable {P:Program}{B0:Nat}{A:Nat->Prop}{Ω:List Pe}{Γ:Env}{dst:Option Tmp}{ty:TypeId}{pos:String}{aft:Array Edge}{gd:Option (Nat×Bool)}
variable {α β:Type}{i:Dat α}{j:Dat β}{t u:TypeId}{f off:Nat}{get:α->β}{set:β->α->α}
theorem LT{w:World}{cs:List Value}{x:β}[T:TDat P u β j] (h:Dat.rd A w (seg cs off (Dat.sz β)) x) (hl:off+Dat.sz β<=cs.length):(part u cs.toArray off).run P w=.ok (mkV β (seg cs off (Dat.sz β))) w:=by
 unfold part mkV;rw[Xag,T.ag];simp only[Xab];cases ha:Dat.agg β with
 | true=>
  simp only[if_true];rw[Xag,T.sz];simp only[Xab,Xai];congr 2;simp[seg,List.extract_eq_take_drop]
 | false=>
  simp only[Xbu,if_false];have h1:=Dat.one ha;have hlt:off<cs.length:=by have:=Dat.pos (α:=β);omega
  have e:cs.toArray[off]?=some (cs.getD off undef):=by
   simp[Xad,Xaf hlt]
  rw[e];simp only[Xai];rw[Al (by omega),Xbw]
theorem Pk{w:World}{b o:Nat}{fl:Field}[T:TDat P u β j] (h3:fl.type=u) (h4:fl.offset=off):(fieldPlace ⟨b,o,none⟩ fl).run P w=.ok ⟨b,o+off,none⟩ w:=by
 unfold fieldPlace;rw[Xag,h3,T.sz];have:=Dat.pos (α:=β);simp only[Xab];rw[if_neg (by omega),Xai,h4,Bf]
theorem RL{w:World}{b o n:Nat}{cs:List Value} (h:KT w b o cs) (hl:off+n<=cs.length):KT w b (o+off) (seg cs off n):=λq hq=>by
 rw[ZA hl]at hq;rw[Al hq,XbO];exact h _ (by omega)
class FaP(τ:Ty)(α:Type)(off:Nat)(β:Type)(σ:outParam Ty):Prop where
 h:∀{A w v},τ.p A w v->∃b o,v=.pointer (some ⟨b,o,none⟩)/\σ.p A w (.pointer (some ⟨b,o+off,none⟩))
instance {x:α}[L:Fld α i off β j get set]:FaP (K3 x) α off β (K3 (get x)):=⟨λ{A w v} ⟨b,o,cs,h1,h2,h3,h4⟩=>by
 have hl2:=L.le;have hlen:cs.length=Dat.sz α:=Dat.len h4;exact⟨b,o,h1,b,o+off,seg cs off (Dat.sz β),rfl,h2,RL h3 (by omega),L.rd h4⟩⟩
instance {b o:Nat}:FaP (Pt b o) α off β (Pt b (o+off)):=⟨λh=>⟨b,o,h,rfl⟩⟩
instance {p:Prop}{τ σ:Ty}[h:Ft p] [k:FaP τ α off β σ]:FaP (HY p τ) α off β σ:=⟨λx=>k.h (x.1 h.h)⟩
theorem A9{x:Operand}{τ σ:Ty}[Has Γ x τ] [F:TFld P t f u off] [S:TDat P t α i] [T:TDat P u β j] [k:FaP τ α off β σ] :
  OpY P B0 A Ω Γ ⟨dst,.fieldAddr t x f,ty,pos,aft,gd⟩ σ:=
 OpY.val λa w hl=>by
  obtain⟨b,o,h1,h2⟩:=k.h (Zy (x:=x) (τ:=τ) (op:=.fieldAddr t x f) (by simp[Xae]) hl);obtain⟨fs,fl,g1,g2,g3,g4⟩:=F.h;refine⟨_,?_,h2⟩;simp only[execOp,h1,Instr.fieldAt,Xag,run_underlying g1,Xab,g2,Xbm,Xai,Pk (P:=P) (u:=u) g3 g4]
class LdP(Ω:List Pe)(τ:Ty)(α:Type)(i:Dat α)(x:outParam α):Prop where
 h:∀{A w v},Pks A Ω w->τ.p A w v->∃b o cs,v=.pointer (some ⟨b,o,none⟩)/\KT w b o cs/\Dat.rd A w cs x
theorem ZfJ{b o:Nat}{pr:Prop}{C:Ct}{x:α} (hb:HasB Ω b pr C) (hp:pr) (c:CtAt C o α i x):LdP Ω (Pt b o) α i x:=⟨λ{A w v} hk hv=>by
 obtain⟨cs,h1,h2⟩:=hk _ hb.h hp;obtain⟨h3,h4⟩:=c.h h2;exact⟨b,o,_,hv,h1.row h3,h4⟩⟩
instance {b o:Nat}{pr:Prop}{C:Ct}{x:α}[hb:HasB Ω b pr C] [hp:Ft pr] [c:CtAt C o α i x]:LdP Ω (Pt b o) α i x:=ZfJ hb hp.h c
theorem ZbX{x:Operand}{τ:Ty}{v:α}[hx:Has Γ x τ] [T:TDat P t α i] (k:LdP Ω τ α i v):OpY P B0 A Ω Γ ⟨dst,.load t x,ty,pos,aft,gd⟩ (D v):=λa w _ _ hp hl=>by
 obtain⟨b,o,cs,h1,h2,h3⟩:=k.h hp (Zy (x:=x) (τ:=τ) (op:=.load t x) (by simp[Xae]) hl);simp only[execOp,Xea,h1,Xbm,Xag,Xai,Xab];rw[Ll (t:=t) h2 h3];exact⟨KP.refl _ _,cs,h3,rfl⟩
theorem RG{w:World}{b o:Nat}{cs:List Value}{v:Value}{y:α}[T:TDat P t α i] (hb:Blk w b cs) (hl:o+Dat.sz α<=cs.length) (hy:(D y).p A w v) :
  ∃w' ds,(storeVar t ⟨b,o,none⟩ v).run P w=.ok () w'/\Dat.rd A w ds y/\Blk w' b (Ab cs o ds)/\Mut (λk=>k=b) w w'/\w'.heap.size=w.heap.size:=by
 obtain⟨ds,e1,r1⟩:=LF hy;have l1:=Dat.len r1;obtain⟨w',h1,h2,h3,h4⟩:=Bp (P:=P) hb (by rw[l1];exact hl) (Dat.scal r1);refine⟨w',ds,?_,r1,h2,h3,h4⟩;unfold storeVar;rw[Xag,T.sz];simp only[Xab,e1,List.size_toArray,l1,ne_eq,not_true,if_false];exact h1
end ops
section
variable {P:Program}{r:Ref}{n:Nat}{Γ:Env}{Ω:List Pe}{Q:Exit->Act->World->Prop}
theorem Hu{c:Operand}{x y:Code}{τ:Ty}{b:Bool}[hc:Has Γ c τ] [hb:AsB τ b]
  (h1:b=true->TC P r n Γ Ω x Q) (h2:b=false->TC P r n Γ Ω y Q):TC P r n Γ Ω (.cond c x y) Q:=λa w hs=>by
 have e:a.eval c=.bool b:=hb.le _ _ _ (hc.le a _ w λt _=>hs.ty t);refine wpIn_cond_split e (λhb=>h1 hb a w hs) (λhb=>h2 hb a w hs)
def BE(φ:Bool->Prop):Ty:=⟨λ_ _ v=>∃b,v=.bool b/\φ b,λ_ h=>h⟩
theorem GA{c:Operand}{x y:Code}{φ:Bool->Prop}[hc:Has Γ c (BE φ)]
  (h1:φ true->TC P r n Γ Ω x Q) (h2:φ false->TC P r n Γ Ω y Q):TC P r n Γ Ω (.cond c x y) Q:=λa w hs=>by
 obtain⟨b,e,h⟩:=hc.le a _ w λt _=>hs.ty t
 cases b
 .exact wpIn_cond_split e (λx=>by cases x) (λ_=>h2 h a w hs)
 .exact wpIn_cond_split e (λ_=>h1 h a w hs) (λx=>by cases x)
theorem B8{c:Code}(t:Tmp){τ:Ty}(σ:Ty)[h:Has Γ (.tmp t) τ](hp:τ.le σ)(k:TC P r n (Γ.set t σ) Ω c Q):TC P r n Γ Ω c Q:=
 λa w hs=>k a w (hs.le (KR (h.at.trans hp) (Env.le.refl _)))
theorem C9{e:Exit}(t:Tmp){τ:Ty}(σ:Ty)[h:Has Γ (.tmp t) τ](hp:τ.le σ)(k:TE r n (Γ.set t σ) Ω Q e):TE r n Γ Ω Q e:=
 λa w hs=>k a w (hs.le (KR (h.at.trans hp) (Env.le.refl _)))
theorem D_I{n:Int}:(D n).le (I n):=(inferInstance:AsI (D n) n).le
def PK(a:Act):ResultVar->Sem Value
 | .tmp t=>pure (a.tmps.getD t undef)
 | .cell s t=>do loadVar t (<-asAddr (a.tmps.getD s undef))
theorem FX{fn:Func}{xs:List ResultVar}{a:Act}{vs:List Value}{w:World} (hr:fn.results=xs.toArray) (h:(xs.mapM (PK a)).run P w=.ok vs w):(results fn a.tmps).run P w=.ok (if h:vs.toArray.size=1 then vs.toArray[0]else .tuple vs.toArray) w:=by
 have e:results fn a.tmps=(do let vs <-fn.results.mapM (PK a);pure (if h:vs.size=1 then vs[0]else .tuple vs)):=by
  unfold results;congr 1
 rw[e,hr,Array.mapM_eq_mapM_toList,Xag];simp only[map_eq_pure_bind,Xag,h,Xab,Xai]
class Rv(P:Program)(Γ:Env)(Ω:List Pe)(x:ResultVar)(τ:outParam Ty):Prop where
 h:∀{A w}{a:Act},(∀t,(Γ t).p A w (a.tmps.getD t undef))->Pks A Ω w->∃v,(PK a x).run P w=.ok v w/\τ.p A w v
instance {t:Tmp}{τ:Ty}[h:Has Γ (.tmp t) τ]:Rv P Γ Ω (.tmp t) τ:=⟨λht _=>⟨_,rfl,h.at _ _ _ (ht t)⟩⟩
instance {s:Tmp}{t:TypeId}{τ:Ty}{α:Type}{i:Dat α}{x:α}[h:Has Γ (.tmp s) τ] [T:TDat P t α i] [k:LdP Ω τ α i x]:Rv P Γ Ω (.cell s t) (D x):=⟨λht hk=>by
 obtain⟨b,o,cs,h1,h2,h3⟩:=k.h hk (h.at _ _ _ (ht s));refine⟨_,?_,cs,h3,rfl⟩;simp only[PK,Xag,h1,asAddr,Xai,Xab];exact Ll (t:=t) h2 h3⟩
class Still(r:Ref):Prop where
 h:∀k,¬r.S k
 d:r.ds=[]
instance {A:Nat->Prop}{w:World}{hA:∀k,w.heap.size<=k->A k}:Still (G6 A w hA):=⟨λ_ h=>h,rfl⟩
theorem Stt.out[s:Still r]{a:Act}{w:World} (h:Stt r n Γ Ω a w):KP r.w.heap.size r.w w:=
 ⟨h.mu.os,h.mu.tape,h.mu.output,h.mu.size,λk hk=>h.mu.same k hk (s.h k),λk hk=>by rw[h.mu.same k hk (s.h k)];exact DQ.refl _⟩
theorem Stt.lift{τ:Ty}{a:Act}{w:World}{v:Value} (h:Stt r n Γ Ω a w) (hv:τ.p (Pub r.A Ω) w v):τ.p r.A w v:=τ.keep (HD.mono λk _ hk=>(ZC.1 hk).1) hv
theorem Ze8{fn:Func}{x:ResultVar}{τ σ:Ty}[s:Still r] (hr:fn.results=#[x]) [hx:Rv P Γ Ω x τ] (k:τ.le σ) {a:Act}{w:World} (h:Stt r n Γ Ω a w):a.defers=[]/\∃v,(results fn a.tmps).run P w=.ok v w/\Ret r.A r.w σ (.returned v) w:=by
 obtain⟨v,h1,h2⟩:=hx.h (a:=a) h.ty h.pv.ks;refine⟨h.df.trans s.d,v,?_,v,rfl,h.out,k _ _ _ (h.lift h2)⟩;have:=FX (P:=P) (a:=a) (xs:=[x]) (vs:=[v]) (w:=w) hr (by rw[Xej,Xag,h1];simp);simpa using this
theorem Bc{fn:Func}{x:ResultVar}{τ σ:Ty}[s:Still r] (hr:fn.results=#[x]) [hx:Rv P Γ Ω x τ] (k:τ.le σ):TE r n Γ Ω (bodyPost P fn (Ret r.A r.w σ)) .ret:=λa w hs=>Ze8 hr k hs
class RvL(P:Program)(Γ:Env)(Ω:List Pe)(xs:List ResultVar)(τs:outParam (List Ty)):Prop where
 len:xs.length=τs.length
 h:∀{A w}{a:Act},(∀t,(Γ t).p A w (a.tmps.getD t undef))->Pks A Ω w->∃vs:List Value,(xs.mapM (PK a)).run P w=.ok vs w/\vs.length=τs.length/\∀i (hi:i<τs.length),τs[i].p A w (vs.getD i undef)
instance :RvL P Γ Ω [] []:=⟨rfl,λ_ _=>⟨[],rfl,rfl,λi hi=>absurd hi (by simp)⟩⟩
instance {x:ResultVar}{xs:List ResultVar}{τ:Ty}{τs:List Ty}[h:Rv P Γ Ω x τ] [k:RvL P Γ Ω xs τs]:RvL P Γ Ω (x::xs) (τ::τs):=⟨by simp[k.len],λht hp=>by
 obtain⟨v,h1,h2⟩:=h.h ht hp;obtain⟨vs,g1,g2,g3⟩:=k.h ht hp;refine⟨v::vs,?_,by simp[g2],λi hi=>?_⟩
 .rw [Xej,Xag,h1];simp only[Xab,Xag,g1,Xai]
 .cases i with
  | zero=>exact h2
  | succ i=>simpa using g3 i (by simpa using hi)⟩
inductive LeAll:List Ty->List Ty->Prop
 | nil:LeAll [] []
 | cons {τ σ:Ty}{τs σs:List Ty}:τ.le σ->LeAll τs σs->LeAll (τ::τs) (σ::σs)
theorem LeAll.spec:∀{τs σs:List Ty},LeAll τs σs->τs.length=σs.length/\∀i (hi:i<τs.length) (hi':i<σs.length),(τs[i]).le σs[i]
 | _,_,.nil=>⟨rfl,λi hi=>absurd hi (by simp)⟩
 | _,_,.cons h k=>⟨by simp[k.spec.1],λi hi hi'=>by
   cases i with
   | zero=>exact h
   | succ i=>simpa using k.spec.2 i (by simpa using hi) (by simpa using hi')⟩
theorem Ze7{fn:Func}{xs:List ResultVar}{τs σs:List Ty}[s:Still r] (hr:fn.results=xs.toArray) (hn:(xs.length == 1)=false) [hx:RvL P Γ Ω xs τs] (k:LeAll τs σs) {a:Act}{w:World} (h:Stt r n Γ Ω a w):a.defers=[]/\∃v,(results fn a.tmps).run P w=.ok v w/\Ret r.A r.w (Tup σs) (.returned v) w:=by
 obtain⟨vs,h1,h2,h3⟩:=hx.h (a:=a) h.ty h.pv.ks;have hl:=hx.len;have hne:vs.length≠1:=by rw[h2,<-hl];simpa using hn
 refine⟨h.df.trans s.d,.tuple vs.toArray,?_,_,rfl,h.out,vs,rfl,by rw[h2,k.spec.1],λi hi=>?_⟩
 .have:=FX (P:=P) (a:=a) (w:=w) hr h1;rw[dif_neg (by simpa using hne)]at this;exact this
 .exact k.spec.2 i (by rw[k.spec.1];exact hi) hi _ _ _ (h.lift (h3 i (by rw[k.spec.1];exact hi)))
theorem Eo{fn:Func}{xs:List ResultVar}{τs σs:List Ty}[s:Still r] (hr:fn.results=xs.toArray) (hn:(xs.length == 1)=false) [hx:RvL P Γ Ω xs τs] (k:LeAll τs σs):TE r n Γ Ω (bodyPost P fn (Ret r.A r.w (Tup σs))) .ret:=λa w hs=>Ze7 hr hn k hs
theorem Stt.aft{A:Nat->Prop}{w0:World}{Ωt:List Pe}{hA:∀k,w0.heap.size<=k->A k}{Ω1:List Pe}{τ σ:Ty}{a:Act}{w:World}{v:Value} (h:Stt (Gi A w0 Ωt hA) n Γ Ω a w) (hl:Fb Ω Ω1) (hv:τ.p (Pub A Ω) w v) (k:τ.le σ) :
  Aft w0.heap.size A [] Ωt σ Ω1 w0 w v:=by
 have h2:=h.less hl;have hk:HD (Pub A Ω) (Pub A Ω1) w w:=HD.mono λj _ hj=>ZC.2 ⟨(ZC.1 hj).1,λho=>(ZC.1 hj).2 (hl.own j ho)⟩
 exact⟨M6 h.mu (Xau _),λj hj=>(h2.pv.own j hj).symm,h2.pv.ap,k _ _ _ (τ.keep hk hv),h2.pv.ks⟩
section
variable {A:Nat->Prop}{w0:World}{Ωt:List Pe}{hA:∀k,w0.heap.size<=k->A k}{ν:Type}{Ω':ν->List Pe}
theorem ZdA{fn:Func}{x:ResultVar}{τ:Ty}{σ:ν->Ty} (hr:fn.results=#[x]) [hx:Rv P Γ Ω x τ] (g:ν) (k:τ.le (σ g)) (hl:Fb Ω (Ω' g)) {a:Act}{w:World} (h:Stt (Gi A w0 Ωt hA) n Γ Ω a w):a.defers=[]/\∃v,(results fn a.tmps).run P w=.ok v w/\M7 A w0 Ωt σ Ω' (.returned v) w:=by
 obtain⟨v,h1,h2⟩:=hx.h (a:=a) h.ty h.pv.ks;refine⟨h.df,v,?_,v,g,rfl,h.aft hl h2 k⟩;have:=FX (P:=P) (a:=a) (xs:=[x]) (vs:=[v]) (w:=w) hr (by rw[Xej,Xag,h1];simp);simpa using this
theorem ZG{fn:Func}{x:ResultVar}{τ:Ty}{σ:ν->Ty} (hr:fn.results=#[x]) [hx:Rv P Γ Ω x τ] (g:ν) (k:τ.le (σ g)) (hl:Fb Ω (Ω' g)):TE (Gi A w0 Ωt hA) n Γ Ω (bodyPost P fn (M7 A w0 Ωt σ Ω')) .ret:=λa w hs=>ZdA hr g k hl hs
theorem Xq{fn:Func}{xs:List ResultVar}{τs:List Ty}{σs:ν->List Ty} (hr:fn.results=xs.toArray) (hn:(xs.length == 1)=false) [hx:RvL P Γ Ω xs τs] (g:ν) (k:LeAll τs (σs g)) (hl:Fb Ω (Ω' g)) {a:Act}{w:World} (h:Stt (Gi A w0 Ωt hA) n Γ Ω a w):a.defers=[]/\∃v,(results fn a.tmps).run P w=.ok v w/\M7 A w0 Ωt (λg=>Tup (σs g)) Ω' (.returned v) w:=by
 obtain⟨vs,h1,h2,h3⟩:=hx.h (a:=a) h.ty h.pv.ks;have hll:=hx.len;have hne:vs.length≠1:=by rw[h2,<-hll];simpa using hn
 refine⟨h.df,.tuple vs.toArray,?_,_,g,rfl,h.aft (τ:=Tup τs) hl ⟨vs,rfl,h2,h3⟩ λA w v ⟨vs,g1,g2,g3⟩=>⟨vs,g1,by rw[g2,k.spec.1],λi hi=>k.spec.2 i (by rw[k.spec.1];exact hi) hi _ _ _ (g3 i (by rw[k.spec.1];exact hi))⟩⟩;have:=FX (P:=P) (a:=a) (w:=w) hr h1;rw[dif_neg (by simpa using hne)]at this;exact this
theorem AD{fn:Func}{xs:List ResultVar}{τs:List Ty}{σs:ν->List Ty} (hr:fn.results=xs.toArray) (hn:(xs.length == 1)=false) [hx:RvL P Γ Ω xs τs] (g:ν) (k:LeAll τs (σs g)) (hl:Fb Ω (Ω' g)):TE (Gi A w0 Ωt hA) n Γ Ω (bodyPost P fn (M7 A w0 Ωt (λg=>Tup (σs g)) Ω')) .ret:=λa w hs=>Xq hr hn g k hl hs
theorem N6{fn:Func}{xs:List ResultVar}{τs:List Ty}{σs:ν->List Ty} (hr:fn.results=xs.toArray) (hn:(xs.length == 1)=false) [hx:RvL P Γ Ω xs τs] (g:ν) (k:LeAll τs (σs g)) (hl:Fb Ω (Ω' g)):TE (Gi A w0 Ωt hA) n Γ Ω (bodyPost P fn (M7 A w0 Ωt (λg=>Tup (σs g)) Ω')) .normal:=λa w hs=>Xq hr hn g k hl hs
end
end
section
variable {P:Program}{n:Nat}{R:Ending->World->Prop}
theorem Pok.nil{r:Ref}{w:World}:Pok r [] w:=⟨λk ⟨e,he,_⟩=>absurd he (by simp),λe he=>absurd he (by simp),List.Pairwise.nil⟩
theorem Ty.enter{τ:Ty}{A:Nat->Prop}{w:World}{v:Value} (h:τ.p A w v):τ.p (Pub A []) w v:=τ.keep (HD.mono λk _ hk=>⟨hk,λe he=>absurd he (by simp)⟩) h
theorem Zfl{f:FuncId}{fn:Func}{c:Code}{A:Nat->Prop}{w:World} (hA:∀k,w.heap.size<=k->A k) (hf:P.funcs[f]?=some fn) (hb:fn.body=some c) (hn:fn.ntmps=n) (hl:Xbn 0 n=true)
  (h:TC P (G6 A w hA) n Env.nil [] c (bodyPost P fn R)):Calls P f #[] w R:=by
 refine CL (r:=G6 A w hA) (args:=[]) hf hb hn (by simpa using hl) Pok.nil (λt ht=>?_) (λt ht=>?_) h
 .simp at ht
 .exact trivial
theorem U0{f:FuncId}{fn:Func}{c:Code}{A:Nat->Prop}{w:World}{v0:Value}{τ0:Ty} (hA:∀k,w.heap.size<=k->A k) (hf:P.funcs[f]?=some fn) (hb:fn.body=some c) (hn:fn.ntmps=n) (hl:Xbn 1 n=true) (h0:τ0.p A w v0)
  (h:TC P (G6 A w hA) n (Env.set Env.nil 0 τ0) [] c (bodyPost P fn R)):Calls P f #[v0] w R:=by
 refine CL (r:=G6 A w hA) (args:=[v0]) hf hb hn (by simpa using hl) Pok.nil (λt ht=>?_) (λt ht=>?_) h
 .match t,ht with
  | 0,_=>exact Ty.enter h0
 .have ht:1<=t:=ht;have n0:¬t=0:=by omega
  simp only[Env.set,n0,if_false];exact trivial
theorem Sd{f:FuncId}{fn:Func}{c:Code}{A:Nat->Prop}{w:World}{v0 v1:Value}{τ0 τ1:Ty} (hA:∀k,w.heap.size<=k->A k) (hf:P.funcs[f]?=some fn) (hb:fn.body=some c) (hn:fn.ntmps=n) (hl:Xbn 2 n=true) (h0:τ0.p A w v0) (h1:τ1.p A w v1)
  (h:TC P (G6 A w hA) n (Env.set (Env.set Env.nil 0 τ0) 1 τ1) [] c (bodyPost P fn R)):Calls P f #[v0,v1] w R:=by
 refine CL (r:=G6 A w hA) (args:=[v0,v1]) hf hb hn (by simpa using hl) Pok.nil (λt ht=>?_) (λt ht=>?_) h
 .match t,ht with
  | 0,_=>exact Ty.enter h0
  | 1,_=>exact Ty.enter h1
 .have ht:2<=t:=ht;have n0:¬t=0:=by omega
  have n1:¬t=1:=by omega
  simp only[Env.set,n0,n1,if_false];exact trivial
theorem ZcK{f:FuncId}{fn:Func}{c:Code}{A:Nat->Prop}{w:World}{v0 v1 v2:Value}{τ0 τ1 τ2:Ty} (hA:∀k,w.heap.size<=k->A k) (hf:P.funcs[f]?=some fn) (hb:fn.body=some c) (hn:fn.ntmps=n) (hl:Xbn 3 n=true) (h0:τ0.p A w v0) (h1:τ1.p A w v1) (h2:τ2.p A w v2)
  (h:TC P (G6 A w hA) n (Env.set (Env.set (Env.set Env.nil 0 τ0) 1 τ1) 2 τ2) [] c (bodyPost P fn R)):Calls P f #[v0,v1,v2] w R:=by
 refine CL (r:=G6 A w hA) (args:=[v0,v1,v2]) hf hb hn (by simpa using hl) Pok.nil (λt ht=>?_) (λt ht=>?_) h
 .match t,ht with
  | 0,_=>exact Ty.enter h0
  | 1,_=>exact Ty.enter h1
  | 2,_=>exact Ty.enter h2
 .have ht:3<=t:=ht;have n0:¬t=0:=by omega
  have n1:¬t=1:=by omega
  have n2:¬t=2:=by omega
  simp only[Env.set,n0,n1,n2,if_false];exact trivial
theorem Zfk{f:FuncId}{fn:Func}{c:Code}{A:Nat->Prop}{w:World}{v0 v1 v2 v3:Value}{τ0 τ1 τ2 τ3:Ty} (hA:∀k,w.heap.size<=k->A k) (hf:P.funcs[f]?=some fn) (hb:fn.body=some c) (hn:fn.ntmps=n) (hl:Xbn 4 n=true) (h0:τ0.p A w v0) (h1:τ1.p A w v1) (h2:τ2.p A w v2) (h3:τ3.p A w v3)
  (h:TC P (G6 A w hA) n (Env.set (Env.set (Env.set (Env.set Env.nil 0 τ0) 1 τ1) 2 τ2) 3 τ3) [] c (bodyPost P fn R)):Calls P f #[v0,v1,v2,v3] w R:=by
 refine CL (r:=G6 A w hA) (args:=[v0,v1,v2,v3]) hf hb hn (by simpa using hl) Pok.nil (λt ht=>?_) (λt ht=>?_) h
 .match t,ht with
  | 0,_=>exact Ty.enter h0
  | 1,_=>exact Ty.enter h1
  | 2,_=>exact Ty.enter h2
  | 3,_=>exact Ty.enter h3
 .have ht:4<=t:=ht;have n0:¬t=0:=by omega
  have n1:¬t=1:=by omega
  have n2:¬t=2:=by omega
  have n3:¬t=3:=by omega
  simp only[Env.set,n0,n1,n2,n3,if_false];exact trivial
theorem Zfj{f:FuncId}{fn:Func}{c:Code}{A:Nat->Prop}{w:World}{v0 v1 v2 v3 v4:Value}{τ0 τ1 τ2 τ3 τ4:Ty} (hA:∀k,w.heap.size<=k->A k) (hf:P.funcs[f]?=some fn) (hb:fn.body=some c) (hn:fn.ntmps=n) (hl:Xbn 5 n=true) (h0:τ0.p A w v0) (h1:τ1.p A w v1) (h2:τ2.p A w v2) (h3:τ3.p A w v3) (h4:τ4.p A w v4)
  (h:TC P (G6 A w hA) n (Env.set (Env.set (Env.set (Env.set (Env.set Env.nil 0 τ0) 1 τ1) 2 τ2) 3 τ3) 4 τ4) [] c (bodyPost P fn R)):Calls P f #[v0,v1,v2,v3,v4] w R:=by
 refine CL (r:=G6 A w hA) (args:=[v0,v1,v2,v3,v4]) hf hb hn (by simpa using hl) Pok.nil (λt ht=>?_) (λt ht=>?_) h
 .match t,ht with
  | 0,_=>exact Ty.enter h0
  | 1,_=>exact Ty.enter h1
  | 2,_=>exact Ty.enter h2
  | 3,_=>exact Ty.enter h3
  | 4,_=>exact Ty.enter h4
 .have ht:5<=t:=ht;have n0:¬t=0:=by omega
  have n1:¬t=1:=by omega
  have n2:¬t=2:=by omega
  have n3:¬t=3:=by omega
  have n4:¬t=4:=by omega
  simp only[Env.set,n0,n1,n2,n3,n4,if_false];exact trivial
theorem QW{f:FuncId}{fn:Func}{c:Code}{A:Nat->Prop}{w:World}{Ωt:List Pe}{v0:Value}{τ0:Ty}[hO:OwnIn A Ωt] (hA:∀k,w.heap.size<=k->A k) (hap:Gh Ωt) (hks:Pks (Pub A Ωt) Ωt w) (hf:P.funcs[f]?=some fn) (hb:fn.body=some c) (hn:fn.ntmps=n) (hl:Xbn 1 n=true) (h0:τ0.p (Pub A Ωt) w v0)
  (h:TC P (Gi A w Ωt hA) n (Env.set Env.nil 0 τ0) Ωt c (bodyPost P fn R)):Calls P f #[v0] w R:=by
 refine CL (r:=Gi A w Ωt hA) (args:=[v0]) hf hb hn (by simpa using hl) ⟨λk hk=>.inr hk,hks,hap⟩ (λt ht=>?_) (λt ht=>?_) h
 .match t,ht with
  | 0,_=>exact h0
 .have ht:1<=t:=ht;have n0:¬t=0:=by omega
  simp only[Env.set,n0,if_false];exact trivial
theorem ZdR{f:FuncId}{fn:Func}{c:Code}{A:Nat->Prop}{w:World}{Ωt:List Pe}{v0 v1:Value}{τ0 τ1:Ty}[hO:OwnIn A Ωt] (hA:∀k,w.heap.size<=k->A k) (hap:Gh Ωt) (hks:Pks (Pub A Ωt) Ωt w) (hf:P.funcs[f]?=some fn) (hb:fn.body=some c) (hn:fn.ntmps=n) (hl:Xbn 2 n=true) (h0:τ0.p (Pub A Ωt) w v0) (h1:τ1.p (Pub A Ωt) w v1)
  (h:TC P (Gi A w Ωt hA) n (Env.set (Env.set Env.nil 0 τ0) 1 τ1) Ωt c (bodyPost P fn R)):Calls P f #[v0,v1] w R:=by
 refine CL (r:=Gi A w Ωt hA) (args:=[v0,v1]) hf hb hn (by simpa using hl) ⟨λk hk=>.inr hk,hks,hap⟩ (λt ht=>?_) (λt ht=>?_) h
 .match t,ht with
  | 0,_=>exact h0
  | 1,_=>exact h1
 .have ht:2<=t:=ht;have n0:¬t=0:=by omega
  have n1:¬t=1:=by omega
  simp only[Env.set,n0,n1,if_false];exact trivial
theorem Tw{f:FuncId}{fn:Func}{c:Code}{A:Nat->Prop}{w:World}{Ωt:List Pe}{v0 v1 v2:Value}{τ0 τ1 τ2:Ty}[hO:OwnIn A Ωt] (hA:∀k,w.heap.size<=k->A k) (hap:Gh Ωt) (hks:Pks (Pub A Ωt) Ωt w) (hf:P.funcs[f]?=some fn) (hb:fn.body=some c) (hn:fn.ntmps=n) (hl:Xbn 3 n=true) (h0:τ0.p (Pub A Ωt) w v0) (h1:τ1.p (Pub A Ωt) w v1) (h2:τ2.p (Pub A Ωt) w v2)
  (h:TC P (Gi A w Ωt hA) n (Env.set (Env.set (Env.set Env.nil 0 τ0) 1 τ1) 2 τ2) Ωt c (bodyPost P fn R)):Calls P f #[v0,v1,v2] w R:=by
 refine CL (r:=Gi A w Ωt hA) (args:=[v0,v1,v2]) hf hb hn (by simpa using hl) ⟨λk hk=>.inr hk,hks,hap⟩ (λt ht=>?_) (λt ht=>?_) h
 .match t,ht with
  | 0,_=>exact h0
  | 1,_=>exact h1
  | 2,_=>exact h2
 .have ht:3<=t:=ht;have n0:¬t=0:=by omega
  have n1:¬t=1:=by omega
  have n2:¬t=2:=by omega
  simp only[Env.set,n0,n1,n2,if_false];exact trivial
end
theorem MY.flat{α:Type}[Dat α] {A:Nat->Prop}{w:World}{a:Option Addr}{xs:List α} (h:MY A w a xs) (hx:0<xs.length) :
  ∃b off news,a=some ⟨b,off,none⟩/\A b/\news.length=xs.length*Dat.sz α/\KT w b off news/\A7 A w news xs:=by
 obtain⟨b,off,rfl,hb,-⟩:=h 0 hx;have hs:=Dat.pos (α:=α);have hcell:∀j,j<xs.length*Dat.sz α->w.cell? ⟨b,off+j,none⟩=some ((w.cell? ⟨b,off+j,none⟩).getD undef):=λj hj=>by
  have hi:j/Dat.sz α<xs.length:=Xey (by rw[Xbb];exact hj);obtain⟨b',off',he,_,es,h3,h4⟩:=h _ hi;injection he with he;injection he with e1 e2;subst e1;subst e2;have:=h3 (j%Dat.sz α) (by rw[Dat.len h4];exact XgC _ hs);rw[XbO,Xbb,Xfi]at this;rw[this];rfl
 refine⟨b,off,(Xbe (xs.length*Dat.sz α)).map λj=>(w.cell? ⟨b,off+j,none⟩).getD undef,rfl,hb,by simp,λj hj=>?_,λi hi=>?_⟩
 .simp only[List.length_map,List.length_range]at hj;rw[hcell j hj];simp[Xad,hj]
 .obtain ⟨b',off',he,_,es,h3,h4⟩:=h i hi;injection he with he;injection he with e1 e2;subst e1;subst e2;have hle:i*Dat.sz α+Dat.sz α<=xs.length*Dat.sz α:=by rw[<-XaF];exact Xah _ (by omega)
  have:seg ((Xbe (xs.length*Dat.sz α)).map λj=>(w.cell? ⟨b,off+j,none⟩).getD undef) (i*Dat.sz α) (Dat.sz α)=es:=by
   refine AV (by rw[ZA (by simpa using hle),Dat.len h4]) λj hj=>?_
   rw[ZA (by simpa using hle)]at hj;rw[Al hj];have h5:=h3 j (by rw[Dat.len h4];exact hj);rw[XbO]at h5;simp[Xad,show i*Dat.sz α+j<xs.length*Dat.sz α by omega,h5]
  rw[this];exact h4
section ops
variable {P:Program}{B0:Nat}{A:Nat->Prop}{Ω:List Pe}{Γ:Env}{dst:Option Tmp}{ty:TypeId}{pos:String}{aft:Array Edge}{gd:Option (Nat×Bool)}
variable {α:Type}{i:Dat α}{t e:TypeId}
theorem RS(l:List UInt8)(x:UInt8):(ByteArray.mk l.toArray).push x=⟨(l++[x]).toArray⟩:=by
 simp[ByteArray.push]
theorem Sa:∀(ns l:List UInt8),(ns.map λx:UInt8=>(x.toNat:Int)).foldl (λ(r:ByteArray) n=>r.push (XaN n.toNat)) ⟨l.toArray⟩=⟨(l++ns).toArray⟩
 | [],l=>by simp
 | x::ns,l=>by
  simp only[Xbl,Xel];rw[show XaN ((x.toNat:Int)).toNat=x by simp,RS,Sa ns (l++[x])];simp
theorem CH{s d:TypeId}[S:TSl P s e] [E:TIn P e .u8] [T:TStr P d] {x:Operand}{τ:Ty}{xs:List UInt8}[Has Γ x τ] [hx:AsL τ UInt8 inferInstance xs] :
  OpY P B0 A Ω Γ ⟨dst,.convert s d x,ty,pos,aft,gd⟩ (Str xs):=
 OpY.val λa w hl=>by
  obtain⟨cs,⟨ad,c,h1,h2,h3,h3',h4⟩,h5⟩:=hx.le _ _ _ (Zy (x:=x) (τ:=τ) (op:=.convert s d x) (by simp[Xae]) hl);subst h1;have e1:a.eval x=.slice ad xs.length c:=h5;refine⟨.string ⟨xs.toArray⟩,?_,rfl⟩;simp only[execOp,e1,Xag,run_convert_bytes_string w s d e ad xs.length c S.h E.h T.h];have:(Xf6 (.slice ad xs.length c)).run P w=.ok (.string ⟨xs.toArray⟩) w:=by
   rcases XbB xs.length with h0|h0
   .have hx0:xs=[]:=XaI h0;subst hx0;cases ad with
    | none=>simp[Xf6];rfl
    | some ad=>
     have:=run_bytesToString (P:=P) w ad 0 c [] (by simp[loadCells,loadCellsFrom]);simp only[List.foldl_nil]at this;exact this
   .obtain ⟨b,off,news,rfl,_,hl',hr,he⟩:=h4.flat h0;have hn:news=xs.map λx=>XbR .u8 (x.toNat:Int):=by
     have hsz:Dat.sz UInt8=1:=rfl;refine AV (by rw[hl',hsz];simp) λj hj=>?_
     rw[hl',hsz]at hj;have h6:=he j (by omega);have h6:seg news (j*1) 1=[.int .u8 (xs[j]'(by omega)).toNat]:=h6;have h7:=Al (cs:=news) (o:=j*1) (n:=1) (j:=0) (by omega);rw[h6]at h7;simp only[XdA,Xbw]at h7;rw[<-h7];simp[Xad,Xaf (show j<xs.length by omega)]
    have h8:=Gp (P:=P) hr;rw[hl',show Dat.sz UInt8=1 from rfl,XdA,hn]at h8;have h9:=run_bytesToString (P:=P) w ⟨b,off,none⟩ xs.length c (xs.map λx:UInt8=>(x.toNat:Int)) (by rw[h8];simp[XeL,XfJ]);rw[h9];have:=Sa xs [];simp only[Xam]at this;rw[<-this];rfl
  rw[this];rfl
theorem WU(l m:List UInt8):((ByteArray.mk l.toArray).toList == (ByteArray.mk m.toArray).toList)=decide (l=m):=by
 have h:∀l:List UInt8,(ByteArray.mk l.toArray).toList=l:=λl=>by
  rw[ByteArray.toList_eq]
 rw[h,h];rw[Xbt];simp
theorem FU{x y:Operand}{τ σ:Ty}{u:TypeId}{l m:List UInt8}[Has Γ x τ] [hx:AsStr τ l] [Has Γ y σ] [hy:AsStr σ m] :
  OpY P B0 A Ω Γ ⟨dst,.binOp .eql t x y u,ty,pos,aft,gd⟩ (B (decide (l=m))):=
 OpY.val λa w hl=>⟨.bool (decide (l=m)),by
  have e1:a.eval x=.string ⟨l.toArray⟩:=hx.le _ _ _ (Zy (x:=x) (τ:=τ) (op:=.binOp .eql t x y u) (by simp[Xae]) hl);have e2:a.eval y=.string ⟨m.toArray⟩:=hy.le _ _ _ (Zy (x:=y) (τ:=σ) (op:=.binOp .eql t x y u) (by simp[Xae]) hl);simp only[execOp,e1,e2,eqGuard_at_string,binOp_string_eql,WU,Xag,Xai,Xab],rfl⟩
theorem Pw{x y:Operand}{τ σ:Ty}{u:TypeId}{l m:List UInt8}[Has Γ x τ] [hx:AsStr τ l] [Has Γ y σ] [hy:AsStr σ m] :
  OpY P B0 A Ω Γ ⟨dst,.binOp .neq t x y u,ty,pos,aft,gd⟩ (B (decide (l≠m))):=
 OpY.val λa w hl=>⟨.bool (decide (l≠m)),by
  have e1:a.eval x=.string ⟨l.toArray⟩:=hx.le _ _ _ (Zy (x:=x) (τ:=τ) (op:=.binOp .neq t x y u) (by simp[Xae]) hl);have e2:a.eval y=.string ⟨m.toArray⟩:=hy.le _ _ _ (Zy (x:=y) (τ:=σ) (op:=.binOp .neq t x y u) (by simp[Xae]) hl);simp only[execOp,e1,e2,eqGuard_at_string,binOp_string_neq,WU,Xag,Xai,Xab,decide_not],rfl⟩
theorem ZbU{x y:Operand}{τ σ:Ty}{ts:Array TypeId}{m k:Int}[Has Γ x τ] [hx:AsI τ m] [Has Γ y σ] [hy:AsI σ k] :
  OpY P B0 A Ω Γ ⟨dst,.call { callee:=.builtin .min,args:=#[x,y],argTypes:=ts },ty,pos,aft,gd⟩ (I (min m k)):=
 OpY.val λa w hl=>⟨.int .i64 (min m k),by
  have e1:a.eval x=.int .i64 m:=hx.le _ _ _ (Zy (x:=x) (τ:=τ) (op:=.call { callee:=.builtin .min,args:=#[x,y],argTypes:=ts }) (by simp[Xae,XaE]) hl);have e2:a.eval y=.int .i64 k:=hy.le _ _ _ (Zy (x:=y) (τ:=σ) (op:=.call { callee:=.builtin .min,args:=#[x,y],argTypes:=ts }) (by simp[Xae,XaE]) hl);have e3:(if k<m then k else m)=min m k:=by split<;>omega
  simp[execOp,resolve,invoke,builtin,e1,e2,Builtin.min_,Builtin.min2,e3],rfl⟩
theorem ZbV{x y:Operand}{τ σ:Ty}{ts:Array TypeId}{m k:Int}[Has Γ x τ] [hx:AsI τ m] [Has Γ y σ] [hy:AsI σ k] :
  OpY P B0 A Ω Γ ⟨dst,.call { callee:=.builtin .max,args:=#[x,y],argTypes:=ts },ty,pos,aft,gd⟩ (I (max m k)):=
 OpY.val λa w hl=>⟨.int .i64 (max m k),by
  have e1:a.eval x=.int .i64 m:=hx.le _ _ _ (Zy (x:=x) (τ:=τ) (op:=.call { callee:=.builtin .max,args:=#[x,y],argTypes:=ts }) (by simp[Xae,XaE]) hl);have e2:a.eval y=.int .i64 k:=hy.le _ _ _ (Zy (x:=y) (τ:=σ) (op:=.call { callee:=.builtin .max,args:=#[x,y],argTypes:=ts }) (by simp[Xae,XaE]) hl);have e3:(if k>m then k else m)=max m k:=by split<;>omega
  simp[execOp,resolve,invoke,builtin,e1,e2,Builtin.max_,Builtin.max2,e3],rfl⟩
theorem KN{x:Operand}[Has Γ x Ro] [S:TSl P t e] :
  OpY P B0 A Ω Γ ⟨dst,.call { callee:=.builtin .cap,args:=#[x],argTypes:=#[t] },ty,pos,aft,gd⟩ (I 0):=
 OpY.val λa w hl=>by
  have e1:a.eval x=.slice none 0 0:=Zy (x:=x) (τ:=Ro) (op:=.call { callee:=.builtin .cap,args:=#[x],argTypes:=#[t] }) (by simp[Xae,XaE]) hl;exact⟨.int .i64 0,by simp[execOp,resolve,invoke,builtin,e1,Builtin.cap_,run_underlying S.h,goInt],rfl⟩
theorem Nt{x z:Operand}{σ:Ty}[Has Γ x Ro] [Has Γ z σ] [hz:AsI σ 0] [S:TSl P t e] [T:TDat P e α i]:OpY P B0 A Ω Γ ⟨dst,.slice t x none (some z) none,ty,pos,aft,gd⟩ Ro:=
 OpY.val λa w hl=>by
  have e1:a.eval x=.slice none 0 0:=Zy (x:=x) (τ:=Ro) (op:=.slice t x none (some z) none) (by simp[Xae]) hl;have e2:a.eval z=.int .i64 0:=hz.le _ _ _ (Zy (x:=z) (τ:=σ) (op:=.slice t x none (some z) none) (by simp[Xae]) hl);exact⟨.slice none 0 0,by simp[execOp,e1,e2,Xbk,XbY,run_underlying S.h,Xa2,Xa8,asIntOf,T.sz],rfl⟩
theorem BO{x:Operand}{τ:Ty}{xs:List α}[Has Γ x τ] [hx:AsL τ α i xs] [S:TSl P t e] :
  OpY P B0 A Ω Γ ⟨dst,.binOp .eql t x (.const (.slice none 0 0)) t,ty,pos,aft,gd⟩ (BE λb=>b=true->xs=[]):=
 OpY.val λa w hl=>by
  obtain⟨cs,⟨ad,c,h1,h2,h3,h3',h4⟩,h5⟩:=hx.le _ _ _ (Zy (x:=x) (τ:=τ) (op:=.binOp .eql t x (.const (.slice none 0 0)) t) (by simp[Xae]) hl);subst h1;have e1:a.eval x=.slice ad xs.length c:=h5;refine⟨.bool ad.isNone,?_,ad.isNone,rfl,λh=>?_⟩
  .have:(binOp .eql t (.slice ad xs.length c) (.slice none 0 0)).run P w=.ok (.bool ad.isNone) w:=by
    exact Lib.run_eql_slice_nil w t e ad xs.length c 0 0 S.h
   simp only[execOp,e1,evC,eqGuard_at_slice,Xag,Xai,Xab,this]
  .cases ad with
   | some ad=>simp at h
   | none=>
    apply XaI;rcases XbB xs.length with h0|h0
    .exact h0
    .obtain ⟨b,off,e,_⟩:=h4 0 h0;cases e
section dv8
variable {x y:Operand}{τ σ:Ty}{u:TypeId}{m n:UInt8}[hsx:Has Γ x τ] [hx:AsU8 τ m] [hsy:Has Γ y σ] [hy:AsU8 σ n]
include hsx hx hsy hy
theorem Vi(h:n≠0):OpY P B0 A Ω Γ ⟨dst,.binOp .rem t x y u,ty,pos,aft,gd⟩ (U8 (m%n)):=
 OpY.val λa w hl=>⟨.int .u8 (m%n).toNat,by
  obtain⟨e1,e2⟩:=ZcJ (m:=m) (n:=n) hl;have h3:n.toNat≠0:=λe=>h (by rw[<-Xcs];simpa using e)
  have h4:¬((n.toNat:Int)=0):=by omega
  have e3:((m.toNat:Int).tmod (n.toNat:Int))=((m%n).toNat:Int):=by
   rw[Xfb (by omega),<-Xc1,<-UInt8.toNat_mod]
  simp only[execOp,e1,e2,eqGuard_rem,binOp_rem,XgA,h4,if_false,e3,Xag,Xai,Xab],rfl⟩
end dv8
theorem SH{x y:Operand}{τ σ:Ty}{u:TypeId}{l m:Bool}[Has Γ x τ] [hx:AsB τ l] [Has Γ y σ] [hy:AsB σ m] (hb:P.underlying t=some .bool) :
  OpY P B0 A Ω Γ ⟨dst,.binOp .eql t x y u,ty,pos,aft,gd⟩ (B (decide (l=m))):=
 OpY.val λa w hl=>⟨.bool (decide (l=m)),by
  have e1:a.eval x=.bool l:=hx.le _ _ _ (Zy (x:=x) (τ:=τ) (op:=.binOp .eql t x y u) (by simp[Xae]) hl);have e2:a.eval y=.bool m:=hy.le _ _ _ (Zy (x:=y) (τ:=σ) (op:=.binOp .eql t x y u) (by simp[Xae]) hl);have e3:(l == m)=decide (l=m):=by rw[Xbt];simp
  simp only[execOp,e1,e2,eqGuard_at_bool,run_eql_bool w t l m hb,e3,Xag,Xai,Xab],rfl⟩
theorem Nu{x y:Operand}{τ σ:Ty}{u:TypeId}{l m:Bool}[Has Γ x τ] [hx:AsB τ l] [Has Γ y σ] [hy:AsB σ m] (hb:P.underlying t=some .bool) :
  OpY P B0 A Ω Γ ⟨dst,.binOp .neq t x y u,ty,pos,aft,gd⟩ (B (decide (l≠m))):=
 OpY.val λa w hl=>⟨.bool (decide (l≠m)),by
  have e1:a.eval x=.bool l:=hx.le _ _ _ (Zy (x:=x) (τ:=τ) (op:=.binOp .neq t x y u) (by simp[Xae]) hl);have e2:a.eval y=.bool m:=hy.le _ _ _ (Zy (x:=y) (τ:=σ) (op:=.binOp .neq t x y u) (by simp[Xae]) hl);have e3:(l == m)=decide (l=m):=by rw[Xbt];simp
  simp only[execOp,e1,e2,eqGuard_at_bool,run_neq_bool w t l m hb,e3,decide_not,Xag,Xai,Xab],rfl⟩
end ops
theorem A7.scal{α:Type}[Dat α] {A:Nat->Prop}{w:World}{cs:List Value}{xs:List α} (h:A7 A w cs xs) (hl:cs.length=xs.length*Dat.sz α):∀v∈cs,v.oneCell'=true:=λv hv=>by
 obtain⟨j,hj,rfl⟩:=XaQ hv;have hs:=Dat.pos (α:=α);rw[hl]at hj;have hi:j/Dat.sz α<xs.length:=Xey (by rw[Xbb];exact hj);have hle:j/Dat.sz α*Dat.sz α+Dat.sz α<=cs.length:=by rw[hl,<-XaF];exact Xah _ (by omega)
 refine Dat.scal (h _ hi) _ ?_;have hm:=XgC j hs;have e1:(seg cs (j/Dat.sz α*Dat.sz α) (Dat.sz α)).getD (j%Dat.sz α) undef=cs[j]:=by
  rw[Al hm,Xbb,Xfi];rw[Xad,Xaf (by omega)];rfl
 rw[<-e1];have hl2:j%Dat.sz α<(seg cs (j/Dat.sz α*Dat.sz α) (Dat.sz α)).length:=by rw[ZA hle];exact hm
 rw[Xad,Xaf hl2];exact List.getElem_mem hl2
class HasAll(Γ:Env)(xs:List Operand)(α:Type)(i:Dat α)(ys:outParam (List α)):Prop where
 len:xs.length=ys.length
 h:∀(a:Act) A w,(∀t,.tmp t∈xs->(Γ t).p A w (a.tmps.getD t undef))->∀j (hj:j<xs.length) (hj':j<ys.length),(D ys[j]).p A w (a.eval xs[j])
instance {Γ:Env}{α:Type}{i:Dat α}:HasAll Γ [] α i []:=⟨rfl,λ_ _ _ _ _ h _=>absurd h (by simp)⟩
instance {Γ:Env}{x:Operand}{xs:List Operand}{α:Type}{i:Dat α}{τ:Ty}{y:α}{ys:List α}[h:Has Γ x τ] [k:ToD τ α i y] [l:HasAll Γ xs α i ys]:HasAll Γ (x::xs) α i (y::ys):=
 ⟨by simp[l.len],λa A w ha j hj hj'=>by
  cases j with
  | zero=>exact k.le _ _ _ (h.le a A w λt e=>ha t (by simp[e]))
  | succ j=>exact l.h a A w (λt ht=>ha t (Xaw _ ht)) j (by simpa using hj) (by simpa using hj')⟩
theorem EE:∀(vs:List Value) (k o:Nat) (cs:List Value),o+k+vs.length<=cs.length->
  (vs.zipIdx k).foldl (λ(a:Array Value) (p:Value×Nat)=>a.setIfInBounds (o+p.2) p.1) cs.toArray=(Ab cs (o+k) vs).toArray
 | [],k,o,cs,h=>by simp[Ab]
 | v::vs,k,o,cs,h=>by
  have h':o+k+(vs.length+1)<=cs.length:=by simpa using h
  simp only[Xgj,Xel];rw[show cs.toArray.setIfInBounds (o+k) v=(cs.set (o+k) v).toArray by simp];rw[EE vs (k+1) o (cs.set (o+k) v) (by simp;omega),<-XbO,PJ h']
theorem UY {α : Type} [Dat α] {A : Nat → Prop} {w : World} : ∀ (vs : List Value) (ys : List α) (k : Nat) (cs : List Value), vs.length = ys.length → (k + vs.length) * Dat.sz α ≤ cs.length →
    (∀ j (hj : j < vs.length) (hj' : j < ys.length), (D ys[j]).p A w vs[j]) →
    ∃ cs', XbW (fun i => some (i * Dat.sz α, Dat.sz α)) cs.toArray ((vs.zipIdx k).map fun p => (p.2, p.1)) = some cs'.toArray ∧ cs'.length = cs.length ∧
      (∀ j (hj : j < ys.length), Dat.rd A w (seg cs' ((k + j) * Dat.sz α) (Dat.sz α)) ys[j]) ∧ (∀ p q, (p + q ≤ k * Dat.sz α ∨ (k + vs.length) * Dat.sz α ≤ p) → p + q ≤ cs.length → seg cs' p q = seg cs p q)
  | [], [], k, cs, _, hc, _ => ⟨cs, by simp [XbW], rfl, fun j hj => absurd hj (by simp), fun _ _ _ _ => rfl⟩
  | [], y :: ys, k, cs, hl, _, _ => by simp at hl
  | v :: vs, [], k, cs, hl, _, _ => by simp at hl
  | v :: vs, y :: ys, k, cs, hl, hc, hv => by
    obtain ⟨c0, e0, r0⟩ := LF (hv 0 (by simp) (by simp))
    simp only [List.getElem_cons_zero] at e0 r0
    have l0 := Dat.len r0
    have hc' : (k + 1 + vs.length) * Dat.sz α ≤ cs.length := by simpa [XbO, Xb1 1] using hc
    have hk : k * Dat.sz α + c0.length ≤ cs.length := by
      rw [l0, ← XaF]; exact XaG (Xah _ (by omega)) hc'
    obtain ⟨cs', f1, f2, f3, f4⟩ := UY (α := α) (A := A) (w := w) vs ys (k + 1) (Ab cs (k * Dat.sz α) c0) (by simpa using hl) (by rw [Zp hk]; exact hc') fun j hj hj' => by
      have := hv (j + 1) (by simpa using hj) (by simpa using hj')
      simpa using this
    refine ⟨cs', ?_, by rw [f2, Zp hk], fun j hj => ?_, fun p q hpq hle => ?_⟩
    · simp only [Xgj, Xbl, XbW, e0]
      rw [if_neg (by simp [l0]; omega)]
      have := EE c0 0 (k * Dat.sz α) cs (by omega)
      simp only [Xbw] at this
      have e1 : (Array.zipIdx c0.toArray).foldl (fun cs (x : Value × Nat) => cs.setIfInBounds (k * Dat.sz α + x.2) x.1) cs.toArray = (Ab cs (k * Dat.sz α) c0).toArray := by
        rw [← this]; simp
      rw [← f1]
      congr 1
    · cases j with
      | zero =>
        rw [f4 _ _ (.inl (by simp [XaF])) (by rw [Zp hk]; simp; omega)]
        have e9 := B1 hk
        rw [l0] at e9
        rw [Xbw, e9]; exact r0
      | succ j =>
        have := f3 j (by simpa using hj)
        rw [show k + (j + 1) = k + 1 + j by omega]; simpa using this
    · rw [f4 p q (by rcases hpq with h | h
                     · left; rw [XaF]; omega
                     · right; simpa [XbO, Xb1 1] using h) (by rw [Zp hk]; exact hle)]
      refine AM hk hle ?_
      rcases hpq with h | h
      · left; exact h
      · right
        rw [l0, ← XaF]
        exact XaG (Xah _ (by simp)) h
class TEl(P:Program)(e:TypeId)(α:outParam Type)(i:outParam (Dat α))(by_:outParam Nat):Prop where
 d:TDat P e α i
 h:∃ti z,P.info? e=some ti/\ti.zero=some z/\ti.size=Dat.sz α/\ti.bytes=by_/\z.cells=(Dat.zc α).toArray
instance {P:Program}{e:TypeId}{α:Type}{i:Dat α}{n:Nat}[h:TEl P e α i n]:TDat P e α i:=h.d
def ZfI{α:Type}[Dat α] (A:Nat->Prop) (w:World) (xs:List α) (v:Value) (w':World):Prop:=
 ∃c cs d e,v=.slice (some ⟨w.heap.size,0,none⟩) xs.length c/\w'=({ w with drawn:=d }:World).alloc (.cells cs.toArray e)/\(Row xs c).p A w cs
theorem ZfI.grow{α:Type}[Dat α] {A:Nat->Prop}{w:World}{xs:List α}{v:Value}{w':World}{B0:Nat} (h:ZfI A w xs v w') (hB:B0<=w.heap.size):KP B0 w w':=by
 obtain⟨c,cs,d,e,-,rfl,-⟩:=h;exact(KP.drawn d).trans (KP.push _ hB)
theorem ZfI.reads{α:Type}[Dat α] {A:Nat->Prop}{w:World}{xs:List α}{v:Value}{w':World} (h:ZfI A w xs v w') (hA:∀k,w.heap.size<=k->A k):(D xs).p A w' v:=by
 have hg:KP 0 w w':=h.grow (Xcq _);obtain⟨c,cs,d,e,rfl,rfl,hr⟩:=h;obtain⟨k1,k2,k3,k4,k5⟩:=(Row xs c).keep (HD.grow hg) hr;have hblk:Blk (({ w with drawn:=d }:World).alloc (.cells cs.toArray e)) w.heap.size cs:=Blk.new rfl;refine⟨[_],⟨_,c,rfl,k2,k3,k4,λq hq=>⟨w.heap.size,0,rfl,hA _ (Xau _),_,?_,k5 q hq⟩⟩,rfl⟩;rw[Xbg];refine hblk.row ?_;rw[k1,<-XaF];exact Xah _ (by omega)
def Src{α:Type}[Dat α] (A:Nat->Prop) (w:World) (u:Value) (ys:List α):Prop:=
 ∃ad c,u=.slice ad ys.length c/\(0<ys.length->∃b off news,ad=some ⟨b,off,none⟩/\news.length=ys.length*Dat.sz α/\KT w b off news/\A7 A w news ys)
theorem ZbK{α:Type}[Dat α] {A:Nat->Prop}{w:World}{u:Value}{ys:List α} (h:(D ys).p A w u):Src A w u ys:=by
 obtain⟨cs0,⟨ad,c,rfl,h2,h3,h3',h4⟩,hu'⟩:=h;refine⟨ad,c,hu',λh0=>?_⟩;obtain⟨b,off,news,h5,_,hl,hr,he⟩:=h4.flat h0;exact⟨b,off,news,h5,hl,hr,he⟩
theorem Src.cells{P:Program}{α:Type}[Dat α] {A:Nat->Prop}{w:World}{u:Value}{ys:List α} (h:Src A w u ys) :
  ∃ad c news,u=.slice ad ys.length c/\news.length=ys.length*Dat.sz α/\A7 A w news ys/\∀m,m<=ys.length->(XbF (Dat.sz α) m u).run P w=.ok (news.take (m*Dat.sz α)).toArray w:=by
 obtain⟨ad,c,rfl,h4⟩:=h;rcases XbB ys.length with h0|h0
 .have hy:ys=[]:=XaI h0;subst hy;refine⟨ad,c,[],rfl,by simp,λi hi=>absurd hi (by simp),λm hm=>?_⟩;have hm:m=0:=by simpa using hm
  subst hm;cases ad<;>simp[XbF,loadCells,loadCellsFrom]
 .obtain ⟨b,off,news,rfl,hl,hr,he⟩:=h4 h0;refine⟨_,c,news,rfl,hl,he,λm hm=>?_⟩;have hlen:(news.take (m*Dat.sz α)).length=m*Dat.sz α:=by rw[Xa5,hl];exact XaY (Xah _ hm)
  have hr':KT w b off (news.take (m*Dat.sz α)):=λj hj=>by
   rw[hlen]at hj;have:j<news.length:=by rw[hl];exact XaU hj (Xah _ hm)
   rw[hr j this];simp[Xad,hj]
  have:=Gp (P:=P) hr';rw[hlen]at this;simpa[XbF]using this
theorem A7.take{α:Type}[Dat α] {A:Nat->Prop}{w:World}{cs:List Value}{xs:List α}{m:Nat} (h:A7 A w cs xs) (hl:cs.length=xs.length*Dat.sz α) (hm:m<=xs.length):A7 A w (cs.take (m*Dat.sz α)) (xs.take m):=λj hj=>by
 have hj':j<m:=by simp at hj;omega
 rw[Xb6,Uv (by rw[<-XaF];exact Xah _ (by omega)) (by rw[hl];exact Xah _ hm)];exact h j (by omega)
theorem A7.drop{α:Type}[Dat α] {A:Nat->Prop}{w:World}{cs:List Value}{xs:List α}{m:Nat} (h:A7 A w cs xs) (hl:xs.length*Dat.sz α<=cs.length):A7 A w (cs.drop (m*Dat.sz α)) (xs.drop m):=λj hj=>by
 have hj':m+j<xs.length:=by simp at hj;omega
 have e:seg (cs.drop (m*Dat.sz α)) (j*Dat.sz α) (Dat.sz α)=seg cs ((m+j)*Dat.sz α) (Dat.sz α):=by
  unfold seg;rw[XdR,<-Xa6]
 rw[XdY,e];exact h _ hj'
def splice{α:Type}(xs:List α)(k:Nat)(ys:List α):List α:=xs.take k++ys++xs.drop (k+ys.length)
theorem A7.splice{α:Type}[Dat α] {A:Nat->Prop}{w:World}{cs news:List Value}{xs ys:List α}{k:Nat} (h:A7 A w cs xs) (g:A7 A w news ys) (hl:news.length=ys.length*Dat.sz α) (hx:xs.length*Dat.sz α<=cs.length) (hk:k<=xs.length) (hf:(k+ys.length)*Dat.sz α<=cs.length) :
  A7 A w (Ab cs (k*Dat.sz α) news) (Tr.splice xs k ys):=λj hj=>by
 have hfit:k*Dat.sz α+news.length<=cs.length:=by rw[hl,<-Xa6];exact hf
 have hkl:(xs.take k).length=k:=by simp;omega
 unfold Tr.splice at hj⊢;simp only[XaD,hkl,XbP]at hj;rcases Xbd j k with h1|h1
 .have hle2:j*Dat.sz α+Dat.sz α<=k*Dat.sz α:=by rw[<-XaF];exact Xah _ (by omega)
  rw[AM hfit (by omega) (.inl hle2)];have e:(xs.take k++ys++xs.drop (k+ys.length))[j]=xs[j]'(by omega):=by
   rw[XbT (by simp only[XaD,hkl];omega),XbT (by omega),Xb6]
  rw[e];exact h j (by omega)
 .rcases Xbd j (k+ys.length)with h2|h2
  .have hle2:(j-k)*Dat.sz α+Dat.sz α<=news.length:=by rw[hl,<-XaF];exact Xah _ (by omega)
   have e11:j*Dat.sz α=k*Dat.sz α+(j-k)*Dat.sz α:=by rw[<-Xa6];congr 1;omega
   rw[e11,Qu hfit hle2];have e:(xs.take k++ys++xs.drop (k+ys.length))[j]=ys[j-k]'(by omega):=by
    rw[XbT (by simp only[XaD,hkl];omega),Xca (by omega)];simp only[hkl]
   rw[e];exact g _ (by omega)
  .have hjx:j<xs.length:=by omega
   have hle2:k*Dat.sz α+news.length<=j*Dat.sz α:=by rw[hl,<-Xa6];exact Xah _ h2
   have hle3:j*Dat.sz α+Dat.sz α<=cs.length:=XaG (by rw[<-XaF];exact Xah _ (by omega)) hx;rw[AM hfit hle3 (.inr hle2)];have e:(xs.take k++ys++xs.drop (k+ys.length))[j]=xs[j]:=by
    have h3:(xs.take k++ys++xs.drop (k+ys.length))[j]?=xs[j]?:=by
     rw[XbK (by simp only[XaD,hkl];omega),XdP];simp only[XaD,hkl];congr 1;omega
    rw[Xaf (by simp only[XaD,hkl,XbP];omega),Xaf hjx]at h3;exact ZZi h3
   rw[e];exact h j hjx
theorem MJ{α:Type}{xs ys:List α}{k:Nat} (hk:k<=xs.length):(splice xs k ys).length=max xs.length (k+ys.length):=by
 unfold splice;simp only[XaD,Xa5,XbP];omega
theorem Row.splice{α:Type}[Dat α] {A:Nat->Prop}{w:World}{cs news:List Value}{xs ys:List α}{k c:Nat} (h:(Row xs c).p A w cs) (g:A7 A w news ys) (hl:news.length=ys.length*Dat.sz α) (hk:k<=xs.length) (hf:k+ys.length<=c) (hm:k+ys.length<=LG) :
  (Row (Tr.splice xs k ys) c).p A w (Ab cs (k*Dat.sz α) news):=by
 obtain⟨h1,h2,h3,h4,h5⟩:=h;have hfit:(k+ys.length)*Dat.sz α<=cs.length:=by rw[h1];exact Xah _ hf
 have hsl:=MJ (xs:=xs) (ys:=ys) hk;exact⟨by rw[Zp (by rw[hl,<-Xa6];exact hfit)];exact h1,by omega,h3,by omega,h5.splice g hl (by rw[h1];exact Xah _ h2) hk hfit⟩
theorem Row.take{α:Type}[Dat α] {A:Nat->Prop}{w:World}{cs:List Value}{xs:List α}{c m:Nat} (h:(Row xs c).p A w cs) (hm:m<=xs.length):(Row (xs.take m) c).p A w cs:=by
 obtain⟨h1,h2,h3,h4,h5⟩:=h;refine⟨h1,by simp;omega,h3,by simp;omega,λj hj=>?_⟩;rw[Xb6];exact h5 j (by simp at hj;omega)
theorem SZ{α:Type}{xs ys:List α}{k m:Nat} (h:m=k+ys.length) (hk:k<=xs.length):(splice xs k ys).take m=xs.take k++ys:=by
 unfold splice;rw[List.take_append_of_le_length (by simp;omega),XaB (by simp;omega)]
section app
variable {P:Program}{α:Type}{i:Dat α}{t e:TypeId}{bt:Nat}
theorem VH[S:TSl P t e][T:TEl P e α i bt]{A:Nat->Prop}{w:World}{b:Nat}{v u:Value}{xs ys:List α}{ty:TypeId}
  (hv:(v=.slice none 0 0/\xs=[])\/∃c cs,v=.slice (some ⟨b,0,none⟩) xs.length c/\Blk w b cs/\(Row xs c).p A w cs) (hu:Src A w u ys) (hn:(xs.length+ys.length)*bt<=140737488355328) (hm:xs.length+ys.length<=LG) :
  ∃v' w',(Xco #[t,t] ty #[v,u]).run P w=.ok v' w'/\((ys=[]/\v'=v/\w'=w)\/ZfI A w (xs++ys) v' w'\/
   ∃c cs news,v=.slice (some ⟨b,0,none⟩) xs.length c/\xs.length+ys.length<=c/\0<ys.length/\v'=.slice (some ⟨b,0,none⟩) (xs.length+ys.length) c/\Blk w b cs/\(Row xs c).p A w cs/\Blk w' b (Ab cs (xs.length*Dat.sz α) news)/\Mut (λk=>k=b) w w'/\news.length=ys.length*Dat.sz α/\A7 A w news ys):=by
 obtain⟨ti,z,hi1,hi2,hi3,hi4,hi5⟩:=T.h;obtain⟨ad,c,rfl,h4⟩:=hu;have hmost:xs.length+ys.length<=9223372036854775807:=by unfold LG at hm;omega
 rcases XbB ys.length with h0|h0
 .have hy0:ys=[]:=XaI h0;subst hy0;refine⟨v,w,?_,.inl ⟨rfl,rfl,rfl⟩⟩;have hf:(XbF ti.size 0 (.slice ad 0 c)).run P w=.ok #[] w:=by
   cases ad<;>simp[XbF,loadCells,loadCellsFrom]
  rcases hv with⟨rfl,rfl⟩|⟨cp,cs,rfl,hblk,hcl,hle,hcm,hmx,hel⟩
  .simp [Xco,run_underlying S.h,sizeOf,typeInfo,hi1,XcT,hf]
  .simp [Xco,run_underlying S.h,sizeOf,typeInfo,hi1,XcT,hf,hle,storeCells]
 obtain⟨b2,off,news,rfl,hl,hr,he⟩:=h4 h0;have hzl:z.cells.size=Dat.sz α:=by rw[hi5];simpa using Dw α
 have hnews:∀j v,news[j]?=some v->w.cell? (XeM ⟨b2,off,none⟩ j)=some v:=λj v hj=>by
  obtain⟨h5,rfl⟩:=Xav.1 hj;rw[Bf,hr j h5,Xad,Xaf h5];rfl
 have key:∀(oc:Nat) (old:List Value),old.length=xs.length*Dat.sz α->A7 A w old xs->
   ZfI A w (xs++ys) (.slice (some ⟨w.heap.size,0,none⟩) (xs.length+ys.length) (grownCap w (xs.length+ys.length) oc e)) (w.drew.alloc (.cells (old.toArray++news.toArray++XaT z.cells (grownCap w (xs.length+ys.length) oc e-(xs.length+ys.length))) e)):=λoc old ho heo=>by
  have ge:=grownCap_ge w (xs.length+ys.length) oc e;have cm:=grownCap_le_maxLen w (xs.length+ys.length) oc e (by unfold maxLen;omega);generalize grownCap w (xs.length+ys.length) oc e=gc at *;have hall:(old++news++(XaT z.cells (gc-(xs.length+ys.length))).toList).toArray=(old.toArray++news.toArray++XaT z.cells (gc-(xs.length+ys.length))):=by simp
  have hzs:(XaT z.cells (gc-(xs.length+ys.length))).toList.length=(gc-(xs.length+ys.length))*Dat.sz α:=by
   rw[Array.length_toList,size_zeroCells,hzl]
  refine⟨gc,old++news++(XaT z.cells (gc-(xs.length+ys.length))).toList,w.drawn+1,e,by simp,by rw[hall];rfl,?_,by simpa using ge,cm,by simpa using hm,λj hj=>?_⟩
  .simp only[XaD,hzs,ho,hl,<-Xa6];congr 1;omega
  .simp only[XaD]at hj;rw[XaM];rcases Xbd j xs.length with h1|h1
   .have hle:j*Dat.sz α+Dat.sz α<=old.length:=by rw[ho,<-XaF];exact Xah _ (by omega)
    rw[LR hle,XbT h1];exact heo j h1
   .have hle:(j-xs.length)*Dat.sz α+Dat.sz α<=news.length:=by rw[hl,<-XaF];exact Xah _ (by omega)
    have e1:j*Dat.sz α=old.length+(j-xs.length)*Dat.sz α:=by rw[ho,<-Xa6];congr 1;omega
    rw[e1,RF (by simp;omega),LR hle,Xca h1];exact he (j-xs.length) (by omega)
 rcases hv with⟨rfl,rfl⟩|⟨cp,cs,rfl,hblk,hrow⟩
 . -- nil
  simp only[List.length_nil,Xbg,Xam]at *;have k1:=key 0 [] (by simp) (λj hj=>absurd hj (by simp));have hr:=run_append_nil (P:=P) w t ty e ti z S.h hi1 hi2 ⟨b2,off,none⟩ ys.length c news (by rw[hl,hi3]) hnews h0 (by omega) (by rw[hi4];omega);refine⟨_,_,hr,.inr (.inl ?_)⟩;simpa using k1
 .obtain ⟨hcl,hle,hcm,hmx,hel⟩:=hrow
  by_cases hroom:xs.length+ys.length<=cp
  . -- there is Dv
   have hfit:xs.length*Dat.sz α+news.length<=cs.length:=by rw[hl,hcl,<-Xa6];exact Xah _ hroom
   obtain⟨w',r1,r2,r3,r4⟩:=Bp (P:=P) hblk hfit (he.scal hl);have hf:=run_firstCells_some (P:=P) w ti.size ys.length ⟨b2,off,none⟩ ys.length c news (by rw[hl,hi3]) hnews;refine⟨.slice (some ⟨b,0,none⟩) (xs.length+ys.length) cp,w',?_,.inr (.inr ⟨cp,cs,news,rfl,hroom,h0,rfl,hblk,⟨hcl,hle,hcm,hmx,hel⟩,r2,r3,hl,he⟩)⟩;rw[hi3]at hf;simp[Xco,run_underlying S.h,sizeOf,typeInfo,hi1,hi3,XcT,hroom,hf,Bf,r1]
  . -- a new row
   have hlo:xs.length*Dat.sz α<=cs.length:=by rw[hcl];exact Xah _ hle
   have hol:(cs.take (xs.length*Dat.sz α)).length=xs.length*Dat.sz α:=by rw[Xa5];exact XaY hlo
   have heo:A7 A w (cs.take (xs.length*Dat.sz α)) xs:=λj hj=>by
    rw[Uv (by rw[<-XaF];exact Xah _ (by omega)) hlo];exact hel j hj
   have hr:=run_append_grow (P:=P) w t ty e ti z S.h hi1 hi2 ⟨b,0,none⟩ xs.length cp (cs.take (xs.length*Dat.sz α)) (by rw[hol,hi3]) (λj v hj=>by
    obtain⟨h5,rfl⟩:=Xav.1 hj;rw[hol]at h5;rw[Bf,Xbg,hblk.cell (by omega),Xb6,Xad,Xaf (by omega)];rfl)
    ⟨b2,off,none⟩ ys.length c news (by rw[hl,hi3]) hnews (by omega) (by omega) (by rw[hi4];exact growslice_fits (by omega) hn)
   exact⟨_,_,hr,.inr (.inl (key cp _ hol heo))⟩
end app
def Fu{α:Type}[Dat α] (B:Nat) (xs:List α):Ty:=
  ⟨λA w v=>∃b cs,v=.slice (some ⟨b,0,none⟩) xs.length xs.length/\B<=b/\A b/\Blk w b cs/\(Row xs xs.length).p A w cs,
   λk ⟨b,cs,h1,h2,h3,h4,h5⟩=>⟨b,cs,h1,h2,(k.h b h4.lt h3).1,h4.keep k h3,(Row xs xs.length).keep k h5⟩⟩
theorem Row.reads{α:Type}[Dat α] {A:Nat->Prop}{w:World}{b c:Nat}{cs:List Value}{xs:List α} (hb:A b) (hblk:Blk w b cs) (hr:(Row xs c).p A w cs):(D xs).p A w (.slice (some ⟨b,0,none⟩) xs.length c):=by
 obtain⟨k1,k2,k3,k4,k5⟩:=hr;refine⟨[_],⟨_,c,rfl,k2,k3,k4,λq hq=>⟨b,0,rfl,hb,_,?_,k5 q hq⟩⟩,rfl⟩;rw[Xbg];refine hblk.row ?_;rw[k1,<-XaF];exact Xah _ (by omega)
theorem Fu.le{α:Type}[Dat α] {B:Nat}{xs:List α}:(Fu B xs).le (D xs):=λA w v ⟨b,cs,h1,h2,h3,h4,h5⟩=>by rw[h1];exact Row.reads h3 h4 h5
instance {α:Type}[i:Dat α] {B:Nat}{x:List α}:AsL (Fu B x) α i x:=⟨Fu.le⟩
instance {α:Type}{i:Dat α}{B:Nat}{x:List α}:ToD (Fu B x) (List α) Bv x:=⟨Fu.le⟩
def Zf2{α:Type}[Dat α] (A:Nat->Prop) (w:World) (xs:List α) (v:Value) (w':World):Prop:=
 ∃cs d e,v=.slice (some ⟨w.heap.size,0,none⟩) xs.length xs.length/\w'=({ w with drawn:=d }:World).alloc (.cells cs.toArray e)/\(Row xs xs.length).p A w cs
theorem Zf2.new{α:Type}[Dat α] {A:Nat->Prop}{w:World}{xs:List α}{v:Value}{w':World} (h:Zf2 A w xs v w'):ZfI A w xs v w':=let ⟨cs,d,e,h⟩:=h;⟨_,cs,d,e,h⟩
theorem Zf2.fu{α:Type}[Dat α] {A:Nat->Prop}{w:World}{xs:List α}{v:Value}{w':World}{B:Nat} (h:Zf2 A w xs v w') (hB:B<=w.heap.size) (hA:∀k,w.heap.size<=k->A k):(Fu B xs).p A w' v:=by
 have hg:KP 0 w w':=h.new.grow (Xcq _);obtain⟨cs,d,e,rfl,rfl,hr⟩:=h;exact⟨_,cs,rfl,hB,hA _ (Xau _),Blk.new rfl,(Row xs xs.length).keep (HD.grow hg) hr⟩
section run
variable {P:Program}{B0:Nat}{A:Nat->Prop}{Γ:Env}{dst:Option Tmp}{ty:TypeId}{pos:String}{aft:Array Edge}{gd:Option (Nat×Bool)}
variable {α:Type}{i:Dat α}{t e:TypeId}{bt:Nat}
theorem Ii[S:TSl P t e][T:TEl P e α i bt]{n:Nat}{parts:Array (Nat×Operand)}{a:Act}{w:World} (xs:List Operand) {ys:List α}[h:HasAll Γ xs α i ys]
  (hp:parts=(xs.zipIdx.map λp=>(p.2,p.1)).toArray) (hn:xs.length=n) (hs:n*Dat.sz α<=16777216) (hl:∀s,.tmp s∈(Op.buildSlice t n parts).operands.toList->(Γ s).p A w (a.tmps.getD s undef)) :
  ∃v w',(execOp a.eval ⟨dst,.buildSlice t n parts,ty,pos,aft,gd⟩).run P w=.ok (.value v) w'/\Zf2 A w ys v w':=by
 obtain⟨ti,z,hi1,hi2,hi3,hi4,hi5⟩:=T.h;subst hp;have hin:∀t,.tmp t∈xs->(Γ t).p A w (a.tmps.getD t undef):=λt ht=>hl t (by
  simp only[Xae];obtain⟨j,hj,e1⟩:=XaQ ht;simp only[XeL,List.mem_map,Function.comp];exact⟨(.tmp t,j),by rw[List.mem_zipIdx_iff_getElem?];rw[Xaf hj,e1],rfl⟩)
 have hlen:xs.length=ys.length:=h.len;have hsz:=Dat.pos (α:=α)
 let zs:List Value:=((Xbe (n*Dat.sz α)).map λj=>(z.cells[j%z.cells.size]!))
 obtain⟨cs',f1,f2,f3,-⟩:=UY (α:=α) (A:=A) (w:=w) (xs.map a.eval) ys 0 zs (by simpa using hlen) (by simp[zs,hn]) λj hj hj'=>by
  rw[List.getElem_map];exact h.h a A w hin j (by simpa using hj) hj'
 have e2:(xs.zipIdx.map λp=>(p.2,p.1)).map (λq:Nat×Operand=>(q.1,a.eval q.2))=((xs.map a.eval).zipIdx 0).map λp=>(p.2,p.1):=by
  rw[List.zipIdx_map];simp[XeL,XfJ]
 have hcs:cs'.length=ys.length*Dat.sz α:=by rw[f2];simp[zs];rw[<-hn,hlen]
 have hrun:(execOp a.eval ⟨dst,.buildSlice t n (xs.zipIdx.map λp=>(p.2,p.1)).toArray,ty,pos,aft,gd⟩).run P w=.ok (.value (.slice (some ⟨w.heap.size,0,none⟩) n n)) (w.alloc (.cells cs'.toArray e)):=by
  have h1:¬(16777216<n*Dat.sz α):=by omega
  have f1':XbW (λi=>some (i*Dat.sz α,Dat.sz α)) ((Array.range (n*Dat.sz α)).map (z.cells[· % z.cells.size]!)) (((xs.zipIdx.map λp=>(p.2,p.1)).map (λq:Nat×Operand=>(q.1,a.eval q.2))))=some cs'.toArray:=by
   rw[e2,<-f1];congr 1;apply Array.ext';simp[zs]
  by_cases h0:n*Dat.sz α=0
  .have hz0:n=0:=by rcases Nat.mul_eq_zero.1 h0 with h|h<;>omega
   subst hz0;have hx0:xs=[]:=XaI hn;subst hx0;have hc0:cs'=[]:=XaI (by rw[hcs,<-hlen];simp);subst hc0;simp[execOp,Xgc,run_underlying S.h,sizeOf,typeInfo,hi1,XbW,newRow,Array.range_zero']
  .simp only[execOp,Xgc,Xag,run_underlying S.h,Xab,sizeOf,typeInfo,run_program,hi1,Xai,hi3];rw[if_neg (by simpa using h1)];simp only[Xai,Xab,if_neg h0,Xag,zeroValue,typeInfo,run_program,hi1,hi2,Xb0,f1'];simp[newRow]
 refine⟨_,_,hrun,cs',w.drawn,e,by rw[<-hlen,hn],rfl,hcs,Xau _,?_,?_,λj hj=>?_⟩
 .have:ys.length<=ys.length*Dat.sz α:=Xft _ hsz;rw[<-hlen,hn]at this⊢;unfold maxLen;omega
 .have:ys.length<=ys.length*Dat.sz α:=Xft _ hsz;rw[<-hlen,hn]at this⊢;unfold LG;omega
 .have:=f3 j hj
  rwa [Xbg]at this
theorem Ih[S:TSl P t e][T:TEl P e α i bt]{x y:Operand}{τ σ:Ty}{m n:Int}{a:Act}{w:World}[hx:Has Γ x τ] [kx:AsI τ m] [hy:Has Γ y σ] [k:AsI σ n] (hm0:0<=m) (h0:m<=n) (hb:bt*n.toNat<=281474976710656) (hm:n<=140737488351232) (hl:∀s,.tmp s∈(Xg1 t x y).operands.toList->(Γ s).p A w (a.tmps.getD s undef)) :
  ∃cs,(execOp a.eval ⟨dst,.makeSlice t x y,ty,pos,aft,gd⟩).run P w=.ok (.value (.slice (some ⟨w.heap.size,0,none⟩) m.toNat n.toNat)) (({ w with drawn:=w.drawn }:World).alloc (.cells cs.toArray e))/\(Row (Xac n.toNat (Dat.z (α:=α))) n.toNat).p A w cs:=by
 obtain⟨ti,z,hi1,hi2,hi3,hi4,hi5⟩:=T.h;have e0:a.eval x=.int .i64 m:=kx.le _ _ _ (Zy (x:=x) (τ:=τ) (op:=.makeSlice t x y) (by simp[Xae]) hl);have e1:a.eval y=.int .i64 n:=k.le _ _ _ (Zy (x:=y) (τ:=σ) (op:=.makeSlice t x y) (by simp[Xae]) hl);have hbb:(bt:Int)*n<=281474976710656:=by
  have h1:((bt*n.toNat:Nat):Int)<=281474976710656:=by omega
  rw[XbQ,Int.toNat_of_nonneg (by omega)]at h1;exact h1
 have hr:=run_make (P:=P) w t e ti z S.h hi1 hi2 .i64 .i64 m n hm0 h0 (by rw[hi4];exact hbb) (by omega);have hrun:(execOp a.eval ⟨dst,.makeSlice t x y,ty,pos,aft,gd⟩).run P w=.ok (.value (.slice (some ⟨w.heap.size,0,none⟩) m.toNat n.toNat)) (w.alloc (.cells (madeCells z.cells (n.toNat*ti.size)) e)):=by
  simp only[execOp,Xag,Xai,e0,e1,hr,Xab]
 have hsz:=Dat.pos (α:=α);have hzl:z.cells.size=Dat.sz α:=by rw[hi5];simpa using Dat.len (Dat.zrd (α:=α) (A:=λ_=>True) (w:=w))
 refine⟨(madeCells z.cells (n.toNat*ti.size)).toList,by rw[hrun,Array.toArray_toList],?_,by simp,?_,?_,λj hj=>?_⟩
 .simp [size_madeCells,hi3]
 .unfold maxLen;omega
 .simp;unfold LG;omega
 .simp only[XaK]at hj;have e2:seg (madeCells z.cells (n.toNat*ti.size)).toList (j*Dat.sz α) (Dat.sz α)=Dat.zc α:=by
   have hle:j*Dat.sz α+Dat.sz α<=n.toNat*Dat.sz α:=by rw[<-XaF];exact Xah _ (by omega)
   have hzc:(Dat.zc α).length=Dat.sz α:=Dat.len (Dat.zrd (α:=α) (A:=λ_=>True) (w:=w));refine AV (by rw[ZA (by simpa[size_madeCells,hi3]using hle),hzc]) λq hq=>?_
   rw[ZA (by simpa[size_madeCells,hi3]using hle)]at hq;rw[Al hq];have h3:j*Dat.sz α+q<n.toNat*Dat.sz α:=by omega
   have h4:(j*Dat.sz α+q)%Dat.sz α=q:=by rw[Xbb,XgB,Xcd hq]
   have h5:(madeCells z.cells (n.toNat*ti.size)).toList.getD (j*Dat.sz α+q) undef=z.cells[(j*Dat.sz α+q)%z.cells.size]!:=by
    simp[madeCells,Xad,hi3,h3]
   rw[h5,hzl,h4,hi5,getElem!_pos _ _ (by simpa[hzc]using hq)];simp[Xad,hzc,hq]
  rw[e2,Xbs];exact Dat.zrd
theorem Qv[S:TSl P t e][T:TEl P e α i bt]{x:Operand}{τ:Ty}{n:Int}{a:Act}{w:World}[hx:Has Γ x τ] [k:AsI τ n] (h0:0<=n) (hb:bt*n.toNat<=281474976710656) (hm:n<=140737488351232) (hl:∀s,.tmp s∈(Xg1 t x x).operands.toList->(Γ s).p A w (a.tmps.getD s undef)) :
  ∃v w',(execOp a.eval ⟨dst,.makeSlice t x x,ty,pos,aft,gd⟩).run P w=.ok (.value v) w'/\Zf2 A w (Xac n.toNat (Dat.z (α:=α))) v w':=by
 obtain⟨cs,h1,h2⟩:=Ih (P:=P) (t:=t) (e:=e) (bt:=bt) (A:=A) (dst:=dst) (ty:=ty) (pos:=pos) (aft:=aft) (gd:=gd) (α:=α) (x:=x) (y:=x) (a:=a) (w:=w) h0 (XaJ _) hb hm hl;refine⟨_,_,h1,cs,w.drawn,e,by simp,rfl,by simpa using h2⟩
end run
section ops
variable {P:Program}{B0:Nat}{A:Nat->Prop}{Ω:List Pe}{Γ:Env}{dst:Option Tmp}{ty:TypeId}{pos:String}{aft:Array Edge}{gd:Option (Nat×Bool)}
variable {α:Type}{i:Dat α}{t e:TypeId}{bt:Nat}
theorem OpY.buildSlice[S:TSl P t e][T:TEl P e α i bt]{n:Nat}{parts:Array (Nat×Operand)} (xs:List Operand) {ys:List α}[h:HasAll Γ xs α i ys]
  (hp:parts=(xs.zipIdx.map λp=>(p.2,p.1)).toArray) (hn:xs.length=n) (hs:n*Dat.sz α<=16777216):OpY P B0 A Ω Γ ⟨dst,.buildSlice t n parts,ty,pos,aft,gd⟩ (Fu B0 ys):=λa w hB hu _ hl=>by
 obtain⟨v,w',h1,h2⟩:=Ii (P:=P) (A:=A) (dst:=dst) (ty:=ty) (pos:=pos) (aft:=aft) (gd:=gd) xs (ys:=ys) hp hn hs hl;rw[h1];exact⟨h2.new.grow hB,h2.fu hB hu⟩
theorem OpY.makeSlice[S:TSl P t e][T:TEl P e α i bt]{x:Operand}{τ:Ty}{n:Int}[hx:Has Γ x τ] [k:AsI τ n] (h0:0<=n) (hb:bt*n.toNat<=281474976710656) (hm:n<=140737488351232) :
  OpY P B0 A Ω Γ ⟨dst,.makeSlice t x x,ty,pos,aft,gd⟩ (Fu B0 (Xac n.toNat (Dat.z (α:=α)))):=λa w hB hu _ hl=>by
 obtain⟨v,w',h1,h2⟩:=Qv (P:=P) (A:=A) (dst:=dst) (ty:=ty) (pos:=pos) (aft:=aft) (gd:=gd) (α:=α) (x:=x) h0 hb hm hl;rw[h1];exact⟨h2.new.grow hB,h2.fu hB hu⟩
theorem TL{a:Act}{w w':World}{s x:Operand}{v:Value} (h:(Xco #[t,t] ty #[a.eval s,a.eval x]).run P w=.ok v w') :
  (execOp a.eval ⟨dst,.call { callee:=.builtin .append,args:=#[s,x],argTypes:=#[t,t] },ty,pos,aft,gd⟩).run P w=.ok (.value v) w':=by
 simp only[execOp,resolve,invoke,builtin,Xag,Xai,Xab,Xb0,Xbl,Xcy,h]
end ops
structure PlS(C:Ct)(o:Nat)(α:Type)(i:Dat α)(xs:List α)(upd:List α->Ct):Prop where
 mo:∀{A w cs},C.p A w cs->xs.length<=LG
 rd:∀{A w cs},C.p A w cs->o+xs.length*Dat.sz α<=cs.length/\A7 A w (seg cs o (xs.length*Dat.sz α)) xs
 st:∀{A w cs news} (ys:List α),ys.length=xs.length->C.p A w cs->news.length=ys.length*Dat.sz α->A7 A w news ys->(upd ys).p A w (Ab cs o news)
theorem PlS.row{α:Type}{i:Dat α}{xs:List α}{c k n:Nat} (h:k+n<=xs.length):PlS (Row xs c) (k*Dat.sz α) α i ((xs.drop k).take n) λys=>Row (splice xs k ys) c:=by
 have hl:((xs.drop k).take n).length=n:=by simp;omega
 refine⟨λ{A w cs} hc=>by obtain⟨h1,h2,h3,h4,h5⟩:=hc;omega,λ{A w cs} hc=>?_,λ{A w cs news} ys hy hc hn he=>?_⟩
 .obtain ⟨h1,h2,h3,h4,h5⟩:=hc;rw[hl];have hfit:k*Dat.sz α+n*Dat.sz α<=cs.length:=by rw[h1,<-Xa6];exact Xah _ (by omega)
  refine⟨hfit,?_⟩;intro j hj;have hj':j<n:=by omega
  rw[JL (by rw[<-XaF];exact Xah _ (by omega)) hfit,<-Xa6];have e:((xs.drop k).take n)[j]=xs[k+j]'(by omega):=by rw[Xb6,XdY]
  rw[e];exact h5 _ (by omega)
 .obtain ⟨h1,h2,h3,h4,h5⟩:=hc;exact Row.splice ⟨h1,h2,h3,h4,h5⟩ he hn (by omega) (by omega) (by omega)
theorem Vh{α:Type}{i:Dat α}{xs:List α}{c n:Nat} (h:n<=xs.length):PlS (Row xs c) 0 α i (xs.take n) λys=>Row (splice xs 0 ys) c:=by
 have:=PlS.row (i:=i) (xs:=xs) (c:=c) (k:=0) (n:=n) (by omega);simpa using this
theorem PlS.src{α:Type}{i:Dat α}{C:Ct}{o n c:Nat}{xs:List α}{upd:List α->Ct}{A:Nat->Prop}{w:World}{b:Nat}{cs:List Value} (h:PlS C o α i xs upd) (hb:Blk w b cs) (hc:C.p A w cs) (hn:n=xs.length):Src A w (.slice (some ⟨b,o,none⟩) n c) xs:=by
 subst hn;obtain⟨h1,h2⟩:=h.rd hc;exact⟨_,c,rfl,λ_=>⟨b,o,_,rfl,ZA h1,hb.row h1,h2⟩⟩
def Sv(b:Nat)(pr:Prop)(o n:Nat):Ty:=⟨λ_ _ v=>(pr/\∃o' c,v=.slice (some ⟨b,o',none⟩) n c/\(n<=c/\c<=maxLen)/\(0<n->o'=o))\/(¬pr/\n=0/\v=.slice none 0 0),λ_ h=>h⟩
theorem ZfD{b:Nat}{pr:Prop}{o n c:Nat}:(Sl b pr o n c).le (Sv b pr o n):=λ_ _ v h=>by
 rcases h with⟨h1,h0,h2⟩|⟨h1,h2,h3,h4⟩
 .exact .inl ⟨h1,o,c,h2,h0,λ_=>rfl⟩
 .exact .inr ⟨h1,h2,h4⟩
class AsSv(τ:Ty)(b:outParam Nat)(pr:outParam Prop)(o n:outParam Nat):Prop where
 le:τ.le (Sv b pr o n)
instance {b:Nat}{pr:Prop}{o n:Nat}:AsSv (Sv b pr o n) b pr o n:=⟨Ty.le.refl _⟩
instance {b:Nat}{pr:Prop}{o n c:Nat}:AsSv (Sl b pr o n c) b pr o n:=⟨ZfD⟩
instance {p:Prop}{τ:Ty}{b:Nat}{pr:Prop}{o n:Nat}[h:Ft p] [k:AsSv τ b pr o n]:AsSv (HY p τ) b pr o n:=⟨λA w v x=>k.le A w v (x.1 h.h)⟩
section ops
variable {P:Program}{B:Nat}{Ωs Ω Ωr:List Pe}{Γ:Env}{ty:TypeId}{pos:String}{aft:Array Edge}
variable {α:Type}{i:Dat α}{t e:TypeId}{bt:Nat}{d:Tmp}
theorem OpT.buildSlice[S:TSl P t e][T:TEl P e α i bt]{m:Nat}{parts:Array (Nat×Operand)} (xs:List Operand) {ys:List α}[h:HasAll Γ xs α i ys]
  (hp:parts=(xs.zipIdx.map λp=>(p.2,p.1)).toArray) (hn:xs.length=m) (hs:m*Dat.sz α<=16777216) :
  OpT P B Ωs Ω Γ ⟨some d,.buildSlice t m parts,ty,pos,aft,none⟩ (λg:Nat×Unit=>Sl g.1 True 0 ys.length ys.length) λg=>⟨g.1,True,Row ys ys.length⟩::Ω:=
 GB (C:=λ_=>Row ys ys.length) rfl λA a w _ _ hl=>by
  obtain⟨v,w',h1,cs,q,el,h2,rfl,h3⟩:=Ii (P:=P) (t:=t) (e:=e) (bt:=bt) (A:=A) (dst:=some d) (ty:=ty) (pos:=pos) (aft:=aft) (gd:=none) (w:=w) (a:=a) xs (ys:=ys) hp hn hs hl;exact⟨(),v,q,cs,el,h1,λ_ _=>.inl ⟨trivial,⟨Xau _,h3.2.2.1⟩,h2⟩,h3⟩
theorem OpT.makeSlice[S:TSl P t e][T:TEl P e α i bt]{x y:Operand}{τ σ:Ty}{m n:Int}[hx:Has Γ x τ] [kx:AsI τ m] [hy:Has Γ y σ] [k:AsI σ n] (hm0:0<=m) (h0:m<=n) (hb:bt*n.toNat<=281474976710656) (hm:n<=140737488351232) :
  OpT P B Ωs Ω Γ ⟨some d,.makeSlice t x y,ty,pos,aft,none⟩ (λg:Nat×Unit=>Sl g.1 True 0 m.toNat n.toNat) λg=>⟨g.1,True,Row (Xac n.toNat (Dat.z (α:=α))) n.toNat⟩::Ω:=
 GB (C:=λ_=>Row (Xac n.toNat (Dat.z (α:=α))) n.toNat) rfl λA a w _ _ hl=>by
  obtain⟨cs,h1,h2⟩:=Ih (P:=P) (t:=t) (e:=e) (bt:=bt) (A:=A) (dst:=some d) (ty:=ty) (pos:=pos) (aft:=aft) (gd:=none) (α:=α) (x:=x) (y:=y) (a:=a) (w:=w) hm0 h0 hb hm hl;exact⟨(),_,w.drawn,cs,e,h1,λ_ _=>.inl ⟨trivial,⟨by omega,h2.2.2.1⟩,rfl⟩,h2⟩
theorem Kn{b:Nat}{C:Ct}{pr:Prop} (hp:¬pr):Fb Ω (⟨b,pr,C⟩::Ω):=
 ⟨λk ⟨e,he,h1,h2⟩=>by
  rcases Xa1.1 he with rfl|he
  .exact absurd h1 hp
  .exact ⟨e,he,h1,h2⟩,λh=>XaO.2 ⟨λf _ h1=>absurd h1 hp,h⟩,λA w h e he h1=>by
  rcases Xa1.1 he with rfl|he
  .exact absurd h1 hp
  .exact h e he h1⟩
theorem Ro.sl{b:Nat}{pr:Prop}{o:Nat} (hp:¬pr):Ty.le Ro (Sl b pr o 0 0):=λ_ _ v h=>.inr ⟨hp,rfl,rfl,h⟩
class SrcOf(Ω:List Pe)(τ:Ty)(α:Type)(i:Dat α)(ys:outParam (List α)):Prop where
 h:∀{A w u},Pks A Ω w->τ.p A w u->Src A w u ys
instance {τ:Ty}{ys:List α}[hl:AsL τ α i ys]:SrcOf Ω τ α i ys:=⟨λ_ h=>ZbK (hl.le _ _ _ h)⟩
theorem Mq{τ:Ty}{b o n:Nat}{pr:Prop}{C:Ct}{ys:List α}{upd:List α->Ct}[k:AsSv τ b pr o n] [hb:HasB Ω b pr C] (p:PlS C o α i ys upd) (hn:n=ys.length):SrcOf Ω τ α i ys:=⟨λ{A w u} hk h=>by
 rcases k.le _ _ _ h with⟨hp,o',c,rfl,-,h2⟩|⟨hp,h1,rfl⟩
 .obtain ⟨cs,g1,g2⟩:=hk _ hb.h hp;rcases XbB n with h0|h0
  .subst h0;have:ys=[]:=XaI hn.symm;subst this;exact⟨_,c,rfl,λh=>absurd h (by simp)⟩
  .obtain rfl:=h2 h0;exact p.src g1 g2 hn
 .subst h1;have:ys=[]:=XaI hn.symm;subst this;exact⟨_,0,rfl,λh=>absurd h (by simp)⟩⟩
theorem SO[S:TSl P t e][T:TEl P e α i bt]{s x:Operand}{σ:Ty}{b m c c':Nat}{pr:Prop}{xs ys:List α}[hs:Has Γ s (Sl b pr 0 m c')] [sp:Pick Ω b pr (Row xs c) Ωr] [hx:Has Γ x σ] (hl:SrcOf (Ωs++Ω) σ α i ys)
  (hc:c'=c) (hm:m<=xs.length) (hn:(m+ys.length)*bt<=140737488355328) (hmo:m+ys.length<=LG) :
  OpT P B Ωs Ω Γ ⟨some d,.call { callee:=.builtin .append,args:=#[s,x],argTypes:=#[t,t] },ty,pos,aft,none⟩ (λg:Nat×Prop×Nat=>Sl g.1 g.2.1 0 (xs.take m++ys).length g.2.2) λg=>⟨g.1,g.2.1,Row (xs.take m++ys) g.2.2⟩::Ωr:=by
 subst hc;refine OpT.frame (Ωt:=[⟨b,pr,Row xs c'⟩]) (Ω':=λg:Nat×Prop×Nat=>[⟨g.1,g.2.1,Row (xs.take m++ys) g.2.2⟩]) sp.perm ⟨rfl,λA0 a w hB hu ho ha hk hlv=>?_⟩;have hp1:(Ωs++Ω).Perm ((Ωs++Ωr)++[⟨b,pr,Row xs c'⟩]):=by
  rw[XaM];exact(sp.perm.trans (show(([⟨b,pr,Row xs c'⟩]:List Pe)++Ωr).Perm (Ωr++[⟨b,pr,Row xs c'⟩])from XcO)).append_left _
 have hk0:Pks (Pub A0 ((Ωs++Ωr)++[⟨b,pr,Row xs c'⟩])) (Ωs++Ω) w:=λe he=>hk e (hp1.mem_iff.1 he)
 have h1:=hs.le a _ w λt ht=>hlv t (by simp[Xae,XaE,<-ht])
 have h2:=hl.h hk0 (hx.le a _ w λt ht=>hlv t (by simp[Xae,XaE,<-ht]));have hml:(xs.take m).length=m:=by simp;omega
 have hv:(a.eval s=.slice none 0 0/\xs.take m=[])\/∃c cs,a.eval s=.slice (some ⟨b,0,none⟩) (xs.take m).length c/\Blk w b cs/\(Row (xs.take m) c).p (Pub A0 ((Ωs++Ωr)++[⟨b,pr,Row xs c'⟩])) w cs:=by
  rcases h1 with⟨hp,-,h1⟩|⟨hp,h1,h1',h1''⟩
  .obtain ⟨cs,g1,g2⟩:=hk ⟨b,pr,Row xs c'⟩ (by simp) hp;exact .inr ⟨c',cs,by rw[h1,hml],g1,Row.take g2 hm⟩
  .exact .inl ⟨h1'',XaI (by omega)⟩
 obtain⟨v',w',r1,r2⟩:=VH (P:=P) (t:=t) (e:=e) (bt:=bt) (ty:=ty) hv h2 (by rw[hml];exact hn) (by rw[hml];exact hmo);rw[TL r1];have hap1:=(XaH.1 ha).1;have hlt:∀j,Own (Ωs++Ωr) j->j<w.heap.size:=λj hj=>(Bz.1 hk).1.lt hj
 rcases r2 with⟨hy,rfl,rfl⟩|r2|⟨c2,cs,news,e1,e2,e3,e4,e5,e6,e7,e8,e9,e10⟩
 .refine ⟨(b,pr,c'),Stp.refl _ _ _,λk ⟨f,hf,h3,h4⟩=>?_,?_,?_,λf hf hfp=>?_⟩
  .obtain rfl:=Xal.1 hf;exact .inl ⟨_,Xal.2 rfl,h3,h4⟩
  .refine XaH.2 ⟨hap1,Xcx _ _,λx hx y hy h3 h4=>?_⟩;obtain rfl:=Xal.1 hy;exact(XaH.1 ha).2.2 x hx ⟨b,pr,Row xs c'⟩ (Xal.2 rfl) h3 h4
  .rw [hy,XaX,hml];exact h1
  .obtain rfl:=Xal.1 hf;obtain⟨cs,g1,g2⟩:=hk ⟨b,pr,Row xs c'⟩ (by simp) hfp;refine⟨cs,g1,?_⟩;have:=Row.take g2 hm;rw[hy,XaX];exact(Row (xs.take m) c').keep (HD.mono λj _ hj=>ZC.2 ⟨(ZC.1 hj).1,λhoj=>(ZC.1 hj).2 (by
    rcases ZV.1 hoj with h|⟨f,hf,h3,h4⟩
    .exact ZV.2 (.inl h)
    .obtain rfl:=Xal.1 hf;exact ZV.2 (.inr ⟨_,Xal.2 rfl,h3,h4⟩))⟩) this
 .obtain ⟨c2,cs,q,el,rfl,rfl,f3⟩:=r2;have hgr:KP B w (({ w with drawn:=q }:World).alloc (.cells cs.toArray el)):=(KP.drawn q).trans (KP.push _ hB);have hkp:HD (Pub A0 ((Ωs++Ωr)++[⟨b,pr,Row xs c'⟩])) (Pub A0 ((Ωs++Ωr)++[⟨w.heap.size,True,Row (xs.take m++ys) c2⟩])) w (({ w with drawn:=q }:World).alloc (.cells cs.toArray el)):=by
   refine⟨hgr.size,λj hj hp=>⟨ZC.2 ⟨(ZC.1 hp).1,λhoj=>?_⟩,hgr.cells j hj⟩⟩;rcases ZV.1 hoj with h|⟨f,hf,h3,h4⟩
   .exact (ZC.1 hp).2 (ZV.2 (.inl h))
   .obtain rfl:=Xal.1 hf;simp at h4;omega
  refine⟨(w.heap.size,True,c2),(Er hgr),λk ⟨f,hf,_,h4⟩=>?_,?_,.inl ⟨trivial,⟨f3.2.1,f3.2.2.1⟩,rfl⟩,λf hf _=>?_⟩
  .obtain rfl:=Xal.1 hf;right;simp at h4;omega
  .refine XaH.2 ⟨hap1,Xcx _ _,λx hx y hy h3 _ h4=>?_⟩;obtain rfl:=Xal.1 hy;have:=hlt _ ⟨x,hx,h3,rfl⟩;simp at h4;omega
  .obtain rfl:=Xal.1 hf;exact⟨cs,Blk.new rfl,(Row (xs.take m++ys) c2).keep hkp f3⟩
 .rcases h1 with⟨hp,-,h1⟩|⟨hp,h1,h1',h1''⟩
  .have hcc:c2=c':=by rw[h1]at e1;injection e1 with _ _ e;exact e.symm
   subst hcc;have hm1:Mut (Own [⟨b,pr,Row xs c2⟩]) w w':=e8.mono λk e=>⟨_,Xal.2 rfl,hp,e.symm⟩
   have hav:∀j,Pub A0 ((Ωs++Ωr)++[⟨b,pr,Row xs c2⟩]) j->¬j=b:=λj hj h=>(ZC.1 hj).2 (ZV.2 (.inr ⟨_,Xal.2 rfl,hp,h.symm⟩))
   have hkp:HD (Pub A0 ((Ωs++Ωr)++[⟨b,pr,Row xs c2⟩])) (Pub A0 ((Ωs++Ωr)++[⟨b,pr,Row (xs.take m++ys) c2⟩])) w w':=by
    refine⟨e8.size,λj hj hpj=>⟨ZC.2 ⟨(ZC.1 hpj).1,λhoj=>(ZC.1 hpj).2 ?_⟩,by rw[e8.same j hj (hav j hpj)];exact DQ.refl _⟩⟩;rcases ZV.1 hoj with h|⟨f,hf,h3,h4⟩
    .exact ZV.2 (.inl h)
    .obtain rfl:=Xal.1 hf;exact ZV.2 (.inr ⟨_,Xal.2 rfl,h3,h4⟩)
   refine⟨(b,pr,c2),M6 hm1 hB,λk ⟨f,hf,h3,h4⟩=>?_,?_,.inl ⟨hp,⟨by rw[XaD];exact e2,e6.2.2.1⟩,by rw[e4,XaD]⟩,λf hf hfp=>?_⟩
   .obtain rfl:=Xal.1 hf;exact .inl ⟨_,Xal.2 rfl,h3,h4⟩
   .refine XaH.2 ⟨hap1,Xcx _ _,λx hx y hy h3 h4=>?_⟩;obtain rfl:=Xal.1 hy;exact(XaH.1 ha).2.2 x hx ⟨b,pr,Row xs c2⟩ (Xal.2 rfl) h3 h4
   .obtain rfl:=Xal.1 hf;refine⟨_,e7,(Row (xs.take m++ys) c2).keep hkp ?_⟩;have h7:=Row.splice (k:=(xs.take m).length) e6 e10 e9 (Xau _) e2 (by rw[hml];exact hmo);unfold splice at h7
    rwa [XaB (Xau _),Xa7 (by omega),XaX]at h7
  .rw [h1'']at e1;cases e1
theorem OpT.append[S:TSl P t e][T:TEl P e α i bt]{s x:Operand}{σ:Ty}{b m c c':Nat}{pr:Prop}{xs ys:List α}[hs:Has Γ s (Sl b pr 0 m c')] [sp:Pick Ω b pr (Row xs c) Ωr] [hx:Has Γ x σ] (hl:SrcOf (Ωs++Ω) σ α i ys)
  (hc:c'=c) (hm:m=xs.length) (hn:(xs.length+ys.length)*bt<=140737488355328) (hmo:xs.length+ys.length<=LG) :
  OpT P B Ωs Ω Γ ⟨some d,.call { callee:=.builtin .append,args:=#[s,x],argTypes:=#[t,t] },ty,pos,aft,none⟩ (λg:Nat×Prop×Nat=>Sl g.1 g.2.1 0 (xs++ys).length g.2.2) λg=>⟨g.1,g.2.1,Row (xs++ys) g.2.2⟩::Ωr:=by
 have:=SO (P:=P) (B:=B) (Ωs:=Ωs) (Ω:=Ω) (Ωr:=Ωr) (Γ:=Γ) (d:=d) (ty:=ty) (pos:=pos) (aft:=aft) (t:=t) (e:=e) (s:=s) (x:=x) (b:=b) (pr:=pr) (m:=m) (xs:=xs) (ys:=ys) (c:=c) (c':=c') hl hc (by omega) (by rw[hm];exact hn) (by rw[hm];exact hmo);subst hm;rw[XaB (Xau _)]at this;exact this
end ops
theorem VE{cs a:List Value}{o r:Nat} (h:o+a.length+r<=cs.length):Ab cs o (a++seg cs (o+a.length) r)=Ab cs o a:=by
 have hs:(seg cs (o+a.length) r).length=r:=ZA h;refine AV (by rw[Zp (by simp[hs];omega),Zp (by omega)]) λj hj=>?_
 rw[Zp (by simp[hs];omega)]at hj;rw[ZT (by simp[hs];omega),ZT (by omega)];simp only[XaD,hs]
 by_cases h1:o<=j/\j<o+a.length
 .rw [if_pos (by omega),if_pos h1];simp only[Xad];rw[XcW (by omega)]
 .rw [if_neg h1]
  split
  .rename_i h2
   have e:(a++seg cs (o+a.length) r).getD (j-o) undef=(seg cs (o+a.length) r).getD (j-o-a.length) undef:=by
    simp only[Xad];rw[XbK (by omega)]
   rw[e,Al (by omega)];congr 1;omega
  .rfl
theorem A7.append{α:Type}[Dat α] {A:Nat->Prop}{w:World}{cs ds:List Value}{xs ys:List α} (h:A7 A w cs xs) (g:A7 A w ds ys) (hl:cs.length=xs.length*Dat.sz α):A7 A w (cs++ds) (xs++ys):=λj hj=>by
 simp only[XaD]at hj;rcases Xbd j xs.length with h1|h1
 .have hle:j*Dat.sz α+Dat.sz α<=cs.length:=by rw[hl,<-XaF];exact Xah _ (by omega)
  rw[LR hle,XbT h1];exact h j h1
 .have e1:j*Dat.sz α=cs.length+(j-xs.length)*Dat.sz α:=by rw[hl,<-Xa6];congr 1;omega
  have e2:seg (cs++ds) (cs.length+(j-xs.length)*Dat.sz α) (Dat.sz α)=seg ds ((j-xs.length)*Dat.sz α) (Dat.sz α):=by
   unfold seg;rw[<-XdR,List.drop_left]
  rw[e1,e2,Xca h1];exact g _ (by omega)
def over{α:Type}(xs ys:List α):List α:=ys.take xs.length++xs.drop ys.length
theorem UG{α:Type}{xs ys:List α}:(over xs ys).length=xs.length:=by unfold over;simp;omega
theorem PlS.over{α:Type}{i:Dat α}{C:Ct}{o:Nat}{xs:List α}{upd:List α->Ct} (p:PlS C o α i xs upd) {A:Nat->Prop}{w:World}{cs news:List Value}{ys:List α} (hc:C.p A w cs) (hn:news.length=ys.length*Dat.sz α) (he:A7 A w news ys) :
  o+(news.take (min ys.length xs.length*Dat.sz α)).length<=cs.length/\(upd (Tr.over xs ys)).p A w (Ab cs o (news.take (min ys.length xs.length*Dat.sz α))):=by
 obtain⟨h1,h2⟩:=p.rd hc;have hk:min ys.length xs.length<=ys.length:=XgD _ _;have hk2:min ys.length xs.length<=xs.length:=Nat.min_le_right _ _;have hl:(news.take (min ys.length xs.length*Dat.sz α)).length=min ys.length xs.length*Dat.sz α:=by rw[Xa5,hn];exact XaY (Xah _ hk)
 have hle:min ys.length xs.length*Dat.sz α<=xs.length*Dat.sz α:=Xah _ hk2;have hsub:xs.length*Dat.sz α=min ys.length xs.length*Dat.sz α+(xs.length-min ys.length xs.length)*Dat.sz α:=by rw[<-Xa6];congr 1;omega
 refine⟨by omega,?_⟩;have hfit:o+(news.take (min ys.length xs.length*Dat.sz α)).length+(xs.length-min ys.length xs.length)*Dat.sz α<=cs.length:=by omega
 rw[<-VE hfit];have hov:Tr.over xs ys=ys.take (min ys.length xs.length)++xs.drop (min ys.length xs.length):=by
  unfold Tr.over;rcases XcV ys.length xs.length with h|h
  .rw [XaY h,XaB h,XaB (Xau _)]
  .rw [Xcn h,Xa7 h,Xa7 (Xau _)]
 rw[hov];refine p.st _ (by simp;omega) hc (by
  have h9:(ys.take (min ys.length xs.length)++xs.drop (min ys.length xs.length)).length=xs.length:=by simp;omega
  rw[h9,XaD,ZA hfit,hl];omega) ?_
 refine A7.append (he.take hn hk) ?_ (by rw[hl,Xa5];congr 1;omega);have h3:=h2.drop (m:=min ys.length xs.length) (by rw[ZA h1];exact Xau _);have e:(seg cs o (xs.length*Dat.sz α)).drop (min ys.length xs.length*Dat.sz α)=seg cs (o+(news.take (min ys.length xs.length*Dat.sz α)).length) ((xs.length-min ys.length xs.length)*Dat.sz α):=by
  unfold seg;rw[hl,List.drop_take,XdR];congr 1;omega
 rw[e]at h3;exact h3
section ops
variable {P:Program}{B:Nat}{Ωs Ω Ωr:List Pe}{Γ:Env}{dst:Option Tmp}{ty:TypeId}{pos:String}{aft:Array Edge}
variable {α:Type}{i:Dat α}{t u e:TypeId}{bt:Nat}
def Zgv(P:Program)(o:Oper)(a:Act)(w:World)(v:Value)(w':World):Prop:=(execOp a.eval o).run P w=.ok (.value v) w'\/((execOp a.eval o).run P w=.ok .skip w'/\v=undef)
theorem Zgv.yields{P:Program}{B:Nat}{A0:Nat->Prop}{Ωs Ωt:List Pe}{ν:Type}{τ:ν->Ty}{Ω':ν->List Pe}{o:Oper}{a:Act}{w w':World}{v:Value} (h:Zgv P o a w v w') (g:ν) (k:Aft B A0 Ωs Ωt (τ g) (Ω' g) w w' v):Ge P B A0 Ωs Ωt τ Ω' w ((execOp a.eval o).run P w):=by
 rcases h with h|⟨h,rfl⟩<;>rw[h]<;>exact⟨g,k⟩
theorem O9{o:Oper}{b:Nat}{pr:Prop}{C C':Ct}{τ:Ty}[pk:Pick Ω b pr C Ωr] (hg:o.guard=none)
  (h:∀(A:Nat->Prop) (a:Act) (w:World),Pks A (Ωs++Ω) w->(∀t,.tmp t∈o.op.operands.toList->(Γ t).p A w (a.tmps.getD t undef))->
   ∃v,(∀A w,τ.p A w v)/\((Zgv P o a w v w/\∀A cs,pr->C.p A w cs->C'.p A w cs)\/
    pr/\∃w' cs cs',Zgv P o a w v w'/\Blk w b cs/\Blk w' b cs'/\Mut (λk=>k=b) w w'/\C'.p A w cs')) :
  OpT P B Ωs Ω Γ o (λ_:Unit=>τ) λ_=>⟨b,pr,C'⟩::Ωr:=by
 refine OpT.frame (Ωt:=[⟨b,pr,C⟩]) (Ω':=λ_=>[⟨b,pr,C'⟩]) pk.perm ⟨hg,λA0 a w hB hu ho ha hk hl=>?_⟩;have hp1:(Ωs++Ω).Perm ((Ωs++Ωr)++[⟨b,pr,C⟩]):=by
  rw[XaM];exact(pk.perm.trans (show(([⟨b,pr,C⟩]:List Pe)++Ωr).Perm (Ωr++[⟨b,pr,C⟩])from XcO)).append_left _
 have hown:∀k,Own ((Ωs++Ωr)++[⟨b,pr,C'⟩]) k↔Own ((Ωs++Ωr)++[⟨b,pr,C⟩]) k:=λk=>by
  rw[ZV (Ω:=Ωs++Ωr),ZV (Ω:=Ωs++Ωr)]
  constructor
  .rintro (h|⟨e,he,h1,h2⟩)
   .exact .inl h
   .obtain rfl:=Xal.1 he;exact .inr ⟨_,Xal.2 rfl,h1,h2⟩
  .rintro (h|⟨e,he,h1,h2⟩)
   .exact .inl h
   .obtain rfl:=Xal.1 he;exact .inr ⟨_,Xal.2 rfl,h1,h2⟩
 have hpub:Pub A0 ((Ωs++Ωr)++[⟨b,pr,C'⟩])=Pub A0 ((Ωs++Ωr)++[⟨b,pr,C⟩]):=by
  funext k;exact propext (by rw[ZC,ZC,hown])
 have hap:Gh ((Ωs++Ωr)++[⟨b,pr,C'⟩]):=XaH.2 ⟨(XaH.1 ha).1,Xcx _ _,λx hx y hy h1 h2=>by
  obtain rfl:=Xal.1 hy;exact(XaH.1 ha).2.2 x hx ⟨b,pr,C⟩ (Xal.2 rfl) h1 h2⟩
 have hnw:∀k,Own [⟨b,pr,C'⟩] k->Own [⟨b,pr,C⟩] k\/w.heap.size<=k:=λk ⟨e,he,h1,h2⟩=>by
  obtain rfl:=Xal.1 he;exact .inl ⟨_,Xal.2 rfl,h1,h2⟩
 obtain⟨v,hv,⟨h1,h2⟩|⟨hpr,w',cs,cs',h1,h2,h3,h4,h5⟩⟩:=h (Pub A0 ((Ωs++Ωr)++[⟨b,pr,C⟩])) a w (λe he=>hk e (hp1.mem_iff.1 he)) hl
 .refine h1.yields () ⟨Stp.refl _ _ _,hnw,hap,hv _ _,λe he hp=>?_⟩;obtain rfl:=Xal.1 he;obtain⟨cs,g1,g2⟩:=hk ⟨b,pr,C⟩ (by simp) hp;rw[hpub];exact⟨cs,g1,h2 _ _ hp g2⟩
 .have hm:Mut (Own [⟨b,pr,C⟩]) w w':=h4.mono λk e=>⟨_,Xal.2 rfl,hpr,e.symm⟩
  have hkp:HD (Pub A0 ((Ωs++Ωr)++[⟨b,pr,C⟩])) (Pub A0 ((Ωs++Ωr)++[⟨b,pr,C⟩])) w w':=h4.keep λk hk e=>(ZC.1 hk).2 (ZV.2 (.inr ⟨_,Xal.2 rfl,hpr,e.symm⟩))
  refine h1.yields () ⟨M6 hm hB,hnw,hap,hv _ _,λe he _=>?_⟩;obtain rfl:=Xal.1 he;rw[hpub];exact⟨_,h3,C'.keep hkp h5⟩
theorem Dk[S:TSl P t e][T:TEl P e α i bt]{x y:Operand}{τ σ:Ty}{b o m:Nat}{pr:Prop}{C:Ct}{xs ys:List α}{upd:List α->Ct}[hx:Has Γ x τ] [ka:AsSv τ b pr o m] [pk:Pick Ω b pr C Ωr] [hy:Has Γ y σ] (hs:SrcOf (Ωs++Ω) σ α i ys) (p:PlS C o α i xs upd) (hm:m=xs.length) (hnil:pr->xs=[]->upd []=C) :
  OpT P B Ωs Ω Γ ⟨dst,.call { callee:=.builtin .copy,args:=#[x,y],argTypes:=#[t,u] },ty,pos,aft,none⟩ (λ_:Unit=>I (min ys.length xs.length:Nat)) λ_=>⟨b,pr,upd (over xs ys)⟩::Ωr:=
 O9 (C:=C) rfl λA a w hk hl=>by
  obtain⟨ti,z,hi1,hi2,hi3,hi4,hi5⟩:=T.h;have h1:=ka.le _ _ _ (hx.le a _ w λt ht=>hl t (by simp[Xae,XaE,<-ht]));have h2:=hs.h hk (hy.le a _ w λt ht=>hl t (by simp[Xae,XaE,<-ht]));obtain⟨ad,c,news,e2,hn,he,hf⟩:=h2.cells (P:=P);refine⟨.int .i64 (min ys.length xs.length:Nat),λ_ _=>rfl,?_⟩;rcases h1 with⟨hp,o',c',e1,-,ho⟩|⟨hp,h0,e1⟩
  .obtain ⟨cs,g1,g2⟩:=hk ⟨b,pr,C⟩ (XaL _ (pk.perm.mem_iff.2 (Xay ..))) hp;rcases XbB m with h0|h0
   .left
    have hx0:xs=[]:=XaI (by omega);refine⟨.inl ?_,λA cs hp hc=>?_⟩
    .have hf0:=hf 0 (Xcq _);simp only[Xc7,Xdk]at hf0;rw[hi3.symm,e2]at hf0;subst hx0;simp[execOp,resolve,invoke,builtin,Xe3,e1,e2,h0,run_underlying S.h,XcT,sizeOf,typeInfo,hi1,hf0,storeCells,goInt]
    .subst hx0;have:over [] ys=[]:=by unfold over;simp
     rw[this,hnil hp rfl];exact hc
   .right
    obtain rfl:=ho h0;obtain⟨k1,k2⟩:=p.over g2 hn he;have hmin:min ys.length xs.length<=ys.length:=XgD _ _;have hsc:∀v∈news.take (min ys.length xs.length*Dat.sz α),v.oneCell'=true:=λv hv=>(he.scal hn) v (List.mem_of_mem_take hv)
    obtain⟨w',r1,r2,r3,r4⟩:=Bp (P:=P) g1 k1 hsc;refine⟨hp,w',cs,_,.inl ?_,g1,r2,r3,k2⟩;have hf0:=hf _ hmin;have emin:Nat.min ys.length m=min ys.length xs.length:=by rw[hm]
    rw[e2]at hf0;have r1':(storeCells ⟨b,o',none⟩ (news.take (min ys.length xs.length*Dat.sz α)).toArray.toList).run P w=.ok () w':=by simpa using r1
    simp only[execOp,resolve,invoke,builtin,Xe3,e1,e2,Xb0,Xbl,Xcy,Xag,Xai,Xab,Xek,List.getElem?_cons_zero,List.getElem?_cons_succ,run_underlying S.h,XcT,T.d.sz,emin,hf0,r1',goInt]
  .left
   have hx0:xs=[]:=XaI (by omega);refine⟨.inl ?_,λA cs hp' _=>absurd hp' hp⟩;have hf0:=hf 0 (Xcq _);simp only[Xc7,Xdk]at hf0;rw[hi3.symm,e2]at hf0;subst hx0;simp[execOp,resolve,invoke,builtin,Xe3,e1,e2,run_underlying S.h,XcT,sizeOf,typeInfo,hi1,hf0,goInt]
theorem T7[S:TSl P t e][T:TEl P e α i bt]{x:Operand}{τ:Ty}{b o m:Nat}{pr:Prop}{C:Ct}{xs:List α}{upd:List α->Ct}[hx:Has Γ x τ] [ka:AsSv τ b pr o m] [pk:Pick Ω b pr C Ωr] (p:PlS C o α i xs upd) (hm:m=xs.length) (hnil:pr->xs=[]->upd []=C) :
  OpT P B Ωs Ω Γ ⟨dst,.call { callee:=.builtin .clear,args:=#[x],argTypes:=#[t] },ty,pos,aft,none⟩ (λ_:Unit=>Ty.any) λ_=>⟨b,pr,upd (Xac m (Dat.z (α:=α)))⟩::Ωr:=
 O9 (C:=C) rfl λA a w hk hl=>by
  obtain⟨ti,z,hi1,hi2,hi3,hi4,hi5⟩:=T.h;have h1:=ka.le _ _ _ (hx.le a _ w λt ht=>hl t (by simp[Xae,XaE,<-ht]));refine⟨.tuple #[],λ_ _=>trivial,?_⟩;rcases h1 with⟨hp,o',c',e1,-,ho⟩|⟨hp,h0,e1⟩
  .obtain ⟨cs,g1,g2⟩:=hk ⟨b,pr,C⟩ (XaL _ (pk.perm.mem_iff.2 (Xay ..))) hp;rcases XbB m with h0|h0
   .left
    have hx0:xs=[]:=XaI (by omega);refine⟨.inl ?_,λA cs hp hc=>by rw[h0,List.replicate_zero,hnil hp hx0];exact hc⟩;simp[execOp,resolve,invoke,builtin,XeQ,e1,h0,run_underlying S.h]
   .right
    obtain rfl:=ho h0;have hzl:z.cells.size=Dat.sz α:=by rw[hi5];simpa using Dw α
    have hz:(XaT z.cells m).toList.length=m*Dat.sz α:=by rw[Array.length_toList,size_zeroCells,hzl]
    have he:A7 A w (XaT z.cells m).toList (Xac m (Dat.z (α:=α))):=λj hj=>by
     simp only[XaK]at hj;have e2:seg (XaT z.cells m).toList (j*Dat.sz α) (Dat.sz α)=Dat.zc α:=by
      have hle:j*Dat.sz α+Dat.sz α<=m*Dat.sz α:=by rw[<-XaF];exact Xah _ (by omega)
      have hzc:(Dat.zc α).length=Dat.sz α:=Dw α;refine AV (by rw[ZA (by omega),hzc]) λq hq=>?_
      rw[ZA (by omega)]at hq;rw[Al hq];have h3:j*Dat.sz α+q<m*Dat.sz α:=by omega
      have h4:(j*Dat.sz α+q)%Dat.sz α=q:=by rw[Xbb,XgB,Xcd hq]
      have h5:(XaT z.cells m).toList.getD (j*Dat.sz α+q) undef=z.cells[(j*Dat.sz α+q)%z.cells.size]!:=by
       simp[XaT,Xad,hzl,h3]
      rw[h5,hzl,h4,hi5,getElem!_pos _ _ (by simpa[hzc]using hq)];simp[Xad,hzc,hq]
     rw[e2,Xbs];exact Dat.zrd
    have hf:=(p.rd g2).1;obtain⟨w',r1,r2,r3,r4⟩:=Bp (P:=P) g1 (o:=o') (vs:=(XaT z.cells m).toList) (by rw[hz,hm];exact hf) (he.scal (by rw[hz,XaK]));refine⟨hp,w',cs,_,.inl ?_,g1,r2,r3,p.st _ (by rw[XaK,hm]) g2 (by rw[hz,XaK]) he⟩;obtain⟨m',rfl⟩:∃m',m=m' + 1:=⟨m-1,by omega⟩;simp[execOp,resolve,invoke,builtin,XeQ,e1,run_underlying S.h,zeroValue,typeInfo,hi1,hi2,r1]
  .left
   have hx0:xs=[]:=XaI (by omega);refine⟨.inl ?_,λA cs hp' _=>absurd hp' hp⟩;simp[execOp,resolve,invoke,builtin,XeQ,e1,h0,run_underlying S.h]
end ops
section rd
variable {P:Program}{B0:Nat}{A:Nat->Prop}{Ω:List Pe}{Γ:Env}{dst:Option Tmp}{ty:TypeId}{pos:String}{aft:Array Edge}{gd:Option (Nat×Bool)}
variable {α:Type}{i:Dat α}{t e:TypeId}{bt:Nat}
theorem Yv{x:Operand}{τ:Ty}{b o m:Nat}{pr:Prop}[hx:Has Γ x τ] [ka:AsSv τ b pr o m] [S:TSl P t e] :
  OpY P B0 A Ω Γ ⟨dst,.call { callee:=.builtin .len,args:=#[x],argTypes:=#[t] },ty,pos,aft,gd⟩ (I m):=
 OpY.val λa w hl=>by
  have h:=ka.le _ _ _ (Zy (x:=x) (τ:=τ) (op:=.call { callee:=.builtin .len,args:=#[x],argTypes:=#[t] }) (by simp[Xae,XaE]) hl);rcases h with⟨_,o',c,e1,_⟩|⟨_,rfl,e1⟩
  .exact ⟨.int .i64 m,by simp[execOp,resolve,invoke,builtin,e1,Xev,run_underlying S.h,goInt],rfl⟩
  .exact ⟨.int .i64 0,by simp[execOp,resolve,invoke,builtin,e1,Xev,run_underlying S.h,goInt],rfl⟩
theorem E8[S:TSl P t e][T:TDat P e α i]{x z:Operand}{ρ:Ty}{b m c:Nat}{pr:Prop}{r:Int}[hx:Has Γ x (Sl b pr 0 m c)] [Has Γ z ρ] [hz:AsI ρ r] (h1:0<=r) (h2:r<=m) :
  OpY P B0 A Ω Γ ⟨dst,.slice t x none (some z) none,ty,pos,aft,gd⟩ (Sl b pr 0 r.toNat c):=
 OpY.val λa w hl=>by
  have h:=Zy (x:=x) (τ:=Sl b pr 0 m c) (op:=.slice t x none (some z) none) (by simp[Xae]) hl;have ez:a.eval z=.int .i64 r:=hz.le _ _ _ (Zy (x:=z) (τ:=ρ) (op:=.slice t x none (some z) none) (by simp[Xae]) hl);rcases h with⟨hp,hmc,ex⟩|⟨hp,rfl,rfl,ex⟩
  .refine ⟨.slice (some ⟨b,0,none⟩) r.toNat c,?_,.inl ⟨hp,⟨by omega,hmc.2⟩,rfl⟩⟩;have c1:0<=r/\r<=(c:Int):=by omega
   simp only[execOp,ex,ez,Xbk,XbY,Xbj,XbI,Xag,run_underlying S.h,Xab,Xa2,Xa8,asIntOf,Xai,c1,and_self,if_true,T.sz,XgU,Xc7,Bf,Xbw,Xbj,ite_self]
  .have hr:r=0:=by omega
   subst hr;refine⟨.slice none 0 0,?_,.inr ⟨hp,rfl,rfl,rfl⟩⟩;simp[execOp,ex,ez,Xbk,XbY,run_underlying S.h,Xa2,Xa8,asIntOf,T.sz]
section sv
variable {x y z:Operand}{τ σ ρ:Ty}{b o m:Nat}{pr:Prop}{l r:Int}
theorem Sv.cut{o' c:Nat}{v:Value} (hp:pr) (hmc:m<=c/\c<=maxLen) (ho:0<m->o'=o) (h0:0<=l) (h1:l<=r) (h2:r<=m) (hv:v=.slice (if c=l.toNat then some ⟨b,o',none⟩else some ⟨b,o' + l.toNat*Dat.sz α,none⟩) (r.toNat-l.toNat) (c-l.toNat)) {A:Nat->Prop}{w:World} :
  (Sv b pr (o+l.toNat*Dat.sz α) (r-l).toNat).p A w v:=by
 left
 refine⟨hp,if c=l.toNat then o' else o' + l.toNat*Dat.sz α,c-l.toNat,?_,⟨by omega,by omega⟩,λh=>?_⟩
 .rw [hv,show(r-l).toNat=r.toNat-l.toNat by omega];split<;>rfl
 .rw [if_neg (by omega),ho (by omega)]
theorem Ns[S:TSl P t e][T:TDat P e α i][hx:Has Γ x τ][ka:AsSv τ b pr o m][Has Γ y σ][hy:AsI σ l][Has Γ z ρ][hz:AsI ρ r](h0:0<=l)(h1:l<=r)(h2:r<=m) :
  OpY P B0 A Ω Γ ⟨dst,.slice t x (some y) (some z) none,ty,pos,aft,gd⟩ (Sv b pr (o+l.toNat*Dat.sz α) (r-l).toNat):=
 OpY.val λa w hl=>by
  have h:=ka.le _ _ _ (Zy (x:=x) (τ:=τ) (op:=.slice t x (some y) (some z) none) (by simp[Xae]) hl);have ey:a.eval y=.int .i64 l:=hy.le _ _ _ (Zy (x:=y) (τ:=σ) (op:=.slice t x (some y) (some z) none) (by simp[Xae]) hl);have ez:a.eval z=.int .i64 r:=hz.le _ _ _ (Zy (x:=z) (τ:=ρ) (op:=.slice t x (some y) (some z) none) (by simp[Xae]) hl);rcases h with⟨hp,o',c,ex,hmc,ho⟩|⟨hp,rfl,ex⟩
  .refine ⟨_,?_,Sv.cut hp hmc ho h0 h1 h2 rfl⟩;have c1:0<=r/\r<=(c:Int):=by omega
   have c2:0<=l/\l<=(r.toNat:Int):=by omega
   simp only[execOp,ex,ey,ez,Xbk,XbY,Xbj,XbI,Xag,run_underlying S.h,Xab,Xa2,Xa8,asIntOf,Xai,c1,c2,and_self,if_true,T.sz,Bf]
  .have hr:r=0:=by omega
   have hl0:l=0:=by omega
   subst hr;subst hl0;refine⟨.slice none 0 0,?_,.inr ⟨hp,rfl,rfl⟩⟩;simp[execOp,ex,ey,ez,Xbk,XbY,run_underlying S.h,Xa2,Xa8,asIntOf,T.sz]
theorem AZ[S:TSl P t e][T:TDat P e α i][hx:Has Γ x τ][ka:AsSv τ b pr o m][Has Γ y σ][hy:AsI σ l](h0:0<=l)(h1:l<=m) :
  OpY P B0 A Ω Γ ⟨dst,.slice t x (some y) none none,ty,pos,aft,gd⟩ (Sv b pr (o+l.toNat*Dat.sz α) ((m:Int)-l).toNat):=
 OpY.val λa w hl=>by
  have h:=ka.le _ _ _ (Zy (x:=x) (τ:=τ) (op:=.slice t x (some y) none none) (by simp[Xae]) hl);have ey:a.eval y=.int .i64 l:=hy.le _ _ _ (Zy (x:=y) (τ:=σ) (op:=.slice t x (some y) none none) (by simp[Xae]) hl);rcases h with⟨hp,o',c,ex,hmc,ho⟩|⟨hp,rfl,ex⟩
  .refine ⟨_,?_,Sv.cut (r:=(m:Int)) hp hmc ho h0 h1 (XaJ _) rfl⟩;have c2:0<=l/\l<=(m:Int):=by omega
   simp only[execOp,ex,ey,Xbk,XbY,Xbj,XbI,Xag,run_underlying S.h,Xab,Xa2,Xa8,asIntOf,Xai,c2,and_self,if_true,T.sz,Bf,Int.toNat_natCast]
  .have hl0:l=0:=by omega
   subst hl0;refine⟨.slice none 0 0,?_,.inr ⟨hp,rfl,rfl⟩⟩;simp[execOp,ex,ey,Xbk,XbY,run_underlying S.h,Xa2,Xa8,asIntOf,T.sz]
end sv
end rd
def Y5(C:Ct)(b:Nat)(pr:Prop)(τ σ:Ty):Prop:=∀(A:Nat->Prop) (w:World) (v:Value),(pr->A b/\∃cs,Blk w b cs/\C.p A w cs)->τ.p A w v->σ.p A w v
theorem Y5.refl{C:Ct}{b:Nat}{pr:Prop} (τ:Ty):Y5 C b pr τ τ:=λ_ _ _ _ h=>h
theorem ZJ{C:Ct}{b o n:Nat}{pr:Prop}{τ:Ty}{α:Type}{i:Dat α}{ys:List α}{upd:List α->Ct}[k:AsSv τ b pr o n] (p:PlS C o α i ys upd) (hn:n=ys.length):Y5 C b pr τ (D ys):=λA w v hb h=>by
 rcases k.le _ _ _ h with⟨hp,o',c,rfl,h1,h2⟩|⟨hp,h1,rfl⟩
 .obtain ⟨ha,cs,g1,g2⟩:=hb hp;obtain⟨e1,e2⟩:=p.rd g2;have hmo:=p.mo g2;refine⟨[_],⟨some ⟨b,o',none⟩,c,rfl,by omega,h1.2,hmo,λq hq=>⟨b,o',rfl,ha,seg cs (o+q*Dat.sz α) (Dat.sz α),?_,?_⟩⟩,by rw[hn];rfl⟩
  .obtain rfl:=h2 (by omega);refine g1.row ?_;have:q*Dat.sz α+Dat.sz α<=ys.length*Dat.sz α:=by rw[<-XaF];exact Xah _ (by omega)
   omega
  .have:=e2 q hq
   rwa [JL (by rw[<-XaF];exact Xah _ (by omega)) e1]at this
 .have:ys=[]:=XaI (by omega);subst this;exact Ro.le _ _ _ rfl
theorem Zef{C:Ct}{b o:Nat}{pr:Prop}{α:Type}{i:Dat α}{x:α}{upd:α->Ct} (p:Pl C o α i x upd) (hp:pr):Y5 C b pr (Pt b o) (K3 x):=λA w v hb h=>by
 obtain⟨ha,cs,g1,g2⟩:=hb hp;obtain⟨e1,e2⟩:=p.rd.h g2;exact⟨b,o,_,h,ha,g1.row e1,e2⟩
def ZeM(C:Ct)(b:Nat)(pr:Prop)(Γ Δ:Env):Prop:=∀t,Y5 C b pr (Γ t) (Δ t)
theorem ZeM.refl{C:Ct}{b:Nat}{pr:Prop}{Γ:Env}:ZeM C b pr Γ Γ:=λt=>Y5.refl _
theorem ZeM.set{C:Ct}{b:Nat}{pr:Prop}{Γ Δ:Env} (t:Tmp) {τ σ:Ty}[h:Has Γ (.tmp t) τ] (k:Y5 C b pr τ σ) (l:ZeM C b pr Γ Δ):ZeM C b pr Γ (Δ.set t σ):=λu A w v hb hv=>by
 unfold Env.set
 split
 .rename_i e;subst e;exact k A w v hb (h.at _ _ _ hv)
 .exact l u A w v hb hv
section pub
variable {P:Program}{r:Ref}{n:Nat}{Γ Δ:Env}{Ω Ωr:List Pe}{Q:Exit->Act->World->Prop}{ops:Array Oper}{k:Nat}{rest:List Oper}{C:Ct}{pr:Prop}
theorem Stt.pub{b:Nat}[op:Opens r] [pk:Pick Ω b pr C Ωr] (hΔ:ZeM C b pr Γ Δ) {a:Act}{w:World} (h:Stt r n Γ Ω a w):Stt r n Δ Ωr a w:=by
 have h:=h.less (Fb.perm pk.perm);have hl:Fb (⟨b,pr,C⟩::Ωr) Ωr:=Fb.drop (Fb.refl _);have h2:=h.less hl;refine⟨h2.sz,h2.df,h2.mu,λt=>hΔ t _ _ _ (λhp=>?_) (h2.ty t),h2.pv⟩;obtain⟨cs,g1,g2⟩:=h.pv.ks ⟨b,pr,C⟩ (Xay ..) hp;have hk:HD (Pub r.A (⟨b,pr,C⟩::Ωr)) (Pub r.A Ωr) w w:=HD.mono λj _ hj=>ZC.2 ⟨(ZC.1 hj).1,λho=>(ZC.1 hj).2 (hl.own j ho)⟩
 exact⟨ZC.2 ⟨op.h b (h.pv.own b ⟨_,Xay ..,hp,rfl⟩),λ⟨f,hf,hpf,hfb⟩=>(XaO.1 h.pv.ap).1 f hf hp hpf hfb.symm⟩,cs,g1,C.keep hk g2⟩
theorem TE.pub{e:Exit}(b:Nat)[op:Opens r][pk:Pick Ω b pr C Ωr](hΔ:ZeM C b pr Γ Δ)(h:TE r n Δ Ωr Q e):TE r n Γ Ω Q e:=λa w hs=>h a w (hs.pub hΔ)
theorem TS.pub(b:Nat)[op:Opens r][pk:Pick Ω b pr C Ωr](hΔ:ZeM C b pr Γ Δ)(h:TS P r n ops rest k Δ Ωr Q):TS P r n ops rest k Γ Ω Q:=λhl a w hs=>h hl a w (hs.pub hΔ)
theorem Zgr{c:Code}(b:Nat){C':Ct}[pk:Pick Ω b pr C Ωr] (h:∀A w cs,pr->C.p A w cs->C'.p A w cs) (k:TC P r n Γ (⟨b,pr,C'⟩::Ωr) c Q):TC P r n Γ Ω c Q:=λa w hs=>k a w ((hs.less (Fb.perm pk.perm)).less
 ⟨λj ⟨e,he,h1,h2⟩=>(by
  rcases Xa1.1 he with rfl|he
  .exact ⟨_,Xay ..,h1,h2⟩
  .exact ⟨e,Xaw _ he,h1,h2⟩),λhp=>XaO.2 ⟨λf hf h1 h2=>(XaO.1 hp).1 f hf h1 h2,(XaO.1 hp).2⟩,λA w hk e he h1=>by
  rcases Xa1.1 he with rfl|he
  .obtain ⟨cs,g1,g2⟩:=hk ⟨b,pr,C⟩ (Xay ..) h1;exact⟨cs,g1,h _ _ _ h1 g2⟩
  .exact hk e (Xaw _ he) h1⟩)
end pub
class NoPtr(τ:Ty):Prop where
 h:∀{A A':Nat->Prop}{w w':World}{v:Value},τ.p A w v->τ.p A' w' v
class Flat(α:Type)(i:Dat α):Prop where
 h:∀{A A':Nat->Prop}{w w':World}{cs:List Value}{x:α},Dat.rd A w cs x->Dat.rd A' w' cs x
instance :Flat Int inferInstance:=⟨λh=>h⟩
instance :Flat UInt32 inferInstance:=⟨λh=>h⟩
instance :Flat UInt64 inferInstance:=⟨λh=>h⟩
instance :Flat Bool inferInstance:=⟨λh=>h⟩
instance {α β:Type}{i:Dat α}{j:Dat β}[h:Flat α i] [k:Flat β j]:Flat (α×β) US:=⟨λ⟨h1,h2,h3⟩=>⟨h1,h.h h2,k.h h3⟩⟩
theorem Flat.iso{α β:Type}[i:Dat β] {f:α->β}{g:β->α}{h:∀y,f (g y)=y} (k:Flat β i):Flat α (Dat.iso f g h):=⟨λh=>k.h h⟩
instance {α:Type}{i:Dat α}{x:α}[h:Flat α i]:NoPtr (D x):=⟨λ⟨cs,h1,h2⟩=>⟨cs,h.h h1,h2⟩⟩
class NoPtrL(τs:List Ty):Prop where
 h:∀{A A':Nat->Prop}{w w':World}{v:Value} (i:Nat) (hi:i<τs.length),τs[i].p A w v->τs[i].p A' w' v
instance :NoPtrL []:=⟨λi hi=>absurd hi (by simp)⟩
instance {τ:Ty}{τs:List Ty}[h:NoPtr τ] [k:NoPtrL τs]:NoPtrL (τ::τs):=⟨λi hi hv=>by
 cases i with
 | zero=>exact h.h hv
 | succ i=>exact k.h i (by simpa using hi) hv⟩
instance {τs:List Ty}[h:NoPtrL τs]:NoPtr (Tup τs):=⟨λ⟨vs,h1,h2,h3⟩=>⟨vs,h1,h2,λi hi=>h.h i hi (h3 i hi)⟩⟩
def Zeo(A:Nat->Prop)(bs:List Nat)(k:Nat):Prop:=A k\/k∈bs
def WB(Ω:List Pe)(bs:List Nat)(τ σ:Ty):Prop:=∀(A:Nat->Prop) (w:World) (v:Value),Pks A Ω w->τ.p A w v->σ.p (Zeo A bs) w v
theorem Zeo.keep{A:Nat->Prop}{bs:List Nat}{w:World}:HD A (Zeo A bs) w w:=HD.mono λ_ _ h=>.inl h
theorem WB.d{Ω:List Pe}{bs:List Nat}{τ σ:Ty}[k:AsT τ σ]:WB Ω bs τ σ:=λA w v _ h=>Ty.keep σ Zeo.keep (k.le A w v h)
theorem Kp{Ω:List Pe}{bs:List Nat}{τ:Ty}{b o n:Nat}{pr:Prop}{C:Ct}{α:Type}{i:Dat α}{ys:List α}{upd:List α->Ct}[k:AsSv τ b pr o n] [hb:HasB Ω b pr C] (p:PlS C o α i ys upd) (hn:n=ys.length) (hbs:b∈bs):WB Ω bs τ (D ys):=λA w v hk h=>
 ZJ (τ:=τ) p hn _ w v (λhp=>⟨.inr hbs,by obtain⟨cs,g1,g2⟩:=hk _ hb.h hp;exact⟨cs,g1,C.keep Zeo.keep g2⟩⟩) (τ.keep Zeo.keep h)
theorem YU{Ω:List Pe}{bs:List Nat}{b o:Nat}{pr:Prop}{C:Ct}{α:Type}{i:Dat α}{x:α}{upd:α->Ct}[hb:HasB Ω b pr C] (p:Pl C o α i x upd) (hp:pr) (hbs:b∈bs):WB Ω bs (Pt b o) (K3 x):=λA w v hk h=>
 Zef p hp _ w v (λhp=>⟨.inr hbs,by obtain⟨cs,g1,g2⟩:=hk _ hb.h hp;exact⟨cs,g1,C.keep Zeo.keep g2⟩⟩) h
section call
variable {P:Program}{B0:Nat}{A:Nat->Prop}{Ω:List Pe}{Γ:Env}{dst:Option Tmp}{ty:TypeId}{pos:String}{aft:Array Edge}{gd:Option (Nat×Bool)}{f:FuncId}{ts:Array TypeId}{τ:Ty}
theorem Nw{xs:Array Operand}[F:Fun P f] [N:NoPtr τ] (bs:List Nat)
  (h:∀(A:Nat->Prop) (a:Act) w,(∀k,w.heap.size<=k->Zeo A bs k)->Pks A Ω w->(∀t,.tmp t∈xs.toList->(Γ t).p A w (a.tmps.getD t undef))->Calls P f (xs.map a.eval) w (Ret (Zeo A bs) w τ)) :
  OpY P B0 A Ω Γ ⟨dst,.call { callee:=.value (.func f),args:=xs,argTypes:=ts },ty,pos,aft,gd⟩ τ:=λa w hB hu hp hl=>by
 have hc:=h A a w (λk hk=>.inl (hu k hk)) hp λt ht=>hl t (by
  simp only[Xae,XaE,Array.toList_append,Xar];exact .inr ht)
 have hr:(execOp a.eval ⟨dst,.call { callee:=.value (.func f),args:=xs,argTypes:=ts },ty,pos,aft,gd⟩).run P w=.ok (.enter f (xs.map a.eval)) w:=by
  have e1:a.eval (.func f)=.func (.func f) #[] #[]:=rfl;simp only[execOp,resolve,XbG,e1,Xag,Xai,Xab,invoke,F.h,Array.append_empty,Array.empty_append]
 rw[hr];refine⟨KP.refl _ _,hc.mono λe w' h=>?_⟩;obtain⟨v,h1,h2,h3⟩:=h;exact⟨v,h1,h2.mono hB,N.h h3⟩
theorem GV{x1:Operand}{τ1 σ1:Ty}[h1:Has Γ x1 τ1] [F:Fun P f] [N:NoPtr τ] (bs:List Nat) (k1:WB Ω bs τ1 σ1)
  (h:∀{A:Nat->Prop} w v1,(∀k,w.heap.size<=k->A k)->σ1.p A w v1->Calls P f #[v1] w (Ret A w τ)) :
  OpY P B0 A Ω Γ ⟨dst,.call { callee:=.value (.func f),args:=#[x1],argTypes:=ts },ty,pos,aft,gd⟩ τ:=
 Nw bs λA a w hu hp hl=>by
  rw[show(#[x1].map a.eval)=#[a.eval x1]by simp];exact h w _ hu (k1 A w _ hp (h1.le a A w λt e=>hl t (by simp[e])))
theorem Dj{x1:Operand}{τ1 σ1:Ty}[h1:Has Γ x1 τ1] {x2:Operand}{τ2 σ2:Ty}[h2:Has Γ x2 τ2] [F:Fun P f] [N:NoPtr τ] (bs:List Nat) (k1:WB Ω bs τ1 σ1) (k2:WB Ω bs τ2 σ2)
  (h:∀{A:Nat->Prop} w v1 v2,(∀k,w.heap.size<=k->A k)->σ1.p A w v1->σ2.p A w v2->Calls P f #[v1,v2] w (Ret A w τ)) :
  OpY P B0 A Ω Γ ⟨dst,.call { callee:=.value (.func f),args:=#[x1,x2],argTypes:=ts },ty,pos,aft,gd⟩ τ:=
 Nw bs λA a w hu hp hl=>by
  rw[show(#[x1,x2].map a.eval)=#[a.eval x1,a.eval x2]by simp];exact h w _ _ hu (k1 A w _ hp (h1.le a A w λt e=>hl t (by simp[e]))) (k2 A w _ hp (h2.le a A w λt e=>hl t (by simp[e])))
end call
class Sel2(Ω:List Pe)(bs:List Nat)(Ωt Ωr:outParam (List Pe)):Prop where
 perm:Ω.Perm (Ωt++Ωr)
instance {Ω:List Pe}:Sel2 Ω [] [] Ω:=⟨List.Perm.refl _⟩
instance {Ω Ω1 Ωt Ωr:List Pe}{b:Nat}{bs:List Nat}{pr:Prop}{C:Ct}[h:Pick Ω b pr C Ω1] [k:Sel2 Ω1 bs Ωt Ωr]:Sel2 Ω (b::bs) (⟨b,pr,C⟩::Ωt) Ωr:=⟨h.perm.trans (k.perm.cons _)⟩
theorem LC{A:Nat->Prop}{Ω Ω':List Pe}:Pub (Pub A Ω) Ω'=Pub A (Ω++Ω'):=by
 funext k
 refine propext ?_;rw[ZC,ZC,ZC,ZV]
 constructor
 .rintro ⟨⟨h1,h2⟩,h3⟩;exact⟨h1,λh=>h.elim h2 h3⟩
 .rintro ⟨h1,h2⟩;exact⟨⟨h1,λh=>h2 (.inl h)⟩,λh=>h2 (.inr h)⟩
section callO
variable {P:Program}{B:Nat}{Ωs Ω Ωt Ωr:List Pe}{Γ:Env}{dst:Option Tmp}{ty:TypeId}{pos:String}{aft:Array Edge}{f:FuncId}{ts:Array TypeId}{ν:Type}{τ:ν->Ty}{Ω':ν->List Pe}
theorem Nc{xs:Array Operand}[F:Fun P f] (hp:Ω.Perm (Ωt++Ωr))
  (h:∀(A:Nat->Prop) (a:Act) w,(∀k,w.heap.size<=k->A k)->OwnIn A Ωt->Gh Ωt->Pks (Pub A Ωt) Ωt w->(∀t,.tmp t∈xs.toList->(Γ t).p (Pub A Ωt) w (a.tmps.getD t undef))->Calls P f (xs.map a.eval) w (M7 A w Ωt τ Ω')) :
  OpT P B Ωs Ω Γ ⟨dst,.call { callee:=.value (.func f),args:=xs,argTypes:=ts },ty,pos,aft,none⟩ τ λg=>Ω' g++Ωr:=by
 refine OpT.frame hp ⟨rfl,λA0 a w hB hu ho ha hk hl=>?_⟩;have hlt:∀j,Own (Ωs++Ωr) j->j<w.heap.size:=λj hj=>(Bz.1 hk).1.lt hj
 have hr:(execOp a.eval ⟨dst,.call { callee:=.value (.func f),args:=xs,argTypes:=ts },ty,pos,aft,none⟩).run P w=.ok (.enter f (xs.map a.eval)) w:=by
  have e1:a.eval (.func f)=.func (.func f) #[] #[]:=rfl;simp only[execOp,resolve,XbG,e1,Xag,Xai,Xab,invoke,F.h,Array.append_empty,Array.empty_append]
 rw[hr];have hc:=h (Pub A0 (Ωs++Ωr)) a w (λk hk=>ZC.2 ⟨hu k hk,λhj=>by have:=hlt k hj;omega⟩)
  ⟨λk hko=>ZC.2 ⟨ho k hko,λ⟨e,he,h1,h2⟩=>by
   obtain⟨f,hf,h3,h4⟩:=hko;exact(XaH.1 ha).2.2 e he f hf h1 h3 (h2.trans h4.symm)⟩⟩
  (XaH.1 ha).2.1 (by rw[LC];exact(Bz.1 hk).2) (λt ht=>by
   rw[LC];exact hl t (by
    simp only[Xae,XaE,Array.toList_append,Xar];exact .inr ht))
 refine hc.mono λe w' ⟨v,g,h1,h2⟩=>⟨v,g,h1,h2.st.mono hB (λ_ h=>h),h2.nw,?_,by rw[<-LC];exact h2.ty,by rw[<-LC];exact h2.ks⟩
 refine XaH.2 ⟨(XaH.1 ha).1,h2.ap,λx hx y hy h3 h4 h5=>?_⟩;rcases h2.nw y.b ⟨y,hy,h4,rfl⟩with⟨z,hz,h6,h7⟩|h6
 .exact (XaH.1 ha).2.2 x hx z hz h3 h6 (h5.trans h7.symm)
 .have:=hlt x.b ⟨x,hx,h3,rfl⟩;omega
theorem IR{x1:Operand}{τ1:Ty}[h1:Has Γ x1 τ1] [F:Fun P f] (bs:List Nat) [sp:Sel2 Ω bs Ωt Ωr]
  (h:∀{A:Nat->Prop} w v1,(∀k,w.heap.size<=k->A k)->OwnIn A Ωt->Gh Ωt->Pks (Pub A Ωt) Ωt w->τ1.p (Pub A Ωt) w v1->Calls P f #[v1] w (M7 A w Ωt τ Ω')) :
  OpT P B Ωs Ω Γ ⟨dst,.call { callee:=.value (.func f),args:=#[x1],argTypes:=ts },ty,pos,aft,none⟩ τ λg=>Ω' g++Ωr:=
 Nc sp.perm λA a w hu ho ha hk hl=>by
  rw[show(#[x1].map a.eval)=#[a.eval x1]by simp];exact h w _ hu ho ha hk (h1.le a _ w λt e=>hl t (by simp[e]))
theorem Qm{x1:Operand}{τ1:Ty}[h1:Has Γ x1 τ1] {x2:Operand}{τ2:Ty}[h2:Has Γ x2 τ2] [F:Fun P f] (bs:List Nat) [sp:Sel2 Ω bs Ωt Ωr]
  (h:∀{A:Nat->Prop} w v1 v2,(∀k,w.heap.size<=k->A k)->OwnIn A Ωt->Gh Ωt->Pks (Pub A Ωt) Ωt w->τ1.p (Pub A Ωt) w v1->τ2.p (Pub A Ωt) w v2->Calls P f #[v1,v2] w (M7 A w Ωt τ Ω')) :
  OpT P B Ωs Ω Γ ⟨dst,.call { callee:=.value (.func f),args:=#[x1,x2],argTypes:=ts },ty,pos,aft,none⟩ τ λg=>Ω' g++Ωr:=
 Nc sp.perm λA a w hu ho ha hk hl=>by
  rw[show(#[x1,x2].map a.eval)=#[a.eval x1,a.eval x2]by simp];exact h w _ _ hu ho ha hk (h1.le a _ w λt e=>hl t (by simp[e])) (h2.le a _ w λt e=>hl t (by simp[e]))
theorem Ql{x1:Operand}{τ1:Ty}[h1:Has Γ x1 τ1] {x2:Operand}{τ2:Ty}[h2:Has Γ x2 τ2] {x3:Operand}{τ3:Ty}[h3:Has Γ x3 τ3] [F:Fun P f] (bs:List Nat) [sp:Sel2 Ω bs Ωt Ωr]
  (h:∀{A:Nat->Prop} w v1 v2 v3,(∀k,w.heap.size<=k->A k)->OwnIn A Ωt->Gh Ωt->Pks (Pub A Ωt) Ωt w->τ1.p (Pub A Ωt) w v1->τ2.p (Pub A Ωt) w v2->τ3.p (Pub A Ωt) w v3->Calls P f #[v1,v2,v3] w (M7 A w Ωt τ Ω')) :
  OpT P B Ωs Ω Γ ⟨dst,.call { callee:=.value (.func f),args:=#[x1,x2,x3],argTypes:=ts },ty,pos,aft,none⟩ τ λg=>Ω' g++Ωr:=
 Nc sp.perm λA a w hu ho ha hk hl=>by
  rw[show(#[x1,x2,x3].map a.eval)=#[a.eval x1,a.eval x2,a.eval x3]by simp];exact h w _ _ _ hu ho ha hk (h1.le a _ w λt e=>hl t (by simp[e])) (h2.le a _ w λt e=>hl t (by simp[e])) (h3.le a _ w λt e=>hl t (by simp[e]))
end callO
def Fz{σ ε:Type}(f:σ->Option (σ⊕ε)):Nat->σ->Option ε
 | 0,_=>none
 | n+1,s=>match f s with
  | none=>none
  | some (.inl s')=>Fz f n s'
  | some (.inr e)=>some e
def ZN{σ ε:Type}(f:σ->Option (σ⊕ε))(s:σ):Option ε:=Fz f 18446744073709551616 s
theorem PU{σ ε:Type}{f:σ->Option (σ⊕ε)}:∀{n:Nat}{s:σ}{e:ε} (m:Nat),Fz f n s=some e->n<=m->Fz f m s=some e
 | n+1,s,e,0,_,h=>by omega
 | n+1,s,e,m+1,h,hm=>by
  unfold Fz at *;cases hf:f s with
  | none=>rw[hf]at h;cases h
  | some x=>
   rw[hf]at h;cases x with
   | inl s'=>exact PU m h (by omega)
   | inr e'=>exact h
theorem JX{σ ε:Type}{f:σ->Option (σ⊕ε)} (I:σ->Prop) (μ:σ->Nat) (R:ε->Prop) (h:∀s,I s->(∃s',f s=some (.inl s')/\I s'/\μ s' < μ s)\/∃e,f s=some (.inr e)/\R e) {s:σ} (hs:I s) (hm:μ s<18446744073709551616) :
  ∃e,ZN f s=some e/\R e:=by
 have key:∀(k:Nat) (s:σ),μ s<k->I s->∃e,Fz f k s=some e/\R e:=by
  intro k
  induction k with
  | zero=>intro s h;omega
  | succ k ih=>
   intro s hk hi;rcases h s hi with⟨s',h1,h2,h3⟩|⟨e,h1,h2⟩
   .obtain ⟨e,h4,h5⟩:=ih s' (by omega) h2;exact⟨e,by unfold Fz;rw[h1];exact h4,h5⟩
   .exact ⟨e,by unfold Fz;rw[h1],h2⟩
 exact key _ s hm hs
theorem bnd{α β:Type}{x:Option α}{f:α->Option β}{r:β} (h:x.bind f=some r):∃a,x=some a/\f a=some r:=by
 cases x with
 | none=>cases h
 | some a=>exact⟨a,rfl,h⟩
theorem cT{α:Type}{b:Bool}{x y:Option α}{r:α} (h:(bif b then x else y)=some r) (hb:b=true):x=some r:=by rw[hb]at h;exact h
theorem cF{α:Type}{b:Bool}{x y:Option α}{r:α} (h:(bif b then x else y)=some r) (hb:b=false):y=some r:=by rw[hb]at h;exact h
def gb{α:Type}[Inhabited α] (g:Bool) (x:Option α):Option α:=bif g then x else some default
theorem BM{α:Type}[Inhabited α] {g:Bool}{x:Option α}{a:α} (h:gb g x=some a) (hg:g=true):x=some a:=by subst hg;exact h
def el2{α β γ:Type}(s:α×β)(f:α->β->γ):γ:=f s.1 s.2
def el3{α β γ δ:Type}(s:α×β×γ)(f:α->β->γ->δ):δ:=f s.1 s.2.1 s.2.2
def el4{α β γ δ ε:Type}(s:α×β×γ×δ)(f:α->β->γ->δ->ε):ε:=f s.1 s.2.1 s.2.2.1 s.2.2.2
def elS{α β γ:Type}(s:α⊕β)(f:α->γ)(g:β->γ):γ:=match s with|.inl a=>f a|.inr b=>g b
section rules
variable {P:Program}{r:Ref}{n:Nat}{Γ:Env}{Ω:List Pe}{Q:Exit->Act->World->Prop}
theorem Zx{σ ε ν:Type}{f:σ->Option (σ⊕ε)}{s0:σ}{e:ε}{c:Code} (hl:ZN f s0=some e) (I:σ->ν->Env) (J:σ->ν->List Pe) (m0:ν) (h0:Γ.le (I s0 m0)) (j0:Fb Ω (J s0 m0))
  (round:∀s m x,f s=some x->(∀e',x=.inr e'->e'=e)->TC P r n (I s m) (J s m) c (Exit.then (λa w=>∃s' m',x=.inl s'/\Stt r n (I s' m') (J s' m') a w) Q)):TC P r n Γ Ω (.loop c) Q:=by
 refine TC.loop (γ:={g:σ×ν×Nat // Fz f g.2.2 g.1=some e}) (λg=>I g.1.1 g.1.2.1) (λg=>J g.1.1 g.1.2.1) (λg=>g.1.2.2) ⟨(s0,m0,_),hl⟩ h0 j0 ?_;rintro⟨⟨s,m,k⟩,hg⟩;cases k with
 | zero=>cases hg
 | succ k=>
  have hg:Fz f (k+1) s=some e:=hg;unfold Fz at hg;cases hf:f s with
  | none=>rw[hf]at hg;cases hg
  | some x=>
   rw[hf]at hg;intro a w hs;have:=round s m x hf (λe' h=>by subst h;injection hg) a w hs;refine wpIn_mono this λex a' w' hq=>?_
   cases ex with
   | normal=>
    obtain⟨s',m',hx,hst⟩:=hq;subst hx;exact⟨⟨(s',m',k),hg⟩,Nat.lt_succ_self _,hst⟩
   | _=>exact hq
theorem Zv{σ ε ν:Type}{I:σ->ν->Env}{J:σ->ν->List Pe}{x:σ⊕ε} (s':σ) (m':ν) (hx:x=.inl s') (h:Γ.le (I s' m')) (j:Fb Ω (J s' m')) :
  TE r n Γ Ω (Exit.then (λa w=>∃s' m',x=.inl s'/\Stt r n (I s' m') (J s' m') a w) Q) .normal:=λ_ _ hs=>⟨s',m',hx,(hs.le h).less j⟩
end rules
class Cv(τ σ:Ty):Prop where
 le:τ.le σ
instance (priority:=2000){τ:Ty}:Cv τ τ:=⟨Ty.le.refl _⟩
instance {τ:Ty}{α:Type}{i:Dat α}{x:α}[h:ToD τ α i x]:Cv τ (D x):=⟨h.le⟩
theorem Za{Γ Δ:Env}{d:Tmp}{τ σ:Ty}[h:Has Γ (.tmp d) τ] [c:Cv τ σ] (k:Γ.le Δ):Γ.le (Δ.set d σ):=KR (h.at.trans c.le) k
theorem Zm{Γ Δ:Env}{d:Tmp}{τ σ:Ty}[h:Has Γ (.tmp d) τ] (c:τ.le σ) (k:Γ.le Δ):Γ.le (Δ.set d σ):=KR (h.at.trans c) k
theorem ZH{b:Nat}{pr:Prop}{o m n c:Nat} (h:m=n):(Sl b pr o m c).le (Sl b pr o n c):=h▸Ty.le.refl _
theorem Dt{b:Nat}:Ty.le Ro (Sl b False 0 0 0):=Ro.sl (λh=>h)
theorem BD{Ω Δ:List Pe}{b:Nat}{C:Ct} (h:Fb Ω Δ):Fb Ω (⟨b,False,C⟩::Δ):=(Kn (λh=>h)).trans (Fb.cons h)
section ops
variable {P:Program}{B0:Nat}{A:Nat->Prop}{Ω:List Pe}{Γ:Env}{dst:Option Tmp}{ty:TypeId}{pos:String}{aft:Array Edge}{gd:Option (Nat×Bool)}
variable {α β:Type}{i:Dat α}{j:Dat β}{t u:TypeId}{f off:Nat}{get:α->β}{set:β->α->α}
class HasParts(P:Program)(t:TypeId)(Γ:Env)(ps:List (Nat×Operand))(α:Type)(i:Dat α)(x0:α)(x:outParam α):Prop where
 h:∀(a:Act) A w,(∀k,.tmp k∈ps.map (·.2)->(Γ k).p A w (a.tmps.getD k undef))->∀fs places cs,P.underlying t=some (.struct fs)->fs.toList.mapM (λf=>(P.info? f.type).map λi=>(f.offset,i.size))=some places->Dat.rd A w cs x0->
  ∃cs',XbW (places.toArray[·]?) cs.toArray (ps.map λp=>(p.1,a.eval p.2))=some cs'.toArray/\Dat.rd A w cs' x
instance {Γ:Env}{x:α}:HasParts P t Γ [] α i x x:=⟨λa A w _ fs places cs _ _ h=>⟨cs,by simp[XbW],h⟩⟩
theorem QG{γ δ:Type}{g:γ->Option δ}:∀{l:List γ}{r:List δ},l.mapM g=some r->∀(k:Nat) (x:γ),l[k]?=some x->g x=r[k]?
 | [],r,h,k,x,hx=>by simp at hx
 | y::ys,r,h,k,x,hx=>by
  simp only[Xej,Option.bind_eq_bind,Option.pure_def]at h;cases hy:g y with
  | none=>simp[hy]at h
  | some z=>
   cases hr:ys.mapM g with
   | none=>simp[hy,hr]at h
   | some zs=>
    simp[hy,hr]at h;subst h;cases k with
    | zero=>simp at hx;subst hx;simpa using hy
    | succ k=>simpa using QG hr k x (by simpa using hx)
instance {Γ:Env}{x0 x:α}{p:Operand}{ps:List (Nat×Operand)}{τ:Ty}{y:β}{bt:Nat}[F:TFld P t f u off] [T:TEl P u β j bt] [L:Fld α i off β j get set] [hp:Has Γ p τ] [hy:ToD τ β j y] [r:HasParts P t Γ ps α i (set y x0) x] :
  HasParts P t Γ ((f,p)::ps) α i x0 x:=⟨λa A w ha fs places cs hu hm hr=>by
 obtain⟨fs',fl,g1,g2,g3,g4⟩:=F.h;rw[hu]at g1;injection g1 with g1;injection g1 with g1;subst g1;obtain⟨es,e1,e2⟩:=LF (hy.le _ _ _ (hp.le a A w λk e=>ha k (by simp[e])));obtain⟨ti,z,i1,i2,i3,i4,i5⟩:=T.h;have hpl:places[f]?=some (off,Dat.sz β):=by
  have:=QG hm f fl (by simpa using g2);rw[<-this,g3,g4,i1,Xbj,i3]
 have l1:es.length=Dat.sz β:=Dat.len e2;have l2:cs.length=Dat.sz α:=Dat.len hr;have l3:off+Dat.sz β<=Dat.sz α:=L.le;obtain⟨cs',r1,r2⟩:=r.h a A w (λk hk=>ha k (Xaw _ hk)) fs places _ hu hm (L.st hr e2);refine⟨cs',?_,r2⟩;have hpl2:places.toArray[f]?=some (off,Dat.sz β):=by simpa using hpl
 simp only[Xbl,XbW,hpl2,e1];rw[if_neg (by simp[l1];omega)];have h5:=EE es 0 off cs (by omega);simp only[Xbw]at h5;rw[<-r1];congr 1;rw[<-h5];simp⟩
theorem OpY.build{parts:Array (Nat×Operand)}{ps:List (Nat×Operand)}{bt:Nat}{x:α}[T:TEl P t α i bt] (hps:parts=ps.toArray) (hu:∃fs,P.underlying t=some (.struct fs)/\(fs.toList.mapM (λf=>(P.info? f.type).map λi=>(f.offset,i.size))).isSome=true) (ha:Dat.agg α=true)
  [h:HasParts P t Γ ps α i Dat.z x]:OpY P B0 A Ω Γ ⟨dst,.build t parts,ty,pos,aft,gd⟩ (D x):=
 OpY.val λa w hl=>by
  subst hps;obtain⟨fs,u1,u2⟩:=hu;obtain⟨places,u2⟩:=Option.isSome_iff_exists.1 u2;obtain⟨ti,z,i1,i2,i3,i4,i5⟩:=T.h;obtain⟨cs',r1,r2⟩:=h.h a A w (λk hk=>hl k (by simp only[Xae];simpa using hk)) fs places _ u1 u2 Dat.zrd;refine⟨.agg cs'.toArray,?_,cs',r2,by unfold mkV;rw[ha];rfl⟩;have hb:P.built t ((ps.toArray.map λ(i,x)=>(i,a.eval x)).toList)=some cs'.toArray:=by
   unfold Program.built;rw[i1,u1];simp only[i2,u2,i5];simpa using r1
  simp only[execOp,Xag,run_build w t _ cs'.toArray hb,Xab,Xai]
theorem O8{parts:Array (Nat×Operand)}{ps:List (Nat×Operand)}{bt:Nat}{x:α} (y:α) [T:TEl P t α i bt] (hps:parts=ps.toArray) (hu:∃fs,P.underlying t=some (.struct fs)/\(fs.toList.mapM (λf=>(P.info? f.type).map λi=>(f.offset,i.size))).isSome=true) (ha:Dat.agg α=true)
  [h:HasParts P t Γ ps α i Dat.z x] (hxy:x=y):OpY P B0 A Ω Γ ⟨dst,.build t parts,ty,pos,aft,gd⟩ (D y):=hxy▸OpY.build hps hu ha
end ops
end
end Go.Proofs.YtkmojgfenlgchaaGreatDoor.Tr
