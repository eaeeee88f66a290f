/- What the proof leans on. Conditions: none. -/
import Derived.Test.YtkmojgfenlgchaaGreatDoorZTF5
set_option linter.all false
set_option linter.unusedSimpArgs false
set_option linter.unusedVariables false
set_option linter.unusedSectionVars false
namespace Go.Proofs.YtkmojgfenlgchaaGreatDoor.Tr
open Go
open Bool renaming not_false->Xas,and_eq_true->Xaz,not_true->XaC,false_or->XbL,true_and->XbU,false_and->Xb4,or_eq_true->Xcu,or_eq_false_iff->XcU,true_or->XcX,and_false->XdV,or_self->XeH,eq_false_iff->Xgf
open Classical renaming choose_spec->XeP,choose->Xfl
open Env renaming set->TR
open Et renaming s->XbE,b->XcA,loop->Xda,l->Xez
open Fam renaming nextS->XaV,nextN->XaW
open Go.DataW renaming weights_mem_each->XcD,weightsEach->XcJ
open Int renaming toNat->Xaa,toNat_natCast->Xak,le_refl->XaJ,natCast_mul->XbQ,lt_or_le->Xf3,add_mul->Xg5
open List renaming replicate->Xac,getD_eq_getElem?_getD->Xad,mem_singleton->Xal,nil_append->Xam,cons_append->Xan,mem_append->Xar,getElem_mem->Xax,length_set->XaA,take_of_length_le->XaB,length_append->XaD,pairwise_append->XaH,length_replicate->XaK,mem_append_right->XaL,append_assoc->XaM,pairwise_cons->XaO,length_cons->XaP,getElem_of_mem->XaQ,append_nil->XaX,drop_eq_getElem_cons->Xa0,mem_cons->Xa1,length_take->Xa5,drop_of_length_le->Xa7,range->Xbe,take_length->Xbp,all_eq_true->Xbq,mem_append_left->Xbr,getElem_replicate->Xbs,take_append_drop->Xbv,pairwise_iff_getElem->Xbz,ext_getElem->XbN,length_drop->XbP,set_append_right->XbS,getElem_append_left->XbT,getElem_append_right->Xca,take_append_of_le_length->Xcf,length_range->Xct,map_nil->Xcy,flatten_append->XcB,getElem?_eq_none->XcH,drop_zero->XcS,getElem_map->XcZ,drop_replicate->Xc0,getElem_range->Xc5,map_append->Xc9,take_zero->Xdk,take_take->Xdl,countP_le_length->Xdp,getElem_set->Xdr,mem_of_mem_drop->Xdu,length_map->XdC,set_set->XdG,replicate_succ->XdJ,mem_replicate->XdN,mem_map->XdO,getElem_drop->XdY,foldl_append->XdZ,drop_append->Xd3,countP_cons->Xd4,getElem_cons_succ->Xd9,range_succ->Xeb,mem_range->Xeh,mem_of_mem_take->Xei,foldl_cons->Xel,set_eq_take_append_cons_drop->XeB,flatMap_cons->XeG,take_append->XeK,map_map->XeL,mem_filter->XeV,length_eq_zero_iff->Xfn,sublist_cons_self->Xfu,flatMap_singleton->Xfw,flatMap_append->XfS,countP_eq_zero->XfT,filter_append->Xf1,countP_append->Xf2,drop_sublist->Xgb,filter_cons->Xgk,filter_nil->Xgv
open Nat renaming mul_le_mul_right->Xah,le_refl->Xau,succ_mul->XaF,le_trans->XaG,min_eq_left->XaY,add_mul->Xa6,mul_comm->Xbb,zero_add->Xbg,add_zero->Xbw,div_eq_of_lt->Xby,div_div_eq_div_mul->XbA,eq_zero_or_pos->XbB,add_assoc->XbO,add_comm->Xb1,mul_le_mul->Xb5,pow_add->Xb8,mul_assoc->Xcr,pos_of_neZero->XcK,pow_succ->XcY,mul_add_div->Xc4,zero_mul->Xc7,dvd_of_mod_eq_zero->Xdf,mul_div_cancel->XdH,mul_div_cancel_left->Xec,sub_self->Xeg,div_lt_of_lt_mul->Xey,lt_trichotomy->XeI,one_mul->XeU,two_pow_add_eq_or_of_lt->Xe7,div_add_mod->Xfi,add_right_cancel_iff->Xfm,zero_div->XfG,div_mul_le_self->Xf0,div_mul_cancel->Xf9,mul_mod_right->Xgi,lt_of_not_le->Xgs,le_of_not_lt->Xgt,mod_lt->XgC,zero_sub->XgT,min_self->XgV,pow_one->Xg3
open Ne renaming symm->Xc3
open TS renaming alloc->Xaq
open UInt16 renaming toNat_ofNat_of_lt'->XdF,toNat_toUInt8->Xfs
open UInt64 renaming ofNat->Xap,lt_iff_toNat_lt->Xci,ofInt->Xcp,toNat_ofNat_of_lt'->XcP,toNat_add->XdU,le_iff_toNat_le->Xfh
open UInt8 renaming ofInt->Xao,ofNat->XaN,toNat_inj->Xcs,lt_iff_toNat_lt->Xdm,toNat_ofNat_of_lt'->XdT,toNat_toUInt16->XfE,lt_irrefl->Xgg
open Vec renaming put->Xem,ext->XfA
set_option maxRecDepth 100000
theorem FQ{l:List Int}{x:Int}:x∈l↔∃i,i<l.length/\l.getD i 0=x:=by
 constructor
 .intro h;obtain⟨i,hi,e⟩:=XaQ h;exact⟨i,hi,by rw[DD hi,e]⟩
 .rintro ⟨i,hi,e⟩;rw[<-e,DD hi];exact Xax hi
theorem KA{l:List Int}{id:Nat}{x y:Int} (h:id<l.length):x∈l.set id y↔x=y\/∃i,i≠id/\i<l.length/\l.getD i 0=x:=by
 rw[FQ]
 constructor
 .rintro ⟨i,hi,e⟩;rw[Bw h]at e;rw[XaA]at hi
  by_cases hh:i=id
  .rw [if_pos hh]at e;exact .inl e.symm
  .rw [if_neg hh]at e;exact .inr ⟨i,hh,hi,e⟩
 .rintro (rfl|⟨i,hh,hi,e⟩)
  .exact ⟨id,by rw[XaA];exact h,by rw[Bw h,if_pos rfl]⟩
  .exact ⟨i,by rw[XaA];exact hi,by rw[Bw h,if_neg hh];exact e⟩
theorem PW{P:Nat}{s t:List Int}{k j:Nat} (hj:j<P) (hn:Fc P k j∉s) (ht:∀a b,b<P->(Fc P a b∈t↔Fc P a b∈s\/Fc P a b=Fc P k j)) (q:Nat):ZK P t q=ZK P s q+if q=k then 1 else 0:=by
 have h:=L6 (P:=P) (s:=s) (t:=s++[Fc P k j]) hj hn (λx=>by simp) q;rw[<-h];refine Hh λb hb=>?_
 rw[ht q b hb];simp
theorem VW{P:Nat}{l:List Int}{id k j k' j':Nat} (hid:id<l.length) (hold:l.getD id 0=Fc P k j) (hj:j<P) (hj':j' < P) (hu:∀i,i<l.length->l.getD i 0=Fc P k j->i=id) (hnew:Fc P k' j'∉l) (q:Nat) :
  ZK P (l.set id (Fc P k' j')) q+(if q=k then 1 else 0)=ZK P l q+(if q=k' then 1 else 0):=by
 have hz:∀a b,Fc P a b≠0:=λa b e=>by have:=ET (P:=P) (k:=a) (j:=b);omega
 have h1:=PW (P:=P) (s:=l.set id 0) (t:=l) (k:=k) (j:=j) hj (λx=>by
  rcases (KA hid).1 x with e|⟨i,a,b,e⟩
  .exact hz _ _ e
  .exact a (hu i b e)) (λa b hb=>by
  rw[KA hid]
  constructor
  .intro x;obtain⟨i,hi,e⟩:=FQ.1 x
   by_cases hh:i=id
   .subst hh;exact .inr (e.symm.trans hold)
   .exact .inl (.inr ⟨i,hh,hi,e⟩)
  .rintro ((e|⟨i,_,hi,e⟩)|e)
   .exact absurd e (hz _ _)
   .exact FQ.2 ⟨i,hi,e⟩
   .exact FQ.2 ⟨id,hid,hold.trans e.symm⟩) q
 have h2:=PW (P:=P) (s:=l.set id 0) (t:=l.set id (Fc P k' j')) (k:=k') (j:=j') hj' (λx=>by
  rcases (KA hid).1 x with e|⟨i,a,b,e⟩
  .exact hz _ _ e
  .exact hnew (FQ.2 ⟨i,b,e⟩)) (λa b hb=>by
  rw[KA hid,KA hid]
  constructor
  .rintro (e|h)
   .exact .inr e
   .exact .inl (.inr h)
  .rintro ((e|h)|e)
   .exact absurd e (hz _ _)
   .exact .inr h
   .exact .inl e) q
 rw[h1,h2];omega
def Ez(P nB:Nat)(c:Chip)(seen:List Int)(i:Nat):List Wear:=(AR P nB c seen).set i Qa
theorem OD{P nB:Nat}{c:Chip}{seen:List Int}{i q:Nat} (hq:q<(Ez P nB c seen i).length):(Ez P nB c seen i)[q]=if q=i then Qa else AB P c seen (q+2):=by
 unfold Ez at *;rw[Xdr]
 by_cases e:i=q
 .rw [if_pos e,if_pos e.symm]
 .rw [if_neg e,if_neg (Xc3 e),EH]
theorem PO{P nB:Nat}{c:Chip}{seen:List Int}{i:Nat}:(Ez P nB c seen i).length=nB-2:=by unfold Ez;rw[XaA,B7]
theorem L2{P nB S:Nat}{c:Chip}{seen:List Int}{i:Nat} (hc:CI P nB S c) (hg:Geo P nB S) (hv:NL P nB c seen):Ds (Ez P nB c seen i) P:=Vr (Gy hc hg hv) WJ
def So(P nB S:Nat)(w:Zc)(i:Nat)(r:Int×Int×Zc):Prop:=
 (∃k:Nat,2<=k/\k<nB/\k≠i+2/\(blk w.Vol.Chip k).Bad=false/\ZK P w.Vol.At k=0/\
  ((r=((k:Int),0,w)/\(blk w.Vol.Chip k).Used=0)\/∃c' e,r=((k:Int),e,wch w c')/\Pd P nB S w.Vol.Chip c' k e))\/
 (r=(0,6,w)/\∀k,2<=k->k<nB->k≠i+2->(blk w.Vol.Chip k).Bad=false->0<ZK P w.Vol.At k)
theorem Vw{w:Zc}{i:Nat}{P nB S:Nat} (hc:CI P nB S w.Vol.Chip) (hg:Geo P nB S) (ho:w.Vol.Chip.Off=false) (hv:NL P nB w.Vol.Chip w.Vol.At) (hi:i<nB-2) (hops:w.Vol.Chip.Ops+17<=De) :
  Et (B4 w (Ez P nB w.Vol.Chip w.Vol.At i)) (So P nB S w i):=by
 have g1:=hg.b5;have g2:=hg.b11;have g3:=hg.p2;have g4:=hg.p8;have hW:=L2 (i:=i) hc hg hv;have hD:(Ez P nB w.Vol.Chip w.Vol.At i).length=nB-2:=PO
 -- a block that was picked is a good one, and not the one left out
 have hgood:∀q,(hq:q<(Ez P nB w.Vol.Chip w.Vol.At i).length)->(Ez P nB w.Vol.Chip w.Vol.At i)[q].Bad=false->q≠i/\(blk w.Vol.Chip (q+2)).Bad=false/\(Ez P nB w.Vol.Chip w.Vol.At i)[q]=⟨(ZK P w.Vol.At (q+2):Int),(blk w.Vol.Chip (q+2)).Used,(blk w.Vol.Chip (q+2)).Worn,false⟩:=λq hq hb=>by
  rw[OD]at hb⊢
  by_cases e:q=i
  .rw [if_pos e]at hb;cases hb
  .rw [if_neg e]at hb⊢;rw[Fk]at hb;exact⟨e,hb,Ap hb⟩
 have hother:∀k,2<=k->k<nB->k≠i+2->(blk w.Vol.Chip k).Bad=false->∃h:k-2<(Ez P nB w.Vol.Chip w.Vol.At i).length,(Ez P nB w.Vol.Chip w.Vol.At i)[k-2]=⟨(ZK P w.Vol.At k:Int),(blk w.Vol.Chip k).Used,(blk w.Vol.Chip k).Worn,false⟩:=λk k2 kB kn kb=>by
  refine⟨by omega,?_⟩;rw[OD,if_neg (by omega),show k-2+2=k by omega,Ap kb]
 have hlive0:∀k,k<nB->(blk w.Vol.Chip k).Used=0->ZK P w.Vol.At k=0:=λk kB h0=>DW.2 λj hj=>QI hv hj (by omega)
 unfold B4;rw[MQ (R:=λx=>decide (x.Used=0)) (λx=>rfl) (by omega),Zb];obtain⟨r1,hr1,hf1⟩:=Gm ((Ez P nB w.Vol.Chip w.Vol.At i).map (HE λx=>decide (x.Used=0))) w.Vol.Chip.Pages;rw[hr1,Zb];rw[hc.pgs]at hf1;rcases Zdp (S:=S) (nB:=nB) hW (by rfl) hf1 with⟨q,hq,rfl,b1,b2,b3⟩|⟨rfl,hno1⟩
 .obtain ⟨q1,q2,q3⟩:=hgood q hq b1;rw[q3]at b2 b3;rw[Zu,Aa (by omega) (by omega),Zb];have hu0:(blk w.Vol.Chip (q+2)).Used=0:=by simpa using b2
  exact XbE (.inl ⟨q+2,by omega,by omega,by omega,q2,hlive0 _ (by omega) hu0,.inl ⟨rfl,hu0⟩⟩)
 rw[Zq,MQ (R:=λx=>decide (x.Used=w.Vol.Chip.Pages)) (λx=>rfl) (by omega),Zb];obtain⟨r2,hr2,hf2⟩:=HI ((Ez P nB w.Vol.Chip w.Vol.At i).map (HE λx=>decide (x.Used=w.Vol.Chip.Pages))) w.Vol.Chip.Pages;rw[hr2,Zb];rw[hc.pgs]at hf2;have hclear:∀q:Nat,q<nB-2->q≠i->(blk w.Vol.Chip (q+2)).Bad=false->ZK P w.Vol.At (q+2)=0->∀z:Int,z=((q+2:Nat):Int)->Et ((Ad w z).bind λx=>some (z,x.1,x.2)) (So P nB S w i):=λq hq q1 q2 q3 z hz=>by
  subst hz;refine XcA (Mh (w:=w) (k:=q+2) rfl hc hg.s24 ho (by omega) q2 hops) λr ⟨c',e,hr,hcl⟩=>?_
  subst hr;exact XbE (.inl ⟨q+2,by omega,by omega,by omega,q2,q3,.inr ⟨c',e,rfl,hcl⟩⟩)
 rcases Zdp (S:=S) (nB:=nB) hW (by rfl) hf2 with⟨q,hq,rfl,b1,b2,b3⟩|⟨rfl,hno2⟩
 .obtain ⟨q1,q2,q3⟩:=hgood q hq b1;rw[q3]at b2 b3;rw[Zu,Aa (by omega) (by omega),Zb,Zb];unfold RP at b3;simp at b3;exact hclear q (by omega) q1 q2 (by omega) _ (by show(q:Int)+2=_;omega)
 rw[Zq,MQ (R:=λx=>decide (x.Worn<1099511627776)) (λx=>rfl) (by omega),Zb];obtain⟨r3,hr3,hf3⟩:=HI ((Ez P nB w.Vol.Chip w.Vol.At i).map (HE λx=>decide (x.Worn<1099511627776))) w.Vol.Chip.Pages;rw[hr3,Zb];rw[hc.pgs]at hf3;rcases Zdp (S:=S) (nB:=nB) hW (by rfl) hf3 with⟨q,hq,rfl,b1,b2,b3⟩|⟨rfl,hno3⟩
 .obtain ⟨q1,q2,q3⟩:=hgood q hq b1;rw[q3]at b2 b3;rw[Zu,Aa (by omega) (by omega),Zb,Zb];unfold RP at b3;simp at b3;exact hclear q (by omega) q1 q2 (by omega) _ (by show(q:Int)+2=_;omega)
 .rw [Zq];refine XbE (.inr ⟨rfl,λk k2 kB kn kb=>?_⟩);obtain⟨hk,e⟩:=hother k k2 kB kn kb;have hu:=hc.blkR kB;have hw:=hc.worn k kB;unfold De at hops;have x1:=hno1 (k-2) hk;have x3:=hno3 (k-2) hk;rw[e]at x1 x3;have y3:=x3 rfl (by simp;omega);unfold RP at y3;rcases XbB (ZK P w.Vol.At k)with h0|h0
  .exfalso
   simp[h0]at y3;have hu0:(blk w.Vol.Chip k).Used=0:=by omega
   have y1:=x1 rfl (by simp[hu0]);unfold QC at y1;simp at y1;omega
  .exact h0
def MOK(P nB S:Nat)(c:Chip)(bod:List (List UInt8)):Prop:=CI P nB S c/\∃at0 gen last,RI P c gen at0 last/\GI P nB c at0 bod/\(gen.toNat:Int)<=c.Ops
def WV(P nB S:Nat)(w:Zc)(bod:List (List UInt8)):Prop:=VI P nB S w.Vol.Chip w.Vol.At w.Vol.Gen w.Vol.Last bod
theorem WV.fr{P nB S:Nat}{w:Zc}{bod:List (List UInt8)}{c':Chip}{s:List Int} (h:WV P nB S w bod) (hf:Fr P nB S s w.Vol.Chip c') (hs:∀x∈w.Vol.At,x∈s) (ho:c'.Off=false):WV P nB S (wch w c') bod:=
 ⟨hf.ci,ho,hf.ri h.ri,hf.gi hs h.gi,by have:=h.gen;have:=hf.opsl;show(w.Vol.Gen.toNat:Int)<=c'.Ops;omega⟩
theorem WV.mfr{P nB S:Nat}{w:Zc}{bod:List (List UInt8)}{c':Chip}{s:List Int} (h:WV P nB S w bod) (hf:Fr P nB S s w.Vol.Chip c') (hs:∀x∈w.Vol.At,x∈s):MOK P nB S c' bod:=
 ⟨hf.ci,_,_,_,hf.ri h.ri,hf.gi hs h.gi,by have:=h.gen;have:=hf.opsl;omega⟩
theorem WrF.gi{P nB S:Nat}{c c':Chip}{e:Int}{at0:List Int}{bod:List (List UInt8)} (h:WrF P nB S c c' e) (hg:GI P nB c at0 bod):GI P nB c' at0 bod:=hg.keep λid k j _ _ h2 _ _ h5=>by
 rw[h.oth k h2];exact⟨h5,Oy (h.oth k h2)⟩
theorem Zgx.may{P nB S:Nat}{c:Chip} (hc:CI P nB S c) {id:Nat}{n:Int}{b:List UInt8} (h:Zgx P nB c id n b) (h0:n≠0):id<64/\(b.length:Int)<=S-16:=by
 rcases h with g|⟨k,j,g,a1,a2,a3,a4,a5,a6,a7⟩
 .exact absurd g.1 h0
 .have:=(W7 (b:=pg c k j) (by rw[a6]) (by rw[a6];show(1:Int)≠0;decide)).1;rw[a6,hc.pgl a3 a4]at this;obtain⟨p1,p2,p3,p4,p5,p6⟩:=this;dsimp only at p4 p6;exact⟨by omega,p6⟩
structure MV(P nB S:Nat)(w:Zc)(bod:List (List UInt8))(frm:Nat)(to:Int)(i:Nat)(at7:List Int)(c2:Chip):Prop where
 fr:Fr P nB S w.Vol.At w.Vol.Chip c2
 off:c2.Off=false
 gi:GI P nB c2 at7 bod
 len:at7.length=w.Vol.At.length
 same:blk c2 frm=blk w.Vol.Chip frm
 done:∀id,id<i->∀j,j<P->at7.getD id 0≠Fc P frm j
 rest:∀id,i<=id->at7.getD id 0=w.Vol.At.getD id 0
 used:∀q,2<=q->q<nB->q≠frm->(blk c2 q).Used-(ZK P at7 q:Int)=(blk w.Vol.Chip q).Used-(ZK P w.Vol.At q:Int)/\ZK P w.Vol.At q<=ZK P at7 q/\(blk c2 q).Bad=(blk w.Vol.Chip q).Bad/\(blk c2 q=blk w.Vol.Chip q\/(q:Int)=to\/(to=-1/\0<ZK P w.Vol.At q))
 tot:∀k:Nat,to=k->ZK P at7 frm+ZK P at7 k=ZK P w.Vol.At frm
 ops:c2.Ops<=w.Vol.Chip.Ops+i
 bad:Aw c2=Aw w.Vol.Chip
def ZgG(P nB:Nat)(w:Zc)(frm:Nat)(to:Int):Prop:=
 (∃k:Nat,to=k/\2<=k/\k<nB/\k≠frm/\(blk w.Vol.Chip k).Bad=false/\(blk w.Vol.Chip k).Used=0/\ZK P w.Vol.At k=0)\/
 (to=-1/\∀k,2<=k->k<nB->k≠frm->(blk w.Vol.Chip k).Bad=false->0<ZK P w.Vol.At k)
theorem MV.step{P nB S:Nat}{w:Zc}{bod:List (List UInt8)}{frm:Nat}{to:Int}{i:Nat}{at7:List Int}{c2 c3:Chip} (hg:Geo P nB S) (hv0:NL P nB w.Vol.Chip w.Vol.At) (h:MV P nB S w bod frm to i at7 c2) (hi:i<w.Vol.At.length) {j:Nat} (hj:j<P) (hold:w.Vol.At.getD i 0=Fc P frm j)
  {k:Nat} (k2:2<=k) (kB:k<nB) (kn:k≠frm) (hkb:(blk c2 k).Bad=false) (hu:(blk c2 k).Used<P) (hto:(k:Int)=to\/(to=-1/\0<ZK P w.Vol.At k)) (hm:Qi ⟨1,i,w.Vol.Gen+1,bod.getD i []⟩ S) (hn:bod.getD i []≠[])
  (g:Rf P nB S c2 c3 k (BP (BR ⟨1,i,w.Vol.Gen+1,bod.getD i []⟩ S)) 0) :
  MV P nB S w bod frm to (i+1) (at7.set i (Fc P k (blk c2 k).Used.toNat)) c3:=by
 have hB:=h.fr.ci.blkR kB;have hil:i<at7.length:=by rw[h.len];exact hi
 have hjP:(blk c2 k).Used.toNat<P:=by omega
 have hf:=g.fr (s:=w.Vol.At) k2;have hf7:=g.fr (s:=at7) k2;have hold7:at7.getD i 0=Fc P frm j:=(h.rest i (Xau _)).trans hold;have hv7:=h.gi.held;have hnew:Fc P k (blk c2 k).Used.toNat∉at7:=QI hv7 hjP (by omega);have hlp:=ET (P:=P) (k:=frm) (j:=j);have huq:∀i',i' < at7.length->at7.getD i' 0=Fc P frm j->i'=i:=λi' hi' e=>h.gi.inj hi' hil (e.trans hold7.symm) (by rw[e];omega)
 have hmv:=VW (id:=i) hil hold7 hj hjP huq hnew;have goth:=g.oth;have gused:=g.used;have gbad:(blk c3 k).Bad=false:=by rw[g.bad];rfl
 have gops:=g.ops;have gm:=g.many;rw[if_neg (by decide)]at gm;have hops:=h.ops;refine⟨h.fr.trans hf,by rw[g.off];rfl,⟨by rw[XaA];exact h.gi.1,λid hid=>?_⟩,by rw[XaA];exact h.len,(goth frm (Xc3 kn)).trans h.same,λid hid j' hj'=>?_,λid hid=>?_,λq q2 qB qn=>?_,λk' hk'=>?_,by omega,by rw[gm,h.bad];rfl⟩
 .rw [XaA]at hid;rw[Bw hil]
  by_cases e:id=i
  .subst e;rw[if_pos rfl];obtain⟨q,_,hq1,hq2⟩:=g.pgn;exact .inr ⟨k,(blk c2 k).Used.toNat,w.Vol.Gen+1,rfl,k2,kB,hjP,by omega,by rw[hq2,hq1 rfl];exact QB (n:=S) hm,hn⟩
  .rw [if_neg e];exact(hf7.gi (λx hx=>hx) h.gi).2 id hid
 .rw [Bw hil]
  by_cases e:id=i
  .rw [if_pos e];intro x;exact kn (Ls hjP hj' x).1
  .rw [if_neg e];exact h.done id (by omega) j' hj'
 .rw [Bw hil,if_neg (by omega)];exact h.rest id (by omega)
 .obtain ⟨a1,a2,a3,a4⟩:=h.used q q2 qB qn;have hq:=hmv q;rw[if_neg qn]at hq
  by_cases e:q=k
  .subst e;rw[if_pos rfl]at hq;exact⟨by omega,by omega,by rw[gbad,<-a3,hkb],.inr hto⟩
  .rw [if_neg e]at hq;rw[goth q e];exact⟨by omega,by omega,a3,a4⟩
 .have:=h.tot k' hk';have hf':=hmv frm;have hk'':=hmv k';rw[if_pos rfl,if_neg (Xc3 kn)]at hf';have e:k'=k:=by
   rcases hto with e|⟨e,_⟩<;>omega
  subst e;rw[if_neg kn,if_pos rfl]at hk'';omega
def Uf(P nB S:Nat)(w:Zc)(bod:List (List UInt8))(frm:Nat)(to:Int)(r:Bool×Int×Zc):Prop:=
  ∃c',Aw w.Vol.Chip<=Aw c'/\w.Vol.Chip.Ops<=c'.Ops/\c'.Ops<=w.Vol.Chip.Ops+140/\c'.Faults=w.Vol.Chip.Faults/\
  ((∃at' last',r=(true,0,⟨⟨c',at',w.Vol.Gen+1,last'⟩,w.beyond⟩)/\VI P nB S c' at' (w.Vol.Gen+1) last' bod/\at'.length=w.Vol.At.length/\ZK P at' frm=0/\blk c' frm=blk w.Vol.Chip frm/\
      (∀q,2<=q->q<nB->q≠frm->(blk c' q).Used-(ZK P at' q:Int)=(blk w.Vol.Chip q).Used-(ZK P w.Vol.At q:Int)/\ZK P w.Vol.At q<=ZK P at' q/\(blk c' q).Bad=(blk w.Vol.Chip q).Bad/\(blk c' q=blk w.Vol.Chip q\/(q:Int)=to\/(to=-1/\0<ZK P w.Vol.At q)))/\
      (w.Vol.Chip.Faults=[]->Aw w.Vol.Chip=0->Aw c'=0))\/
   (r=(false,0,wch w c')/\Fr P nB S w.Vol.At w.Vol.Chip c'/\c'.Off=false/\Aw w.Vol.Chip<Aw c'/\w.Vol.Chip.Faults≠[])\/
   (r=(false,6,wch w c')/\Fr P nB S w.Vol.At w.Vol.Chip c'/\c'.Off=false/\to=-1)\/
   (∃e,(e=7\/e=9)/\r=(false,e,wch w c')/\MOK P nB S c' bod/\¬(w.Vol.Chip.Faults=[]/\Aw w.Vol.Chip=0)))
theorem Uz{P nB S:Nat}{c:Chip}{at0:List Int}{gen:UInt64} (hg:Geo P nB S) (hv:NL P nB c at0) (hn:(at0.length:Int)<=Ff S) (hG:gen.toNat<=1099511627776):Wq ⟨gen+1,at0⟩ S:=by
 have:=hg.s24;have:=hg.s256;refine⟨⟨by omega,by omega⟩,?_,hn,λx hx=>?_⟩
 .rw [Xci];show(gen+1).toNat<281474976710656;rw[XdU];show(gen.toNat+1)%18446744073709551616<_;omega
 .rcases hv x hx with e|⟨k,j,e,a1,a2,a3,a4⟩
  .omega
  .have:=ET (P:=P) (k:=k) (j:=j);have:=PV (P:=P) a2 a3;have:nB*P<=11*8:=Xb5 hg.b11 hg.p8;omega
theorem To{gen:UInt64}(hG:gen.toNat<=1099511627776):gen+1<Xap 281474976710656/\(gen+1).toNat=gen.toNat+1:=by
 have e:(gen+1).toNat=gen.toNat+1:=by
  rw[XdU];show(gen.toNat+1)%18446744073709551616=_;omega
 refine⟨?_,e⟩;rw[Xci,e];show gen.toNat+1<281474976710656;omega
theorem MV.skip{P nB S:Nat}{w:Zc}{bod:List (List UInt8)}{frm:Nat}{to:Int}{i:Nat}{at7:List Int}{c2:Chip} (h:MV P nB S w bod frm to i at7 c2) (hn:∀j,j<P->w.Vol.At.getD i 0≠Fc P frm j):MV P nB S w bod frm to (i+1) at7 c2:=
 ⟨h.fr,h.off,h.gi,h.len,h.same,λid hid j hj=>by
  by_cases e:id=i
  .subst e;rw[h.rest id (Xau _)];exact hn j hj
  .exact h.done id (by omega) j hj,λid hid=>h.rest id (by omega),h.used,h.tot,by have:=h.ops;omega,h.bad⟩
theorem ZaT{w:Zc}{bod:List (List UInt8)}{frm:Nat}{to:Int}{z:Int}{P nB S:Nat} (hz:z=frm) (hw:WV P nB S w bod) (hg:Geo P nB S) (f2:2<=frm) (fB:frm<nB) (hto:ZgG P nB w frm to) (hn:(w.Vol.At.length:Int)<=Ff S)
  (hops:w.Vol.Chip.Ops+200<=De):Et (BU w z to) (Uf P nB S w bod frm to):=by
 subst hz;have g1:=hg.b5;have g2:=hg.b11;have g3:=hg.p2;have g4:=hg.p8;have hc:=hw.ci;have hal:=Ml hw.ri;have hv:=hw.gi.held;have hgn:=hw.gen;have hops':=hops;unfold De at hops;have hgm:=To (gen:=w.Vol.Gen) (by omega);have hN:=hc.nat;unfold BU;rw[Mg (by omega),Zb];refine XcA (P:=λo=>(∃at7 c2,o=.inl (at7,wch w c2)/\MV P nB S w bod frm to w.Vol.At.length at7 c2)\/∃r,o=.inr r/\Uf P nB S w bod frm to r)
  (Xda (σ:=Int×List Int×Zc) (λs=>∃i:Nat,∃c2,s.1=i/\s.2.2=wch w c2/\i<=w.Vol.At.length/\MV P nB S w bod frm to i s.2.1 c2) (λs=>w.Vol.At.length-s.1.toNat) (λs hs=>?_)
   ⟨0,w.Vol.Chip,rfl,rfl,by omega,⟨Fr.refl hc,hw.off,hw.gi,rfl,rfl,λid hid=>by omega,λ_ _=>rfl,λq _ _ _=>⟨rfl,Xau _,rfl,.inl rfl⟩,λk hk=>?_,by omega,rfl⟩⟩ (by show w.Vol.At.length-0<_;omega)) λo ho=>?_
 rotate_left
 .rcases hto with⟨k',e,_,_,_,_,_,h0⟩|⟨e,_⟩
  .have:k=k':=by omega
   subst this;dsimp only;rw[h0];omega
  .omega
 .rcases ho with⟨at7,c2,rfl,h⟩|⟨r,rfl,h⟩
  .rw [ZU,CB];have hri:=h.fr.ri hw.ri;have hhd:=h.gi.held;have hop2:=h.ops;have hopl:=h.fr.opsl;refine XcA (Rt (w:=wch w c2) (at':=at7) h.fr.ci hg h.off hri (Uz hg hhd (by rw[h.len];exact hn) (by show w.Vol.Gen.toNat<=_;omega)) (by show w.Vol.Gen.toNat<_;omega) (by show c2.Ops+8<=De;unfold De;omega)) λr ⟨c',e,hW,hr⟩=>?_
   have hW:WrF P nB S c2 c' e:=hW;have hwo:=hW.ops;have hwm:=hW.many;have hbb:=h.bad;have hgi7:=hW.gi h.gi;have hgiA:=hW.gi (h.fr.gi (λx hx=>hx) hw.gi);have hoth:∀q,2<=q->blk c' q=blk c2 q:=hW.oth;rcases hr with⟨rfl,hO1,last',rfl,hri'⟩|⟨he,rfl,hst⟩
   .have hO1:c2.Ops+1<=c'.Ops:=hO1;refine XbE ⟨c',by omega,by omega,by omega,hW.flt.trans h.fr.flt,.inl ⟨at7,last',rfl,⟨hW.ci,by rw[hW.off];rfl,hri',hgi7,by show((w.Vol.Gen+1).toNat:Int)<=c'.Ops;omega⟩,h.len,?_,(hoth frm f2).trans h.same,λq q2 qB qn=>?_,λa b=>?_⟩⟩
    .refine DW.2 λj hj hx=>?_
     obtain⟨id,hid,e⟩:=FQ.1 hx;exact h.done id (by rw[<-h.len];exact hid) j hj e
    .rw [hoth q q2];exact h.used q q2 qB qn
    .exact (hW.nf (h.fr.flt.trans a) (by rw[h.bad];exact b)).2
   .refine XbE ⟨c',by omega,by omega,by omega,hW.flt.trans h.fr.flt,.inr (.inr (.inr ⟨e,he,?_,⟨hW.ci,?_⟩,λ⟨a,b⟩=>?_⟩))⟩
    .dsimp only;rw[show decide (e=0)=false by simp;omega];rfl
    .rcases hst with a|⟨l',a,b⟩
     .exact ⟨_,_,_,a,hgiA,by show(w.Vol.Gen.toNat:Int)<=_;omega⟩
     .have b:c2.Ops+1<=c'.Ops:=b;exact⟨_,_,_,a,hgi7,by show((w.Vol.Gen+1).toNat:Int)<=_;omega⟩
    .have:=(hW.nf (h.fr.flt.trans a) (by rw[h.bad];exact b)).1;omega
  .rw [A2];exact XbE h
 obtain⟨z,at7,w8⟩:=s;obtain⟨i,c2,rfl,rfl,hi,h⟩:=hs;dsimp only at h⊢;unfold D2
 by_cases hlt:i<w.Vol.At.length
 .rw [El hlt,Zu,Dp (d:=0) rfl hlt,Zb];refine XcA (P:=λo=>(∃at' c3,o=.inl (at',wch w c3)/\MV P nB S w bod frm to (i+1) at' c3)\/∃r,o=.inr r/\Uf P nB S w bod frm to r) ?_ λo ho=>?_
  rotate_left
  .rcases ho with⟨at',c3,rfl,h3⟩|⟨r,rfl,h3⟩
   .rw [ZU,CB,ZL (by omega),Zb];exact Xez ⟨i+1,c3,rfl,rfl,by omega,h3⟩ (by show w.Vol.At.length-(i+1)<w.Vol.At.length-(i:Int).toNat;omega)
   .rw [A2];exact AN (.inr ⟨r,rfl,h3⟩)
  rcases hw.gi.2 i hlt with g|⟨k0,j,g,a1,a2,a3,a4,a5,a6,a7⟩
  .rw [g.1,show(!decide ((0:Int)=0))=false from rfl,BN,Zb,BN,Zb,show decide ((0:Int)=0)=true from rfl,XcX,Zu];refine XbE (.inl ⟨_,_,rfl,h.skip λj hj e=>?_⟩);have:=ET (P:=P) (k:=frm) (j:=j);rw[g.1]at e;omega
  .have hlp:=ET (P:=P) (k:=k0) (j:=j);have hll:=PV (P:=P) a3 a4;have:nB*P<=11*8:=Xb5 hg.b11 hg.p8;have hq:=Lt (k:=k0) a4;have hne0:decide (Fc P k0 j=0)=false:=by rw[decide_eq_false_iff_not];omega
   rw[a1,hne0,Xas,Av,Ax (by omega) (by omega),Zb,Av,hc.pgs,G7 (by omega) (by omega),Zb,hq.1,XbL]
   by_cases hkf:k0=frm
   .subst hkf;rw[Zg (by simp)];have hold7:at7.getD i 0=Fc P k0 j:=(h.rest i (Xau _)).trans a1;have hil:i<at7.length:=by rw[h.len];exact hlt
    have hhd:=h.gi.held;have hA2:GI P nB c2 w.Vol.At bod:=h.fr.gi (λx hx=>hx) hw.gi;have hop2:=h.ops;have hopl:=h.fr.opsl
    -- the block
    refine XcA (P:=λo=>(∃k:Nat,o=.inl (k:Int)/\2<=k/\k<nB/\k≠k0/\(blk c2 k).Bad=false/\(blk c2 k).Used<P/\((k:Int)=to\/(to=-1/\0<ZK P w.Vol.At k)))\/(o=.inr (false,6,wch w c2)/\to=-1)) ?_ λo ho=>?_
    .rcases hto with⟨k,rfl,k2,kB,kn,kb,ku,kl⟩|⟨rfl,hall⟩
     .rw [Zg (by simp)];obtain⟨u1,u2,u3,u4⟩:=h.used k k2 kB kn;have ht:=h.tot k rfl;have hlf:ZK P w.Vol.At k0<=P:=KI;have hl1:ZK P at7 k0≠0:=λe=>DW.1 e j a4 (FQ.2 ⟨i,hil,hold7⟩)
      exact XbE (.inl ⟨k,rfl,k2,kB,kn,by rw[u3];exact kb,by omega,.inl rfl⟩)
     .rw [Zj (by decide),show idx [(wch w c2).Vol.At,[]] (1:Int)=some []from rfl,Zb];have hfl:([(wch w c2).Vol.At,[]].set 1 at7).flatten=w.Vol.At++at7:=by simp[wch]
      have hvv:NL P nB c2 (w.Vol.At++at7):=(h.fr.held hv).app hhd;rw[OZ (w:=wch w c2) h.fr.ci hg (lists:=[(wch w c2).Vol.At,[]].set 1 at7) (by rw[hfl];exact hvv) (by simp) (λl hl=>by
       simp at hl;rcases hl with rfl|rfl
       .show w.Vol.At.length<=1000;omega
       .rw [h.len];omega),Zb,hfl,Ax (by omega) (by omega),Zb,show((k0:Int)-2)=((k0-2:Nat):Int)by omega,Dp (d:=Qa) rfl (by rw[B7];omega),Zb,Zb,Xak]
      have hot:(AR P nB (wch w c2).Vol.Chip (w.Vol.At++at7)).set (k0-2) ⟨0,0,0,true⟩=Ez P nB c2 (w.Vol.At++at7) (k0-2):=rfl;rw[hot];obtain⟨r1,hr1,hf1⟩:=Gm (Ez P nB c2 (w.Vol.At++at7) (k0-2)) (P:Int);rw[hr1,Zb];rcases UC (L2 h.fr.ci hg hvv) hf1 with⟨q,hq',rfl,b1⟩|⟨rfl,_⟩
      .rw [XaC,Zq];rw[OD]at b1;rw[PO]at hq'
       by_cases e:q=k0-2
       .rw [if_pos e]at b1;cases b1
       .rw [if_neg e]at b1;cases hbad:(blk c2 (q+2)).Bad
        .rw [Ap hbad]at b1;unfold QC at b1;rw[Aa (by omega) (by omega),Zb];obtain⟨u1,u2,u3,u4⟩:=h.used (q+2) (by omega) (by omega) (by omega);refine XbE (.inl ⟨q+2,rfl,by omega,by omega,by omega,hbad,by simpa using b1,.inr ⟨rfl,hall (q+2) (by omega) (by omega) (by omega) ?_⟩⟩);rw[<-u3];exact hbad
        .rw [Fj hbad]at b1;cases b1
      .rw [Xas,Zu];exact XbE (.inr ⟨rfl,rfl⟩)
    .rcases ho with⟨k,rfl,k2,kB,kn,kb,ku,kto⟩|⟨rfl,rfl⟩
     .have hB:=h.fr.ci.blkR kB;have hne:w.Vol.At.getD i 0≠0:=by rw[a1];omega
      have hmay:=(hw.gi.2 i hlt).may hc hne;have hPM:Qi ⟨1,i,w.Vol.Gen+1,bod.getD i []⟩ S:=by
       have:=hg.s24;have:=hg.s256;exact⟨⟨by omega,by omega⟩,.inl rfl,by show(0:Int)<=(i:Int);omega,by show(i:Int)<64;omega,hgm.1,hmay.2⟩
      have hbn:bod.getD i []≠[]:=a7;have hlen:=(Kv (n:=S) hPM rfl).1;have hput:Y4 ⟨1,i,w.Vol.Gen+1,bod.getD i []⟩ (S:Int)=(BP (BR ⟨1,i,w.Vol.Gen+1,bod.getD i []⟩ S),0):=by
       unfold Y4;rw[if_pos hPM,Xak]
      rw[ZU,show GN (wch w c2).Vol (i:Int)=some (bod.getD i [])from Zd0 rfl h.fr.ci hg hA2 hlt hne,Zb,Zb,show(wch w c2).Vol.Chip.Size=(S:Int)from h.fr.ci.siz,
       show(⟨1,(i:Int),(wch w c2).Vol.Gen+Xap 1,bod.getD i []⟩:B9)=⟨1,i,w.Vol.Gen+1,bod.getD i []⟩from rfl,I6,Zb,hput,Zg (by simp),show(wch w c2).Vol.Chip=c2 from rfl,h.fr.ci.idxB rfl kB,Zb]
      refine XcA (JP (w:=wch w c2) (k:=k) rfl h.fr.ci h.off kB kb ku hlen (by show c2.Ops<De;unfold De;omega)) λr ⟨c3,e,hr,g⟩=>?_
      have g:Rf P nB S c2 c3 k (BP (BR ⟨1,i,w.Vol.Gen+1,bod.getD i []⟩ S)) e:=g;subst hr;have gops:=g.ops;have gm:=g.many;have hbb:=h.bad
      by_cases e0:e=0
      .subst e0;have hjP:(blk c2 k).Used.toNat<P:=by omega
       have hkP:k*P<=11*8:=Xb5 (by omega) g4;have hmul:(k:Int)*(P:Int)=((k*P:Nat):Int):=by simp
       rw[Zg (by simp),Gb (by rw[hmul];omega) (by rw[hmul];omega),Zb,hmul,Aa (by omega) (by omega),Zb,Aa (by omega) (by omega),Zb,Dp (d:=0) rfl hil,Zb,Zb,Xak];have hnl:((k*P:Nat):Int)+(blk c2 k).Used+1=Fc P k (blk c2 k).Used.toNat:=by unfold Fc;omega
       rw[hnl];exact XbE (.inl ⟨_,c3,rfl,h.step hg hv hlt a4 a1 k2 kB kn kb ku kto hPM hbn g⟩)
      .rw [Zj (by simpa using e0)];have hfr:=h.fr.trans (g.fr (s:=w.Vol.At) k2);have hnf:w.Vol.Chip.Faults≠[]:=λa=>e0 (g.nf (h.fr.flt.trans a))
       unfold AO
       by_cases e9:e=9
       .rw [Zj (by simpa using e9),Zb];rw[if_pos e9]at gm;exact XbE (.inr ⟨_,rfl,c3,by omega,by omega,by omega,hfr.flt,.inr (.inl ⟨rfl,hfr,by rw[g.off,e9];rfl,by omega,hnf⟩)⟩)
       .rw [Zg (by simpa using e9),Zb];rw[if_neg e9]at gm;have e7:e=7:=by have:=g.err;omega
        exact XbE (.inr ⟨_,rfl,c3,by omega,by omega,by omega,hfr.flt,.inr (.inr (.inr ⟨e,.inl e7,rfl,hw.mfr hfr (λx hx=>hx),λx=>hnf x.1⟩))⟩)
     .rw [A2];exact XbE (.inr ⟨_,rfl,c2,by rw[h.bad];exact Xau _,by omega,by omega,h.fr.flt,.inr (.inr (.inl ⟨rfl,h.fr,h.off,rfl⟩))⟩)
   .rw [Zj (by rw[decide_eq_true_iff];omega)];exact XbE (.inl ⟨_,_,rfl,h.skip λj' hj' e=>hkf (Ls a4 hj' (a1.symm.trans e)).1⟩)
 .rw [I9 (by omega),Zq];have:i=w.Vol.At.length:=by omega
  subst this;exact AN (.inl ⟨_,_,rfl,h⟩)
def mW(P:Nat)(w:Wear):Int:=if w.Bad then 0 else if w.Live=0 then(if 0<w.Used/\w.Used<P then 1 else 0)else w.Used-w.Live
def mR(P nB:Nat)(c:Chip)(seen:List Int):Int:=Ce (λq=>mW P (wq P c seen q)) (nB-2)
theorem Xo{P:Nat}{c:Chip}{s:List Int}{k:Nat} (h:(blk c k).Bad=true):mW P (AB P c s k)=0:=by rw[Fj h];rfl
theorem Hg{P:Nat}{c:Chip}{s:List Int}{k:Nat} (h:(blk c k).Bad=false):mW P (AB P c s k)=if ZK P s k=0 then(if 0<(blk c k).Used/\(blk c k).Used<P then 1 else 0)else(blk c k).Used-(ZK P s k:Int):=by
 rw[Ap h];unfold mW;dsimp only;rw[if_neg (by decide)]
 by_cases e:ZK P s k=0
 .rw [if_pos e,if_pos (by omega)]
 .rw [if_neg e,if_neg (by omega)]
theorem R0{P nB:Nat}{c:Chip}{s:List Int}{k:Nat} (hv:NL P nB c s) (h0:0<=(blk c k).Used):(ZK P s k:Int)<=(blk c k).Used:=by
 have:ZK P s k<=(blk c k).Used.toNat:=M1 λj hj hp=>by
  have hp:Fc P k j∈s:=by simpa using hp
  rcases Xf3 (j:Int) (blk c k).Used with x|x
  .omega
  .exact absurd hp (QI hv hj x)
 omega
theorem UQ{P nB S:Nat}{c:Chip}{s:List Int}{k:Nat} (hc:CI P nB S c) (hg:Geo P nB S) (hv:NL P nB c s) (kB:k<nB):0<=mW P (AB P c s k)/\mW P (AB P c s k)<=P:=by
 have hB:=hc.blkR kB;have hl:=R0 hv hB.2.1;have:=hg.p2;cases hb:(blk c k).Bad
 .rw [Hg hb]
  split
  .split<;>omega
  .omega
 .rw [Xo hb];omega
theorem QH{P nB S:Nat}{c:Chip}{s:List Int} (hc:CI P nB S c) (hg:Geo P nB S) (hv:NL P nB c s):0<=mR P nB c s/\mR P nB c s<=72:=by
 have g2:=hg.b11;have g4:=hg.p8;have:=NN (g:=λq=>mW P (wq P c s q)) (c:=8) (n:=nB-2) λk hk=>by
  have:=UQ (k:=k+2) hc hg hv (by omega);exact⟨this.1,by show mW P (AB P c s (k+2))<=8;omega⟩
 unfold mR;omega
theorem Iu{f g:Nat->Int}:∀{n:Nat},(∀k,k<n->f k<=g k)->Ce f n<=Ce g n
 | 0,_=>XaJ _
 | n+1,h=>by
  have:=Iu (n:=n) λk hk=>h k (by omega)
  have:=h n (by omega);simp only[Ce];omega
theorem PB{f g:Nat->Int}{q:Nat}:∀{n:Nat},(∀k,k<n->f k<=g k)->q<n->f q+1<=g q->Ce f n+1<=Ce g n
 | n+1,h,hq,hl=>by
  simp only[Ce]
  by_cases e:q=n
  .subst e;have:=Iu (f:=f) (g:=g) (n:=q) λk hk=>h k (by omega)
   omega
  .have:=PB (n:=n) (λk hk=>h k (by omega)) (by omega) hl;have:=h n (by omega);omega
theorem Ti{P nB:Nat}{c c':Chip}{s t:List Int}{frm:Nat} (f2:2<=frm) (fB:frm<nB) (h:∀q,2<=q->q<nB->mW P (AB P c' t q)<=mW P (AB P c s q)) (hl:mW P (AB P c' t frm)+1<=mW P (AB P c s frm)):mR P nB c' t+1<=mR P nB c s:=
 PB (q:=frm-2) (λk hk=>h (k+2) (by omega) (by omega)) (by omega) (by
  show mW P (AB P c' t (frm-2+2))+1<=mW P (AB P c s (frm-2+2));rw[show frm-2+2=frm by omega];exact hl)
theorem UR{P:Nat}{c c':Chip}{s t:List Int}{k:Nat} (hb:blk c' k=blk c k) (hl:ZK P t k=ZK P s k):mW P (AB P c' t k)=mW P (AB P c s k):=by
 unfold AB;rw[hb,hl]
theorem ON{P nB:Nat}{c:Chip}{s:List Int}{k:Nat} (k2:2<=k) (kB:k<nB) (hb:(blk c k).Bad=false) (hl:ZK P s k=0):1<=Bb P nB c s:=by
 rcases XbB (Bb P nB c s)with e|e
 .exfalso
  have:=KG e (k-2) (by omega);unfold CN wq at this;rw[show k-2+2=k by omega,Ap hb,hl]at this;simp at this
 .exact e
theorem XA{P nB:Nat}{c:Chip}{s:List Int} (h:1<=Bb P nB c s):∃k,2<=k/\k<nB/\(blk c k).Bad=false/\ZK P s k=0:=by
 by_cases hh:∃k,2<=k/\k<nB/\(blk c k).Bad=false/\ZK P s k=0
 .exact hh
 .exfalso
  have:Bb P nB c s=0:=KH λq hq=>by
   show CN (AB P c s (q+2))=false;cases hb:(blk c (q+2)).Bad
   .rw [Ap hb];unfold CN;have:ZK P s (q+2)≠0:=λe=>hh ⟨q+2,by omega,by omega,hb,e⟩
    simp;omega
   .rw [Fj hb];rfl
  omega
theorem Pd.mR{P nB S:Nat}{c c':Chip}{s:List Int}{k:Nat}{e:Int} (h:Pd P nB S c c' k e) (kB:k<nB) (kb:(blk c k).Bad=false) (hl:ZK P s k=0) (he:e=0\/e=9):∀q,2<=q->q<nB->mW P (AB P c' s q)<=mW P (AB P c s q):=λq q2 qB=>by
 by_cases eq:q=k
 .subst eq;rw[Hg kb,if_pos hl];rcases he with rfl|rfl
  .have hb:(blk c' q).Bad=false:=by rw[h.bad];rfl
   rw[Hg hb,if_pos hl,if_neg (by rw[h.used rfl];omega)]
   split<;>omega
  .have hb:(blk c' q).Bad=true:=by rw[h.bad];rfl
   rw[Xo hb]
   split<;>omega
 .rw [UR (h.oth q eq) rfl];exact XaJ _
def NF(c:Chip):Prop:=c.Faults=[]/\Aw c=0
def Zc0(P nB S:Nat)(w:Zc)(bod:List (List UInt8))(i:Nat)(r:Int×Zc):Prop:=
  Aw w.Vol.Chip<=Aw r.2.Vol.Chip/\w.Vol.Chip.Ops<=r.2.Vol.Chip.Ops/\r.2.Vol.Chip.Ops<=w.Vol.Chip.Ops+180/\r.2.Vol.Chip.Faults=w.Vol.Chip.Faults/\r.2.beyond=w.beyond/\r.2.Vol.At.length=w.Vol.At.length/\
  ((r.1=0/\WV P nB S r.2 bod/\(Aw w.Vol.Chip<Aw r.2.Vol.Chip\/mR P nB r.2.Vol.Chip r.2.Vol.At+1<=mR P nB w.Vol.Chip w.Vol.At)/\(NF w.Vol.Chip->Aw r.2.Vol.Chip=0/\1<=Bb P nB r.2.Vol.Chip r.2.Vol.At))\/
   (r.1=6/\WV P nB S r.2 bod/\∀k,2<=k->k<nB->k≠i+2->(blk w.Vol.Chip k).Bad=false->0<ZK P w.Vol.At k)\/
   ((r.1=7\/r.1=9)/\MOK P nB S r.2.Vol.Chip bod/\¬NF w.Vol.Chip))
theorem Wb{l:List Wear}(h:l.length<=1000):AJ l=some l:=by
 unfold AJ;rw[Aq (by omega) (by omega) (by omega),Zb]
theorem S5{w:Zc}{bod:List (List UInt8)}{i:Nat}{P nB S:Nat} (hw:WV P nB S w bod) (hg:Geo P nB S) (hi:i<nB-2) (hib:(blk w.Vol.Chip (i+2)).Bad=false) (hil:0<ZK P w.Vol.At (i+2)) (hilost:(ZK P w.Vol.At (i+2):Int)<(blk w.Vol.Chip (i+2)).Used)
  (hn:(w.Vol.At.length:Int)<=Ff S) (hops:w.Vol.Chip.Ops+300<=De):Et (BF w (AR P nB w.Vol.Chip w.Vol.At) (i:Int)) (Zc0 P nB S w bod i):=by
 have g1:=hg.b5;have g2:=hg.b11;have g3:=hg.p2;have g4:=hg.p8;have hc:=hw.ci;have hv:=hw.gi.held;have hD:(AR P nB w.Vol.Chip w.Vol.At).length=nB-2:=B7;have hops':=hops;unfold De at hops;have hiB:i+2<nB:=by omega
 have hblk:=hc.blkR hiB;unfold BF;rw[Wb (by omega),Zb,Bt (Zz (show i<(AR P nB w.Vol.Chip w.Vol.At).length by omega)),Zb,Xak,show(AR P nB w.Vol.Chip w.Vol.At).set i ⟨0,0,0,true⟩=Ez P nB w.Vol.Chip w.Vol.At i from rfl];refine XcA (Vw hc hg hw.off hv hi (by unfold De;omega)) λx hx=>?_
 -- the pages are moved, and the block is cleared
 have after:∀(w1:Zc) (to:Int),WV P nB S w1 bod->w1.Vol.At=w.Vol.At->w1.beyond=w.beyond->ZgG P nB w1 (i+2) to->blk w1.Vol.Chip (i+2)=blk w.Vol.Chip (i+2)->(∀q,2<=q->q<nB->mW P (AB P w1.Vol.Chip w.Vol.At q)<=mW P (AB P w.Vol.Chip w.Vol.At q))->
   Aw w1.Vol.Chip=Aw w.Vol.Chip->w1.Vol.Chip.Faults=w.Vol.Chip.Faults->w.Vol.Chip.Ops<=w1.Vol.Chip.Ops->w1.Vol.Chip.Ops<=w.Vol.Chip.Ops+17->(to=-1->∀k,2<=k->k<nB->k≠i+2->(blk w.Vol.Chip k).Bad=false->0<ZK P w.Vol.At k)->
   Et ((AC (i:Int) (2:Int)).bind λx_13=>(BU w1 x_13 to).bind λx_14=>(gb (!(!x_14.1)) (idx (AR P nB w.Vol.Chip w.Vol.At) (i:Int))).bind λx_16=>bif ((!x_14.1)||(decide (x_16.Used=x_14.2.2.Vol.Chip.Pages)))then(some (x_14.2.1,x_14.2.2))else((AC (i:Int) (2:Int)).bind λx_17=>(Ad x_14.2.2 x_17).bind λx_18=>(AO x_18.1).bind λx_20=>some (x_20,x_18.2)))
    (Zc0 P nB S w bod i):=by
  intro w1 to hw1 e1 e2 hto hb1 hm1 hbn hfl ho1 ho2 hall;rw[Aa (by omega) (by omega),Zb];refine XcA (ZaT (frm:=i+2) (z:=(i:Int)+2) rfl hw1 hg (by omega) hiB hto (by rw[e1];exact hn) (by unfold De;omega)) λr ⟨c',m1,m2,m3,m4,hr⟩=>?_
  rw[J0 (Zz (show i<(AR P nB w.Vol.Chip w.Vol.At).length by omega)),Zb,EH];have hnf1:NF w.Vol.Chip->w1.Vol.Chip.Faults=[]/\Aw w1.Vol.Chip=0:=λh=>⟨hfl.trans h.1,hbn.trans h.2⟩
  rcases hr with⟨at',last',rfl,hV,hl',hlv,hsm,hq,hnf⟩|⟨rfl,hfr,hoff,hbad,hnf⟩|⟨rfl,hfr,hoff,hto1⟩|⟨e,he,rfl,hmok,hnf⟩
  .have hgi':=hV.gi;have hv':=hgi'.held
   -- no other block is worse
   have hle:∀q,2<=q->q<nB->q≠i+2->mW P (AB P c' at' q)<=mW P (AB P w.Vol.Chip w.Vol.At q):=λq q2 qB qn=>by
    refine Int.le_trans ?_ (hm1 q q2 qB);obtain⟨u1,u2,u3,u4⟩:=hq q q2 qB qn;rw[e1]at u1 u2 u4;have hB1:=hw1.ci.blkR qB;have hv1:=hw1.gi.held;have hl1:=R0 (k:=q) hv1 hB1.2.1;cases hb:(blk c' q).Bad
    .rw [hb]at u3;rw[Hg hb,Hg u3.symm]
     by_cases h0:ZK P w.Vol.At q=0
     .rw [if_pos h0];rcases u4 with e|e|⟨e,e'⟩
      .rw [e]at u1;rw[if_pos (by omega),e];exact XaJ _
      .rcases hto with⟨k',ek,_,_,_,_,ku,kl⟩|⟨ek,_⟩
       .have:q=k':=by omega
        subst this;rw[if_neg (by omega:¬(0<(blk w1.Vol.Chip q).Used/\(blk w1.Vol.Chip q).Used<P))]
        split
        .split<;>omega
        .omega
       .omega
      .omega
     .rw [if_neg h0,if_neg (by omega)];omega
    .rw [Xo hb];exact(UQ hw1.ci hg (by rw[<-e1];exact hv1) qB).1
   have hm0:mW P (AB P w.Vol.Chip w.Vol.At (i+2))=(blk w.Vol.Chip (i+2)).Used-(ZK P w.Vol.At (i+2):Int):=by rw[Hg hib,if_neg (by omega)]
   have hb':(blk c' (i+2)).Bad=false:=by rw[hsm,hb1];exact hib
   have hpg:c'.Pages=P:=hV.ci.pgs;dsimp only;rw[XaC,Xas,Zu,XbL,Ap hib,hpg];dsimp only;have hlen':at'.length=w.Vol.At.length:=hl'.trans (by rw[e1])
   by_cases hful:(blk w.Vol.Chip (i+2)).Used=P
   .rw [Zj (by simpa using hful)];refine XbE ⟨by show Aw w.Vol.Chip<=Aw c';omega,by show w.Vol.Chip.Ops<=c'.Ops;omega,by show c'.Ops<=_;omega,m4.trans hfl,e2,hlen',.inl ⟨rfl,hV,.inr ?_,λh=>⟨hnf (hnf1 h).1 (hnf1 h).2,ON (by omega) hiB hb' hlv⟩⟩⟩;refine Ti (frm:=i+2) (by omega) hiB (λq q2 qB=>?_) ?_
    .by_cases e:q=i+2
     .subst e;show mW P (AB P c' at' (i+2))<=_;rw[Hg hb',if_pos hlv,hsm,hb1,if_neg (by omega),hm0];omega
     .exact hle q q2 qB e
    .show mW P (AB P c' at' (i+2))+1<=_;rw[Hg hb',if_pos hlv,hsm,hb1,if_neg (by omega),hm0];omega
   .rw [Zg (by simpa using hful),Zb];refine XcA (Mh (w:=⟨⟨c',at',w1.Vol.Gen+1,last'⟩,w1.beyond⟩) (k:=i+2) (z:=(i:Int)+2) rfl hV.ci hg.s24 hV.off hiB hb' (by show c'.Ops+17<=De;unfold De;omega)) λr ⟨c3,e,hr,hcl⟩=>?_
    subst hr;have hcl:Pd P nB S c' c3 (i+2) e:=hcl;have hfr:=hcl.fr (s:=at') (by omega) hlv;have c1:=hcl.ops;have c2:=hcl.many;have hgen:((w1.Vol.Gen+1).toNat:Int)<=c'.Ops:=hV.gen;have cnf:NF w.Vol.Chip->e=0:=λh=>hcl.nf (m4.trans (hfl.trans h.1))
    unfold AO
    by_cases e7:e=7
    .rw [Zg (by simp[e7]),Zb];refine XbE ⟨by show Aw w.Vol.Chip<=Aw c3;omega,by show w.Vol.Chip.Ops<=c3.Ops;omega,by show c3.Ops<=_;omega,hcl.flt.trans (m4.trans hfl),e2,hlen',.inr (.inr ⟨.inl e7,⟨hcl.ci,_,_,_,hfr.ri hV.ri,hfr.gi (λx hx=>hx) hV.gi,by show _<=c3.Ops;omega⟩,λh=>by have:=cnf h;omega⟩)⟩
    .have hoff:c3.Off=false:=by rw[hcl.off];simpa using e7
     have hV3:VI P nB S c3 at' (w1.Vol.Gen+1) last' bod:=⟨hcl.ci,hoff,hfr.ri hV.ri,hfr.gi (λx hx=>hx) hV.gi,by omega⟩;have he09:e=0\/e=9:=by have:=hcl.err;omega
     refine XcA (P:=λx=>x=(0:Int)) ?_ λx hx=>?_
     .by_cases e9:e=9
      .rw [Zj (by simpa using e9)];exact XbE rfl
      .rw [Zg (by simpa using e9)];exact XbE (by show e=0;omega)
     subst hx;refine XbE ⟨by show Aw w.Vol.Chip<=Aw c3;omega,by show w.Vol.Chip.Ops<=c3.Ops;omega,by show c3.Ops<=_;omega,hcl.flt.trans (m4.trans hfl),e2,hlen',.inl ⟨rfl,hV3,?_,λh=>?_⟩⟩
     .by_cases e9:e=9
      .rw [if_pos e9]at c2;exact .inl (by show Aw w.Vol.Chip<Aw c3;omega)
      .right
       have e0:e=0:=by omega
       subst e0;have hb3:(blk c3 (i+2)).Bad=false:=by rw[hcl.bad];rfl
       have hz:mW P (AB P c3 at' (i+2))=0:=by rw[Hg hb3,if_pos hlv,hcl.used rfl,if_neg (by omega)]
       refine Ti (frm:=i+2) (by omega) hiB (λq q2 qB=>?_) ?_
       .show mW P (AB P c3 at' q)<=_
        by_cases e:q=i+2
        .subst e;rw[hz,hm0];omega
        .rw [UR (hcl.oth q e) rfl];exact hle q q2 qB e
       .show mW P (AB P c3 at' (i+2))+1<=_;rw[hz,hm0];omega
     .have e0:=cnf h;subst e0;exact⟨by show Aw c3=0;rw[c2,hnf (hnf1 h).1 (hnf1 h).2];rfl,ON (by omega) hiB (by show(blk c3 (i+2)).Bad=false;rw[hcl.bad];rfl) hlv⟩
  .dsimp only;rw[Xas,XcX,Zu];refine XbE ⟨by show Aw w.Vol.Chip<=Aw c';omega,by show w.Vol.Chip.Ops<=c'.Ops;omega,by show c'.Ops<=_;omega,m4.trans hfl,e2,by show w1.Vol.At.length=_;rw[e1],.inl ⟨rfl,hw1.fr hfr (λx hx=>hx) hoff,.inl (by show Aw w.Vol.Chip<Aw c';omega),λh=>absurd (hnf1 h).1 hnf⟩⟩
  .dsimp only;rw[Xas,XcX,Zu];exact XbE ⟨by show Aw w.Vol.Chip<=Aw c';omega,by show w.Vol.Chip.Ops<=c'.Ops;omega,by show c'.Ops<=_;omega,m4.trans hfl,e2,by show w1.Vol.At.length=_;rw[e1],.inr (.inl ⟨rfl,hw1.fr hfr (λx hx=>hx) hoff,hall hto1⟩)⟩
  .dsimp only;rw[Xas,XcX,Zu];exact XbE ⟨by show Aw w.Vol.Chip<=Aw c';omega,by show w.Vol.Chip.Ops<=c'.Ops;omega,by show c'.Ops<=_;omega,m4.trans hfl,e2,by show w1.Vol.At.length=_;rw[e1],.inr (.inr ⟨he,hmok,λh=>hnf (hnf1 h)⟩)⟩
 obtain⟨r0,hr0⟩:∃r0,Ir (Ez P nB w.Vol.Chip w.Vol.At i) (P:Int)=some r0:=⟨_,Rw _ _⟩;rcases hx with⟨k,k2,kB,kn,kb,kl,⟨hx,ku⟩|⟨c',e,hx,hcl⟩⟩|⟨hx,hall⟩
 .subst hx;dsimp only;rw[show decide ((0:Int)=6)=false from rfl,BN,Zb,BN,Zb,Xb4,Zq,Zb,CB,Zg (by simp)];have hh:=after w k hw rfl rfl (.inl ⟨k,rfl,k2,kB,kn,kb,ku,kl⟩) rfl (λq _ _=>XaJ _) rfl rfl (XaJ _) (by omega) (λe=>by omega);exact hh
 .subst hx;dsimp only;have he:=hcl.err;have hfr:=hcl.fr (s:=w.Vol.At) k2 kl;have c1:=hcl.ops;have c2:=hcl.many;have cnf:NF w.Vol.Chip->e=0:=λh=>hcl.nf h.1
  rw[show decide (e=6)=false by rw[decide_eq_false_iff_not];omega,BN,Zb,BN,Zb,Xb4,Zq,Zb,CB]
  by_cases e0:e=0
  .subst e0;rw[Zg (by simp)];have hoff:c'.Off=false:=by rw[hcl.off];rfl
   exact after (wch w c') k (hw.fr hfr (λx hx=>hx) hoff) rfl rfl (.inl ⟨k,rfl,k2,kB,kn,by show(blk c' k).Bad=false;rw[hcl.bad];rfl,hcl.used rfl,kl⟩) (hcl.oth _ (Xc3 kn)) (hcl.mR kB kb kl (.inl rfl)) (by show Aw c'=_;rw[c2];rfl) hcl.flt c1.1 c1.2 (λe=>by omega)
  .rw [Zj (by simpa using e0)];unfold AO
   by_cases e9:e=9
   .rw [Zj (by simpa using e9),Zb];rw[if_pos e9]at c2;have hoff:c'.Off=false:=by rw[hcl.off,e9];rfl
    exact XbE ⟨by show Aw w.Vol.Chip<=Aw c';omega,c1.1,by show c'.Ops<=_;omega,hcl.flt,rfl,rfl,.inl ⟨rfl,hw.fr hfr (λx hx=>hx) hoff,.inl (by show Aw w.Vol.Chip<Aw c';omega),λh=>absurd (cnf h) e0⟩⟩
   .rw [Zg (by simpa using e9),Zb];exact XbE ⟨by show Aw w.Vol.Chip<=Aw c';omega,c1.1,by show c'.Ops<=_;omega,hcl.flt,rfl,rfl,.inr (.inr ⟨.inl (by show e=7;omega),hw.mfr hfr (λx hx=>hx),λh=>e0 (cnf h)⟩)⟩
 .subst hx;dsimp only;rw[show decide ((6:Int)=6)=true from rfl,Av,hc.pgs,hr0,Zb,Av,Bt (Zz (show i<(AR P nB w.Vol.Chip w.Vol.At).length by omega)),XbU]
  by_cases hroom:r0>=((AR P nB w.Vol.Chip w.Vol.At)[i]'(by omega)).Live
  .rw [Zj (by simpa using hroom),Zb,CB,Zg (by simp)];exact after w (-1) hw rfl rfl (.inr ⟨rfl,hall⟩) rfl (λq _ _=>XaJ _) rfl rfl (XaJ _) (by omega) (λ_=>hall)
  .rw [Zg (by simpa using hroom),Zb,CB,Zj (by simp)];unfold AO;rw[Zg (by simp),Zb];exact XbE ⟨Xau _,XaJ _,by show w.Vol.Chip.Ops<=_;omega,rfl,rfl,rfl,.inr (.inl ⟨rfl,hw,hall⟩)⟩
theorem Zbg{w:Zc}(h:w.Vol.Gen.toNat<=1099511627776):Cw w=some false:=by
 unfold Cw;have:¬Xap 281474976710656<=w.Vol.Gen+Xap 2:=by
  rw[Xfh,XdU];show ¬281474976710656<=(w.Vol.Gen.toNat+2)%18446744073709551616;omega
 rw[decide_eq_false this]
def YS(P nB S:Nat)(w:Zc)(bod:List (List UInt8))(r:Int×Zc):Prop:=
  Aw w.Vol.Chip<=Aw r.2.Vol.Chip/\w.Vol.Chip.Ops<=r.2.Vol.Chip.Ops/\r.2.Vol.Chip.Ops<=w.Vol.Chip.Ops+200/\r.2.Vol.Chip.Faults=w.Vol.Chip.Faults/\r.2.beyond=w.beyond/\r.2.Vol.At.length=w.Vol.At.length/\
  ((r.1=0/\WV P nB S r.2 bod/\(Aw w.Vol.Chip<Aw r.2.Vol.Chip\/mR P nB r.2.Vol.Chip r.2.Vol.At+1<=mR P nB w.Vol.Chip w.Vol.At)/\(NF w.Vol.Chip->Aw r.2.Vol.Chip=0/\1<=Bb P nB r.2.Vol.Chip r.2.Vol.At))\/
   (r.1=6/\WV P nB S r.2 bod/\(NF w.Vol.Chip->1<=Bb P nB w.Vol.Chip w.Vol.At->∀k,2<=k->k<nB->(blk w.Vol.Chip k).Bad=false->(0<ZK P w.Vol.At k->(blk w.Vol.Chip k).Used<=(ZK P w.Vol.At k:Int))/\(ZK P w.Vol.At k=0->(blk w.Vol.Chip k).Used=0\/(blk w.Vol.Chip k).Used=P)))\/
   ((r.1=7\/r.1=9)/\MOK P nB S r.2.Vol.Chip bod/\¬NF w.Vol.Chip))
theorem TB{w:Zc}{bod:List (List UInt8)}{P nB S:Nat} (hw:WV P nB S w bod) (hg:Geo P nB S) (hn:(w.Vol.At.length:Int)<=Ff S) (hops:w.Vol.Chip.Ops+400<=De):Et (BG w) (YS P nB S w bod):=by
 have g1:=hg.b5;have g2:=hg.b11;have g3:=hg.p2;have g4:=hg.p8;have hc:=hw.ci;have hv:=hw.gi.held;have hD:(AR P nB w.Vol.Chip w.Vol.At).length=nB-2:=B7;have hW:=Gy hc hg hv;have hgen:=hw.gen;have hal:=Ml hw.ri;unfold De at hops;unfold BG;rw[P5 hc hg hv (by omega),Zb]
 -- clearing what is dead
 have dead:∀w4:Zc,w4.Vol.Chip.Pages=P->((w4=w/\∀k,2<=k->k<nB->(blk w.Vol.Chip k).Bad=false->0<ZK P w.Vol.At k->(blk w.Vol.Chip k).Used<=(ZK P w.Vol.At k:Int))\/
   (WV P nB S w4 bod/\Aw w.Vol.Chip<=Aw w4.Vol.Chip/\w.Vol.Chip.Ops<=w4.Vol.Chip.Ops/\w4.Vol.Chip.Ops<=w.Vol.Chip.Ops+180/\w4.Vol.Chip.Faults=w.Vol.Chip.Faults/\w4.beyond=w.beyond/\w4.Vol.At.length=w.Vol.At.length/\∀k,2<=k->k<nB->(blk w.Vol.Chip k).Bad=false->0<ZK P w.Vol.At k))->
   Et ((Cc (AR P nB w.Vol.Chip w.Vol.At) (⟨λx0=>Bj x0 w4⟩:F1 Tryz.prog Wear Bool)).bind λx_12=>(EI x_12 w4.Vol.Chip.Pages).bind λr_14=>bif (!r_14.2)then(some ((6:Int),w4))else((AC r_14.1 (2:Int)).bind λx_15=>(Ad w4 x_15).bind λx_16=>(AO x_16.1).bind λx_18=>some (x_18,x_16.2)))
    (YS P nB S w bod):=by
  intro w4 hp4 hcase;rw[MQ (R:=λx=>decide (x.Used<w4.Vol.Chip.Pages)&&decide (x.Worn<1099511627776)) (λx=>rfl) (by omega),Zb];obtain⟨r3,hr3,hf3⟩:=HI ((AR P nB w.Vol.Chip w.Vol.At).map (HE λx=>decide (x.Used<w4.Vol.Chip.Pages)&&decide (x.Worn<1099511627776))) w4.Vol.Chip.Pages;rw[hr3,Zb];rw[hp4]at hf3;rcases Zdp (S:=S) (nB:=nB) hW (by rfl) hf3 with⟨q,hq,rfl,b1,b2,b3⟩|⟨rfl,hno3⟩
  .rw [EH]at b1 b2 b3;rw[Fk]at b1;rw[Ap b1]at b2 b3;rw[hD]at hq;unfold RP at b3;simp at b2 b3;rcases hcase with⟨rfl,hvic⟩|⟨_,_,_,_,_,_,_,hall⟩
   .have hl0:ZK P w4.Vol.At (q+2)=0:=by omega
    rw[XaC,Zq,Aa (by omega) (by omega),Zb];refine XcA (Mh (w:=w4) (k:=q+2) (z:=(q:Int)+2) rfl hc hg.s24 hw.off (by omega) b1 (by unfold De;omega)) λr ⟨c3,e,hr,hcl⟩=>?_
    subst hr;have hfr:=hcl.fr (s:=w4.Vol.At) (by omega) hl0;have c1:=hcl.ops;have c2:=hcl.many;have cnf:NF w4.Vol.Chip->e=0:=λh=>hcl.nf h.1
    unfold AO
    by_cases e7:e=7
    .rw [Zg (by simp[e7]),Zb];exact XbE ⟨hfr.many,c1.1,by show c3.Ops<=_;omega,hcl.flt,rfl,rfl,.inr (.inr ⟨.inl e7,hw.mfr hfr (λx hx=>hx),λh=>by have:=cnf h;omega⟩)⟩
    .have hoff:c3.Off=false:=by rw[hcl.off];simpa using e7
     have hV3:=hw.fr hfr (λx hx=>hx) hoff;have he09:e=0\/e=9:=by have:=hcl.err;omega
     refine XcA (P:=λx=>x=(0:Int)) ?_ λx hx=>?_
     .by_cases e9:e=9
      .rw [Zj (by simpa using e9)];exact XbE rfl
      .rw [Zg (by simpa using e9)];exact XbE (by show e=0;omega)
     subst hx;refine XbE ⟨hfr.many,c1.1,by show c3.Ops<=_;omega,hcl.flt,rfl,rfl,.inl ⟨rfl,hV3,?_,λh=>?_⟩⟩
     .by_cases e9:e=9
      .rw [if_pos e9]at c2;exact .inl (by show Aw w4.Vol.Chip<Aw c3;omega)
      .right
       have e0:e=0:=by omega
       refine Ti (frm:=q+2) (by omega) (by omega) (hcl.mR (by omega) b1 hl0 (.inl e0)) ?_;show mW P (AB P c3 w4.Vol.At (q+2))+1<=_;have hb3:(blk c3 (q+2)).Bad=false:=by rw[hcl.bad,e0];rfl
       rw[Hg hb3,if_pos hl0,hcl.used e0,if_neg (by omega),Hg b1,if_pos hl0,if_pos (by omega)];exact XaJ _
     .have e0:=cnf h;subst e0;exact⟨by show Aw c3=0;rw[c2,h.2];rfl,ON (k:=q+2) (by omega) (by omega) (by show(blk c3 (q+2)).Bad=false;rw[hcl.bad];rfl) hl0⟩
   .have:=hall (q+2) (by omega) (by omega) b1;omega
  .rw [Xas,Zu];rcases hcase with⟨rfl,hvic⟩|⟨h1,h2,h3,h4,h5,h6,h7,hall⟩
   .refine XbE ⟨Xau _,XaJ _,by show w4.Vol.Chip.Ops<=_;omega,rfl,rfl,rfl,.inr (.inl ⟨rfl,hw,λ_ _ k k2 kB kb=>⟨hvic k k2 kB kb,λh0=>?_⟩⟩)⟩;have hu:=hc.blkR kB;have hwo:=hc.worn k kB;have:=hno3 (k-2) (by rw[hD];omega);rw[EH,show k-2+2=k by omega,Fk,Ap kb]at this;have y:=this kb;unfold RP at y;simp[h0]at y;rcases Xf3 (blk w4.Vol.Chip k).Used P with x|x
    .left
     have:=y x (by omega);omega
    .right;omega
   .exact XbE ⟨h2,h3,by show w4.Vol.Chip.Ops<=_;omega,h5,h6,h7,.inr (.inl ⟨rfl,h1,λ_ hid=>by
     obtain⟨k,k2,kB,kb,kl⟩:=XA hid;have:=hall k k2 kB kb;omega⟩)⟩
 refine XcA (P:=λ(o:Zc⊕(Int×Zc))=>(∃w4:Zc,o=.inl w4/\w4.Vol.Chip.Pages=P/\((w4=w/\∀k,2<=k->k<nB->(blk w.Vol.Chip k).Bad=false->0<ZK P w.Vol.At k->(blk w.Vol.Chip k).Used<=(ZK P w.Vol.At k:Int))\/
   (WV P nB S w4 bod/\Aw w.Vol.Chip<=Aw w4.Vol.Chip/\w.Vol.Chip.Ops<=w4.Vol.Chip.Ops/\w4.Vol.Chip.Ops<=w.Vol.Chip.Ops+180/\w4.Vol.Chip.Faults=w.Vol.Chip.Faults/\w4.beyond=w.beyond/\w4.Vol.At.length=w.Vol.At.length/\∀k,2<=k->k<nB->(blk w.Vol.Chip k).Bad=false->0<ZK P w.Vol.At k)))\/∃r,o=.inr r/\YS P nB S w bod r)
  (XcA (Vu hc hg hv (by unfold De;omega)) λx hx=>?_) λo ho=>?_
 .rw [Zbg (by omega)];rcases hx with⟨i,rfl,hi,hib,hil,hilost⟩|⟨hx,hvic⟩
  .dsimp only;rw[Av,Zb,Xas,XbU,Zu];refine XcA (S5 hw hg hi hib hil hilost hn (by unfold De;omega)) λr hr=>?_
   obtain⟨r1,r2,r3,r4,r5,r6,hr⟩:=hr;rcases hr with⟨h1,h2,h3,h4⟩|⟨h1,h2,h3⟩|⟨h1,h2,h3⟩
   .rw [Zj (by simp[h1])];exact XbE (.inr ⟨_,rfl,r1,r2,by show r.2.Vol.Chip.Ops<=_;omega,r4,r5,r6,.inl ⟨h1,h2,h3,h4⟩⟩)
   .rw [Zg (by simp[h1])];refine XbE (.inl ⟨_,rfl,h2.ci.pgs,.inr ⟨h2,r1,r2,r3,r4,r5,r6,λk k2 kB kb=>?_⟩⟩)
    by_cases e:k=i+2
    .rw [e];exact hil
    .exact h3 k k2 kB e kb
   .rw [Zj (by rw[decide_eq_true_iff];omega)];exact XbE (.inr ⟨_,rfl,r1,r2,by show r.2.Vol.Chip.Ops<=_;omega,r4,r5,r6,.inr (.inr ⟨h1,h2,h3⟩)⟩)
  .rw [hx,BN,Zb,Xb4,Zq];exact XbE (.inl ⟨w,rfl,hc.pgs,.inl ⟨rfl,hvic⟩⟩)
 .rcases ho with⟨w4,rfl,hp4,hcase⟩|⟨r,rfl,hr⟩
  .rw [ZU];exact dead w4 hp4 hcase
  .rw [A2];exact XbE hr
theorem Up{P D:Nat}:∀s:List Int,Ce (λq=>(ZK P s (q+2):Int)) D<=s.length
 | []=>by
  rw[MI λk _=>by rw[DW.2 λj _ h=>by cases h];rfl];exact XaJ _
 | x::s=>by
  have ih:=Up (P:=P) (D:=D) s;rw[XaP]
  by_cases h:∃k j,j<P/\x=Fc P k j/\x∉s
  .obtain ⟨k,j,hj,hx,hn⟩:=h;have hadd:=L6 (P:=P) (s:=s) (t:=x::s) (k:=k) (j:=j) hj (by rw[<-hx];exact hn) (λy=>by rw[Xa1,<-hx];exact or_comm)
   by_cases hk:2<=k/\k-2<D
   .have:=Oj (g:=λq=>(ZK P s (q+2):Int)) (g':=λq=>(ZK P (x::s) (q+2):Int)) (k:=k-2) (n:=D) (λq _ hq=>by
     show(ZK P (x::s) (q+2):Int)=(ZK P s (q+2):Int);rw[hadd,if_neg (by omega),Xbw]) hk.2
    rw[this];show _-(ZK P s (k-2+2):Int)+(ZK P (x::s) (k-2+2):Int)<=_;rw[show k-2+2=k by omega,hadd,if_pos rfl];omega
   .have:Ce (λq=>(ZK P (x::s) (q+2):Int)) D<=Ce (λq=>(ZK P s (q+2):Int)) D:=Iu λq hq=>by
     show(ZK P (x::s) (q+2):Int)<=(ZK P s (q+2):Int);rw[hadd,if_neg (by omega),Xbw];exact XaJ _
    omega
  .have:Ce (λq=>(ZK P (x::s) (q+2):Int)) D<=Ce (λq=>(ZK P s (q+2):Int)) D:=Iu λq hq=>by
    show(ZK P (x::s) (q+2):Int)<=(ZK P s (q+2):Int);rw[Hh (t:=s) λj hj=>?_]
    .exact XaJ _
    rw[Xa1];refine⟨λhh=>?_,.inr⟩;rcases hh with e|e
    .by_cases hs:x∈s
     .rw [e];exact hs
     .exact absurd ⟨q+2,j,hj,e.symm,hs⟩ h
    .exact e
   omega
theorem WY{P nB S:Nat}{c:Chip}{s:List Int} (hc:CI P nB S c) (hg:Geo P nB S) (hb:Aw c=0) (hv:NL P nB c s)
  (h:∀k,2<=k->k<nB->(blk c k).Bad=false->(0<ZK P s k->(blk c k).Used<=(ZK P s k:Int))/\(ZK P s k=0->(blk c k).Used=0\/(blk c k).Used=P)) :
  ((nB-3:Nat):Int)*P-s.length<=G4 P nB c s:=by
 have g1:=hg.b5;have hle:∀q,q<nB-2->(P:Int)-(ZK P s (q+2):Int)<=Fm P (wq P c s q)/\Lf P (wq P c s q)<=P:=λq hq=>by
  have kb:=N4 hc (k:=q+2) (by omega) hb;obtain⟨a,b⟩:=h (q+2) (by omega) (by omega) kb;have hB:=hc.blkR (k:=q+2) (by omega);unfold Lf Fm CN wq;rw[Ap kb];dsimp only;rw[if_neg (by decide),Xas,XbU]
  by_cases h0:ZK P s (q+2)=0
  .have:=b h0
   by_cases hu:(blk c (q+2)).Used=P
   .rw [if_pos ⟨by omega,hu⟩];refine⟨by omega,?_⟩
    split<;>omega
   .rw [if_neg (λx=>hu x.2)];refine⟨by omega,?_⟩
    split<;>omega
  .have:=a (by omega);rw[if_neg (by omega)];refine⟨by omega,?_⟩
   split<;>omega
 have h1:Ce (λq=>(P:Int)-(ZK P s (q+2):Int)) (nB-2)<=TM P nB c s:=Iu λq hq=>(hle q hq).1
 have h2:QE P nB c s<=P:=NU (by omega) λq hq=>(hle q hq).2
 have h3:∀n:Nat,Ce (λq=>(P:Int)-(ZK P s (q+2):Int)) n=(n:Int)*P-Ce (λq=>(ZK P s (q+2):Int)) n:=λn=>by
  induction n with
  | zero=>simp[Ce]
  | succ n ih=>
   simp only[Ce];rw[ih,Int.natCast_succ,Xg5];omega
 have h4:=Up (P:=P) (D:=nB-2) s;rw[h3]at h1;have h5:((nB-2:Nat):Int)*P=((nB-3:Nat):Int)*P+P:=by
  rw[show((nB-2:Nat):Int)=((nB-3:Nat):Int)+1 by omega,Xg5];omega
 unfold G4;omega
def Zgt(P nB S:Nat)(w:Zc)(bod:List (List UInt8))(need:Int)(r:Int×Zc):Prop:=
 Aw w.Vol.Chip<=Aw r.2.Vol.Chip/\w.Vol.Chip.Ops<=r.2.Vol.Chip.Ops/\r.2.Vol.Chip.Ops<=w.Vol.Chip.Ops+300000/\r.2.Vol.Chip.Faults=w.Vol.Chip.Faults/\r.2.Vol.At.length=w.Vol.At.length/\
 (((r.1=0\/r.1=5)/\WV P nB S r.2 bod)\/((r.1=7\/r.1=9)/\MOK P nB S r.2.Vol.Chip bod))/\
 (NF w.Vol.Chip->w.beyond=false->1<=Bb P nB w.Vol.Chip w.Vol.At->need+w.Vol.At.length<=((nB-3:Nat):Int)*P->r.1=0/\Aw r.2.Vol.Chip=0/\r.2.beyond=false/\1<=Bb P nB r.2.Vol.Chip r.2.Vol.At/\need<=G4 P nB r.2.Vol.Chip r.2.Vol.At)
def phi(P nB:Nat)(w:Zc):Int:=100*((nB:Int)-Aw w.Vol.Chip)+mR P nB w.Vol.Chip w.Vol.At
theorem Ox{P nB S:Nat}{w:Zc}{bod:List (List UInt8)} (h:WV P nB S w bod) (hg:Geo P nB S):0<=phi P nB w/\phi P nB w<=1172:=by
 have a:=QH h.ci hg h.gi.held;have b:=Jn h.ci;have:=hg.b11;unfold phi;omega
theorem WX{w:Zc}{bod:List (List UInt8)}{need:Int}{P nB S:Nat} (hw:WV P nB S w bod) (hg:Geo P nB S) (hn:(w.Vol.At.length:Int)<=Ff S) (hops:w.Vol.Chip.Ops+300400<=De):Et (Cp w need) (Zgt P nB S w bod need):=by
 have g1:=hg.b5;have g2:=hg.b11;have g3:=hg.p2;have g4:=hg.p8;have hops':=hops;unfold De at hops;unfold Cp;have hph:=Ox hw hg;refine Xda (λs=>WV P nB S s bod/\Aw w.Vol.Chip<=Aw s.Vol.Chip/\w.Vol.Chip.Ops<=s.Vol.Chip.Ops/\s.Vol.Chip.Ops+200*phi P nB s<=w.Vol.Chip.Ops+200*phi P nB w/\s.Vol.Chip.Faults=w.Vol.Chip.Faults/\s.Vol.At.length=w.Vol.At.length/\
   (NF w.Vol.Chip->w.beyond=false->1<=Bb P nB w.Vol.Chip w.Vol.At->Aw s.Vol.Chip=0/\s.beyond=false/\1<=Bb P nB s.Vol.Chip s.Vol.At)) (λs=>(phi P nB s).toNat) (λs hs=>?_)
  ⟨hw,Xau _,XaJ _,XaJ _,rfl,rfl,λa b c=>⟨a.2,b,c⟩⟩ (by omega)
 obtain⟨hs,i1,i2,i3,i4,i5,i6⟩:=hs;have hps:=Ox hs hg;have hc:=hs.ci;have hv:=hs.gi.held;have hal:=Ml hs.ri;unfold DG;rw[Zaz hc hg hv (by omega),Zb];dsimp only
 by_cases hsome:G4 P nB s.Vol.Chip s.Vol.At>=need
 .rw [Zj (by simpa using hsome)];exact AN ⟨i1,i2,by show s.Vol.Chip.Ops<=_;omega,i4,i5,.inl ⟨.inl rfl,hs⟩,λa b c _=>⟨rfl,(i6 a b c).1,(i6 a b c).2.1,(i6 a b c).2.2,hsome⟩⟩
 .rw [Zg (by simpa using hsome)];obtain⟨L,jL,hL1,hL2,-⟩:=id hs.ri;refine XcA (P:=λ(x:Int)=>NF w.Vol.Chip->w.beyond=false->1<=Bb P nB w.Vol.Chip w.Vol.At->TM P nB s.Vol.Chip s.Vol.At>=need->x=P) ((ZfK (c:=decide (TM P nB s.Vol.Chip s.Vol.At>=need)) λ_=>VP hc hg hL1 hL2).m λv hv a b c d=>hv (by simpa using d) (i6 a b c).1) λx hx=>?_
  by_cases hpl:TM P nB s.Vol.Chip s.Vol.At>=need/\x<2
  .rw [Zj (by simpa using hpl),Zb];refine AN ⟨i1,i2,by show s.Vol.Chip.Ops<=_;omega,i4,i5,.inl ⟨.inl rfl,hs⟩,λa b c d=>?_⟩;have:=hx a b c hpl.1;omega
  .rw [Zg (by rw[Xgf];intro hh;rw[Xaz,decide_eq_true_iff,decide_eq_true_iff]at hh;exact hpl hh)];refine XcA (TB hs hg (by rw[i5];exact hn) (by unfold De;omega)) λr hr=>?_
   obtain⟨r1,r2,r3,r4,r5,r6,hr⟩:=hr;have hnf:NF w.Vol.Chip->w.beyond=false->1<=Bb P nB w.Vol.Chip w.Vol.At->NF s.Vol.Chip:=λa b c=>⟨i4.trans a.1,(i6 a b c).1⟩
   rcases hr with⟨h1,h2,h3,h4⟩|⟨h1,h2,h3⟩|⟨h1,h2,h3⟩
   .rw [Zj (by simp[h1])];have hpr:=Ox h2 hg;have hm1:=QH hs.ci hg hs.gi.held;have hm2:=QH h2.ci hg h2.gi.held;have hdec:phi P nB r.2+1<=phi P nB s:=by
     unfold phi;rcases h3 with h|h<;>omega
    refine Xez ⟨h2,by omega,by omega,by omega,r4.trans i4,r6.trans i5,λa b c=>⟨(h4 (hnf a b c)).1,by rw[r5];exact(i6 a b c).2.1,(h4 (hnf a b c)).2⟩⟩ (by omega)
   .rw [Zg (by simp[h1]),Zg (by simp[h1])];have hkey:NF w.Vol.Chip->w.beyond=false->1<=Bb P nB w.Vol.Chip w.Vol.At->need+w.Vol.At.length<=((nB-3:Nat):Int)*P->False:=λa b c d=>by
     have:=WY hc hg (i6 a b c).1 hv (h3 (hnf a b c) (i6 a b c).2.2);rw[i5]at this;omega
    by_cases hall:TM P nB s.Vol.Chip s.Vol.At>=need
    .rw [Zj (by simpa using hall),Zb];exact AN ⟨by show Aw w.Vol.Chip<=Aw r.2.Vol.Chip;omega,by show w.Vol.Chip.Ops<=r.2.Vol.Chip.Ops;omega,by show r.2.Vol.Chip.Ops<=_;omega,r4.trans i4,r6.trans i5,.inl ⟨.inl rfl,h2⟩,λa b c d=>(hkey a b c d).elim⟩
    .rw [Zg (by simpa using hall)];exact AN ⟨by show Aw w.Vol.Chip<=Aw r.2.Vol.Chip;omega,by show w.Vol.Chip.Ops<=r.2.Vol.Chip.Ops;omega,by show r.2.Vol.Chip.Ops<=_;omega,r4.trans i4,r6.trans i5,.inl ⟨.inr rfl,h2⟩,λa b c d=>(hkey a b c d).elim⟩
   .rw [Zg (by rw[decide_eq_false_iff_not];omega),Zj (by rw[decide_eq_true_iff];omega)];exact AN ⟨by show Aw w.Vol.Chip<=Aw r.2.Vol.Chip;omega,by show w.Vol.Chip.Ops<=r.2.Vol.Chip.Ops;omega,by show r.2.Vol.Chip.Ops<=_;omega,r4.trans i4,r6.trans i5,.inr ⟨h1,h2⟩,λa b c _=>absurd (hnf a b c) h3⟩
def C8(l:List Fg)(bod:List (List UInt8)):List (List UInt8):=l.foldl (λb x=>b.set x.Id.toNat x.Body) bod
theorem Ht:∀(l:List Fg) (bod:List (List UInt8)),(C8 l bod).length=bod.length
 | [],_=>rfl
 | x::l,bod=>by
  show(C8 l (bod.set x.Id.toNat x.Body)).length=_;rw[Ht l,XaA]
theorem Nr{l:List Fg}{bod:List (List UInt8)}{i:Nat} (h:i<l.length):C8 (l.take (i+1)) bod=(C8 (l.take i) bod).set l[i].Id.toNat l[i].Body:=by
 unfold C8;rw[Cd h,XdZ];rfl
def Gt(l:List Fg):Nat:=l.countP λx=>decide (x.Body≠[])
theorem ZcW{w:Zc}{P nB S:Nat} (hc:CI P nB S w.Vol.Chip):Cb w=some (Aw w.Vol.Chip:Int):=by
 have hN:=hc.nat;have hlen:=hc.len;unfold Cb;refine Gg (XcA (P:=λv=>v=(Aw w.Vol.Chip:Int)) (Xda (σ:=Int×Int) (λs=>∃i:Nat,s.2=i/\i<=w.Vol.Chip.Blocks.length/\s.1=((w.Vol.Chip.Blocks.take i).countP (·.Bad):Int)) (λs=>w.Vol.Chip.Blocks.length-s.2.toNat) (λs hs=>?_)
  ⟨0,rfl,by omega,by simp⟩ (by show w.Vol.Chip.Blocks.length-0<_;omega)) λv hv=>by subst hv;exact XbE rfl)
 obtain⟨n,z⟩:=s;obtain⟨i,rfl,hi,hn⟩:=hs;dsimp only at hn⊢;subst hn;unfold Em
 by_cases hlt:i<w.Vol.Chip.Blocks.length
 .have hcl:(w.Vol.Chip.Blocks.take i).countP (·.Bad)<=(w.Vol.Chip.Blocks.take i).length:=Xdp;rw[Xa5]at hcl;have hst:(w.Vol.Chip.Blocks.take (i+1)).countP (·.Bad)=(w.Vol.Chip.Blocks.take i).countP (·.Bad)+if w.Vol.Chip.Blocks[i].Bad then 1 else 0:=by
   rw[Cd hlt,Xf2];simp[Xd4]
  rw[El hlt,Zu,Zz hlt,Zb];cases hb:w.Vol.Chip.Blocks[i].Bad
  .rw [Zq,Zb,ZL (by omega),Zb];refine Xez ⟨i+1,rfl,by omega,?_⟩ (by show w.Vol.Chip.Blocks.length-(i+1)<w.Vol.Chip.Blocks.length-(i:Int).toNat;omega);dsimp only;rw[hst,hb];simp
  .rw [Zu,Aa (by omega) (by omega),Zb,Zb,ZL (by omega),Zb];refine Xez ⟨i+1,rfl,by omega,?_⟩ (by show w.Vol.Chip.Blocks.length-(i+1)<w.Vol.Chip.Blocks.length-(i:Int).toNat;omega);dsimp only;rw[hst,hb];simp
 .rw [I9 (by omega),Zq];have:i=w.Vol.Chip.Blocks.length:=by omega
  subst this;refine AN ?_;rw[Xbp];rfl
theorem Zdx{l:List Fg}(hl:l.length<=1000000):ZN (λs=>Cz l s.1 s.2) ((0:Int),(0:Int))=some (Gt l:Int):=by
 refine Gg (Xda (σ:=Int×Int) (λs=>∃i:Nat,s.2=i/\i<=l.length/\s.1=(Gt (l.take i):Int)) (λs=>l.length-s.2.toNat) (λs hs=>?_) ⟨0,rfl,by omega,rfl⟩ (by show l.length-0<_;omega));obtain⟨n,z⟩:=s;obtain⟨i,rfl,hi,hn⟩:=hs;dsimp only at hn⊢;subst hn;unfold Cz
 by_cases hlt:i<l.length
 .have hcl:Gt (l.take i)<=(l.take i).length:=Xdp;rw[Xa5]at hcl;have hst:Gt (l.take (i+1))=Gt (l.take i)+if l[i].Body≠[]then 1 else 0:=by
   unfold Gt;rw[Cd hlt,Xf2];simp[Xd4]
  rw[El hlt,Zu,Zz hlt,Zb]
  by_cases hb:l[i].Body=[]
  .rw [Zg (by simp[hb]),Zb,ZL (by omega),Zb];refine Xez ⟨i+1,rfl,by omega,?_⟩ (by show l.length-(i+1)<l.length-(i:Int).toNat;omega);dsimp only;rw[hst,if_neg (by simpa using hb)];simp
  .have hpos:0<l[i].Body.length:=List.length_pos_iff.2 hb;rw[Zj (by simpa using hpos),Aa (by omega) (by omega),Zb,Zb,ZL (by omega),Zb];refine Xez ⟨i+1,rfl,by omega,?_⟩ (by show l.length-(i+1)<l.length-(i:Int).toNat;omega);dsimp only;rw[hst,if_pos hb];simp
 .rw [I9 (by omega),Zq];have:i=l.length:=by omega
  subst this;refine AN ?_;rw[Xbp]
theorem PD{P nB:Nat}{c:Chip}{s t:List Int} (h:∀k j,j<P->(Fc P k j∈s↔Fc P k j∈t)):G4 P nB c s=G4 P nB c t/\Bb P nB c s=Bb P nB c t:=by
 have hw:∀q,wq P c s q=wq P c t q:=λq=>by
  unfold wq AB;rw[Hh λj hj=>h _ j hj]
 unfold G4 TM QE Bb;have e:(λq=>wq P c s q)=λq=>wq P c t q:=funext hw
 constructor
 .simp only[hw]
 .simp only[hw]
structure BI(P nB S:Nat)(w1:Zc)(bod:List (List UInt8))(l:List Fg)(i:Nat)(at7:List Int)(c2:Chip):Prop where
 wv:WV P nB S (wch w1 c2) bod
 gi:GI P nB c2 at7 (C8 (l.take i) bod)
 flt:c2.Faults=w1.Vol.Chip.Faults
 many:Aw w1.Vol.Chip<=Aw c2
 ops:w1.Vol.Chip.Ops<=c2.Ops/\c2.Ops+18*(Aw w1.Vol.Chip:Int)<=w1.Vol.Chip.Ops+18*(Aw c2:Int)+18*(i:Int)
 rest:∀j,i<=j->(hj:j<l.length)->at7.getD l[j].Id.toNat 0=w1.Vol.At.getD l[j].Id.toNat 0
 nf:NF w1.Vol.Chip->w1.beyond=false->(Gt l:Int)<=G4 P nB w1.Vol.Chip w1.Vol.At->1<=Bb P nB w1.Vol.Chip w1.Vol.At->Aw c2=0/\(Gt (l.drop i):Int)<=G4 P nB c2 (w1.Vol.At++at7)/\1<=Bb P nB c2 (w1.Vol.At++at7)
theorem RW{l:List Fg}{i:Nat} (h:i<l.length):Gt (l.drop i)=Gt (l.drop (i+1))+if l[i].Body≠[]then 1 else 0:=by
 unfold Gt;rw[Xa0 h,Xd4]
 by_cases e:l[i].Body=[]<;>simp[e]
theorem ZcB{P nB:Nat}{c:Chip}{at7:List Int}{bod:List (List UInt8)}{id:Nat}{n:Int}{b:List UInt8} (h:GI P nB c at7 bod) (hid:id<at7.length) (hn:Zgx P nB c id n b):GI P nB c (at7.set id n) (bod.set id b):=by
 refine⟨by rw[XaA,XaA];exact h.1,λi hi=>?_⟩;rw[XaA]at hi;have hb:id<bod.length:=by rw[<-h.1];exact hid
 rw[Bw hid,Bw hb]
 by_cases e:i=id
 .subst e;rw[if_pos rfl,if_pos rfl];exact hn
 .rw [if_neg e,if_neg e];exact h.2 i hi
def ZfR(P nB S:Nat)(w:Zc)(bod:List (List UInt8))(l:List Fg)(r:Int×Zc):Prop:=
 Aw w.Vol.Chip<=Aw r.2.Vol.Chip/\w.Vol.Chip.Ops<=r.2.Vol.Chip.Ops/\r.2.Vol.Chip.Ops<=w.Vol.Chip.Ops+400000/\r.2.Vol.Chip.Faults=w.Vol.Chip.Faults/\r.2.Vol.At.length=w.Vol.At.length/\
 ((r.1=0/\WV P nB S r.2 (C8 l bod))\/(r.1=5/\WV P nB S r.2 bod)\/((r.1=7\/r.1=9)/\(MOK P nB S r.2.Vol.Chip bod\/MOK P nB S r.2.Vol.Chip (C8 l bod))))/\
 (NF w.Vol.Chip->1<=Bb P nB w.Vol.Chip w.Vol.At->(Gt l:Int)+w.Vol.At.length<=((nB-3:Nat):Int)*P->r.1=0/\Aw r.2.Vol.Chip=0/\1<=Bb P nB r.2.Vol.Chip r.2.Vol.At)
theorem Wk{w1:Zc}{bod:List (List UInt8)}{l:List Fg}{P nB S:Nat} (hw:WV P nB S w1 bod) (hg:Geo P nB S) (hn:(w1.Vol.At.length:Int)<=Ff S) (hl:ZeO S w1.Vol.At.length l) (hll:l.length<=1000) (hops:w1.Vol.Chip.Ops+30000<=De) :
  Et (ZN (λs=>Cy l s.1 s.2.1 s.2.2) ((0:Int),w1.Vol.At,w1)) (λo=>(∃at7 c2,o=.inl (at7,wch w1 c2)/\BI P nB S w1 bod l l.length at7 c2)\/
   ∃e c2,o=.inr (e,wch w1 c2)/\Aw w1.Vol.Chip<=Aw c2/\w1.Vol.Chip.Ops<=c2.Ops/\c2.Ops<=w1.Vol.Chip.Ops+20000/\c2.Faults=w1.Vol.Chip.Faults/\((e=5/\WV P nB S (wch w1 c2) bod)\/(e=7/\MOK P nB S c2 bod))/\
    ¬(NF w1.Vol.Chip/\w1.beyond=false/\(Gt l:Int)<=G4 P nB w1.Vol.Chip w1.Vol.At/\1<=Bb P nB w1.Vol.Chip w1.Vol.At)):=by
 have g2:=hg.b11;have hal:=Ml hw.ri;have hops':=hops;unfold De at hops;have hself:=PD (P:=P) (nB:=nB) (c:=w1.Vol.Chip) (s:=w1.Vol.At++w1.Vol.At) (t:=w1.Vol.At) λk j _=>by simp
 refine Xda (σ:=Int×List Int×Zc) (λs=>∃i:Nat,∃c2,s.1=i/\s.2.2=wch w1 c2/\i<=l.length/\BI P nB S w1 bod l i s.2.1 c2) (λs=>l.length-s.1.toNat) (λs hs=>?_)
  ⟨0,w1.Vol.Chip,rfl,rfl,by omega,hw,hw.gi,rfl,Xau _,⟨XaJ _,by omega⟩,λ_ _ _=>rfl,λa b c d=>⟨a.2,by dsimp only;rw[hself.1];exact c,by dsimp only;rw[hself.2];exact d⟩⟩ (by show l.length-0<_;omega)
 obtain⟨z,at7,w2⟩:=s;obtain⟨i,c2,rfl,rfl,hi,h⟩:=hs;dsimp only at h⊢;unfold Cy;have hbn:Aw c2<=nB:=Jn h.wv.ci;have hop:=h.ops
 by_cases hlt:i<l.length
 .obtain ⟨f1,f2,f3⟩:=hl.1 _ (Xax hlt);have hidz:l[i].Id=((l[i].Id.toNat:Nat):Int):=by omega
  have hlen7:at7.length=w1.Vol.At.length:=by rw[h.gi.1,Ht,hw.gi.1]
  have hid:l[i].Id.toNat<at7.length:=by omega
  have hold:=h.rest i (Xau _) hlt;have holdm:at7.getD l[i].Id.toNat 0∈w1.Vol.At:=by rw[hold,FQ];exact⟨_,by omega,rfl⟩
  have hnext:∀(n:Int) j,i+1<=j->(hj:j<l.length)->(at7.set l[i].Id.toNat n).getD l[j].Id.toNat 0=w1.Vol.At.getD l[j].Id.toNat 0:=λn j hij hj=>by
   have hne:l[j].Id≠l[i].Id:=λe=>by
    have:=hl.2;rw[List.nodup_iff_pairwise_ne,Xbz]at this;exact this i j (by simpa using hlt) (by simpa using hj) (by omega) (by simpa using e.symm)
   obtain⟨p1,p2,p3⟩:=hl.1 _ (Xax hj);rw[Bw hid,if_neg (by omega)];exact h.rest j (by omega) hj
  have hmem:∀(n x:Int),x∈w1.Vol.At++at7.set l[i].Id.toNat n↔x∈w1.Vol.At++at7\/x=n:=λn x=>by
   rw[Xar,Xar,KA hid]
   constructor
   .rintro (a|a|⟨q,_,a,b⟩)
    .exact .inl (.inl a)
    .exact .inr a
    .exact .inl (.inr (FQ.2 ⟨q,a,b⟩))
   .rintro ((a|a)|a)
    .exact .inl a
    .obtain ⟨q,b,d⟩:=FQ.1 a
     by_cases e:q=l[i].Id.toNat
     .rw [e]at d;rw[<-d];exact .inl holdm
     .exact .inr (.inr ⟨q,e,b,d⟩)
    .exact .inr (.inl a)
  rw[El hlt,Zu,Zz hlt,Zb];refine XcA (P:=λo=>(∃at8 c3,o=.inl (at8,wch w1 c3)/\BI P nB S w1 bod l (i+1) at8 c3)\/
   ∃e c2,o=.inr (e,wch w1 c2)/\Aw w1.Vol.Chip<=Aw c2/\w1.Vol.Chip.Ops<=c2.Ops/\c2.Ops<=w1.Vol.Chip.Ops+20000/\c2.Faults=w1.Vol.Chip.Faults/\((e=5/\WV P nB S (wch w1 c2) bod)\/(e=7/\MOK P nB S c2 bod))/\
    ¬(NF w1.Vol.Chip/\w1.beyond=false/\(Gt l:Int)<=G4 P nB w1.Vol.Chip w1.Vol.At/\1<=Bb P nB w1.Vol.Chip w1.Vol.At)) ?_ λo ho=>?_
  .by_cases hb:l[i].Body=[]
   .rw [Zj (by simp[hb]),Dp (d:=0) hidz hid,Zb,Zb];refine XbE (.inl ⟨_,c2,rfl,h.wv,?_,h.flt,h.many,⟨hop.1,by omega⟩,hnext 0,λa b c d=>?_⟩)
    .rw [Nr hlt];exact ZcB h.gi hid (.inl ⟨rfl,hb⟩)
    .obtain ⟨x1,x2,x3⟩:=h.nf a b c d;have:=PD (P:=P) (nB:=nB) (c:=c2) (s:=w1.Vol.At++at7.set l[i].Id.toNat 0) (t:=w1.Vol.At++at7) λk j _=>by
      rw[hmem];have:=ET (P:=P) (k:=k) (j:=j);exact⟨λy=>y.resolve_right (by omega),.inl⟩
     rw[this.1,this.2];rw[RW hlt,if_neg (by simpa using hb)]at x2;exact⟨x1,x2,x3⟩
   .have hblen:l[i].Body.length≠0:=λe=>hb (Xfn.1 e)
    have hgen:=hw.gen;have hPM:Qi ⟨1,l[i].Id,w1.Vol.Gen+1,l[i].Body⟩ S:=by
     have:=hg.s24;have:=hg.s256;have hM:Ff (S:Int)<=64:=by unfold Ff;omega
     exact⟨⟨by omega,by omega⟩,.inl rfl,f1,by show l[i].Id<64;omega,(To (by omega)).1,f3⟩
    rw[Zg (by simpa using hblen)];refine XcA (Xe (w:=wch w1 c2) (at':=at7) (p:=⟨1,l[i].Id,w1.Vol.Gen+1,l[i].Body⟩) h.wv.ci hg h.wv.off (h.wv.gi.held.app h.gi.held) (by show w1.Vol.At.length<=_;omega) (by omega) hPM (by show c2.Ops+300<=De;unfold De;omega)) λr ⟨n,e,c3,hr,hfr,hoff,hop3,he,h0,hnf⟩=>?_
    subst hr;have hfr:Fr P nB S (w1.Vol.At++at7) c2 c3:=hfr;have hop3:c3.Ops+18*(Aw c2:Int)<=c2.Ops+18*(Aw c3:Int)+18:=hop3;have hopl:=hfr.opsl;have hmy:=hfr.many;have hmy0:=h.many;have hbn3:=Jn hfr.ci;have hnf2:NF w1.Vol.Chip->w1.beyond=false->(Gt l:Int)<=G4 P nB w1.Vol.Chip w1.Vol.At->1<=Bb P nB w1.Vol.Chip w1.Vol.At->e=0/\Aw c3=0/\∀t,(∀x,x∈t↔x∈w1.Vol.At++at7\/x=n)->(Gt (l.drop (i+1)):Int)<=G4 P nB c3 t/\1<=Bb P nB c3 t:=λa b c d=>by
     obtain⟨x1,x2,x3⟩:=h.nf a b c d;rw[RW hlt,if_pos hb]at x2;exact hnf (h.flt.trans a.1) x1 b _ (by omega) (by show _<=G4 P nB c2 (w1.Vol.At++at7);omega) x3
    by_cases e0:e=0
    .subst e0;obtain⟨k,j,hnk,k2,kB,jP,ju,hpg,hni⟩:=h0 rfl;rw[Zg (by simp),Dp (d:=0) hidz hid,Zb,Zb];refine XbE (.inl ⟨_,c3,rfl,h.wv.fr hfr (λx hx=>Xbr _ hx) (by rw[hoff];rfl),?_,hfr.flt.trans h.flt,by omega,⟨by omega,by omega⟩,hnext n,λa b c d=>?_⟩)
     .rw [Nr hlt];refine ZcB (hfr.gi (λx hx=>XaL _ hx) h.gi) hid (.inr ⟨k,j,w1.Vol.Gen+1,hnk,k2,kB,jP,ju,?_,hb⟩);rw[hpg,QB (n:=S) hPM,<-hidz]
     .obtain ⟨_,x1,x2⟩:=hnf2 a b c d;exact⟨x1,x2 _ (hmem n)⟩
    .rw [Zj (by simpa using e0)];refine XbE (.inr ⟨e,c3,rfl,by omega,by omega,by omega,hfr.flt.trans h.flt,?_,λ⟨a,b,c,d⟩=>e0 (hnf2 a b c d).1⟩);rcases he with x|x|x
     .exact absurd x e0
     .exact .inl ⟨x,h.wv.fr hfr (λx hx=>Xbr _ hx) (by rw[hoff,x];rfl)⟩
     .exact .inr ⟨x,h.wv.mfr hfr (λx hx=>Xbr _ hx)⟩
  .rcases ho with⟨at8,c3,rfl,h3⟩|⟨e,c3,rfl,h3⟩
   .rw [ZU,CB,ZL (by omega),Zb];exact Xez ⟨i+1,c3,rfl,rfl,by omega,h3⟩ (by show l.length-(i+1)<l.length-(i:Int).toNat;omega)
   .rw [A2];exact AN (.inr ⟨e,c3,rfl,h3⟩)
 .rw [I9 (by omega),Zq];have:i=l.length:=by omega
  subst this;exact AN (.inl ⟨_,_,rfl,h⟩)
theorem X7{w:Zc}{bod:List (List UInt8)}{l:List Fg}{P nB S:Nat} (hw:WV P nB S w bod) (hg:Geo P nB S) (hn:(w.Vol.At.length:Int)<=Ff S) (hl:ZeO S w.Vol.At.length l) (hll:l.length<=1000) (hops:w.Vol.Chip.Ops+500000<=De) :
  Et (CA w l) (ZfR P nB S w bod l):=by
 have g2:=hg.b11;have hops':=hops;unfold De at hops;unfold CA;rw[Zdx (by omega),Zb,Zb];have hw0:WV P nB S ⟨w.Vol,false⟩ bod:=hw;refine XcA (WX (w:=⟨w.Vol,false⟩) (need:=(Gt l:Int)) hw0 hg hn (by show w.Vol.Chip.Ops+300400<=De;unfold De;omega)) λx ⟨s1,s2,s3,s4,s5,s6,s7⟩=>?_
 obtain⟨e1,w1⟩:=x;dsimp only at s1 s2 s3 s4 s5 s6 s7⊢;have hnfe:e1≠0->¬(NF w.Vol.Chip/\1<=Bb P nB w.Vol.Chip w.Vol.At/\(Gt l:Int)+w.Vol.At.length<=((nB-3:Nat):Int)*P):=λe0 ⟨a,b,c⟩=>e0 (s7 a rfl b c).1
 by_cases e0:e1=0
 .rw [Zg (by simpa using e0)];have hw1:WV P nB S w1 bod:=by
   rcases s6 with⟨_,h⟩|⟨h,_⟩
   .exact h
   .omega
  have hal:=Ml hw1.ri;rw[Mg (by omega),Zb];refine XcA (Wk hw1 hg (by rw[s5];exact hn) (by rw[s5];exact hl) hll (by unfold De;omega)) λo ho=>?_
  have hnf1:NF w.Vol.Chip->1<=Bb P nB w.Vol.Chip w.Vol.At->(Gt l:Int)+w.Vol.At.length<=((nB-3:Nat):Int)*P->NF w1.Vol.Chip/\w1.beyond=false/\(Gt l:Int)<=G4 P nB w1.Vol.Chip w1.Vol.At/\1<=Bb P nB w1.Vol.Chip w1.Vol.At:=λa b c=>by
   obtain⟨_,x1,x2,x3,x4⟩:=s7 a rfl b c;exact⟨⟨s4.trans a.1,x1⟩,x2,x4,x3⟩
  rcases ho with⟨at7,c2,rfl,h⟩|⟨e,c2,rfl,o1,o2,o3,o4,o5,o6⟩
  .rw [ZU,CB];have hbn:Aw c2<=nB:=Jn h.wv.ci;have hop:=h.ops;have hmy:=h.many;have hgen:=h.wv.gen;have hgen:(w1.Vol.Gen.toNat:Int)<=c2.Ops:=hgen;have hhd:=h.gi.held;have hl7:at7.length=w1.Vol.At.length:=by rw[h.gi.1,Ht,hw1.gi.1]
   have hgi7:GI P nB c2 at7 (C8 l bod):=by have:=h.gi;rw[Xbp]at this;exact this
   refine XcA (Rt (w:=wch w1 c2) (at':=at7) h.wv.ci hg h.wv.off h.wv.ri (Uz hg hhd (by rw[hl7,s5];exact hn) (by show w1.Vol.Gen.toNat<=_;omega)) (by show w1.Vol.Gen.toNat<_;omega) (by show c2.Ops+8<=De;unfold De;omega)) λr ⟨c',e,hW,hr⟩=>?_
   have hW:WrF P nB S c2 c' e:=hW;have hwo:=hW.ops;have hwm:=hW.many;have hgm:=To (gen:=w1.Vol.Gen) (by omega);have hg7:=hW.gi hgi7;have hg0:=hW.gi h.wv.gi;have hflt:c'.Faults=w.Vol.Chip.Faults:=hW.flt.trans (h.flt.trans s4);rcases hr with⟨rfl,hO1,last',rfl,hri'⟩|⟨he,rfl,hst⟩
   .have hO1:c2.Ops+1<=c'.Ops:=hO1;refine XbE ⟨by show Aw w.Vol.Chip<=Aw c';omega,by show w.Vol.Chip.Ops<=c'.Ops;omega,by show c'.Ops<=_;omega,hflt,by show at7.length=_;omega,.inl ⟨rfl,⟨hW.ci,by rw[hW.off];rfl,hri',hg7,by show((w1.Vol.Gen+1).toNat:Int)<=c'.Ops;omega⟩⟩,λa b c=>?_⟩;obtain⟨y1,y2,y3,y4⟩:=hnf1 a b c;obtain⟨x1,x2,x3⟩:=h.nf y1 y2 y3 y4;refine⟨rfl,(hW.nf (h.flt.trans y1.1) x1).2,?_⟩;obtain⟨k,k2,kB,kb,kl⟩:=XA x3;refine ON (k:=k) k2 kB (by show(blk c' k).Bad=false;rw[hW.oth k k2];exact kb) (DW.2 λj hj hx=>DW.1 kl j hj (XaL _ hx))
   .refine XbE ⟨by show Aw w.Vol.Chip<=Aw c';omega,by show w.Vol.Chip.Ops<=c'.Ops;omega,by show c'.Ops<=_;omega,hflt,s5,.inr (.inr ⟨he,?_⟩),λa b c=>?_⟩
    .rcases hst with x|⟨l',x,y⟩
     .exact .inl ⟨hW.ci,_,_,_,x,hg0,by show(w1.Vol.Gen.toNat:Int)<=c'.Ops;omega⟩
     .have y:c2.Ops+1<=c'.Ops:=y;exact .inr ⟨hW.ci,_,_,_,x,hg7,by show((w1.Vol.Gen+1).toNat:Int)<=c'.Ops;omega⟩
    .obtain ⟨y1,y2,y3,y4⟩:=hnf1 a b c;have:=(hW.nf (h.flt.trans y1.1) (h.nf y1 y2 y3 y4).1).1;omega
  .rw [A2];refine XbE ⟨by show Aw w.Vol.Chip<=Aw c2;omega,by show w.Vol.Chip.Ops<=c2.Ops;omega,by show c2.Ops<=_;omega,o4.trans s4,s5,.inr (o5.imp id λh=>⟨.inl h.1,.inl h.2⟩),λa b c=>absurd (hnf1 a b c) o6⟩
 .rw [Zj (by simpa using e0)];refine XbE ⟨s1,s2,by show w1.Vol.Chip.Ops<=_;omega,s4,s5,.inr ?_,λa b c=>absurd ⟨a,b,c⟩ (hnfe e0)⟩;rcases s6 with⟨h1|h1,h⟩|⟨h1,h⟩
  .exact absurd h1 e0
  .exact .inl ⟨h1,h⟩
  .exact .inr ⟨h1,.inl h⟩
def ZcX(P nB S:Nat)(v:Vol)(bod:List (List UInt8))(l:List Fg)(r:Vol×Int):Prop:=
 v.Chip.Ops<=r.1.Chip.Ops/\r.1.Chip.Ops<=v.Chip.Ops+10000000/\r.1.Chip.Faults=v.Chip.Faults/\
 ((r.2=0/\VI P nB S r.1.Chip r.1.At r.1.Gen r.1.Last (C8 l bod))\/(r.2=5/\VI P nB S r.1.Chip r.1.At r.1.Gen r.1.Last bod)\/((r.2=7\/r.2=9)/\(MOK P nB S r.1.Chip bod\/MOK P nB S r.1.Chip (C8 l bod))))/\
 (NF v.Chip->1<=Bb P nB v.Chip v.At->(Gt l:Int)+v.At.length<=((nB-3:Nat):Int)*P->r.2=0/\Aw r.1.Chip=0/\1<=Bb P nB r.1.Chip r.1.At)
theorem Tp{v:Vol}{bod:List (List UInt8)}{l:List Fg}{P nB S:Nat} (hv:VI P nB S v.Chip v.At v.Gen v.Last bod) (hg:Geo P nB S) (hn:(v.At.length:Int)<=Ff S) (hl:ZeO S v.At.length l) (hll:l.length<=1000) (hops:v.Chip.Ops+20000000<=De) :
  Et (Hl v l) (ZcX P nB S v bod l):=by
 have g2:=hg.b11;have hal:=Ml hv.ri;have hgen:=hv.gen;unfold De at hops;unfold Hl;rw[show FE v=some true from W6 hg hv,Zb];have hG:decide (Xap 281474976710655<=v.Gen)=false:=by
  rw[decide_eq_false_iff_not,Xfh];show ¬281474976710655<=v.Gen.toNat;omega
 rw[hG,XaC,XbL,Xas,Av,show DX v l=some true from V3 hv.ci hg (by omega) hl,Zb,XaC,XbL,Zq,hv.off,Zq,show Dc v=some v from U9 hv.ci (by omega),Zb,Zb];have hw:WV P nB S ⟨v,false⟩ bod:=hv;refine Xda (λs=>WV P nB S s bod/\Aw v.Chip<=Aw s.Vol.Chip/\v.Chip.Ops<=s.Vol.Chip.Ops/\s.Vol.Chip.Ops+400000*(Aw v.Chip:Int)<=v.Chip.Ops+400000*(Aw s.Vol.Chip:Int)/\s.Vol.Chip.Faults=v.Chip.Faults/\s.Vol.At.length=v.At.length/\
  (NF v.Chip->1<=Bb P nB v.Chip v.At->(Gt l:Int)+v.At.length<=((nB-3:Nat):Int)*P->s=⟨v,false⟩)) (λs=>nB-Aw s.Vol.Chip) (λs hs=>?_)
  ⟨hw,Xau _,XaJ _,XaJ _,rfl,rfl,λ_ _ _=>rfl⟩ (by omega)
 obtain⟨hs,i1,i2,i3,i4,i5,i6⟩:=hs;have hbs:=Jn hs.ci;unfold Io;rw[ZcW hs.ci,Zb];refine XcA (X7 hs hg (by rw[i5];exact hn) (by rw[i5];exact hl) hll (by unfold De;omega)) λx ⟨s1,s2,s3,s4,s5,s6,s7⟩=>?_
 obtain⟨e1,w1⟩:=x;dsimp only at s1 s2 s3 s4 s5 s6 s7⊢;have hc1:CI P nB S w1.Vol.Chip:=by
  rcases s6 with⟨_,h⟩|⟨_,h⟩|⟨_,h|h⟩
  .exact h.ci
  .exact h.ci
  .exact h.1
  .exact h.1
 have hb1:=Jn hc1;rw[J0 (ZcW hc1),Zb]
 by_cases hlp:e1=5/\Aw s.Vol.Chip<Aw w1.Vol.Chip
 .have:(decide (e1=5)&&decide ((bif decide (e1=5)then(Aw w1.Vol.Chip:Int)else default)>(Aw s.Vol.Chip:Int)))=true:=by
   rw[hlp.1];simp;exact hlp.2
  rw[this,Zu];refine Xez ⟨?_,by omega,by omega,by omega,s4.trans i4,s5.trans i5,λa b c=>?_⟩ (by omega)
  .rcases s6 with⟨h,_⟩|⟨_,h⟩|⟨h,_⟩
   .omega
   .exact h
   .omega
  .have hs':=i6 a b c;subst hs';have:=(s7 a b c).1;omega
 .have:(decide (e1=5)&&decide ((bif decide (e1=5)then(Aw w1.Vol.Chip:Int)else default)>(Aw s.Vol.Chip:Int)))=false:=by
   rw[Xgf];intro hh;rw[Xaz,decide_eq_true_iff,decide_eq_true_iff]at hh;obtain⟨a,b⟩:=hh;rw[a]at b;exact hlp ⟨a,by simpa using b⟩
  rw[this,Zq];refine AN ⟨by show v.Chip.Ops<=w1.Vol.Chip.Ops;omega,by show w1.Vol.Chip.Ops<=_;omega,s4.trans i4,s6,λa b c=>?_⟩;have hs':=i6 a b c;subst hs';exact s7 a b c
theorem JU{nB P S k:Nat}(hk:k<nB):blk (AG nB P S) k=Gs P S:=by
 unfold blk AG;rw[DD (by simpa using hk),Xbs]
theorem Zcv{nB P S k j:Nat}(hk:k<nB)(hj:j<P):pg (AG nB P S) k j=C7 S:=by
 unfold pg pgb;rw[JU hk];unfold Gs;rw[DD (by simpa using hj),Xbs];rfl
theorem Zcw{P nB S:Nat}(hg:Geo P nB S):CI P nB S (AG nB P S):=by
 have:=hg.p2;have:=hg.p8;have:=hg.b5;have:=hg.b11;have:=hg.s24;have:=hg.s256;refine⟨Xj ?_,rfl,rfl,by simp[AG],λk hk j _ hj=>Zcv hk hj,λk hk=>by rw[JU hk];exact XaJ _,λf hf=>by cases hf⟩;unfold JA;simp;omega
theorem Zdw{P nB S:Nat}:Aw (AG nB P S)=0:=by
 unfold Aw;rw[XfT];intro b hb;have:b=Gs P S:=(XdN.1 hb).2;rw[this];show ¬(false=true);decide
theorem WI{S n:Nat}(h1:24<=S)(h2:S<=256)(hn:(n:Int)<=Ff S):Wq ⟨1,Xac n 0⟩ S:=
 ⟨⟨by omega,by omega⟩,by show(1:UInt64)<_;decide,by rw[XaK];exact hn,λx hx=>by rw[(XdN.1 hx).2];decide⟩
theorem ZaV(s:Int):Ff s<=64:=by unfold Ff;omega
theorem V1{P nB S n:Nat}(hg:Geo P nB S)(h1:1<=n)(hn:(n:Int)<=Ff S){z:Int}(hz:z=n) :
  Et (F5 (AG nB P S) z) (λr=>r.2=0/\VI P nB S r.1.Chip r.1.At r.1.Gen r.1.Last (Xac n [])/\r.1.At.length=n/\NF r.1.Chip/\r.1.Chip.Ops<=10/\1<=Bb P nB r.1.Chip r.1.At):=by
 subst hz;have g2:=hg.p2;have g5:=hg.b5;have hc:=Zcw (S:=S) hg;have hm64:=ZaV S;unfold F5;rw[U7 hc hg,Zb,JO,show((!true)||decide ((n:Int)<1))=false by simp;omega,Xas,Av,Zb,XbL,show(AG nB P S).Size=(S:Int)from rfl,Zg (by simpa using hn),show(AG nB P S).Off=false from rfl,Zq,Zcr hc,Zb,Zb]
 -- nothing is stale
 have hpgs:∀b j,b<2->j<P->As (pg (AG nB P S) b j)=(Rc,6):=λb j hb hj=>by rw[Zcv (by omega) hj,KK hg.s24 hg.s256]
 have hgr:∀(w:Zc),w.Vol.Chip=AG nB P S->∀b:Nat,b<2->∀z:Int,z=b->Ak w z=some 0:=λw hw b hb z hz=>by
  refine Gg ((Nm (P:=P) (nB:=nB) (S:=S) (by rw[hw];exact hc) hg hz hb).m λv ⟨v1,v2⟩=>?_);rcases v2 with h|⟨j,j1,j2,j3⟩
  .exact h
  .rw [hw,hpgs b j hb j1]at j2;cases j2
 have hstale:∀k:Nat,k<nB->Co ⟨⟨AG nB P S,[],0,0⟩,false⟩ (k:Int)=some false:=λk hk=>by
  unfold Co;rw[show idx (AG nB P S).Blocks (k:Int)=some (Gs P S)by rw[hc.idxB rfl hk,JU hk],Zb]
  by_cases h2:k<2
  .rw [J0 (hgr _ rfl k h2 _ rfl),Zb];have:decide ((k:Int)<2)=true:=by rw[decide_eq_true_iff];omega
   rw[this];rfl
  .have:decide ((k:Int)<2)=false:=by rw[decide_eq_false_iff_not];omega
   rw[this,XdV,BN,Zb];rfl
 unfold Dq;have hl1:ZN (λs=>Br ⟨⟨AG nB P S,[],0,0⟩,false⟩ s.1 s.2) ((0:Int),(⟨⟨AG nB P S,[],0,0⟩,false⟩:Zc))=some (.inl ⟨⟨AG nB P S,[],0,0⟩,false⟩):=by
  have g11:=hg.b11;refine ZM (λi=>((i:Int),(⟨⟨AG nB P S,[],0,0⟩,false⟩:Zc))) nB (by omega) (λi hi=>?_) ?_ rfl
  .unfold Br;dsimp only;rw[show decide ((i:Int)<((AG nB P S).Blocks.length:Int))=true by rw[hc.len];simpa using hi,Zu,hstale i hi,Zb,Xas,Zu,Zb,ZU,ZL (by omega),Zb]
  .unfold Br;dsimp only;rw[show decide ((nB:Int)<((AG nB P S).Blocks.length:Int))=false by rw[hc.len];simp,Zq]
 rw[Bt hl1,ZU]
 -- the root
 have hmay:=WI hg.s24 hg.s256 hn;have hp:=Ov hmay;have hlen:=(Kv (n:=S) hp rfl).1;have hrd:=LV (n:=S) hmay;have hput:Wp ⟨1,Xac n 0⟩ (S:Int)=(BP (BR (Lp ⟨1,Xac n 0⟩) S),0):=by
  unfold Wp Y4;rw[if_pos hmay,if_pos hp,Xak]
 have hfirst:Cu ⟨⟨AG nB P S,[],0,0⟩,false⟩ 0=some 1:=by
  unfold Cu;rw[Ax (by omega) (by omega),Zb,hgr _ rfl 1 (by omega) _ (by rfl),Zb];rfl
 have hstep:Et (Bq (n:Int) 0 ⟨⟨AG nB P S,[],0,0⟩,false⟩) (λx=>∃c',x=.inr (.inr ((0:Int),⟨⟨c',Xac n 0,1,0⟩,false⟩))/\Rf P nB S (AG nB P S) c' 0 (BP (BR (Lp ⟨1,Xac n 0⟩) S)) 0):=by
  unfold Bq;rw[Zj (by decide),hfirst,Zb,Aq (by omega) (by omega) (by omega),Zb,Zb,show(⟨⟨AG nB P S,[],0,0⟩,false⟩:Zc).Vol.Chip.Size=(S:Int)from rfl,Ou,Xak,show(Dat.z:Int)=0 from rfl,hput,Zb,
   show decide ((BP (BR (Lp ⟨1,Xac n 0⟩) S),(0:Int)).2≠0)=false from rfl,Xas,Av,MU (k:=0) (z:=0) (P:=P) (nB:=nB) (S:=S) rfl hc (by omega),Zb,XbL]
  have hf:R3 P (blk (AG nB P S) 0)=P:=by
   rw[JU (by omega)];show(if false=true then(0:Int)else P-0)=P;simp
  rw[show(⟨⟨AG nB P S,[],0,0⟩,false⟩:Zc).Vol.Chip=AG nB P S from rfl,hf,Zg (by simp;omega)];refine XcA (P:=λo=>∃c',o=.inr ((0:Int),⟨⟨c',Xac n 0,1,0⟩,false⟩)/\Rf P nB S (AG nB P S) c' 0 (BP (BR (Lp ⟨1,Xac n 0⟩) S)) 0)
   (XcA (JP (w:=⟨⟨AG nB P S,[],0,0⟩,false⟩) (k:=0) (z:=0) rfl hc rfl (by omega) (by rw[JU (by omega)];rfl) (by rw[JU (by omega)];show(0:Int)<P;omega) hlen (by show(0:Int)<De;decide)) λr ⟨c',e,hr,g⟩=>?_) λo ho=>?_
  .subst hr;have e0:e=0:=g.nf rfl;subst e0;rw[Zj (by simp),Zb];exact XbE ⟨c',rfl,g⟩
  .obtain ⟨c',rfl,g⟩:=ho;rw[A2];exact XbE ⟨c',rfl,g⟩
 obtain⟨x,hx,c',rfl,g⟩:=hstep;have hl2:ZN (λs=>Bq (n:Int) s.1 s.2) ((0:Int),(⟨⟨AG nB P S,[],0,0⟩,false⟩:Zc))=some (.inr ((0:Int),⟨⟨c',Xac n 0,1,0⟩,false⟩)):=Ja 1 (by omega) (Fy hx);rw[Bt hl2,A2,Zb,Zg (by simp)];obtain⟨q,_,hq1,hq2⟩:=g.pgn;have hu0:(blk (AG nB P S) 0).Used=0:=by rw[JU (by omega)];rfl
 rw[hu0]at hq2;have hq2:pg c' 0 0=BP (BR (Lp ⟨1,Xac n 0⟩) S):=hq2.trans (hq1 rfl);have gops:=g.ops;have gm:=g.many;rw[Zdw]at gm;have hoth:∀b j,b<2->j<P->¬(b=0/\j=0)->pg c' b j=pg (AG nB P S) b j:=λb j hb hj hn=>by
  by_cases e:b=0
  .subst e;exact g.pgo j (by rw[hu0];omega)
  .exact Oy (g.oth b e)
 refine XbE ⟨rfl,⟨g.ci,by rw[g.off];rfl,⟨0,0,rfl,by omega,by omega,by rw[hq2];exact hrd,λb j hb hj h0=>?_⟩,⟨by simp,λid hid=>.inl ⟨?_,?_⟩⟩,by rw[gops];show((1:UInt64).toNat:Int)<=0+1;decide⟩,by simp,⟨g.flt,gm⟩,by rw[gops];show(0:Int)+1<=10;decide,?_⟩
 .by_cases e:b=0/\j=0
  .obtain ⟨rfl,rfl⟩:=e;rw[hq2,hrd];exact⟨Xau _,λ_=>Xau _⟩
  .rw [hoth b j hb hj e,hpgs b j hb hj]at h0;cases h0
 .have hid:id<(Xac n (0:Int)).length:=hid;rw[DD hid,Xbs]
 .have hid:id<(Xac n (0:Int)).length:=hid;rw[DD (by simpa using hid),Xbs]
 .refine ON (k:=2) (by omega) (by omega) (by rw[g.oth 2 (by omega),JU (by omega)];rfl) (DW.2 λj hj hx=>?_);have:=(XdN.1 hx).2;have:=ET (P:=P) (k:=2) (j:=j);omega
def kvl(l:List UInt8):Nat:=l.foldl (λa b=>a*256+b.toNat) 0
theorem Tl:∀(l:List UInt8) (a:Nat),l.foldl (λa b=>a*256+b.toNat) a=a*256^l.length+kvl l
 | [],a=>by simp[kvl]
 | x::l,a=>by
  unfold kvl;simp only[Xel,XaP];rw[Tl l,Tl l (0*256+x.toNat),XcY,Xa6,Xc7,Xbg,Xcr,Xbb 256,XbO]
theorem IF(xs ys:List UInt8):kvl (xs++ys)=kvl xs*256^ys.length+kvl ys:=by
 unfold kvl;rw[XdZ,Tl];rfl
theorem HO(x:UInt8)(l:List UInt8):kvl (x::l)=x.toNat*256^l.length+kvl l:=by
 rw[show x::l=[x]++l from rfl,IF];simp[kvl]
theorem OK:∀l:List UInt8,kvl l<256^l.length
 | []=>by simp[kvl]
 | x::l=>by
  rw[HO,XaP,XcY];have:=OK l;have hx:=x.toNat_lt;have:(x.toNat+1)*256^l.length<=256*256^l.length:=Xah _ (by omega);rw[Xa6]at this;omega
theorem Xu:∀{l m:List UInt8},l.length=m.length->kvl l=kvl m->l=m
 | [],[],_,_=>rfl
 | x::l,y::m,hl,h=>by
  rw[HO,HO]at h;simp only[XaP,Xfm]at hl;rw[hl]at h;have h1:=OK l;have h2:=OK m;rw[hl]at h1;have hP:0<256^m.length:=XcK _;have e1:x.toNat=y.toNat:=by
   have:(x.toNat*256^m.length+kvl l)/256^m.length=(y.toNat*256^m.length+kvl m)/256^m.length:=by rw[h]
   rw[Xbb,Xc4 hP,Xby h1,Xbb,Xc4 hP,Xby h2]at this;omega
  have e2:x=y:=Xcs.1 e1;subst e2;rw[Xu hl (by omega)]
theorem L7:∀n,kvl (Xac n 0)=0
 | 0=>rfl
 | n+1=>by rw[XdJ,HO,L7 n];simp
def mkl:Nat->Nat->List UInt8
 | 0,_=>[]
 | m+1,n=>mkl m (n/256)++[XaN (n%256)]
theorem PT:∀m n,(mkl m n).length=m
 | 0,n=>rfl
 | m+1,n=>by rw[mkl,XaD,PT m];rfl
theorem Xt:∀m n,kvl (mkl m n)=n%256^m
 | 0,n=>by simp[mkl,kvl,Nat.mod_one]
 | m+1,n=>by
  rw[mkl,IF,Xt m];simp only[List.length_singleton,Xg3,kvl,Xel,List.foldl_nil,Xc7,Xbg];rw[XdT (show n%256<256 by omega),XcY,Xbb (256^m) 256,Nat.mod_mul];omega
def kv(v:Vec UInt8 16):Nat:=kvl v.l
def mk(n:Nat):Vec UInt8 16:=⟨mkl 16 n,PT 16 n⟩
theorem Ze1(n:Nat):256^n=2^(8*n):=by rw[Nat.pow_mul]
theorem Xw(v:Vec UInt8 16):kv v<2^128:=by
 have:=OK v.l;rw[v.h,Ze1]at this;exact this
theorem OL{v w:Vec UInt8 16}(h:kv v=kv w):v=w:=XfA (Xu (by rw[v.h,w.h]) h)
theorem Zf9{n:Nat}(h:n<2^128):kv (mk n)=n:=by
 show kvl (mkl 16 n)=n;rw[Xt,Ze1,Nat.mod_eq_of_lt h]
theorem ZdC:kv (Dat.z:Vec UInt8 16)=0:=L7 16
theorem XW:∀{l m:List UInt8},l.length=m.length->Dr l m=if kvl l<kvl m then -1 else if kvl m<kvl l then 1 else 0
 | [],[],_=>rfl
 | x::l,y::m,hl=>by
  simp only[XaP,Xfm]at hl;rw[Dr,HO,HO,hl];have h1:=OK l;have h2:=OK m;rw[hl]at h1;have ih:=XW hl;rcases XeI x.toNat y.toNat with h|h|h
  .have h3:(x.toNat+1)*256^m.length<=y.toNat*256^m.length:=Xah _ h;rw[Xa6]at h3;rw[if_pos (Xdm.2 h),if_pos (by omega)]
  .have e:x=y:=Xcs.1 h;subst e;rw[if_neg (Xgg x),if_neg (Xgg x),ih];simp only[Nat.add_lt_add_iff_left]
  .have h3:(y.toNat+1)*256^m.length<=x.toNat*256^m.length:=Xah _ h;rw[Xa6]at h3;rw[if_neg (λh4=>by have:=Xdm.1 h4;omega),if_pos (Xdm.2 h),if_neg (by omega),if_pos (by omega)]
theorem Zby(v:Vec UInt8 16):((v.l.drop (Xaa 0)).take (((16:Int)-0).toNat))=v.l:=by
 show(v.l.drop 0).take 16=v.l;rw[XcS,XaB (by rw[v.h];exact Xau _)]
def ZeJ(v w:Vec UInt8 16):Int:=if kv v<kv w then -1 else if kv w<kv v then 1 else 0
theorem ZdX(v w:Vec UInt8 16):E4 ((v.l.drop (Xaa 0)).take (((16:Int)-0).toNat)) ((w.l.drop (Xaa 0)).take (((16:Int)-0).toNat))=some (ZeJ v w):=by
 rw[Zby,Zby];unfold E4 ZeJ kv;rw[XW (by rw[v.h,w.h])]
theorem ZdW{v w:Vec UInt8 16}:ZeJ v w<0↔kv v<kv w:=by
 unfold ZeJ
 by_cases h:kv v<kv w
 .rw [if_pos h];omega
 .rw [if_neg h]
  by_cases h2:kv w<kv v
  .rw [if_pos h2];omega
  .rw [if_neg h2];omega
theorem ZdV{v w:Vec UInt8 16}:ZeJ v w≠0↔kv v≠kv w:=by
 unfold ZeJ
 by_cases h:kv v<kv w
 .rw [if_pos h];omega
 .rw [if_neg h]
  by_cases h2:kv w<kv v
  .rw [if_pos h2];omega
  .rw [if_neg h2];omega
theorem ZdS:cut 16 0 (16:Int)=some ():=Ef (by omega) (by omega) (by omega)
theorem Zbw:∀r:Fin 8,∀x:Fin 256,0<r.val->((XaN x.val) &&& ~~~(shr8 (XaN 255) (r.val:Int))).toNat=x.val/2^(8-r.val)*2^(8-r.val):=by decide +kernel
theorem X2{x:UInt8}{r:Nat} (h0:0<r) (h:r<8):(x &&& ~~~(shr8 (XaN 255) (r:Int))).toNat=x.toNat/2^(8-r)*2^(8-r):=by
 have:=Zbw ⟨r,h⟩ ⟨x.toNat,x.toNat_lt⟩ h0;simpa using this
theorem Xv(v:Vec UInt8 16){w:Nat}(hw:w<16):kv v=(kvl (v.l.take w)*256+(v.l[w]'(by rw[v.h];exact hw)).toNat)*256^(15-w)+kvl (v.l.drop (w+1))/\kvl (v.l.drop (w+1))<256^(15-w):=by
 have hl:w<v.l.length:=by rw[v.h];exact hw
 have e:v.l=v.l.take w++(v.l[w]::v.l.drop (w+1)):=by rw[<-Xa0 hl,Xbv]
 have hd:(v.l.drop (w+1)).length=15-w:=by rw[XbP,v.h];omega
 refine⟨?_,by have:=OK (v.l.drop (w+1));rwa [hd]at this⟩;unfold kv
 conv=>lhs;rw[e]
 rw[IF,HO,XaP,hd,XcY,Xa6,Xcr,Xbb 256,XbO]
theorem ZdD(v:Vec UInt8 16){w:Nat}(hw:w<16)(b:UInt8):kv (v.set w b)=(kvl (v.l.take w)*256+b.toNat)*256^(15-w)+kvl (v.l.drop (w+1)):=by
 have hl:w<v.l.length:=by rw[v.h];exact hw
 have hd:(v.l.drop (w+1)).length=15-w:=by rw[XbP,v.h];omega
 show kvl (v.l.set w b)=_;rw[XeB,if_pos hl,IF,HO,XaP,hd,XcY,Xa6,Xcr,Xbb 256,XbO]
theorem UB{w r:Nat}(hw:w<16)(hr:r<=8):2^(128-(8*w+r))=2^(8-r)*256^(15-w):=by
 rw[Ze1,<-Xb8];congr 1;omega
def V8(v:Vec UInt8 16)(n:Int):Vec UInt8 16:=mk (kv v/2^(128-n.toNat)*2^(128-n.toNat))
theorem Zfm(v:Vec UInt8 16)(s:Nat):kv v/s*s<2^128:=Nat.lt_of_le_of_lt (Xf0 _ _) (Xw v)
theorem Nl(v:Vec UInt8 16)(n:Int):kv (V8 v n)=kv v/2^(128-n.toNat)*2^(128-n.toNat):=Zf9 (Zfm v _)
theorem UF{A M r s:Nat}(hM:0<M)(hr:r<M):(A*M+r)/(s*M)=A/s:=by
 rw[Xbb s M,<-XbA,Xbb A M,Xc4 hM,Xby hr,Xbw]
theorem Zbv(A x:Nat){r:Nat}(hr:r<=8):(A*256+x)/2^(8-r)*2^(8-r)=A*256+x/2^(8-r)*2^(8-r):=by
 have e9:A*256=2^(8-r)*(A*2^r):=by
  have e:2^r*2^(8-r)=256:=by rw[<-Xb8,show r+(8-r)=8 by omega]
  rw[Xbb (2^(8-r)),Xcr,e]
 generalize 2^(8-r)=s at e9⊢;rw[e9];rcases XbB s with rfl|hs
 .simp
 .rw [Xc4 hs,Xa6,Xbb s]
theorem IG(v:Vec UInt8 16)(n:Int):JY v n=some (V8 v n):=by
 unfold JY
 by_cases h1:n>=128
 .rw [decide_eq_true h1,Zu];congr 1;refine OL ?_;rw[Nl,show 128-n.toNat=0 by omega,Nat.pow_zero,Nat.div_one,Nat.mul_one]
 .rw [decide_eq_false h1,Zq]
  by_cases h2:n<1
  .rw [decide_eq_true h2,Zu];congr 1;refine OL ?_;rw[Nl,ZdC,show 128-n.toNat=128 by omega,Xby (Xw v),Xc7]
  .rw [decide_eq_false h2,Zq];obtain⟨m,rfl⟩:=Int.eq_ofNat_of_zero_le (show 0<=n by omega);obtain⟨w,r,rfl,hr⟩:∃w r,m=8*w+r/\r<8:=⟨m/8,m%8,by omega,by omega⟩;have hw:w<16:=by omega
   have q:JB ((8*w+r:Nat):Int) 8=some (w:Int):=by rw[G7 (by omega) (by omega)];congr 1;omega
   have q2:RM ((8*w+r:Nat):Int) 8=some (r:Int):=by rw[Lo (by omega) (by omega)];congr 1;omega
   have hcut:cut 16 0 (w:Int)=some ():=Ef (by omega) (by omega) (by omega);rw[q,Zb,hcut,Zb,Zb,Zb,q2,Zb];have hl:w<v.l.length:=by rw[v.h];exact hw
   -- the first bytes
   have hput:(Xem (Dat.z:Vec UInt8 16) (Xaa 0) (over (((Dat.z:Vec UInt8 16).l.drop (Xaa 0)).take (((w:Int)-0).toNat)) ((v.l.drop (Xaa 0)).take (((w:Int)-0).toNat)))).l=v.l.take w++Xac (16-w) 0:=by
    have e1:((Dat.z:Vec UInt8 16).l.drop (Xaa 0)).take (((w:Int)-0).toNat)=Xac w 0:=by
     show((Xac 16 (0:UInt8)).drop 0).take (((w:Int)-0).toNat)=_;rw[XcS,show(((w:Int)-0).toNat)=w by omega,List.take_replicate,XaY (by omega)]
    have e2:(v.l.drop (Xaa 0)).take (((w:Int)-0).toNat)=v.l.take w:=by
     show(v.l.drop 0).take _=_;rw[XcS,show(((w:Int)-0).toNat)=w by omega]
    have e3:over (Xac w (0:UInt8)) (v.l.take w)=v.l.take w:=by
     unfold over;rw[XaK,Xdl,XgV,Xa5,XaY (by omega),Xa7 (by simp),XaX]
    have e4:splice (Dat.z:Vec UInt8 16).l (Xaa 0) (v.l.take w)=v.l.take w++Xac (16-w) 0:=by
     show splice (Xac 16 (0:UInt8)) 0 (v.l.take w)=_;unfold splice;rw[Xdk,Xam,Xa5,XaY (by omega),Xbg,Xc0]
    rw[e1,e2,e3];unfold Xem;rw[dif_pos (by rw[e4];simp;omega)];exact e4
   generalize Xem (Dat.z:Vec UInt8 16) (Xaa 0) (over (((Dat.z:Vec UInt8 16).l.drop (Xaa 0)).take (((w:Int)-0).toNat)) ((v.l.drop (Xaa 0)).take (((w:Int)-0).toNat)))=c at hput⊢;obtain⟨p1,p2⟩:=Xv v hw;have hM:0<256^(15-w):=XcK _
   by_cases h0:r=0
   .subst h0;rw[show decide (((0:Nat):Int)>0)=false by decide,Zq,Zb];congr 1;refine OL ?_;rw[Nl,Xak,UB hw (by omega),p1,UF hM p2];have e5:kv c=kvl (v.l.take w)*256^(16-w):=by unfold kv;rw[hput,IF,L7,XaK,Xbw]
    have e6:256^(16-w)=256*256^(15-w):=by rw[<-Nat.pow_succ'];congr 1;omega
    have hx:=(v.l[w]).toNat_lt;rw[e5,e6,show 2^(8-0)=256 from rfl,Xbb _ 256,Xc4 (by omega),Xby hx,Xbw]
   .have hi:idx v.l (w:Int)=some v.l[w]:=Zz hl;have hci:w<c.l.length:=by rw[c.h];exact hw
    have hcnt:cnt (r:Int)=some r:=by unfold cnt;rw[if_pos (by omega),Xak]
    rw[decide_eq_true (show(r:Int)>0 by omega),Zu,hi,Zb,hcnt,Zb,Zz hci,Zb,Zb,Zb];refine congrArg some (OL ?_);rw[Nl,Xak,Xak,UB hw (by omega),p1,UF hM p2,ZdD c hw,X2 (by omega) hr,hput];have e7:(v.l.take w++Xac (16-w) 0).take w=v.l.take w:=by rw[Xcf (by simp;omega),Xdl,XgV]
    have e8:(v.l.take w++Xac (16-w) 0).drop (w+1)=Xac (15-w) 0:=by
     rw[Xd3,Xa7 (by simp;omega),Xam,Xa5,XaY (by omega),Xc0,show 16-w-(w+1-w)=15-w by omega]
    rw[e7,e8,L7 (15-w),Xbw,<-Zbv (kvl (v.l.take w)) v.l[w].toNat (show r<=8 by omega)];generalize (kvl (v.l.take w)*256+v.l[w].toNat)/2^(8-r)=Z;exact Xcr ..
def PM(p:Prefix):Prop:=(p.Bits=32\/p.Bits=128)/\0<=p.Len/\p.Len<=p.Bits/\kv p.Key%2^(128-p.Len.toNat)=0
instance (p:Prefix):Decidable (PM p):=by unfold PM;exact inferInstance
theorem N1{v:Vec UInt8 16}{n:Int}:V8 v n=v↔kv v%2^(128-n.toNat)=0:=by
 constructor
 .intro h;have:=congrArg kv h;rw[Nl]at this;have h2:=Xfi (kv v) (2^(128-n.toNat));rw[Xbb,this]at h2;omega
 .intro h;refine OL ?_;rw[Nl];exact Xf9 (Xdf h)
theorem GM(p:Prefix):Ik p=some (decide (PM p)):=by
 unfold Ik NW;rw[Zb]
 by_cases h:(p.Bits=32\/p.Bits=128)/\0<=p.Len/\p.Len<=p.Bits
 .rw [Zg (by
   simp only[XcU,Bool.not_eq_false',Xcu,decide_eq_true_eq,decide_eq_false_iff_not];omega),IG,Zb]
  refine congrArg some ?_;rw[decide_eq_decide,N1];unfold PM;exact⟨λh2=>⟨h.1,h.2.1,h.2.2,h2⟩,λh2=>h2.2.2.2⟩
 .rw [Zj (by
   simp only[Xcu,Bool.not_eq_true',XcU,decide_eq_true_eq,decide_eq_false_iff_not];omega)]
  refine congrArg some ?_;rw[eq_comm,decide_eq_false_iff_not];exact λh2=>h ⟨h2.1,h2.2.1,h2.2.2.1⟩
theorem PM.len{p:Prefix}(h:PM p):p.Len.toNat<=p.Bits.toNat/\p.Bits.toNat<=128/\(p.Len.toNat:Int)=p.Len/\(p.Bits.toNat:Int)=p.Bits:=by
 obtain⟨h1,h2,h3,-⟩:=h;omega
def PL(p q:Prefix):Prop:=PM p/\PM q/\(p.Bits<q.Bits\/p.Bits=q.Bits/\(kv p.Key<kv q.Key\/kv p.Key=kv q.Key/\p.Len<q.Len))
instance (p q:Prefix):Decidable (PL p q):=by unfold PL;exact inferInstance
theorem OM(p q:Prefix):KC p q=some (decide (PL p q)):=by
 unfold KC;rw[GM,Zb]
 by_cases h:PM p
 .rw [decide_eq_true h,show(!(!true))=true from rfl,Av,GM,Zb]
  by_cases h2:PM q
  .rw [decide_eq_true h2,show((!true)||(!true))=false from rfl,Zq];have b1:=h.1;have b2:=h2.1
   by_cases h3:p.Bits=q.Bits
   .rw [Zg (by simp[h3]),ZdS,Zb,Zb,ZdX,Zb];have c1:=@ZdV p.Key q.Key;have c2:=@ZdW p.Key q.Key
    by_cases h4:kv p.Key=kv q.Key
    .rw [Zg (decide_eq_false (λh=>c1.1 h h4))];refine congrArg some ?_;rw[decide_eq_decide];unfold PL;exact⟨λh5=>⟨h,h2,.inr ⟨h3,.inr ⟨h4,h5⟩⟩⟩,λh5=>by obtain⟨-,-,h5⟩:=h5;omega⟩
    .rw [Zj (decide_eq_true (c1.2 h4))];refine congrArg some ?_;rw[decide_eq_decide,c2];unfold PL;exact⟨λh5=>⟨h,h2,.inr ⟨h3,.inl h5⟩⟩,λh5=>by obtain⟨-,-,h5⟩:=h5;omega⟩
   .rw [Zj (by simp[h3])];refine congrArg some ?_;rw[decide_eq_decide];unfold PL;exact⟨λh5=>⟨h,h2,.inl (by omega)⟩,λh5=>by obtain⟨-,-,h5⟩:=h5;omega⟩
  .rw [decide_eq_false h2,Zj (by simp)];refine congrArg some ?_;rw[eq_comm,decide_eq_false_iff_not];exact λh5=>h2 h5.2.1
 .rw [decide_eq_false h,show(!(!false))=false from rfl,BN,Zb,Zj (by simp)];refine congrArg some ?_;rw[eq_comm,decide_eq_false_iff_not];exact λh5=>h h5.1
theorem MN{p q:Prefix}(h1:p.Bits=q.Bits)(h2:p.Len=q.Len)(h3:kv p.Key=kv q.Key):p=q:=by
 obtain⟨a,b,c⟩:=p;obtain⟨d,e,f⟩:=q;dsimp only at h1 h2 h3;rw[h1,h2,OL h3]
theorem PL.tr{p q r:Prefix}(h:PL p q)(k:PL q r):PL p r:=by
 obtain⟨h1,h2,h3⟩:=h;obtain⟨k1,k2,k3⟩:=k;refine⟨h1,k2,?_⟩;omega
theorem PL.ir{p:Prefix}(h:PL p p):False:=by
 obtain⟨h1,h2,h3⟩:=h;omega
theorem PL.ne{p q:Prefix}(h:PL p q):p≠q:=λe=>by subst e;exact h.ir
theorem ZfG{p q:Prefix}(h:PM p)(k:PM q):PL p q\/p=q\/PL q p:=by
 by_cases a:p.Bits=q.Bits
 .by_cases b:kv p.Key=kv q.Key
  .by_cases c:p.Len=q.Len
   .exact .inr (.inl (MN a c b))
   .by_cases d:p.Len<q.Len
    .exact .inl ⟨h,k,.inr ⟨a,.inr ⟨b,d⟩⟩⟩
    .exact .inr (.inr ⟨k,h,.inr ⟨a.symm,.inr ⟨b.symm,by omega⟩⟩⟩)
  .by_cases d:kv p.Key<kv q.Key
   .exact .inl ⟨h,k,.inr ⟨a,.inl d⟩⟩
   .exact .inr (.inr ⟨k,h,.inr ⟨a.symm,.inl (by omega)⟩⟩)
 .by_cases d:p.Bits<q.Bits
  .exact .inl ⟨h,k,.inl d⟩
  .exact .inr (.inr ⟨k,h,.inl (by omega)⟩)
structure TbR(t:List Route):Prop where
 len:t.length<=256
 may:∀r∈t,PM r.Prefix
 srt:t.Pairwise λa b=>PL a.Prefix b.Prefix
def rt0:Route:=Dat.z
def PY(t:List Route)(i:Nat):Bool:=decide (PM (t.getD i rt0).Prefix)&&(decide (i=0)||decide (PL (t.getD (i-1) rt0).Prefix (t.getD i rt0).Prefix))
def PN(t:List Route):Bool:=decide (t.length<=256)&&(Xbe t.length).all (PY t)
theorem gtD{α:Type}{l:List α}{k:Nat}{d:α} (h:k<l.length):l.getD k d=l[k]:=by
 rw[Xad,List.getElem?_eq_getElem h];rfl
theorem K6(t:List Route):CK t=some (PN t):=by
 unfold CK PN
 by_cases hl:t.length<=256
 .rw [Zg (by simp;omega),ES (f:=λs=>D9 t s) (Xbe t.length) (PY t) (by simp;omega) (λi hi=>?_) (by unfold D9;rw[Xct,Jv,Zq]),decide_eq_true hl,Zb,XbU]
  .cases (Xbe t.length).all (PY t)
   .rw [if_neg (by decide),A2]
   .rw [if_pos rfl,ZU]
  .rw [Xct]at hi;rw[Xc5];unfold D9 PY;rw[El hi,Zu,Zz hi,Zb,GM,Zb,gtD hi]
   by_cases hm:PM t[i].Prefix
   .rw [decide_eq_true hm,XaC,Zq,XbU]
    by_cases h0:i=0
    .subst h0;rw[show decide (((0:Nat):Int)>0)=false by decide,BN,Zb,BN,Zb,BN,Zb,Xb4,Zq,ZL (by omega),Zb,decide_eq_true rfl,XcX,if_pos rfl]
    .rw [show decide ((i:Int)>0)=true by simp;omega,Av,Ax (by omega) (by omega),Zb,Av,show(i:Int)-1=((i-1:Nat):Int)by omega,Zz (show i-1<t.length by omega),Zb,Av,OM,Zb,gtD (show i-1<t.length by omega),decide_eq_false h0,XbL,XbU];cases decide (PL t[i-1].Prefix t[i].Prefix)
     .rw [Xas,Zu,if_neg (by decide)]
     .rw [XaC,Zq,ZL (by omega),Zb,if_pos rfl]
   .rw [decide_eq_false hm,Xas,Zu,Xb4,if_neg (by decide)]
 .rw [Zj (by simp;omega),decide_eq_false hl,Xb4]
theorem MM{t:List Route}:PN t=true↔TbR t:=by
 unfold PN;rw[Xaz,decide_eq_true_eq,Xbq]
 constructor
 .rintro ⟨h1,h2⟩;have hg:∀i (hi:i<t.length),PM t[i].Prefix/\(i=0\/∃h:i-1<t.length,PL t[i-1].Prefix t[i].Prefix):=λi hi=>by
   have:=h2 i (Xeh.2 hi);unfold PY at this;rw[Xaz,Xcu,decide_eq_true_eq,decide_eq_true_eq,decide_eq_true_eq,gtD hi,gtD (show i-1<t.length by omega)]at this;exact⟨this.1,this.2.imp id λh=>⟨by omega,h⟩⟩
  refine⟨h1,λr hr=>?_,Xbz.2 λi j hi hj hij=>?_⟩
  .obtain ⟨i,hi,rfl⟩:=XaQ hr;exact(hg i hi).1
  .have key:∀k,∀j (hj:j<t.length),j=i+1+k->PL t[i].Prefix t[j].Prefix:=by
    intro k
    induction k with
    | zero=>
     intro j hj e;rcases (hg j hj).2 with h|⟨h,g⟩
     .omega
     .have e2:j-1=i:=by omega
      simp only[e2]at g;exact g
    | succ k ih=>
     intro j hj e;have h:=ih (j-1) (by omega) (by omega);rcases (hg j hj).2 with h'|⟨h',g⟩
     .omega
     .exact h.tr g
   exact key (j-i-1) j hj (by omega)
 .intro h;refine⟨h.len,λi hi=>?_⟩;have hi:=Xeh.1 hi;unfold PY;rw[Xaz,Xcu,decide_eq_true_eq,decide_eq_true_eq,decide_eq_true_eq,gtD hi,gtD (show i-1<t.length by omega)];refine⟨h.may _ (Xax hi),?_⟩
  by_cases h0:i=0
  .exact .inl h0
  .exact .inr (Xbz.1 h.srt (i-1) i (by omega) hi (by omega))
theorem TbR.right{t:List Route}(h:TbR t):CK t=some true:=by rw[K6,MM.2 h]
theorem TbR.nil:TbR []:=⟨by simp,λr h=>absurd h (by simp),List.Pairwise.nil⟩
theorem TbR.sub{t u:List Route}(h:TbR t)(k:u.Sublist t):TbR u:=⟨XaG k.length_le h.len,λr hr=>h.may r (k.subset hr),h.srt.sublist k⟩
theorem TbR.uniq{t:List Route}(h:TbR t){a b:Route}(ha:a∈t)(hb:b∈t)(e:a.Prefix=b.Prefix):a=b:=by
 obtain⟨i,hi,rfl⟩:=XaQ ha;obtain⟨j,hj,rfl⟩:=XaQ hb;rcases XeI i j with h1|h1|h1
 .exact absurd e (Xbz.1 h.srt i j hi hj h1).ne
 .subst h1;rfl
 .exact absurd e.symm (Xbz.1 h.srt j i hj hi h1).ne
def GH(t:List Route)(p:Prefix):Nat:=t.countP λr=>decide (PL r.Prefix p)
theorem S6(t:List Route)(p:Prefix):GH t p<=t.length:=Xdp
theorem I5:∀{t:List Route} (h:TbR t) {p:Prefix}{i:Nat} (hi:i<t.length),PL t[i].Prefix p↔i<GH t p
 | [],_,_,_,hi=>by cases hi
 | a::t,h,p,i,hi=>by
  have h2:=XaO.1 h.srt;have ht:=h.sub (Xfu a t);have e:GH (a::t) p=GH t p+if PL a.Prefix p then 1 else 0:=by
   unfold GH;rw[Xd4]
   by_cases h3:PL a.Prefix p<;>simp[h3]
  by_cases h3:PL a.Prefix p
  .rw [e,if_pos h3];cases i with
   | zero=>exact⟨λ_=>by omega,λ_=>h3⟩
   | succ i=>rw[Xd9,I5 ht (by simpa using hi)];omega
  .have h0:GH t p=0:=by
    unfold GH;rw[XfT];intro b hb;simp only[decide_eq_true_eq];exact λh4=>h3 ((h2.1 b hb).tr h4)
   rw[e,if_neg h3,h0]
   constructor
   .intro h4;cases i with
    | zero=>exact absurd h4 h3
    | succ i=>
     rw[Xd9]at h4;exact absurd ((h2.1 _ (Xax (by simpa using hi))).tr h4) h3
   .omega
theorem ZdF{i j:Nat}(h:i+j<9223372036854775808):Ky (((shr64 (Xcp ((i+j:Nat):Int)) ((Xap 1).toNat:Int)).toNat:Int))=some (((i+j)/2:Nat):Int):=by
 have e1:(Xcp ((i+j:Nat):Int)).toNat=i+j:=by
  have e:(((i+j:Nat):Int)%(2:Int)^64).toNat=i+j:=by omega
  unfold Xcp;rw[e];exact XcP (by show _<18446744073709551616;omega)
 have e2:(shr64 (Xcp ((i+j:Nat):Int)) ((Xap 1).toNat:Int)).toNat=(i+j)/2:=by
  unfold shr64;rw[e1,show(((Xap 1).toNat:Int)).toNat=1 from rfl,Xg3];exact XcP (by show _<18446744073709551616;omega)
 rw[e2,OE (by omega) (by omega)]
theorem Rx{t:List Route}(h:TbR t)(p:Prefix):Fo t p=some ((GH t p:Int),decide (∃r∈t,r.Prefix=p)):=by
 have hl:=h.len;have hr:=S6 t p;have hs:G3 (t.length:Int) (⟨λx0=>DV x0 t p⟩:F1 Tryz.prog Int Bool)=some (GH t p:Int):=by
  unfold G3;refine Gg (XcA (P:=λv=>v=(GH t p:Int)) (Xda (σ:=Int×Int) (λs=>∃i j:Nat,s.1=i/\s.2=j/\i<=GH t p/\GH t p<=j/\j<=t.length) (λs=>(s.2-s.1).toNat) (λs hs=>?_) ⟨0,t.length,rfl,rfl,by omega,hr,by omega⟩ (by show(((t.length:Int))-0).toNat<_;omega)) λv hv=>by subst hv;exact XbE rfl);obtain⟨a,b⟩:=s;obtain⟨i,j,rfl,rfl,h1,h2,h3⟩:=hs;dsimp only;unfold Ic
  by_cases hij:i<j
  .have hm:(i+j)/2<t.length:=by omega
   rw[El hij,Zu,Aa (by omega) (by omega),Zb,show(i:Int)+j=((i+j:Nat):Int)by omega,ZdF (by omega),Zb];show Et ((DV _ t p).bind _) _;unfold DV;rw[Zz hm,Zb,OM,Zb,Zb];have hra:=I5 h (p:=p) hm
   by_cases hp:PL t[(i+j)/2].Prefix p
   .have:=hra.1 hp;rw[decide_eq_true hp,XaC,Xas,Zu,ZL (by omega),Zb];exact Xez ⟨(i+j)/2+1,j,rfl,rfl,by omega,by omega,by omega⟩ (by show(_ - _:Int).toNat<(_ - _:Int).toNat;omega)
   .have:=Xgt λh=>hp (hra.2 h)
    rw[decide_eq_false hp,Xas,XaC,Zq];exact Xez ⟨i,(i+j)/2,rfl,rfl,by omega,by omega,by omega⟩ (by show(_ - _:Int).toNat<(_ - _:Int).toNat;omega)
  .rw [I9 (by omega),Zq];exact AN (by omega)
 unfold Fo;rw[hs,Zb]
 by_cases hlt:GH t p<t.length
 .rw [El hlt,Av,Zz hlt,Zb,XbU];refine congrArg (λb=>some ((GH t p:Int),b)) ?_;rw[decide_eq_decide]
  constructor
  .exact λe=>⟨_,Xax hlt,e⟩
  .rintro ⟨r,hr2,e⟩;obtain⟨i,hi,rfl⟩:=XaQ hr2;have hra:=I5 h (p:=p) hi;rcases XeI i (GH t p)with h1|h1|h1
   .exact absurd e (hra.2 h1).ne
   .simp only[<-h1];exact e
   .have h2:=Xbz.1 h.srt (GH t p) i hlt hi h1;rw[e]at h2;have:=(I5 h (p:=p) hlt).1 h2;omega
 .rw [I9 (by omega),BN,Zb,Xb4];refine congrArg (λb=>some ((GH t p:Int),b)) ?_;rw[eq_comm,decide_eq_false_iff_not];rintro⟨r,hr2,e⟩;obtain⟨i,hi,rfl⟩:=XaQ hr2;exact((I5 h (p:=p) hi).2 (by omega)).ne e
def L8(r:Route):UInt8:=if r.Prefix.Bits=128 then 1 else 0
def VY(r:Route):UInt8:=(shr16 r.Hop ((Xap 8).toNat:Int)).toUInt8
def enc(r:Route):List UInt8:=[L8 r,Xao r.Prefix.Len]++(r.Prefix.Key.l++[VY r,r.Hop.toUInt8])
theorem Ly(r:Route):(enc r).length=20:=by unfold enc;simp[r.Prefix.Key.h]
theorem tk(r:Route):r.Prefix.Key.l.length=16:=r.Prefix.Key.h
theorem Xs{b:List UInt8}(r:Route)(hb:b.length<=1000000):Iz b r=some (b++enc r):=by
 have hk:=tk r;unfold Iz;have h0:(bif (decide (r.Prefix.Bits=(128:Int)))then((idx (Dat.z:(Vec UInt8 20)).l (0:Int)).bind λx_5=>(some ((Vec.set (Dat.z:(Vec UInt8 20)) (Xaa (0:Int)) (XaN 1)):(Vec UInt8 20))).bind λpart_6=>some part_6)else(some (Dat.z:(Vec UInt8 20))))=some ((Dat.z:Vec UInt8 20).set 0 (L8 r)):=by
  unfold L8
  by_cases h:r.Prefix.Bits=128
  .rw [decide_eq_true h,Zu,if_pos h];rfl
  .rw [decide_eq_false h,Zq,if_neg h];exact congrArg some (XfA rfl)
 rw[h0,Zb];have i1:idx ((Dat.z:Vec UInt8 20).set 0 (L8 r)).l (1:Int)=some 0:=rfl;rw[i1,Zb,Zb,show cut 20 (2:Int) (20:Int)=some ()from rfl,Zb,ZdS,Zb,Zb];have e2:(((Dat.z:Vec UInt8 20).set 0 (L8 r)).set (Xaa (1:Int)) (Xao r.Prefix.Len)).l=[L8 r,Xao r.Prefix.Len]++Xac 18 0:=rfl;generalize ((Dat.z:Vec UInt8 20).set 0 (L8 r)).set (Xaa (1:Int)) (Xao r.Prefix.Len)=v2 at e2;have e3:(Xem v2 (Xaa (2:Int)) (over ((v2.l.drop (Xaa (2:Int))).take (((20:Int)-(2:Int)).toNat)) ((r.Prefix.Key.l.drop (Xaa 0)).take (((16:Int)-0).toNat)))).l=[L8 r,Xao r.Prefix.Len]++(r.Prefix.Key.l++[0,0]):=by
  rw[Zby];have hs:splice v2.l (Xaa 2) (over ((v2.l.drop (Xaa (2:Int))).take (((20:Int)-(2:Int)).toNat)) r.Prefix.Key.l)=[L8 r,Xao r.Prefix.Len]++(r.Prefix.Key.l++[0,0]):=by
   rw[e2,LP (k:=Xaa 2) (m:=((20:Int)-(2:Int)).toNat) rfl (by simp) (by rw[hk];decide),hk,XaM];rfl
  unfold Xem;rw[dif_pos (by rw[hs];simp[hk])];exact hs
 generalize Xem v2 (Xaa (2:Int)) (over ((v2.l.drop (Xaa (2:Int))).take (((20:Int)-(2:Int)).toNat)) ((r.Prefix.Key.l.drop (Xaa 0)).take (((16:Int)-0).toNat)))=v3 at e3;have h3:v3.l.length=20:=v3.h;rw[show(18:Int)=((18:Nat):Int)from rfl,Zz (show 18<v3.l.length by omega),Zb,Zb];have e4:(v3.set (Xaa ((18:Nat):Int)) (VY r)).l=[L8 r,Xao r.Prefix.Len]++(r.Prefix.Key.l++[VY r,0]):=by
  show v3.l.set 18 (VY r)=_;rw[e3,XbS _ _ (by simp),XbS _ _ (by simp[hk])];simp[hk]
 have he:(shr16 r.Hop ((Xap 8).toNat:Int)).toUInt8=VY r:=rfl;rw[he];generalize v3.set (Xaa ((18:Nat):Int)) (VY r)=v4 at e4;have h4:v4.l.length=20:=v4.h;rw[show(19:Int)=((19:Nat):Int)from rfl,Zz (show 19<v4.l.length by omega),Zb,Zb];have e5:(v4.set (Xaa ((19:Nat):Int)) r.Hop.toUInt8).l=enc r:=by
  show v4.l.set 19 r.Hop.toUInt8=_;rw[e4,XbS _ _ (by simp),XbS _ _ (by simp[hk])];unfold enc;simp[hk]
 generalize v4.set (Xaa ((19:Nat):Int)) r.Hop.toUInt8=v5 at e5;have e6:((v5.l.drop (Xaa 0)).take (((20:Int)-0).toNat))=enc r:=by
  rw[e5];show((enc r).drop 0).take 20=_;rw[XcS,XaB (by rw[Ly];exact Xau _)]
 rw[show cut 20 0 (20:Int)=some ()from rfl,Zb,e6,Ly,Aq (by omega) (by omega) (by omega),Zb,Zb]
theorem ZcA(r:Route):(shl16 (VY r).toUInt16 ((Xap 8).toNat:Int)) ||| (r.Hop.toUInt8).toUInt16=r.Hop:=by
 have hh:=r.Hop.toNat_lt;refine UInt16.toNat_inj.1 ?_;have e1:(VY r).toNat=r.Hop.toNat/256:=by
  unfold VY shr16;rw[show(((Xap 8).toNat:Int)).toNat=8 from rfl,Xfs,XdF (by show _<65536;omega)];omega
 have e2:(shl16 (VY r).toUInt16 ((Xap 8).toNat:Int)).toNat=2^8*(r.Hop.toNat/256):=by
  unfold shl16;rw[show(((Xap 8).toNat:Int)).toNat=8 from rfl,XfE,e1,XdF (by show _<65536;omega)];omega
 rw[UInt16.toNat_or,e2,XfE,Xfs,<-Xe7 (by omega)];omega
def ZfZ(r:Route):Prop:=(r.Prefix.Bits=32\/r.Prefix.Bits=128)/\0<=r.Prefix.Len/\r.Prefix.Len<=255
theorem PM.rt{r:Route}(h:PM r.Prefix):ZfZ r:=by
 obtain⟨h1,h2,h3,-⟩:=h;exact⟨h1,h2,by omega⟩
theorem QJ{z:Int}(h0:0<=z)(h:z<=255):(((Xao z).toNat:Nat):Int)=z:=by
 have:=Is h0 (show z<256 by omega);exact this
theorem ZaI{a b:List UInt8}(ha:a.length=16)(hb:b.length=16):splice a (Xaa 0) (over a b)=b:=by
 have e:over a b=b:=by
  unfold over;rw[XaB (by omega),Xa7 (by omega),XaX]
 rw[e];show a.take 0++b++a.drop (0+b.length)=b;rw[Xdk,Xam,Xa7 (by omega),XaX]
theorem Zax{r:Route}(h:ZfZ r):Iy (enc r)=some (r,true):=by
 have hk:=tk r;obtain⟨h1,h2,h3⟩:=h;have hl:=Ly r;have i0:idx (enc r) (0:Int)=some (L8 r):=rfl;have i1:idx (enc r) (1:Int)=some (Xao r.Prefix.Len):=rfl;have i18:idx (enc r) (18:Int)=some (VY r):=by
  rw[show(18:Int)=((18:Nat):Int)from rfl,Zz (by omega)];unfold enc;rw[Xca (by simp),Xca (by simp[hk])];simp[hk]
 have i19:idx (enc r) (19:Int)=some r.Hop.toUInt8:=by
  rw[show(19:Int)=((19:Nat):Int)from rfl,Zz (by omega)];unfold enc;rw[Xca (by simp),Xca (by simp[hk])];simp[hk]
 have ek:((enc r).take (Xaa (18:Int))).drop (Xaa (2:Int))=r.Prefix.Key.l:=by
  show((enc r).take 18).drop 2=_;unfold enc;rw[XeK,Xd3];simp[hk]
 unfold Iy;rw[i0,Zb];have ho:(bif (decide (L8 r=(XaN 0)))then((some ((⟨(⟨(32:Int),((Dat.z:Route).Prefix).Len,((Dat.z:Route).Prefix).Key⟩:Prefix),(Dat.z:Route).Hop⟩:Route):Route)).bind λr_6=>some (.inl r_6))else(bif (decide (L8 r=(XaN 1)))then((some ((⟨(⟨(128:Int),((Dat.z:Route).Prefix).Len,((Dat.z:Route).Prefix).Key⟩:Prefix),(Dat.z:Route).Hop⟩:Route):Route)).bind λr_7=>some (.inl r_7))else((some ((⟨Dat.z,0⟩:Route):Route)).bind λk_8=>some (.inr (k_8,false)))))=(some (.inl (⟨(⟨r.Prefix.Bits,((Dat.z:Route).Prefix).Len,((Dat.z:Route).Prefix).Key⟩:Prefix),(Dat.z:Route).Hop⟩:Route)):Option (Route⊕(Route×Bool))):=by
  unfold L8;rcases h1 with h|h
  .rw [if_neg (by omega),h];rfl
  .rw [if_pos h,h];rfl
 rw[ho,Zb,ZU,i1,Zb,Zb,ZdS,Zb,Ef (by omega) (by omega) (by omega),Zb,Zb,i18,Zb,i19,Zb,Zb,ZcA,ek];have hput:∀k:Vec UInt8 16,Xem k (Xaa 0) (over ((k.l.drop (Xaa 0)).take (((16:Int)-0).toNat)) r.Prefix.Key.l)=r.Prefix.Key:=λk=>by
  have hkk:k.l.length=16:=k.h;have e:splice k.l (Xaa 0) (over ((k.l.drop (Xaa 0)).take (((16:Int)-0).toNat)) r.Prefix.Key.l)=r.Prefix.Key.l:=by
   rw[Zby];exact ZaI hkk hk
  unfold Xem;rw[dif_pos (by rw[e];exact hk)];exact XfA e
 dsimp only;rw[hput,QJ h2 h3]
def K8(c:List Route):List UInt8:=(c.map enc).flatten
theorem OQ(r:Route)(c:List Route):K8 (r::c)=enc r++K8 c:=rfl
theorem Tx(a b:List Route):K8 (a++b)=K8 a++K8 b:=by unfold K8;rw[Xc9,XcB]
theorem U1(r:Route):K8 [r]=enc r:=by unfold K8;simp
theorem Me:∀c:List Route,(K8 c).length=20*c.length
 | []=>rfl
 | r::c=>by rw[OQ,XaD,Ly,Me c,XaP];omega
theorem Zai{c t0:List Route}(hc:∀r∈c,ZfZ r)(hl:t0.length+c.length<=1000000):ZN (λs=>EP s.1 s.2) (K8 c,t0)=some (.inl (t0++c)):=by
 refine ZM (λj=>(K8 (c.drop j),t0++c.take j)) c.length (by omega) (λj hj=>?_) ?_ (by simp)
 .unfold EP;dsimp only;have e:=Xa0 hj;have hlen:(K8 (c.drop j)).length=20*(c.length-j):=by rw[Me,XbP]
  have e1:(K8 (c.drop j)).take (Xaa (20:Int))=enc c[j]:=by
   rw[e,OQ];show(enc c[j]++_).take 20=_;rw[Xcf (by rw[Ly];exact Xau _),XaB (by rw[Ly];exact Xau _)]
  have e2:(K8 (c.drop j)).drop (Xaa (20:Int))=K8 (c.drop (j+1)):=by
   rw[e,OQ];show(enc c[j]++_).drop 20=_;rw[show 20=(enc c[j]).length from(Ly _).symm,List.drop_left]
  rw[Zj (by rw[hlen];simp;omega),Ef (by omega) (by omega) (by rw[hlen];omega),Zb,e1,Zax (hc _ (Xax hj)),Zb];dsimp only;rw[XaC,Zq,Aq (by omega) (by simp;omega) (by simp;omega),Zb,Zb,Ef (by omega) (by rw[hlen];omega) (by omega),Zb,Zb,e2];rw[XaM,<-List.take_succ_eq_append_getElem hj]
 .unfold EP;dsimp only;rw[List.drop_length,show K8 []=[]from rfl,Zg (by simp),Xbp]
theorem Un{cs:List (List Route)}(hc:∀r∈cs.flatten,ZfZ r)(hl:cs.flatten.length<=100000)(hn:cs.length<=100000):Fv (cs.map K8)=some (if PN cs.flatten then(cs.flatten,0)else([],2)):=by
 unfold Fv;have hlen:(cs.map K8).length=cs.length:=XdC ..;have h1:ZN (λs=>EQ (cs.map K8) s.1 s.2) ((0:Int),[])=some (.inl cs.flatten):=by
  refine ZM (λi=>((i:Int),(cs.take i).flatten)) cs.length (by omega) (λi hi=>?_) ?_ (by simp)
  .unfold EQ;dsimp only;have hle:(cs.take i).flatten.length+cs[i].length<=cs.flatten.length:=ZdG hi;rw[show decide ((i:Int)<((cs.map K8).length:Int))=true by rw[hlen];exact El hi,Zu,Zz (show i<(cs.map K8).length by rw[hlen];exact hi),Zb,XcZ,Lo (by omega) (by omega),Zb,Zg (by rw[Me];simp),
    Zai (λr hr=>hc r (List.mem_flatten.2 ⟨_,Xax hi,hr⟩)) (by omega),Zb,ZU,ZL (by omega),Zb,J2 hi]
  .unfold EQ;dsimp only;rw[hlen,Jv,Zq,Xbp]
 rw[h1,Zb,ZU,K6,Zb];cases PN cs.flatten
 .rw [Xas,Zu];rfl
 .rw [XaC,Zq];rfl
def NE(t:List Route)(per i:Nat):List Route:=(t.drop (i*per)).take per
def Jz(t:List Route)(per ids:Nat):List (List Route):=(Xbe ids).map (NE t per)
theorem OV(t:List Route)(per:Nat):∀ids,(Jz t per ids).flatten=t.take (ids*per)
 | 0=>by simp[Jz]
 | ids+1=>by
  have ih:=OV t per ids;unfold Jz at ih⊢;rw[Xeb,Xc9,XcB,ih,List.map_singleton,List.flatten_singleton,XaF,List.take_add];rfl
def EU(per i:Nat):Nat:=(i-1)/per
def M3(t:List Route)(per ids L:Nat):List (List UInt8):=(Xbe ids).map λk=>if k<L then K8 (NE t per k)else[]
theorem Hs{t:List Route}{per ids L:Nat}:(M3 t per ids L).length=ids:=by simp[M3]
theorem Q3{t:List Route}{per ids L k:Nat} (h:k<(M3 t per ids L).length):(M3 t per ids L)[k]=if k<L then K8 (NE t per k)else[]:=by simp[M3]
theorem Sm{t:List Route}{per ids L:Nat} (hL:L<ids):(M3 t per ids L).set L (K8 (NE t per L))=M3 t per ids (L+1):=by
 refine XbN (by rw[XaA,Hs,Hs]) λk h1 h2=>?_
 rw[Hs]at h2;rw[Xdr,Q3,Q3]
 by_cases h:L=k
 .subst h;rw[if_pos rfl,if_pos (by omega)]
 .rw [if_neg h]
  by_cases h3:k<L
  .rw [if_pos h3,if_pos (by omega)]
  .rw [if_neg h3,if_neg (by omega)]
theorem Zcu{per i:Nat}(hp:0<per):(i/per=EU per i/\i<(EU per i+1)*per)\/(i/per=EU per i+1/\i=(EU per i+1)*per):=by
 unfold EU;rcases XbB i with rfl|h0
 .left;rw[XfG];simp[hp]
 .have e:=Xfi (i-1) per;have hr:=XgC (i-1) hp;rw[Xbb]at e;have em:((i-1)/per+1)*per=(i-1)/per*per+per:=XaF ..
  by_cases h:(i-1)%per+1<per
  .left
   refine⟨Nat.div_eq_of_lt_le (by omega) (by rw[em];omega),by omega⟩
  .right
   have h2:i=((i-1)/per+1)*per:=by omega
   refine⟨?_,h2⟩
   conv=>lhs;rw[h2]
   rw[XdH _ hp]
theorem Xr{per i:Nat}(hp:0<per):EU per i*per<=i:=by
 unfold EU;have:=Xf0 (i-1) per;omega
theorem R1{per i:Nat}:EU per (i+1)=i/per:=by unfold EU;rw[Nat.add_sub_cancel]
theorem Vy{t:List Route}{per k i:Nat} (h:i=(k+1)*per):(t.take i).drop (k*per)=NE t per k:=by
 unfold NE;rw[List.drop_take,h,XaF,Nat.add_sub_cancel_left]
theorem TK{t:List Route}{per ids:Nat}{Dv:Int} (hp:0<per) (hr:Dv=20*per+Dv%20/\0<=Dv%20) (hi:1<=ids) (hids:ids<=64) (hl:t.length<=ids*per) (ht:t.length<=256) :
  ZN (λs=>Ec t Dv s.1 s.2.1 s.2.2.1 s.2.2.2) ((0:Int),(0:Int),Xac ids ([]:List UInt8),([]:List UInt8))=some ((Jz t per ids).map K8):=by
 have hq:JB Dv 20=some (per:Int):=by rw[G7 (by omega) (by omega)];congr 1;omega
 have hlt:∀i,i<=t.length->EU per i<ids:=λi hi2=>by
  unfold EU;rcases XbB i with rfl|h0
  .rw [XgT,XfG];omega
  .exact Xey (by rw[Xbb];omega)
 refine ZM (λi=>((i:Int),(EU per i:Int),M3 t per ids (EU per i),K8 ((t.take i).drop (EU per i*per)))) t.length (by omega) (λi hi2=>?_) ?_ ?_
 .unfold Ec;dsimp only;have hL:=hlt i (by omega);have hL2:=hlt (i+1) (by omega);rw[R1]at hL2;have htk:t.take (i+1)=t.take i++[t[i]]:=Cd hi2;have hll:=Xr (i:=i) hp;have hys:(K8 ((t.take i).drop (EU per i*per))).length<=1000000:=by rw[Me,XbP,Xa5];omega
  rw[Zz (show EU per i<(M3 t per ids (EU per i)).length by rw[Hs];exact hL),Zb,El hi2,Zu,Zz hi2,Zb,hq,Zb,Ku hp,Zb,Zz (show i/per<(M3 t per ids (EU per i)).length by rw[Hs];exact hL2),Zb,R1];rcases Zcu (i:=i) hp with⟨h1,h2⟩|⟨h1,h2⟩
  .rw [h1,decide_eq_true rfl,Zu,Xs _ hys,Zb,ZL (by omega),Zb,htk,List.drop_append_of_le_length (by rw[Xa5];omega),Tx,U1]
  .rw [h1,Zg (by simp;omega)];rw[show Tk (Xaa ((EU per i+1:Nat):Int)) (Xaa (EU per i:Int)+1)=some ()by rw[Xak,Xak];unfold Tk;rw[if_pos rfl],Zb,Xs _ (by simp),Zb,ZL (by omega),Zb,Xam,Xak,Vy h2,Sm hL,htk,<-h2];rw[Xd3,Xa5,XaY (by omega),Xeg,Xa7 (by rw[Xa5];omega),Xam,XcS,U1]
 .unfold Ec;dsimp only;have hL:=hlt t.length (by omega);have hll:=Xr (i:=t.length) hp;rw[Zz (show EU per t.length<(M3 t per ids (EU per t.length)).length by rw[Hs];exact hL),Zb,Jv,Zq,Xak,Xbp];have hle:t.length<=(EU per t.length+1)*per:=by
   rcases Zcu (i:=t.length) hp with⟨h1,h2⟩|⟨h1,h2⟩<;>omega
  have e1:t.drop (EU per t.length*per)=NE t per (EU per t.length):=by
   unfold NE;rw[XaB];rw[XbP,XaF]at *;omega
  rw[e1,Sm hL];refine congrArg (λx=>some (Sum.inr x)) ?_;unfold M3 Jz;rw[XeL];refine List.map_congr_left λk hk=>?_
  by_cases h:k<EU per t.length+1
  .rw [if_pos h];rfl
  .rw [if_neg h];have hk2:(EU per t.length+1)*per<=k*per:=Xah _ (by omega);have:NE t per k=[]:=by
    unfold NE;rw[Xa7 (by omega),List.take_nil]
   show[]=K8 (NE t per k);rw[this];rfl
 .have e0:EU per 0=0:=by unfold EU;rw[XgT,XfG]
  rw[e0];have:M3 t per ids 0=Xac ids []:=by
   refine XbN (by rw[Hs,XaK]) λk h1 h2=>?_
   rw[Q3,Xbs,if_neg (by omega)]
  rw[this];simp;rfl
theorem X6{t:List Route}(h:TbR t){per ids:Nat}{Dv:Int} (hp:0<per) (hr:Dv=20*per+Dv%20/\0<=Dv%20) (hr2:20<=Dv/\Dv<=240) (hi:1<=ids) (hids:ids<=64) {z:Int} (hz:z=ids) :
  Hb t z Dv=some (if t.length<=min (ids*per) 256 then((Jz t per ids).map K8,0)else([],5)):=by
 subst hz;have hl:=h.len;have hmul:ids*per<=64*12:=Xb5 hids (by omega);have hmul2:1*1<=ids*per:=Xb5 hi hp;have hq:JB Dv 20=some (per:Int):=by rw[G7 (by omega) (by omega)];congr 1;omega
 have em:(ids:Int)*per=((ids*per:Nat):Int):=(XbQ ..).symm;have hmost:Ha (ids:Int) Dv=some (((min (ids*per) 256:Nat)):Int):=by
  unfold Ha;rw[Zg (by simp;omega),hq,Zb,Gb (by rw[em];omega) (by rw[em];omega),Zb,em];congr 1;omega
 unfold Hb;rw[hmost,Zb,show decide ((((min (ids*per) 256:Nat)):Int)=0)=false by simp;omega,Xas,Av,h.right,Zb,XaC,Bool.or_false,Zq]
 by_cases hle:t.length<=min (ids*per) 256
 .rw [if_pos hle,Zg (by simp;omega),Aq (by omega) (by omega) (by omega),Zb,Zb,Xak,show(0:Int)=((0:Nat):Int)from rfl,Zz (show 0<(Xac ids ([]:List UInt8)).length by rw[XaK];omega),Zb];have:=TK (t:=t) (Dv:=Dv) hp hr hi hids (by omega) hl;rw[show((0:Nat):Int)=(0:Int)from rfl,this,Zb]
 .rw [if_neg hle,Zj (by simp;omega)]
def Hr(old now:List (List UInt8))(n:Nat):List Fg:=((Xbe n).filter λi=>decide (old.getD i []≠now.getD i [])).map λ(i:Nat)=>(⟨(i:Int),now.getD i []⟩:Fg)
theorem P2(old now:List (List UInt8))(n:Nat):Hr old now (n+1)=Hr old now n++if old.getD n []≠now.getD n []then[⟨(n:Int),now.getD n []⟩]else[]:=by
 unfold Hr;rw[Xeb,Xf1,Xc9]
 by_cases h:old.getD n []≠now.getD n []
 .rw [if_pos h];simp only[Xgk,decide_eq_true h,Xgv,if_true,List.map_cons,Xcy]
 .rw [if_neg h];simp only[Xgk,decide_eq_false h,Xgv,Xcy,Bool.false_eq_true,if_false]
theorem OR(old now:List (List UInt8))(n:Nat):(Hr old now n).length<=n:=by
 unfold Hr;rw[XdC];have:=List.length_filter_le (λi=>decide (old.getD i []≠now.getD i [])) (Xbe n);rw[Xct]at this;exact this
theorem Xl{old now:List (List UInt8)}{n:Nat}{x:Fg} (h:x∈Hr old now n):∃i,i<n/\x.Id=i/\x.Body=now.getD i []/\old.getD i []≠now.getD i []:=by
 unfold Hr at h;obtain⟨i,hi,rfl⟩:=XdO.1 h;obtain⟨h1,h2⟩:=XeV.1 hi;exact⟨i,Xeh.1 h1,rfl,rfl,by simpa using h2⟩
theorem TA(old now:List (List UInt8))(n:Nat):((Hr old now n).map (·.Id)).Nodup:=by
 unfold Hr;rw[XeL];refine List.Pairwise.map _ (λa b h=>?_) (List.Pairwise.filter _ (List.nodup_range (n:=n)));intro e;have e:(a:Int)=(b:Int):=e;exact h (by omega)
theorem X5(l:List (List UInt8))(i:Nat):IA l (i:Int)=some (l.getD i []):=by
 unfold IA
 by_cases h:i<l.length
 .rw [Zg (by simp;omega),Zz h,Zb,gtD h]
 .rw [Zj (by simp;omega),Xad,XcH (by omega)];rfl
theorem U3{b:List UInt8}(h:b.length<=140737488351232):En b=some b:=by
 unfold En;rw[Aq (by omega) (by simp;omega) (by simp;omega),Zb]
theorem Wc{old now:List (List UInt8)}{n:Nat} (h1:old.length=n) (h2:now.length=n) (hn:n<=1000) (hb:∀b∈now,b.length<=100000):FY old now=some (Hr old now n):=by
 unfold FY;have h3:ZN (λs=>Dz old now s.1 s.2) ((0:Int),([]:List Fg))=some (Hr old now n):=by
  refine ZM (λi=>((i:Int),Hr old now i)) n (by omega) (λi hi=>?_) ?_ rfl
  .unfold Dz;dsimp only;have hd:=OR old now i;have hbl:(now.getD i []).length<=100000:=by rw[gtD (by omega)];exact hb _ (Xax (by omega))
   rw[Zj (by rw[h1,h2];simp;omega),X5,Zb,X5,Zb];unfold Jm;rw[Zb,P2]
   by_cases h:old.getD i []=now.getD i []
   .rw [decide_eq_true h,XaC,Zq,Zb,ZL (by omega),Zb,if_neg (λh'=>h' h),XaX]
   .rw [decide_eq_false h,Xas,Zu,U3 (by omega),Zb,Aq (by omega) (by simp;omega) (by simp;omega),Zb,Zb,Zb,ZL (by omega),Zb,if_pos h]
  .unfold Dz;dsimp only;rw[Zg (by rw[h1,h2];simp)]
 rw[h3,Zb]
def Zb9(t:List Route)(p:Prefix):Prop:=∃r∈t,r.Prefix=p
instance (t:List Route)(p:Prefix):Decidable (Zb9 t p):=by unfold Zb9;exact inferInstance
theorem Vz{t:List Route}(h:TbR t){p:Prefix}:∀a∈t.take (GH t p),PL a.Prefix p:=λa ha=>by
 obtain⟨i,hi,rfl⟩:=XaQ ha;rw[Xa5]at hi;rw[List.getElem_take];exact(I5 h (by omega)).2 (by omega)
theorem XC{t:List Route}(h:TbR t){p:Prefix}(hh:Zb9 t p):∃hk:GH t p<t.length,t[GH t p].Prefix=p/\∀a∈t.drop (GH t p+1),PL p a.Prefix:=by
 obtain⟨r,hr,e⟩:=hh;obtain⟨i,hi,rfl⟩:=XaQ hr;have hra:=I5 h (p:=p) hi;have hge:GH t p<=i:=Xgt λh1=>(hra.2 h1).ne e
 have hk:GH t p<t.length:=by omega
 have hki:GH t p=i:=by
  rcases Nat.lt_or_ge (GH t p) i with h1|h1
  .have h2:=Xbz.1 h.srt (GH t p) i hk hi h1;rw[e]at h2;have:=(I5 h (p:=p) hk).1 h2;omega
  .omega
 refine⟨hk,by simp only[hki];exact e,λa ha=>?_⟩;obtain⟨j,hj,rfl⟩:=XaQ ha;rw[XbP]at hj;rw[XdY];have:=Xbz.1 h.srt i (GH t p+1+j) hi (by omega) (by omega);rw[e]at this;exact this
theorem Tz{t:List Route}(h:TbR t){p:Prefix}(hp:PM p)(hh:¬Zb9 t p):∀a∈t.drop (GH t p),PL p a.Prefix:=λa ha=>by
 have hm:=Xdu ha;obtain⟨j,hj,rfl⟩:=XaQ ha;rw[XbP]at hj;rw[XdY]at hm⊢;rcases ZfG (h.may _ hm) hp with h1|h1|h1
 .have:=(I5 h (p:=p) (show GH t p+j<t.length by omega)).1 h1;omega
 .exact absurd ⟨_,hm,h1⟩ hh
 .exact h1
def U5(t:List Route)(c:BA):List Route×Int:=
 if ¬PM c.Route.Prefix then(t,1)else
 if c.Gone then(if Zb9 t c.Route.Prefix then(t.take (GH t c.Route.Prefix)++t.drop (GH t c.Route.Prefix+1),0)else(t,6))else
 if Zb9 t c.Route.Prefix then(t.set (GH t c.Route.Prefix) c.Route,0)else
 if 256<=t.length then(t,5)else(t.take (GH t c.Route.Prefix)++[c.Route]++t.drop (GH t c.Route.Prefix),0)
theorem XY{t:List Route}(h:TbR t)(c:BA):FV t c=some (U5 t c):=by
 have hl:=h.len;have hr:=S6 t c.Route.Prefix;unfold FV U5;rw[GM,Zb]
 by_cases hp:PM c.Route.Prefix
 .rw [decide_eq_true hp,XaC,Zq,if_neg (λh=>h hp),Rx h,Zb]
  by_cases hh:Zb9 t c.Route.Prefix
  .obtain ⟨hk,-,-⟩:=XC h hh;rw[show decide (∃r∈t,r.Prefix=c.Route.Prefix)=true from decide_eq_true hh,if_pos hh,if_pos hh];dsimp only;rw[XaC,XdV,Zq];cases hg:c.Gone
   .rw [Zq,Zu,Zz hk,Zb,Zb,Xak,if_neg (by decide)]
   .rw [Zu,ZL (by omega),Zb,if_pos rfl];unfold BL;rw[Ef (by omega) (by omega) (by omega),Zb,Zb,Xak,Xak]
  .rw [show decide (∃r∈t,r.Prefix=c.Route.Prefix)=false from decide_eq_false hh,if_neg hh,if_neg hh];dsimp only;rw[Xas,Bool.and_true];cases hg:c.Gone
   .rw [Zq,Zq,Zq,if_neg (by decide)]
    by_cases hf:256<=t.length
    .rw [Zj (by simp;omega),if_pos hf]
    .rw [Zg (by simp;omega),if_neg hf];unfold BK;rw[Ef (by omega) (by omega) (by omega),Zb];rw[show Tk [c.Route].length 1=some ()from rfl,Zb,Aq (by omega) (by simp;omega) (by simp;omega),Zb,Zb,Xak]
   .rw [Zu,if_pos rfl]
 .rw [decide_eq_false hp,Xas,Zu,if_pos hp]
theorem ZcT{t:List Route}(h:TbR t){c:BA}(h0:(U5 t c).2=0):TbR (U5 t c).1/\
  ∀r,r∈(U5 t c).1↔(c.Gone=false/\r=c.Route)\/(r∈t/\r.Prefix≠c.Route.Prefix):=by
 have hl:=h.len;have hr:=S6 t c.Route.Prefix;have hta:=Vz h (p:=c.Route.Prefix);unfold U5 at h0⊢
 by_cases hp:PM c.Route.Prefix
 .rw [if_neg (λh=>h hp)]at h0⊢;have hst:(t.take (GH t c.Route.Prefix)).Pairwise λa b=>PL a.Prefix b.Prefix:=h.srt.sublist (List.take_sublist ..)
  by_cases hh:Zb9 t c.Route.Prefix
  .obtain ⟨hk,hke,hkd⟩:=XC h hh;have hsd:(t.drop (GH t c.Route.Prefix+1)).Pairwise λa b=>PL a.Prefix b.Prefix:=h.srt.sublist (Xgb ..)
   have hmem:∀r,r∈t/\r.Prefix≠c.Route.Prefix↔r∈t.take (GH t c.Route.Prefix)\/r∈t.drop (GH t c.Route.Prefix+1):=λr=>by
    constructor
    .rintro ⟨h1,h2⟩;rw[<-Xbv (GH t c.Route.Prefix) t,Xar,Xa0 hk,Xa1]at h1;rcases h1 with h1|rfl|h1
     .exact .inl h1
     .exact absurd hke h2
     .exact .inr h1
    .rintro (h1|h1)
     .exact ⟨Xei h1,(hta r h1).ne⟩
     .exact ⟨Xdu h1,(hkd r h1).ne.symm⟩
   cases hg:c.Gone
   .rw [if_neg (by decide),if_pos hh];have e:t.set (GH t c.Route.Prefix) c.Route=t.take (GH t c.Route.Prefix)++c.Route::t.drop (GH t c.Route.Prefix+1):=XeB (l:=t)▸(by rw[if_pos hk]);dsimp only;refine⟨⟨by rw[XaA];exact hl,λr hr2=>?_,?_⟩,λr=>?_⟩
    .rcases List.mem_or_eq_of_mem_set hr2 with h1|rfl
     .exact h.may r h1
     .exact hp
    .rw [e,XaH];refine⟨hst,XaO.2 ⟨hkd,hsd⟩,λa ha b hb=>?_⟩;rcases Xa1.1 hb with rfl|hb
     .exact hta a ha
     .exact (hta a ha).tr (hkd b hb)
    .rw [e,Xar,Xa1,hmem]
     constructor
     .rintro (h1|h1|h1)
      .exact .inr (.inl h1)
      .exact .inl ⟨rfl,h1⟩
      .exact .inr (.inr h1)
     .rintro (⟨-,h1⟩|h1|h1)
      .exact .inr (.inl h1)
      .exact .inl h1
      .exact .inr (.inr h1)
   .rw [if_pos rfl,if_pos hh];dsimp only;have hsub:(t.take (GH t c.Route.Prefix)++t.drop (GH t c.Route.Prefix+1)).Sublist t:=by
     conv=>rhs;rw[<-Xbv (GH t c.Route.Prefix) t]
     exact List.Sublist.append (List.Sublist.refl _) (by rw[Xa0 hk];exact Xfu ..)
    refine⟨h.sub hsub,λr=>?_⟩;rw[Xar,<-hmem];exact⟨λh=>.inr h,λh=>h.elim (λh=>by cases h.1) id⟩
  .have hkd:=Tz h hp hh;have hsd:(t.drop (GH t c.Route.Prefix)).Pairwise λa b=>PL a.Prefix b.Prefix:=h.srt.sublist (Xgb ..)
   cases hg:c.Gone
   .rw [hg,if_neg (by decide),if_neg hh]at h0;rw[if_neg (by decide),if_neg hh]
    by_cases hf:256<=t.length
    .rw [if_pos hf]at h0;cases h0
    .rw [if_neg hf];dsimp only;refine⟨⟨by simp;omega,λr hr2=>?_,?_⟩,λr=>?_⟩
     .rw [Xar,Xar,Xal]at hr2;rcases hr2 with(h1|rfl)|h1
      .exact h.may r (Xei h1)
      .exact hp
      .exact h.may r (Xdu h1)
     .rw [XaM,XaH];refine⟨hst,XaO.2 ⟨hkd,hsd⟩,λa ha b hb=>?_⟩;rcases Xa1.1 hb with rfl|hb
      .exact hta a ha
      .exact (hta a ha).tr (hkd b hb)
     .rw [Xar,Xar,Xal]
      constructor
      .rintro ((h1|h1)|h1)
       .exact .inr ⟨Xei h1,(hta r h1).ne⟩
       .exact .inl ⟨rfl,h1⟩
       .exact .inr ⟨Xdu h1,(hkd r h1).ne.symm⟩
      .rintro (⟨-,h1⟩|⟨h1,h2⟩)
       .exact .inl (.inr h1)
       .rw [<-Xbv (GH t c.Route.Prefix) t,Xar]at h1;rcases h1 with h1|h1
        .exact .inl (.inl h1)
        .exact .inr h1
   .rw [hg,if_pos rfl,if_neg hh]at h0;cases h0
 .rw [if_pos hp]at h0;cases h0
def Ld(t:List Route):List Route->List BA->List Route×Int
 | u,[]=>(u,0)
 | u,c::l=>if (U5 u c).2=0 then Ld t (U5 u c).1 l else(t,(U5 u c).2)
theorem Ya(t u:List Route)(c:BA)(l:List BA):Ld t u (c::l)=if (U5 u c).2=0 then Ld t (U5 u c).1 l else(t,(U5 u c).2):=rfl
theorem N2{t:List Route}(h:t.length<=1000000):ZY t=some t:=by
 unfold ZY;rw[Aq (by omega) (by omega) (by omega),Zb]
theorem X9{t:List Route}:∀{l:List BA}{u:List Route},TbR u->(Ld t u l).2=0->TbR (Ld t u l).1
 | [],u,h,_=>h
 | c::l,u,h,h0=>by
  unfold Ld at h0⊢
  by_cases hc:(U5 u c).2=0
  .rw [if_pos hc]at h0⊢;exact X9 (ZcT h hc).1 h0
  .rw [if_neg hc]at h0;exact absurd h0 hc
theorem Zbx{t:List Route}(h:TbR t){l:List BA}(hl:l.length<=1000000):GZ t l=some (Ld t t l):=by
 have hlt:=h.len;unfold GZ;rw[h.right,Zb,XaC,Zq,N2 (by omega),Zb];refine Gg (XcA (Xda (σ:=Int×List Route) (R:=λo:List Route⊕(List Route×Int)=>(∃u,o=.inl u/\Ld t t l=(u,0))\/o=.inr (Ld t t l)) (λs=>∃i:Nat,s.1=i/\i<=l.length/\TbR s.2/\Ld t s.2 (l.drop i)=Ld t t l) (λs=>l.length-s.1.toNat) (λs hs=>?_) ⟨0,rfl,by omega,h,rfl⟩ (by show l.length-0<_;omega)) λo ho=>?_)
 .obtain ⟨z,u⟩:=s;obtain⟨i,rfl,hi,hu,he⟩:=hs;dsimp only at hu he⊢;unfold Ib
  by_cases hlt2:i<l.length
  .rw [El hlt2,Zu,Zz hlt2,Zb,XY hu,Zb];rw[Xa0 hlt2,Ya]at he
   by_cases hc:(U5 u l[i]).2=0
   .rw [if_pos hc]at he;rw[Zg (by simp[hc]),ZL (by omega),Zb];exact Xez ⟨i+1,rfl,by omega,(ZcT hu hc).1,he⟩ (by show l.length-(((i+1:Nat):Int)).toNat<l.length-(i:Int).toNat;omega)
   .rw [if_neg hc]at he;rw[Zj (by simp[hc]),N2 (by omega),Zb];exact AN (.inr (by rw[he]))
  .rw [I9 (by omega),Zq];rw[Xa7 (by omega)]at he;exact AN (.inl ⟨u,rfl,he.symm⟩)
 .rcases ho with⟨u,rfl,he⟩|rfl
  .rw [ZU];exact XbE he.symm
  .rw [A2];exact XbE rfl
def JE(P nB:Nat):Nat:=min ((nB-4)*P/2) 24
theorem Ze5:Ff 64=24:=rfl
theorem ZeW:E5 64=48:=rfl
theorem EV{P nB S:Nat}(hg:Geo P nB S):1<=JE P nB/\JE P nB<=24/\2*JE P nB<=(nB-4)*P:=by
 have:=hg.p2;have:=hg.b5;have h1:1*2<=(nB-4)*P:=Xb5 (by omega) (by omega);unfold JE;omega
theorem ZaZ{nB P:Nat}(h1:4<=nB)(h2:nB<=32)(h3:1<=P)(h4:P<=16):Hn (nB:Int) (P:Int)=some (((nB-4)*P:Nat):Int):=by
 have:(nB-4)*P<=28*16:=Xb5 (by omega) h4;have e:((nB:Int)-4)*P=(((nB-4)*P:Nat):Int):=by
  rw[XbQ];congr 1;omega
 unfold Hn;have hb:((((decide ((nB:Int)<4))||(decide ((nB:Int)>32)))||(decide ((P:Int)<1)))||(decide ((P:Int)>16)))=false:=by simp;omega
 rw[hb,Zq,Ax (by omega) (by omega),Zb,Gb (by rw[e];omega) (by rw[e];omega),Zb,e]
theorem Zcz{P nB S:Nat}(hg:Geo P nB S):MX (nB:Int) (P:Int) 64=some (JE P nB:Int):=by
 have:=hg.p2;have:=hg.b5;have:=hg.b11;have:=hg.p8;unfold MX;rw[ZaZ (by omega) (by omega) (by omega) (by omega),Zb,show(2:Int)=((2:Nat):Int)from rfl,Ku (by omega),Zb,JO,Zb,Ze5];unfold JE;congr 1;omega
def QF(P nB:Nat):Nat:=min (JE P nB*2) 256
theorem Zen{P nB S:Nat}(hg:Geo P nB S):Mc (nB:Int) (P:Int) 64=some (QF P nB:Int):=by
 have hi:=EV hg;unfold Mc;rw[Zcz hg,Zb,Dx,Zb,ZeW];unfold Ha;rw[Zg (by simp;omega),show JB (48:Int) 20=some 2 from rfl,Zb,Gb (by omega) (by omega),Zb,Zb];unfold QF;congr 1;omega
theorem Sh{P nB:Nat}{c:Chip} (h:CI P nB 64 c):(c.Blocks.length:Int)=nB/\c.Pages=P/\c.Size=64:=⟨by rw[h.len],h.pgs,h.siz⟩
theorem RY{P nB:Nat}{c:Chip} (hg:Geo P nB 64) (h:CI P nB 64 c):GP c=some (QF P nB:Int):=by
 obtain⟨h1,h2,h3⟩:=Sh h;unfold GP;rw[h1,h2,h3,Zen hg,Zb]
theorem QL{P nB:Nat}{c:Chip} (hg:Geo P nB 64) (h:CI P nB 64 c):Hp c=some (JE P nB:Int):=by
 obtain⟨h1,h2,h3⟩:=Sh h;unfold Hp;rw[h1,h2,h3,Zcz hg,Zb]
theorem UO{P nB S:Nat}(hg:Geo P nB S):decide ((QF P nB:Int)=0)=false:=by
 have hi:=EV hg;rw[decide_eq_false_iff_not];unfold QF;omega
theorem Zbh{P nB S:Nat}{c:Chip}{gen:UInt64}{at0:List Int}{last:Int}{bod:List (List UInt8)}{id:Nat} (hc:CI P nB S c) (hg:Geo P nB S) (h:GI P nB c at0 bod) (hi:id<at0.length) :
  Ma ⟨c,at0,gen,last⟩ (id:Int)=some (bod.getD id []):=by
 unfold Ma;rw[Dp (d:=0) rfl hi,Zb];rcases h.2 id hi with g|⟨k,j,g,a1,a2,a3,a4,a5,a6,a7⟩
 .rw [g.1,Ax (by omega) (by omega),Zb,Zj (by decide),g.2]
 have hp:=ET (P:=P) (k:=k) (j:=j);have hl:=PV (P:=P) a3 a4;have hq:=Lt (k:=k) a4;have:nB*P<=11*8:=Xb5 hg.b11 hg.p8;have:=hg.p2;rw[a1];dsimp only;rw[Ax (by omega) (by omega),Zb,Zg (by simp;omega),hc.pgs,G7 (by omega) (by omega),Zb,hq.1,hc.idxB rfl a3,Zb,Lo (by omega) (by omega),Zb,hq.2,hc.idxP rfl a3 a4,Zb,Gq,Zb,a6];rw[Zg (by simp)]
theorem Zag{α:Type}{l:List α}{n i:Nat}{z:α} (hn:l.length=n) (hi:i<n):(l.take i++Xac (n-i) z).set i (l[i]'(by omega))=l.take (i+1)++Xac (n-(i+1)) z:=by
 have e:n-i=(n-(i+1))+1:=by omega
 rw[XbS _ _ (by rw[Xa5];omega),Xa5,XaY (by omega),Xeg,e,XdJ,List.set_cons_zero,Cd (show i<l.length by omega),XaM];rfl
structure FI(P nB:Nat)(c:Chip)(at0:List Int)(gen:UInt64)(last:Int)(bod:List (List UInt8))(t:List Route):Prop where
 vi:VI P nB 64 c at0 gen last bod
 len:at0.length=JE P nB
 tab:Fv bod=some (t,0)
 tr:TbR t
theorem FI.bl{P nB:Nat}{c:Chip}{at0:List Int}{gen:UInt64}{last:Int}{bod:List (List UInt8)}{t:List Route} (h:FI P nB c at0 gen last bod t):bod.length=JE P nB:=by rw[<-h.vi.gi.1,h.len]
theorem Xp{P nB:Nat}(hg:Geo P nB 64){c:Chip}{at0:List Int}{gen:UInt64}{last:Int}{bod:List (List UInt8)}{t:List Route} (h:FI P nB c at0 gen last bod t) :
  KF c=some (⟨⟨c,at0,gen,last⟩,t⟩,bod,0):=by
 have hi:=EV hg;have hbl:=h.bl;have hal:=h.len;unfold KF;rw[RY hg h.vi.ci,Zb,UO hg,Zq,ZaU hg h.vi,Zb,Zg (by simp),QL hg h.vi.ci,Zb];dsimp only;rw[Zg (by rw[hal];simp),Aq (by omega) (by omega) (by omega),Zb,Zb,Xak,hal];have hloop:ZN (λs=>Ho (⟨c,at0,gen,last⟩,0) (Xac (JE P nB) (Dat.z:List UInt8)) s.1 s.2) ((0:Int),Xac (JE P nB) (Dat.z:List UInt8))=some bod:=by
  refine ZM (λi=>((i:Int),bod.take i++Xac (JE P nB-i) (Dat.z:List UInt8))) (JE P nB) (by omega) (λi hi2=>?_) ?_ (by simp)
  .unfold Ho;dsimp only;have hl:(bod.take i++Xac (JE P nB-i) (Dat.z:List UInt8)).length=JE P nB:=by rw[XaD,Xa5,XaK];omega
   rw[show decide ((i:Int)<((Xac (JE P nB) (Dat.z:List UInt8)).length:Int))=true by rw[XaK];exact El hi2,Zu,Zbh h.vi.ci hg h.vi.gi (by omega),Zb,Zz (by omega),Zb,Zb,Xak,ZL (by omega),Zb,gtD (show i<bod.length by omega),Zag hbl hi2]
  .unfold Ho;dsimp only;rw[XaK,Jv,Zq,XaB (by omega),Xeg,List.replicate_zero,XaX]
 rw[hloop,Zb,h.tab,Zb,Zg (by simp),Zb]
theorem XG{P nB:Nat}(hg:Geo P nB 64){c:Chip}{at0:List Int}{gen:UInt64}{last:Int}{bod:List (List UInt8)}{t:List Route} (h:FI P nB c at0 gen last bod t) :
  IK c=some (⟨⟨c,at0,gen,last⟩,t⟩,0):=by
 unfold IK;rw[Xp hg h,Zb]
theorem Zbj(a:List Route)(ha:a.length<=1000000):Bg a a=some true:=by
 unfold Bg;rw[Zg (by simp),ES (f:=λs=>AX a a s) a (λ_=>true) (by omega) (λi hi=>by
  unfold AX;rw[El hi,Zu,Zz hi,Zb,Zb,Zg (by simp),ZL (by omega),Zb,if_pos rfl]) (by unfold AX;rw[Jv,Zq]),Zb,if_pos (by simp),ZU]
theorem RC{P nB:Nat}(hg:Geo P nB 64){c:Chip}{at0:List Int}{gen:UInt64}{last:Int}{bod:List (List UInt8)}{t:List Route} (h:FI P nB c at0 gen last bod t) :
  GO ⟨⟨c,at0,gen,last⟩,t⟩=some (bod,true):=by
 have hal:=h.len;have hi:=EV hg;have htl:=h.tr.len;unfold GO;rw[Zb];dsimp only;rw[U4 h.vi.off,Xp hg h,Zb,Zg (by simp)];dsimp only;rw[Sc _ _ (by omega),Zb,decide_eq_true rfl,XaC,Xas,Av,Zbj _ (by omega),Zb,XaC,XeH,Zq]
theorem Zbq{l:List (List UInt8)}(h:l.length<=1000000):Ck l=some l:=by
 unfold Ck;rw[Aq (by omega) (by omega) (by omega),Zb]
theorem NP{α:Type}{l:List α}{i:Nat} (h:i<l.length):l.set i l[i]=l:=List.set_getElem_self h
theorem Zbo{P nB S:Nat}{c:Chip} (hc:CI P nB S c):Di c=some c:=by
 have hn:=hc.nat;have hlen:=hc.len;unfold Di;have hb:Ae c.Blocks=some c.Blocks:=by
  unfold Ae;rw[Aq (by omega) (by omega) (by omega),Zb]
 have hf:ZQ c.Faults=some c.Faults:=by
  unfold ZQ;rw[Aq (by omega) (by omega) (by omega),Zb]
 have h1:ZN (λs=>C3 c.Blocks s.1 s.2) ((0:Int),c.Blocks)=some c.Blocks:=by
  refine ZM (λi=>((i:Int),c.Blocks)) c.Blocks.length (by omega) (λi hi=>?_) ?_ rfl
  .unfold C3;dsimp only;obtain⟨hl,hbk⟩:=hc.blkAt (show i<nB by omega);have hr:=hc.blkR (show i<nB by omega);rw[hbk]at hr;obtain⟨r1,r2,r3,r4,r5⟩:=hr;rw[El hi,Zu,Zz hi,Zb,Zbq (by omega),Zb];have h2:ZN (λs=>C2 c.Blocks[i].Pages s.1 s.2) ((0:Int),c.Blocks[i].Pages)=some c.Blocks[i].Pages:=by
    refine ZM (λj=>((j:Int),c.Blocks[i].Pages)) c.Blocks[i].Pages.length (by omega) (λj hj=>?_) ?_ rfl
    .unfold C2;dsimp only;have:=r5 _ (Xax hj);rw[El hj,Zu,Zz hj,Zb,U3 (by omega),Zb,Zb,Zb,Xak,NP hj,ZL (by omega),Zb]
    .unfold C2;dsimp only;rw[Jv,Zq]
   rw[h2,Zb,Zb,ZL (by omega),Zb,Xak];have:c.Blocks.set i ⟨c.Blocks[i].Pages,c.Blocks[i].Used,c.Blocks[i].Worn,c.Blocks[i].Bad⟩=c.Blocks:=NP hi;rw[this]
  .unfold C3;dsimp only;rw[Jv,Zq]
 rw[hb,Zb,h1,Zb,hf,Zb,Zb,Zb]
theorem Zbn{P nB S:Nat}{c:Chip}{at0:List Int}{gen:UInt64}{last:Int}{t:List Route} (hc:CI P nB S c) (ha:at0.length<=1000) (ht:t.length<=1000):EF ⟨⟨c,at0,gen,last⟩,t⟩=some ⟨⟨c,at0,gen,last⟩,t⟩:=by
 unfold EF;rw[Zbo hc,Zb,Zb,Mg (by show at0.length<=_;omega),Zb,Zb,N2 (by show t.length<=_;omega),Zb,Zb]
theorem Ps(a b:List Fg)(bod:List (List UInt8)):C8 (a++b) bod=C8 b (C8 a bod):=by unfold C8;rw[XdZ]
theorem P9{old now:List (List UInt8)}{n:Nat} (h1:old.length=n):∀i,i<=n->∀k,k<n->(C8 (Hr old now i) old).getD k []=if k<i then now.getD k []else old.getD k []
 | 0,_,k,_=>by rw[if_neg (by omega)];rfl
 | i+1,hi,k,hk=>by
  have ih:=P9 (now:=now) h1 i (by omega) k hk;have hl:(C8 (Hr old now i) old).length=n:=by rw[Ht,h1]
  rw[P2,Ps]
  by_cases h:old.getD i []≠now.getD i []
  .rw [if_pos h];show((C8 (Hr old now i) old).set (i:Int).toNat (now.getD i [])).getD k []=_;rw[Xak,Bw (by omega)]
   by_cases e:k=i
   .subst e;rw[if_pos rfl,if_pos (by omega)]
   .rw [if_neg e,ih]
    by_cases h2:k<i
    .rw [if_pos h2,if_pos (by omega)]
    .rw [if_neg h2,if_neg (by omega)]
  .rw [if_neg h];show(C8 (Hr old now i) old).getD k []=_;rw[ih]
   by_cases e:k=i
   .subst e;rw[if_neg (by omega),if_pos (by omega)];exact Classical.not_not.1 h
   .by_cases h2:k<i
    .rw [if_pos h2,if_pos (by omega)]
    .rw [if_neg h2,if_neg (by omega)]
theorem Mm{old now:List (List UInt8)}{n:Nat} (h1:old.length=n) (h2:now.length=n):C8 (Hr old now n) old=now:=by
 refine XbN (by rw[Ht,h1,h2]) λk g1 g2=>?_
 have:=P9 (now:=now) h1 n (Xau _) k (by omega);rw[if_pos (by omega),gtD g1,gtD g2]at this;exact this
theorem V7{old now:List (List UInt8)}{n:Nat} (h1:old.length=n) (h2:now.length=n) (h:Hr old now n=[]):old=now:=by
 have:=Mm h1 h2;rw[h]at this;exact this
def Tc(P nB:Nat)(t:List Route):List (List UInt8):=(Jz t 2 (JE P nB)).map K8
theorem OH{P nB:Nat}{t:List Route}:(Tc P nB t).length=JE P nB:=by simp[Tc,Jz]
theorem UJ{P nB:Nat}{t:List Route}:∀b∈Tc P nB t,b.length<=40:=λb hb=>by
 unfold Tc Jz at hb;obtain⟨c,hc,rfl⟩:=XdO.1 hb;obtain⟨i,hi,rfl⟩:=XdO.1 hc;rw[Me];unfold NE;rw[Xa5];omega
theorem Xh{P nB:Nat}(hg:Geo P nB 64){t:List Route}(h:TbR t)(hl:t.length<=QF P nB):Fv (Tc P nB t)=some (t,0):=by
 have hi:=EV hg;have htl:=h.len;unfold QF at hl;have hf:(Jz t 2 (JE P nB)).flatten=t:=by rw[OV,XaB (by omega)]
 unfold Tc;rw[Un (λr hr=>by rw[hf]at hr;exact(h.may r hr).rt) (by rw[hf];omega) (by simp[Jz];omega),hf,if_pos (MM.2 h)]
theorem ZaP{P nB n:Nat}{old:List (List UInt8)}{t:List Route} (hn:n=JE P nB):ZeO 64 n (Hr old (Tc P nB t) n):=by
 subst hn;refine⟨λx hx=>?_,TA ..⟩;obtain⟨i,hi,e1,e2,e3⟩:=Xl hx;have hb:x.Body.length<=40:=by
  rw[e2,gtD (by rw[OH];exact hi)];exact UJ _ (Xax _)
 refine⟨by omega,by omega,by omega⟩
theorem ZaO{P nB n:Nat}{old now:List (List UInt8)}:Gt (Hr old now n)<=n:=by
 unfold Gt;exact XaG Xdp (OR ..)
def FOut(P nB:Nat)(f:Fib)(bod:List (List UInt8))(l:List BA)(r:Fib×Int):Prop:=
  (r.1=f/\r.2≠0/\((Ld f.Table f.Table l).2=r.2\/((Ld f.Table f.Table l).2=0/\r.2=5/\QF P nB<(Ld f.Table f.Table l).1.length)))\/
  ((Ld f.Table f.Table l).2=0/\(Ld f.Table f.Table l).1.length<=QF P nB/\
    ((r=(⟨f.Vol,(Ld f.Table f.Table l).1⟩,0)/\bod=Tc P nB (Ld f.Table f.Table l).1)\/
     ∃v e,r=(⟨v,if e=0 then(Ld f.Table f.Table l).1 else f.Table⟩,e)/\ZcX P nB 64 f.Vol bod (Hr bod (Tc P nB (Ld f.Table f.Table l).1) (JE P nB)) (v,e)))
theorem Zfg{P nB:Nat}(hg:Geo P nB 64){c:Chip}{at0:List Int}{gen:UInt64}{last:Int}{bod:List (List UInt8)}{t:List Route} (h:FI P nB c at0 gen last bod t) {l:List BA} (hl:l.length<=1000000) (hops:c.Ops+20000000<=De) :
  Et (Hq ⟨⟨c,at0,gen,last⟩,t⟩ l) (FOut P nB ⟨⟨c,at0,gen,last⟩,t⟩ bod l):=by
 have hi:=EV hg;have hal:=h.len;have htl:=h.tr.len;have hcop:=Zbn (at0:=at0) (gen:=gen) (last:=last) (t:=t) h.vi.ci (by omega) (by omega);unfold Hq;rw[RC hg h,Zb];dsimp only;rw[XaC,Zq,Zbx h.tr hl,Zb]
 by_cases he:(Ld t t l).2=0
 .rw [Zg (by simp[he]),QL hg h.vi.ci,Zb,h.vi.ci.siz,Dx,Zb];have htr:=X9 h.tr he;rw[show E5 ((64:Nat):Int)=48 from rfl,X6 htr (per:=2) (ids:=JE P nB) (by omega) (by decide) (by decide) hi.1 (by omega) rfl,Zb]
  by_cases hle:(Ld t t l).1.length<=min (JE P nB*2) 256
  .rw [if_pos hle];dsimp only;rw[show(Jz (Ld t t l).1 2 (JE P nB)).map K8=Tc P nB (Ld t t l).1 from rfl];rw[Zg (by simp),Wc (n:=JE P nB) h.bl (OH (P:=P) (nB:=nB) (t:=(Ld t t l).1)) (by omega) (λb hb=>by have:=UJ (P:=P) (nB:=nB) (t:=(Ld t t l).1) b hb;omega),Zb]
   by_cases hd:Hr bod (Tc P nB (Ld t t l).1) (JE P nB)=[]
   .rw [hd,Zj (by simp),hcop,Zb,Zb];exact XbE (.inr ⟨he,hle,.inl ⟨rfl,V7 h.bl OH hd⟩⟩)
   .have hdl:=OR bod (Tc P nB (Ld t t l).1) (JE P nB);rw[Zg (by
     rw[decide_eq_false_iff_not];intro h0;exact hd (Xfn.1 (by omega)))]
    refine XcA (Tp (v:=⟨c,at0,gen,last⟩) (l:=Hr bod (Tc P nB (Ld t t l).1) (JE P nB)) h.vi hg (by show(at0.length:Int)<=Ff ((64:Nat):Int);rw[show Ff ((64:Nat):Int)=24 from rfl];omega) (by show ZeO 64 at0.length _;rw[hal];exact ZaP rfl) (by omega) hops) λr hr=>?_
    obtain⟨v,e⟩:=r;dsimp only
    by_cases h0:e=0
    .subst h0;rw[Zg (by simp),Zb,Zb];exact XbE (.inr ⟨he,hle,.inr ⟨v,0,by rw[if_pos rfl],hr⟩⟩)
    .rw [Zj (by simp[h0]),N2 (by omega),Zb,Zb,Zb];exact XbE (.inr ⟨he,hle,.inr ⟨v,e,by rw[if_neg h0],hr⟩⟩)
  .rw [if_neg hle];dsimp only;rw[Zj (by simp),hcop,Zb];exact XbE (.inl ⟨rfl,by show(5:Int)≠0;decide,.inr ⟨he,rfl,Xgs hle⟩⟩)
 .rw [Zj (by simp[he]),hcop,Zb];exact XbE (.inl ⟨rfl,he,.inl rfl⟩)
theorem ZdM{P nB:Nat}(hg:Geo P nB 64):Et (GQ (AG nB P 64)) (λr=>r.2=0/\r.1.Table=[]/\FI P nB r.1.Vol.Chip r.1.Vol.At r.1.Vol.Gen r.1.Vol.Last (Xac (JE P nB) []) []/\NF r.1.Vol.Chip/\r.1.Vol.Chip.Ops<=10/\1<=Bb P nB r.1.Vol.Chip r.1.Vol.At):=by
 have hi:=EV hg;have hc:=Zcw hg;unfold GQ;rw[RY hg hc,Zb,UO hg,Zq,QL hg hc,Zb];refine XcA (V1 (S:=64) (n:=JE P nB) hg hi.1 (by rw[show Ff ((64:Nat):Int)=24 from rfl];omega) rfl) λr ⟨r1,r2,r3,r4,r5,r6⟩=>?_
 rw[Zb];refine XbE ⟨r1,rfl,⟨r2,r3,?_,TbR.nil⟩,r4,r5,r6⟩;have e:(Xac (JE P nB) ([]:List UInt8))=(Xac (JE P nB) ([]:List Route)).map K8:=by rw[List.map_replicate];rfl
 have hf:(Xac (JE P nB) ([]:List Route)).flatten=[]:=by simp
 rw[e,Un (λr hr=>by rw[hf]at hr;cases hr) (by rw[hf];simp) (by simp;omega),hf,if_pos (MM.2 TbR.nil)]
theorem Zab:FT=some true:=by decide +kernel
theorem ZgD(x:UInt8):((x%(XaN 7)).toNat:Int)=((x.toNat%7:Nat):Int):=by rw[UInt8.toNat_mod];rfl
theorem Zfd(b p:Nat):Geo (p%7+2) (b%7+5) 64:=⟨by omega,by omega,by omega,by omega,by omega,by omega⟩
theorem Ze4(b p:Nat):Jl ((b%7+5:Nat):Int) ((p%7+2:Nat):Int) (64:Int)=some (AG (b%7+5) (p%7+2) 64,0):=by
 refine Ze3 (s:=64) ?_;unfold JA;simp;omega
theorem Zgj(x:UInt8):AC ((x%(XaN 7)).toNat:Int) (5:Int)=some ((x.toNat%7+5:Nat):Int):=by
 rw[ZgD,Aa (by omega) (by omega)];rfl
theorem Zgi(x:UInt8):AC ((x%(XaN 7)).toNat:Int) (2:Int)=some ((x.toNat%7+2:Nat):Int):=by
 rw[ZgD,Aa (by omega) (by omega)];rfl
theorem Zau(a b:List Route)(ha:a.length<=1000000):DO a b=some (decide (a=b)):=by
 unfold DO
 by_cases hl:a.length=b.length
 .rw [Zg (by simp[hl]),ES (f:=λs=>CG a b s) (Xbe a.length) (λi=>decide (a.getD i rt0=b.getD i rt0)) (by simp;omega) (λi hi=>?_) (by unfold CG;rw[Xct,Jv,Zq]),Zb]
  .by_cases e:a=b
   .subst e;rw[if_pos (by simp),ZU,decide_eq_true rfl]
   .have:¬(Xbe a.length).all (λi=>decide (a.getD i rt0=b.getD i rt0))=true:=λh=>e (XbN hl λi h1 h2=>by
     have:=Xbq.1 h i (Xeh.2 h1);rw[decide_eq_true_eq,gtD h1,gtD h2]at this;exact this)
    rw[if_neg this,A2,decide_eq_false e]
  .rw [Xct]at hi;rw[Xc5];unfold CG;rw[El hi,Zu,Zz hi,Zb,Zz (show i<b.length by omega),Zb,gtD hi,gtD (show i<b.length by omega)]
   by_cases e:a[i]=b[i]
   .rw [Zg (by simp[e]),ZL (by omega),Zb,if_pos (by simp[e])]
   .rw [Zj (by simp[e]),if_neg (by simp[e])]
 .rw [Zj (by simp;omega),decide_eq_false (λe=>hl (by rw[e]))]
theorem Xy(a:List Int)(ha:a.length<=1000000):DL a a=some true:=by
 unfold DL;rw[Zg (by simp),ES (f:=λs=>CD a a s) a (λ_=>true) (by omega) (λi hi=>by
  unfold CD;rw[El hi,Zu,Zz hi,Zb,Zb,Zg (by simp),ZL (by omega),Zb,if_pos rfl]) (by unfold CD;rw[Jv,Zq]),Zb,if_pos (by simp),ZU]
theorem S3{f:Fib}(hc:C5 f.Vol.Chip=true)(ha:f.Vol.At.length<=1000000)(ht:f.Table.length<=1000000):DK f f=some true:=by
 unfold DK E3;rw[W0 hc,Zb,Av,Xy _ ha,Zb,decide_eq_true rfl,decide_eq_true rfl,Zb];rw[show(((true&&true)&&true)&&true)=true from rfl,Av,Zau _ _ ht,Zb,decide_eq_true rfl];rfl
def hd(K m:Nat):Nat:=K/2^(128-4*m)
def nib(K n:Nat):Nat:=hd K (n+1)%16
theorem UK(K n:Nat):nib K n<16:=XgC _ (by omega)
theorem Zga{K n:Nat}(h:n<32):hd K (n+1)/16=hd K n:=by
 unfold hd;rw[XbA,show 2^(128-4*(n+1))*16=2^(128-4*n)by
  rw[show 128-4*n=(128-4*(n+1))+4 by omega,Xb8]]
theorem QM{K n:Nat}(h:n<32):hd K (n+1)=hd K n*16+nib K n:=by
 rw[<-Zga h];unfold nib;omega
theorem Zgb{K m:Nat}(hK:K<2^128)(h:m<=32):hd K m<2^(4*m):=by
 unfold hd;refine Xey ?_;rw[<-Xb8,show 128-4*m+4*m=128 by omega];exact hK
theorem Tm{K:Nat}(hK:K<2^128):hd K 0=0:=by
 have:=Zgb hK (show 0<=32 by omega);omega
theorem Zgh(x:Nat):x &&& 15=x%16:=Nat.and_two_pow_sub_one_eq_mod x 4
theorem Qs(v:Vec UInt8 16){n:Nat}(h:n<32):HP v (n:Int)=some (nib (kv v) n:Int):=by
 unfold HP;have hw:n/2<16:=by omega
 have hl:n/2<v.l.length:=by rw[v.h];exact hw
 obtain⟨p1,p2⟩:=Xv v hw;have hM:0<256^(15-n/2):=XcK _;have hd256:kv v/256^(15-n/2)=kvl (v.l.take (n/2))*256+v.l[n/2].toNat:=by
  rw[p1,Xbb _ (256^(15-n/2)),Xc4 hM,Xby p2,Xbw]
 have hx:=(v.l[n/2]).toNat_lt;rw[Zg (by simp;omega),show(2:Int)=((2:Nat):Int)from rfl,Ku (by omega),Zb,Zz hl,Zb,QA (by omega),Zb]
 by_cases h2:n%2=0
 .rw [Zj (by simp;omega)];have e:nib (kv v) n=v.l[n/2].toNat/16:=by
   unfold nib hd;have e1:2^(128-4*(n+1))=256^(15-n/2)*16:=by
    rw[Ze1,show 128-4*(n+1)=8*(15-n/2)+4 by omega,Xb8]
   rw[e1,<-XbA,hd256];omega
  rw[e];unfold WZ;rw[if_pos (by omega)];simp
 .rw [Zg (by simp;omega)];have e:nib (kv v) n=v.l[n/2].toNat%16:=by
   unfold nib hd;have e1:2^(128-4*(n+1))=256^(15-n/2):=by
    rw[Ze1,show 128-4*(n+1)=8*(15-n/2)by omega]
   rw[e1,hd256];omega
  rw[e];unfold Zft;rw[if_pos (by omega),Zb,Xak];show some ((_ &&& 15:Nat):Int)=_;rw[Zgh]
def lv(L:Nat):Nat:=(L-1)/4
def rl(r:Route):Nat:=r.Prefix.Len.toNat
def rk(r:Route):Nat:=kv r.Prefix.Key
def Cov(r:Route)(d g:Nat):Prop:=lv (rl r)=d/\g/2^(4*(d+1)-rl r)=rk r/2^(128-rl r)
theorem RZ{L:Nat}(h:L<=128):L<=4*(lv L+1)/\4*lv L<=L/\lv L<32:=by unfold lv;omega
theorem XU{r:Route}{K:Nat} (h:rl r<=128):Cov r (lv (rl r)) (hd K (lv (rl r)+1))↔K/2^(128-rl r)=rk r/2^(128-rl r):=by
 obtain⟨h1,h2,h3⟩:=RZ h;unfold Cov hd;rw[XbA,<-Xb8,show 128-4*(lv (rl r)+1)+(4*(lv (rl r)+1)-rl r)=128-rl r by omega];exact⟨λh=>h.2,λh=>⟨rfl,h⟩⟩
theorem ZcO{r:Route}{d g:Nat} (h:rl r<=128) (hc:Cov r d g):g/16=hd (rk r) d:=by
 obtain⟨h1,h2,h3⟩:=RZ h;obtain⟨rfl,hc⟩:=hc;have e:=congrArg (λx=>x/2^(rl r-4*lv (rl r))) hc;rw[XbA,XbA,<-Xb8,<-Xb8,show 4*(lv (rl r)+1)-rl r+(rl r-4*lv (rl r))=4 by omega,show 128-rl r+(rl r-4*lv (rl r))=128-4*lv (rl r)by omega]at e;exact e
theorem Se{r:Route}(hp:PM r.Prefix){q:Nat}(hq:q<16):Cov r (lv (rl r)) (hd (rk r) (lv (rl r))*16+q)↔nib (rk r) (lv (rl r))<=q/\q<nib (rk r) (lv (rl r))+2^(4-(rl r-4*lv (rl r))):=by
 have hl:=hp.len;have h128:rl r<=128:=by unfold rl;omega
 obtain⟨h1,h2,h3⟩:=RZ h128;have hz:rk r%2^(128-rl r)=0:=hp.2.2.2;have hs:hd (rk r) (lv (rl r)+1)=hd (rk r) (lv (rl r))*16+nib (rk r) (lv (rl r)):=QM h3;unfold Cov;have e1:rk r/2^(128-rl r)=hd (rk r) (lv (rl r)+1)/2^(4*(lv (rl r)+1)-rl r):=by
  unfold hd;rw[XbA,<-Xb8,show 128-4*(lv (rl r)+1)+(4*(lv (rl r)+1)-rl r)=128-rl r by omega]
 have e2:hd (rk r) (lv (rl r)+1)%2^(4*(lv (rl r)+1)-rl r)=0:=by
  unfold hd;obtain⟨c,hc⟩:=Xdf hz;rw[hc,show 128-rl r=(128-4*(lv (rl r)+1))+(4*(lv (rl r)+1)-rl r)by omega,Xb8,Xcr,Xec _ (XcK _),Xgi]
 have hk:4*(lv (rl r)+1)-rl r=4-(rl r-4*lv (rl r)):=by omega
 rw[hk]at e1 e2;rw[e1,hk];rw[hs]at e2⊢;clear e1 hs hz;generalize hd (rk r) (lv (rl r))=H at *;generalize nib (rk r) (lv (rl r))=f at *;have hk4:4-(rl r-4*lv (rl r))<=4:=by omega
 generalize 4-(rl r-4*lv (rl r))=k at *;have hm:(H*16)%2^k=0:=by
  have:(2^k)∣16:=Nat.pow_dvd_pow 2 hk4;exact Nat.mod_eq_zero_of_dvd (Nat.dvd_trans this (Nat.dvd_mul_left ..))
 have key:∀m,m=1\/m=2\/m=4\/m=8\/m=16->(H*16+f)%m=0->(((H*16+q)/m=(H*16+f)/m)↔f<=q/\q<f+m):=by
  intro m hm2 h0;rcases hm2 with rfl|rfl|rfl|rfl|rfl<;>omega
 have hmm:2^k=1\/2^k=2\/2^k=4\/2^k=8\/2^k=16:=by
  rcases (show k=0\/k=1\/k=2\/k=3\/k=4 by omega)with rfl|rfl|rfl|rfl|rfl<;>simp
 rw[<-key _ hmm e2];exact⟨λh=>h.2,λh=>⟨rfl,h⟩⟩
theorem Ur{r:Route}(hp:PM r.Prefix):nib (rk r) (lv (rl r))+2^(4-(rl r-4*lv (rl r)))<=16:=by
 have hl:=hp.len;have h128:rl r<=128:=by unfold rl;omega
 obtain⟨h1,h2,h3⟩:=RZ h128;have hz:rk r%2^(128-rl r)=0:=hp.2.2.2;have e2:hd (rk r) (lv (rl r)+1)%2^(4*(lv (rl r)+1)-rl r)=0:=by
  unfold hd;obtain⟨c,hc⟩:=Xdf hz;rw[hc,show 128-rl r=(128-4*(lv (rl r)+1))+(4*(lv (rl r)+1)-rl r)by omega,Xb8,Xcr,Xec _ (XcK _),Xgi]
 have hn:nib (rk r) (lv (rl r))=hd (rk r) (lv (rl r)+1)%16:=rfl;rw[show 4*(lv (rl r)+1)-rl r=4-(rl r-4*lv (rl r))by omega]at e2;rw[hn];generalize hd (rk r) (lv (rl r)+1)=G at *;have hk4:4-(rl r-4*lv (rl r))<=4:=by omega
 generalize 4-(rl r-4*lv (rl r))=k at *;rcases (show k=0\/k=1\/k=2\/k=3\/k=4 by omega)with rfl|rfl|rfl|rfl|rfl<;>simp at e2⊢<;>omega
def nd0:ZZ:=⟨Dat.z,Dat.z⟩
def sl0:Es:=⟨0,0⟩
def IB(nodes:List ZZ)(i:Nat):ZZ:=nodes.getD i nd0
def EC(nodes:List ZZ)(i q:Nat):Int:=(IB nodes i).Next.l.getD q 0
def EL(nodes:List ZZ)(i q:Nat):Es:=(IB nodes i).Slots.l.getD q sl0
def pz:Nat×Nat:=(0,0)
def pAt(ps:List (Nat×Nat))(i:Nat):Nat×Nat:=ps.getD i pz
def chd(p:Nat×Nat)(q:Nat):Nat×Nat:=(p.1+1,p.2*16+q)
theorem TH{p p':Nat×Nat}{q q':Nat} (h:q<16) (h':q' < 16) (e:chd p q=chd p' q'):p=p'/\q=q':=by
 obtain⟨a,b⟩:=p;obtain⟨c,d⟩:=p';unfold chd at e;injection e with e1 e2;dsimp only at e1 e2;have:a=c:=by omega
 have:b=d:=by omega
 have:q=q':=by omega
 subst_vars;exact⟨rfl,rfl⟩
def ZcZ(R:List Route)(p:Nat×Nat)(q:Nat)(s:Es):Prop:=
 (s=sl0/\∀r∈R,¬Cov r p.1 (p.2*16+q))\/∃r∈R,Cov r p.1 (p.2*16+q)/\s=⟨r.Prefix.Len+1,r.Hop⟩/\∀r'∈R,Cov r' p.1 (p.2*16+q)->r'.Prefix.Len<=r.Prefix.Len
structure TI(D:Nat)(nodes:List ZZ)(ps:List (Nat×Nat))(R:List Route):Prop where
 len:nodes.length=ps.length
 le:ps.length<=512
 pos:0<ps.length
 root:pAt ps 0=pz
 nod:ps.Nodup
 lev:∀p∈ps,p.1<D
 nx:∀i,i<ps.length->∀q,q<16->(EC nodes i q=0/\chd (pAt ps i) q∉ps)\/∃j:Nat,EC nodes i q=j/\i<j/\j<ps.length/\pAt ps j=chd (pAt ps i) q
 par:∀j,0<j->j<ps.length->∃i q,i<j/\q<16/\pAt ps j=chd (pAt ps i) q
 sl:∀i,i<ps.length->∀q,q<16->ZcZ R (pAt ps i) q (EL nodes i q)
 has:∀r∈R,(lv (rl r),hd (rk r) (lv (rl r)))∈ps
 may:∀r∈R,PM r.Prefix
theorem MO{ps:List (Nat×Nat)}{i:Nat} (h:i<ps.length):pAt ps i∈ps:=by
 unfold pAt;rw[gtD h];exact Xax h
theorem Tg{ps:List (Nat×Nat)}{p:Nat×Nat} (h:p∈ps):∃i,i<ps.length/\pAt ps i=p:=by
 obtain⟨i,hi,rfl⟩:=XaQ h;exact⟨i,hi,by unfold pAt;rw[gtD hi]⟩
theorem MP{ps:List (Nat×Nat)}(hn:ps.Nodup){i j:Nat}(hi:i<ps.length)(hj:j<ps.length)(e:pAt ps i=pAt ps j):i=j:=by
 unfold pAt at e;rw[gtD hi,gtD hj]at e;exact(List.getElem_inj hn).1 e
theorem Lq{ps:List (Nat×Nat)}{c:Nat×Nat}{k:Nat} (h:k<ps.length):pAt (ps++[c]) k=pAt ps k:=by
 unfold pAt;rw[gtD (by simp;omega),gtD h,XbT h]
theorem L1{ps:List (Nat×Nat)}{c:Nat×Nat}:pAt (ps++[c]) ps.length=c:=by
 unfold pAt;rw[gtD (by simp)];simp
theorem TI.child{D:Nat}{nodes:List ZZ}{ps:List (Nat×Nat)}{R:List Route} (h:TI D nodes ps R) {p:Nat×Nat}{q:Nat} (hq:q<16) (hm:chd p q∈ps):p∈ps:=by
 obtain⟨j,hj,e⟩:=Tg hm;have h0:0<j:=Nat.pos_of_ne_zero λh0=>by
  subst h0;rw[h.root]at e;unfold pz chd at e;injection e with e1 e2;omega
 obtain⟨i,q',hi,hq',e2⟩:=h.par j h0 hj;rw[e]at e2;rw[(TH hq hq' e2).1];exact MO (by omega)
theorem NS{nodes:List ZZ}{n m:ZZ}{i k:Nat} (hi:i<nodes.length):IB ((nodes++[n]).set i m) k=if k=i then m else if k=nodes.length then n else IB nodes k:=by
 unfold IB
 by_cases hk:k<(nodes++[n]).length
 .rw [gtD (by rw[XaA];exact hk),Xdr]
  by_cases e:i=k
  .subst e;rw[if_pos rfl,if_pos rfl]
  .rw [if_neg e,if_neg (λh=>e h.symm)]
   by_cases e2:k=nodes.length
   .subst e2;rw[if_pos rfl];simp
   .rw [if_neg e2,gtD (by simp at hk;omega),XbT (by simp at hk;omega)]
 .simp at hk;rw[Xad,XcH (by simp;omega),if_neg (by omega),if_neg (by omega),Xad,XcH (by omega)]
theorem ZaQ{v:Vec Int 16}{q p:Nat}{z:Int} (hq:q<16):(v.set q z).l.getD p 0=if p=q then z else v.l.getD p 0:=by
 show(v.l.set q z).getD p 0=_;exact Bw (by rw[v.h];exact hq)
theorem UM{q:Nat}:nd0.Next.l.getD q 0=0:=by
 show(Xac 16 (0:Int)).getD q 0=0
 by_cases h:q<16
 .rw [gtD (by simpa using h),Xbs]
 .rw [Xad,XcH (by simp;omega)];rfl
theorem UL{q:Nat}:nd0.Slots.l.getD q sl0=sl0:=by
 show(Xac 16 (sl0:Es)).getD q sl0=sl0
 by_cases h:q<16
 .rw [gtD (by simpa using h),Xbs]
 .rw [Xad,XcH (by simp;omega)];rfl
def NC(nodes:List ZZ)(i q:Nat):List ZZ:=(nodes++[nd0]).set i ⟨(IB nodes i).Slots,(IB nodes i).Next.set q (nodes.length:Int)⟩
theorem TI.grow{D:Nat}{nodes:List ZZ}{ps:List (Nat×Nat)}{R:List Route} (h:TI D nodes ps R) {i q:Nat} (hi:i<ps.length) (hq:q<16) (hn:chd (pAt ps i) q∉ps) (hd:(pAt ps i).1+1<D) (hl:ps.length<512) :
  TI D (NC nodes i q) (ps++[chd (pAt ps i) q]) R:=by
 have hlen:=h.len;have hin:i<nodes.length:=by omega
 have hnx:∀k,k<ps.length->∀p,p<16->EC (NC nodes i q) k p=if k=i/\p=q then(ps.length:Int)else EC nodes k p:=λk hk p hp=>by
  unfold EC NC;rw[NS hin]
  by_cases e:k=i
  .subst e;rw[if_pos rfl];dsimp only;rw[ZaQ hq]
   by_cases e2:p=q
   .rw [if_pos e2,if_pos ⟨rfl,e2⟩,hlen]
   .rw [if_neg e2,if_neg (λh=>e2 h.2)]
  .rw [if_neg e,if_neg (by omega),if_neg (λh=>e h.1)]
 have hnl:∀p,EC (NC nodes i q) ps.length p=0:=λp=>by
  unfold EC NC;rw[NS hin,if_neg (by omega),if_pos hlen.symm];exact UM
 have hsk:∀k,k<ps.length->∀p,EL (NC nodes i q) k p=EL nodes k p:=λk hk p=>by
  unfold EL NC;rw[NS hin]
  by_cases e:k=i
  .subst e;rw[if_pos rfl]
  .rw [if_neg e,if_neg (by omega)]
 have hsl:∀p,EL (NC nodes i q) ps.length p=sl0:=λp=>by
  unfold EL NC;rw[NS hin,if_neg (by omega),if_pos hlen.symm];exact UL
 have hall:∀k,k<(ps++[chd (pAt ps i) q]).length->k<ps.length\/k=ps.length:=λk hk=>by simp at hk;omega
 refine⟨by unfold NC;simp;omega,by simp;omega,by simp,by rw[Lq h.pos];exact h.root,?_,λp hp=>?_,λk hk p hp=>?_,λj h0 hj=>?_,λk hk p hp=>?_,λr hr=>Xbr _ (h.has r hr),h.may⟩
 .rw [List.nodup_append];exact⟨h.nod,by simp,λa ha b hb e=>hn (by rw[Xal]at hb;rw[<-hb,<-e];exact ha)⟩
 .rcases Xar.1 hp with hp|hp
  .exact h.lev p hp
  .rw [Xal.1 hp];exact hd
 .rcases hall k hk with hk2|rfl
  .rw [hnx k hk2 p hp,Lq hk2]
   by_cases e:k=i/\p=q
   .obtain ⟨rfl,rfl⟩:=e;rw[if_pos ⟨rfl,rfl⟩];exact .inr ⟨ps.length,rfl,hk2,by simp,L1⟩
   .rw [if_neg e];rcases h.nx k hk2 p hp with⟨h1,h2⟩|⟨j,h1,h2,h3,h4⟩
    .refine .inl ⟨h1,λhm=>?_⟩;rcases Xar.1 hm with hm|hm
     .exact h2 hm
     .obtain ⟨e1,e2⟩:=TH hp hq (Xal.1 hm);exact e ⟨MP h.nod hk2 hi e1,e2⟩
    .exact .inr ⟨j,h1,h2,by simp;omega,by rw[Lq h3];exact h4⟩
  .rw [hnl p,L1];refine .inl ⟨rfl,λhm=>?_⟩;rcases Xar.1 hm with hm|hm
   .exact hn (h.child hp hm)
   .have:=congrArg Prod.fst (Xal.1 hm);unfold chd at this;dsimp only at this;omega
 .rcases hall j hj with hj|rfl
  .obtain ⟨a,b,h1,h2,h3⟩:=h.par j h0 hj;exact⟨a,b,h1,h2,by rw[Lq hj,Lq (by omega)];exact h3⟩
  .exact ⟨i,q,hi,hq,by rw[L1,Lq hi]⟩
 .rcases hall k hk with hk|rfl
  .rw [hsk k hk p,Lq hk];exact h.sl k hk p hp
  .rw [hsl p,L1];refine .inl ⟨rfl,λr hr hc=>hn ?_⟩;have hpm:=(h.may r hr).len;have h128:rl r<=128:=by unfold rl;omega
   have e1:=ZcO h128 hc;have e2:=hc.1;have:=h.has r hr;rw[e2]at this;rw[show((chd (pAt ps i) q).2*16+p)/16=(chd (pAt ps i) q).2 by omega]at e1;rw[<-e1]at this;exact this
theorem ZaR{D:Nat}{b:Zk}{ps:List (Nat×Nat)}{R:List Route} (h:TI D b.Trie.Nodes ps R) {i q:Nat} (hi:i<ps.length) (hq:q<16) (hd:(pAt ps i).1+1<D) :
  Et (CR b (i:Int) (q:Int)) (λr=>r.2.2.Trie.Bits=b.Trie.Bits/\(r.2.1=false\/(r.2.1=true/\∃(ps':List (Nat×Nat)) (j:Nat),r.1=j/\TI D r.2.2.Trie.Nodes ps' R/\j<ps'.length/\pAt ps' j=chd (pAt ps i) q))):=by
 have hlen:=h.len;have hle:=h.le;have hin:i<b.Trie.Nodes.length:=by omega
 have hv:(b.Trie.Nodes[i]).Next.l.length=16:=(b.Trie.Nodes[i]).Next.h;have hna:EC b.Trie.Nodes i q=(b.Trie.Nodes[i]).Next.l[q]'(by omega):=by
  unfold EC IB;rw[gtD hin,gtD (by omega)]
 unfold CR;rw[Zz hin,Zb,Zz (show q<(b.Trie.Nodes[i]).Next.l.length by omega),Zb,<-hna];rcases h.nx i hi q hq with⟨h1,h2⟩|⟨j,h1,h2,h3,h4⟩
 .rw [h1,Zg (by decide)]
  by_cases hf:512<=b.Trie.Nodes.length
  .rw [Zj (by simp;omega)];exact XbE ⟨rfl,.inl rfl⟩
  .rw [Zg (by simp;omega),Aq (by omega) (by simp;omega) (by simp;omega),Zb,Zb];have hl5:(b.Trie.Nodes++[(⟨Dat.z,Dat.z⟩:ZZ)]).length=b.Trie.Nodes.length+1:=by simp
   rw[hl5,Ax (by omega) (by omega),Zb,Zz (show i<(b.Trie.Nodes++[(⟨Dat.z,Dat.z⟩:ZZ)]).length by rw[hl5];omega),Zb,XbT hin,Zz (show q<(b.Trie.Nodes[i]).Next.l.length by omega),Zb,Zb,XaA,hl5,Ax (by omega) (by omega),Zb];have e:((b.Trie.Nodes.length+1:Nat):Int)-1=(b.Trie.Nodes.length:Int):=by omega
   rw[e,Xak,Xak];have eg:(b.Trie.Nodes++[(⟨Dat.z,Dat.z⟩:ZZ)]).set i ⟨(b.Trie.Nodes[i]).Slots,(b.Trie.Nodes[i]).Next.set q (b.Trie.Nodes.length:Int)⟩=NC b.Trie.Nodes i q:=by
    unfold NC IB;rw[gtD hin];rfl
   rw[eg];exact XbE ⟨rfl,.inr ⟨rfl,ps++[chd (pAt ps i) q],ps.length,by rw[<-hlen],h.grow hi hq h2 hd (by omega),by simp,L1⟩⟩
 .rw [h1,Zj (by simp;omega)];exact XbE ⟨rfl,.inr ⟨rfl,ps,j,rfl,h,h3,h4⟩⟩
theorem Zdl{r:Route}(h0:0<=r.Prefix.Len)(h:r.Prefix.Len<=128):∃x,(GG r.Prefix.Len (1:Int)).bind (λx_2=>JB x_2 (4:Int))=some x/\max (0:Int) x=(lv (rl r):Int):=by
 rw[Ax (by omega) (by omega),Zb];unfold JB;rw[if_pos (by omega)];refine⟨_,rfl,?_⟩;unfold lv rl
 by_cases hz:r.Prefix.Len=0
 .rw [hz];decide
 .rw [Int.tdiv_eq_ediv_of_nonneg (by omega)];omega
theorem Zbk{D:Nat}{r:Route}{bits:Int}{nodes:List ZZ}{ps:List (Nat×Nat)}{R:List Route} (h:TI D nodes ps R) (hp:PM r.Prefix) (hD:lv (rl r)<D) {x:Int} (hx:max (0:Int) x=(lv (rl r):Int)) :
  Et (ZN (λs=>Da r x s.1 s.2.1 s.2.2.1 s.2.2.2) ((0:Int),(0:Int),nodes,(⟨⟨bits,[]⟩⟩:Zk))) (λo=>
   (∃(i:Nat) (nodes':List ZZ) (ps':List (Nat×Nat)),o=.inl ((i:Int),nodes',⟨⟨bits,[]⟩⟩)/\TI D nodes' ps' R/\i<ps'.length/\pAt ps' i=(lv (rl r),hd (rk r) (lv (rl r))))\/∃b',o=.inr (false,b')):=by
 have hl:=hp.len;have h128:rl r<=128:=by unfold rl;omega
 obtain⟨h1,h2,h3⟩:=RZ h128;have hK:rk r<2^128:=Xw _;refine Xda (σ:=Int×Int×List ZZ×Zk) (λs=>∃(i n:Nat) (ps':List (Nat×Nat)),s.1=i/\s.2.1=n/\n<=lv (rl r)/\s.2.2.2=⟨⟨bits,[]⟩⟩/\TI D s.2.2.1 ps' R/\i<ps'.length/\pAt ps' i=(n,hd (rk r) n)) (λs=>lv (rl r)-s.2.1.toNat) (λs hs=>?_) ⟨0,0,ps,rfl,rfl,by omega,rfl,h,h.pos,by rw[h.root,Tm hK];rfl⟩ (by show lv (rl r)-0<_;omega);obtain⟨z,y,l,b⟩:=s;obtain⟨i,n,ps',rfl,rfl,hn,rfl,ht,hi,hpa⟩:=hs;dsimp only at ht⊢;unfold Da;rw[hx]
 by_cases hlt:n<lv (rl r)
 .rw [El hlt,Zu,Qs _ (by omega),Zb];have hd1:(pAt ps' i).1+1<D:=by rw[hpa];show n+1<D;omega
  refine XcA (ZaR (b:=⟨⟨bits,l⟩⟩) ht hi (UK _ n) hd1) λq hq=>?_
  obtain⟨q1,q2⟩:=hq;have q1:q.2.2.Trie.Bits=bits:=q1;rw[Zb];rcases q2 with q2|⟨q2,ps2,j,e1,e2,e3,e4⟩
  .rw [q2,Xas,Zu];exact AN (.inr ⟨_,rfl⟩)
  .rw [q2,XaC,Zq,ZL (by omega),Zb,q1];refine Xez ⟨j,n+1,ps2,e1,rfl,by omega,rfl,e2,e3,?_⟩ (by show lv (rl r)-(((n+1:Nat):Int)).toNat<lv (rl r)-(n:Int).toNat;omega);rw[e4,hpa];show(n+1,hd (rk r) n*16+nib (rk r) n)=_;rw[<-QM (by omega)]
 .rw [I9 (by omega),Zq];have:n=lv (rl r):=by omega
  subst this;exact AN (.inl ⟨i,l,ps',rfl,ht,hi,hpa⟩)
def Zcn(r:Route)(s:Es):Es:=if s.Len<=r.Prefix.Len then⟨r.Prefix.Len+1,r.Hop⟩else s
def Rq(r:Route)(f k:Nat)(v:Vec Es 16):Vec Es 16:=⟨(Xbe 16).map λq=>if f<=q/\q<f+k then Zcn r (v.l.getD q sl0)else v.l.getD q sl0,by simp⟩
theorem Ow{r:Route}{f k:Nat}{v:Vec Es 16}{q:Nat} (h:q<16):(Rq r f k v).l.getD q sl0=if f<=q/\q<f+k then Zcn r (v.l.getD q sl0)else v.l.getD q sl0:=by
 unfold Rq;dsimp only;rw[gtD (by simpa using h)];simp
theorem Le{α:Type}{v w:Vec α 16}{d:α} (h:∀q,q<16->v.l.getD q d=w.l.getD q d):v=w:=by
 refine XfA (XbN (by rw[v.h,w.h]) λq h1 h2=>?_);have:=h q (by rw[v.h]at h1;exact h1);rw[gtD h1,gtD h2]at this;exact this
theorem W9{r:Route}{f:Nat}{v:Vec Es 16}:Rq r f 0 v=v:=Le (d:=sl0) λq hq=>by rw[Ow hq,if_neg (by omega)]
theorem Xa{r:Route}{f k:Nat}{v:Vec Es 16} (h:f+k<16):Rq r f (k+1) v=(Rq r f k v).set (f+k) (Zcn r (v.l.getD (f+k) sl0)):=Le (d:=sl0) λq hq=>by
 rw[Ow hq];show _=((Rq r f k v).l.set (f+k) _).getD q sl0;rw[Bw (by rw[(Rq r f k v).h];exact h),Ow hq]
 by_cases e:q=f+k
 .subst e;rw[if_pos rfl,if_pos (by omega)]
 .rw [if_neg e]
  by_cases e2:f<=q/\q<f+k
  .rw [if_pos e2,if_pos (by omega)]
  .rw [if_neg e2,if_neg (by omega)]
def EO(r:Route)(f k i:Nat)(nodes:List ZZ):List ZZ:=nodes.set i ⟨Rq r f k (IB nodes i).Slots,(IB nodes i).Next⟩
theorem VD{r:Route}{nodes:List ZZ}{i f m:Nat} (hi:i<nodes.length) (h16:f+m<=16) (hl:0<=r.Prefix.Len/\r.Prefix.Len<=128) :
  ZN (λs=>BY r (i:Int) (f:Int) (m:Int) s.1 s.2) ((f:Int),nodes)=some (EO r f m i nodes):=by
 have hnd:IB nodes i=nodes[i]:=by unfold IB;rw[gtD hi]
 have hat:∀k,(EO r f k i nodes).length=nodes.length:=λk=>by unfold EO;rw[XaA]
 have hget:∀k (h:i<(EO r f k i nodes).length),(EO r f k i nodes)[i]=⟨Rq r f k (IB nodes i).Slots,(IB nodes i).Next⟩:=λk h=>by
  exact List.getElem_set_self h
 refine ZM (λk=>(((f+k:Nat):Int),EO r f k i nodes)) m (by omega) (λk hk=>?_) ?_ ?_
 .unfold BY;dsimp only;have hs16:(Rq r f k (IB nodes i).Slots).l.length=16:=(Rq r f k (IB nodes i).Slots).h;have hq:f+k<(Rq r f k (IB nodes i).Slots).l.length:=by rw[hs16];omega
  have hv:(Rq r f k (IB nodes i).Slots).l[f+k]=(IB nodes i).Slots.l.getD (f+k) sl0:=by
   have:=Ow (r:=r) (f:=f) (k:=k) (v:=(IB nodes i).Slots) (q:=f+k) (by omega);rw[gtD hq,if_neg (by omega)]at this;exact this
  rw[Aa (by omega) (by omega),Zb,Zj (by simp;omega),Zz (by rw[hat];exact hi),Zb,hget];dsimp only;rw[Zz hq,Zb,hv];have hfin:∀s:Es,s=Zcn r ((IB nodes i).Slots.l.getD (f+k) sl0)->(EO r f k i nodes).set i ⟨(Rq r f k (IB nodes i).Slots).set (f+k) s,(IB nodes i).Next⟩=EO r f (k+1) i nodes:=λs hs=>by
   subst hs;unfold EO;rw[XdG,Xa (by omega)]
  by_cases hc:((IB nodes i).Slots.l.getD (f+k) sl0).Len<=r.Prefix.Len
  .rw [decide_eq_true hc,Zu,Aa (by omega) (by omega),Zb,Zb,Zb,Xak,Xak,hfin _ (by unfold Zcn;rw[if_pos hc]),ZL (by omega),Zb];rfl
  .rw [decide_eq_false hc,Zq,Zb,ZL (by omega),Zb];have:EO r f k i nodes=EO r f (k+1) i nodes:=by
    rw[<-hfin ((IB nodes i).Slots.l.getD (f+k) sl0) (by unfold Zcn;rw[if_neg hc])];have e1:(Rq r f k (IB nodes i).Slots).set (f+k) ((IB nodes i).Slots.l.getD (f+k) sl0)=Rq r f k (IB nodes i).Slots:=by
     refine XfA ?_;show(Rq r f k (IB nodes i).Slots).l.set (f+k) _=_;rw[<-hv];exact NP hq
    rw[e1];unfold EO;rw[XdG]
   rw[this];rfl
 .unfold BY;dsimp only;rw[Aa (by omega) (by omega),Zb,Zg (by simp)]
 .unfold EO;rw[W9,hnd];show((f:Int),nodes)=(((f+0:Nat):Int),nodes.set i nodes[i]);rw[NP hi];rfl
theorem TI.put{D:Nat}{nodes:List ZZ}{ps:List (Nat×Nat)}{R:List Route} (h:TI D nodes ps R) {r:Route} (hp:PM r.Prefix) {i:Nat} (hi:i<ps.length) (hpa:pAt ps i=(lv (rl r),hd (rk r) (lv (rl r)))) :
  TI D (EO r (nib (rk r) (lv (rl r))) (2^(4-(rl r-4*lv (rl r)))) i nodes) ps (R++[r]):=by
 have hlen:=h.len;have hin:i<nodes.length:=by omega
 have hl:=hp.len;have h128:rl r<=128:=by unfold rl;omega
 have hnd:∀k,IB (EO r (nib (rk r) (lv (rl r))) (2^(4-(rl r-4*lv (rl r)))) i nodes) k=if k=i then⟨Rq r (nib (rk r) (lv (rl r))) (2^(4-(rl r-4*lv (rl r)))) (IB nodes i).Slots,(IB nodes i).Next⟩else IB nodes k:=λk=>by
  unfold IB EO;exact Bw hin
 have hnx:∀k q,EC (EO r (nib (rk r) (lv (rl r))) (2^(4-(rl r-4*lv (rl r)))) i nodes) k q=EC nodes k q:=λk q=>by
  unfold EC;rw[hnd]
  by_cases e:k=i
  .subst e;rw[if_pos rfl]
  .rw [if_neg e]
 refine⟨by unfold EO;rw[XaA];exact hlen,h.le,h.pos,h.root,h.nod,h.lev,λk hk q hq=>by rw[hnx];exact h.nx k hk q hq,h.par,λk hk q hq=>?_,λr' hr'=>?_,λr' hr'=>?_⟩
 .have old:=h.sl k hk q hq;have hsl:EL (EO r (nib (rk r) (lv (rl r))) (2^(4-(rl r-4*lv (rl r)))) i nodes) k q=if k=i/\(nib (rk r) (lv (rl r))<=q/\q<nib (rk r) (lv (rl r))+2^(4-(rl r-4*lv (rl r))))then Zcn r (EL nodes k q)else EL nodes k q:=by
   unfold EL;rw[hnd]
   by_cases e:k=i
   .subst e;rw[if_pos rfl];dsimp only;rw[Ow hq]
    by_cases e2:nib (rk r) (lv (rl r))<=q/\q<nib (rk r) (lv (rl r))+2^(4-(rl r-4*lv (rl r)))
    .rw [if_pos e2,if_pos ⟨rfl,e2⟩]
    .rw [if_neg e2,if_neg (λh=>e2 h.2)]
   .rw [if_neg e,if_neg (λh=>e h.1)]
  have hcov:Cov r (pAt ps k).1 ((pAt ps k).2*16+q)↔k=i/\(nib (rk r) (lv (rl r))<=q/\q<nib (rk r) (lv (rl r))+2^(4-(rl r-4*lv (rl r)))):=by
   constructor
   .intro hc;have e1:=ZcO h128 hc;have e2:=hc.1;rw[show((pAt ps k).2*16+q)/16=(pAt ps k).2 by omega]at e1;have e3:pAt ps k=pAt ps i:=by
     rw[hpa];refine Prod.ext e2.symm ?_;rw[e1,<-e2]
    have:=MP h.nod hk hi e3;subst this;refine⟨rfl,(Se hp hq).1 ?_⟩;rw[hpa]at hc;exact hc
   .rintro ⟨rfl,hc⟩;rw[hpa];exact(Se hp hq).2 hc
  rw[hsl]
  by_cases hc:k=i/\(nib (rk r) (lv (rl r))<=q/\q<nib (rk r) (lv (rl r))+2^(4-(rl r-4*lv (rl r))))
  .rw [if_pos hc];have hcr:=hcov.2 hc;unfold Zcn;rcases old with⟨o1,o2⟩|⟨r0,o1,o2,o3,o4⟩
   .rw [o1,if_pos (by show(0:Int)<=_;exact hp.2.1)];refine .inr ⟨r,by simp,hcr,rfl,λr' hr' hc'=>?_⟩;rcases Xar.1 hr' with hr'|hr'
    .exact absurd hc' (o2 r' hr')
    .rw [Xal.1 hr'];exact XaJ _
   .rw [o3];dsimp only
    by_cases hle:r0.Prefix.Len+1<=r.Prefix.Len
    .rw [if_pos hle];refine .inr ⟨r,by simp,hcr,rfl,λr' hr' hc'=>?_⟩;rcases Xar.1 hr' with hr'|hr'
     .have:=o4 r' hr' hc';omega
     .rw [Xal.1 hr'];exact XaJ _
    .rw [if_neg hle];refine .inr ⟨r0,Xbr _ o1,o2,rfl,λr' hr' hc'=>?_⟩;rcases Xar.1 hr' with hr'|hr'
     .exact o4 r' hr' hc'
     .rw [Xal.1 hr'];omega
  .rw [if_neg hc];have hncr:=λh=>hc (hcov.1 h)
   rcases old with⟨o1,o2⟩|⟨r0,o1,o2,o3,o4⟩
   .refine .inl ⟨o1,λr' hr' hc'=>?_⟩;rcases Xar.1 hr' with hr'|hr'
    .exact o2 r' hr' hc'
    .rw [Xal.1 hr']at hc';exact hncr hc'
   .refine .inr ⟨r0,Xbr _ o1,o2,o3,λr' hr' hc'=>?_⟩;rcases Xar.1 hr' with hr'|hr'
    .exact o4 r' hr' hc'
    .rw [Xal.1 hr']at hc';exact absurd hc' hncr
 .rcases Xar.1 hr' with hr'|hr'
  .exact h.has r' hr'
  .rw [Xal.1 hr',<-hpa];exact MO hi
 .rcases Xar.1 hr' with hr'|hr'
  .exact h.may r' hr'
  .rw [Xal.1 hr'];exact hp
theorem Zd3{D:Nat}{r:Route}{b:Zk}{ps:List (Nat×Nat)}{R:List Route} (h:TI D b.Trie.Nodes ps R) (hp:PM r.Prefix) (hD:lv (rl r)<D) :
  Et (Dg b r) (λq=>q.1=false\/(q.1=true/\q.2.Trie.Bits=b.Trie.Bits/\∃ps',TI D q.2.Trie.Nodes ps' (R++[r]))):=by
 have hl:=hp.len;have h0:=hp.2.1;have h128:rl r<=128:=by unfold rl;omega
 have hlen:r.Prefix.Len=(rl r:Int):=hl.2.2.1.symm;obtain⟨h1,h2,h3⟩:=RZ h128;obtain⟨x,hx1,hx2⟩:=Zdl (r:=r) h0 (by omega);have hsub:GG r.Prefix.Len (1:Int)=some (r.Prefix.Len-1):=Ax (by omega) (by omega);rw[hsub,Zb]at hx1;unfold Dg;rw[hsub,Zb,hx1,Zb];refine XcA (Zbk h hp hD hx2) λo ho=>?_
 rcases ho with⟨i,nodes',ps',rfl,ht,hi,hpa⟩|⟨b',rfl⟩
 .rw [ZU];rw[show el3 ((i:Int),nodes',(⟨⟨b.Trie.Bits,[]⟩⟩:Zk))=λf=>f (i:Int) nodes' ⟨⟨b.Trie.Bits,[]⟩⟩from rfl];dsimp only;have hmany:2^(4-(rl r-4*lv (rl r)))<=16:=by
   have:=Ur hp;omega
  rw[hx2,Qs _ h3,Zb,Gb (by omega) (by omega),Zb,Ax (by omega) (by omega),Zb,Ax (by omega) (by omega),Zb];have e:(4-(r.Prefix.Len-4*(lv (rl r):Int)))=((4-(rl r-4*lv (rl r)):Nat):Int):=by omega
  have hsh:Uu (1:Int) (4-(r.Prefix.Len-4*(lv (rl r):Int)))=some ((2^(4-(rl r-4*lv (rl r))):Nat):Int):=by
   rw[e];unfold Uu;have e2:(1:Int)*2^(Xaa ((4-(rl r-4*lv (rl r)):Nat):Int))=((2^(4-(rl r-4*lv (rl r))):Nat):Int):=by
    rw[Xak,Int.one_mul];simp
   rw[e2,if_pos (by omega)]
  rw[hsh,Zb];have hin:i<nodes'.length:=by rw[ht.len];exact hi
  have hloop:=VD (r:=r) hin (Ur hp) ⟨h0,by omega⟩;rw[show kv r.Prefix.Key=rk r from rfl,hloop,Zb];exact XbE (.inr ⟨rfl,rfl,ps',ht.put hp hi hpa⟩)
 .rw [A2];exact XbE (.inl rfl)
theorem ZbD{D:Nat}(hD:0<D):TI D [nd0] [pz] []:=by
 have h1:∀i,i < [pz].length->i=0:=λi hi=>by simp at hi;omega
 have hp:pAt [pz] 0=pz:=rfl;refine⟨rfl,by simp,by simp,rfl,by simp,λp hp=>by rw[Xal.1 hp];exact hD,λi hi q hq=>?_,λj h0 hj=>by have:=h1 j hj;omega,λi hi q hq=>?_,λr hr=>absurd hr (by simp),λr hr=>absurd hr (by simp)⟩
 .rw [h1 i hi];refine .inl ⟨?_,λhm=>?_⟩
  .show nd0.Next.l.getD q 0=0;exact UM
  .have:=congrArg Prod.fst (Xal.1 hm);unfold chd pz at this;simp at this
 .rw [h1 i hi];exact .inl ⟨UL,λr hr=>absurd hr (by simp)⟩
def ER(t:List Route)(bits:Int):List Route:=t.filter λr=>decide (r.Prefix.Bits=bits)
theorem Ta{t:List Route}{bits:Int}{i:Nat} (h:i<t.length):ER (t.take (i+1)) bits=ER (t.take i) bits++if t[i].Prefix.Bits=bits then[t[i]]else[]:=by
 unfold ER;rw[Cd h,Xf1]
 by_cases e:t[i].Prefix.Bits=bits
 .rw [if_pos e];simp[e]
 .rw [if_neg e];simp[e]
def MZ(bits:Int):Nat:=bits.toNat/4
theorem Sk{t:List Route}{bits:Int} (h:TbR t) (hb:bits=32\/bits=128) :
  Et (Ev t bits) (λr=>(r.2=0/\r.1.Bits=bits/\∃ps,TI (MZ bits) r.1.Nodes ps (ER t bits))\/r.2=5):=by
 have hl:=h.len;have hD:0<MZ bits:=by unfold MZ;rcases hb with rfl|rfl<;>decide
 unfold Ev;rw[h.right,Zb,XaC,Xas,Av];unfold Ek;rw[Zb,Zg (by rcases hb with rfl|rfl<;>rfl),show Dv 384 (1:Int)=some ()from rfl,Zb,Zb,Zb];refine XcA (Xda (σ:=Int×List ZZ×Zk) (R:=λo:(List ZZ×Zk)⊕(Trie×Int)=>(∃l ps,o=.inl (l,⟨⟨bits,[]⟩⟩)/\TI (MZ bits) l ps (ER t bits))\/∃k,o=.inr (k,5)) (λs=>∃(i:Nat) (ps:List (Nat×Nat)),s.1=i/\i<=t.length/\s.2.2=⟨⟨bits,[]⟩⟩/\TI (MZ bits) s.2.1 ps (ER (t.take i) bits)) (λs=>t.length-s.1.toNat) (λs hs=>?_) ⟨0,[pz],rfl,by omega,rfl,ZbD hD⟩ (by show t.length-0<_;omega)) λo ho=>?_
 .obtain ⟨z,l,b⟩:=s;obtain⟨i,ps,rfl,hi,rfl,ht⟩:=hs;dsimp only at ht⊢;unfold IX
  by_cases hlt:i<t.length
  .have hst:=Ta (bits:=bits) hlt;rw[El hlt,Zu,Zz hlt,Zb]
   by_cases hbt:t[i].Prefix.Bits=bits
   .rw [if_pos hbt]at hst;rw[Zg (by simp[hbt])];have hp:=h.may _ (Xax hlt);have hpl:=hp.len;have hlv:lv (rl t[i])<MZ bits:=by
     rw[hbt]at hpl;unfold lv rl MZ;rcases hb with rfl|rfl<;>omega
    refine XcA (P:=λo=>(∃l' ps',o=.inl (l',⟨⟨bits,[]⟩⟩)/\TI (MZ bits) l' ps' (ER (t.take (i+1)) bits))\/∃k,o=.inr (k,5)) ?_ λo ho=>?_
    .refine XcA (Zd3 (b:=⟨⟨bits,l⟩⟩) ht hp hlv) λq hq=>?_
     rw[Zb];rcases hq with hq|⟨h1,h2,ps',h3⟩
     .rw [hq,Xas,Zu,Zb];exact XbE (.inr ⟨_,rfl⟩)
     .rw [h1,XaC,Zq,h2];exact XbE (.inl ⟨_,ps',rfl,by rw[hst];exact h3⟩)
    .rcases ho with⟨l',ps',rfl,h3⟩|⟨k,rfl⟩
     .rw [ZU];show Et (el2 (l',(⟨⟨bits,[]⟩⟩:Zk)) _) _;rw[CB,ZL (by omega),Zb];exact Xez ⟨i+1,ps',rfl,by omega,rfl,h3⟩ (by show t.length-(((i+1:Nat):Int)).toNat<t.length-(i:Int).toNat;omega)
     .rw [A2];exact AN (.inr ⟨k,rfl⟩)
   .rw [if_neg hbt,XaX]at hst;rw[Zj (by simp[hbt]),Zb,ZU];show Et (el2 (l,(⟨⟨bits,[]⟩⟩:Zk)) _) _;rw[CB,ZL (by omega),Zb];exact Xez ⟨i+1,ps,rfl,by omega,rfl,by rw[hst];exact ht⟩ (by show t.length-(((i+1:Nat):Int)).toNat<t.length-(i:Int).toNat;omega)
  .rw [I9 (by omega),Zq];rw[XaB (by omega)]at ht;exact AN (.inl ⟨l,ps,rfl,ht⟩)
 .rcases ho with⟨l,ps,rfl,ht⟩|⟨k,rfl⟩
  .rw [ZU];show Et (el2 (l,(⟨⟨bits,[]⟩⟩:Zk)) _) _;rw[CB];exact XbE (.inl ⟨rfl,rfl,ps,ht⟩)
  .rw [A2];exact XbE (.inr rfl)
open Classical in
noncomputable def atV(nodes:List ZZ)(ps:List (Nat×Nat))(i f:Nat):List Int:=(Xbe nodes.length).map λ(j:Nat)=>if j=0\/∃a q,q<16/\(a<i\/(a=i/\q<f))/\EC nodes a q=(j:Int)then(((pAt ps j).1:Nat):Int)+1 else 0
def Ve(nodes:List ZZ)(i f j:Nat):Prop:=j=0\/∃a q,q<16/\(a<i\/(a=i/\q<f))/\EC nodes a q=(j:Int)
theorem Kb{nodes:List ZZ}{ps:List (Nat×Nat)}{i f:Nat}:(atV nodes ps i f).length=nodes.length:=by unfold atV;simp
theorem LA{nodes:List ZZ}{ps:List (Nat×Nat)}{i f j:Nat} (h:j<(atV nodes ps i f).length) (hs:Ve nodes i f j):(atV nodes ps i f)[j]=((pAt ps j).1:Int)+1:=by
 revert h;unfold atV;intro h;rw[XcZ,Xc5];exact if_pos hs
theorem P8{nodes:List ZZ}{ps:List (Nat×Nat)}{i f j:Nat} (h:j<(atV nodes ps i f).length) (hs:¬Ve nodes i f j):(atV nodes ps i f)[j]=0:=by
 revert h;unfold atV;intro h;rw[XcZ,Xc5];exact if_neg hs
theorem Sn{nodes:List ZZ}{ps:List (Nat×Nat)}{i f i' f':Nat} (h:∀j,Ve nodes i f j↔Ve nodes i' f' j):atV nodes ps i f=atV nodes ps i' f':=by
 refine XbN (by rw[Kb,Kb]) λj h1 h2=>?_
 by_cases hs:Ve nodes i f j
 .rw [LA h1 hs,LA h2 ((h j).1 hs)]
 .rw [P8 h1 hs,P8 h2 (λhh=>hs ((h j).2 hh))]
theorem On{nodes:List ZZ}{i f j:Nat} (hf:f<16):Ve nodes i (f+1) j↔Ve nodes i f j\/EC nodes i f=(j:Int):=by
 constructor
 .rintro (h|⟨a,q,h1,h2,h3⟩)
  .exact .inl (.inl h)
  .by_cases e:a=i/\q=f
   .obtain ⟨rfl,rfl⟩:=e;exact .inr h3
   .exact .inl (.inr ⟨a,q,h1,by omega,h3⟩)
 .rintro ((h|⟨a,q,h1,h2,h3⟩)|h)
  .exact .inl h
  .exact .inr ⟨a,q,h1,by omega,h3⟩
  .exact .inr ⟨i,f,hf,by omega,h⟩
theorem Zat{nodes:List ZZ}{i j:Nat}:Ve nodes i 16 j↔Ve nodes (i+1) 0 j:=by
 constructor
 .rintro (h|⟨a,q,h1,h2,h3⟩)
  .exact .inl h
  .exact .inr ⟨a,q,h1,by omega,h3⟩
 .rintro (h|⟨a,q,h1,h2,h3⟩)
  .exact .inl h
  .exact .inr ⟨a,q,h1,by omega,h3⟩
theorem UA{bits:Int}(hb:bits=32\/bits=128){nodes:List ZZ}{ps:List (Nat×Nat)}{R:List Route} (h:TI (MZ bits) nodes ps R):GF ⟨bits,nodes⟩=some true:=by
 have hlen:=h.len;have hle:=h.le;have hpos:=h.pos;have hD:MZ bits<=32/\JB bits 4=some (MZ bits:Int):=by
  unfold MZ;rcases hb with rfl|rfl<;>exact⟨by decide,rfl⟩
 unfold GF;have hst:It ⟨bits,nodes⟩=some (atV nodes ps nodes.length 0):=by
  unfold It Ek;rw[Zb,show(decide (bits=32)||decide (bits=128))=true by rcases hb with rfl|rfl<;>rfl,XaC,XbL,Zg (by simp;omega),Aq (by omega) (by simp;omega) (by simp;omega),Zb,Zb,Xak];have hr0:(Xac nodes.length (Dat.z:Int)).length=nodes.length:=XaK;rw[show(0:Int)=((0:Nat):Int)from rfl,Zz (by rw[hr0];omega),Zb,Zb];have e0:(Xac nodes.length (Dat.z:Int)).set (Xaa ((0:Nat):Int)) 1=atV nodes ps 0 0:=by
   refine XbN (by rw[XaA,hr0,Kb]) λj h1 h2=>?_
   rw[Xdr]
   by_cases e:Xaa ((0:Nat):Int)=j
   .have e:j=0:=e.symm;subst e;rw[if_pos (show Xaa ((0:Nat):Int)=0 from rfl),LA h2 (.inl rfl),h.root];rfl
   .rw [if_neg e,Xbs,P8 h2]
    .rfl
    .rintro (h3|⟨a,q,h3,h4,h5⟩)
     .exact e h3.symm
     .omega
  rw[e0];have hloop:ZN (λs=>EK ⟨bits,nodes⟩ s.1 s.2) (((0:Nat):Int),atV nodes ps 0 0)=some (.inl (atV nodes ps nodes.length 0)):=by
   refine ZM (λi=>((i:Int),atV nodes ps i 0)) nodes.length (by omega) (λi hi=>?_) ?_ rfl
   .have hip:i<ps.length:=by omega
    have hal:∀f,(atV nodes ps i f).length=nodes.length:=λf=>Kb
    have hsi:∀f,Ve nodes i f i:=λf=>by
     by_cases e:i=0
     .exact .inl e
     .obtain ⟨a,q,h1,h2,h3⟩:=h.par i (by omega) hip;rcases h.nx a (by omega) q h2 with⟨h4,h5⟩|⟨j,h4,h5,h6,h7⟩
      .exact absurd (by rw[<-h3];exact MO hip) h5
      .have:=MP h.nod h6 hip (h7.trans h3.symm);subst this;exact .inr ⟨a,q,h2,by omega,h4⟩
    have hati:∀f,idx (atV nodes ps i f) (i:Int)=some (((pAt ps i).1:Int)+1):=λf=>by
     rw[Zz (by rw[hal];exact hi),LA (by rw[hal];exact hi) (hsi f)]
    have hlv:=h.lev _ (MO hip);unfold EK;dsimp only;rw[El hi,Zu,Zz hi,Zb,hati,Zb,show decide (((pAt ps i).1:Int)+1=0)=false by simp;omega,Xas,Av,Zb,Av,hD.2,Zb,XbL,Zg (by simp;omega)];have hin:ZN (λs=>EJ ⟨bits,nodes⟩ (i:Int) nodes[i] s.1 s.2) ((0:Int),atV nodes ps i 0)=some (.inl (atV nodes ps i 16)):=by
     have hs16:nodes[i].Slots.l.length=16:=nodes[i].Slots.h;have hn16:nodes[i].Next.l.length=16:=nodes[i].Next.h;refine ZM (λf=>((f:Int),atV nodes ps i f)) 16 (by omega) (λf hf=>?_) ?_ rfl
     .have hsl:nodes[i].Slots.l[f]'(by omega)=EL nodes i f:=by
       unfold EL IB;rw[gtD hi,gtD (by omega)]
      have hnx:nodes[i].Next.l[f]'(by omega)=EC nodes i f:=by
       unfold EC IB;rw[gtD hi,gtD (by omega)]
      have hsb:0<=(EL nodes i f).Len/\(EL nodes i f).Len<=4*(((pAt ps i).1:Int)+1)+1:=by
       rcases h.sl i hip f hf with⟨h1,h2⟩|⟨r,h1,h2,h3,h4⟩
       .rw [h1];show(0:Int)<=0/\_;exact⟨by omega,by show(0:Int)<=_;omega⟩
       .have hpl:=(h.may r h1).len;have hle2:=(RZ (show rl r<=128 by unfold rl;omega)).1;have he:=h2.1;rw[h3];dsimp only;rw[he]at hle2;unfold rl at hle2;omega
      unfold EJ;dsimp only;rw[show decide ((f:Int)<16)=true by simp;omega,Zu,Zz (show f<nodes[i].Slots.l.length by omega),Zb,hsl,show decide ((EL nodes i f).Len<0)=false by simp;omega,Xas,Av,hati,Zb,Av,Gb (by omega) (by omega),Zb,Av,Aa (by omega) (by omega),Zb,XbL,Zg (by simp;omega),Zz (show f<nodes[i].Next.l.length by omega),Zb,hnx];rcases h.nx i hip f hf with⟨h1,h2⟩|⟨j,h1,h2,h3,h4⟩
      .rw [h1,Zj (by decide),Zb,ZU,ZL (by omega),Zb];have:atV nodes ps i f=atV nodes ps i (f+1):=Sn λj=>by
        rw[On hf,h1]
        constructor
        .exact λh=>.inl h
        .rintro (h|h)
         .exact h
         .exact .inl (by omega)
       rw[this]
      .have hns:¬Ve nodes i f j:=by
        rintro(h5|⟨a,q,h5,h6,h7⟩)
        .omega
        .have ha:a<ps.length:=by omega
         rcases h.nx a ha q h5 with⟨h8,-⟩|⟨j',h8,h9,h10,h11⟩
         .rw [h8]at h7;omega
         .have:j'=j:=by rw[h8]at h7;omega
          subst this;obtain⟨e1,e2⟩:=TH h5 hf (h11.symm.trans h4);have:=MP h.nod ha hip e1;omega
       have hj:j<(atV nodes ps i f).length:=by rw[hal];omega
       rw[h1,Zg (by simp;omega)];rw[show decide ((j:Int)<=(i:Int))=false by simp;omega,show decide ((j:Int)>=((nodes.length:Nat):Int))=false by simp;omega,XeH,Xas,Av,Zz hj,P8 hj hns,Zb,Zg (by decide),Zb,Aa (by omega) (by omega),Zb,Zb,Zb,Zb,ZU,ZL (by omega),Zb,Xak];have:(atV nodes ps i f).set j (((pAt ps i).1:Int)+1+1)=atV nodes ps i (f+1):=by
        refine XbN (by rw[XaA,Kb,Kb]) λk g1 g2=>?_
        rw[Xdr]
        by_cases e:j=k
        .subst e;rw[if_pos rfl,LA g2 ((On hf).2 (.inr h1)),h4];show _=(((pAt ps i).1+1:Nat):Int)+1;omega
        .rw [if_neg e];have hk:k<(atV nodes ps i f).length:=by rw[XaA]at g1;exact g1
         have hiff:Ve nodes i (f+1) k↔Ve nodes i f k:=by
          rw[On hf,h1]
          constructor
          .rintro (h|h)
           .exact h
           .omega
          .exact λh=>.inl h
         by_cases hs:Ve nodes i f k
         .rw [LA hk hs,LA g2 (hiff.2 hs)]
         .rw [P8 hk hs,P8 g2 (λh=>hs (hiff.1 h))]
       rw[this]
     .unfold EJ;dsimp only;rw[Zg (by simp)]
    rw[hin,Zb,ZU,ZL (by omega),Zb,Sn (λj=>Zat)]
   .unfold EK;dsimp only;rw[Jv,Zq]
  rw[hloop,Zb,ZU,Kb];have:ZfU nodes.length=some ():=by unfold ZfU;rw[if_pos (by omega)]
  rw[this,Zb]
 rw[hst,Zb];refine congrArg some ?_;rw[decide_eq_true_eq];intro e;have:=congrArg List.length e;rw[Kb]at this;have this:nodes.length=0:=this;omega
def Rp(r:Route)(K:Nat):Prop:=K/2^(128-rl r)=rk r/2^(128-rl r)
theorem ZcU{K n:Nat}(h:n<32):chd (n,hd K n) (nib K n)=(n+1,hd K (n+1)):=by unfold chd;rw[QM h]
theorem TI.down{D:Nat}{nodes:List ZZ}{ps:List (Nat×Nat)}{R:List Route} (h:TI D nodes ps R) {K m:Nat} (hm:m<=32) (h1:(m,hd K m)∈ps):∀j,j<=m->(m-j,hd K (m-j))∈ps
 | 0,_=>h1
 | j+1,hj=>by
  have ih:=h.down hm h1 j (by omega);have e:m-j=(m-(j+1))+1:=by omega
  rw[e,<-ZcU (by omega)]at ih;exact h.child (UK _ _) ih
noncomputable def Pf(ps:List (Nat×Nat))(p:Nat×Nat):Nat:=open Classical in if h:p∈ps then Xfl (Tg h)else 0
theorem QK{ps:List (Nat×Nat)}{p:Nat×Nat} (h:p∈ps):Pf ps p<ps.length/\pAt ps (Pf ps p)=p:=by
 unfold Pf;rw[dif_pos h];exact XeP (Tg h)
noncomputable def WC(ps:List (Nat×Nat))(K x:Nat):List Int:=(Xbe (x+1)).map λm=>((Pf ps (m,hd K m):Nat):Int)
theorem Qq{ps:List (Nat×Nat)}{K x:Nat}:(WC ps K x).length=x+1:=by unfold WC;simp
theorem Um{ps:List (Nat×Nat)}{K x m:Nat} (h:m<=x):idx (WC ps K x) (m:Int)=some ((Pf ps (m,hd K m):Nat):Int):=by
 unfold WC;rw[Zz (by simp;omega)];simp
theorem WK{ps:List (Nat×Nat)}{K x:Nat}:WC ps K (x+1)=WC ps K x++[((Pf ps (x+1,hd K (x+1)):Nat):Int)]:=by
 unfold WC;rw[Xeb (n:=x+1),Xc9];rfl
theorem Zad{bits:Int}(hb:bits=32\/bits=128){nodes:List ZZ}{ps:List (Nat×Nat)}{R:List Route} (h:TI (MZ bits) nodes ps R) {k:Vec UInt8 16} (hk:V8 k bits=k) :
  Et (JI ⟨bits,nodes⟩ k) (λw=>∃x,x<MZ bits/\(x,hd (kv k) x)∈ps/\(x+1,hd (kv k) (x+1))∉ps/\w=WC ps (kv k) x):=by
 have hlen:=h.len;have hD:MZ bits<=32/\JB bits 4=some (MZ bits:Int):=by
  unfold MZ;rcases hb with rfl|rfl<;>exact⟨by decide,rfl⟩
 have hz:(0,hd (kv k) 0)∈ps:=by
  have:=MO h.pos;rw[h.root]at this;rw[Tm (Xw k)];exact this
 have hone:WC ps (kv k) 0=[(0:Int)]:=by
  obtain⟨i1,i2⟩:=QK hz;have e0:Pf ps (0,hd (kv k) 0)=0:=MP h.nod i1 h.pos (by rw[i2,h.root,Tm (Xw k)];rfl);show[((Pf ps (0,hd (kv k) 0):Nat):Int)]=_;rw[e0];rfl
 unfold JI;rw[UA hb h,Zb,XaC,Xas,Av];dsimp only;rw[IG,hk,Zb,Zg (by simp),Zb,hD.2,Zb];refine XcA (P:=λw=>∃x,x<MZ bits/\(x,hd (kv k) x)∈ps/\(x+1,hd (kv k) (x+1))∉ps/\w=WC ps (kv k) x) (Xda (σ:=Int×List Int) (λs=>∃x:Nat,s.1=x/\(x,hd (kv k) x)∈ps/\s.2=WC ps (kv k) x) (λs=>MZ bits-s.1.toNat) (λs hs=>?_) ⟨0,rfl,hz,hone.symm⟩ (by show MZ bits-0<_;omega)) λw hw=>XbE hw
 obtain⟨z,w⟩:=s;obtain⟨x,rfl,hx,rfl⟩:=hs;have hlv:x<MZ bits:=h.lev _ hx;obtain⟨i1,i2⟩:=QK hx;have hin:Pf ps (x,hd (kv k) x)<nodes.length:=by omega
 have hv:(nodes[Pf ps (x,hd (kv k) x)]).Next.l.length=16:=(nodes[Pf ps (x,hd (kv k) x)]).Next.h;have hq:=UK (kv k) x;have hna:(nodes[Pf ps (x,hd (kv k) x)]).Next.l[nib (kv k) x]'(by omega)=EC nodes (Pf ps (x,hd (kv k) x)) (nib (kv k) x):=by
  unfold EC IB;rw[gtD hin,gtD (by omega)]
 unfold JH;dsimp only;rw[El hlv,Zu,Um (Xau x),Zb,Qs _ (by omega),Zb,Zz hin,Zb,Zz (show nib (kv k) x<(nodes[Pf ps (x,hd (kv k) x)]).Next.l.length by omega),Zb,hna];have hnx:=h.nx _ i1 _ hq;rw[i2,ZcU (by omega)]at hnx;rcases hnx with⟨h1,h2⟩|⟨j,h1,h2,h3,h4⟩
 .rw [h1,Zj (by decide)];exact AN ⟨x,hlv,hx,h2,rfl⟩
 .have hm:(x+1,hd (kv k) (x+1))∈ps:=by rw[<-h4];exact MO h3
  obtain⟨k1,k2⟩:=QK hm;have ej:Pf ps (x+1,hd (kv k) (x+1))=j:=MP h.nod k1 h3 (k2.trans h4.symm);have hl2:(WC ps (kv k) x).length=x+1:=Qq;have hle:=h.lev _ hm;dsimp only at hle;rw[h1,Zg (by simp;omega),Aq (by omega) (by simp[hl2];omega) (by simp[hl2];omega),Zb,Zb,ZL (by omega),Zb];exact Xez ⟨x+1,rfl,hm,by rw[WK,ej]⟩ (by show MZ bits-(((x+1:Nat):Int)).toNat<MZ bits-(x:Int).toNat;omega)
theorem QY{r:Route}{K m:Nat} (h:rl r<=128):Cov r m (hd K (m+1))↔lv (rl r)=m/\Rp r K:=by
 constructor
 .intro hc;have:=hc.1;subst this;exact⟨rfl,(XU h).1 hc⟩
 .rintro ⟨rfl,hc⟩;exact(XU h).2 hc
def ZfQ(R:List Route)(K m:Nat)(b:Es):Prop:=
 (b=sl0/\∀r∈R,Rp r K->¬lv (rl r)<m)\/∃r∈R,Rp r K/\b=⟨r.Prefix.Len+1,r.Hop⟩/\∀r'∈R,Rp r' K->lv (rl r')<m->r'.Prefix.Len<=r.Prefix.Len
theorem Zbf{bits:Int}(hb:bits=32\/bits=128){nodes:List ZZ}{ps:List (Nat×Nat)}{R:List Route} (h:TI (MZ bits) nodes ps R) {k:Vec UInt8 16} (hk:V8 k bits=k) :
  Et (GY ⟨bits,nodes⟩ k) (λq=>(q=(0,0,6)/\∀r∈R,¬Rp r (kv k))\/∃r∈R,Rp r (kv k)/\q=(r.Prefix.Len,r.Hop,0)/\∀r'∈R,Rp r' (kv k)->r'.Prefix.Len<=r.Prefix.Len):=by
 have hlen:=h.len;have hD:MZ bits<=32:=by
  unfold MZ;rcases hb with rfl|rfl<;>decide
 have h128:∀r∈R,rl r<=128:=λr hr=>by
  have:=(h.may r hr).len;unfold rl;omega
 unfold GY;refine XcA (Zad hb h hk) λw ⟨x,hx1,hx2,hx3,hw⟩=>?_
 subst hw;rw[Qq,Zg (by simp;omega)];have hall:∀r∈R,Rp r (kv k)->lv (rl r)<x+1:=λr hr hh=>Xgs λhge=>by
  obtain⟨e1,e2,e3⟩:=RZ (h128 r hr);have e:hd (rk r) (lv (rl r))=hd (kv k) (lv (rl r)):=by
   have:=congrArg (λz=>z/2^(rl r-4*lv (rl r))) hh;rw[XbA,XbA,<-Xb8,show 128-rl r+(rl r-4*lv (rl r))=128-4*lv (rl r)by have:=h128 r hr;omega]at this;exact this.symm
  have hm:=h.has r hr;rw[e]at hm;have:=h.down (by omega) hm (lv (rl r)-(x+1)) (by omega);rw[show lv (rl r)-(lv (rl r)-(x+1))=x+1 by omega]at this;exact hx3 this
 refine XcA (P:=ZfQ R (kv k) (x+1)) (Xda (σ:=Int×Es) (λs=>∃m:Nat,s.1=m/\m<=x+1/\ZfQ R (kv k) m s.2) (λs=>x+1-s.1.toNat) (λs hs=>?_) ⟨0,rfl,by omega,.inl ⟨rfl,λr hr hh=>by omega⟩⟩ (by show x+1-0<_;omega)) λb hbst=>?_
 .obtain ⟨z,b⟩:=s;obtain⟨m,rfl,hm,hbst⟩:=hs;dsimp only at hbst⊢;unfold JJ;rw[Qq]
  by_cases hlt:m<x+1
  .have hmp:(m,hd (kv k) m)∈ps:=by
    have:=h.down (by omega) hx2 (x-m) (by omega);rw[show x-(x-m)=m by omega]at this;exact this
   obtain⟨i1,i2⟩:=QK hmp;have hin:Pf ps (m,hd (kv k) m)<nodes.length:=by omega
   have hv:(nodes[Pf ps (m,hd (kv k) m)]).Slots.l.length=16:=(nodes[Pf ps (m,hd (kv k) m)]).Slots.h;have hq:=UK (kv k) m;have hna:(nodes[Pf ps (m,hd (kv k) m)]).Slots.l[nib (kv k) m]'(by omega)=EL nodes (Pf ps (m,hd (kv k) m)) (nib (kv k) m):=by
    unfold EL IB;rw[gtD hin,gtD (by omega)]
   rw[El hlt,Zu,Um (by omega),Zb,Qs _ (by omega),Zb,Zz hin,Zb,Zz (show nib (kv k) m<(nodes[Pf ps (m,hd (kv k) m)]).Slots.l.length by omega),Zb,hna];have hsl:=h.sl _ i1 _ hq;rw[i2]at hsl;unfold ZcZ at hsl;dsimp only at hsl;rw[<-QM (show m<32 by omega)]at hsl;generalize EL nodes (Pf ps (m,hd (kv k) m)) (nib (kv k) m)=s at hsl;have hgo:∀b',ZfQ R (kv k) (m+1) b'->Et ((some b').bind λbest_10=>(AC (m:Int) (1:Int)).bind λx_17=>some (Sum.inl (x_17,best_10):(Int×Es)⊕Es)) (λo=>(∃s',o=.inl s'/\(∃m:Nat,s'.1=m/\m<=x+1/\ZfQ R (kv k) m s'.2)/\x+1-s'.1.toNat<x+1-(m:Int).toNat)\/∃e,o=.inr e/\ZfQ R (kv k) (x+1) e):=λb' hb'=>by
    rw[Zb,ZL (by omega),Zb];exact Xez ⟨m+1,rfl,by omega,hb'⟩ (by show x+1-(((m+1:Nat):Int)).toNat<x+1-(m:Int).toNat;omega)
   rcases hsl with⟨rfl,g2⟩|⟨r,g1,g2,rfl,g4⟩
   .have hno:∀r∈R,Rp r (kv k)->lv (rl r)≠m:=λr hr hh e=>g2 r hr ((QY (h128 r hr)).2 ⟨e,hh⟩)
    have hb0:¬(sl0.Len>b.Len):=by
     rcases hbst with⟨rfl,-⟩|⟨r,c1,c2,rfl,c4⟩
     .exact Int.lt_irrefl _
     .have:=(h.may r c1).2.1;show ¬((0:Int)>r.Prefix.Len+1);omega
    rw[decide_eq_false hb0,Zq];refine hgo b ?_;rcases hbst with⟨e,c⟩|⟨r,c1,c2,e,c4⟩
    .exact .inl ⟨e,λr hr hh=>by have:=c r hr hh;have:=hno r hr hh;omega⟩
    .exact .inr ⟨r,c1,c2,e,λr' hr' hh hl=>c4 r' hr' hh (by have:=hno r' hr' hh;omega)⟩
   .obtain ⟨g5,g6⟩:=(QY (h128 r g1)).1 g2;have hyes:∀r'∈R,Rp r' (kv k)->lv (rl r')=m->r'.Prefix.Len<=r.Prefix.Len:=λr' hr' hh e=>g4 r' hr' ((QY (h128 r' hr')).2 ⟨e,hh⟩)
    have h0:=(h.may r g1).2.1
    by_cases hgt:r.Prefix.Len+1>b.Len
    .rw [decide_eq_true hgt,Zu];refine hgo _ (.inr ⟨r,g1,g6,rfl,λr' hr' hh hl=>?_⟩)
     by_cases e:lv (rl r')=m
     .exact hyes r' hr' hh e
     .rcases hbst with⟨rfl,c⟩|⟨r0,c1,c2,rfl,c4⟩
      .exact absurd (show lv (rl r')<m by omega) (c r' hr' hh)
      .have:=c4 r' hr' hh (by omega);dsimp only at hgt;omega
    .rw [decide_eq_false hgt,Zq];refine hgo b ?_;rcases hbst with⟨rfl,c⟩|⟨r0,c1,c2,rfl,c4⟩
     .exact absurd (show r.Prefix.Len+1>sl0.Len from by show(0:Int)<_;omega) hgt
     .refine .inr ⟨r0,c1,c2,rfl,λr' hr' hh hl=>?_⟩
      by_cases e:lv (rl r')=m
      .have:=hyes r' hr' hh e;dsimp only at hgt;omega
      .exact c4 r' hr' hh (by omega)
  .rw [I9 (by omega),Zq];have:m=x+1:=by omega
   subst this;exact AN hbst
 .rcases hbst with⟨rfl,c⟩|⟨r,c1,c2,rfl,c4⟩
  .rw [show decide (sl0.Len=(0:Int))=true from rfl,Zu];exact XbE (.inl ⟨rfl,λr hr hh=>c r hr hh (hall r hr hh)⟩)
  .have hp:=h.may r c1;have h0:=hp.2.1;have hl:=hp.len;dsimp only;rw[Zg (by simp;omega),Ax (by omega) (by omega),Zb];exact XbE (.inr ⟨r,c1,c2,by rw[show r.Prefix.Len+1-1=r.Prefix.Len by omega],λr' hr' hh=>c4 r' hr' hh (hall r' hr' hh)⟩)
theorem NY{r:Route}(hp:PM r.Prefix){k:Vec UInt8 16}:Rp r (kv k)↔V8 k r.Prefix.Len=r.Prefix.Key:=by
 have hz:rk r%2^(128-rl r)=0:=hp.2.2.2;have e:=Xf9 (Xdf hz)
 constructor
 .intro h;refine OL ?_;rw[Nl];show kv k/2^(128-rl r)*2^(128-rl r)=rk r;rw[h,e]
 .intro h;have:=congrArg kv h;rw[Nl]at this;have this:kv k/2^(128-rl r)*2^(128-rl r)=rk r:=this;unfold Rp;rw[<-this,XdH _ (XcK _)]
theorem U6{t:List Route}(h:TbR t){bits:Int}(hb:bits=32\/bits=128){k:Vec UInt8 16}(hk:V8 k bits=k) :
  Et (CS t k bits) (λq=>(q=(⟨Dat.z,0⟩,6)/\∀r∈ER t bits,¬Rp r (kv k))\/∃r∈ER t bits,Rp r (kv k)/\q=(r,0)/\∀r'∈ER t bits,Rp r' (kv k)->r'.Prefix.Len<=r.Prefix.Len):=by
 have hpm:PM ⟨bits,bits,k⟩:=⟨hb,by show(0:Int)<=bits;omega,XaJ _,N1.1 hk⟩;have hof:∀r,r∈ER t bits↔r∈t/\r.Prefix.Bits=bits:=λr=>by unfold ER;rw[XeV,decide_eq_true_eq]
 unfold CS;rw[h.right,Zb,XaC,Xas,Av,GM,Zb,decide_eq_true hpm,XaC,XeH,Zq];refine XcA (P:=λo:Unit⊕(Route×Int)=>(o=.inl ()/\∀r∈ER t bits,¬Rp r (kv k))\/∃r∈ER t bits,Rp r (kv k)/\o=.inr (r,0)/\∀r'∈ER t bits,Rp r' (kv k)->r'.Prefix.Len<=r.Prefix.Len) (Xda (σ:=Int) (λn=>n<=bits/\-1<=n/\∀r∈ER t bits,Rp r (kv k)->r.Prefix.Len<=n) (λn=>(n+1).toNat) (λn hn=>?_) ⟨XaJ _,by omega,λr hr hh=>by
   obtain⟨h1,h2⟩:=(hof r).1 hr;have:=(h.may r h1).2.2.1;omega⟩ (by omega)) λo ho=>?_
 .obtain ⟨n1,n2,n3⟩:=hn;unfold IY
  by_cases hn0:n>=0
  .rw [decide_eq_true hn0,Zu,IG,Zb,Zb,Rx h,Zb];dsimp only
   by_cases hh:Zb9 t ⟨bits,n,V8 k n⟩
   .obtain ⟨g1,g2,-⟩:=XC h hh;rw[decide_eq_true (show ∃r∈t,r.Prefix=⟨bits,n,V8 k n⟩from hh),Zu,Zz g1,Zb];have hm:t[GH t ⟨bits,n,V8 k n⟩]∈t:=Xax g1;refine AN (.inr ⟨_,(hof _).2 ⟨hm,by rw[g2]⟩,(NY (h.may _ hm)).2 (by rw[g2]),rfl,λr' hr' hh'=>?_⟩);rw[g2];exact n3 r' hr' hh'
   .rw [decide_eq_false (show ¬∃r∈t,r.Prefix=⟨bits,n,V8 k n⟩from hh),Zq,Ax (by omega) (by omega),Zb];refine Xez ⟨by omega,by omega,λr hr hh'=>?_⟩ (by omega);have h3:=n3 r hr hh';obtain⟨h1,h2⟩:=(hof r).1 hr;have hne:r.Prefix.Len≠n:=λe=>by
     refine hh ⟨r,h1,MN h2 e ?_⟩;rw[<-(NY (h.may r h1)).1 hh',e]
    omega
  .rw [decide_eq_false hn0,Zq];refine AN (.inl ⟨rfl,λr hr hh=>?_⟩);have h3:=n3 r hr hh;have:=(h.may r ((hof r).1 hr).1).2.1;omega
 .rcases ho with⟨rfl,g⟩|⟨r,g1,g2,rfl,g3⟩
  .rw [ZU];exact XbE (.inl ⟨rfl,g⟩)
  .rw [A2];exact XbE (.inr ⟨r,g1,g2,rfl,g3⟩)
theorem XL{t:List Route}(h:TbR t){bits:Int}(hb:bits=32\/bits=128){k:Vec UInt8 16}(hk:V8 k bits=k){nodes:List ZZ}{ps:List (Nat×Nat)} (hi:TI (MZ bits) nodes ps (ER t bits)) {q:Route×Int} (hq:CS t k bits=some q):GY ⟨bits,nodes⟩ k=some (q.1.Prefix.Len,q.1.Hop,q.2):=by
 obtain⟨q',e,hbq⟩:=U6 h hb hk;have e2:q'=q:=ZZi (e.symm.trans hq);subst e2;refine Gg ((Zbf hb hi hk).m λr hr=>?_);rcases hbq with⟨rfl,g⟩|⟨a,g1,g2,rfl,g3⟩
 .rcases hr with⟨rfl,-⟩|⟨c,c1,c2,-,-⟩
  .rfl
  .exact absurd c2 (g c c1)
 .rcases hr with⟨-,c⟩|⟨c,c1,c2,rfl,c3⟩
  .exact absurd g2 (c a g1)
  .have hof:∀r,r∈ER t bits->r∈t/\r.Prefix.Bits=bits:=λr hr=>by unfold ER at hr;rwa [XeV,decide_eq_true_eq]at hr
   have hl:a.Prefix.Len=c.Prefix.Len:=by
    have:=g3 c c1 c2;have:=c3 a g1 g2;omega
   obtain⟨a1,a2⟩:=hof a g1;obtain⟨b1,b2⟩:=hof c c1;have:a=c:=h.uniq a1 b1 (MN (a2.trans b2.symm) hl (by rw[<-(NY (h.may a a1)).1 g2,<-(NY (h.may c b1)).1 c2,hl]));subst this;rfl
def sAt(n:ZZ)(i:Nat):Es:=n.Slots.l.getD i sl0
def nAt(n:ZZ)(i:Nat):Int:=n.Next.l.getD i 0
structure Pb(n:ZZ):Prop where
 sl:∀i,i<16->0<=(sAt n i).Len/\(sAt n i).Len<=129/\((sAt n i).Len=0->(sAt n i).Hop=0)
 nx:∀i,i<16->0<=nAt n i/\nAt n i<512
def XK(n:ZZ)(i:Nat):List UInt8:=[Xao (sAt n i).Len,VY ⟨Dat.z,(sAt n i).Hop⟩,(sAt n i).Hop.toUInt8,Xao (nAt n i/256),Xao (nAt n i)]
def SU(n:ZZ):List UInt8:=(Xbe 16).flatMap (XK n)
theorem OO{α β:Type}{f:α->List β}{m:Nat} (h:∀x,(f x).length=m):∀l:List α,(l.flatMap f).length=l.length*m
 | []=>by simp
 | a::l=>by rw[XeG,XaD,OO h l,h a,XaP,Xa6,XeU,Xb1]
theorem QT(n:ZZ)(i:Nat):(XK n i).length=5:=rfl
theorem N3(n:ZZ):(SU n).length=80:=by unfold SU;rw[OO (QT n)];simp
theorem Zf4{n:ZZ}{i:Nat} (h:i<16):idx n.Slots.l (i:Int)=some (sAt n i):=by
 have hl:i<n.Slots.l.length:=by rw[n.Slots.h];exact h
 unfold sAt;rw[Zz hl,gtD hl]
theorem Zf7{n:ZZ}{i:Nat} (h:i<16):idx n.Next.l (i:Int)=some (nAt n i):=by
 have hl:i<n.Next.l.length:=by rw[n.Next.h];exact h
 unfold nAt;rw[Zz hl,gtD hl]
theorem Zf8{k:Nat}(h:k<16):decide ((k:Int)<(16:Int))=true:=by simp;omega
theorem Zcx{n:ZZ}(h:Pb n):Kz n=some true:=by
 have h1:ZN (λs=>Hd n s) (0:Int)=some (.inl ()):=by
  refine ZM (λi=>(i:Int)) 16 (by omega) (λk hk=>?_) ?_ rfl
  .obtain ⟨g1,g2,g3⟩:=h.sl k hk;unfold Hd;rw[Zf8 hk,Zu,Zf4 hk,Zb];rw[show decide ((sAt n k).Len<0)=false by simp;omega,show decide ((sAt n k).Len>129)=false by simp;omega,XeH,XbL]
   by_cases e:(sAt n k).Len=0
   .rw [g3 e,Zg (by simp),ZL (by omega),Zb]
   .rw [decide_eq_false e,Xb4,Zq,ZL (by omega),Zb]
  .unfold Hd;rw[Zg (by simp)]
 have h2:ZN (λs=>Hc n s) (0:Int)=some (.inl ()):=by
  refine ZM (λi=>(i:Int)) 16 (by omega) (λk hk=>?_) ?_ rfl
  .obtain ⟨g1,g2⟩:=h.nx k hk;unfold Hc;rw[Zf8 hk,Zu,Zf7 hk,Zb,Zg (by simp;omega),ZL (by omega),Zb]
  .unfold Hc;rw[Zg (by simp)]
 unfold Kz;rw[h1,Zb,ZU,h2,Zb,ZU]
theorem Za2{n:ZZ}(h:Pb n){b:List UInt8}(hb:b.length<=1000000):JS b n=some (b++SU n):=by
 unfold JS;have h1:ZN (λs=>FZ n s.1 s.2) ((0:Int),b)=some (b++SU n):=by
  refine ZM (λi=>((i:Int),b++(Xbe i).flatMap (XK n))) 16 (by omega) (λk hk=>?_) ?_ (by simp)
  .obtain ⟨g1,g2⟩:=h.nx k hk;have hl:(b++(Xbe k).flatMap (XK n)).length=b.length+k*5:=by rw[XaD,OO (QT n)];simp
   unfold FZ;dsimp only;have hsh:WZ (nAt n k) 8=some (nAt n k/256):=by unfold WZ;rw[if_pos (by omega)];rfl
   rw[Zf8 hk,Zu,Zf4 hk,Zb,Zf7 hk,Zb,hsh,Zb,hl,Aq (by omega) (by simp;omega) (by simp;omega),Zb,Zb,ZL (by omega),Zb,Xeb,XfS,<-XaM,Xfw];rfl
  .unfold FZ;dsimp only;rw[Zg (by simp)];rfl
 rw[h1,Zb]
theorem Zdy{l:List ZZ}(hl:l.length<=512)(h:∀n∈l,Pb n):L3 l=some (l.flatMap SU,0):=by
 unfold L3;rw[Zg (by simp;omega),Gb (by omega) (by omega),Zb,Aq (by omega) (by omega) (by omega),Zb,Ef (by omega) (by omega) (by omega),Zb,Zb];have h0:(Xac (Xaa ((l.length:Int)*80)) (Dat.z:UInt8)).take (Xaa (0:Int))=[]:=Xdk;rw[h0];have h1:ZN (λs=>Hf l s.1 s.2) ((0:Int),([]:List UInt8))=some (.inl (l.flatMap SU)):=by
  refine ZM (λi=>((i:Int),(l.take i).flatMap SU)) l.length (by omega) (λk hk=>?_) ?_ (by simp)
  .have hn:=h _ (Xax hk);have hlen:((l.take k).flatMap SU).length=(l.take k).length*80:=OO N3 _;rw[Xa5]at hlen;unfold Hf;dsimp only;rw[El hk,Zu,Zz hk,Zb,Zcx hn,Zb,XaC,Zq,Za2 hn (by omega),Zb,ZL (by omega),Zb,Cd hk,XfS,Xfw]
  .unfold Hf;dsimp only;rw[Jv,Zq,Xbp]
 rw[h1,Zb,ZU]
theorem Q0{α β:Type}{F:α->List β}{sz:Nat} (hF:∀x,(F x).length=sz):∀{l:List α}{k:Nat} (hk:k<l.length),((l.flatMap F).take ((k+1)*sz)).drop (k*sz)=F l[k]
 | [],k,hk=>by cases hk
 | a::l,0,hk=>by
  rw[XeG,Xc7,XcS,Xbg,XeU,XeK,XaB (by rw[hF a];exact Xau _),hF a,Xeg,Xdk,XaX,List.getElem_cons_zero]
 | a::l,k+1,hk=>by
  have ih:=Q0 hF (l:=l) (k:=k) (by simpa using hk);have e1:(k+1)*sz=sz+k*sz:=by rw[Xa6,XeU,Xb1]
  have e2:(k+1+1)*sz=sz+(k+1)*sz:=by rw[Xa6 (k+1),XeU,Xb1]
  rw[XeG,e2,XeK,XaB (by rw[hF a];omega),hF a,show sz+(k+1)*sz-sz=(k+1)*sz by omega]
  conv=>lhs;rw[e1]
  rw[Xd3,hF a,Xa7 (by rw[hF a];omega),Xam,show sz+k*sz-sz=k*sz by omega,<-e1,ih,Xd9]
theorem ZeR{σ ε α β:Type}{f:σ->α->β->Option (σ⊕ε)}{s s':σ}{a:α}{b:β} (h:f s a b=some (.inl s')):yT2 f (.inl s) a b=some (.inl s',true):=by
 unfold yT2;dsimp only;rw[h]
theorem UE{σ ε:Type}{f:σ->Int->List UInt8->Option (σ⊕ε)}{b:List UInt8}{n sz:Nat} (hs:0<sz) (hn:b.length=n*sz) (hb:b.length<=1000000) (g:Nat->σ) (h:∀k,k<n->f (g k) (k:Int) ((b.take ((k+1)*sz)).drop (k*sz))=some (.inl (g (k+1)))) :
  BS (yT2 f) (.inl (g 0)) b (sz:Int)=some (.inl (g n)):=by
 have hnl:n<=n*sz:=Nat.le_mul_of_pos_right n hs;have hq:JB (b.length:Int) (sz:Int)=some (n:Int):=by rw[Ku hs,hn,XdH n hs]
 unfold BS;have h1:ZN (λs=>DA b (sz:Int) (yT2 f) s.1 s.2) ((0:Int),(.inl (g 0):σ⊕ε))=some (.inl (.inl (g n))):=by
  refine ZM (λk=>((k:Int),(.inl (g k):σ⊕ε))) n (by omega) (λk hk=>?_) ?_ rfl
  .have hk2:(k+1)*sz<=n*sz:=Xah _ hk;have hk3:k*sz<=(k+1)*sz:=Xah _ (by omega);have e1:(k:Int)*(sz:Int)=((k*sz:Nat):Int):=(XbQ ..).symm;have e2:((k+1:Nat):Int)*(sz:Int)=(((k+1)*sz:Nat):Int):=(XbQ ..).symm;unfold DA;dsimp only;rw[hq,Zb,El hk,Zu,Gb (by rw[e1];omega) (by rw[e1];omega),Zb,ZL (by omega),Zb,Gb (by rw[e2];omega) (by rw[e2];omega),Zb,e1,e2,Ef (by omega) (by omega) (by omega),Zb,Xak,Xak,ZeR (h k hk),Zb,XaC,Zq,Zb]
  .unfold DA;dsimp only;rw[hq,Zb,Jv,Zq]
 rw[h1,Zb,ZU]
def WG{α:Type}(g:Nat->α):Vec α 16:=⟨(Xbe 16).map g,by simp⟩
theorem MT{α:Type}{g:Nat->α}{d:α}{q:Nat} (h:q<16):(WG g).l.getD q d=g q:=by
 unfold WG;dsimp only;rw[gtD (by simpa using h)];simp
theorem UT{α:Type}{g g':Nat->α}{d:α}{i:Nat} (hi:i<16) {x:α} (h:∀q,q<16->g' q=if q=i then x else g q):(WG g).set i x=WG g':=Le (d:=d) λq hq=>by
 rw[MT hq,h q hq];show((WG g).l.set i x).getD q d=_;rw[Bw (by rw[(WG g).h];exact hi),MT hq]
def OA(n:ZZ)(i:Nat):ZZ:=⟨WG λq=>if q<i then sAt n q else sl0,WG λq=>if q<i then nAt n q else 0⟩
theorem VQ(n:ZZ):OA n 0=⟨Dat.z,Dat.z⟩:=by
 unfold OA;have e1:(WG λq=>if q<0 then sAt n q else sl0)=(Dat.z:Vec Es 16):=Le (d:=sl0) λq hq=>by
  rw[MT hq,if_neg (by omega)];exact UL.symm
 have e2:(WG λq=>if q<0 then nAt n q else 0)=(Dat.z:Vec Int 16):=Le (d:=0) λq hq=>by
  rw[MT hq,if_neg (by omega)];exact UM.symm
 rw[e1,e2]
theorem Xf(n:ZZ):OA n 16=n:=by
 obtain⟨s,x⟩:=n;unfold OA;have e1:(WG λq=>if q<16 then sAt ⟨s,x⟩ q else sl0)=s:=Le (d:=sl0) λq hq=>by
  rw[MT hq,if_pos hq];rfl
 have e2:(WG λq=>if q<16 then nAt ⟨s,x⟩ q else 0)=x:=Le (d:=0) λq hq=>by
  rw[MT hq,if_pos hq];rfl
 rw[e1,e2]
theorem ZaX{z:Int}(h0:0<=z)(h:z<512):(Xao z).toNat=z.toNat%256:=by
 unfold Xao;have e:(z%(2:Int)^8).toNat=z.toNat%256:=by omega
 rw[e];exact XdT (by show _<256;omega)
theorem VS{z:Int}(h0:0<=z)(h:z<512):(Uu ((Xao (z/256)).toNat:Int) 8).bind (λx=>orI x ((Xao z).toNat:Int))=some z:=by
 rw[ZaX h0 h,QJ (z:=z/256) (by omega) (by omega)];have e1:Uu (z/256) 8=some (z/256*256):=by unfold Uu;rw[if_pos (by refine⟨by omega,by omega,by omega,?_⟩;show z/256*256<=_;omega)];rfl
 rw[e1,Zb];unfold orI;rw[if_pos (by omega),Xak];refine congrArg some ?_;have e2:(z/256*256).toNat=2^8*(z.toNat/256):=by omega
 rw[e2,<-Xe7 (by omega)];omega
theorem Zas(s:Es):(⟨s.Len,s.Hop⟩:Es)=s:=rfl
theorem VJ{n:ZZ}(h:Pb n){k:Nat}(hk:k<16):EA (OA n k) (k:Int) (XK n k)=some (.inl (OA n (k+1))):=by
 obtain⟨g1,g2,g3⟩:=h.sl k hk;obtain⟨g4,g5⟩:=h.nx k hk;have i0:idx (XK n k) (0:Int)=some (Xao (sAt n k).Len):=rfl;have i1:idx (XK n k) (1:Int)=some (VY ⟨Dat.z,(sAt n k).Hop⟩):=rfl;have i2:idx (XK n k) (2:Int)=some (sAt n k).Hop.toUInt8:=rfl;have i3:idx (XK n k) (3:Int)=some (Xao (nAt n k/256)):=rfl;have i4:idx (XK n k) (4:Int)=some (Xao (nAt n k)):=rfl;have hh:=ZcA ⟨Dat.z,(sAt n k).Hop⟩;dsimp only at hh;unfold EA;rw[i0,Zb,i1,Zb,i2,Zb,Zf4 hk,Zb,Zb,i3,Zb,i4];rw[hh,QJ g1 (by omega),Zas];dsimp only;have hb:=VS g4 g5;cases hx:Uu ((Xao (nAt n k/256)).toNat:Int) 8 with
 | none=>rw[hx]at hb;cases hb
 | some x=>
  rw[hx,Zb]at hb;rw[Zb,Zb,hb,Zb];have hn:∃v,idx (OA n k).Next.l (k:Int)=some v:=⟨_,Zf7 (n:=OA n k) hk⟩;obtain⟨v,hv⟩:=hn;rw[hv,Zb,Zb,Xak];refine congrArg (λx=>some (Sum.inl x)) ?_;unfold OA;dsimp only;rw[UT (d:=sl0) (g':=λq=>if q<k+1 then sAt n q else sl0) hk λq hq=>?_,UT (d:=(0:Int)) (g':=λq=>if q<k+1 then nAt n q else 0) hk λq hq=>?_]
  .by_cases e:q=k
   .subst e;rw[if_pos (by omega),if_pos rfl]
   .rw [if_neg e]
    by_cases e2:q<k
    .rw [if_pos e2,if_pos (by omega)]
    .rw [if_neg e2,if_neg (by omega)]
  .by_cases e:q=k
   .subst e;rw[if_pos (by omega),if_pos rfl]
   .rw [if_neg e]
    by_cases e2:q<k
    .rw [if_pos e2,if_pos (by omega)]
    .rw [if_neg e2,if_neg (by omega)]
theorem ZaC{n:ZZ}(h:Pb n):JT (SU n)=some (n,0):=by
 have hl:=N3 n;unfold JT GK;rw[hl,Zg (by simp),Zb];dsimp only;have hp:=UE (f:=λ(s:ZZ) n_7 v_8=>EA s n_7 v_8) (b:=SU n) (n:=16) (sz:=5) (by omega) hl (by omega) (OA n) (λk hk=>by
  have hc:=Q0 (QT n) (l:=Xbe 16) (k:=k) (by simpa using hk);rw[Xc5]at hc;show EA (OA n k) (k:Int) (((SU n).take ((k+1)*5)).drop (k*5))=_;rw[show SU n=(Xbe 16).flatMap (XK n)from rfl,hc];exact VJ h hk)
 rw[VQ,Xf]at hp;rw[show(5:Int)=((5:Nat):Int)from rfl,show(Dat.z:ZZ)=⟨Dat.z,Dat.z⟩from rfl,hp,Zb,ZU,Zcx h,Zb,XaC,Zq]
theorem VK{l:List ZZ}(hl:l.length<=512)(h:∀n∈l,Pb n):F0 (l.flatMap SU)=some (l,0):=by
 have hb:(l.flatMap SU).length=l.length*80:=OO N3 l;unfold F0 GK;rw[show(80:Int)=((80:Nat):Int)from rfl,QA (by omega),Zb,hb,Nat.mul_mod_left,Zg (by simp;omega),Ku (by omega),Zb,XdH _ (by omega),Aq (by omega) (by omega) (by omega),Zb,Ef (by omega) (by omega) (by omega),Zb,Zb,Zb];have h0:(Xac (Xaa (l.length:Int)) (Dat.z:ZZ)).take (Xaa (0:Int))=[]:=Xdk;rw[h0];dsimp only;have hp:=UE (f:=λ(s:List ZZ) n_17 v_18=>DB s n_17 v_18) (b:=l.flatMap SU) (n:=l.length) (sz:=80) (by omega) hb (by omega) (λk=>l.take k) (λk hk=>by
  have hn:=h _ (Xax hk);have ht:(l.take k).length=min k l.length:=Xa5;rw[Q0 N3 hk];unfold DB;rw[ZaC hn,Zb,Zg (by simp)];dsimp only;rw[Aq (by omega) (by simp;omega) (by simp;omega),Zb,Zb,Cd hk])
 rw[Xbp]at hp;have hp:BS (yT2 (λ(s:List ZZ) n_17 v_18=>DB s n_17 v_18)) (.inl []:List ZZ⊕(List ZZ×Int)) (l.flatMap SU) ((80:Nat):Int)=some (.inl l):=hp;rw[hp,Zb,ZU]
theorem TI.ok{D:Nat}{nodes:List ZZ}{ps:List (Nat×Nat)}{R:List Route} (h:TI D nodes ps R):∀n∈nodes,Pb n:=λn hn=>by
 obtain⟨i,hi,rfl⟩:=XaQ hn;have hip:i<ps.length:=by rw[<-h.len];exact hi
 have hle:=h.le;have e:IB nodes i=nodes[i]:=by unfold IB;rw[gtD hi]
 refine⟨λq hq=>?_,λq hq=>?_⟩
 .have hs:=h.sl i hip q hq;unfold EL at hs;rw[e]at hs;rcases hs with⟨e1,-⟩|⟨r,h1,h2,h3,h4⟩
  .unfold sAt;rw[e1];exact⟨XaJ _,by decide,λ_=>rfl⟩
  .unfold sAt;rw[h3];have:=h.may r h1;obtain⟨k1,k2,k3,-⟩:=this;dsimp only;exact⟨by omega,by omega,λh=>by omega⟩
 .have hs:=h.nx i hip q hq;unfold EC at hs;rw[e]at hs;unfold nAt;rcases hs with⟨e1,-⟩|⟨j,e1,e2,e3,e4⟩
  .rw [e1];omega
  .rw [e1];omega
section
open Go Go.RowKit
set_option synthInstance.maxHeartbeats 400000
set_option synthInstance.maxSize 4096
def CQ(l0:(List (List BA)))(i_11:Int)(f_12:Fib):Option ((Int×Fib)⊕(Fib⊕Bool)):=
 bif (decide (i_11<(l0.length:Int)))then((idx l0 i_11).bind λx_14=>bif (decide ((x_14.length:Int)>(12:Int)))then(some (.inr (.inr true)))else((idx l0 i_11).bind λx_16=>(Hq f_12 x_16).bind λr_17=>(AC i_11 1).bind λx_18=>some (.inl (x_18,r_17.1))))else(some (.inr (.inl f_12)))
def DY(blocks0:UInt8)(pages0:UInt8)(l0:(List (List BA)))(k0:(Vec UInt8 16))(bits0:Int):Option Bool:=
 (FT).bind λx_2=>bif (!x_2)then(some false)else(bif (decide ((l0.length:Int)>(12:Int)))then(some true)else((AC ((blocks0%(XaN 7)).toNat:Int) (5:Int)).bind λx_3=>(AC ((pages0%(XaN 7)).toNat:Int) (2:Int)).bind λx_4=>(Jl x_3 x_4 (64:Int)).bind λr_5=>(GQ r_5.1).bind λr_7=>bif ((decide (r_5.2≠(0:Int)))||(decide (r_7.2≠(0:Int))))then(some false)else((ZN (λs=>CQ l0 s.1 s.2) ((0:Int),r_7.1)).bind λo_10=>elS o_10 (λf_9=>(IK f_9.Vol.Chip).bind λr_19=>(gb (!(decide (r_19.2≠(0:Int)))) (DK r_19.1 f_9)).bind λx_21=>bif ((decide (r_19.2≠(0:Int)))||(!x_21))then(some false)else((Md r_19.1 k0 bits0).bind λr_22=>(CS r_19.1.Table k0 bits0).bind λr_24=>bif ((decide (r_22.1≠r_24.1))||(decide (r_22.2≠r_24.2)))then(some false)else((Ev r_19.1.Table bits0).bind λr_26=>(gb (!(decide (r_26.2≠(0:Int)))) (JY k0 bits0)).bind λx_28=>bif ((decide (r_26.2≠(0:Int)))||(decide (x_28≠k0)))then(some ((decide (r_22.2=(1:Int)))||(decide (r_26.2=(5:Int)))))else((L3 r_26.1.Nodes).bind λr_29=>(F0 r_29.1).bind λr_30=>(some ((⟨bits0,r_30.1⟩:Trie):Trie)).bind λu_32=>(GY u_32 k0).bind λr_33=>(gb ((decide (r_29.2=(0:Int)))&&(decide (r_30.2=(0:Int)))) (GF u_32)).bind λx_34=>some ((((((decide (r_29.2=(0:Int)))&&(decide (r_30.2=(0:Int))))&&x_34)&&(decide (r_33.1=r_22.1.Prefix.Len)))&&(decide (r_33.2.1=r_22.1.Hop)))&&(decide (r_33.2.2=r_22.2))))))) (λq=>some q))))
theorem Lz{A:Nat->Prop}{blocks0:UInt8}{pages0:UInt8}{l0:(List (List BA))}{k0:(Vec UInt8 16)}{bits0:Int}  {r:Bool} (w:World) (v0 v1 v2 v3 v4:Value) (hA:∀k,w.heap.size<=k->A k)  (h0:(D blocks0).p A w v0) (h1:(D pages0).p A w v1) (h2:(D l0).p A w v2) (h3:(D k0).p A w v3) (h4:(D bits0).p A w v4) (H:DY blocks0 pages0 l0 k0 bits0=some r) :
    Calls Tryz.prog 6 #[v0,v1,v2,v3,v4] w (Ret A w (D r)):=by
 unfold DY at H;refine zX (Zfj hA Tryz.func6 rfl Tryz.ntmps6 rfl h0 h1 h2 h3 h4) ?_;refine TS.box rfl λb8_0=>zg ?_
 refine zn H λ_ ex_2 H=>?_
 refine zX (A4 (YA λw hA=>NI w hA ex_2.h) rfl) ?_;refine zc H (λhc H=>?_) λhc H=>?_
 .exact zY H
 .refine zg ?_;refine zc H (λhc H=>?_) λhc H=>?_
  .exact zY H
  .refine zg ?_;refine zX (A4 (Vi (by decide)) rfl) ?_;refine zb H λ_ _ H=>?_
   refine zX (A4 (Vi (by decide)) rfl) ?_;refine zb H λ_ _ H=>?_
   refine zb H λ_ _ H=>?_
   refine Xaq rfl λb11_5=>zg ?_
   refine zb H λ_ _ H=>?_
   refine Xaq rfl λb13_7=>zg ?_
   refine zc H (λhc H=>?_) λhc H=>?_
   .exact zY H
   .refine zC ?_;refine zh H λo_10 H10 H=>?_
    refine Zs (λs:Fib=>o_10=.inl s) (λ(f_9:Fib) (_:Unit)=>(TR (TR (TR Env.nil 4 (D bits0)) 8 (Pt b8_0 0)) 13 (Pt b13_7 0))) (λ(f_9:Fib) (_:Unit)=>[⟨b8_0,True,(One k0)⟩,⟨b13_7,True,(One f_9)⟩]) ?_ ?_
    .skip;refine Zr<|Zx H10 (λ⟨i_11,f_12⟩ (_:Unit)=>(TR (TR (TR (TR (TR Env.nil 2 (D l0)) 4 (D bits0)) 8 (Pt b8_0 0)) 13 (Pt b13_7 0)) 15 (D i_11))) (λ⟨i_11,f_12⟩ (_:Unit)=>[⟨b8_0,True,(One k0)⟩,⟨b13_7,True,(One f_12)⟩]) () (Za (Za (Za (Za (Za (Ze _)))))) (Zd rfl (Zd rfl (Zf _))) ?_;rintro⟨i_11,f_12⟩ ⟨⟩ x_13 H13 he13;dsimp only at H13;unfold CQ at H13;refine zg ?_;refine zc H13 (λhc H13=>?_) λhc H13=>?_
     .refine zg ?_;refine zb H13 λ_ _ H13=>?_
      refine zc H13 (λhc H13=>?_) λhc H13=>?_
      .refine zC ?_;refine ZO<|Zi<|Zh<|Zi<|Zi<|Zh<|Zw ?_;have R14:=AQ (he13 _ (ZZs H13)) H;refine zg ?_;obtain rfl:=ZZi R14;exact Bc rfl Cv.le
      .refine AH<|Az<|ZbH 7 [] [9] [] mix (by kernel_rfl) (by kernel_rfl) rfl (by kernel_rfl) (by kernel_rfl) (by kernel_rfl)<|TRx (AL ZB)<|TRm<|TRm ?_;obtain⟨x_16,ex_16,H13⟩:=bnd H13;refine TRx (Pa ex_16)<|TRx Vl ?_;obtain⟨r_17,er_17,H13⟩:=bnd H13;refine TRx (Kl λw v0 v1 hA h0 h1=>ZdL.h w v0 v1 hA (toD h0) (toD h1) er_17)<|TRm<|Sq ?_;rintro _;dsimp only[XaV,XaW,Fam.one,Xan,Xam];refine PH.next [b13_7]<|TRx (Hx rfl)<|TRx (Hx rfl)<|DP (λg=>(ZD (y:=(r_17.1:Fib)) ZB)) rfl<|Sq ?_;rintro⟨_,_⟩;dsimp only[XaV,XaW,Fam.one,Xan,Xam];refine zg ?_;refine zb H13 λx_18 _ H13=>?_
       exact Zv ⟨x_18,r_17.1⟩ () (ZZs H13) (Za (Za (Za (Za (Za (Ze _)))))) (Zd rfl (Zd rfl (Zf _)))
     .refine zg ?_;exact Zl f_12 () (he13 _ (ZZs H13)).symm (Za (Za (Za (Ze _)))) (Zd rfl (Zd rfl (Zf _)))
    rintro f_9 ⟨⟩ hp;replace H:=Bs hp H;refine zg ?_;refine zb H λ_ _ H=>?_
    refine Xaq rfl λb16_19=>zg ?_
    refine zd H λ_ _ H=>?_
    refine zc H (λhc H=>?_) λhc H=>?_
    .exact zY H
    .refine zg ?_;refine zb H λ_ _ H=>?_
     refine Xaq rfl λb18_22=>zg ?_
     refine zb H λ_ _ H=>?_
     refine Xaq rfl λb20_24=>zg ?_
     refine zX (A4 (FK YO (by decide) YP rfl) rfl) ?_;refine zc H (λhc H=>?_) λhc H=>?_
     .exact zY H
     .refine zg ?_;refine zb H λ_ _ H=>?_
      refine Xaq rfl λb22_26=>zg ?_
      refine zd H λ_ _ H=>?_
      refine zX (Yg 128 rfl (λhg=>(FK Vo (by decide) YQ rfl)) rfl) ?_;refine zc H (λhc H=>?_) λhc H=>?_
      .exact zY H
      .refine zg ?_;refine zb H λ_ _ H=>?_
       refine zn H λr_30 er_30 H=>?_
       refine zX (A4 (F8 λw v0 hA h0=>Pn w v0 hA (toD h0) er_30.h) rfl) ?_;refine TSx (tB (⟨bits0,r_30.1⟩:Trie) rfl rfl) ?_;refine Xaq rfl λb28_30=>?_
       refine zC ?_;refine zn H λ_ eu_32 H=>?_
       refine zX (ZF b28_30 (Ag eu_32.h)) ?_;refine zb H λ_ _ H=>?_
       refine zd H λ_ _ H=>?_
       refine MC 179 rfl (λhg=>SI) rfl ?_;exact zY H
end
structure NJ(P nB:Nat)(f:Fib)(ops:Int):Prop where
 fi:∃bod,FI P nB f.Vol.Chip f.Vol.At f.Vol.Gen f.Vol.Last bod f.Table
 nf:NF f.Vol.Chip
 idle:1<=Bb P nB f.Vol.Chip f.Vol.At
 ops:f.Vol.Chip.Ops<=ops
theorem XN{P nB:Nat}(hg:Geo P nB 64){f:Fib}{ops:Int} (h:NJ P nB f ops) {l:List BA} (hl:l.length<=1000000) (hops:ops+20000000<=De) :
  Et (Hq f l) (λr=>NJ P nB r.1 (ops+10000000)):=by
 obtain⟨⟨c,at0,gen,last⟩,t⟩:=f;obtain⟨⟨bod,h2⟩,h3,h4,h5⟩:=h;dsimp only at h2 h3 h4 h5;have hg2:=hg.b5;have hi:=EV hg;refine(Zfg hg h2 hl (by omega)).m λr hr=>?_
 rcases hr with⟨g1,g2,g3⟩|⟨g1,g2,g3⟩
 .rw [g1];exact⟨⟨bod,h2⟩,h3,h4,by show c.Ops<=_;omega⟩
 .dsimp only at g1 g2 g3;have htr:TbR (Ld t t l).1:=X9 h2.tr g1;have hnow:=Xh hg htr g2;rcases g3 with⟨rfl,g4⟩|⟨v,e,rfl,g4⟩
  .exact ⟨⟨bod,h2.vi,h2.len,by rw[g4];exact hnow,htr⟩,h3,h4,by show c.Ops<=_;omega⟩
  .obtain ⟨w1,w2,w3,w4,w5⟩:=g4;dsimp only at w1 w2 w3 w4 w5;have hneed:=ZaO (P:=P) (nB:=nB) (n:=JE P nB) (old:=bod) (now:=Tc P nB (Ld t t l).1);have hm:2*JE P nB<=(nB-3)*P:=XaG hi.2.2 (Xah _ (by omega));have hal:=h2.len;obtain⟨e0,e1,e2⟩:=w5 h3 h4 (by rw[hal,<-XbQ];omega);subst e0;rw[Mm h2.bl OH]at w4;rcases w4 with⟨-,g⟩|⟨e5,-⟩|⟨e5,-⟩
   .exact ⟨⟨Tc P nB (Ld t t l).1,by rw[if_pos rfl];exact⟨g,by rw[g.gi.1,OH],hnow,htr⟩⟩,⟨by rw[w3];exact h3.1,e1⟩,e2,by show v.Chip.Ops<=_;omega⟩
   .exact absurd e5 (by decide)
   .exact absurd e5 (by decide)
theorem V4{P nB:Nat}(hg:Geo P nB 64){l:List (List BA)}(hl:l.length<=12){f:Fib}(h:NJ P nB f 10) :
  Et (ZN (λs=>CQ l s.1 s.2) ((0:Int),f)) (λo=>(∃g,o=.inl g/\NJ P nB g 200000000)\/o=.inr true):=by
 refine Xda (σ:=Int×Fib) (λs=>∃i:Nat,s.1=i/\i<=l.length/\NJ P nB s.2 (10+10000000*(i:Int))) (λs=>l.length-s.1.toNat) (λs hs=>?_) ⟨0,rfl,by omega,by simpa using h⟩ (by show l.length-0<_;omega);obtain⟨z,f⟩:=s;obtain⟨i,rfl,hi,h⟩:=hs;dsimp only at h⊢;unfold CQ
 by_cases hlt:i<l.length
 .rw [El hlt,Zu,Zz hlt,Zb]
  by_cases h12:l[i].length<=12
  .rw [Zg (by simp;omega),Zb];refine XcA (XN hg h (l:=l[i]) (by omega) (by unfold De;omega)) λr hr=>?_
   rw[ZL (by omega),Zb];refine Xez ⟨i+1,rfl,by omega,hr.fi,hr.nf,hr.idle,?_⟩ (by show l.length-(((i+1:Nat):Int)).toNat<l.length-(i:Int).toNat;omega);have:=hr.ops;show r.1.Vol.Chip.Ops<=_;omega
  .rw [Zj (by simp;omega)];exact AN (.inr rfl)
 .rw [I9 (by omega),Zq];refine AN (.inl ⟨f,rfl,h.fi,h.nf,h.idle,?_⟩);have:=h.ops;omega
theorem Zd1{t:List Route}(h:TbR t){bits:Int}{k:Vec UInt8 16} (hp:¬PM ⟨bits,bits,k⟩):CS t k bits=some (⟨Dat.z,0⟩,1):=by
 unfold CS;rw[h.right,Zb,XaC,Xas,Av,GM,Zb,decide_eq_false hp,Zj (by simp),Zb]
theorem X4{t:List Route}(h:TbR t)(bits:Int):Et (Ev t bits) (λr=>r.2=0->bits=32\/bits=128):=by
 by_cases hb:bits=32\/bits=128
 .exact (Sk h hb).m λ_ _ _=>hb
 .unfold Ev Ek;rw[h.right,Zb,XaC,Xas,Av,Zb,Zj (by simp;omega),Zb];exact XbE λh=>absurd h (by decide)
theorem Pi(b p:UInt8)(l:List (List BA))(k:Vec UInt8 16)(bits:Int):DY b p l k bits=some true:=by
 have hg:=Zfd b.toNat p.toNat;unfold DY;rw[Zab,Zb,XaC,Zq]
 by_cases hl:l.length<=12
 .rw [Zg (by simp;omega),Zgj,Zb,Zgi,Zb,Ze4,Zb];refine Gg (XcA (ZdM hg) λr ⟨r1,r2,r3,r4,r5,r6⟩=>?_);rw[Zg (by simp[r1])];refine XcA (V4 hg hl (f:=r.1) ⟨⟨_,by rw[r2];exact r3⟩,r4,r6,r5⟩) λo ho=>?_
  rcases ho with⟨⟨⟨c,at0,gen,last⟩,t⟩,rfl,⟨bod,h2⟩,-,-,-⟩|rfl
  .dsimp only at h2;have hal:=h2.len;have hi:=EV hg;have htl:=h2.tr.len;rw[ZU];dsimp only;rw[XG hg h2,Zb];dsimp only;rw[show(!(decide ((0:Int)≠0)))=true from rfl,Av,S3 (f:=⟨⟨c,at0,gen,last⟩,t⟩) h2.vi.ci.right (by show at0.length<=_;omega) (by show t.length<=_;omega),Zb,Zg (by simp)];have hfind:Md ⟨⟨c,at0,gen,last⟩,t⟩ k bits=CS t k bits:=by
    unfold Md Mb;rw[RC hg h2,Zb,Zb,XaC,Zq];cases CS t k bits<;>rfl
   rw[hfind]
   by_cases hpm:PM ⟨bits,bits,k⟩
   .have hb:=hpm.1;have hk:=N1.2 hpm.2.2.2;obtain⟨q,hq,-⟩:=U6 h2.tr hb hk;rw[hq,Zb,Zb,Zg (by simp)];refine XcA (Sk h2.tr hb) λw hw=>?_
    rcases hw with⟨w1,w2,ps,w3⟩|w1
    .have hl5:=w3.len;have hle:=w3.le;rw[w1,show(!(decide ((0:Int)≠0)))=true from rfl,Av,IG,hk,Zb,Zg (by simp),Zdy (by omega) w3.ok,Zb];dsimp only;rw[VK (by omega) w3.ok,Zb,Zb,XL h2.tr hb hk w3 hq,Zb];dsimp only;rw[show((decide ((0:Int)=0))&&(decide ((0:Int)=0)))=true from rfl,Av,UA hb w3,Zb];refine XbE ?_;simp
    .rw [w1,show(!(decide ((5:Int)≠0)))=false from rfl,BN,Zb,Zj (by simp)];refine XbE ?_;simp
   .have hq:=Zd1 h2.tr hpm;rw[hq,Zb,Zb,Zg (by simp)];refine XcA (X4 h2.tr bits) λw hw=>?_
    by_cases w0:w.2=0
    .have hb:=hw w0;have hk:V8 k bits≠k:=λe=>hpm ⟨hb,by show(0:Int)<=bits;omega,XaJ _,N1.1 e⟩
     rw[w0,show(!(decide ((0:Int)≠0)))=true from rfl,Av,IG,Zb,Zj (by simp[hk])];refine XbE ?_;simp
    .rw [show(!(decide (w.2≠(0:Int))))=false by simp[w0],BN,Zb,Zj (by simp[w0])];refine XbE ?_;simp
  .rw [A2];exact XbE rfl
 .rw [Zj (by simp;omega)]
end Go.Proofs.YtkmojgfenlgchaaGreatDoor.Tr
namespace Go.Proofs.YtkmojgfenlgchaaGreatDoor.Tr
open Go Go.RowKit Go.ChangeShapes Go.WideShapes Go.ChangeAt
set_option synthInstance.maxHeartbeats 400000
set_option synthInstance.maxSize 4096
theorem ZdB:ownKnob Tryz.prog.godebug=none:=by kernel_rfl
theorem Za1:laidOutB Tryz.prog=true:=by kernel_rfl
instance :TOpen Tryz.prog 5 UInt8 inferInstance:=Zaf (by kernel_rfl)
instance :TOpen Tryz.prog 3 Int inferInstance:=WN (by kernel_rfl)
instance :TOpen Tryz.prog 83 (Vec UInt8 16) inferInstance:=WL (e:=5) (by kernel_rfl) (by kernel_rfl) (by kernel_rfl)
instance :TOpen Tryz.prog 85 Prefix inferInstance:=JK (i:=KM) E6 Hv (λ_=>rfl) rfl Tryz.underlying85 rfl (by kernel_rfl) (LL (o:=0) (inferInstance:TOpen Tryz.prog 3 Int inferInstance) (by kernel_rfl) (by rfl) (by rfl) (by rfl) (LL (o:=1) (inferInstance:TOpen Tryz.prog 3 Int inferInstance) (by kernel_rfl) (by rfl) (by rfl) (by rfl) (Qr (inferInstance:TOpen Tryz.prog 83 (Vec UInt8 16) inferInstance) (by kernel_rfl) (by rfl) (by rfl))))
instance :TOpen Tryz.prog 68 UInt16 inferInstance:=WM (by kernel_rfl)
instance :TOpen Tryz.prog 87 Route inferInstance:=JK (i:=O0) HT KL (λ_=>rfl) rfl Tryz.underlying87 rfl (by kernel_rfl) (LL (o:=0) (inferInstance:TOpen Tryz.prog 85 Prefix inferInstance) (by kernel_rfl) (by rfl) (by rfl) (by rfl) (Qr (inferInstance:TOpen Tryz.prog 68 UInt16 inferInstance) (by kernel_rfl) (by rfl) (by rfl)))
instance :TOpen Tryz.prog 4 Bool inferInstance:=Vv (by kernel_rfl)
instance :TOpen Tryz.prog 106 BA inferInstance:=JK (i:=Nd) Mx My (λ_=>rfl) rfl Tryz.underlying106 rfl (by kernel_rfl) (LL (o:=0) (inferInstance:TOpen Tryz.prog 87 Route inferInstance) (by kernel_rfl) (by rfl) (by rfl) (by rfl) (Qr (inferInstance:TOpen Tryz.prog 4 Bool inferInstance) (by kernel_rfl) (by rfl) (by rfl)))
instance :TOpen Tryz.prog 43 (List BA) inferInstance:=Pz (e:=106) (by kernel_rfl) (by kernel_rfl) (by decide +kernel)
instance :TOpen Tryz.prog 81 (List (List BA)) inferInstance:=Pz (e:=43) (by kernel_rfl) (by kernel_rfl) (by decide +kernel)
set_option maxRecDepth 100000 in
theorem topFinds_lifted(os:Os)(started:os.Started)(H:Type)(enc:TypeId×Value->H) :
  ReturnsInHanded {} Tryz.checked os 6 .any (λw args=>(Rows.topFindsSpec.pre enc Tryz.prog Tryz.f6 Rows.topFindsRow.domain false w args/\laidMetH Tryz.prog Rows.topFindsRow.laid w)/\sizedMet enc Tryz.prog Tryz.f6 (OpenSpec.ofChange Rows.topFindsSpec) false w args) (Rows.topFindsSpec.post enc Tryz.prog Tryz.f6 false true false false):=by
 refine returnsInHanded_of_change_and (C:=Tryz.checked) (X:=λw _=>laidMetH Tryz.prog Rows.topFindsRow.laid w) (λ_ _ _ hh h=>h.of_heap hh) ZdB started (by kernel_rfl) Tryz.func6
  (ChangeSpec.witness_shaped (enc:=enc) (C:=Tryz.checked) (os:=os) (X:=λw _=>laidMetH Tryz.prog Rows.topFindsRow.laid w) false (World.laidAll Tryz.prog os Rows.topFindsRow.laid) #[.int .u8 0,.int .u8 0,.slice none 0 0,.agg #[.int .u8 0,.int .u8 0,.int .u8 0,.int .u8 0,.int .u8 0,.int .u8 0,.int .u8 0,.int .u8 0,.int .u8 0,.int .u8 0,.int .u8 0,.int .u8 0,.int .u8 0,.int .u8 0,.int .u8 0,.int .u8 0],.int .i64 0] 8 (World.laidAll_os _ _ _)
   (World.shaped_of_ZipB (by kernel_rfl) (by kernel_rfl)) (by kernel_rfl) (by kernel_rfl) (by kernel_rfl)
   (by rw[MakeChecks.laidMetH_plain _ _ _ (by kernel_rfl)];exact laidMet_laidAll _ (by kernel_rfl) (by kernel_rfl))) ?_
 intro W base args ds gs before hval0 hW hcnd hsz0 hL _;have hval:∀(j:Nat) t v,Tryz.f6.params[j]?=some t->args[j]?=some v->Value.okWide Tryz.prog W .any base t v:=hval0;have hW':=hW;obtain⟨p,q,hA0,hV,rfl,hfz,hnd⟩:=hW;have hA:DataW.TrodAll enc Tryz.prog W 0 (λ_=>true) true Tryz.f6.params.toList args.toList ds p:=hA0;have hsz:∀n∈DataW.weightsEach Tryz.prog Tryz.f6.params.toList ds,n<=reachBytes:=λn hn=>by
  obtain⟨rfl,-⟩:=trodVars_none hV;have:=List.all_eq_true.1 hsz0 n (by
   show n∈DataW.weightsEach Tryz.prog (Tryz.f6.params.toList++[]) (ds++[]);rw[List.append_nil,List.append_nil];exact hn)
  simpa using this
 rw[Tryz.params6]at hA hval hsz;obtain⟨v0,vs0,d0,ds0,p0,q0,hargs,rfl,rfl,h0,r0⟩:=trodAll_cons hA;obtain⟨v1,vs1,d1,ds1,p1,q1,rfl,rfl,rfl,h1,r1⟩:=trodAll_cons r0;obtain⟨v2,vs2,d2,ds2,p2,q2,rfl,rfl,rfl,h2,r2⟩:=trodAll_cons r1;obtain⟨v3,vs3,d3,ds3,p3,q3,rfl,rfl,rfl,h3,r3⟩:=trodAll_cons r2;obtain⟨v4,vs4,d4,ds4,p4,q4,rfl,rfl,rfl,h4,r4⟩:=trodAll_cons r3;obtain⟨rfl,rfl,rfl⟩:=trodAll_nil r4;obtain rfl:args=#[v0,v1,v2,v3,v4]:=by cases args;simp_all
 obtain⟨x0,y0⟩:=LM h0 (hval 0 _ v0 rfl rfl) (λn hn=>hsz n (DataW.weights_mem_each (j:=0) rfl rfl n hn));obtain⟨x1,y1⟩:=LM h1 (hval 1 _ v1 rfl rfl) (λn hn=>hsz n (DataW.weights_mem_each (j:=1) rfl rfl n hn));obtain⟨x2,y2⟩:=LM h2 (hval 2 _ v2 rfl rfl) (λn hn=>hsz n (DataW.weights_mem_each (j:=2) rfl rfl n hn));obtain⟨x3,y3⟩:=LM h3 (hval 3 _ v3 rfl rfl) (λn hn=>hsz n (DataW.weights_mem_each (j:=3) rfl rfl n hn));obtain⟨x4,y4⟩:=LM h4 (hval 4 _ v4 rfl rfl) (λn hn=>hsz n (DataW.weights_mem_each (j:=4) rfl rfl n hn));refine(Lz W v0 v1 v2 v3 v4 (λ_ _=>trivial) y0 y1 y2 y3 y4 (Pi _ _ _ _ _)).mono λe W1 h=>?_
 refine Za0 (tb:=4) Za1 (by kernel_rfl) (by kernel_rfl) rfl (by rw[Tryz.params6];decide +kernel) rfl hW' h
end Go.Proofs.YtkmojgfenlgchaaGreatDoor.Tr
namespace Go.Proofs.YtkmojgfenlgchaaGreatDoor
open Go Go.RowKit Go.ChangeShapes Go.WideShapes Go.ChangeAt
theorem K5:Rows.TopFindsSaid:=
 OpenClaim.holds_of_wide 6 Tryz.f6 rfl rfl rfl rfl rfl rfl rfl ⟨rfl,rfl,rfl,rfl,rfl⟩ rfl rfl rfl rfl rfl (by kernel_rfl) Tryz.func6 (by kernel_rfl)
  (of_decide_eq_true (by kernel_rfl)) (by unfold Func.isWrapper;first|(rw[if_pos (by decide +kernel)];kernel_rfl)|(rw[if_neg (by decide +kernel)];exact⟨rfl,rfl⟩))
  (λos started H enc _=>Tr.topFinds_lifted os started H enc)
#print axioms K5
theorem topFinds_card_holds:Rows.TopFindsCardSaid:=
 Claim7.holds_tied_plain_at .later [] [.data, .pinned] true (true, "c1cfdc2fbd019fdcbc750d0f96387e643ddd29362aa1353ceebd97399875c579") false K5 (λ_ h => by cases h) (by kernel_rfl) (λ_ h => by cases h) topFinds_row_tie rfl ⟨rfl, rfl⟩ (by kernel_rfl) rfl
  (λf fn hf hfn=>by
   obtain rfl : f = 6 := Option.some.inj ((show Tryz.prog.funcNamed "byway/bywaytop.TopFinds" = some 6 by kernel_rfl).symm.trans hf) |>.symm;obtain rfl : fn = Tryz.f6 := (Option.some.inj (Tryz.func6.symm.trans hfn)).symm;exact⟨by kernel_rfl, λj t ht => by
    rw[Tryz.params6]at ht;have hm:t∈[5,5,81,83,3]:=by simpa using Array.mem_of_getElem? ht
    have hall:([5,5,81,83,3].all λu=>!Tryz.prog.wantsStandIn u)=true:=by kernel_rfl
    exact(show Tryz.prog.wantsStandIn t=false by simpa using List.all_eq_true.1 hall t hm)⟩)
  (by kernel_rfl)
#print axioms topFinds_card_holds
end Go.Proofs.YtkmojgfenlgchaaGreatDoor
