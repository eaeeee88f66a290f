/- What the proof leans on. Conditions: none. -/
import Derived.Test.YtkmojgfenlgchaaGreatDoorZTD4
set_option linter.all false
set_option linter.unusedSimpArgs false
set_option linter.unusedVariables false
set_option linter.unusedSectionVars false
namespace Go.Proofs.YtkmojgfenlgchaaGreatDoor.Tr
open Go
theorem Zg4 {α:Type} {f:Int→Option (Int⊕(Unit⊕Bool))} (xs:List α) (good:α→Bool) (hl:xs.length<1000000000000) (hf:∀ i (h:i<xs.length),f (i:Int)=some (if good xs[i] then .inl (((i+1:Nat)):Int) else .inr (.inr false))) (he:f (xs.length:Int)=some (.inr (.inl ()))) :
  ZM f (0:Int)=some (if xs.all good then .inl () else .inr false):=by
 rcases Zfs (f:=f) (fun i=>(i:Int)) xs.length (fun i=>(xs[i]?).any fun x=>!good x) (fun _=>.inr false) (y:=.inl ()) (by omega) (fun i hi hp=>by
   have hx:good xs[i]=true:=by simpa [List.getElem?_eq_getElem hi] using hp
   rw [hf i hi,if_pos hx]) (fun i hi hp=>by
   have hx:good xs[i]=false:=by simpa [List.getElem?_eq_getElem hi] using hp
   rw [hf i hi,if_neg (by rw [hx];decide)]) he (s:=(0:Int)) rfl with ⟨i,hi,hp,-,e⟩ | ⟨hall,e⟩
 ·have hx:good xs[i]=false:=by simpa [List.getElem?_eq_getElem hi] using hp
  have:¬ xs.all good=true:=fun h=>by
   have:=List.all_eq_true.1 h _ (List.getElem_mem hi);rw [hx] at this;cases this
  rw [e,if_neg this]
 ·have:xs.all good=true:=List.all_eq_true.2 fun x hx=>by
   obtain ⟨i,hi,rfl⟩:=List.getElem_of_mem hx;have:=hall i hi;simpa [List.getElem?_eq_getElem hi] using this
  rw [e,if_pos this]
def Zjj (c:Chip) (b:Block):Bool:=!(((((decide ((b.Pages.length:Int)≠c.Pages))||(decide (b.Used<(0:Int))))||(decide (b.Used>c.Pages)))||(decide (b.Worn<(0:Int))))||(decide (b.Worn>(1099511627776:Int))))&&b.Pages.all fun p=>decide ((p.length:Int)=c.Size)
def ZhY (b p s:Int):Bool:=(((((decide (b≥(1:Int)))&&(decide (b≤(32:Int))))&&(decide (p≥(1:Int))))&&(decide (p≤(16:Int))))&&(decide (s≥(1:Int))))&&(decide (s≤(256:Int)))
def ZcA (c:Chip):Bool:=(ZhY c.Blocks.length c.Pages c.Size&&decide (0≤c.Ops∧c.Ops≤1099511627776∧c.Faults.length≤64))&&c.Blocks.all (Zjj c)
theorem ZhI (c:Chip):Zet c=some (ZcA c):=by
 unfold Zet Zfx ZcA;rw [Zb];show (bif (((!(ZhY c.Blocks.length c.Pages c.Size))||_)||_)||_ then _ else _)=_;cases hs:ZhY c.Blocks.length c.Pages c.Size with
 | false=>rw [Zi (by simp)];simp
 | true=>
  by_cases ho:0≤c.Ops∧c.Ops≤1099511627776∧c.Faults.length≤64
  ·have hs2:=hs;unfold ZhY at hs2;simp only [Bool.and_eq_true,decide_eq_true_eq,ge_iff_le] at hs2;rw [Zf (by simp;omega),Zg4 (f:=fun s=>ZdT c s) c.Blocks (Zjj c) (by omega) (fun i hi=>?_) (by unfold ZdT;rw [Zjf,Zo])]
   ·rw [Zb,decide_eq_true ho];cases c.Blocks.all (Zjj c)
    ·rw [if_neg (by decide),Zbp];rfl
    ·rw [if_pos rfl,Zaw];rfl
   ·unfold ZdT;rw [ZeU hi,Zs,ZB hi,Zb];cases hb:(((((decide ((c.Blocks[i].Pages.length:Int)≠c.Pages))||(decide (c.Blocks[i].Used<(0:Int))))||(decide (c.Blocks[i].Used>c.Pages)))||(decide (c.Blocks[i].Worn<(0:Int))))||(decide (c.Blocks[i].Worn>(1099511627776:Int)))) with
    | true=>
     have:Zjj c c.Blocks[i]=false:=by unfold Zjj;rw [hb];rfl
     rw [Zs,if_neg (by rw [this];decide)]
    | false=>
     have hb2:=hb;simp only [Bool.or_eq_false_iff,decide_eq_false_iff_not] at hb2;rw [Zo,Zg4 (f:=fun s=>ZdS c c.Blocks[i] s) c.Blocks[i].Pages (fun p=>decide ((p.length:Int)=c.Size)) (by omega) (fun j hj=>?_) (by unfold ZdS;rw [Zjf,Zo])]
     ·have:Zjj c c.Blocks[i]=c.Blocks[i].Pages.all (fun p=>decide ((p.length:Int)=c.Size)):=by unfold Zjj;rw [hb];rfl
      rw [Zb,this];cases c.Blocks[i].Pages.all (fun p=>decide ((p.length:Int)=c.Size))
      ·rw [if_neg (by decide),Zbp,if_neg (by decide)]
      ·rw [if_pos rfl,Zaw,ZR (by omega),Zb,if_pos rfl]
     ·unfold ZdS;rw [ZeU hj,Zs,ZB hj,Zb]
      by_cases hp:(c.Blocks[i].Pages[j].length:Int)=c.Size
      ·rw [Zf (by simp [hp]),ZR (by omega),Zb,if_pos (by simp [hp])]
      ·rw [Zi (by simp [hp]),if_neg (by simp [hp])]
  ·rw [Zi (by simp;omega),decide_eq_false ho];simp
theorem flat_small {p:List (List UInt8)} (h:∀ x∈p,x.length≤1000):p.flatten.length≤p.length*1000:=by
 induction p with
 | nil=>simp
 | cons x xs ih=>
  have h1:=h x (List.mem_cons_self ..);have h2:=ih fun y hy=>h y (List.mem_cons_of_mem _ hy)
  simp only [List.flatten_cons,List.length_append,List.length_cons];omega
theorem copied_ok {p:List (List UInt8)} (h1:p.length≤1000) (h2:∀ x∈p,x.length≤1000):ZcY p=some p:=by
 have h3:=flat_small h2;unfold ZcY;refine (Zbh (ZP (fun i=>((i:Int),((p.take i).flatten.length:Int))) p.length (e:=(p.flatten.length:Int)) (by omega) (fun i hi=>?_) ?_ (by simp))).trans ?_
 rotate_right
 ·rw [Zav (by omega) (by omega) (by omega),Zb,Zav (by omega) (by omega) (by omega),Zb];refine (Zbh (ZP (fun i=>(i:Int)) p.length (e:=()) (by omega) (fun i hi=>?_) ?_ rfl)).trans ?_
  rotate_right
  ·rfl
  ·unfold Zdr;rw [ZeU hi,Zs,ZB hi,Zb,ZR (by omega),Zb]
  ·unfold Zdr;rw [Zjf,Zo]
 ·unfold Zbz;dsimp only;have h4:=Zim hi rfl;rw [ZeU hi,Zs,ZB hi,Zb,Zaa (by omega) (by omega),Zb,ZR (by omega),Zb,List.take_succ_eq_append_getElem hi,List.flatten_append,List.length_append];simp
 ·unfold Zbz;dsimp only;rw [Zjf,Zo,List.take_length]
theorem clone_ok {c:Chip} (h1:c.Blocks.length≤1000) (h2:∀ b∈c.Blocks,b.Pages.length≤1000∧∀ x∈b.Pages,x.length≤1000) (h3:c.Faults.length≤1000):Zbl c=some c:=by
 unfold Zbl ZW ZH;rw [Zav (by omega) (by omega) (by omega),Zb,Zb];refine (Zbh (ZP (fun i=>((i:Int),c.Blocks)) c.Blocks.length (e:=c.Blocks) (by omega) (fun i hi=>?_) ?_ rfl)).trans ?_
 rotate_right
 ·rw [Zav (by omega) (by omega) (by omega),Zb,Zb,Zb]
 ·unfold ZaT;dsimp only;obtain ⟨g1,g2⟩:=h2 _ (List.getElem_mem hi);rw [ZeU hi,Zs,ZB hi,Zb,copied_ok g1 g2,Zb,Zb,Zb,ZR (by omega),Zb];have:c.Blocks.set (Int.toNat (i:Int)) (⟨c.Blocks[i].Pages,c.Blocks[i].Used,c.Blocks[i].Worn,c.Blocks[i].Bad⟩:Block)=c.Blocks:=block_same (ZB hi);rw [this]
 ·unfold ZaT;dsimp only;rw [Zjf,Zo]
theorem Zcx {c:Chip} (h:ZcA c=true):1≤c.Blocks.length∧c.Blocks.length≤32∧1≤c.Pages∧c.Pages≤16∧1≤c.Size∧c.Size≤256∧0≤c.Ops∧c.Ops≤1099511627776∧c.Faults.length≤64∧
  ∀ b∈c.Blocks,(b.Pages.length:Int)=c.Pages∧0≤b.Used∧b.Used≤c.Pages∧0≤b.Worn∧b.Worn≤1099511627776∧∀ p∈b.Pages,(p.length:Int)=c.Size:=by
 unfold ZcA ZhY at h;simp only [Bool.and_eq_true,decide_eq_true_eq,ge_iff_le,List.all_eq_true] at h;obtain ⟨⟨⟨⟨⟨⟨⟨h1,h2⟩,h3⟩,h4⟩,h5⟩,h6⟩,h7,h8,h9⟩,h10⟩:=h;refine ⟨by omega,by omega,h3,h4,h5,h6,h7,h8,h9,fun b hb=>?_⟩;have h11:=h10 b hb;unfold Zjj at h11;simp only [Bool.and_eq_true,Bool.not_eq_true',Bool.or_eq_false_iff,decide_eq_false_iff_not,List.all_eq_true,decide_eq_true_eq] at h11;obtain ⟨⟨⟨⟨⟨g1,g2⟩,g3⟩,g4⟩,g5⟩,g6⟩:=h11;exact ⟨by omega,by omega,by omega,by omega,by omega,g6⟩
theorem ZhG {c:Chip} (h:ZcA c=true):Zbl c=some c:=by
 obtain ⟨h1,h2,h3,h4,h5,h6,h7,h8,h9,h10⟩:=Zcx h;refine clone_ok (by omega) (fun b hb=>?_) (by omega);obtain ⟨g1,g2,g3,g4,g5,g6⟩:=h10 b hb;exact ⟨by omega,fun x hx=>by have:=g6 x hx;omega⟩
theorem has_eq (c:Chip) (n:Int):ZeE c n=some ((ZcA c&&decide (n≥0))&&decide (n<(c.Blocks.length:Int))):=by
 unfold ZeE;rw [ZhI,Zb]
def Zw (c:Chip):Fault×Bool:=match c.Faults.find? (fun f=>decide (f.Op=c.Ops)) with
 | some f=>(f,f.Cut||f.Fail)
 | none=>(⟨0,false,false,0⟩,false)
theorem strikes_eq {c:Chip} (h:c.Faults.length≤1000):ZdF c=some (Zw c):=by
 unfold ZdF;rcases Zfs (f:=fun s=>Zcq c s) (fun i=>(i:Int)) c.Faults.length (fun i=>(c.Faults[i]?).any fun f=>decide (f.Op=c.Ops)) (fun i=>.inr (Zw ⟨c.Pages,c.Size,c.Blocks,c.Ops,c.Off,(c.Faults.drop i).take 1⟩)) (y:=.inl ()) (by omega) (fun i hi hp=>by
   have hx:¬ c.Faults[i].Op=c.Ops:=by simpa [List.getElem?_eq_getElem hi] using hp
   unfold Zcq;rw [ZeU hi,Zs,ZB hi,Zb,Zf (by simp [hx]),ZR (by omega),Zb]) (fun i hi hp=>by
   have hx:c.Faults[i].Op=c.Ops:=by simpa [List.getElem?_eq_getElem hi] using hp
   unfold Zcq;rw [ZeU hi,Zs,ZB hi,Zb,Zi (by simp [hx])];have he:(c.Faults.drop i).take 1=[c.Faults[i]]:=by rw [List.drop_eq_getElem_cons hi];rfl
   unfold Zw;dsimp only;rw [he,List.find?_cons_of_pos (by simp [hx])]) (by
   unfold Zcq;rw [Zjf,Zo]) (s:=(0:Int)) rfl with ⟨i,hi,hp,hj,e⟩ | ⟨hall,e⟩
 ·rw [e,Zb,Zbp];congr 1;have hx:c.Faults[i].Op=c.Ops:=by simpa [List.getElem?_eq_getElem hi] using hp
  have hf:c.Faults.find? (fun f=>decide (f.Op=c.Ops))=some c.Faults[i]:=by
   rw [List.find?_eq_some_iff_getElem];refine ⟨by simp [hx],i,hi,rfl,fun j hjl=>?_⟩;have:=hj j hjl;simpa [List.getElem?_eq_getElem (show j<c.Faults.length by omega)] using this
  have he:(c.Faults.drop i).take 1=[c.Faults[i]]:=by rw [List.drop_eq_getElem_cons hi];rfl
  unfold Zw;dsimp only;rw [hf,he,List.find?_cons_of_pos (by simp [hx])]
 ·rw [e,Zb,Zaw,Zb];have hf:c.Faults.find? (fun f=>decide (f.Op=c.Ops))=none:=by
   rw [List.find?_eq_none];intro f hf;obtain ⟨i,hi,rfl⟩:=List.getElem_of_mem hf;have:=hall i hi;simpa [List.getElem?_eq_getElem hi] using this
  unfold Zw;rw [hf]
def Zlf (c:Chip) (n page:Int) (p:List UInt8):Bool:=ZcA c&&decide (n≥0)&&decide (n<(c.Blocks.length:Int))&&decide (0≤page∧page<c.Pages∧(p.length:Int)=c.Size∧c.Ops<1099511627776)
def Zg2 (s:Fault×Bool) (p:List UInt8):List UInt8:=if s.2 then p.map (fun x=>x ||| (~~~s.1.Mask)) else p
def ProgV (c:Chip) (n page:Int) (p:List UInt8):Chip×Int:=
 if Zlf c n page p then
  if c.Off then (c,7) else
  match c.Blocks[n.toNat]? with
  | none=>(c,1)
  | some b=>if b.Bad=true∨page≠b.Used then (c,9) else
   (⟨c.Pages,c.Size,c.Blocks.set n.toNat ⟨b.Pages.set page.toNat (Zg2 (Zw c) p),b.Used+1,b.Worn,b.Bad⟩,c.Ops+1,if (Zw c).2 then (Zw c).1.Cut else c.Off,c.Faults⟩,
    if (Zw c).2 then (if (Zw c).1.Cut then 7 else 9) else 0)
 else (c,1)
theorem over_eq {xs ys:List UInt8} (h:xs.length=ys.length):over xs ys=ys:=by
 unfold over;rw [h,List.take_length,List.drop_of_length_le (by omega),List.append_nil]
theorem prog_eq {c:Chip} (n page:Int) (p:List UInt8) (hc:ZcA c=true):ZeR c n page p=some (ProgV c n page p):=by
 obtain ⟨h1,h2,h3,h4,h5,h6,h7,h8,h9,h10⟩:=Zcx hc;unfold ZeR ProgV;rw [ZhG hc,Zb,Zb,has_eq,Zb]
 by_cases hok:Zlf c n page p=true
 ·have hok2:=hok;unfold Zlf at hok2;simp only [Bool.and_eq_true,decide_eq_true_eq,ge_iff_le] at hok2;obtain ⟨⟨⟨-,g1⟩,g2⟩,g3,g4,g5,g6⟩:=hok2;obtain ⟨k,rfl⟩:=Int.eq_ofNat_of_zero_le g1;obtain ⟨q,rfl⟩:=Int.eq_ofNat_of_zero_le g3;have hk:k<c.Blocks.length:=by omega
  rw [Zf (by simp [hc];omega),if_pos hok];obtain ⟨b1,b2,b3,b4,b5,b6⟩:=h10 _ (List.getElem_mem hk);cases ho:c.Off with
  | true=>rw [Zs,if_pos rfl,← ho]
  | false=>
   rw [Zo,if_neg (by decide),ZB hk,Zb];rw [show ((k:Int)).toNat=k from rfl,List.getElem?_eq_getElem hk];dsimp only
   by_cases hb:c.Blocks[k].Bad=true∨(q:Int)≠c.Blocks[k].Used
   ·rw [Zi (by simpa using hb),if_pos hb,← ho]
   ·rw [Zf (by simpa using hb),if_neg hb];have hq:q<c.Blocks[k].Pages.length:=by omega
    have hpl:c.Blocks[k].Pages[q].length=p.length:=by have:=b6 _ (List.getElem_mem hq);omega
    rw [strikes_eq (by omega),Zb,Zaa (by omega) (by omega),Zb,Zb,Zaa (by omega) (by omega),Zb,Zb,ZB hq,Zb,Zb,over_eq hpl];have hset:∀ (y:Block),idx (c.Blocks.set k y) (k:Int)=some y:=fun y=>by
     unfold idx;rw [if_pos (by omega)];show (c.Blocks.set k y)[k]?=_;rw [List.getElem?_set_self hk]
    cases hs:(Zw c).2 with
    | false=>
     have hm:Zg2 (Zw c) p=p:=by unfold Zg2;rw [hs];rfl
     rw [Bool.not_false,Zs,Zhz (by simp),Zb];rw [hset,Zb,hm];simp [ho]
    | true=>
     have hm:Zg2 (Zw c) p=p.map (fun x=>x ||| (~~~(Zw c).1.Mask)):=by unfold Zg2;rw [hs];rfl
     rw [Bool.not_true,Zo];refine (Zbh (ZP (fun i=>((i:Int),c.Blocks[k].Pages.set q ((p.take i).map (fun x=>x ||| (~~~(Zw c).1.Mask))++p.drop i))) p.length (e:=c.Blocks[k].Pages.set q (p.map (fun x=>x ||| (~~~(Zw c).1.Mask)))) (by omega) (fun i hi=>?_) ?_ (by simp))).trans ?_
     rotate_right
     ·unfold Zes;rw [hm];cases hcut:(Zw c).1.Cut
      ·rw [Zo,Zb,Zb,Zhz (by simp),Zb];rw [hset,Zb];simp
      ·rw [Zs,Zb,Zb,Zhz (by simp),Zb];rw [hset,Zb];simp
     ·unfold ZdU;dsimp only;have hlt:decide ((i:Int)<c.Size)=true:=by rw [← g5];exact ZeU hi
      have hqi:idx (c.Blocks[k].Pages.set q ((p.take i).map (fun x=>x ||| (~~~(Zw c).1.Mask))++p.drop i)) (q:Int)=some ((p.take i).map (fun x=>x ||| (~~~(Zw c).1.Mask))++p.drop i):=by
       unfold idx;rw [if_pos (by omega)];show (c.Blocks[k].Pages.set q _)[q]?=_;rw [List.getElem?_set_self hq]
      have hyi:idx ((p.take i).map (fun x=>x ||| (~~~(Zw c).1.Mask))++p.drop i) (i:Int)=some p[i]:=by
       unfold idx;rw [if_pos (by omega)];show (_++p.drop i)[i]?=_;rw [List.getElem?_append_right (by simp;omega)];simp [Nat.min_eq_left (Nat.le_of_lt hi),List.getElem?_drop,List.getElem?_eq_getElem hi]
      rw [hlt,Zs,Zhz (by simp),Zb,hqi,Zb,hyi,Zb,Zb,Zb,ZR (by omega),Zb];have hfin:((p.take i).map (fun x=>x ||| (~~~(Zw c).1.Mask))++p.drop i).set (Int.toNat (i:Int)) (p[i] ||| (~~~(Zw c).1.Mask))=(p.take (i+1)).map (fun x=>x ||| (~~~(Zw c).1.Mask))++p.drop (i+1):=by
       show List.set _ i _=_;rw [List.set_append_right _ _ (by simp;omega),List.take_succ_eq_append_getElem hi,List.map_append];simp [Nat.min_eq_left (Nat.le_of_lt hi)];rw [List.drop_eq_getElem_cons hi];rfl
      rw [hfin,show Int.toNat (q:Int)=q from rfl,List.set_set]
     ·unfold ZdU;dsimp only;rw [show decide ((p.length:Int)<c.Size)=false by rw [← g5];exact Zjf,Zo,List.take_length,List.drop_length,List.append_nil]
 ·rw [if_neg hok,Zi (by
   unfold Zlf at hok;rw [hc] at hok;simp only [hc,Bool.true_and,Bool.and_eq_true,decide_eq_true_eq,ge_iff_le,Bool.or_eq_true,Bool.not_eq_true',Bool.and_eq_false_iff,decide_eq_false_iff_not] at hok ⊢
   by_cases x1:0≤n
   ·by_cases x2:n<(c.Blocks.length:Int)
    ·have:=fun h=>hok ⟨⟨x1,x2⟩,h⟩
     omega
    ·left;left;left;left;right;exact x2
   ·left;left;left;left;left;exact x1)]
def hasB (c:Chip) (n:Int):Bool:=(ZcA c&&decide (n≥0))&&decide (n<(c.Blocks.length:Int))
def MarkV (c:Chip) (n:Int):Chip×Int:=
 if hasB c n then
  if c.Off then (c,7) else
  match c.Blocks[n.toNat]? with
  | none=>(c,1)
  | some b=>(⟨c.Pages,c.Size,c.Blocks.set n.toNat ⟨b.Pages,b.Used,b.Worn,true⟩,c.Ops,c.Off,c.Faults⟩,0)
 else (c,1)
theorem mark_eq {c:Chip} (n:Int) (hc:ZcA c=true):Zip c n=some (MarkV c n):=by
 unfold Zip MarkV;rw [ZhG hc,Zb,Zb,has_eq,Zb];show (bif (!(hasB c n)) then _ else _)=_;cases hh:hasB c n with
 | false=>rw [Bool.not_false,Zs,Zb,if_neg (by decide)]
 | true=>
  have hh2:=hh;unfold hasB at hh2;simp only [Bool.and_eq_true,decide_eq_true_eq,ge_iff_le] at hh2;obtain ⟨⟨-,g1⟩,g2⟩:=hh2;obtain ⟨k,rfl⟩:=Int.eq_ofNat_of_zero_le g1;have hk:k<c.Blocks.length:=by omega
  rw [Bool.not_true,Zo,if_pos rfl];cases ho:c.Off with
  | true=>rw [Zs,Zb,if_pos rfl,← ho]
  | false=>
   rw [Zo,if_neg (by decide),ZB hk,Zb,show ((k:Int)).toNat=k from rfl,List.getElem?_eq_getElem hk,Zb,Zb,← ho]
theorem fill_ok {b:List UInt8} (h:b.length≤1000000):Zdq b=some (List.replicate b.length 255):=by
 unfold Zdq;refine (Zbh (ZP (fun i=>((i:Int),List.replicate i (255:UInt8)++b.drop i)) b.length (e:=List.replicate b.length 255) (by omega) (fun i hi=>?_) ?_ (by simp))).trans ?_
 rotate_right
 ·rfl
 ·unfold Zb8;dsimp only;have hyi:idx (List.replicate i (255:UInt8)++b.drop i) (i:Int)=some b[i]:=by
   unfold idx;rw [if_pos (by omega)];show (_++b.drop i)[i]?=_;rw [List.getElem?_append_right (by simp)];simp [List.getElem?_drop,List.getElem?_eq_getElem hi]
  have hfin:(List.replicate i (255:UInt8)++b.drop i).set (Int.toNat (i:Int)) (UInt8.ofNat 255)=List.replicate (i+1) 255++b.drop (i+1):=by
   show List.set _ i _=_;rw [List.set_append_right _ _ (by simp),List.replicate_succ',List.append_assoc,List.length_replicate,Nat.sub_self,List.drop_eq_getElem_cons hi];rfl
  rw [ZeU hi,Zs,hyi,Zb,Zb,ZR (by omega),Zb,hfin]
 ·unfold Zb8;dsimp only;rw [Zjf,Zo,List.drop_length,List.append_nil]
def Zel {α:Type} (f:α→α) (P:List α) (i:Nat):List α:=(P.take i).map f++P.drop i
theorem ZiM {α:Type} (f:α→α) (P:List α):Zel f P 0=P:=by simp [Zel]
theorem Zka {α:Type} (f:α→α) (P:List α):Zel f P P.length=P.map f:=by simp [Zel]
theorem Zic {α:Type} (f:α→α) (P:List α) {i:Nat} (h:i≤P.length):(Zel f P i).length=P.length:=by simp [Zel];omega
theorem Zid {α:Type} (f:α→α) (P:List α) {i:Nat} (h:i<P.length):idx (Zel f P i) (i:Int)=some P[i]:=by
 unfold idx Zel;rw [if_pos (by omega)];show (_++P.drop i)[i]?=_;rw [List.getElem?_append_right (by simp;omega)];simp [Nat.min_eq_left (Nat.le_of_lt h),List.getElem?_drop,List.getElem?_eq_getElem h]
theorem Zg3 {α:Type} (f:α→α) (P:List α) {i:Nat} (h:i<P.length):(Zel f P i).set i (f P[i])=Zel f P (i+1):=by
 unfold Zel;rw [List.set_append_right _ _ (by simp;omega),List.take_succ_eq_append_getElem h,List.map_append];simp [Nat.min_eq_left (Nat.le_of_lt h)];rw [List.drop_eq_getElem_cons h];rfl
def Zhc (s:Fault×Bool) (x:List UInt8):List UInt8:=if s.2 then x.map (fun y=>y ||| s.1.Mask) else List.replicate x.length 255
def Zky (c:Chip) (n:Int):Chip×Int:=
 if hasB c n=true∧c.Ops<1099511627776 then
  match c.Blocks[n.toNat]? with
  | none=>(c,1)
  | some b=>if b.Worn≥1099511627776 then (c,1) else if c.Off then (c,7) else if b.Bad then (c,9) else
   (⟨c.Pages,c.Size,c.Blocks.set n.toNat ⟨b.Pages.map (Zhc (Zw c)),if (Zw c).2 then c.Pages else 0,b.Worn+1,b.Bad⟩,c.Ops+1,if (Zw c).2 then (Zw c).1.Cut else c.Off,c.Faults⟩,
    if (Zw c).2 then (if (Zw c).1.Cut then 7 else 9) else 0)
 else (c,1)
theorem erase_eq {c:Chip} (n:Int) (hc:ZcA c=true):Zhe c n=some (Zky c n):=by
 obtain ⟨h1,h2,h3,h4,h5,h6,h7,h8,h9,h10⟩:=Zcx hc;unfold Zhe Zky;have hhas:ZeE c n=some (hasB c n):=has_eq c n;rw [ZhG hc,Zb,Zb,hhas,Zb]
 by_cases hok:hasB c n=true∧c.Ops<1099511627776
 ·obtain ⟨hh,hops⟩:=hok;rw [if_pos ⟨hh,hops⟩];have hh2:=hh;unfold hasB at hh2;simp only [Bool.and_eq_true,decide_eq_true_eq,ge_iff_le] at hh2;obtain ⟨⟨-,g1⟩,g2⟩:=hh2;obtain ⟨k,rfl⟩:=Int.eq_ofNat_of_zero_le g1;have hk:k<c.Blocks.length:=by omega
  have hd:decide (c.Ops≥(1099511627776:Int))=false:=by simp;omega
  rw [hd,hh,show (!((!true)||false))=true from rfl,ZaL,ZB hk,Zb,show ((k:Int)).toNat=k from rfl,List.getElem?_eq_getElem hk];dsimp only;obtain ⟨b1,b2,b3,b4,b5,b6⟩:=h10 _ (List.getElem_mem hk)
  by_cases hw:c.Blocks[k].Worn≥1099511627776
  ·rw [Zi (by simpa using hw),if_pos hw]
  ·rw [Zf (by simpa using hw),if_neg hw];cases ho:c.Off with
   | true=>rw [Zs,if_pos rfl,← ho]
   | false=>
    rw [Zo,if_neg (by decide),Zb];cases hb:c.Blocks[k].Bad with
    | true=>rw [Zs,if_pos rfl,← ho]
    | false=>
     rw [Zo,if_neg (by decide),strikes_eq (by omega),Zb,Zaa (by omega) (by omega),Zb,Zb,Zaa (by omega) (by omega),Zb,Zb];have hset:∀ (y:Block),idx (c.Blocks.set k y) (k:Int)=some y:=fun y=>by
      unfold idx;rw [if_pos (by omega)];show (c.Blocks.set k y)[k]?=_;rw [List.getElem?_set_self hk]
     have hset2:∀ (y z:Block),idx ((c.Blocks.set k y).set k z) (k:Int)=some z:=fun y z=>by rw [List.set_set];exact hset z
     cases hs:(Zw c).2 with
     | false=>
      have hm:c.Blocks[k].Pages.map (Zhc (Zw c))=c.Blocks[k].Pages.map fun x=>List.replicate x.length 255:=by
       refine List.map_congr_left fun x _=>?_
       unfold Zhc;rw [hs];rfl
      rw [Bool.not_false,Zs,hset,Zb,Zb];refine (Zbh (ZP (fun i=>((i:Int),Zel (fun x:List UInt8=>List.replicate x.length 255) c.Blocks[k].Pages i)) c.Blocks[k].Pages.length (e:=c.Blocks[k].Pages.map fun x=>List.replicate x.length 255) (by omega) (fun i hi=>?_) ?_ (by rw [ZiM];rfl))).trans ?_
      rotate_right
      ·rw [Zhz (by simp),Zb,hset2,Zb,hm];simp
      ·unfold Zfi;dsimp only;rw [show decide ((i:Int)<c.Pages)=true by rw [← b1];exact ZeU hi,Zs,Zhz (Zic _ _ (by omega)),Zb,Zid _ _ hi,Zb,fill_ok (by have:=b6 _ (List.getElem_mem hi);omega),Zb,Zb,ZR (by omega),Zb];exact congrArg (fun z=>some (Sum.inl (((i+1:Nat):Int),z))) (Zg3 (fun x:List UInt8=>List.replicate x.length 255) _ hi)
      ·unfold Zfi;dsimp only;rw [show decide ((c.Blocks[k].Pages.length:Int)<c.Pages)=false by rw [← b1];exact Zjf,Zo,Zka]
     | true=>
      have hm:c.Blocks[k].Pages.map (Zhc (Zw c))=c.Blocks[k].Pages.map fun x=>x.map fun y=>y ||| (Zw c).1.Mask:=by
       refine List.map_congr_left fun x _=>?_
       unfold Zhc;rw [hs];rfl
      rw [Bool.not_true,Zo,hset,Zb,Zb];refine (Zbh (ZP (fun i=>((i:Int),Zel (fun x:List UInt8=>x.map fun y=>y ||| (Zw c).1.Mask) c.Blocks[k].Pages i)) c.Blocks[k].Pages.length (e:=c.Blocks[k].Pages.map fun x=>x.map fun y=>y ||| (Zw c).1.Mask) (by omega) (fun i hi=>?_) ?_ (by rw [ZiM];rfl))).trans ?_
      rotate_right
      ·unfold Zes;cases hcut:(Zw c).1.Cut
       ·rw [Zo,Zb,Zb,Zhz (by simp),Zb,hset2,Zb,hm];simp
       ·rw [Zs,Zb,Zb,Zhz (by simp),Zb,hset2,Zb,hm];simp
      ·unfold Zfh;dsimp only;rw [show decide ((i:Int)<c.Pages)=true by rw [← b1];exact ZeU hi,Zs];have hsz:=b6 _ (List.getElem_mem hi);have hml:=Zic (fun x:List UInt8=>x.map fun y=>y ||| (Zw c).1.Mask) c.Blocks[k].Pages (Nat.le_of_lt hi);refine (Zbh (ZP (fun j=>((j:Int),(Zel (fun x:List UInt8=>x.map fun y=>y ||| (Zw c).1.Mask) c.Blocks[k].Pages i).set i (Zel (fun y=>y ||| (Zw c).1.Mask) c.Blocks[k].Pages[i] j))) c.Blocks[k].Pages[i].length (e:=Zel (fun x:List UInt8=>x.map fun y=>y ||| (Zw c).1.Mask) c.Blocks[k].Pages (i+1)) (by omega) (fun j hj=>?_) ?_ ?_)).trans ?_
       ·unfold Zfg;dsimp only;have hq:idx ((Zel (fun x:List UInt8=>x.map fun y=>y ||| (Zw c).1.Mask) c.Blocks[k].Pages i).set i (Zel (fun y=>y ||| (Zw c).1.Mask) c.Blocks[k].Pages[i] j)) (i:Int)=some (Zel (fun y=>y ||| (Zw c).1.Mask) c.Blocks[k].Pages[i] j):=by
         unfold idx;rw [if_pos (by omega)];show (List.set _ i _)[i]?=_;rw [List.getElem?_set_self (by omega)]
        rw [show decide ((j:Int)<c.Size)=true by rw [← hsz];exact ZeU hj,Zs,Zhz (by rw [List.length_set];exact hml),Zb,hq,Zb,Zid _ _ hj,Zb,Zb,Zb,ZR (by omega),Zb];rw [show Int.toNat (i:Int)=i from rfl,show Int.toNat (j:Int)=j from rfl,List.set_set];exact congrArg (fun z=>some (Sum.inl (((j+1:Nat):Int),(Zel (fun x:List UInt8=>x.map fun y=>y ||| (Zw c).1.Mask) c.Blocks[k].Pages i).set i z))) (Zg3 (fun y=>y ||| (Zw c).1.Mask) _ hj)
       ·unfold Zfg;dsimp only;rw [show decide ((c.Blocks[k].Pages[i].length:Int)<c.Size)=false by rw [← hsz];exact Zjf,Zo,Zka];exact congrArg (fun z=>some (Sum.inr z)) (Zg3 (fun x:List UInt8=>x.map fun y=>y ||| (Zw c).1.Mask) _ hi)
       ·rw [ZiM];have:(Zel (fun x:List UInt8=>x.map fun y=>y ||| (Zw c).1.Mask) c.Blocks[k].Pages i).set i c.Blocks[k].Pages[i]=Zel (fun x:List UInt8=>x.map fun y=>y ||| (Zw c).1.Mask) c.Blocks[k].Pages i:=by
         have h5:=Zid (fun x:List UInt8=>x.map fun y=>y ||| (Zw c).1.Mask) c.Blocks[k].Pages hi;obtain ⟨-,h6⟩:=ZaR h5;obtain ⟨h7,h8⟩:=List.getElem?_eq_some_iff.1 h6;rw [← h8];exact List.set_getElem_self _
        rw [this];rfl
       ·rw [ZR (by omega),Zb]
      ·unfold Zfh;dsimp only;rw [show decide ((c.Blocks[k].Pages.length:Int)<c.Pages)=false by rw [← b1];exact Zjf,Zo,Zka]
 ·rw [if_neg hok];have hf:(!((!(hasB c n))||decide (c.Ops≥(1099511627776:Int))))=false:=by
   cases hh:hasB c n with
   | false=>rfl
   | true=>
    have:c.Ops≥1099511627776:=by
     rcases Int.lt_or_le c.Ops 1099511627776 with h | h
     ·exact absurd ⟨hh,h⟩ hok
     ·exact h
    simp [this]
  rw [hf,Zbd,Zb];have ht:((!(hasB c n))||decide (c.Ops≥(1099511627776:Int)))=true:=by rw [← Bool.not_eq_false'];exact hf
  rw [Zi (by rw [ht];rfl)]
theorem prog_cases {c:Chip} {k:Nat} (hk:k<c.Blocks.length) (page:Int) (p:List UInt8) (hc:ZcA c=true) :
  ((ProgV c k page p).1=c∧(ProgV c k page p).2≠0)∨
  (c.Blocks[k].Bad=false∧0≤page∧page<c.Pages∧(p.length:Int)=c.Size∧page=c.Blocks[k].Used∧c.Ops<1099511627776∧
   ProgV c k page p=(⟨c.Pages,c.Size,c.Blocks.set k ⟨c.Blocks[k].Pages.set page.toNat (Zg2 (Zw c) p),c.Blocks[k].Used+1,c.Blocks[k].Worn,c.Blocks[k].Bad⟩,c.Ops+1,if (Zw c).2 then (Zw c).1.Cut else c.Off,c.Faults⟩,
    if (Zw c).2 then (if (Zw c).1.Cut then 7 else 9) else 0)):=by
 unfold ProgV
 by_cases hok:Zlf c k page p=true
 ·rw [if_pos hok];unfold Zlf at hok;simp only [Bool.and_eq_true,decide_eq_true_eq,ge_iff_le] at hok;obtain ⟨⟨⟨-,g1⟩,g2⟩,g3,g4,g5,g6⟩:=hok;cases ho:c.Off with
  | true=>left;rw [if_pos rfl];exact ⟨rfl,by simp⟩
  | false=>
   rw [if_neg (by decide),show ((k:Int)).toNat=k from rfl,List.getElem?_eq_getElem hk];dsimp only
   by_cases hb:c.Blocks[k].Bad=true∨page≠c.Blocks[k].Used
   ·left;rw [if_pos hb];exact ⟨rfl,by simp⟩
   ·right
    rw [if_neg hb];simp only [not_or,Bool.not_eq_true,ne_eq,Decidable.not_not] at hb;exact ⟨hb.1,g3,g4,g5,hb.2,g6,rfl⟩
 ·left;rw [if_neg hok];exact ⟨rfl,by simp⟩
theorem erase_cases {c:Chip} {k:Nat} (hk:k<c.Blocks.length) (hc:ZcA c=true) :
  ((Zky c k).1=c∧(Zky c k).2≠0)∨
  (c.Blocks[k].Bad=false∧c.Blocks[k].Worn<1099511627776∧c.Ops<1099511627776∧
   Zky c k=(⟨c.Pages,c.Size,c.Blocks.set k ⟨c.Blocks[k].Pages.map (Zhc (Zw c)),if (Zw c).2 then c.Pages else 0,c.Blocks[k].Worn+1,c.Blocks[k].Bad⟩,c.Ops+1,if (Zw c).2 then (Zw c).1.Cut else c.Off,c.Faults⟩,
    if (Zw c).2 then (if (Zw c).1.Cut then 7 else 9) else 0)):=by
 unfold Zky
 by_cases hok:hasB c k=true∧c.Ops<1099511627776
 ·rw [if_pos hok,show ((k:Int)).toNat=k from rfl,List.getElem?_eq_getElem hk];dsimp only
  by_cases hw:c.Blocks[k].Worn≥1099511627776
  ·left;rw [if_pos hw];exact ⟨rfl,by simp⟩
  ·rw [if_neg hw];cases ho:c.Off with
   | true=>left;rw [if_pos rfl];exact ⟨rfl,by simp⟩
   | false=>
    rw [if_neg (by decide)];cases hb:c.Blocks[k].Bad with
    | true=>left;rw [if_pos rfl];exact ⟨rfl,by simp⟩
    | false=>right;rw [if_neg (by decide)];exact ⟨rfl,by omega,hok.2,rfl⟩
 ·left;rw [if_neg hok];exact ⟨rfl,by simp⟩
def Zha {α:Type} (x y:α) (n i:Nat):List α:=List.replicate i x++List.replicate (n-i) y
theorem Zmw {α:Type} (x y:α) (n:Nat):Zha x y n 0=List.replicate n y:=by simp [Zha]
theorem fillTo_all {α:Type} (x y:α) (n:Nat):Zha x y n n=List.replicate n x:=by simp [Zha]
theorem fillTo_length {α:Type} (x y:α) {n i:Nat} (h:i≤n):(Zha x y n i).length=n:=by simp [Zha];omega
theorem ZkT {α:Type} (x y:α) {n i:Nat} (h:i<n):idx (Zha x y n i) (i:Int)=some y:=by
 have hl:=fillTo_length x y (Nat.le_of_lt h);rw [ZB (by omega)];simp [Zha,List.getElem_append]
theorem fillTo_set {α:Type} (x y:α) {n i:Nat} (h:i<n):(Zha x y n i).set i x=Zha x y n (i+1):=by
 unfold Zha;rw [List.set_append_right _ _ (by simp),List.replicate_succ',List.append_assoc,List.length_replicate,Nat.sub_self];congr 1;rw [show n-i=(n-(i+1))+1 by omega,List.replicate_succ,List.set_cons_zero];rfl
def Zfd (p s:Nat):Block:=⟨List.replicate p (List.replicate s 255),0,0,false⟩
def Zas (b p s:Nat):Chip:=⟨p,s,List.replicate b (Zfd p s),0,false,[]⟩
theorem new_eq {b p s:Nat} (h:ZhY b p s=true):ZhL b p s=some (Zas b p s,0):=by
 have hs:=h;unfold ZhY at hs;simp only [Bool.and_eq_true,decide_eq_true_eq,ge_iff_le] at hs;obtain ⟨⟨⟨⟨⟨h1,h2⟩,h3⟩,h4⟩,h5⟩,h6⟩:=hs;unfold ZhL Zfx;rw [Zb];show (bif (!(ZhY b p s)) then _ else _)=_;rw [h,Bool.not_true,Zo,Zav (by omega) (by omega) (by omega),Zb,Zb,Zb];refine (Zbh (ZP (fun i=>((i:Int),Zha (Zfd p s) Dat.z b i)) b (e:=List.replicate b (Zfd p s)) (by omega) (fun i hi=>?_) ?_ ?_)).trans ?_
 rotate_right
 ·rfl
 ·unfold ZhK;dsimp only;rw [ZeU hi,Zs,Zav (by omega) (by omega) (by omega),Zb,ZkT _ _ hi,Zb,Zb];refine (Zbh (ZP (fun j=>((j:Int),Zha (List.replicate s (255:UInt8)) (Dat.z:List UInt8) p j)) p (e:=List.replicate p (List.replicate s 255)) (by omega) (fun j hj=>?_) ?_ ?_)).trans ?_
  ·unfold ZhJ;dsimp only;rw [ZeU hj,Zs,ZkT _ _ hi,Zb,Zav (by omega) (by omega) (by omega),Zb,ZkT _ _ hj,Zb,Zb,Zb,Zb,fill_ok (by simp;omega),Zb,ZR (by omega),Zb];rw [show Int.toNat (j:Int)=j from rfl,show Int.toNat (s:Int)=s from rfl,List.length_replicate,fillTo_set _ _ hj]
  ·unfold ZhJ;dsimp only;rw [Zjf,Zo,fillTo_all]
  ·rw [Zmw];rfl
  ·rw [ZR (by omega),Zb];exact congrArg (fun z=>some (Sum.inl (((i+1:Nat):Int),z))) (fillTo_set (Zfd p s) Dat.z hi)
 ·unfold ZhK;dsimp only;rw [Zjf,Zo,fillTo_all]
 ·rw [Zmw];rfl
theorem new_right {b p s:Nat} (h:ZhY b p s=true):ZcA (Zas b p s)=true:=by
 unfold ZcA Zas;dsimp only;rw [List.length_replicate,h];simp [Zjj,Zfd]
def onV (c:Chip) (f:List Fault):Chip×Int:=if f.length≤64 then (⟨c.Pages,c.Size,c.Blocks,c.Ops,false,f⟩,0) else (c,1)
theorem on_eq {c:Chip} {f:List Fault} (h:ZcA c=true) (hf:f.length≤1000000):ZmE c f=some (onV c f):=by
 unfold ZmE onV ZH;rw [ZhG h,Zb,ZhI,Zb,h]
 by_cases h1:f.length≤64
 ·rw [Zf (by simp;omega),Zb,Zav (by omega) (by omega) (by omega),Zb,Zb,Zb,if_pos h1]
 ·rw [Zi (by simp;omega),if_neg h1]
theorem ZmH {c:Chip} (h1:1≤c.Blocks.length) (h2:c.Blocks.length≤32) (h3:1≤c.Pages) (h4:c.Pages≤16) (h5:1≤c.Size) (h6:c.Size≤256) (h7:0≤c.Ops) (h8:c.Ops≤1099511627776) (h9:c.Faults.length≤64)
  (h10:∀ b∈c.Blocks,(b.Pages.length:Int)=c.Pages∧0≤b.Used∧b.Used≤c.Pages∧0≤b.Worn∧b.Worn≤1099511627776∧∀ p∈b.Pages,(p.length:Int)=c.Size):ZcA c=true:=by
 unfold ZcA ZhY;simp only [Bool.and_eq_true,decide_eq_true_eq,ge_iff_le,List.all_eq_true];refine ⟨⟨⟨⟨⟨⟨⟨by omega,by omega⟩,h3⟩,h4⟩,h5⟩,h6⟩,h7,h8,h9⟩,fun b hb=>?_⟩;obtain ⟨g1,g2,g3,g4,g5,g6⟩:=h10 b hb;unfold Zjj;simp only [Bool.and_eq_true,Bool.not_eq_true',Bool.or_eq_false_iff,decide_eq_false_iff_not,List.all_eq_true,decide_eq_true_eq];exact ⟨⟨⟨⟨⟨by omega,by omega⟩,by omega⟩,by omega⟩,by omega⟩,g6⟩
theorem Zms {α:Type} {l:List α} {k:Nat} {x y:α} (h:x∈l.set k y):x∈l∨x=y:=(List.mem_or_eq_of_mem_set h)
theorem mask_length (s:Fault×Bool) (p:List UInt8):(Zg2 s p).length=p.length:=by unfold Zg2;split <;> simp
theorem eraseP_length (s:Fault×Bool) (p:List UInt8):(Zhc s p).length=p.length:=by unfold Zhc;split <;> simp
theorem prog_right {c:Chip} {k:Nat} (hk:k<c.Blocks.length) (page:Int) (p:List UInt8) (hc:ZcA c=true):ZcA (ProgV c k page p).1=true:=by
 obtain ⟨h1,h2,h3,h4,h5,h6,h7,h8,h9,h10⟩:=Zcx hc;rcases prog_cases hk page p hc with ⟨h,-⟩ | ⟨g1,g2,g3,g4,g5,g6,h⟩
 ·rw [h];exact hc
 ·rw [h];refine ZmH (by simpa using h1) (by simpa using h2) h3 h4 h5 h6 (by dsimp only;omega) (by dsimp only;omega) h9 fun b hb=>?_
  rcases Zms hb with hb | rfl
  ·exact h10 b hb
  ·obtain ⟨b1,b2,b3,b4,b5,b6⟩:=h10 _ (List.getElem_mem hk);refine ⟨by simpa using b1,by dsimp only;omega,by dsimp only;omega,b4,b5,fun q hq=>?_⟩;rcases Zms hq with hq | rfl
   ·exact b6 q hq
   ·rw [mask_length];exact g4
theorem erase_right {c:Chip} {k:Nat} (hk:k<c.Blocks.length) (hc:ZcA c=true):ZcA (Zky c k).1=true:=by
 obtain ⟨h1,h2,h3,h4,h5,h6,h7,h8,h9,h10⟩:=Zcx hc;rcases erase_cases hk hc with ⟨h,-⟩ | ⟨g1,g2,g3,h⟩
 ·rw [h];exact hc
 ·rw [h];refine ZmH (by simpa using h1) (by simpa using h2) h3 h4 h5 h6 (by dsimp only;omega) (by dsimp only;omega) h9 fun b hb=>?_
  rcases Zms hb with hb | rfl
  ·exact h10 b hb
  ·obtain ⟨b1,b2,b3,b4,b5,b6⟩:=h10 _ (List.getElem_mem hk);refine ⟨by simpa using b1,by dsimp only;split <;> omega,by dsimp only;split <;> omega,by dsimp only;omega,by dsimp only;omega,fun q hq=>?_⟩;obtain ⟨z,hz,rfl⟩:=List.mem_map.1 hq;rw [eraseP_length];exact b6 z hz
end Go.Proofs.YtkmojgfenlgchaaGreatDoor.Tr
namespace Go.Proofs.YtkmojgfenlgchaaGreatDoor.Tr
open Go
def ZeH {α:Type} (x:Option α) (P:α→Prop):Prop:=∃ v,x=some v∧P v
theorem ZeH.s {α:Type} {v:α} {P:α→Prop} (h:P v):ZeH (some v) P:=⟨v,rfl,h⟩
theorem ZeH.b {α β:Type} {x:Option α} {f:α→Option β} {P:α→Prop} {Q:β→Prop} (h:ZeH x P) (k:∀ v,P v→ZeH (f v) Q):ZeH (x.bind f) Q:=by
 obtain ⟨v,e,hv⟩:=h;obtain ⟨u,e2,hu⟩:=k v hv;exact ⟨u,by rw [e,Zb,e2],hu⟩
theorem ZeH.m {α:Type} {x:Option α} {P Q:α→Prop} (h:ZeH x P) (k:∀ v,P v→Q v):ZeH x Q:=let ⟨v,e,hv⟩:=h;⟨v,e,k v hv⟩
theorem Zgf {α:Type} {x:Option α} {v:α} (h:ZeH x (fun u=>u=v)):x=some v:=by obtain ⟨u,e,rfl⟩:=h;exact e
theorem ZeH.c {α:Type} {b:Bool} {x y:Option α} {P:α→Prop} (h1:b=true→ZeH x P) (h2:b=false→ZeH y P):ZeH (bif b then x else y) P:=by
 cases b with
 | true=>rw [Zs];exact h1 rfl
 | false=>rw [Zo];exact h2 rfl
theorem ZeH.g {α:Type} [Inhabited α] {c:Bool} {x:Option α} {P:α→Prop} (h:c=true→ZeH x P):ZeH (gb c x) (fun v=>c=true→P v):=by
 cases c with
 | true=>rw [ZaL];obtain ⟨v,e,hv⟩:=h rfl;exact ⟨v,e,fun _=>hv⟩
 | false=>rw [Zbd];exact ⟨_,rfl,fun h=>by cases h⟩
theorem ZeH.loop {σ ε:Type} {f:σ→Option (σ⊕ε)} (I:σ→Prop) (μ:σ→Nat) {R:ε→Prop} (h:∀ s,I s→ZeH (f s) (fun x=>(∃ s',x=.inl s'∧I s'∧μ s' < μ s)∨∃ e,x=.inr e∧R e)) {s:σ} (hs:I s) (hm:μ s<18446744073709551616):ZeH (ZM f s) R:=by
 obtain ⟨e,h1,h2⟩:=Zie (f:=f) I μ R (fun s hs=>by
  obtain ⟨x,e1,h1⟩:=h s hs;rcases h1 with ⟨s',rfl,h2,h3⟩ | ⟨e,rfl,h2⟩
  ·exact .inl ⟨s',e1,h2,h3⟩
  ·exact .inr ⟨e,e1,h2⟩) hs hm
 exact ⟨e,h1,h2⟩
theorem ZeH.l {σ ε:Type} {I:σ→Prop} {μ:σ→Nat} {R:ε→Prop} {m:Nat} {s':σ} (h:I s') (hm:μ s' < m):ZeH (some (.inl s':σ⊕ε)) (fun x=>(∃ s',x=.inl s'∧I s'∧μ s' < m)∨∃ e,x=.inr e∧R e):=⟨_,rfl,.inl ⟨s',rfl,h,hm⟩⟩
theorem Za5 {σ ε:Type} {I:σ→Prop} {μ:σ→Nat} {R:ε→Prop} {m:Nat} {e:ε} (h:R e):ZeH (some (.inr e:σ⊕ε)) (fun x=>(∃ s',x=.inl s'∧I s'∧μ s' < m)∨∃ e,x=.inr e∧R e):=⟨_,rfl,.inr ⟨e,rfl,h⟩⟩
end Go.Proofs.YtkmojgfenlgchaaGreatDoor.Tr
namespace Go.Proofs.YtkmojgfenlgchaaGreatDoor.Tr
open Go
def Zcz:Int:=1099511627776
def blk0:Block:=⟨[],0,0,true⟩
def blk (c:Chip) (k:Nat):Block:=c.Blocks.getD k blk0
def pgb (b:Block) (j:Nat):List UInt8:=b.Pages.getD j []
def pg (c:Chip) (k j:Nat):List UInt8:=pgb (blk c k) j
def Zcs (S:Nat):List UInt8:=List.replicate S 255
theorem ZcS {α:Type} {l:List α} {k:Nat} {d:α} (h:k<l.length):l.getD k d=l[k]:=by
 rw [List.getD_eq_getElem?_getD,List.getElem?_eq_getElem h];rfl
theorem Zce {α:Type} {l:List α} {k i:Nat} {x d:α} (h:k<l.length):(l.set k x).getD i d=if i=k then x else l.getD i d:=by
 rw [List.getD_eq_getElem?_getD,List.getElem?_set]
 by_cases e:k=i
 ·subst e;simp [h]
 ·rw [if_neg e,if_neg (Ne.symm e),List.getD_eq_getElem?_getD]
theorem ZcH {α:Type} {l:List α} {k:Nat} {d:α} {z:Int} (hz:z=k) (h:k<l.length):idx l z=some (l.getD k d):=by
 subst hz;rw [ZB h,ZcS h]
structure CI (P nB S:Nat) (c:Chip):Prop where
 right:ZcA c=true
 pgs:c.Pages=P
 siz:c.Size=S
 len:c.Blocks.length=nB
 blank:∀ k,k<nB→∀ j:Nat,(blk c k).Used≤((j:Nat):Int)→j<P→pg c k j=Zcs S
 worn:∀ k,k<nB→(blk c k).Worn≤c.Ops
 mask:∀ f∈c.Faults,f.Mask=0∨f.Mask=255
theorem CI.blkAt {P nB S:Nat} {c:Chip} (h:CI P nB S c) {k:Nat} (hk:k<nB):∃ hl:k<c.Blocks.length,blk c k=c.Blocks[k]:=by
 have hl:k<c.Blocks.length:=by rw [h.len];exact hk
 exact ⟨hl,ZcS hl⟩
theorem CI.blkR {P nB S:Nat} {c:Chip} (h:CI P nB S c) {k:Nat} (hk:k<nB):(blk c k).Pages.length=P∧0≤(blk c k).Used∧(blk c k).Used≤P∧0≤(blk c k).Worn∧∀ p∈(blk c k).Pages,p.length=S:=by
 obtain ⟨hl,e⟩:=h.blkAt hk;obtain ⟨g1,g2,g3,g4,g5,g6⟩:=(Zcx h.right).2.2.2.2.2.2.2.2.2 _ (List.getElem_mem hl);rw [e];have:=h.pgs;have:=h.siz;refine ⟨by omega,g2,by omega,g4,fun p hp=>?_⟩;have:=g6 p hp;omega
theorem CI.ops {P nB S:Nat} {c:Chip} (h:CI P nB S c):0≤c.Ops∧c.Ops≤Zcz:=by
 have:=Zcx h.right;exact ⟨this.2.2.2.2.2.2.1,this.2.2.2.2.2.2.2.1⟩
theorem CI.nat {P nB S:Nat} {c:Chip} (h:CI P nB S c):1≤P∧P≤16∧nB≤32∧1≤S∧S≤256∧c.Faults.length≤64:=by
 have g:=Zcx h.right;have:=h.pgs;have:=h.siz;have:=h.len;omega
theorem CI.pgl {P nB S:Nat} {c:Chip} (h:CI P nB S c) {k j:Nat} (hk:k<nB) (hj:j<P):(pg c k j).length=S:=by
 obtain ⟨g1,-,-,-,g⟩:=h.blkR hk;unfold pg pgb;rw [ZcS (by omega)];exact g _ (List.getElem_mem _)
theorem CI.idxB {P nB S:Nat} {c:Chip} (h:CI P nB S c) {k:Nat} {z:Int} (hz:z=k) (hk:k<nB):idx c.Blocks z=some (blk c k):=ZcH hz (by rw [h.len];exact hk)
theorem CI.idxP {P nB S:Nat} {c:Chip} (h:CI P nB S c) {k j:Nat} {z:Int} (hz:z=j) (hk:k<nB) (hj:j<P):idx (blk c k).Pages z=some (pg c k j):=ZcH hz (by rw [(h.blkR hk).1];exact hj)
def ZkY (c:Chip) (k:Nat) (b:Block) (e:Int):Chip:=⟨c.Pages,c.Size,c.Blocks.set k b,c.Ops+1,decide (e=7),c.Faults⟩
def wch (w:flash_writer) (c:Chip):flash_writer:=⟨⟨c,w.Vol.At,w.Vol.Gen,w.Vol.Last⟩,w.beyond⟩
theorem wch_wch (w:flash_writer) (c d:Chip):wch (wch w c) d=wch w d:=rfl
def Prog1 (S:Nat) (c:Chip) (k:Nat) (p:List UInt8) (c':Chip) (e:Int):Prop:=
 ∃ q,(q=p∨q=Zcs S)∧(e=0→q=p)∧(e=0∨e=7∨e=9)∧(c.Faults=[]→e=0)∧
  c'=ZkY c k ⟨(blk c k).Pages.set (blk c k).Used.toNat q,(blk c k).Used+1,(blk c k).Worn,decide (e=9)⟩ e
def Erase1 (P S:Nat) (c:Chip) (k:Nat) (c':Chip) (e:Int):Prop:=
 ∃ keep:Bool,(e=0→keep=false)∧(e=0∨e=7∨e=9)∧(c.Faults=[]→e=0)∧
  c'=ZkY c k ⟨if keep then (blk c k).Pages else List.replicate P (Zcs S),if e=0 then 0 else P,(blk c k).Worn+1,decide (e=9)⟩ e
theorem Zmb {c:Chip} (h:∀ f∈c.Faults,f.Mask=0∨f.Mask=255):(Zw c).1.Mask=0∨(Zw c).1.Mask=255:=by
 unfold Zw
 split
 ·rename_i f e;exact h f (List.mem_of_find?_eq_some e)
 ·exact .inl rfl
theorem Zma {c:Chip} (h:c.Faults=[]):(Zw c).2=false:=by
 unfold Zw;rw [h];rfl
theorem or_255 (x:UInt8):x ||| 255=255:=by
 apply UInt8.toBitVec_inj.1;rw [UInt8.toBitVec_or];exact BitVec.or_allOnes
theorem map_const {α β:Type} {f:α→β} {y:β} {l:List α} (h:∀ x,f x=y):l.map f=List.replicate l.length y:=by
 rw [show f=fun _=>y from funext h,List.map_const']
theorem maskOf_two {c:Chip} {S:Nat} {p:List UInt8} (h:∀ f∈c.Faults,f.Mask=0∨f.Mask=255) (hp:p.length=S):(Zg2 (Zw c) p=p∨Zg2 (Zw c) p=Zcs S)∧((Zw c).2=false→Zg2 (Zw c) p=p):=by
 unfold Zg2;refine ⟨?_,fun e=>by rw [e];rfl⟩
 split
 ·rcases Zmb h with e | e
  ·rw [e];refine .inr ?_;rw [show (fun x:UInt8=>x ||| ~~~0)=fun _=>(255:UInt8) from funext fun x=>or_255 x,List.map_const',hp];rfl
  ·rw [e];refine .inl ?_;have:(fun x:UInt8=>x ||| ~~~255)=id:=funext fun x=>by
    show x ||| 0=x;simp
   rw [this,List.map_id]
 ·exact .inl rfl
theorem erase_pages {c:Chip} {P S:Nat} {l:List (List UInt8)} (h:∀ f∈c.Faults,f.Mask=0∨f.Mask=255) (hl:l.length=P) (hp:∀ p∈l,p.length=S) :
  ∃ keep:Bool,l.map (Zhc (Zw c))=(if keep then l else List.replicate P (Zcs S))∧((Zw c).2=false→keep=false):=by
 have hb:∀ g:List UInt8→List UInt8,(∀ p∈l,g p=Zcs S)→l.map g=List.replicate P (Zcs S):=fun g hg=>by
  rw [List.eq_replicate_iff];refine ⟨by simp [hl],fun b hb=>?_⟩;obtain ⟨p,hp,rfl⟩:=List.mem_map.1 hb;exact hg p hp
 by_cases e:(Zw c).2=true
 ·rcases Zmb h with g | g
  ·refine ⟨true,?_,fun x=>by rw [e] at x;cases x⟩;rw [if_pos rfl]
   conv=>rhs;rw [← List.map_id l]
   refine List.map_congr_left fun p _=>?_
   unfold Zhc;rw [if_pos e,g];have:(fun x:UInt8=>x ||| 0)=id:=funext fun x=>by simp
   rw [this,List.map_id];rfl
  ·refine ⟨false,?_,fun _=>rfl⟩;rw [if_neg (by decide)];refine hb _ fun p hp'=>?_
   unfold Zhc;rw [if_pos e,g,map_const (y:=255) fun x=>or_255 x,hp p hp'];rfl
 ·refine ⟨false,?_,fun _=>rfl⟩;rw [if_neg (by decide)];refine hb _ fun p hp'=>?_
  unfold Zhc;rw [if_neg e,hp p hp'];rfl
theorem mark_get {w:flash_writer} {k:Nat} {e:Int} (hr:ZcA w.Vol.Chip=true) (hk:k<w.Vol.Chip.Blocks.length) (ho:w.Vol.Chip.Off=false) :
  Zah w k e=some (if e=9 then wch w ⟨w.Vol.Chip.Pages,w.Vol.Chip.Size,w.Vol.Chip.Blocks.set k ⟨w.Vol.Chip.Blocks[k].Pages,w.Vol.Chip.Blocks[k].Used,w.Vol.Chip.Blocks[k].Worn,true⟩,w.Vol.Chip.Ops,w.Vol.Chip.Off,w.Vol.Chip.Faults⟩ else w):=by
 unfold Zah
 by_cases h:e=9
 ·rw [Zi (by simp [h]),mark_eq _ hr,Zb,if_pos h];have h1:hasB w.Vol.Chip (k:Int)=true:=by unfold hasB;rw [hr];simp [hk]
  have:MarkV w.Vol.Chip (k:Int)=(⟨w.Vol.Chip.Pages,w.Vol.Chip.Size,w.Vol.Chip.Blocks.set k ⟨w.Vol.Chip.Blocks[k].Pages,w.Vol.Chip.Blocks[k].Used,w.Vol.Chip.Blocks[k].Worn,true⟩,w.Vol.Chip.Ops,w.Vol.Chip.Off,w.Vol.Chip.Faults⟩,0):=by
   unfold MarkV;rw [if_pos h1,ho,if_neg (by decide),Int.toNat_natCast,List.getElem?_eq_getElem hk]
  rw [this];rfl
 ·rw [Zf (by simp [h]),if_neg h]
theorem mark9 {c:Chip} {l:List Int} {g:UInt64} {n:Int} {b:Bool} {k:Nat} (hr:ZcA c=true) (hk:k<c.Blocks.length) (ho:c.Off=false) :
  Zah ⟨⟨c,l,g,n⟩,b⟩ k 9=some ⟨⟨⟨c.Pages,c.Size,c.Blocks.set k ⟨c.Blocks[k].Pages,c.Blocks[k].Used,c.Blocks[k].Worn,true⟩,c.Ops,c.Off,c.Faults⟩,l,g,n⟩,b⟩:=by
 rw [mark_get (w:=⟨⟨c,l,g,n⟩,b⟩) hr hk ho,if_pos rfl];rfl
theorem program_get {w:flash_writer} {k:Nat} {z:Int} {p:List UInt8} {P nB S:Nat} (hz:z=k) (hc:CI P nB S w.Vol.Chip) (ho:w.Vol.Chip.Off=false) (hk:k<nB) (hb:(blk w.Vol.Chip k).Bad=false) (hu:(blk w.Vol.Chip k).Used<P)
  (hp:p.length=S) (hops:w.Vol.Chip.Ops<Zcz):ZeH (ZK w z p) (fun r=>∃ c' e,r=(e,wch w c')∧Prog1 S w.Vol.Chip k p c' e):=by
 subst hz;obtain ⟨hl,he⟩:=hc.blkAt hk;obtain ⟨b1,b2,b3,b4,b5⟩:=hc.blkR hk;unfold ZK;rw [hc.idxB rfl hk,Zb,prog_eq _ _ _ hc.right,Zb,Zb];have hP:ProgV w.Vol.Chip (k:Int) (blk w.Vol.Chip k).Used p=(⟨w.Vol.Chip.Pages,w.Vol.Chip.Size,w.Vol.Chip.Blocks.set k ⟨(blk w.Vol.Chip k).Pages.set (blk w.Vol.Chip k).Used.toNat (Zg2 (Zw w.Vol.Chip) p),(blk w.Vol.Chip k).Used+1,(blk w.Vol.Chip k).Worn,(blk w.Vol.Chip k).Bad⟩,w.Vol.Chip.Ops+1,
   if (Zw w.Vol.Chip).2 then (Zw w.Vol.Chip).1.Cut else w.Vol.Chip.Off,w.Vol.Chip.Faults⟩,if (Zw w.Vol.Chip).2 then (if (Zw w.Vol.Chip).1.Cut then 7 else 9) else 0):=by
  unfold ProgV;have h1:Zlf w.Vol.Chip (k:Int) (blk w.Vol.Chip k).Used p=true:=by
   unfold Zlf;have:=hc.pgs;have:=hc.siz;unfold Zcz at hops;simp only [hc.right,Bool.true_and,Bool.and_eq_true,decide_eq_true_eq];refine ⟨⟨by omega,by rw [hc.len];omega⟩,by omega,by omega,by omega,by omega⟩
  rw [if_pos h1,ho,if_neg (by decide),Int.toNat_natCast,List.getElem?_eq_getElem hl,he];rw [he] at hb;show (if _ then _ else _)=_;rw [if_neg (by rw [hb];simp)]
 have hm:=maskOf_two (c:=w.Vol.Chip) hc.mask hp;have hr':=prog_right (k:=k) hl (blk w.Vol.Chip k).Used p hc.right;have hn:=Zma (c:=w.Vol.Chip);rw [hP] at hr' ⊢;clear hP;revert hm hr' hn;generalize Zw w.Vol.Chip=s;obtain ⟨⟨op,fl,cut,mask⟩,hit⟩:=s;intro hm hr' hn;cases hit
 ·simp only [Bool.false_eq_true,if_false] at hm hr' hn ⊢;unfold Zah;rw [Zf (by decide),Zb];refine ZeH.s ⟨_,0,rfl,_,hm.1,fun x=>hm.2 trivial,by omega,fun x=>rfl,?_⟩;unfold ZkY;simp [hb,ho]
 ·cases cut
  ·simp only [Bool.false_eq_true,if_false,if_true] at hm hr' hn ⊢;rw [mark9 (k:=k) hr' (by show k<(List.set _ _ _).length;rw [List.length_set];exact hl) rfl,Zb];refine ZeH.s ⟨_,9,rfl,_,hm.1,fun x=>by omega,by omega,fun x=>by simpa using hn x,?_⟩;unfold ZkY;simp [List.set_set]
  ·simp only [Bool.false_eq_true,if_false,if_true] at hm hr' hn ⊢;unfold Zah;rw [Zf (by decide),Zb];refine ZeH.s ⟨_,7,rfl,_,hm.1,fun x=>by omega,by omega,fun x=>by simpa using hn x,?_⟩;unfold ZkY;simp [hb]
theorem erase_get {w:flash_writer} {k:Nat} {z:Int} {P nB S:Nat} (hz:z=k) (hc:CI P nB S w.Vol.Chip) (ho:w.Vol.Chip.Off=false) (hk:k<nB) (hb:(blk w.Vol.Chip k).Bad=false) (hops:w.Vol.Chip.Ops<Zcz) :
  ZeH (ZaI w z) (fun r=>∃ c' e,r=(e,wch w c')∧Erase1 P S w.Vol.Chip k c' e):=by
 subst hz;obtain ⟨hl,he⟩:=hc.blkAt hk;obtain ⟨b1,b2,b3,b4,b5⟩:=hc.blkR hk;have hw:=hc.worn k hk;unfold ZaI;rw [erase_eq _ hc.right,Zb,Zb];have hP:Zky w.Vol.Chip (k:Int)=(⟨w.Vol.Chip.Pages,w.Vol.Chip.Size,w.Vol.Chip.Blocks.set k ⟨(blk w.Vol.Chip k).Pages.map (Zhc (Zw w.Vol.Chip)),if (Zw w.Vol.Chip).2 then w.Vol.Chip.Pages else 0,(blk w.Vol.Chip k).Worn+1,(blk w.Vol.Chip k).Bad⟩,w.Vol.Chip.Ops+1,
   if (Zw w.Vol.Chip).2 then (Zw w.Vol.Chip).1.Cut else w.Vol.Chip.Off,w.Vol.Chip.Faults⟩,if (Zw w.Vol.Chip).2 then (if (Zw w.Vol.Chip).1.Cut then 7 else 9) else 0):=by
  unfold Zky;unfold Zcz at hops;have h1:hasB w.Vol.Chip (k:Int)=true:=by unfold hasB;rw [hc.right];simp [hl]
  rw [if_pos ⟨h1,hops⟩,Int.toNat_natCast,List.getElem?_eq_getElem hl];rw [he] at hb hw;show (if _ then _ else _)=_;rw [if_neg (by omega),ho,if_neg (by decide),he,hb,if_neg (by decide)]
 obtain ⟨keep,hm,hm2⟩:=erase_pages (c:=w.Vol.Chip) hc.mask b1 b5;have hr':=erase_right (k:=k) hl hc.right;have hn:=Zma (c:=w.Vol.Chip);rw [hP] at hr' ⊢;have hpg:=hc.pgs;clear hP;revert hm hm2 hr' hn;generalize Zw w.Vol.Chip=s;obtain ⟨⟨op,fl,cut,mask⟩,hit⟩:=s;intro hm hm2 hr' hn;cases hit
 ·simp only [Bool.false_eq_true,if_false] at hm hr' hn ⊢;unfold Zah;rw [Zf (by decide),Zb];refine ZeH.s ⟨_,0,rfl,keep,fun x=>hm2 rfl,by omega,fun x=>rfl,?_⟩;unfold ZkY;simp [hb,ho,hm]
 ·cases cut
  ·simp only [Bool.false_eq_true,if_false,if_true] at hm hr' hn ⊢;rw [mark9 (k:=k) hr' (by show k<(List.set _ _ _).length;rw [List.length_set];exact hl) rfl,Zb];refine ZeH.s ⟨_,9,rfl,keep,fun x=>by omega,by omega,fun x=>by simpa using hn x,?_⟩;unfold ZkY;simp [List.set_set,hm,hpg]
  ·simp only [Bool.false_eq_true,if_false,if_true] at hm hr' hn ⊢;unfold Zah;rw [Zf (by decide),Zb];refine ZeH.s ⟨_,7,rfl,keep,fun x=>by omega,by omega,fun x=>by simpa using hn x,?_⟩;unfold ZkY;simp [hb,hm,hpg]
end Go.Proofs.YtkmojgfenlgchaaGreatDoor.Tr
namespace Go.Proofs.YtkmojgfenlgchaaGreatDoor.Tr
open Go
theorem ZcB {c:Chip} {k i:Nat} {b:Block} {e:Int} (h:k<c.Blocks.length):blk (ZkY c k b e) i=if i=k then b else blk c i:=Zce h
theorem CI.chSet {P nB S:Nat} {c:Chip} (hc:CI P nB S c) {k:Nat} (hk:k<nB) (ho:c.Ops<Zcz) {b:Block} (e:Int) (h1:b.Pages.length=P) (h2:∀ p∈b.Pages,p.length=S) (h3:0≤b.Used∧b.Used≤P)
  (h4:0≤b.Worn∧b.Worn≤c.Ops+1) (h5:∀ j:Nat,b.Used≤(j:Int)→j<P→pgb b j=Zcs S):CI P nB S (ZkY c k b e):=by
 have hl:k<c.Blocks.length:=by rw [hc.len];exact hk
 have g:=Zcx hc.right;have hp:=hc.pgs;have hs:=hc.siz;unfold Zcz at ho;refine ⟨?_,hp,hs,?_,fun i hi j hj hjP=>?_,fun i hi=>?_,hc.mask⟩
 ·refine ZmH (by show 1≤(c.Blocks.set k b).length;rw [List.length_set];exact g.1) (by show (c.Blocks.set k b).length≤32;rw [List.length_set];exact g.2.1) g.2.2.1 g.2.2.2.1 g.2.2.2.2.1 g.2.2.2.2.2.1 (by show 0≤c.Ops+1;omega) (by show c.Ops+1≤1099511627776;omega) g.2.2.2.2.2.2.2.2.1 fun x hx=>?_
  rcases Zms hx with hx | rfl
  ·exact g.2.2.2.2.2.2.2.2.2 x hx
  ·refine ⟨by show (x.Pages.length:Int)=c.Pages;omega,h3.1,by show x.Used≤c.Pages;omega,h4.1,by omega,fun p hp'=>?_⟩;have:=h2 p hp';show (p.length:Int)=c.Size;omega
 ·show (c.Blocks.set k b).length=nB;rw [List.length_set];exact hc.len
 ·unfold pg at *;rw [ZcB hl] at hj ⊢
  by_cases e:i=k
  ·rw [if_pos e] at hj ⊢;exact h5 j hj hjP
  ·rw [if_neg e] at hj ⊢;exact hc.blank i hi j hj hjP
 ·rw [ZcB hl];show _≤c.Ops+1
  by_cases e:i=k
  ·rw [if_pos e];exact h4.2
  ·rw [if_neg e];have:=hc.worn i hi;omega
def Zal (c:Chip):Nat:=c.Blocks.countP (·.Bad)
theorem ZhN {P nB S:Nat} {c:Chip} (hc:CI P nB S c):Zal c≤nB:=by rw [← hc.len];exact List.countP_le_length
theorem badN_chSet {P nB S:Nat} {c:Chip} (hc:CI P nB S c) {k:Nat} (hk:k<nB) (hb:(blk c k).Bad=false) {b:Block} {e:Int}:Zal (ZkY c k b e)=Zal c+if b.Bad then 1 else 0:=by
 obtain ⟨hl,he⟩:=hc.blkAt hk;unfold Zal;show (c.Blocks.set k b).countP _=_;rw [List.countP_set hl,← he,hb];simp
theorem ZlU {P nB S:Nat} {c:Chip} (hc:CI P nB S c) {k:Nat} (hk:k<nB) (h:Zal c=0):(blk c k).Bad=false:=by
 obtain ⟨hl,he⟩:=hc.blkAt hk;unfold Zal at h;rw [List.countP_eq_zero] at h;rw [he];simpa using h _ (List.getElem_mem hl)
structure StepF (P nB S:Nat) (c c':Chip) (k:Nat) (e:Int):Prop where
 ci:CI P nB S c'
 ops:c'.Ops=c.Ops+1
 off:c'.Off=decide (e=7)
 flt:c'.Faults=c.Faults
 err:e=0∨e=7∨e=9
 nf:c.Faults=[]→e=0
 oth:∀ i,i≠k→blk c' i=blk c i
 bad:(blk c' k).Bad=decide (e=9)
 many:Zal c'=Zal c+if e=9 then 1 else 0
structure ProgF (P nB S:Nat) (c c':Chip) (k:Nat) (p:List UInt8) (e:Int):Prop extends StepF P nB S c c' k e where
 used:(blk c' k).Used=(blk c k).Used+1
 pgo:∀ j:Nat,(j:Int)≠(blk c k).Used→pg c' k j=pg c k j
 pgn:∃ q,(q=p∨q=Zcs S)∧(e=0→q=p)∧pg c' k (blk c k).Used.toNat=q
structure EraseF (P nB S:Nat) (c c':Chip) (k:Nat) (e:Int):Prop extends StepF P nB S c c' k e where
 used:(blk c' k).Used=if e=0 then 0 else (P:Int)
 pgs:(∀ j,j<P→pg c' k j=Zcs S)∨(e≠0∧∀ j,pg c' k j=pg c k j)
theorem prog_f {P nB S:Nat} {c c':Chip} {k:Nat} {p:List UInt8} {e:Int} (hc:CI P nB S c) (hk:k<nB) (hb:(blk c k).Bad=false) (hu:(blk c k).Used<P) (hp:p.length=S) (ho:c.Ops<Zcz) (h:Prog1 S c k p c' e):ProgF P nB S c c' k p e:=by
 obtain ⟨q,hq,he,h7,hn,rfl⟩:=h;obtain ⟨hl,hB⟩:=hc.blkAt hk;obtain ⟨b1,b2,b3,b4,b5⟩:=hc.blkR hk;have hw:=hc.worn k hk;have hql:q.length=S:=by
  rcases hq with rfl | rfl
  ·exact hp
  ·simp [Zcs]
 have hun:(blk c k).Used.toNat<(blk c k).Pages.length:=by omega
 have hpg:∀ j:Nat,pgb ⟨(blk c k).Pages.set (blk c k).Used.toNat q,(blk c k).Used+1,(blk c k).Worn,decide (e=9)⟩ j=if j=(blk c k).Used.toNat then q else pg c k j:=fun j=>Zce hun
 have hC:CI P nB S (ZkY c k ⟨(blk c k).Pages.set (blk c k).Used.toNat q,(blk c k).Used+1,(blk c k).Worn,decide (e=9)⟩ e):=by
  refine hc.chSet hk ho e (by show ((blk c k).Pages.set _ q).length=P;rw [List.length_set];exact b1) (fun x hx=>?_) ⟨by show 0≤(blk c k).Used+1;omega,by show (blk c k).Used+1≤P;omega⟩ ⟨b4,by show (blk c k).Worn≤_;omega⟩ fun j hj hjP=>?_
  ·rcases Zms hx with hx | rfl
   ·exact b5 x hx
   ·exact hql
  ·rw [hpg];have hj:(blk c k).Used+1≤(j:Int):=hj;rw [if_neg (by omega)];exact hc.blank k hk j (by omega) hjP
 refine ⟨⟨hC,rfl,rfl,rfl,h7,hn,fun i hi=>?_,?_,?_⟩,?_,fun j hj=>?_,q,hq,he,?_⟩
 ·rw [ZcB hl,if_neg hi]
 ·rw [ZcB hl,if_pos rfl]
 ·rw [badN_chSet hc hk hb];simp
 ·rw [ZcB hl,if_pos rfl]
 ·unfold pg at *;rw [ZcB hl,if_pos rfl,hpg,if_neg (by omega)]
 ·unfold pg at *;rw [ZcB hl,if_pos rfl,hpg,if_pos rfl]
theorem erase_f {P nB S:Nat} {c c':Chip} {k:Nat} {e:Int} (hc:CI P nB S c) (hk:k<nB) (hb:(blk c k).Bad=false) (ho:c.Ops<Zcz) (h:Erase1 P S c k c' e):EraseF P nB S c c' k e:=by
 obtain ⟨keep,he,h7,hn,rfl⟩:=h;obtain ⟨hl,hB⟩:=hc.blkAt hk;obtain ⟨b1,b2,b3,b4,b5⟩:=hc.blkR hk;have hw:=hc.worn k hk;have hN:=hc.nat;have hpg:∀ j:Nat,pgb ⟨if keep then (blk c k).Pages else List.replicate P (Zcs S),if e=0 then 0 else (P:Int),(blk c k).Worn+1,decide (e=9)⟩ j=if keep then pg c k j else (List.replicate P (Zcs S)).getD j []:=fun j=>by
  unfold pgb;cases keep <;> rfl
 have hrep:∀ j,j<P→(List.replicate P (Zcs S)).getD j []=Zcs S:=fun j hj=>by
  rw [ZcS (by simpa using hj),List.getElem_replicate]
 have hC:CI P nB S (ZkY c k ⟨if keep then (blk c k).Pages else List.replicate P (Zcs S),if e=0 then 0 else (P:Int),(blk c k).Worn+1,decide (e=9)⟩ e):=by
  refine hc.chSet hk ho e ?_ (fun x hx=>?_) ?_ ⟨by show 0≤(blk c k).Worn+1;omega,by show (blk c k).Worn+1≤_;omega⟩ fun j hj hjP=>?_
  ·cases keep
   ·exact List.length_replicate
   ·exact b1
  ·cases keep
   ·rw [(List.mem_replicate.1 hx).2];simp [Zcs]
   ·exact b5 x hx
  ·show 0≤(if e=0 then 0 else (P:Int))∧(if e=0 then 0 else (P:Int))≤P
   split <;> omega
  ·rw [hpg];have hj:(if e=0 then 0 else (P:Int))≤(j:Int):=hj
   by_cases e0:e=0
   ·rw [he e0];exact hrep j hjP
   ·rw [if_neg e0] at hj;omega
 refine ⟨⟨hC,rfl,rfl,rfl,h7,hn,fun i hi=>?_,?_,?_⟩,?_,?_⟩
 ·rw [ZcB hl,if_neg hi]
 ·rw [ZcB hl,if_pos rfl]
 ·rw [badN_chSet hc hk hb];simp
 ·rw [ZcB hl,if_pos rfl]
 ·cases keep
  ·refine .inl fun j hj=>?_
   unfold pg at *;rw [ZcB hl,if_pos rfl,hpg];exact hrep j hj
  ·refine .inr ⟨fun e0=>by simpa using he e0,fun j=>?_⟩;unfold pg at *;rw [ZcB hl,if_pos rfl,hpg];rfl
theorem Zh9 {w:flash_writer} {k:Nat} {z:Int} {p:List UInt8} {P nB S:Nat} (hz:z=k) (hc:CI P nB S w.Vol.Chip) (ho:w.Vol.Chip.Off=false) (hk:k<nB) (hb:(blk w.Vol.Chip k).Bad=false) (hu:(blk w.Vol.Chip k).Used<P)
  (hp:p.length=S) (hops:w.Vol.Chip.Ops<Zcz):ZeH (ZK w z p) (fun r=>∃ c' e,r=(e,wch w c')∧ProgF P nB S w.Vol.Chip c' k p e):=
 (program_get hz hc ho hk hb hu hp hops).m fun r ⟨c',e,h1,h2⟩=>⟨c',e,h1,prog_f hc hk hb hu hp hops h2⟩
theorem erase_ff {w:flash_writer} {k:Nat} {z:Int} {P nB S:Nat} (hz:z=k) (hc:CI P nB S w.Vol.Chip) (ho:w.Vol.Chip.Off=false) (hk:k<nB) (hb:(blk w.Vol.Chip k).Bad=false) (hops:w.Vol.Chip.Ops<Zcz) :
  ZeH (ZaI w z) (fun r=>∃ c' e,r=(e,wch w c')∧EraseF P nB S w.Vol.Chip c' k e):=
 (erase_get hz hc ho hk hb hops).m fun r ⟨c',e,h1,h2⟩=>⟨c',e,h1,erase_f hc hk hb hops h2⟩
def freeV (P:Nat) (b:Block):Int:=if b.Bad then 0 else P-b.Used
theorem ZkS {w:flash_writer} {k:Nat} {z:Int} {P nB S:Nat} (hz:z=k) (hc:CI P nB S w.Vol.Chip) (hk:k<nB):Zaq w z=some (freeV P (blk w.Vol.Chip k)):=by
 unfold Zaq;obtain ⟨b1,b2,b3,b4,b5⟩:=hc.blkR hk;have:=hc.nat;rw [hc.idxB hz hk,Zb];unfold freeV;cases h:(blk w.Vol.Chip k).Bad
 ·rw [Zo,hc.pgs,ZaO (by omega) (by omega),Zb];rfl
 ·rw [Zs];rfl
structure ClearF (P nB S:Nat) (c c':Chip) (k:Nat) (e:Int):Prop where
 ci:CI P nB S c'
 ops:c.Ops≤c'.Ops∧c'.Ops≤c.Ops+17
 off:c'.Off=decide (e=7)
 flt:c'.Faults=c.Faults
 err:e=0∨e=7∨e=9
 nf:c.Faults=[]→e=0
 oth:∀ i,i≠k→blk c' i=blk c i
 bad:(blk c' k).Bad=decide (e=9)
 many:Zal c'=Zal c+if e=9 then 1 else 0
 used:e=0→(blk c' k).Used=0
theorem filler {S:Nat} (h1:24≤S) (h2:S≤256):∃ b,Zfc ⟨1,0,0,[]⟩ (S:Int)=some (b,0)∧b.length=S:=by
 have hm:PMay ⟨1,0,0,[]⟩ (S:Int):=⟨⟨by omega,by omega⟩,.inl rfl,by simp,by simp,by show (0:UInt64)<_;decide,by simp;omega⟩;refine ⟨_,?_,(ZiH (p:=⟨1,0,0,[]⟩) (n:=S) hm rfl).1⟩;rw [Zhv];unfold PutV;rw [if_pos hm];rfl
theorem Zkj {w:flash_writer} {k:Nat} {z:Int} {P nB S:Nat} (hz:z=k) (hc:CI P nB S w.Vol.Chip) (h24:24≤S) (ho:w.Vol.Chip.Off=false) (hk:k<nB) (hb:(blk w.Vol.Chip k).Bad=false) (hops:w.Vol.Chip.Ops+17≤Zcz) :
  ZeH (ZV w z) (fun r=>∃ c' e,r=(e,wch w c')∧ClearF P nB S w.Vol.Chip c' k e):=by
 have hN:=hc.nat;have hB:=hc.blkR hk;obtain ⟨fb,hf1,hf2⟩:=filler h24 hN.2.2.2.2.1;unfold ZV;refine ZeH.b (P:=fun o=>(∃ c2,o=.inl (wch w c2)∧CI P nB S c2∧c2.Off=false∧c2.Faults=w.Vol.Chip.Faults∧(∀ i,i≠k→blk c2 i=blk w.Vol.Chip i)∧(blk c2 k).Bad=false∧Zal c2=Zal w.Vol.Chip∧w.Vol.Chip.Ops≤c2.Ops∧c2.Ops≤w.Vol.Chip.Ops+16)∨
   ∃ c' e,o=.inr (e,wch w c')∧ClearF P nB S w.Vol.Chip c' k e)
  (ZeH.loop (fun s=>∃ c2,s=wch w c2∧CI P nB S c2∧c2.Off=false∧c2.Faults=w.Vol.Chip.Faults∧(∀ i,i≠k→blk c2 i=blk w.Vol.Chip i)∧(blk c2 k).Bad=false∧Zal c2=Zal w.Vol.Chip∧w.Vol.Chip.Ops≤c2.Ops∧c2.Ops=w.Vol.Chip.Ops+(blk c2 k).Used-(blk w.Vol.Chip k).Used)
   (fun s=>(P-(blk s.Vol.Chip k).Used).toNat) (fun s hs=>?_) ⟨w.Vol.Chip,rfl,hc,ho,rfl,fun _ _=>rfl,hb,rfl,by omega,by omega⟩ (by show ((P:Int)-(blk w.Vol.Chip k).Used).toNat<_;omega)) fun o ho'=>?_
 ·obtain ⟨c2,rfl,i1,i2,i3,i4,i5,i6,i7,i8⟩:=hs;obtain ⟨b1,b2,b3,b4,b5⟩:=i1.blkR hk;unfold ZcX;rw [ZkS (w:=wch w c2) hz i1 hk,Zb];have hfr:freeV P (blk (wch w c2).Vol.Chip k)=P-(blk c2 k).Used:=by
   show (if (blk c2 k).Bad then (0:Int) else P-(blk c2 k).Used)=_;rw [i5];rfl
  rw [hfr]
  by_cases hlt:(blk c2 k).Used<P
  ·rw [Zi (by simp;omega),show (wch w c2).Vol.Chip.Size=c2.Size from rfl,i1.siz,hf1,Zb];unfold Zcz at hops;refine ZeH.b (Zh9 (w:=wch w c2) hz i1 i2 hk i5 hlt hf2 (by show c2.Ops<Zcz;unfold Zcz;omega)) fun r ⟨c3,e,hr,g⟩=>?_
   subst hr;rw [wch_wch];have g1:c3.Ops=c2.Ops+1:=g.ops
   by_cases he:e=0
   ·subst he;rw [Zf (by simp)];have gu:(blk c3 k).Used=(blk c2 k).Used+1:=g.used;refine ZeH.l ⟨c3,rfl,g.ci,g.off,g.flt.trans i3,fun i hi=>(g.oth i hi).trans (i4 i hi),g.bad,by rw [g.many];exact i6,by omega,by omega⟩ ?_;show ((P:Int)-(blk c3 k).Used).toNat<((P:Int)-(blk c2 k).Used).toNat;omega
   ·rw [Zi (by simp [he])];refine Za5 (.inr ⟨c3,e,rfl,g.ci,by omega,g.off,g.flt.trans i3,g.err,fun x=>g.nf (i3.trans x),fun i hi=>(g.oth i hi).trans (i4 i hi),g.bad,by rw [g.many];show Zal c2+_=_;rw [i6],fun x=>absurd x he⟩)
  ·rw [Zf (by simp;omega)];exact Za5 (.inl ⟨c2,rfl,i1,i2,i3,i4,i5,i6,i7,by omega⟩)
 ·rcases ho' with ⟨c2,rfl,i1,i2,i3,i4,i5,i6,i7,i8⟩ | ⟨c',e,rfl,g⟩
  ·rw [Zaw];unfold Zcz at hops;refine ZeH.b (erase_ff (w:=wch w c2) hz i1 i2 hk i5 (by show c2.Ops<Zcz;unfold Zcz;omega)) fun r ⟨c3,e,hr,g⟩=>?_
   subst hr;have g1:c3.Ops=c2.Ops+1:=g.ops;refine ZeH.s ⟨c3,e,rfl,g.ci,by omega,g.off,g.flt.trans i3,g.err,fun x=>g.nf (i3.trans x),fun i hi=>(g.oth i hi).trans (i4 i hi),g.bad,by rw [g.many];show Zal c2+_=_;rw [i6],fun x=>by rw [g.used,if_pos x]⟩
  ·rw [Zbp];exact ZeH.s ⟨c',e,rfl,g⟩
end Go.Proofs.YtkmojgfenlgchaaGreatDoor.Tr
namespace Go.Proofs.YtkmojgfenlgchaaGreatDoor.Tr
open Go
theorem blank_read {S:Nat} (h1:24≤S) (h2:S≤256):Zdf (Zcs S)=(Page0,0):=by
 have hl:(Zcs S).length=S:=by simp [Zcs]
 unfold Zdf;rw [if_neg (by rw [hl];unfold Zgb;omega),if_pos (fun x hx=>by unfold Zcs at hx;exact (List.mem_replicate.1 hx).2)]
theorem ZiU {S:Nat} (h1:24≤S) (h2:S≤256):Zai (Zcs S)=(Root0,6):=by
 unfold Zai;rw [blank_read h1 h2];rfl
def Zd4 (P k j:Nat):Int:=((k*P+j+1:Nat):Int)
theorem Zjz {P k j:Nat} (hj:j<P):(Zd4 P k j-1)/(P:Int)=k∧(Zd4 P k j-1) % (P:Int)=j:=by
 have e:Zd4 P k j-1=((k*P+j:Nat):Int):=by unfold Zd4;omega
 rw [e];have h0:0<P:=by omega
 constructor
 ·rw [← Int.natCast_ediv,Nat.add_comm,Nat.add_mul_div_right _ _ h0,Nat.div_eq_of_lt hj,Nat.zero_add]
 ·rw [← Int.natCast_emod,Nat.add_comm,Nat.add_mul_mod_self_right,Nat.mod_eq_of_lt hj]
theorem Zjy {P k j k' j':Nat} (h:j<P) (h':j' < P) (e:Zd4 P k j=Zd4 P k' j'):k=k'∧j=j':=by
 have a:=Zjz (k:=k) h;have b:=Zjz (k:=k') h';rw [e] at a;omega
theorem ZdM {P k j:Nat}:1≤Zd4 P k j:=by unfold Zd4;omega
theorem loc_le {P k j nB:Nat} (hk:k<nB) (hj:j<P):Zd4 P k j≤((nB*P:Nat):Int):=by
 unfold Zd4;have:(k+1)*P≤nB*P:=Nat.mul_le_mul_right _ (by omega);rw [Nat.add_mul] at this;omega
def GIat (P nB:Nat) (c:Chip) (id:Nat) (n:Int) (b:List UInt8):Prop:=
 (n=0∧b=[])∨∃ k j g,n=Zd4 P k j∧2≤k∧k<nB∧j<P∧(j:Int)<(blk c k).Used∧Zdf (pg c k j)=(⟨1,id,g,b⟩,0)∧b≠[]
def GI (P nB:Nat) (c:Chip) (at0:List Int) (bod:List (List UInt8)):Prop:=at0.length=bod.length∧∀ id,id<at0.length→GIat P nB c id (at0.getD id 0) (bod.getD id [])
theorem GI.keep {P nB:Nat} {c c':Chip} {at0:List Int} {bod:List (List UInt8)} (h:GI P nB c at0 bod)
  (hk:∀ id k j,id<at0.length→at0.getD id 0=Zd4 P k j→2≤k→k<nB→j<P→(j:Int)<(blk c k).Used→(j:Int)<(blk c' k).Used∧pg c' k j=pg c k j):GI P nB c' at0 bod:=by
 refine ⟨h.1,fun id hid=>?_⟩;rcases h.2 id hid with g | ⟨k,j,g,h1,h2,h3,h4,h5,h6,h7⟩
 ·exact .inl g
 ·obtain ⟨a,b⟩:=hk id k j hid h1 h2 h3 h4 h5;exact .inr ⟨k,j,g,h1,h2,h3,h4,a,by rw [b];exact h6,h7⟩
theorem GI.inj {P nB:Nat} {c:Chip} {at0:List Int} {bod:List (List UInt8)} (h:GI P nB c at0 bod) {i j:Nat} (hi:i<at0.length) (hj:j<at0.length) (e:at0.getD i 0=at0.getD j 0) (h0:at0.getD i 0≠0):i=j:=by
 rcases h.2 i hi with g | ⟨k1,j1,g1,a1,a2,a3,a4,a5,a6,a7⟩
 ·exact absurd g.1 h0
 rcases h.2 j hj with g | ⟨k2,j2,g2,b1,b2,b3,b4,b5,b6,b7⟩
 ·exact absurd (e.trans g.1) h0
 rw [a1,b1] at e;obtain ⟨rfl,rfl⟩:=Zjy a4 b4 e;rw [a6] at b6;injection b6 with b6;injection b6 with _ b6;omega
def RI (P:Nat) (c:Chip) (gen:UInt64) (at0:List Int) (last:Int):Prop:=
 ∃ b j:Nat,last=b∧b<2∧j<P∧Zai (pg c b j)=(⟨gen,at0⟩,0)∧
  ∀ b' j',b' < 2→j' < P→(Zai (pg c b' j')).2=0→(Zai (pg c b' j')).1.Gen.toNat≤gen.toNat∧((Zai (pg c b' j')).1.Gen.toNat=gen.toNat→b' * P+j'≤b*P+j)
structure Geo (P nB S:Nat):Prop where
 p2:2≤P
 p8:P≤8
 b5:5≤nB
 b11:nB≤11
 s24:24≤S
 s256:S≤256
structure VI (P nB S:Nat) (c:Chip) (at0:List Int) (gen:UInt64) (last:Int) (bod:List (List UInt8)):Prop where
 ci:CI P nB S c
 off:c.Off=false
 ri:RI P c gen at0 last
 gi:GI P nB c at0 bod
 gen:(gen.toNat:Int)≤c.Ops
theorem concatL (p q:List (List UInt8)) (hp:p.length≤1000) (hq:q.length≤1000):ZbD [p,q]=some (p++q):=by
 unfold ZbD;refine (Zbh (Zhy (e:=((p++q).length:Int)) 3 (by omega) ?_)).trans ?_
 ·have s0:Zaf [p,q] 0 0=some (.inl ((p.length:Int),1)):=by
   unfold Zaf;rw [Zi (by simp),show idx [p,q] (0:Int)=some p from rfl,Zb,Zaa (by omega) (by omega),Zb,Zf (by simp),Zaa (by omega) (by omega),Zb];simp
  have s1:Zaf [p,q] (p.length:Int) 1=some (.inl (((p++q).length:Int),2)):=by
   unfold Zaf;rw [Zi (by simp),show idx [p,q] (1:Int)=some q from rfl,Zb,Zaa (by omega) (by omega),Zb,Zf (by simp;omega),Zaa (by omega) (by omega),Zb];simp
  have s2:Zaf [p,q] ((p++q).length:Int) 2=some (.inr ((p++q).length:Int)):=by
   unfold Zaf;rw [Zf (by simp)]
  rw [ZdC s0,ZdC s1,Zem s2]
 ·have hg:Zch [] ((p++q).length:Int)=some []:=by
   unfold Zch;rw [Zf (by simp;omega),ZaO (by omega) (by omega),Zb,ZaO (by simp;omega) (by simp;omega),Zb]
   by_cases h0:0<(p++q).length
   ·rw [Zi (by simp at h0 ⊢;omega),Zav (by simp;omega) (by simp;omega) (by simp;omega),Zb,posI_ok (by simp at h0 ⊢;omega),Zb,Zdb (by omega) (by omega) (by simp;omega),Zb,Zb,Zb];simp
   ·rw [Zf (by simp at h0 ⊢;simp [h0]),Zb]
  rw [hg,Zb];refine (Zbh (Zhy (e:=p++q) 3 (by omega) ?_)).trans rfl;have s0:Zae [p,q] 0 []=some (.inl (1,p)):=by
   unfold Zae;rw [Zi (by simp),show idx [p,q] (0:Int)=some p from rfl,Zb,Zav (by omega) (by simp;omega) (by simp;omega),Zb,Zb,Zaa (by omega) (by omega),Zb];simp
  have s1:Zae [p,q] 1 p=some (.inl (2,p++q)):=by
   unfold Zae;rw [Zi (by simp),show idx [p,q] (1:Int)=some q from rfl,Zb,Zav (by omega) (by omega) (by omega),Zb,Zb,Zaa (by omega) (by omega),Zb];simp
  have s2:Zae [p,q] 2 (p++q)=some (.inr (p++q)):=by
   unfold Zae;rw [Zf (by simp)]
  rw [ZdC s0,ZdC s1,Zem s2]
theorem roots_at {P nB S:Nat} {c:Chip} (hc:CI P nB S c) (hB:2≤nB) {i:Nat} (hi:i<((blk c 0).Pages++(blk c 1).Pages).length):i<2*P∧((blk c 0).Pages++(blk c 1).Pages)[i]=pg c (i/P) (i % P):=by
 have h0:=(hc.blkR (k:=0) (by omega)).1;have h1:=(hc.blkR (k:=1) (by omega)).1;have hi2:i<2*P:=by rw [List.length_append] at hi;omega
 refine ⟨hi2,?_⟩;have hP:0<P:=by omega
 unfold pg pgb
 by_cases h:i<P
 ·rw [Nat.div_eq_of_lt h,Nat.mod_eq_of_lt h,List.getElem_append_left (by omega),ZcS (by omega)]
 ·have e1:i/P=1:=by
   rw [show i=i-P+1*P by omega,Nat.add_mul_div_right _ _ hP,Nat.div_eq_of_lt (by omega)]
  have e2:i % P=i-P:=by
   rw [show i=i-P+1*P by omega,Nat.add_mul_mod_self_right,Nat.mod_eq_of_lt (by omega)];omega
  rw [e1,e2,List.getElem_append_right (by omega),ZcS (by omega)];congr 1;omega
theorem newest_of {P nB S:Nat} {c:Chip} {gen:UInt64} {at0:List Int} {last:Int} (hc:CI P nB S c) (hg:Geo P nB S) (hr:RI P c gen at0 last) :
  ∃ b j:Nat,last=b∧b<2∧j<P∧(j:Int)<(blk c b).Used∧Zeh ((blk c 0).Pages++(blk c 1).Pages)=some (((b*P+j:Nat):Int),⟨gen,at0⟩,0):=by
 obtain ⟨b,j,h1,h2,h3,h4,h5⟩:=hr;have g1:=hg.b5;have g2:=hg.p2;have g3:=hg.p8;have hl0:=hc.blkR (k:=0) (by omega);have hl1:=hc.blkR (k:=1) (by omega);refine ⟨b,j,h1,h2,h3,?_,?_⟩
 ·have:=hg.s24;have:=hg.s256
  by_cases e:(j:Int)<(blk c b).Used
  ·exact e
  ·rw [hc.blank b (by omega) j (by omega) h3,ZiU (by omega) (by omega)] at h4;injection h4 with _ h4;cases h4
 have hlen:((blk c 0).Pages++(blk c 1).Pages).length=2*P:=by rw [List.length_append];omega
 rw [root_Newest_eq _ (by omega) fun x hx=>by
  have:x.length=S:=by
   rcases List.mem_append.1 hx with hx | hx
   ·exact hl0.2.2.2.2 x hx
   ·exact hl1.2.2.2.2 x hx
  have:=hg.s256;omega]
 have hi:=ninv ((blk c 0).Pages++(blk c 1).Pages) _ (Nat.le_refl _);rw [List.take_length] at hi;unfold NewestV nOut;have hbj:b*P+j<2*P:=by
  have:(b+1)*P≤2*P:=Nat.mul_le_mul_right _ (by omega);rw [Nat.add_mul] at this;omega
 have hbl:b*P+j<((blk c 0).Pages++(blk c 1).Pages).length:=by omega
 have hrd:=(roots_at hc (by omega) hbl).2;have hP:0<P:=by omega
 have hdv:(b*P+j)/P=b∧(b*P+j) % P=j:=by
  constructor
  ·rw [Nat.add_comm,Nat.add_mul_div_right _ _ hP,Nat.div_eq_of_lt h3,Nat.zero_add]
  ·rw [Nat.add_comm,Nat.add_mul_mod_self_right,Nat.mod_eq_of_lt h3]
 rw [hdv.1,hdv.2] at hrd
 by_cases hf:(Zgj 0 N0 ((blk c 0).Pages++(blk c 1).Pages)).found=true
 ·obtain ⟨k,ka,hk,kb,kc⟩:=hi.yes hf;rw [if_pos hf,ka];obtain ⟨k1,k2⟩:=roots_at hc (by omega) hk;rw [k2] at kb;have c1:=kc _ hbl (by rw [hrd,h4]);rw [hrd,h4] at c1;have hk2:k/P<2:=by rw [Nat.div_lt_iff_lt_mul hP];omega
  have c2:=h5 (k/P) (k % P) hk2 (Nat.mod_lt _ hP) (by rw [kb]);rw [kb] at c2;dsimp only at c1 c2;have c3:=UInt64.le_iff_toNat_le.1 c1.1;have c4:=c2.1;have c5:gen.toNat=(Zgj 0 N0 ((blk c 0).Pages++(blk c 1).Pages)).newest.Gen.toNat:=by omega
  have c6:gen=(Zgj 0 N0 ((blk c 0).Pages++(blk c 1).Pages)).newest.Gen:=UInt64.toNat_inj.1 c5;have c7:=c2.2 (by omega);have c8:k/P*P+k % P=k:=by rw [Nat.mul_comm];exact Nat.div_add_mod k P
  rw [c8] at c7;have c9:¬ k<b*P+j:=fun x=>(c1.2 x) c6
  have e:k=b*P+j:=by omega
  subst e;rw [hdv.1,hdv.2,h4] at kb;injection kb with kb;rw [← kb]
 ·exfalso
  have:=(hi.no (by simpa using hf)).2.2 _ hbl;rw [hrd,h4] at this;exact this rfl
theorem names_eq {P nB S:Nat} {c:Chip} {id:Nat} {k j:Nat} {g:UInt64} {b:List UInt8} {z:Int} (hz:z=id) (hc:CI P nB S c) (hg:Geo P nB S) (h2:2≤k) (h3:k<nB) (h4:j<P) (h5:(j:Int)<(blk c k).Used) (h6:Zdf (pg c k j)=(⟨1,id,g,b⟩,0)) :
  Zeo c z (Zd4 P k j)=some true:=by
 subst hz;have hp:=ZdM (P:=P) (k:=k) (j:=j);have hl:=loc_le (P:=P) h3 h4;have hq:=Zjz (k:=k) h4;have:nB*P≤11*8:=Nat.mul_le_mul hg.b11 hg.p8;have:=hg.p2;unfold Zeo;rw [ZaO (by omega) (by omega),Zb,hc.pgs,ZfO (by omega) (by omega),Zb,Zb,Zjt (by omega) (by omega),Zb,hq.1,hq.2,
  Zg7 (hc.idxB rfl h3),Zb]
 have e1:((decide ((k:Int)<2))||(decide ((k:Int)≥(c.Blocks.length:Int))))=false:=by
  rw [hc.len];simp;omega
 rw [e1,Bool.not_false,Zs,Bool.false_or,Zf (by simp;omega),hc.idxB rfl h3,Zb,hc.idxP rfl h3 h4,Zb,Zfb,Zb,h6];simp
theorem placed_eq {P nB S:Nat} {c:Chip} {at0:List Int} {bod:List (List UInt8)} (hc:CI P nB S c) (hg:Geo P nB S) (hl:at0.length≤1000) (h:GI P nB c at0 bod):ZeM c at0=some true:=by
 unfold ZeM;refine Zgf (ZeH.b (P:=fun o=>∃ m,o=.inl m) (ZeH.loop (σ:=Int×List Int) (fun s=>∃ i:Nat,s.1=i∧i≤at0.length∧∀ x∈s.2,∃ i',i' < i∧at0.getD i' 0=x∧x≠0) (fun s=>at0.length-s.1.toNat) (fun s hs=>?_)
  ⟨0,rfl,by omega,fun x hx=>by cases hx⟩ (by show at0.length-0<_;omega)) fun o ⟨m,hm⟩=>?_)
 ·obtain ⟨z,m⟩:=s;obtain ⟨i,rfl,hi,hm⟩:=hs;dsimp only at hm ⊢;unfold ZfV
  by_cases hlt:i<at0.length
  ·rw [ZeU hlt,Zs,ZcH (d:=0) rfl hlt,Zb]
   by_cases h0:at0.getD i 0=0
   ·rw [Zi (by simp only [h0];rfl),Zb,Zaw,ZR (by omega),Zb];refine ZeH.l ⟨i+1,rfl,by omega,fun x hx=>?_⟩ (by show at0.length-(i+1)<at0.length-(i:Int).toNat;omega);obtain ⟨i',a,b⟩:=hm x hx;exact ⟨i',by omega,b⟩
   ·rw [Zf (by simp only [h0];rfl)];have hnm:at0.getD i 0∉m:=fun hx=>by
     obtain ⟨i',a,b,e⟩:=hm _ hx;have:=h.inj (by omega) hlt b (by rw [b];exact h0);omega
    rcases h.2 i hlt with g | ⟨k,j,g,a1,a2,a3,a4,a5,a6,a7⟩
    ·exact absurd g.1 h0
    have hnn:Zeo c i (at0.getD i 0)=some true:=by rw [a1];exact names_eq rfl hc hg a2 a3 a4 a5 a6
    rw [hnn,show decide (at0.getD i 0∈m)=false from by simpa using hnm,Bool.not_false,ZaL,Zb,Bool.not_true,Bool.or_false,Zo,Zb,Zb,Zaw,ZR (by omega),Zb];refine ZeH.l ⟨i+1,rfl,by omega,fun x hx=>?_⟩ (by show at0.length-(i+1)<at0.length-(i:Int).toNat;omega);unfold putM at hx;rw [if_neg hnm] at hx;rcases List.mem_append.1 hx with hx | hx
    ·obtain ⟨i',a,b⟩:=hm x hx;exact ⟨i',by omega,b⟩
    ·rw [List.mem_singleton] at hx;exact ⟨i,by omega,hx.symm,by rw [hx];exact h0⟩
  ·rw [Zjx (by omega),Zo];exact Za5 ⟨_,rfl⟩
 ·rw [hm,Zaw];exact ZeH.s rfl
theorem bears_eq {P nB S:Nat} {c:Chip} (hc:CI P nB S c) (hg:Geo P nB S):Zeq c=some true:=by
 unfold Zeq;rw [ZhI,Zb,hc.right];have:=hc.pgs;have:=hc.siz;have:=hc.len;have:=hg.p2;have:=hg.b5;have:=hg.s24;have a1:(4:Int)≤c.Blocks.length:=by omega
 have a2:2≤c.Pages:=by omega
 have a3:24≤c.Size:=by omega
 simp [a1,a2,a3]
theorem Zkn {P:Nat} {c:Chip} {gen:UInt64} {at0:List Int} {last:Int} (hr:RI P c gen at0 last):at0.length≤128:=by
 obtain ⟨b,j,h1,h2,h3,h4,h5⟩:=hr;unfold Zai at h4
 split at h4
 ·injection h4 with h4 h6;simp_all
 split at h4
 ·injection h4 with h4 h6;cases h6
 split at h4
 ·injection h4 with h4 h6;cases h6
 injection h4 with h4;injection h4 with h4 h6;rw [← h6];unfold numsOf;rw [List.length_map,List.length_range];have:=read_body (pg c b j);omega
theorem found_eq {P nB S:Nat} {c:Chip} {gen:UInt64} {at0:List Int} {last:Int} {bod:List (List UInt8)} (hc:CI P nB S c) (hg:Geo P nB S) (ho:c.Off=false) (hr:RI P c gen at0 last) (hp:GI P nB c at0 bod) :
  Zep c=some (⟨c,at0,gen,last⟩,0):=by
 obtain ⟨b,j,h1,h2,h3,h4,h5⟩:=newest_of hc hg hr;have g1:=hg.b5;have g2:=hg.p2;have g3:=hg.p8;unfold Zep;rw [bears_eq hc hg,Zb,Bool.not_true,Zo,ho,Zo,hc.idxB (z:=0) (k:=0) rfl (by omega),Zb,hc.idxB (z:=1) (k:=1) rfl (by omega),Zb,
  concatL _ _ (by have:=(hc.blkR (k:=0) (by omega)).1;omega) (by have:=(hc.blkR (k:=1) (by omega)).1;omega),Zb,h5,Zb]
 dsimp only;have hP:0<P:=by omega
 have hq1:((b*P+j:Nat):Int)/(P:Int)=b:=by
  rw [← Int.natCast_ediv,Nat.add_comm,Nat.add_mul_div_right _ _ hP,Nat.div_eq_of_lt h3,Nat.zero_add]
 have hq2:((b*P+j:Nat):Int) % (P:Int)=j:=by
  rw [← Int.natCast_emod,Nat.add_comm,Nat.add_mul_mod_self_right,Nat.mod_eq_of_lt h3]
 rw [Zf (by simp),hc.pgs,ZfO (by omega) (by omega),Zb,Zjt (by omega) (by omega),Zb,hq1,hq2,hc.idxB rfl (by omega),Zb];have e1:decide ((j:Int)≥(blk c b).Used)=false:=by simp;omega
 rw [e1,Bool.not_false,ZaL,placed_eq hc hg (by have:=Zkn hr;omega) hp,Zb,Bool.not_true,Bool.or_false,Zo,Zb,h1]
end Go.Proofs.YtkmojgfenlgchaaGreatDoor.Tr
namespace Go.Proofs.YtkmojgfenlgchaaGreatDoor.Tr
open Go
theorem equal_int (a b:List Int) (ha:a.length≤1000000000000000):ZbN a b=some (decide (a=b)):=by
 unfold ZbN
 by_cases hl:a.length=b.length
 ·rw [Zf (by simp [hl])];rcases Zfs (f:=fun s=>Za7 a b s) (fun i=>(i:Int)) a.length (fun i=>decide (a.getD i 0≠b.getD i 0)) (fun _=>.inr false) (y:=.inl ()) (by omega) (fun i hi hp=>by
    have hx:a[i]=b[i]'(by omega):=by simpa [List.getD_eq_getElem?_getD,List.getElem?_eq_getElem hi,List.getElem?_eq_getElem (show i<b.length by omega)] using hp
    unfold Za7;rw [ZeU hi,Zs,ZB hi,Zb,ZB (show i<b.length by omega),Zb,Zf (by simp [hx]),ZR (by omega),Zb]) (fun i hi hp=>by
    have hx:a[i]≠b[i]'(by omega):=by simpa [List.getD_eq_getElem?_getD,List.getElem?_eq_getElem hi,List.getElem?_eq_getElem (show i<b.length by omega)] using hp
    unfold Za7;rw [ZeU hi,Zs,ZB hi,Zb,ZB (show i<b.length by omega),Zb,Zi (by simpa using hx)]) (by
    unfold Za7;rw [Zjf,Zo]) (s:=(0:Int)) rfl with ⟨i,hi,hp,-,e⟩ | ⟨hall,e⟩
  ·rw [e,Zb,Zbp];have:a≠b:=fun h=>by subst h;simp at hp
   rw [decide_eq_false this]
  ·rw [e,Zb,Zaw];have:a=b:=by
    apply List.ext_getElem hl;intro j h1 h2;have:=hall j h1;simpa [List.getD_eq_getElem?_getD,List.getElem?_eq_getElem h1,List.getElem?_eq_getElem h2] using this
   rw [decide_eq_true this]
 ·rw [Zi (by simp;omega)];have:a≠b:=fun h=>hl (by rw [h])
  rw [decide_eq_false this]
theorem Zki {l:List Int} (h:l.length≤1000000):ZaN l=some l:=by
 unfold ZaN;rw [Zav (by omega) (by omega) (by omega),Zb]
theorem own_eq {P nB S:Nat} {c:Chip} (hc:CI P nB S c):ZeN c=some c:=by
 have:=hc.nat;unfold ZeN;rw [on_eq hc.right (by omega),Zb];have:(onV c c.Faults).1=⟨c.Pages,c.Size,c.Blocks,c.Ops,false,c.Faults⟩:=by unfold onV;rw [if_pos (by omega)]
 rw [this,Zb]
theorem apart_eq {P nB S:Nat} {c:Chip} {at0:List Int} {gen:UInt64} {last:Int} (hc:CI P nB S c) (ha:at0.length≤1000):Zcw ⟨c,at0,gen,last⟩=some ⟨c,at0,gen,last⟩:=by
 unfold Zcw;rw [own_eq hc,Zb,Zki (by show at0.length≤_;omega),Zb,Zb]
theorem mount_eq {P nB S:Nat} {c:Chip} {gen:UInt64} {at0:List Int} {last:Int} {bod:List (List UInt8)} (hg:Geo P nB S) (h:VI P nB S c at0 gen last bod):ZfY c=some (⟨c,at0,gen,last⟩,0):=by
 unfold ZfY;rw [found_eq h.ci hg h.off h.ri h.gi,Zb,Zf (by simp),apart_eq h.ci (by have:=Zkn h.ri;omega),Zb]
theorem chip_off {c:Chip} (h:c.Off=false):(⟨c.Pages,c.Size,c.Blocks,c.Ops,false,c.Faults⟩:Chip)=c:=by rw [← h]
theorem right_vol {P nB S:Nat} {c:Chip} {gen:UInt64} {at0:List Int} {last:Int} {bod:List (List UInt8)} (hg:Geo P nB S) (h:VI P nB S c at0 gen last bod):Zer ⟨c,at0,gen,last⟩=some true:=by
 unfold Zer;rw [Zb];dsimp only;rw [chip_off h.off,found_eq h.ci hg h.off h.ri h.gi,Zb];dsimp only;rw [equal_int _ _ (by have:=Zkn h.ri;omega)];simp [ZaL,Zb]
theorem body_eq {P nB S:Nat} {c:Chip} {gen:UInt64} {at0:List Int} {last:Int} {bod:List (List UInt8)} {id:Nat} {z:Int} (hz:z=id) (hc:CI P nB S c) (hg:Geo P nB S) (h:GI P nB c at0 bod) (hi:id<at0.length) (h0:at0.getD id 0≠0) :
  Zft ⟨c,at0,gen,last⟩ z=some (bod.getD id []):=by
 rcases h.2 id hi with g | ⟨k,j,g,a1,a2,a3,a4,a5,a6,a7⟩
 ·exact absurd g.1 h0
 have hp:=ZdM (P:=P) (k:=k) (j:=j);have hl:=loc_le (P:=P) a3 a4;have hq:=Zjz (k:=k) a4;have:nB*P≤11*8:=Nat.mul_le_mul hg.b11 hg.p8;have:=hg.p2;unfold Zft;rw [ZcH (d:=0) hz hi,Zb,a1];dsimp only;rw [ZaO (by omega) (by omega),Zb,hc.pgs,ZfO (by omega) (by omega),Zb,Zjt (by omega) (by omega),hq.1,hq.2,hc.idxB rfl a3,Zb,Zb,hc.idxP rfl a3 a4,Zb,Zfb,Zb,a6];rw [Zf (by simp)]
def Fits (S n:Nat) (l:List Item):Prop:=(∀ x∈l,0≤x.Id∧x.Id<n∧(x.Body.length:Int)≤S-16)∧(l.map (·.Id)).Nodup
theorem fitting_eq {P nB S:Nat} {c:Chip} {gen:UInt64} {at0:List Int} {last:Int} {l:List Item} (hc:CI P nB S c) (hg:Geo P nB S) (hl:l.length≤1000000) (h:Fits S at0.length l):Zc7 ⟨c,at0,gen,last⟩ l=some true:=by
 unfold Zc7;refine Zgf (ZeH.b (P:=fun o=>∃ m,o=.inl m) (ZeH.loop (σ:=Int×List Int) (fun s=>∃ i:Nat,s.1=i∧i≤l.length∧∀ x∈s.2,∃ i',∃ hi:i' < l.length,i' < i∧l[i'].Id=x) (fun s=>l.length-s.1.toNat) (fun s hs=>?_)
  ⟨0,rfl,by omega,fun x hx=>by cases hx⟩ (by show l.length-0<_;omega)) fun o ⟨m,hm⟩=>?_)
 ·obtain ⟨z,m⟩:=s;obtain ⟨i,rfl,hi,hm⟩:=hs;dsimp only at hm ⊢;unfold Ze0
  by_cases hlt:i<l.length
  ·obtain ⟨f1,f2,f3⟩:=h.1 _ (List.getElem_mem hlt);rw [ZeU hlt,Zs,ZB hlt,Zb];dsimp only;have e0:((decide (l[i].Id<(0:Int)))||(decide (l[i].Id≥(at0.length:Int))))=false:=by simp;omega
   rw [e0,Bool.not_false,ZaL,hc.siz,ZcO,Zb];have hr:ZdZ (S:Int)=S-16:=by unfold ZdZ;rw [if_pos ⟨by have:=hg.s24;omega,by have:=hg.s256;omega⟩]
   rw [hr,Zf (by simp;omega)];have hn:l[i].Id∉m:=fun hx=>by
    obtain ⟨i',hi',a,b⟩:=hm _ hx;have:=h.2;rw [List.nodup_iff_pairwise_ne,List.pairwise_iff_getElem] at this;exact this i' i (by simpa using hi') (by simpa using hlt) a (by simpa using b)
   rw [Zf (by simpa using hn),Zb,ZR (by omega),Zb];refine ZeH.l ⟨i+1,rfl,by omega,fun x hx=>?_⟩ (by show l.length-(i+1)<l.length-(i:Int).toNat;omega);unfold putM at hx;rw [if_neg hn] at hx;rcases List.mem_append.1 hx with hx | hx
   ·obtain ⟨i',hi',a,b⟩:=hm x hx;exact ⟨i',hi',by omega,b⟩
   ·rw [List.mem_singleton] at hx;exact ⟨i,hlt,by omega,hx.symm⟩
  ·rw [Zjx (by omega),Zo];exact Za5 ⟨_,rfl⟩
 ·rw [hm,Zaw];exact ZeH.s rfl
end Go.Proofs.YtkmojgfenlgchaaGreatDoor.Tr
namespace Go.Proofs.YtkmojgfenlgchaaGreatDoor.Tr
open Go
theorem Zlj {w:flash_writer} {P nB S:Nat} (hc:CI P nB S w.Vol.Chip) (hg:Geo P nB S) {b:Nat} {z:Int} (hz:z=b) (hb:b<2) :
  ZeH (ZZ w z) (fun v=>(∀ j,j<P→(Zai (pg w.Vol.Chip b j)).2=0→(Zai (pg w.Vol.Chip b j)).1.Gen.toNat≤v.toNat)∧(v=0∨∃ j,j<P∧(Zai (pg w.Vol.Chip b j)).2=0∧(Zai (pg w.Vol.Chip b j)).1.Gen=v)):=by
 have g1:=hg.b5;have hB:=hc.blkR (k:=b) (by omega);have hN:=hc.nat;unfold ZZ;rw [hc.idxB hz (by omega),Zb];refine ZeH.b (P:=fun v=>(∀ j,j<P→(Zai (pg w.Vol.Chip b j)).2=0→(Zai (pg w.Vol.Chip b j)).1.Gen.toNat≤v.toNat)∧(v=0∨∃ j,j<P∧(Zai (pg w.Vol.Chip b j)).2=0∧(Zai (pg w.Vol.Chip b j)).1.Gen=v))
  (ZeH.loop (σ:=UInt64×Int) (fun s=>∃ i:Nat,s.2=i∧i≤P∧(∀ j,j<i→(Zai (pg w.Vol.Chip b j)).2=0→(Zai (pg w.Vol.Chip b j)).1.Gen.toNat≤s.1.toNat)∧(s.1=0∨∃ j,j<P∧(Zai (pg w.Vol.Chip b j)).2=0∧(Zai (pg w.Vol.Chip b j)).1.Gen=s.1))
   (fun s=>P-s.2.toNat) (fun s hs=>?_) ⟨0,rfl,by omega,fun j hj=>by omega,.inl rfl⟩ (by show P-0<_;omega)) fun v hv=>ZeH.s hv
 obtain ⟨g,z⟩:=s;obtain ⟨i,rfl,hi,h1,h2⟩:=hs;dsimp only at h1 h2 ⊢;unfold Zcn
 by_cases hlt:i<P
 ·rw [Zi (by rw [hB.1];simpa using hlt),hc.idxP rfl (by omega) hlt,Zb,Zld,Zb]
  by_cases h0:(Zai (pg w.Vol.Chip b i)).2=0
  ·rw [Zi (by simp [h0]),Zb,ZR (by omega),Zb];have hm:(max64 g (Zai (pg w.Vol.Chip b i)).1.Gen=g∧(Zai (pg w.Vol.Chip b i)).1.Gen.toNat≤g.toNat)∨(max64 g (Zai (pg w.Vol.Chip b i)).1.Gen=(Zai (pg w.Vol.Chip b i)).1.Gen∧g.toNat≤(Zai (pg w.Vol.Chip b i)).1.Gen.toNat):=by
    by_cases hh:g<(Zai (pg w.Vol.Chip b i)).1.Gen
    ·have:=UInt64.lt_iff_toNat_lt.1 hh;exact .inr ⟨by unfold max64;rw [if_pos hh],by omega⟩
    ·have h3:=hh;rw [UInt64.lt_iff_toNat_lt] at h3;exact .inl ⟨by unfold max64;rw [if_neg hh],by omega⟩
   refine ZeH.l ⟨i+1,rfl,by omega,fun j hj hj0=>?_,?_⟩ (by show P-(i+1)<P-(i:Int).toNat;omega)
   ·dsimp only
    by_cases e:j=i
    ·subst e;rcases hm with ⟨a,c⟩ | ⟨a,c⟩ <;> rw [a] <;> omega
    ·have:=h1 j (by omega) hj0;rcases hm with ⟨a,c⟩ | ⟨a,c⟩ <;> rw [a] <;> omega
   ·dsimp only;rcases hm with ⟨a,c⟩ | ⟨a,c⟩
    ·rw [a];exact h2
    ·rw [a];exact .inr ⟨i,hlt,h0,rfl⟩
  ·rw [Zf (by simp [h0]),Zb,ZR (by omega),Zb];refine ZeH.l ⟨i+1,rfl,by omega,fun j hj hj0=>?_,h2⟩ (by show P-(i+1)<P-(i:Int).toNat;omega)
   by_cases e:j=i
   ·subst e;exact absurd hj0 h0
   ·exact h1 j (by omega) hj0
 ·rw [Zf (by rw [hB.1];simp;omega)];have:i=P:=by omega
  subst this;exact Za5 ⟨h1,h2⟩
theorem RI.same {P:Nat} {c c':Chip} {gen:UInt64} {at0:List Int} {last:Int} (h:RI P c gen at0 last) (e:∀ b,b<2→∀ j,j<P→pg c' b j=pg c b j):RI P c' gen at0 last:=by
 obtain ⟨b,j,h1,h2,h3,h4,h5⟩:=h;refine ⟨b,j,h1,h2,h3,by rw [e b h2 j h3];exact h4,fun b' j' hb hj h0=>?_⟩;rw [e b' hb j' hj] at h0 ⊢;exact h5 b' j' hb hj h0
theorem RI.sub {P nB S:Nat} {c c':Chip} {gen:UInt64} {at0:List Int} {last:Int} (h:RI P c gen at0 last) (hg:Geo P nB S) (e:∀ b j:Nat,b<2→j<P→(last=b→Zai (pg c b j)=(⟨gen,at0⟩,0)→pg c' b j=pg c b j)∧(pg c' b j=pg c b j∨pg c' b j=Zcs S)) :
  RI P c' gen at0 last:=by
 obtain ⟨b,j,h1,h2,h3,h4,h5⟩:=h;refine ⟨b,j,h1,h2,h3,by rw [(e b j h2 h3).1 h1 h4];exact h4,fun b' j' hb hj h0=>?_⟩;rcases (e b' j' hb hj).2 with a | a
 ·rw [a] at h0 ⊢;exact h5 b' j' hb hj h0
 ·rw [a,ZiU hg.s24 hg.s256] at h0;cases h0
theorem pos_lt {P b j b' j':Nat} (hj:j<P) (hj':j' < P) (h:b' * P+j'≤b*P+j):b'≤b:=by
 rcases Nat.lt_or_ge b b' with x | x
 ·have:(b+1)*P≤b' * P:=Nat.mul_le_mul_right _ (by omega);rw [Nat.add_mul] at this;omega
 ·exact x
theorem RI.new {P:Nat} {c c':Chip} {gen gen':UInt64} {at0 at':List Int} {last:Int} (h:RI P c gen at0 last) (hn:gen.toNat<gen'.toNat) {k u:Nat} (hk:k<2) (hu:u<P) (hr:Zai (pg c' k u)=(⟨gen',at'⟩,0))
  (e:∀ b j,b<2→j<P→¬ (b=k∧j=u)→pg c' b j=pg c b j):RI P c' gen' at' k:=by
 obtain ⟨b,j,h1,h2,h3,h4,h5⟩:=h;refine ⟨k,u,rfl,hk,hu,hr,fun b' j' hb hj h0=>?_⟩
 by_cases hh:b'=k∧j'=u
 ·obtain ⟨rfl,rfl⟩:=hh;rw [hr];exact ⟨Nat.le_refl _,fun _=>Nat.le_refl _⟩
 ·rw [e b' j' hb hj hh] at h0 ⊢;have:=(h5 b' j' hb hj h0).1;exact ⟨by omega,fun x=>by omega⟩
theorem RI.again {P:Nat} {c c':Chip} {gen':UInt64} {at':List Int} {last:Int} (h:RI P c gen' at' last) {k u:Nat} (hk:k<2) (hu:u<P) (hr:Zai (pg c' k u)=(⟨gen',at'⟩,0)) (h6:(Zai (pg c k u)).2≠0)
  (e:∀ b j,b<2→j<P→¬ (b=k∧j=u)→pg c' b j=pg c b j):∃ l'',(l''=last∨l''=(k:Int))∧RI P c' gen' at' l'':=by
 obtain ⟨b,j,h1,h2,h3,h4,h5⟩:=h;have hne:¬ (b=k∧j=u):=fun ⟨x,y⟩=>by subst x;subst y;rw [h4] at h6;exact h6 rfl
 by_cases hp:b*P+j≤k*P+u
 ·refine ⟨k,.inr rfl,k,u,rfl,hk,hu,hr,fun b' j' hb hj h0=>?_⟩
  by_cases hh:b'=k∧j'=u
  ·obtain ⟨rfl,rfl⟩:=hh;rw [hr];exact ⟨Nat.le_refl _,fun _=>Nat.le_refl _⟩
  ·rw [e b' j' hb hj hh] at h0 ⊢;have:=h5 b' j' hb hj h0;exact ⟨this.1,fun x=>Nat.le_trans (this.2 x) hp⟩
 ·refine ⟨last,.inl rfl,b,j,h1,h2,h3,by rw [e b j h2 h3 hne];exact h4,fun b' j' hb hj h0=>?_⟩
  by_cases hh:b'=k∧j'=u
  ·obtain ⟨rfl,rfl⟩:=hh;rw [hr];exact ⟨Nat.le_refl _,fun _=>by omega⟩
  ·rw [e b' j' hb hj hh] at h0 ⊢;exact h5 b' j' hb hj h0
theorem RI.which {P:Nat} {c:Chip} {gen':UInt64} {at':List Int} {l:Int} (h:RI P c gen' at' l) (hg0:gen'.toNat≠0) {k u:Nat} (hk:k<2) (hu:u<P) (hr:Zai (pg c k u)=(⟨gen',at'⟩,0)) {v:UInt64}
  (h1:∀ j,j<P→(Zai (pg c 1 j)).2=0→(Zai (pg c 1 j)).1.Gen.toNat≤v.toNat) (h2:v=0∨∃ j,j<P∧(Zai (pg c 1 j)).2=0∧(Zai (pg c 1 j)).1.Gen=v):(if v=gen' then (1:Int) else (k:Int))=l:=by
 obtain ⟨b,j,a1,a2,a3,a4,a5⟩:=h
 by_cases hv:v=gen'
 ·rw [if_pos hv];rcases h2 with e | ⟨j',b1,b2,b3⟩
  ·rw [hv] at e;rw [e] at hg0;exact absurd rfl hg0
  ·have:=(a5 1 j' (by omega) b1 b2).2 (by rw [b3,hv]);have:=pos_lt a3 b1 this;omega
 ·rw [if_neg hv];have hle:v.toNat≤gen'.toNat:=by
   rcases h2 with e | ⟨j',b1,b2,b3⟩
   ·rw [e];exact Nat.zero_le _
   ·rw [← b3];exact (a5 1 j' (by omega) b1 b2).1
  have hno:∀ j',j' < P→Zai (pg c 1 j')≠(⟨gen',at'⟩,0):=fun j' hj' e=>by
   have:=h1 j' hj' (by rw [e]);rw [e] at this;dsimp only at this;exact hv (UInt64.toNat_inj.1 (by omega))
  have hb:b=0:=by
   rcases Nat.lt_or_ge b 1 with x | x
   ·omega
   ·have:b=1:=by omega
    subst this;exact absurd a4 (hno j a3)
  have hk0:k=0:=by
   rcases Nat.lt_or_ge k 1 with x | x
   ·omega
   ·have:k=1:=by omega
    subst this;exact absurd hr (hno u hu)
  omega
theorem freeV_pos {P:Nat} {b:Block}:0<freeV P b↔b.Bad=false∧b.Used<P:=by
 unfold freeV;cases b.Bad <;> simp <;> omega
theorem rootBlock_get {w:flash_writer} {P nB S:Nat} (hc:CI P nB S w.Vol.Chip) (hg:Geo P nB S) (ho:w.Vol.Chip.Off=false) {L:Nat} (hL:w.Vol.Last=L) (hL2:L<2) (hops:w.Vol.Chip.Ops<Zcz) :
  ZeH (Za2 w) (fun r=>(∃ k:Nat,r=((k:Int),0,w)∧k<2∧(blk w.Vol.Chip k).Bad=false∧(blk w.Vol.Chip k).Used<P)∨
   (r=(0,9,w)∧(blk w.Vol.Chip (1-L)).Bad=true)∨(∃ c' e,r=(((1-L:Nat):Int),e,wch w c')∧(blk w.Vol.Chip (1-L)).Bad=false∧EraseF P nB S w.Vol.Chip c' (1-L) e)):=by
 have g1:=hg.b5;have ho1:(1:Int)-w.Vol.Last=((1-L:Nat):Int):=by omega
 unfold Za2;rw [ZaO (by omega) (by omega),Zb,ho1];have hf0:=ZkS (w:=w) hL hc (k:=L) (by omega);have hf1:=ZkS (w:=w) (z:=((1-L:Nat):Int)) rfl hc (k:=1-L) (by omega)
 by_cases f0:0<freeV P (blk w.Vol.Chip L)
 ·have s0:ZD w ((1-L:Nat):Int) 0=some (.inr (.inr (w.Vol.Last,0,w))):=by
   unfold ZD;rw [Zi (by simp),show idx [w.Vol.Last,((1-L:Nat):Int)] (0:Int)=some w.Vol.Last from rfl,Zb,hf0,Zb,Zi (by simpa using f0)]
  rw [Zhy (e:=.inr (w.Vol.Last,0,w)) 1 (by omega) (Zem s0),Zb,Zbp];exact ZeH.s (.inl ⟨L,by rw [hL],hL2,freeV_pos.1 f0⟩)
 ·have s0:ZD w ((1-L:Nat):Int) 0=some (.inl 1):=by
   unfold ZD;rw [Zi (by simp),show idx [w.Vol.Last,((1-L:Nat):Int)] (0:Int)=some w.Vol.Last from rfl,Zb,hf0,Zb,Zf (by simpa using f0),Zaa (by omega) (by omega),Zb];rfl
  by_cases f1:0<freeV P (blk w.Vol.Chip (1-L))
  ·have s1:ZD w ((1-L:Nat):Int) 1=some (.inr (.inr (((1-L:Nat):Int),0,w))):=by
    unfold ZD;rw [Zi (by simp),show idx [w.Vol.Last,((1-L:Nat):Int)] (1:Int)=some ((1-L:Nat):Int) from rfl,Zb,hf1,Zb,Zi (by simpa using f1)]
   rw [Zhy (e:=.inr (((1-L:Nat):Int),0,w)) 2 (by omega) (by rw [ZdC s0,Zem s1]),Zb,Zbp];exact ZeH.s (.inl ⟨1-L,rfl,by omega,freeV_pos.1 f1⟩)
  ·have s1:ZD w ((1-L:Nat):Int) 1=some (.inl 2):=by
    unfold ZD;rw [Zi (by simp),show idx [w.Vol.Last,((1-L:Nat):Int)] (1:Int)=some ((1-L:Nat):Int) from rfl,Zb,hf1,Zb,Zf (by simpa using f1),Zaa (by omega) (by omega),Zb];rfl
   have s2:ZD w ((1-L:Nat):Int) 2=some (.inr (.inl ())):=by
    unfold ZD;rw [Zf (by simp)]
   rw [Zhy (e:=.inl ()) 3 (by omega) (by rw [ZdC s0,ZdC s1,Zem s2]),Zb,Zaw,hc.idxB (z:=((1-L:Nat):Int)) rfl (by omega),Zb];cases hb:(blk w.Vol.Chip (1-L)).Bad
   ·rw [Zo];refine ZeH.b (erase_ff (z:=((1-L:Nat):Int)) rfl hc ho (by omega) hb hops) fun r ⟨c',e,h1,h2⟩=>?_
    subst h1;exact ZeH.s (.inr (.inr ⟨c',e,rfl,rfl,h2⟩))
   ·rw [Zs];exact ZeH.s (.inr (.inl ⟨rfl,rfl⟩))
end Go.Proofs.YtkmojgfenlgchaaGreatDoor.Tr
namespace Go.Proofs.YtkmojgfenlgchaaGreatDoor.Tr
open Go
def ZhB (c:Chip):Nat:=(if (blk c 0).Bad then 0 else 1)+(if (blk c 1).Bad then 0 else 1)
theorem goodR_le (c:Chip):ZhB c≤2:=by unfold ZhB;split <;> split <;> omega
theorem goodR_less {c c':Chip} {k:Nat} (hk:k<2) (h0:(blk c k).Bad=false) (h1:(blk c' k).Bad=true) (ho:∀ i,i≠k→blk c' i=blk c i):ZhB c' + 1=ZhB c:=by
 unfold ZhB;rcases (show k=0∨k=1 by omega) with rfl | rfl
 ·rw [h0,h1,ho 1 (by omega)];simp;omega
 ·rw [h0,h1,ho 0 (by omega)];simp
theorem goodR_same {c c':Chip} {k:Nat} (h0:(blk c k).Bad=false) (h1:(blk c' k).Bad=false) (ho:∀ i,i≠k→blk c' i=blk c i):ZhB c'=ZhB c:=by
 have:∀ i,(blk c' i).Bad=(blk c i).Bad:=fun i=>by
  by_cases e:i=k
  ·subst e;rw [h0,h1]
  ·rw [ho i e]
 unfold ZhB;rw [this,this]
theorem Zmj {c c':Chip} {i j:Nat} (h:blk c' i=blk c i):pg c' i j=pg c i j:=by unfold pg;rw [h]
structure WS (P nB S:Nat) (c0:Chip) (gen:UInt64) (at0:List Int) (last:Int) (gen':UInt64) (at':List Int) (d:Int) (c2:Chip):Prop where
 ci:CI P nB S c2
 off:c2.Off=false
 flt:c2.Faults=c0.Faults
 oth:∀ i,2≤i→blk c2 i=blk c0 i
 many:Zal c0≤Zal c2
 nf:c0.Faults=[]→Zal c0=0→Zal c2=0
 ops:c0.Ops≤c2.Ops∧c2.Ops+2*(ZhB c2:Int)≤c0.Ops+d
 st:RI P c2 gen at0 last∨∃ l:Nat,RI P c2 gen' at' l∧(blk c2 l).Bad=true∧c0.Ops+1≤c2.Ops
structure WrF (P nB S:Nat) (c c':Chip) (e:Int):Prop where
 ci:CI P nB S c'
 ops:c.Ops≤c'.Ops∧c'.Ops≤c.Ops+8
 off:c'.Off=decide (e=7)
 flt:c'.Faults=c.Faults
 oth:∀ i,2≤i→blk c' i=blk c i
 many:Zal c≤Zal c'
 nf:c.Faults=[]→Zal c=0→e=0∧Zal c'=0
def WrOut (P nB S:Nat) (w:flash_writer) (at':List Int) (r:Int×flash_writer):Prop:=
 ∃ c' e,WrF P nB S w.Vol.Chip c' e∧((e=0∧w.Vol.Chip.Ops+1≤c'.Ops∧∃ last',r=(0,⟨⟨c',at',w.Vol.Gen+1,last'⟩,w.beyond⟩)∧RI P c' (w.Vol.Gen+1) at' last')∨
  ((e=7∨e=9)∧r=(e,wch w c')∧(RI P c' w.Vol.Gen w.Vol.At w.Vol.Last∨∃ l',RI P c' (w.Vol.Gen+1) at' l'∧w.Vol.Chip.Ops+1≤c'.Ops)))
theorem write_prog {w:flash_writer} {at':List Int} {P nB S:Nat} {b:List UInt8} (hg:Geo P nB S) (hb:b.length=S) (hb2:Zai b=(⟨w.Vol.Gen+1,at'⟩,0)) (hG:(w.Vol.Gen+1).toNat=w.Vol.Gen.toNat+1) (hops:w.Vol.Chip.Ops+8≤Zcz)
  {c2:Chip} (h:WS P nB S w.Vol.Chip w.Vol.Gen w.Vol.At w.Vol.Last (w.Vol.Gen+1) at' 5 c2) {k:Nat} {z:Int} (hz:z=k) (hk:k<2) (hbad:(blk c2 k).Bad=false) (hu:(blk c2 k).Used<P) :
  ZeH (ZK (wch w c2) z b) (fun r=>∃ c3 e,r=(e,wch w c3)∧
   (∃ h9:e=0∨e=7∨e=9,(e=9→WS P nB S w.Vol.Chip w.Vol.Gen w.Vol.At w.Vol.Last (w.Vol.Gen+1) at' 4 c3∧ZhB c3<ZhB c2)∧
    WrF P nB S w.Vol.Chip c3 e∧w.Vol.Chip.Ops+1≤c3.Ops∧(RI P c3 w.Vol.Gen w.Vol.At w.Vol.Last∨∃ l',RI P c3 (w.Vol.Gen+1) at' l')∧(e=0→∃ u l',u<P∧Zai (pg c3 k u)=(⟨w.Vol.Gen+1,at'⟩,0)∧RI P c3 (w.Vol.Gen+1) at' l'))):=by
 have g1:=hg.b5;have hk2:k<nB:=by omega
 have hB:=h.ci.blkR hk2;have hops':=h.ops;have hgr:=goodR_le c2;unfold Zcz at hops;refine (Zh9 (w:=wch w c2) hz h.ci h.off hk2 hbad hu hb (by show c2.Ops<Zcz;unfold Zcz;omega)).m fun r ⟨c3,e,hr,g⟩=>?_
 have gops:c3.Ops=c2.Ops+1:=g.ops;have goth:∀ i,i≠k→blk c3 i=blk c2 i:=g.oth;have gused:(blk c3 k).Used=(blk c2 k).Used+1:=g.used;have gpgo:∀ j:Nat,(j:Int)≠(blk c2 k).Used→pg c3 k j=pg c2 k j:=g.pgo;have gfl:c3.Faults=c2.Faults:=g.flt;have gnf:c2.Faults=[]→e=0:=g.nf;have gmany:Zal c3=Zal c2+if e=9 then 1 else 0:=g.many;obtain ⟨q,hq1,hq2,hq3⟩:=g.pgn;have hq3:pg c3 k (blk c2 k).Used.toNat=q:=hq3
 -- the number of the page
 have hun:(blk c2 k).Used.toNat<P:=by omega
 have hoth:∀ b j,b<2→j<P→¬ (b=k∧j=(blk c2 k).Used.toNat)→pg c3 b j=pg c2 b j:=fun b' j hb' hj hn=>by
  by_cases e:b'=k
  ·subst e;exact gpgo j (by omega)
  ·exact Zmj (goth b' e)
 have hbl:pg c2 k (blk c2 k).Used.toNat=Zcs S:=h.ci.blank k hk2 _ (by omega) hun;have hbr:(Zai (pg c2 k (blk c2 k).Used.toNat)).2≠0:=by rw [hbl,ZiU hg.s24 hg.s256];decide
 have hst:(q=b→∃ l',RI P c3 (w.Vol.Gen+1) at' l'∧∃ l:Nat,l'=l∧((blk c2 l).Bad=true∨l=k))∧(q=Zcs S→RI P c3 w.Vol.Gen w.Vol.At w.Vol.Last∨∃ l:Nat,RI P c3 (w.Vol.Gen+1) at' l∧(blk c2 l).Bad=true):=by
  refine ⟨fun hq=>?_,fun hq=>?_⟩
  ·have hrd:Zai (pg c3 k (blk c2 k).Used.toNat)=(⟨w.Vol.Gen+1,at'⟩,0):=by rw [hq3,hq,hb2]
   rcases h.st with h1 | ⟨l,h1,h2,_⟩
   ·exact ⟨_,RI.new h1 (by omega) hk hun hrd hoth,k,rfl,.inr rfl⟩
   ·obtain ⟨l'',a,b⟩:=RI.again h1 hk hun hrd hbr hoth;rcases a with rfl | rfl
    ·exact ⟨_,b,l,rfl,.inl h2⟩
    ·exact ⟨_,b,k,rfl,.inr rfl⟩
  ·have hsub:∀ (gn:UInt64) (al:List Int) (la:Int),RI P c2 gn al la→RI P c3 gn al la:=fun gn al la hri=>by
    refine hri.sub hg fun b' j hb' hj=>?_
    by_cases hn:b'=k∧j=(blk c2 k).Used.toNat
    ·obtain ⟨rfl,rfl⟩:=hn;exact ⟨fun _ x=>by rw [x] at hbr;exact absurd rfl hbr,.inr (by rw [hq3,hq])⟩
    ·have:=hoth b' j hb' hj hn;exact ⟨fun _ _=>this,.inl this⟩
   rcases h.st with h1 | ⟨l,h1,h2,_⟩
   ·exact .inl (hsub _ _ _ h1)
   ·exact .inr ⟨l,hsub _ _ _ h1,h2⟩
 have hWF:WrF P nB S w.Vol.Chip c3 e:=⟨g.ci,by omega,g.off,gfl.trans h.flt,fun i hi=>(goth i (by omega)).trans (h.oth i hi),by rw [gmany];have:=h.many;omega,fun a b=>by
  have e0:=gnf (h.flt.trans a);subst e0;exact ⟨rfl,by rw [gmany,h.nf a b];rfl⟩⟩
 have hO1:w.Vol.Chip.Ops+1≤c3.Ops:=by omega
 refine ⟨c3,e,hr,g.err,fun e9=>?_,hWF,hO1,?_,fun e0=>?_⟩
 ·subst e9;have hlt:=goodR_less (c:=c2) (c':=c3) hk hbad (by rw [g.bad];rfl) goth;refine ⟨⟨g.ci,by rw [g.off];rfl,gfl.trans h.flt,fun i hi=>(goth i (by omega)).trans (h.oth i hi),hWF.many,fun a b=>(hWF.nf a b).2,by omega,?_⟩,by omega⟩;have hkb:(blk c3 k).Bad=true:=by rw [g.bad];rfl
  have hkeep:∀ l:Nat,(blk c2 l).Bad=true→(blk c3 l).Bad=true:=fun l hl=>by
   by_cases e:l=k
   ·subst e;exact hkb
   ·rw [goth l e];exact hl
  rcases hq1 with hq | hq
  ·obtain ⟨l',a,l,rfl,b⟩:=hst.1 hq;refine .inr ⟨l,a,?_,hO1⟩;rcases b with b | rfl
   ·exact hkeep l b
   ·exact hkb
  ·rcases hst.2 hq with a | ⟨l,a,b⟩
   ·exact .inl a
   ·exact .inr ⟨l,a,hkeep l b,hO1⟩
 ·rcases hq1 with hq | hq
  ·obtain ⟨l',a,_⟩:=hst.1 hq;exact .inr ⟨l',a⟩
  ·rcases hst.2 hq with a | ⟨l,a,b⟩
   ·exact .inl a
   ·exact .inr ⟨_,a⟩
 ·obtain ⟨l',a,_⟩:=hst.1 (hq2 e0);exact ⟨_,l',hun,by rw [hq3,hq2 e0,hb2],a⟩
theorem write_get {w:flash_writer} {at':List Int} {P nB S:Nat} (hc:CI P nB S w.Vol.Chip) (hg:Geo P nB S) (ho:w.Vol.Chip.Off=false) (hr:RI P w.Vol.Chip w.Vol.Gen w.Vol.At w.Vol.Last) (hm:RMay ⟨w.Vol.Gen+1,at'⟩ S) (hG:w.Vol.Gen.toNat<1000000000000000)
  (hops:w.Vol.Chip.Ops+8≤Zcz):ZeH (Zbk w at') (WrOut P nB S w at'):=by
 have g1:=hg.b5;have hG1:(w.Vol.Gen+1).toNat=w.Vol.Gen.toNat+1:=by rw [UInt64.toNat_add];show (w.Vol.Gen.toNat+1) % _=_;omega
 have hp:=Zmh hm;have hlen:=(ZiH (n:=S) hp rfl).1;have hrd:=Zj2 (n:=S) hm;unfold Zbk;rw [Zb,hc.siz,show (⟨w.Vol.Gen+UInt64.ofNat 1,at'⟩:Roots)=⟨w.Vol.Gen+1,at'⟩ from rfl,Zmg,Zb];have hput:RPutV ⟨w.Vol.Gen+1,at'⟩ (S:Int)=(Zbx (Zby (Zju ⟨w.Vol.Gen+1,at'⟩) S),0):=by
  unfold RPutV PutV;rw [if_pos hm,if_pos hp,Int.toNat_natCast]
 rw [hput,Zf (by simp),show w.Vol.Gen+UInt64.ofNat 1=w.Vol.Gen+1 from rfl];obtain ⟨L,jL,hL1,hL2,-⟩:=id hr;refine ZeH.loop (fun s=>∃ c2,s=wch w c2∧WS P nB S w.Vol.Chip w.Vol.Gen w.Vol.At w.Vol.Last (w.Vol.Gen+1) at' 4 c2) (fun s=>ZhB s.Vol.Chip) (fun s hs=>?_)
  ⟨w.Vol.Chip,rfl,hc,ho,rfl,fun _ _=>rfl,Nat.le_refl _,fun _ x=>x,by have:=goodR_le w.Vol.Chip;omega,.inl hr⟩ (by have:=goodR_le w.Vol.Chip;show ZhB w.Vol.Chip<_;omega)
 obtain ⟨c2,rfl,h⟩:=hs;unfold ZcT;have hops2:=h.ops;unfold Zcz at hops
 -- what is done behind the choice of the block
 have key:∀ c3:Chip,∀ k:Nat,k<2→WS P nB S w.Vol.Chip w.Vol.Gen w.Vol.At w.Vol.Last (w.Vol.Gen+1) at' 5 c3→(blk c3 k).Bad=false→(blk c3 k).Used<P→ZhB c3≤ZhB c2→∀ x:Int×Int×flash_writer,x=((k:Int),0,wch w c3)→
   ZeH (bif (decide (x.2.1≠(0:Int))) then (some (.inr (x.2.1,x.2.2)):Option (flash_writer⊕(Int×flash_writer))) else ((ZK x.2.2 x.1 (Zbx (Zby (Zju ⟨w.Vol.Gen+1,at'⟩) S),(0:Int)).1).bind fun x_7=>bif (decide (x_7.1=(0:Int))) then (((ZZ x_7.2 (1:Int)).bind fun x_11=>bif (decide (x_11=w.Vol.Gen+1)) then (some (1:Int)) else (some x.1)).bind fun block_9=>(some ((⟨(⟨x_7.2.Vol.Chip,at',w.Vol.Gen+1,block_9⟩:Vol),x_7.2.beyond⟩:flash_writer):flash_writer)).bind fun l_12=>some (.inr ((0:Int),l_12))) else (bif (decide (x_7.1≠(9:Int))) then (some (.inr (x_7.1,x_7.2))) else (some (.inl x_7.2)))))
    (fun x=>(∃ s',x=.inl s'∧(∃ c2,s'=wch w c2∧WS P nB S w.Vol.Chip w.Vol.Gen w.Vol.At w.Vol.Last (w.Vol.Gen+1) at' 4 c2)∧ZhB s'.Vol.Chip<ZhB c2)∨∃ e,x=.inr e∧WrOut P nB S w at' e):=by
  intro c3 k hk h3 hb hu hle x hx;subst hx;dsimp only;rw [Zf (by simp)];refine ZeH.b (write_prog hg hlen hrd hG1 (by unfold Zcz;omega) h3 rfl hk hb hu) fun r ⟨c4,e,hr',he,h9,hW,hO1,hst,h0⟩=>?_
  subst hr';dsimp only
  by_cases e0:e=0
  ·subst e0;rw [Zi (by simp)];obtain ⟨u,l',hu',hrd',hri'⟩:=h0 rfl;refine ZeH.b (P:=fun v=>v=l') (ZeH.b (Zlj (w:=wch w c4) hW.ci hg (b:=1) (z:=1) rfl (by omega)) fun v ⟨v1,v2⟩=>?_) fun v hv=>?_
   ·have hwh:=RI.which hri' (by omega) hk hu' hrd' v1 v2
    by_cases hvg:v=w.Vol.Gen+1
    ·rw [Zi (by simpa using hvg)];rw [if_pos hvg] at hwh;exact ZeH.s hwh
    ·rw [Zf (by simpa using hvg)];rw [if_neg hvg] at hwh;exact ZeH.s hwh
   ·subst hv;rw [Zb];exact Za5 ⟨c4,0,hW,.inl ⟨rfl,hO1,_,rfl,hri'⟩⟩
  ·rw [Zf (by simpa using e0)]
   by_cases e9:e=9
   ·rw [Zf (by simpa using e9)];obtain ⟨a,b⟩:=h9 e9;exact ZeH.l ⟨c4,rfl,a⟩ (by show ZhB c4<ZhB c2;omega)
   ·rw [Zi (by simpa using e9)];exact Za5 ⟨c4,e,hW,.inr ⟨he.resolve_left e0,rfl,hst.imp id fun ⟨l',a⟩=>⟨l',a,hO1⟩⟩⟩
 refine ZeH.b (rootBlock_get (w:=wch w c2) (L:=L) h.ci hg h.off hL1 hL2 (by show c2.Ops<Zcz;unfold Zcz;omega)) fun x hx=>?_
 have weak:WS P nB S w.Vol.Chip w.Vol.Gen w.Vol.At w.Vol.Last (w.Vol.Gen+1) at' 5 c2:=⟨h.ci,h.off,h.flt,h.oth,h.many,h.nf,by omega,h.st⟩;rcases hx with ⟨k,hx,hk,hb,hu⟩ | ⟨hx,hb⟩ | ⟨c3,e,hx,hb,g⟩
 ·exact key c2 k hk weak hb hu (Nat.le_refl _) x hx
 ·subst hx;rw [Zi (by simp)];refine Za5 ⟨c2,9,⟨h.ci,by omega,by rw [h.off];rfl,h.flt,h.oth,h.many,fun a b=>?_⟩,.inr ⟨.inr rfl,rfl,?_⟩⟩
  ·have:=ZlU h.ci (k:=1-L) (by omega) (h.nf a b);rw [show (blk c2 (1-L)).Bad=true from hb] at this;cases this
  ·rcases h.st with a | ⟨l,a,_,b⟩
   ·exact .inl a
   ·exact .inr ⟨_,a,b⟩
 ·have hb:(blk c2 (1-L)).Bad=false:=hb;have gops:c3.Ops=c2.Ops+1:=g.ops;have goth:∀ i,i≠1-L→blk c3 i=blk c2 i:=g.oth;have gfl:c3.Faults=c2.Faults:=g.flt;have gnf:c2.Faults=[]→e=0:=g.nf;have gmany:Zal c3=Zal c2+if e=9 then 1 else 0:=g.many;have gpg:(∀ j,j<P→pg c3 (1-L) j=Zcs S)∨(e≠0∧∀ j,pg c3 (1-L) j=pg c2 (1-L) j):=g.pgs;have hsub:∀ (gn:UInt64) (al:List Int) (la:Nat),la≠1-L→RI P c2 gn al la→RI P c3 gn al la:=fun gn al la hla hri=>by
   refine hri.sub hg fun b' j hb' hj=>?_
   by_cases hn:b'=1-L
   ·subst hn;refine ⟨fun x=>by omega,?_⟩;rcases gpg with a | ⟨_,a⟩
    ·exact .inr (a j hj)
    ·exact .inl (a j)
   ·have:=Zmj (j:=j) (goth b' hn);exact ⟨fun _ _=>this,.inl this⟩
  have hst:RI P c3 w.Vol.Gen w.Vol.At w.Vol.Last∨∃ l:Nat,RI P c3 (w.Vol.Gen+1) at' l∧(blk c3 l).Bad=true∧w.Vol.Chip.Ops+1≤c3.Ops:=by
   rcases h.st with a | ⟨l,a,b,bo⟩
   ·left
    rw [hL1] at a ⊢;exact hsub _ _ L (by omega) a
   ·have hne:l≠1-L:=fun x=>by subst x;rw [hb] at b;cases b
    exact .inr ⟨l,hsub _ _ l hne a,by rw [goth l hne];exact b,by omega⟩
  by_cases e0:e=0
  ·subst e0;have gu:(blk c3 (1-L)).Used=if (0:Int)=0 then 0 else (P:Int):=g.used;have gb:(blk c3 (1-L)).Bad=decide ((0:Int)=9):=g.bad;have hsm:=goodR_same (c:=c2) (c':=c3) hb (by rw [gb];rfl) goth;have:=hg.p2;refine key c3 (1-L) (by omega) ⟨g.ci,by rw [g.off];rfl,gfl.trans h.flt,fun i hi=>(goth i (by omega)).trans (h.oth i hi),by rw [gmany];exact h.many,fun a b=>by rw [gmany,h.nf a b];rfl,by omega,hst⟩ (by rw [gb];rfl) (by rw [gu,if_pos rfl];omega) (by omega) x hx
  ·subst hx;dsimp only;rw [Zi (by simpa using e0)];refine Za5 ⟨c3,e,⟨g.ci,by omega,g.off,gfl.trans h.flt,fun i hi=>(goth i (by omega)).trans (h.oth i hi),by rw [gmany];have:=h.many;omega,fun a b=>absurd (gnf (h.flt.trans a)) e0⟩,.inr ⟨?_,rfl,?_⟩⟩
   ·have:=g.err;omega
   ·rcases hst with a | ⟨l,a,_,b⟩
    ·exact .inl a
    ·exact .inr ⟨_,a,b⟩
end Go.Proofs.YtkmojgfenlgchaaGreatDoor.Tr
namespace Go.Proofs.YtkmojgfenlgchaaGreatDoor.Tr
open Go
def WOk (p:Int) (w:Wear):Prop:=0≤w.Live∧w.Live≤w.Used∧w.Used≤p∧0≤w.Worn∧w.Worn≤1099511627776
instance {p:Int} {w:Wear}:Decidable (WOk p w):=by unfold WOk;exact inferInstance
def ZcK (l:List Wear) (p:Int):Prop:=(1≤l.length∧l.length≤32∧1≤p∧p≤16)∧∀ w∈l,WOk p w
instance {l:List Wear} {p:Int}:Decidable (ZcK l p):=by unfold ZcK;exact inferInstance
theorem ZjP (l:List Wear) (p:Int):Zfq l p=some (decide (ZcK l p)):=by
 unfold Zfq
 by_cases h:1≤l.length∧l.length≤32∧1≤p∧p≤16
 ·have hc:((((decide ((l.length:Int)<(1:Int)))||(decide ((l.length:Int)>(32:Int))))||(decide (p<(1:Int))))||(decide (p>(16:Int))))=false:=by
   simp;omega
  rw [hc,Zo];obtain ⟨e,he,hR⟩:=Zie (f:=fun s=>Ze7 l p s) (I:=fun s=>∃ i:Nat,s=i∧i≤l.length∧∀ k,(hk:k<l.length)→k<i→WOk p l[k]) (μ:=fun s=>(l.length-s).toNat)
   (R:=fun e=>(e=.inl ()∧∀ w∈l,WOk p w)∨(e=.inr false∧¬ ∀ w∈l,WOk p w)) (by
    rintro s ⟨i,rfl,hi,hk⟩;unfold Ze7
    by_cases hil:i<l.length
    ·rw [ZB hil]
     by_cases hw:WOk p l[i]
     ·left
      refine ⟨_,?_,⟨i+1,rfl,by omega,fun k hk1 hk2=>?_⟩,by omega⟩
      ·have:(((((decide (l[i].Live<(0:Int)))||(decide (l[i].Live>l[i].Used)))||(decide (l[i].Used>p)))||(decide (l[i].Worn<(0:Int))))||(decide (l[i].Worn>(1099511627776:Int))))=false:=by
        unfold WOk at hw;simp;omega
       simp only [Zb,this,Zo,Zfk (show i<9223372036854775807 by omega)];simp [hil]
      ·by_cases e:k=i
       ·subst e;exact hw
       ·exact hk k hk1 (by omega)
     ·right
      refine ⟨.inr false,?_,.inr ⟨rfl,fun h=>hw (h _ (List.getElem_mem hil))⟩⟩;have:(((((decide (l[i].Live<(0:Int)))||(decide (l[i].Live>l[i].Used)))||(decide (l[i].Used>p)))||(decide (l[i].Worn<(0:Int))))||(decide (l[i].Worn>(1099511627776:Int))))=true:=by
       unfold WOk at hw;simp;omega
      simp only [Zb,this,Zs];simp [hil]
    ·right
     refine ⟨.inl (),by simp [hil],.inl ⟨rfl,fun w hw=>?_⟩⟩;obtain ⟨k,hk1,rfl⟩:=List.getElem_of_mem hw;exact hk k hk1 (by omega)) (s:=(0:Int)) ⟨0,rfl,by omega,fun k _ hk=>by omega⟩ (by omega)
  rw [he];rcases hR with ⟨rfl,hR⟩ | ⟨rfl,hR⟩
  ·have:ZcK l p:=⟨h,hR⟩;simp [Zaw,Zbp,this]
  ·have:¬ ZcK l p:=fun x=>hR x.2
   simp [Zaw,Zbp,this]
 ·have hc:((((decide ((l.length:Int)<(1:Int)))||(decide ((l.length:Int)>(32:Int))))||(decide (p<(1:Int))))||(decide (p>(16:Int))))=true:=by
   simp;omega
  rw [hc,Zs];have:¬ ZcK l p:=fun x=>h x.1
  simp [this]
def IsFirst (l:List Wear) (R:Wear→Bool) (lt:Wear→Wear→Bool) (i:Nat):Prop:=
 ∃ h:i<l.length,R l[i]=true∧∀ k,(hk:k<l.length)→R l[k]=true→lt l[k] l[i]=false∧(k<i→lt l[i] l[k]=true)
structure Swo (lt:Wear→Wear→Bool):Prop where
 irr:∀ a,lt a a=false
 trans:∀ a b c,lt a b=true→lt b c=true→lt a c=true
 neg:∀ a b c,lt c b=true→lt a b=false→lt c a=true
def ZhS (l:List Wear) (p:Int) (R:Wear→Bool) (lt:Wear→Wear→Bool) (r:Int×Bool):Prop:=
 (ZcK l p∧∃ i:Nat,r=((i:Int),true)∧IsFirst l R lt i)∨(r=((0:Int),false)∧(ZcK l p→∀ k,(hk:k<l.length)→R l[k]=false))
def FirstI (l : List Wear) (R : Wear → Bool) (lt : Wear → Wear → Bool) (s : Int × Bool × Int) : Prop :=
  ∃ i : Nat, s.2.2 = i ∧ i ≤ l.length ∧ ((s.1 = 0 ∧ s.2.1 = false ∧ ∀ k, (hk : k < l.length) → k < i → R l[k] = false) ∨
        (s.2.1 = true ∧ ∃ j : Nat, s.1 = j ∧ ∃ hj : j < l.length, j < i ∧ R l[j] = true ∧ ∀ k, (hk : k < l.length) → k < i → R l[k] = true → lt l[k] l[j] = false ∧ (k < j → lt l[j] l[k] = true)))
theorem Zl3 (l:List Wear) (p:Int) (rule:F1 Tryz.prog wear_block Bool) (orders:List (F2 Tryz.prog wear_block wear_block Int)) (R:Wear→Bool) (lt:Wear→Wear→Bool)
  (hR:∀ w,rule.f ⟨w,p⟩=some (R w)) (hO:∀ a b,Zea ⟨a,p⟩ ⟨b,p⟩ orders=some (lt a b)) (hs:Swo lt) (hw:ZcK l p) (s:Int×Bool×Int) (hI:FirstI l R lt s) :
  (∃ s',Zc3 l p rule orders s.1 s.2.1 s.2.2=some (.inl s')∧FirstI l R lt s'∧(l.length-s'.2.2).toNat<(l.length-s.2.2).toNat)∨
   ∃ e,Zc3 l p rule orders s.1 s.2.1 s.2.2=some (.inr e)∧ZhS l p R lt e:=by
 have hw':=hw;obtain ⟨⟨h1,h2,h3,h4⟩,-⟩:=hw';obtain ⟨at_,fnd,x⟩:=s;obtain ⟨i,hi,hil,hI⟩:=hI;obtain rfl:x=i:=hi;simp only at hI;unfold Zc3
 by_cases hx:i<l.length
 ·have hd:decide ((i:Int)<(l.length:Int))=true:=by simpa using hx
  rw [hd,Zs,ZB hx];simp only [Zb,hR]
  left
  cases hRi:R l[i] with
  | false=>
   simp only [Bool.not_false,Zs,Zb,Zcu,Zfk (show i<9223372036854775807 by omega)];refine ⟨_,rfl,⟨i+1,rfl,by omega,?_⟩,by simp only;omega⟩;rcases hI with ⟨rfl,rfl,hI⟩ | ⟨rfl,j,rfl,hj,hji,hRj,hI⟩
   ·refine .inl ⟨rfl,rfl,fun k hk hk'=>?_⟩
    by_cases e:k=i
    ·subst e;exact hRi
    ·exact hI k hk (by omega)
   ·refine .inr ⟨rfl,j,rfl,hj,by omega,hRj,fun k hk hk' hRk=>?_⟩
    by_cases e:k=i
    ·subst e;rw [hRi] at hRk;cases hRk
    ·exact hI k hk (by omega) hRk
  | true=>
   rcases hI with ⟨rfl,rfl,hI⟩ | ⟨rfl,j,rfl,hj,hji,hRj,hI⟩
   ·simp only [Bool.not_true,Bool.not_false,Zo,Zbd,Zb,Zcu,Bool.true_or,Zs,Zfk (show i<9223372036854775807 by omega)];refine ⟨_,rfl,⟨i+1,rfl,by omega,.inr ⟨rfl,i,rfl,hx,by omega,hRi,fun k hk hk' hRk=>?_⟩⟩,by simp only;omega⟩
    by_cases e:k=i
    ·subst e;exact ⟨hs.irr _,fun h=>by omega⟩
    ·rw [hI k hk (by omega)] at hRk;cases hRk
   ·simp only [Bool.not_true,Bool.not_false,Zo,ZaL,ZB hj,hO,Zb,Zcu,Bool.false_or,Zs,Zfk (show i<9223372036854775807 by omega)];cases hlt:lt l[i] l[j] with
    | true=>
     simp only [Zs,Zb,Zfk (show i<9223372036854775807 by omega)];refine ⟨_,rfl,⟨i+1,rfl,by omega,.inr ⟨rfl,i,rfl,hx,by omega,hRi,fun k hk hk' hRk=>?_⟩⟩,by simp only;omega⟩
     by_cases e:k=i
     ·subst e;exact ⟨hs.irr _,fun h=>by omega⟩
     ·have a:=(hI k hk (by omega) hRk).1;have b:=hs.neg _ _ _ hlt a;refine ⟨?_,fun _=>b⟩;cases h:lt l[k] l[i] with
      | false=>rfl
      | true=>
       rw [hs.trans _ _ _ h hlt] at a;cases a
    | false=>
     simp only [Zo,Zb,Zfk (show i<9223372036854775807 by omega)];refine ⟨_,rfl,⟨i+1,rfl,by omega,.inr ⟨rfl,j,rfl,hj,by omega,hRj,fun k hk hk' hRk=>?_⟩⟩,by simp only;omega⟩
     by_cases e:k=i
     ·subst e;exact ⟨hlt,fun h=>by omega⟩
     ·exact hI k hk (by omega) hRk
 ·have hd:decide ((i:Int)<(l.length:Int))=false:=by simp;omega
  rw [hd,Zo]
  right
  refine ⟨_,rfl,?_⟩;rcases hI with ⟨rfl,rfl,hI⟩ | ⟨rfl,j,rfl,hj,hji,hRj,hI⟩
  ·exact .inr ⟨rfl,fun _ k hk=>hI k hk (by omega)⟩
  ·exact .inl ⟨hw,j,rfl,hj,hRj,fun k hk hRk=>hI k hk (by omega) hRk⟩
theorem Zhk (l:List Wear) (p:Int) (rule:F1 Tryz.prog wear_block Bool) (orders:List (F2 Tryz.prog wear_block wear_block Int)) (R:Wear→Bool) (lt:Wear→Wear→Bool)
  (hR:∀ w,rule.f ⟨w,p⟩=some (R w)) (hO:∀ a b,Zea ⟨a,p⟩ ⟨b,p⟩ orders=some (lt a b)) (hs:Swo lt) :
  ∃ r,Zd9 l p rule orders=some r∧ZhS l p R lt r:=by
 unfold Zd9;rw [ZjP]
 by_cases hw:ZcK l p
 ·simp only [Zb,hw,decide_true,Bool.not_true,Zo];have hl:=hw.1.2.1;obtain ⟨e,he,hQ⟩:=Zie (f:=fun s=>Zc3 l p rule orders s.1 s.2.1 s.2.2) (I:=FirstI l R lt) (μ:=fun s=>(l.length-s.2.2).toNat) (R:=fun e=>ZhS l p R lt e)
   (fun s hs'=>Zl3 l p rule orders R lt hR hO hs hw s hs') (s:=((0:Int),false,(0:Int))) ⟨0,rfl,by omega,.inl ⟨rfl,rfl,fun k _ hk=>by omega⟩⟩ (by simp only;omega)
  rw [he,Zb,el2_eq];exact ⟨_,rfl,hQ⟩
 ·simp only [Zb,hw,decide_false,Bool.not_false,Zs];exact ⟨_,rfl,.inr ⟨rfl,fun h=>absurd h hw⟩⟩
def lexI:List Int→Bool
 | []=>false
 | n::r=>bif decide (n≠0) then decide (n<0) else lexI r
theorem ahead_eq (a b:wear_block) (os:List (F2 Tryz.prog wear_block wear_block Int)) (ns:List Int) (hl:os.length=ns.length) (h32:ns.length≤32) (h:∀ k,(hk:k<ns.length)→(os[k]'(by omega)).f a b=some ns[k]) :
  Zea a b os=some (lexI ns):=by
 unfold Zea;obtain ⟨e,he,hR⟩:=Zie (f:=fun s=>Ze6 a b os s) (I:=fun s=>∃ i:Nat,s=i∧i≤ns.length∧lexI ns=lexI (ns.drop i)) (μ:=fun s=>(ns.length-s).toNat)
  (R:=fun e=>(e=.inl ()∧lexI ns=false)∨e=.inr (lexI ns)) (by
   rintro s ⟨i,rfl,hi,hL⟩;unfold Ze6
   by_cases hx:i<ns.length
   ·have hd:decide ((i:Int)<(os.length:Int))=true:=by simp;omega
    have hdr:ns.drop i=ns[i]::ns.drop (i+1):=List.drop_eq_getElem_cons hx;rw [hd,Zs,ZB (by omega),Zb,h i hx,Zb,Zfk (by omega),Zb];rw [hdr] at hL
    by_cases hn:ns[i]=0
    ·left
     refine ⟨_,by rw [show decide (ns[i]≠0)=false by simpa using hn,Zo],⟨i+1,rfl,by omega,?_⟩,by omega⟩;rw [hL];simp [lexI,hn]
    ·right
     refine ⟨_,by rw [show decide (ns[i]≠0)=true by simpa using hn,Zs],.inr ?_⟩;rw [hL];simp [lexI,hn]
   ·have hd:decide ((i:Int)<(os.length:Int))=false:=by simp;omega
    rw [hd,Zo]
    right
    refine ⟨_,rfl,.inl ⟨rfl,?_⟩⟩;rw [hL,List.drop_of_length_le (by omega)];rfl) (s:=(0:Int)) ⟨0,rfl,by omega,rfl⟩ (by omega)
 rw [he,Zb];rcases hR with ⟨rfl,hR⟩ | rfl
 ·rw [Zaw,hR]
 ·rw [Zbp]
theorem cmp_eq (x y:Int):ZbJ x y=some (bif decide (x<y) then -1 else bif decide (x>y) then 1 else 0):=by
 unfold ZbJ ZdR
 by_cases h1:x<y
 ·simp [h1]
 ·by_cases h2:y<x <;> simp [h1,h2]
def Zlh (a b:Wear):Bool:=decide (a.Worn<b.Worn)
def Zmt (a b:Wear):Bool:=decide (a.Used>b.Used∨a.Used=b.Used∧a.Worn<b.Worn)
def ltBad (a b:Wear):Bool:=bif a.Bad then (bif b.Bad then decide (a.Live<b.Live∨a.Live=b.Live∧a.Worn<b.Worn) else true) else (bif b.Bad then false else decide (a.Live<b.Live∨a.Live=b.Live∧a.Worn<b.Worn))
theorem swo_worn:Swo Zlh:=⟨fun a=>by simp [Zlh],fun a b c=>by simp [Zlh];omega,fun a b c=>by simp [Zlh];omega⟩
theorem swo_used:Swo Zmt:=⟨fun a=>by simp [Zmt],fun a b c=>by simp [Zmt];omega,fun a b c=>by simp [Zmt];omega⟩
theorem swo_bad:Swo ltBad:=⟨fun a=>by cases h:a.Bad <;> simp [ltBad,h],fun a b c=>by
 cases h1:a.Bad <;> cases h2:b.Bad <;> cases h3:c.Bad <;> simp [ltBad,h1,h2,h3] <;> omega,fun a b c=>by
 cases h1:a.Bad <;> cases h2:b.Bad <;> cases h3:c.Bad <;> simp [ltBad,h1,h2,h3] <;> omega⟩
def rFree (p:Int) (w:Wear):Bool:=!w.Bad&&decide (w.Used<p)
def rDead (w:Wear):Bool:=!w.Bad&&decide (w.Live=0)&&decide (w.Used>0)
def rMix (p:Int) (w:Wear):Bool:=bif w.Bad then decide (w.Live>0) else decide (w.Used=p)&&decide (w.Live>0)&&decide (w.Live<p)
theorem Zgm (l:List Wear) (p:Int):∃ r,ZdH l p=some r∧ZhS l p rDead Zlh r:=by
 obtain ⟨r,h1,h2⟩:=Zhk l p ⟨ZbC⟩ [⟨ZJ⟩] rDead Zlh (fun w=>rfl) (fun a b=>by
  rw [ahead_eq _ _ _ [bif decide (a.Worn<b.Worn) then -1 else bif decide (a.Worn>b.Worn) then 1 else 0] rfl (by simp) (fun k hk=>by
   obtain rfl:k=0:=by simpa using hk
   show ZJ _ _=_;unfold ZJ;rw [cmp_eq];rfl)]
  by_cases h1:a.Worn<b.Worn
  ·simp [lexI,Zlh,h1]
  ·by_cases h2:b.Worn<a.Worn <;> simp [lexI,Zlh,h1,h2]) swo_worn
 refine ⟨r,?_,h2⟩;unfold ZdH;rw [h1,Zb]
theorem Ze8 (l:List Wear) (p:Int):∃ r,Zdy l p=some r∧ZhS l p (rFree p) Zmt r:=by
 obtain ⟨r,h1,h2⟩:=Zhk l p ⟨ZbB⟩ [⟨Za6⟩,⟨ZJ⟩] (rFree p) Zmt (fun w=>rfl) (fun a b=>by
  rw [ahead_eq _ _ _ [bif decide (b.Used<a.Used) then -1 else bif decide (b.Used>a.Used) then 1 else 0,bif decide (a.Worn<b.Worn) then -1 else bif decide (a.Worn>b.Worn) then 1 else 0] rfl (by simp) (fun k hk=>by
   have hk:k<2:=by simpa using hk
   rcases (show k=0∨k=1 by omega) with rfl | rfl
   ·show Za6 _ _=_;unfold Za6;rw [cmp_eq];rfl
   ·show ZJ _ _=_;unfold ZJ;rw [cmp_eq];rfl)]
  by_cases h1:a.Worn<b.Worn <;> by_cases h2:b.Worn<a.Worn <;> by_cases h3:b.Used<a.Used <;> by_cases h4:a.Used<b.Used <;> simp [lexI,Zmt,h1,h2,h3,h4] <;> omega) swo_used
 refine ⟨r,?_,h2⟩;unfold Zdy;rw [h1,Zb]
theorem wear_Victim_eq (l:List Wear) (p:Int):∃ r,ZfD l p=some r∧ZhS l p (rMix p) ltBad r:=by
 obtain ⟨r,h1,h2⟩:=Zhk l p ⟨Zbo⟩ [⟨Zbn⟩,⟨ZaP⟩,⟨ZJ⟩] (rMix p) ltBad (fun w=>by
   show Zbo _=_;cases h:w.Bad <;> simp [Zbo,rMix,h]) (fun a b=>by
  rw [ahead_eq _ _ _ [bif decide (a.Bad=b.Bad) then 0 else bif a.Bad then -1 else 1,bif decide (a.Live<b.Live) then -1 else bif decide (a.Live>b.Live) then 1 else 0,bif decide (a.Worn<b.Worn) then -1 else bif decide (a.Worn>b.Worn) then 1 else 0] rfl (by simp) (fun k hk=>by
   have hk:k<3:=by simpa using hk
   rcases (show k=0∨k=1∨k=2 by omega) with rfl | rfl | rfl
   ·show Zbn _ _=_;cases h:a.Bad <;> cases h':b.Bad <;> simp [Zbn,h,h']
   ·show ZaP _ _=_;unfold ZaP;rw [cmp_eq];rfl
   ·show ZJ _ _=_;unfold ZJ;rw [cmp_eq];rfl)]
  cases h:a.Bad <;> cases h':b.Bad <;> by_cases h1:a.Worn<b.Worn <;> by_cases h2:b.Worn<a.Worn <;> by_cases h3:b.Live<a.Live <;> by_cases h4:a.Live<b.Live <;> simp [lexI,ltBad,h,h',h1,h2,h3,h4] <;> omega) swo_bad
 refine ⟨r,?_,h2⟩;unfold ZfD;rw [h1,Zb]
def ZbQ (g:Nat→Int):Nat→Int
 | 0=>0
 | n+1=>ZbQ g n+g n
theorem ZlK {g:Nat→Int} {c:Int}:∀ {n:Nat},(∀ k,k<n→0≤g k∧g k≤c)→0≤ZbQ g n∧ZbQ g n≤c*n
 | 0,_=>by simp [ZbQ]
 | n+1,h=>by
  have:=ZlK (n:=n) fun k hk=>h k (by omega)
  have h2:=h n (by omega);simp only [ZbQ];rw [show ((n+1:Nat):Int)=(n:Int)+1 from rfl,Int.mul_add];omega
def wroom (p:Int) (w:Wear):Int:=bif w.Bad then 0 else bif decide (w.Live=0) then p else p-w.Used
def roomG (l:List Wear) (p:Int) (k:Nat):Int:=if h:k<l.length then wroom p l[k] else 0
def RoomV (l:List Wear) (p:Int):Int:=if ZcK l p then ZbQ (roomG l p) l.length else 0
theorem roomG_le {l:List Wear} {p:Int} (h:ZcK l p) (k:Nat):0≤roomG l p k∧roomG l p k≤p:=by
 unfold roomG
 split
 ·have:=h.2 _ (List.getElem_mem (by assumption:k<l.length));have hp:=h.1;unfold WOk at this;unfold wroom;cases l[k].Bad
  ·by_cases h:l[k].Live=0 <;> simp [h] <;> omega
  ·simp;omega
 ·have:=h.1;omega
theorem wear_Room_eq (l:List Wear) (p:Int):ZgS l p=some (RoomV l p):=by
 unfold ZgS RoomV;rw [ZjP,Zb]
 by_cases hw:ZcK l p
 ·rw [show (!decide (ZcK l p))=false by simp [hw],Zo,if_pos hw];have hn:=hw.1;obtain ⟨e,he,hQ⟩:=Zie (f:=fun s=>Zgl l p s.1 s.2) (I:=fun s=>∃ i:Nat,s.2=i∧i≤l.length∧s.1=ZbQ (roomG l p) i) (μ:=fun s=>(l.length-s.2).toNat)
   (R:=fun e=>e=ZbQ (roomG l p) l.length) (by
    rintro ⟨r,x⟩ ⟨i,hi,hil,hI⟩;obtain rfl:x=i:=hi;obtain rfl:r=_:=hI;unfold Zgl;have hs:=ZlK (n:=i) fun k _=>roomG_le hw k
    have hp:=Int.mul_le_mul_of_nonneg_right hn.2.2.2 (show (0:Int)≤(i:Int) by omega)
    by_cases hx:i<l.length
    ·have hd:decide ((i:Int)<(l.length:Int))=true:=by simpa using hx
     have ok:=hw.2 _ (List.getElem_mem hx);unfold WOk at ok;have hg:roomG l p i=wroom p l[i]:=by unfold roomG;rw [dif_pos hx]
     rw [hd,Zs,ZB hx,Zb,Zb]
     left
     refine ⟨(ZbQ (roomG l p) (i+1),((i+1:Nat):Int)),?_,⟨i+1,rfl,by omega,rfl⟩,by simp only;omega⟩;have hx1:=Zfk (show i<9223372036854775807 by omega);simp only [ZbQ,hg];unfold ZbC ZbB wroom;simp only [Zb];cases hb:l[i].Bad with
     | true=>simp only [Bool.not_true,Bool.false_and,Zo,Zb,hx1,Zs];simp
     | false=>
      by_cases h0:l[i].Live=0
      ·by_cases hu:l[i].Used>0
       ·simp only [h0,hu,decide_true,Bool.not_false,Bool.true_and,Zs,Zo];rw [Zaa (by omega) (by omega),Zb,Zb,hx1,Zb]
       ·have hu0:l[i].Used=0:=by omega
        have hp1:(0:Int)<p:=by omega
        simp only [h0,hu0,hp1,decide_true,decide_false,Bool.not_false,Bool.true_and,Bool.and_false,Zs,Zo,show ¬ ((0:Int)>0) by omega];rw [ZaO (by omega) (by omega),Zb,Zaa (by omega) (by omega),Zb,Zb,hx1,Zb,Int.sub_zero]
      ·by_cases hu:l[i].Used<p
       ·simp only [h0,hu,decide_true,decide_false,Bool.not_false,Bool.true_and,Bool.and_false,Bool.false_and,Zs,Zo];rw [ZaO (by omega) (by omega),Zb,Zaa (by omega) (by omega),Zb,Zb,hx1,Zb]
       ·simp only [h0,hu,decide_true,decide_false,Bool.not_false,Bool.true_and,Bool.and_false,Bool.false_and,Zs,Zo];rw [Zb,hx1,Zb,show p-l[i].Used=0 by omega,Int.add_zero]
    ·have hd:decide ((i:Int)<(l.length:Int))=false:=by simp;omega
     rw [hd,Zo]
     right
     refine ⟨_,rfl,?_⟩;rw [show i=l.length by omega]) (s:=((0:Int),(0:Int))) ⟨0,rfl,by omega,rfl⟩ (by simp only;omega)
  rw [he,Zb,hQ]
 ·rw [show (!decide (ZcK l p))=true by simp [hw],Zs,if_neg hw]
theorem Zl9 {g g':Nat→Int} {k:Nat}:∀ {n:Nat},(∀ j,j<n→j≠k→g' j=g j)→k<n→ZbQ g' n=ZbQ g n-g k+g' k
 | n+1,h,hk=>by
  simp only [ZbQ]
  by_cases e:k=n
  ·subst e;have:∀ {m:Nat},m≤k→ZbQ g' m=ZbQ g m:=by
    intro m
    induction m with
    | zero=>intro _;rfl
    | succ m ih=>intro hm;simp only [ZbQ];rw [ih (by omega),h m (by omega) (by omega)]
   rw [this (Nat.le_refl _)];omega
  ·rw [Zl9 (n:=n) (fun j hj hjk=>h j (by omega) hjk) (by omega),h n (by omega) (fun x=>e x.symm)];omega
theorem first_idx {l:List Wear} {p:Int} {R:Wear→Bool} {lt:Wear→Wear→Bool} {r:Int×Bool} (h:ZhS l p R lt r):(∃ i:Nat,r=((i:Int),true)∧IsFirst l R lt i∧i<l.length)∨(r=((0:Int),false)∧(ZcK l p→∀ k,(hk:k<l.length)→R l[k]=false)):=by
 rcases h with ⟨w,i,rfl,hi⟩ | ⟨rfl,h⟩
 ·exact .inl ⟨i,rfl,hi,hi.1⟩
 ·exact .inr ⟨rfl,h⟩
theorem wright_set {l:List Wear} {p:Int} {k:Nat} {w:Wear} (h:ZcK l p) (hw:WOk p w):ZcK (l.set k w) p:=by
 refine ⟨by rw [List.length_set];exact h.1,fun x hx=>?_⟩;rcases List.mem_or_eq_of_mem_set hx with hx | rfl
 ·exact h.2 x hx
 ·exact hw
end Go.Proofs.YtkmojgfenlgchaaGreatDoor.Tr
namespace Go.Proofs.YtkmojgfenlgchaaGreatDoor.Tr
open Go
def Zd5 (p:Nat→Bool):Nat→Nat
 | 0=>0
 | n+1=>Zd5 p n+if p n then 1 else 0
theorem ZhF {p q:Nat→Bool}:∀ {n:Nat},(∀ j,j<n→p j=q j)→Zd5 p n=Zd5 q n
 | 0,_=>rfl
 | n+1,h=>by
  simp only [Zd5];rw [ZhF (n:=n) fun j hj=>h j (by omega),h n (by omega)]
theorem ZiT {p:Nat→Bool}:∀ {n:Nat},Zd5 p n≤n
 | 0=>Nat.le_refl _
 | n+1=>by
  have:=ZiT (p:=p) (n:=n);simp only [Zd5];split <;> omega
theorem ZiS {p:Nat→Bool}:∀ {n:Nat},(∀ j,j<n→p j=false)→Zd5 p n=0
 | 0,_=>rfl
 | n+1,h=>by
  simp only [Zd5];rw [ZiS (n:=n) fun j hj=>h j (by omega),h n (by omega)];rfl
theorem ZiR {p:Nat→Bool}:∀ {n:Nat},Zd5 p n=0→∀ j,j<n→p j=false
 | n+1,h,j,hj=>by
  simp only [Zd5] at h
  by_cases e:j=n
  ·subst e;cases hp:p j
   ·rfl
   ·rw [hp] at h;simp at h
  ·exact ZiR (n:=n) (by omega) j (by omega)
theorem ZkX {p:Nat→Bool} {u:Nat}:∀ {n:Nat},(∀ j,j<n→p j=true→j<u)→Zd5 p n≤u
 | 0,_=>Nat.zero_le _
 | n+1,h=>by
  simp only [Zd5];cases hp:p n
  ·have:=ZkX (n:=n) (u:=u) fun j hj=>h j (by omega)
   simpa using this
  ·have h1:=h n (by omega) hp;have:=ZiT (p:=p) (n:=n);simp;omega
theorem cntTo_one {p q:Nat→Bool} {k:Nat} (hk:p k=false) (hk2:q k=true):∀ {n:Nat},(∀ j,j<n→j≠k→q j=p j)→Zd5 q n=Zd5 p n+if k<n then 1 else 0
 | 0,_=>rfl
 | n+1,h=>by
  simp only [Zd5];rw [cntTo_one hk hk2 (n:=n) fun j hj=>h j (by omega)]
  by_cases e:n=k
  ·subst e;rw [hk,hk2];simp
  ·rw [h n (by omega) e]
   by_cases e2:k<n
   ·have e3:k<n+1:=by omega
    simp only [e2,e3,if_true];omega
   ·have e3:¬ k<n+1:=by omega
    simp only [e2,e3,if_false];omega
def ZF (P:Nat) (seen:List Int) (k:Nat):Nat:=Zd5 (fun j=>decide (Zd4 P k j∈seen)) P
theorem ZfT {P:Nat} {s t:List Int} {k:Nat} (h:∀ j,j<P→(Zd4 P k j∈s↔Zd4 P k j∈t)):ZF P s k=ZF P t k:=ZhF fun j hj=>by
 show decide _=decide _;rw [Bool.eq_iff_iff,decide_eq_true_iff,decide_eq_true_iff];exact h j hj
theorem Zkb {P:Nat} {s t:List Int} {k j:Nat} (hj:j<P) (hn:Zd4 P k j∉s) (ht:∀ x,x∈t↔x∈s∨x=Zd4 P k j) (k':Nat):ZF P t k'=ZF P s k' + if k'=k then 1 else 0:=by
 by_cases e:k'=k
 ·subst e;unfold ZF;rw [if_pos rfl,cntTo_one (p:=fun j=>decide (Zd4 P k' j∈s)) (q:=fun j=>decide (Zd4 P k' j∈t)) (k:=j) (by simpa using hn) (by simp [ht]) fun i hi hne=>by
   show decide _=decide _;rw [Bool.eq_iff_iff,decide_eq_true_iff,decide_eq_true_iff,ht];refine ⟨fun h=>h.resolve_right fun x=>hne (Zjy hi hj x).2,.inl⟩,if_pos hj]
 ·rw [if_neg e,Nat.add_zero];refine ZfT fun i hi=>?_
  rw [ht];exact ⟨fun h=>h.resolve_right fun x=>e (Zjy hi hj x).1,.inl⟩
theorem Zc6 {P:Nat} {s:List Int} {k:Nat}:ZF P s k=0↔∀ j,j<P→Zd4 P k j∉s:=
 ⟨fun h j hj=>by simpa using ZiR h j hj,fun h=>ZiS fun j hj=>by simpa using h j hj⟩
def Zan (P:Nat) (c:Chip) (seen:List Int) (k:Nat):Wear:=if (blk c k).Bad then ⟨0,0,0,true⟩ else ⟨(ZF P seen k:Int),(blk c k).Used,(blk c k).Worn,false⟩
def ZaD (P nB:Nat) (c:Chip) (seen:List Int):List Wear:=(List.range (nB-2)).map fun i=>Zan P c seen (i+2)
theorem ZbK {P nB:Nat} {c:Chip} {seen:List Int}:(ZaD P nB c seen).length=nB-2:=by simp [ZaD]
theorem ZdG {P nB:Nat} {c:Chip} {seen:List Int} {i:Nat} (h:i<(ZaD P nB c seen).length):(ZaD P nB c seen)[i]=Zan P c seen (i+2):=by simp [ZaD]
def Wr0:Wear:=⟨0,0,0,false⟩
theorem list_ext {α:Type} {l:List α} {n:Nat} {f:Nat→α} {d:α} (hl:l.length=n) (h:∀ q,q<n→l.getD q d=f q):l=(List.range n).map f:=by
 apply List.ext_getElem (by simp [hl]);intro i h1 h2;have:=h i (by omega);rw [ZcS h1] at this;simp [this]
def ZlH (P nB:Nat) (c:Chip) (seen:List Int):Prop:=∀ x∈seen,x=0∨∃ k j,x=Zd4 P k j∧2≤k∧k<nB∧j<P∧(j:Int)<(blk c k).Used
theorem GI.held {P nB:Nat} {c:Chip} {at0:List Int} {bod:List (List UInt8)} (h:GI P nB c at0 bod):ZlH P nB c at0:=fun x hx=>by
 obtain ⟨i,hi,rfl⟩:=List.getElem_of_mem hx;have:=h.2 i hi;rw [ZcS hi] at this;rcases this with g | ⟨k,j,g,a1,a2,a3,a4,a5,-⟩
 ·exact .inl g.1
 ·exact .inr ⟨k,j,a1,a2,a3,a4,a5⟩
theorem ZlH.app {P nB:Nat} {c:Chip} {s t:List Int} (h:ZlH P nB c s) (g:ZlH P nB c t):ZlH P nB c (s++t):=fun x hx=>(List.mem_append.1 hx).elim (h x) (g x)
theorem known_get {c:Chip} {P nB S:Nat} (hc:CI P nB S c) (hg:Geo P nB S) {lists:List (List Int)} (hv:ZlH P nB c lists.flatten) (h1:lists.length≤1000) (h2:∀ l∈lists,l.length≤1000) :
  ZeH (ZfW c lists) (fun l=>l.length=nB-2∧∀ q,q<nB-2→l.getD q Wr0=⟨(ZF P lists.flatten (q+2):Int),(blk c (q+2)).Used,(blk c (q+2)).Worn,(blk c (q+2)).Bad⟩):=by
 have g1:=hg.b5;have g2:=hg.b11;have g3:=hg.p2;have hD:((c.Blocks.length:Int)-2)=((nB-2:Nat):Int):=by rw [hc.len];omega
 unfold ZfW;rw [ZaO (by rw [hc.len];omega) (by rw [hc.len];omega),Zb,hD,Zav (by omega) (by omega) (by omega),Zb,Zb,Int.toNat_natCast];refine ZeH.b (P:=fun l=>l.length=nB-2∧∀ q,q<nB-2→l.getD q Wr0=⟨0,(blk c (q+2)).Used,(blk c (q+2)).Worn,(blk c (q+2)).Bad⟩)
  (ZeH.loop (σ:=Int×List Wear) (fun s=>∃ i:Nat,s.1=i∧i≤nB-2∧s.2.length=nB-2∧∀ q,q<i→s.2.getD q Wr0=⟨0,(blk c (q+2)).Used,(blk c (q+2)).Worn,(blk c (q+2)).Bad⟩) (fun s=>nB-2-s.1.toNat) (fun s hs=>?_)
   ⟨0,rfl,by omega,by simp,fun q hq=>by omega⟩ (by show nB-2-0<_;omega)) fun l6 hl6=>?_
 ·obtain ⟨z,l⟩:=s;obtain ⟨i,rfl,hi,hl,hq⟩:=hs;dsimp only at hl hq ⊢;unfold ZgO
  by_cases hlt:i<nB-2
  ·rw [Zi (by simp;omega),Zaa (by omega) (by omega),Zb,show (i:Int)+2=((i+2:Nat):Int) from rfl,hc.idxB rfl (by omega),Zb,ZB (by omega),Zb,Zb,ZR (by omega),Zb];refine ZeH.l ⟨i+1,rfl,by omega,by simp [hl],fun q hq'=>?_⟩ (by show nB-2-(i+1)<nB-2-(i:Int).toNat;omega);dsimp only;rw [Int.toNat_natCast,Zce (by omega)]
   by_cases e:q=i
   ·subst e;rw [if_pos rfl]
   ·rw [if_neg e];exact hq q (by omega)
  ·rw [Zf (by simp;omega)];have:i=nB-2:=by omega
   subst this;exact Za5 ⟨hl,hq⟩
 refine ZeH.b (P:=fun o=>o.1.length=nB-2∧(∀ x,x∈o.2↔x≠0∧x∈lists.flatten)∧∀ q,q<nB-2→o.1.getD q Wr0=⟨(ZF P o.2 (q+2):Int),(blk c (q+2)).Used,(blk c (q+2)).Worn,(blk c (q+2)).Bad⟩)
  (ZeH.loop (σ:=Int×List Wear×List Int) (fun s=>∃ i:Nat,s.1=i∧i≤lists.length∧s.2.1.length=nB-2∧(∀ x,x∈s.2.2↔x≠0∧x∈(lists.take i).flatten)∧∀ q,q<nB-2→s.2.1.getD q Wr0=⟨(ZF P s.2.2 (q+2):Int),(blk c (q+2)).Used,(blk c (q+2)).Worn,(blk c (q+2)).Bad⟩)
   (fun s=>lists.length-s.1.toNat) (fun s hs=>?_) ⟨0,rfl,by omega,hl6.1,fun x=>by simp,fun q hq=>by rw [hl6.2 q hq,Zc6.2 fun j _=>by simp];rfl⟩ (by show lists.length-0<_;omega)) fun o ⟨o1,o2,o3⟩=>?_
 ·obtain ⟨z,l,m⟩:=s;obtain ⟨i,rfl,hi,hl,hm,hq⟩:=hs;dsimp only at hl hm hq ⊢;unfold ZgN
  by_cases hlt:i<lists.length
  ·have hll:=h2 _ (List.getElem_mem hlt);rw [ZeU hlt,Zs,ZB hlt,Zb];refine ZeH.b (P:=fun o=>o.1.length=nB-2∧(∀ x,x∈o.2↔x≠0∧x∈(lists.take (i+1)).flatten)∧∀ q,q<nB-2→o.1.getD q Wr0=⟨(ZF P o.2 (q+2):Int),(blk c (q+2)).Used,(blk c (q+2)).Worn,(blk c (q+2)).Bad⟩)
    (ZeH.loop (σ:=Int×List Wear×List Int) (fun s=>∃ r:Nat,s.1=r∧r≤lists[i].length∧s.2.1.length=nB-2∧(∀ x,x∈s.2.2↔x≠0∧(x∈(lists.take i).flatten∨x∈lists[i].take r))∧∀ q,q<nB-2→s.2.1.getD q Wr0=⟨(ZF P s.2.2 (q+2):Int),(blk c (q+2)).Used,(blk c (q+2)).Worn,(blk c (q+2)).Bad⟩)
     (fun s=>lists[i].length-s.1.toNat) (fun s hs=>?_) ⟨0,rfl,by omega,hl,fun x=>by simp [hm x],hq⟩ (by show lists[i].length-0<_;omega)) fun o ⟨o1,o2,o3⟩=>?_
   ·obtain ⟨z,l,m⟩:=s;obtain ⟨r,rfl,hr,hl,hm,hq⟩:=hs;dsimp only at hl hm hq ⊢;unfold ZgM
    by_cases hrt:r<lists[i].length
    ·have htk:∀ x,x∈lists[i].take (r+1)↔x∈lists[i].take r∨x=lists[i][r]:=fun x=>by
      rw [ZcN hrt,List.mem_append,List.mem_singleton]
     rw [ZeU hrt,Zs,ZB hrt,Zb]
     by_cases hsk:lists[i][r]=0∨lists[i][r]∈m
     ·rw [Zi (by simpa using hsk),Zb,Zcu,ZR (by omega),Zb];refine ZeH.l ⟨r+1,rfl,by omega,hl,fun x=>?_,hq⟩ (by show lists[i].length-(r+1)<lists[i].length-(r:Int).toNat;omega);dsimp only;rw [hm,htk];refine ⟨fun ⟨a,b⟩=>⟨a,b.imp id .inl⟩,fun ⟨a,b⟩=>⟨a,?_⟩⟩;rcases b with b | b | b
      ·exact .inl b
      ·exact .inr b
      ·rcases hsk with e | e
       ·exact absurd (b.trans e) a
       ·rw [b];exact ((hm _).1 e).2
     ·have hs0:lists[i][r]≠0:=fun e=>hsk (.inl e)
      have hs1:lists[i][r]∉m:=fun e=>hsk (.inr e)
      rw [Zf (by simpa using hsk),Zb];obtain ⟨k,j,e,k2,kB,jP,-⟩:=(hv lists[i][r] (List.mem_flatten.2 ⟨_,List.getElem_mem hlt,List.getElem_mem hrt⟩)).resolve_left hs0;have hq':=Zjz (k:=k) jP;have hlo:=ZdM (P:=P) (k:=k) (j:=j);have hle:=loc_le (P:=P) kB jP;have:nB*P≤11*8:=Nat.mul_le_mul hg.b11 hg.p8;rw [e,ZaO (by omega) (by omega),Zb,hc.pgs,ZfO (by omega) (by omega),Zb,hq'.1,ZaO (by omega) (by omega),Zb,show (k:Int)-2=((k-2:Nat):Int) by omega,ZcH (d:=Wr0) rfl (by omega),Zb,
       hq _ (by omega)]
      dsimp only;have hlv:ZF P m (k-2+2)≤P:=ZiT;have:=hg.p8;rw [Zaa (by omega) (by omega),Zb,Zb,Zb,Zb,Zcu,ZR (by omega),Zb];have hput:∀ x,x∈putM m (Zd4 P k j)↔x∈m∨x=Zd4 P k j:=fun x=>by
       unfold putM;rw [if_neg (by rw [← e];exact hs1)];simp
      refine ZeH.l ⟨r+1,rfl,by omega,by simp [hl],fun x=>?_,fun q hq2=>?_⟩ (by show lists[i].length-(r+1)<lists[i].length-(r:Int).toNat;omega)
      ·dsimp only;rw [hput,hm,htk,← e];refine ⟨fun h=>h.elim (fun ⟨a,b⟩=>⟨a,b.imp id .inl⟩) fun a=>⟨by rw [a];exact hs0,.inr (.inr a)⟩,fun ⟨a,b⟩=>?_⟩;rcases b with b | b | b
       ·exact .inl ⟨a,.inl b⟩
       ·exact .inl ⟨a,.inr b⟩
       ·exact .inr b
      ·dsimp only;rw [Int.toNat_natCast,Zce (by omega),Zkb jP (by rw [← e];exact hs1) hput (q+2)]
       by_cases eq:q=k-2
       ·subst eq;rw [if_pos rfl,if_pos (by omega)];rfl
       ·rw [if_neg eq,if_neg (by omega),hq _ hq2];rfl
    ·rw [Zjx (by omega),Zo];refine Za5 ⟨hl,fun x=>?_,hq⟩;dsimp only;rw [hm,show lists[i].take r=lists[i] from List.take_of_length_le (by omega),Zih hlt,List.mem_append]
   ·rw [el2_eq,ZR (by omega),Zb];exact ZeH.l ⟨i+1,rfl,by omega,o1,o2,o3⟩ (by show lists.length-(i+1)<lists.length-(i:Int).toNat;omega)
  ·rw [Zjx (by omega),Zo];refine Za5 ⟨hl,fun x=>?_,hq⟩;dsimp only;rw [hm,show lists.take i=lists from List.take_of_length_le (by omega)]
 ·rw [el2_eq];refine ZeH.s ⟨o1,fun q hq=>?_⟩;rw [o3 q hq];congr 2;refine ZfT fun j hj=>?_
  rw [o2];have:=ZdM (P:=P) (k:=q+2) (j:=j);exact ⟨fun h=>h.2,fun h=>⟨by omega,h⟩⟩
theorem ZmI {w:flash_writer} {P nB S:Nat} (hc:CI P nB S w.Vol.Chip) (hg:Geo P nB S) {lists:List (List Int)} (hv:ZlH P nB w.Vol.Chip lists.flatten) (h1:lists.length≤1000) (h2:∀ l∈lists,l.length≤1000) :
  Zam w lists=some (ZaD P nB w.Vol.Chip lists.flatten):=by
 have g1:=hg.b5;have g2:=hg.b11;unfold Zam;refine Zgf (ZeH.b (known_get hc hg hv h1 h2) fun l ⟨l1,l2⟩=>?_);refine ZeH.b (P:=fun r=>r=ZaD P nB w.Vol.Chip lists.flatten) (ZeH.loop (σ:=Int×List Wear) (fun s=>∃ i:Nat,s.1=i∧i≤nB-2∧s.2.length=nB-2∧(∀ q,q<i→s.2.getD q Wr0=Zan P w.Vol.Chip lists.flatten (q+2))∧∀ q,i≤q→q<nB-2→s.2.getD q Wr0=l.getD q Wr0)
  (fun s=>nB-2-s.1.toNat) (fun s hs=>?_) ⟨0,rfl,by omega,l1,fun q hq=>by omega,fun q _ _=>rfl⟩ (by show nB-2-0<_;omega)) fun r hr=>by subst hr;exact ZeH.s rfl
 obtain ⟨z,l'⟩:=s;obtain ⟨i,rfl,hi,hl,ha,hb⟩:=hs;dsimp only at hl ha hb ⊢;unfold ZcG
 by_cases hlt:i<nB-2
 ·rw [Zi (by simp;omega),ZcH (d:=Wr0) rfl (by omega),Zb];have hcur:l'.getD i Wr0=⟨(ZF P lists.flatten (i+2):Int),(blk w.Vol.Chip (i+2)).Used,(blk w.Vol.Chip (i+2)).Worn,(blk w.Vol.Chip (i+2)).Bad⟩:=by rw [hb i (by omega) hlt,l2 i hlt]
  refine ZeH.b (P:=fun r=>r.length=nB-2∧r.getD i Wr0=Zan P w.Vol.Chip lists.flatten (i+2)∧∀ q,q≠i→r.getD q Wr0=l'.getD q Wr0) ?_ fun r ⟨r1,r2,r3⟩=>?_
  ·rw [hcur];dsimp only
   by_cases hbad:(blk w.Vol.Chip (i+2)).Bad=true
   ·rw [Zi hbad,Zb,Zb];refine ZeH.s ⟨by simp [hl],?_,fun q hq=>?_⟩
    ·rw [Int.toNat_natCast,Zce (by omega),if_pos rfl];unfold Zan;rw [if_pos hbad]
    ·rw [Int.toNat_natCast,Zce (by omega),if_neg hq]
   ·rw [Zf (by simpa using hbad)];refine ZeH.s ⟨hl,?_,fun q hq=>rfl⟩;rw [hcur];unfold Zan;rw [if_neg hbad];have:(blk w.Vol.Chip (i+2)).Bad=false:=by simpa using hbad
    rw [this]
  ·rw [ZR (by omega),Zb];refine ZeH.l ⟨i+1,rfl,by omega,r1,fun q hq=>?_,fun q hq hq2=>?_⟩ (by show nB-2-(i+1)<nB-2-(i:Int).toNat;omega)
   ·by_cases e:q=i
    ·subst e;exact r2
    ·exact (r3 q e).trans (ha q (by omega))
   ·exact (r3 q (by omega)).trans (hb q (by omega) hq2)
 ·rw [Zf (by simp;omega)];have:i=nB-2:=by omega
  subst this;exact Za5 (list_ext hl ha)
end Go.Proofs.YtkmojgfenlgchaaGreatDoor.Tr
namespace Go.Proofs.YtkmojgfenlgchaaGreatDoor.Tr
open Go
def WBad:Wear:=⟨0,0,0,true⟩
def Zgi (R:Wear→Bool) (x:Wear):Wear:=if x.Bad || !R x then WBad else x
theorem mapTo_same {α:Type} {f:α→α} {P:List α} {i:Nat} (h:i<P.length) (e:f P[i]=P[i]):Zel f P (i+1)=Zel f P i:=by
 have hl:i<(Zel f P i).length:=by rw [Zic f P (by omega)];exact h
 have h1:=Zid f P h;rw [ZB hl] at h1;injection h1 with h1;rw [← Zg3 f P h,e,← h1,List.set_getElem_self]
theorem ZkO {l:List Wear} {rule:F1 Tryz.prog Wear Bool} {R:Wear→Bool} (hR:∀ x,rule.f x=some (R x)) (hl:l.length≤1000):ZbP l rule=some (l.map (Zgi R)):=by
 unfold ZbP Zau;rw [Zav (by omega) (by omega) (by omega),Zb,Zb];refine Zgf (ZeH.b (P:=fun r=>r=l.map (Zgi R)) (ZeH.loop (σ:=Int×List Wear) (fun s=>∃ i:Nat,s.1=i∧i≤l.length∧s.2=Zel (Zgi R) l i) (fun s=>l.length-s.1.toNat) (fun s hs=>?_)
  ⟨0,rfl,by omega,by rw [ZiM]⟩ (by show l.length-0<_;omega)) fun r hr=>by subst hr;exact ZeH.s rfl)
 obtain ⟨z,m⟩:=s;obtain ⟨i,rfl,hi,hm⟩:=hs;dsimp only at hm ⊢;subst hm;unfold ZhD
 by_cases hlt:i<l.length
 ·rw [ZeU hlt,Zs,Zid _ _ hlt,Zb];refine ZeH.b (P:=fun r=>r=Zel (Zgi R) l (i+1)) ?_ fun r hr=>?_
  ·rw [Zg7 (hR _),Zb]
   by_cases hb:l[i].Bad=true
   ·rw [Zi (by rw [hb];rfl),Zb,Zb,Int.toNat_natCast];refine ZeH.s ?_;have:Zgi R l[i]=⟨0,0,0,true⟩:=by unfold Zgi;rw [hb];rfl
    rw [← Zg3 _ _ hlt,this]
   ·have hb':l[i].Bad=false:=by simpa using hb
    rw [hb',Bool.not_false,Zs,Bool.false_or];cases hr:R l[i]
    ·rw [Bool.not_false,Zs,Zb,Zb,Int.toNat_natCast];refine ZeH.s ?_;have:Zgi R l[i]=⟨0,0,0,true⟩:=by unfold Zgi;rw [hr];simp [WBad]
     rw [← Zg3 _ _ hlt,this]
    ·rw [Bool.not_true,Zo];refine ZeH.s ?_;have:Zgi R l[i]=l[i]:=by unfold Zgi;rw [hr,hb'];simp
     rw [mapTo_same hlt this]
  ·subst hr;rw [ZR (by omega),Zb];exact ZeH.l ⟨i+1,rfl,by omega,rfl⟩ (by show l.length-(i+1)<l.length-(i:Int).toNat;omega)
 ·rw [Zjx (by omega),Zo];have:i=l.length:=by omega
  subst this;exact Za5 (by rw [Zka])
theorem Zl4 {P nB S:Nat} {c:Chip} {seen:List Int} (hc:CI P nB S c) (hg:Geo P nB S) (hv:ZlH P nB c seen) {k:Nat} (h2:2≤k) (hk:k<nB):WOk P (Zan P c seen k):=by
 have hB:=hc.blkR hk;have hw:=hc.worn k hk;have ho:=hc.ops;unfold Zcz at ho;unfold Zan
 split
 ·exact ⟨by decide,by decide,by show (0:Int)≤P;omega,by decide,by show (0:Int)≤1099511627776;decide⟩
 ·refine ⟨by show (0:Int)≤(ZF P seen k:Int);omega,?_,hB.2.2.1,hB.2.2.2.1,by show (blk c k).Worn≤_;omega⟩;have:ZF P seen k≤(blk c k).Used.toNat:=ZkX fun j hj hp=>by
   have hp:Zd4 P k j∈seen:=by simpa using hp
   rcases hv _ hp with e | ⟨k',j',e,a1,a2,a3,a4⟩
   ·have:=ZdM (P:=P) (k:=k) (j:=j);omega
   ·obtain ⟨rfl,rfl⟩:=Zjy hj a3 e;omega
  show (ZF P seen k:Int)≤(blk c k).Used;omega
theorem Zfj {P nB S:Nat} {c:Chip} {seen:List Int} (hc:CI P nB S c) (hg:Geo P nB S) (hv:ZlH P nB c seen):ZcK (ZaD P nB c seen) P:=by
 have g1:=hg.b5;have g2:=hg.b11;have g3:=hg.p2;have g4:=hg.p8;refine ⟨by rw [ZbK];omega,fun w hw=>?_⟩;obtain ⟨i,hi,rfl⟩:=List.getElem_of_mem hw;rw [ZbK] at hi;rw [ZdG];exact Zl4 hc hg hv (by omega) (by omega)
theorem wok_bad {P:Nat}:WOk P WBad:=⟨by decide,by decide,by show (0:Int)≤P;omega,by decide,by decide⟩
theorem only_wright {P:Nat} {l:List Wear} {R:Wear→Bool} (h:ZcK l P):ZcK (l.map (Zgi R)) P:=by
 refine ⟨by rw [List.length_map];exact h.1,fun w hw=>?_⟩;obtain ⟨x,hx,rfl⟩:=List.mem_map.1 hw;unfold Zgi
 split
 ·exact wok_bad
 ·exact h.2 x hx
theorem pick {P nB S:Nat} {l:List Wear} {R rule:Wear→Bool} {lt:Wear→Wear→Bool} {r:Int×Bool} (hl:ZcK l P) (hb:rule WBad=false) (h:ZhS (l.map (Zgi R)) P rule lt r) :
  (∃ i:Nat,∃ hi:i<l.length,r=((i:Int),true)∧l[i].Bad=false∧R l[i]=true∧rule l[i]=true)∨(r=(0,false)∧∀ i,(hi:i<l.length)→l[i].Bad=false→R l[i]=true→rule l[i]=false):=by
 rcases first_idx h with ⟨i,hr,⟨hi,h1,h2⟩,_⟩ | ⟨hr,h1⟩
 ·left
  rw [List.length_map] at hi;refine ⟨i,hi,hr,?_⟩;rw [List.getElem_map] at h1;unfold Zgi at h1
  split at h1
  ·rw [hb] at h1;cases h1
  ·rename_i hn
   cases hB:l[i].Bad <;> cases hR:R l[i] <;> simp [hB,hR] at hn ⊢
   exact h1
 ·right
  refine ⟨hr,fun i hi b1 b2=>?_⟩;have:=h1 (only_wright hl) i (by rw [List.length_map];exact hi);rw [List.getElem_map] at this;unfold Zgi at this;rw [b1,b2] at this;simpa using this
theorem pick_raw {P:Nat} {l:List Wear} {rule:Wear→Bool} {lt:Wear→Wear→Bool} {r:Int×Bool} (hl:ZcK l P) (h:ZhS l P rule lt r) :
  (∃ i:Nat,∃ hi:i<l.length,r=((i:Int),true)∧rule l[i]=true)∨(r=(0,false)∧∀ i,(hi:i<l.length)→rule l[i]=false):=by
 rcases first_idx h with ⟨i,hr,⟨hi,h1,h2⟩,_⟩ | ⟨hr,h1⟩
 ·exact .inl ⟨i,hi,hr,h1⟩
 ·exact .inr ⟨hr,fun i hi=>h1 hl i hi⟩
def Zcb (w:Wear):Bool:=!w.Bad&&decide (w.Live=0)
theorem idle_get {l:List Wear} (hl:l.length≤1000):ZeH (ZM (fun s=>Zb0 l s.1 s.2) ((0:Int),(0:Int))) (fun n=>n=(Zd5 (fun i=>Zcb (l.getD i WBad)) l.length:Int)):=by
 refine ZeH.loop (σ:=Int×Int) (fun s=>∃ i:Nat,s.2=i∧i≤l.length∧s.1=(Zd5 (fun i=>Zcb (l.getD i WBad)) i:Int)) (fun s=>l.length-s.2.toNat) (fun s hs=>?_) ⟨0,rfl,by omega,rfl⟩ (by show l.length-0<_;omega);obtain ⟨n,z⟩:=s;obtain ⟨i,rfl,hi,hn⟩:=hs;dsimp only at hn ⊢;subst hn;unfold Zb0
 by_cases hlt:i<l.length
 ·rw [ZeU hlt,Zs,ZcH (d:=WBad) rfl hlt,Zb];have hle:=ZiT (p:=fun i=>Zcb (l.getD i WBad)) (n:=i);have hstep:Zd5 (fun i=>Zcb (l.getD i WBad)) (i+1)=Zd5 (fun i=>Zcb (l.getD i WBad)) i+if Zcb (l.getD i WBad) then 1 else 0:=rfl;have hid:((!(l.getD i WBad).Bad)&&decide ((l.getD i WBad).Live=0))=Zcb (l.getD i WBad):=rfl;rw [hid];cases h:Zcb (l.getD i WBad)
  ·rw [Zo,Zb,ZR (by omega),Zb];refine ZeH.l ⟨i+1,rfl,by omega,?_⟩ (by show l.length-(i+1)<l.length-(i:Int).toNat;omega);dsimp only;rw [hstep,h];simp
  ·rw [Zs,Zaa (by omega) (by omega),Zb,Zb,ZR (by omega),Zb];refine ZeH.l ⟨i+1,rfl,by omega,?_⟩ (by show l.length-(i+1)<l.length-(i:Int).toNat;omega);dsimp only;rw [hstep,h];simp
 ·rw [Zjx (by omega),Zo];have:i=l.length:=by omega
  subst this;exact Za5 rfl
end Go.Proofs.YtkmojgfenlgchaaGreatDoor.Tr
namespace Go.Proofs.YtkmojgfenlgchaaGreatDoor.Tr
open Go
structure Fr (P nB S:Nat) (seen:List Int) (c c':Chip):Prop where
 ci:CI P nB S c'
 flt:c'.Faults=c.Faults
 low:∀ i,i<2→blk c' i=blk c i
 keep:∀ k j,Zd4 P k j∈seen→2≤k→k<nB→j<P→(j:Int)<(blk c k).Used→(j:Int)<(blk c' k).Used∧pg c' k j=pg c k j
 many:Zal c≤Zal c'
 opsl:c.Ops≤c'.Ops
theorem Fr.refl {P nB S:Nat} {seen:List Int} {c:Chip} (h:CI P nB S c):Fr P nB S seen c c:=⟨h,rfl,fun _ _=>rfl,fun _ _ _ _ _ _ h=>⟨h,rfl⟩,Nat.le_refl _,Int.le_refl _⟩
theorem Fr.trans {P nB S:Nat} {seen:List Int} {c c' c'':Chip} (h:Fr P nB S seen c c') (g:Fr P nB S seen c' c''):Fr P nB S seen c c'':=
 ⟨g.ci,g.flt.trans h.flt,fun i hi=>(g.low i hi).trans (h.low i hi),fun k j h1 h2 h3 h4 h5=>by
  obtain ⟨a,b⟩:=h.keep k j h1 h2 h3 h4 h5;obtain ⟨a',b'⟩:=g.keep k j h1 h2 h3 h4 a;exact ⟨a',b'.trans b⟩,Nat.le_trans h.many g.many,Int.le_trans h.opsl g.opsl⟩
theorem Fr.held {P nB S:Nat} {s:List Int} {c c':Chip} (h:Fr P nB S s c c') (hv:ZlH P nB c s):ZlH P nB c' s:=fun x hx=>by
 rcases hv x hx with e | ⟨k,j,e,a1,a2,a3,a4⟩
 ·exact .inl e
 ·exact .inr ⟨k,j,e,a1,a2,a3,(h.keep k j (by rw [← e];exact hx) a1 a2 a3 a4).1⟩
theorem Fr.ri {P nB S:Nat} {s:List Int} {c c':Chip} (h:Fr P nB S s c c') {gen:UInt64} {at0:List Int} {last:Int} (hr:RI P c gen at0 last):RI P c' gen at0 last:=hr.same fun b hb j _=>Zmj (h.low b hb)
theorem Fr.gi {P nB S:Nat} {s:List Int} {c c':Chip} (h:Fr P nB S s c c') {at0:List Int} {bod:List (List UInt8)} (hs:∀ x∈at0,x∈s) (hr:GI P nB c at0 bod):GI P nB c' at0 bod:=hr.keep fun id k j hid e h2 h3 h4 h5=>
 h.keep k j (hs _ (by rw [← e,ZcS hid];exact List.getElem_mem hid)) h2 h3 h4 h5
theorem ProgF.fr {P nB S:Nat} {s:List Int} {c c':Chip} {k:Nat} {p:List UInt8} {e:Int} (h:ProgF P nB S c c' k p e) (h2:2≤k):Fr P nB S s c c':=
 ⟨h.ci,h.flt,fun i hi=>h.oth i (by omega),fun k' j _ _ _ _ h5=>by
  by_cases e:k'=k
  ·subst e;have:=h.used;exact ⟨by omega,h.pgo j (by omega)⟩
  ·rw [h.oth k' e];exact ⟨h5,Zmj (h.oth k' e)⟩,by rw [h.many];omega,by have:=h.ops;omega⟩
theorem ClearF.fr {P nB S:Nat} {s:List Int} {c c':Chip} {k:Nat} {e:Int} (h:ClearF P nB S c c' k e) (h2:2≤k) (hl:ZF P s k=0):Fr P nB S s c c':=
 ⟨h.ci,h.flt,fun i hi=>h.oth i (by omega),fun k' j h1 _ _ h4 h5=>by
  by_cases e:k'=k
  ·subst e;exact absurd h1 (Zc6.1 hl j h4)
  ·rw [h.oth k' e];exact ⟨h5,Zmj (h.oth k' e)⟩,by rw [h.many];omega,h.ops.1⟩
def Zi4 (g:Nat→Int):Nat→Int
 | 0=>0
 | n+1=>max (Zi4 g n) (g n)
theorem ZlP {g:Nat→Int}:∀ {n:Nat},0≤Zi4 g n
 | 0=>Int.le_refl _
 | n+1=>by have:=ZlP (g:=g) (n:=n);simp only [Zi4];omega
theorem maxTo_ge {g:Nat→Int}:∀ {n k:Nat},k<n→g k≤Zi4 g n
 | n+1,k,h=>by
  simp only [Zi4]
  by_cases e:k=n
  ·subst e;omega
  ·have:=maxTo_ge (g:=g) (n:=n) (k:=k) (by omega);omega
theorem ZlQ {g:Nat→Int} {x:Int} (h0:0≤x):∀ {n:Nat},(∀ k,k<n→g k≤x)→Zi4 g n≤x
 | 0,_=>h0
 | n+1,h=>by
  have:=ZlQ h0 (n:=n) fun k hk=>h k (by omega)
  have:=h n (by omega);simp only [Zi4];omega
def Zed (P:Nat) (w:Wear):Int:=if w.Bad then 0 else if w.Live=0∧w.Used=P then P else P-w.Used
def Zjk (P:Nat) (w:Wear):Int:=if Zcb w then Zed P w else 0
def wq (P:Nat) (c:Chip) (seen:List Int) (q:Nat):Wear:=Zan P c seen (q+2)
def allR (P nB:Nat) (c:Chip) (seen:List Int):Int:=ZbQ (fun q=>Zed P (wq P c seen q)) (nB-2)
def mostR (P nB:Nat) (c:Chip) (seen:List Int):Int:=Zi4 (fun q=>Zjk P (wq P c seen q)) (nB-2)
def ZfL (P nB:Nat) (c:Chip) (seen:List Int):Int:=allR P nB c seen-mostR P nB c seen
def ZaV (P nB:Nat) (c:Chip) (seen:List Int):Nat:=Zd5 (fun q=>Zcb (wq P c seen q)) (nB-2)
theorem ZkK {g:Nat→Int}:∀ {n:Nat},(∀ k,k<n→g k=0)→ZbQ g n=0
 | 0,_=>rfl
 | n+1,h=>by simp only [ZbQ];rw [ZkK (n:=n) fun k hk=>h k (by omega),h n (by omega)];rfl
theorem one_idle {g:Nat→Int} {p:Nat→Bool}:∀ {n:Nat},Zd5 p n≤1→(∀ k,k<n→p k=false→g k=0)→(∀ k,k<n→0≤g k)→ZbQ g n≤Zi4 (fun q=>if p q then g q else 0) n
 | 0,_,_,_=>Int.le_refl _
 | n+1,h,h0,hn=>by
  simp only [Zd5] at h;simp only [ZbQ,Zi4];cases hp:p n
  ·have:=one_idle (g:=g) (p:=p) (n:=n) (by omega) (fun k hk=>h0 k (by omega)) fun k hk=>hn k (by omega)
   rw [h0 n (by omega) hp];omega
  ·rw [hp] at h;have hz:Zd5 p n=0:=by simp at h;exact h
   rw [ZkK (n:=n) fun k hk=>h0 k (by omega) (ZiR hz k hk)];simp only [if_true];omega
def ZmP (P nB:Nat) (c:Chip) (seen:List Int):Prop:=∀ k,2≤k→k<nB→(blk c k).Bad=false→0<ZF P seen k→(blk c k).Used=P
theorem Zag {P:Nat} {c:Chip} {seen:List Int} {k:Nat} (h:(blk c k).Bad=false):Zan P c seen k=⟨(ZF P seen k:Int),(blk c k).Used,(blk c k).Worn,false⟩:=by
 unfold Zan;rw [if_neg (by rw [h];decide)]
theorem Zeb {P:Nat} {c:Chip} {seen:List Int} {k:Nat} (h:(blk c k).Bad=true):Zan P c seen k=⟨0,0,0,true⟩:=by
 unfold Zan;rw [if_pos h]
theorem Zec {P:Nat} {c:Chip} {seen:List Int} {k:Nat}:(Zan P c seen k).Bad=(blk c k).Bad:=by
 unfold Zan
 split
 ·rename_i h;rw [h]
 ·rename_i h;simpa using h
theorem some_idle {P nB S:Nat} {c:Chip} {seen:List Int} (hc:CI P nB S c) (hg:Geo P nB S) (h:ZmP P nB c seen) (hs:1≤ZfL P nB c seen):2≤ZaV P nB c seen:=by
 rcases Nat.lt_or_ge (ZaV P nB c seen) 2 with hlt | hge
 ·exfalso
  have:=one_idle (g:=fun q=>Zed P (wq P c seen q)) (p:=fun q=>Zcb (wq P c seen q)) (n:=nB-2) (by unfold ZaV at hlt;omega) (fun k hk hp=>?_) fun k hk=>?_
  ·unfold ZfL allR mostR Zjk at hs;omega
  ·unfold Zed wq at *
   by_cases hb:(blk c (k+2)).Bad=true
   ·rw [Zeb hb];rfl
   ·have hb':(blk c (k+2)).Bad=false:=by simpa using hb
    rw [Zag hb'] at hp ⊢;unfold Zcb at hp;have h1:ZF P seen (k+2)≠0:=fun e=>by rw [e] at hp;simp at hp
    rw [if_neg (by simp),if_neg (by simp;omega)];dsimp only;rw [h (k+2) (by omega) (by omega) hb' (by omega)];omega
  ·unfold Zed wq
   by_cases hb:(blk c (k+2)).Bad=true
   ·rw [Zeb hb];exact Int.le_refl _
   ·have hb':(blk c (k+2)).Bad=false:=by simpa using hb
    rw [Zag hb'];have:=(hc.blkR (k:=k+2) (by omega)).2.2.1;rw [if_neg (by simp)]
    split
    ·omega
    ·dsimp only;omega
 ·exact hge
def FrontOut (P nB S:Nat) (w:flash_writer) (seen:List Int) (r:Int×Int×flash_writer):Prop:=
  (∃ k:Nat,2≤k∧k<nB∧(blk w.Vol.Chip k).Bad=false∧
      ((r=((k:Int),0,w)∧(blk w.Vol.Chip k).Used<P∧(0<ZF P seen k∨ZF P seen k=0∧ZmP P nB w.Vol.Chip seen∧(2≤ZaV P nB w.Vol.Chip seen∨w.beyond=true)))∨
       (∃ c' e,r=((k:Int),e,wch w c')∧ClearF P nB S w.Vol.Chip c' k e∧ZF P seen k=0∧(blk w.Vol.Chip k).Used=P∧ZmP P nB w.Vol.Chip seen∧(2≤ZaV P nB w.Vol.Chip seen∨w.beyond=true))))∨
    (r=(0,5,w)∧ZmP P nB w.Vol.Chip seen∧(ZaV P nB w.Vol.Chip seen=0∨ZaV P nB w.Vol.Chip seen=1∧w.beyond=false))
theorem front_get {w:flash_writer} {at':List Int} {P nB S:Nat} (hc:CI P nB S w.Vol.Chip) (hg:Geo P nB S) (ho:w.Vol.Chip.Off=false) (hv:ZlH P nB w.Vol.Chip (w.Vol.At++at')) (h1:w.Vol.At.length≤1000) (h2:at'.length≤1000) (hops:w.Vol.Chip.Ops+17≤Zcz) :
  ZeH (Zb1 w ([w.Vol.At,[]],at')) (FrontOut P nB S w (w.Vol.At++at')):=by
 have g1:=hg.b5;have g2:=hg.b11;have g3:=hg.p2;have g4:=hg.p8;have hfl:([w.Vol.At,[]].set 1 at').flatten=w.Vol.At++at':=by simp
 have hD:(ZaD P nB w.Vol.Chip (w.Vol.At++at')).length=nB-2:=ZbK;have hW:=Zfj hc hg hv;have hpk:∀ i,(hi:i<nB-2)→(ZaD P nB w.Vol.Chip (w.Vol.At++at'))[i]'(by omega)=Zan P w.Vol.Chip (w.Vol.At++at') (i+2):=fun i hi=>ZdG _
 unfold Zb1;dsimp only;rw [show idx [w.Vol.At,[]] (1:Int)=some [] from rfl,Zb,ZmI hc hg (lists:=[w.Vol.At,[]].set 1 at') (by rw [hfl];exact hv) (by simp) (fun l hl=>by simp at hl;rcases hl with rfl | rfl;exact h1;exact h2),Zb,hfl,
  ZkO (R:=fun x=>decide (x.Live>0)) (fun x=>rfl) (by omega),Zb]
 obtain ⟨r5,hr5,hf5⟩:=Ze8 ((ZaD P nB w.Vol.Chip (w.Vol.At++at')).map (Zgi fun x=>decide (x.Live>0))) w.Vol.Chip.Pages;rw [hr5,Zb];rw [hc.pgs] at hf5;rcases pick (S:=S) (nB:=nB) hW (by rfl) hf5 with ⟨i,hi,rfl,b1,b2,b3⟩ | ⟨rfl,hno⟩
 ·rw [hD] at hi;rw [hpk i hi] at b1 b2 b3;rw [Zec] at b1;rw [Zag b1] at b2 b3;rw [Zs,Zaa (by omega) (by omega),Zb];refine ZeH.s (.inl ⟨i+2,by omega,by omega,b1,.inl ⟨rfl,?_,.inl ?_⟩⟩)
  ·unfold rFree at b3;simpa using b3
  ·simpa using b2
 have hNL:ZmP P nB w.Vol.Chip (w.Vol.At++at'):=fun k k2 kB kb kl=>by
  have:=hno (k-2) (by rw [hD];omega);rw [hpk _ (by omega),show k-2+2=k by omega,Zec,Zag kb] at this;have:=this kb (by simpa using kl);unfold rFree at this;have hu:=(hc.blkR kB).2.2.1;simp at this;omega
 rw [Zo];refine ZeH.b (idle_get (by omega)) fun n hn=>?_
 have hid:(Zd5 (fun i=>Zcb ((ZaD P nB w.Vol.Chip (w.Vol.At++at')).getD i WBad)) (ZaD P nB w.Vol.Chip (w.Vol.At++at')).length)=ZaV P nB w.Vol.Chip (w.Vol.At++at'):=by
  rw [hD];refine ZhF fun j hj=>?_
  rw [ZcS (by omega),hpk j hj];rfl
 rw [hid] at hn;subst hn
 by_cases hz:ZaV P nB w.Vol.Chip (w.Vol.At++at')=0∨ZaV P nB w.Vol.Chip (w.Vol.At++at')=1∧w.beyond=false
 ·have:((decide ((ZaV P nB w.Vol.Chip (w.Vol.At++at'):Int)=0))||((decide ((ZaV P nB w.Vol.Chip (w.Vol.At++at'):Int)=1))&&(!w.beyond)))=true:=by
   rcases hz with e | ⟨e,e2⟩
   ·rw [e];rfl
   ·rw [e,e2];rfl
  rw [this,Zs];exact ZeH.s (.inr ⟨rfl,hNL,hz⟩)
 have hz2:((decide ((ZaV P nB w.Vol.Chip (w.Vol.At++at'):Int)=0))||((decide ((ZaV P nB w.Vol.Chip (w.Vol.At++at'):Int)=1))&&(!w.beyond)))=false:=by
  rw [Bool.eq_false_iff];intro x;rw [Bool.or_eq_true,Bool.and_eq_true,decide_eq_true_eq,decide_eq_true_eq] at x;rcases x with x | ⟨x,y⟩
  ·exact hz (.inl (by omega))
  ·exact hz (.inr ⟨by omega,by simpa using y⟩)
 have hidl:2≤ZaV P nB w.Vol.Chip (w.Vol.At++at')∨w.beyond=true:=by
  cases hb:w.beyond
  ·rw [hb] at hz;left;simp at hz;omega
  ·exact .inr rfl
 rw [hz2,Zo,ZkO (R:=fun x=>decide (x.Live=0)) (fun x=>rfl) (by omega),Zb];obtain ⟨r6,hr6,hf6⟩:=Ze8 ((ZaD P nB w.Vol.Chip (w.Vol.At++at')).map (Zgi fun x=>decide (x.Live=0))) w.Vol.Chip.Pages;rw [hr6,Zb];rw [hc.pgs] at hf6;rcases pick (S:=S) (nB:=nB) hW (by rfl) hf6 with ⟨i,hi,rfl,b1,b2,b3⟩ | ⟨rfl,hno2⟩
 ·rw [hD] at hi;rw [hpk i hi] at b1 b2 b3;rw [Zec] at b1;rw [Zag b1] at b2 b3;rw [Zs,Zaa (by omega) (by omega),Zb];refine ZeH.s (.inl ⟨i+2,by omega,by omega,b1,.inl ⟨rfl,?_,.inr ⟨?_,hNL,hidl⟩⟩⟩)
  ·unfold rFree at b3;simpa using b3
  ·simpa using b2
 rw [Zo];obtain ⟨r7,hr7,hf7⟩:=Zgm ((ZaD P nB w.Vol.Chip (w.Vol.At++at')).map (Zgi fun x=>decide (x.Live=0))) w.Vol.Chip.Pages;rw [hr7,Zb];rw [hc.pgs] at hf7;rcases pick (S:=S) (nB:=nB) hW (by rfl) hf7 with ⟨i,hi,rfl,b1,b2,b3⟩ | ⟨rfl,hno3⟩
 ·have hn2:=hno2 i hi b1 b2;rw [hD] at hi;rw [hpk i hi] at b1 b2 b3 hn2;rw [Zec] at b1;rw [Zag b1] at b2 b3 hn2;have hu:=(hc.blkR (k:=i+2) (by omega)).2.2.1;rw [Zaa (by omega) (by omega),Zb,Zb];refine ZeH.b (Zkj (w:=w) (k:=i+2) (z:=(i:Int)+2) rfl hc hg.s24 ho (by omega) b1 hops) fun r ⟨c',e,hr,hcl⟩=>?_
  subst hr;refine ZeH.s (.inl ⟨i+2,by omega,by omega,b1,.inr ⟨c',e,rfl,hcl,by simpa using b2,?_,hNL,hidl⟩⟩);unfold rFree at hn2;simp at hn2;omega
 ·exfalso
  have h0:ZaV P nB w.Vol.Chip (w.Vol.At++at')=0:=ZiS fun q hq=>by
   cases hh:Zcb (wq P w.Vol.Chip (w.Vol.At++at') q)
   ·rfl
   ·exfalso
    unfold Zcb wq at hh;have hb:(Zan P w.Vol.Chip (w.Vol.At++at') (q+2)).Bad=false:=by
     cases hB:(Zan P w.Vol.Chip (w.Vol.At++at') (q+2)).Bad
     ·rfl
     ·rw [hB] at hh;simp at hh
    have hL:(Zan P w.Vol.Chip (w.Vol.At++at') (q+2)).Live=0:=by
     rw [hb] at hh;simpa using hh
    have x1:=hno2 q (by rw [hD];exact hq);have x2:=hno3 q (by rw [hD];exact hq);rw [hpk q hq] at x1 x2;have y1:=x1 hb (by simpa using hL);have y2:=x2 hb (by simpa using hL);unfold rFree at y1;unfold rDead at y2;rw [hb] at y1 y2;simp [hL] at y1 y2;omega
  exact hz (.inl h0)
end Go.Proofs.YtkmojgfenlgchaaGreatDoor.Tr
namespace Go.Proofs.YtkmojgfenlgchaaGreatDoor.Tr
open Go
theorem cntTo_drop {p q:Nat→Bool} {k:Nat}:∀ {n:Nat},(∀ j,j<n→j≠k→q j=p j)→Zd5 p n≤Zd5 q n+if p k then 1 else 0
 | 0,_=>Nat.zero_le _
 | n+1,h=>by
  have ih:=cntTo_drop (p:=p) (q:=q) (k:=k) (n:=n) fun j hj=>h j (by omega)
  simp only [Zd5]
  by_cases e:n=k
  ·subst e;have:=ZhF (p:=q) (q:=p) (n:=n) fun j hj=>h j (by omega) (by omega)
   rw [this];cases p n <;> simp
  ·rw [h n (by omega) e];omega
theorem wq_same {P:Nat} {c c':Chip} {s t:List Int} {q:Nat} (hb:blk c' (q+2)=blk c (q+2)) (hl:ZF P t (q+2)=ZF P s (q+2)):wq P c' t q=wq P c s q:=by
 unfold wq Zan;rw [hb,hl]
theorem rm_place {P nB S:Nat} {c c':Chip} {s t:List Int} {k:Nat} (hc:CI P nB S c) (hg:Geo P nB S) (h2:2≤k) (hk:k<nB) (hb:(blk c k).Bad=false) (hb':(blk c' k).Bad=false) (hoth:∀ i,i≠k→blk c' i=blk c i) (hl:∀ i,ZF P t i=ZF P s i+if i=k then 1 else 0)
  (hr:(blk c k).Used<P∧(blk c' k).Used=(blk c k).Used+1∨ZF P s k=0∧(blk c k).Used=P∧(blk c' k).Used=1) :
  ZfL P nB c s-1≤ZfL P nB c' t∧ZaV P nB c s≤ZaV P nB c' t+if ZF P s k=0 then 1 else 0:=by
 have hP:=hg.p2;have hsame:∀ j,j<nB-2→j≠k-2→wq P c' t j=wq P c s j:=fun j hj hne=>wq_same (hoth _ (by omega)) (by rw [hl,if_neg (by omega),Nat.add_zero])
 have hk2:k-2+2=k:=by omega
 have w0:wq P c s (k-2)=⟨(ZF P s k:Int),(blk c k).Used,(blk c k).Worn,false⟩:=by unfold wq;rw [hk2];exact Zag hb
 have w1:wq P c' t (k-2)=⟨((ZF P s k+1:Nat):Int),(blk c' k).Used,(blk c' k).Worn,false⟩:=by unfold wq;rw [hk2,Zag hb',hl,if_pos rfl]
 have hu:=hc.blkR hk;have v1:Zed P (wq P c' t (k-2))=Zed P (wq P c s (k-2))-1:=by
  rw [w0,w1];unfold Zed;dsimp only;rw [if_neg (by decide),if_neg (by omega),if_neg (by decide)];rcases hr with ⟨a,b⟩ | ⟨a,b,d⟩
  ·rw [if_neg (by omega),b];omega
  ·rw [if_pos ⟨by omega,b⟩,d]
 have i1:Zcb (wq P c' t (k-2))=false:=by
  rw [w1];unfold Zcb;simp;omega
 have hsum:allR P nB c' t=allR P nB c s-1:=by
  unfold allR;rw [Zl9 (g:=fun q=>Zed P (wq P c s q)) (g':=fun q=>Zed P (wq P c' t q)) (k:=k-2) (fun j hj hne=>by
   show Zed P (wq P c' t j)=Zed P (wq P c s j);rw [hsame j hj hne]) (by omega)]
  show _-Zed P (wq P c s (k-2))+Zed P (wq P c' t (k-2))=_;rw [v1];omega
 have hmost:mostR P nB c' t≤mostR P nB c s:=ZlQ ZlP fun j hj=>by
  by_cases e:j=k-2
  ·subst e;unfold Zjk;rw [i1];exact ZlP
  ·show Zjk P (wq P c' t j)≤_;rw [hsame j hj e];exact maxTo_ge (g:=fun q=>Zjk P (wq P c s q)) hj
 refine ⟨by unfold ZfL;omega,?_⟩;have:=cntTo_drop (p:=fun q=>Zcb (wq P c s q)) (q:=fun q=>Zcb (wq P c' t q)) (k:=k-2) (n:=nB-2) fun j hj hne=>by
  show Zcb (wq P c' t j)=Zcb (wq P c s j);rw [hsame j hj hne]
 unfold ZaV;refine Nat.le_trans this (Nat.add_le_add_left ?_ _);show (if Zcb (wq P c s (k-2)) then 1 else 0)≤_;rw [w0];unfold Zcb
 by_cases e:ZF P s k=0
 ·rw [if_pos e];split <;> omega
 ·rw [if_neg e,if_neg (by simp;omega)];exact Nat.le_refl _
def PlaceOut (P nB S:Nat) (w:flash_writer) (seen:List Int) (b:List UInt8) (r:Int×Int×flash_writer):Prop:=
 ∃ n e c',r=(n,e,wch w c')∧Fr P nB S seen w.Vol.Chip c'∧c'.Off=decide (e=7)∧c'.Ops+18*(Zal w.Vol.Chip:Int)≤w.Vol.Chip.Ops+18*(Zal c':Int)+18∧(e=0∨e=5∨e=7)∧
  (e=0→∃ k j,n=Zd4 P k j∧2≤k∧k<nB∧j<P∧(j:Int)<(blk c' k).Used∧pg c' k j=b∧n∉seen)∧
  (w.Vol.Chip.Faults=[]→Zal w.Vol.Chip=0→w.beyond=false→∀ m,0≤m→m+1≤ZfL P nB w.Vol.Chip seen→1≤ZaV P nB w.Vol.Chip seen→
   e=0∧Zal c'=0∧∀ t,(∀ x,x∈t↔x∈seen∨x=n)→m≤ZfL P nB c' t∧1≤ZaV P nB c' t)
theorem loc_not {P nB:Nat} {c:Chip} {seen:List Int} {k j:Nat} (hv:ZlH P nB c seen) (hj:j<P) (h:(blk c k).Used≤(j:Int)):Zd4 P k j∉seen:=fun hx=>by
 rcases hv _ hx with e | ⟨k',j',e,a1,a2,a3,a4⟩
 ·have:=ZdM (P:=P) (k:=k) (j:=j);omega
 ·obtain ⟨rfl,rfl⟩:=Zjy hj a3 e;omega
theorem place_get {w:flash_writer} {at':List Int} {p:Page} {P nB S:Nat} (hc:CI P nB S w.Vol.Chip) (hg:Geo P nB S) (ho:w.Vol.Chip.Off=false) (hv:ZlH P nB w.Vol.Chip (w.Vol.At++at')) (h1:w.Vol.At.length≤1000) (h2:at'.length≤1000) (hm:PMay p S)
  (hops:w.Vol.Chip.Ops+300≤Zcz):ZeH (ZbZ w p ([w.Vol.At,[]],at')) (PlaceOut P nB S w (w.Vol.At++at') (Zbx (Zby p S))):=by
 have g1:=hg.b5;have g2:=hg.b11;have hlen:=(ZiH (n:=S) hm rfl).1;have hput:PutV p (S:Int)=(Zbx (Zby p S),0):=by
  unfold PutV;rw [if_pos hm,Int.toNat_natCast]
 unfold ZbZ;rw [hc.siz,Zhv,Zb,hput,Zf (by simp)];unfold Zcz at hops;refine ZeH.loop (fun s=>∃ c2,s=wch w c2∧Fr P nB S (w.Vol.At++at') w.Vol.Chip c2∧c2.Off=false∧c2.Ops+18*(Zal w.Vol.Chip:Int)≤w.Vol.Chip.Ops+18*(Zal c2:Int)∧(w.Vol.Chip.Faults=[]→Zal w.Vol.Chip=0→c2=w.Vol.Chip)) (fun s=>nB-Zal s.Vol.Chip) (fun s hs=>?_)
  ⟨w.Vol.Chip,rfl,Fr.refl hc,ho,by omega,fun _ _=>rfl⟩ (by show nB-Zal w.Vol.Chip<_;omega)
 obtain ⟨c2,rfl,hf,hoff,hop,hnf⟩:=hs;have hbn:=ZhN hf.ci;have hv2:=hf.held hv;unfold ZcW;refine ZeH.b (front_get (w:=wch w c2) (at':=at') hf.ci hg hoff hv2 h1 h2 (by show c2.Ops+17≤Zcz;unfold Zcz;omega)) fun x hx=>?_
 -- programming into a block that was chosen
 have key:∀ (k:Nat) (c3:Chip) (x:Int×Int×flash_writer),x=((k:Int),0,wch w c3)→2≤k→k<nB→Fr P nB S (w.Vol.At++at') c2 c3→c3.Off=false→(blk c3 k).Bad=false→(blk c3 k).Used<P→c3.Ops≤c2.Ops+17→Zal c3=Zal c2→(blk c2 k).Bad=false→(∀ i,i≠k→blk c3 i=blk c2 i)→
   ((blk c3 k).Used=(blk c2 k).Used∨ZF P (w.Vol.At++at') k=0∧(blk c2 k).Used=P∧(blk c3 k).Used=0)→(0<ZF P (w.Vol.At++at') k∨ZF P (w.Vol.At++at') k=0∧ZmP P nB c2 (w.Vol.At++at'))→
   ZeH ((bif (decide (x.2.1=(0:Int))) then ((mulI x.1 x.2.2.Vol.Chip.Pages).bind fun x_10=>(idx x.2.2.Vol.Chip.Blocks x.1).bind fun x_11=>(Zat x_10 x_11.Used).bind fun x_12=>(Zat x_12 (1:Int)).bind fun x_13=>(ZK x.2.2 x.1 (Zbx (Zby p S),(0:Int)).1).bind fun x_14=>bif (decide (x_14.1=(0:Int))) then (some (.inr (x_13,(0:Int),x_14.2)):Option ((Int×flash_writer)⊕(Int×Int×flash_writer))) else (some (.inl (x_14.1,x_14.2)))) else (some (.inl (x.2.1,x.2.2)))).bind fun o_9=>elS o_9 (fun s=>el2 s (fun e_7 w_8=>bif (decide (e_7≠(9:Int))) then (some (.inr ((0:Int),e_7,w_8)):Option (flash_writer⊕(Int×Int×flash_writer))) else (some (.inl w_8)))) (fun q=>some (.inr q)))
    (fun x=>(∃ s',x=.inl s'∧(∃ c2,s'=wch w c2∧Fr P nB S (w.Vol.At++at') w.Vol.Chip c2∧c2.Off=false∧c2.Ops+18*(Zal w.Vol.Chip:Int)≤w.Vol.Chip.Ops+18*(Zal c2:Int)∧(w.Vol.Chip.Faults=[]→Zal w.Vol.Chip=0→c2=w.Vol.Chip))∧nB-Zal s'.Vol.Chip<nB-Zal c2)∨
     ∃ e,x=.inr e∧PlaceOut P nB S w (w.Vol.At++at') (Zbx (Zby p S)) e):=by
  intro k c3 x hx k2 kB hf3 ho3 hb3 hu3 hop3 hbn3 hb2 hoth hused hcase;subst hx;dsimp only;have hB:=hf3.ci.blkR kB;have hv3:=hf3.held hv2;have hp8:=hg.p8;have hkP:k*P≤11*8:=Nat.mul_le_mul (by omega) hp8;have hpg:(wch w c3).Vol.Chip.Pages=P:=hf3.ci.pgs;have hch:(wch w c3).Vol.Chip=c3:=rfl;have hmul:(k:Int)*(P:Int)=((k*P:Nat):Int):=by simp
  rw [Zi (by simp),hpg,Zjw (by rw [hmul];omega) (by rw [hmul];omega),Zb,hch,hf3.ci.idxB rfl kB,Zb,hmul,Zaa (by omega) (by omega),Zb,Zaa (by omega) (by omega),Zb];refine ZeH.b (P:=fun o=>(∃ c4 e,o=.inl (e,wch w c4)∧ProgF P nB S c3 c4 k (Zbx (Zby p S)) e∧e≠0)∨∃ c4,o=.inr (((k*P:Nat):Int)+(blk c3 k).Used+1,0,wch w c4)∧ProgF P nB S c3 c4 k (Zbx (Zby p S)) 0)
   (ZeH.b (Zh9 (w:=wch w c3) (z:=(k:Int)) rfl hf3.ci ho3 kB hb3 hu3 hlen (by show c3.Ops<Zcz;unfold Zcz;omega)) fun r ⟨c4,e,hr,g⟩=>?_) fun o ho'=>?_
  ·subst hr
   by_cases e0:e=0
   ·subst e0;rw [Zi (by simp)];exact ZeH.s (.inr ⟨c4,rfl,g⟩)
   ·rw [Zf (by simpa using e0)];exact ZeH.s (.inl ⟨c4,e,rfl,g,e0⟩)
  ·rcases ho' with ⟨c4,e,rfl,g,e0⟩ | ⟨c4,rfl,g⟩
   ·rw [Zaw,Zcu];have hfr:=(hf.trans hf3).trans (g.fr k2);have gops:=g.ops;have gm:=g.many;have gnf:w.Vol.Chip.Faults=[]→e=0:=fun a=>g.nf (hf3.flt.trans (hf.flt.trans a))
    by_cases e9:e=9
    ·rw [Zf (by simpa using e9)];subst e9;rw [if_pos rfl] at gm;have:=ZhN g.ci;exact ZeH.l ⟨c4,rfl,hfr,by rw [g.off];rfl,by omega,fun a _=>absurd (gnf a) e0⟩ (by show nB-Zal c4<nB-Zal c2;omega)
    ·rw [Zi (by simpa using e9)];rw [if_neg e9] at gm;have e7:e=7:=by have:=g.err;omega
     exact Za5 ⟨0,e,c4,rfl,hfr,g.off,by omega,.inr (.inr e7),fun x=>absurd x e0,fun a=>absurd (gnf a) e0⟩
   ·rw [Zbp];have hfr:=(hf.trans hf3).trans (g.fr k2);have gops:=g.ops;have gm:=g.many;rw [if_neg (by decide)] at gm;have gu:=g.used;obtain ⟨q,_,hq1,hq2⟩:=g.pgn;have hjP:(blk c3 k).Used.toNat<P:=by omega
    have hn:((k*P:Nat):Int)+(blk c3 k).Used+1=Zd4 P k (blk c3 k).Used.toNat:=by unfold Zd4;omega
    have hni:Zd4 P k (blk c3 k).Used.toNat∉w.Vol.At++at':=loc_not hv3 hjP (by omega);refine Za5 ⟨_,0,c4,rfl,hfr,g.off,by omega,.inl rfl,fun _=>⟨k,(blk c3 k).Used.toNat,hn,k2,kB,hjP,by omega,by rw [hq2,hq1 rfl],by rw [hn];exact hni⟩,fun a b hbey m hm0 hm1 hid=>⟨rfl,?_,fun t ht=>?_⟩⟩
    ·rw [gm,hbn3,hnf a b,b]
    ·have hc2:c2=w.Vol.Chip:=hnf a b;rw [hn] at ht;have hl:=fun i=>Zkb (t:=t) hjP hni ht i
     have:=rm_place (c:=c2) (c':=c4) (s:=w.Vol.At++at') (t:=t) (k:=k) hf.ci hg k2 kB hb2 (by rw [g.bad];rfl) (fun i hi=>(g.oth i hi).trans (hoth i hi)) hl (by
      rcases hused with e | ⟨a1,a2,a3⟩
      ·left;exact ⟨by omega,by omega⟩
      ·right;exact ⟨a1,a2,by omega⟩)
     rw [← hc2] at hm1 hid;refine ⟨by omega,?_⟩;rcases hcase with e | ⟨e,hNL⟩
     ·rw [if_neg (by omega)] at this;omega
     ·have:=some_idle hf.ci hg hNL (by omega)
      split at * <;> omega
 rcases hx with ⟨k,k2,kB,kb,hx | ⟨c3,e,hx,hcl,hlv,hus,hNL,hid⟩⟩ | ⟨hx,hNL,hid⟩
 ·obtain ⟨hx,hu,hcase⟩:=hx;exact key k c2 x hx k2 kB (Fr.refl hf.ci) hoff kb hu (by omega) rfl kb (fun _ _=>rfl) (.inl rfl) (hcase.imp id fun h=>⟨h.1,h.2.1⟩)
 ·have clop:c3.Ops≤c2.Ops+17:=hcl.ops.2;have clm:Zal c3=Zal c2+if e=9 then 1 else 0:=hcl.many
  by_cases e0:e=0
  ·subst e0;have hu0:(blk c3 k).Used=0:=hcl.used rfl;have hp2:=hg.p2;exact key k c3 x hx k2 kB (hcl.fr k2 hlv) (by rw [hcl.off];rfl) (by rw [hcl.bad];rfl) (by omega) clop (by rw [clm];rfl) kb hcl.oth (.inr ⟨hlv,hus,hu0⟩) (.inr ⟨hlv,hNL⟩)
  ·subst hx;dsimp only;rw [Zf (by simpa using e0),Zb,Zaw,Zcu];have hfr:=hf.trans (hcl.fr k2 hlv);have gnf:w.Vol.Chip.Faults=[]→e=0:=fun a=>hcl.nf (hf.flt.trans a)
   by_cases e9:e=9
   ·rw [Zf (by simpa using e9)];subst e9;rw [if_pos rfl] at clm;have:=ZhN hcl.ci;exact ZeH.l ⟨c3,rfl,hfr,by rw [hcl.off];rfl,by omega,fun a _=>absurd (gnf a) e0⟩ (by show nB-Zal c3<nB-Zal c2;omega)
   ·rw [Zi (by simpa using e9)];rw [if_neg e9] at clm;have e7:e=7:=by have:=hcl.err;omega
    exact Za5 ⟨0,e,c3,rfl,hfr,hcl.off,by omega,.inr (.inr e7),fun x=>absurd x e0,fun a=>absurd (gnf a) e0⟩
 ·subst hx;dsimp only;rw [Zf (by simp),Zb,Zaw,Zcu,Zi (by simp)];refine Za5 ⟨0,5,c2,rfl,hf,hoff,by omega,.inr (.inl rfl),fun x=>by omega,fun a b hbey m hm0 hm1 hidl=>?_⟩
  exfalso
  have hc2:c2=w.Vol.Chip:=hnf a b;rw [← hc2] at hm1 hidl;have hNL':ZmP P nB c2 (w.Vol.At++at'):=hNL;have:=some_idle hf.ci hg hNL' (by omega);have hid':ZaV P nB c2 (w.Vol.At++at')=0∨ZaV P nB c2 (w.Vol.At++at')=1∧w.beyond=false:=hid;omega
end Go.Proofs.YtkmojgfenlgchaaGreatDoor.Tr
namespace Go.Proofs.YtkmojgfenlgchaaGreatDoor.Tr
open Go
theorem one_list {at0:List Int}:([at0]:List (List Int)).flatten=at0:=by simp
theorem blocks_one {w:flash_writer} {P nB S:Nat} (hc:CI P nB S w.Vol.Chip) (hg:Geo P nB S) (hv:ZlH P nB w.Vol.Chip w.Vol.At) (h1:w.Vol.At.length≤1000):Zam w [w.Vol.At]=some (ZaD P nB w.Vol.Chip w.Vol.At):=by
 have:=ZmI hc hg (lists:=[w.Vol.At]) (by rw [one_list];exact hv) (by simp) (fun l hl=>by simp at hl;rw [hl];exact h1);rw [one_list] at this;exact this
theorem room_get {w:flash_writer} {P nB S:Nat} (hc:CI P nB S w.Vol.Chip) (hg:Geo P nB S) (hv:ZlH P nB w.Vol.Chip w.Vol.At) (h1:w.Vol.At.length≤1000) :
  Zcm w=some (ZfL P nB w.Vol.Chip w.Vol.At,allR P nB w.Vol.Chip w.Vol.At):=by
 have g1:=hg.b5;have g2:=hg.b11;have g3:=hg.p2;have g4:=hg.p8;have hb:∀ i,i<nB-2→0≤Zed P (wq P w.Vol.Chip w.Vol.At i)∧Zed P (wq P w.Vol.Chip w.Vol.At i)≤P:=fun i hi=>by
  have:=Zl4 hc hg hv (k:=i+2) (by omega) (by omega);unfold WOk at this;unfold Zed wq
  split
  ·omega
  ·split <;> omega
 have hs:∀ n,n≤nB-2→0≤ZbQ (fun q=>Zed P (wq P w.Vol.Chip w.Vol.At q)) n∧ZbQ (fun q=>Zed P (wq P w.Vol.Chip w.Vol.At q)) n≤88:=fun n hn=>by
  have a:=ZlK (g:=fun q=>Zed P (wq P w.Vol.Chip w.Vol.At q)) (c:=8) (n:=n) fun k hk=>⟨(hb k (by omega)).1,by have:=(hb k (by omega)).2;show Zed P (wq P w.Vol.Chip w.Vol.At k)≤8;omega⟩
  omega
 have hx:∀ n,n≤nB-2→0≤Zi4 (fun q=>Zjk P (wq P w.Vol.Chip w.Vol.At q)) n∧Zi4 (fun q=>Zjk P (wq P w.Vol.Chip w.Vol.At q)) n≤8:=fun n hn=>⟨ZlP,ZlQ (by omega) fun k hk=>by
  have:=hb k (by omega);show Zjk P _≤8;unfold Zjk;split <;> omega⟩
 unfold Zcm;rw [blocks_one hc hg hv h1,Zb];refine Zgf (ZeH.b (P:=fun o=>o=(allR P nB w.Vol.Chip w.Vol.At,mostR P nB w.Vol.Chip w.Vol.At)) (ZeH.loop (σ:=Int×Int×Int) (fun s=>∃ i:Nat,s.2.2=i∧i≤nB-2∧s.1=ZbQ (fun q=>Zed P (wq P w.Vol.Chip w.Vol.At q)) i∧s.2.1=Zi4 (fun q=>Zjk P (wq P w.Vol.Chip w.Vol.At q)) i)
  (fun s=>nB-2-s.2.2.toNat) (fun s hs'=>?_) ⟨0,rfl,by omega,rfl,rfl⟩ (by show nB-2-0<_;omega)) fun o ho=>?_)
 ·obtain ⟨al,mo,z⟩:=s;obtain ⟨i,rfl,hi,rfl,rfl⟩:=hs';dsimp only;unfold Zdc;rw [ZbK]
  by_cases hlt:i<nB-2
  ·have hb':=hb i hlt;have hs1:=hs i (by omega);have hx1:=hx i (by omega);rw [ZeU hlt,Zs,ZcH (d:=WBad) rfl (by rw [ZbK];exact hlt),Zb,ZcS (by rw [ZbK];exact hlt),ZdG,hc.pgs];have hww:Zan P w.Vol.Chip w.Vol.At (i+2)=wq P w.Vol.Chip w.Vol.At i:=rfl;have hwok:=Zl4 hc hg hv (k:=i+2) (by omega) (by omega);rw [hww] at hwok ⊢;unfold WOk at hwok;refine ZeH.b (P:=fun o=>o=(ZbQ (fun q=>Zed P (wq P w.Vol.Chip w.Vol.At q)) (i+1),Zi4 (fun q=>Zjk P (wq P w.Vol.Chip w.Vol.At q)) (i+1))) ?_ fun o ho=>?_
   ·simp only [ZbQ,Zi4];generalize ZbQ (fun q=>Zed P (wq P w.Vol.Chip w.Vol.At q)) i=s0 at hs1 ⊢;generalize Zi4 (fun q=>Zjk P (wq P w.Vol.Chip w.Vol.At q)) i=m0 at hx1 ⊢;unfold Zjk Zcb;unfold Zed at hb' ⊢;cases hbad:(wq P w.Vol.Chip w.Vol.At i).Bad
    ·rw [Zo,ZaO (by omega) (by omega),Zb];rw [hbad] at hb';simp only [Bool.false_eq_true,if_false] at hb' ⊢
     by_cases hl:(wq P w.Vol.Chip w.Vol.At i).Live=0
     ·rw [Zi (by simp [hl])]
      by_cases hu:(wq P w.Vol.Chip w.Vol.At i).Used=P
      ·rw [Zi (by simp [hu]),Zb,Zb,Zcu,Zaa (by omega) (by omega),Zb];refine ZeH.s ?_;rw [if_pos ⟨hl,hu⟩];simp [hl]
      ·rw [Zf (by simp;omega),Zb,Zb,Zcu,Zaa (by omega) (by omega),Zb];refine ZeH.s ?_;rw [if_neg (fun x=>hu x.2)];simp [hl]
     ·rw [Zf (by simp [hl]),Zb,Zcu,Zaa (by omega) (by omega),Zb];refine ZeH.s ?_;rw [if_neg (fun x=>hl x.1)];simp [hl];exact (Int.max_eq_left hx1.1).symm
    ·rw [Zs];refine ZeH.s ?_;simp;exact (Int.max_eq_left hx1.1).symm
   ·subst ho;rw [Zcu,ZR (by omega),Zb];exact ZeH.l ⟨i+1,rfl,by omega,rfl,rfl⟩ (by show nB-2-(i+1)<nB-2-(i:Int).toNat;omega)
  ·rw [Zjx (by omega),Zo];have:i=nB-2:=by omega
   subst this;exact Za5 rfl
 ·subst ho;have:=hs (nB-2) (Nat.le_refl _);have:=hx (nB-2) (Nat.le_refl _);rw [Zcu,ZaO (by unfold allR mostR;omega) (by unfold allR mostR;omega),Zb];exact ZeH.s rfl
theorem places_get {w:flash_writer} {P nB S:Nat} (hc:CI P nB S w.Vol.Chip) (hg:Geo P nB S) {L:Nat} (hL:w.Vol.Last=L) (hL2:L<2):ZeH (ZbI w) (fun x=>Zal w.Vol.Chip=0→x=P):=by
 have g1:=hg.b5;have ho1:(1:Int)-w.Vol.Last=((1-L:Nat):Int):=by omega
 unfold ZbI;rw [ZaO (by omega) (by omega),Zb,ho1,hc.idxB rfl (by omega),Zb,ZkS hL hc (by omega),Zb];cases hb:(blk w.Vol.Chip (1-L)).Bad
 ·rw [Zo,hc.idxB hL (by omega),Zb,ZkS rfl hc (by omega)];cases hb2:(blk w.Vol.Chip L).Bad
  ·rw [Zbd,Zb,Bool.false_and,Zo];exact ZeH.s fun _=>hc.pgs
  ·rw [ZaL,Zb,Zb];have hno:Zal w.Vol.Chip≠0:=fun e=>by rw [ZlU hc (k:=L) (by omega) e] at hb2;cases hb2
   refine ZeH.c (fun _=>ZeH.s fun e=>absurd e hno) fun _=>ZeH.s fun e=>absurd e hno
 ·rw [Zs];refine ZeH.s fun e=>?_
  rw [ZlU hc (k:=1-L) (by omega) e] at hb;cases hb
def VicAt (P nB:Nat) (w:flash_writer) (a:Int):Prop:=∃ i:Nat,a=i∧i<nB-2∧(blk w.Vol.Chip (i+2)).Bad=false∧0<ZF P w.Vol.At (i+2)∧(ZF P w.Vol.At (i+2):Int)<(blk w.Vol.Chip (i+2)).Used
theorem victim_get {w:flash_writer} {P nB S:Nat} (hc:CI P nB S w.Vol.Chip) (hg:Geo P nB S) (hv:ZlH P nB w.Vol.Chip w.Vol.At) (ho:w.Vol.Chip.Ops<Zcz) :
  ZeH (ZbF w (ZaD P nB w.Vol.Chip w.Vol.At)) (fun r=>
   (∃ i:Nat,r=((i:Int),true)∧i<nB-2∧(blk w.Vol.Chip (i+2)).Bad=false∧0<ZF P w.Vol.At (i+2)∧(ZF P w.Vol.At (i+2):Int)<(blk w.Vol.Chip (i+2)).Used)∨
   (r.2=false∧∀ k,2≤k→k<nB→(blk w.Vol.Chip k).Bad=false→0<ZF P w.Vol.At k→(blk w.Vol.Chip k).Used≤(ZF P w.Vol.At k:Int))):=by
 have g1:=hg.b5;have g2:=hg.b11;have g3:=hg.p2;have g4:=hg.p8;have hD:(ZaD P nB w.Vol.Chip w.Vol.At).length=nB-2:=ZbK;have hW:=Zfj hc hg hv;have hpk:∀ i,(hi:i<nB-2)→(ZaD P nB w.Vol.Chip w.Vol.At)[i]'(by omega)=Zan P w.Vol.Chip w.Vol.At (i+2):=fun i hi=>ZdG _
 unfold ZbF;obtain ⟨r,hr,hf⟩:=wear_Victim_eq (ZaD P nB w.Vol.Chip w.Vol.At) w.Vol.Chip.Pages;rw [hr,Zb];rw [hc.pgs] at hf;rcases pick_raw hW hf with ⟨i,hi,rfl,h1⟩ | ⟨rfl,hno⟩
 ·rw [Zs];rw [hD] at hi;rw [hpk i hi] at h1;cases hb:(blk w.Vol.Chip (i+2)).Bad
  ·rw [Zag hb] at h1;unfold rMix at h1;rw [Zo] at h1;simp at h1;exact ZeH.s (.inl ⟨i,rfl,hi,hb,by omega,by omega⟩)
  ·rw [Zeb hb] at h1;unfold rMix at h1;simp at h1
 ·rw [Zo];refine ZeH.b (P:=fun (o:Int×Int)=>(0<o.2→VicAt P nB w o.1)∧
    (∀ q,q<nB-2→(blk w.Vol.Chip (q+2)).Bad=false→0<ZF P w.Vol.At (q+2)→(blk w.Vol.Chip (q+2)).Used-(ZF P w.Vol.At (q+2):Int)≤o.2))
   (ZeH.loop (σ:=Int×Int×Int) (fun s=>∃ i:Nat,s.2.2=i∧i≤nB-2∧0≤s.2.1∧(0<s.2.1→VicAt P nB w s.1)∧
    (∀ q,q<i→(blk w.Vol.Chip (q+2)).Bad=false→0<ZF P w.Vol.At (q+2)→(blk w.Vol.Chip (q+2)).Used-(ZF P w.Vol.At (q+2):Int)≤s.2.1))
    (fun s=>nB-2-s.2.2.toNat) (fun s hs=>?_) ⟨0,rfl,by omega,by decide,fun x=>by simp at x,fun q hq=>by omega⟩ (by show nB-2-0<_;omega)) fun o ⟨o1,o2⟩=>?_
  ·obtain ⟨a,m,z⟩:=s;obtain ⟨i,rfl,hi,hm,hA,hB⟩:=hs;dsimp only at hm hA hB ⊢;unfold ZcF;rw [hD]
   by_cases hlt:i<nB-2
   ·rw [ZeU hlt,Zs,ZB (by omega),Zb,hpk i hlt];have hwo:=hc.worn (i+2) (by omega);have hkB:=hc.blkR (k:=i+2) (by omega);unfold Zcz at ho;have hkeep:((blk w.Vol.Chip (i+2)).Bad=true∨ZF P w.Vol.At (i+2)=0)→(∀ q,q<i+1→(blk w.Vol.Chip (q+2)).Bad=false→0<ZF P w.Vol.At (q+2)→(blk w.Vol.Chip (q+2)).Used-(ZF P w.Vol.At (q+2):Int)≤m):=fun h q hq b1 b2=>by
     by_cases e:q=i
     ·subst e;rcases h with h | h
      ·rw [h] at b1;cases b1
      ·omega
     ·exact hB q (by omega) b1 b2
    cases hbad:(blk w.Vol.Chip (i+2)).Bad
    ·rw [Zag hbad];have hlv:ZF P w.Vol.At (i+2)≤P:=ZiT
     by_cases hl:ZF P w.Vol.At (i+2)=0
     ·have e:((false||decide ((ZF P w.Vol.At (i+2):Int)=0))||decide ((blk w.Vol.Chip (i+2)).Worn≥1099511627776))=true:=by simp [hl]
      dsimp only;rw [e,Zs,Zb,Zcu,ZR (by omega),Zb];exact ZeH.l ⟨i+1,rfl,by omega,hm,hA,hkeep (.inr hl)⟩ (by show nB-2-(i+1)<nB-2-(i:Int).toNat;omega)
     ·have e:((false||decide ((ZF P w.Vol.At (i+2):Int)=0))||decide ((blk w.Vol.Chip (i+2)).Worn≥1099511627776))=false:=by simp [hl];omega
      dsimp only;rw [e,Zo,ZaO (by omega) (by omega),Zb]
      by_cases hgt:(blk w.Vol.Chip (i+2)).Used-(ZF P w.Vol.At (i+2):Int)>m
      ·rw [Zi (by simpa using hgt),Zb,Zcu,ZR (by omega),Zb];refine ZeH.l ⟨i+1,rfl,by omega,by dsimp only;omega,fun _=>⟨i,rfl,hlt,hbad,by omega,by omega⟩,fun q hq b1 b2=>?_⟩ (by show nB-2-(i+1)<nB-2-(i:Int).toNat;omega);dsimp only
       by_cases e:q=i
       ·subst e;exact Int.le_refl _
       ·have:=hB q (by omega) b1 b2;omega
      ·rw [Zf (by simpa using hgt),Zb,Zcu,ZR (by omega),Zb];refine ZeH.l ⟨i+1,rfl,by omega,hm,hA,fun q hq b1 b2=>?_⟩ (by show nB-2-(i+1)<nB-2-(i:Int).toNat;omega);dsimp only
       by_cases e:q=i
       ·subst e;omega
       ·exact hB q (by omega) b1 b2
    ·rw [Zeb hbad];dsimp only;rw [Bool.true_or,Bool.true_or,Zs,Zb,Zcu,ZR (by omega),Zb];exact ZeH.l ⟨i+1,rfl,by omega,hm,hA,hkeep (.inl hbad)⟩ (by show nB-2-(i+1)<nB-2-(i:Int).toNat;omega)
   ·rw [Zjx (by omega),Zo];have:i=nB-2:=by omega
    subst this;exact Za5 ⟨hA,hB⟩
  ·obtain ⟨a,m⟩:=o;dsimp only at o1 o2;rw [Zcu];refine ZeH.s ?_
   by_cases hm:0<m
   ·obtain ⟨i,rfl,h⟩:=o1 hm;exact .inl ⟨i,by simp [hm],h⟩
   ·refine .inr ⟨by simpa using hm,fun k k2 kB b1 b2=>?_⟩;have:=o2 (k-2) (by omega);rw [show k-2+2=k by omega] at this;have:=this b1 b2;omega
end Go.Proofs.YtkmojgfenlgchaaGreatDoor.Tr
namespace Go.Proofs.YtkmojgfenlgchaaGreatDoor.Tr
open Go
theorem ZeD {l:List Int} {x:Int}:x∈l↔∃ i,i<l.length∧l.getD i 0=x:=by
 constructor
 ·intro h;obtain ⟨i,hi,e⟩:=List.getElem_of_mem h;exact ⟨i,hi,by rw [ZcS hi,e]⟩
 ·rintro ⟨i,hi,e⟩;rw [← e,ZcS hi];exact List.getElem_mem hi
theorem ZiL {l:List Int} {id:Nat} {x y:Int} (h:id<l.length):x∈l.set id y↔x=y∨∃ i,i≠id∧i<l.length∧l.getD i 0=x:=by
 rw [ZeD]
 constructor
 ·rintro ⟨i,hi,e⟩;rw [Zce h] at e;rw [List.length_set] at hi
  by_cases hh:i=id
  ·rw [if_pos hh] at e;exact .inl e.symm
  ·rw [if_neg hh] at e;exact .inr ⟨i,hh,hi,e⟩
 ·rintro (rfl | ⟨i,hh,hi,e⟩)
  ·exact ⟨id,by rw [List.length_set];exact h,by rw [Zce h,if_pos rfl]⟩
  ·exact ⟨i,by rw [List.length_set];exact hi,by rw [Zce h,if_neg hh];exact e⟩
theorem liveN_add2 {P:Nat} {s t:List Int} {k j:Nat} (hj:j<P) (hn:Zd4 P k j∉s) (ht:∀ a b,b<P→(Zd4 P a b∈t↔Zd4 P a b∈s∨Zd4 P a b=Zd4 P k j)) (q:Nat):ZF P t q=ZF P s q+if q=k then 1 else 0:=by
 have h:=Zkb (P:=P) (s:=s) (t:=s++[Zd4 P k j]) hj hn (fun x=>by simp) q;rw [← h];refine ZfT fun b hb=>?_
 rw [ht q b hb];simp
theorem liveN_move {P:Nat} {l:List Int} {id k j k' j':Nat} (hid:id<l.length) (hold:l.getD id 0=Zd4 P k j) (hj:j<P) (hj':j' < P) (hu:∀ i,i<l.length→l.getD i 0=Zd4 P k j→i=id) (hnew:Zd4 P k' j'∉l) (q:Nat) :
  ZF P (l.set id (Zd4 P k' j')) q+(if q=k then 1 else 0)=ZF P l q+(if q=k' then 1 else 0):=by
 have hz:∀ a b,Zd4 P a b≠0:=fun a b e=>by have:=ZdM (P:=P) (k:=a) (j:=b);omega
 have h1:=liveN_add2 (P:=P) (s:=l.set id 0) (t:=l) (k:=k) (j:=j) hj (fun x=>by
  rcases (ZiL hid).1 x with e | ⟨i,a,b,e⟩
  ·exact hz _ _ e
  ·exact a (hu i b e)) (fun a b hb=>by
  rw [ZiL hid]
  constructor
  ·intro x;obtain ⟨i,hi,e⟩:=ZeD.1 x
   by_cases hh:i=id
   ·subst hh;exact .inr (e.symm.trans hold)
   ·exact .inl (.inr ⟨i,hh,hi,e⟩)
  ·rintro ((e | ⟨i,_,hi,e⟩) | e)
   ·exact absurd e (hz _ _)
   ·exact ZeD.2 ⟨i,hi,e⟩
   ·exact ZeD.2 ⟨id,hid,hold.trans e.symm⟩) q
 have h2:=liveN_add2 (P:=P) (s:=l.set id 0) (t:=l.set id (Zd4 P k' j')) (k:=k') (j:=j') hj' (fun x=>by
  rcases (ZiL hid).1 x with e | ⟨i,a,b,e⟩
  ·exact hz _ _ e
  ·exact hnew (ZeD.2 ⟨i,b,e⟩)) (fun a b hb=>by
  rw [ZiL hid,ZiL hid]
  constructor
  ·rintro (e | h)
   ·exact .inr e
   ·exact .inl (.inr h)
  ·rintro ((e | h) | e)
   ·exact absurd e (hz _ _)
   ·exact .inr h
   ·exact .inl e) q
 rw [h1,h2];omega
def ZdB (P nB:Nat) (c:Chip) (seen:List Int) (i:Nat):List Wear:=(ZaD P nB c seen).set i WBad
theorem Zmn {P nB:Nat} {c:Chip} {seen:List Int} {i q:Nat} (hq:q<(ZdB P nB c seen i).length):(ZdB P nB c seen i)[q]=if q=i then WBad else Zan P c seen (q+2):=by
 unfold ZdB at *;rw [List.getElem_set]
 by_cases e:i=q
 ·rw [if_pos e,if_pos e.symm]
 ·rw [if_neg e,if_neg (Ne.symm e),ZdG]
theorem others_len {P nB:Nat} {c:Chip} {seen:List Int} {i:Nat}:(ZdB P nB c seen i).length=nB-2:=by unfold ZdB;rw [List.length_set,ZbK]
theorem Zj8 {P nB S:Nat} {c:Chip} {seen:List Int} {i:Nat} (hc:CI P nB S c) (hg:Geo P nB S) (hv:ZlH P nB c seen):ZcK (ZdB P nB c seen i) P:=wright_set (Zfj hc hg hv) wok_bad
def TargetOut (P nB S:Nat) (w:flash_writer) (i:Nat) (r:Int×Int×flash_writer):Prop:=
 (∃ k:Nat,2≤k∧k<nB∧k≠i+2∧(blk w.Vol.Chip k).Bad=false∧ZF P w.Vol.At k=0∧
  ((r=((k:Int),0,w)∧(blk w.Vol.Chip k).Used=0)∨∃ c' e,r=((k:Int),e,wch w c')∧ClearF P nB S w.Vol.Chip c' k e))∨
 (r=(0,6,w)∧∀ k,2≤k→k<nB→k≠i+2→(blk w.Vol.Chip k).Bad=false→0<ZF P w.Vol.At k)
theorem target_get {w:flash_writer} {i:Nat} {P nB S:Nat} (hc:CI P nB S w.Vol.Chip) (hg:Geo P nB S) (ho:w.Vol.Chip.Off=false) (hv:ZlH P nB w.Vol.Chip w.Vol.At) (hi:i<nB-2) (hops:w.Vol.Chip.Ops+17≤Zcz) :
  ZeH (ZbH w (ZdB P nB w.Vol.Chip w.Vol.At i)) (TargetOut P nB S w i):=by
 have g1:=hg.b5;have g2:=hg.b11;have g3:=hg.p2;have g4:=hg.p8;have hW:=Zj8 (i:=i) hc hg hv;have hD:(ZdB P nB w.Vol.Chip w.Vol.At i).length=nB-2:=others_len
 -- a block that was picked is a good one, and not the one left out
 have hgood:∀ q,(hq:q<(ZdB P nB w.Vol.Chip w.Vol.At i).length)→(ZdB P nB w.Vol.Chip w.Vol.At i)[q].Bad=false→q≠i∧(blk w.Vol.Chip (q+2)).Bad=false∧(ZdB P nB w.Vol.Chip w.Vol.At i)[q]=⟨(ZF P w.Vol.At (q+2):Int),(blk w.Vol.Chip (q+2)).Used,(blk w.Vol.Chip (q+2)).Worn,false⟩:=fun q hq hb=>by
  rw [Zmn] at hb ⊢
  by_cases e:q=i
  ·rw [if_pos e] at hb;cases hb
  ·rw [if_neg e] at hb ⊢;rw [Zec] at hb;exact ⟨e,hb,Zag hb⟩
 have hother:∀ k,2≤k→k<nB→k≠i+2→(blk w.Vol.Chip k).Bad=false→∃ h:k-2<(ZdB P nB w.Vol.Chip w.Vol.At i).length,(ZdB P nB w.Vol.Chip w.Vol.At i)[k-2]=⟨(ZF P w.Vol.At k:Int),(blk w.Vol.Chip k).Used,(blk w.Vol.Chip k).Worn,false⟩:=fun k k2 kB kn kb=>by
  refine ⟨by omega,?_⟩;rw [Zmn,if_neg (by omega),show k-2+2=k by omega,Zag kb]
 have hlive0:∀ k,k<nB→(blk w.Vol.Chip k).Used=0→ZF P w.Vol.At k=0:=fun k kB h0=>Zc6.2 fun j hj=>loc_not hv hj (by omega)
 unfold ZbH;rw [ZkO (R:=fun x=>decide (x.Used=0)) (fun x=>rfl) (by omega),Zb];obtain ⟨r1,hr1,hf1⟩:=Ze8 ((ZdB P nB w.Vol.Chip w.Vol.At i).map (Zgi fun x=>decide (x.Used=0))) w.Vol.Chip.Pages;rw [hr1,Zb];rw [hc.pgs] at hf1;rcases pick (S:=S) (nB:=nB) hW (by rfl) hf1 with ⟨q,hq,rfl,b1,b2,b3⟩ | ⟨rfl,hno1⟩
 ·obtain ⟨q1,q2,q3⟩:=hgood q hq b1;rw [q3] at b2 b3;rw [Zs,Zaa (by omega) (by omega),Zb];have hu0:(blk w.Vol.Chip (q+2)).Used=0:=by simpa using b2
  exact ZeH.s (.inl ⟨q+2,by omega,by omega,by omega,q2,hlive0 _ (by omega) hu0,.inl ⟨rfl,hu0⟩⟩)
 rw [Zo,ZkO (R:=fun x=>decide (x.Used=w.Vol.Chip.Pages)) (fun x=>rfl) (by omega),Zb];obtain ⟨r2,hr2,hf2⟩:=Zgm ((ZdB P nB w.Vol.Chip w.Vol.At i).map (Zgi fun x=>decide (x.Used=w.Vol.Chip.Pages))) w.Vol.Chip.Pages;rw [hr2,Zb];rw [hc.pgs] at hf2;have hclear:∀ q:Nat,q<nB-2→q≠i→(blk w.Vol.Chip (q+2)).Bad=false→ZF P w.Vol.At (q+2)=0→∀ z:Int,z=((q+2:Nat):Int)→ZeH ((ZV w z).bind fun x=>some (z,x.1,x.2)) (TargetOut P nB S w i):=fun q hq q1 q2 q3 z hz=>by
  subst hz;refine ZeH.b (Zkj (w:=w) (k:=q+2) rfl hc hg.s24 ho (by omega) q2 hops) fun r ⟨c',e,hr,hcl⟩=>?_
  subst hr;exact ZeH.s (.inl ⟨q+2,by omega,by omega,by omega,q2,q3,.inr ⟨c',e,rfl,hcl⟩⟩)
 rcases pick (S:=S) (nB:=nB) hW (by rfl) hf2 with ⟨q,hq,rfl,b1,b2,b3⟩ | ⟨rfl,hno2⟩
 ·obtain ⟨q1,q2,q3⟩:=hgood q hq b1;rw [q3] at b2 b3;rw [Zs,Zaa (by omega) (by omega),Zb,Zb];unfold rDead at b3;simp at b3;exact hclear q (by omega) q1 q2 (by omega) _ (by show (q:Int)+2=_;omega)
 rw [Zo,ZkO (R:=fun x=>decide (x.Worn<1099511627776)) (fun x=>rfl) (by omega),Zb];obtain ⟨r3,hr3,hf3⟩:=Zgm ((ZdB P nB w.Vol.Chip w.Vol.At i).map (Zgi fun x=>decide (x.Worn<1099511627776))) w.Vol.Chip.Pages;rw [hr3,Zb];rw [hc.pgs] at hf3;rcases pick (S:=S) (nB:=nB) hW (by rfl) hf3 with ⟨q,hq,rfl,b1,b2,b3⟩ | ⟨rfl,hno3⟩
 ·obtain ⟨q1,q2,q3⟩:=hgood q hq b1;rw [q3] at b2 b3;rw [Zs,Zaa (by omega) (by omega),Zb,Zb];unfold rDead at b3;simp at b3;exact hclear q (by omega) q1 q2 (by omega) _ (by show (q:Int)+2=_;omega)
 ·rw [Zo];refine ZeH.s (.inr ⟨rfl,fun k k2 kB kn kb=>?_⟩);obtain ⟨hk,e⟩:=hother k k2 kB kn kb;have hu:=hc.blkR kB;have hw:=hc.worn k kB;unfold Zcz at hops;have x1:=hno1 (k-2) hk;have x3:=hno3 (k-2) hk;rw [e] at x1 x3;have y3:=x3 rfl (by simp;omega);unfold rDead at y3;rcases Nat.eq_zero_or_pos (ZF P w.Vol.At k) with h0 | h0
  ·exfalso
   simp [h0] at y3;have hu0:(blk w.Vol.Chip k).Used=0:=by omega
   have y1:=x1 rfl (by simp [hu0]);unfold rFree at y1;simp at y1;omega
  ·exact h0
end Go.Proofs.YtkmojgfenlgchaaGreatDoor.Tr
namespace Go.Proofs.YtkmojgfenlgchaaGreatDoor.Tr
open Go
def MOK (P nB S:Nat) (c:Chip) (bod:List (List UInt8)):Prop:=CI P nB S c∧∃ at0 gen last,RI P c gen at0 last∧GI P nB c at0 bod∧(gen.toNat:Int)≤c.Ops
def WV (P nB S:Nat) (w:flash_writer) (bod:List (List UInt8)):Prop:=VI P nB S w.Vol.Chip w.Vol.At w.Vol.Gen w.Vol.Last bod
theorem WV.fr {P nB S:Nat} {w:flash_writer} {bod:List (List UInt8)} {c':Chip} {s:List Int} (h:WV P nB S w bod) (hf:Fr P nB S s w.Vol.Chip c') (hs:∀ x∈w.Vol.At,x∈s) (ho:c'.Off=false):WV P nB S (wch w c') bod:=
 ⟨hf.ci,ho,hf.ri h.ri,hf.gi hs h.gi,by have:=h.gen;have:=hf.opsl;show (w.Vol.Gen.toNat:Int)≤c'.Ops;omega⟩
theorem WV.mfr {P nB S:Nat} {w:flash_writer} {bod:List (List UInt8)} {c':Chip} {s:List Int} (h:WV P nB S w bod) (hf:Fr P nB S s w.Vol.Chip c') (hs:∀ x∈w.Vol.At,x∈s):MOK P nB S c' bod:=
 ⟨hf.ci,_,_,_,hf.ri h.ri,hf.gi hs h.gi,by have:=h.gen;have:=hf.opsl;omega⟩
theorem WrF.gi {P nB S:Nat} {c c':Chip} {e:Int} {at0:List Int} {bod:List (List UInt8)} (h:WrF P nB S c c' e) (hg:GI P nB c at0 bod):GI P nB c' at0 bod:=hg.keep fun id k j _ _ h2 _ _ h5=>by
 rw [h.oth k h2];exact ⟨h5,Zmj (h.oth k h2)⟩
theorem GIat.may {P nB S:Nat} {c:Chip} (hc:CI P nB S c) {id:Nat} {n:Int} {b:List UInt8} (h:GIat P nB c id n b) (h0:n≠0):id<64∧(b.length:Int)≤S-16:=by
 rcases h with g | ⟨k,j,g,a1,a2,a3,a4,a5,a6,a7⟩
 ·exact absurd g.1 h0
 ·have:=(read_ok (b:=pg c k j) (by rw [a6]) (by rw [a6];show (1:Int)≠0;decide)).1;rw [a6,hc.pgl a3 a4] at this;obtain ⟨p1,p2,p3,p4,p5,p6⟩:=this;dsimp only at p4 p6;exact ⟨by omega,p6⟩
structure MV (P nB S:Nat) (w:flash_writer) (bod:List (List UInt8)) (frm:Nat) (to:Int) (i:Nat) (at7:List Int) (c2:Chip):Prop where
 fr:Fr P nB S w.Vol.At w.Vol.Chip c2
 off:c2.Off=false
 gi:GI P nB c2 at7 bod
 len:at7.length=w.Vol.At.length
 same:blk c2 frm=blk w.Vol.Chip frm
 done:∀ id,id<i→∀ j,j<P→at7.getD id 0≠Zd4 P frm j
 rest:∀ id,i≤id→at7.getD id 0=w.Vol.At.getD id 0
 used:∀ q,2≤q→q<nB→q≠frm→(blk c2 q).Used-(ZF P at7 q:Int)=(blk w.Vol.Chip q).Used-(ZF P w.Vol.At q:Int)∧ZF P w.Vol.At q≤ZF P at7 q∧(blk c2 q).Bad=(blk w.Vol.Chip q).Bad∧(blk c2 q=blk w.Vol.Chip q∨(q:Int)=to∨(to=-1∧0<ZF P w.Vol.At q))
 tot:∀ k:Nat,to=k→ZF P at7 frm+ZF P at7 k=ZF P w.Vol.At frm
 ops:c2.Ops≤w.Vol.Chip.Ops+i
 bad:Zal c2=Zal w.Vol.Chip
def ToOk (P nB:Nat) (w:flash_writer) (frm:Nat) (to:Int):Prop:=
 (∃ k:Nat,to=k∧2≤k∧k<nB∧k≠frm∧(blk w.Vol.Chip k).Bad=false∧(blk w.Vol.Chip k).Used=0∧ZF P w.Vol.At k=0)∨
 (to=-1∧∀ k,2≤k→k<nB→k≠frm→(blk w.Vol.Chip k).Bad=false→0<ZF P w.Vol.At k)
theorem MV.step {P nB S:Nat} {w:flash_writer} {bod:List (List UInt8)} {frm:Nat} {to:Int} {i:Nat} {at7:List Int} {c2 c3:Chip} (hg:Geo P nB S) (hv0:ZlH P nB w.Vol.Chip w.Vol.At) (h:MV P nB S w bod frm to i at7 c2) (hi:i<w.Vol.At.length) {j:Nat} (hj:j<P) (hold:w.Vol.At.getD i 0=Zd4 P frm j)
  {k:Nat} (k2:2≤k) (kB:k<nB) (kn:k≠frm) (hkb:(blk c2 k).Bad=false) (hu:(blk c2 k).Used<P) (hto:(k:Int)=to∨(to=-1∧0<ZF P w.Vol.At k)) (hm:PMay ⟨1,i,w.Vol.Gen+1,bod.getD i []⟩ S) (hn:bod.getD i []≠[])
  (g:ProgF P nB S c2 c3 k (Zbx (Zby ⟨1,i,w.Vol.Gen+1,bod.getD i []⟩ S)) 0) :
  MV P nB S w bod frm to (i+1) (at7.set i (Zd4 P k (blk c2 k).Used.toNat)) c3:=by
 have hB:=h.fr.ci.blkR kB;have hil:i<at7.length:=by rw [h.len];exact hi
 have hjP:(blk c2 k).Used.toNat<P:=by omega
 have hf:=g.fr (s:=w.Vol.At) k2;have hf7:=g.fr (s:=at7) k2;have hold7:at7.getD i 0=Zd4 P frm j:=(h.rest i (Nat.le_refl _)).trans hold;have hv7:=h.gi.held;have hnew:Zd4 P k (blk c2 k).Used.toNat∉at7:=loc_not hv7 hjP (by omega);have hlp:=ZdM (P:=P) (k:=frm) (j:=j);have huq:∀ i',i' < at7.length→at7.getD i' 0=Zd4 P frm j→i'=i:=fun i' hi' e=>h.gi.inj hi' hil (e.trans hold7.symm) (by rw [e];omega)
 have hmv:=liveN_move (id:=i) hil hold7 hj hjP huq hnew;have goth:=g.oth;have gused:=g.used;have gbad:(blk c3 k).Bad=false:=by rw [g.bad];rfl
 have gops:=g.ops;have gm:=g.many;rw [if_neg (by decide)] at gm;have hops:=h.ops;refine ⟨h.fr.trans hf,by rw [g.off];rfl,⟨by rw [List.length_set];exact h.gi.1,fun id hid=>?_⟩,by rw [List.length_set];exact h.len,(goth frm (Ne.symm kn)).trans h.same,fun id hid j' hj'=>?_,fun id hid=>?_,fun q q2 qB qn=>?_,fun k' hk'=>?_,by omega,by rw [gm,h.bad];rfl⟩
 ·rw [List.length_set] at hid;rw [Zce hil]
  by_cases e:id=i
  ·subst e;rw [if_pos rfl];obtain ⟨q,_,hq1,hq2⟩:=g.pgn;exact .inr ⟨k,(blk c2 k).Used.toNat,w.Vol.Gen+1,rfl,k2,kB,hjP,by omega,by rw [hq2,hq1 rfl];exact read_put (n:=S) hm,hn⟩
  ·rw [if_neg e];exact (hf7.gi (fun x hx=>hx) h.gi).2 id hid
 ·rw [Zce hil]
  by_cases e:id=i
  ·rw [if_pos e];intro x;exact kn (Zjy hjP hj' x).1
  ·rw [if_neg e];exact h.done id (by omega) j' hj'
 ·rw [Zce hil,if_neg (by omega)];exact h.rest id (by omega)
 ·obtain ⟨a1,a2,a3,a4⟩:=h.used q q2 qB qn;have hq:=hmv q;rw [if_neg qn] at hq
  by_cases e:q=k
  ·subst e;rw [if_pos rfl] at hq;exact ⟨by omega,by omega,by rw [gbad,← a3,hkb],.inr hto⟩
  ·rw [if_neg e] at hq;rw [goth q e];exact ⟨by omega,by omega,a3,a4⟩
 ·have:=h.tot k' hk';have hf':=hmv frm;have hk'':=hmv k';rw [if_pos rfl,if_neg (Ne.symm kn)] at hf';have e:k'=k:=by
   rcases hto with e | ⟨e,_⟩ <;> omega
  subst e;rw [if_neg kn,if_pos rfl] at hk'';omega
def MoveOut (P nB S:Nat) (w:flash_writer) (bod:List (List UInt8)) (frm:Nat) (to:Int) (r:Bool×Int×flash_writer):Prop:=
  ∃ c',Zal w.Vol.Chip≤Zal c'∧w.Vol.Chip.Ops≤c'.Ops∧c'.Ops≤w.Vol.Chip.Ops+140∧c'.Faults=w.Vol.Chip.Faults∧
  ((∃ at' last',r=(true,0,⟨⟨c',at',w.Vol.Gen+1,last'⟩,w.beyond⟩)∧VI P nB S c' at' (w.Vol.Gen+1) last' bod∧at'.length=w.Vol.At.length∧ZF P at' frm=0∧blk c' frm=blk w.Vol.Chip frm∧
      (∀ q,2≤q→q<nB→q≠frm→(blk c' q).Used-(ZF P at' q:Int)=(blk w.Vol.Chip q).Used-(ZF P w.Vol.At q:Int)∧ZF P w.Vol.At q≤ZF P at' q∧(blk c' q).Bad=(blk w.Vol.Chip q).Bad∧(blk c' q=blk w.Vol.Chip q∨(q:Int)=to∨(to=-1∧0<ZF P w.Vol.At q)))∧
      (w.Vol.Chip.Faults=[]→Zal w.Vol.Chip=0→Zal c'=0))∨
   (r=(false,0,wch w c')∧Fr P nB S w.Vol.At w.Vol.Chip c'∧c'.Off=false∧Zal w.Vol.Chip<Zal c'∧w.Vol.Chip.Faults≠[])∨
   (r=(false,6,wch w c')∧Fr P nB S w.Vol.At w.Vol.Chip c'∧c'.Off=false∧to=-1)∨
   (∃ e,(e=7∨e=9)∧r=(false,e,wch w c')∧MOK P nB S c' bod∧¬ (w.Vol.Chip.Faults=[]∧Zal w.Vol.Chip=0)))
theorem root_may {P nB S:Nat} {c:Chip} {at0:List Int} {gen:UInt64} (hg:Geo P nB S) (hv:ZlH P nB c at0) (hn:(at0.length:Int)≤Zd6 S) (hG:gen.toNat≤1099511627776):RMay ⟨gen+1,at0⟩ S:=by
 have:=hg.s24;have:=hg.s256;refine ⟨⟨by omega,by omega⟩,?_,hn,fun x hx=>?_⟩
 ·rw [UInt64.lt_iff_toNat_lt];show (gen+1).toNat<281474976710656;rw [UInt64.toNat_add];show (gen.toNat+1) % 18446744073709551616<_;omega
 ·rcases hv x hx with e | ⟨k,j,e,a1,a2,a3,a4⟩
  ·omega
  ·have:=ZdM (P:=P) (k:=k) (j:=j);have:=loc_le (P:=P) a2 a3;have:nB*P≤11*8:=Nat.mul_le_mul hg.b11 hg.p8;omega
theorem gen_may {gen:UInt64} (hG:gen.toNat≤1099511627776):gen+1<UInt64.ofNat 281474976710656∧(gen+1).toNat=gen.toNat+1:=by
 have e:(gen+1).toNat=gen.toNat+1:=by
  rw [UInt64.toNat_add];show (gen.toNat+1) % 18446744073709551616=_;omega
 refine ⟨?_,e⟩;rw [UInt64.lt_iff_toNat_lt,e];show gen.toNat+1<281474976710656;omega
theorem MV.skip {P nB S:Nat} {w:flash_writer} {bod:List (List UInt8)} {frm:Nat} {to:Int} {i:Nat} {at7:List Int} {c2:Chip} (h:MV P nB S w bod frm to i at7 c2) (hn:∀ j,j<P→w.Vol.At.getD i 0≠Zd4 P frm j):MV P nB S w bod frm to (i+1) at7 c2:=
 ⟨h.fr,h.off,h.gi,h.len,h.same,fun id hid j hj=>by
  by_cases e:id=i
  ·subst e;rw [h.rest id (Nat.le_refl _)];exact hn j hj
  ·exact h.done id (by omega) j hj,fun id hid=>h.rest id (by omega),h.used,h.tot,by have:=h.ops;omega,h.bad⟩
theorem move_get {w:flash_writer} {bod:List (List UInt8)} {frm:Nat} {to:Int} {z:Int} {P nB S:Nat} (hz:z=frm) (hw:WV P nB S w bod) (hg:Geo P nB S) (f2:2≤frm) (fB:frm<nB) (hto:ToOk P nB w frm to) (hn:(w.Vol.At.length:Int)≤Zd6 S)
  (hops:w.Vol.Chip.Ops+200≤Zcz):ZeH (ZbA w z to) (MoveOut P nB S w bod frm to):=by
 subst hz;have g1:=hg.b5;have g2:=hg.b11;have g3:=hg.p2;have g4:=hg.p8;have hc:=hw.ci;have hal:=Zkn hw.ri;have hv:=hw.gi.held;have hgn:=hw.gen;have hops':=hops;unfold Zcz at hops;have hgm:=gen_may (gen:=w.Vol.Gen) (by omega);have hN:=hc.nat;unfold ZbA;rw [Zki (by omega),Zb];refine ZeH.b (P:=fun o=>(∃ at7 c2,o=.inl (at7,wch w c2)∧MV P nB S w bod frm to w.Vol.At.length at7 c2)∨∃ r,o=.inr r∧MoveOut P nB S w bod frm to r)
  (ZeH.loop (σ:=Int×List Int×flash_writer) (fun s=>∃ i:Nat,∃ c2,s.1=i∧s.2.2=wch w c2∧i≤w.Vol.At.length∧MV P nB S w bod frm to i s.2.1 c2) (fun s=>w.Vol.At.length-s.1.toNat) (fun s hs=>?_)
   ⟨0,w.Vol.Chip,rfl,rfl,by omega,⟨Fr.refl hc,hw.off,hw.gi,rfl,rfl,fun id hid=>by omega,fun _ _=>rfl,fun q _ _ _=>⟨rfl,Nat.le_refl _,rfl,.inl rfl⟩,fun k hk=>?_,by omega,rfl⟩⟩ (by show w.Vol.At.length-0<_;omega)) fun o ho=>?_
 rotate_left
 ·rcases hto with ⟨k',e,_,_,_,_,_,h0⟩ | ⟨e,_⟩
  ·have:k=k':=by omega
   subst this;dsimp only;rw [h0];omega
  ·omega
 ·rcases ho with ⟨at7,c2,rfl,h⟩ | ⟨r,rfl,h⟩
  ·rw [Zaw,Zcu];have hri:=h.fr.ri hw.ri;have hhd:=h.gi.held;have hop2:=h.ops;have hopl:=h.fr.opsl;refine ZeH.b (write_get (w:=wch w c2) (at':=at7) h.fr.ci hg h.off hri (root_may hg hhd (by rw [h.len];exact hn) (by show w.Vol.Gen.toNat≤_;omega)) (by show w.Vol.Gen.toNat<_;omega) (by show c2.Ops+8≤Zcz;unfold Zcz;omega)) fun r ⟨c',e,hW,hr⟩=>?_
   have hW:WrF P nB S c2 c' e:=hW;have hwo:=hW.ops;have hwm:=hW.many;have hbb:=h.bad;have hgi7:=hW.gi h.gi;have hgiA:=hW.gi (h.fr.gi (fun x hx=>hx) hw.gi);have hoth:∀ q,2≤q→blk c' q=blk c2 q:=hW.oth;rcases hr with ⟨rfl,hO1,last',rfl,hri'⟩ | ⟨he,rfl,hst⟩
   ·have hO1:c2.Ops+1≤c'.Ops:=hO1;refine ZeH.s ⟨c',by omega,by omega,by omega,hW.flt.trans h.fr.flt,.inl ⟨at7,last',rfl,⟨hW.ci,by rw [hW.off];rfl,hri',hgi7,by show ((w.Vol.Gen+1).toNat:Int)≤c'.Ops;omega⟩,h.len,?_,(hoth frm f2).trans h.same,fun q q2 qB qn=>?_,fun a b=>?_⟩⟩
    ·refine Zc6.2 fun j hj hx=>?_
     obtain ⟨id,hid,e⟩:=ZeD.1 hx;exact h.done id (by rw [← h.len];exact hid) j hj e
    ·rw [hoth q q2];exact h.used q q2 qB qn
    ·exact (hW.nf (h.fr.flt.trans a) (by rw [h.bad];exact b)).2
   ·refine ZeH.s ⟨c',by omega,by omega,by omega,hW.flt.trans h.fr.flt,.inr (.inr (.inr ⟨e,he,?_,⟨hW.ci,?_⟩,fun ⟨a,b⟩=>?_⟩))⟩
    ·dsimp only;rw [show decide (e=0)=false by simp;omega];rfl
    ·rcases hst with a | ⟨l',a,b⟩
     ·exact ⟨_,_,_,a,hgiA,by show (w.Vol.Gen.toNat:Int)≤_;omega⟩
     ·have b:c2.Ops+1≤c'.Ops:=b;exact ⟨_,_,_,a,hgi7,by show ((w.Vol.Gen+1).toNat:Int)≤_;omega⟩
    ·have:=(hW.nf (h.fr.flt.trans a) (by rw [h.bad];exact b)).1;omega
  ·rw [Zbp];exact ZeH.s h
 obtain ⟨z,at7,w8⟩:=s;obtain ⟨i,c2,rfl,rfl,hi,h⟩:=hs;dsimp only at h ⊢;unfold Zdd
 by_cases hlt:i<w.Vol.At.length
 ·rw [ZeU hlt,Zs,ZcH (d:=0) rfl hlt,Zb];refine ZeH.b (P:=fun o=>(∃ at' c3,o=.inl (at',wch w c3)∧MV P nB S w bod frm to (i+1) at' c3)∨∃ r,o=.inr r∧MoveOut P nB S w bod frm to r) ?_ fun o ho=>?_
  rotate_left
  ·rcases ho with ⟨at',c3,rfl,h3⟩ | ⟨r,rfl,h3⟩
   ·rw [Zaw,Zcu,ZR (by omega),Zb];exact ZeH.l ⟨i+1,c3,rfl,rfl,by omega,h3⟩ (by show w.Vol.At.length-(i+1)<w.Vol.At.length-(i:Int).toNat;omega)
   ·rw [Zbp];exact Za5 (.inr ⟨r,rfl,h3⟩)
  rcases hw.gi.2 i hlt with g | ⟨k0,j,g,a1,a2,a3,a4,a5,a6,a7⟩
  ·rw [g.1,show (!decide ((0:Int)=0))=false from rfl,Zbd,Zb,Zbd,Zb,show decide ((0:Int)=0)=true from rfl,Bool.true_or,Zs];refine ZeH.s (.inl ⟨_,_,rfl,h.skip fun j hj e=>?_⟩);have:=ZdM (P:=P) (k:=frm) (j:=j);rw [g.1] at e;omega
  ·have hlp:=ZdM (P:=P) (k:=k0) (j:=j);have hll:=loc_le (P:=P) a3 a4;have:nB*P≤11*8:=Nat.mul_le_mul hg.b11 hg.p8;have hq:=Zjz (k:=k0) a4;have hne0:decide (Zd4 P k0 j=0)=false:=by rw [decide_eq_false_iff_not];omega
   rw [a1,hne0,Bool.not_false,ZaL,ZaO (by omega) (by omega),Zb,ZaL,hc.pgs,ZfO (by omega) (by omega),Zb,hq.1,Bool.false_or]
   by_cases hkf:k0=frm
   ·subst hkf;rw [Zf (by simp)];have hold7:at7.getD i 0=Zd4 P k0 j:=(h.rest i (Nat.le_refl _)).trans a1;have hil:i<at7.length:=by rw [h.len];exact hlt
    have hhd:=h.gi.held;have hA2:GI P nB c2 w.Vol.At bod:=h.fr.gi (fun x hx=>hx) hw.gi;have hop2:=h.ops;have hopl:=h.fr.opsl
    -- the block
    refine ZeH.b (P:=fun o=>(∃ k:Nat,o=.inl (k:Int)∧2≤k∧k<nB∧k≠k0∧(blk c2 k).Bad=false∧(blk c2 k).Used<P∧((k:Int)=to∨(to=-1∧0<ZF P w.Vol.At k)))∨(o=.inr (false,6,wch w c2)∧to=-1)) ?_ fun o ho=>?_
    ·rcases hto with ⟨k,rfl,k2,kB,kn,kb,ku,kl⟩ | ⟨rfl,hall⟩
     ·rw [Zf (by simp)];obtain ⟨u1,u2,u3,u4⟩:=h.used k k2 kB kn;have ht:=h.tot k rfl;have hlf:ZF P w.Vol.At k0≤P:=ZiT;have hl1:ZF P at7 k0≠0:=fun e=>Zc6.1 e j a4 (ZeD.2 ⟨i,hil,hold7⟩)
      exact ZeH.s (.inl ⟨k,rfl,k2,kB,kn,by rw [u3];exact kb,by omega,.inl rfl⟩)
     ·rw [Zi (by decide),show idx [(wch w c2).Vol.At,[]] (1:Int)=some [] from rfl,Zb];have hfl:([(wch w c2).Vol.At,[]].set 1 at7).flatten=w.Vol.At++at7:=by simp [wch]
      have hvv:ZlH P nB c2 (w.Vol.At++at7):=(h.fr.held hv).app hhd;rw [ZmI (w:=wch w c2) h.fr.ci hg (lists:=[(wch w c2).Vol.At,[]].set 1 at7) (by rw [hfl];exact hvv) (by simp) (fun l hl=>by
       simp at hl;rcases hl with rfl | rfl
       ·show w.Vol.At.length≤1000;omega
       ·rw [h.len];omega),Zb,hfl,ZaO (by omega) (by omega),Zb,show ((k0:Int)-2)=((k0-2:Nat):Int) by omega,ZcH (d:=WBad) rfl (by rw [ZbK];omega),Zb,Zb,Int.toNat_natCast]
      have hot:(ZaD P nB (wch w c2).Vol.Chip (w.Vol.At++at7)).set (k0-2) ⟨0,0,0,true⟩=ZdB P nB c2 (w.Vol.At++at7) (k0-2):=rfl;rw [hot];obtain ⟨r1,hr1,hf1⟩:=Ze8 (ZdB P nB c2 (w.Vol.At++at7) (k0-2)) (P:Int);rw [hr1,Zb];rcases pick_raw (Zj8 h.fr.ci hg hvv) hf1 with ⟨q,hq',rfl,b1⟩ | ⟨rfl,_⟩
      ·rw [Bool.not_true,Zo];rw [Zmn] at b1;rw [others_len] at hq'
       by_cases e:q=k0-2
       ·rw [if_pos e] at b1;cases b1
       ·rw [if_neg e] at b1;cases hbad:(blk c2 (q+2)).Bad
        ·rw [Zag hbad] at b1;unfold rFree at b1;rw [Zaa (by omega) (by omega),Zb];obtain ⟨u1,u2,u3,u4⟩:=h.used (q+2) (by omega) (by omega) (by omega);refine ZeH.s (.inl ⟨q+2,rfl,by omega,by omega,by omega,hbad,by simpa using b1,.inr ⟨rfl,hall (q+2) (by omega) (by omega) (by omega) ?_⟩⟩);rw [← u3];exact hbad
        ·rw [Zeb hbad] at b1;cases b1
      ·rw [Bool.not_false,Zs];exact ZeH.s (.inr ⟨rfl,rfl⟩)
    ·rcases ho with ⟨k,rfl,k2,kB,kn,kb,ku,kto⟩ | ⟨rfl,rfl⟩
     ·have hB:=h.fr.ci.blkR kB;have hne:w.Vol.At.getD i 0≠0:=by rw [a1];omega
      have hmay:=(hw.gi.2 i hlt).may hc hne;have hPM:PMay ⟨1,i,w.Vol.Gen+1,bod.getD i []⟩ S:=by
       have:=hg.s24;have:=hg.s256;exact ⟨⟨by omega,by omega⟩,.inl rfl,by show (0:Int)≤(i:Int);omega,by show (i:Int)<64;omega,hgm.1,hmay.2⟩
      have hbn:bod.getD i []≠[]:=a7;have hlen:=(ZiH (n:=S) hPM rfl).1;have hput:PutV ⟨1,i,w.Vol.Gen+1,bod.getD i []⟩ (S:Int)=(Zbx (Zby ⟨1,i,w.Vol.Gen+1,bod.getD i []⟩ S),0):=by
       unfold PutV;rw [if_pos hPM,Int.toNat_natCast]
      rw [Zaw,show Zft (wch w c2).Vol (i:Int)=some (bod.getD i []) from body_eq rfl h.fr.ci hg hA2 hlt hne,Zb,Zb,show (wch w c2).Vol.Chip.Size=(S:Int) from h.fr.ci.siz,
       show (⟨1,(i:Int),(wch w c2).Vol.Gen+UInt64.ofNat 1,bod.getD i []⟩:Page)=⟨1,i,w.Vol.Gen+1,bod.getD i []⟩ from rfl,Zhv,Zb,hput,Zf (by simp),show (wch w c2).Vol.Chip=c2 from rfl,h.fr.ci.idxB rfl kB,Zb]
      refine ZeH.b (Zh9 (w:=wch w c2) (k:=k) rfl h.fr.ci h.off kB kb ku hlen (by show c2.Ops<Zcz;unfold Zcz;omega)) fun r ⟨c3,e,hr,g⟩=>?_
      have g:ProgF P nB S c2 c3 k (Zbx (Zby ⟨1,i,w.Vol.Gen+1,bod.getD i []⟩ S)) e:=g;subst hr;have gops:=g.ops;have gm:=g.many;have hbb:=h.bad
      by_cases e0:e=0
      ·subst e0;have hjP:(blk c2 k).Used.toNat<P:=by omega
       have hkP:k*P≤11*8:=Nat.mul_le_mul (by omega) g4;have hmul:(k:Int)*(P:Int)=((k*P:Nat):Int):=by simp
       rw [Zf (by simp),Zjw (by rw [hmul];omega) (by rw [hmul];omega),Zb,hmul,Zaa (by omega) (by omega),Zb,Zaa (by omega) (by omega),Zb,ZcH (d:=0) rfl hil,Zb,Zb,Int.toNat_natCast];have hnl:((k*P:Nat):Int)+(blk c2 k).Used+1=Zd4 P k (blk c2 k).Used.toNat:=by unfold Zd4;omega
       rw [hnl];exact ZeH.s (.inl ⟨_,c3,rfl,h.step hg hv hlt a4 a1 k2 kB kn kb ku kto hPM hbn g⟩)
      ·rw [Zi (by simpa using e0)];have hfr:=h.fr.trans (g.fr (s:=w.Vol.At) k2);have hnf:w.Vol.Chip.Faults≠[]:=fun a=>e0 (g.nf (h.fr.flt.trans a))
       unfold ZaA
       by_cases e9:e=9
       ·rw [Zi (by simpa using e9),Zb];rw [if_pos e9] at gm;exact ZeH.s (.inr ⟨_,rfl,c3,by omega,by omega,by omega,hfr.flt,.inr (.inl ⟨rfl,hfr,by rw [g.off,e9];rfl,by omega,hnf⟩)⟩)
       ·rw [Zf (by simpa using e9),Zb];rw [if_neg e9] at gm;have e7:e=7:=by have:=g.err;omega
        exact ZeH.s (.inr ⟨_,rfl,c3,by omega,by omega,by omega,hfr.flt,.inr (.inr (.inr ⟨e,.inl e7,rfl,hw.mfr hfr (fun x hx=>hx),fun x=>hnf x.1⟩))⟩)
     ·rw [Zbp];exact ZeH.s (.inr ⟨_,rfl,c2,by rw [h.bad];exact Nat.le_refl _,by omega,by omega,h.fr.flt,.inr (.inr (.inl ⟨rfl,h.fr,h.off,rfl⟩))⟩)
   ·rw [Zi (by rw [decide_eq_true_iff];omega)];exact ZeH.s (.inl ⟨_,_,rfl,h.skip fun j' hj' e=>hkf (Zjy a4 hj' (a1.symm.trans e)).1⟩)
 ·rw [Zjx (by omega),Zo];have:i=w.Vol.At.length:=by omega
  subst this;exact Za5 (.inl ⟨_,_,rfl,h⟩)
end Go.Proofs.YtkmojgfenlgchaaGreatDoor.Tr
namespace Go.Proofs.YtkmojgfenlgchaaGreatDoor.Tr
open Go
def mW (P:Nat) (w:Wear):Int:=if w.Bad then 0 else if w.Live=0 then (if 0<w.Used∧w.Used<P then 1 else 0) else w.Used-w.Live
def mR (P nB:Nat) (c:Chip) (seen:List Int):Int:=ZbQ (fun q=>mW P (wq P c seen q)) (nB-2)
theorem mW_bad {P:Nat} {c:Chip} {s:List Int} {k:Nat} (h:(blk c k).Bad=true):mW P (Zan P c s k)=0:=by rw [Zeb h];rfl
theorem ZfS {P:Nat} {c:Chip} {s:List Int} {k:Nat} (h:(blk c k).Bad=false):mW P (Zan P c s k)=if ZF P s k=0 then (if 0<(blk c k).Used∧(blk c k).Used<P then 1 else 0) else (blk c k).Used-(ZF P s k:Int):=by
 rw [Zag h];unfold mW;dsimp only;rw [if_neg (by decide)]
 by_cases e:ZF P s k=0
 ·rw [if_pos e,if_pos (by omega)]
 ·rw [if_neg e,if_neg (by omega)]
theorem live_used {P nB:Nat} {c:Chip} {s:List Int} {k:Nat} (hv:ZlH P nB c s) (h0:0≤(blk c k).Used):(ZF P s k:Int)≤(blk c k).Used:=by
 have:ZF P s k≤(blk c k).Used.toNat:=ZkX fun j hj hp=>by
  have hp:Zd4 P k j∈s:=by simpa using hp
  rcases Int.lt_or_le (j:Int) (blk c k).Used with x | x
  ·omega
  ·exact absurd hp (loc_not hv hj x)
 omega
theorem mW_range {P nB S:Nat} {c:Chip} {s:List Int} {k:Nat} (hc:CI P nB S c) (hg:Geo P nB S) (hv:ZlH P nB c s) (kB:k<nB):0≤mW P (Zan P c s k)∧mW P (Zan P c s k)≤P:=by
 have hB:=hc.blkR kB;have hl:=live_used hv hB.2.1;have:=hg.p2;cases hb:(blk c k).Bad
 ·rw [ZfS hb]
  split
  ·split <;> omega
  ·omega
 ·rw [mW_bad hb];omega
theorem mR_range {P nB S:Nat} {c:Chip} {s:List Int} (hc:CI P nB S c) (hg:Geo P nB S) (hv:ZlH P nB c s):0≤mR P nB c s∧mR P nB c s≤72:=by
 have g2:=hg.b11;have g4:=hg.p8;have:=ZlK (g:=fun q=>mW P (wq P c s q)) (c:=8) (n:=nB-2) fun k hk=>by
  have:=mW_range (k:=k+2) hc hg hv (by omega);exact ⟨this.1,by show mW P (Zan P c s (k+2))≤8;omega⟩
 unfold mR;omega
theorem ZgU {f g:Nat→Int}:∀ {n:Nat},(∀ k,k<n→f k≤g k)→ZbQ f n≤ZbQ g n
 | 0,_=>Int.le_refl _
 | n+1,h=>by
  have:=ZgU (n:=n) fun k hk=>h k (by omega)
  have:=h n (by omega);simp only [ZbQ];omega
theorem sumTo_less {f g:Nat→Int} {q:Nat}:∀ {n:Nat},(∀ k,k<n→f k≤g k)→q<n→f q+1≤g q→ZbQ f n+1≤ZbQ g n
 | n+1,h,hq,hl=>by
  simp only [ZbQ]
  by_cases e:q=n
  ·subst e;have:=ZgU (f:=f) (g:=g) (n:=q) fun k hk=>h k (by omega)
   omega
  ·have:=sumTo_less (n:=n) (fun k hk=>h k (by omega)) (by omega) hl;have:=h n (by omega);omega
theorem mR_less {P nB:Nat} {c c':Chip} {s t:List Int} {frm:Nat} (f2:2≤frm) (fB:frm<nB) (h:∀ q,2≤q→q<nB→mW P (Zan P c' t q)≤mW P (Zan P c s q)) (hl:mW P (Zan P c' t frm)+1≤mW P (Zan P c s frm)):mR P nB c' t+1≤mR P nB c s:=
 sumTo_less (q:=frm-2) (fun k hk=>h (k+2) (by omega) (by omega)) (by omega) (by
  show mW P (Zan P c' t (frm-2+2))+1≤mW P (Zan P c s (frm-2+2));rw [show frm-2+2=frm by omega];exact hl)
theorem mW_congr {P:Nat} {c c':Chip} {s t:List Int} {k:Nat} (hb:blk c' k=blk c k) (hl:ZF P t k=ZF P s k):mW P (Zan P c' t k)=mW P (Zan P c s k):=by
 unfold Zan;rw [hb,hl]
theorem Zmv {P nB:Nat} {c:Chip} {s:List Int} {k:Nat} (k2:2≤k) (kB:k<nB) (hb:(blk c k).Bad=false) (hl:ZF P s k=0):1≤ZaV P nB c s:=by
 rcases Nat.eq_zero_or_pos (ZaV P nB c s) with e | e
 ·exfalso
  have:=ZiR e (k-2) (by omega);unfold Zcb wq at this;rw [show k-2+2=k by omega,Zag hb,hl] at this;simp at this
 ·exact e
theorem idle_ex {P nB:Nat} {c:Chip} {s:List Int} (h:1≤ZaV P nB c s):∃ k,2≤k∧k<nB∧(blk c k).Bad=false∧ZF P s k=0:=by
 by_cases hh:∃ k,2≤k∧k<nB∧(blk c k).Bad=false∧ZF P s k=0
 ·exact hh
 ·exfalso
  have:ZaV P nB c s=0:=ZiS fun q hq=>by
   show Zcb (Zan P c s (q+2))=false;cases hb:(blk c (q+2)).Bad
   ·rw [Zag hb];unfold Zcb;have:ZF P s (q+2)≠0:=fun e=>hh ⟨q+2,by omega,by omega,hb,e⟩
    simp;omega
   ·rw [Zeb hb];rfl
  omega
theorem ClearF.mR {P nB S:Nat} {c c':Chip} {s:List Int} {k:Nat} {e:Int} (h:ClearF P nB S c c' k e) (kB:k<nB) (kb:(blk c k).Bad=false) (hl:ZF P s k=0) (he:e=0∨e=9):∀ q,2≤q→q<nB→mW P (Zan P c' s q)≤mW P (Zan P c s q):=fun q q2 qB=>by
 by_cases eq:q=k
 ·subst eq;rw [ZfS kb,if_pos hl];rcases he with rfl | rfl
  ·have hb:(blk c' q).Bad=false:=by rw [h.bad];rfl
   rw [ZfS hb,if_pos hl,if_neg (by rw [h.used rfl];omega)]
   split <;> omega
  ·have hb:(blk c' q).Bad=true:=by rw [h.bad];rfl
   rw [mW_bad hb]
   split <;> omega
 ·rw [mW_congr (h.oth q eq) rfl];exact Int.le_refl _
def NF (c:Chip):Prop:=c.Faults=[]∧Zal c=0
def RelOut (P nB S:Nat) (w:flash_writer) (bod:List (List UInt8)) (i:Nat) (r:Int×flash_writer):Prop:=
  Zal w.Vol.Chip≤Zal r.2.Vol.Chip∧w.Vol.Chip.Ops≤r.2.Vol.Chip.Ops∧r.2.Vol.Chip.Ops≤w.Vol.Chip.Ops+180∧r.2.Vol.Chip.Faults=w.Vol.Chip.Faults∧r.2.beyond=w.beyond∧r.2.Vol.At.length=w.Vol.At.length∧
  ((r.1=0∧WV P nB S r.2 bod∧(Zal w.Vol.Chip<Zal r.2.Vol.Chip∨mR P nB r.2.Vol.Chip r.2.Vol.At+1≤mR P nB w.Vol.Chip w.Vol.At)∧(NF w.Vol.Chip→Zal r.2.Vol.Chip=0∧1≤ZaV P nB r.2.Vol.Chip r.2.Vol.At))∨
   (r.1=6∧WV P nB S r.2 bod∧∀ k,2≤k→k<nB→k≠i+2→(blk w.Vol.Chip k).Bad=false→0<ZF P w.Vol.At k)∨
   ((r.1=7∨r.1=9)∧MOK P nB S r.2.Vol.Chip bod∧¬ NF w.Vol.Chip))
theorem clone_wear {l:List Wear} (h:l.length≤1000):Zau l=some l:=by
 unfold Zau;rw [Zav (by omega) (by omega) (by omega),Zb]
theorem relieve_get {w:flash_writer} {bod:List (List UInt8)} {i:Nat} {P nB S:Nat} (hw:WV P nB S w bod) (hg:Geo P nB S) (hi:i<nB-2) (hib:(blk w.Vol.Chip (i+2)).Bad=false) (hil:0<ZF P w.Vol.At (i+2)) (hilost:(ZF P w.Vol.At (i+2):Int)<(blk w.Vol.Chip (i+2)).Used)
  (hn:(w.Vol.At.length:Int)≤Zd6 S) (hops:w.Vol.Chip.Ops+300≤Zcz):ZeH (Zbq w (ZaD P nB w.Vol.Chip w.Vol.At) (i:Int)) (RelOut P nB S w bod i):=by
 have g1:=hg.b5;have g2:=hg.b11;have g3:=hg.p2;have g4:=hg.p8;have hc:=hw.ci;have hv:=hw.gi.held;have hD:(ZaD P nB w.Vol.Chip w.Vol.At).length=nB-2:=ZbK;have hops':=hops;unfold Zcz at hops;have hiB:i+2<nB:=by omega
 have hblk:=hc.blkR hiB;unfold Zbq;rw [clone_wear (by omega),Zb,Zbh (ZB (show i<(ZaD P nB w.Vol.Chip w.Vol.At).length by omega)),Zb,Int.toNat_natCast,show (ZaD P nB w.Vol.Chip w.Vol.At).set i ⟨0,0,0,true⟩=ZdB P nB w.Vol.Chip w.Vol.At i from rfl];refine ZeH.b (target_get hc hg hw.off hv hi (by unfold Zcz;omega)) fun x hx=>?_
 -- the pages are moved, and the block is cleared
 have after:∀ (w1:flash_writer) (to:Int),WV P nB S w1 bod→w1.Vol.At=w.Vol.At→w1.beyond=w.beyond→ToOk P nB w1 (i+2) to→blk w1.Vol.Chip (i+2)=blk w.Vol.Chip (i+2)→(∀ q,2≤q→q<nB→mW P (Zan P w1.Vol.Chip w.Vol.At q)≤mW P (Zan P w.Vol.Chip w.Vol.At q))→
   Zal w1.Vol.Chip=Zal w.Vol.Chip→w1.Vol.Chip.Faults=w.Vol.Chip.Faults→w.Vol.Chip.Ops≤w1.Vol.Chip.Ops→w1.Vol.Chip.Ops≤w.Vol.Chip.Ops+17→(to=-1→∀ k,2≤k→k<nB→k≠i+2→(blk w.Vol.Chip k).Bad=false→0<ZF P w.Vol.At k)→
   ZeH ((Zat (i:Int) (2:Int)).bind fun x_13=>(ZbA w1 x_13 to).bind fun x_14=>(gb (!(!x_14.1)) (idx (ZaD P nB w.Vol.Chip w.Vol.At) (i:Int))).bind fun x_16=>bif ((!x_14.1)||(decide (x_16.Used=x_14.2.2.Vol.Chip.Pages))) then (some (x_14.2.1,x_14.2.2)) else ((Zat (i:Int) (2:Int)).bind fun x_17=>(ZV x_14.2.2 x_17).bind fun x_18=>(ZaA x_18.1).bind fun x_20=>some (x_20,x_18.2)))
    (RelOut P nB S w bod i):=by
  intro w1 to hw1 e1 e2 hto hb1 hm1 hbn hfl ho1 ho2 hall;rw [Zaa (by omega) (by omega),Zb];refine ZeH.b (move_get (frm:=i+2) (z:=(i:Int)+2) rfl hw1 hg (by omega) hiB hto (by rw [e1];exact hn) (by unfold Zcz;omega)) fun r ⟨c',m1,m2,m3,m4,hr⟩=>?_
  rw [Zg7 (ZB (show i<(ZaD P nB w.Vol.Chip w.Vol.At).length by omega)),Zb,ZdG];have hnf1:NF w.Vol.Chip→w1.Vol.Chip.Faults=[]∧Zal w1.Vol.Chip=0:=fun h=>⟨hfl.trans h.1,hbn.trans h.2⟩
  rcases hr with ⟨at',last',rfl,hV,hl',hlv,hsm,hq,hnf⟩ | ⟨rfl,hfr,hoff,hbad,hnf⟩ | ⟨rfl,hfr,hoff,hto1⟩ | ⟨e,he,rfl,hmok,hnf⟩
  ·have hgi':=hV.gi;have hv':=hgi'.held
   -- no other block is worse
   have hle:∀ q,2≤q→q<nB→q≠i+2→mW P (Zan P c' at' q)≤mW P (Zan P w.Vol.Chip w.Vol.At q):=fun q q2 qB qn=>by
    refine Int.le_trans ?_ (hm1 q q2 qB);obtain ⟨u1,u2,u3,u4⟩:=hq q q2 qB qn;rw [e1] at u1 u2 u4;have hB1:=hw1.ci.blkR qB;have hv1:=hw1.gi.held;have hl1:=live_used (k:=q) hv1 hB1.2.1;cases hb:(blk c' q).Bad
    ·rw [hb] at u3;rw [ZfS hb,ZfS u3.symm]
     by_cases h0:ZF P w.Vol.At q=0
     ·rw [if_pos h0];rcases u4 with e | e | ⟨e,e'⟩
      ·rw [e] at u1;rw [if_pos (by omega),e];exact Int.le_refl _
      ·rcases hto with ⟨k',ek,_,_,_,_,ku,kl⟩ | ⟨ek,_⟩
       ·have:q=k':=by omega
        subst this;rw [if_neg (by omega:¬ (0<(blk w1.Vol.Chip q).Used∧(blk w1.Vol.Chip q).Used<P))]
        split
        ·split <;> omega
        ·omega
       ·omega
      ·omega
     ·rw [if_neg h0,if_neg (by omega)];omega
    ·rw [mW_bad hb];exact (mW_range hw1.ci hg (by rw [← e1];exact hv1) qB).1
   have hm0:mW P (Zan P w.Vol.Chip w.Vol.At (i+2))=(blk w.Vol.Chip (i+2)).Used-(ZF P w.Vol.At (i+2):Int):=by rw [ZfS hib,if_neg (by omega)]
   have hb':(blk c' (i+2)).Bad=false:=by rw [hsm,hb1];exact hib
   have hpg:c'.Pages=P:=hV.ci.pgs;dsimp only;rw [Bool.not_true,Bool.not_false,Zs,Bool.false_or,Zag hib,hpg];dsimp only;have hlen':at'.length=w.Vol.At.length:=hl'.trans (by rw [e1])
   by_cases hful:(blk w.Vol.Chip (i+2)).Used=P
   ·rw [Zi (by simpa using hful)];refine ZeH.s ⟨by show Zal w.Vol.Chip≤Zal c';omega,by show w.Vol.Chip.Ops≤c'.Ops;omega,by show c'.Ops≤_;omega,m4.trans hfl,e2,hlen',.inl ⟨rfl,hV,.inr ?_,fun h=>⟨hnf (hnf1 h).1 (hnf1 h).2,Zmv (by omega) hiB hb' hlv⟩⟩⟩;refine mR_less (frm:=i+2) (by omega) hiB (fun q q2 qB=>?_) ?_
    ·by_cases e:q=i+2
     ·subst e;show mW P (Zan P c' at' (i+2))≤_;rw [ZfS hb',if_pos hlv,hsm,hb1,if_neg (by omega),hm0];omega
     ·exact hle q q2 qB e
    ·show mW P (Zan P c' at' (i+2))+1≤_;rw [ZfS hb',if_pos hlv,hsm,hb1,if_neg (by omega),hm0];omega
   ·rw [Zf (by simpa using hful),Zb];refine ZeH.b (Zkj (w:=⟨⟨c',at',w1.Vol.Gen+1,last'⟩,w1.beyond⟩) (k:=i+2) (z:=(i:Int)+2) rfl hV.ci hg.s24 hV.off hiB hb' (by show c'.Ops+17≤Zcz;unfold Zcz;omega)) fun r ⟨c3,e,hr,hcl⟩=>?_
    subst hr;have hcl:ClearF P nB S c' c3 (i+2) e:=hcl;have hfr:=hcl.fr (s:=at') (by omega) hlv;have c1:=hcl.ops;have c2:=hcl.many;have hgen:((w1.Vol.Gen+1).toNat:Int)≤c'.Ops:=hV.gen;have cnf:NF w.Vol.Chip→e=0:=fun h=>hcl.nf (m4.trans (hfl.trans h.1))
    unfold ZaA
    by_cases e7:e=7
    ·rw [Zf (by simp [e7]),Zb];refine ZeH.s ⟨by show Zal w.Vol.Chip≤Zal c3;omega,by show w.Vol.Chip.Ops≤c3.Ops;omega,by show c3.Ops≤_;omega,hcl.flt.trans (m4.trans hfl),e2,hlen',.inr (.inr ⟨.inl e7,⟨hcl.ci,_,_,_,hfr.ri hV.ri,hfr.gi (fun x hx=>hx) hV.gi,by show _≤c3.Ops;omega⟩,fun h=>by have:=cnf h;omega⟩)⟩
    ·have hoff:c3.Off=false:=by rw [hcl.off];simpa using e7
     have hV3:VI P nB S c3 at' (w1.Vol.Gen+1) last' bod:=⟨hcl.ci,hoff,hfr.ri hV.ri,hfr.gi (fun x hx=>hx) hV.gi,by omega⟩;have he09:e=0∨e=9:=by have:=hcl.err;omega
     refine ZeH.b (P:=fun x=>x=(0:Int)) ?_ fun x hx=>?_
     ·by_cases e9:e=9
      ·rw [Zi (by simpa using e9)];exact ZeH.s rfl
      ·rw [Zf (by simpa using e9)];exact ZeH.s (by show e=0;omega)
     subst hx;refine ZeH.s ⟨by show Zal w.Vol.Chip≤Zal c3;omega,by show w.Vol.Chip.Ops≤c3.Ops;omega,by show c3.Ops≤_;omega,hcl.flt.trans (m4.trans hfl),e2,hlen',.inl ⟨rfl,hV3,?_,fun h=>?_⟩⟩
     ·by_cases e9:e=9
      ·rw [if_pos e9] at c2;exact .inl (by show Zal w.Vol.Chip<Zal c3;omega)
      ·right
       have e0:e=0:=by omega
       subst e0;have hb3:(blk c3 (i+2)).Bad=false:=by rw [hcl.bad];rfl
       have hz:mW P (Zan P c3 at' (i+2))=0:=by rw [ZfS hb3,if_pos hlv,hcl.used rfl,if_neg (by omega)]
       refine mR_less (frm:=i+2) (by omega) hiB (fun q q2 qB=>?_) ?_
       ·show mW P (Zan P c3 at' q)≤_
        by_cases e:q=i+2
        ·subst e;rw [hz,hm0];omega
        ·rw [mW_congr (hcl.oth q e) rfl];exact hle q q2 qB e
       ·show mW P (Zan P c3 at' (i+2))+1≤_;rw [hz,hm0];omega
     ·have e0:=cnf h;subst e0;exact ⟨by show Zal c3=0;rw [c2,hnf (hnf1 h).1 (hnf1 h).2];rfl,Zmv (by omega) hiB (by show (blk c3 (i+2)).Bad=false;rw [hcl.bad];rfl) hlv⟩
  ·dsimp only;rw [Bool.not_false,Bool.true_or,Zs];refine ZeH.s ⟨by show Zal w.Vol.Chip≤Zal c';omega,by show w.Vol.Chip.Ops≤c'.Ops;omega,by show c'.Ops≤_;omega,m4.trans hfl,e2,by show w1.Vol.At.length=_;rw [e1],.inl ⟨rfl,hw1.fr hfr (fun x hx=>hx) hoff,.inl (by show Zal w.Vol.Chip<Zal c';omega),fun h=>absurd (hnf1 h).1 hnf⟩⟩
  ·dsimp only;rw [Bool.not_false,Bool.true_or,Zs];exact ZeH.s ⟨by show Zal w.Vol.Chip≤Zal c';omega,by show w.Vol.Chip.Ops≤c'.Ops;omega,by show c'.Ops≤_;omega,m4.trans hfl,e2,by show w1.Vol.At.length=_;rw [e1],.inr (.inl ⟨rfl,hw1.fr hfr (fun x hx=>hx) hoff,hall hto1⟩)⟩
  ·dsimp only;rw [Bool.not_false,Bool.true_or,Zs];exact ZeH.s ⟨by show Zal w.Vol.Chip≤Zal c';omega,by show w.Vol.Chip.Ops≤c'.Ops;omega,by show c'.Ops≤_;omega,m4.trans hfl,e2,by show w1.Vol.At.length=_;rw [e1],.inr (.inr ⟨he,hmok,fun h=>hnf (hnf1 h)⟩)⟩
 obtain ⟨r0,hr0⟩:∃ r0,ZgS (ZdB P nB w.Vol.Chip w.Vol.At i) (P:Int)=some r0:=⟨_,wear_Room_eq _ _⟩;rcases hx with ⟨k,k2,kB,kn,kb,kl,⟨hx,ku⟩ | ⟨c',e,hx,hcl⟩⟩ | ⟨hx,hall⟩
 ·subst hx;dsimp only;rw [show decide ((0:Int)=6)=false from rfl,Zbd,Zb,Zbd,Zb,Bool.false_and,Zo,Zb,Zcu,Zf (by simp)];have hh:=after w k hw rfl rfl (.inl ⟨k,rfl,k2,kB,kn,kb,ku,kl⟩) rfl (fun q _ _=>Int.le_refl _) rfl rfl (Int.le_refl _) (by omega) (fun e=>by omega);exact hh
 ·subst hx;dsimp only;have he:=hcl.err;have hfr:=hcl.fr (s:=w.Vol.At) k2 kl;have c1:=hcl.ops;have c2:=hcl.many;have cnf:NF w.Vol.Chip→e=0:=fun h=>hcl.nf h.1
  rw [show decide (e=6)=false by rw [decide_eq_false_iff_not];omega,Zbd,Zb,Zbd,Zb,Bool.false_and,Zo,Zb,Zcu]
  by_cases e0:e=0
  ·subst e0;rw [Zf (by simp)];have hoff:c'.Off=false:=by rw [hcl.off];rfl
   exact after (wch w c') k (hw.fr hfr (fun x hx=>hx) hoff) rfl rfl (.inl ⟨k,rfl,k2,kB,kn,by show (blk c' k).Bad=false;rw [hcl.bad];rfl,hcl.used rfl,kl⟩) (hcl.oth _ (Ne.symm kn)) (hcl.mR kB kb kl (.inl rfl)) (by show Zal c'=_;rw [c2];rfl) hcl.flt c1.1 c1.2 (fun e=>by omega)
  ·rw [Zi (by simpa using e0)];unfold ZaA
   by_cases e9:e=9
   ·rw [Zi (by simpa using e9),Zb];rw [if_pos e9] at c2;have hoff:c'.Off=false:=by rw [hcl.off,e9];rfl
    exact ZeH.s ⟨by show Zal w.Vol.Chip≤Zal c';omega,c1.1,by show c'.Ops≤_;omega,hcl.flt,rfl,rfl,.inl ⟨rfl,hw.fr hfr (fun x hx=>hx) hoff,.inl (by show Zal w.Vol.Chip<Zal c';omega),fun h=>absurd (cnf h) e0⟩⟩
   ·rw [Zf (by simpa using e9),Zb];exact ZeH.s ⟨by show Zal w.Vol.Chip≤Zal c';omega,c1.1,by show c'.Ops≤_;omega,hcl.flt,rfl,rfl,.inr (.inr ⟨.inl (by show e=7;omega),hw.mfr hfr (fun x hx=>hx),fun h=>e0 (cnf h)⟩)⟩
 ·subst hx;dsimp only;rw [show decide ((6:Int)=6)=true from rfl,ZaL,hc.pgs,hr0,Zb,ZaL,Zbh (ZB (show i<(ZaD P nB w.Vol.Chip w.Vol.At).length by omega)),Bool.true_and]
  by_cases hroom:r0≥((ZaD P nB w.Vol.Chip w.Vol.At)[i]'(by omega)).Live
  ·rw [Zi (by simpa using hroom),Zb,Zcu,Zf (by simp)];exact after w (-1) hw rfl rfl (.inr ⟨rfl,hall⟩) rfl (fun q _ _=>Int.le_refl _) rfl rfl (Int.le_refl _) (by omega) (fun _=>hall)
  ·rw [Zf (by simpa using hroom),Zb,Zcu,Zi (by simp)];unfold ZaA;rw [Zf (by simp),Zb];exact ZeH.s ⟨Nat.le_refl _,Int.le_refl _,by show w.Vol.Chip.Ops≤_;omega,rfl,rfl,rfl,.inr (.inl ⟨rfl,hw,hall⟩)⟩
end Go.Proofs.YtkmojgfenlgchaaGreatDoor.Tr
namespace Go.Proofs.YtkmojgfenlgchaaGreatDoor.Tr
open Go
theorem final_eq {w:flash_writer} (h:w.Vol.Gen.toNat≤1099511627776):Zb3 w=some false:=by
 unfold Zb3;have:¬ UInt64.ofNat 281474976710656≤w.Vol.Gen+UInt64.ofNat 2:=by
  rw [UInt64.le_iff_toNat_le,UInt64.toNat_add];show ¬ 281474976710656≤(w.Vol.Gen.toNat+2) % 18446744073709551616;omega
 rw [decide_eq_false this]
def ColOut (P nB S:Nat) (w:flash_writer) (bod:List (List UInt8)) (r:Int×flash_writer):Prop:=
  Zal w.Vol.Chip≤Zal r.2.Vol.Chip∧w.Vol.Chip.Ops≤r.2.Vol.Chip.Ops∧r.2.Vol.Chip.Ops≤w.Vol.Chip.Ops+200∧r.2.Vol.Chip.Faults=w.Vol.Chip.Faults∧r.2.beyond=w.beyond∧r.2.Vol.At.length=w.Vol.At.length∧
  ((r.1=0∧WV P nB S r.2 bod∧(Zal w.Vol.Chip<Zal r.2.Vol.Chip∨mR P nB r.2.Vol.Chip r.2.Vol.At+1≤mR P nB w.Vol.Chip w.Vol.At)∧(NF w.Vol.Chip→Zal r.2.Vol.Chip=0∧1≤ZaV P nB r.2.Vol.Chip r.2.Vol.At))∨
   (r.1=6∧WV P nB S r.2 bod∧(NF w.Vol.Chip→1≤ZaV P nB w.Vol.Chip w.Vol.At→∀ k,2≤k→k<nB→(blk w.Vol.Chip k).Bad=false→(0<ZF P w.Vol.At k→(blk w.Vol.Chip k).Used≤(ZF P w.Vol.At k:Int))∧(ZF P w.Vol.At k=0→(blk w.Vol.Chip k).Used=0∨(blk w.Vol.Chip k).Used=P)))∨
   ((r.1=7∨r.1=9)∧MOK P nB S r.2.Vol.Chip bod∧¬ NF w.Vol.Chip))
theorem collect_get {w:flash_writer} {bod:List (List UInt8)} {P nB S:Nat} (hw:WV P nB S w bod) (hg:Geo P nB S) (hn:(w.Vol.At.length:Int)≤Zd6 S) (hops:w.Vol.Chip.Ops+400≤Zcz):ZeH (Zbr w) (ColOut P nB S w bod):=by
 have g1:=hg.b5;have g2:=hg.b11;have g3:=hg.p2;have g4:=hg.p8;have hc:=hw.ci;have hv:=hw.gi.held;have hD:(ZaD P nB w.Vol.Chip w.Vol.At).length=nB-2:=ZbK;have hW:=Zfj hc hg hv;have hgen:=hw.gen;have hal:=Zkn hw.ri;unfold Zcz at hops;unfold Zbr;rw [blocks_one hc hg hv (by omega),Zb]
 -- clearing what is dead
 have dead:∀ w4:flash_writer,w4.Vol.Chip.Pages=P→((w4=w∧∀ k,2≤k→k<nB→(blk w.Vol.Chip k).Bad=false→0<ZF P w.Vol.At k→(blk w.Vol.Chip k).Used≤(ZF P w.Vol.At k:Int))∨
   (WV P nB S w4 bod∧Zal w.Vol.Chip≤Zal w4.Vol.Chip∧w.Vol.Chip.Ops≤w4.Vol.Chip.Ops∧w4.Vol.Chip.Ops≤w.Vol.Chip.Ops+180∧w4.Vol.Chip.Faults=w.Vol.Chip.Faults∧w4.beyond=w.beyond∧w4.Vol.At.length=w.Vol.At.length∧∀ k,2≤k→k<nB→(blk w.Vol.Chip k).Bad=false→0<ZF P w.Vol.At k))→
   ZeH ((ZbP (ZaD P nB w.Vol.Chip w.Vol.At) (⟨fun x0=>Za4 x0 w4⟩:F1 Tryz.prog Wear Bool)).bind fun x_12=>(ZdH x_12 w4.Vol.Chip.Pages).bind fun r_14=>bif (!r_14.2) then (some ((6:Int),w4)) else ((Zat r_14.1 (2:Int)).bind fun x_15=>(ZV w4 x_15).bind fun x_16=>(ZaA x_16.1).bind fun x_18=>some (x_18,x_16.2)))
    (ColOut P nB S w bod):=by
  intro w4 hp4 hcase;rw [ZkO (R:=fun x=>decide (x.Used<w4.Vol.Chip.Pages)&&decide (x.Worn<1099511627776)) (fun x=>rfl) (by omega),Zb];obtain ⟨r3,hr3,hf3⟩:=Zgm ((ZaD P nB w.Vol.Chip w.Vol.At).map (Zgi fun x=>decide (x.Used<w4.Vol.Chip.Pages)&&decide (x.Worn<1099511627776))) w4.Vol.Chip.Pages;rw [hr3,Zb];rw [hp4] at hf3;rcases pick (S:=S) (nB:=nB) hW (by rfl) hf3 with ⟨q,hq,rfl,b1,b2,b3⟩ | ⟨rfl,hno3⟩
  ·rw [ZdG] at b1 b2 b3;rw [Zec] at b1;rw [Zag b1] at b2 b3;rw [hD] at hq;unfold rDead at b3;simp at b2 b3;rcases hcase with ⟨rfl,hvic⟩ | ⟨_,_,_,_,_,_,_,hall⟩
   ·have hl0:ZF P w4.Vol.At (q+2)=0:=by omega
    rw [Bool.not_true,Zo,Zaa (by omega) (by omega),Zb];refine ZeH.b (Zkj (w:=w4) (k:=q+2) (z:=(q:Int)+2) rfl hc hg.s24 hw.off (by omega) b1 (by unfold Zcz;omega)) fun r ⟨c3,e,hr,hcl⟩=>?_
    subst hr;have hfr:=hcl.fr (s:=w4.Vol.At) (by omega) hl0;have c1:=hcl.ops;have c2:=hcl.many;have cnf:NF w4.Vol.Chip→e=0:=fun h=>hcl.nf h.1
    unfold ZaA
    by_cases e7:e=7
    ·rw [Zf (by simp [e7]),Zb];exact ZeH.s ⟨hfr.many,c1.1,by show c3.Ops≤_;omega,hcl.flt,rfl,rfl,.inr (.inr ⟨.inl e7,hw.mfr hfr (fun x hx=>hx),fun h=>by have:=cnf h;omega⟩)⟩
    ·have hoff:c3.Off=false:=by rw [hcl.off];simpa using e7
     have hV3:=hw.fr hfr (fun x hx=>hx) hoff;have he09:e=0∨e=9:=by have:=hcl.err;omega
     refine ZeH.b (P:=fun x=>x=(0:Int)) ?_ fun x hx=>?_
     ·by_cases e9:e=9
      ·rw [Zi (by simpa using e9)];exact ZeH.s rfl
      ·rw [Zf (by simpa using e9)];exact ZeH.s (by show e=0;omega)
     subst hx;refine ZeH.s ⟨hfr.many,c1.1,by show c3.Ops≤_;omega,hcl.flt,rfl,rfl,.inl ⟨rfl,hV3,?_,fun h=>?_⟩⟩
     ·by_cases e9:e=9
      ·rw [if_pos e9] at c2;exact .inl (by show Zal w4.Vol.Chip<Zal c3;omega)
      ·right
       have e0:e=0:=by omega
       refine mR_less (frm:=q+2) (by omega) (by omega) (hcl.mR (by omega) b1 hl0 (.inl e0)) ?_;show mW P (Zan P c3 w4.Vol.At (q+2))+1≤_;have hb3:(blk c3 (q+2)).Bad=false:=by rw [hcl.bad,e0];rfl
       rw [ZfS hb3,if_pos hl0,hcl.used e0,if_neg (by omega),ZfS b1,if_pos hl0,if_pos (by omega)];exact Int.le_refl _
     ·have e0:=cnf h;subst e0;exact ⟨by show Zal c3=0;rw [c2,h.2];rfl,Zmv (k:=q+2) (by omega) (by omega) (by show (blk c3 (q+2)).Bad=false;rw [hcl.bad];rfl) hl0⟩
   ·have:=hall (q+2) (by omega) (by omega) b1;omega
  ·rw [Bool.not_false,Zs];rcases hcase with ⟨rfl,hvic⟩ | ⟨h1,h2,h3,h4,h5,h6,h7,hall⟩
   ·refine ZeH.s ⟨Nat.le_refl _,Int.le_refl _,by show w4.Vol.Chip.Ops≤_;omega,rfl,rfl,rfl,.inr (.inl ⟨rfl,hw,fun _ _ k k2 kB kb=>⟨hvic k k2 kB kb,fun h0=>?_⟩⟩)⟩;have hu:=hc.blkR kB;have hwo:=hc.worn k kB;have:=hno3 (k-2) (by rw [hD];omega);rw [ZdG,show k-2+2=k by omega,Zec,Zag kb] at this;have y:=this kb;unfold rDead at y;simp [h0] at y;rcases Int.lt_or_le (blk w4.Vol.Chip k).Used P with x | x
    ·left
     have:=y x (by omega);omega
    ·right;omega
   ·exact ZeH.s ⟨h2,h3,by show w4.Vol.Chip.Ops≤_;omega,h5,h6,h7,.inr (.inl ⟨rfl,h1,fun _ hid=>by
     obtain ⟨k,k2,kB,kb,kl⟩:=idle_ex hid;have:=hall k k2 kB kb;omega⟩)⟩
 refine ZeH.b (P:=fun (o:flash_writer⊕(Int×flash_writer))=>(∃ w4:flash_writer,o=.inl w4∧w4.Vol.Chip.Pages=P∧((w4=w∧∀ k,2≤k→k<nB→(blk w.Vol.Chip k).Bad=false→0<ZF P w.Vol.At k→(blk w.Vol.Chip k).Used≤(ZF P w.Vol.At k:Int))∨
   (WV P nB S w4 bod∧Zal w.Vol.Chip≤Zal w4.Vol.Chip∧w.Vol.Chip.Ops≤w4.Vol.Chip.Ops∧w4.Vol.Chip.Ops≤w.Vol.Chip.Ops+180∧w4.Vol.Chip.Faults=w.Vol.Chip.Faults∧w4.beyond=w.beyond∧w4.Vol.At.length=w.Vol.At.length∧∀ k,2≤k→k<nB→(blk w.Vol.Chip k).Bad=false→0<ZF P w.Vol.At k)))∨∃ r,o=.inr r∧ColOut P nB S w bod r)
  (ZeH.b (victim_get hc hg hv (by unfold Zcz;omega)) fun x hx=>?_) fun o ho=>?_
 ·rw [final_eq (by omega)];rcases hx with ⟨i,rfl,hi,hib,hil,hilost⟩ | ⟨hx,hvic⟩
  ·dsimp only;rw [ZaL,Zb,Bool.not_false,Bool.true_and,Zs];refine ZeH.b (relieve_get hw hg hi hib hil hilost hn (by unfold Zcz;omega)) fun r hr=>?_
   obtain ⟨r1,r2,r3,r4,r5,r6,hr⟩:=hr;rcases hr with ⟨h1,h2,h3,h4⟩ | ⟨h1,h2,h3⟩ | ⟨h1,h2,h3⟩
   ·rw [Zi (by simp [h1])];exact ZeH.s (.inr ⟨_,rfl,r1,r2,by show r.2.Vol.Chip.Ops≤_;omega,r4,r5,r6,.inl ⟨h1,h2,h3,h4⟩⟩)
   ·rw [Zf (by simp [h1])];refine ZeH.s (.inl ⟨_,rfl,h2.ci.pgs,.inr ⟨h2,r1,r2,r3,r4,r5,r6,fun k k2 kB kb=>?_⟩⟩)
    by_cases e:k=i+2
    ·rw [e];exact hil
    ·exact h3 k k2 kB e kb
   ·rw [Zi (by rw [decide_eq_true_iff];omega)];exact ZeH.s (.inr ⟨_,rfl,r1,r2,by show r.2.Vol.Chip.Ops≤_;omega,r4,r5,r6,.inr (.inr ⟨h1,h2,h3⟩)⟩)
  ·rw [hx,Zbd,Zb,Bool.false_and,Zo];exact ZeH.s (.inl ⟨w,rfl,hc.pgs,.inl ⟨rfl,hvic⟩⟩)
 ·rcases ho with ⟨w4,rfl,hp4,hcase⟩ | ⟨r,rfl,hr⟩
  ·rw [Zaw];exact dead w4 hp4 hcase
  ·rw [Zbp];exact ZeH.s hr
theorem sum_live {P D:Nat}:∀ s:List Int,ZbQ (fun q=>(ZF P s (q+2):Int)) D≤s.length
 | []=>by
  rw [ZkK fun k _=>by rw [Zc6.2 fun j _ h=>by cases h];rfl];exact Int.le_refl _
 | x::s=>by
  have ih:=sum_live (P:=P) (D:=D) s;rw [List.length_cons]
  by_cases h:∃ k j,j<P∧x=Zd4 P k j∧x∉s
  ·obtain ⟨k,j,hj,hx,hn⟩:=h;have hadd:=Zkb (P:=P) (s:=s) (t:=x::s) (k:=k) (j:=j) hj (by rw [← hx];exact hn) (fun y=>by rw [List.mem_cons,← hx];exact or_comm)
   by_cases hk:2≤k∧k-2<D
   ·have:=Zl9 (g:=fun q=>(ZF P s (q+2):Int)) (g':=fun q=>(ZF P (x::s) (q+2):Int)) (k:=k-2) (n:=D) (fun q _ hq=>by
     show (ZF P (x::s) (q+2):Int)=(ZF P s (q+2):Int);rw [hadd,if_neg (by omega),Nat.add_zero]) hk.2
    rw [this];show _-(ZF P s (k-2+2):Int)+(ZF P (x::s) (k-2+2):Int)≤_;rw [show k-2+2=k by omega,hadd,if_pos rfl];omega
   ·have:ZbQ (fun q=>(ZF P (x::s) (q+2):Int)) D≤ZbQ (fun q=>(ZF P s (q+2):Int)) D:=ZgU fun q hq=>by
     show (ZF P (x::s) (q+2):Int)≤(ZF P s (q+2):Int);rw [hadd,if_neg (by omega),Nat.add_zero];exact Int.le_refl _
    omega
  ·have:ZbQ (fun q=>(ZF P (x::s) (q+2):Int)) D≤ZbQ (fun q=>(ZF P s (q+2):Int)) D:=ZgU fun q hq=>by
    show (ZF P (x::s) (q+2):Int)≤(ZF P s (q+2):Int);rw [ZfT (t:=s) fun j hj=>?_]
    ·exact Int.le_refl _
    rw [List.mem_cons];refine ⟨fun hh=>?_,.inr⟩;rcases hh with e | e
    ·by_cases hs:x∈s
     ·rw [e];exact hs
     ·exact absurd ⟨q+2,j,hj,e.symm,hs⟩ h
    ·exact e
   omega
theorem some_full {P nB S:Nat} {c:Chip} {s:List Int} (hc:CI P nB S c) (hg:Geo P nB S) (hb:Zal c=0) (hv:ZlH P nB c s)
  (h:∀ k,2≤k→k<nB→(blk c k).Bad=false→(0<ZF P s k→(blk c k).Used≤(ZF P s k:Int))∧(ZF P s k=0→(blk c k).Used=0∨(blk c k).Used=P)) :
  ((nB-3:Nat):Int)*P-s.length≤ZfL P nB c s:=by
 have g1:=hg.b5;have hle:∀ q,q<nB-2→(P:Int)-(ZF P s (q+2):Int)≤Zed P (wq P c s q)∧Zjk P (wq P c s q)≤P:=fun q hq=>by
  have kb:=ZlU hc (k:=q+2) (by omega) hb;obtain ⟨a,b⟩:=h (q+2) (by omega) (by omega) kb;have hB:=hc.blkR (k:=q+2) (by omega);unfold Zjk Zed Zcb wq;rw [Zag kb];dsimp only;rw [if_neg (by decide),Bool.not_false,Bool.true_and]
  by_cases h0:ZF P s (q+2)=0
  ·have:=b h0
   by_cases hu:(blk c (q+2)).Used=P
   ·rw [if_pos ⟨by omega,hu⟩];refine ⟨by omega,?_⟩
    split <;> omega
   ·rw [if_neg (fun x=>hu x.2)];refine ⟨by omega,?_⟩
    split <;> omega
  ·have:=a (by omega);rw [if_neg (by omega)];refine ⟨by omega,?_⟩
   split <;> omega
 have h1:ZbQ (fun q=>(P:Int)-(ZF P s (q+2):Int)) (nB-2)≤allR P nB c s:=ZgU fun q hq=>(hle q hq).1
 have h2:mostR P nB c s≤P:=ZlQ (by omega) fun q hq=>(hle q hq).2
 have h3:∀ n:Nat,ZbQ (fun q=>(P:Int)-(ZF P s (q+2):Int)) n=(n:Int)*P-ZbQ (fun q=>(ZF P s (q+2):Int)) n:=fun n=>by
  induction n with
  | zero=>simp [ZbQ]
  | succ n ih=>
   simp only [ZbQ];rw [ih,Int.natCast_succ,Int.add_mul];omega
 have h4:=sum_live (P:=P) (D:=nB-2) s;rw [h3] at h1;have h5:((nB-2:Nat):Int)*P=((nB-3:Nat):Int)*P+P:=by
  rw [show ((nB-2:Nat):Int)=((nB-3:Nat):Int)+1 by omega,Int.add_mul];omega
 unfold ZfL;omega
def SpOut (P nB S:Nat) (w:flash_writer) (bod:List (List UInt8)) (need:Int) (r:Int×flash_writer):Prop:=
 Zal w.Vol.Chip≤Zal r.2.Vol.Chip∧w.Vol.Chip.Ops≤r.2.Vol.Chip.Ops∧r.2.Vol.Chip.Ops≤w.Vol.Chip.Ops+300000∧r.2.Vol.Chip.Faults=w.Vol.Chip.Faults∧r.2.Vol.At.length=w.Vol.At.length∧
 (((r.1=0∨r.1=5)∧WV P nB S r.2 bod)∨((r.1=7∨r.1=9)∧MOK P nB S r.2.Vol.Chip bod))∧
 (NF w.Vol.Chip→w.beyond=false→1≤ZaV P nB w.Vol.Chip w.Vol.At→need+w.Vol.At.length≤((nB-3:Nat):Int)*P→r.1=0∧Zal r.2.Vol.Chip=0∧r.2.beyond=false∧1≤ZaV P nB r.2.Vol.Chip r.2.Vol.At∧need≤ZfL P nB r.2.Vol.Chip r.2.Vol.At)
def phi (P nB:Nat) (w:flash_writer):Int:=100*((nB:Int)-Zal w.Vol.Chip)+mR P nB w.Vol.Chip w.Vol.At
theorem Zmi {P nB S:Nat} {w:flash_writer} {bod:List (List UInt8)} (h:WV P nB S w bod) (hg:Geo P nB S):0≤phi P nB w∧phi P nB w≤1172:=by
 have a:=mR_range h.ci hg h.gi.held;have b:=ZhN h.ci;have:=hg.b11;unfold phi;omega
theorem space_get {w:flash_writer} {bod:List (List UInt8)} {need:Int} {P nB S:Nat} (hw:WV P nB S w bod) (hg:Geo P nB S) (hn:(w.Vol.At.length:Int)≤Zd6 S) (hops:w.Vol.Chip.Ops+300400≤Zcz):ZeH (ZbY w need) (SpOut P nB S w bod need):=by
 have g1:=hg.b5;have g2:=hg.b11;have g3:=hg.p2;have g4:=hg.p8;have hops':=hops;unfold Zcz at hops;unfold ZbY;have hph:=Zmi hw hg;refine ZeH.loop (fun s=>WV P nB S s bod∧Zal w.Vol.Chip≤Zal s.Vol.Chip∧w.Vol.Chip.Ops≤s.Vol.Chip.Ops∧s.Vol.Chip.Ops+200*phi P nB s≤w.Vol.Chip.Ops+200*phi P nB w∧s.Vol.Chip.Faults=w.Vol.Chip.Faults∧s.Vol.At.length=w.Vol.At.length∧
   (NF w.Vol.Chip→w.beyond=false→1≤ZaV P nB w.Vol.Chip w.Vol.At→Zal s.Vol.Chip=0∧s.beyond=false∧1≤ZaV P nB s.Vol.Chip s.Vol.At)) (fun s=>(phi P nB s).toNat) (fun s hs=>?_)
  ⟨hw,Nat.le_refl _,Int.le_refl _,Int.le_refl _,rfl,rfl,fun a b c=>⟨a.2,b,c⟩⟩ (by omega)
 obtain ⟨hs,i1,i2,i3,i4,i5,i6⟩:=hs;have hps:=Zmi hs hg;have hc:=hs.ci;have hv:=hs.gi.held;have hal:=Zkn hs.ri;unfold ZcV;rw [room_get hc hg hv (by omega),Zb];dsimp only
 by_cases hsome:ZfL P nB s.Vol.Chip s.Vol.At≥need
 ·rw [Zi (by simpa using hsome)];exact Za5 ⟨i1,i2,by show s.Vol.Chip.Ops≤_;omega,i4,i5,.inl ⟨.inl rfl,hs⟩,fun a b c _=>⟨rfl,(i6 a b c).1,(i6 a b c).2.1,(i6 a b c).2.2,hsome⟩⟩
 ·rw [Zf (by simpa using hsome)];obtain ⟨L,jL,hL1,hL2,-⟩:=id hs.ri;refine ZeH.b (P:=fun (x:Int)=>NF w.Vol.Chip→w.beyond=false→1≤ZaV P nB w.Vol.Chip w.Vol.At→allR P nB s.Vol.Chip s.Vol.At≥need→x=P) ((ZeH.g (c:=decide (allR P nB s.Vol.Chip s.Vol.At≥need)) fun _=>places_get hc hg hL1 hL2).m fun v hv a b c d=>hv (by simpa using d) (i6 a b c).1) fun x hx=>?_
  by_cases hpl:allR P nB s.Vol.Chip s.Vol.At≥need∧x<2
  ·rw [Zi (by simpa using hpl),Zb];refine Za5 ⟨i1,i2,by show s.Vol.Chip.Ops≤_;omega,i4,i5,.inl ⟨.inl rfl,hs⟩,fun a b c d=>?_⟩;have:=hx a b c hpl.1;omega
  ·rw [Zf (by rw [Bool.eq_false_iff];intro hh;rw [Bool.and_eq_true,decide_eq_true_iff,decide_eq_true_iff] at hh;exact hpl hh)];refine ZeH.b (collect_get hs hg (by rw [i5];exact hn) (by unfold Zcz;omega)) fun r hr=>?_
   obtain ⟨r1,r2,r3,r4,r5,r6,hr⟩:=hr;have hnf:NF w.Vol.Chip→w.beyond=false→1≤ZaV P nB w.Vol.Chip w.Vol.At→NF s.Vol.Chip:=fun a b c=>⟨i4.trans a.1,(i6 a b c).1⟩
   rcases hr with ⟨h1,h2,h3,h4⟩ | ⟨h1,h2,h3⟩ | ⟨h1,h2,h3⟩
   ·rw [Zi (by simp [h1])];have hpr:=Zmi h2 hg;have hm1:=mR_range hs.ci hg hs.gi.held;have hm2:=mR_range h2.ci hg h2.gi.held;have hdec:phi P nB r.2+1≤phi P nB s:=by
     unfold phi;rcases h3 with h | h <;> omega
    refine ZeH.l ⟨h2,by omega,by omega,by omega,r4.trans i4,r6.trans i5,fun a b c=>⟨(h4 (hnf a b c)).1,by rw [r5];exact (i6 a b c).2.1,(h4 (hnf a b c)).2⟩⟩ (by omega)
   ·rw [Zf (by simp [h1]),Zf (by simp [h1])];have hkey:NF w.Vol.Chip→w.beyond=false→1≤ZaV P nB w.Vol.Chip w.Vol.At→need+w.Vol.At.length≤((nB-3:Nat):Int)*P→False:=fun a b c d=>by
     have:=some_full hc hg (i6 a b c).1 hv (h3 (hnf a b c) (i6 a b c).2.2);rw [i5] at this;omega
    by_cases hall:allR P nB s.Vol.Chip s.Vol.At≥need
    ·rw [Zi (by simpa using hall),Zb];exact Za5 ⟨by show Zal w.Vol.Chip≤Zal r.2.Vol.Chip;omega,by show w.Vol.Chip.Ops≤r.2.Vol.Chip.Ops;omega,by show r.2.Vol.Chip.Ops≤_;omega,r4.trans i4,r6.trans i5,.inl ⟨.inl rfl,h2⟩,fun a b c d=>(hkey a b c d).elim⟩
    ·rw [Zf (by simpa using hall)];exact Za5 ⟨by show Zal w.Vol.Chip≤Zal r.2.Vol.Chip;omega,by show w.Vol.Chip.Ops≤r.2.Vol.Chip.Ops;omega,by show r.2.Vol.Chip.Ops≤_;omega,r4.trans i4,r6.trans i5,.inl ⟨.inr rfl,h2⟩,fun a b c d=>(hkey a b c d).elim⟩
   ·rw [Zf (by rw [decide_eq_false_iff_not];omega),Zi (by rw [decide_eq_true_iff];omega)];exact Za5 ⟨by show Zal w.Vol.Chip≤Zal r.2.Vol.Chip;omega,by show w.Vol.Chip.Ops≤r.2.Vol.Chip.Ops;omega,by show r.2.Vol.Chip.Ops≤_;omega,r4.trans i4,r6.trans i5,.inr ⟨h1,h2⟩,fun a b c _=>absurd (hnf a b c) h3⟩
end Go.Proofs.YtkmojgfenlgchaaGreatDoor.Tr
namespace Go.Proofs.YtkmojgfenlgchaaGreatDoor.Tr
open Go
def Zct (l:List Item) (bod:List (List UInt8)):List (List UInt8):=l.foldl (fun b x=>b.set x.Id.toNat x.Body) bod
theorem Zf5:∀ (l:List Item) (bod:List (List UInt8)),(Zct l bod).length=bod.length
 | [],_=>rfl
 | x::l,bod=>by
  show (Zct l (bod.set x.Id.toNat x.Body)).length=_;rw [Zf5 l,List.length_set]
theorem Zln {l:List Item} {bod:List (List UInt8)} {i:Nat} (h:i<l.length):Zct (l.take (i+1)) bod=(Zct (l.take i) bod).set l[i].Id.toNat l[i].Body:=by
 unfold Zct;rw [ZcN h,List.foldl_append];rfl
def Zfe (l:List Item):Nat:=l.countP fun x=>decide (x.Body≠[])
theorem bad_eq {w:flash_writer} {P nB S:Nat} (hc:CI P nB S w.Vol.Chip):ZbO w=some (Zal w.Vol.Chip:Int):=by
 have hN:=hc.nat;have hlen:=hc.len;unfold ZbO;refine Zgf (ZeH.b (P:=fun v=>v=(Zal w.Vol.Chip:Int)) (ZeH.loop (σ:=Int×Int) (fun s=>∃ i:Nat,s.2=i∧i≤w.Vol.Chip.Blocks.length∧s.1=((w.Vol.Chip.Blocks.take i).countP (·.Bad):Int)) (fun s=>w.Vol.Chip.Blocks.length-s.2.toNat) (fun s hs=>?_)
  ⟨0,rfl,by omega,by simp⟩ (by show w.Vol.Chip.Blocks.length-0<_;omega)) fun v hv=>by subst hv;exact ZeH.s rfl)
 obtain ⟨n,z⟩:=s;obtain ⟨i,rfl,hi,hn⟩:=hs;dsimp only at hn ⊢;subst hn;unfold Zdv
 by_cases hlt:i<w.Vol.Chip.Blocks.length
 ·have hcl:(w.Vol.Chip.Blocks.take i).countP (·.Bad)≤(w.Vol.Chip.Blocks.take i).length:=List.countP_le_length;rw [List.length_take] at hcl;have hst:(w.Vol.Chip.Blocks.take (i+1)).countP (·.Bad)=(w.Vol.Chip.Blocks.take i).countP (·.Bad)+if w.Vol.Chip.Blocks[i].Bad then 1 else 0:=by
   rw [ZcN hlt,List.countP_append];simp [List.countP_cons]
  rw [ZeU hlt,Zs,ZB hlt,Zb];cases hb:w.Vol.Chip.Blocks[i].Bad
  ·rw [Zo,Zb,ZR (by omega),Zb];refine ZeH.l ⟨i+1,rfl,by omega,?_⟩ (by show w.Vol.Chip.Blocks.length-(i+1)<w.Vol.Chip.Blocks.length-(i:Int).toNat;omega);dsimp only;rw [hst,hb];simp
  ·rw [Zs,Zaa (by omega) (by omega),Zb,Zb,ZR (by omega),Zb];refine ZeH.l ⟨i+1,rfl,by omega,?_⟩ (by show w.Vol.Chip.Blocks.length-(i+1)<w.Vol.Chip.Blocks.length-(i:Int).toNat;omega);dsimp only;rw [hst,hb];simp
 ·rw [Zjx (by omega),Zo];have:i=w.Vol.Chip.Blocks.length:=by omega
  subst this;refine Za5 ?_;rw [List.take_length];rfl
theorem need_eq {l:List Item} (hl:l.length≤1000000):ZM (fun s=>Zb6 l s.1 s.2) ((0:Int),(0:Int))=some (Zfe l:Int):=by
 refine Zgf (ZeH.loop (σ:=Int×Int) (fun s=>∃ i:Nat,s.2=i∧i≤l.length∧s.1=(Zfe (l.take i):Int)) (fun s=>l.length-s.2.toNat) (fun s hs=>?_) ⟨0,rfl,by omega,rfl⟩ (by show l.length-0<_;omega));obtain ⟨n,z⟩:=s;obtain ⟨i,rfl,hi,hn⟩:=hs;dsimp only at hn ⊢;subst hn;unfold Zb6
 by_cases hlt:i<l.length
 ·have hcl:Zfe (l.take i)≤(l.take i).length:=List.countP_le_length;rw [List.length_take] at hcl;have hst:Zfe (l.take (i+1))=Zfe (l.take i)+if l[i].Body≠[] then 1 else 0:=by
   unfold Zfe;rw [ZcN hlt,List.countP_append];simp [List.countP_cons]
  rw [ZeU hlt,Zs,ZB hlt,Zb]
  by_cases hb:l[i].Body=[]
  ·rw [Zf (by simp [hb]),Zb,ZR (by omega),Zb];refine ZeH.l ⟨i+1,rfl,by omega,?_⟩ (by show l.length-(i+1)<l.length-(i:Int).toNat;omega);dsimp only;rw [hst,if_neg (by simpa using hb)];simp
  ·have hpos:0<l[i].Body.length:=List.length_pos_iff.2 hb;rw [Zi (by simpa using hpos),Zaa (by omega) (by omega),Zb,Zb,ZR (by omega),Zb];refine ZeH.l ⟨i+1,rfl,by omega,?_⟩ (by show l.length-(i+1)<l.length-(i:Int).toNat;omega);dsimp only;rw [hst,if_pos hb];simp
 ·rw [Zjx (by omega),Zo];have:i=l.length:=by omega
  subst this;refine Za5 ?_;rw [List.take_length]
theorem some_congr {P nB:Nat} {c:Chip} {s t:List Int} (h:∀ k j,j<P→(Zd4 P k j∈s↔Zd4 P k j∈t)):ZfL P nB c s=ZfL P nB c t∧ZaV P nB c s=ZaV P nB c t:=by
 have hw:∀ q,wq P c s q=wq P c t q:=fun q=>by
  unfold wq Zan;rw [ZfT fun j hj=>h _ j hj]
 unfold ZfL allR mostR ZaV;have e:(fun q=>wq P c s q)=fun q=>wq P c t q:=funext hw
 constructor
 ·simp only [hw]
 ·simp only [hw]
structure BI (P nB S:Nat) (w1:flash_writer) (bod:List (List UInt8)) (l:List Item) (i:Nat) (at7:List Int) (c2:Chip):Prop where
 wv:WV P nB S (wch w1 c2) bod
 gi:GI P nB c2 at7 (Zct (l.take i) bod)
 flt:c2.Faults=w1.Vol.Chip.Faults
 many:Zal w1.Vol.Chip≤Zal c2
 ops:w1.Vol.Chip.Ops≤c2.Ops∧c2.Ops+18*(Zal w1.Vol.Chip:Int)≤w1.Vol.Chip.Ops+18*(Zal c2:Int)+18*(i:Int)
 rest:∀ j,i≤j→(hj:j<l.length)→at7.getD l[j].Id.toNat 0=w1.Vol.At.getD l[j].Id.toNat 0
 nf:NF w1.Vol.Chip→w1.beyond=false→(Zfe l:Int)≤ZfL P nB w1.Vol.Chip w1.Vol.At→1≤ZaV P nB w1.Vol.Chip w1.Vol.At→Zal c2=0∧(Zfe (l.drop i):Int)≤ZfL P nB c2 (w1.Vol.At++at7)∧1≤ZaV P nB c2 (w1.Vol.At++at7)
theorem need_drop {l:List Item} {i:Nat} (h:i<l.length):Zfe (l.drop i)=Zfe (l.drop (i+1))+if l[i].Body≠[] then 1 else 0:=by
 unfold Zfe;rw [List.drop_eq_getElem_cons h,List.countP_cons]
 by_cases e:l[i].Body=[] <;> simp [e]
theorem gi_set {P nB:Nat} {c:Chip} {at7:List Int} {bod:List (List UInt8)} {id:Nat} {n:Int} {b:List UInt8} (h:GI P nB c at7 bod) (hid:id<at7.length) (hn:GIat P nB c id n b):GI P nB c (at7.set id n) (bod.set id b):=by
 refine ⟨by rw [List.length_set,List.length_set];exact h.1,fun i hi=>?_⟩;rw [List.length_set] at hi;have hb:id<bod.length:=by rw [← h.1];exact hid
 rw [Zce hid,Zce hb]
 by_cases e:i=id
 ·subst e;rw [if_pos rfl,if_pos rfl];exact hn
 ·rw [if_neg e,if_neg e];exact h.2 i hi
def BatOut (P nB S:Nat) (w:flash_writer) (bod:List (List UInt8)) (l:List Item) (r:Int×flash_writer):Prop:=
 Zal w.Vol.Chip≤Zal r.2.Vol.Chip∧w.Vol.Chip.Ops≤r.2.Vol.Chip.Ops∧r.2.Vol.Chip.Ops≤w.Vol.Chip.Ops+400000∧r.2.Vol.Chip.Faults=w.Vol.Chip.Faults∧r.2.Vol.At.length=w.Vol.At.length∧
 ((r.1=0∧WV P nB S r.2 (Zct l bod))∨(r.1=5∧WV P nB S r.2 bod)∨((r.1=7∨r.1=9)∧(MOK P nB S r.2.Vol.Chip bod∨MOK P nB S r.2.Vol.Chip (Zct l bod))))∧
 (NF w.Vol.Chip→1≤ZaV P nB w.Vol.Chip w.Vol.At→(Zfe l:Int)+w.Vol.At.length≤((nB-3:Nat):Int)*P→r.1=0∧Zal r.2.Vol.Chip=0∧1≤ZaV P nB r.2.Vol.Chip r.2.Vol.At)
theorem batch_loop {w1:flash_writer} {bod:List (List UInt8)} {l:List Item} {P nB S:Nat} (hw:WV P nB S w1 bod) (hg:Geo P nB S) (hn:(w1.Vol.At.length:Int)≤Zd6 S) (hl:Fits S w1.Vol.At.length l) (hll:l.length≤1000) (hops:w1.Vol.Chip.Ops+30000≤Zcz) :
  ZeH (ZM (fun s=>Zb5 l s.1 s.2.1 s.2.2) ((0:Int),w1.Vol.At,w1)) (fun o=>(∃ at7 c2,o=.inl (at7,wch w1 c2)∧BI P nB S w1 bod l l.length at7 c2)∨
   ∃ e c2,o=.inr (e,wch w1 c2)∧Zal w1.Vol.Chip≤Zal c2∧w1.Vol.Chip.Ops≤c2.Ops∧c2.Ops≤w1.Vol.Chip.Ops+20000∧c2.Faults=w1.Vol.Chip.Faults∧((e=5∧WV P nB S (wch w1 c2) bod)∨(e=7∧MOK P nB S c2 bod))∧
    ¬ (NF w1.Vol.Chip∧w1.beyond=false∧(Zfe l:Int)≤ZfL P nB w1.Vol.Chip w1.Vol.At∧1≤ZaV P nB w1.Vol.Chip w1.Vol.At)):=by
 have g2:=hg.b11;have hal:=Zkn hw.ri;have hops':=hops;unfold Zcz at hops;have hself:=some_congr (P:=P) (nB:=nB) (c:=w1.Vol.Chip) (s:=w1.Vol.At++w1.Vol.At) (t:=w1.Vol.At) fun k j _=>by simp
 refine ZeH.loop (σ:=Int×List Int×flash_writer) (fun s=>∃ i:Nat,∃ c2,s.1=i∧s.2.2=wch w1 c2∧i≤l.length∧BI P nB S w1 bod l i s.2.1 c2) (fun s=>l.length-s.1.toNat) (fun s hs=>?_)
  ⟨0,w1.Vol.Chip,rfl,rfl,by omega,hw,hw.gi,rfl,Nat.le_refl _,⟨Int.le_refl _,by omega⟩,fun _ _ _=>rfl,fun a b c d=>⟨a.2,by dsimp only;rw [hself.1];exact c,by dsimp only;rw [hself.2];exact d⟩⟩ (by show l.length-0<_;omega)
 obtain ⟨z,at7,w2⟩:=s;obtain ⟨i,c2,rfl,rfl,hi,h⟩:=hs;dsimp only at h ⊢;unfold Zb5;have hbn:Zal c2≤nB:=ZhN h.wv.ci;have hop:=h.ops
 by_cases hlt:i<l.length
 ·obtain ⟨f1,f2,f3⟩:=hl.1 _ (List.getElem_mem hlt);have hidz:l[i].Id=((l[i].Id.toNat:Nat):Int):=by omega
  have hlen7:at7.length=w1.Vol.At.length:=by rw [h.gi.1,Zf5,hw.gi.1]
  have hid:l[i].Id.toNat<at7.length:=by omega
  have hold:=h.rest i (Nat.le_refl _) hlt;have holdm:at7.getD l[i].Id.toNat 0∈w1.Vol.At:=by rw [hold,ZeD];exact ⟨_,by omega,rfl⟩
  have hnext:∀ (n:Int) j,i+1≤j→(hj:j<l.length)→(at7.set l[i].Id.toNat n).getD l[j].Id.toNat 0=w1.Vol.At.getD l[j].Id.toNat 0:=fun n j hij hj=>by
   have hne:l[j].Id≠l[i].Id:=fun e=>by
    have:=hl.2;rw [List.nodup_iff_pairwise_ne,List.pairwise_iff_getElem] at this;exact this i j (by simpa using hlt) (by simpa using hj) (by omega) (by simpa using e.symm)
   obtain ⟨p1,p2,p3⟩:=hl.1 _ (List.getElem_mem hj);rw [Zce hid,if_neg (by omega)];exact h.rest j (by omega) hj
  have hmem:∀ (n x:Int),x∈w1.Vol.At++at7.set l[i].Id.toNat n↔x∈w1.Vol.At++at7∨x=n:=fun n x=>by
   rw [List.mem_append,List.mem_append,ZiL hid]
   constructor
   ·rintro (a | a | ⟨q,_,a,b⟩)
    ·exact .inl (.inl a)
    ·exact .inr a
    ·exact .inl (.inr (ZeD.2 ⟨q,a,b⟩))
   ·rintro ((a | a) | a)
    ·exact .inl a
    ·obtain ⟨q,b,d⟩:=ZeD.1 a
     by_cases e:q=l[i].Id.toNat
     ·rw [e] at d;rw [← d];exact .inl holdm
     ·exact .inr (.inr ⟨q,e,b,d⟩)
    ·exact .inr (.inl a)
  rw [ZeU hlt,Zs,ZB hlt,Zb];refine ZeH.b (P:=fun o=>(∃ at8 c3,o=.inl (at8,wch w1 c3)∧BI P nB S w1 bod l (i+1) at8 c3)∨
   ∃ e c2,o=.inr (e,wch w1 c2)∧Zal w1.Vol.Chip≤Zal c2∧w1.Vol.Chip.Ops≤c2.Ops∧c2.Ops≤w1.Vol.Chip.Ops+20000∧c2.Faults=w1.Vol.Chip.Faults∧((e=5∧WV P nB S (wch w1 c2) bod)∨(e=7∧MOK P nB S c2 bod))∧
    ¬ (NF w1.Vol.Chip∧w1.beyond=false∧(Zfe l:Int)≤ZfL P nB w1.Vol.Chip w1.Vol.At∧1≤ZaV P nB w1.Vol.Chip w1.Vol.At)) ?_ fun o ho=>?_
  ·by_cases hb:l[i].Body=[]
   ·rw [Zi (by simp [hb]),ZcH (d:=0) hidz hid,Zb,Zb];refine ZeH.s (.inl ⟨_,c2,rfl,h.wv,?_,h.flt,h.many,⟨hop.1,by omega⟩,hnext 0,fun a b c d=>?_⟩)
    ·rw [Zln hlt];exact gi_set h.gi hid (.inl ⟨rfl,hb⟩)
    ·obtain ⟨x1,x2,x3⟩:=h.nf a b c d;have:=some_congr (P:=P) (nB:=nB) (c:=c2) (s:=w1.Vol.At++at7.set l[i].Id.toNat 0) (t:=w1.Vol.At++at7) fun k j _=>by
      rw [hmem];have:=ZdM (P:=P) (k:=k) (j:=j);exact ⟨fun y=>y.resolve_right (by omega),.inl⟩
     rw [this.1,this.2];rw [need_drop hlt,if_neg (by simpa using hb)] at x2;exact ⟨x1,x2,x3⟩
   ·have hblen:l[i].Body.length≠0:=fun e=>hb (List.length_eq_zero_iff.1 e)
    have hgen:=hw.gen;have hPM:PMay ⟨1,l[i].Id,w1.Vol.Gen+1,l[i].Body⟩ S:=by
     have:=hg.s24;have:=hg.s256;have hM:Zd6 (S:Int)≤64:=by unfold Zd6;omega
     exact ⟨⟨by omega,by omega⟩,.inl rfl,f1,by show l[i].Id<64;omega,(gen_may (by omega)).1,f3⟩
    rw [Zf (by simpa using hblen)];refine ZeH.b (place_get (w:=wch w1 c2) (at':=at7) (p:=⟨1,l[i].Id,w1.Vol.Gen+1,l[i].Body⟩) h.wv.ci hg h.wv.off (h.wv.gi.held.app h.gi.held) (by show w1.Vol.At.length≤_;omega) (by omega) hPM (by show c2.Ops+300≤Zcz;unfold Zcz;omega)) fun r ⟨n,e,c3,hr,hfr,hoff,hop3,he,h0,hnf⟩=>?_
    subst hr;have hfr:Fr P nB S (w1.Vol.At++at7) c2 c3:=hfr;have hop3:c3.Ops+18*(Zal c2:Int)≤c2.Ops+18*(Zal c3:Int)+18:=hop3;have hopl:=hfr.opsl;have hmy:=hfr.many;have hmy0:=h.many;have hbn3:=ZhN hfr.ci;have hnf2:NF w1.Vol.Chip→w1.beyond=false→(Zfe l:Int)≤ZfL P nB w1.Vol.Chip w1.Vol.At→1≤ZaV P nB w1.Vol.Chip w1.Vol.At→e=0∧Zal c3=0∧∀ t,(∀ x,x∈t↔x∈w1.Vol.At++at7∨x=n)→(Zfe (l.drop (i+1)):Int)≤ZfL P nB c3 t∧1≤ZaV P nB c3 t:=fun a b c d=>by
     obtain ⟨x1,x2,x3⟩:=h.nf a b c d;rw [need_drop hlt,if_pos hb] at x2;exact hnf (h.flt.trans a.1) x1 b _ (by omega) (by show _≤ZfL P nB c2 (w1.Vol.At++at7);omega) x3
    by_cases e0:e=0
    ·subst e0;obtain ⟨k,j,hnk,k2,kB,jP,ju,hpg,hni⟩:=h0 rfl;rw [Zf (by simp),ZcH (d:=0) hidz hid,Zb,Zb];refine ZeH.s (.inl ⟨_,c3,rfl,h.wv.fr hfr (fun x hx=>List.mem_append_left _ hx) (by rw [hoff];rfl),?_,hfr.flt.trans h.flt,by omega,⟨by omega,by omega⟩,hnext n,fun a b c d=>?_⟩)
     ·rw [Zln hlt];refine gi_set (hfr.gi (fun x hx=>List.mem_append_right _ hx) h.gi) hid (.inr ⟨k,j,w1.Vol.Gen+1,hnk,k2,kB,jP,ju,?_,hb⟩);rw [hpg,read_put (n:=S) hPM,← hidz]
     ·obtain ⟨_,x1,x2⟩:=hnf2 a b c d;exact ⟨x1,x2 _ (hmem n)⟩
    ·rw [Zi (by simpa using e0)];refine ZeH.s (.inr ⟨e,c3,rfl,by omega,by omega,by omega,hfr.flt.trans h.flt,?_,fun ⟨a,b,c,d⟩=>e0 (hnf2 a b c d).1⟩);rcases he with x | x | x
     ·exact absurd x e0
     ·exact .inl ⟨x,h.wv.fr hfr (fun x hx=>List.mem_append_left _ hx) (by rw [hoff,x];rfl)⟩
     ·exact .inr ⟨x,h.wv.mfr hfr (fun x hx=>List.mem_append_left _ hx)⟩
  ·rcases ho with ⟨at8,c3,rfl,h3⟩ | ⟨e,c3,rfl,h3⟩
   ·rw [Zaw,Zcu,ZR (by omega),Zb];exact ZeH.l ⟨i+1,c3,rfl,rfl,by omega,h3⟩ (by show l.length-(i+1)<l.length-(i:Int).toNat;omega)
   ·rw [Zbp];exact Za5 (.inr ⟨e,c3,rfl,h3⟩)
 ·rw [Zjx (by omega),Zo];have:i=l.length:=by omega
  subst this;exact Za5 (.inl ⟨_,_,rfl,h⟩)
theorem batch_get {w:flash_writer} {bod:List (List UInt8)} {l:List Item} {P nB S:Nat} (hw:WV P nB S w bod) (hg:Geo P nB S) (hn:(w.Vol.At.length:Int)≤Zd6 S) (hl:Fits S w.Vol.At.length l) (hll:l.length≤1000) (hops:w.Vol.Chip.Ops+500000≤Zcz) :
  ZeH (Zb7 w l) (BatOut P nB S w bod l):=by
 have g2:=hg.b11;have hops':=hops;unfold Zcz at hops;unfold Zb7;rw [need_eq (by omega),Zb,Zb];have hw0:WV P nB S ⟨w.Vol,false⟩ bod:=hw;refine ZeH.b (space_get (w:=⟨w.Vol,false⟩) (need:=(Zfe l:Int)) hw0 hg hn (by show w.Vol.Chip.Ops+300400≤Zcz;unfold Zcz;omega)) fun x ⟨s1,s2,s3,s4,s5,s6,s7⟩=>?_
 obtain ⟨e1,w1⟩:=x;dsimp only at s1 s2 s3 s4 s5 s6 s7 ⊢;have hnfe:e1≠0→¬ (NF w.Vol.Chip∧1≤ZaV P nB w.Vol.Chip w.Vol.At∧(Zfe l:Int)+w.Vol.At.length≤((nB-3:Nat):Int)*P):=fun e0 ⟨a,b,c⟩=>e0 (s7 a rfl b c).1
 by_cases e0:e1=0
 ·rw [Zf (by simpa using e0)];have hw1:WV P nB S w1 bod:=by
   rcases s6 with ⟨_,h⟩ | ⟨h,_⟩
   ·exact h
   ·omega
  have hal:=Zkn hw1.ri;rw [Zki (by omega),Zb];refine ZeH.b (batch_loop hw1 hg (by rw [s5];exact hn) (by rw [s5];exact hl) hll (by unfold Zcz;omega)) fun o ho=>?_
  have hnf1:NF w.Vol.Chip→1≤ZaV P nB w.Vol.Chip w.Vol.At→(Zfe l:Int)+w.Vol.At.length≤((nB-3:Nat):Int)*P→NF w1.Vol.Chip∧w1.beyond=false∧(Zfe l:Int)≤ZfL P nB w1.Vol.Chip w1.Vol.At∧1≤ZaV P nB w1.Vol.Chip w1.Vol.At:=fun a b c=>by
   obtain ⟨_,x1,x2,x3,x4⟩:=s7 a rfl b c;exact ⟨⟨s4.trans a.1,x1⟩,x2,x4,x3⟩
  rcases ho with ⟨at7,c2,rfl,h⟩ | ⟨e,c2,rfl,o1,o2,o3,o4,o5,o6⟩
  ·rw [Zaw,Zcu];have hbn:Zal c2≤nB:=ZhN h.wv.ci;have hop:=h.ops;have hmy:=h.many;have hgen:=h.wv.gen;have hgen:(w1.Vol.Gen.toNat:Int)≤c2.Ops:=hgen;have hhd:=h.gi.held;have hl7:at7.length=w1.Vol.At.length:=by rw [h.gi.1,Zf5,hw1.gi.1]
   have hgi7:GI P nB c2 at7 (Zct l bod):=by have:=h.gi;rw [List.take_length] at this;exact this
   refine ZeH.b (write_get (w:=wch w1 c2) (at':=at7) h.wv.ci hg h.wv.off h.wv.ri (root_may hg hhd (by rw [hl7,s5];exact hn) (by show w1.Vol.Gen.toNat≤_;omega)) (by show w1.Vol.Gen.toNat<_;omega) (by show c2.Ops+8≤Zcz;unfold Zcz;omega)) fun r ⟨c',e,hW,hr⟩=>?_
   have hW:WrF P nB S c2 c' e:=hW;have hwo:=hW.ops;have hwm:=hW.many;have hgm:=gen_may (gen:=w1.Vol.Gen) (by omega);have hg7:=hW.gi hgi7;have hg0:=hW.gi h.wv.gi;have hflt:c'.Faults=w.Vol.Chip.Faults:=hW.flt.trans (h.flt.trans s4);rcases hr with ⟨rfl,hO1,last',rfl,hri'⟩ | ⟨he,rfl,hst⟩
   ·have hO1:c2.Ops+1≤c'.Ops:=hO1;refine ZeH.s ⟨by show Zal w.Vol.Chip≤Zal c';omega,by show w.Vol.Chip.Ops≤c'.Ops;omega,by show c'.Ops≤_;omega,hflt,by show at7.length=_;omega,.inl ⟨rfl,⟨hW.ci,by rw [hW.off];rfl,hri',hg7,by show ((w1.Vol.Gen+1).toNat:Int)≤c'.Ops;omega⟩⟩,fun a b c=>?_⟩;obtain ⟨y1,y2,y3,y4⟩:=hnf1 a b c;obtain ⟨x1,x2,x3⟩:=h.nf y1 y2 y3 y4;refine ⟨rfl,(hW.nf (h.flt.trans y1.1) x1).2,?_⟩;obtain ⟨k,k2,kB,kb,kl⟩:=idle_ex x3;refine Zmv (k:=k) k2 kB (by show (blk c' k).Bad=false;rw [hW.oth k k2];exact kb) (Zc6.2 fun j hj hx=>Zc6.1 kl j hj (List.mem_append_right _ hx))
   ·refine ZeH.s ⟨by show Zal w.Vol.Chip≤Zal c';omega,by show w.Vol.Chip.Ops≤c'.Ops;omega,by show c'.Ops≤_;omega,hflt,s5,.inr (.inr ⟨he,?_⟩),fun a b c=>?_⟩
    ·rcases hst with x | ⟨l',x,y⟩
     ·exact .inl ⟨hW.ci,_,_,_,x,hg0,by show (w1.Vol.Gen.toNat:Int)≤c'.Ops;omega⟩
     ·have y:c2.Ops+1≤c'.Ops:=y;exact .inr ⟨hW.ci,_,_,_,x,hg7,by show ((w1.Vol.Gen+1).toNat:Int)≤c'.Ops;omega⟩
    ·obtain ⟨y1,y2,y3,y4⟩:=hnf1 a b c;have:=(hW.nf (h.flt.trans y1.1) (h.nf y1 y2 y3 y4).1).1;omega
  ·rw [Zbp];refine ZeH.s ⟨by show Zal w.Vol.Chip≤Zal c2;omega,by show w.Vol.Chip.Ops≤c2.Ops;omega,by show c2.Ops≤_;omega,o4.trans s4,s5,.inr (o5.imp id fun h=>⟨.inl h.1,.inl h.2⟩),fun a b c=>absurd (hnf1 a b c) o6⟩
 ·rw [Zi (by simpa using e0)];refine ZeH.s ⟨s1,s2,by show w1.Vol.Chip.Ops≤_;omega,s4,s5,.inr ?_,fun a b c=>absurd ⟨a,b,c⟩ (hnfe e0)⟩;rcases s6 with ⟨h1 | h1,h⟩ | ⟨h1,h⟩
  ·exact absurd h1 e0
  ·exact .inl ⟨h1,h⟩
  ·exact .inr ⟨h1,.inl h⟩
def WrtOut (P nB S:Nat) (v:Vol) (bod:List (List UInt8)) (l:List Item) (r:Vol×Int):Prop:=
 v.Chip.Ops≤r.1.Chip.Ops∧r.1.Chip.Ops≤v.Chip.Ops+10000000∧r.1.Chip.Faults=v.Chip.Faults∧
 ((r.2=0∧VI P nB S r.1.Chip r.1.At r.1.Gen r.1.Last (Zct l bod))∨(r.2=5∧VI P nB S r.1.Chip r.1.At r.1.Gen r.1.Last bod)∨((r.2=7∨r.2=9)∧(MOK P nB S r.1.Chip bod∨MOK P nB S r.1.Chip (Zct l bod))))∧
 (NF v.Chip→1≤ZaV P nB v.Chip v.At→(Zfe l:Int)+v.At.length≤((nB-3:Nat):Int)*P→r.2=0∧Zal r.1.Chip=0∧1≤ZaV P nB r.1.Chip r.1.At)
theorem flash_write {v:Vol} {bod:List (List UInt8)} {l:List Item} {P nB S:Nat} (hv:VI P nB S v.Chip v.At v.Gen v.Last bod) (hg:Geo P nB S) (hn:(v.At.length:Int)≤Zd6 S) (hl:Fits S v.At.length l) (hll:l.length≤1000) (hops:v.Chip.Ops+20000000≤Zcz) :
  ZeH (ZfX v l) (WrtOut P nB S v bod l):=by
 have g2:=hg.b11;have hal:=Zkn hv.ri;have hgen:=hv.gen;unfold Zcz at hops;unfold ZfX;rw [show Zer v=some true from right_vol hg hv,Zb];have hG:decide (UInt64.ofNat 281474976710655≤v.Gen)=false:=by
  rw [decide_eq_false_iff_not,UInt64.le_iff_toNat_le];show ¬ 281474976710655≤v.Gen.toNat;omega
 rw [hG,Bool.not_true,Bool.false_or,Bool.not_false,ZaL,show Zc7 v l=some true from fitting_eq hv.ci hg (by omega) hl,Zb,Bool.not_true,Bool.false_or,Zo,hv.off,Zo,show Zcw v=some v from apart_eq hv.ci (by omega),Zb,Zb];have hw:WV P nB S ⟨v,false⟩ bod:=hv;refine ZeH.loop (fun s=>WV P nB S s bod∧Zal v.Chip≤Zal s.Vol.Chip∧v.Chip.Ops≤s.Vol.Chip.Ops∧s.Vol.Chip.Ops+400000*(Zal v.Chip:Int)≤v.Chip.Ops+400000*(Zal s.Vol.Chip:Int)∧s.Vol.Chip.Faults=v.Chip.Faults∧s.Vol.At.length=v.At.length∧
  (NF v.Chip→1≤ZaV P nB v.Chip v.At→(Zfe l:Int)+v.At.length≤((nB-3:Nat):Int)*P→s=⟨v,false⟩)) (fun s=>nB-Zal s.Vol.Chip) (fun s hs=>?_)
  ⟨hw,Nat.le_refl _,Int.le_refl _,Int.le_refl _,rfl,rfl,fun _ _ _=>rfl⟩ (by omega)
 obtain ⟨hs,i1,i2,i3,i4,i5,i6⟩:=hs;have hbs:=ZhN hs.ci;unfold ZgP;rw [bad_eq hs.ci,Zb];refine ZeH.b (batch_get hs hg (by rw [i5];exact hn) (by rw [i5];exact hl) hll (by unfold Zcz;omega)) fun x ⟨s1,s2,s3,s4,s5,s6,s7⟩=>?_
 obtain ⟨e1,w1⟩:=x;dsimp only at s1 s2 s3 s4 s5 s6 s7 ⊢;have hc1:CI P nB S w1.Vol.Chip:=by
  rcases s6 with ⟨_,h⟩ | ⟨_,h⟩ | ⟨_,h | h⟩
  ·exact h.ci
  ·exact h.ci
  ·exact h.1
  ·exact h.1
 have hb1:=ZhN hc1;rw [Zg7 (bad_eq hc1),Zb]
 by_cases hlp:e1=5∧Zal s.Vol.Chip<Zal w1.Vol.Chip
 ·have:(decide (e1=5)&&decide ((bif decide (e1=5) then (Zal w1.Vol.Chip:Int) else default)>(Zal s.Vol.Chip:Int)))=true:=by
   rw [hlp.1];simp;exact hlp.2
  rw [this,Zs];refine ZeH.l ⟨?_,by omega,by omega,by omega,s4.trans i4,s5.trans i5,fun a b c=>?_⟩ (by omega)
  ·rcases s6 with ⟨h,_⟩ | ⟨_,h⟩ | ⟨h,_⟩
   ·omega
   ·exact h
   ·omega
  ·have hs':=i6 a b c;subst hs';have:=(s7 a b c).1;omega
 ·have:(decide (e1=5)&&decide ((bif decide (e1=5) then (Zal w1.Vol.Chip:Int) else default)>(Zal s.Vol.Chip:Int)))=false:=by
   rw [Bool.eq_false_iff];intro hh;rw [Bool.and_eq_true,decide_eq_true_iff,decide_eq_true_iff] at hh;obtain ⟨a,b⟩:=hh;rw [a] at b;exact hlp ⟨a,by simpa using b⟩
  rw [this,Zo];refine Za5 ⟨by show v.Chip.Ops≤w1.Vol.Chip.Ops;omega,by show w1.Vol.Chip.Ops≤_;omega,s4.trans i4,s6,fun a b c=>?_⟩;have hs':=i6 a b c;subst hs';exact s7 a b c
end Go.Proofs.YtkmojgfenlgchaaGreatDoor.Tr
namespace Go.Proofs.YtkmojgfenlgchaaGreatDoor.Tr
open Go
theorem Zib {nB P S k:Nat} (hk:k<nB):blk (Zas nB P S) k=Zfd P S:=by
 unfold blk Zas;rw [ZcS (by simpa using hk),List.getElem_replicate]
theorem new_pg {nB P S k j:Nat} (hk:k<nB) (hj:j<P):pg (Zas nB P S) k j=Zcs S:=by
 unfold pg pgb;rw [Zib hk];unfold Zfd;rw [ZcS (by simpa using hj),List.getElem_replicate];rfl
theorem new_ci {P nB S:Nat} (hg:Geo P nB S):CI P nB S (Zas nB P S):=by
 have:=hg.p2;have:=hg.p8;have:=hg.b5;have:=hg.b11;have:=hg.s24;have:=hg.s256;refine ⟨new_right ?_,rfl,rfl,by simp [Zas],fun k hk j _ hj=>new_pg hk hj,fun k hk=>by rw [Zib hk];exact Int.le_refl _,fun f hf=>by cases hf⟩;unfold ZhY;simp;omega
theorem new_bad {P nB S:Nat}:Zal (Zas nB P S)=0:=by
 unfold Zal;rw [List.countP_eq_zero];intro b hb;have:b=Zfd P S:=(List.mem_replicate.1 hb).2;rw [this];show ¬ (false=true);decide
theorem zeros_may {S n:Nat} (h1:24≤S) (h2:S≤256) (hn:(n:Int)≤Zd6 S):RMay ⟨1,List.replicate n 0⟩ S:=
 ⟨⟨by omega,by omega⟩,by show (1:UInt64)<_;decide,by rw [List.length_replicate];exact hn,fun x hx=>by rw [(List.mem_replicate.1 hx).2];decide⟩
theorem mostV_le (s:Int):Zd6 s≤64:=by unfold Zd6;omega
theorem format_get {P nB S n:Nat} (hg:Geo P nB S) (h1:1≤n) (hn:(n:Int)≤Zd6 S) {z:Int} (hz:z=n) :
  ZeH (ZeO (Zas nB P S) z) (fun r=>r.2=0∧VI P nB S r.1.Chip r.1.At r.1.Gen r.1.Last (List.replicate n [])∧r.1.At.length=n∧NF r.1.Chip∧r.1.Chip.Ops≤10∧1≤ZaV P nB r.1.Chip r.1.At):=by
 subst hz;have g2:=hg.p2;have g5:=hg.b5;have hc:=new_ci (S:=S) hg;have hm64:=mostV_le S;unfold ZeO;rw [bears_eq hc hg,Zb,Zh8,show ((!true)||decide ((n:Int)<1))=false by simp;omega,Bool.not_false,ZaL,Zb,Bool.false_or,show (Zas nB P S).Size=(S:Int) from rfl,Zf (by simpa using hn),show (Zas nB P S).Off=false from rfl,Zo,own_eq hc,Zb,Zb]
 -- nothing is stale
 have hpgs:∀ b j,b<2→j<P→Zai (pg (Zas nB P S) b j)=(Root0,6):=fun b j hb hj=>by rw [new_pg (by omega) hj,ZiU hg.s24 hg.s256]
 have hgr:∀ (w:flash_writer),w.Vol.Chip=Zas nB P S→∀ b:Nat,b<2→∀ z:Int,z=b→ZZ w z=some 0:=fun w hw b hb z hz=>by
  refine Zgf ((Zlj (P:=P) (nB:=nB) (S:=S) (by rw [hw];exact hc) hg hz hb).m fun v ⟨v1,v2⟩=>?_);rcases v2 with h | ⟨j,j1,j2,j3⟩
  ·exact h
  ·rw [hw,hpgs b j hb j1] at j2;cases j2
 have hstale:∀ k:Nat,k<nB→ZbX ⟨⟨Zas nB P S,[],0,0⟩,false⟩ (k:Int)=some false:=fun k hk=>by
  unfold ZbX;rw [show idx (Zas nB P S).Blocks (k:Int)=some (Zfd P S) by rw [hc.idxB rfl hk,Zib hk],Zb]
  by_cases h2:k<2
  ·rw [Zg7 (hgr _ rfl k h2 _ rfl),Zb];have:decide ((k:Int)<2)=true:=by rw [decide_eq_true_iff];omega
   rw [this];rfl
  ·have:decide ((k:Int)<2)=false:=by rw [decide_eq_false_iff_not];omega
   rw [this,Bool.and_false,Zbd,Zb];rfl
 unfold ZcI;have hl1:ZM (fun s=>Zbg ⟨⟨Zas nB P S,[],0,0⟩,false⟩ s.1 s.2) ((0:Int),(⟨⟨Zas nB P S,[],0,0⟩,false⟩:flash_writer))=some (.inl ⟨⟨Zas nB P S,[],0,0⟩,false⟩):=by
  have g11:=hg.b11;refine ZP (fun i=>((i:Int),(⟨⟨Zas nB P S,[],0,0⟩,false⟩:flash_writer))) nB (by omega) (fun i hi=>?_) ?_ rfl
  ·unfold Zbg;dsimp only;rw [show decide ((i:Int)<((Zas nB P S).Blocks.length:Int))=true by rw [hc.len];simpa using hi,Zs,hstale i hi,Zb,Bool.not_false,Zs,Zb,Zaw,ZR (by omega),Zb]
  ·unfold Zbg;dsimp only;rw [show decide ((nB:Int)<((Zas nB P S).Blocks.length:Int))=false by rw [hc.len];simp,Zo]
 rw [Zbh hl1,Zaw]
 -- the root
 have hmay:=zeros_may hg.s24 hg.s256 hn;have hp:=Zmh hmay;have hlen:=(ZiH (n:=S) hp rfl).1;have hrd:=Zj2 (n:=S) hmay;have hput:RPutV ⟨1,List.replicate n 0⟩ (S:Int)=(Zbx (Zby (Zju ⟨1,List.replicate n 0⟩) S),0):=by
  unfold RPutV PutV;rw [if_pos hmay,if_pos hp,Int.toNat_natCast]
 have hfirst:Zb2 ⟨⟨Zas nB P S,[],0,0⟩,false⟩ 0=some 1:=by
  unfold Zb2;rw [ZaO (by omega) (by omega),Zb,hgr _ rfl 1 (by omega) _ (by rfl),Zb];rfl
 have hstep:ZeH (Zbf (n:Int) 0 ⟨⟨Zas nB P S,[],0,0⟩,false⟩) (fun x=>∃ c',x=.inr (.inr ((0:Int),⟨⟨c',List.replicate n 0,1,0⟩,false⟩))∧ProgF P nB S (Zas nB P S) c' 0 (Zbx (Zby (Zju ⟨1,List.replicate n 0⟩) S)) 0):=by
  unfold Zbf;rw [Zi (by decide),hfirst,Zb,Zav (by omega) (by omega) (by omega),Zb,Zb,show (⟨⟨Zas nB P S,[],0,0⟩,false⟩:flash_writer).Vol.Chip.Size=(S:Int) from rfl,Zmg,Int.toNat_natCast,show (Dat.z:Int)=0 from rfl,hput,Zb,
   show decide ((Zbx (Zby (Zju ⟨1,List.replicate n 0⟩) S),(0:Int)).2≠0)=false from rfl,Bool.not_false,ZaL,ZkS (k:=0) (z:=0) (P:=P) (nB:=nB) (S:=S) rfl hc (by omega),Zb,Bool.false_or]
  have hf:freeV P (blk (Zas nB P S) 0)=P:=by
   rw [Zib (by omega)];show (if false=true then (0:Int) else P-0)=P;simp
  rw [show (⟨⟨Zas nB P S,[],0,0⟩,false⟩:flash_writer).Vol.Chip=Zas nB P S from rfl,hf,Zf (by simp;omega)];refine ZeH.b (P:=fun o=>∃ c',o=.inr ((0:Int),⟨⟨c',List.replicate n 0,1,0⟩,false⟩)∧ProgF P nB S (Zas nB P S) c' 0 (Zbx (Zby (Zju ⟨1,List.replicate n 0⟩) S)) 0)
   (ZeH.b (Zh9 (w:=⟨⟨Zas nB P S,[],0,0⟩,false⟩) (k:=0) (z:=0) rfl hc rfl (by omega) (by rw [Zib (by omega)];rfl) (by rw [Zib (by omega)];show (0:Int)<P;omega) hlen (by show (0:Int)<Zcz;decide)) fun r ⟨c',e,hr,g⟩=>?_) fun o ho=>?_
  ·subst hr;have e0:e=0:=g.nf rfl;subst e0;rw [Zi (by simp),Zb];exact ZeH.s ⟨c',rfl,g⟩
  ·obtain ⟨c',rfl,g⟩:=ho;rw [Zbp];exact ZeH.s ⟨c',rfl,g⟩
 obtain ⟨x,hx,c',rfl,g⟩:=hstep;have hl2:ZM (fun s=>Zbf (n:Int) s.1 s.2) ((0:Int),(⟨⟨Zas nB P S,[],0,0⟩,false⟩:flash_writer))=some (.inr ((0:Int),⟨⟨c',List.replicate n 0,1,0⟩,false⟩)):=Zhy 1 (by omega) (Zem hx);rw [Zbh hl2,Zbp,Zb,Zf (by simp)];obtain ⟨q,_,hq1,hq2⟩:=g.pgn;have hu0:(blk (Zas nB P S) 0).Used=0:=by rw [Zib (by omega)];rfl
 rw [hu0] at hq2;have hq2:pg c' 0 0=Zbx (Zby (Zju ⟨1,List.replicate n 0⟩) S):=hq2.trans (hq1 rfl);have gops:=g.ops;have gm:=g.many;rw [new_bad] at gm;have hoth:∀ b j,b<2→j<P→¬ (b=0∧j=0)→pg c' b j=pg (Zas nB P S) b j:=fun b j hb hj hn=>by
  by_cases e:b=0
  ·subst e;exact g.pgo j (by rw [hu0];omega)
  ·exact Zmj (g.oth b e)
 refine ZeH.s ⟨rfl,⟨g.ci,by rw [g.off];rfl,⟨0,0,rfl,by omega,by omega,by rw [hq2];exact hrd,fun b j hb hj h0=>?_⟩,⟨by simp,fun id hid=>.inl ⟨?_,?_⟩⟩,by rw [gops];show ((1:UInt64).toNat:Int)≤0+1;decide⟩,by simp,⟨g.flt,gm⟩,by rw [gops];show (0:Int)+1≤10;decide,?_⟩
 ·by_cases e:b=0∧j=0
  ·obtain ⟨rfl,rfl⟩:=e;rw [hq2,hrd];exact ⟨Nat.le_refl _,fun _=>Nat.le_refl _⟩
  ·rw [hoth b j hb hj e,hpgs b j hb hj] at h0;cases h0
 ·have hid:id<(List.replicate n (0:Int)).length:=hid;rw [ZcS hid,List.getElem_replicate]
 ·have hid:id<(List.replicate n (0:Int)).length:=hid;rw [ZcS (by simpa using hid),List.getElem_replicate]
 ·refine Zmv (k:=2) (by omega) (by omega) (by rw [g.oth 2 (by omega),Zib (by omega)];rfl) (Zc6.2 fun j hj hx=>?_);have:=(List.mem_replicate.1 hx).2;have:=ZdM (P:=P) (k:=2) (j:=j);omega
end Go.Proofs.YtkmojgfenlgchaaGreatDoor.Tr
namespace Go.Proofs.YtkmojgfenlgchaaGreatDoor.Tr
open Go
set_option maxRecDepth 100000
def kvl (l:List UInt8):Nat:=l.foldl (fun a b=>a*256+b.toNat) 0
theorem kvl_acc:∀ (l:List UInt8) (a:Nat),l.foldl (fun a b=>a*256+b.toNat) a=a*256 ^ l.length+kvl l
 | [],a=>by simp [kvl]
 | x::l,a=>by
  unfold kvl;simp only [List.foldl_cons,List.length_cons];rw [kvl_acc l,kvl_acc l (0*256+x.toNat),Nat.pow_succ,Nat.add_mul,Nat.zero_mul,Nat.zero_add,Nat.mul_assoc,Nat.mul_comm 256,Nat.add_assoc]
theorem Zg5 (xs ys:List UInt8):kvl (xs++ys)=kvl xs*256 ^ ys.length+kvl ys:=by
 unfold kvl;rw [List.foldl_append,kvl_acc];rfl
theorem Zgt (x:UInt8) (l:List UInt8):kvl (x::l)=x.toNat*256 ^ l.length+kvl l:=by
 rw [show x::l=[x]++l from rfl,Zg5];simp [kvl]
theorem Zmu:∀ l:List UInt8,kvl l<256 ^ l.length
 | []=>by simp [kvl]
 | x::l=>by
  rw [Zgt,List.length_cons,Nat.pow_succ];have:=Zmu l;have hx:=x.toNat_lt;have:(x.toNat+1)*256 ^ l.length≤256*256 ^ l.length:=Nat.mul_le_mul_right _ (by omega);rw [Nat.add_mul] at this;omega
theorem kvl_inj:∀ {l m:List UInt8},l.length=m.length→kvl l=kvl m→l=m
 | [],[],_,_=>rfl
 | x::l,y::m,hl,h=>by
  rw [Zgt,Zgt] at h;simp only [List.length_cons,Nat.add_right_cancel_iff] at hl;rw [hl] at h;have h1:=Zmu l;have h2:=Zmu m;rw [hl] at h1;have hP:0<256 ^ m.length:=Nat.pos_of_neZero _;have e1:x.toNat=y.toNat:=by
   have:(x.toNat*256 ^ m.length+kvl l)/256 ^ m.length=(y.toNat*256 ^ m.length+kvl m)/256 ^ m.length:=by rw [h]
   rw [Nat.mul_comm,Nat.mul_add_div hP,Nat.div_eq_of_lt h1,Nat.mul_comm,Nat.mul_add_div hP,Nat.div_eq_of_lt h2] at this;omega
  have e2:x=y:=UInt8.toNat_inj.1 e1;subst e2;rw [kvl_inj hl (by omega)]
theorem Zkc:∀ n,kvl (List.replicate n 0)=0
 | 0=>rfl
 | n+1=>by rw [List.replicate_succ,Zgt,Zkc n];simp
def mkl:Nat→Nat→List UInt8
 | 0,_=>[]
 | m+1,n=>mkl m (n/256)++[UInt8.ofNat (n % 256)]
theorem mkl_length:∀ m n,(mkl m n).length=m
 | 0,n=>rfl
 | m+1,n=>by rw [mkl,List.length_append,mkl_length m];rfl
theorem kvl_mkl:∀ m n,kvl (mkl m n)=n % 256 ^ m
 | 0,n=>by simp [mkl,kvl,Nat.mod_one]
 | m+1,n=>by
  rw [mkl,Zg5,kvl_mkl m];simp only [List.length_singleton,Nat.pow_one,kvl,List.foldl_cons,List.foldl_nil,Nat.zero_mul,Nat.zero_add];rw [UInt8.toNat_ofNat_of_lt' (show n % 256<256 by omega),Nat.pow_succ,Nat.mul_comm (256 ^ m) 256,Nat.mod_mul];omega
def kv (v:Vec UInt8 16):Nat:=kvl v.l
def mk (n:Nat):Vec UInt8 16:=⟨mkl 16 n,mkl_length 16 n⟩
theorem p256 (n:Nat):256 ^ n=2 ^ (8*n):=by rw [Nat.pow_mul]
theorem kv_lt (v:Vec UInt8 16):kv v<2 ^ 128:=by
 have:=Zmu v.l;rw [v.h,p256] at this;exact this
theorem kv_inj {v w:Vec UInt8 16} (h:kv v=kv w):v=w:=Vec.ext (kvl_inj (by rw [v.h,w.h]) h)
theorem kv_mk {n:Nat} (h:n<2 ^ 128):kv (mk n)=n:=by
 show kvl (mkl 16 n)=n;rw [kvl_mkl,p256,Nat.mod_eq_of_lt h]
theorem kv_zero:kv (Dat.z:Vec UInt8 16)=0:=Zkc 16
theorem cmp_kvl:∀ {l m:List UInt8},l.length=m.length→ZcJ l m=if kvl l<kvl m then -1 else if kvl m<kvl l then 1 else 0
 | [],[],_=>rfl
 | x::l,y::m,hl=>by
  simp only [List.length_cons,Nat.add_right_cancel_iff] at hl;rw [ZcJ,Zgt,Zgt,hl];have h1:=Zmu l;have h2:=Zmu m;rw [hl] at h1;have ih:=cmp_kvl hl;rcases Nat.lt_trichotomy x.toNat y.toNat with h | h | h
  ·have h3:(x.toNat+1)*256 ^ m.length≤y.toNat*256 ^ m.length:=Nat.mul_le_mul_right _ h;rw [Nat.add_mul] at h3;rw [if_pos (UInt8.lt_iff_toNat_lt.2 h),if_pos (by omega)]
  ·have e:x=y:=UInt8.toNat_inj.1 h;subst e;rw [if_neg (UInt8.lt_irrefl x),if_neg (UInt8.lt_irrefl x),ih];simp only [Nat.add_lt_add_iff_left]
  ·have h3:(y.toNat+1)*256 ^ m.length≤x.toNat*256 ^ m.length:=Nat.mul_le_mul_right _ h;rw [Nat.add_mul] at h3;rw [if_neg (fun h4=>by have:=UInt8.lt_iff_toNat_lt.1 h4;omega),if_pos (UInt8.lt_iff_toNat_lt.2 h),if_neg (by omega),if_pos (by omega)]
theorem all16 (v:Vec UInt8 16):((v.l.drop (Int.toNat 0)).take (((16:Int)-0).toNat))=v.l:=by
 show (v.l.drop 0).take 16=v.l;rw [List.drop_zero,List.take_of_length_le (by rw [v.h];exact Nat.le_refl _)]
def cmpK (v w:Vec UInt8 16):Int:=if kv v<kv w then -1 else if kv w<kv v then 1 else 0
theorem cmpK_eq (v w:Vec UInt8 16):ZdW ((v.l.drop (Int.toNat 0)).take (((16:Int)-0).toNat)) ((w.l.drop (Int.toNat 0)).take (((16:Int)-0).toNat))=some (cmpK v w):=by
 rw [all16,all16];unfold ZdW cmpK kv;rw [cmp_kvl (by rw [v.h,w.h])]
theorem cmpK_lt {v w:Vec UInt8 16}:cmpK v w<0↔kv v<kv w:=by
 unfold cmpK
 by_cases h:kv v<kv w
 ·rw [if_pos h];omega
 ·rw [if_neg h]
  by_cases h2:kv w<kv v
  ·rw [if_pos h2];omega
  ·rw [if_neg h2];omega
theorem cmpK_ne {v w:Vec UInt8 16}:cmpK v w≠0↔kv v≠kv w:=by
 unfold cmpK
 by_cases h:kv v<kv w
 ·rw [if_pos h];omega
 ·rw [if_neg h]
  by_cases h2:kv w<kv v
  ·rw [if_pos h2];omega
  ·rw [if_neg h2];omega
theorem cut16:cut 16 0 (16:Int)=some ():=Zdb (by omega) (by omega) (by omega)
theorem byte_and:∀ r:Fin 8,∀ x:Fin 256,0<r.val→((UInt8.ofNat x.val) &&& ~~~(shr8 (UInt8.ofNat 255) (r.val:Int))).toNat=x.val/2 ^ (8-r.val)*2 ^ (8-r.val):=by decide +kernel
theorem byte_and' {x:UInt8} {r:Nat} (h0:0<r) (h:r<8):(x &&& ~~~(shr8 (UInt8.ofNat 255) (r:Int))).toNat=x.toNat/2 ^ (8-r)*2 ^ (8-r):=by
 have:=byte_and ⟨r,h⟩ ⟨x.toNat,x.toNat_lt⟩ h0;simpa using this
theorem kv_part (v:Vec UInt8 16) {w:Nat} (hw:w<16):kv v=(kvl (v.l.take w)*256+(v.l[w]'(by rw [v.h];exact hw)).toNat)*256 ^ (15-w)+kvl (v.l.drop (w+1))∧kvl (v.l.drop (w+1))<256 ^ (15-w):=by
 have hl:w<v.l.length:=by rw [v.h];exact hw
 have e:v.l=v.l.take w++(v.l[w]::v.l.drop (w+1)):=by rw [← List.drop_eq_getElem_cons hl,List.take_append_drop]
 have hd:(v.l.drop (w+1)).length=15-w:=by rw [List.length_drop,v.h];omega
 refine ⟨?_,by have:=Zmu (v.l.drop (w+1));rwa [hd] at this⟩;unfold kv
 conv=>lhs;rw [e]
 rw [Zg5,Zgt,List.length_cons,hd,Nat.pow_succ,Nat.add_mul,Nat.mul_assoc,Nat.mul_comm 256,Nat.add_assoc]
theorem kv_setb (v:Vec UInt8 16) {w:Nat} (hw:w<16) (b:UInt8):kv (v.set w b)=(kvl (v.l.take w)*256+b.toNat)*256 ^ (15-w)+kvl (v.l.drop (w+1)):=by
 have hl:w<v.l.length:=by rw [v.h];exact hw
 have hd:(v.l.drop (w+1)).length=15-w:=by rw [List.length_drop,v.h];omega
 show kvl (v.l.set w b)=_;rw [List.set_eq_take_append_cons_drop,if_pos hl,Zg5,Zgt,List.length_cons,hd,Nat.pow_succ,Nat.add_mul,Nat.mul_assoc,Nat.mul_comm 256,Nat.add_assoc]
theorem pow_part {w r:Nat} (hw:w<16) (hr:r≤8):2 ^ (128-(8*w+r))=2 ^ (8-r)*256 ^ (15-w):=by
 rw [p256,← Nat.pow_add];congr 1;omega
def cutK (v:Vec UInt8 16) (n:Int):Vec UInt8 16:=mk (kv v/2 ^ (128-n.toNat)*2 ^ (128-n.toNat))
theorem cut_lt (v:Vec UInt8 16) (s:Nat):kv v/s*s<2 ^ 128:=Nat.lt_of_le_of_lt (Nat.div_mul_le_self _ _) (kv_lt v)
theorem kv_cut (v:Vec UInt8 16) (n:Int):kv (cutK v n)=kv v/2 ^ (128-n.toNat)*2 ^ (128-n.toNat):=kv_mk (cut_lt v _)
theorem part_div {A M r s:Nat} (hM:0<M) (hr:r<M):(A*M+r)/(s*M)=A/s:=by
 rw [Nat.mul_comm s M,← Nat.div_div_eq_div_mul,Nat.mul_comm A M,Nat.mul_add_div hM,Nat.div_eq_of_lt hr,Nat.add_zero]
theorem byte_div (A x:Nat) {r:Nat} (hr:r≤8):(A*256+x)/2 ^ (8-r)*2 ^ (8-r)=A*256+x/2 ^ (8-r)*2 ^ (8-r):=by
 have e9:A*256=2 ^ (8-r)*(A*2 ^ r):=by
  have e:2 ^ r*2 ^ (8-r)=256:=by rw [← Nat.pow_add,show r+(8-r)=8 by omega]
  rw [Nat.mul_comm (2 ^ (8-r)),Nat.mul_assoc,e]
 generalize 2 ^ (8-r)=s at e9 ⊢;rw [e9];rcases Nat.eq_zero_or_pos s with rfl | hs
 ·simp
 ·rw [Nat.mul_add_div hs,Nat.add_mul,Nat.mul_comm s]
theorem key_Cut_eq (v:Vec UInt8 16) (n:Int):ZkQ v n=some (cutK v n):=by
 unfold ZkQ
 by_cases h1:n≥128
 ·rw [decide_eq_true h1,Zs];congr 1;refine kv_inj ?_;rw [kv_cut,show 128-n.toNat=0 by omega,Nat.pow_zero,Nat.div_one,Nat.mul_one]
 ·rw [decide_eq_false h1,Zo]
  by_cases h2:n<1
  ·rw [decide_eq_true h2,Zs];congr 1;refine kv_inj ?_;rw [kv_cut,kv_zero,show 128-n.toNat=128 by omega,Nat.div_eq_of_lt (kv_lt v),Nat.zero_mul]
  ·rw [decide_eq_false h2,Zo];obtain ⟨m,rfl⟩:=Int.eq_ofNat_of_zero_le (show 0≤n by omega);obtain ⟨w,r,rfl,hr⟩:∃ w r,m=8*w+r∧r<8:=⟨m/8,m % 8,by omega,by omega⟩;have hw:w<16:=by omega
   have q:ZjM ((8*w+r:Nat):Int) 8=some (w:Int):=by rw [ZfO (by omega) (by omega)];congr 1;omega
   have q2:remI ((8*w+r:Nat):Int) 8=some (r:Int):=by rw [Zjt (by omega) (by omega)];congr 1;omega
   have hcut:cut 16 0 (w:Int)=some ():=Zdb (by omega) (by omega) (by omega);rw [q,Zb,hcut,Zb,Zb,Zb,q2,Zb];have hl:w<v.l.length:=by rw [v.h];exact hw
   -- the first bytes
   have hput:(Vec.put (Dat.z:Vec UInt8 16) (Int.toNat 0) (over (((Dat.z:Vec UInt8 16).l.drop (Int.toNat 0)).take (((w:Int)-0).toNat)) ((v.l.drop (Int.toNat 0)).take (((w:Int)-0).toNat)))).l=v.l.take w++List.replicate (16-w) 0:=by
    have e1:((Dat.z:Vec UInt8 16).l.drop (Int.toNat 0)).take (((w:Int)-0).toNat)=List.replicate w 0:=by
     show ((List.replicate 16 (0:UInt8)).drop 0).take (((w:Int)-0).toNat)=_;rw [List.drop_zero,show (((w:Int)-0).toNat)=w by omega,List.take_replicate,Nat.min_eq_left (by omega)]
    have e2:(v.l.drop (Int.toNat 0)).take (((w:Int)-0).toNat)=v.l.take w:=by
     show (v.l.drop 0).take _=_;rw [List.drop_zero,show (((w:Int)-0).toNat)=w by omega]
    have e3:over (List.replicate w (0:UInt8)) (v.l.take w)=v.l.take w:=by
     unfold over;rw [List.length_replicate,List.take_take,Nat.min_self,List.length_take,Nat.min_eq_left (by omega),List.drop_of_length_le (by simp),List.append_nil]
    have e4:splice (Dat.z:Vec UInt8 16).l (Int.toNat 0) (v.l.take w)=v.l.take w++List.replicate (16-w) 0:=by
     show splice (List.replicate 16 (0:UInt8)) 0 (v.l.take w)=_;unfold splice;rw [List.take_zero,List.nil_append,List.length_take,Nat.min_eq_left (by omega),Nat.zero_add,List.drop_replicate]
    rw [e1,e2,e3];unfold Vec.put;rw [dif_pos (by rw [e4];simp;omega)];exact e4
   generalize Vec.put (Dat.z:Vec UInt8 16) (Int.toNat 0) (over (((Dat.z:Vec UInt8 16).l.drop (Int.toNat 0)).take (((w:Int)-0).toNat)) ((v.l.drop (Int.toNat 0)).take (((w:Int)-0).toNat)))=c at hput ⊢;obtain ⟨p1,p2⟩:=kv_part v hw;have hM:0<256 ^ (15-w):=Nat.pos_of_neZero _
   by_cases h0:r=0
   ·subst h0;rw [show decide (((0:Nat):Int)>0)=false by decide,Zo,Zb];congr 1;refine kv_inj ?_;rw [kv_cut,Int.toNat_natCast,pow_part hw (by omega),p1,part_div hM p2];have e5:kv c=kvl (v.l.take w)*256 ^ (16-w):=by unfold kv;rw [hput,Zg5,Zkc,List.length_replicate,Nat.add_zero]
    have e6:256 ^ (16-w)=256*256 ^ (15-w):=by rw [← Nat.pow_succ'];congr 1;omega
    have hx:=(v.l[w]).toNat_lt;rw [e5,e6,show 2 ^ (8-0)=256 from rfl,Nat.mul_comm _ 256,Nat.mul_add_div (by omega),Nat.div_eq_of_lt hx,Nat.add_zero]
   ·have hi:idx v.l (w:Int)=some v.l[w]:=ZB hl;have hci:w<c.l.length:=by rw [c.h];exact hw
    have hcnt:cnt (r:Int)=some r:=by unfold cnt;rw [if_pos (by omega),Int.toNat_natCast]
    rw [decide_eq_true (show (r:Int)>0 by omega),Zs,hi,Zb,hcnt,Zb,ZB hci,Zb,Zb,Zb];refine congrArg some (kv_inj ?_);rw [kv_cut,Int.toNat_natCast,Int.toNat_natCast,pow_part hw (by omega),p1,part_div hM p2,kv_setb c hw,byte_and' (by omega) hr,hput];have e7:(v.l.take w++List.replicate (16-w) 0).take w=v.l.take w:=by rw [List.take_append_of_le_length (by simp;omega),List.take_take,Nat.min_self]
    have e8:(v.l.take w++List.replicate (16-w) 0).drop (w+1)=List.replicate (15-w) 0:=by
     rw [List.drop_append,List.drop_of_length_le (by simp;omega),List.nil_append,List.length_take,Nat.min_eq_left (by omega),List.drop_replicate,show 16-w-(w+1-w)=15-w by omega]
    rw [e7,e8,Zkc (15-w),Nat.add_zero,← byte_div (kvl (v.l.take w)) v.l[w].toNat (show r≤8 by omega)];generalize (kvl (v.l.take w)*256+v.l[w].toNat)/2 ^ (8-r)=Z;exact Nat.mul_assoc ..
def PM (p:Prefix):Prop:=(p.Bits=32∨p.Bits=128)∧0≤p.Len∧p.Len≤p.Bits∧kv p.Key % 2 ^ (128-p.Len.toNat)=0
instance (p:Prefix):Decidable (PM p):=by unfold PM;exact inferInstance
theorem cut_same {v:Vec UInt8 16} {n:Int}:cutK v n=v↔kv v % 2 ^ (128-n.toNat)=0:=by
 constructor
 ·intro h;have:=congrArg kv h;rw [kv_cut] at this;have h2:=Nat.div_add_mod (kv v) (2 ^ (128-n.toNat));rw [Nat.mul_comm,this] at h2;omega
 ·intro h;refine kv_inj ?_;rw [kv_cut];exact Nat.div_mul_cancel (Nat.dvd_of_mod_eq_zero h)
theorem Zg6 (p:Prefix):ZgL p=some (decide (PM p)):=by
 unfold ZgL ZlR;rw [Zb]
 by_cases h:(p.Bits=32∨p.Bits=128)∧0≤p.Len∧p.Len≤p.Bits
 ·rw [Zf (by
   simp only [Bool.or_eq_false_iff,Bool.not_eq_false',Bool.or_eq_true,decide_eq_true_eq,decide_eq_false_iff_not];omega),key_Cut_eq,Zb]
  refine congrArg some ?_;rw [decide_eq_decide,cut_same];unfold PM;exact ⟨fun h2=>⟨h.1,h.2.1,h.2.2,h2⟩,fun h2=>h2.2.2.2⟩
 ·rw [Zi (by
   simp only [Bool.or_eq_true,Bool.not_eq_true',Bool.or_eq_false_iff,decide_eq_true_eq,decide_eq_false_iff_not];omega)]
  refine congrArg some ?_;rw [eq_comm,decide_eq_false_iff_not];exact fun h2=>h ⟨h2.1,h2.2.1,h2.2.2.1⟩
def PL (p q:Prefix):Prop:=PM p∧PM q∧(p.Bits<q.Bits∨p.Bits=q.Bits∧(kv p.Key<kv q.Key∨kv p.Key=kv q.Key∧p.Len<q.Len))
instance (p q:Prefix):Decidable (PL p q):=by unfold PL;exact inferInstance
theorem ZhA (p q:Prefix):Zgu p q=some (decide (PL p q)):=by
 unfold Zgu;rw [Zg6,Zb]
 by_cases h:PM p
 ·rw [decide_eq_true h,show (!(!true))=true from rfl,ZaL,Zg6,Zb]
  by_cases h2:PM q
  ·rw [decide_eq_true h2,show ((!true)||(!true))=false from rfl,Zo];have b1:=h.1;have b2:=h2.1
   by_cases h3:p.Bits=q.Bits
   ·rw [Zf (by simp [h3]),cut16,Zb,Zb,cmpK_eq,Zb];have c1:=@cmpK_ne p.Key q.Key;have c2:=@cmpK_lt p.Key q.Key
    by_cases h4:kv p.Key=kv q.Key
    ·rw [Zf (decide_eq_false (fun h=>c1.1 h h4))];refine congrArg some ?_;rw [decide_eq_decide];unfold PL;exact ⟨fun h5=>⟨h,h2,.inr ⟨h3,.inr ⟨h4,h5⟩⟩⟩,fun h5=>by obtain ⟨-,-,h5⟩:=h5;omega⟩
    ·rw [Zi (decide_eq_true (c1.2 h4))];refine congrArg some ?_;rw [decide_eq_decide,c2];unfold PL;exact ⟨fun h5=>⟨h,h2,.inr ⟨h3,.inl h5⟩⟩,fun h5=>by obtain ⟨-,-,h5⟩:=h5;omega⟩
   ·rw [Zi (by simp [h3])];refine congrArg some ?_;rw [decide_eq_decide];unfold PL;exact ⟨fun h5=>⟨h,h2,.inl (by omega)⟩,fun h5=>by obtain ⟨-,-,h5⟩:=h5;omega⟩
  ·rw [decide_eq_false h2,Zi (by simp)];refine congrArg some ?_;rw [eq_comm,decide_eq_false_iff_not];exact fun h5=>h2 h5.2.1
 ·rw [decide_eq_false h,show (!(!false))=false from rfl,Zbd,Zb,Zi (by simp)];refine congrArg some ?_;rw [eq_comm,decide_eq_false_iff_not];exact fun h5=>h h5.1
end Go.Proofs.YtkmojgfenlgchaaGreatDoor.Tr
namespace Go.Proofs.YtkmojgfenlgchaaGreatDoor.Tr
open Go
set_option maxRecDepth 100000
theorem prefix_ext {p q:Prefix} (h1:p.Bits=q.Bits) (h2:p.Len=q.Len) (h3:kv p.Key=kv q.Key):p=q:=by
 obtain ⟨a,b,c⟩:=p;obtain ⟨d,e,f⟩:=q;dsimp only at h1 h2 h3;rw [h1,h2,kv_inj h3]
theorem PL.tr {p q r:Prefix} (h:PL p q) (k:PL q r):PL p r:=by
 obtain ⟨h1,h2,h3⟩:=h;obtain ⟨k1,k2,k3⟩:=k;refine ⟨h1,k2,?_⟩;omega
theorem PL.ir {p:Prefix} (h:PL p p):False:=by
 obtain ⟨h1,h2,h3⟩:=h;omega
theorem PL.as {p q:Prefix} (h:PL p q) (k:PL q p):False:=(h.tr k).ir
theorem PL.ne {p q:Prefix} (h:PL p q):p≠q:=fun e=>by subst e;exact h.ir
theorem PL.tri {p q:Prefix} (h:PM p) (k:PM q):PL p q∨p=q∨PL q p:=by
 by_cases a:p.Bits=q.Bits
 ·by_cases b:kv p.Key=kv q.Key
  ·by_cases c:p.Len=q.Len
   ·exact .inr (.inl (prefix_ext a c b))
   ·by_cases d:p.Len<q.Len
    ·exact .inl ⟨h,k,.inr ⟨a,.inr ⟨b,d⟩⟩⟩
    ·exact .inr (.inr ⟨k,h,.inr ⟨a.symm,.inr ⟨b.symm,by omega⟩⟩⟩)
  ·by_cases d:kv p.Key<kv q.Key
   ·exact .inl ⟨h,k,.inr ⟨a,.inl d⟩⟩
   ·exact .inr (.inr ⟨k,h,.inr ⟨a.symm,.inl (by omega)⟩⟩)
 ·by_cases d:p.Bits<q.Bits
  ·exact .inl ⟨h,k,.inl d⟩
  ·exact .inr (.inr ⟨k,h,.inl (by omega)⟩)
structure TbR (t:List Route):Prop where
 len:t.length≤256
 may:∀ r∈t,PM r.Prefix
 srt:t.Pairwise fun a b=>PL a.Prefix b.Prefix
def rt0:Route:=Dat.z
def goodRt (t:List Route) (i:Nat):Bool:=decide (PM (t.getD i rt0).Prefix)&&(decide (i=0)||decide (PL (t.getD (i-1) rt0).Prefix (t.getD i rt0).Prefix))
def Zle (t:List Route):Bool:=decide (t.length≤256)&&(List.range t.length).all (goodRt t)
theorem gtD {α:Type} {l:List α} {k:Nat} {d:α} (h:k<l.length):l.getD k d=l[k]:=by
 rw [List.getD_eq_getElem?_getD,List.getElem?_eq_getElem h];rfl
theorem ZeA (t:List Route):ZaQ t=some (Zle t):=by
 unfold ZaQ Zle
 by_cases hl:t.length≤256
 ·rw [Zf (by simp;omega),Zg4 (f:=fun s=>Zdk t s) (List.range t.length) (goodRt t) (by simp;omega) (fun i hi=>?_) (by unfold Zdk;rw [List.length_range,Zjf,Zo]),decide_eq_true hl,Zb,Bool.true_and]
  ·cases (List.range t.length).all (goodRt t)
   ·rw [if_neg (by decide),Zbp]
   ·rw [if_pos rfl,Zaw]
  ·rw [List.length_range] at hi;rw [List.getElem_range];unfold Zdk goodRt;rw [ZeU hi,Zs,ZB hi,Zb,Zg6,Zb,gtD hi]
   by_cases hm:PM t[i].Prefix
   ·rw [decide_eq_true hm,Bool.not_true,Zo,Bool.true_and]
    by_cases h0:i=0
    ·subst h0;rw [show decide (((0:Nat):Int)>0)=false by decide,Zbd,Zb,Zbd,Zb,Zbd,Zb,Bool.false_and,Zo,ZR (by omega),Zb,decide_eq_true rfl,Bool.true_or,if_pos rfl]
    ·rw [show decide ((i:Int)>0)=true by simp;omega,ZaL,ZaO (by omega) (by omega),Zb,ZaL,show (i:Int)-1=((i-1:Nat):Int) by omega,ZB (show i-1<t.length by omega),Zb,ZaL,ZhA,Zb,gtD (show i-1<t.length by omega),decide_eq_false h0,Bool.false_or,Bool.true_and];cases decide (PL t[i-1].Prefix t[i].Prefix)
     ·rw [Bool.not_false,Zs,if_neg (by decide)]
     ·rw [Bool.not_true,Zo,ZR (by omega),Zb,if_pos rfl]
   ·rw [decide_eq_false hm,Bool.not_false,Zs,Bool.false_and,if_neg (by decide)]
 ·rw [Zi (by simp;omega),decide_eq_false hl,Bool.false_and]
theorem Zej {t:List Route}:Zle t=true↔TbR t:=by
 unfold Zle;rw [Bool.and_eq_true,decide_eq_true_eq,List.all_eq_true]
 constructor
 ·rintro ⟨h1,h2⟩;have hg:∀ i (hi:i<t.length),PM t[i].Prefix∧(i=0∨∃ h:i-1<t.length,PL t[i-1].Prefix t[i].Prefix):=fun i hi=>by
   have:=h2 i (List.mem_range.2 hi);unfold goodRt at this;rw [Bool.and_eq_true,Bool.or_eq_true,decide_eq_true_eq,decide_eq_true_eq,decide_eq_true_eq,gtD hi,gtD (show i-1<t.length by omega)] at this;exact ⟨this.1,this.2.imp id fun h=>⟨by omega,h⟩⟩
  refine ⟨h1,fun r hr=>?_,List.pairwise_iff_getElem.2 fun i j hi hj hij=>?_⟩
  ·obtain ⟨i,hi,rfl⟩:=List.getElem_of_mem hr;exact (hg i hi).1
  ·have key:∀ k,∀ j (hj:j<t.length),j=i+1+k→PL t[i].Prefix t[j].Prefix:=by
    intro k
    induction k with
    | zero=>
     intro j hj e;rcases (hg j hj).2 with h | ⟨h,g⟩
     ·omega
     ·have e2:j-1=i:=by omega
      simp only [e2] at g;exact g
    | succ k ih=>
     intro j hj e;have h:=ih (j-1) (by omega) (by omega);rcases (hg j hj).2 with h' | ⟨h',g⟩
     ·omega
     ·exact h.tr g
   exact key (j-i-1) j hj (by omega)
 ·intro h;refine ⟨h.len,fun i hi=>?_⟩;have hi:=List.mem_range.1 hi;unfold goodRt;rw [Bool.and_eq_true,Bool.or_eq_true,decide_eq_true_eq,decide_eq_true_eq,decide_eq_true_eq,gtD hi,gtD (show i-1<t.length by omega)];refine ⟨h.may _ (List.getElem_mem hi),?_⟩
  by_cases h0:i=0
  ·exact .inl h0
  ·exact .inr (List.pairwise_iff_getElem.1 h.srt (i-1) i (by omega) hi (by omega))
theorem TbR.right {t:List Route} (h:TbR t):ZaQ t=some true:=by rw [ZeA,Zej.2 h]
theorem TbR.nil:TbR []:=⟨by simp,fun r h=>absurd h (by simp),List.Pairwise.nil⟩
theorem TbR.sub {t u:List Route} (h:TbR t) (k:u.Sublist t):TbR u:=⟨Nat.le_trans k.length_le h.len,fun r hr=>h.may r (k.subset hr),h.srt.sublist k⟩
theorem TbR.ext:∀ {t u:List Route},TbR t→TbR u→(∀ r,r∈t↔r∈u)→t=u
 | [],[],_,_,_=>rfl
 | [],b::u,_,_,e=>absurd ((e b).2 (List.mem_cons_self ..)) (by simp)
 | a::t,[],_,_,e=>absurd ((e a).1 (List.mem_cons_self ..)) (by simp)
 | a::t,b::u,h,k,e=>by
  have h2:=List.pairwise_cons.1 h.srt;have k2:=List.pairwise_cons.1 k.srt;have hab:a=b:=by
   rcases List.mem_cons.1 ((e a).1 (List.mem_cons_self ..)) with h3 | h3
   ·exact h3
   ·rcases List.mem_cons.1 ((e b).2 (List.mem_cons_self ..)) with h4 | h4
    ·exact h4.symm
    ·exact ((h2.1 b h4).as (k2.1 a h3)).elim
  subst hab;refine congrArg (a :: ·) (TbR.ext (h.sub (List.sublist_cons_self ..)) (k.sub (List.sublist_cons_self ..)) fun r=>?_);have hr:=e r;rw [List.mem_cons,List.mem_cons] at hr
  constructor
  ·intro hx;rcases hr.1 (.inr hx) with rfl | h3
   ·exact ((h2.1 _ hx).ir).elim
   ·exact h3
  ·intro hx;rcases hr.2 (.inr hx) with rfl | h3
   ·exact ((k2.1 _ hx).ir).elim
   ·exact h3
def ZfN (t:List Route) (p:Prefix):Nat:=t.countP fun r=>decide (PL r.Prefix p)
theorem rank_le (t:List Route) (p:Prefix):ZfN t p≤t.length:=List.countP_le_length
theorem Zhu:∀ {t:List Route} (h:TbR t) {p:Prefix} {i:Nat} (hi:i<t.length),PL t[i].Prefix p↔i<ZfN t p
 | [],_,_,_,hi=>by cases hi
 | a::t,h,p,i,hi=>by
  have h2:=List.pairwise_cons.1 h.srt;have ht:=h.sub (List.sublist_cons_self a t);have e:ZfN (a::t) p=ZfN t p+if PL a.Prefix p then 1 else 0:=by
   unfold ZfN;rw [List.countP_cons]
   by_cases h3:PL a.Prefix p <;> simp [h3]
  by_cases h3:PL a.Prefix p
  ·rw [e,if_pos h3];cases i with
   | zero=>exact ⟨fun _=>by omega,fun _=>h3⟩
   | succ i=>rw [List.getElem_cons_succ,Zhu ht (by simpa using hi)];omega
  ·have h0:ZfN t p=0:=by
    unfold ZfN;rw [List.countP_eq_zero];intro b hb;simp only [decide_eq_true_eq];exact fun h4=>h3 ((h2.1 b hb).tr h4)
   rw [e,if_neg h3,h0]
   constructor
   ·intro h4;cases i with
    | zero=>exact absurd h4 h3
    | succ i=>
     rw [List.getElem_cons_succ] at h4;exact absurd ((h2.1 _ (List.getElem_mem (by simpa using hi))).tr h4) h3
   ·omega
theorem half_eq {i j:Nat} (h:i+j<9223372036854775808):ZiK (((shr64 (UInt64.ofInt ((i+j:Nat):Int)) ((UInt64.ofNat 1).toNat:Int)).toNat:Int))=some (((i+j)/2:Nat):Int):=by
 have e1:(UInt64.ofInt ((i+j:Nat):Int)).toNat=i+j:=by
  have e:(((i+j:Nat):Int) % (2:Int) ^ 64).toNat=i+j:=by omega
  unfold UInt64.ofInt;rw [e];exact UInt64.toNat_ofNat_of_lt' (by show _<18446744073709551616;omega)
 have e2:(shr64 (UInt64.ofInt ((i+j:Nat):Int)) ((UInt64.ofNat 1).toNat:Int)).toNat=(i+j)/2:=by
  unfold shr64;rw [e1,show (((UInt64.ofNat 1).toNat:Int)).toNat=1 from rfl,Nat.pow_one];exact UInt64.toNat_ofNat_of_lt' (by show _<18446744073709551616;omega)
 rw [e2,Zmo (by omega) (by omega)]
theorem tplace_eq {t:List Route} (h:TbR t) (p:Prefix):ZfG t p=some ((ZfN t p:Int),decide (∃ r∈t,r.Prefix=p)):=by
 have hl:=h.len;have hr:=rank_le t p;have hs:ZfK (t.length:Int) (⟨fun x0=>Zc4 x0 t p⟩:F1 Tryz.prog Int Bool)=some (ZfN t p:Int):=by
  unfold ZfK;refine Zgf (ZeH.b (P:=fun v=>v=(ZfN t p:Int)) (ZeH.loop (σ:=Int×Int) (fun s=>∃ i j:Nat,s.1=i∧s.2=j∧i≤ZfN t p∧ZfN t p≤j∧j≤t.length) (fun s=>(s.2-s.1).toNat) (fun s hs=>?_) ⟨0,t.length,rfl,rfl,by omega,hr,by omega⟩ (by show (((t.length:Int))-0).toNat<_;omega)) fun v hv=>by subst hv;exact ZeH.s rfl);obtain ⟨a,b⟩:=s;obtain ⟨i,j,rfl,rfl,h1,h2,h3⟩:=hs;dsimp only;unfold ZgF
  by_cases hij:i<j
  ·have hm:(i+j)/2<t.length:=by omega
   rw [ZeU hij,Zs,Zaa (by omega) (by omega),Zb,show (i:Int)+j=((i+j:Nat):Int) by omega,half_eq (by omega),Zb];show ZeH ((Zc4 _ t p).bind _) _;unfold Zc4;rw [ZB hm,Zb,ZhA,Zb,Zb];have hra:=Zhu h (p:=p) hm
   by_cases hp:PL t[(i+j)/2].Prefix p
   ·have:=hra.1 hp;rw [decide_eq_true hp,Bool.not_true,Bool.not_false,Zs,ZR (by omega),Zb];exact ZeH.l ⟨(i+j)/2+1,j,rfl,rfl,by omega,by omega,by omega⟩ (by show (_ - _:Int).toNat<(_ - _:Int).toNat;omega)
   ·have:=Nat.le_of_not_lt fun h=>hp (hra.2 h)
    rw [decide_eq_false hp,Bool.not_false,Bool.not_true,Zo];exact ZeH.l ⟨i,(i+j)/2,rfl,rfl,by omega,by omega,by omega⟩ (by show (_ - _:Int).toNat<(_ - _:Int).toNat;omega)
  ·rw [Zjx (by omega),Zo];exact Za5 (by omega)
 unfold ZfG;rw [hs,Zb]
 by_cases hlt:ZfN t p<t.length
 ·rw [ZeU hlt,ZaL,ZB hlt,Zb,Bool.true_and];refine congrArg (fun b=>some ((ZfN t p:Int),b)) ?_;rw [decide_eq_decide]
  constructor
  ·exact fun e=>⟨_,List.getElem_mem hlt,e⟩
  ·rintro ⟨r,hr2,e⟩;obtain ⟨i,hi,rfl⟩:=List.getElem_of_mem hr2;have hra:=Zhu h (p:=p) hi;rcases Nat.lt_trichotomy i (ZfN t p) with h1 | h1 | h1
   ·exact absurd e (hra.2 h1).ne
   ·simp only [← h1];exact e
   ·have h2:=List.pairwise_iff_getElem.1 h.srt (ZfN t p) i hlt hi h1;rw [e] at h2;have:=(Zhu h (p:=p) hlt).1 h2;omega
 ·rw [Zjx (by omega),Zbd,Zb,Bool.false_and];refine congrArg (fun b=>some ((ZfN t p:Int),b)) ?_;rw [eq_comm,decide_eq_false_iff_not];rintro ⟨r,hr2,e⟩;obtain ⟨i,hi,rfl⟩:=List.getElem_of_mem hr2;exact ((Zhu h (p:=p) hi).2 (by omega)).ne e
end Go.Proofs.YtkmojgfenlgchaaGreatDoor.Tr
namespace Go.Proofs.YtkmojgfenlgchaaGreatDoor.Tr
open Go
set_option maxRecDepth 100000
def Zkd (r:Route):UInt8:=if r.Prefix.Bits=128 then 1 else 0
def hopH (r:Route):UInt8:=(shr16 r.Hop ((UInt64.ofNat 8).toNat:Int)).toUInt8
def enc (r:Route):List UInt8:=[Zkd r,UInt8.ofInt r.Prefix.Len]++(r.Prefix.Key.l++[hopH r,r.Hop.toUInt8])
theorem ZjD (r:Route):(enc r).length=20:=by unfold enc;simp [r.Prefix.Key.h]
theorem tk (r:Route):r.Prefix.Key.l.length=16:=r.Prefix.Key.h
theorem laid_eq {b:List UInt8} (r:Route) (hb:b.length≤1000000):ZgZ b r=some (b++enc r):=by
 have hk:=tk r;unfold ZgZ;have h0:(bif (decide (r.Prefix.Bits=(128:Int))) then ((idx (Dat.z:(Vec UInt8 20)).l (0:Int)).bind fun x_5=>(some ((Vec.set (Dat.z:(Vec UInt8 20)) (Int.toNat (0:Int)) (UInt8.ofNat 1)):(Vec UInt8 20))).bind fun part_6=>some part_6) else (some (Dat.z:(Vec UInt8 20))))=some ((Dat.z:Vec UInt8 20).set 0 (Zkd r)):=by
  unfold Zkd
  by_cases h:r.Prefix.Bits=128
  ·rw [decide_eq_true h,Zs,if_pos h];rfl
  ·rw [decide_eq_false h,Zo,if_neg h];exact congrArg some (Vec.ext rfl)
 rw [h0,Zb];have i1:idx ((Dat.z:Vec UInt8 20).set 0 (Zkd r)).l (1:Int)=some 0:=rfl;rw [i1,Zb,Zb,show cut 20 (2:Int) (20:Int)=some () from rfl,Zb,cut16,Zb,Zb];have e2:(((Dat.z:Vec UInt8 20).set 0 (Zkd r)).set (Int.toNat (1:Int)) (UInt8.ofInt r.Prefix.Len)).l=[Zkd r,UInt8.ofInt r.Prefix.Len]++List.replicate 18 0:=rfl;generalize ((Dat.z:Vec UInt8 20).set 0 (Zkd r)).set (Int.toNat (1:Int)) (UInt8.ofInt r.Prefix.Len)=v2 at e2;have e3:(Vec.put v2 (Int.toNat (2:Int)) (over ((v2.l.drop (Int.toNat (2:Int))).take (((20:Int)-(2:Int)).toNat)) ((r.Prefix.Key.l.drop (Int.toNat 0)).take (((16:Int)-0).toNat)))).l=[Zkd r,UInt8.ofInt r.Prefix.Len]++(r.Prefix.Key.l++[0,0]):=by
  rw [all16];have hs:splice v2.l (Int.toNat 2) (over ((v2.l.drop (Int.toNat (2:Int))).take (((20:Int)-(2:Int)).toNat)) r.Prefix.Key.l)=[Zkd r,UInt8.ofInt r.Prefix.Len]++(r.Prefix.Key.l++[0,0]):=by
   rw [e2,ZjX (k:=Int.toNat 2) (m:=((20:Int)-(2:Int)).toNat) rfl (by simp) (by rw [hk];decide),hk,List.append_assoc];rfl
  unfold Vec.put;rw [dif_pos (by rw [hs];simp [hk])];exact hs
 generalize Vec.put v2 (Int.toNat (2:Int)) (over ((v2.l.drop (Int.toNat (2:Int))).take (((20:Int)-(2:Int)).toNat)) ((r.Prefix.Key.l.drop (Int.toNat 0)).take (((16:Int)-0).toNat)))=v3 at e3;have h3:v3.l.length=20:=v3.h;rw [show (18:Int)=((18:Nat):Int) from rfl,ZB (show 18<v3.l.length by omega),Zb,Zb];have e4:(v3.set (Int.toNat ((18:Nat):Int)) (hopH r)).l=[Zkd r,UInt8.ofInt r.Prefix.Len]++(r.Prefix.Key.l++[hopH r,0]):=by
  show v3.l.set 18 (hopH r)=_;rw [e3,List.set_append_right _ _ (by simp),List.set_append_right _ _ (by simp [hk])];simp [hk]
 have he:(shr16 r.Hop ((UInt64.ofNat 8).toNat:Int)).toUInt8=hopH r:=rfl;rw [he];generalize v3.set (Int.toNat ((18:Nat):Int)) (hopH r)=v4 at e4;have h4:v4.l.length=20:=v4.h;rw [show (19:Int)=((19:Nat):Int) from rfl,ZB (show 19<v4.l.length by omega),Zb,Zb];have e5:(v4.set (Int.toNat ((19:Nat):Int)) r.Hop.toUInt8).l=enc r:=by
  show v4.l.set 19 r.Hop.toUInt8=_;rw [e4,List.set_append_right _ _ (by simp),List.set_append_right _ _ (by simp [hk])];unfold enc;simp [hk]
 generalize v4.set (Int.toNat ((19:Nat):Int)) r.Hop.toUInt8=v5 at e5;have e6:((v5.l.drop (Int.toNat 0)).take (((20:Int)-0).toNat))=enc r:=by
  rw [e5];show ((enc r).drop 0).take 20=_;rw [List.drop_zero,List.take_of_length_le (by rw [ZjD];exact Nat.le_refl _)]
 rw [show cut 20 0 (20:Int)=some () from rfl,Zb,e6,ZjD,Zav (by omega) (by omega) (by omega),Zb,Zb]
theorem hop_eq (r:Route):(shl16 (hopH r).toUInt16 ((UInt64.ofNat 8).toNat:Int)) ||| (r.Hop.toUInt8).toUInt16=r.Hop:=by
 have hh:=r.Hop.toNat_lt;refine UInt16.toNat_inj.1 ?_;have e1:(hopH r).toNat=r.Hop.toNat/256:=by
  unfold hopH shr16;rw [show (((UInt64.ofNat 8).toNat:Int)).toNat=8 from rfl,UInt16.toNat_toUInt8,UInt16.toNat_ofNat_of_lt' (by show _<65536;omega)];omega
 have e2:(shl16 (hopH r).toUInt16 ((UInt64.ofNat 8).toNat:Int)).toNat=2 ^ 8*(r.Hop.toNat/256):=by
  unfold shl16;rw [show (((UInt64.ofNat 8).toNat:Int)).toNat=8 from rfl,UInt8.toNat_toUInt16,e1,UInt16.toNat_ofNat_of_lt' (by show _<65536;omega)];omega
 rw [UInt16.toNat_or,e2,UInt8.toNat_toUInt16,UInt16.toNat_toUInt8,← Nat.two_pow_add_eq_or_of_lt (by omega)];omega
def RtOK (r:Route):Prop:=(r.Prefix.Bits=32∨r.Prefix.Bits=128)∧0≤r.Prefix.Len∧r.Prefix.Len≤255
theorem PM.rt {r:Route} (h:PM r.Prefix):RtOK r:=by
 obtain ⟨h1,h2,h3,-⟩:=h;exact ⟨h1,h2,by omega⟩
theorem len_byte {z:Int} (h0:0≤z) (h:z≤255):(((UInt8.ofInt z).toNat:Nat):Int)=z:=by
 have:=ZgT h0 (show z<256 by omega);exact this
theorem over_all {a b:List UInt8} (ha:a.length=16) (hb:b.length=16):splice a (Int.toNat 0) (over a b)=b:=by
 have e:over a b=b:=by
  unfold over;rw [List.take_of_length_le (by omega),List.drop_of_length_le (by omega),List.append_nil]
 rw [e];show a.take 0++b++a.drop (0+b.length)=b;rw [List.take_zero,List.nil_append,List.drop_of_length_le (by omega),List.append_nil]
theorem route_eq {r:Route} (h:RtOK r):ZgY (enc r)=some (r,true):=by
 have hk:=tk r;obtain ⟨h1,h2,h3⟩:=h;have hl:=ZjD r;have i0:idx (enc r) (0:Int)=some (Zkd r):=rfl;have i1:idx (enc r) (1:Int)=some (UInt8.ofInt r.Prefix.Len):=rfl;have i18:idx (enc r) (18:Int)=some (hopH r):=by
  rw [show (18:Int)=((18:Nat):Int) from rfl,ZB (by omega)];unfold enc;rw [List.getElem_append_right (by simp),List.getElem_append_right (by simp [hk])];simp [hk]
 have i19:idx (enc r) (19:Int)=some r.Hop.toUInt8:=by
  rw [show (19:Int)=((19:Nat):Int) from rfl,ZB (by omega)];unfold enc;rw [List.getElem_append_right (by simp),List.getElem_append_right (by simp [hk])];simp [hk]
 have ek:((enc r).take (Int.toNat (18:Int))).drop (Int.toNat (2:Int))=r.Prefix.Key.l:=by
  show ((enc r).take 18).drop 2=_;unfold enc;rw [List.take_append,List.drop_append];simp [hk]
 unfold ZgY;rw [i0,Zb];have ho:(bif (decide (Zkd r=(UInt8.ofNat 0))) then ((some ((⟨(⟨(32:Int),((Dat.z:Route).Prefix).Len,((Dat.z:Route).Prefix).Key⟩:Prefix),(Dat.z:Route).Hop⟩:Route):Route)).bind fun r_6=>some (.inl r_6)) else (bif (decide (Zkd r=(UInt8.ofNat 1))) then ((some ((⟨(⟨(128:Int),((Dat.z:Route).Prefix).Len,((Dat.z:Route).Prefix).Key⟩:Prefix),(Dat.z:Route).Hop⟩:Route):Route)).bind fun r_7=>some (.inl r_7)) else ((some ((⟨Dat.z,0⟩:Route):Route)).bind fun k_8=>some (.inr (k_8,false)))))=(some (.inl (⟨(⟨r.Prefix.Bits,((Dat.z:Route).Prefix).Len,((Dat.z:Route).Prefix).Key⟩:Prefix),(Dat.z:Route).Hop⟩:Route)):Option (Route⊕(Route×Bool))):=by
  unfold Zkd;rcases h1 with h | h
  ·rw [if_neg (by omega),h];rfl
  ·rw [if_pos h,h];rfl
 rw [ho,Zb,Zaw,i1,Zb,Zb,cut16,Zb,Zdb (by omega) (by omega) (by omega),Zb,Zb,i18,Zb,i19,Zb,Zb,hop_eq,ek];have hput:∀ k:Vec UInt8 16,Vec.put k (Int.toNat 0) (over ((k.l.drop (Int.toNat 0)).take (((16:Int)-0).toNat)) r.Prefix.Key.l)=r.Prefix.Key:=fun k=>by
  have hkk:k.l.length=16:=k.h;have e:splice k.l (Int.toNat 0) (over ((k.l.drop (Int.toNat 0)).take (((16:Int)-0).toNat)) r.Prefix.Key.l)=r.Prefix.Key.l:=by
   rw [all16];exact over_all hkk hk
  unfold Vec.put;rw [dif_pos (by rw [e];exact hk)];exact Vec.ext e
 dsimp only;rw [hput,len_byte h2 h3]
end Go.Proofs.YtkmojgfenlgchaaGreatDoor.Tr
