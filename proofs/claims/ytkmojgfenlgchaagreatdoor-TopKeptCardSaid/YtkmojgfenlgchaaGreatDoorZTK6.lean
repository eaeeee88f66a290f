/- What the proof leans on. Conditions: none. -/
import Derived.Test.YtkmojgfenlgchaaGreatDoorZTK5
set_option linter.all false
set_option linter.unusedSimpArgs false
set_option linter.unusedVariables false
set_option linter.unusedSectionVars false
namespace Go.Proofs.YtkmojgfenlgchaaGreatDoor.Tr
open Go
theorem Zh5 {nB P S k:Nat} (hk:k<nB):blk (ZaC nB P S) k=ZfC P S:=by
 unfold blk ZaC;rw [Zdd (by simpa using hk),List.getElem_replicate]
theorem new_pg {nB P S k j:Nat} (hk:k<nB) (hj:j<P):pg (ZaC nB P S) k j=ZcI S:=by
 unfold pg pgb;rw [Zh5 hk];unfold ZfC;rw [Zdd (by simpa using hj),List.getElem_replicate];rfl
theorem new_ci {P nB S:Nat} (hg:Geo P nB S):CI P nB S (ZaC nB P S):=by
 have:=hg.p2;have:=hg.p8;have:=hg.b5;have:=hg.b11;have:=hg.s24;have:=hg.s256;refine ⟨new_right ?_,rfl,rfl,by simp [ZaC],fun k hk j _ hj=>new_pg hk hj,fun k hk=>by rw [Zh5 hk];exact Int.le_refl _,fun f hf=>by cases hf⟩;unfold ZhQ;simp;omega
theorem new_bad {P nB S:Nat}:Zan (ZaC nB P S)=0:=by
 unfold Zan;rw [List.countP_eq_zero];intro b hb;have:b=ZfC P S:=(List.mem_replicate.1 hb).2;rw [this];show ¬ (false=true);decide
theorem zeros_may {S n:Nat} (h1:24≤S) (h2:S≤256) (hn:(n:Int)≤Zfj S):RMay ⟨1,List.replicate n 0⟩ S:=
 ⟨⟨by omega,by omega⟩,by show (1:UInt64)<_;decide,by rw [List.length_replicate];exact hn,fun x hx=>by rw [(List.mem_replicate.1 hx).2];decide⟩
theorem mostV_le (s:Int):Zfj s≤64:=by unfold Zfj;omega
theorem format_get {P nB S n:Nat} (hg:Geo P nB S) (h1:1≤n) (hn:(n:Int)≤Zfj S) {z:Int} (hz:z=n) :
  Zgc (Zd1 (ZaC nB P S) z) (fun r=>r.2=0∧VI P nB S r.1.Chip r.1.At r.1.Gen r.1.Last (List.replicate n [])∧r.1.At.length=n∧NF r.1.Chip∧r.1.Chip.Ops≤10∧1≤Zba P nB r.1.Chip r.1.At):=by
 subst hz;have g2:=hg.p2;have g5:=hg.b5;have hc:=new_ci (S:=S) hg;have hm64:=mostV_le S;unfold Zd1;rw [bears_eq hc hg,Ze,ZkW,show ((!true)||decide ((n:Int)<1))=false by simp;omega,Bool.not_false,Zde,Ze,Bool.false_or,show (ZaC nB P S).Size=(S:Int) from rfl,Zh (by simpa using hn),show (ZaC nB P S).Off=false from rfl,Zw,own_eq hc,Ze,Ze]
 -- nothing is stale
 have hpgs:∀ b j,b<2→j<P→Zam (pg (ZaC nB P S) b j)=(Root0,6):=fun b j hb hj=>by rw [new_pg (by omega) hj,ZiM hg.s24 hg.s256]
 have hgr:∀ (w:flash_writer),w.Vol.Chip=ZaC nB P S→∀ b:Nat,b<2→∀ z:Int,z=b→Zac w z=some 0:=fun w hw b hb z hz=>by
  refine ZhK ((Zk2 (P:=P) (nB:=nB) (S:=S) (by rw [hw];exact hc) hg hz hb).m fun v ⟨v1,v2⟩=>?_);rcases v2 with h | ⟨j,j1,j2,j3⟩
  ·exact h
  ·rw [hw,hpgs b j hb j1] at j2;cases j2
 have hstale:∀ k:Nat,k<nB→Zcd ⟨⟨ZaC nB P S,[],0,0⟩,false⟩ (k:Int)=some false:=fun k hk=>by
  unfold Zcd;rw [show idx (ZaC nB P S).Blocks (k:Int)=some (ZfC P S) by rw [hc.idxB rfl hk,Zh5 hk],Ze]
  by_cases h2:k<2
  ·rw [Zh9 (hgr _ rfl k h2 _ rfl),Ze];have:decide ((k:Int)<2)=true:=by rw [decide_eq_true_iff];omega
   rw [this];rfl
  ·have:decide ((k:Int)<2)=false:=by rw [decide_eq_false_iff_not];omega
   rw [this,Bool.and_false,Zdt,Ze];rfl
 unfold Zc5;have hl1:ZR (fun s=>ZaX ⟨⟨ZaC nB P S,[],0,0⟩,false⟩ s.1 s.2) ((0:Int),(⟨⟨ZaC nB P S,[],0,0⟩,false⟩:flash_writer))=some (.inl ⟨⟨ZaC nB P S,[],0,0⟩,false⟩):=by
  have g11:=hg.b11;refine Zap (fun i=>((i:Int),(⟨⟨ZaC nB P S,[],0,0⟩,false⟩:flash_writer))) nB (by omega) (fun i hi=>?_) ?_ rfl
  ·unfold ZaX;dsimp only;rw [show decide ((i:Int)<((ZaC nB P S).Blocks.length:Int))=true by rw [hc.len];simpa using hi,Zx,hstale i hi,Ze,Bool.not_false,Zx,Ze,ZaV,Zao (by omega),Ze]
  ·unfold ZaX;dsimp only;rw [show decide ((nB:Int)<((ZaC nB P S).Blocks.length:Int))=false by rw [hc.len];simp,Zw]
 rw [Zbs hl1,ZaV]
 -- the root
 have hmay:=zeros_may hg.s24 hg.s256 hn;have hp:=Zl4 hmay;have hlen:=(ZiA (n:=S) hp rfl).1;have hrd:=ZjQ (n:=S) hmay;have hput:RPutV ⟨1,List.replicate n 0⟩ (S:Int)=(ZbK (ZbL (Zjo ⟨1,List.replicate n 0⟩) S),0):=by
  unfold RPutV PutV;rw [if_pos hmay,if_pos hp,Int.toNat_natCast]
 have hfirst:Zcj ⟨⟨ZaC nB P S,[],0,0⟩,false⟩ 0=some 1:=by
  unfold Zcj;rw [Za6 (by omega) (by omega),Ze,hgr _ rfl 1 (by omega) _ (by rfl),Ze];rfl
 have hstep:Zgc (ZaW (n:Int) 0 ⟨⟨ZaC nB P S,[],0,0⟩,false⟩) (fun x=>∃ c',x=.inr (.inr ((0:Int),⟨⟨c',List.replicate n 0,1,0⟩,false⟩))∧ProgF P nB S (ZaC nB P S) c' 0 (ZbK (ZbL (Zjo ⟨1,List.replicate n 0⟩) S)) 0):=by
  unfold ZaW;rw [Zl (by decide),hfirst,Ze,Zbf (by omega) (by omega) (by omega),Ze,Ze,show (⟨⟨ZaC nB P S,[],0,0⟩,false⟩:flash_writer).Vol.Chip.Size=(S:Int) from rfl,Zl3,Int.toNat_natCast,show (Dat.z:Int)=0 from rfl,hput,Ze,
   show decide ((ZbK (ZbL (Zjo ⟨1,List.replicate n 0⟩) S),(0:Int)).2≠0)=false from rfl,Bool.not_false,Zde,ZkD (k:=0) (z:=0) (P:=P) (nB:=nB) (S:=S) rfl hc (by omega),Ze,Bool.false_or]
  have hf:freeV P (blk (ZaC nB P S) 0)=P:=by
   rw [Zh5 (by omega)];show (if false=true then (0:Int) else P-0)=P;simp
  rw [show (⟨⟨ZaC nB P S,[],0,0⟩,false⟩:flash_writer).Vol.Chip=ZaC nB P S from rfl,hf,Zh (by simp;omega)];refine Zgc.b (P:=fun o=>∃ c',o=.inr ((0:Int),⟨⟨c',List.replicate n 0,1,0⟩,false⟩)∧ProgF P nB S (ZaC nB P S) c' 0 (ZbK (ZbL (Zjo ⟨1,List.replicate n 0⟩) S)) 0)
   (Zgc.b (Zh2 (w:=⟨⟨ZaC nB P S,[],0,0⟩,false⟩) (k:=0) (z:=0) rfl hc rfl (by omega) (by rw [Zh5 (by omega)];rfl) (by rw [Zh5 (by omega)];show (0:Int)<P;omega) hlen (by show (0:Int)<ZcY;decide)) fun r ⟨c',e,hr,g⟩=>?_) fun o ho=>?_
  ·subst hr;have e0:e=0:=g.nf rfl;subst e0;rw [Zl (by simp),Ze];exact Zgc.s ⟨c',rfl,g⟩
  ·obtain ⟨c',rfl,g⟩:=ho;rw [ZbI];exact Zgc.s ⟨c',rfl,g⟩
 obtain ⟨x,hx,c',rfl,g⟩:=hstep;have hl2:ZR (fun s=>ZaW (n:Int) s.1 s.2) ((0:Int),(⟨⟨ZaC nB P S,[],0,0⟩,false⟩:flash_writer))=some (.inr ((0:Int),⟨⟨c',List.replicate n 0,1,0⟩,false⟩)):=Zhq 1 (by omega) (ZeF hx);rw [Zbs hl2,ZbI,Ze,Zh (by simp)];obtain ⟨q,_,hq1,hq2⟩:=g.pgn;have hu0:(blk (ZaC nB P S) 0).Used=0:=by rw [Zh5 (by omega)];rfl
 rw [hu0] at hq2;have hq2:pg c' 0 0=ZbK (ZbL (Zjo ⟨1,List.replicate n 0⟩) S):=hq2.trans (hq1 rfl);have gops:=g.ops;have gm:=g.many;rw [new_bad] at gm;have hoth:∀ b j,b<2→j<P→¬ (b=0∧j=0)→pg c' b j=pg (ZaC nB P S) b j:=fun b j hb hj hn=>by
  by_cases e:b=0
  ·subst e;exact g.pgo j (by rw [hu0];omega)
  ·exact Zl6 (g.oth b e)
 refine Zgc.s ⟨rfl,⟨g.ci,by rw [g.off];rfl,⟨0,0,rfl,by omega,by omega,by rw [hq2];exact hrd,fun b j hb hj h0=>?_⟩,⟨by simp,fun id hid=>.inl ⟨?_,?_⟩⟩,by rw [gops];show ((1:UInt64).toNat:Int)≤0+1;decide⟩,by simp,⟨g.flt,gm⟩,by rw [gops];show (0:Int)+1≤10;decide,?_⟩
 ·by_cases e:b=0∧j=0
  ·obtain ⟨rfl,rfl⟩:=e;rw [hq2,hrd];exact ⟨Nat.le_refl _,fun _=>Nat.le_refl _⟩
  ·rw [hoth b j hb hj e,hpgs b j hb hj] at h0;cases h0
 ·have hid:id<(List.replicate n (0:Int)).length:=hid;rw [Zdd hid,List.getElem_replicate]
 ·have hid:id<(List.replicate n (0:Int)).length:=hid;rw [Zdd (by simpa using hid),List.getElem_replicate]
 ·refine Zmi (k:=2) (by omega) (by omega) (by rw [g.oth 2 (by omega),Zh5 (by omega)];rfl) (Zds.2 fun j hj hx=>?_);have:=(List.mem_replicate.1 hx).2;have:=ZdS (P:=P) (k:=2) (j:=j);omega
end Go.Proofs.YtkmojgfenlgchaaGreatDoor.Tr
namespace Go.Proofs.YtkmojgfenlgchaaGreatDoor.Tr
open Go
def KW (l:List Item):Prop:=l.length≤100∧∀ x∈l,x.Body.length≤140737488351232
theorem clone_b {b:List UInt8} (h:b.length≤140737488351232):Zcs b=some b:=by
 unfold Zcs;rw [Zbf (by omega) (by simp;omega) (by simp;omega),Ze]
theorem Zmo {k:Kept} (h:KW k.Items):Zdl k=some k:=by
 obtain ⟨h1,h2⟩:=h;unfold Zdl Zb9;rw [Zbf (by omega) (by simp;omega) (by simp;omega),Ze,Ze];obtain ⟨e,he,hQ⟩:=Zfc (f:=fun s=>Zdk k.Items s.1 s.2) (I:=fun s=>∃ i:Nat,s.1=i∧i≤k.Items.length∧s.2=k.Items) (μ:=fun s=>(k.Items.length-s.1).toNat) (R:=fun e=>e=k.Items) (by
  rintro ⟨x,v⟩ ⟨i,hx,hil,hv⟩;obtain rfl:x=i:=hx;obtain rfl:v=k.Items:=hv;unfold Zdk
  by_cases hx:i<k.Items.length
  ·have hd:decide ((i:Int)<(k.Items.length:Int))=true:=by simpa using hx
   rw [hd,Zx,ZQ hx,Ze,clone_b (h2 _ (List.getElem_mem hx)),Ze,Ze,Ze,ZcT (show i<9223372036854775807 by omega),Ze,Int.toNat_natCast]
   left
   refine ⟨_,rfl,⟨i+1,rfl,by omega,?_⟩,by simp only;omega⟩;exact List.set_getElem_self hx
  ·have hd:decide ((i:Int)<(k.Items.length:Int))=false:=by simp;omega
   rw [hd,Zw];exact .inr ⟨_,rfl,rfl⟩) (s:=((0:Int),k.Items)) ⟨0,rfl,by omega,rfl⟩ (by simp only;omega)
 rw [he,Ze,Ze,hQ]
def Plc (l:List Item) (id:Int) (r:Int):Prop:=(∃ i:Nat,r=i∧∃ h:i<l.length,l[i].Id=id∧∀ j,(hj:j<l.length)→j<i→l[j].Id≠id)∨(r=-1∧∀ j,(hj:j<l.length)→l[j].Id≠id)
theorem Zlz (l:List Item) (id:Int) (hl:l.length≤100):∃ r,Zdj l id=some r∧Plc l id r:=by
 unfold Zdj Zbj;obtain ⟨e,he,hQ⟩:=Zfc (f:=fun s=>Zay l ⟨fun x0=>ZcR x0 id⟩ s) (I:=fun s=>∃ i:Nat,s=i∧i≤l.length∧∀ j,(hj:j<l.length)→j<i→l[j].Id≠id) (μ:=fun s=>(l.length-s).toNat)
  (R:=fun e=>(e=.inl ()∧∀ j,(hj:j<l.length)→l[j].Id≠id)∨∃ i:Nat,e=.inr (i:Int)∧∃ h:i<l.length,l[i].Id=id∧∀ j,(hj:j<l.length)→j<i→l[j].Id≠id) (by
  rintro x ⟨i,rfl,hil,hI⟩;unfold Zay
  by_cases hx:i<l.length
  ·have hd:decide ((i:Int)<(l.length:Int))=true:=by simpa using hx
   rw [hd,Zx,ZQ hx,Ze];show (∃ s',((ZcR l[i] id).bind _)=_∧_)∨∃ e,((ZcR l[i] id).bind _)=_∧_;unfold ZcR;simp only [Ze,ZcT (show i<9223372036854775807 by omega)]
   by_cases h:l[i].Id=id
   ·right
    refine ⟨_,by rw [show decide (l[i].Id=id)=true by simpa using h,Zx],.inr ⟨i,rfl,hx,h,hI⟩⟩
   ·left
    refine ⟨_,by rw [show decide (l[i].Id=id)=false by simpa using h,Zw],⟨i+1,rfl,by omega,fun j hj hji=>?_⟩,by omega⟩
    by_cases e:j=i
    ·subst e;exact h
    ·exact hI j hj (by omega)
  ·have hd:decide ((i:Int)<(l.length:Int))=false:=by simp;omega
   rw [hd,Zw];exact .inr ⟨_,rfl,.inl ⟨rfl,fun j hj=>hI j hj (by omega)⟩⟩) (s:=(0:Int)) ⟨0,rfl,by omega,fun j _ hj=>by omega⟩ (by omega)
 rw [he,Ze];rcases hQ with ⟨rfl,hQ⟩ | ⟨i,rfl,hQ⟩
 ·rw [ZaV,Ze];exact ⟨_,rfl,.inr ⟨rfl,hQ⟩⟩
 ·rw [ZbI,Ze];exact ⟨_,rfl,.inl ⟨i,rfl,hQ⟩⟩
def KOk (l:List Item):Prop:=∀ i,(hi:i<l.length)→0≤l[i].Id∧∀ j,(hj:j<l.length)→j<i→l[j].Id≠l[i].Id
def KR (k:Kept):Prop:=(1≤k.Most∧k.Most≤64∧(k.Items.length:Int)≤k.Most)∧KOk k.Items
noncomputable instance (k:Kept):Decidable (KR k):=Classical.propDecidable _
theorem right_loop {f:Int→Option (Int⊕(Unit⊕Bool))} {l:List Item} (hl:l.length≤100)
  (h:∀ i:Nat,(hi:i<l.length)→(∀ j,(hj:j<l.length)→j<i→0≤l[j].Id∧∀ q,(hq:q<l.length)→q<j→l[q].Id≠l[j].Id)→
   ((0≤l[i].Id∧∀ j,(hj:j<l.length)→j<i→l[j].Id≠l[i].Id)∧f i=some (.inl ((i+1:Nat):Int)))∨(¬ (0≤l[i].Id∧∀ j,(hj:j<l.length)→j<i→l[j].Id≠l[i].Id)∧f i=some (.inr (.inr false))))
  (hend:f (l.length:Int)=some (.inr (.inl ()))):∃ e,ZR f (0:Int)=some e∧((e=.inl ()∧KOk l)∨(e=.inr false∧¬ KOk l)):=by
 refine Zfc (f:=f) (I:=fun s=>∃ i:Nat,s=i∧i≤l.length∧∀ j,(hj:j<l.length)→j<i→0≤l[j].Id∧∀ q,(hq:q<l.length)→q<j→l[q].Id≠l[j].Id) (μ:=fun s=>(l.length-s).toNat)
  (R:=fun e=>(e=.inl ()∧KOk l)∨(e=.inr false∧¬ KOk l)) ?_ ⟨0,rfl,by omega,fun j _ hj=>by omega⟩ (by omega)
 rintro x ⟨i,rfl,hil,hI⟩
 by_cases hx:i<l.length
 ·rcases h i hx hI with ⟨h1,h2⟩ | ⟨h1,h2⟩
  ·left
   refine ⟨_,h2,⟨i+1,rfl,by omega,fun j hj hji=>?_⟩,by omega⟩
   by_cases e:j=i
   ·subst e;exact h1
   ·exact hI j hj (by omega)
  ·exact .inr ⟨_,h2,.inr ⟨rfl,fun h=>h1 (h i hx)⟩⟩
 ·obtain rfl:i=l.length:=by omega
  exact .inr ⟨_,hend,.inl ⟨rfl,fun j hj=>hI j hj hj⟩⟩
theorem Zly (k:Kept):Zdm k=some (decide (KR k)):=by
 unfold Zdm
 by_cases h:1≤k.Most∧k.Most≤64∧(k.Items.length:Int)≤k.Most
 ·rw [show (((decide (k.Most<(1:Int)))||(decide (k.Most>(64:Int))))||(decide ((k.Items.length:Int)>k.Most)))=false by simp;omega,Zw];obtain ⟨e,he,hQ⟩:=right_loop (f:=fun s=>ZcZ k s) (l:=k.Items) (by omega) (fun i hi hI=>by
   unfold ZcZ;rw [show decide ((i:Int)<(k.Items.length:Int))=true by simpa using hi,Zx,ZQ hi,Ze,ZcT (by omega),Ze];obtain ⟨r,h1,h2⟩:=Zlz k.Items k.Items[i].Id (by omega);rw [h1]
   by_cases hn:k.Items[i].Id<0
   ·right
    refine ⟨fun x=>by omega,?_⟩;rw [show decide (k.Items[i].Id<0)=true by simpa using hn,Bool.not_true,Zdt,Ze,Bool.true_or,Zx]
   ·rw [show decide (k.Items[i].Id<0)=false by simpa using hn,Bool.not_false,Zde,Ze,Bool.false_or];rcases h2 with ⟨q,rfl,hq,hq1,hq2⟩ | ⟨rfl,hq⟩
    ·by_cases e:q=i
     ·subst e
      left
      refine ⟨⟨by omega,fun j hj hji=>hq2 j hj hji⟩,?_⟩;rw [show decide ((q:Int)≠(q:Int))=false by simp,Zw]
     ·right
      have hqi:q<i:=by
       rcases Nat.lt_or_ge q i with h5 | h5
       ·exact h5
       ·exact absurd rfl (hq2 i hi (by omega))
      refine ⟨fun x=>x.2 q hq hqi hq1,?_⟩;rw [show decide ((q:Int)≠(i:Int))=true by simp;omega,Zx]
    ·exact absurd rfl (hq i hi)) (by unfold ZcZ;simp)
  rw [he,Ze];rcases hQ with ⟨rfl,hQ⟩ | ⟨rfl,hQ⟩
  ·rw [ZaV,decide_eq_true (show KR k from ⟨h,hQ⟩)]
  ·rw [ZbI,decide_eq_false (fun x:KR k=>hQ x.2)]
 ·rw [show (((decide (k.Most<(1:Int)))||(decide (k.Most>(64:Int))))||(decide ((k.Items.length:Int)>k.Most)))=true by simp;omega,Zx,decide_eq_false (fun x:KR k=>h x.1)]
def Zb3 (l:List Item) (id:Int):List Item:=l.filter fun x=>decide (x.Id≠id)
theorem ZkU {l:List Item} {id:Int} (h:∀ j,(hj:j<l.length)→l[j].Id≠id):Zb3 l id=l:=by
 unfold Zb3;rw [List.filter_eq_self];intro x hx;obtain ⟨j,hj,rfl⟩:=List.getElem_of_mem hx;simpa using h j hj
theorem Zhv {l:List Item} {id:Int} {i:Nat} (hi:i<l.length) (hid:l[i].Id=id) (hk:KOk l):l.take i++l.drop (i+1)=Zb3 l id:=by
 have e:l=l.take i++l[i]::l.drop (i+1):=by rw [← List.drop_eq_getElem_cons hi,List.take_append_drop]
 have h1:(l.take i).filter (fun x=>decide (x.Id≠id))=l.take i:=by
  rw [List.filter_eq_self];intro x hx;obtain ⟨j,hj,rfl⟩:=List.getElem_of_mem hx;rw [List.length_take] at hj;have:=(hk i hi).2 j (by omega) (by omega);simp only [List.getElem_take,decide_eq_true_eq]
  rwa [hid] at this
 have h2:(l.drop (i+1)).filter (fun x=>decide (x.Id≠id))=l.drop (i+1):=by
  rw [List.filter_eq_self];intro x hx;obtain ⟨j,hj,rfl⟩:=List.getElem_of_mem hx;rw [List.length_drop] at hj;have:=(hk (i+1+j) (by omega)).2 i hi (by omega);simp only [List.getElem_drop,decide_eq_true_eq];rw [hid] at this;exact fun h=>this h.symm
 unfold Zb3
 conv=>rhs;rw [e]
 rw [List.filter_append,List.filter_cons,h1,h2];simp [hid]
theorem Zj5 {l:List Item} {i:Nat} (hi:i<l.length):ZS l (i:Int) ((i+1:Nat):Int)=some (l.take i++l.drop (i+1)):=by
 unfold ZS;rw [ZhO (by omega) (by omega) (by omega),Ze,Int.toNat_natCast,Int.toNat_natCast]
def LookR (k:Kept) (id:Int) (r:Kept×(List UInt8)×Bool):Prop:=
 (∃ i,∃ h:i<k.Items.length,k.Items[i].Id=id∧r=(⟨k.Most,Zb3 k.Items id++[k.Items[i]]⟩,k.Items[i].Body,true))∨((∀ j,(hj:j<k.Items.length)→k.Items[j].Id≠id)∧r=(k,[],false))
theorem look_right {k:Kept} (h:KR k) (hw:KW k.Items) (id:Int):∃ r,Zg1 k id=some r∧LookR k id r:=by
 unfold Zg1;have hl:=h.1;obtain ⟨p,h1,h2⟩:=Zlz k.Items id hw.1;rw [Zly,Ze,Zmo hw,Ze,Ze,h1,Ze,decide_eq_true h,Bool.not_true,Bool.false_or];rcases h2 with ⟨i,rfl,hi,h3,h4⟩ | ⟨rfl,h3⟩
 ·have hlen:(k.Items.take i++k.Items.drop (i+1)).length=k.Items.length-1:=by simp;omega
  rw [show decide ((i:Int)<0)=false by simp <;> omega,Zw,ZQ hi,Ze,ZcT (by omega),Ze,Zj5 hi,Ze,Zbf (by omega) (by simp only [hlen,List.length_singleton];omega) (by simp only [hlen,List.length_singleton];omega),Ze,Ze,clone_b (hw.2 _ (List.getElem_mem hi)),Ze,Zhv hi h3 h.2];exact ⟨_,rfl,.inl ⟨i,hi,h3,rfl⟩⟩
 ·rw [show decide ((-1:Int)<0)=true by decide,Zx,Ze];exact ⟨_,rfl,.inr ⟨h3,rfl⟩⟩
theorem ZlP {l:List Item} {id:Int}:(Zb3 l id).length≤l.length:=List.length_filter_le ..
def keepS (k:Kept) (x:Item):Kept:=⟨k.Most,(if ((Zb3 k.Items x.Id).length:Int)=k.Most then (Zb3 k.Items x.Id).drop 1 else Zb3 k.Items x.Id)++[x]⟩
theorem keep_right {k:Kept} {x:Item} (hw:KW k.Items) (hb:x.Body.length≤140737488351232) (h:KR k) (hx:0≤x.Id):Zg2 k x=some (keepS k x,0):=by
 unfold Zg2;have hl:=h.1;obtain ⟨p,h1,h2⟩:=Zlz k.Items x.Id hw.1;rw [Zly,Ze,Zmo hw,Ze,Ze,decide_eq_true h,Bool.not_true,Bool.false_or,show decide (x.Id<0)=false by simpa using hx,Zw,h1,Ze];have key:∃ l,(bif decide (p≥0) then ((ZaA p (1:Int)).bind fun x_13=>(ZS k.Items p x_13).bind fun x_14=>some x_14) else (bif (decide ((k.Items.length:Int)=k.Most)) then ((ZS k.Items (0:Int) (1:Int)).bind fun x_16=>some x_16) else (some k.Items)))=some l∧l.length≤64∧
   l=(if ((Zb3 k.Items x.Id).length:Int)=k.Most then (Zb3 k.Items x.Id).drop 1 else Zb3 k.Items x.Id):=by
  rcases h2 with ⟨i,rfl,hi,h3,h4⟩ | ⟨rfl,h3⟩
  ·have hlen:(k.Items.take i++k.Items.drop (i+1)).length=k.Items.length-1:=by simp;omega
   refine ⟨_,by rw [show decide ((i:Int)≥0)=true by simp,Zx,ZcT (by omega),Ze,Zj5 hi,Ze],by omega,?_⟩;rw [Zhv hi h3 h.2] at hlen ⊢;rw [if_neg (by omega)]
  ·rw [ZkU h3,show decide ((-1:Int)≥0)=false by decide,Zw]
   by_cases hm:(k.Items.length:Int)=k.Most
   ·have hpos:0<k.Items.length:=by omega
    have hdel:=Zj5 (l:=k.Items) (i:=0) hpos;refine ⟨_,by rw [decide_eq_true hm,Zx];exact congrArg (fun z:Option (List Item)=>z.bind fun y=>some y) hdel,by simp;omega,?_⟩;rw [if_pos hm];simp
   ·refine ⟨_,by rw [decide_eq_false hm,Zw],by omega,?_⟩;rw [if_neg hm]
 obtain ⟨l,e1,e2,e3⟩:=key;rw [e1,Ze,clone_b hb,Ze,Zbf (by omega) (by simp only [List.length_singleton];omega) (by simp only [List.length_singleton];omega),Ze,Ze,Ze,e3];rfl
theorem forget_eq {k:Kept} (hw:KW k.Items) (id:Int) (hl:KR k→k.Items.length≤64):(KR k→Zd3 k id=some ⟨k.Most,Zb3 k.Items id⟩)∧(¬ KR k→Zd3 k id=some k):=by
 unfold Zd3;obtain ⟨p,h1,h2⟩:=Zlz k.Items id hw.1;rw [Zly,Ze,Zmo hw,Ze,Ze,h1,Ze]
 constructor
 ·intro h;rw [decide_eq_true h,Bool.true_and];rcases h2 with ⟨i,rfl,hi,h3,h4⟩ | ⟨rfl,h3⟩
  ·have:=hl h;rw [show decide ((i:Int)≥0)=true by simp,Zx,ZcT (by omega),Ze,Zj5 hi,Ze,Ze,Ze,Zhv hi h3 h.2]
  ·rw [show decide ((-1:Int)≥0)=false by decide,Zw,Ze,Ze,ZkU h3]
 ·intro h;rw [decide_eq_false h,Bool.false_and,Zw,Ze,Ze]
theorem cnew_eq (m:Int):Zij m=some (if 1≤m∧m≤64 then (⟨m,[]⟩,0) else (⟨0,[]⟩,1)):=by
 unfold Zij
 by_cases h:1≤m∧m≤64
 ·rw [show (decide (m<1)||decide (m>64))=false by simp;omega,Zw,Ze,if_pos h]
 ·rw [show (decide (m<1)||decide (m>64))=true by simp;omega,Zx,Ze,if_neg h]
theorem Zhs {l:List Item}:KOk l↔(∀ x∈l,0≤x.Id)∧(l.map (·.Id)).Nodup:=by
 unfold List.Nodup;rw [List.pairwise_iff_getElem]
 constructor
 ·intro h;refine ⟨fun x hx=>?_,fun i j hi hj hij=>?_⟩
  ·obtain ⟨i,hi,rfl⟩:=List.getElem_of_mem hx;exact (h i hi).1
  ·simp only [List.length_map] at hi hj;simp only [List.getElem_map];exact (h j hj).2 i hi hij
 ·rintro ⟨h1,h2⟩ i hi;refine ⟨h1 _ (List.getElem_mem hi),fun j hj hji=>?_⟩;have:=h2 j i (by simpa using hj) (by simpa using hi) hji;simpa using this
def kid (m:Nat) (a:List Int) (i:Int):List Int:=(if (a.filter fun x=>decide (x≠i)).length=m then (a.filter fun x=>decide (x≠i)).drop 1 else a.filter fun x=>decide (x≠i))++[i]
theorem Zja {l:List Item} {id:Int}:(Zb3 l id).map (·.Id)=(l.map (·.Id)).filter fun x=>decide (x≠id):=by
 unfold Zb3;rw [List.filter_map];rfl
theorem keep_ids {k:Kept} {x:Item} {m:Nat} (hm:k.Most=m):(keepS k x).Items.map (·.Id)=kid m (k.Items.map (·.Id)) x.Id:=by
 unfold keepS kid;rw [← Zja,List.length_map]
 by_cases h:((Zb3 k.Items x.Id).length:Int)=k.Most
 ·rw [if_pos h,if_pos (by omega)];simp
 ·rw [if_neg h,if_neg (by omega)];simp
theorem keep_mem {k:Kept} {x y:Item} (h:y∈(keepS k x).Items):y∈k.Items∨y=x:=by
 unfold keepS at h;simp only [List.mem_append,List.mem_singleton] at h;rcases h with h | h
 ·left
  have:y∈Zb3 k.Items x.Id:=by
   split at h
   ·exact List.mem_of_mem_drop h
   ·exact h
  exact (List.mem_filter.1 this).1
 ·exact .inr h
theorem keep_KR {k:Kept} {x:Item} (h:KR k) (hx:0≤x.Id):KR (keepS k x):=by
 obtain ⟨⟨h1,h2,h3⟩,h4⟩:=h;obtain ⟨h5,h6⟩:=Zhs.1 h4;have hw:=ZlP (l:=k.Items) (id:=x.Id);refine ⟨⟨h1,h2,?_⟩,Zhs.2 ⟨fun y hy=>?_,?_⟩⟩
 ·show ((keepS k x).Items.length:Int)≤k.Most;unfold keepS
  split <;> simp <;> omega
 ·rcases keep_mem hy with hy | rfl
  ·exact h5 y hy
  ·exact hx
 ·rw [keep_ids (m:=k.Most.toNat) (by omega)];unfold kid;have hf:((k.Items.map (·.Id)).filter fun y=>decide (y≠x.Id)).Nodup:=h6.sublist List.filter_sublist;have hni:x.Id∉(k.Items.map (·.Id)).filter fun y=>decide (y≠x.Id):=by simp
  refine List.nodup_append.2 ⟨?_,by simp,fun a ha b hb=>?_⟩
  ·split
   ·exact hf.sublist (List.drop_sublist _ _)
   ·exact hf
  ·obtain rfl:b=x.Id:=by simpa using hb
   intro e;subst e;refine hni ?_
   split at ha
   ·exact List.mem_of_mem_drop ha
   ·exact ha
end Go.Proofs.YtkmojgfenlgchaaGreatDoor.Tr
namespace Go.Proofs.YtkmojgfenlgchaaGreatDoor.Tr
open Go Go.RowKit
set_option maxRecDepth 100000
set_option synthInstance.maxHeartbeats 400000
set_option synthInstance.maxSize 4096
def ZbZ (l0:(List UInt16)) (x_6:Int) (i_14:Int) (v_15:Vol) (k_16:Kept):Option ((Int×Vol×Kept)⊕(Kept⊕Bool)):=
 bif (decide (i_14<(l0.length:Int))) then (((idx l0 i_14).bind fun x_21=>(remI ((x_21/(UInt16.ofNat 4)).toNat:Int) (min x_6 (8:Int))).bind fun x_22=>(idx l0 i_14).bind fun x_23=>bif (decide ((x_23 % (UInt16.ofNat 4))=(UInt16.ofNat 0))) then ((idx l0 i_14).bind fun x_24=>(ZeK v_15 ([(⟨x_22,([(UInt8.ofInt i_14),(x_24.toUInt8)]:List UInt8)⟩:Item)]:List Item)).bind fun r_25=>bif (decide (r_25.2≠(0:Int))) then (some (.inr false)) else ((Zd3 k_16 x_22).bind fun x_29=>some (.inl (r_25.1,x_29)))) else ((ZgX v_15 x_22).bind fun r_30=>(Zg1 k_16 x_22).bind fun r_31=>bif (r_31.2.2&&((decide (r_30.2≠(0:Int)))||(decide (r_31.2.1≠r_30.1)))) then (some (.inr false)) else ((bif ((!r_31.2.2)&&(decide (r_30.2=(0:Int)))) then ((Zg2 k_16 (⟨x_22,r_30.1⟩:Item)).bind fun r_37=>some r_37.1) else (some r_31.1)).bind fun m_35=>some (.inl (v_15,m_35))))).bind fun o_20=>elS o_20 (fun s=>el2 s (fun v_18 k_19=>(ZaA i_14 1).bind fun x_38=>some (.inl (x_38,v_18,k_19)))) (fun q=>some (.inr (.inr q)))) else (some (.inr (.inl k_16)))
def ZdM (blocks0:UInt8) (pages0:UInt8) (most0:UInt8) (l0:(List UInt16)):Option Bool:=
 (Ze3).bind fun x_1=>bif (!x_1) then (some false) else (bif (decide ((l0.length:Int)>(60:Int))) then (some true) else ((ZaA ((blocks0 % (UInt8.ofNat 7)).toNat:Int) (5:Int)).bind fun x_2=>(ZaA ((pages0 % (UInt8.ofNat 7)).toNat:Int) (2:Int)).bind fun x_3=>(ZhC x_2 x_3 (32:Int)).bind fun r_4=>(ZeL x_2 x_3).bind fun x_6=>(Zd1 r_4.1 (min x_6 (8:Int))).bind fun r_7=>(ZaA ((most0 % (UInt8.ofNat 10)).toNat:Int) (1:Int)).bind fun x_9=>(Zij x_9).bind fun r_10=>bif ((decide (r_7.2≠(0:Int)))||(decide (r_10.2≠(0:Int)))) then (some false) else ((ZR (fun s=>ZbZ l0 x_6 s.1 s.2.1 s.2.2) ((0:Int),r_7.1,r_10.1)).bind fun o_13=>elS o_13 (fun k_12=>(Zdm k_12).bind fun x_39=>some x_39) (fun q=>some q))))
theorem Zka {A:Nat→Prop} {blocks0:UInt8} {pages0:UInt8} {most0:UInt8} {l0:(List UInt16)}  {r:Bool} (w:World) (v0 v1 v2 v3:Value) (hA:∀ k,w.heap.size≤k→A k)  (h0:(D blocks0).p A w v0) (h1:(D pages0).p A w v1) (h2:(D most0).p A w v2) (h3:(D l0).p A w v3) (H:ZdM blocks0 pages0 most0 l0=some r) :
    Calls Tryz.prog 5 #[v0,v1,v2,v3] w (Ret A w (D r)):=by
 unfold ZdM at H;refine zX (enter4 hA Tryz.func5 rfl Tryz.ntmps5 rfl h0 h1 h2 h3) ?_;refine zn H fun _ ex_1 H=>?_
 refine zX (ZaH (OpY.call0 fun w hA=>Zlo w hA ex_1.h) rfl) ?_;refine zc H (fun hc H=>?_) fun hc H=>?_
 ·exact zY H
 ·refine zg ?_;refine zc H (fun hc H=>?_) fun hc H=>?_
  ·exact zY H
  ·refine zg ?_;refine zX (ZaH (OpY.rem8 (by decide)) rfl) ?_;refine zb H fun _ _ H=>?_
   refine zX (ZaH (OpY.rem8 (by decide)) rfl) ?_;refine zb H fun _ _ H=>?_
   refine zb H fun _ _ H=>?_
   refine TS.alloc (α:=Chip) rfl fun b11_4=>zg ?_
   refine zb H fun x_6 _ H=>?_
   refine zb H fun _ _ H=>?_
   refine TS.alloc (α:=Vol) rfl fun b14_7=>zg ?_
   refine zX (ZaH (OpY.rem8 (by decide)) rfl) ?_;refine zb H fun _ _ H=>?_
   refine zb H fun _ _ H=>?_
   refine TS.alloc (α:=Kept) rfl fun b16_10=>zg ?_
   refine zc H (fun hc H=>?_) fun hc H=>?_
   ·exact zY H
   ·refine zC ?_;refine zh H fun o_13 H13 H=>?_
    refine Zo (fun s:Kept=>o_13=.inl s) (fun (k_12:Kept) (_:Unit)=>(Env.set Env.nil 16 (Pt b16_10 0))) (fun (k_12:Kept) (_:Unit)=>[⟨b16_10,True,(One k_12)⟩]) ?_ ?_
    ·skip;refine Zp<|Zt H13 (fun ⟨i_14,v_15,k_16⟩ (_:Unit)=>(Env.set (Env.set (Env.set (Env.set (Env.set Env.nil 3 (D l0)) 13 (D ((min x_6 (8:Int)):Int))) 14 (Pt b14_7 0)) 16 (Pt b16_10 0)) 18 (D i_14))) (fun ⟨i_14,v_15,k_16⟩ (_:Unit)=>[⟨b14_7,True,(One v_15)⟩,⟨b16_10,True,(One k_16)⟩]) () (Za (Za (Za (Za (Za (Zc _)))))) (Zb rfl (Zb rfl (Zd _))) ?_;rintro ⟨i_14,v_15,k_16⟩ ⟨⟩ x_17 H17 he17;replace H17:ZbZ l0 x_6 i_14 v_15 k_16=some x_17:=H17;unfold ZbZ at H17;refine zg ?_;refine zc H17 (fun hc H17=>?_) fun hc H17=>?_
     ·refine Zat<|Zae<|Zas ?_;refine zh H17 fun o_20 H20 H17=>?_
      refine Zo (fun s:(Vol×Kept)=>o_20=.inl s) (fun ⟨v_18,k_19⟩ (_:Unit)=>(Env.set (Env.set (Env.set (Env.set (Env.set Env.nil 3 (D l0)) 13 (D ((min x_6 (8:Int)):Int))) 14 (Pt b14_7 0)) 16 (Pt b16_10 0)) 18 (D i_14))) (fun ⟨v_18,k_19⟩ (_:Unit)=>[⟨b14_7,True,(One v_18)⟩,⟨b16_10,True,(One k_19)⟩]) ?_ ?_
      ·skip;refine zg ?_;refine zb H20 fun _ _ H20=>?_
       refine TSx (OpY.quo16 (by decide)) ?_;refine zX (ZaH OpD.conv16_i rfl) ?_;refine zb H20 fun x_22 _ H20=>?_
       refine zb H20 fun _ _ H20=>?_
       refine TSx (OpY.rem16 (by decide)) ?_;refine zX (ZaH OpY.eql16 rfl) ?_;refine zc H20 (fun hc H20=>?_) fun hc H20=>?_
       ·refine zX (ZaM [16,17] [] mix (by kernel_rfl) (by kernel_rfl)) ?_;refine zb H20 fun x_24 _ H20=>?_
        refine TRx Zit ?_;refine TRx (OpY.buildSlice [.tmp 94,.tmp 99] rfl rfl (by decide)) ?_;refine TRx (Zk (⟨x_22,([(UInt8.ofInt i_14),(x_24.toUInt8)]:List UInt8)⟩:Item) rfl ⟨_,Tryz.underlying72,by kernel_rfl⟩ rfl rfl) ?_;refine TRx (OpY.buildSlice [.tmp 101] rfl rfl (by decide)) ?_;refine zb H20 fun r_25 _ H20=>?_
        refine Zes (fun g=>Zc1 (α:=Vol)) rfl<|ZcX (fun g=>(Zy (y:=(r_25.1:Vol)) Zv)) rfl ?_;refine zC ?_;rintro ⟨⟨_,⟨b20_25,_⟩⟩,_⟩;dsimp only [Fam.nextS,Fam.nextN,Fam.one,List.cons_append,List.nil_append];refine zg ?_;refine zc H20 (fun hc H20=>?_) fun hc H20=>?_
        ·refine zC ?_;refine ZM<|Zg<|Zg<|Zf<|Zs ?_;have R26:=ZaZ (ZZi H20) H17;refine Zg<|Zg<|Zf<|Zs ?_;have R27:=ZaZ (he17 _ (ZZs R26)) H;refine zg ?_;obtain rfl:=ZZi R27;exact ZbJ rfl Cv.le
        ·refine Zat<|Zae ?_;refine zX (ZaM [1,3,4,5] [b14_7,b16_10] mix (by kernel_rfl) (by kernel_rfl)) ?_;refine zX (Zes (fun g=>Zeu rfl (ZaE Zv)) rfl) ?_;refine zn H20 fun x_29 ex_29 H20=>?_
         refine Zes (fun g=>Zeu rfl (ZdI fun w v0 v1 hA h0 h1=>cache_Forget_c.h w v0 v1 hA (toD h0) (toD h1) ex_29.h)) rfl<|ZcX (fun g=>(Zy (y:=(r_25.1:Vol)) Zv)) rfl<|ZcX (fun g=>(Zy (y:=(x_29:Kept)) Zv)) rfl ?_;refine zC ?_;rintro ⟨⟨⟨⟨_,_⟩,_⟩,_⟩,_⟩;dsimp only [Fam.nextS,Fam.nextN,Fam.one,List.cons_append,List.nil_append];refine zg ?_;exact Zi ⟨r_25.1,x_29⟩ () (ZZs H20) (Za (Za (Za (Za (Za (Zc _)))))) (Zb rfl (Zb rfl (Zd _)))
       ·refine zg ?_;refine zb H20 fun r_30 _ H20=>?_
        refine zb H20 fun r_31 _ H20=>?_
        refine TS.alloc (α:=Kept) rfl fun b24_31=>zg ?_
        refine zX (Zmx 129 rfl (fun hp hg=>Zcp) rfl) ?_;refine Zmx 129 rfl (fun hp hg=>Zcp) rfl ?_;refine zX (Zmx 129 rfl (fun hp hg=>OpY.neq_string) rfl) ?_;refine zc H20 (fun hc H20=>?_) fun hc H20=>?_
        ·refine zC ?_;refine ZM<|Zg<|Zf<|Zs ?_;have R32:=ZaZ (ZZi H20) H17;refine Zg<|Zg<|Zf<|Zs ?_;have R33:=ZaZ (he17 _ (ZZs R32)) H;refine zg ?_;obtain rfl:=ZZi R33;exact ZbJ rfl Cv.le
        ·refine Zat<|Zae<|Zas ?_;refine zh H20 fun o_36 H36 H20=>?_
         refine Zo (fun s:Kept=>o_36=s) (fun (m_35:Kept) (_:Unit)=>(Env.set (Env.set (Env.set (Env.set (Env.set (Env.set Env.nil 3 (D l0)) 13 (D ((min x_6 (8:Int)):Int))) 14 (Pt b14_7 0)) 16 (Pt b16_10 0)) 18 (D i_14)) 24 (Pt b24_31 0))) (fun (m_35:Kept) (_:Unit)=>[⟨b14_7,True,(One v_15)⟩,⟨b16_10,True,(One k_16)⟩,⟨b24_31,True,(One m_35)⟩]) ?_ ?_
         ·skip;refine zg ?_;refine zc H36 (fun hc H36=>?_) fun hc H36=>?_
          ·refine zg ?_;refine TSx (Zk (⟨x_22,r_30.1⟩:Item) rfl ⟨_,Tryz.underlying72,by kernel_rfl⟩ rfl rfl) ?_;refine zb H36 fun r_37 _ H36=>?_
           exact Zi r_37.1 () (ZZs H36) (Za (Za (Za (Za (Za (Za (Zc _))))))) (Zb rfl (Zb rfl (Zb rfl (Zd _))))
          ·refine zg ?_;exact Zi r_31.1 () (ZZs H36) (Za (Za (Za (Za (Za (Za (Zc _))))))) (Zb rfl (Zb rfl (Zb rfl (Zd _))))
         rintro m_35 ⟨⟩ hp;replace hp:=hp.symm;subst hp;refine zg ?_;exact Zi ⟨v_15,m_35⟩ () (ZZs H20) (Za (Za (Za (Za (Za (Zc _)))))) (Zb rfl (Zb rfl (Zd _)))
      rintro ⟨v_18,k_19⟩ ⟨⟩ hp;replace H17:=Zco hp H17;replace H17:=Zeh H17;refine zg ?_;refine zb H17 fun x_38 _ H17=>?_
      exact Zq ⟨x_38,v_18,k_19⟩ () (ZZs H17) (Za (Za (Za (Za (Za (Zc _)))))) (Zb rfl (Zb rfl (Zd _)))
     ·refine zg ?_;exact Zi k_16 () (he17 _ (ZZs H17)).symm (Za (Zc _)) (Zb rfl (Zd _))
    rintro k_12 ⟨⟩ hp;replace H:=Zco hp H;exact zY H
end Go.Proofs.YtkmojgfenlgchaaGreatDoor.Tr
namespace Go.Proofs.YtkmojgfenlgchaaGreatDoor.Tr
open Go
set_option maxRecDepth 100000
theorem works_ok:Ze3=some true:=by decide +kernel
theorem mod7 (x:UInt8):((x % (UInt8.ofNat 7)).toNat:Int)=((x.toNat % 7:Nat):Int):=by rw [UInt8.toNat_mod];rfl
theorem mod10 (x:UInt8):((x % (UInt8.ofNat 10)).toNat:Int)=((x.toNat % 10:Nat):Int):=by rw [UInt8.toNat_mod];rfl
theorem geo_of (b p:Nat) {S:Nat} (h:S=32∨S=64):Geo (p % 7+2) (b % 7+5) S:=⟨by omega,by omega,by omega,by omega,by omega,by omega⟩
theorem new_at {b p S:Nat} (h:S=32∨S=64):ZhC ((b % 7+5:Nat):Int) ((p % 7+2:Nat):Int) (S:Int)=some (ZaC (b % 7+5) (p % 7+2) S,0):=by
 refine new_eq ?_;unfold ZhQ;simp;omega
theorem limit_eq {nB P:Nat} (h1:4≤nB) (h2:nB≤32) (h3:1≤P) (h4:P≤16):ZeL (nB:Int) (P:Int)=some (((nB-4)*P:Nat):Int):=by
 have:(nB-4)*P≤28*16:=Nat.mul_le_mul (by omega) h4;have e:((nB:Int)-4)*P=(((nB-4)*P:Nat):Int):=by
  rw [Int.natCast_mul];congr 1;omega
 unfold ZeL;have hb:((((decide ((nB:Int)<4))||(decide ((nB:Int)>32)))||(decide ((P:Int)<1)))||(decide ((P:Int)>16)))=false:=by simp;omega
 rw [hb,Zw,Za6 (by omega) (by omega),Ze,Zme (by rw [e];omega) (by rw [e];omega),Ze,e]
structure KI (P nB S n:Nat) (i:Nat) (v:Vol) (k:Kept):Prop where
 vol:∃ bod,VI P nB S v.Chip v.At v.Gen v.Last bod∧v.At.length=n∧NF v.Chip∧1≤Zba P nB v.Chip v.At∧∀ x∈k.Items,x.Id.toNat<n∧bod.getD x.Id.toNat []=x.Body∧x.Body≠[]
 ops:v.Chip.Ops≤10+10000000*(i:Int)
 kr:KR k
 kw:∀ x∈k.Items,x.Body.length≤300
theorem KI.KW {P nB S n i:Nat} {v:Vol} {k:Kept} (h:KI P nB S n i v k):KW k.Items:=⟨by have:=h.kr.1;omega,fun x hx=>by have:=h.kw x hx;omega⟩
theorem body_le {P nB S:Nat} {v:Vol} {bod:List (List UInt8)} (h:VI P nB S v.Chip v.At v.Gen v.Last bod) {id:Nat} (hid:id<v.At.length):(bod.getD id []).length≤300:=by
 rcases h.gi.2 id hid with g | ⟨k,j,g,a1,a2,a3,a4,a5,a6,a7⟩
 ·rw [g.2];exact Nat.zero_le _
 ·have:=(GIat.may h.ci (.inr ⟨k,j,g,a1,a2,a3,a4,a5,a6,a7⟩:GIat P nB v.Chip id (v.At.getD id 0) _) (by rw [a1];have:=ZdS (P:=P) (k:=k) (j:=j);omega)).2;have:=h.ci.nat;omega
theorem kept_loop {P nB n:Nat} {l:List UInt16} (hg:Geo P nB 32) (h1:1≤n) (hn:n≤8) (hlim:n≤(nB-4)*P) (hl:l.length≤60) {v:Vol} {k:Kept} (h0:KI P nB 32 n 0 v k) {lim:Int} (hlm:min lim 8=(n:Int)) :
  Zgc (ZR (fun s=>ZbZ l lim s.1 s.2.1 s.2.2) ((0:Int),v,k)) (fun o=>∃ k,o=.inl k∧KR k):=by
 have g2:=hg.p2;have g5:=hg.b5;refine Zgc.loop (σ:=Int×Vol×Kept) (fun s=>∃ i:Nat,s.1=i∧i≤l.length∧KI P nB 32 n i s.2.1 s.2.2) (fun s=>l.length-s.1.toNat) (fun s hs=>?_) ⟨0,rfl,by omega,h0⟩ (by show l.length-0<_;omega);obtain ⟨z,v,k⟩:=s;obtain ⟨i,rfl,hi,h⟩:=hs;dsimp only at h ⊢;unfold ZbZ
 by_cases hlt:i<l.length
 ·rw [ZgU hlt,Zx,ZQ hlt,Ze,hlm];have hidl:(l[i]/UInt16.ofNat 4).toNat % n<n:=Nat.mod_lt _ (by omega);rw [remI_nat (by omega),Ze];generalize (l[i]/UInt16.ofNat 4).toNat % n=id at hidl;obtain ⟨bod,hv,hal,hnf,hidle,hit⟩:=h.vol;have hops:=h.ops;have hmv:Zfj ((32:Nat):Int)=8:=rfl;have hkw:=h.KW;rw [Ze];refine Zgc.b (P:=fun o=>∃ v' k',o=.inl (v',k')∧KI P nB 32 n (i+1) v' k') ?_ fun o ⟨v',k',ho,h'⟩=>?_
  ·by_cases hw:l[i] % UInt16.ofNat 4=UInt16.ofNat 0
   ·rw [Zl (by simpa using hw),Ze];have hfit:Fits 32 v.At.length [(⟨(id:Int),[UInt8.ofInt (i:Int),l[i].toUInt8]⟩:Item)]:=⟨fun x hx=>by
     rw [List.mem_singleton] at hx;subst hx;rw [hal];exact ⟨by show (0:Int)≤id;omega,by show (id:Int)<n;omega,by show ((2:Nat):Int)≤((32:Nat):Int)-16;omega⟩,by simp⟩
    have hlim2:(nB-4)*P+P=(nB-3)*P:=by
     rw [show nB-3=(nB-4)+1 by omega,Nat.add_mul,Nat.one_mul]
    refine Zgc.b (flash_write hv hg (by rw [hal,hmv];omega) hfit (by simp) (by unfold ZcY;omega)) fun r ⟨o1,o2,o3,o4,o5⟩=>?_
    obtain ⟨e0,hb0,hid0⟩:=o5 hnf hidle (by
     show ((1:Nat):Int)+v.At.length≤_;rw [hal,← Int.natCast_mul];omega)
    rw [Zh (by simp [e0])];have hfo:=(forget_eq hkw (id:Int) fun hk=>by have:=hk.1;omega).1 h.kr;rw [hfo,Ze];rcases o4 with ⟨_,hv'⟩ | ⟨x,_⟩ | ⟨x,_⟩
    ·have hidb:id<bod.length:=by rw [← hv.gi.1,hal];exact hidl
     have happ:Zfs [(⟨(id:Int),[UInt8.ofInt (i:Int),l[i].toUInt8]⟩:Item)] bod=bod.set id [UInt8.ofInt (i:Int),l[i].toUInt8]:=rfl;rw [happ] at hv';have hal':r.1.At.length=n:=by rw [hv'.gi.1,List.length_set,← hv.gi.1,hal]
     refine Zgc.s ⟨r.1,_,rfl,⟨⟨_,hv',hal',⟨o3.trans hnf.1,hb0⟩,hid0,fun x hx=>?_⟩,by omega,?_,fun x hx=>?_⟩⟩
     ·obtain ⟨hx1,hx2⟩:=List.mem_filter.1 hx;have hx2:x.Id≠(id:Int):=by simpa using hx2
      obtain ⟨y1,y2,y3⟩:=hit x hx1;have hx0:0≤x.Id:=by
       obtain ⟨j,hj,rfl⟩:=List.getElem_of_mem hx1;exact (h.kr.2 j hj).1
      exact ⟨y1,by rw [Zcv hidb,if_neg (by omega)];exact y2,y3⟩
     ·refine ⟨⟨h.kr.1.1,h.kr.1.2.1,?_⟩,Zhs.2 ⟨fun x hx=>(Zhs.1 h.kr.2).1 x (List.mem_filter.1 hx).1,?_⟩⟩
      ·have:=ZlP (l:=k.Items) (id:=(id:Int));have:=h.kr.1.2.2;show ((Zb3 k.Items (id:Int)).length:Int)≤k.Most;omega
      ·rw [Zja];exact (Zhs.1 h.kr.2).2.filter _
     ·exact h.kw x (List.mem_filter.1 hx).1
    ·omega
    ·omega
   ·rw [Zh (by simpa using hw),show ZgX v (id:Int)=some (bod.getD id [],if bod.getD id []=[] then 6 else 0) from get_eq rfl hg hv (by omega),Ze];obtain ⟨r,hr,hlk⟩:=look_right h.kr hkw (id:Int);rw [hr,Ze];dsimp only;have hnext:∀ k',KR k'→(∀ x∈k'.Items,x∈k.Items∨(x.Id=(id:Int)∧x.Body=bod.getD id []∧bod.getD id []≠[]))→KI P nB 32 n (i+1) v k':=fun k' hk hm=>⟨⟨bod,hv,hal,hnf,hidle,fun x hx=>by
     rcases hm x hx with a | ⟨a,b,c⟩
     ·exact hit x a
     ·rw [a,Int.toNat_natCast,b];exact ⟨hidl,rfl,c⟩⟩,by omega,hk,fun x hx=>by
     rcases hm x hx with a | ⟨a,b,c⟩
     ·exact h.kw x a
     ·rw [b];exact body_le hv (by omega)⟩
    rcases hlk with ⟨j,hj,hjid,rfl⟩ | ⟨hno,rfl⟩
    ·obtain ⟨y1,y2,y3⟩:=hit _ (List.getElem_mem hj);rw [hjid,Int.toNat_natCast] at y2;dsimp only;rw [y2,if_neg y3];rw [Zh (by simp),Bool.not_true,Bool.false_and,Zw,Ze];refine Zgc.s ⟨v,_,rfl,hnext _ ?_ fun x hx=>?_⟩
     ·refine ⟨⟨h.kr.1.1,h.kr.1.2.1,?_⟩,Zhs.2 ⟨fun x hx=>?_,?_⟩⟩
      ·have hle:=h.kr.1.2.2;have:(Zb3 k.Items (id:Int)).length+1≤k.Items.length:=by
        unfold Zb3;have h3:=List.length_filter_lt_length_iff_exists (p:=fun x:Item=>decide (x.Id≠(id:Int))) (l:=k.Items);have:=h3.2 ⟨_,List.getElem_mem hj,by simp [hjid]⟩;omega
       show ((Zb3 k.Items (id:Int)++[k.Items[j]]).length:Int)≤k.Most;rw [List.length_append,List.length_singleton];omega
      ·rcases List.mem_append.1 hx with hx | hx
       ·exact (Zhs.1 h.kr.2).1 x (List.mem_filter.1 hx).1
       ·rw [List.mem_singleton.1 hx];exact (Zhs.1 h.kr.2).1 _ (List.getElem_mem hj)
      ·show ((Zb3 k.Items (id:Int)++[k.Items[j]]).map (·.Id)).Nodup;rw [List.map_append,Zja,List.map_cons,List.map_nil,hjid,List.nodup_append];refine ⟨(Zhs.1 h.kr.2).2.filter _,by simp,fun a ha b hb=>?_⟩;rw [List.mem_singleton.1 hb];have:=(List.mem_filter.1 ha).2;simpa using this
     ·rcases List.mem_append.1 hx with hx | hx
      ·exact .inl (List.mem_filter.1 hx).1
      ·rw [List.mem_singleton.1 hx];exact .inl (List.getElem_mem hj)
    ·dsimp only;rw [Bool.false_and,Zw,Bool.not_false,Bool.true_and]
     by_cases hb:bod.getD id []=[]
     ·rw [if_pos hb,Zh (by rfl),Ze];exact Zgc.s ⟨v,k,rfl,hnext k h.kr fun x hx=>.inl hx⟩
     ·rw [if_neg hb,Zl (by rfl),keep_right hkw (by have:=body_le hv (id:=id) (by omega);show (bod.getD id []).length≤_;omega) h.kr (by show (0:Int)≤id;omega),Ze,Ze];refine Zgc.s ⟨v,_,rfl,hnext _ (keep_KR h.kr (by show (0:Int)≤id;omega)) fun x hx=>?_⟩;rcases keep_mem hx with hx | hx
      ·exact .inl hx
      ·rw [hx];exact .inr ⟨rfl,rfl,hb⟩
  ·subst ho;rw [ZaV,ZcH,Zao (by omega),Ze];exact Zgc.l ⟨i+1,rfl,by omega,h'⟩ (by show l.length-(i+1)<l.length-(i:Int).toNat;omega)
 ·rw [Zkz (by omega),Zw];exact ZbB ⟨k,rfl,h.kr⟩
theorem topKept_plain (blocks0 pages0 most0:UInt8) (l0:List UInt16):ZdM blocks0 pages0 most0 l0=some true:=by
 unfold ZdM;rw [works_ok,Ze,Bool.not_true,Zw]
 by_cases hl:(l0.length:Int)>60
 ·rw [Zl (by simpa using hl)]
 rw [Zh (by simpa using hl),mod7,Zad (by omega) (by omega),Ze,mod7,Zad (by omega) (by omega),Ze];have e1:((blocks0.toNat % 7:Nat):Int)+5=((blocks0.toNat % 7+5:Nat):Int):=by omega
 have e2:((pages0.toNat % 7:Nat):Int)+2=((pages0.toNat % 7+2:Nat):Int):=by omega
 have hg:=geo_of blocks0.toNat pages0.toNat (S:=32) (.inl rfl);have hB:=hg.b5;have hP:=hg.p2;have hB2:=hg.b11;have hP2:=hg.p8;rw [e1,e2,show (32:Int)=((32:Nat):Int) from rfl,new_at (.inl rfl),Ze,limit_eq (by omega) (by omega) (by omega) (by omega),Ze,mod10,Zad (by omega) (by omega)];generalize hnB:blocks0.toNat % 7+5=nB at *;generalize hPP:pages0.toNat % 7+2=P at *;have hlim1:1≤(nB-4)*P:=Nat.mul_le_mul (show 1≤nB-4 by omega) (show 1≤P by omega);have hmin:min (((nB-4)*P:Nat):Int) 8=((min ((nB-4)*P) 8:Nat):Int):=by omega
 have hn1:1≤min ((nB-4)*P) 8:=by omega
 have hmv:Zfj ((32:Nat):Int)=8:=rfl;refine ZhK (Zgc.b (format_get (n:=min ((nB-4)*P) 8) hg hn1 (by rw [hmv];omega) hmin) fun r ⟨r0,r1,r2,r3,r4,r5⟩=>?_);rw [Ze,cnew_eq,Ze,if_pos (by omega)];dsimp only;rw [show (decide (r.2≠0)||decide ((0:Int)≠0))=false by simp [r0],Zw];refine Zgc.b (kept_loop hg hn1 (by omega) (by omega) (by omega) ⟨⟨_,r1,r2,r3,r5,fun x hx=>by cases hx⟩,by omega,⟨⟨by show (1:Int)≤((most0.toNat % 10:Nat):Int)+1;omega,by show ((most0.toNat % 10:Nat):Int)+1≤(64:Int);omega,by show ((0:Nat):Int)≤((most0.toNat % 10:Nat):Int)+1;omega⟩,fun i hi=>by simp at hi⟩,fun x hx=>by cases hx⟩ hmin) fun o ⟨k,ho,hk⟩=>?_
 rw [ho,ZaV,Zly,Ze,decide_eq_true hk];exact Zgc.s rfl
end Go.Proofs.YtkmojgfenlgchaaGreatDoor.Tr
namespace Go.Proofs.YtkmojgfenlgchaaGreatDoor.Tr
open Go Go.RowKit Go.ChangeShapes Go.WideShapes Go.ChangeAt
set_option synthInstance.maxHeartbeats 400000
set_option synthInstance.maxSize 4096
theorem law_own:ownKnob Tryz.prog.godebug=none:=by kernel_rfl
theorem law_laid:laidOutB Tryz.prog=true:=by kernel_rfl
instance :TOpen Tryz.prog 5 UInt8 inferInstance:=topen_u8 (by kernel_rfl)
instance :TOpen Tryz.prog 68 UInt16 inferInstance:=topen_u16 (by kernel_rfl)
instance :TOpen Tryz.prog 59 (List UInt16) inferInstance:=topen_list (e:=68) (by kernel_rfl) (by kernel_rfl) (by decide +kernel)
set_option maxRecDepth 100000 in
theorem topKept_lifted (os:Os) (started:os.Started) (H:Type) (enc:TypeId×Value→H) :
  ReturnsInHanded {} Tryz.checked os 5 .any (fun w args=>(Rows.topKeptSpec.pre enc Tryz.prog Tryz.f5 Rows.topKeptRow.domain false w args∧laidMetH Tryz.prog Rows.topKeptRow.laid w)∧sizedMet enc Tryz.prog Tryz.f5 (OpenSpec.ofChange Rows.topKeptSpec) false w args) (Rows.topKeptSpec.post enc Tryz.prog Tryz.f5 false true false false):=by
 refine returnsInHanded_of_change_and (C:=Tryz.checked) (X:=fun w _=>laidMetH Tryz.prog Rows.topKeptRow.laid w) (fun _ _ _ hh h=>h.of_heap hh) law_own started (by kernel_rfl) Tryz.func5
  (ChangeSpec.witness_shaped (enc:=enc) (C:=Tryz.checked) (os:=os) (X:=fun w _=>laidMetH Tryz.prog Rows.topKeptRow.laid w) false (World.laidAll Tryz.prog os Rows.topKeptRow.laid) #[.int .u8 0,.int .u8 0,.int .u8 0,.slice none 0 0] 8 (World.laidAll_os _ _ _)
   (World.shaped_of_ZipB (by kernel_rfl) (by kernel_rfl)) (by kernel_rfl) (by kernel_rfl) (by kernel_rfl)
   (by rw [MakeChecks.laidMetH_plain _ _ _ (by kernel_rfl)];exact laidMet_laidAll _ (by kernel_rfl) (by kernel_rfl))) ?_
 intro W base args ds gs before hval0 hW hcnd hsz0 hL _;have hval:∀ (j:Nat) t v,Tryz.f5.params[j]?=some t→args[j]?=some v→Value.okWide Tryz.prog W .any base t v:=hval0;have hW':=hW;obtain ⟨p,q,hA0,hV,rfl,hfz,hnd⟩:=hW;have hA:DataW.TrodAll enc Tryz.prog W 0 (fun _=>true) true Tryz.f5.params.toList args.toList ds p:=hA0;have hsz:∀ n∈DataW.weightsEach Tryz.prog Tryz.f5.params.toList ds,n≤reachBytes:=fun n hn=>by
  obtain ⟨rfl,-⟩:=trodVars_none hV;have:=List.all_eq_true.1 hsz0 n (by
   show n∈DataW.weightsEach Tryz.prog (Tryz.f5.params.toList++[]) (ds++[]);rw [List.append_nil,List.append_nil];exact hn)
  simpa using this
 rw [Tryz.params5] at hA hval hsz;obtain ⟨v0,vs0,d0,ds0,p0,q0,hargs,rfl,rfl,h0,r0⟩:=trodAll_cons hA;obtain ⟨v1,vs1,d1,ds1,p1,q1,rfl,rfl,rfl,h1,r1⟩:=trodAll_cons r0;obtain ⟨v2,vs2,d2,ds2,p2,q2,rfl,rfl,rfl,h2,r2⟩:=trodAll_cons r1;obtain ⟨v3,vs3,d3,ds3,p3,q3,rfl,rfl,rfl,h3,r3⟩:=trodAll_cons r2;obtain ⟨rfl,rfl,rfl⟩:=trodAll_nil r3;obtain rfl:args=#[v0,v1,v2,v3]:=by cases args;simp_all
 obtain ⟨x0,y0⟩:=Zls h0 (hval 0 _ v0 rfl rfl) (fun n hn=>hsz n (DataW.weights_mem_each (j:=0) rfl rfl n hn));obtain ⟨x1,y1⟩:=Zls h1 (hval 1 _ v1 rfl rfl) (fun n hn=>hsz n (DataW.weights_mem_each (j:=1) rfl rfl n hn));obtain ⟨x2,y2⟩:=Zls h2 (hval 2 _ v2 rfl rfl) (fun n hn=>hsz n (DataW.weights_mem_each (j:=2) rfl rfl n hn));obtain ⟨x3,y3⟩:=Zls h3 (hval 3 _ v3 rfl rfl) (fun n hn=>hsz n (DataW.weights_mem_each (j:=3) rfl rfl n hn));refine (Zka W v0 v1 v2 v3 (fun _ _=>trivial) y0 y1 y2 y3 (topKept_plain _ _ _ _)).mono fun e W1 h=>?_
 refine law_post (tb:=4) law_laid (by kernel_rfl) (by kernel_rfl) rfl (by rw [Tryz.params5];decide +kernel) rfl hW' h
end Go.Proofs.YtkmojgfenlgchaaGreatDoor.Tr
namespace Go.Proofs.YtkmojgfenlgchaaGreatDoor
open Go Go.RowKit Go.ChangeShapes Go.WideShapes Go.ChangeAt
theorem ZjM:Rows.TopKeptSaid:=
 OpenClaim.holds_of_wide 5 Tryz.f5 rfl rfl rfl rfl rfl rfl rfl ⟨rfl,rfl,rfl,rfl,rfl⟩ rfl rfl rfl rfl rfl (by kernel_rfl) Tryz.func5 (by kernel_rfl)
  (of_decide_eq_true (by kernel_rfl)) (by unfold Func.isWrapper;first | (rw [if_pos (by decide +kernel)];kernel_rfl) | (rw [if_neg (by decide +kernel)];exact ⟨rfl,rfl⟩))
  (fun os started H enc _=>Tr.topKept_lifted os started H enc)
#print axioms ZjM
theorem topKept_card_holds:Rows.TopKeptCardSaid:=
 Claim7.holds_tied_plain_at .later [] [.data, .pinned] true (true, "c1cfdc2fbd019fdcbc750d0f96387e643ddd29362aa1353ceebd97399875c579") false ZjM (fun _ h => by cases h) (by kernel_rfl) (fun _ h => by cases h) topKept_row_tie rfl ⟨rfl, rfl⟩ (by kernel_rfl) rfl
  (fun f fn hf hfn=>by
   obtain rfl : f = 5 := Tr.ZZi ((show Tryz.prog.funcNamed "byway/bywaytop.TopKept" = some 5 by kernel_rfl).symm.trans hf) |>.symm;obtain rfl : fn = Tryz.f5 := (Tr.ZZi (Tryz.func5.symm.trans hfn)).symm;exact ⟨by kernel_rfl, fun j t ht => by
    rw [Tryz.params5] at ht;have hm:t∈[5,5,5,59]:=by simpa using Array.mem_of_getElem? ht
    have hall:([5,5,5,59].all fun u=>!Tryz.prog.wantsStandIn u)=true:=by kernel_rfl
    exact (show Tryz.prog.wantsStandIn t=false by simpa using List.all_eq_true.1 hall t hm)⟩)
  (by kernel_rfl)
#print axioms topKept_card_holds
end Go.Proofs.YtkmojgfenlgchaaGreatDoor
