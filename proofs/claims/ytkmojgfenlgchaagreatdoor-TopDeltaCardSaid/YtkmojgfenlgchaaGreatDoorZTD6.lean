/- What the proof leans on. Conditions: none. -/
import Derived.Test.YtkmojgfenlgchaaGreatDoorZTD5
set_option linter.all false
set_option linter.unusedSimpArgs false
set_option linter.unusedVariables false
set_option linter.unusedSectionVars false
namespace Go.Proofs.YtkmojgfenlgchaaGreatDoor.Tr
open Go
set_option maxRecDepth 100000
def Zjg (c:List Route):List UInt8:=(c.map enc).flatten
theorem Zmy (r:Route) (c:List Route):Zjg (r::c)=enc r++Zjg c:=rfl
theorem encs_append (a b:List Route):Zjg (a++b)=Zjg a++Zjg b:=by unfold Zjg;rw [List.map_append,List.flatten_append]
theorem encs_one (r:Route):Zjg [r]=enc r:=by unfold Zjg;simp
theorem Zkh:∀ c:List Route,(Zjg c).length=20*c.length
 | []=>rfl
 | r::c=>by rw [Zmy,List.length_append,ZjD,Zkh c,List.length_cons];omega
theorem table_in {c t0:List Route} (hc:∀ r∈c,RtOK r) (hl:t0.length+c.length≤1000000):ZM (fun s=>ZdK s.1 s.2) (Zjg c,t0)=some (.inl (t0++c)):=by
 refine ZP (fun j=>(Zjg (c.drop j),t0++c.take j)) c.length (by omega) (fun j hj=>?_) ?_ (by simp)
 ·unfold ZdK;dsimp only;have e:=List.drop_eq_getElem_cons hj;have hlen:(Zjg (c.drop j)).length=20*(c.length-j):=by rw [Zkh,List.length_drop]
  have e1:(Zjg (c.drop j)).take (Int.toNat (20:Int))=enc c[j]:=by
   rw [e,Zmy];show (enc c[j]++_).take 20=_;rw [List.take_append_of_le_length (by rw [ZjD];exact Nat.le_refl _),List.take_of_length_le (by rw [ZjD];exact Nat.le_refl _)]
  have e2:(Zjg (c.drop j)).drop (Int.toNat (20:Int))=Zjg (c.drop (j+1)):=by
   rw [e,Zmy];show (enc c[j]++_).drop 20=_;rw [show 20=(enc c[j]).length from (ZjD _).symm,List.drop_left]
  rw [Zi (by rw [hlen];simp;omega),Zdb (by omega) (by omega) (by rw [hlen];omega),Zb,e1,route_eq (hc _ (List.getElem_mem hj)),Zb];dsimp only;rw [Bool.not_true,Zo,Zav (by omega) (by simp;omega) (by simp;omega),Zb,Zb,Zdb (by omega) (by rw [hlen];omega) (by omega),Zb,Zb,e2];rw [List.append_assoc,← List.take_succ_eq_append_getElem hj]
 ·unfold ZdK;dsimp only;rw [List.drop_length,show Zjg []=[] from rfl,Zf (by simp),List.take_length]
theorem table_eq {cs:List (List Route)} (hc:∀ r∈cs.flatten,RtOK r) (hl:cs.flatten.length≤100000) (hn:cs.length≤100000):Zek (cs.map Zjg)=some (if Zle cs.flatten then (cs.flatten,0) else ([],2)):=by
 unfold Zek;have hlen:(cs.map Zjg).length=cs.length:=List.length_map ..;have h1:ZM (fun s=>ZdL (cs.map Zjg) s.1 s.2) ((0:Int),[])=some (.inl cs.flatten):=by
  refine ZP (fun i=>((i:Int),(cs.take i).flatten)) cs.length (by omega) (fun i hi=>?_) ?_ (by simp)
  ·unfold ZdL;dsimp only;have hle:(cs.take i).flatten.length+cs[i].length≤cs.flatten.length:=flat_le hi;rw [show decide ((i:Int)<((cs.map Zjg).length:Int))=true by rw [hlen];exact ZeU hi,Zs,ZB (show i<(cs.map Zjg).length by rw [hlen];exact hi),Zb,List.getElem_map,Zjt (by omega) (by omega),Zb,Zf (by rw [Zkh];simp),
    table_in (fun r hr=>hc r (List.mem_flatten.2 ⟨_,List.getElem_mem hi,hr⟩)) (by omega),Zb,Zaw,ZR (by omega),Zb,Zih hi]
  ·unfold ZdL;dsimp only;rw [hlen,Zjf,Zo,List.take_length]
 rw [h1,Zb,Zaw,ZeA,Zb];cases Zle cs.flatten
 ·rw [Bool.not_false,Zs];rfl
 ·rw [Bool.not_true,Zo];rfl
def ZlA (t:List Route) (per i:Nat):List Route:=(t.drop (i*per)).take per
def ZhX (t:List Route) (per ids:Nat):List (List Route):=(List.range ids).map (ZlA t per)
theorem ZmD (t:List Route) (per:Nat):∀ ids,(ZhX t per ids).flatten=t.take (ids*per)
 | 0=>by simp [ZhX]
 | ids+1=>by
  have ih:=ZmD t per ids;unfold ZhX at ih ⊢;rw [List.range_succ,List.map_append,List.flatten_append,ih,List.map_singleton,List.flatten_singleton,Nat.succ_mul,List.take_add];rfl
def ZdN (per i:Nat):Nat:=(i-1)/per
def ZkZ (t:List Route) (per ids L:Nat):List (List UInt8):=(List.range ids).map fun k=>if k<L then Zjg (ZlA t per k) else []
theorem Zf4 {t:List Route} {per ids L:Nat}:(ZkZ t per ids L).length=ids:=by simp [ZkZ]
theorem bodAt_at {t:List Route} {per ids L k:Nat} (h:k<(ZkZ t per ids L).length):(ZkZ t per ids L)[k]=if k<L then Zjg (ZlA t per k) else []:=by simp [ZkZ]
theorem bodAt_set {t:List Route} {per ids L:Nat} (hL:L<ids):(ZkZ t per ids L).set L (Zjg (ZlA t per L))=ZkZ t per ids (L+1):=by
 refine List.ext_getElem (by rw [List.length_set,Zf4,Zf4]) fun k h1 h2=>?_
 rw [Zf4] at h2;rw [List.getElem_set,bodAt_at,bodAt_at]
 by_cases h:L=k
 ·subst h;rw [if_pos rfl,if_pos (by omega)]
 ·rw [if_neg h]
  by_cases h3:k<L
  ·rw [if_pos h3,if_pos (by omega)]
  ·rw [if_neg h3,if_neg (by omega)]
theorem next_B {per i:Nat} (hp:0<per):(i/per=ZdN per i∧i<(ZdN per i+1)*per)∨(i/per=ZdN per i+1∧i=(ZdN per i+1)*per):=by
 unfold ZdN;rcases Nat.eq_zero_or_pos i with rfl | h0
 ·left;rw [Nat.zero_div];simp [hp]
 ·have e:=Nat.div_add_mod (i-1) per;have hr:=Nat.mod_lt (i-1) hp;rw [Nat.mul_comm] at e;have em:((i-1)/per+1)*per=(i-1)/per*per+per:=Nat.succ_mul ..
  by_cases h:(i-1) % per+1<per
  ·left
   refine ⟨Nat.div_eq_of_lt_le (by omega) (by rw [em];omega),by omega⟩
  ·right
   have h2:i=((i-1)/per+1)*per:=by omega
   refine ⟨?_,h2⟩
   conv=>lhs;rw [h2]
   rw [Nat.mul_div_cancel _ hp]
theorem last_le {per i:Nat} (hp:0<per):ZdN per i*per≤i:=by
 unfold ZdN;have:=Nat.div_mul_le_self (i-1) per;omega
theorem last_succ {per i:Nat}:ZdN per (i+1)=i/per:=by unfold ZdN;rw [Nat.add_sub_cancel]
theorem take_chunk {t:List Route} {per k i:Nat} (h:i=(k+1)*per):(t.take i).drop (k*per)=ZlA t per k:=by
 unfold ZlA;rw [List.drop_take,h,Nat.succ_mul,Nat.add_sub_cancel_left]
theorem bodies_loop {t:List Route} {per ids:Nat} {Zc5:Int} (hp:0<per) (hr:Zc5=20*per+Zc5 % 20∧0≤Zc5 % 20) (hi:1≤ids) (hids:ids≤64) (hl:t.length≤ids*per) (ht:t.length≤256) :
  ZM (fun s=>Zdn t Zc5 s.1 s.2.1 s.2.2.1 s.2.2.2) ((0:Int),(0:Int),List.replicate ids ([]:List UInt8),([]:List UInt8))=some ((ZhX t per ids).map Zjg):=by
 have hq:ZjM Zc5 20=some (per:Int):=by rw [ZfO (by omega) (by omega)];congr 1;omega
 have hlt:∀ i,i≤t.length→ZdN per i<ids:=fun i hi2=>by
  unfold ZdN;rcases Nat.eq_zero_or_pos i with rfl | h0
  ·rw [Nat.zero_sub,Nat.zero_div];omega
  ·exact Nat.div_lt_of_lt_mul (by rw [Nat.mul_comm];omega)
 refine ZP (fun i=>((i:Int),(ZdN per i:Int),ZkZ t per ids (ZdN per i),Zjg ((t.take i).drop (ZdN per i*per)))) t.length (by omega) (fun i hi2=>?_) ?_ ?_
 ·unfold Zdn;dsimp only;have hL:=hlt i (by omega);have hL2:=hlt (i+1) (by omega);rw [last_succ] at hL2;have htk:t.take (i+1)=t.take i++[t[i]]:=ZcN hi2;have hll:=last_le (i:=i) hp;have hys:(Zjg ((t.take i).drop (ZdN per i*per))).length≤1000000:=by rw [Zkh,List.length_drop,List.length_take];omega
  rw [ZB (show ZdN per i<(ZkZ t per ids (ZdN per i)).length by rw [Zf4];exact hL),Zb,ZeU hi2,Zs,ZB hi2,Zb,hq,Zb,quoI_nat hp,Zb,ZB (show i/per<(ZkZ t per ids (ZdN per i)).length by rw [Zf4];exact hL2),Zb,last_succ];rcases next_B (i:=i) hp with ⟨h1,h2⟩ | ⟨h1,h2⟩
  ·rw [h1,decide_eq_true rfl,Zs,laid_eq _ hys,Zb,ZR (by omega),Zb,htk,List.drop_append_of_le_length (by rw [List.length_take];omega),encs_append,encs_one]
  ·rw [h1,Zf (by simp;omega)];rw [show lenI (Int.toNat ((ZdN per i+1:Nat):Int)) (Int.toNat (ZdN per i:Int)+1)=some () by rw [Int.toNat_natCast,Int.toNat_natCast];unfold lenI;rw [if_pos rfl],Zb,laid_eq _ (by simp),Zb,ZR (by omega),Zb,List.nil_append,Int.toNat_natCast,take_chunk h2,bodAt_set hL,htk,← h2];rw [List.drop_append,List.length_take,Nat.min_eq_left (by omega),Nat.sub_self,List.drop_of_length_le (by rw [List.length_take];omega),List.nil_append,List.drop_zero,encs_one]
 ·unfold Zdn;dsimp only;have hL:=hlt t.length (by omega);have hll:=last_le (i:=t.length) hp;rw [ZB (show ZdN per t.length<(ZkZ t per ids (ZdN per t.length)).length by rw [Zf4];exact hL),Zb,Zjf,Zo,Int.toNat_natCast,List.take_length];have hle:t.length≤(ZdN per t.length+1)*per:=by
   rcases next_B (i:=t.length) hp with ⟨h1,h2⟩ | ⟨h1,h2⟩ <;> omega
  have e1:t.drop (ZdN per t.length*per)=ZlA t per (ZdN per t.length):=by
   unfold ZlA;rw [List.take_of_length_le];rw [List.length_drop,Nat.succ_mul] at *;omega
  rw [e1,bodAt_set hL];refine congrArg (fun x=>some (Sum.inr x)) ?_;unfold ZkZ ZhX;rw [List.map_map];refine List.map_congr_left fun k hk=>?_
  by_cases h:k<ZdN per t.length+1
  ·rw [if_pos h];rfl
  ·rw [if_neg h];have hk2:(ZdN per t.length+1)*per≤k*per:=Nat.mul_le_mul_right _ (by omega);have:ZlA t per k=[]:=by
    unfold ZlA;rw [List.drop_of_length_le (by omega),List.take_nil]
   show []=Zjg (ZlA t per k);rw [this];rfl
 ·have e0:ZdN per 0=0:=by unfold ZdN;rw [Nat.zero_sub,Nat.zero_div]
  rw [e0];have:ZkZ t per ids 0=List.replicate ids []:=by
   refine List.ext_getElem (by rw [Zf4,List.length_replicate]) fun k h1 h2=>?_
   rw [bodAt_at,List.getElem_replicate,if_neg (by omega)]
  rw [this];simp;rfl
theorem bodies_eq {t:List Route} (h:TbR t) {per ids:Nat} {Zc5:Int} (hp:0<per) (hr:Zc5=20*per+Zc5 % 20∧0≤Zc5 % 20) (hr2:20≤Zc5∧Zc5≤240) (hi:1≤ids) (hids:ids≤64) {z:Int} (hz:z=ids) :
  ZfR t z Zc5=some (if t.length≤min (ids*per) 256 then ((ZhX t per ids).map Zjg,0) else ([],5)):=by
 subst hz;have hl:=h.len;have hmul:ids*per≤64*12:=Nat.mul_le_mul hids (by omega);have hmul2:1*1≤ids*per:=Nat.mul_le_mul hi hp;have hq:ZjM Zc5 20=some (per:Int):=by rw [ZfO (by omega) (by omega)];congr 1;omega
 have em:(ids:Int)*per=((ids*per:Nat):Int):=(Int.natCast_mul ..).symm;have hmost:ZfQ (ids:Int) Zc5=some (((min (ids*per) 256:Nat)):Int):=by
  unfold ZfQ;rw [Zf (by simp;omega),hq,Zb,Zjw (by rw [em];omega) (by rw [em];omega),Zb,em];congr 1;omega
 unfold ZfR;rw [hmost,Zb,show decide ((((min (ids*per) 256:Nat)):Int)=0)=false by simp;omega,Bool.not_false,ZaL,h.right,Zb,Bool.not_true,Bool.or_false,Zo]
 by_cases hle:t.length≤min (ids*per) 256
 ·rw [if_pos hle,Zf (by simp;omega),Zav (by omega) (by omega) (by omega),Zb,Zb,Int.toNat_natCast,show (0:Int)=((0:Nat):Int) from rfl,ZB (show 0<(List.replicate ids ([]:List UInt8)).length by rw [List.length_replicate];omega),Zb];have:=bodies_loop (t:=t) (Zc5:=Zc5) hp hr hi hids (by omega) hl;rw [show ((0:Nat):Int)=(0:Int) from rfl,this,Zb]
 ·rw [if_neg hle,Zi (by simp;omega)]
def Zf2 (old now:List (List UInt8)) (n:Nat):List Item:=((List.range n).filter fun i=>decide (old.getD i []≠now.getD i [])).map fun (i:Nat)=>(⟨(i:Int),now.getD i []⟩:Item)
theorem diffs_succ (old now:List (List UInt8)) (n:Nat):Zf2 old now (n+1)=Zf2 old now n++if old.getD n []≠now.getD n [] then [⟨(n:Int),now.getD n []⟩] else []:=by
 unfold Zf2;rw [List.range_succ,List.filter_append,List.map_append]
 by_cases h:old.getD n []≠now.getD n []
 ·rw [if_pos h];simp only [List.filter_cons,decide_eq_true h,List.filter_nil,if_true,List.map_cons,List.map_nil]
 ·rw [if_neg h];simp only [List.filter_cons,decide_eq_false h,List.filter_nil,List.map_nil,Bool.false_eq_true,if_false]
theorem Zmz (old now:List (List UInt8)) (n:Nat):(Zf2 old now n).length≤n:=by
 unfold Zf2;rw [List.length_map];have:=List.length_filter_le (fun i=>decide (old.getD i []≠now.getD i [])) (List.range n);rw [List.length_range] at this;exact this
theorem mem_diffs {old now:List (List UInt8)} {n:Nat} {x:Item} (h:x∈Zf2 old now n):∃ i,i<n∧x.Id=i∧x.Body=now.getD i []∧old.getD i []≠now.getD i []:=by
 unfold Zf2 at h;obtain ⟨i,hi,rfl⟩:=List.mem_map.1 h;obtain ⟨h1,h2⟩:=List.mem_filter.1 hi;exact ⟨i,List.mem_range.1 h1,rfl,rfl,by simpa using h2⟩
theorem diffs_nodup (old now:List (List UInt8)) (n:Nat):((Zf2 old now n).map (·.Id)).Nodup:=by
 unfold Zf2;rw [List.map_map];refine List.Pairwise.map _ (fun a b h=>?_) (List.Pairwise.filter _ (List.nodup_range (n:=n)));intro e;have e:(a:Int)=(b:Int):=e;exact h (by omega)
theorem body_at (l:List (List UInt8)) (i:Nat):Zg0 l (i:Int)=some (l.getD i []):=by
 unfold Zg0
 by_cases h:i<l.length
 ·rw [Zf (by simp;omega),ZB h,Zb,gtD h]
 ·rw [Zi (by simp;omega),List.getD_eq_getElem?_getD,List.getElem?_eq_none (by omega)];rfl
theorem clone_bb {b:List UInt8} (h:b.length≤140737488351232):Zdw b=some b:=by
 unfold Zdw;rw [Zav (by omega) (by simp;omega) (by simp;omega),Zb]
theorem changed_eq {old now:List (List UInt8)} {n:Nat} (h1:old.length=n) (h2:now.length=n) (hn:n≤1000) (hb:∀ b∈now,b.length≤100000):ZeK old now=some (Zf2 old now n):=by
 unfold ZeK;have h3:ZM (fun s=>ZcQ old now s.1 s.2) ((0:Int),([]:List Item))=some (Zf2 old now n):=by
  refine ZP (fun i=>((i:Int),Zf2 old now i)) n (by omega) (fun i hi=>?_) ?_ rfl
  ·unfold ZcQ;dsimp only;have hd:=Zmz old now i;have hbl:(now.getD i []).length≤100000:=by rw [gtD (by omega)];exact hb _ (List.getElem_mem (by omega))
   rw [Zi (by rw [h1,h2];simp;omega),body_at,Zb,body_at,Zb];unfold ZhM;rw [Zb,diffs_succ]
   by_cases h:old.getD i []=now.getD i []
   ·rw [decide_eq_true h,Bool.not_true,Zo,Zb,ZR (by omega),Zb,if_neg (fun h'=>h' h),List.append_nil]
   ·rw [decide_eq_false h,Bool.not_false,Zs,clone_bb (by omega),Zb,Zav (by omega) (by simp;omega) (by simp;omega),Zb,Zb,Zb,ZR (by omega),Zb,if_pos h]
  ·unfold ZcQ;dsimp only;rw [Zf (by rw [h1,h2];simp)]
 rw [h3,Zb]
end Go.Proofs.YtkmojgfenlgchaaGreatDoor.Tr
namespace Go.Proofs.YtkmojgfenlgchaaGreatDoor.Tr
open Go
set_option maxRecDepth 100000
def HasP (t:List Route) (p:Prefix):Prop:=∃ r∈t,r.Prefix=p
instance (t:List Route) (p:Prefix):Decidable (HasP t p):=by unfold HasP;exact inferInstance
theorem take_ahead {t:List Route} (h:TbR t) {p:Prefix}:∀ a∈t.take (ZfN t p),PL a.Prefix p:=fun a ha=>by
 obtain ⟨i,hi,rfl⟩:=List.getElem_of_mem ha;rw [List.length_take] at hi;rw [List.getElem_take];exact (Zhu h (by omega)).2 (by omega)
theorem has_at {t:List Route} (h:TbR t) {p:Prefix} (hh:HasP t p):∃ hk:ZfN t p<t.length,t[ZfN t p].Prefix=p∧∀ a∈t.drop (ZfN t p+1),PL p a.Prefix:=by
 obtain ⟨r,hr,e⟩:=hh;obtain ⟨i,hi,rfl⟩:=List.getElem_of_mem hr;have hra:=Zhu h (p:=p) hi;have hge:ZfN t p≤i:=Nat.le_of_not_lt fun h1=>(hra.2 h1).ne e
 have hk:ZfN t p<t.length:=by omega
 have hki:ZfN t p=i:=by
  rcases Nat.lt_or_ge (ZfN t p) i with h1 | h1
  ·have h2:=List.pairwise_iff_getElem.1 h.srt (ZfN t p) i hk hi h1;rw [e] at h2;have:=(Zhu h (p:=p) hk).1 h2;omega
  ·omega
 refine ⟨hk,by simp only [hki];exact e,fun a ha=>?_⟩;obtain ⟨j,hj,rfl⟩:=List.getElem_of_mem ha;rw [List.length_drop] at hj;rw [List.getElem_drop];have:=List.pairwise_iff_getElem.1 h.srt i (ZfN t p+1+j) hi (by omega) (by omega);rw [e] at this;exact this
theorem drop_behind {t:List Route} (h:TbR t) {p:Prefix} (hp:PM p) (hh:¬ HasP t p):∀ a∈t.drop (ZfN t p),PL p a.Prefix:=fun a ha=>by
 have hm:=List.mem_of_mem_drop ha;obtain ⟨j,hj,rfl⟩:=List.getElem_of_mem ha;rw [List.length_drop] at hj;rw [List.getElem_drop] at hm ⊢;rcases PL.tri (h.may _ hm) hp with h1 | h1 | h1
 ·have:=(Zhu h (p:=p) (show ZfN t p+j<t.length by omega)).1 h1;omega
 ·exact absurd ⟨_,hm,h1⟩ hh
 ·exact h1
def ZkB (t:List Route) (c:Change):List Route×Int:=
 if ¬ PM c.Route.Prefix then (t,1) else
 if c.Gone then (if HasP t c.Route.Prefix then (t.take (ZfN t c.Route.Prefix)++t.drop (ZfN t c.Route.Prefix+1),0) else (t,6)) else
 if HasP t c.Route.Prefix then (t.set (ZfN t c.Route.Prefix) c.Route,0) else
 if 256≤t.length then (t,5) else (t.take (ZfN t c.Route.Prefix)++[c.Route]++t.drop (ZfN t c.Route.Prefix),0)
theorem change_eq {t:List Route} (h:TbR t) (c:Change):ZeI t c=some (ZkB t c):=by
 have hl:=h.len;have hr:=rank_le t c.Route.Prefix;unfold ZeI ZkB;rw [Zg6,Zb]
 by_cases hp:PM c.Route.Prefix
 ·rw [decide_eq_true hp,Bool.not_true,Zo,if_neg (fun h=>h hp),tplace_eq h,Zb]
  by_cases hh:HasP t c.Route.Prefix
  ·obtain ⟨hk,-,-⟩:=has_at h hh;rw [show decide (∃ r∈t,r.Prefix=c.Route.Prefix)=true from decide_eq_true hh,if_pos hh,if_pos hh];dsimp only;rw [Bool.not_true,Bool.and_false,Zo];cases hg:c.Gone
   ·rw [Zo,Zs,ZB hk,Zb,Zb,Int.toNat_natCast,if_neg (by decide)]
   ·rw [Zs,ZR (by omega),Zb,if_pos rfl];unfold Zbu;rw [Zdb (by omega) (by omega) (by omega),Zb,Zb,Int.toNat_natCast,Int.toNat_natCast]
  ·rw [show decide (∃ r∈t,r.Prefix=c.Route.Prefix)=false from decide_eq_false hh,if_neg hh,if_neg hh];dsimp only;rw [Bool.not_false,Bool.and_true];cases hg:c.Gone
   ·rw [Zo,Zo,Zo,if_neg (by decide)]
    by_cases hf:256≤t.length
    ·rw [Zi (by simp;omega),if_pos hf]
    ·rw [Zf (by simp;omega),if_neg hf];unfold Zbt;rw [Zdb (by omega) (by omega) (by omega),Zb];rw [show lenI [c.Route].length 1=some () from rfl,Zb,Zav (by omega) (by simp;omega) (by simp;omega),Zb,Zb,Int.toNat_natCast]
   ·rw [Zs,if_pos rfl]
 ·rw [decide_eq_false hp,Bool.not_false,Zs,if_pos hp]
theorem chg_ok {t:List Route} (h:TbR t) {c:Change} (h0:(ZkB t c).2=0):TbR (ZkB t c).1∧
  ∀ r,r∈(ZkB t c).1↔(c.Gone=false∧r=c.Route)∨(r∈t∧r.Prefix≠c.Route.Prefix):=by
 have hl:=h.len;have hr:=rank_le t c.Route.Prefix;have hta:=take_ahead h (p:=c.Route.Prefix);unfold ZkB at h0 ⊢
 by_cases hp:PM c.Route.Prefix
 ·rw [if_neg (fun h=>h hp)] at h0 ⊢;have hst:(t.take (ZfN t c.Route.Prefix)).Pairwise fun a b=>PL a.Prefix b.Prefix:=h.srt.sublist (List.take_sublist ..)
  by_cases hh:HasP t c.Route.Prefix
  ·obtain ⟨hk,hke,hkd⟩:=has_at h hh;have hsd:(t.drop (ZfN t c.Route.Prefix+1)).Pairwise fun a b=>PL a.Prefix b.Prefix:=h.srt.sublist (List.drop_sublist ..)
   have hmem:∀ r,r∈t∧r.Prefix≠c.Route.Prefix↔r∈t.take (ZfN t c.Route.Prefix)∨r∈t.drop (ZfN t c.Route.Prefix+1):=fun r=>by
    constructor
    ·rintro ⟨h1,h2⟩;rw [← List.take_append_drop (ZfN t c.Route.Prefix) t,List.mem_append,List.drop_eq_getElem_cons hk,List.mem_cons] at h1;rcases h1 with h1 | rfl | h1
     ·exact .inl h1
     ·exact absurd hke h2
     ·exact .inr h1
    ·rintro (h1 | h1)
     ·exact ⟨List.mem_of_mem_take h1,(hta r h1).ne⟩
     ·exact ⟨List.mem_of_mem_drop h1,(hkd r h1).ne.symm⟩
   cases hg:c.Gone
   ·rw [if_neg (by decide),if_pos hh];have e:t.set (ZfN t c.Route.Prefix) c.Route=t.take (ZfN t c.Route.Prefix)++c.Route::t.drop (ZfN t c.Route.Prefix+1):=List.set_eq_take_append_cons_drop (l:=t)▸(by rw [if_pos hk]);dsimp only;refine ⟨⟨by rw [List.length_set];exact hl,fun r hr2=>?_,?_⟩,fun r=>?_⟩
    ·rcases List.mem_or_eq_of_mem_set hr2 with h1 | rfl
     ·exact h.may r h1
     ·exact hp
    ·rw [e,List.pairwise_append];refine ⟨hst,List.pairwise_cons.2 ⟨hkd,hsd⟩,fun a ha b hb=>?_⟩;rcases List.mem_cons.1 hb with rfl | hb
     ·exact hta a ha
     ·exact (hta a ha).tr (hkd b hb)
    ·rw [e,List.mem_append,List.mem_cons,hmem]
     constructor
     ·rintro (h1 | h1 | h1)
      ·exact .inr (.inl h1)
      ·exact .inl ⟨rfl,h1⟩
      ·exact .inr (.inr h1)
     ·rintro (⟨-,h1⟩ | h1 | h1)
      ·exact .inr (.inl h1)
      ·exact .inl h1
      ·exact .inr (.inr h1)
   ·rw [if_pos rfl,if_pos hh];dsimp only;have hsub:(t.take (ZfN t c.Route.Prefix)++t.drop (ZfN t c.Route.Prefix+1)).Sublist t:=by
     conv=>rhs;rw [← List.take_append_drop (ZfN t c.Route.Prefix) t]
     exact List.Sublist.append (List.Sublist.refl _) (by rw [List.drop_eq_getElem_cons hk];exact List.sublist_cons_self ..)
    refine ⟨h.sub hsub,fun r=>?_⟩;rw [List.mem_append,← hmem];exact ⟨fun h=>.inr h,fun h=>h.elim (fun h=>by cases h.1) id⟩
  ·have hkd:=drop_behind h hp hh;have hsd:(t.drop (ZfN t c.Route.Prefix)).Pairwise fun a b=>PL a.Prefix b.Prefix:=h.srt.sublist (List.drop_sublist ..)
   cases hg:c.Gone
   ·rw [hg,if_neg (by decide),if_neg hh] at h0;rw [if_neg (by decide),if_neg hh]
    by_cases hf:256≤t.length
    ·rw [if_pos hf] at h0;cases h0
    ·rw [if_neg hf];dsimp only;refine ⟨⟨by simp;omega,fun r hr2=>?_,?_⟩,fun r=>?_⟩
     ·rw [List.mem_append,List.mem_append,List.mem_singleton] at hr2;rcases hr2 with (h1 | rfl) | h1
      ·exact h.may r (List.mem_of_mem_take h1)
      ·exact hp
      ·exact h.may r (List.mem_of_mem_drop h1)
     ·rw [List.append_assoc,List.pairwise_append];refine ⟨hst,List.pairwise_cons.2 ⟨hkd,hsd⟩,fun a ha b hb=>?_⟩;rcases List.mem_cons.1 hb with rfl | hb
      ·exact hta a ha
      ·exact (hta a ha).tr (hkd b hb)
     ·rw [List.mem_append,List.mem_append,List.mem_singleton]
      constructor
      ·rintro ((h1 | h1) | h1)
       ·exact .inr ⟨List.mem_of_mem_take h1,(hta r h1).ne⟩
       ·exact .inl ⟨rfl,h1⟩
       ·exact .inr ⟨List.mem_of_mem_drop h1,(hkd r h1).ne.symm⟩
      ·rintro (⟨-,h1⟩ | ⟨h1,h2⟩)
       ·exact .inl (.inr h1)
       ·rw [← List.take_append_drop (ZfN t c.Route.Prefix) t,List.mem_append] at h1;rcases h1 with h1 | h1
        ·exact .inl (.inl h1)
        ·exact .inr h1
   ·rw [hg,if_pos rfl,if_neg hh] at h0;cases h0
 ·rw [if_pos hp] at h0;cases h0
def ZhO (t:List Route):List Route→List Change→List Route×Int
 | u,[]=>(u,0)
 | u,c::l=>if (ZkB u c).2=0 then ZhO t (ZkB u c).1 l else (t,(ZkB u c).2)
theorem Zkq (t u:List Route) (c:Change) (l:List Change):ZhO t u (c::l)=if (ZkB u c).2=0 then ZhO t (ZkB u c).1 l else (t,(ZkB u c).2):=rfl
theorem ZlT {t:List Route} (h:t.length≤1000000):ZQ t=some t:=by
 unfold ZQ;rw [Zav (by omega) (by omega) (by omega),Zb]
theorem app_ok {t:List Route}:∀ {l:List Change} {u:List Route},TbR u→(ZhO t u l).2=0→TbR (ZhO t u l).1
 | [],u,h,_=>h
 | c::l,u,h,h0=>by
  unfold ZhO at h0 ⊢
  by_cases hc:(ZkB u c).2=0
  ·rw [if_pos hc] at h0 ⊢;exact app_ok (chg_ok h hc).1 h0
  ·rw [if_neg hc] at h0;exact absurd h0 hc
theorem apply_eq {t:List Route} (h:TbR t) {l:List Change} (hl:l.length≤1000000):Zef t l=some (ZhO t t l):=by
 have hlt:=h.len;unfold Zef;rw [h.right,Zb,Bool.not_true,Zo,ZlT (by omega),Zb];refine Zgf (ZeH.b (ZeH.loop (σ:=Int×List Route) (R:=fun o:List Route⊕(List Route×Int)=>(∃ u,o=.inl u∧ZhO t t l=(u,0))∨o=.inr (ZhO t t l)) (fun s=>∃ i:Nat,s.1=i∧i≤l.length∧TbR s.2∧ZhO t s.2 (l.drop i)=ZhO t t l) (fun s=>l.length-s.1.toNat) (fun s hs=>?_) ⟨0,rfl,by omega,h,rfl⟩ (by show l.length-0<_;omega)) fun o ho=>?_)
 ·obtain ⟨z,u⟩:=s;obtain ⟨i,rfl,hi,hu,he⟩:=hs;dsimp only at hu he ⊢;unfold ZgE
  by_cases hlt2:i<l.length
  ·rw [ZeU hlt2,Zs,ZB hlt2,Zb,change_eq hu,Zb];rw [List.drop_eq_getElem_cons hlt2,Zkq] at he
   by_cases hc:(ZkB u l[i]).2=0
   ·rw [if_pos hc] at he;rw [Zf (by simp [hc]),ZR (by omega),Zb];exact ZeH.l ⟨i+1,rfl,by omega,(chg_ok hu hc).1,he⟩ (by show l.length-(((i+1:Nat):Int)).toNat<l.length-(i:Int).toNat;omega)
   ·rw [if_neg hc] at he;rw [Zi (by simp [hc]),ZlT (by omega),Zb];exact Za5 (.inr (by rw [he]))
  ·rw [Zjx (by omega),Zo];rw [List.drop_of_length_le (by omega)] at he;exact Za5 (.inl ⟨u,rfl,he.symm⟩)
 ·rcases ho with ⟨u,rfl,he⟩ | rfl
  ·rw [Zaw];exact ZeH.s he.symm
  ·rw [Zbp];exact ZeH.s rfl
end Go.Proofs.YtkmojgfenlgchaaGreatDoor.Tr
namespace Go.Proofs.YtkmojgfenlgchaaGreatDoor.Tr
open Go
set_option maxRecDepth 100000
def Zh2 (P nB:Nat):Nat:=min ((nB-4)*P/2) 24
theorem most64:Zd6 64=24:=rfl
theorem room64:ZdZ 64=48:=rfl
theorem ZeL {P nB S:Nat} (hg:Geo P nB S):1≤Zh2 P nB∧Zh2 P nB≤24∧2*Zh2 P nB≤(nB-4)*P:=by
 have:=hg.p2;have:=hg.b5;have h1:1*2≤(nB-4)*P:=Nat.mul_le_mul (by omega) (by omega);unfold Zh2;omega
theorem limit_at {nB P:Nat} (h1:4≤nB) (h2:nB≤32) (h3:1≤P) (h4:P≤16):ZfZ (nB:Int) (P:Int)=some (((nB-4)*P:Nat):Int):=by
 have:(nB-4)*P≤28*16:=Nat.mul_le_mul (by omega) h4;have e:((nB:Int)-4)*P=(((nB-4)*P:Nat):Int):=by
  rw [Int.natCast_mul];congr 1;omega
 unfold ZfZ;have hb:((((decide ((nB:Int)<4))||(decide ((nB:Int)>32)))||(decide ((P:Int)<1)))||(decide ((P:Int)>16)))=false:=by simp;omega
 rw [hb,Zo,ZaO (by omega) (by omega),Zb,Zjw (by rw [e];omega) (by rw [e];omega),Zb,e]
theorem ids_eq {P nB S:Nat} (hg:Geo P nB S):ZkU (nB:Int) (P:Int) 64=some (Zh2 P nB:Int):=by
 have:=hg.p2;have:=hg.b5;have:=hg.b11;have:=hg.p8;unfold ZkU;rw [limit_at (by omega) (by omega) (by omega) (by omega),Zb,show (2:Int)=((2:Nat):Int) from rfl,quoI_nat (by omega),Zb,Zh8,Zb,most64];unfold Zh2;congr 1;omega
def ZhZ (P nB:Nat):Nat:=min (Zh2 P nB*2) 256
theorem Most_eq {P nB S:Nat} (hg:Geo P nB S):ZhE (nB:Int) (P:Int) 64=some (ZhZ P nB:Int):=by
 have hi:=ZeL hg;unfold ZhE;rw [ids_eq hg,Zb,ZcO,Zb,room64];unfold ZfQ;rw [Zf (by simp;omega),show ZjM (48:Int) 20=some 2 from rfl,Zb,Zjw (by omega) (by omega),Zb,Zb];unfold ZhZ;congr 1;omega
theorem chip_dims {P nB:Nat} {c:Chip} (h:CI P nB 64 c):(c.Blocks.length:Int)=nB∧c.Pages=P∧c.Size=64:=⟨by rw [h.len],h.pgs,h.siz⟩
theorem mostOf_eq {P nB:Nat} {c:Chip} (hg:Geo P nB 64) (h:CI P nB 64 c):Zfu c=some (ZhZ P nB:Int):=by
 obtain ⟨h1,h2,h3⟩:=chip_dims h;unfold Zfu;rw [h1,h2,h3,Most_eq hg,Zb]
theorem idsOf_eq {P nB:Nat} {c:Chip} (hg:Geo P nB 64) (h:CI P nB 64 c):Zf1 c=some (Zh2 P nB:Int):=by
 obtain ⟨h1,h2,h3⟩:=chip_dims h;unfold Zf1;rw [h1,h2,h3,ids_eq hg,Zb]
theorem most_pos {P nB S:Nat} (hg:Geo P nB S):decide ((ZhZ P nB:Int)=0)=false:=by
 have hi:=ZeL hg;rw [decide_eq_false_iff_not];unfold ZhZ;omega
theorem fbody_eq {P nB S:Nat} {c:Chip} {gen:UInt64} {at0:List Int} {last:Int} {bod:List (List UInt8)} {id:Nat} (hc:CI P nB S c) (hg:Geo P nB S) (h:GI P nB c at0 bod) (hi:id<at0.length) :
  Zkf ⟨c,at0,gen,last⟩ (id:Int)=some (bod.getD id []):=by
 unfold Zkf;rw [ZcH (d:=0) rfl hi,Zb];rcases h.2 id hi with g | ⟨k,j,g,a1,a2,a3,a4,a5,a6,a7⟩
 ·rw [g.1,ZaO (by omega) (by omega),Zb,Zi (by decide),g.2]
 have hp:=ZdM (P:=P) (k:=k) (j:=j);have hl:=loc_le (P:=P) a3 a4;have hq:=Zjz (k:=k) a4;have:nB*P≤11*8:=Nat.mul_le_mul hg.b11 hg.p8;have:=hg.p2;rw [a1];dsimp only;rw [ZaO (by omega) (by omega),Zb,Zf (by simp;omega),hc.pgs,ZfO (by omega) (by omega),Zb,hq.1,hc.idxB rfl a3,Zb,Zjt (by omega) (by omega),Zb,hq.2,hc.idxP rfl a3 a4,Zb,Zfb,Zb,a6];rw [Zf (by simp)]
theorem take_app {α:Type} {l:List α} {n i:Nat} {z:α} (hn:l.length=n) (hi:i<n):(l.take i++List.replicate (n-i) z).set i (l[i]'(by omega))=l.take (i+1)++List.replicate (n-(i+1)) z:=by
 have e:n-i=(n-(i+1))+1:=by omega
 rw [List.set_append_right _ _ (by rw [List.length_take];omega),List.length_take,Nat.min_eq_left (by omega),Nat.sub_self,e,List.replicate_succ,List.set_cons_zero,ZcN (show i<l.length by omega),List.append_assoc];rfl
structure FI (P nB:Nat) (c:Chip) (at0:List Int) (gen:UInt64) (last:Int) (bod:List (List UInt8)) (t:List Route):Prop where
 vi:VI P nB 64 c at0 gen last bod
 len:at0.length=Zh2 P nB
 tab:Zek bod=some (t,0)
 tr:TbR t
theorem FI.bl {P nB:Nat} {c:Chip} {at0:List Int} {gen:UInt64} {last:Int} {bod:List (List UInt8)} {t:List Route} (h:FI P nB c at0 gen last bod t):bod.length=Zh2 P nB:=by rw [← h.vi.gi.1,h.len]
theorem load_eq {P nB:Nat} (hg:Geo P nB 64) {c:Chip} {at0:List Int} {gen:UInt64} {last:Int} {bod:List (List UInt8)} {t:List Route} (h:FI P nB c at0 gen last bod t) :
  ZiQ c=some (⟨⟨c,at0,gen,last⟩,t⟩,bod,0):=by
 have hi:=ZeL hg;have hbl:=h.bl;have hal:=h.len;unfold ZiQ;rw [mostOf_eq hg h.vi.ci,Zb,most_pos hg,Zo,mount_eq hg h.vi,Zb,Zf (by simp),idsOf_eq hg h.vi.ci,Zb];dsimp only;rw [Zf (by rw [hal];simp),Zav (by omega) (by omega) (by omega),Zb,Zb,Int.toNat_natCast,hal];have hloop:ZM (fun s=>Zf0 (⟨c,at0,gen,last⟩,0) (List.replicate (Zh2 P nB) (Dat.z:List UInt8)) s.1 s.2) ((0:Int),List.replicate (Zh2 P nB) (Dat.z:List UInt8))=some bod:=by
  refine ZP (fun i=>((i:Int),bod.take i++List.replicate (Zh2 P nB-i) (Dat.z:List UInt8))) (Zh2 P nB) (by omega) (fun i hi2=>?_) ?_ (by simp)
  ·unfold Zf0;dsimp only;have hl:(bod.take i++List.replicate (Zh2 P nB-i) (Dat.z:List UInt8)).length=Zh2 P nB:=by rw [List.length_append,List.length_take,List.length_replicate];omega
   rw [show decide ((i:Int)<((List.replicate (Zh2 P nB) (Dat.z:List UInt8)).length:Int))=true by rw [List.length_replicate];exact ZeU hi2,Zs,fbody_eq h.vi.ci hg h.vi.gi (by omega),Zb,ZB (by omega),Zb,Zb,Int.toNat_natCast,ZR (by omega),Zb,gtD (show i<bod.length by omega),take_app hbl hi2]
  ·unfold Zf0;dsimp only;rw [List.length_replicate,Zjf,Zo,List.take_of_length_le (by omega),Nat.sub_self,List.replicate_zero,List.append_nil]
 rw [hloop,Zb,h.tab,Zb,Zf (by simp),Zb]
theorem fmount_eq {P nB:Nat} (hg:Geo P nB 64) {c:Chip} {at0:List Int} {gen:UInt64} {last:Int} {bod:List (List UInt8)} {t:List Route} (h:FI P nB c at0 gen last bod t) :
  ZeP c=some (⟨⟨c,at0,gen,last⟩,t⟩,0):=by
 unfold ZeP;rw [load_eq hg h,Zb]
theorem equal_rt (a:List Route) (ha:a.length≤1000000):Za0 a a=some true:=by
 unfold Za0;rw [Zf (by simp),Zg4 (f:=fun s=>ZaJ a a s) a (fun _=>true) (by omega) (fun i hi=>by
  unfold ZaJ;rw [ZeU hi,Zs,ZB hi,Zb,Zb,Zf (by simp),ZR (by omega),Zb,if_pos rfl]) (by unfold ZaJ;rw [Zjf,Zo]),Zb,if_pos (by simp),Zaw]
theorem stands_eq {P nB:Nat} (hg:Geo P nB 64) {c:Chip} {at0:List Int} {gen:UInt64} {last:Int} {bod:List (List UInt8)} {t:List Route} (h:FI P nB c at0 gen last bod t) :
  Zhb ⟨⟨c,at0,gen,last⟩,t⟩=some (bod,true):=by
 have hal:=h.len;have hi:=ZeL hg;have htl:=h.tr.len;unfold Zhb;rw [Zb];dsimp only;rw [chip_off h.vi.off,load_eq hg h,Zb,Zf (by simp)];dsimp only;rw [equal_int _ _ (by omega),Zb,decide_eq_true rfl,Bool.not_true,Bool.not_false,ZaL,equal_rt _ (by omega),Zb,Bool.not_true,Bool.or_self,Zo]
theorem clone_LB {l:List (List UInt8)} (h:l.length≤1000000):ZbU l=some l:=by
 unfold ZbU;rw [Zav (by omega) (by omega) (by omega),Zb]
theorem set_self {α:Type} {l:List α} {i:Nat} (h:i<l.length):l.set i l[i]=l:=List.set_getElem_self h
theorem copied_c {P nB S:Nat} {c:Chip} (hc:CI P nB S c):ZcC c=some c:=by
 have hn:=hc.nat;have hlen:=hc.len;unfold ZcC;have hb:ZW c.Blocks=some c.Blocks:=by
  unfold ZW;rw [Zav (by omega) (by omega) (by omega),Zb]
 have hf:ZH c.Faults=some c.Faults:=by
  unfold ZH;rw [Zav (by omega) (by omega) (by omega),Zb]
 have h1:ZM (fun s=>Zcp c.Blocks s.1 s.2) ((0:Int),c.Blocks)=some c.Blocks:=by
  refine ZP (fun i=>((i:Int),c.Blocks)) c.Blocks.length (by omega) (fun i hi=>?_) ?_ rfl
  ·unfold Zcp;dsimp only;obtain ⟨hl,hbk⟩:=hc.blkAt (show i<nB by omega);have hr:=hc.blkR (show i<nB by omega);rw [hbk] at hr;obtain ⟨r1,r2,r3,r4,r5⟩:=hr;rw [ZeU hi,Zs,ZB hi,Zb,clone_LB (by omega),Zb];have h2:ZM (fun s=>Zco c.Blocks[i].Pages s.1 s.2) ((0:Int),c.Blocks[i].Pages)=some c.Blocks[i].Pages:=by
    refine ZP (fun j=>((j:Int),c.Blocks[i].Pages)) c.Blocks[i].Pages.length (by omega) (fun j hj=>?_) ?_ rfl
    ·unfold Zco;dsimp only;have:=r5 _ (List.getElem_mem hj);rw [ZeU hj,Zs,ZB hj,Zb,clone_bb (by omega),Zb,Zb,Zb,Int.toNat_natCast,set_self hj,ZR (by omega),Zb]
    ·unfold Zco;dsimp only;rw [Zjf,Zo]
   rw [h2,Zb,Zb,ZR (by omega),Zb,Int.toNat_natCast];have:c.Blocks.set i ⟨c.Blocks[i].Pages,c.Blocks[i].Used,c.Blocks[i].Worn,c.Blocks[i].Bad⟩=c.Blocks:=set_self hi;rw [this]
  ·unfold Zcp;dsimp only;rw [Zjf,Zo]
 rw [hb,Zb,h1,Zb,hf,Zb,Zb,Zb]
theorem copied_f {P nB S:Nat} {c:Chip} {at0:List Int} {gen:UInt64} {last:Int} {t:List Route} (hc:CI P nB S c) (ha:at0.length≤1000) (ht:t.length≤1000):ZdE ⟨⟨c,at0,gen,last⟩,t⟩=some ⟨⟨c,at0,gen,last⟩,t⟩:=by
 unfold ZdE;rw [copied_c hc,Zb,Zb,Zki (by show at0.length≤_;omega),Zb,Zb,ZlT (by show t.length≤_;omega),Zb,Zb]
end Go.Proofs.YtkmojgfenlgchaaGreatDoor.Tr
namespace Go.Proofs.YtkmojgfenlgchaaGreatDoor.Tr
open Go
set_option maxRecDepth 100000
theorem applied_append (a b:List Item) (bod:List (List UInt8)):Zct (a++b) bod=Zct b (Zct a bod):=by unfold Zct;rw [List.foldl_append]
theorem applied_at {old now:List (List UInt8)} {n:Nat} (h1:old.length=n):∀ i,i≤n→∀ k,k<n→(Zct (Zf2 old now i) old).getD k []=if k<i then now.getD k [] else old.getD k []
 | 0,_,k,_=>by rw [if_neg (by omega)];rfl
 | i+1,hi,k,hk=>by
  have ih:=applied_at (now:=now) h1 i (by omega) k hk;have hl:(Zct (Zf2 old now i) old).length=n:=by rw [Zf5,h1]
  rw [diffs_succ,applied_append]
  by_cases h:old.getD i []≠now.getD i []
  ·rw [if_pos h];show ((Zct (Zf2 old now i) old).set (i:Int).toNat (now.getD i [])).getD k []=_;rw [Int.toNat_natCast,Zce (by omega)]
   by_cases e:k=i
   ·subst e;rw [if_pos rfl,if_pos (by omega)]
   ·rw [if_neg e,ih]
    by_cases h2:k<i
    ·rw [if_pos h2,if_pos (by omega)]
    ·rw [if_neg h2,if_neg (by omega)]
  ·rw [if_neg h];show (Zct (Zf2 old now i) old).getD k []=_;rw [ih]
   by_cases e:k=i
   ·subst e;rw [if_neg (by omega),if_pos (by omega)];exact Classical.not_not.1 h
   ·by_cases h2:k<i
    ·rw [if_pos h2,if_pos (by omega)]
    ·rw [if_neg h2,if_neg (by omega)]
theorem Zko {old now:List (List UInt8)} {n:Nat} (h1:old.length=n) (h2:now.length=n):Zct (Zf2 old now n) old=now:=by
 refine List.ext_getElem (by rw [Zf5,h1,h2]) fun k g1 g2=>?_
 have:=applied_at (now:=now) h1 n (Nat.le_refl _) k (by omega);rw [if_pos (by omega),gtD g1,gtD g2] at this;exact this
theorem diffs_none {old now:List (List UInt8)} {n:Nat} (h1:old.length=n) (h2:now.length=n) (h:Zf2 old now n=[]):old=now:=by
 have:=Zko h1 h2;rw [h] at this;exact this
def nowB (P nB:Nat) (t:List Route):List (List UInt8):=(ZhX t 2 (Zh2 P nB)).map Zjg
theorem Zmr {P nB:Nat} {t:List Route}:(nowB P nB t).length=Zh2 P nB:=by simp [nowB,ZhX]
theorem now_body {P nB:Nat} {t:List Route}:∀ b∈nowB P nB t,b.length≤40:=fun b hb=>by
 unfold nowB ZhX at hb;obtain ⟨c,hc,rfl⟩:=List.mem_map.1 hb;obtain ⟨i,hi,rfl⟩:=List.mem_map.1 hc;rw [Zkh];unfold ZlA;rw [List.length_take];omega
theorem now_table {P nB:Nat} (hg:Geo P nB 64) {t:List Route} (h:TbR t) (hl:t.length≤ZhZ P nB):Zek (nowB P nB t)=some (t,0):=by
 have hi:=ZeL hg;have htl:=h.len;unfold ZhZ at hl;have hf:(ZhX t 2 (Zh2 P nB)).flatten=t:=by rw [ZmD,List.take_of_length_le (by omega)]
 unfold nowB;rw [table_eq (fun r hr=>by rw [hf] at hr;exact (h.may r hr).rt) (by rw [hf];omega) (by simp [ZhX];omega),hf,if_pos (Zej.2 h)]
theorem now_fits {P nB n:Nat} {old:List (List UInt8)} {t:List Route} (hn:n=Zh2 P nB):Fits 64 n (Zf2 old (nowB P nB t) n):=by
 subst hn;refine ⟨fun x hx=>?_,diffs_nodup ..⟩;obtain ⟨i,hi,e1,e2,e3⟩:=mem_diffs hx;have hb:x.Body.length≤40:=by
  rw [e2,gtD (by rw [Zmr];exact hi)];exact now_body _ (List.getElem_mem _)
 refine ⟨by omega,by omega,by omega⟩
theorem now_need {P nB n:Nat} {old now:List (List UInt8)}:Zfe (Zf2 old now n)≤n:=by
 unfold Zfe;exact Nat.le_trans List.countP_le_length (Zmz ..)
def FOut (P nB:Nat) (f:Fib) (bod:List (List UInt8)) (l:List Change) (r:Fib×Int):Prop:=
  (r.1=f∧r.2≠0∧((ZhO f.Table f.Table l).2=r.2∨((ZhO f.Table f.Table l).2=0∧r.2=5∧ZhZ P nB<(ZhO f.Table f.Table l).1.length)))∨
  ((ZhO f.Table f.Table l).2=0∧(ZhO f.Table f.Table l).1.length≤ZhZ P nB∧
    ((r=(⟨f.Vol,(ZhO f.Table f.Table l).1⟩,0)∧bod=nowB P nB (ZhO f.Table f.Table l).1)∨
     ∃ v e,r=(⟨v,if e=0 then (ZhO f.Table f.Table l).1 else f.Table⟩,e)∧WrtOut P nB 64 f.Vol bod (Zf2 bod (nowB P nB (ZhO f.Table f.Table l).1) (Zh2 P nB)) (v,e)))
theorem fapply {P nB:Nat} (hg:Geo P nB 64) {c:Chip} {at0:List Int} {gen:UInt64} {last:Int} {bod:List (List UInt8)} {t:List Route} (h:FI P nB c at0 gen last bod t) {l:List Change} (hl:l.length≤1000000) (hops:c.Ops+20000000≤Zcz) :
  ZeH (ZdP ⟨⟨c,at0,gen,last⟩,t⟩ l) (FOut P nB ⟨⟨c,at0,gen,last⟩,t⟩ bod l):=by
 have hi:=ZeL hg;have hal:=h.len;have htl:=h.tr.len;have hcop:=copied_f (at0:=at0) (gen:=gen) (last:=last) (t:=t) h.vi.ci (by omega) (by omega);unfold ZdP;rw [stands_eq hg h,Zb];dsimp only;rw [Bool.not_true,Zo,apply_eq h.tr hl,Zb]
 by_cases he:(ZhO t t l).2=0
 ·rw [Zf (by simp [he]),idsOf_eq hg h.vi.ci,Zb,h.vi.ci.siz,ZcO,Zb];have htr:=app_ok h.tr he;rw [show ZdZ ((64:Nat):Int)=48 from rfl,bodies_eq htr (per:=2) (ids:=Zh2 P nB) (by omega) (by decide) (by decide) hi.1 (by omega) rfl,Zb]
  by_cases hle:(ZhO t t l).1.length≤min (Zh2 P nB*2) 256
  ·rw [if_pos hle];dsimp only;rw [show (ZhX (ZhO t t l).1 2 (Zh2 P nB)).map Zjg=nowB P nB (ZhO t t l).1 from rfl];rw [Zf (by simp),changed_eq (n:=Zh2 P nB) h.bl (Zmr (P:=P) (nB:=nB) (t:=(ZhO t t l).1)) (by omega) (fun b hb=>by have:=now_body (P:=P) (nB:=nB) (t:=(ZhO t t l).1) b hb;omega),Zb]
   by_cases hd:Zf2 bod (nowB P nB (ZhO t t l).1) (Zh2 P nB)=[]
   ·rw [hd,Zi (by simp),hcop,Zb,Zb];exact ZeH.s (.inr ⟨he,hle,.inl ⟨rfl,diffs_none h.bl Zmr hd⟩⟩)
   ·have hdl:=Zmz bod (nowB P nB (ZhO t t l).1) (Zh2 P nB);rw [Zf (by
     rw [decide_eq_false_iff_not];intro h0;exact hd (List.length_eq_zero_iff.1 (by omega)))]
    refine ZeH.b (flash_write (v:=⟨c,at0,gen,last⟩) (l:=Zf2 bod (nowB P nB (ZhO t t l).1) (Zh2 P nB)) h.vi hg (by show (at0.length:Int)≤Zd6 ((64:Nat):Int);rw [show Zd6 ((64:Nat):Int)=24 from rfl];omega) (by show Fits 64 at0.length _;rw [hal];exact now_fits rfl) (by omega) hops) fun r hr=>?_
    obtain ⟨v,e⟩:=r;dsimp only
    by_cases h0:e=0
    ·subst h0;rw [Zf (by simp),Zb,Zb];exact ZeH.s (.inr ⟨he,hle,.inr ⟨v,0,by rw [if_pos rfl],hr⟩⟩)
    ·rw [Zi (by simp [h0]),ZlT (by omega),Zb,Zb,Zb];exact ZeH.s (.inr ⟨he,hle,.inr ⟨v,e,by rw [if_neg h0],hr⟩⟩)
  ·rw [if_neg hle];dsimp only;rw [Zi (by simp),hcop,Zb];exact ZeH.s (.inl ⟨rfl,by show (5:Int)≠0;decide,.inr ⟨he,rfl,Nat.lt_of_not_le hle⟩⟩)
 ·rw [Zi (by simp [he]),hcop,Zb];exact ZeH.s (.inl ⟨rfl,he,.inl rfl⟩)
theorem fformat {P nB:Nat} (hg:Geo P nB 64):ZeH (Zfv (Zas nB P 64)) (fun r=>r.2=0∧r.1.Table=[]∧FI P nB r.1.Vol.Chip r.1.Vol.At r.1.Vol.Gen r.1.Vol.Last (List.replicate (Zh2 P nB) []) []∧NF r.1.Vol.Chip∧r.1.Vol.Chip.Ops≤10∧1≤ZaV P nB r.1.Vol.Chip r.1.Vol.At):=by
 have hi:=ZeL hg;have hc:=new_ci hg;unfold Zfv;rw [mostOf_eq hg hc,Zb,most_pos hg,Zo,idsOf_eq hg hc,Zb];refine ZeH.b (format_get (S:=64) (n:=Zh2 P nB) hg hi.1 (by rw [show Zd6 ((64:Nat):Int)=24 from rfl];omega) rfl) fun r ⟨r1,r2,r3,r4,r5,r6⟩=>?_
 rw [Zb];refine ZeH.s ⟨r1,rfl,⟨r2,r3,?_,TbR.nil⟩,r4,r5,r6⟩;have e:(List.replicate (Zh2 P nB) ([]:List UInt8))=(List.replicate (Zh2 P nB) ([]:List Route)).map Zjg:=by rw [List.map_replicate];rfl
 have hf:(List.replicate (Zh2 P nB) ([]:List Route)).flatten=[]:=by simp
 rw [e,table_eq (fun r hr=>by rw [hf] at hr;cases hr) (by rw [hf];simp) (by simp;omega),hf,if_pos (Zej.2 TbR.nil)]
end Go.Proofs.YtkmojgfenlgchaaGreatDoor.Tr
namespace Go.Proofs.YtkmojgfenlgchaaGreatDoor.Tr
open Go
set_option maxRecDepth 100000
theorem works_ok:ZeF=some true:=by decide +kernel
theorem mod7 (x:UInt8):((x % (UInt8.ofNat 7)).toNat:Int)=((x.toNat % 7:Nat):Int):=by rw [UInt8.toNat_mod];rfl
theorem geo_of (b p:Nat):Geo (p % 7+2) (b % 7+5) 64:=⟨by omega,by omega,by omega,by omega,by omega,by omega⟩
theorem new_at (b p:Nat):ZhL ((b % 7+5:Nat):Int) ((p % 7+2:Nat):Int) (64:Int)=some (Zas (b % 7+5) (p % 7+2) 64,0):=by
 refine new_eq (s:=64) ?_;unfold ZhY;simp;omega
theorem add_b (x:UInt8):Zat ((x % (UInt8.ofNat 7)).toNat:Int) (5:Int)=some ((x.toNat % 7+5:Nat):Int):=by
 rw [mod7,Zaa (by omega) (by omega)];rfl
theorem add_p (x:UInt8):Zat ((x % (UInt8.ofNat 7)).toNat:Int) (2:Int)=some ((x.toNat % 7+2:Nat):Int):=by
 rw [mod7,Zaa (by omega) (by omega)];rfl
theorem same3_eq (a b:List Route) (ha:a.length≤1000000):Zcr a b=some (decide (a=b)):=by
 unfold Zcr
 by_cases hl:a.length=b.length
 ·rw [Zf (by simp [hl]),Zg4 (f:=fun s=>Zb9 a b s) (List.range a.length) (fun i=>decide (a.getD i rt0=b.getD i rt0)) (by simp;omega) (fun i hi=>?_) (by unfold Zb9;rw [List.length_range,Zjf,Zo]),Zb]
  ·by_cases e:a=b
   ·subst e;rw [if_pos (by simp),Zaw,decide_eq_true rfl]
   ·have:¬ (List.range a.length).all (fun i=>decide (a.getD i rt0=b.getD i rt0))=true:=fun h=>e (List.ext_getElem hl fun i h1 h2=>by
     have:=List.all_eq_true.1 h i (List.mem_range.2 h1);rw [decide_eq_true_eq,gtD h1,gtD h2] at this;exact this)
    rw [if_neg this,Zbp,decide_eq_false e]
  ·rw [List.length_range] at hi;rw [List.getElem_range];unfold Zb9;rw [ZeU hi,Zs,ZB hi,Zb,ZB (show i<b.length by omega),Zb,gtD hi,gtD (show i<b.length by omega)]
   by_cases e:a[i]=b[i]
   ·rw [Zf (by simp [e]),ZR (by omega),Zb,if_pos (by simp [e])]
   ·rw [Zi (by simp [e]),if_neg (by simp [e])]
 ·rw [Zi (by simp;omega),decide_eq_false (fun e=>hl (by rw [e]))]
end Go.Proofs.YtkmojgfenlgchaaGreatDoor.Tr
namespace Go.Proofs.YtkmojgfenlgchaaGreatDoor.Tr
open Go Go.RowKit
set_option maxRecDepth 100000
set_option synthInstance.maxHeartbeats 400000
set_option synthInstance.maxSize 4096
def Zf3 (p0:Prefix) (q0:Prefix):Option Int:=
 (Zgu p0 q0).bind fun x_3=>bif x_3 then (some (-1:Int)) else ((Zgu q0 p0).bind fun x_4=>bif x_4 then (some (1:Int)) else (some (0:Int)))
instance delta_order_c:Fd2 111 Zf3 fun r=>D r:=en2 Tryz.func111 rfl Tryz.ntmps111 fun _ _ _ _ _ _ H=>by
 unfold Zf3 at H;exact zY H
def Ze1 (t_4:(List Route)) (u_5:(List Route)) (l_7:(List Change)):Option (((List Route)×(List Route)×(List Change))⊕(List Change)):=
 bif ((decide ((t_4.length:Int)>(0:Int)))||(decide ((u_5.length:Int)>(0:Int)))) then ((bif (decide ((u_5.length:Int)=(0:Int))) then (some (-1:Int)) else (bif (decide ((t_4.length:Int)=(0:Int))) then (some (1:Int)) else ((idx t_4 0).bind fun x_11=>(idx u_5 0).bind fun x_12=>(Zf3 x_11.Prefix x_12.Prefix).bind fun x_13=>some x_13))).bind fun which_9=>(bif (decide (which_9<(0:Int))) then ((idx t_4 0).bind fun x_17=>(Zc5 48 ((l_7.length+([(⟨x_17,true⟩:Change)]:List Change).length:Nat):Int)).bind fun u_19=>(some ((l_7++([(⟨x_17,true⟩:Change)]:List Change)):(List Change))).bind fun l_20=>some l_20) else ((gb (!(decide (which_9>(0:Int)))) (idx t_4 0)).bind fun x_21=>(gb (!(decide (which_9>(0:Int)))) (idx u_5 0)).bind fun x_22=>bif ((decide (which_9>(0:Int)))||(decide (x_21.Hop≠x_22.Hop))) then ((idx u_5 0).bind fun x_23=>(Zc5 48 ((l_7.length+([(⟨x_23,false⟩:Change)]:List Change).length:Nat):Int)).bind fun u_25=>(some ((l_7++([(⟨x_23,false⟩:Change)]:List Change)):(List Change))).bind fun l_26=>some l_26) else (some l_7))).bind fun l_15=>(bif (decide (which_9≤(0:Int))) then ((cut t_4.length (1:Int) t_4.length).bind fun u_29=>(some ((t_4.drop (Int.toNat (1:Int))):(List Route))).bind fun t_30=>some t_30) else (some t_4)).bind fun t_27=>bif (decide (which_9≥(0:Int))) then ((cut u_5.length (1:Int) u_5.length).bind fun u_31=>(some ((u_5.drop (Int.toNat (1:Int))):(List Route))).bind fun u_32=>some (.inl (t_27,u_32,l_15))) else (some (.inl (t_27,u_5,l_15)))) else (some (.inr l_7))
def Zc8 (t0:(List Route)) (u0:(List Route)):Option (List Change):=
 (ZM (fun s=>Ze1 s.1 s.2.1 s.2.2) (t0,u0,[])).bind fun l_2=>some l_2
instance delta_changes_c:Fd2 62 Zc8 fun r=>D r:=en2 Tryz.func62 rfl Tryz.ntmps62 fun A w hA t0 u0 r H=>by
 unfold Zc8 at H;refine zC ?_;refine zC ?_;refine Zao ?_;refine zh H fun o_3 H3 H=>?_
 refine Zn (fun s:(List Change)=>o_3=s) (fun (l_2:(List Change)) (⟨b_0,p_0,c_0⟩:Nat×Prop×Nat)=>(Env.set Env.nil 5 (Sl b_0 p_0 0 l_2.length c_0))) (fun (l_2:(List Change)) (⟨b_0,p_0,c_0⟩:Nat×Prop×Nat)=>[⟨b_0,p_0,(Row (l_2:List Change) c_0)⟩]) ?_ ?_
 ·skip;refine Zp<|Zt H3 (fun ⟨t_4,u_5,l_7⟩ (⟨b_5,p_5,c_5⟩:Nat×Prop×Nat)=>(Env.set (Env.set (Env.set Env.nil 0 (D t_4)) 1 (D u_5)) 5 (Sl b_5 p_5 0 l_7.length c_5))) (fun ⟨t_4,u_5,l_7⟩ (⟨b_5,p_5,c_5⟩:Nat×Prop×Nat)=>[⟨b_5,p_5,(Row (l_7:List Change) c_5)⟩]) ⟨0,False,0⟩ (Zj Zcy (Za (Za (Zd _)))) (Zbc (Ze _)) ?_;rintro ⟨t_4,u_5,l_7⟩ ⟨b_5,p_5,c_5⟩ x_8 H8 he8;dsimp only at H8;unfold Ze1 at H8;refine zg ?_;refine zc H8 (fun hc H8=>?_) fun hc H8=>?_
  ·refine zC ?_;refine Zao ?_;refine zh H8 fun o_10 H10 H8=>?_
   refine Zn (fun s:Int=>o_10=s) (fun (which_9:Int) (_:Unit)=>(Env.set (Env.set (Env.set (Env.set Env.nil 0 (D t_4)) 1 (D u_5)) 5 (Sl b_5 p_5 0 l_7.length c_5)) 6 (D which_9))) (fun (which_9:Int) (_:Unit)=>[⟨b_5,p_5,(Row (l_7:List Change) c_5)⟩]) ?_ ?_
   ·skip;refine zg ?_;refine zc H10 (fun hc H10=>?_) fun hc H10=>?_
    ·refine zg ?_;exact Zk (-1:Int) () (ZZs H10) (Za (Zj (Zz rfl) (Za (Za (Zd _))))) (Zc rfl (Ze _))
    ·refine zg ?_;refine zc H10 (fun hc H10=>?_) fun hc H10=>?_
     ·refine zg ?_;exact Zk (1:Int) () (ZZs H10) (Za (Zj (Zz rfl) (Za (Za (Zd _))))) (Zc rfl (Ze _))
     ·refine zX (TC.regD0 mix (by kernel_rfl)) ?_;refine zb H10 fun _ _ H10=>?_
      refine zb H10 fun _ _ H10=>?_
      refine zb H10 fun x_13 _ H10=>?_
      exact Zk x_13 () (ZZs H10) (Za (Zj (Zz rfl) (Za (Za (Zd _))))) (Zc rfl (Ze _))
   rintro which_9 ⟨⟩ hp;replace hp:=hp.symm;subst hp;refine Zak<|Zao ?_;refine zh H8 fun o_16 H16 H8=>?_
   refine Zn (fun s:(List Change)=>o_16=s) (fun (l_15:(List Change)) (⟨b_13,p_13,c_13⟩:Nat×Prop×Nat)=>(Env.set (Env.set (Env.set (Env.set Env.nil 0 (D t_4)) 1 (D u_5)) 5 (Sl b_13 p_13 0 l_15.length c_13)) 6 (D which_9))) (fun (l_15:(List Change)) (⟨b_13,p_13,c_13⟩:Nat×Prop×Nat)=>[⟨b_13,p_13,(Row (l_15:List Change) c_13)⟩]) ?_ ?_
   ·skip;refine zg ?_;refine zc H16 (fun hc H16=>?_) fun hc H16=>?_
    ·refine zg ?_;refine zb H16 fun x_17 _ H16=>?_
     refine TSx (tB (⟨x_17,true⟩:Change) rfl rfl) ?_;refine TSx (OpY.buildSlice [.tmp 39] rfl rfl (by decide)) ?_;refine zn H16 fun _ eu_19 H16=>?_
     refine TS.app (ys:=([(⟨x_17,true⟩:Change)]:List Change)) inferInstance eu_19.h rfl rfl rfl fun b41_17 p41_17 c41_17=>?_
     refine zE ?_;refine zn H16 fun l_20 el_20 H16=>?_
     refine Zac b41_17 (ZY el_20.h) ?_;refine zX (ZbL 5 _ (ZaK el_20.h rfl)) ?_;exact Zk l_20 ⟨b41_17,p41_17,c41_17⟩ (ZZs H16) (Za (Zj (Zz rfl) (Za (Za (Zd _))))) (Zc rfl (Ze _))
    ·refine zg ?_;refine zd H16 fun _ _ H16=>?_
     refine zd H16 fun _ _ H16=>?_
     refine zX (TR.g 45 rfl (fun hg=>OpY.neq16) rfl) ?_;refine zc H16 (fun hc H16=>?_) fun hc H16=>?_
     ·refine zg ?_;refine zb H16 fun x_23 _ H16=>?_
      refine TSx (tB (⟨x_23,false⟩:Change) rfl rfl) ?_;refine TSx (OpY.buildSlice [.tmp 60] rfl rfl (by decide)) ?_;refine zn H16 fun _ eu_25 H16=>?_
      refine TS.app (ys:=([(⟨x_23,false⟩:Change)]:List Change)) inferInstance eu_25.h rfl rfl rfl fun b62_23 p62_23 c62_23=>?_
      refine zE ?_;refine zn H16 fun l_26 el_26 H16=>?_
      refine Zac b62_23 (ZY el_26.h) ?_;refine zX (ZbL 5 _ (ZaK el_26.h rfl)) ?_;exact Zk l_26 ⟨b62_23,p62_23,c62_23⟩ (ZZs H16) (Za (Zj (Zz rfl) (Za (Za (Zd _))))) (Zc rfl (Ze _))
     ·refine zg ?_;exact Zk l_7 ⟨b_5,p_5,c_5⟩ (ZZs H16) (Za (Zj (Zz rfl) (Za (Za (Zd _))))) (Zc rfl (Ze _))
   rintro l_15 ⟨b_13,p_13,c_13⟩ hp;replace hp:=hp.symm;subst hp;refine Zak<|Zao ?_;refine zh H8 fun o_28 H28 H8=>?_
   refine Zn (fun s:(List Route)=>o_28=s) (fun (t_27:(List Route)) (_:Unit)=>(Env.set (Env.set (Env.set (Env.set Env.nil 0 (D t_27)) 1 (D u_5)) 5 (Sl b_13 p_13 0 l_15.length c_13)) 6 (D which_9))) (fun (t_27:(List Route)) (_:Unit)=>[⟨b_13,p_13,(Row (l_15:List Change) c_13)⟩]) ?_ ?_
   ·skip;refine zg ?_;refine zc H28 (fun hc H28=>?_) fun hc H28=>?_
    ·refine zg ?_;refine zo H28 fun _ _ H28=>?_
     refine zE ?_;refine zn H28 fun t_30 et_30 H28=>?_
     exact ZbL 0 (D t_30) (nm_cv et_30.h)<|Zk t_30 () (ZZs H28) (Za (Zj (Zz rfl) (Za (Za (Zd _))))) (Zc rfl (Ze _))
    ·refine zg ?_;exact Zk t_4 () (ZZs H28) (Za (Zj (Zz rfl) (Za (Za (Zd _))))) (Zc rfl (Ze _))
   rintro t_27 ⟨⟩ hp;replace hp:=hp.symm;subst hp;refine zg ?_;refine zc H8 (fun hc H8=>?_) fun hc H8=>?_
   ·refine zg ?_;refine zo H8 fun _ _ H8=>?_
    refine zE ?_;refine zn H8 fun u_32 eu_32 H8=>?_
    refine zX (ZbL 1 (D u_32) (nm_cv eu_32.h)) ?_;exact Zq ⟨t_27,u_32,l_15⟩ ⟨b_13,p_13,c_13⟩ (ZZs H8) (Zj (Zz rfl) (Za (Za (Zd _)))) (Zc rfl (Ze _))
   ·refine zg ?_;exact Zq ⟨t_27,u_5,l_15⟩ ⟨b_13,p_13,c_13⟩ (ZZs H8) (Zj (Zz rfl) (Za (Za (Zd _)))) (Zc rfl (Ze _))
  ·refine zg ?_;exact Zk l_7 ⟨b_5,p_5,c_5⟩ (he8 _ (ZZs H8)).symm (Zj (Zz rfl) (Zd _)) (Zc rfl (Ze _))
 rintro l_2 ⟨b_0,p_0,c_0⟩ hp;replace hp:=hp.symm;subst hp;refine zC ?_;refine ZN<|TE.pub b_0 (PubE.set 4 (ZG PlS.all rfl) PubE.refl) ?_;exact zY H
def Zfw (t0:(List Route)) (u0:(List Route)):Option ((List Change)×Int):=
 (ZaQ t0).bind fun x_1=>(gb (!(!x_1)) (ZaQ u0)).bind fun x_2=>bif ((!x_1)||(!x_2)) then (some (([]:List Change),(1:Int))) else ((Zc8 t0 u0).bind fun x_3=>some (x_3,(0:Int)))
instance delta_Diff_c:Fd2 20 Zfw fun r=>Tup [D r.1,D r.2]:=en2 Tryz.func20 rfl Tryz.ntmps20 fun _ _ _ _ _ _ H=>by
 unfold Zfw at H;exact zY H
def ZeQ (l0:(List Change)) (x_2:Int):Option (Int⊕(Unit⊕Bool)):=
 bif (decide (x_2<(l0.length:Int))) then ((idx l0 x_2).bind fun x_4=>(ZgL x_4.Route.Prefix).bind fun x_6=>bif (!x_6) then (some (.inr (.inr false))) else ((Zat x_2 1).bind fun x_8=>some (.inl x_8))) else (some (.inr (.inl ())))
def Zil (l0:(List Change)):Option Bool:=
 (ZM (fun s=>ZeQ l0 s) (0:Int)).bind fun o_1=>elS o_1 (fun _=>some true) (fun q=>some q)
instance delta_may_c:Fd1 112 Zil fun r=>D r:=en1 Tryz.func112 rfl Tryz.ntmps112 fun A w hA l0 r H=>by
 unfold Zil at H;refine zC ?_;refine zC ?_;refine zh H fun o_1 H1 H=>?_
 refine Zn (fun s:Unit=>o_1=.inl s) (fun (_:Unit) (_:Unit)=>Env.nil) (fun (_:Unit) (_:Unit)=>[]) ?_ ?_
 ·skip;refine Zp<|Zt H1 (fun (x_2:Int) (_:Unit)=>(Env.set (Env.set (Env.set Env.nil 5 (D l0)) 6 (D ((l0.length:Int):Int))) 7 (D x_2))) (fun (x_2:Int) (_:Unit)=>[]) () (Za (Za (Za (Zd _)))) (Ze _) ?_;rintro x_2 ⟨⟩ x_3 H3 he3;unfold ZeQ at H3;refine zg ?_;refine zc H3 (fun hc H3=>?_) fun hc H3=>?_
  ·refine zg ?_;refine zb H3 fun _ _ H3=>?_
   refine TS.alloc rfl fun b4_4=>zg ?_
   refine zb H3 fun _ _ H3=>?_
   refine zc H3 (fun hc H3=>?_) fun hc H3=>?_
   ·refine zC ?_;refine ZN<|Zg<|Zh<|Zh<|Zg<|Zv ?_;have R6:=ZaW (he3 _ (ZZs H3)) H;refine zg ?_;obtain rfl:=ZZi R6;exact ZbM rfl Cv.le
   ·refine zg ?_;refine zb H3 fun x_8 _ H3=>?_
    exact Zq x_8 () (ZZs H3) (Za (Za (Za (Zd _)))) (Ze _)
  ·refine zg ?_;exact Zk () () (he3 _ (ZZs H3)).symm (Zd _) (Ze _)
 rintro ⟨⟩ ⟨⟩ hp;replace H:=Zcd hp H;exact zY H
def Zgw (t0:(List Route)) (l0:(List Change)):Option ((List Route)×Int):=
 (ZaQ t0).bind fun x_1=>(gb (!(!x_1)) (Zil l0)).bind fun x_2=>bif ((!x_1)||(!x_2)) then (some (([]:List Route),(1:Int))) else ((Zef t0 l0).bind fun r_3=>some (r_3.1,r_3.2))
instance delta_behind_c:Fd2 63 Zgw fun r=>Tup [D r.1,D r.2]:=en2 Tryz.func63 rfl Tryz.ntmps63 fun _ _ _ _ _ _ H=>by
 unfold Zgw at H;exact zY H
def Zhd (t0:(List Route)) (l0:(List Change)):Option ((List Change)×Int):=
 (Zgw t0 l0).bind fun r_1=>bif (decide (r_1.2≠(0:Int))) then (some (([]:List Change),r_1.2)) else ((Zc8 r_1.1 t0).bind fun x_2=>some (x_2,(0:Int)))
instance delta_Undo_c:Fd2 21 Zhd fun r=>Tup [D r.1,D r.2]:=en2 Tryz.func21 rfl Tryz.ntmps21 fun _ _ _ _ _ _ H=>by
 unfold Zhd at H;exact zY H
end Go.Proofs.YtkmojgfenlgchaaGreatDoor.Tr
namespace Go.Proofs.YtkmojgfenlgchaaGreatDoor.Tr
open Go
set_option maxRecDepth 100000
theorem order_eq (p q:Prefix):Zf3 p q=some (if PL p q then -1 else if PL q p then 1 else 0):=by
 unfold Zf3;rw [ZhA,Zb]
 by_cases h:PL p q
 ·rw [decide_eq_true h,Zs,if_pos h]
 ·rw [decide_eq_false h,Zo,ZhA,Zb,if_neg h]
  by_cases h2:PL q p
  ·rw [decide_eq_true h2,Zs,if_pos h2]
  ·rw [decide_eq_false h2,Zo,if_neg h2]
theorem Zkp (t:List Route) (c:Change):∀ (l:List Change) (u:List Route),(ZhO t u l).2=0→(ZkB (ZhO t u l).1 c).2=0→ZhO t u (l++[c])=((ZkB (ZhO t u l).1 c).1,0)
 | [],u,_,h2=>by
  have h2:(ZkB u c).2=0:=h2;show (if (ZkB u c).2=0 then ZhO t (ZkB u c).1 [] else (t,(ZkB u c).2))=_;rw [if_pos h2];rfl
 | d::l,u,h1,h2=>by
  rw [List.cons_append,Zkq];rw [Zkq] at h1 h2
  by_cases hc:(ZkB u d).2=0
  ·rw [if_pos hc] at h1 h2;rw [if_pos hc,Zkq,if_pos hc];exact Zkp t c l _ h1 h2
  ·rw [if_neg hc] at h1;exact absurd h1 hc
theorem chg_del {x:List Route} (h:TbR x) {a:Route} (ha:a∈x):(ZkB x ⟨a,true⟩).2=0:=by
 unfold ZkB;rw [if_neg (fun h2=>h2 (h.may a ha)),if_pos rfl,if_pos ⟨a,ha,rfl⟩]
theorem chg_put {x:List Route} {r:Route} (hp:PM r.Prefix) (hl:x.length<256):(ZkB x ⟨r,false⟩).2=0:=by
 unfold ZkB;rw [if_neg (fun h2=>h2 hp),if_neg (by simp)]
 by_cases hh:HasP x r.Prefix
 ·rw [if_pos hh]
 ·rw [if_neg hh,if_neg (by omega)]
theorem TbR.mid {a b:List Route} {r:Route} (hl:(a++r::b).length≤256) (ha:TbR (a++b)) (hr:PM r.Prefix) (h1:∀ x∈a,PL x.Prefix r.Prefix) (h2:∀ x∈b,PL r.Prefix x.Prefix):TbR (a++r::b):=by
 have hs:=List.pairwise_append.1 ha.srt;refine ⟨hl,fun x hx=>?_,List.pairwise_append.2 ⟨hs.1,List.pairwise_cons.2 ⟨h2,hs.2.1⟩,fun x hx y hy=>?_⟩⟩
 ·rcases List.mem_append.1 hx with h | h
  ·exact ha.may x (List.mem_append_left _ h)
  ·rcases List.mem_cons.1 h with rfl | h
   ·exact hr
   ·exact ha.may x (List.mem_append_right _ h)
 ·rcases List.mem_cons.1 hy with rfl | hy
  ·exact h1 x hx
  ·exact hs.2.2 x hx y hy
theorem TbR.tail {a b:List Route} {r:Route} (h:TbR (a++r::b)):TbR (a++b)∧PM r.Prefix∧(∀ x∈a,PL x.Prefix r.Prefix)∧∀ x∈b,PL r.Prefix x.Prefix:=by
 have hs:=List.pairwise_append.1 h.srt;refine ⟨h.sub (List.Sublist.append (List.Sublist.refl _) (List.sublist_cons_self ..)),h.may r (by simp),fun x hx=>hs.2.2 x hx r (by simp),(List.pairwise_cons.1 hs.2.1).1⟩
structure DI (t u ts us u1:List Route) (l:List Change):Prop where
 tu:u=u1++us
 rt:TbR (u1++ts)
 ap:ZhO t t l=(u1++ts,0)
 may:∀ c∈l,PM c.Route.Prefix
 len:l.length+ts.length+us.length≤t.length+u.length
 ll:u1.length+ts.length≤t.length+u.length
 sz:ts.length≤t.length
theorem DI.gone {t u ts us u1:List Route} {l:List Change} {a:Route} (h:DI t u (a::ts) us u1 l):DI t u ts us u1 (l++[⟨a,true⟩]):=by
 obtain ⟨h1,h2,h3,h4,h5,h6,h7⟩:=h;obtain ⟨k1,k2,k3,k4⟩:=h2.tail;have hd:=chg_del h2 (a:=a) (by simp);obtain ⟨g1,g2⟩:=chg_ok h2 hd;have e:(ZkB (u1++a::ts) ⟨a,true⟩).1=u1++ts:=g1.ext k1 fun r=>by
  rw [g2,List.mem_append,List.mem_append,List.mem_cons]
  constructor
  ·rintro (⟨h,-⟩ | ⟨h | h | h,hn⟩)
   ·cases h
   ·exact .inl h
   ·exact absurd (by rw [h]) hn
   ·exact .inr h
  ·rintro (h | h)
   ·exact .inr ⟨.inl h,(k3 r h).ne⟩
   ·exact .inr ⟨.inr (.inr h),(k4 r h).ne.symm⟩
 refine ⟨h1,k1,?_,fun c hc=>?_,by simp at h5 ⊢;omega,by simp at h6;omega,by simp at h7;omega⟩
 ·have:=Zkp t ⟨a,true⟩ l t (by rw [h3]) (by rw [h3];exact hd);rw [this,h3,e]
 ·rcases List.mem_append.1 hc with hc | hc
  ·exact h4 c hc
  ·rw [List.mem_singleton.1 hc];exact k2
theorem DI.put {t u ts us u1:List Route} {l:List Change} {b:Route} (hu:TbR u) (hb:t.length+u.length≤255) (h:DI t u ts (b::us) u1 l) (hlt:∀ x∈ts,PL b.Prefix x.Prefix):DI t u ts us (u1++[b]) (l++[⟨b,false⟩]):=by
 obtain ⟨h1,h2,h3,h4,h5,h6,h7⟩:=h;rw [h1] at hu;obtain ⟨k1,k2,k3,k4⟩:=hu.tail;have hlen:(u1++b::ts).length≤256:=by
  have:=congrArg List.length h1;simp at this h5 ⊢;omega
 have hr:=TbR.mid hlen h2 k2 k3 hlt;have hd:=chg_put (x:=u1++ts) k2 (by simp at hlen ⊢;omega);obtain ⟨g1,g2⟩:=chg_ok h2 hd;have e:(ZkB (u1++ts) ⟨b,false⟩).1=u1++b::ts:=g1.ext hr fun r=>by
  rw [g2,List.mem_append,List.mem_append,List.mem_cons]
  constructor
  ·rintro (⟨-,h⟩ | ⟨h | h,hn⟩)
   ·exact .inr (.inl h)
   ·exact .inl h
   ·exact .inr (.inr h)
  ·rintro (h | h | h)
   ·exact .inr ⟨.inl h,(k3 r h).ne⟩
   ·exact .inl ⟨rfl,h⟩
   ·exact .inr ⟨.inr h,(hlt r h).ne.symm⟩
 have ea:(u1++[b])++ts=u1++b::ts:=by rw [List.append_assoc];rfl
 refine ⟨by rw [h1,List.append_assoc];rfl,by rw [ea];exact hr,?_,fun c hc=>?_,by simp at h5 ⊢;omega,?_,h7⟩
 ·have:=Zkp t ⟨b,false⟩ l t (by rw [h3]) (by rw [h3];exact hd);rw [this,h3,e,ea]
 ·rcases List.mem_append.1 hc with hc | hc
  ·exact h4 c hc
  ·rw [List.mem_singleton.1 hc];exact k2
 ·have:=congrArg List.length h1;simp at this ⊢;omega
theorem DI.same {t u ts us u1:List Route} {l:List Change} {a:Route} (h:DI t u (a::ts) (a::us) u1 l):DI t u ts us (u1++[a]) l:=by
 obtain ⟨h1,h2,h3,h4,h5,h6,h7⟩:=h;have ea:(u1++[a])++ts=u1++a::ts:=by rw [List.append_assoc];rfl
 exact ⟨by rw [h1,List.append_assoc];rfl,by rw [ea];exact h2,by rw [ea];exact h3,h4,by simp at h5;omega,by simp at h6 ⊢;omega,by simp at h7;omega⟩
theorem DI.hop {t u ts us u1:List Route} {l:List Change} {a b:Route} (hb:t.length+u.length≤255) (h:DI t u (a::ts) (b::us) u1 l) (e:a.Prefix=b.Prefix):DI t u ts us (u1++[b]) (l++[⟨b,false⟩]):=by
 obtain ⟨h1,h2,h3,h4,h5,h6,h7⟩:=h;obtain ⟨k1,k2,k3,k4⟩:=h2.tail;rw [e] at k2 k3 k4;have hr:TbR (u1++b::ts):=TbR.mid (by have:=h2.len;simp at this ⊢;omega) k1 k2 k3 k4;have hd:=chg_put (x:=u1++a::ts) k2 (by simp at h6 ⊢;omega);obtain ⟨g1,g2⟩:=chg_ok h2 hd;have ee:(ZkB (u1++a::ts) ⟨b,false⟩).1=u1++b::ts:=g1.ext hr fun r=>by
  rw [g2,List.mem_append,List.mem_append,List.mem_cons,List.mem_cons]
  constructor
  ·rintro (⟨-,h⟩ | ⟨h | h | h,hn⟩)
   ·exact .inr (.inl h)
   ·exact .inl h
   ·exact absurd (by rw [h,e]) hn
   ·exact .inr (.inr h)
  ·rintro (h | h | h)
   ·exact .inr ⟨.inl h,(k3 r h).ne⟩
   ·exact .inl ⟨rfl,h⟩
   ·exact .inr ⟨.inr (.inr h),(k4 r h).ne.symm⟩
 have ea:(u1++[b])++ts=u1++b::ts:=by rw [List.append_assoc];rfl
 refine ⟨by rw [h1,List.append_assoc];rfl,by rw [ea];exact hr,?_,fun c hc=>?_,by simp at h5 ⊢;omega,by simp at h6 ⊢;omega,by simp at h7;omega⟩
 ·have:=Zkp t ⟨b,false⟩ l t (by rw [h3]) (by rw [h3];exact hd);rw [this,h3,ee,ea]
 ·rcases List.mem_append.1 hc with hc | hc
  ·exact h4 c hc
  ·rw [List.mem_singleton.1 hc];exact k2
def Makes (t u:List Route) (l:List Change):Prop:=ZhO t t l=(u,0)∧l.length≤t.length+u.length∧∀ c∈l,PM c.Route.Prefix
theorem room48 {α:Type} {l:List α} {c:α} (h:l.length≤1000):Zc5 48 ((l.length+[c].length:Nat):Int)=some ():=Zav (by omega) (by simp;omega) (by simp;omega)
theorem ZmF {t u:List Route} (ht:TbR t) (hu:TbR u) (hb:t.length+u.length≤255):ZeH (Zc8 t u) (Makes t u):=by
 unfold Zc8;refine ZeH.b (ZeH.loop (σ:=List Route×List Route×List Change) (R:=Makes t u) (fun s=>∃ u1,DI t u s.1 s.2.1 u1 s.2.2) (fun s=>s.1.length+s.2.1.length) (fun s hs=>?_) ⟨[],rfl,ht,rfl,fun c hc=>absurd hc (by simp),by simp,by simp,by simp⟩ (by show t.length+u.length<_;omega)) fun l hl=>ZeH.s hl
 obtain ⟨ts,us,l⟩:=s;obtain ⟨u1,h⟩:=hs;dsimp only at h ⊢;have hll:l.length≤1000:=by have:=h.len;omega
 have c1:cut (1+0) (1:Int) ((1+0:Nat):Int)=some ():=rfl;unfold Ze1
 match ts,us,h with
 | [],[],h=>
  rw [Zf (by decide)];refine Za5 ⟨?_,by have:=h.len;simp at this;omega,h.may⟩;rw [h.ap,h.tu,List.append_nil]
 | a::ts,[],h=>
  rw [Zi (by simp),Zi (by decide),Zb,Zi (by decide),show idx (a::ts) (0:Int)=some a from rfl,Zb,room48 hll,Zb,Zb,Zb,Zi (by decide),Zdb (by omega) (by simp;omega) (by omega),Zb,Zb,Zb,Zf (by decide)];exact ZeH.l ⟨u1,h.gone⟩ (by simp)
 | [],b::us,h=>
  rw [Zi (by simp),Zf (by simp;omega),Zi (by decide),Zb,Zf (by decide),show decide ((1:Int)>0)=true from rfl,Bool.not_true,Zbd,Zb,Zbd,Zb,Zi (by simp),show idx (b::us) (0:Int)=some b from rfl,Zb,room48 hll,Zb,Zb,Zb,Zf (by decide),Zb,Zi (by decide),Zdb (by omega) (by simp;omega) (by omega),Zb,Zb];exact ZeH.l ⟨_,h.put hu hb fun x hx=>absurd hx (by simp)⟩ (by simp)
 | a::ts,b::us,h=>
  have ka:=h.rt.tail;have hu2:=hu;rw [h.tu] at hu2;have kb:=hu2.tail;rw [Zi (by simp),Zf (by simp;omega),Zf (by simp;omega),show idx (a::ts) (0:Int)=some a from rfl,Zb,show idx (b::us) (0:Int)=some b from rfl,Zb,order_eq,Zb,Zb];have cta:cut (a::ts).length (1:Int) ((a::ts).length:Int)=some ():=Zdb (by omega) (by simp;omega) (by omega);have cub:cut (b::us).length (1:Int) ((b::us).length:Int)=some ():=Zdb (by omega) (by simp;omega) (by omega)
  by_cases h1:PL a.Prefix b.Prefix
  ·rw [if_pos h1,Zi (by decide),Zb,room48 hll,Zb,Zb,Zb,Zi (by decide),cta,Zb,Zb,Zb,Zf (by decide)];exact ZeH.l ⟨u1,h.gone⟩ (by simp)
  ·rw [if_neg h1]
   by_cases h2:PL b.Prefix a.Prefix
   ·rw [if_pos h2,Zf (by decide),show decide ((1:Int)>0)=true from rfl,Bool.not_true,Zbd,Zb,Zbd,Zb,Zi (by simp),Zb,room48 hll,Zb,Zb,Zb,Zf (by decide),Zb,Zi (by decide),cub,Zb,Zb];refine ZeH.l ⟨_,h.put hu hb fun x hx=>?_⟩ (by simp);rcases List.mem_cons.1 hx with rfl | hx
    ·exact h2
    ·exact h2.tr (ka.2.2.2 x hx)
   ·have e:a.Prefix=b.Prefix:=by
     rcases PL.tri ka.2.1 kb.2.1 with h3 | h3 | h3
     ·exact absurd h3 h1
     ·exact h3
     ·exact absurd h3 h2
    rw [if_neg h2,Zf (by decide),show decide ((0:Int)>0)=false from rfl,Bool.not_false,ZaL,Zb,ZaL,Zb,Bool.false_or]
    by_cases hh:a.Hop=b.Hop
    ·have eab:a=b:=by
      obtain ⟨p,q⟩:=a;obtain ⟨p',q'⟩:=b;dsimp only at e hh;rw [e,hh]
     subst eab;rw [Zf (by simp),Zb,Zi (by decide),cta,Zb,Zb,Zb,Zi (by decide),cub,Zb,Zb];exact ZeH.l ⟨_,h.same⟩ (by simp;omega)
    ·rw [Zi (by simpa using hh),Zb,room48 hll,Zb,Zb,Zb,Zi (by decide),cta,Zb,Zb,Zb,Zi (by decide),cub,Zb,Zb];exact ZeH.l ⟨_,h.hop hb e⟩ (by simp;omega)
theorem diff_get {t u:List Route} (ht:TbR t) (hu:TbR u) (hb:t.length+u.length≤255):ZeH (Zfw t u) (fun r=>r.2=0∧Makes t u r.1):=by
 unfold Zfw;rw [ht.right,Zb,Bool.not_true,Bool.not_false,ZaL,hu.right,Zb,Bool.not_true,Bool.or_self,Zo];exact ZeH.b (ZmF ht hu hb) fun l hl=>ZeH.s ⟨rfl,hl⟩
theorem may_eq {l:List Change} (h:∀ c∈l,PM c.Route.Prefix) (hl:l.length≤1000000):Zil l=some true:=by
 unfold Zil;rw [Zg4 (f:=fun s=>ZeQ l s) l (fun _=>true) (by omega) (fun i hi=>by
  unfold ZeQ;rw [ZeU hi,Zs,ZB hi,Zb,Zg6,Zb,decide_eq_true (h _ (List.getElem_mem hi)),Bool.not_true,Zo,ZR (by omega),Zb,if_pos rfl]) (by unfold ZeQ;rw [Zjf,Zo]),Zb,if_pos (by simp),Zaw]
theorem undo_get {t u:List Route} {l:List Change} (ht:TbR t) (hu:TbR u) (hb:t.length+u.length≤255) (hm:Makes t u l):ZeH (Zhd t l) (fun r=>r.2=0∧Makes u t r.1):=by
 obtain ⟨m1,m2,m3⟩:=hm;unfold Zhd Zgw;rw [ht.right,Zb,Bool.not_true,Bool.not_false,ZaL,may_eq m3 (by omega),Zb,Bool.not_true,Bool.or_self,Zo,apply_eq ht (by omega),Zb,m1,Zb,Zf (by simp)];exact ZeH.b (ZmF (t:=u) (u:=t) hu ht (by rw [Nat.add_comm];exact hb)) fun l hl=>ZeH.s ⟨rfl,hl⟩
end Go.Proofs.YtkmojgfenlgchaaGreatDoor.Tr
namespace Go.Proofs.YtkmojgfenlgchaaGreatDoor.Tr
open Go Go.RowKit
set_option maxRecDepth 100000
set_option synthInstance.maxHeartbeats 400000
set_option synthInstance.maxSize 4096
def ZdV (blocks0:UInt8) (pages0:UInt8) (t0:(List Route)):Option (Fib×Bool):=
 (Zat ((blocks0 % (UInt8.ofNat 7)).toNat:Int) (5:Int)).bind fun x_2=>(Zat ((pages0 % (UInt8.ofNat 7)).toNat:Int) (2:Int)).bind fun x_3=>(ZhL x_2 x_3 (64:Int)).bind fun r_4=>(Zfv r_4.1).bind fun r_6=>(Zfw ([]:List Route) t0).bind fun r_8=>(gb (!((decide (r_6.2≠(0:Int)))||(decide (r_8.2≠(0:Int))))) (Zat ((blocks0 % (UInt8.ofNat 7)).toNat:Int) (5:Int))).bind fun x_9=>(gb (!((decide (r_6.2≠(0:Int)))||(decide (r_8.2≠(0:Int))))) (Zat ((pages0 % (UInt8.ofNat 7)).toNat:Int) (2:Int))).bind fun x_10=>(gb (!((decide (r_6.2≠(0:Int)))||(decide (r_8.2≠(0:Int))))) (ZhE x_9 x_10 (64:Int))).bind fun x_11=>bif (((decide (r_6.2≠(0:Int)))||(decide (r_8.2≠(0:Int))))||(decide ((t0.length:Int)>x_11))) then (some (r_6.1,false)) else ((ZdP r_6.1 r_8.1).bind fun r_12=>some (r_12.1,(decide (r_12.2=(0:Int)))))
instance bywaytop_made_c:Fd3 19 ZdV fun r=>Tup [D r.1,D r.2]:=en3 Tryz.func19 rfl Tryz.ntmps19 fun A w hA blocks0 pages0 t0 r H=>by
 unfold ZdV at H;refine zg ?_;refine TS.alloc rfl fun b6_0=>zg ?_
 refine zX (ZaZ (ZiW (by decide)) rfl) ?_;refine zb H fun _ _ H=>?_
 refine zX (ZaZ (ZiW (by decide)) rfl) ?_;refine zb H fun _ _ H=>?_
 refine zb H fun _ _ H=>?_
 refine TS.alloc rfl fun b8_4=>zg ?_
 refine zb H fun _ _ H=>?_
 refine TS.alloc rfl fun b10_6=>zg ?_
 refine zb H fun _ _ H=>?_
 refine zX (ZlE 43 rfl (fun hg=>(ZiW (by decide))) rfl) ?_;refine zd H fun _ _ H=>?_
 refine ZlE 43 rfl (fun hg=>(ZiW (by decide))) rfl ?_;exact zY H
def Zc9 (blocks0:UInt8) (pages0:UInt8) (t0:(List Route)) (u0:(List Route)):Option Bool:=
 (ZeF).bind fun x_1=>bif (!x_1) then (some false) else ((Zat ((blocks0 % (UInt8.ofNat 7)).toNat:Int) (5:Int)).bind fun x_2=>(Zat ((pages0 % (UInt8.ofNat 7)).toNat:Int) (2:Int)).bind fun x_3=>(ZhE x_2 x_3 (64:Int)).bind fun x_4=>(gb (!((decide ((t0.length:Int)>(60:Int)))||(decide ((u0.length:Int)>(60:Int))))) (ZaQ t0)).bind fun x_5=>(gb (!(((decide ((t0.length:Int)>(60:Int)))||(decide ((u0.length:Int)>(60:Int))))||(!x_5))) (ZaQ u0)).bind fun x_6=>bif ((((((decide ((t0.length:Int)>(60:Int)))||(decide ((u0.length:Int)>(60:Int))))||(!x_5))||(!x_6))||(decide ((t0.length:Int)>x_4)))||(decide ((u0.length:Int)>x_4))) then (some true) else ((ZdV blocks0 pages0 t0).bind fun r_7=>(Zfw t0 u0).bind fun r_9=>(Zhd t0 r_9.1).bind fun r_10=>bif (((!r_7.2)||(decide (r_9.2≠(0:Int))))||(decide (r_10.2≠(0:Int)))) then (some false) else ((ZdP r_7.1 r_9.1).bind fun r_11=>(ZeP r_11.1.Vol.Chip).bind fun r_13=>(ZdP r_13.1 r_10.1).bind fun r_15=>(ZeP r_15.1.Vol.Chip).bind fun r_17=>(gb ((((decide (r_11.2=(0:Int)))&&(decide (r_13.2=(0:Int))))&&(decide (r_15.2=(0:Int))))&&(decide (r_17.2=(0:Int)))) (Zcr r_13.1.Table u0)).bind fun x_19=>(gb (((((decide (r_11.2=(0:Int)))&&(decide (r_13.2=(0:Int))))&&(decide (r_15.2=(0:Int))))&&(decide (r_17.2=(0:Int))))&&x_19) (Zcr r_17.1.Table t0)).bind fun x_20=>some ((((((decide (r_11.2=(0:Int)))&&(decide (r_13.2=(0:Int))))&&(decide (r_15.2=(0:Int))))&&(decide (r_17.2=(0:Int))))&&x_19)&&x_20))))
theorem ZjE {A:Nat→Prop} {blocks0:UInt8} {pages0:UInt8} {t0:(List Route)} {u0:(List Route)}  {r:Bool} (w:World) (v0 v1 v2 v3:Value) (hA:∀ k,w.heap.size≤k→A k)  (h0:(D blocks0).p A w v0) (h1:(D pages0).p A w v1) (h2:(D t0).p A w v2) (h3:(D u0).p A w v3) (H:Zc9 blocks0 pages0 t0 u0=some r) :
    Calls Tryz.prog 4 #[v0,v1,v2,v3] w (Ret A w (D r)):=by
 unfold Zc9 at H;refine zX (enter4 hA Tryz.func4 rfl Tryz.ntmps4 rfl h0 h1 h2 h3) ?_;refine zn H fun _ ex_1 H=>?_
 refine zX (ZaZ (OpY.call0 fun w hA=>ZlD w hA ex_1.h) rfl) ?_;refine zc H (fun hc H=>?_) fun hc H=>?_
 ·exact zY H
 ·refine zg ?_;refine zX (ZaZ (ZiW (by decide)) rfl) ?_;refine zb H fun _ _ H=>?_
  refine TSx (ZiW (by decide)) ?_;exact zY H
end Go.Proofs.YtkmojgfenlgchaaGreatDoor.Tr
namespace Go.Proofs.YtkmojgfenlgchaaGreatDoor.Tr
open Go
set_option maxRecDepth 100000
structure NI (P nB:Nat) (f:Fib) (bod:List (List UInt8)) (t:List Route) (ops:Int):Prop where
 tab:f.Table=t
 fi:FI P nB f.Vol.Chip f.Vol.At f.Vol.Gen f.Vol.Last bod t
 nf:NF f.Vol.Chip
 idle:1≤ZaV P nB f.Vol.Chip f.Vol.At
 ops:f.Vol.Chip.Ops≤ops
theorem Zmx {P nB:Nat} (hg:Geo P nB 64) {f:Fib} {bod:List (List UInt8)} {t u:List Route} {ops:Int} (h:NI P nB f bod t ops) {l:List Change} (hl:l.length≤1000000) (ha:ZhO t t l=(u,0)) (hu:u.length≤ZhZ P nB) (hops:ops+20000000≤Zcz) :
  ZeH (ZdP f l) (fun r=>r.2=0∧∃ bod',NI P nB r.1 bod' u (ops+10000000)):=by
 obtain ⟨⟨c,at0,gen,last⟩,t'⟩:=f;obtain ⟨rfl,h2,h3,h4,h5⟩:=h;dsimp only at h2 h3 h4 h5;have hg2:=hg.b5;have hi:=ZeL hg;refine (fapply hg h2 hl (by omega)).m fun r hr=>?_
 have htr:TbR u:=by
  have:=app_ok (t:=t') (l:=l) h2.tr (by rw [ha]);rw [ha] at this;exact this
 rcases hr with ⟨g1,g2,g3⟩ | ⟨g1,g2,g3⟩
 ·rw [show ZhO (⟨⟨c,at0,gen,last⟩,t'⟩:Fib).Table (⟨⟨c,at0,gen,last⟩,t'⟩:Fib).Table l=(u,0) from ha] at g3;rcases g3 with g3 | ⟨g3,g4,g5⟩
  ·exact absurd g3.symm g2
  ·have g5:ZhZ P nB<u.length:=g5;omega
 ·rw [show ZhO (⟨⟨c,at0,gen,last⟩,t'⟩:Fib).Table (⟨⟨c,at0,gen,last⟩,t'⟩:Fib).Table l=(u,0) from ha] at g3;dsimp only at g3;have hnow:=now_table hg htr hu;rcases g3 with ⟨rfl,g4⟩ | ⟨v,e,rfl,g4⟩
  ·exact ⟨rfl,bod,rfl,⟨h2.vi,h2.len,by rw [g4];exact hnow,htr⟩,h3,h4,by show c.Ops≤_;omega⟩
  ·obtain ⟨w1,w2,w3,w4,w5⟩:=g4;dsimp only at w1 w2 w3 w4 w5;have hneed:=now_need (P:=P) (nB:=nB) (n:=Zh2 P nB) (old:=bod) (now:=nowB P nB u);have hm:2*Zh2 P nB≤(nB-3)*P:=Nat.le_trans hi.2.2 (Nat.mul_le_mul_right _ (by omega));have hal:=h2.len;obtain ⟨e0,e1,e2⟩:=w5 h3 h4 (by rw [hal,← Int.natCast_mul];omega);subst e0;rw [Zko h2.bl Zmr] at w4;rcases w4 with ⟨-,g⟩ | ⟨e5,-⟩ | ⟨e5,-⟩
   ·exact ⟨rfl,nowB P nB u,by rw [if_pos rfl],⟨g,by rw [g.gi.1,Zmr],hnow,htr⟩,⟨by rw [w3];exact h3.1,e1⟩,e2,by show v.Chip.Ops≤_;omega⟩
   ·exact absurd e5 (by decide)
   ·exact absurd e5 (by decide)
theorem NI.mount {P nB:Nat} (hg:Geo P nB 64) {f:Fib} {bod:List (List UInt8)} {t:List Route} {ops:Int} (h:NI P nB f bod t ops):ZeP f.Vol.Chip=some (f,0):=by
 obtain ⟨⟨c,at0,gen,last⟩,t'⟩:=f;obtain ⟨rfl,h2,h3,h4,h5⟩:=h;exact fmount_eq hg h2
theorem made_get (b p:UInt8) {t:List Route} (ht:TbR t) (h60:t.length≤60) (hm:t.length≤ZhZ (p.toNat % 7+2) (b.toNat % 7+5)) :
  ZeH (ZdV b p t) (fun r=>r.2=true∧∃ bod,NI (p.toNat % 7+2) (b.toNat % 7+5) r.1 bod t 10000010):=by
 have hg:=geo_of b.toNat p.toNat;unfold ZdV;rw [add_b,Zb,add_p,Zb,new_at,Zb];refine ZeH.b (fformat hg) fun r ⟨r1,r2,r3,r4,r5,r6⟩=>?_
 refine ZeH.b (diff_get TbR.nil ht (by simp;omega)) fun d ⟨d1,d2,d3,d4⟩=>?_
 rw [show decide (r.2≠(0:Int))=false by simp [r1],show decide (d.2≠(0:Int))=false by simp [d1],Bool.or_self,Bool.not_false,ZaL,Zb,ZaL,Zb,ZaL,Most_eq hg,Zb,Zf (by simp;omega)];have d3:d.1.length≤0+t.length:=d3;refine ZeH.b (Zmx hg (f:=r.1) (ops:=10) ⟨r2,r3,r4,r6,r5⟩ (l:=d.1) (by omega) d2 hm (by decide)) fun q ⟨q1,q2⟩=>?_
 exact ZeH.s ⟨by rw [q1];rfl,q2⟩
theorem topDelta_plain (b p:UInt8) (t u:List Route):Zc9 b p t u=some true:=by
 have hg:=geo_of b.toNat p.toNat;unfold Zc9;rw [works_ok,Zb,Bool.not_true,Zo,add_b,Zb,add_p,Zb,Most_eq hg,Zb,Zg7 (ZeA t),Zb,Zg7 (ZeA u),Zb]
 by_cases hc:t.length≤60∧u.length≤60∧TbR t∧TbR u∧t.length≤ZhZ (p.toNat % 7+2) (b.toNat % 7+5)∧u.length≤ZhZ (p.toNat % 7+2) (b.toNat % 7+5)
 ·obtain ⟨h1,h2,h3,h4,h5,h6⟩:=hc;rw [show decide ((t.length:Int)>60)=false by simp;omega,show decide ((u.length:Int)>60)=false by simp;omega,Zej.2 h3,Zej.2 h4];rw [Zf (by simp;omega)];refine Zgf (ZeH.b (made_get b p h3 h1 h5) fun r ⟨r1,bod,r2⟩=>?_);refine ZeH.b (diff_get h3 h4 (by omega)) fun d ⟨d1,d2⟩=>?_
  refine ZeH.b (undo_get h3 h4 (by omega) d2) fun k ⟨k1,k2⟩=>?_
  have dl:=d2.2.1;have kl:=k2.2.1;rw [Zf (by simp [r1,d1,k1])];refine ZeH.b (Zmx hg r2 (l:=d.1) (by omega) d2.1 h6 (by decide)) fun x ⟨x1,bx,x2⟩=>?_
  rw [x2.mount hg,Zb];dsimp only;refine ZeH.b (Zmx hg x2 (l:=k.1) (by omega) k2.1 h5 (by decide)) fun z ⟨z1,bz,z2⟩=>?_
  rw [z2.mount hg,Zb];dsimp only;rw [x1,z1,x2.tab,z2.tab,show ((((decide ((0:Int)=0))&&(decide ((0:Int)=0)))&&(decide ((0:Int)=0)))&&(decide ((0:Int)=0)))=true from rfl,ZaL,same3_eq _ _ (by omega),Zb,decide_eq_true rfl,Bool.and_true,ZaL,same3_eq _ _ (by omega),Zb,decide_eq_true rfl];exact ZeH.s rfl
 ·rw [Zi];have e3:=Zej (t:=t);have e4:=Zej (t:=u)
  by_cases h1:t.length≤60
  ·by_cases h2:u.length≤60
   ·rw [show decide ((t.length:Int)>60)=false by simp;omega,show decide ((u.length:Int)>60)=false by simp;omega];cases hr:Zle t
    ·simp
    ·cases hr2:Zle u
     ·simp
     ·have h3:=e3.1 hr;have h4:=e4.1 hr2
      by_cases h5:t.length≤ZhZ (p.toNat % 7+2) (b.toNat % 7+5)
      ·have h6:¬ u.length≤ZhZ (p.toNat % 7+2) (b.toNat % 7+5):=fun h6=>hc ⟨h1,h2,h3,h4,h5,h6⟩
       rw [show decide ((u.length:Int)>(ZhZ (p.toNat % 7+2) (b.toNat % 7+5):Int))=true by simp;omega,Bool.or_true]
      ·rw [show decide ((t.length:Int)>(ZhZ (p.toNat % 7+2) (b.toNat % 7+5):Int))=true by simp;omega];simp
   ·rw [show decide ((u.length:Int)>60)=true by simp;omega];simp
  ·rw [show decide ((t.length:Int)>60)=true by simp;omega];simp
end Go.Proofs.YtkmojgfenlgchaaGreatDoor.Tr
namespace Go.Proofs.YtkmojgfenlgchaaGreatDoor.Tr
open Go Go.RowKit Go.ChangeShapes Go.WideShapes Go.ChangeAt
set_option synthInstance.maxHeartbeats 400000
set_option synthInstance.maxSize 4096
theorem law_own:ownKnob Tryz.prog.godebug=none:=by kernel_rfl
theorem law_laid:laidOutB Tryz.prog=true:=by kernel_rfl
instance :TOpen Tryz.prog 5 UInt8 inferInstance:=topen_u8 (by kernel_rfl)
instance :TOpen Tryz.prog 3 Int inferInstance:=topen_i64 (by kernel_rfl)
instance :TOpen Tryz.prog 83 (Vec UInt8 16) inferInstance:=topen_vec (e:=5) (by kernel_rfl) (by kernel_rfl) (by kernel_rfl)
instance :TOpen Tryz.prog 85 Prefix inferInstance:=Zlc (i:=Prefix_dat) Zd0 Zga (fun _=>rfl) rfl Tryz.underlying85 rfl (by kernel_rfl) (Zl7 (o:=0) (inferInstance:TOpen Tryz.prog 3 Int inferInstance) (by kernel_rfl) (by rfl) (by rfl) (by rfl) (Zl7 (o:=1) (inferInstance:TOpen Tryz.prog 3 Int inferInstance) (by kernel_rfl) (by rfl) (by rfl) (by rfl) (topf_one (inferInstance:TOpen Tryz.prog 83 (Vec UInt8 16) inferInstance) (by kernel_rfl) (by rfl) (by rfl))))
instance :TOpen Tryz.prog 68 UInt16 inferInstance:=topen_u16 (by kernel_rfl)
instance :TOpen Tryz.prog 87 Route inferInstance:=Zlc (i:=Route_dat) Zgz ZiV (fun _=>rfl) rfl Tryz.underlying87 rfl (by kernel_rfl) (Zl7 (o:=0) (inferInstance:TOpen Tryz.prog 85 Prefix inferInstance) (by kernel_rfl) (by rfl) (by rfl) (by rfl) (topf_one (inferInstance:TOpen Tryz.prog 68 UInt16 inferInstance) (by kernel_rfl) (by rfl) (by rfl)))
instance :TOpen Tryz.prog 36 (List Route) inferInstance:=topen_list (e:=87) (by kernel_rfl) (by kernel_rfl) (by decide +kernel)
set_option maxRecDepth 100000 in
theorem topDelta_lifted (os:Os) (started:os.Started) (H:Type) (enc:TypeId×Value→H) :
  ReturnsInHanded {} Tryz.checked os 4 .any (fun w args=>(Rows.topDeltaSpec.pre enc Tryz.prog Tryz.f4 Rows.topDeltaRow.domain false w args∧laidMetH Tryz.prog Rows.topDeltaRow.laid w)∧sizedMet enc Tryz.prog Tryz.f4 (OpenSpec.ofChange Rows.topDeltaSpec) false w args) (Rows.topDeltaSpec.post enc Tryz.prog Tryz.f4 false true false false):=by
 refine returnsInHanded_of_change_and (C:=Tryz.checked) (X:=fun w _=>laidMetH Tryz.prog Rows.topDeltaRow.laid w) (fun _ _ _ hh h=>h.of_heap hh) law_own started (by kernel_rfl) Tryz.func4
  (ChangeSpec.witness_shaped (enc:=enc) (C:=Tryz.checked) (os:=os) (X:=fun w _=>laidMetH Tryz.prog Rows.topDeltaRow.laid w) false (World.laidAll Tryz.prog os Rows.topDeltaRow.laid) #[.int .u8 0,.int .u8 0,.slice none 0 0,.slice none 0 0] 8 (World.laidAll_os _ _ _)
   (World.shaped_of_ZipB (by kernel_rfl) (by kernel_rfl)) (by kernel_rfl) (by kernel_rfl) (by kernel_rfl)
   (by rw [MakeChecks.laidMetH_plain _ _ _ (by kernel_rfl)];exact laidMet_laidAll _ (by kernel_rfl) (by kernel_rfl))) ?_
 intro W base args ds gs before hval0 hW hcnd hsz0 hL _;have hval:∀ (j:Nat) t v,Tryz.f4.params[j]?=some t→args[j]?=some v→Value.okWide Tryz.prog W .any base t v:=hval0;have hW':=hW;obtain ⟨p,q,hA0,hV,rfl,hfz,hnd⟩:=hW;have hA:DataW.TrodAll enc Tryz.prog W 0 (fun _=>true) true Tryz.f4.params.toList args.toList ds p:=hA0;have hsz:∀ n∈DataW.weightsEach Tryz.prog Tryz.f4.params.toList ds,n≤reachBytes:=fun n hn=>by
  obtain ⟨rfl,-⟩:=trodVars_none hV;have:=List.all_eq_true.1 hsz0 n (by
   show n∈DataW.weightsEach Tryz.prog (Tryz.f4.params.toList++[]) (ds++[]);rw [List.append_nil,List.append_nil];exact hn)
  simpa using this
 rw [Tryz.params4] at hA hval hsz;obtain ⟨v0,vs0,d0,ds0,p0,q0,hargs,rfl,rfl,h0,r0⟩:=trodAll_cons hA;obtain ⟨v1,vs1,d1,ds1,p1,q1,rfl,rfl,rfl,h1,r1⟩:=trodAll_cons r0;obtain ⟨v2,vs2,d2,ds2,p2,q2,rfl,rfl,rfl,h2,r2⟩:=trodAll_cons r1;obtain ⟨v3,vs3,d3,ds3,p3,q3,rfl,rfl,rfl,h3,r3⟩:=trodAll_cons r2;obtain ⟨rfl,rfl,rfl⟩:=trodAll_nil r3;obtain rfl:args=#[v0,v1,v2,v3]:=by cases args;simp_all
 obtain ⟨x0,y0⟩:=ZlJ h0 (hval 0 _ v0 rfl rfl) (fun n hn=>hsz n (DataW.weights_mem_each (j:=0) rfl rfl n hn));obtain ⟨x1,y1⟩:=ZlJ h1 (hval 1 _ v1 rfl rfl) (fun n hn=>hsz n (DataW.weights_mem_each (j:=1) rfl rfl n hn));obtain ⟨x2,y2⟩:=ZlJ h2 (hval 2 _ v2 rfl rfl) (fun n hn=>hsz n (DataW.weights_mem_each (j:=2) rfl rfl n hn));obtain ⟨x3,y3⟩:=ZlJ h3 (hval 3 _ v3 rfl rfl) (fun n hn=>hsz n (DataW.weights_mem_each (j:=3) rfl rfl n hn));refine (ZjE W v0 v1 v2 v3 (fun _ _=>trivial) y0 y1 y2 y3 (topDelta_plain _ _ _ _)).mono fun e W1 h=>?_
 refine law_post (tb:=4) law_laid (by kernel_rfl) (by kernel_rfl) rfl (by rw [Tryz.params4];decide +kernel) rfl hW' h
end Go.Proofs.YtkmojgfenlgchaaGreatDoor.Tr
namespace Go.Proofs.YtkmojgfenlgchaaGreatDoor
open Go Go.RowKit Go.ChangeShapes Go.WideShapes Go.ChangeAt
theorem Zjd:Rows.TopDeltaSaid:=
 OpenClaim.holds_of_wide 4 Tryz.f4 rfl rfl rfl rfl rfl rfl rfl ⟨rfl,rfl,rfl,rfl,rfl⟩ rfl rfl rfl rfl rfl (by kernel_rfl) Tryz.func4 (by kernel_rfl)
  (of_decide_eq_true (by kernel_rfl)) (by unfold Func.isWrapper;first | (rw [if_pos (by decide +kernel)];kernel_rfl) | (rw [if_neg (by decide +kernel)];exact ⟨rfl,rfl⟩))
  (fun os started H enc _=>Tr.topDelta_lifted os started H enc)
#print axioms Zjd
theorem topDelta_card_holds:Rows.TopDeltaCardSaid:=
 Claim7.holds_tied_plain_at .later [] [.data, .pinned] true (true, "c1cfdc2fbd019fdcbc750d0f96387e643ddd29362aa1353ceebd97399875c579") false Zjd (fun _ h => by cases h) (by kernel_rfl) (fun _ h => by cases h) topDelta_row_tie rfl ⟨rfl, rfl⟩ (by kernel_rfl) rfl
  (fun f fn hf hfn=>by
   obtain rfl : f = 4 := Option.some.inj ((show Tryz.prog.funcNamed "byway/bywaytop.TopDelta" = some 4 by kernel_rfl).symm.trans hf) |>.symm;obtain rfl : fn = Tryz.f4 := (Option.some.inj (Tryz.func4.symm.trans hfn)).symm;exact ⟨by kernel_rfl, fun j t ht => by
    rw [Tryz.params4] at ht;have hm:t∈[5,5,36,36]:=by simpa using Array.mem_of_getElem? ht
    have hall:([5,5,36,36].all fun u=>!Tryz.prog.wantsStandIn u)=true:=by kernel_rfl
    exact (show Tryz.prog.wantsStandIn t=false by simpa using List.all_eq_true.1 hall t hm)⟩)
  (by kernel_rfl)
#print axioms topDelta_card_holds
end Go.Proofs.YtkmojgfenlgchaaGreatDoor
