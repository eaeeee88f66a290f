/- What the proof leans on. Conditions: none. -/
import Derived.Test.YtkmojgfenlgchaaGreatDoorZTN5
set_option linter.all false
set_option linter.unusedSimpArgs false
set_option linter.unusedVariables false
set_option linter.unusedSectionVars false
namespace Go.Proofs.YtkmojgfenlgchaaGreatDoor.Tr
open Go
set_option maxRecDepth 100000
def kvl (l:List UInt8):Nat:=l.foldl (fun a b=>a*256+b.toNat) 0
theorem kvl_acc:∀ (l:List UInt8) (a:Nat),l.foldl (fun a b=>a*256+b.toNat) a=a*256 ^ l.length+kvl l
 | [],a=>by simp [kvl]
 | x::l,a=>by
  unfold kvl;simp only [List.foldl_cons,List.length_cons];rw [kvl_acc l,kvl_acc l (0*256+x.toNat),Nat.pow_succ,Nat.add_mul,Nat.zero_mul,Nat.zero_add,Nat.mul_assoc,Nat.mul_comm 256,Nat.add_assoc]
theorem Zhe (xs ys:List UInt8):kvl (xs++ys)=kvl xs*256 ^ ys.length+kvl ys:=by
 unfold kvl;rw [List.foldl_append,kvl_acc];rfl
theorem ZgF (x:UInt8) (l:List UInt8):kvl (x::l)=x.toNat*256 ^ l.length+kvl l:=by
 rw [show x::l=[x]++l from rfl,Zhe];simp [kvl]
theorem ZmA:∀ l:List UInt8,kvl l<256 ^ l.length
 | []=>by simp [kvl]
 | x::l=>by
  rw [ZgF,List.length_cons,Nat.pow_succ];have:=ZmA l;have hx:=x.toNat_lt;have:(x.toNat+1)*256 ^ l.length≤256*256 ^ l.length:=Nat.mul_le_mul_right _ (by omega);rw [Nat.add_mul] at this;omega
theorem kvl_inj:∀ {l m:List UInt8},l.length=m.length→kvl l=kvl m→l=m
 | [],[],_,_=>rfl
 | x::l,y::m,hl,h=>by
  rw [ZgF,ZgF] at h;simp only [List.length_cons,Nat.add_right_cancel_iff] at hl;rw [hl] at h;have h1:=ZmA l;have h2:=ZmA m;rw [hl] at h1;have hP:0<256 ^ m.length:=Nat.pos_of_neZero _;have e1:x.toNat=y.toNat:=by
   have:(x.toNat*256 ^ m.length+kvl l)/256 ^ m.length=(y.toNat*256 ^ m.length+kvl m)/256 ^ m.length:=by rw [h]
   rw [Nat.mul_comm,Nat.mul_add_div hP,Nat.div_eq_of_lt h1,Nat.mul_comm,Nat.mul_add_div hP,Nat.div_eq_of_lt h2] at this;omega
  have e2:x=y:=UInt8.toNat_inj.1 e1;subst e2;rw [kvl_inj hl (by omega)]
theorem Zkj:∀ n,kvl (List.replicate n 0)=0
 | 0=>rfl
 | n+1=>by rw [List.replicate_succ,ZgF,Zkj n];simp
def mkl:Nat→Nat→List UInt8
 | 0,_=>[]
 | m+1,n=>mkl m (n/256)++[UInt8.ofNat (n % 256)]
theorem mkl_length:∀ m n,(mkl m n).length=m
 | 0,n=>rfl
 | m+1,n=>by rw [mkl,List.length_append,mkl_length m];rfl
theorem kvl_mkl:∀ m n,kvl (mkl m n)=n % 256 ^ m
 | 0,n=>by simp [mkl,kvl,Nat.mod_one]
 | m+1,n=>by
  rw [mkl,Zhe,kvl_mkl m];simp only [List.length_singleton,Nat.pow_one,kvl,List.foldl_cons,List.foldl_nil,Nat.zero_mul,Nat.zero_add];rw [UInt8.toNat_ofNat_of_lt' (show n % 256<256 by omega),Nat.pow_succ,Nat.mul_comm (256 ^ m) 256,Nat.mod_mul];omega
def kv (v:Vec UInt8 16):Nat:=kvl v.l
def mk (n:Nat):Vec UInt8 16:=⟨mkl 16 n,mkl_length 16 n⟩
theorem p256 (n:Nat):256 ^ n=2 ^ (8*n):=by rw [Nat.pow_mul]
theorem kv_lt (v:Vec UInt8 16):kv v<2 ^ 128:=by
 have:=ZmA v.l;rw [v.h,p256] at this;exact this
theorem kv_inj {v w:Vec UInt8 16} (h:kv v=kv w):v=w:=Vec.ext (kvl_inj (by rw [v.h,w.h]) h)
theorem kv_mk {n:Nat} (h:n<2 ^ 128):kv (mk n)=n:=by
 show kvl (mkl 16 n)=n;rw [kvl_mkl,p256,Nat.mod_eq_of_lt h]
theorem kv_zero:kv (Dat.z:Vec UInt8 16)=0:=Zkj 16
theorem cmp_kvl:∀ {l m:List UInt8},l.length=m.length→ZcT l m=if kvl l<kvl m then -1 else if kvl m<kvl l then 1 else 0
 | [],[],_=>rfl
 | x::l,y::m,hl=>by
  simp only [List.length_cons,Nat.add_right_cancel_iff] at hl;rw [ZcT,ZgF,ZgF,hl];have h1:=ZmA l;have h2:=ZmA m;rw [hl] at h1;have ih:=cmp_kvl hl;rcases Nat.lt_trichotomy x.toNat y.toNat with h | h | h
  ·have h3:(x.toNat+1)*256 ^ m.length≤y.toNat*256 ^ m.length:=Nat.mul_le_mul_right _ h;rw [Nat.add_mul] at h3;rw [if_pos (UInt8.lt_iff_toNat_lt.2 h),if_pos (by omega)]
  ·have e:x=y:=UInt8.toNat_inj.1 h;subst e;rw [if_neg (UInt8.lt_irrefl x),if_neg (UInt8.lt_irrefl x),ih];simp only [Nat.add_lt_add_iff_left]
  ·have h3:(y.toNat+1)*256 ^ m.length≤x.toNat*256 ^ m.length:=Nat.mul_le_mul_right _ h;rw [Nat.add_mul] at h3;rw [if_neg (fun h4=>by have:=UInt8.lt_iff_toNat_lt.1 h4;omega),if_pos (UInt8.lt_iff_toNat_lt.2 h),if_neg (by omega),if_pos (by omega)]
theorem all16 (v:Vec UInt8 16):((v.l.drop (Int.toNat 0)).take (((16:Int)-0).toNat))=v.l:=by
 show (v.l.drop 0).take 16=v.l;rw [List.drop_zero,List.take_of_length_le (by rw [v.h];exact Nat.le_refl _)]
def cmpK (v w:Vec UInt8 16):Int:=if kv v<kv w then -1 else if kv w<kv v then 1 else 0
theorem cmpK_eq (v w:Vec UInt8 16):Zeb ((v.l.drop (Int.toNat 0)).take (((16:Int)-0).toNat)) ((w.l.drop (Int.toNat 0)).take (((16:Int)-0).toNat))=some (cmpK v w):=by
 rw [all16,all16];unfold Zeb cmpK kv;rw [cmp_kvl (by rw [v.h,w.h])]
theorem cmpK_lt {v w:Vec UInt8 16}:cmpK v w<0↔kv v<kv w:=by
 unfold cmpK
 by_cases h:kv v<kv w
 ·rw [if_pos h];omega
 ·rw [if_neg h]
  by_cases h2:kv w<kv v
  ·rw [if_pos h2];omega
  ·rw [if_neg h2];omega
theorem cmpK_ne {v w:Vec UInt8 16}:cmpK v w≠0↔kv v≠kv w:=by
 unfold cmpK
 by_cases h:kv v<kv w
 ·rw [if_pos h];omega
 ·rw [if_neg h]
  by_cases h2:kv w<kv v
  ·rw [if_pos h2];omega
  ·rw [if_neg h2];omega
theorem cut16:cut 16 0 (16:Int)=some ():=Zep (by omega) (by omega) (by omega)
theorem byte_and:∀ r:Fin 8,∀ x:Fin 256,0<r.val→((UInt8.ofNat x.val) &&& ~~~(shr8 (UInt8.ofNat 255) (r.val:Int))).toNat=x.val/2 ^ (8-r.val)*2 ^ (8-r.val):=by decide +kernel
theorem byte_and' {x:UInt8} {r:Nat} (h0:0<r) (h:r<8):(x &&& ~~~(shr8 (UInt8.ofNat 255) (r:Int))).toNat=x.toNat/2 ^ (8-r)*2 ^ (8-r):=by
 have:=byte_and ⟨r,h⟩ ⟨x.toNat,x.toNat_lt⟩ h0;simpa using this
theorem kv_part (v:Vec UInt8 16) {w:Nat} (hw:w<16):kv v=(kvl (v.l.take w)*256+(v.l[w]'(by rw [v.h];exact hw)).toNat)*256 ^ (15-w)+kvl (v.l.drop (w+1))∧kvl (v.l.drop (w+1))<256 ^ (15-w):=by
 have hl:w<v.l.length:=by rw [v.h];exact hw
 have e:v.l=v.l.take w++(v.l[w]::v.l.drop (w+1)):=by rw [← List.drop_eq_getElem_cons hl,List.take_append_drop]
 have hd:(v.l.drop (w+1)).length=15-w:=by rw [List.length_drop,v.h];omega
 refine ⟨?_,by have:=ZmA (v.l.drop (w+1));rwa [hd] at this⟩;unfold kv
 conv=>lhs;rw [e]
 rw [Zhe,ZgF,List.length_cons,hd,Nat.pow_succ,Nat.add_mul,Nat.mul_assoc,Nat.mul_comm 256,Nat.add_assoc]
theorem kv_setb (v:Vec UInt8 16) {w:Nat} (hw:w<16) (b:UInt8):kv (v.set w b)=(kvl (v.l.take w)*256+b.toNat)*256 ^ (15-w)+kvl (v.l.drop (w+1)):=by
 have hl:w<v.l.length:=by rw [v.h];exact hw
 have hd:(v.l.drop (w+1)).length=15-w:=by rw [List.length_drop,v.h];omega
 show kvl (v.l.set w b)=_;rw [List.set_eq_take_append_cons_drop,if_pos hl,Zhe,ZgF,List.length_cons,hd,Nat.pow_succ,Nat.add_mul,Nat.mul_assoc,Nat.mul_comm 256,Nat.add_assoc]
theorem pow_part {w r:Nat} (hw:w<16) (hr:r≤8):2 ^ (128-(8*w+r))=2 ^ (8-r)*256 ^ (15-w):=by
 rw [p256,← Nat.pow_add];congr 1;omega
def cutK (v:Vec UInt8 16) (n:Int):Vec UInt8 16:=mk (kv v/2 ^ (128-n.toNat)*2 ^ (128-n.toNat))
theorem cut_lt (v:Vec UInt8 16) (s:Nat):kv v/s*s<2 ^ 128:=Nat.lt_of_le_of_lt (Nat.div_mul_le_self _ _) (kv_lt v)
theorem kv_cut (v:Vec UInt8 16) (n:Int):kv (cutK v n)=kv v/2 ^ (128-n.toNat)*2 ^ (128-n.toNat):=kv_mk (cut_lt v _)
theorem part_div {A M r s:Nat} (hM:0<M) (hr:r<M):(A*M+r)/(s*M)=A/s:=by
 rw [Nat.mul_comm s M,← Nat.div_div_eq_div_mul,Nat.mul_comm A M,Nat.mul_add_div hM,Nat.div_eq_of_lt hr,Nat.add_zero]
theorem byte_div (A x:Nat) {r:Nat} (hr:r≤8):(A*256+x)/2 ^ (8-r)*2 ^ (8-r)=A*256+x/2 ^ (8-r)*2 ^ (8-r):=by
 have e9:A*256=2 ^ (8-r)*(A*2 ^ r):=by
  have e:2 ^ r*2 ^ (8-r)=256:=by rw [← Nat.pow_add,show r+(8-r)=8 by omega]
  rw [Nat.mul_comm (2 ^ (8-r)),Nat.mul_assoc,e]
 generalize 2 ^ (8-r)=s at e9 ⊢;rw [e9];rcases Nat.eq_zero_or_pos s with rfl | hs
 ·simp
 ·rw [Nat.mul_add_div hs,Nat.add_mul,Nat.mul_comm s]
theorem key_Cut_eq (v:Vec UInt8 16) (n:Int):ZkZ v n=some (cutK v n):=by
 unfold ZkZ
 by_cases h1:n≥128
 ·rw [decide_eq_true h1,Zr];congr 1;refine kv_inj ?_;rw [kv_cut,show 128-n.toNat=0 by omega,Nat.pow_zero,Nat.div_one,Nat.mul_one]
 ·rw [decide_eq_false h1,Zo]
  by_cases h2:n<1
  ·rw [decide_eq_true h2,Zr];congr 1;refine kv_inj ?_;rw [kv_cut,kv_zero,show 128-n.toNat=128 by omega,Nat.div_eq_of_lt (kv_lt v),Nat.zero_mul]
  ·rw [decide_eq_false h2,Zo];obtain ⟨m,rfl⟩:=Int.eq_ofNat_of_zero_le (show 0≤n by omega);obtain ⟨w,r,rfl,hr⟩:∃ w r,m=8*w+r∧r<8:=⟨m/8,m % 8,by omega,by omega⟩;have hw:w<16:=by omega
   have q:ZjS ((8*w+r:Nat):Int) 8=some (w:Int):=by rw [Zf0 (by omega) (by omega)];congr 1;omega
   have q2:remI ((8*w+r:Nat):Int) 8=some (r:Int):=by rw [ZjB (by omega) (by omega)];congr 1;omega
   have hcut:cut 16 0 (w:Int)=some ():=Zep (by omega) (by omega) (by omega);rw [q,Zb,hcut,Zb,Zb,Zb,q2,Zb];have hl:w<v.l.length:=by rw [v.h];exact hw
   -- the first bytes
   have hput:(Vec.put (Dat.z:Vec UInt8 16) (Int.toNat 0) (over (((Dat.z:Vec UInt8 16).l.drop (Int.toNat 0)).take (((w:Int)-0).toNat)) ((v.l.drop (Int.toNat 0)).take (((w:Int)-0).toNat)))).l=v.l.take w++List.replicate (16-w) 0:=by
    have e1:((Dat.z:Vec UInt8 16).l.drop (Int.toNat 0)).take (((w:Int)-0).toNat)=List.replicate w 0:=by
     show ((List.replicate 16 (0:UInt8)).drop 0).take (((w:Int)-0).toNat)=_;rw [List.drop_zero,show (((w:Int)-0).toNat)=w by omega,List.take_replicate,Nat.min_eq_left (by omega)]
    have e2:(v.l.drop (Int.toNat 0)).take (((w:Int)-0).toNat)=v.l.take w:=by
     show (v.l.drop 0).take _=_;rw [List.drop_zero,show (((w:Int)-0).toNat)=w by omega]
    have e3:over (List.replicate w (0:UInt8)) (v.l.take w)=v.l.take w:=by
     unfold over;rw [List.length_replicate,List.take_take,Nat.min_self,List.length_take,Nat.min_eq_left (by omega),List.drop_of_length_le (by simp),List.append_nil]
    have e4:splice (Dat.z:Vec UInt8 16).l (Int.toNat 0) (v.l.take w)=v.l.take w++List.replicate (16-w) 0:=by
     show splice (List.replicate 16 (0:UInt8)) 0 (v.l.take w)=_;unfold splice;rw [List.take_zero,List.nil_append,List.length_take,Nat.min_eq_left (by omega),Nat.zero_add,List.drop_replicate]
    rw [e1,e2,e3];unfold Vec.put;rw [dif_pos (by rw [e4];simp;omega)];exact e4
   generalize Vec.put (Dat.z:Vec UInt8 16) (Int.toNat 0) (over (((Dat.z:Vec UInt8 16).l.drop (Int.toNat 0)).take (((w:Int)-0).toNat)) ((v.l.drop (Int.toNat 0)).take (((w:Int)-0).toNat)))=c at hput ⊢;obtain ⟨p1,p2⟩:=kv_part v hw;have hM:0<256 ^ (15-w):=Nat.pos_of_neZero _
   by_cases h0:r=0
   ·subst h0;rw [show decide (((0:Nat):Int)>0)=false by decide,Zo,Zb];congr 1;refine kv_inj ?_;rw [kv_cut,Int.toNat_natCast,pow_part hw (by omega),p1,part_div hM p2];have e5:kv c=kvl (v.l.take w)*256 ^ (16-w):=by unfold kv;rw [hput,Zhe,Zkj,List.length_replicate,Nat.add_zero]
    have e6:256 ^ (16-w)=256*256 ^ (15-w):=by rw [← Nat.pow_succ'];congr 1;omega
    have hx:=(v.l[w]).toNat_lt;rw [e5,e6,show 2 ^ (8-0)=256 from rfl,Nat.mul_comm _ 256,Nat.mul_add_div (by omega),Nat.div_eq_of_lt hx,Nat.add_zero]
   ·have hi:idx v.l (w:Int)=some v.l[w]:=Zz hl;have hci:w<c.l.length:=by rw [c.h];exact hw
    have hcnt:cnt (r:Int)=some r:=by unfold cnt;rw [if_pos (by omega),Int.toNat_natCast]
    rw [decide_eq_true (show (r:Int)>0 by omega),Zr,hi,Zb,hcnt,Zb,Zz hci,Zb,Zb,Zb];refine congrArg some (kv_inj ?_);rw [kv_cut,Int.toNat_natCast,Int.toNat_natCast,pow_part hw (by omega),p1,part_div hM p2,kv_setb c hw,byte_and' (by omega) hr,hput];have e7:(v.l.take w++List.replicate (16-w) 0).take w=v.l.take w:=by rw [List.take_append_of_le_length (by simp;omega),List.take_take,Nat.min_self]
    have e8:(v.l.take w++List.replicate (16-w) 0).drop (w+1)=List.replicate (15-w) 0:=by
     rw [List.drop_append,List.drop_of_length_le (by simp;omega),List.nil_append,List.length_take,Nat.min_eq_left (by omega),List.drop_replicate,show 16-w-(w+1-w)=15-w by omega]
    rw [e7,e8,Zkj (15-w),Nat.add_zero,← byte_div (kvl (v.l.take w)) v.l[w].toNat (show r≤8 by omega)];generalize (kvl (v.l.take w)*256+v.l[w].toNat)/2 ^ (8-r)=Z;exact Nat.mul_assoc ..
def PM (p:Prefix):Prop:=(p.Bits=32∨p.Bits=128)∧0≤p.Len∧p.Len≤p.Bits∧kv p.Key % 2 ^ (128-p.Len.toNat)=0
instance (p:Prefix):Decidable (PM p):=by unfold PM;exact inferInstance
theorem cut_same {v:Vec UInt8 16} {n:Int}:cutK v n=v↔kv v % 2 ^ (128-n.toNat)=0:=by
 constructor
 ·intro h;have:=congrArg kv h;rw [kv_cut] at this;have h2:=Nat.div_add_mod (kv v) (2 ^ (128-n.toNat));rw [Nat.mul_comm,this] at h2;omega
 ·intro h;refine kv_inj ?_;rw [kv_cut];exact Nat.div_mul_cancel (Nat.dvd_of_mod_eq_zero h)
theorem ZiV (p:Prefix):ZhH p=some (decide (PM p)):=by
 unfold ZhH ZlY;rw [Zb]
 by_cases h:(p.Bits=32∨p.Bits=128)∧0≤p.Len∧p.Len≤p.Bits
 ·rw [Zh (by
   simp only [Bool.or_eq_false_iff,Bool.not_eq_false',Bool.or_eq_true,decide_eq_true_eq,decide_eq_false_iff_not];omega),key_Cut_eq,Zb]
  refine congrArg some ?_;rw [decide_eq_decide,cut_same];unfold PM;exact ⟨fun h2=>⟨h.1,h.2.1,h.2.2,h2⟩,fun h2=>h2.2.2.2⟩
 ·rw [Zi (by
   simp only [Bool.or_eq_true,Bool.not_eq_true',Bool.or_eq_false_iff,decide_eq_true_eq,decide_eq_false_iff_not];omega)]
  refine congrArg some ?_;rw [eq_comm,decide_eq_false_iff_not];exact fun h2=>h ⟨h2.1,h2.2.1,h2.2.2.1⟩
def PL (p q:Prefix):Prop:=PM p∧PM q∧(p.Bits<q.Bits∨p.Bits=q.Bits∧(kv p.Key<kv q.Key∨kv p.Key=kv q.Key∧p.Len<q.Len))
instance (p q:Prefix):Decidable (PL p q):=by unfold PL;exact inferInstance
theorem ZmB (p q:Prefix):ZiW p q=some (decide (PL p q)):=by
 unfold ZiW;rw [ZiV,Zb]
 by_cases h:PM p
 ·rw [decide_eq_true h,show (!(!true))=true from rfl,ZaO,ZiV,Zb]
  by_cases h2:PM q
  ·rw [decide_eq_true h2,show ((!true)||(!true))=false from rfl,Zo];have b1:=h.1;have b2:=h2.1
   by_cases h3:p.Bits=q.Bits
   ·rw [Zh (by simp [h3]),cut16,Zb,Zb,cmpK_eq,Zb];have c1:=@cmpK_ne p.Key q.Key;have c2:=@cmpK_lt p.Key q.Key
    by_cases h4:kv p.Key=kv q.Key
    ·rw [Zh (decide_eq_false (fun h=>c1.1 h h4))];refine congrArg some ?_;rw [decide_eq_decide];unfold PL;exact ⟨fun h5=>⟨h,h2,.inr ⟨h3,.inr ⟨h4,h5⟩⟩⟩,fun h5=>by obtain ⟨-,-,h5⟩:=h5;omega⟩
    ·rw [Zi (decide_eq_true (c1.2 h4))];refine congrArg some ?_;rw [decide_eq_decide,c2];unfold PL;exact ⟨fun h5=>⟨h,h2,.inr ⟨h3,.inl h5⟩⟩,fun h5=>by obtain ⟨-,-,h5⟩:=h5;omega⟩
   ·rw [Zi (by simp [h3])];refine congrArg some ?_;rw [decide_eq_decide];unfold PL;exact ⟨fun h5=>⟨h,h2,.inl (by omega)⟩,fun h5=>by obtain ⟨-,-,h5⟩:=h5;omega⟩
  ·rw [decide_eq_false h2,Zi (by simp)];refine congrArg some ?_;rw [eq_comm,decide_eq_false_iff_not];exact fun h5=>h2 h5.2.1
 ·rw [decide_eq_false h,show (!(!false))=false from rfl,ZaQ,Zb,Zi (by simp)];refine congrArg some ?_;rw [eq_comm,decide_eq_false_iff_not];exact fun h5=>h h5.1
end Go.Proofs.YtkmojgfenlgchaaGreatDoor.Tr
namespace Go.Proofs.YtkmojgfenlgchaaGreatDoor.Tr
open Go
set_option maxRecDepth 100000
theorem prefix_ext {p q:Prefix} (h1:p.Bits=q.Bits) (h2:p.Len=q.Len) (h3:kv p.Key=kv q.Key):p=q:=by
 obtain ⟨a,b,c⟩:=p;obtain ⟨d,e,f⟩:=q;dsimp only at h1 h2 h3;rw [h1,h2,kv_inj h3]
theorem PL.tr {p q r:Prefix} (h:PL p q) (k:PL q r):PL p r:=by
 obtain ⟨h1,h2,h3⟩:=h;obtain ⟨k1,k2,k3⟩:=k;refine ⟨h1,k2,?_⟩;omega
theorem PL.ir {p:Prefix} (h:PL p p):False:=by
 obtain ⟨h1,h2,h3⟩:=h;omega
theorem PL.ne {p q:Prefix} (h:PL p q):p≠q:=fun e=>by subst e;exact h.ir
theorem PL.tri {p q:Prefix} (h:PM p) (k:PM q):PL p q∨p=q∨PL q p:=by
 by_cases a:p.Bits=q.Bits
 ·by_cases b:kv p.Key=kv q.Key
  ·by_cases c:p.Len=q.Len
   ·exact .inr (.inl (prefix_ext a c b))
   ·by_cases d:p.Len<q.Len
    ·exact .inl ⟨h,k,.inr ⟨a,.inr ⟨b,d⟩⟩⟩
    ·exact .inr (.inr ⟨k,h,.inr ⟨a.symm,.inr ⟨b.symm,by omega⟩⟩⟩)
  ·by_cases d:kv p.Key<kv q.Key
   ·exact .inl ⟨h,k,.inr ⟨a,.inl d⟩⟩
   ·exact .inr (.inr ⟨k,h,.inr ⟨a.symm,.inl (by omega)⟩⟩)
 ·by_cases d:p.Bits<q.Bits
  ·exact .inl ⟨h,k,.inl d⟩
  ·exact .inr (.inr ⟨k,h,.inl (by omega)⟩)
structure TbR (t:List Route):Prop where
 len:t.length≤256
 may:∀ r∈t,PM r.Prefix
 srt:t.Pairwise fun a b=>PL a.Prefix b.Prefix
def rt0:Route:=Dat.z
def goodRt (t:List Route) (i:Nat):Bool:=decide (PM (t.getD i rt0).Prefix)&&(decide (i=0)||decide (PL (t.getD (i-1) rt0).Prefix (t.getD i rt0).Prefix))
def rightB (t:List Route):Bool:=decide (t.length≤256)&&(List.range t.length).all (goodRt t)
theorem gtD {α:Type} {l:List α} {k:Nat} {d:α} (h:k<l.length):l.getD k d=l[k]:=by
 rw [List.getD_eq_getElem?_getD,List.getElem?_eq_getElem h];rfl
theorem Zjm (t:List Route):ZcG t=some (rightB t):=by
 unfold ZcG rightB
 by_cases hl:t.length≤256
 ·rw [Zh (by simp;omega),Zc3 (f:=fun s=>Zdy t s) (List.range t.length) (goodRt t) (by simp;omega) (fun i hi=>?_) (by unfold Zdy;rw [List.length_range,Zh6,Zo]),decide_eq_true hl,Zb,Bool.true_and]
  ·cases (List.range t.length).all (goodRt t)
   ·rw [if_neg (by decide),ZaY]
   ·rw [if_pos rfl,Zaj]
  ·rw [List.length_range] at hi;rw [List.getElem_range];unfold Zdy goodRt;rw [Zej hi,Zr,Zz hi,Zb,ZiV,Zb,gtD hi]
   by_cases hm:PM t[i].Prefix
   ·rw [decide_eq_true hm,Bool.not_true,Zo,Bool.true_and]
    by_cases h0:i=0
    ·subst h0;rw [show decide (((0:Nat):Int)>0)=false by decide,ZaQ,Zb,ZaQ,Zb,ZaQ,Zb,Bool.false_and,Zo,ZN (by omega),Zb,decide_eq_true rfl,Bool.true_or,if_pos rfl]
    ·rw [show decide ((i:Int)>0)=true by simp;omega,ZaO,ZaN (by omega) (by omega),Zb,ZaO,show (i:Int)-1=((i-1:Nat):Int) by omega,Zz (show i-1<t.length by omega),Zb,ZaO,ZmB,Zb,gtD (show i-1<t.length by omega),decide_eq_false h0,Bool.false_or,Bool.true_and];cases decide (PL t[i-1].Prefix t[i].Prefix)
     ·rw [Bool.not_false,Zr,if_neg (by decide)]
     ·rw [Bool.not_true,Zo,ZN (by omega),Zb,if_pos rfl]
   ·rw [decide_eq_false hm,Bool.not_false,Zr,Bool.false_and,if_neg (by decide)]
 ·rw [Zi (by simp;omega),decide_eq_false hl,Bool.false_and]
theorem ZkV {t:List Route}:rightB t=true↔TbR t:=by
 unfold rightB;rw [Bool.and_eq_true,decide_eq_true_eq,List.all_eq_true]
 constructor
 ·rintro ⟨h1,h2⟩;have hg:∀ i (hi:i<t.length),PM t[i].Prefix∧(i=0∨∃ h:i-1<t.length,PL t[i-1].Prefix t[i].Prefix):=fun i hi=>by
   have:=h2 i (List.mem_range.2 hi);unfold goodRt at this;rw [Bool.and_eq_true,Bool.or_eq_true,decide_eq_true_eq,decide_eq_true_eq,decide_eq_true_eq,gtD hi,gtD (show i-1<t.length by omega)] at this;exact ⟨this.1,this.2.imp id fun h=>⟨by omega,h⟩⟩
  refine ⟨h1,fun r hr=>?_,List.pairwise_iff_getElem.2 fun i j hi hj hij=>?_⟩
  ·obtain ⟨i,hi,rfl⟩:=List.getElem_of_mem hr;exact (hg i hi).1
  ·have key:∀ k,∀ j (hj:j<t.length),j=i+1+k→PL t[i].Prefix t[j].Prefix:=by
    intro k
    induction k with
    | zero=>
     intro j hj e;rcases (hg j hj).2 with h | ⟨h,g⟩
     ·omega
     ·have e2:j-1=i:=by omega
      simp only [e2] at g;exact g
    | succ k ih=>
     intro j hj e;have h:=ih (j-1) (by omega) (by omega);rcases (hg j hj).2 with h' | ⟨h',g⟩
     ·omega
     ·exact h.tr g
   exact key (j-i-1) j hj (by omega)
 ·intro h;refine ⟨h.len,fun i hi=>?_⟩;have hi:=List.mem_range.1 hi;unfold goodRt;rw [Bool.and_eq_true,Bool.or_eq_true,decide_eq_true_eq,decide_eq_true_eq,decide_eq_true_eq,gtD hi,gtD (show i-1<t.length by omega)];refine ⟨h.may _ (List.getElem_mem hi),?_⟩
  by_cases h0:i=0
  ·exact .inl h0
  ·exact .inr (List.pairwise_iff_getElem.1 h.srt (i-1) i (by omega) hi (by omega))
theorem TbR.right {t:List Route} (h:TbR t):ZcG t=some true:=by rw [Zjm,ZkV.2 h]
theorem TbR.nil:TbR []:=⟨by simp,fun r h=>absurd h (by simp),List.Pairwise.nil⟩
theorem TbR.sub {t u:List Route} (h:TbR t) (k:u.Sublist t):TbR u:=⟨Nat.le_trans k.length_le h.len,fun r hr=>h.may r (k.subset hr),h.srt.sublist k⟩
def ZfZ (t:List Route) (p:Prefix):Nat:=t.countP fun r=>decide (PL r.Prefix p)
theorem rank_le (t:List Route) (p:Prefix):ZfZ t p≤t.length:=List.countP_le_length
theorem ZhB:∀ {t:List Route} (h:TbR t) {p:Prefix} {i:Nat} (hi:i<t.length),PL t[i].Prefix p↔i<ZfZ t p
 | [],_,_,_,hi=>by cases hi
 | a::t,h,p,i,hi=>by
  have h2:=List.pairwise_cons.1 h.srt;have ht:=h.sub (List.sublist_cons_self a t);have e:ZfZ (a::t) p=ZfZ t p+if PL a.Prefix p then 1 else 0:=by
   unfold ZfZ;rw [List.countP_cons]
   by_cases h3:PL a.Prefix p <;> simp [h3]
  by_cases h3:PL a.Prefix p
  ·rw [e,if_pos h3];cases i with
   | zero=>exact ⟨fun _=>by omega,fun _=>h3⟩
   | succ i=>rw [List.getElem_cons_succ,ZhB ht (by simpa using hi)];omega
  ·have h0:ZfZ t p=0:=by
    unfold ZfZ;rw [List.countP_eq_zero];intro b hb;simp only [decide_eq_true_eq];exact fun h4=>h3 ((h2.1 b hb).tr h4)
   rw [e,if_neg h3,h0]
   constructor
   ·intro h4;cases i with
    | zero=>exact absurd h4 h3
    | succ i=>
     rw [List.getElem_cons_succ] at h4;exact absurd ((h2.1 _ (List.getElem_mem (by simpa using hi))).tr h4) h3
   ·omega
theorem half_eq {i j:Nat} (h:i+j<9223372036854775808):ZiR (((shr64 (UInt64.ofInt ((i+j:Nat):Int)) ((UInt64.ofNat 1).toNat:Int)).toNat:Int))=some (((i+j)/2:Nat):Int):=by
 have e1:(UInt64.ofInt ((i+j:Nat):Int)).toNat=i+j:=by
  have e:(((i+j:Nat):Int) % (2:Int) ^ 64).toNat=i+j:=by omega
  unfold UInt64.ofInt;rw [e];exact UInt64.toNat_ofNat_of_lt' (by show _<18446744073709551616;omega)
 have e2:(shr64 (UInt64.ofInt ((i+j:Nat):Int)) ((UInt64.ofNat 1).toNat:Int)).toNat=(i+j)/2:=by
  unfold shr64;rw [e1,show (((UInt64.ofNat 1).toNat:Int)).toNat=1 from rfl,Nat.pow_one];exact UInt64.toNat_ofNat_of_lt' (by show _<18446744073709551616;omega)
 rw [e2,Zmv (by omega) (by omega)]
theorem tplace_eq {t:List Route} (h:TbR t) (p:Prefix):ZfS t p=some ((ZfZ t p:Int),decide (∃ r∈t,r.Prefix=p)):=by
 have hl:=h.len;have hr:=rank_le t p;have hs:ZfW (t.length:Int) (⟨fun x0=>Zdl x0 t p⟩:F1 Tryz.prog Int Bool)=some (ZfZ t p:Int):=by
  unfold ZfW;refine Zgq (Zfk.b (P:=fun v=>v=(ZfZ t p:Int)) (Zfk.loop (σ:=Int×Int) (fun s=>∃ i j:Nat,s.1=i∧s.2=j∧i≤ZfZ t p∧ZfZ t p≤j∧j≤t.length) (fun s=>(s.2-s.1).toNat) (fun s hs=>?_) ⟨0,t.length,rfl,rfl,by omega,hr,by omega⟩ (by show (((t.length:Int))-0).toNat<_;omega)) fun v hv=>by subst hv;exact Zfk.s rfl);obtain ⟨a,b⟩:=s;obtain ⟨i,j,rfl,rfl,h1,h2,h3⟩:=hs;dsimp only;unfold ZgQ
  by_cases hij:i<j
  ·have hm:(i+j)/2<t.length:=by omega
   rw [Zej hij,Zr,ZZ (by omega) (by omega),Zb,show (i:Int)+j=((i+j:Nat):Int) by omega,half_eq (by omega),Zb];show Zfk ((Zdl _ t p).bind _) _;unfold Zdl;rw [Zz hm,Zb,ZmB,Zb,Zb];have hra:=ZhB h (p:=p) hm
   by_cases hp:PL t[(i+j)/2].Prefix p
   ·have:=hra.1 hp;rw [decide_eq_true hp,Bool.not_true,Bool.not_false,Zr,ZN (by omega),Zb];exact Zfk.l ⟨(i+j)/2+1,j,rfl,rfl,by omega,by omega,by omega⟩ (by show (_ - _:Int).toNat<(_ - _:Int).toNat;omega)
   ·have:=Nat.le_of_not_lt fun h=>hp (hra.2 h)
    rw [decide_eq_false hp,Bool.not_false,Bool.not_true,Zo];exact Zfk.l ⟨i,(i+j)/2,rfl,rfl,by omega,by omega,by omega⟩ (by show (_ - _:Int).toNat<(_ - _:Int).toNat;omega)
  ·rw [Zjc (by omega),Zo];exact Za8 (by omega)
 unfold ZfS;rw [hs,Zb]
 by_cases hlt:ZfZ t p<t.length
 ·rw [Zej hlt,ZaO,Zz hlt,Zb,Bool.true_and];refine congrArg (fun b=>some ((ZfZ t p:Int),b)) ?_;rw [decide_eq_decide]
  constructor
  ·exact fun e=>⟨_,List.getElem_mem hlt,e⟩
  ·rintro ⟨r,hr2,e⟩;obtain ⟨i,hi,rfl⟩:=List.getElem_of_mem hr2;have hra:=ZhB h (p:=p) hi;rcases Nat.lt_trichotomy i (ZfZ t p) with h1 | h1 | h1
   ·exact absurd e (hra.2 h1).ne
   ·simp only [← h1];exact e
   ·have h2:=List.pairwise_iff_getElem.1 h.srt (ZfZ t p) i hlt hi h1;rw [e] at h2;have:=(ZhB h (p:=p) hlt).1 h2;omega
 ·rw [Zjc (by omega),ZaQ,Zb,Bool.false_and];refine congrArg (fun b=>some ((ZfZ t p:Int),b)) ?_;rw [eq_comm,decide_eq_false_iff_not];rintro ⟨r,hr2,e⟩;obtain ⟨i,hi,rfl⟩:=List.getElem_of_mem hr2;exact ((ZhB h (p:=p) hi).2 (by omega)).ne e
end Go.Proofs.YtkmojgfenlgchaaGreatDoor.Tr
namespace Go.Proofs.YtkmojgfenlgchaaGreatDoor.Tr
open Go
set_option maxRecDepth 100000
def Zkk (r:Route):UInt8:=if r.Prefix.Bits=128 then 1 else 0
def hopH (r:Route):UInt8:=(shr16 r.Hop ((UInt64.ofNat 8).toNat:Int)).toUInt8
def enc (r:Route):List UInt8:=[Zkk r,UInt8.ofInt r.Prefix.Len]++(r.Prefix.Key.l++[hopH r,r.Hop.toUInt8])
theorem ZjK (r:Route):(enc r).length=20:=by unfold enc;simp [r.Prefix.Key.h]
theorem tk (r:Route):r.Prefix.Key.l.length=16:=r.Prefix.Key.h
theorem laid_eq {b:List UInt8} (r:Route) (hb:b.length≤1000000):Zg9 b r=some (b++enc r):=by
 have hk:=tk r;unfold Zg9;have h0:(bif (decide (r.Prefix.Bits=(128:Int))) then ((idx (Dat.z:(Vec UInt8 20)).l (0:Int)).bind fun x_5=>(some ((Vec.set (Dat.z:(Vec UInt8 20)) (Int.toNat (0:Int)) (UInt8.ofNat 1)):(Vec UInt8 20))).bind fun part_6=>some part_6) else (some (Dat.z:(Vec UInt8 20))))=some ((Dat.z:Vec UInt8 20).set 0 (Zkk r)):=by
  unfold Zkk
  by_cases h:r.Prefix.Bits=128
  ·rw [decide_eq_true h,Zr,if_pos h];rfl
  ·rw [decide_eq_false h,Zo,if_neg h];exact congrArg some (Vec.ext rfl)
 rw [h0,Zb];have i1:idx ((Dat.z:Vec UInt8 20).set 0 (Zkk r)).l (1:Int)=some 0:=rfl;rw [i1,Zb,Zb,show cut 20 (2:Int) (20:Int)=some () from rfl,Zb,cut16,Zb,Zb];have e2:(((Dat.z:Vec UInt8 20).set 0 (Zkk r)).set (Int.toNat (1:Int)) (UInt8.ofInt r.Prefix.Len)).l=[Zkk r,UInt8.ofInt r.Prefix.Len]++List.replicate 18 0:=rfl;generalize ((Dat.z:Vec UInt8 20).set 0 (Zkk r)).set (Int.toNat (1:Int)) (UInt8.ofInt r.Prefix.Len)=v2 at e2;have e3:(Vec.put v2 (Int.toNat (2:Int)) (over ((v2.l.drop (Int.toNat (2:Int))).take (((20:Int)-(2:Int)).toNat)) ((r.Prefix.Key.l.drop (Int.toNat 0)).take (((16:Int)-0).toNat)))).l=[Zkk r,UInt8.ofInt r.Prefix.Len]++(r.Prefix.Key.l++[0,0]):=by
  rw [all16];have hs:splice v2.l (Int.toNat 2) (over ((v2.l.drop (Int.toNat (2:Int))).take (((20:Int)-(2:Int)).toNat)) r.Prefix.Key.l)=[Zkk r,UInt8.ofInt r.Prefix.Len]++(r.Prefix.Key.l++[0,0]):=by
   rw [e2,Zj4 (k:=Int.toNat 2) (m:=((20:Int)-(2:Int)).toNat) rfl (by simp) (by rw [hk];decide),hk,List.append_assoc];rfl
  unfold Vec.put;rw [dif_pos (by rw [hs];simp [hk])];exact hs
 generalize Vec.put v2 (Int.toNat (2:Int)) (over ((v2.l.drop (Int.toNat (2:Int))).take (((20:Int)-(2:Int)).toNat)) ((r.Prefix.Key.l.drop (Int.toNat 0)).take (((16:Int)-0).toNat)))=v3 at e3;have h3:v3.l.length=20:=v3.h;rw [show (18:Int)=((18:Nat):Int) from rfl,Zz (show 18<v3.l.length by omega),Zb,Zb];have e4:(v3.set (Int.toNat ((18:Nat):Int)) (hopH r)).l=[Zkk r,UInt8.ofInt r.Prefix.Len]++(r.Prefix.Key.l++[hopH r,0]):=by
  show v3.l.set 18 (hopH r)=_;rw [e3,List.set_append_right _ _ (by simp),List.set_append_right _ _ (by simp [hk])];simp [hk]
 have he:(shr16 r.Hop ((UInt64.ofNat 8).toNat:Int)).toUInt8=hopH r:=rfl;rw [he];generalize v3.set (Int.toNat ((18:Nat):Int)) (hopH r)=v4 at e4;have h4:v4.l.length=20:=v4.h;rw [show (19:Int)=((19:Nat):Int) from rfl,Zz (show 19<v4.l.length by omega),Zb,Zb];have e5:(v4.set (Int.toNat ((19:Nat):Int)) r.Hop.toUInt8).l=enc r:=by
  show v4.l.set 19 r.Hop.toUInt8=_;rw [e4,List.set_append_right _ _ (by simp),List.set_append_right _ _ (by simp [hk])];unfold enc;simp [hk]
 generalize v4.set (Int.toNat ((19:Nat):Int)) r.Hop.toUInt8=v5 at e5;have e6:((v5.l.drop (Int.toNat 0)).take (((20:Int)-0).toNat))=enc r:=by
  rw [e5];show ((enc r).drop 0).take 20=_;rw [List.drop_zero,List.take_of_length_le (by rw [ZjK];exact Nat.le_refl _)]
 rw [show cut 20 0 (20:Int)=some () from rfl,Zb,e6,ZjK,ZaA (by omega) (by omega) (by omega),Zb,Zb]
theorem hop_eq (r:Route):(shl16 (hopH r).toUInt16 ((UInt64.ofNat 8).toNat:Int)) ||| (r.Hop.toUInt8).toUInt16=r.Hop:=by
 have hh:=r.Hop.toNat_lt;refine UInt16.toNat_inj.1 ?_;have e1:(hopH r).toNat=r.Hop.toNat/256:=by
  unfold hopH shr16;rw [show (((UInt64.ofNat 8).toNat:Int)).toNat=8 from rfl,UInt16.toNat_toUInt8,UInt16.toNat_ofNat_of_lt' (by show _<65536;omega)];omega
 have e2:(shl16 (hopH r).toUInt16 ((UInt64.ofNat 8).toNat:Int)).toNat=2 ^ 8*(r.Hop.toNat/256):=by
  unfold shl16;rw [show (((UInt64.ofNat 8).toNat:Int)).toNat=8 from rfl,UInt8.toNat_toUInt16,e1,UInt16.toNat_ofNat_of_lt' (by show _<65536;omega)];omega
 rw [UInt16.toNat_or,e2,UInt8.toNat_toUInt16,UInt16.toNat_toUInt8,← Nat.two_pow_add_eq_or_of_lt (by omega)];omega
def RtOK (r:Route):Prop:=(r.Prefix.Bits=32∨r.Prefix.Bits=128)∧0≤r.Prefix.Len∧r.Prefix.Len≤255
theorem PM.rt {r:Route} (h:PM r.Prefix):RtOK r:=by
 obtain ⟨h1,h2,h3,-⟩:=h;exact ⟨h1,h2,by omega⟩
theorem len_byte {z:Int} (h0:0≤z) (h:z≤255):(((UInt8.ofInt z).toNat:Nat):Int)=z:=by
 have:=Zg3 h0 (show z<256 by omega);exact this
theorem over_all {a b:List UInt8} (ha:a.length=16) (hb:b.length=16):splice a (Int.toNat 0) (over a b)=b:=by
 have e:over a b=b:=by
  unfold over;rw [List.take_of_length_le (by omega),List.drop_of_length_le (by omega),List.append_nil]
 rw [e];show a.take 0++b++a.drop (0+b.length)=b;rw [List.take_zero,List.nil_append,List.drop_of_length_le (by omega),List.append_nil]
theorem route_eq {r:Route} (h:RtOK r):Zg8 (enc r)=some (r,true):=by
 have hk:=tk r;obtain ⟨h1,h2,h3⟩:=h;have hl:=ZjK r;have i0:idx (enc r) (0:Int)=some (Zkk r):=rfl;have i1:idx (enc r) (1:Int)=some (UInt8.ofInt r.Prefix.Len):=rfl;have i18:idx (enc r) (18:Int)=some (hopH r):=by
  rw [show (18:Int)=((18:Nat):Int) from rfl,Zz (by omega)];unfold enc;rw [List.getElem_append_right (by simp),List.getElem_append_right (by simp [hk])];simp [hk]
 have i19:idx (enc r) (19:Int)=some r.Hop.toUInt8:=by
  rw [show (19:Int)=((19:Nat):Int) from rfl,Zz (by omega)];unfold enc;rw [List.getElem_append_right (by simp),List.getElem_append_right (by simp [hk])];simp [hk]
 have ek:((enc r).take (Int.toNat (18:Int))).drop (Int.toNat (2:Int))=r.Prefix.Key.l:=by
  show ((enc r).take 18).drop 2=_;unfold enc;rw [List.take_append,List.drop_append];simp [hk]
 unfold Zg8;rw [i0,Zb];have ho:(bif (decide (Zkk r=(UInt8.ofNat 0))) then ((some ((⟨(⟨(32:Int),((Dat.z:Route).Prefix).Len,((Dat.z:Route).Prefix).Key⟩:Prefix),(Dat.z:Route).Hop⟩:Route):Route)).bind fun r_6=>some (.inl r_6)) else (bif (decide (Zkk r=(UInt8.ofNat 1))) then ((some ((⟨(⟨(128:Int),((Dat.z:Route).Prefix).Len,((Dat.z:Route).Prefix).Key⟩:Prefix),(Dat.z:Route).Hop⟩:Route):Route)).bind fun r_7=>some (.inl r_7)) else ((some ((⟨Dat.z,0⟩:Route):Route)).bind fun k_8=>some (.inr (k_8,false)))))=(some (.inl (⟨(⟨r.Prefix.Bits,((Dat.z:Route).Prefix).Len,((Dat.z:Route).Prefix).Key⟩:Prefix),(Dat.z:Route).Hop⟩:Route)):Option (Route⊕(Route×Bool))):=by
  unfold Zkk;rcases h1 with h | h
  ·rw [if_neg (by omega),h];rfl
  ·rw [if_pos h,h];rfl
 rw [ho,Zb,Zaj,i1,Zb,Zb,cut16,Zb,Zep (by omega) (by omega) (by omega),Zb,Zb,i18,Zb,i19,Zb,Zb,hop_eq,ek];have hput:∀ k:Vec UInt8 16,Vec.put k (Int.toNat 0) (over ((k.l.drop (Int.toNat 0)).take (((16:Int)-0).toNat)) r.Prefix.Key.l)=r.Prefix.Key:=fun k=>by
  have hkk:k.l.length=16:=k.h;have e:splice k.l (Int.toNat 0) (over ((k.l.drop (Int.toNat 0)).take (((16:Int)-0).toNat)) r.Prefix.Key.l)=r.Prefix.Key.l:=by
   rw [all16];exact over_all hkk hk
  unfold Vec.put;rw [dif_pos (by rw [e];exact hk)];exact Vec.ext e
 dsimp only;rw [hput,len_byte h2 h3]
end Go.Proofs.YtkmojgfenlgchaaGreatDoor.Tr
namespace Go.Proofs.YtkmojgfenlgchaaGreatDoor.Tr
open Go
set_option maxRecDepth 100000
def Zjo (c:List Route):List UInt8:=(c.map enc).flatten
theorem ZmE (r:Route) (c:List Route):Zjo (r::c)=enc r++Zjo c:=rfl
theorem encs_append (a b:List Route):Zjo (a++b)=Zjo a++Zjo b:=by unfold Zjo;rw [List.map_append,List.flatten_append]
theorem encs_one (r:Route):Zjo [r]=enc r:=by unfold Zjo;simp
theorem Zko:∀ c:List Route,(Zjo c).length=20*c.length
 | []=>rfl
 | r::c=>by rw [ZmE,List.length_append,ZjK,Zko c,List.length_cons];omega
theorem table_in {c t0:List Route} (hc:∀ r∈c,RtOK r) (hl:t0.length+c.length≤1000000):ZM (fun s=>ZdZ s.1 s.2) (Zjo c,t0)=some (.inl (t0++c)):=by
 refine ZQ (fun j=>(Zjo (c.drop j),t0++c.take j)) c.length (by omega) (fun j hj=>?_) ?_ (by simp)
 ·unfold ZdZ;dsimp only;have e:=List.drop_eq_getElem_cons hj;have hlen:(Zjo (c.drop j)).length=20*(c.length-j):=by rw [Zko,List.length_drop]
  have e1:(Zjo (c.drop j)).take (Int.toNat (20:Int))=enc c[j]:=by
   rw [e,ZmE];show (enc c[j]++_).take 20=_;rw [List.take_append_of_le_length (by rw [ZjK];exact Nat.le_refl _),List.take_of_length_le (by rw [ZjK];exact Nat.le_refl _)]
  have e2:(Zjo (c.drop j)).drop (Int.toNat (20:Int))=Zjo (c.drop (j+1)):=by
   rw [e,ZmE];show (enc c[j]++_).drop 20=_;rw [show 20=(enc c[j]).length from (ZjK _).symm,List.drop_left]
  rw [Zi (by rw [hlen];simp;omega),Zep (by omega) (by omega) (by rw [hlen];omega),Zb,e1,route_eq (hc _ (List.getElem_mem hj)),Zb];dsimp only;rw [Bool.not_true,Zo,ZaA (by omega) (by simp;omega) (by simp;omega),Zb,Zb,Zep (by omega) (by rw [hlen];omega) (by omega),Zb,Zb,e2];rw [List.append_assoc,← List.take_succ_eq_append_getElem hj]
 ·unfold ZdZ;dsimp only;rw [List.drop_length,show Zjo []=[] from rfl,Zh (by simp),List.take_length]
theorem table_eq {cs:List (List Route)} (hc:∀ r∈cs.flatten,RtOK r) (hl:cs.flatten.length≤100000) (hn:cs.length≤100000):ZdP (cs.map Zjo)=some (if rightB cs.flatten then (cs.flatten,0) else ([],2)):=by
 unfold ZdP;have hlen:(cs.map Zjo).length=cs.length:=List.length_map ..;have h1:ZM (fun s=>Zd0 (cs.map Zjo) s.1 s.2) ((0:Int),[])=some (.inl cs.flatten):=by
  refine ZQ (fun i=>((i:Int),(cs.take i).flatten)) cs.length (by omega) (fun i hi=>?_) ?_ (by simp)
  ·unfold Zd0;dsimp only;have hle:(cs.take i).flatten.length+cs[i].length≤cs.flatten.length:=flat_le hi;rw [show decide ((i:Int)<((cs.map Zjo).length:Int))=true by rw [hlen];exact Zej hi,Zr,Zz (show i<(cs.map Zjo).length by rw [hlen];exact hi),Zb,List.getElem_map,ZjB (by omega) (by omega),Zb,Zh (by rw [Zko];simp),
    table_in (fun r hr=>hc r (List.mem_flatten.2 ⟨_,List.getElem_mem hi,hr⟩)) (by omega),Zb,Zaj,ZN (by omega),Zb,Zio hi]
  ·unfold Zd0;dsimp only;rw [hlen,Zh6,Zo,List.take_length]
 rw [h1,Zb,Zaj,Zjm,Zb];cases rightB cs.flatten
 ·rw [Bool.not_false,Zr];rfl
 ·rw [Bool.not_true,Zo];rfl
def ZlJ (t:List Route) (per i:Nat):List Route:=(t.drop (i*per)).take per
def Zh4 (t:List Route) (per ids:Nat):List (List Route):=(List.range ids).map (ZlJ t per)
theorem ZmI (t:List Route) (per:Nat):∀ ids,(Zh4 t per ids).flatten=t.take (ids*per)
 | 0=>by simp [Zh4]
 | ids+1=>by
  have ih:=ZmI t per ids;unfold Zh4 at ih ⊢;rw [List.range_succ,List.map_append,List.flatten_append,ih,List.map_singleton,List.flatten_singleton,Nat.succ_mul,List.take_add];rfl
def Zd2 (per i:Nat):Nat:=(i-1)/per
def Zk8 (t:List Route) (per ids L:Nat):List (List UInt8):=(List.range ids).map fun k=>if k<L then Zjo (ZlJ t per k) else []
theorem Zgf {t:List Route} {per ids L:Nat}:(Zk8 t per ids L).length=ids:=by simp [Zk8]
theorem bodAt_at {t:List Route} {per ids L k:Nat} (h:k<(Zk8 t per ids L).length):(Zk8 t per ids L)[k]=if k<L then Zjo (ZlJ t per k) else []:=by simp [Zk8]
theorem bodAt_set {t:List Route} {per ids L:Nat} (hL:L<ids):(Zk8 t per ids L).set L (Zjo (ZlJ t per L))=Zk8 t per ids (L+1):=by
 refine List.ext_getElem (by rw [List.length_set,Zgf,Zgf]) fun k h1 h2=>?_
 rw [Zgf] at h2;rw [List.getElem_set,bodAt_at,bodAt_at]
 by_cases h:L=k
 ·subst h;rw [if_pos rfl,if_pos (by omega)]
 ·rw [if_neg h]
  by_cases h3:k<L
  ·rw [if_pos h3,if_pos (by omega)]
  ·rw [if_neg h3,if_neg (by omega)]
theorem next_B {per i:Nat} (hp:0<per):(i/per=Zd2 per i∧i<(Zd2 per i+1)*per)∨(i/per=Zd2 per i+1∧i=(Zd2 per i+1)*per):=by
 unfold Zd2;rcases Nat.eq_zero_or_pos i with rfl | h0
 ·left;rw [Nat.zero_div];simp [hp]
 ·have e:=Nat.div_add_mod (i-1) per;have hr:=Nat.mod_lt (i-1) hp;rw [Nat.mul_comm] at e;have em:((i-1)/per+1)*per=(i-1)/per*per+per:=Nat.succ_mul ..
  by_cases h:(i-1) % per+1<per
  ·left
   refine ⟨Nat.div_eq_of_lt_le (by omega) (by rw [em];omega),by omega⟩
  ·right
   have h2:i=((i-1)/per+1)*per:=by omega
   refine ⟨?_,h2⟩
   conv=>lhs;rw [h2]
   rw [Nat.mul_div_cancel _ hp]
theorem last_le {per i:Nat} (hp:0<per):Zd2 per i*per≤i:=by
 unfold Zd2;have:=Nat.div_mul_le_self (i-1) per;omega
theorem last_succ {per i:Nat}:Zd2 per (i+1)=i/per:=by unfold Zd2;rw [Nat.add_sub_cancel]
theorem take_chunk {t:List Route} {per k i:Nat} (h:i=(k+1)*per):(t.take i).drop (k*per)=ZlJ t per k:=by
 unfold ZlJ;rw [List.drop_take,h,Nat.succ_mul,Nat.add_sub_cancel_left]
theorem bodies_loop {t:List Route} {per ids:Nat} {Zdv:Int} (hp:0<per) (hr:Zdv=20*per+Zdv % 20∧0≤Zdv % 20) (hi:1≤ids) (hids:ids≤64) (hl:t.length≤ids*per) (ht:t.length≤256) :
  ZM (fun s=>ZdB t Zdv s.1 s.2.1 s.2.2.1 s.2.2.2) ((0:Int),(0:Int),List.replicate ids ([]:List UInt8),([]:List UInt8))=some ((Zh4 t per ids).map Zjo):=by
 have hq:ZjS Zdv 20=some (per:Int):=by rw [Zf0 (by omega) (by omega)];congr 1;omega
 have hlt:∀ i,i≤t.length→Zd2 per i<ids:=fun i hi2=>by
  unfold Zd2;rcases Nat.eq_zero_or_pos i with rfl | h0
  ·rw [Nat.zero_sub,Nat.zero_div];omega
  ·exact Nat.div_lt_of_lt_mul (by rw [Nat.mul_comm];omega)
 refine ZQ (fun i=>((i:Int),(Zd2 per i:Int),Zk8 t per ids (Zd2 per i),Zjo ((t.take i).drop (Zd2 per i*per)))) t.length (by omega) (fun i hi2=>?_) ?_ ?_
 ·unfold ZdB;dsimp only;have hL:=hlt i (by omega);have hL2:=hlt (i+1) (by omega);rw [last_succ] at hL2;have htk:t.take (i+1)=t.take i++[t[i]]:=ZcY hi2;have hll:=last_le (i:=i) hp;have hys:(Zjo ((t.take i).drop (Zd2 per i*per))).length≤1000000:=by rw [Zko,List.length_drop,List.length_take];omega
  rw [Zz (show Zd2 per i<(Zk8 t per ids (Zd2 per i)).length by rw [Zgf];exact hL),Zb,Zej hi2,Zr,Zz hi2,Zb,hq,Zb,quoI_nat hp,Zb,Zz (show i/per<(Zk8 t per ids (Zd2 per i)).length by rw [Zgf];exact hL2),Zb,last_succ];rcases next_B (i:=i) hp with ⟨h1,h2⟩ | ⟨h1,h2⟩
  ·rw [h1,decide_eq_true rfl,Zr,laid_eq _ hys,Zb,ZN (by omega),Zb,htk,List.drop_append_of_le_length (by rw [List.length_take];omega),encs_append,encs_one]
  ·rw [h1,Zh (by simp;omega)];rw [show lenI (Int.toNat ((Zd2 per i+1:Nat):Int)) (Int.toNat (Zd2 per i:Int)+1)=some () by rw [Int.toNat_natCast,Int.toNat_natCast];unfold lenI;rw [if_pos rfl],Zb,laid_eq _ (by simp),Zb,ZN (by omega),Zb,List.nil_append,Int.toNat_natCast,take_chunk h2,bodAt_set hL,htk,← h2];rw [List.drop_append,List.length_take,Nat.min_eq_left (by omega),Nat.sub_self,List.drop_of_length_le (by rw [List.length_take];omega),List.nil_append,List.drop_zero,encs_one]
 ·unfold ZdB;dsimp only;have hL:=hlt t.length (by omega);have hll:=last_le (i:=t.length) hp;rw [Zz (show Zd2 per t.length<(Zk8 t per ids (Zd2 per t.length)).length by rw [Zgf];exact hL),Zb,Zh6,Zo,Int.toNat_natCast,List.take_length];have hle:t.length≤(Zd2 per t.length+1)*per:=by
   rcases next_B (i:=t.length) hp with ⟨h1,h2⟩ | ⟨h1,h2⟩ <;> omega
  have e1:t.drop (Zd2 per t.length*per)=ZlJ t per (Zd2 per t.length):=by
   unfold ZlJ;rw [List.take_of_length_le];rw [List.length_drop,Nat.succ_mul] at *;omega
  rw [e1,bodAt_set hL];refine congrArg (fun x=>some (Sum.inr x)) ?_;unfold Zk8 Zh4;rw [List.map_map];refine List.map_congr_left fun k hk=>?_
  by_cases h:k<Zd2 per t.length+1
  ·rw [if_pos h];rfl
  ·rw [if_neg h];have hk2:(Zd2 per t.length+1)*per≤k*per:=Nat.mul_le_mul_right _ (by omega);have:ZlJ t per k=[]:=by
    unfold ZlJ;rw [List.drop_of_length_le (by omega),List.take_nil]
   show []=Zjo (ZlJ t per k);rw [this];rfl
 ·have e0:Zd2 per 0=0:=by unfold Zd2;rw [Nat.zero_sub,Nat.zero_div]
  rw [e0];have:Zk8 t per ids 0=List.replicate ids []:=by
   refine List.ext_getElem (by rw [Zgf,List.length_replicate]) fun k h1 h2=>?_
   rw [bodAt_at,List.getElem_replicate,if_neg (by omega)]
  rw [this];simp;rfl
theorem bodies_eq {t:List Route} (h:TbR t) {per ids:Nat} {Zdv:Int} (hp:0<per) (hr:Zdv=20*per+Zdv % 20∧0≤Zdv % 20) (hr2:20≤Zdv∧Zdv≤240) (hi:1≤ids) (hids:ids≤64) {z:Int} (hz:z=ids) :
  Zf3 t z Zdv=some (if t.length≤min (ids*per) 256 then ((Zh4 t per ids).map Zjo,0) else ([],5)):=by
 subst hz;have hl:=h.len;have hmul:ids*per≤64*12:=Nat.mul_le_mul hids (by omega);have hmul2:1*1≤ids*per:=Nat.mul_le_mul hi hp;have hq:ZjS Zdv 20=some (per:Int):=by rw [Zf0 (by omega) (by omega)];congr 1;omega
 have em:(ids:Int)*per=((ids*per:Nat):Int):=(Int.natCast_mul ..).symm;have hmost:Zf2 (ids:Int) Zdv=some (((min (ids*per) 256:Nat)):Int):=by
  unfold Zf2;rw [Zh (by simp;omega),hq,Zb,ZjE (by rw [em];omega) (by rw [em];omega),Zb,em];congr 1;omega
 unfold Zf3;rw [hmost,Zb,show decide ((((min (ids*per) 256:Nat)):Int)=0)=false by simp;omega,Bool.not_false,ZaO,h.right,Zb,Bool.not_true,Bool.or_false,Zo]
 by_cases hle:t.length≤min (ids*per) 256
 ·rw [if_pos hle,Zh (by simp;omega),ZaA (by omega) (by omega) (by omega),Zb,Zb,Int.toNat_natCast,show (0:Int)=((0:Nat):Int) from rfl,Zz (show 0<(List.replicate ids ([]:List UInt8)).length by rw [List.length_replicate];omega),Zb];have:=bodies_loop (t:=t) (Zdv:=Zdv) hp hr hi hids (by omega) hl;rw [show ((0:Nat):Int)=(0:Int) from rfl,this,Zb]
 ·rw [if_neg hle,Zi (by simp;omega)]
def Zfd (old now:List (List UInt8)) (n:Nat):List Item:=((List.range n).filter fun i=>decide (old.getD i []≠now.getD i [])).map fun (i:Nat)=>(⟨(i:Int),now.getD i []⟩:Item)
theorem diffs_succ (old now:List (List UInt8)) (n:Nat):Zfd old now (n+1)=Zfd old now n++if old.getD n []≠now.getD n [] then [⟨(n:Int),now.getD n []⟩] else []:=by
 unfold Zfd;rw [List.range_succ,List.filter_append,List.map_append]
 by_cases h:old.getD n []≠now.getD n []
 ·rw [if_pos h];simp only [List.filter_cons,decide_eq_true h,List.filter_nil,if_true,List.map_cons,List.map_nil]
 ·rw [if_neg h];simp only [List.filter_cons,decide_eq_false h,List.filter_nil,List.map_nil,Bool.false_eq_true,if_false]
theorem diffs_len (old now:List (List UInt8)) (n:Nat):(Zfd old now n).length≤n:=by
 unfold Zfd;rw [List.length_map];have:=List.length_filter_le (fun i=>decide (old.getD i []≠now.getD i [])) (List.range n);rw [List.length_range] at this;exact this
theorem mem_diffs {old now:List (List UInt8)} {n:Nat} {x:Item} (h:x∈Zfd old now n):∃ i,i<n∧x.Id=i∧x.Body=now.getD i []∧old.getD i []≠now.getD i []:=by
 unfold Zfd at h;obtain ⟨i,hi,rfl⟩:=List.mem_map.1 h;obtain ⟨h1,h2⟩:=List.mem_filter.1 hi;exact ⟨i,List.mem_range.1 h1,rfl,rfl,by simpa using h2⟩
theorem diffs_nodup (old now:List (List UInt8)) (n:Nat):((Zfd old now n).map (·.Id)).Nodup:=by
 unfold Zfd;rw [List.map_map];refine List.Pairwise.map _ (fun a b h=>?_) (List.Pairwise.filter _ (List.nodup_range (n:=n)));intro e;have e:(a:Int)=(b:Int):=e;exact h (by omega)
theorem body_at (l:List (List UInt8)) (i:Nat):Zha l (i:Int)=some (l.getD i []):=by
 unfold Zha
 by_cases h:i<l.length
 ·rw [Zh (by simp;omega),Zz h,Zb,gtD h]
 ·rw [Zi (by simp;omega),List.getD_eq_getElem?_getD,List.getElem?_eq_none (by omega)];rfl
theorem clone_bb {b:List UInt8} (h:b.length≤140737488351232):ZdK b=some b:=by
 unfold ZdK;rw [ZaA (by omega) (by simp;omega) (by simp;omega),Zb]
theorem changed_eq {old now:List (List UInt8)} {n:Nat} (h1:old.length=n) (h2:now.length=n) (hn:n≤1000) (hb:∀ b∈now,b.length≤100000):Ze1 old now=some (Zfd old now n):=by
 unfold Ze1;have h3:ZM (fun s=>Zc1 old now s.1 s.2) ((0:Int),([]:List Item))=some (Zfd old now n):=by
  refine ZQ (fun i=>((i:Int),Zfd old now i)) n (by omega) (fun i hi=>?_) ?_ rfl
  ·unfold Zc1;dsimp only;have hd:=diffs_len old now i;have hbl:(now.getD i []).length≤100000:=by rw [gtD (by omega)];exact hb _ (List.getElem_mem (by omega))
   rw [Zi (by rw [h1,h2];simp;omega),body_at,Zb,body_at,Zb];unfold ZhS;rw [Zb,diffs_succ]
   by_cases h:old.getD i []=now.getD i []
   ·rw [decide_eq_true h,Bool.not_true,Zo,Zb,ZN (by omega),Zb,if_neg (fun h'=>h' h),List.append_nil]
   ·rw [decide_eq_false h,Bool.not_false,Zr,clone_bb (by omega),Zb,ZaA (by omega) (by simp;omega) (by simp;omega),Zb,Zb,Zb,ZN (by omega),Zb,if_pos h]
  ·unfold Zc1;dsimp only;rw [Zh (by rw [h1,h2];simp)]
 rw [h3,Zb]
end Go.Proofs.YtkmojgfenlgchaaGreatDoor.Tr
namespace Go.Proofs.YtkmojgfenlgchaaGreatDoor.Tr
open Go
set_option maxRecDepth 100000
def HasP (t:List Route) (p:Prefix):Prop:=∃ r∈t,r.Prefix=p
instance (t:List Route) (p:Prefix):Decidable (HasP t p):=by unfold HasP;exact inferInstance
theorem take_ahead {t:List Route} (h:TbR t) {p:Prefix}:∀ a∈t.take (ZfZ t p),PL a.Prefix p:=fun a ha=>by
 obtain ⟨i,hi,rfl⟩:=List.getElem_of_mem ha;rw [List.length_take] at hi;rw [List.getElem_take];exact (ZhB h (by omega)).2 (by omega)
theorem has_at {t:List Route} (h:TbR t) {p:Prefix} (hh:HasP t p):∃ hk:ZfZ t p<t.length,t[ZfZ t p].Prefix=p∧∀ a∈t.drop (ZfZ t p+1),PL p a.Prefix:=by
 obtain ⟨r,hr,e⟩:=hh;obtain ⟨i,hi,rfl⟩:=List.getElem_of_mem hr;have hra:=ZhB h (p:=p) hi;have hge:ZfZ t p≤i:=Nat.le_of_not_lt fun h1=>(hra.2 h1).ne e
 have hk:ZfZ t p<t.length:=by omega
 have hki:ZfZ t p=i:=by
  rcases Nat.lt_or_ge (ZfZ t p) i with h1 | h1
  ·have h2:=List.pairwise_iff_getElem.1 h.srt (ZfZ t p) i hk hi h1;rw [e] at h2;have:=(ZhB h (p:=p) hk).1 h2;omega
  ·omega
 refine ⟨hk,by simp only [hki];exact e,fun a ha=>?_⟩;obtain ⟨j,hj,rfl⟩:=List.getElem_of_mem ha;rw [List.length_drop] at hj;rw [List.getElem_drop];have:=List.pairwise_iff_getElem.1 h.srt i (ZfZ t p+1+j) hi (by omega) (by omega);rw [e] at this;exact this
theorem drop_behind {t:List Route} (h:TbR t) {p:Prefix} (hp:PM p) (hh:¬ HasP t p):∀ a∈t.drop (ZfZ t p),PL p a.Prefix:=fun a ha=>by
 have hm:=List.mem_of_mem_drop ha;obtain ⟨j,hj,rfl⟩:=List.getElem_of_mem ha;rw [List.length_drop] at hj;rw [List.getElem_drop] at hm ⊢;rcases PL.tri (h.may _ hm) hp with h1 | h1 | h1
 ·have:=(ZhB h (p:=p) (show ZfZ t p+j<t.length by omega)).1 h1;omega
 ·exact absurd ⟨_,hm,h1⟩ hh
 ·exact h1
def chgV (t:List Route) (c:Change):List Route×Int:=
 if ¬ PM c.Route.Prefix then (t,1) else
 if c.Gone then (if HasP t c.Route.Prefix then (t.take (ZfZ t c.Route.Prefix)++t.drop (ZfZ t c.Route.Prefix+1),0) else (t,6)) else
 if HasP t c.Route.Prefix then (t.set (ZfZ t c.Route.Prefix) c.Route,0) else
 if 256≤t.length then (t,5) else (t.take (ZfZ t c.Route.Prefix)++[c.Route]++t.drop (ZfZ t c.Route.Prefix),0)
theorem change_eq {t:List Route} (h:TbR t) (c:Change):ZeZ t c=some (chgV t c):=by
 have hl:=h.len;have hr:=rank_le t c.Route.Prefix;unfold ZeZ chgV;rw [ZiV,Zb]
 by_cases hp:PM c.Route.Prefix
 ·rw [decide_eq_true hp,Bool.not_true,Zo,if_neg (fun h=>h hp),tplace_eq h,Zb]
  by_cases hh:HasP t c.Route.Prefix
  ·obtain ⟨hk,-,-⟩:=has_at h hh;rw [show decide (∃ r∈t,r.Prefix=c.Route.Prefix)=true from decide_eq_true hh,if_pos hh,if_pos hh];dsimp only;rw [Bool.not_true,Bool.and_false,Zo];cases hg:c.Gone
   ·rw [Zo,Zr,Zz hk,Zb,Zb,Int.toNat_natCast,if_neg (by decide)]
   ·rw [Zr,ZN (by omega),Zb,if_pos rfl];unfold Zbw;rw [Zep (by omega) (by omega) (by omega),Zb,Zb,Int.toNat_natCast,Int.toNat_natCast]
  ·rw [show decide (∃ r∈t,r.Prefix=c.Route.Prefix)=false from decide_eq_false hh,if_neg hh,if_neg hh];dsimp only;rw [Bool.not_false,Bool.and_true];cases hg:c.Gone
   ·rw [Zo,Zo,Zo,if_neg (by decide)]
    by_cases hf:256≤t.length
    ·rw [Zi (by simp;omega),if_pos hf]
    ·rw [Zh (by simp;omega),if_neg hf];unfold Zbv;rw [Zep (by omega) (by omega) (by omega),Zb];rw [show lenI [c.Route].length 1=some () from rfl,Zb,ZaA (by omega) (by simp;omega) (by simp;omega),Zb,Zb,Int.toNat_natCast]
   ·rw [Zr,if_pos rfl]
 ·rw [decide_eq_false hp,Bool.not_false,Zr,if_pos hp]
theorem chg_ok {t:List Route} (h:TbR t) {c:Change} (h0:(chgV t c).2=0):TbR (chgV t c).1∧
  ∀ r,r∈(chgV t c).1↔(c.Gone=false∧r=c.Route)∨(r∈t∧r.Prefix≠c.Route.Prefix):=by
 have hl:=h.len;have hr:=rank_le t c.Route.Prefix;have hta:=take_ahead h (p:=c.Route.Prefix);unfold chgV at h0 ⊢
 by_cases hp:PM c.Route.Prefix
 ·rw [if_neg (fun h=>h hp)] at h0 ⊢;have hst:(t.take (ZfZ t c.Route.Prefix)).Pairwise fun a b=>PL a.Prefix b.Prefix:=h.srt.sublist (List.take_sublist ..)
  by_cases hh:HasP t c.Route.Prefix
  ·obtain ⟨hk,hke,hkd⟩:=has_at h hh;have hsd:(t.drop (ZfZ t c.Route.Prefix+1)).Pairwise fun a b=>PL a.Prefix b.Prefix:=h.srt.sublist (List.drop_sublist ..)
   have hmem:∀ r,r∈t∧r.Prefix≠c.Route.Prefix↔r∈t.take (ZfZ t c.Route.Prefix)∨r∈t.drop (ZfZ t c.Route.Prefix+1):=fun r=>by
    constructor
    ·rintro ⟨h1,h2⟩;rw [← List.take_append_drop (ZfZ t c.Route.Prefix) t,List.mem_append,List.drop_eq_getElem_cons hk,List.mem_cons] at h1;rcases h1 with h1 | rfl | h1
     ·exact .inl h1
     ·exact absurd hke h2
     ·exact .inr h1
    ·rintro (h1 | h1)
     ·exact ⟨List.mem_of_mem_take h1,(hta r h1).ne⟩
     ·exact ⟨List.mem_of_mem_drop h1,(hkd r h1).ne.symm⟩
   cases hg:c.Gone
   ·rw [if_neg (by decide),if_pos hh];have e:t.set (ZfZ t c.Route.Prefix) c.Route=t.take (ZfZ t c.Route.Prefix)++c.Route::t.drop (ZfZ t c.Route.Prefix+1):=List.set_eq_take_append_cons_drop (l:=t)▸(by rw [if_pos hk]);dsimp only;refine ⟨⟨by rw [List.length_set];exact hl,fun r hr2=>?_,?_⟩,fun r=>?_⟩
    ·rcases List.mem_or_eq_of_mem_set hr2 with h1 | rfl
     ·exact h.may r h1
     ·exact hp
    ·rw [e,List.pairwise_append];refine ⟨hst,List.pairwise_cons.2 ⟨hkd,hsd⟩,fun a ha b hb=>?_⟩;rcases List.mem_cons.1 hb with rfl | hb
     ·exact hta a ha
     ·exact (hta a ha).tr (hkd b hb)
    ·rw [e,List.mem_append,List.mem_cons,hmem]
     constructor
     ·rintro (h1 | h1 | h1)
      ·exact .inr (.inl h1)
      ·exact .inl ⟨rfl,h1⟩
      ·exact .inr (.inr h1)
     ·rintro (⟨-,h1⟩ | h1 | h1)
      ·exact .inr (.inl h1)
      ·exact .inl h1
      ·exact .inr (.inr h1)
   ·rw [if_pos rfl,if_pos hh];dsimp only;have hsub:(t.take (ZfZ t c.Route.Prefix)++t.drop (ZfZ t c.Route.Prefix+1)).Sublist t:=by
     conv=>rhs;rw [← List.take_append_drop (ZfZ t c.Route.Prefix) t]
     exact List.Sublist.append (List.Sublist.refl _) (by rw [List.drop_eq_getElem_cons hk];exact List.sublist_cons_self ..)
    refine ⟨h.sub hsub,fun r=>?_⟩;rw [List.mem_append,← hmem];exact ⟨fun h=>.inr h,fun h=>h.elim (fun h=>by cases h.1) id⟩
  ·have hkd:=drop_behind h hp hh;have hsd:(t.drop (ZfZ t c.Route.Prefix)).Pairwise fun a b=>PL a.Prefix b.Prefix:=h.srt.sublist (List.drop_sublist ..)
   cases hg:c.Gone
   ·rw [hg,if_neg (by decide),if_neg hh] at h0;rw [if_neg (by decide),if_neg hh]
    by_cases hf:256≤t.length
    ·rw [if_pos hf] at h0;cases h0
    ·rw [if_neg hf];dsimp only;refine ⟨⟨by simp;omega,fun r hr2=>?_,?_⟩,fun r=>?_⟩
     ·rw [List.mem_append,List.mem_append,List.mem_singleton] at hr2;rcases hr2 with (h1 | rfl) | h1
      ·exact h.may r (List.mem_of_mem_take h1)
      ·exact hp
      ·exact h.may r (List.mem_of_mem_drop h1)
     ·rw [List.append_assoc,List.pairwise_append];refine ⟨hst,List.pairwise_cons.2 ⟨hkd,hsd⟩,fun a ha b hb=>?_⟩;rcases List.mem_cons.1 hb with rfl | hb
      ·exact hta a ha
      ·exact (hta a ha).tr (hkd b hb)
     ·rw [List.mem_append,List.mem_append,List.mem_singleton]
      constructor
      ·rintro ((h1 | h1) | h1)
       ·exact .inr ⟨List.mem_of_mem_take h1,(hta r h1).ne⟩
       ·exact .inl ⟨rfl,h1⟩
       ·exact .inr ⟨List.mem_of_mem_drop h1,(hkd r h1).ne.symm⟩
      ·rintro (⟨-,h1⟩ | ⟨h1,h2⟩)
       ·exact .inl (.inr h1)
       ·rw [← List.take_append_drop (ZfZ t c.Route.Prefix) t,List.mem_append] at h1;rcases h1 with h1 | h1
        ·exact .inl (.inl h1)
        ·exact .inr h1
   ·rw [hg,if_pos rfl,if_neg hh] at h0;cases h0
 ·rw [if_pos hp] at h0;cases h0
def Zgh (t:List Route):List Route→List Change→List Route×Int
 | u,[]=>(u,0)
 | u,c::l=>if (chgV u c).2=0 then Zgh t (chgV u c).1 l else (t,(chgV u c).2)
theorem appV_cons (t u:List Route) (c:Change) (l:List Change):Zgh t u (c::l)=if (chgV u c).2=0 then Zgh t (chgV u c).1 l else (t,(chgV u c).2):=rfl
theorem Zl0 {t:List Route} (h:t.length≤1000000):ZR t=some t:=by
 unfold ZR;rw [ZaA (by omega) (by omega) (by omega),Zb]
theorem app_ok {t:List Route}:∀ {l:List Change} {u:List Route},TbR u→(Zgh t u l).2=0→TbR (Zgh t u l).1
 | [],u,h,_=>h
 | c::l,u,h,h0=>by
  unfold Zgh at h0 ⊢
  by_cases hc:(chgV u c).2=0
  ·rw [if_pos hc] at h0 ⊢;exact app_ok (chg_ok h hc).1 h0
  ·rw [if_neg hc] at h0;exact absurd h0 hc
theorem apply_eq {t:List Route} (h:TbR t) {l:List Change} (hl:l.length≤1000000):Zex t l=some (Zgh t t l):=by
 have hlt:=h.len;unfold Zex;rw [h.right,Zb,Bool.not_true,Zo,Zl0 (by omega),Zb];refine Zgq (Zfk.b (Zfk.loop (σ:=Int×List Route) (R:=fun o:List Route⊕(List Route×Int)=>(∃ u,o=.inl u∧Zgh t t l=(u,0))∨o=.inr (Zgh t t l)) (fun s=>∃ i:Nat,s.1=i∧i≤l.length∧TbR s.2∧Zgh t s.2 (l.drop i)=Zgh t t l) (fun s=>l.length-s.1.toNat) (fun s hs=>?_) ⟨0,rfl,by omega,h,rfl⟩ (by show l.length-0<_;omega)) fun o ho=>?_)
 ·obtain ⟨z,u⟩:=s;obtain ⟨i,rfl,hi,hu,he⟩:=hs;dsimp only at hu he ⊢;unfold ZgP
  by_cases hlt2:i<l.length
  ·rw [Zej hlt2,Zr,Zz hlt2,Zb,change_eq hu,Zb];rw [List.drop_eq_getElem_cons hlt2,appV_cons] at he
   by_cases hc:(chgV u l[i]).2=0
   ·rw [if_pos hc] at he;rw [Zh (by simp [hc]),ZN (by omega),Zb];exact Zfk.l ⟨i+1,rfl,by omega,(chg_ok hu hc).1,he⟩ (by show l.length-(((i+1:Nat):Int)).toNat<l.length-(i:Int).toNat;omega)
   ·rw [if_neg hc] at he;rw [Zi (by simp [hc]),Zl0 (by omega),Zb];exact Za8 (.inr (by rw [he]))
  ·rw [Zjc (by omega),Zo];rw [List.drop_of_length_le (by omega)] at he;exact Za8 (.inl ⟨u,rfl,he.symm⟩)
 ·rcases ho with ⟨u,rfl,he⟩ | rfl
  ·rw [Zaj];exact Zfk.s he.symm
  ·rw [ZaY];exact Zfk.s rfl
end Go.Proofs.YtkmojgfenlgchaaGreatDoor.Tr
namespace Go.Proofs.YtkmojgfenlgchaaGreatDoor.Tr
open Go
set_option maxRecDepth 100000
def Zh2 (P nB:Nat):Nat:=min ((nB-4)*P/2) 24
theorem most64:Zem 64=24:=rfl
theorem room64:Zee 64=48:=rfl
theorem Ze2 {P nB S:Nat} (hg:Geo P nB S):1≤Zh2 P nB∧Zh2 P nB≤24∧2*Zh2 P nB≤(nB-4)*P:=by
 have:=hg.p2;have:=hg.b5;have h1:1*2≤(nB-4)*P:=Nat.mul_le_mul (by omega) (by omega);unfold Zh2;omega
theorem limit_at {nB P:Nat} (h1:4≤nB) (h2:nB≤32) (h3:1≤P) (h4:P≤16):Zgb (nB:Int) (P:Int)=some (((nB-4)*P:Nat):Int):=by
 have:(nB-4)*P≤28*16:=Nat.mul_le_mul (by omega) h4;have e:((nB:Int)-4)*P=(((nB-4)*P:Nat):Int):=by
  rw [Int.natCast_mul];congr 1;omega
 unfold Zgb;have hb:((((decide ((nB:Int)<4))||(decide ((nB:Int)>32)))||(decide ((P:Int)<1)))||(decide ((P:Int)>16)))=false:=by simp;omega
 rw [hb,Zo,ZaN (by omega) (by omega),Zb,ZjE (by rw [e];omega) (by rw [e];omega),Zb,e]
theorem ids_eq {P nB S:Nat} (hg:Geo P nB S):Zk3 (nB:Int) (P:Int) 64=some (Zh2 P nB:Int):=by
 have:=hg.p2;have:=hg.b5;have:=hg.b11;have:=hg.p8;unfold Zk3;rw [limit_at (by omega) (by omega) (by omega) (by omega),Zb,show (2:Int)=((2:Nat):Int) from rfl,quoI_nat (by omega),Zb,Zie,Zb,most64];unfold Zh2;congr 1;omega
def mostN (P nB:Nat):Nat:=min (Zh2 P nB*2) 256
theorem Most_eq {P nB S:Nat} (hg:Geo P nB S):Zkn (nB:Int) (P:Int) 64=some (mostN P nB:Int):=by
 have hi:=Ze2 hg;unfold Zkn;rw [ids_eq hg,Zb,ZcZ,Zb,room64];unfold Zf2;rw [Zh (by simp;omega),show ZjS (48:Int) 20=some 2 from rfl,Zb,ZjE (by omega) (by omega),Zb,Zb];unfold mostN;congr 1;omega
theorem chip_dims {P nB:Nat} {c:Chip} (h:CI P nB 64 c):(c.Blocks.length:Int)=nB∧c.Pages=P∧c.Size=64:=⟨by rw [h.len],h.pgs,h.siz⟩
theorem mostOf_eq {P nB:Nat} {c:Chip} (hg:Geo P nB 64) (h:CI P nB 64 c):ZfI c=some (mostN P nB:Int):=by
 obtain ⟨h1,h2,h3⟩:=chip_dims h;unfold ZfI;rw [h1,h2,h3,Most_eq hg,Zb]
theorem idsOf_eq {P nB:Nat} {c:Chip} (hg:Geo P nB 64) (h:CI P nB 64 c):Zgd c=some (Zh2 P nB:Int):=by
 obtain ⟨h1,h2,h3⟩:=chip_dims h;unfold Zgd;rw [h1,h2,h3,ids_eq hg,Zb]
theorem most_pos {P nB S:Nat} (hg:Geo P nB S):decide ((mostN P nB:Int)=0)=false:=by
 have hi:=Ze2 hg;rw [decide_eq_false_iff_not];unfold mostN;omega
theorem fbody_eq {P nB S:Nat} {c:Chip} {gen:UInt64} {at0:List Int} {last:Int} {bod:List (List UInt8)} {id:Nat} (hc:CI P nB S c) (hg:Geo P nB S) (h:GI P nB c at0 bod) (hi:id<at0.length) :
  Zkm ⟨c,at0,gen,last⟩ (id:Int)=some (bod.getD id []):=by
 unfold Zkm;rw [ZcR (d:=0) rfl hi,Zb];rcases h.2 id hi with g | ⟨k,j,g,a1,a2,a3,a4,a5,a6,a7⟩
 ·rw [g.1,ZaN (by omega) (by omega),Zb,Zi (by decide),g.2]
 have hp:=Zd1 (P:=P) (k:=k) (j:=j);have hl:=loc_le (P:=P) a3 a4;have hq:=ZjG (k:=k) a4;have:nB*P≤11*8:=Nat.mul_le_mul hg.b11 hg.p8;have:=hg.p2;rw [a1];dsimp only;rw [ZaN (by omega) (by omega),Zb,Zh (by simp;omega),hc.pgs,Zf0 (by omega) (by omega),Zb,hq.1,hc.idxB rfl a3,Zb,ZjB (by omega) (by omega),Zb,hq.2,hc.idxP rfl a3 a4,Zb,Zfq,Zb,a6];rw [Zh (by simp)]
theorem take_app {α:Type} {l:List α} {n i:Nat} {z:α} (hn:l.length=n) (hi:i<n):(l.take i++List.replicate (n-i) z).set i (l[i]'(by omega))=l.take (i+1)++List.replicate (n-(i+1)) z:=by
 have e:n-i=(n-(i+1))+1:=by omega
 rw [List.set_append_right _ _ (by rw [List.length_take];omega),List.length_take,Nat.min_eq_left (by omega),Nat.sub_self,e,List.replicate_succ,List.set_cons_zero,ZcY (show i<l.length by omega),List.append_assoc];rfl
structure FI (P nB:Nat) (c:Chip) (at0:List Int) (gen:UInt64) (last:Int) (bod:List (List UInt8)) (t:List Route):Prop where
 vi:VI P nB 64 c at0 gen last bod
 len:at0.length=Zh2 P nB
 tab:ZdP bod=some (t,0)
 tr:TbR t
theorem FI.bl {P nB:Nat} {c:Chip} {at0:List Int} {gen:UInt64} {last:Int} {bod:List (List UInt8)} {t:List Route} (h:FI P nB c at0 gen last bod t):bod.length=Zh2 P nB:=by rw [← h.vi.gi.1,h.len]
theorem load_eq {P nB:Nat} (hg:Geo P nB 64) {c:Chip} {at0:List Int} {gen:UInt64} {last:Int} {bod:List (List UInt8)} {t:List Route} (h:FI P nB c at0 gen last bod t) :
  ZiZ c=some (⟨⟨c,at0,gen,last⟩,t⟩,bod,0):=by
 have hi:=Ze2 hg;have hbl:=h.bl;have hal:=h.len;unfold ZiZ;rw [mostOf_eq hg h.vi.ci,Zb,most_pos hg,Zo,mount_eq hg h.vi,Zb,Zh (by simp),idsOf_eq hg h.vi.ci,Zb];dsimp only;rw [Zh (by rw [hal];simp),ZaA (by omega) (by omega) (by omega),Zb,Zb,Int.toNat_natCast,hal];have hloop:ZM (fun s=>Zgc (⟨c,at0,gen,last⟩,0) (List.replicate (Zh2 P nB) (Dat.z:List UInt8)) s.1 s.2) ((0:Int),List.replicate (Zh2 P nB) (Dat.z:List UInt8))=some bod:=by
  refine ZQ (fun i=>((i:Int),bod.take i++List.replicate (Zh2 P nB-i) (Dat.z:List UInt8))) (Zh2 P nB) (by omega) (fun i hi2=>?_) ?_ (by simp)
  ·unfold Zgc;dsimp only;have hl:(bod.take i++List.replicate (Zh2 P nB-i) (Dat.z:List UInt8)).length=Zh2 P nB:=by rw [List.length_append,List.length_take,List.length_replicate];omega
   rw [show decide ((i:Int)<((List.replicate (Zh2 P nB) (Dat.z:List UInt8)).length:Int))=true by rw [List.length_replicate];exact Zej hi2,Zr,fbody_eq h.vi.ci hg h.vi.gi (by omega),Zb,Zz (by omega),Zb,Zb,Int.toNat_natCast,ZN (by omega),Zb,gtD (show i<bod.length by omega),take_app hbl hi2]
  ·unfold Zgc;dsimp only;rw [List.length_replicate,Zh6,Zo,List.take_of_length_le (by omega),Nat.sub_self,List.replicate_zero,List.append_nil]
 rw [hloop,Zb,h.tab,Zb,Zh (by simp),Zb]
theorem fmount_eq {P nB:Nat} (hg:Geo P nB 64) {c:Chip} {at0:List Int} {gen:UInt64} {last:Int} {bod:List (List UInt8)} {t:List Route} (h:FI P nB c at0 gen last bod t) :
  Zge c=some (⟨⟨c,at0,gen,last⟩,t⟩,0):=by
 unfold Zge;rw [load_eq hg h,Zb]
theorem equal_rt (a:List Route) (ha:a.length≤1000000):Za2 a a=some true:=by
 unfold Za2;rw [Zh (by simp),Zc3 (f:=fun s=>ZaJ a a s) a (fun _=>true) (by omega) (fun i hi=>by
  unfold ZaJ;rw [Zej hi,Zr,Zz hi,Zb,Zb,Zh (by simp),ZN (by omega),Zb,if_pos rfl]) (by unfold ZaJ;rw [Zh6,Zo]),Zb,if_pos (by simp),Zaj]
theorem stands_eq {P nB:Nat} (hg:Geo P nB 64) {c:Chip} {at0:List Int} {gen:UInt64} {last:Int} {bod:List (List UInt8)} {t:List Route} (h:FI P nB c at0 gen last bod t) :
  Zhi ⟨⟨c,at0,gen,last⟩,t⟩=some (bod,true):=by
 have hal:=h.len;have hi:=Ze2 hg;have htl:=h.tr.len;unfold Zhi;rw [Zb];dsimp only;rw [chip_off h.vi.off,load_eq hg h,Zb,Zh (by simp)];dsimp only;rw [equal_int _ _ (by omega),Zb,decide_eq_true rfl,Bool.not_true,Bool.not_false,ZaO,equal_rt _ (by omega),Zb,Bool.not_true,Bool.or_self,Zo]
theorem clone_LB {l:List (List UInt8)} (h:l.length≤1000000):ZbX l=some l:=by
 unfold ZbX;rw [ZaA (by omega) (by omega) (by omega),Zb]
theorem set_self {α:Type} {l:List α} {i:Nat} (h:i<l.length):l.set i l[i]=l:=List.set_getElem_self h
theorem copied_c {P nB S:Nat} {c:Chip} (hc:CI P nB S c):ZcM c=some c:=by
 have hn:=hc.nat;have hlen:=hc.len;unfold ZcM;have hb:ZW c.Blocks=some c.Blocks:=by
  unfold ZW;rw [ZaA (by omega) (by omega) (by omega),Zb]
 have hf:ZH c.Faults=some c.Faults:=by
  unfold ZH;rw [ZaA (by omega) (by omega) (by omega),Zb]
 have h1:ZM (fun s=>Zcy c.Blocks s.1 s.2) ((0:Int),c.Blocks)=some c.Blocks:=by
  refine ZQ (fun i=>((i:Int),c.Blocks)) c.Blocks.length (by omega) (fun i hi=>?_) ?_ rfl
  ·unfold Zcy;dsimp only;obtain ⟨hl,hbk⟩:=hc.blkAt (show i<nB by omega);have hr:=hc.blkR (show i<nB by omega);rw [hbk] at hr;obtain ⟨r1,r2,r3,r4,r5⟩:=hr;rw [Zej hi,Zr,Zz hi,Zb,clone_LB (by omega),Zb];have h2:ZM (fun s=>Zcx c.Blocks[i].Pages s.1 s.2) ((0:Int),c.Blocks[i].Pages)=some c.Blocks[i].Pages:=by
    refine ZQ (fun j=>((j:Int),c.Blocks[i].Pages)) c.Blocks[i].Pages.length (by omega) (fun j hj=>?_) ?_ rfl
    ·unfold Zcx;dsimp only;have:=r5 _ (List.getElem_mem hj);rw [Zej hj,Zr,Zz hj,Zb,clone_bb (by omega),Zb,Zb,Zb,Int.toNat_natCast,set_self hj,ZN (by omega),Zb]
    ·unfold Zcx;dsimp only;rw [Zh6,Zo]
   rw [h2,Zb,Zb,ZN (by omega),Zb,Int.toNat_natCast];have:c.Blocks.set i ⟨c.Blocks[i].Pages,c.Blocks[i].Used,c.Blocks[i].Worn,c.Blocks[i].Bad⟩=c.Blocks:=set_self hi;rw [this]
  ·unfold Zcy;dsimp only;rw [Zh6,Zo]
 rw [hb,Zb,h1,Zb,hf,Zb,Zb,Zb]
theorem copied_f {P nB S:Nat} {c:Chip} {at0:List Int} {gen:UInt64} {last:Int} {t:List Route} (hc:CI P nB S c) (ha:at0.length≤1000) (ht:t.length≤1000):ZdT ⟨⟨c,at0,gen,last⟩,t⟩=some ⟨⟨c,at0,gen,last⟩,t⟩:=by
 unfold ZdT;rw [copied_c hc,Zb,Zb,Zkp (by show at0.length≤_;omega),Zb,Zb,Zl0 (by show t.length≤_;omega),Zb,Zb]
end Go.Proofs.YtkmojgfenlgchaaGreatDoor.Tr
namespace Go.Proofs.YtkmojgfenlgchaaGreatDoor.Tr
open Go
set_option maxRecDepth 100000
theorem applied_append (a b:List Item) (bod:List (List UInt8)):Zck (a++b) bod=Zck b (Zck a bod):=by unfold Zck;rw [List.foldl_append]
theorem applied_at {old now:List (List UInt8)} {n:Nat} (h1:old.length=n):∀ i,i≤n→∀ k,k<n→(Zck (Zfd old now i) old).getD k []=if k<i then now.getD k [] else old.getD k []
 | 0,_,k,_=>by rw [if_neg (by omega)];rfl
 | i+1,hi,k,hk=>by
  have ih:=applied_at (now:=now) h1 i (by omega) k hk;have hl:(Zck (Zfd old now i) old).length=n:=by rw [Zgg,h1]
  rw [diffs_succ,applied_append]
  by_cases h:old.getD i []≠now.getD i []
  ·rw [if_pos h];show ((Zck (Zfd old now i) old).set (i:Int).toNat (now.getD i [])).getD k []=_;rw [Int.toNat_natCast,Zcm (by omega)]
   by_cases e:k=i
   ·subst e;rw [if_pos rfl,if_pos (by omega)]
   ·rw [if_neg e,ih]
    by_cases h2:k<i
    ·rw [if_pos h2,if_pos (by omega)]
    ·rw [if_neg h2,if_neg (by omega)]
  ·rw [if_neg h];show (Zck (Zfd old now i) old).getD k []=_;rw [ih]
   by_cases e:k=i
   ·subst e;rw [if_neg (by omega),if_pos (by omega)];exact Classical.not_not.1 h
   ·by_cases h2:k<i
    ·rw [if_pos h2,if_pos (by omega)]
    ·rw [if_neg h2,if_neg (by omega)]
theorem Zkv {old now:List (List UInt8)} {n:Nat} (h1:old.length=n) (h2:now.length=n):Zck (Zfd old now n) old=now:=by
 refine List.ext_getElem (by rw [Zgg,h1,h2]) fun k g1 g2=>?_
 have:=applied_at (now:=now) h1 n (Nat.le_refl _) k (by omega);rw [if_pos (by omega),gtD g1,gtD g2] at this;exact this
theorem diffs_none {old now:List (List UInt8)} {n:Nat} (h1:old.length=n) (h2:now.length=n) (h:Zfd old now n=[]):old=now:=by
 have:=Zkv h1 h2;rw [h] at this;exact this
def nowB (P nB:Nat) (t:List Route):List (List UInt8):=(Zh4 t 2 (Zh2 P nB)).map Zjo
theorem ZkX {P nB:Nat} {t:List Route}:(nowB P nB t).length=Zh2 P nB:=by simp [nowB,Zh4]
theorem now_body {P nB:Nat} {t:List Route}:∀ b∈nowB P nB t,b.length≤40:=fun b hb=>by
 unfold nowB Zh4 at hb;obtain ⟨c,hc,rfl⟩:=List.mem_map.1 hb;obtain ⟨i,hi,rfl⟩:=List.mem_map.1 hc;rw [Zko];unfold ZlJ;rw [List.length_take];omega
theorem now_table {P nB:Nat} (hg:Geo P nB 64) {t:List Route} (h:TbR t) (hl:t.length≤mostN P nB):ZdP (nowB P nB t)=some (t,0):=by
 have hi:=Ze2 hg;have htl:=h.len;unfold mostN at hl;have hf:(Zh4 t 2 (Zh2 P nB)).flatten=t:=by rw [ZmI,List.take_of_length_le (by omega)]
 unfold nowB;rw [table_eq (fun r hr=>by rw [hf] at hr;exact (h.may r hr).rt) (by rw [hf];omega) (by simp [Zh4];omega),hf,if_pos (ZkV.2 h)]
theorem now_fits {P nB n:Nat} {old:List (List UInt8)} {t:List Route} (hn:n=Zh2 P nB):Fits 64 n (Zfd old (nowB P nB t) n):=by
 subst hn;refine ⟨fun x hx=>?_,diffs_nodup ..⟩;obtain ⟨i,hi,e1,e2,e3⟩:=mem_diffs hx;have hb:x.Body.length≤40:=by
  rw [e2,gtD (by rw [ZkX];exact hi)];exact now_body _ (List.getElem_mem _)
 refine ⟨by omega,by omega,by omega⟩
def FOut (P nB:Nat) (f:Fib) (bod:List (List UInt8)) (l:List Change) (r:Fib×Int):Prop:=
  (r.1=f∧r.2≠0∧((Zgh f.Table f.Table l).2=r.2∨((Zgh f.Table f.Table l).2=0∧r.2=5∧mostN P nB<(Zgh f.Table f.Table l).1.length)))∨
  ((Zgh f.Table f.Table l).2=0∧(Zgh f.Table f.Table l).1.length≤mostN P nB∧
    ((r=(⟨f.Vol,(Zgh f.Table f.Table l).1⟩,0)∧bod=nowB P nB (Zgh f.Table f.Table l).1)∨
     ∃ v e,r=(⟨v,if e=0 then (Zgh f.Table f.Table l).1 else f.Table⟩,e)∧WrtOut P nB 64 f.Vol bod (Zfd bod (nowB P nB (Zgh f.Table f.Table l).1) (Zh2 P nB)) (v,e)))
theorem fapply {P nB:Nat} (hg:Geo P nB 64) {c:Chip} {at0:List Int} {gen:UInt64} {last:Int} {bod:List (List UInt8)} {t:List Route} (h:FI P nB c at0 gen last bod t) {l:List Change} (hl:l.length≤1000000) (hops:c.Ops+20000000≤ZcJ) :
  Zfk (Zhj ⟨⟨c,at0,gen,last⟩,t⟩ l) (FOut P nB ⟨⟨c,at0,gen,last⟩,t⟩ bod l):=by
 have hi:=Ze2 hg;have hal:=h.len;have htl:=h.tr.len;have hcop:=copied_f (at0:=at0) (gen:=gen) (last:=last) (t:=t) h.vi.ci (by omega) (by omega);unfold Zhj;rw [stands_eq hg h,Zb];dsimp only;rw [Bool.not_true,Zo,apply_eq h.tr hl,Zb]
 by_cases he:(Zgh t t l).2=0
 ·rw [Zh (by simp [he]),idsOf_eq hg h.vi.ci,Zb,h.vi.ci.siz,ZcZ,Zb];have htr:=app_ok h.tr he;rw [show Zee ((64:Nat):Int)=48 from rfl,bodies_eq htr (per:=2) (ids:=Zh2 P nB) (by omega) (by decide) (by decide) hi.1 (by omega) rfl,Zb]
  by_cases hle:(Zgh t t l).1.length≤min (Zh2 P nB*2) 256
  ·rw [if_pos hle];dsimp only;rw [show (Zh4 (Zgh t t l).1 2 (Zh2 P nB)).map Zjo=nowB P nB (Zgh t t l).1 from rfl];rw [Zh (by simp),changed_eq (n:=Zh2 P nB) h.bl (ZkX (P:=P) (nB:=nB) (t:=(Zgh t t l).1)) (by omega) (fun b hb=>by have:=now_body (P:=P) (nB:=nB) (t:=(Zgh t t l).1) b hb;omega),Zb]
   by_cases hd:Zfd bod (nowB P nB (Zgh t t l).1) (Zh2 P nB)=[]
   ·rw [hd,Zi (by simp),hcop,Zb,Zb];exact Zfk.s (.inr ⟨he,hle,.inl ⟨rfl,diffs_none h.bl ZkX hd⟩⟩)
   ·have hdl:=diffs_len bod (nowB P nB (Zgh t t l).1) (Zh2 P nB);rw [Zh (by
     rw [decide_eq_false_iff_not];intro h0;exact hd (List.length_eq_zero_iff.1 (by omega)))]
    refine Zfk.b (flash_write (v:=⟨c,at0,gen,last⟩) (l:=Zfd bod (nowB P nB (Zgh t t l).1) (Zh2 P nB)) h.vi hg (by show (at0.length:Int)≤Zem ((64:Nat):Int);rw [show Zem ((64:Nat):Int)=24 from rfl];omega) (by show Fits 64 at0.length _;rw [hal];exact now_fits rfl) (by omega) hops) fun r hr=>?_
    obtain ⟨v,e⟩:=r;dsimp only
    by_cases h0:e=0
    ·subst h0;rw [Zh (by simp),Zb,Zb];exact Zfk.s (.inr ⟨he,hle,.inr ⟨v,0,by rw [if_pos rfl],hr⟩⟩)
    ·rw [Zi (by simp [h0]),Zl0 (by omega),Zb,Zb,Zb];exact Zfk.s (.inr ⟨he,hle,.inr ⟨v,e,by rw [if_neg h0],hr⟩⟩)
  ·rw [if_neg hle];dsimp only;rw [Zi (by simp),hcop,Zb];exact Zfk.s (.inl ⟨rfl,by show (5:Int)≠0;decide,.inr ⟨he,rfl,Nat.lt_of_not_le hle⟩⟩)
 ·rw [Zi (by simp [he]),hcop,Zb];exact Zfk.s (.inl ⟨rfl,he,.inl rfl⟩)
theorem fformat {P nB:Nat} (hg:Geo P nB 64):Zfk (ZfJ (Zat nB P 64)) (fun r=>r.2=0∧r.1.Table=[]∧FI P nB r.1.Vol.Chip r.1.Vol.At r.1.Vol.Gen r.1.Vol.Last (List.replicate (Zh2 P nB) []) []∧NF r.1.Vol.Chip∧r.1.Vol.Chip.Ops≤10∧1≤Za4 P nB r.1.Vol.Chip r.1.Vol.At):=by
 have hi:=Ze2 hg;have hc:=new_ci hg;unfold ZfJ;rw [mostOf_eq hg hc,Zb,most_pos hg,Zo,idsOf_eq hg hc,Zb];refine Zfk.b (format_get (S:=64) (n:=Zh2 P nB) hg hi.1 (by rw [show Zem ((64:Nat):Int)=24 from rfl];omega) rfl) fun r ⟨r1,r2,r3,r4,r5,r6⟩=>?_
 rw [Zb];refine Zfk.s ⟨r1,rfl,⟨r2,r3,?_,TbR.nil⟩,r4,r5,r6⟩;have e:(List.replicate (Zh2 P nB) ([]:List UInt8))=(List.replicate (Zh2 P nB) ([]:List Route)).map Zjo:=by rw [List.map_replicate];rfl
 have hf:(List.replicate (Zh2 P nB) ([]:List Route)).flatten=[]:=by simp
 rw [e,table_eq (fun r hr=>by rw [hf] at hr;cases hr) (by rw [hf];simp) (by simp;omega),hf,if_pos (ZkV.2 TbR.nil)]
end Go.Proofs.YtkmojgfenlgchaaGreatDoor.Tr
namespace Go.Proofs.YtkmojgfenlgchaaGreatDoor.Tr
open Go
set_option maxRecDepth 100000
theorem works_ok:ZeU=some true:=by decide +kernel
theorem mod7 (x:UInt8):((x % (UInt8.ofNat 7)).toNat:Int)=((x.toNat % 7:Nat):Int):=by rw [UInt8.toNat_mod];rfl
theorem geo_of (b p:Nat):Geo (p % 7+2) (b % 7+5) 64:=⟨by omega,by omega,by omega,by omega,by omega,by omega⟩
theorem new_at (b p:Nat):ZhR ((b % 7+5:Nat):Int) ((p % 7+2:Nat):Int) (64:Int)=some (Zat (b % 7+5) (p % 7+2) 64,0):=by
 refine new_eq (s:=64) ?_;unfold Zh5;simp;omega
theorem add_b (x:UInt8):Zas ((x % (UInt8.ofNat 7)).toNat:Int) (5:Int)=some ((x.toNat % 7+5:Nat):Int):=by
 rw [mod7,ZZ (by omega) (by omega)];rfl
theorem add_p (x:UInt8):Zas ((x % (UInt8.ofNat 7)).toNat:Int) (2:Int)=some ((x.toNat % 7+2:Nat):Int):=by
 rw [mod7,ZZ (by omega) (by omega)];rfl
theorem same3_eq (a b:List Route) (ha:a.length≤1000000):Zbh a b=some (decide (a=b)):=by
 unfold Zbh
 by_cases hl:a.length=b.length
 ·rw [Zh (by simp [hl]),Zc3 (f:=fun s=>Zcf a b s) (List.range a.length) (fun i=>decide (a.getD i rt0=b.getD i rt0)) (by simp;omega) (fun i hi=>?_) (by unfold Zcf;rw [List.length_range,Zh6,Zo]),Zb]
  ·by_cases e:a=b
   ·subst e;rw [if_pos (by simp),Zaj,decide_eq_true rfl]
   ·have:¬ (List.range a.length).all (fun i=>decide (a.getD i rt0=b.getD i rt0))=true:=fun h=>e (List.ext_getElem hl fun i h1 h2=>by
     have:=List.all_eq_true.1 h i (List.mem_range.2 h1);rw [decide_eq_true_eq,gtD h1,gtD h2] at this;exact this)
    rw [if_neg this,ZaY,decide_eq_false e]
  ·rw [List.length_range] at hi;rw [List.getElem_range];unfold Zcf;rw [Zej hi,Zr,Zz hi,Zb,Zz (show i<b.length by omega),Zb,gtD hi,gtD (show i<b.length by omega)]
   by_cases e:a[i]=b[i]
   ·rw [Zh (by simp [e]),ZN (by omega),Zb,if_pos (by simp [e])]
   ·rw [Zi (by simp [e]),if_neg (by simp [e])]
 ·rw [Zi (by simp;omega),decide_eq_false (fun e=>hl (by rw [e]))]
theorem ints_self (a:List Int) (ha:a.length≤1000000):Zde a a=some true:=by
 unfold Zde;rw [Zh (by simp),Zc3 (f:=fun s=>Zcc a a s) a (fun _=>true) (by omega) (fun i hi=>by
  unfold Zcc;rw [Zej hi,Zr,Zz hi,Zb,Zb,Zh (by simp),ZN (by omega),Zb,if_pos rfl]) (by unfold Zcc;rw [Zh6,Zo]),Zb,if_pos (by simp),Zaj]
theorem same15_self {f:Fib} (hc:ZbN f.Vol.Chip=true) (ha:f.Vol.At.length≤1000000) (ht:f.Table.length≤1000000):Zdd f f=some true:=by
 unfold Zdd Zea;rw [same_self hc,Zb,ZaO,ints_self _ ha,Zb,decide_eq_true rfl,decide_eq_true rfl,Zb];rw [show (((true&&true)&&true)&&true)=true from rfl,ZaO,same3_eq _ _ ht,Zb,decide_eq_true rfl];rfl
end Go.Proofs.YtkmojgfenlgchaaGreatDoor.Tr
namespace Go.Proofs.YtkmojgfenlgchaaGreatDoor.Tr
open Go Go.RowKit
set_option maxRecDepth 100000
set_option synthInstance.maxHeartbeats 400000
set_option synthInstance.maxSize 4096
def Zcp (l0:(List bywaytop_Job)) (has_10:(List Route)) (i_11:Int) (f_12:Fib):Option (((List Route)×Int×Fib)⊕(Unit⊕Bool)):=
 bif (decide (i_11<(l0.length:Int))) then ((idx l0 i_11).bind fun x_14=>(Zex has_10 x_14.Batch).bind fun r_15=>(idx l0 i_11).bind fun x_16=>(Ziv f_12.Vol.Chip x_16.Faults).bind fun r_17=>(some ((⟨(⟨r_17.1,f_12.Vol.At,f_12.Vol.Gen,f_12.Vol.Last⟩:Vol),f_12.Table⟩:Fib):Fib)).bind fun f_19=>(idx l0 i_11).bind fun x_20=>(Zhj f_19 x_20.Batch).bind fun r_21=>(Ziv r_21.1.Vol.Chip ([]:List Fault)).bind fun r_23=>(Zge r_23.1).bind fun r_25=>(Zge r_25.1.Vol.Chip).bind fun r_27=>(gb (!((decide (r_25.2≠(0:Int)))||(decide (r_27.2≠(0:Int))))) (Zdd r_25.1 r_27.1)).bind fun x_29=>bif (((decide (r_25.2≠(0:Int)))||(decide (r_27.2≠(0:Int))))||(!x_29)) then (some (.inr (.inr false))) else ((Zbh r_25.1.Table has_10).bind fun x_31=>(gb (decide (r_15.2=(0:Int))) (Zbh r_25.1.Table r_15.1)).bind fun x_32=>(some (((decide (r_15.2=(0:Int)))&&x_32):Bool)).bind fun now_33=>bif ((((decide (r_21.2=(0:Int)))&&(!now_33))||((((decide (r_21.2≠(0:Int)))&&(decide (r_21.2≠(7:Int))))&&(decide (r_21.2≠(9:Int))))&&(!x_31)))||((!x_31)&&(!now_33))) then (some (.inr (.inr false))) else ((Zas i_11 1).bind fun x_35=>some (.inl (r_25.1.Table,x_35,r_25.1))))) else (some (.inr (.inl ())))
def Zdo (blocks0:UInt8) (pages0:UInt8) (l0:(List bywaytop_Job)):Option Bool:=
 (ZeU).bind fun x_1=>bif (!x_1) then (some false) else ((ZdH l0).bind fun x_2=>bif (!x_2) then (some true) else ((Zas ((blocks0 % (UInt8.ofNat 7)).toNat:Int) (5:Int)).bind fun x_3=>(Zas ((pages0 % (UInt8.ofNat 7)).toNat:Int) (2:Int)).bind fun x_4=>(ZhR x_3 x_4 (64:Int)).bind fun r_5=>(ZfJ r_5.1).bind fun r_7=>bif ((decide (r_5.2≠(0:Int)))||(decide (r_7.2≠(0:Int)))) then (some false) else ((ZM (fun s=>Zcp l0 s.1 s.2.1 s.2.2) ([],(0:Int),r_7.1)).bind fun o_9=>elS o_9 (fun _=>some true) (fun q=>some q))))
theorem ZjL {A:Nat→Prop} {blocks0:UInt8} {pages0:UInt8} {l0:(List bywaytop_Job)}  {r:Bool} (w:World) (v0 v1 v2:Value) (hA:∀ k,w.heap.size≤k→A k)  (h0:(D blocks0).p A w v0) (h1:(D pages0).p A w v1) (h2:(D l0).p A w v2) (H:Zdo blocks0 pages0 l0=some r) :
    Calls Tryz.prog 3 #[v0,v1,v2] w (Ret A w (D r)):=by
 unfold Zdo at H;refine zX (enter3 hA Tryz.func3 rfl Tryz.ntmps3 rfl h0 h1 h2) ?_;refine zn H fun _ ex_1 H=>?_
 refine zX (Za1 (OpY.call0 fun w hA=>ZlM w hA ex_1.h) rfl) ?_;refine zc H (fun hc H=>?_) fun hc H=>?_
 ·exact zY H
 ·refine zg ?_;refine zb H fun _ _ H=>?_
  refine zc H (fun hc H=>?_) fun hc H=>?_
  ·exact zY H
  ·refine zg ?_;refine zX (Za1 (OpY.rem8 (by decide)) rfl) ?_;refine zb H fun _ _ H=>?_
   refine zX (Za1 (OpY.rem8 (by decide)) rfl) ?_;refine zb H fun _ _ H=>?_
   refine zb H fun _ _ H=>?_
   refine TS.alloc rfl fun b7_5=>zg ?_
   refine zb H fun _ _ H=>?_
   refine TS.alloc rfl fun b9_7=>zg ?_
   refine zc H (fun hc H=>?_) fun hc H=>?_
   ·exact zY H
   ·refine zC ?_;refine zC ?_;refine zh H fun o_9 H9 H=>?_
    refine Zn (fun s:Unit=>o_9=.inl s) (fun (_:Unit) (_:Unit)=>Env.nil) (fun (_:Unit) (_:Unit)=>[]) ?_ ?_
    ·skip;refine Zp<|Zu H9 (fun ⟨has_10,i_11,f_12⟩ (_:Unit)=>(Env.set (Env.set (Env.set (Env.set Env.nil 2 (D l0)) 9 (Pt b9_7 0)) 11 (D has_10)) 12 (D i_11))) (fun ⟨has_10,i_11,f_12⟩ (_:Unit)=>[⟨b9_7,True,(One f_12)⟩]) () (Za (Za (Za (Za (Zd _))))) (Zc rfl (Ze _)) ?_;rintro ⟨has_10,i_11,f_12⟩ ⟨⟩ x_13 H13 he13;dsimp only at H13;unfold Zcp at H13;refine zg ?_;refine zc H13 (fun hc H13=>?_) fun hc H13=>?_
     ·refine zg ?_;refine zb H13 fun _ _ H13=>?_
      refine zo H13 fun _ _ H13=>?_
      refine zC ?_;refine zX (ZaW [12,13] [] mix (by kernel_rfl) (by kernel_rfl)) ?_;refine zb H13 fun _ _ H13=>?_
      refine zb H13 fun r_17 _ H13=>?_
      refine Zfi (fun g=>ZcD (α:=Chip)) rfl<|Zdg (fun g=>(Zw (y:=(r_17.1:Chip)) Zx)) rfl ?_;refine zC ?_;rintro ⟨⟨_,⟨b15_17,_⟩⟩,_⟩;dsimp only [Fam.nextS,Fam.nextN,Fam.one,List.cons_append,List.nil_append];refine zC ?_;refine zn H13 fun _ ef_19 H13=>?_
      refine ZB b9_7 (Zah ef_19.h) ?_;refine zX (ZaW [10,11] [] mix (by kernel_rfl) (by kernel_rfl)) ?_;refine zb H13 fun _ _ H13=>?_
      refine zb H13 fun r_21 _ H13=>?_
      refine Zfi (fun g=>ZcD (α:=Fib)) rfl<|Zdg (fun g=>(Zw (y:=(r_21.1:Fib)) Zx)) rfl ?_;refine zC ?_;rintro ⟨⟨_,⟨b17_21,_⟩⟩,_⟩;dsimp only [Fam.nextS,Fam.nextN,Fam.one,List.cons_append,List.nil_append];refine zg ?_;refine zb H13 fun _ _ H13=>?_
      refine TS.alloc rfl fun b19_23=>zg ?_
      refine zb H13 fun r_25 _ H13=>?_
      refine TS.alloc rfl fun b21_25=>zg ?_
      refine zb H13 fun _ _ H13=>?_
      refine TS.alloc rfl fun b23_27=>zg ?_
      refine zd H13 fun _ _ H13=>?_
      refine zc H13 (fun hc H13=>?_) fun hc H13=>?_
      ·refine zC ?_;refine ZL<|Zg<|Zf<|Zg<|Zg<|Zf<|Zs ?_;have R29:=ZaM (he13 _ (ZZs H13)) H;refine zg ?_;obtain rfl:=ZZi R29;exact ZaV rfl Cv.le
      ·refine zg ?_;refine zb H13 fun _ _ H13=>?_
       refine zp H13 fun _ _ H13=>?_
       refine zC ?_;refine zn H13 fun now_33 enow_33 H13=>?_
       refine zX (Zcg 26 (D now_33) (nm_cv enow_33.h)) ?_;refine zc H13 (fun hc H13=>?_) fun hc H13=>?_
       ·refine zC ?_;refine ZL<|Zg<|Zf<|Zg<|Zg<|Zf<|Zs ?_;have R33:=ZaM (he13 _ (ZZs H13)) H;refine zg ?_;obtain rfl:=ZZi R33;exact ZaV rfl Cv.le
       ·refine Zaw<|Zan ?_;refine zX (Zff [3] [b9_7] mix (by kernel_rfl) (by kernel_rfl)) ?_;refine Zdg (fun g=>(Zw (y:=(r_25.1:Fib)) Zx)) rfl ?_;refine zC ?_;rintro ⟨_,_⟩;dsimp only [Fam.nextS,Fam.nextN,Fam.one,List.cons_append,List.nil_append];refine zg ?_;refine zb H13 fun x_35 _ H13=>?_
        exact Zq ⟨r_25.1.Table,x_35,r_25.1⟩ () (ZZs H13) (Za (Za (Za (Za (Zd _))))) (Zc rfl (Ze _))
     ·refine zg ?_;exact Zj () () (he13 _ (ZZs H13)).symm (Zd _) (Ze _)
    rintro ⟨⟩ ⟨⟩ hp;replace H:=ZbD hp H;exact zY H
end Go.Proofs.YtkmojgfenlgchaaGreatDoor.Tr
namespace Go.Proofs.YtkmojgfenlgchaaGreatDoor.Tr
open Go
set_option maxRecDepth 100000
def plainB (l:List Fault):Bool:=l.all fun f=>decide (f.Mask=0∨f.Mask=255)
theorem plain_eq (l:List Fault) (hl:l.length≤1000000):ZcK l=some (plainB l):=by
 unfold ZcK plainB;rw [Zc3 (f:=fun s=>ZbO l s) l (fun f=>decide (f.Mask=0∨f.Mask=255)) (by omega) (fun i hi=>?_) (by unfold ZbO;rw [Zh6,Zo]),Zb]
 ·cases l.all fun f=>decide (f.Mask=0∨f.Mask=255)
  ·rw [if_neg (by decide),ZaY]
  ·rw [if_pos rfl,Zaj]
 ·unfold ZbO;rw [Zej hi,Zr,Zz hi,Zb]
  by_cases h0:l[i].Mask=0
  ·rw [show decide (l[i].Mask≠UInt8.ofNat 0)=false by simpa using h0,ZaQ,Zb,Bool.false_and,Zo,ZN (by omega),Zb,if_pos (by simp [h0])]
  ·rw [show decide (l[i].Mask≠UInt8.ofNat 0)=true by simpa using h0,ZaO,Zb,Bool.true_and]
   by_cases h1:l[i].Mask=255
   ·rw [show decide (l[i].Mask≠UInt8.ofNat 255)=false by simpa using h1,Zo,ZN (by omega),Zb,if_pos (by simp [h1])]
   ·rw [show decide (l[i].Mask≠UInt8.ofNat 255)=true by simpa using h1,Zr,if_neg (by simp [h0,h1])]
def jobB (j:bywaytop_Job):Bool:=(decide (j.Batch.length≤12)&&decide (j.Faults.length≤20))&&plainB j.Faults
theorem small_eq (l:List bywaytop_Job):ZdH l=some (decide (l.length≤16)&&l.all jobB):=by
 unfold ZdH
 by_cases hl:l.length≤16
 ·rw [Zh (by simp;omega),decide_eq_true hl,Zc3 (f:=fun s=>ZcA l s) l jobB (by omega) (fun i hi=>?_) (by unfold ZcA;rw [Zh6,Zo]),Zb,Bool.true_and]
  ·cases l.all jobB
   ·rw [if_neg (by decide),ZaY]
   ·rw [if_pos rfl,Zaj]
  ·unfold ZcA jobB;rw [Zej hi,Zr,Zz hi,Zb]
   by_cases h1:l[i].Batch.length≤12
   ·rw [show decide ((l[i].Batch.length:Int)>12)=false by simp;omega,Bool.not_false,ZaO,Zb,Bool.false_or,decide_eq_true h1,Bool.true_and]
    by_cases h2:l[i].Faults.length≤20
    ·rw [show decide ((l[i].Faults.length:Int)>20)=false by simp;omega,Bool.not_false,ZaO,Zb,ZaO,plain_eq _ (by omega),Zb,Bool.false_or,decide_eq_true h2,Bool.true_and];cases plainB l[i].Faults
     ·rw [Bool.not_false,Zr,if_neg (by decide)]
     ·rw [Bool.not_true,Zo,ZN (by omega),Zb,if_pos rfl]
    ·rw [show decide ((l[i].Faults.length:Int)>20)=true by simp;omega,Bool.not_true,ZaQ,Zb,ZaQ,Zb,Bool.true_or,Zr,decide_eq_false h2,Bool.false_and,if_neg (by decide)]
   ·rw [show decide ((l[i].Batch.length:Int)>12)=true by simp;omega,Bool.not_true,ZaQ,Zb,Bool.true_or,Bool.not_true,ZaQ,Zb,ZaQ,Zb,Bool.true_or,Zr,decide_eq_false h1,Bool.false_and,Bool.false_and,if_neg (by decide)]
 ·rw [Zi (by simp;omega),decide_eq_false hl,Bool.false_and]
def withF (c:Chip) (f:List Fault):Chip:=⟨c.Pages,c.Size,c.Blocks,c.Ops,false,f⟩
theorem on_at {c:Chip} {f:List Fault} (h:ZbN c=true) (hf:f.length≤64):Ziv c f=some (withF c f,0):=by
 rw [on_eq h (by omega)];unfold onV;rw [if_pos hf];rfl
theorem withF_ci {P nB S:Nat} {c:Chip} {f:List Fault} (h:CI P nB S c) (hf:f.length≤64) (hm:∀ x∈f,x.Mask=0∨x.Mask=255):CI P nB S (withF c f):=by
 have hr:=on_right (f:=f) h.right;unfold onV at hr;rw [if_pos hf] at hr;exact ⟨hr,h.pgs,h.siz,h.len,h.blank,h.worn,hm⟩
theorem withF_vi {P nB S:Nat} {c:Chip} {f:List Fault} {bod:List (List UInt8)} (h:MOK P nB S c bod) (hf:f.length≤64) (hm:∀ x∈f,x.Mask=0∨x.Mask=255):∃ at0 gen last,VI P nB S (withF c f) at0 gen last bod:=by
 obtain ⟨h1,at0,gen,last,h2,h3,h4⟩:=h;exact ⟨at0,gen,last,withF_ci h1 hf hm,rfl,h2,h3,h4⟩
theorem VI.mok {P nB S:Nat} {c:Chip} {at0:List Int} {gen:UInt64} {last:Int} {bod:List (List UInt8)} (h:VI P nB S c at0 gen last bod):MOK P nB S c bod:=⟨h.ci,_,_,_,h.ri,h.gi,h.gen⟩
theorem fout_chip {P nB:Nat} (hg:Geo P nB 64) {c:Chip} {at0:List Int} {gen:UInt64} {last:Int} {bod:List (List UInt8)} {t:List Route} (h:FI P nB c at0 gen last bod t) {l:List Change} {r:Fib×Int} (ho:FOut P nB ⟨⟨c,at0,gen,last⟩,t⟩ bod l r) :
  ∃ b t',MOK P nB 64 r.1.Vol.Chip b∧b.length=Zh2 P nB∧ZdP b=some (t',0)∧TbR t'∧(t'=t∨((Zgh t t l).2=0∧t'=(Zgh t t l).1))∧(r.2=0→(Zgh t t l).2=0∧t'=(Zgh t t l).1)∧(r.2≠0→r.2≠7→r.2≠9→t'=t)∧r.1.Vol.Chip.Ops≤c.Ops+10000000:=by
 have hbl:=h.bl;rcases ho with ⟨h1,h2,h3⟩ | ⟨h1,h2,h3⟩
 ·rw [h1];exact ⟨bod,t,h.vi.mok,hbl,h.tab,h.tr,.inl rfl,fun h0=>absurd h0 h2,fun _ _ _=>rfl,by show c.Ops≤c.Ops+10000000;omega⟩
 ·have htr:TbR (Zgh t t l).1:=app_ok h.tr h1;have hnow:=now_table hg htr h2;rcases h3 with ⟨rfl,h4⟩ | ⟨v,e,rfl,h4⟩
  ·refine ⟨bod,(Zgh t t l).1,h.vi.mok,hbl,by rw [h4];exact hnow,htr,.inr ⟨h1,rfl⟩,fun _=>⟨h1,rfl⟩,fun h0=>absurd rfl h0,by show c.Ops≤c.Ops+10000000;omega⟩
  ·have hap:Zck (Zfd bod (nowB P nB (Zgh t t l).1) (Zh2 P nB)) bod=nowB P nB (Zgh t t l).1:=Zkv hbl ZkX;obtain ⟨w1,w2,w3,w4,w5⟩:=h4;dsimp only at w1 w2 w4 ⊢;rw [show Zfd bod (nowB P nB (Zgh (⟨⟨c,at0,gen,last⟩,t⟩:Fib).Table (⟨⟨c,at0,gen,last⟩,t⟩:Fib).Table l).1) (Zh2 P nB)=Zfd bod (nowB P nB (Zgh t t l).1) (Zh2 P nB) from rfl,hap] at w4;rcases w4 with ⟨e0,g⟩ | ⟨e0,g⟩ | ⟨e0,g | g⟩
   ·exact ⟨_,(Zgh t t l).1,g.mok,ZkX,hnow,htr,.inr ⟨h1,rfl⟩,fun _=>⟨h1,rfl⟩,fun h0=>absurd e0 h0,w2⟩
   ·exact ⟨_,t,g.mok,hbl,h.tab,h.tr,.inl rfl,fun h0=>by omega,fun _ _ _=>rfl,w2⟩
   ·exact ⟨_,t,g,hbl,h.tab,h.tr,.inl rfl,fun h0=>by omega,fun _ h7 h9=>by omega,w2⟩
   ·exact ⟨_,(Zgh t t l).1,g,ZkX,hnow,htr,.inr ⟨h1,rfl⟩,fun _=>⟨h1,rfl⟩,fun _ h7 h9=>by omega,w2⟩
theorem never_loop {P nB:Nat} (hg:Geo P nB 64) {l:List bywaytop_Job} (hl:l.length≤16) (hj:∀ j∈l,jobB j=true) {f:Fib} {bod:List (List UInt8)} (h0:FI P nB f.Vol.Chip f.Vol.At f.Vol.Gen f.Vol.Last bod f.Table) (hops:f.Vol.Chip.Ops≤10) (ht:f.Table=[]) :
  Zfk (ZM (fun s=>Zcp l s.1 s.2.1 s.2.2) ([],(0:Int),f)) (fun o=>o=.inl ()):=by
 refine Zfk.loop (σ:=List Route×Int×Fib) (fun s=>∃ i:Nat,s.2.1=i∧i≤l.length∧s.1=s.2.2.Table∧s.2.2.Vol.Chip.Ops≤10+10000000*(i:Int)∧∃ bod,FI P nB s.2.2.Vol.Chip s.2.2.Vol.At s.2.2.Vol.Gen s.2.2.Vol.Last bod s.2.2.Table) (fun s=>l.length-s.2.1.toNat) (fun s hs=>?_) ⟨0,rfl,by omega,ht.symm,by simpa using hops,bod,h0⟩ (by show l.length-0<_;omega);obtain ⟨t,z,⟨⟨c,at0,gen,last⟩,t2⟩⟩:=s;obtain ⟨i,rfl,hi,hht,hop,bod,h⟩:=hs;dsimp only at hht hop h ⊢;subst hht;unfold Zcp
 by_cases hlt:i<l.length
 ·have hjb:=hj _ (List.getElem_mem hlt);unfold jobB at hjb;rw [Bool.and_eq_true,Bool.and_eq_true,decide_eq_true_eq,decide_eq_true_eq] at hjb;obtain ⟨⟨hj1,hj2⟩,hj3⟩:=hjb;have hm:∀ x∈l[i].Faults,x.Mask=0∨x.Mask=255:=fun x hx=>by simpa using List.all_eq_true.1 hj3 x hx
  rw [Zej hlt,Zr,Zz hlt,Zb,apply_eq h.tr (by omega),Zb,Zb];dsimp only;rw [on_at h.vi.ci.right (by omega),Zb,Zb,Zb];dsimp only;have hw:FI P nB (withF c l[i].Faults) at0 gen last bod t:=⟨⟨withF_ci h.vi.ci (by omega) hm,rfl,h.vi.ri,h.vi.gi,h.vi.gen⟩,h.len,h.tab,h.tr⟩;refine Zfk.b (fapply hg hw (l:=l[i].Batch) (by omega) (by show c.Ops+20000000≤ZcJ;unfold ZcJ;omega)) fun r hr=>?_
  obtain ⟨b,t',m1,m2,m3,m4,m5,m6,m7,m8⟩:=fout_chip hg hw hr;have m8:r.1.Vol.Chip.Ops≤c.Ops+10000000:=m8;rw [on_at m1.1.right (by simp),Zb];obtain ⟨at1,gen1,last1,v1⟩:=withF_vi (f:=[]) m1 (by simp) (fun x hx=>absurd hx (by simp));have hf1:FI P nB (withF r.1.Vol.Chip []) at1 gen1 last1 b t':=⟨v1,by rw [v1.gi.1,m2],m3,m4⟩;have hm1:=fmount_eq hg hf1;have hal1:=hf1.len;have hir:=Ze2 hg;have htl1:=m4.len;dsimp only;rw [hm1,Zb];dsimp only;rw [hm1,Zb];dsimp only;rw [show (!((decide ((0:Int)≠0))||(decide ((0:Int)≠0))))=true from rfl,ZaO,same15_self v1.ci.right (by show at1.length≤_;omega) (by show t'.length≤_;omega),Zb,Zh (by simp),same3_eq _ _ (by show t'.length≤_;omega),Zb];have hx:∃ x:Bool,gb (decide ((Zgh t t l[i].Batch).2=0)) (Zbh t' (Zgh t t l[i].Batch).1)=some x∧((decide ((Zgh t t l[i].Batch).2=0))&&x)=(decide ((Zgh t t l[i].Batch).2=0)&&decide (t'=(Zgh t t l[i].Batch).1)):=by
   by_cases h1:(Zgh t t l[i].Batch).2=0
   ·rw [decide_eq_true h1,ZaO,same3_eq _ _ (by omega)];exact ⟨_,rfl,rfl⟩
   ·rw [decide_eq_false h1,ZaQ];exact ⟨_,rfl,rfl⟩
  obtain ⟨x,hx1,hx2⟩:=hx;rw [hx1,Zb,hx2,Zb];rw [Zh]
  ·rw [ZN (by omega),Zb];refine Zfk.l ⟨i+1,rfl,by omega,rfl,?_,b,hf1⟩ (by show l.length-(((i+1:Nat):Int)).toNat<l.length-(i:Int).toNat;omega);show r.1.Vol.Chip.Ops≤_;omega
  ·simp only [Bool.or_eq_false_iff,Bool.and_eq_false_iff,Bool.not_eq_false',Bool.and_eq_true,decide_eq_true_eq,decide_eq_false_iff_not,Bool.not_eq_true',Bool.and_eq_false_iff]
   by_cases h1:r.2=0
   ·obtain ⟨n1,n2⟩:=m6 h1;refine ⟨⟨.inr ⟨n1,n2⟩,.inl (.inl (.inl (by omega)))⟩,.inr ⟨n1,n2⟩⟩
   ·refine ⟨⟨.inl h1,?_⟩,?_⟩
    ·by_cases h7:r.2=7
     ·exact .inl (.inl (.inr (by omega)))
     ·by_cases h9:r.2=9
      ·exact .inl (.inr (by omega))
      ·exact .inr (m7 h1 h7 h9)
    ·rcases m5 with e | e
     ·exact .inl e
     ·exact .inr e
 ·rw [Zjc (by omega),Zo];exact Za8 rfl
theorem topNever_plain (b p:UInt8) (l:List bywaytop_Job):Zdo b p l=some true:=by
 unfold Zdo;rw [works_ok,Zb,Bool.not_true,Zo,small_eq,Zb]
 by_cases hs:(decide (l.length≤16)&&l.all jobB)=true
 ·rw [hs,Bool.not_true,Zo,add_b,Zb,add_p,Zb,new_at,Zb];rw [Bool.and_eq_true,decide_eq_true_eq,List.all_eq_true] at hs;have hg:=geo_of b.toNat p.toNat;refine Zgq (Zfk.b (fformat hg) fun r ⟨r1,r2,r3,r4,r5,r6⟩=>?_);rw [Zh (by simp [r1])];rw [← r2] at r3;refine Zfk.b (never_loop hg hs.1 hs.2 r3 r5 r2) fun o ho=>?_
  subst ho;rw [Zaj];exact Zfk.s rfl
 ·rw [Bool.eq_false_iff.2 hs,Bool.not_false,Zr]
end Go.Proofs.YtkmojgfenlgchaaGreatDoor.Tr
namespace Go.Proofs.YtkmojgfenlgchaaGreatDoor.Tr
open Go Go.RowKit Go.ChangeShapes Go.WideShapes Go.ChangeAt
set_option synthInstance.maxHeartbeats 400000
set_option synthInstance.maxSize 4096
theorem law_own:ownKnob Tryz.prog.godebug=none:=by kernel_rfl
theorem law_laid:laidOutB Tryz.prog=true:=by kernel_rfl
instance :TOpen Tryz.prog 5 UInt8 inferInstance:=topen_u8 (by kernel_rfl)
instance :TOpen Tryz.prog 3 Int inferInstance:=topen_i64 (by kernel_rfl)
instance :TOpen Tryz.prog 83 (Vec UInt8 16) inferInstance:=topen_vec (e:=5) (by kernel_rfl) (by kernel_rfl) (by kernel_rfl)
instance :TOpen Tryz.prog 85 Prefix inferInstance:=ZeY (i:=Prefix_dat) Zef Zgl (fun _=>rfl) rfl Tryz.underlying85 rfl (by kernel_rfl) (ZeX (o:=0) (inferInstance:TOpen Tryz.prog 3 Int inferInstance) (by kernel_rfl) (by rfl) (by rfl) (by rfl) (ZeX (o:=1) (inferInstance:TOpen Tryz.prog 3 Int inferInstance) (by kernel_rfl) (by rfl) (by rfl) (by rfl) (Zj1 (inferInstance:TOpen Tryz.prog 83 (Vec UInt8 16) inferInstance) (by kernel_rfl) (by rfl) (by rfl))))
instance :TOpen Tryz.prog 68 UInt16 inferInstance:=topen_u16 (by kernel_rfl)
instance :TOpen Tryz.prog 87 Route inferInstance:=ZeY (i:=Route_dat) ZgJ Zi4 (fun _=>rfl) rfl Tryz.underlying87 rfl (by kernel_rfl) (ZeX (o:=0) (inferInstance:TOpen Tryz.prog 85 Prefix inferInstance) (by kernel_rfl) (by rfl) (by rfl) (by rfl) (Zj1 (inferInstance:TOpen Tryz.prog 68 UInt16 inferInstance) (by kernel_rfl) (by rfl) (by rfl)))
instance :TOpen Tryz.prog 4 Bool inferInstance:=topen_bool (by kernel_rfl)
instance :TOpen Tryz.prog 106 Change inferInstance:=ZeY (i:=Change_dat) ZkF ZkG (fun _=>rfl) rfl Tryz.underlying106 rfl (by kernel_rfl) (ZeX (o:=0) (inferInstance:TOpen Tryz.prog 87 Route inferInstance) (by kernel_rfl) (by rfl) (by rfl) (by rfl) (Zj1 (inferInstance:TOpen Tryz.prog 4 Bool inferInstance) (by kernel_rfl) (by rfl) (by rfl)))
instance :TOpen Tryz.prog 43 (List Change) inferInstance:=ZkO (e:=106) (by kernel_rfl) (by kernel_rfl) (by decide +kernel)
instance :TOpen Tryz.prog 120 Fault inferInstance:=ZeY (i:=Fault_dat) ZeW ZgL (fun _=>rfl) rfl Tryz.underlying120 rfl (by kernel_rfl) (ZeX (o:=0) (inferInstance:TOpen Tryz.prog 3 Int inferInstance) (by kernel_rfl) (by rfl) (by rfl) (by rfl) (ZeX (o:=1) (inferInstance:TOpen Tryz.prog 4 Bool inferInstance) (by kernel_rfl) (by rfl) (by rfl) (by rfl) (ZeX (o:=2) (inferInstance:TOpen Tryz.prog 4 Bool inferInstance) (by kernel_rfl) (by rfl) (by rfl) (by rfl) (Zj1 (inferInstance:TOpen Tryz.prog 5 UInt8 inferInstance) (by kernel_rfl) (by rfl) (by rfl)))))
instance :TOpen Tryz.prog 26 (List Fault) inferInstance:=ZkO (e:=120) (by kernel_rfl) (by kernel_rfl) (by decide +kernel)
instance :TOpen Tryz.prog 45 bywaytop_Job inferInstance:=ZeY (i:=bywaytop_Job_dat) Zd9 Zdc (fun _=>rfl) rfl Tryz.underlying45 rfl (by kernel_rfl) (ZeX (o:=0) (inferInstance:TOpen Tryz.prog 43 (List Change) inferInstance) (by kernel_rfl) (by rfl) (by rfl) (by rfl) (Zj1 (inferInstance:TOpen Tryz.prog 26 (List Fault) inferInstance) (by kernel_rfl) (by rfl) (by rfl)))
instance :TOpen Tryz.prog 22 (List bywaytop_Job) inferInstance:=ZkO (e:=45) (by kernel_rfl) (by kernel_rfl) (by decide +kernel)
set_option maxRecDepth 100000 in
theorem topNever_lifted (os:Os) (started:os.Started) (H:Type) (enc:TypeId×Value→H) :
  ReturnsInHanded {} Tryz.checked os 3 .any (fun w args=>(Rows.topNeverSpec.pre enc Tryz.prog Tryz.f3 Rows.topNeverRow.domain false w args∧laidMetH Tryz.prog Rows.topNeverRow.laid w)∧sizedMet enc Tryz.prog Tryz.f3 (OpenSpec.ofChange Rows.topNeverSpec) false w args) (Rows.topNeverSpec.post enc Tryz.prog Tryz.f3 false true false false):=by
 refine returnsInHanded_of_change_and (C:=Tryz.checked) (X:=fun w _=>laidMetH Tryz.prog Rows.topNeverRow.laid w) (fun _ _ _ hh h=>h.of_heap hh) law_own started (by kernel_rfl) Tryz.func3
  (ChangeSpec.witness_shaped (enc:=enc) (C:=Tryz.checked) (os:=os) (X:=fun w _=>laidMetH Tryz.prog Rows.topNeverRow.laid w) false (World.laidAll Tryz.prog os Rows.topNeverRow.laid) #[.int .u8 0,.int .u8 0,.slice none 0 0] 8 (World.laidAll_os _ _ _)
   (World.shaped_of_ZipB (by kernel_rfl) (by kernel_rfl)) (by kernel_rfl) (by kernel_rfl) (by kernel_rfl)
   (by rw [MakeChecks.laidMetH_plain _ _ _ (by kernel_rfl)];exact laidMet_laidAll _ (by kernel_rfl) (by kernel_rfl))) ?_
 intro W base args ds gs before hval0 hW hcnd hsz0 hL _;have hval:∀ (j:Nat) t v,Tryz.f3.params[j]?=some t→args[j]?=some v→Value.okWide Tryz.prog W .any base t v:=hval0;have hW':=hW;obtain ⟨p,q,hA0,hV,rfl,hfz,hnd⟩:=hW;have hA:DataW.TrodAll enc Tryz.prog W 0 (fun _=>true) true Tryz.f3.params.toList args.toList ds p:=hA0;have hsz:∀ n∈DataW.weightsEach Tryz.prog Tryz.f3.params.toList ds,n≤reachBytes:=fun n hn=>by
  obtain ⟨rfl,-⟩:=trodVars_none hV;have:=List.all_eq_true.1 hsz0 n (by
   show n∈DataW.weightsEach Tryz.prog (Tryz.f3.params.toList++[]) (ds++[]);rw [List.append_nil,List.append_nil];exact hn)
  simpa using this
 rw [Tryz.params3] at hA hval hsz;obtain ⟨v0,vs0,d0,ds0,p0,q0,hargs,rfl,rfl,h0,r0⟩:=trodAll_cons hA;obtain ⟨v1,vs1,d1,ds1,p1,q1,rfl,rfl,rfl,h1,r1⟩:=trodAll_cons r0;obtain ⟨v2,vs2,d2,ds2,p2,q2,rfl,rfl,rfl,h2,r2⟩:=trodAll_cons r1;obtain ⟨rfl,rfl,rfl⟩:=trodAll_nil r2;obtain rfl:args=#[v0,v1,v2]:=by cases args;simp_all
 obtain ⟨x0,y0⟩:=top_open h0 (hval 0 _ v0 rfl rfl) (fun n hn=>hsz n (DataW.weights_mem_each (j:=0) rfl rfl n hn));obtain ⟨x1,y1⟩:=top_open h1 (hval 1 _ v1 rfl rfl) (fun n hn=>hsz n (DataW.weights_mem_each (j:=1) rfl rfl n hn));obtain ⟨x2,y2⟩:=top_open h2 (hval 2 _ v2 rfl rfl) (fun n hn=>hsz n (DataW.weights_mem_each (j:=2) rfl rfl n hn));refine (ZjL W v0 v1 v2 (fun _ _=>trivial) y0 y1 y2 (topNever_plain _ _ _)).mono fun e W1 h=>?_
 refine law_post (tb:=4) law_laid (by kernel_rfl) (by kernel_rfl) rfl (by rw [Tryz.params3];decide +kernel) rfl hW' h
end Go.Proofs.YtkmojgfenlgchaaGreatDoor.Tr
namespace Go.Proofs.YtkmojgfenlgchaaGreatDoor
open Go Go.RowKit Go.ChangeShapes Go.WideShapes Go.ChangeAt
theorem Zjl:Rows.TopNeverSaid:=
 OpenClaim.holds_of_wide 3 Tryz.f3 rfl rfl rfl rfl rfl rfl rfl ⟨rfl,rfl,rfl,rfl,rfl⟩ rfl rfl rfl rfl rfl (by kernel_rfl) Tryz.func3 (by kernel_rfl)
  (of_decide_eq_true (by kernel_rfl)) (by unfold Func.isWrapper;first | (rw [if_pos (by decide +kernel)];kernel_rfl) | (rw [if_neg (by decide +kernel)];exact ⟨rfl,rfl⟩))
  (fun os started H enc _=>Tr.topNever_lifted os started H enc)
#print axioms Zjl
theorem topNever_card_holds:Rows.TopNeverCardSaid:=
 Claim7.holds_tied_plain_at .later [] [.data, .pinned] true (true, "c1cfdc2fbd019fdcbc750d0f96387e643ddd29362aa1353ceebd97399875c579") false Zjl (fun _ h => by cases h) (by kernel_rfl) (fun _ h => by cases h) topNever_row_tie rfl ⟨rfl, rfl⟩ (by kernel_rfl) rfl
  (fun f fn hf hfn=>by
   obtain rfl : f = 3 := Option.some.inj ((show Tryz.prog.funcNamed "byway/bywaytop.TopNever" = some 3 by kernel_rfl).symm.trans hf) |>.symm;obtain rfl : fn = Tryz.f3 := (Option.some.inj (Tryz.func3.symm.trans hfn)).symm;exact ⟨by kernel_rfl, fun j t ht => by
    rw [Tryz.params3] at ht;have hm:t∈[5,5,22]:=by simpa using Array.mem_of_getElem? ht
    have hall:([5,5,22].all fun u=>!Tryz.prog.wantsStandIn u)=true:=by kernel_rfl
    exact (show Tryz.prog.wantsStandIn t=false by simpa using List.all_eq_true.1 hall t hm)⟩)
  (by kernel_rfl)
#print axioms topNever_card_holds
end Go.Proofs.YtkmojgfenlgchaaGreatDoor
