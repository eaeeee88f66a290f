/- What the proof leans on. Conditions: none. -/
import Derived.Test.YtkmojgfenlgchaaGreatDoorZTN1
set_option linter.all false
set_option linter.unusedSimpArgs false
set_option linter.unusedVariables false
set_option linter.unusedSectionVars false
namespace Go.Proofs.YtkmojgfenlgchaaGreatDoor.Tr
open Go Go.RowKit
def CallV (P:Program) (v:Value) (args:List Value) (w:World) (R:Ending→World→Prop):Prop:=
 ∃ f first captured,v=.func (.func f) first captured∧Fun P f∧Calls P f (first++args.toArray++captured) w R
theorem ZkH {P:Program} {f:FuncId} {first captured:Array Value} {args:List Value} {w:World} {R:Ending→World→Prop} [F:Fun P f] (h:Calls P f (first++args.toArray++captured) w R):CallV P (.func (.func f) first captured) args w R:=⟨f,first,captured,rfl,F,h⟩
structure F1 (P:Program) (α β:Type) where
 f:α→Option β
structure F2 (P:Program) (α β γ:Type) where
 f:α→β→Option γ
instance instF1 {P:Program} {α β:Type} [i:Dat α] [j:Dat β]:Dat (F1 P α β) where
 agg:=false
 sz:=1
 rd A w cs F:=∃ v,cs=[v]∧v.cells=#[v]∧v.oneCell'=true∧∀ A' w' u x y,Keep A A' w w'→(∀ k,w'.heap.size≤k→A' k)→(D x).p A' w' u→F.f x=some y→CallV P v [u] w' (Ret A' w' (D y))
 wf _:=True
 len:=fun ⟨_,h,_⟩=>ZeR h
 one _:=rfl
 pos:=Nat.one_pos
 ok _:=trivial
 plain _:=fun ⟨v,h,h2,_⟩=>by simp at h;rw [h];exact h2
 mono k:=fun ⟨v,h1,h2,h3,h4⟩=>⟨v,h1,h2,h3,fun A' w' u x y hk=>h4 A' w' u x y (k.trans hk)⟩
 scal:=fun ⟨v,h1,h2,h3,_⟩ u hu=>by subst h1;obtain rfl:=List.mem_singleton.1 hu;exact h3
 z:=⟨fun _=>none⟩
 zc:=[.nilFunc]
 zrd:=⟨_,rfl,rfl,rfl,fun _ _ _ _ _ _ _ _ h=>by cases h⟩
instance instF2 {P:Program} {α β γ:Type} [i:Dat α] [j:Dat β] [k:Dat γ]:Dat (F2 P α β γ) where
 agg:=false
 sz:=1
 rd A w cs F:=∃ v,cs=[v]∧v.cells=#[v]∧v.oneCell'=true∧∀ A' w' u1 u2 x1 x2 y,Keep A A' w w'→(∀ k,w'.heap.size≤k→A' k)→(D x1).p A' w' u1→(D x2).p A' w' u2→F.f x1 x2=some y→CallV P v [u1,u2] w' (Ret A' w' (D y))
 wf _:=True
 len:=fun ⟨_,h,_⟩=>ZeR h
 one _:=rfl
 pos:=Nat.one_pos
 ok _:=trivial
 plain _:=fun ⟨v,h,h2,_⟩=>by simp at h;rw [h];exact h2
 mono k:=fun ⟨v,h1,h2,h3,h4⟩=>⟨v,h1,h2,h3,fun A' w' u1 u2 x1 x2 y hk=>h4 A' w' u1 u2 x1 x2 y (k.trans hk)⟩
 scal:=fun ⟨v,h1,h2,h3,_⟩ u hu=>by subst h1;obtain rfl:=List.mem_singleton.1 hu;exact h3
 z:=⟨fun _ _=>none⟩
 zc:=[.nilFunc]
 zrd:=⟨_,rfl,rfl,rfl,fun _ _ _ _ _ _ _ _ _ _ _ h=>by cases h⟩
theorem F1.const {P:Program} {f:FuncId} {α β:Type} [i:Dat α] [j:Dat β] [F:Fun P f] {g:α→Option β}
  (h:∀ {A:Nat→Prop} {x:α} {y:β} w v0,(∀ k,w.heap.size≤k→A k)→(D x).p A w v0→g x=some y→Calls P f #[v0] w (Ret A w (D y))) {A:Nat→Prop} {w:World} :
  (D (⟨g⟩:F1 P α β)).p A w (.func (.func f) #[] #[]):=⟨[_],⟨_,rfl,rfl,rfl,fun A' w' u x y _ hu hx hy=>ZkH (by simpa using h w' u hu hx hy)⟩,rfl⟩
theorem F2.const {P:Program} {f:FuncId} {α β γ:Type} [i:Dat α] [j:Dat β] [k:Dat γ] [F:Fun P f] {g:α→β→Option γ}
  (h:∀ {A:Nat→Prop} {x1:α} {x2:β} {y:γ} w v0 v1,(∀ k,w.heap.size≤k→A k)→(D x1).p A w v0→(D x2).p A w v1→g x1 x2=some y→Calls P f #[v0,v1] w (Ret A w (D y))) {A:Nat→Prop} {w:World} :
  (D (⟨g⟩:F2 P α β γ)).p A w (.func (.func f) #[] #[]):=⟨[_],⟨_,rfl,rfl,rfl,fun A' w' u1 u2 x1 x2 y _ hu h1 h2 hy=>ZkH (by simpa using h w' u1 u2 hu h1 h2 hy)⟩,rfl⟩
section ops
variable {P:Program} {B0:Nat} {A:Nat→Prop} {Ω:List Pe} {Γ:Env} {dst:Option Tmp} {ty:TypeId} {pos:String} {aft:Array Edge} {gd:Option (Nat×Bool)}
variable {α β γ:Type} {i:Dat α} {j:Dat β} {k:Dat γ} {f:FuncId} {ts:Array TypeId}
theorem Zlf {c x1:Operand} {σ τ1:Ty} {F:F1 P α β} {x:α} {y:β} [hc:Has Γ c σ] [kc:ToD σ (F1 P α β) instF1 F] [h1:Has Γ x1 τ1] [k1:ToD τ1 α i x] (hy:F.f x=some y) :
  OpY P B0 A Ω Γ ⟨dst,.call { callee:=.value c,args:=#[x1],argTypes:=ts },ty,pos,aft,gd⟩ (D y):=fun a w hB hu hp hl=>by
 obtain ⟨cs,⟨v,rfl,e2,e3,h4⟩,e5⟩:=kc.le _ _ _ (hc.le a A w fun t e=>hl t (by simp [Op.operands,Call.operands,e]));have e5:a.eval c=v:=e5;have g1:=k1.le _ _ _ (h1.le a A w fun t e=>hl t (by simp [Op.operands,Call.operands,e]));obtain ⟨f,first,captured,rfl,Fn,hcall⟩:=h4 A w _ x y (Keep.refl _ _) hu g1 hy;have:(execOp a.eval ⟨dst,.call { callee:=.value c,args:=#[x1],argTypes:=ts },ty,pos,aft,gd⟩).run P w=.ok (.enter f (first ++ #[a.eval x1]++captured)) w:=by
  simp only [execOp,resolve,Deferred.ofValue,e5,Sem.run_bind,Sem.run_pure,Result.andThen_ok,invoke,Fn.h,List.map_toArray,List.map_cons,List.map_nil]
 rw [this];exact ⟨Grow.refl _ _,hcall.mono fun e w' hr=>hr.yields hB⟩
theorem OpY.callV2 {c x1 x2:Operand} {σ τ1 τ2:Ty} {F:F2 P α β γ} {x:α} {x':β} {y:γ} [hc:Has Γ c σ] [kc:ToD σ (F2 P α β γ) instF2 F] [h1:Has Γ x1 τ1] [k1:ToD τ1 α i x] [h2:Has Γ x2 τ2] [k2:ToD τ2 β j x'] (hy:F.f x x'=some y) :
  OpY P B0 A Ω Γ ⟨dst,.call { callee:=.value c,args:=#[x1,x2],argTypes:=ts },ty,pos,aft,gd⟩ (D y):=fun a w hB hu hp hl=>by
 obtain ⟨cs,⟨v,rfl,e2,e3,h4⟩,e5⟩:=kc.le _ _ _ (hc.le a A w fun t e=>hl t (by simp [Op.operands,Call.operands,e]));have e5:a.eval c=v:=e5;have g1:=k1.le _ _ _ (h1.le a A w fun t e=>hl t (by simp [Op.operands,Call.operands,e]));have g2:=k2.le _ _ _ (h2.le a A w fun t e=>hl t (by simp [Op.operands,Call.operands,e]));obtain ⟨f,first,captured,rfl,Fn,hcall⟩:=h4 A w _ _ x x' y (Keep.refl _ _) hu g1 g2 hy;have:(execOp a.eval ⟨dst,.call { callee:=.value c,args:=#[x1,x2],argTypes:=ts },ty,pos,aft,gd⟩).run P w=.ok (.enter f (first ++ #[a.eval x1,a.eval x2]++captured)) w:=by
  simp only [execOp,resolve,Deferred.ofValue,e5,Sem.run_bind,Sem.run_pure,Result.andThen_ok,invoke,Fn.h,List.map_toArray,List.map_cons,List.map_nil]
 rw [this];exact ⟨Grow.refl _ _,hcall.mono fun e w' hr=>hr.yields hB⟩
theorem OpY.mk1_1 {c1:Operand} {τ1 σ1:Ty} [F:Fun P f] [h1:Has Γ c1 τ1] [k1:AsT τ1 σ1] {g:α→Option β}
  (h:∀ {A:Nat→Prop} {x:α} {y:β} w v0 v1,(∀ k,w.heap.size≤k→A k)→(D x).p A w v0→σ1.p A w v1→g x=some y→Calls P f #[v0,v1] w (Ret A w (D y))) :
  OpY P B0 A Ω Γ ⟨dst,.makeFunc (.func f) #[] #[c1],ty,pos,aft,gd⟩ (D (⟨g⟩:F1 P α β)):=
 OpY.val fun a w hl=>by
  have e1:=k1.le _ _ _ (h1.le a A w fun t e=>hl t (by simp [Op.operands,e]));refine ⟨_,?_,[_],⟨.func (.func f) #[] #[a.eval c1],rfl,rfl,rfl,fun A' w' u x y hk hu hx hy=>ZkH (by simpa using h w' u _ hu hx (σ1.keep hk e1) hy)⟩,rfl⟩;simp [execOp,Instr.makeFunc,mkV,Dat.agg]
theorem OpY.mk1_2 {c1 c2:Operand} {τ1 σ1 τ2 σ2:Ty} [F:Fun P f] [h1:Has Γ c1 τ1] [k1:AsT τ1 σ1] [h2:Has Γ c2 τ2] [k2:AsT τ2 σ2] {g:α→Option β}
  (h:∀ {A:Nat→Prop} {x:α} {y:β} w v0 v1 v2,(∀ k,w.heap.size≤k→A k)→(D x).p A w v0→σ1.p A w v1→σ2.p A w v2→g x=some y→Calls P f #[v0,v1,v2] w (Ret A w (D y))) :
  OpY P B0 A Ω Γ ⟨dst,.makeFunc (.func f) #[] #[c1,c2],ty,pos,aft,gd⟩ (D (⟨g⟩:F1 P α β)):=
 OpY.val fun a w hl=>by
  have e1:=k1.le _ _ _ (h1.le a A w fun t e=>hl t (by simp [Op.operands,e]));have e2:=k2.le _ _ _ (h2.le a A w fun t e=>hl t (by simp [Op.operands,e]));refine ⟨_,?_,[_],⟨.func (.func f) #[] #[a.eval c1,a.eval c2],rfl,rfl,rfl,fun A' w' u x y hk hu hx hy=>ZkH (by simpa using h w' u _ _ hu hx (σ1.keep hk e1) (σ2.keep hk e2) hy)⟩,rfl⟩;simp [execOp,Instr.makeFunc,mkV,Dat.agg]
end ops
end Go.Proofs.YtkmojgfenlgchaaGreatDoor.Tr
namespace Go.Proofs.YtkmojgfenlgchaaGreatDoor.Tr
open Go Go.RowKit
structure Vec (α:Type) (n:Nat) where
 l:List α
 h:l.length=n
theorem Vec.ext {α:Type} {n:Nat} {x y:Vec α n} (h:x.l=y.l):x=y:=by cases x;cases y;cases h;rfl
instance {α:Type} {n:Nat} [DecidableEq α]:DecidableEq (Vec α n):=fun x y=>if h:x.l=y.l then isTrue (Vec.ext h) else isFalse fun e=>h (by rw [e])
def Vec.set {α:Type} {n:Nat} (v:Vec α n) (k:Nat) (x:α):Vec α n:=⟨v.l.set k x,by rw [List.length_set,v.h]⟩
def Vec.put {α:Type} {n:Nat} (v:Vec α n) (k:Nat) (ys:List α):Vec α n:=if h:(splice v.l k ys).length=n then ⟨splice v.l k ys,h⟩ else v
def Vec.rep {α:Type} (n:Nat) (x:α):Vec α n:=⟨List.replicate n x,by simp⟩
instance {α:Type} {n:Nat} [Inhabited α]:Inhabited (Vec α n):=⟨Vec.rep n default⟩
theorem flat_seg {zs:List Value}:∀ (n j:Nat),j<n→seg (List.replicate n zs).flatten (j*zs.length) zs.length=zs
 | n+1,0,_=>by simp [seg,List.replicate_succ]
 | n+1,j+1,h=>by
  have:=flat_seg (zs:=zs) n j (by omega);rw [List.replicate_succ,List.flatten_cons,Nat.succ_mul,Nat.add_comm];unfold seg at *;rw [← List.drop_drop,List.drop_left];exact this
theorem flat_len {zs:List Value} (n:Nat):(List.replicate n zs).flatten.length=n*zs.length:=by
 simp [List.length_flatten]
instance instVec {α:Type} {n:Nat} [i:Dat α] [hn:BoolIs (Nat.ble 1 n) true]:Dat (Vec α n) where
 agg:=true
 sz:=n*Dat.sz α
 rd A w cs x:=cs.length=n*Dat.sz α∧ZaT A w cs x.l
 wf x:=∀ y∈x.l,Dat.wf y
 len h:=h.1
 one h:=by cases h
 pos:=Nat.mul_pos (Nat.le_of_ble_eq_true hn.h) Dat.pos
 ok {A w cs x} h y hy:=by
  obtain ⟨j,hj,rfl⟩:=List.getElem_of_mem hy;exact Dat.ok (h.2 j hj)
 plain h:=by cases h
 mono k h:=⟨h.1,h.2.keep k⟩
 scal {A w cs x} h:=h.2.scal (by rw [h.1,x.h])
 z:=Vec.rep n Dat.z
 zc:=(List.replicate n (Dat.zc α)).flatten
 zrd {A w}:=by
  have hl:=ZcX α;refine ⟨by rw [flat_len,hl],fun j hj=>?_⟩;have hj':j<n:=by simpa [Vec.rep] using hj
  have:=flat_seg (zs:=Dat.zc α) n j hj';rw [hl] at this;rw [this];simp only [Vec.rep,List.getElem_replicate];exact Dat.zrd
theorem ZaT.all {α:Type} [Dat α] {A:Nat→Prop} {w:World} {cs:List Value} {xs:List α} (h:ZaT A w cs xs) {k m:Nat} (hm:k+m≤xs.length) (hl:xs.length*Dat.sz α≤cs.length):ZaT A w (seg cs (k*Dat.sz α) (m*Dat.sz α)) ((xs.drop k).take m):=fun j hj=>by
 have hj':j<m:=by simp at hj;omega
 have hfit:k*Dat.sz α+m*Dat.sz α≤cs.length:=Nat.le_trans (by rw [← Nat.add_mul];exact Nat.mul_le_mul_right _ hm) hl;rw [Zib (by rw [← Nat.succ_mul];exact Nat.mul_le_mul_right _ (by omega)) hfit,← Nat.add_mul];have e:((xs.drop k).take m)[j]=xs[k+j]'(by omega):=by rw [List.getElem_take,List.getElem_drop]
 rw [e];exact h _ (by omega)
section pl
variable {α:Type} {n:Nat} [i:Dat α] [hn:BoolIs (Nat.ble 1 n) true] {C:Ct} {o:Nat} {v:Vec α n} {upd:Vec α n→Ct}
theorem Zfj (h:Pl C o (Vec α n) instVec v upd) {k:Int} {x:α} (hk:idx v.l k=some x):Pl C (o+k.toNat*Dat.sz α) α i x fun y=>upd (v.set k.toNat y):=by
 obtain ⟨h1,h2⟩:=ZaS hk;obtain ⟨h3,h4⟩:=List.getElem?_eq_some_iff.1 h2;have hv:=v.h;have hkn:k.toNat*Dat.sz α+Dat.sz α≤n*Dat.sz α:=by rw [← Nat.succ_mul];exact Nat.mul_le_mul_right _ (by omega)
 refine ⟨⟨fun {A w cs} hc=>?_⟩,fun y=>⟨fun {A w cs ds} hc hd=>?_⟩⟩
 ·obtain ⟨g1,g2,g3⟩:=h.rd.h hc;have g1:o+n*Dat.sz α≤cs.length:=g1;refine ⟨by omega,?_⟩;have g4:=g3 k.toNat h3;rw [h4] at g4;have e:seg (seg cs o (Dat.sz (Vec α n))) (k.toNat*Dat.sz α) (Dat.sz α)=seg cs (o+k.toNat*Dat.sz α) (Dat.sz α):=Zib hkn g1
  rwa [e] at g4
 ·obtain ⟨g1,g2,g3⟩:=h.rd.h hc;have g1:o+n*Dat.sz α≤cs.length:=g1;have l2:=Dat.len hd;have hsl:(seg cs o (n*Dat.sz α)).length=n*Dat.sz α:=Zv g1;have hes:Dat.rd A w (ZU (seg cs o (n*Dat.sz α)) (k.toNat*Dat.sz α) ds) (v.set k.toNat y):=by
   refine ⟨by rw [Zl (by omega),hsl],fun q hq=>?_⟩;have hq':q<v.l.length:=by simpa [Vec.set] using hq
   by_cases hqk:q=k.toNat
   ·subst hqk;have e9:=ZbH (cs:=seg cs o (n*Dat.sz α)) (o:=k.toNat*Dat.sz α) (vs:=ds) (by omega);rw [l2] at e9;rw [e9];simp only [Vec.set,List.getElem_set_self];exact hd
   ·rw [Zaz (by omega) (by rw [hsl,← Nat.succ_mul];exact Nat.mul_le_mul_right _ (by omega)) ?_]
    ·simp only [Vec.set,List.getElem_set_ne (fun h=>hqk h.symm)];exact g3 q hq'
    ·rcases Nat.lt_or_ge q k.toNat with h6 | h6
     ·left;rw [← Nat.succ_mul];exact Nat.mul_le_mul_right _ (by omega)
     ·right;rw [l2,← Nat.succ_mul];exact Nat.mul_le_mul_right _ (by omega)
  obtain ⟨-,g5⟩:=(h.st (v.set k.toNat y)).h hc hes;refine ⟨by omega,?_⟩;have e:ZU cs o (ZU (seg cs o (n*Dat.sz α)) (k.toNat*Dat.sz α) ds)=ZU cs (o+k.toNat*Dat.sz α) ds:=by
   have hl2:(ZU (seg cs o (n*Dat.sz α)) (k.toNat*Dat.sz α) ds).length=n*Dat.sz α:=by rw [Zl (by omega),hsl]
   refine ZaH (by rw [Zl (by omega),Zl (by omega)]) fun j hj=>?_
   rw [Zl (by omega)] at hj;rw [ZO (cs:=cs) (o:=o) (by omega),ZO (cs:=cs) (o:=o+k.toNat*Dat.sz α) (by omega),hl2]
   by_cases c1:o≤j∧j<o+n*Dat.sz α
   ·rw [if_pos c1,ZO (by omega)]
    by_cases c2:k.toNat*Dat.sz α≤j-o∧j-o<k.toNat*Dat.sz α+ds.length
    ·rw [if_pos c2,if_pos (by omega)];congr 1;omega
    ·rw [if_neg c2,if_neg (by omega),Zab (by omega)];congr 1;omega
   ·rw [if_neg c1,if_neg (by omega)]
  rwa [e] at g5
theorem ZiD (h:Pl C o (Vec α n) instVec v upd) {k m:Nat} (hk:k+m≤n) (hmo:n≤ZjT):PlS C (o+k*Dat.sz α) α i ((v.l.drop k).take m) fun ys=>upd (v.put k ys):=by
 have hv:=v.h;have hl:((v.l.drop k).take m).length=m:=by simp;omega
 have hfit0:k*Dat.sz α+m*Dat.sz α≤n*Dat.sz α:=by rw [← Nat.add_mul];exact Nat.mul_le_mul_right _ hk
 refine ⟨fun _=>by omega,fun {A w cs} hc=>?_,fun {A w cs news} ys hy hc hnw he=>?_⟩
 ·obtain ⟨g1,g2,g3⟩:=h.rd.h hc;have g1:o+n*Dat.sz α≤cs.length:=g1;rw [hl];refine ⟨by omega,?_⟩;have hsl:(seg cs o (n*Dat.sz α)).length=n*Dat.sz α:=Zv g1;have g4:=g3.all (k:=k) (m:=m) (by omega) (by rw [hv];exact Nat.le_of_eq hsl.symm);have e:seg (seg cs o (Dat.sz (Vec α n))) (k*Dat.sz α) (m*Dat.sz α)=seg cs (o+k*Dat.sz α) (m*Dat.sz α):=Zib hfit0 g1
  rwa [e] at g4
 ·obtain ⟨g1,g2,g3⟩:=h.rd.h hc;have g1:o+n*Dat.sz α≤cs.length:=g1;have hsl:(seg cs o (n*Dat.sz α)).length=n*Dat.sz α:=Zv g1;have hyl:ys.length=m:=by omega
  have hsp:(splice v.l k ys).length=n:=by rw [ZkS (by omega)];omega
  have hes:Dat.rd A w (ZU (seg cs o (n*Dat.sz α)) (k*Dat.sz α) news) (v.put k ys):=by
   have h8:=ZaT.splice (k:=k) g3 he hnw (by rw [hv];exact Nat.le_of_eq hsl.symm) (by omega) (by
    have e:(seg cs o (Dat.sz (Vec α n))).length=n*Dat.sz α:=hsl;rw [e,hyl];exact Nat.mul_le_mul_right _ hk)
   refine ⟨by rw [Zl (by rw [hnw,hyl,hsl];omega),hsl],?_⟩;unfold Vec.put;rw [dif_pos hsp];exact h8
  obtain ⟨-,g5⟩:=(h.st (v.put k ys)).h hc hes;have e:ZU cs o (ZU (seg cs o (n*Dat.sz α)) (k*Dat.sz α) news)=ZU cs (o+k*Dat.sz α) news:=by
   have hnl:news.length=m*Dat.sz α:=by rw [hnw,hyl]
   have hl2:(ZU (seg cs o (n*Dat.sz α)) (k*Dat.sz α) news).length=n*Dat.sz α:=by rw [Zl (by omega),hsl]
   refine ZaH (by rw [Zl (by omega),Zl (by omega)]) fun j hj=>?_
   rw [Zl (by omega)] at hj;rw [ZO (cs:=cs) (o:=o) (by omega),ZO (cs:=cs) (o:=o+k*Dat.sz α) (by omega),hl2]
   by_cases c1:o≤j∧j<o+n*Dat.sz α
   ·rw [if_pos c1,ZO (by omega)]
    by_cases c2:k*Dat.sz α≤j-o∧j-o<k*Dat.sz α+news.length
    ·rw [if_pos c2,if_pos (by omega)];congr 1;omega
    ·rw [if_neg c2,if_neg (by omega),Zab (by omega)];congr 1;omega
   ·rw [if_neg c1,if_neg (by omega)]
  rwa [e] at g5
end pl
class TAr (P:Program) (t:TypeId) (n:outParam Nat) (e:outParam TypeId):Prop where
 h:P.underlying t=some (.array n e)
section ops
variable {P:Program} {B0:Nat} {A:Nat→Prop} {Ω:List Pe} {Γ:Env} {dst:Option Tmp} {ty:TypeId} {pos:String} {aft:Array Edge} {gd:Option (Nat×Bool)}
variable {α:Type} {i:Dat α} {t e:TypeId} {n:Nat}
theorem Zlz [S:TAr P t n e] [T:TDat P e α i] [hn:BoolIs (Nat.ble 1 n) true] {x y:Operand} {τ σ:Ty} {v:Vec α n} {k:Int} {z:α} [hx:Has Γ x τ] [hp:AsPtr τ (Vec α n) instVec v] [Has Γ y σ] [hy:AsIx σ k] (hk:idx v.l k=some z) :
  OpY P B0 A Ω Γ ⟨dst,.indexAddr t x y,ty,pos,aft,gd⟩ (ZlO z):=
 OpY.val fun a w hl=>by
  obtain ⟨b,o,cs,e1,hA,hr,hl2,he⟩:=hp.le _ _ _ (Zt (x:=x) (τ:=τ) (op:=.indexAddr t x y) (by simp [Op.operands]) hl);obtain ⟨kd,e2⟩:=hy.h (Zt (x:=y) (τ:=σ) (op:=.indexAddr t x y) (by simp [Op.operands]) hl);obtain ⟨h1,h2⟩:=ZaS hk;obtain ⟨h3,h4⟩:=List.getElem?_eq_some_iff.1 h2;have hv:=v.h;have hkn:k.toNat*Dat.sz α+Dat.sz α≤n*Dat.sz α:=by rw [← Nat.succ_mul];exact Nat.mul_le_mul_right _ (by omega)
  refine ⟨_,?_,b,o+k.toNat*Dat.sz α,seg cs (k.toNat*Dat.sz α) (Dat.sz α),rfl,hA,rowAt_seg hr (by omega),by have:=he k.toNat h3;rwa [h4] at this⟩;have hin:0≤k∧k<(n:Int):=by omega
  simp only [execOp,e1,e2,Instr.indexAt,asIntOf,Instr.sureAddr,Sem.run_bind,Sem.run_pure,Result.andThen_ok,run_underlying S.h,hin,and_self,if_true,T.sz,Za0]
class HasLo (Γ:Env) (x:Option Operand) (d:Int) (l:outParam Int):Prop where
 h:∀ (a:Act) (A:Nat→Prop) (w:World),(∀ s,some (.tmp s)=x→(Γ s).p A w (a.tmps.getD s undef))→x.map a.eval=some (.int .i64 l)∨x=none∧l=d
instance {Γ:Env} {d:Int}:HasLo Γ none d d:=⟨fun _ _ _ _=>.inr ⟨rfl,rfl⟩⟩
instance {Γ:Env} {x:Operand} {d l:Int} {τ:Ty} [h:Has Γ x τ] [k:AsI τ l]:HasLo Γ (some x) d l:=⟨fun a A w hl=>.inl (by
 have e:a.eval x=.int .i64 l:=k.le _ _ _ (h.le a A w fun t e=>hl t (by rw [e]));simp [e])⟩
class AsPt (τ:Ty) (b o:outParam Nat):Prop where
 le:τ.le (Pt b o)
instance {b o:Nat}:AsPt (Pt b o) b o:=⟨Ty.le.refl _⟩
instance {p:Prop} {τ:Ty} {b o:Nat} [h:Ft p] [k:AsPt τ b o]:AsPt (ZgN p τ) b o:=⟨fun A w v y=>k.le A w v (y.1 h.h)⟩
theorem Zdh [S:TAr P t n e] [T:TDat P e α i] {x:Operand} {lo hi:Option Operand} {b o:Nat} {l r:Int} {τ:Ty} [hx:Has Γ x τ] [kx:AsPt τ b o] [hlo:HasLo Γ lo 0 l] [hhi:HasLo Γ hi n r]
  (h0:0≤l) (h1:l≤r) (h2:r≤n) (hml:n≤maxLen) :
  OpY P B0 A Ω Γ ⟨dst,.slice t x lo hi none,ty,pos,aft,gd⟩ (Sv b True (o+l.toNat*Dat.sz α) (r-l).toNat):=
 OpY.val fun a w hl=>by
  have e1:a.eval x=.pointer (some ⟨b,o,none⟩):=kx.le _ _ _ (Zt (x:=x) (τ:=τ) (op:=.slice t x lo hi none) (by simp [Op.operands]) hl);have el:=hlo.h a A w fun s hs=>hl s (by simp only [Op.operands];simp [← hs])
  have eh:=hhi.h a A w fun s hs=>hl s (by simp only [Op.operands];simp [← hs])
  refine ⟨.slice (some (if n=l.toNat then ⟨b,o,none⟩ else ⟨b,o+l.toNat*Dat.sz α,none⟩)) (r.toNat-l.toNat) (n-l.toNat),?_,?_⟩
  ·have c1:0≤r∧r≤(n:Int):=by omega
   have c2:0≤l∧l≤(r.toNat:Int):=by omega
   have hif:(Value.slice (some (if n=l.toNat then (⟨b,o,none⟩:Addr) else ⟨b,o+l.toNat*Dat.sz α,none⟩)) (r.toNat-l.toNat) (n-l.toNat))=Value.slice (some (if n=l.toNat then (⟨b,o,none⟩:Addr) else (⟨b,o,none⟩:Addr).add (l.toNat*Dat.sz α))) (r.toNat-l.toNat) (n-l.toNat):=by rw [Za0]
   rw [hif];rcases el with el | ⟨rfl,rfl⟩ <;> rcases eh with eh | ⟨rfl,rfl⟩
   ·simp only [execOp,e1,el,eh,Option.map_none,Instr.sliceAt,Instr.sureAddr,run_underlying S.h,Instr.sliceBounds,Instr.sliceBound,asIntOf,Sem.run_bind,Sem.run_pure,Result.andThen_ok,c1,c2,and_self,if_true,T.sz]
   ·have c3:0≤l∧l≤(n:Int):=by omega
    simp only [execOp,e1,el,Option.map_none,Instr.sliceAt,Instr.sureAddr,run_underlying S.h,Instr.sliceBounds,Instr.sliceBound,asIntOf,Sem.run_bind,Sem.run_pure,Result.andThen_ok,c3,and_self,if_true,T.sz,Int.toNat_natCast]
   ·simp only [execOp,e1,eh,Option.map_none,Instr.sliceAt,Instr.sureAddr,run_underlying S.h,Instr.sliceBounds,Instr.sliceBound,asIntOf,Sem.run_bind,Sem.run_pure,Result.andThen_ok,c1,and_self,if_true,T.sz,Int.toNat_zero]
   ·simp only [execOp,e1,Option.map_none,Instr.sliceAt,Instr.sureAddr,run_underlying S.h,Instr.sliceBounds,Instr.sliceBound,asIntOf,Sem.run_bind,Sem.run_pure,Result.andThen_ok,and_self,if_true,T.sz,Int.toNat_zero,Int.toNat_natCast]
  ·left
   refine ⟨trivial,if n=l.toNat then o else o+l.toNat*Dat.sz α,n-l.toNat,by rw [show (r-l).toNat=r.toNat-l.toNat by omega];split <;> rfl,⟨by omega,by omega⟩,fun h=>by rw [if_neg (by omega)]⟩
end ops
end Go.Proofs.YtkmojgfenlgchaaGreatDoor.Tr
namespace Go.Proofs.YtkmojgfenlgchaaGreatDoor.Tr
open Go Go.RowKit
def ZiR (z:Int):Option Int:=if -9223372036854775808≤z∧z≤9223372036854775807 then some z else none
def Zas (a b:Int):Option Int:=ZiR (a+b)
def Zgs (a b:Int):Option Int:=ZiR (a-b)
def mulI (a b:Int):Option Int:=ZiR (a*b)
def ZjS (a b:Int):Option Int:=if 0≤a∧0<b then some (a/b) else none
def remI (a b:Int):Option Int:=if 0≤a∧0<b then some (a % b) else none
def cnt (s:Int):Option Nat:=if 0≤s then some s.toNat else none
def cut (n:Nat) (l r:Int):Option Unit:=if 0≤l∧l≤r∧r≤n then some () else none
def Zdv (bt:Nat) (n:Int):Option Unit:=if 0≤n∧n*bt≤140737488355328∧n≤140737488351232 then some () else none
theorem Zct {z y:Int} (h:ZiR z=some y):z=y∧-9223372036854775808≤z∧z≤9223372036854775807:=by
 unfold ZiR at h;split at h
 ·injection h with h;exact ⟨h,‹_›⟩
 ·cases h
theorem ZT {n:Nat} {l r:Int} {u:Unit} (h:cut n l r=some u):0≤l∧l≤r∧r≤n:=by
 unfold cut at h;split at h
 ·rename_i hc;exact hc
 ·cases h
theorem Za3 {bt:Nat} {n:Int} {u:Unit} (h:Zdv bt n=some u):0≤n∧n*bt≤140737488355328∧n≤140737488351232:=by
 unfold Zdv at h;split at h
 ·rename_i hc;exact hc
 ·cases h
theorem cnt_some {s:Int} {k:Nat} (h:cnt s=some k):0≤s∧s.toNat=k:=by
 unfold cnt at h;split at h
 ·injection h with h;exact ⟨‹_›,h⟩
 ·cases h
section ops
variable {P:Program} {B0:Nat} {A:Nat→Prop} {Ω:List Pe} {Γ:Env} {dst:Option Tmp} {ty:TypeId} {pos:String} {aft:Array Edge} {gd:Option (Nat×Bool)}
theorem Zdt {o:Oper} {τ σ:Ty} (h:τ.le σ) (k:OpY P B0 A Ω Γ o τ):OpY P B0 A Ω Γ o σ:=fun a w hB hu hp hl=>by
 have:=k a w hB hu hp hl;generalize (execOp a.eval o).run P w=r at *;cases r with
 | ok x w'=>
  cases x <;> simp only [Zhm] at this ⊢
  case value v=>exact ⟨this.1,h _ _ _ this.2⟩
  case skip=>exact ⟨this.1,h _ _ _ this.2⟩
  case enter f args=>exact ⟨this.1,this.2.mono fun e w'' ⟨v,h1,h2,h3⟩=>⟨v,h1,h2,h _ _ _ h3⟩⟩
 | halt x w'=>simp only [Zhm] at this
section int
variable {x y:Operand} {τ σ:Ty} {t u:TypeId} {m k z:Int} [hsx:Has Γ x τ] [hx:AsI τ m] [hsy:Has Γ y σ] [hy:AsI σ k]
include hsx hx hsy hy
theorem Zgp (h:Zas m k=some z):OpY P B0 A Ω Γ ⟨dst,.binOp .add t x y u,ty,pos,aft,gd⟩ (D z):=by
 obtain ⟨rfl,h1,h2⟩:=Zct h;exact Zdt (I_D h1 h2) (OpY.add h1 h2)
theorem OpD.sub (h:Zgs m k=some z):OpY P B0 A Ω Γ ⟨dst,.binOp .sub t x y u,ty,pos,aft,gd⟩ (D z):=by
 obtain ⟨rfl,h1,h2⟩:=Zct h;exact Zdt (I_D h1 h2) (OpY.sub h1 h2)
theorem OpD.mul (h:mulI m k=some z):OpY P B0 A Ω Γ ⟨dst,.binOp .mul t x y u,ty,pos,aft,gd⟩ (D z):=by
 obtain ⟨rfl,h1,h2⟩:=Zct h;exact Zdt (I_D h1 h2) (OpY.mul h1 h2)
end int
section intD
variable {x y:Operand} {τ σ:Ty} {t u:TypeId} {m k z:Int} [hsx:Has Γ x τ] [hx:ToD τ Int inferInstance m] [hsy:Has Γ y σ] [hy:ToD σ Int inferInstance k]
include hsx hx hsy hy
theorem evD2 {op:BinOp} {a:Act} {w:World} (hl:∀ s,.tmp s∈(Op.binOp op t x y u).operands.toList→(Γ s).p A w (a.tmps.getD s undef)) :
  a.eval x=.int .i64 m∧a.eval y=.int .i64 k∧ZeD m∧ZeD k:=by
 have h1:=hx.le _ _ _ (Zt (x:=x) (τ:=τ) (op:=.binOp op t x y u) (by simp [Op.operands]) hl);have h2:=hy.le _ _ _ (Zt (x:=y) (τ:=σ) (op:=.binOp op t x y u) (by simp [Op.operands]) hl);exact ⟨D_I _ _ _ h1,D_I _ _ _ h2,D.wf h1,D.wf h2⟩
theorem OpD.quo (h:ZjS m k=some z):OpY P B0 A Ω Γ ⟨dst,.binOp .quo t x y u,ty,pos,aft,gd⟩ (D z):=fun a w hB hu hp hl=>by
 unfold ZjS at h;split at h
 ·rename_i hc
  injection h with h;subst h;obtain ⟨e1,e2,hm,hk⟩:=evD2 (x:=x) (y:=y) (τ:=τ) (σ:=σ) (t:=t) (u:=u) (m:=m) (k:=k) (A:=A) (op:=.quo) hl;have hd0:0≤m/k:=Int.ediv_nonneg hc.1 (by omega);have hd1:m/k≤m:=Int.ediv_le_self _ hc.1
  haveI:AsI τ m:=⟨hx.le.trans D_I⟩
  haveI:AsI σ k:=⟨hy.le.trans D_I⟩
  exact Zdt (I_D (by omega) (by have:=hm.2;omega)) (OpY.quo (x:=x) (y:=y) (τ:=τ) (σ:=σ) (m:=m) (k:=k) hc.1 hm.2 hc.2) a w hB hu hp hl
 ·cases h
theorem OpD.rem (h:remI m k=some z):OpY P B0 A Ω Γ ⟨dst,.binOp .rem t x y u,ty,pos,aft,gd⟩ (D z):=fun a w hB hu hp hl=>by
 unfold remI at h;split at h
 ·rename_i hc
  injection h with h;subst h;obtain ⟨e1,e2,hm,hk⟩:=evD2 (x:=x) (y:=y) (τ:=τ) (σ:=σ) (t:=t) (u:=u) (m:=m) (k:=k) (A:=A) (op:=.rem) hl;have hd0:0≤m % k:=Int.emod_nonneg _ (by omega);have hd1:m % k<k:=Int.emod_lt_of_pos _ hc.2
  haveI:AsI τ m:=⟨hx.le.trans D_I⟩
  haveI:AsI σ k:=⟨hy.le.trans D_I⟩
  exact Zdt (I_D (by omega) (by have:=hk.2;omega)) (OpY.rem (x:=x) (y:=y) (τ:=τ) (σ:=σ) (m:=m) (k:=k) hc.1 hc.2) a w hB hu hp hl
 ·cases h
end intD
theorem OpD.min {x y:Operand} {τ σ:Ty} {ts:Array TypeId} {m k:Int} [hsx:Has Γ x τ] [hx:ToD τ Int inferInstance m] [hsy:Has Γ y σ] [hy:ToD σ Int inferInstance k] :
  OpY P B0 A Ω Γ ⟨dst,.call { callee:=.builtin .min,args:=#[x,y],argTypes:=ts },ty,pos,aft,gd⟩ (D (min m k)):=fun a w hB hu hp hl=>by
 have h1:=D.wf (hx.le _ _ _ (Zt (x:=x) (τ:=τ) (op:=.call { callee:=.builtin .min,args:=#[x,y],argTypes:=ts }) (by simp [Op.operands,Call.operands]) hl));have h2:=D.wf (hy.le _ _ _ (Zt (x:=y) (τ:=σ) (op:=.call { callee:=.builtin .min,args:=#[x,y],argTypes:=ts }) (by simp [Op.operands,Call.operands]) hl))
 haveI:AsI τ m:=⟨hx.le.trans D_I⟩
 haveI:AsI σ k:=⟨hy.le.trans D_I⟩
 have h1:ZeD m:=h1;have h2:ZeD k:=h2;unfold ZeD at h1 h2;exact Zdt (I_D (by omega) (by omega)) (OpY.minI (x:=x) (y:=y) (τ:=τ) (σ:=σ) (m:=m) (k:=k)) a w hB hu hp hl
theorem OpD.max {x y:Operand} {τ σ:Ty} {ts:Array TypeId} {m k:Int} [hsx:Has Γ x τ] [hx:ToD τ Int inferInstance m] [hsy:Has Γ y σ] [hy:ToD σ Int inferInstance k] :
  OpY P B0 A Ω Γ ⟨dst,.call { callee:=.builtin .max,args:=#[x,y],argTypes:=ts },ty,pos,aft,gd⟩ (D (max m k)):=fun a w hB hu hp hl=>by
 have h1:=D.wf (hx.le _ _ _ (Zt (x:=x) (τ:=τ) (op:=.call { callee:=.builtin .max,args:=#[x,y],argTypes:=ts }) (by simp [Op.operands,Call.operands]) hl));have h2:=D.wf (hy.le _ _ _ (Zt (x:=y) (τ:=σ) (op:=.call { callee:=.builtin .max,args:=#[x,y],argTypes:=ts }) (by simp [Op.operands,Call.operands]) hl))
 haveI:AsI τ m:=⟨hx.le.trans D_I⟩
 haveI:AsI σ k:=⟨hy.le.trans D_I⟩
 have h1:ZeD m:=h1;have h2:ZeD k:=h2;unfold ZeD at h1 h2;exact Zdt (I_D (by omega) (by omega)) (OpY.maxI (x:=x) (y:=y) (τ:=τ) (σ:=σ) (m:=m) (k:=k)) a w hB hu hp hl
theorem OpD.len {t e:TypeId} {x:Operand} {τ:Ty} {α:Type} {i:Dat α} {xs:List α} [hsx:Has Γ x τ] [hx:AsL τ α i xs] [S:TSl P t e] :
  OpY P B0 A Ω Γ ⟨dst,.call { callee:=.builtin .len,args:=#[x],argTypes:=#[t] },ty,pos,aft,gd⟩ (D (xs.length:Int)):=fun a w hB hu hp hl=>by
 have h1:=(D.wf (hx.le _ _ _ (Zt (x:=x) (τ:=τ) (op:=.call { callee:=.builtin .len,args:=#[x],argTypes:=#[t] }) (by simp [Op.operands,Call.operands]) hl))).1;have h1:xs.length≤ZjT:=h1;unfold ZjT at h1;exact Zdt (I_D (by omega) (by omega)) (OpY.len (x:=x) (τ:=τ) (xs:=xs)) a w hB hu hp hl
theorem Zi6 {t e:TypeId} {x:Operand} [hsx:Has Γ x NilS] [S:TSl P t e] :
  OpY P B0 A Ω Γ ⟨dst,.call { callee:=.builtin .len,args:=#[x],argTypes:=#[t] },ty,pos,aft,gd⟩ (D (0:Int)):=
 Zdt (I_D (by omega) (by omega)) OpY.lenNil
theorem Zax {t e:TypeId} {x:Operand} {τ:Ty} {b o m n:Nat} {pr:Prop} [hsx:Has Γ x τ] [ka:AsSv τ b pr o m] [S:TSl P t e] (hn:m=n) :
  OpY P B0 A Ω Γ ⟨dst,.call { callee:=.builtin .len,args:=#[x],argTypes:=#[t] },ty,pos,aft,gd⟩ (D (n:Int)):=fun a w hB hu hp hl=>by
 subst hn;have h:=ka.le _ _ _ (Zt (x:=x) (τ:=τ) (op:=.call { callee:=.builtin .len,args:=#[x],argTypes:=#[t] }) (by simp [Op.operands,Call.operands]) hl);have h1:m≤9223372036854775807:=by
  rcases h with ⟨_,o',c,_,h2,_⟩ | ⟨_,h2,_⟩
  ·unfold maxLen at h2;omega
  ·omega
 exact Zdt (I_D (by omega) (by omega)) (OpY.lenSv (x:=x) (τ:=τ) (b:=b) (o:=o) (m:=m) (pr:=pr)) a w hB hu hp hl
section cv
variable {s d:TypeId} {x:Operand} {τ:Ty} [hsx:Has Γ x τ]
include hsx
theorem OpD.conv8_i {m:UInt8} [hx:AsU8 τ m] [S:TIn P s .u8] [T:TIn P d .i64]:OpY P B0 A Ω Γ ⟨dst,.convert s d x,ty,pos,aft,gd⟩ (D (m.toNat:Int)):=Zdt (I_D (by omega) (by have:=ZlH m;omega)) OpY.conv8_i
theorem ZlE {m:UInt64} {z:Int} [hx:AsU64 τ m] [S:TIn P s .u64] [T:TIn P d .i64] (h:ZiR m.toNat=some z):OpY P B0 A Ω Γ ⟨dst,.convert s d x,ty,pos,aft,gd⟩ (D z):=by
 obtain ⟨rfl,h1,h2⟩:=Zct h;exact Zdt (I_D h1 h2) (OpY.conv64_i (by omega))
end cv
instance {n:Int}:AsCnt (D n) n:=⟨fun A w v h=>⟨.i64,D_I _ _ _ h⟩⟩
section sl
variable {t e:TypeId} {x y z:Operand} {τ σ ρ:Ty} {α:Type} {i:Dat α} {xs:List α} {l r:Int} {u:Unit}
theorem OpD.index [Has Γ x τ] [hx:AsL τ α i xs] [Has Γ y σ] [hy:AsIx σ l] [S:TSl P t e] [T:TDat P e α i] {v:α} (h:idx xs l=some v):OpY P B0 A Ω Γ ⟨dst,.indexAddr t x y,ty,pos,aft,gd⟩ (ZlO v):=
 OpY.indexAddr (ZaS h).1 (ZaS h).2
theorem OpD.slice2 [hsx:Has Γ x τ] [hx:AsL τ α i xs] [hsy:Has Γ y σ] [hy:AsI σ l] [hsz:Has Γ z ρ] [hz:AsI ρ r] [S:TSl P t e] [T:TDat P e α i] (h:cut xs.length l r=some u) :
  OpY P B0 A Ω Γ ⟨dst,.slice t x (some y) (some z) none,ty,pos,aft,gd⟩ (D ((xs.take r.toNat).drop l.toNat)):=by
 obtain ⟨h1,h2,h3⟩:=ZT h;exact OpY.slice2 h1 h2 h3
theorem OpD.sliceTo [hsx:Has Γ x τ] [hx:AsL τ α i xs] [hsz:Has Γ z ρ] [hz:AsI ρ r] [S:TSl P t e] [T:TDat P e α i] (h:cut xs.length 0 r=some u) :
  OpY P B0 A Ω Γ ⟨dst,.slice t x none (some z) none,ty,pos,aft,gd⟩ (D (xs.take r.toNat)):=by
 obtain ⟨h1,h2,h3⟩:=ZT h;exact OpY.sliceTo h2 h3
theorem OpD.sliceFrom [hsx:Has Γ x τ] [hx:AsL τ α i xs] [hsy:Has Γ y σ] [hy:AsI σ l] [S:TSl P t e] [T:TDat P e α i] (h:cut xs.length l xs.length=some u) :
  OpY P B0 A Ω Γ ⟨dst,.slice t x (some y) none none,ty,pos,aft,gd⟩ (D (xs.drop l.toNat)):=by
 obtain ⟨h1,h2,h3⟩:=ZT h;exact OpY.sliceFrom h1 h2
end sl
end ops
theorem ZlV {bt m k:Nat} {u:Unit} (h:Zdv bt ((m+k:Nat):Int)=some u):(m+k)*bt≤140737488355328∧m+k≤ZjT:=by
 obtain ⟨h1,h2,h3⟩:=Za3 h;rw [← Int.natCast_mul] at h2;unfold ZjT;exact ⟨by omega,by omega⟩
theorem Zdz {bt:Nat} {n:Int} {u:Unit} (h:Zdv bt n=some u):0≤n∧bt*n.toNat≤281474976710656∧n≤140737488351232:=by
 obtain ⟨h1,h2,h3⟩:=Za3 h;refine ⟨h1,?_,h3⟩;have:((bt*n.toNat:Nat):Int)≤281474976710656:=by rw [Int.natCast_mul,Int.toNat_of_nonneg h1,Int.mul_comm];omega
 omega
end Go.Proofs.YtkmojgfenlgchaaGreatDoor.Tr
namespace Go.Proofs.YtkmojgfenlgchaaGreatDoor.Tr
open Go Go.RowKit
def Pq (b o:Nat) (pr:Prop):Ty:=⟨fun _ _ v=>pr∧v=.pointer (some ⟨b,o,none⟩),fun _ h=>h⟩
class AsPq (τ:Ty) (b o:outParam Nat) (pr:outParam Prop):Prop where
 le:τ.le (Pq b o pr)
instance {b o:Nat} {pr:Prop}:AsPq (Pq b o pr) b o pr:=⟨Ty.le.refl _⟩
instance {b o:Nat}:AsPq (Pt b o) b o True:=⟨fun _ _ _ h=>⟨trivial,h⟩⟩
instance {p:Prop} {τ:Ty} {b o:Nat} {pr:Prop} [h:Ft p] [k:AsPq τ b o pr]:AsPq (ZgN p τ) b o pr:=⟨fun A w v x=>k.le A w v (x.1 h.h)⟩
section ops
variable {P:Program} {B0:Nat} {A:Nat→Prop} {Ω Ωs Ωr:List Pe} {Γ:Env} {dst:Option Tmp} {ty:TypeId} {pos:String} {aft:Array Edge} {gd:Option (Nat×Bool)}
variable {α β:Type} {i:Dat α} {j:Dat β} {t u e:TypeId} {f off:Nat} {get:α→β} {set:β→α→α} {upd:α→Ct}
instance {b o:Nat} {pr:Prop}:FaP (Pq b o pr) α off β (Pq b (o+off) pr):=⟨fun h=>⟨b,o,h.2,h.1,rfl⟩⟩
theorem ZaE {x:Operand} {τ:Ty} {b o:Nat} {pr:Prop} {C:Ct} {v:α} [hx:Has Γ x τ] [q:AsPq τ b o pr] [T:TDat P t α i] [hb:HasB Ω b pr C] (p:Pl C o α i v upd):OpY P B0 A Ω Γ ⟨dst,.load t x,ty,pos,aft,gd⟩ (D v):=
 OpY.ldBy (τ:=τ) ⟨fun {A w u} hk hv=>by
  obtain ⟨h1,h2⟩:=q.le _ _ _ hv;obtain ⟨cs,g1,g2⟩:=hk _ hb.h h1;obtain ⟨g3,g4⟩:=p.rd.h g2;exact ⟨b,o,_,h2,g1.row g3,g4⟩⟩
theorem ZS {x:Operand} {τ0:Ty} {b o:Nat} {pr:Prop} {C:Ct} {τ:Ty} [hx:Has Γ x τ0] [q:AsPq τ0 b o pr] [hb:HasB Ω b pr C] [T:TDat P t (List α) instList] (c:CeH C o τ):OpY P B0 A Ω Γ ⟨dst,.load t x,ty,pos,aft,gd⟩ τ:=fun a w hB hu hp hl=>by
 obtain ⟨hpr,e1⟩:=q.le _ _ _ (Zt (x:=x) (τ:=τ0) (op:=.load t x) (by simp [Op.operands]) hl);obtain ⟨cs,g1,g2⟩:=hp _ hb.h hpr;obtain ⟨k1,k2⟩:=c.h g2;have hag:(isAgg t).run P w=.ok false w:=T.ag w;have:(loadVar t ⟨b,o,none⟩).run P w=.ok (cs.getD o undef) w:=by
  unfold loadVar;rw [Sem.run_bind,hag];simp only [Result.andThen_ok,Bool.false_eq_true,if_false];have hc:=g1.cell k1;rw [run_load,hc]
 simp only [execOp,Instr.loadAt,e1,Instr.sureAddr,Sem.run_bind,Sem.run_pure,Result.andThen_ok,this];exact ⟨Grow.refl _ _,k2⟩
theorem Zm [S:TSl P t e] [T:TDat P e α i] {x y:Operand} {τ σ:Ty} {b o m:Nat} {pr:Prop} {k:Int} [hx:Has Γ x τ] [ka:AsSv τ b pr o m] [Has Γ y σ] [hy:AsIx σ k] (h0:0≤k∧k<m) :
  OpY P B0 A Ω Γ ⟨dst,.indexAddr t x y,ty,pos,aft,gd⟩ (Pq b (o+k.toNat*Dat.sz α) pr):=
 OpY.val fun a w hl=>by
  have h:=ka.le _ _ _ (Zt (x:=x) (τ:=τ) (op:=.indexAddr t x y) (by simp [Op.operands]) hl);obtain ⟨kd,e2⟩:=hy.h (Zt (x:=y) (τ:=σ) (op:=.indexAddr t x y) (by simp [Op.operands]) hl);rcases h with ⟨hp,o',c,e1,_,ho⟩ | ⟨_,h2,e1⟩
  ·obtain rfl:=ho (by omega);refine ⟨_,?_,hp,rfl⟩;have hin:0≤k∧k<(m:Int):=h0;simp only [execOp,e1,e2,Instr.indexAt,asIntOf,Sem.run_bind,Sem.run_pure,Result.andThen_ok,run_underlying S.h,hin,and_self,if_true,T.sz,Za0]
  ·omega
theorem Zay {n:Nat} [S:TAr P t n e] [T:TDat P e α i] {x y:Operand} {τ σ:Ty} {b o:Nat} {pr:Prop} {k:Int} [hx:Has Γ x τ] [q:AsPq τ b o pr] [Has Γ y σ] [hy:AsIx σ k] (h0:0≤k∧k<n) :
  OpY P B0 A Ω Γ ⟨dst,.indexAddr t x y,ty,pos,aft,gd⟩ (Pq b (o+k.toNat*Dat.sz α) pr):=
 OpY.val fun a w hl=>by
  obtain ⟨hp,e1⟩:=q.le _ _ _ (Zt (x:=x) (τ:=τ) (op:=.indexAddr t x y) (by simp [Op.operands]) hl);obtain ⟨kd,e2⟩:=hy.h (Zt (x:=y) (τ:=σ) (op:=.indexAddr t x y) (by simp [Op.operands]) hl);refine ⟨_,?_,hp,rfl⟩;have hin:0≤k∧k<(n:Int):=h0;simp only [execOp,e1,e2,Instr.indexAt,asIntOf,Instr.sureAddr,Sem.run_bind,Sem.run_pure,Result.andThen_ok,run_underlying S.h,hin,and_self,if_true,T.sz,Za0]
theorem Zw {b o:Nat} {pr:Prop} {C:Ct} {p x:Operand} {τ σ:Ty} {v y:α} [hp:Has Γ p τ] [q:AsPq τ b o pr] [pk:Pick Ω b pr C Ωr] [hx:Has Γ x σ] [T:TDat P t α i] [hy:ToD σ α i y] (pl:Pl C o α i v upd) :
  OpT P B0 Ωs Ω Γ ⟨none,.store t p x,ty,pos,aft,none⟩ (fun _:Unit=>Ty.any) fun _=>⟨b,pr,upd y⟩::Ωr:=
 ZmS (C:=C) rfl fun A a w hk hl=>by
  obtain ⟨hpr,e1⟩:=q.le _ _ _ (Zt (x:=p) (τ:=τ) (op:=.store t p x) (by simp [Op.operands]) hl);have h2:=hy.le _ _ _ (Zt (x:=x) (τ:=σ) (op:=.store t p x) (by simp [Op.operands]) hl);obtain ⟨cs,g1,g2⟩:=hk ⟨b,pr,C⟩ (List.mem_append_right _ (pk.perm.mem_iff.2 (List.mem_cons_self ..))) hpr;obtain ⟨ds0,-,r0⟩:=ZjR h2;obtain ⟨w',ds,k1,k2,k3,k4,k5⟩:=run_storeVar (P:=P) (t:=t) g1 ((pl.st y).h g2 r0).1 h2;refine ⟨undef,fun _ _=>trivial,.inr ⟨hpr,w',cs,_,.inr ⟨?_,rfl⟩,g1,k3,k4,((pl.st y).h g2 k2).2⟩⟩;simp only [execOp,Instr.storeAt,e1,Instr.sureAddr,Sem.run_bind,Sem.run_pure,Result.andThen_ok,k1]
theorem Zbc {b o:Nat} {pr:Prop} {C C':Ct} {p x:Operand} {τ σ:Ty} [hp:Has Γ p τ] [q:AsPq τ b o pr] [pk:Pick Ω b pr C Ωr] [hx:Has Γ x σ] [T:TDat P t (List α) instList] [oc:OneC σ] (c:CtH C o σ C') :
  OpT P B0 Ωs Ω Γ ⟨none,.store t p x,ty,pos,aft,none⟩ (fun _:Unit=>Ty.any) fun _=>⟨b,pr,C'⟩::Ωr:=
 ZmS (C:=C) rfl fun A a w hk hl=>by
  obtain ⟨hpr,e1⟩:=q.le _ _ _ (Zt (x:=p) (τ:=τ) (op:=.store t p x) (by simp [Op.operands]) hl);have h2:=Zt (x:=x) (τ:=σ) (op:=.store t p x) (by simp [Op.operands]) hl;obtain ⟨cs,g1,g2⟩:=hk ⟨b,pr,C⟩ (List.mem_append_right _ (pk.perm.mem_iff.2 (List.mem_cons_self ..))) hpr;obtain ⟨h3,h4⟩:=oc.h h2;obtain ⟨k1,k2⟩:=c.h g2 h2;have hs:ZU cs o [a.eval x]=cs.set o (a.eval x):=by
   refine ZaH (by rw [Zl (by simp;omega),List.length_set]) fun q hq=>?_
   rw [ZO (by simp;omega)];simp only [List.getD_eq_getElem?_getD,List.length_singleton]
   by_cases hqo:q=o
   ·subst hqo;rw [if_pos (by omega),List.getElem?_set_self k1];simp
   ·rw [if_neg (by omega),List.getElem?_set_ne (Ne.symm hqo)]
  obtain ⟨w',r1,r2,r3,r4⟩:=Zbe (P:=P) g1 (o:=o) (vs:=[a.eval x]) (by simp;omega) (by simp [h4]);refine ⟨undef,fun _ _=>trivial,.inr ⟨hpr,w',cs,_,.inr ⟨?_,rfl⟩,g1,r2,r3,by rw [hs];exact k2⟩⟩;have hsz:(sizeOf t).run P w=.ok 1 w:=T.sz w;simp only [execOp,Instr.storeAt,e1,Instr.sureAddr,Sem.run_bind,Sem.run_pure,Result.andThen_ok,storeVar,hsz,h3];simp [r1]
theorem PubC.pq {C:Ct} {b o:Nat} {pr:Prop} {τ:Ty} {x:α} [q:AsPq τ b o pr] (p:Pl C o α i x upd):PubC C b pr τ (ZlO x):=fun A w v hb h=>by
 obtain ⟨hp,h2⟩:=q.le _ _ _ h;obtain ⟨ha,cs,g1,g2⟩:=hb hp;obtain ⟨e1,e2⟩:=p.rd.h g2;exact ⟨b,o,_,h2,ha,g1.row e1,e2⟩
end ops
theorem ZI {α:Type} {xs:List α} {k:Int} {x:α} {m:Nat} (h:idx xs k=some x) (hm:m=xs.length):0≤k∧k<m:=by rw [hm];exact Zil h
theorem PlS.all {α:Type} {i:Dat α} {xs:List α} {c:Nat}:PlS (Row xs c) 0 α i xs fun ys=>Row (splice xs 0 ys) c:=by
 have:=PlS.row0 (i:=i) (xs:=xs) (c:=c) (n:=xs.length) (Nat.le_refl _)
 rwa [List.take_of_length_le (Nat.le_refl _)] at this
theorem Zd4 {m:Nat} {n:Nat} {l r:Int} {u:Unit} (h:cut n l r=some u) (hm:m=n):0≤l∧l≤r∧r≤m:=by rw [hm];exact ZT h
end Go.Proofs.YtkmojgfenlgchaaGreatDoor.Tr
namespace Go.Proofs.YtkmojgfenlgchaaGreatDoor.Tr
open Go Go.RowKit
section ts
variable {P:Program} {r:Ref} {n:Nat} {ops:Array Oper} {k:Nat} {rest:List Oper} {Γ:Env} {Ω Ωr:List Pe} {Q:Exit→Act→World→Prop} [op:Opens r]
variable {d:Tmp} {ty:TypeId} {pos:String} {aft:Array Edge} {α:Type} {i:Dat α} {t e:TypeId} {bt:Nat}
theorem TS.box {x:Operand} {τ:Ty} {y:α} [T:TDat P t α i] [hx:Has Γ x τ] [hy:ToD τ α i y] (hd:Nat.blt d n=true)
  (hk:∀ b,TS P r n ops rest (k+1) (Γ.set d (Pt b 0)) (⟨b,True,One y⟩::Ω) Q):TS P r n ops (⟨some d,.box t x,ty,pos,aft,none⟩::rest) k Γ Ω Q:=
 Zdw OpT.box hd fun g=>hk g.1
theorem TS.alloc [T:TEl P t α i bt] (hd:Nat.blt d n=true)
  (hk:∀ b,TS P r n ops rest (k+1) (Γ.set d (Pt b 0)) (⟨b,True,One (Dat.z:α)⟩::Ω) Q):TS P r n ops (⟨some d,.alloc t,ty,pos,aft,none⟩::rest) k Γ Ω Q:=
 Zdw (OpT.alloc (by obtain ⟨ti,z,h1,h2,_,_,h3⟩:=T.h;exact ⟨ti,z,h1,h2,h3⟩)) hd fun g=>hk g.1
theorem TS.build [S:TSl P t e] [T:TEl P e α i bt] {m:Nat} {parts:Array (Nat×Operand)} (xs:List Operand) {ys:List α} [h:HasAll Γ xs α i ys]
  (hp:parts=(xs.zipIdx.map fun p=>(p.2,p.1)).toArray) (hn:xs.length=m) (hs:m*Dat.sz α≤16777216) (hd:Nat.blt d n=true)
  (hk:∀ b,TS P r n ops rest (k+1) (Γ.set d (Sl b True 0 ys.length ys.length)) (⟨b,True,Row ys ys.length⟩::Ω) Q):TS P r n ops (⟨some d,.buildSlice t m parts,ty,pos,aft,none⟩::rest) k Γ Ω Q:=
 Zdw (OpT.buildSlice xs hp hn hs) hd fun g=>hk g.1
theorem Zgj [S:TSl P t e] [T:TEl P e α i bt] {x y:Operand} {τ σ:Ty} {m q:Int} {u:Unit} [hx:Has Γ x τ] [kx:AsI τ m] [hy:Has Γ y σ] [kk:AsI σ q] (h0:Zdv bt q=some u) (hm:0≤m∧m≤q) (hd:Nat.blt d n=true)
  (hk:∀ b,TS P r n ops rest (k+1) (Γ.set d (Sl b True 0 m.toNat q.toNat)) (⟨b,True,Row (List.replicate q.toNat (Dat.z (α:=α))) q.toNat⟩::Ω) Q):TS P r n ops (⟨some d,.makeSlice t x y,ty,pos,aft,none⟩::rest) k Γ Ω Q:=
 Zdw (OpT.makeSlice hm.1 hm.2 (Zdz h0).2.1 (Zdz h0).2.2) hd fun g=>hk g.1
theorem TS.app [S:TSl P t e] [T:TEl P e α i bt] {s x:Operand} {σ:Ty} {b m c c':Nat} {pr:Prop} {xs ys:List α} {u:Unit} [hs:Has Γ s (Sl b pr 0 m c')] [sp:Pick Ω b pr (Row xs c) Ωr] [hx:Has Γ x σ] (hl:SrcOf Ω σ α i ys)
  (hr:Zdv bt ((xs.length+ys.length:Nat):Int)=some u) (hc:c'=c) (hm:m=xs.length) (hd:Nat.blt d n=true)
  (hk:∀ b pr c,TS P r n ops rest (k+1) (Γ.set d (Sl b pr 0 (xs++ys).length c)) (⟨b,pr,Row (xs++ys) c⟩::Ωr) Q):TS P r n ops (⟨some d,.call { callee:=.builtin .append,args:=#[s,x],argTypes:=#[t,t] },ty,pos,aft,none⟩::rest) k Γ Ω Q:=
 Zdw (OpT.append hl hc hm (ZlV hr).1 (ZlV hr).2) hd fun g=>hk g.1 g.2.1 g.2.2
theorem TS.u {gd:Option (Nat×Bool)} {o:Op} {τ:Ty} {Ω':List Pe} (h:OpT P r.w.heap.size [] Ω Γ ⟨some d,o,ty,pos,aft,gd⟩ (fun _:Unit=>τ) fun _=>Ω') (hd:Nat.blt d n=true) (hk:TS P r n ops rest (k+1) (Γ.set d τ) Ω' Q):TS P r n ops (⟨some d,o,ty,pos,aft,gd⟩::rest) k Γ Ω Q:=
 Zdw h hd fun _=>hk
theorem Zbj {gd:Option (Nat×Bool)} {o:Op} {τ:Ty} {Ω':List Pe} (h:OpT P r.w.heap.size [] Ω Γ ⟨none,o,ty,pos,aft,gd⟩ (fun _:Unit=>τ) fun _=>Ω') (hk:TS P r n ops rest (k+1) Γ Ω' Q):TS P r n ops (⟨none,o,ty,pos,aft,gd⟩::rest) k Γ Ω Q:=
 TS.tn h fun _=>hk
end ts
section cut
variable {P:Program} {r:Ref} {n:Nat} {Γ:Env} {Ω Ωr:List Pe} {Q:Exit→Act→World→Prop}
def CutQ {σ ν:Type} (r:Ref) (n:Nat) (p:σ→Prop) (Δ:σ→ν→Env) (J:σ→ν→List Pe) (Q:Exit→Act→World→Prop):Exit→Act→World→Prop
 | .normal,a,w=>∃ s m,p s∧Stt r n (Δ s m) (J s m) a w
 | e,a,w=>Q e a w
theorem Zn {σ ν:Type} {c:Code} (p:σ→Prop) (Δ:σ→ν→Env) (J:σ→ν→List Pe) (h:TC P r n Γ Ω c (CutQ r n p Δ J Q)) (k:∀ s m,p s→TE r n (Δ s m) (J s m) Q .normal):TC P r n Γ Ω c Q:=fun a w hs=>wpIn_mono (h a w hs) fun e a' w' hq=>by
 cases e with
 | normal=>obtain ⟨s,m,h1,h2⟩:=hq;exact k s m h1 a' w' h2
 | _=>exact hq
theorem Zj {σ ν:Type} {p:σ→Prop} {Δ:σ→ν→Env} {J:σ→ν→List Pe} (s:σ) (m:ν) (hp:p s) (h:Γ.le (Δ s m)) (j:Less Ω (J s m)):TE r n Γ Ω (CutQ r n p Δ J Q) .normal:=
 fun _ _ hs=>⟨s,m,hp,(hs.le h).less j⟩
theorem TE.cut_exit {σ ν:Type} {p:σ→Prop} {Δ:σ→ν→Env} {J:σ→ν→List Pe} {id:Nat} (h:TE r n Γ Ω Q (.exit id)):TE r n Γ Ω (CutQ r n p Δ J Q) (.exit id):=h
theorem Zs {σ ν:Type} {p:σ→Prop} {Δ:σ→ν→Env} {J:σ→ν→List Pe} (h:TE r n Γ Ω Q .ret):TE r n Γ Ω (CutQ r n p Δ J Q) .ret:=h
theorem ZB {c:Code} (b:Nat) {pr:Prop} {C C':Ct} [pk:Pick Ω b pr C Ωr] (h:C=C') (k:TC P r n Γ (⟨b,pr,C'⟩::Ωr) c Q):TC P r n Γ Ω c Q:=fun a w hs=>k a w (by subst h;exact hs.less (Less.perm pk.perm))
theorem Zaf {e:Exit} (b:Nat) {pr:Prop} {C C':Ct} [pk:Pick Ω b pr C Ωr] (h:C=C') (k:TE r n Γ (⟨b,pr,C'⟩::Ωr) Q e):TE r n Γ Ω Q e:=fun a w hs=>k a w (by subst h;exact hs.less (Less.perm pk.perm))
end cut
theorem Zah {α:Type} {i:Dat α} {x y:α} (h:some x=some y):One x=One y:=by injection h with h;rw [h]
theorem Zac {α:Type} {i:Dat α} {x y:List α} {c:Nat} (h:some x=some y):Row x c=Row y c:=by injection h with h;rw [h]
theorem Zc2 {C C':Ct} {o:Nat} {τ:Ty} (h:C=C'):C.mix o τ=C'.mix o τ:=by rw [h]
theorem nm_cv {τ:Ty} {α:Type} {i:Dat α} {x y:α} [k:ToD τ α i x] (h:some x=some y):τ.le (D y):=by injection h with h;rw [← h];exact k.le
theorem ZbD {α β γ:Type} {o:α⊕β} {s:α} {f:α→Option γ} {g:β→Option γ} {r:γ} (F:o=.inl s) (h:elS o f g=some r):f s=some r:=by subst F;exact h
theorem ZaM {α β γ:Type} {o:α⊕β} {q:β} {f:α→Option γ} {g:β→Option γ} {r:γ} (F:.inr q=o) (h:elS o f g=some r):g q=some r:=by subst F;exact h
instance negInt {n:Nat} [h:BoolIs (Nat.ble n 9223372036854775808) true]:Ft (ZeD (-(no_index (OfNat.ofNat n)))):=⟨by
 have:=Nat.le_of_ble_eq_true h.h;show ZeD (-(n:Int));unfold ZeD;omega⟩
instance Has.orL {Θ Γ:Env} {x:Operand} {τ:Ty} [h:Has Θ x τ]:Has (Env.or Θ Γ) x τ:=⟨fun a A w hl=>h.le a A w fun t e=>(hl t e).1⟩
instance (priority:=100) Has.orR {Θ Γ:Env} {x:Operand} {τ:Ty} [h:Has Γ x τ]:Has (Env.or Θ Γ) x τ:=⟨fun a A w hl=>h.le a A w fun t e=>(hl t e).2⟩
theorem nF {b:Bool} (h:b=false):(!b)=true:=by rw [h];rfl
theorem aT {x y:Bool} (h:x=true) (k:y=true):(x&&y)=true:=by rw [h,k];rfl
theorem Ft.l {p q:Prop} (h:Ft (p∧q)):Ft p:=⟨h.h.1⟩
theorem Ft.r {p q:Prop} (h:Ft (p∧q)):Ft q:=⟨h.h.2⟩
instance {p:Prop} {b want d:Bool} {τ:Ty} [h:Ft p] [k:AsB τ d]:AsBC (ZgN (p∧b=want) τ) b want d:=⟨fun e A w v x=>k.le A w v (x.1 ⟨h.h,e⟩)⟩
theorem toD {τ:Ty} {α:Type} {i:Dat α} {x:α} [k:ToD τ α i x] {A:Nat→Prop} {w:World} {v:Value} (h:τ.p A w v):(D x).p A w v:=k.le _ _ _ h
theorem Zhn {A:Nat→Prop} {w:World} {α:Type} {i:Dat α} {xs:List α} {e:Ending} {w':World} (hA:∀ k,w.heap.size≤k→A k)
  (h:Zld A w [] (fun g:Nat×Prop×Nat=>Sl g.1 g.2.1 0 xs.length g.2.2) (fun g=>[⟨g.1,g.2.1,Row xs g.2.2⟩]) e w'):Ret A w (D xs) e w':=by
 obtain ⟨v,⟨b,pr,c⟩,h1,h2⟩:=h;refine ⟨v,h1,⟨h2.st.os,h2.st.tape,h2.st.output,h2.st.size,fun k hk=>h2.st.old k hk fun ⟨e,he,_⟩=>absurd he (by simp),fun k hk=>h2.st.cells k hk fun ⟨e,he,_⟩=>absurd he (by simp)⟩,?_⟩;refine ZG (C:=Row xs c) (b:=b) (pr:=pr) (τ:=Sl b pr 0 xs.length c) PlS.all rfl A w' v (fun hp=>?_) (Ty.keep _ (Keep.mono fun k _ hk=>(ZE.1 hk).1) h2.ty);obtain ⟨cs,g1,g2⟩:=h2.ks ⟨b,pr,Row xs c⟩ (by simp) hp;refine ⟨?_,cs,g1,(Row xs c).keep (Keep.mono fun k _ hk=>(ZE.1 hk).1) g2⟩;rcases h2.nw b ⟨_,List.mem_singleton.2 rfl,hp,rfl⟩ with ⟨e,he,_⟩ | h
 ·exact absurd he (by simp)
 ·exact hA b h
theorem CtH.nil {C:Ct} {A:Nat→Prop} {w:World} {cs:List Value} {o b:Nat} (hc:C.p A w cs) (h:cs[o]?=some (.slice none 0 0)):(C.mix o (Sl b False 0 0 0)).p A w cs:=by
 obtain ⟨h1,h2⟩:=List.getElem?_eq_some_iff.1 h;exact ⟨cs,.slice none 0 0,hc,h1,.inr ⟨fun h=>h,rfl,rfl,rfl⟩,by rw [← h2];simp⟩
theorem Zc {Ω Ωr Δ:List Pe} {b:Nat} {pr:Prop} {C C':Ct} [h:Pick Ω b pr C Ωr] (e:C=C') (k:Less Ωr Δ):Less Ω (⟨b,pr,C'⟩::Δ):=(Less.perm h.perm).trans (e▸Less.cons k)
end Go.Proofs.YtkmojgfenlgchaaGreatDoor.Tr
namespace Go.Proofs.YtkmojgfenlgchaaGreatDoor.Tr
open Go Go.RowKit
theorem ZaC {α:Type} {i:Dat α} {xs:List α} {c:Nat} {k:Int} {x:α} (h:idx xs k=some x):Pl (Row xs c) (0+k.toNat*Dat.sz α) α i x fun y=>Row (xs.set k.toNat y) c:=by
 rw [Nat.zero_add];exact Pl.row h
theorem Zen {α:Type} {x y:List α} {m:Nat} (h:some x=some y) (hn:m=x.length):m=y.length:=by injection h with h;rw [← h];exact hn
theorem ZaP {α:Type} {b o c m:Nat} {pr:Prop} {x y:List α} (h:some x=some y) (hn:m=x.length):(Sl b pr o m c).le (Sl b pr o y.length c):=by rw [Zen h hn];exact Ty.le.refl _
theorem Zft {C:Ct} {o b q m n c:Nat} {pr:Prop} (e:m=n):C.mix o (Sl b pr q m c)=C.mix o (Sl b pr q n c):=by rw [e]
theorem Zeo {α β γ:Type} {a:α} {b:β} {f:α→β→Option γ} {r:γ} (h:el2 (a,b) f=some r):f a b=some r:=h
theorem el3_mk {α β γ δ:Type} {a:α} {b:β} {c:γ} {f:α→β→γ→Option δ} {r:δ} (h:el3 (a,b,c) f=some r):f a b c=some r:=h
theorem el4_mk {α β γ δ ε:Type} {a:α} {b:β} {c:γ} {d:δ} {f:α→β→γ→δ→Option ε} {r:ε} (h:el4 (a,b,c,d) f=some r):f a b c d=some r:=h
theorem Zh3 {n:Nat} {l r:Int} {u:Unit} (h:cut n l r=some u):l.toNat+(r-l).toNat≤n:=by have:=ZT h;omega
theorem Zk5 {n:Nat} {r:Int} {u:Unit} (h:cut n 0 r=some u):r.toNat≤n:=by have:=ZT h;omega
theorem Zg0 {α:Type} {xs:List α} {n:Nat} {l r:Int} {u:Unit} (h:cut n l r=some u) (hn:xs.length=n):(r-l).toNat=((xs.drop l.toNat).take (r-l).toNat).length:=by have:=ZT h;simp;omega
theorem cut_leF {α:Type} {xs:List α} {m:Nat} {l:Int} {u:Unit} (h:cut xs.length l xs.length=some u) (hm:m=xs.length):l.toNat+((m:Int)-l).toNat≤xs.length:=by have:=ZT h;omega
theorem cut_lenF {α:Type} {xs:List α} {m:Nat} {l:Int} {u:Unit} (h:cut xs.length l xs.length=some u) (hm:m=xs.length):((m:Int)-l).toNat=((xs.drop l.toNat).take ((m:Int)-l).toNat).length:=by have:=ZT h;simp;omega
theorem ZgK {α:Type} {i:Dat α} {xs:List α} {c k n:Nat} (h:k+n≤xs.length):PlS (Row xs c) (0+k*Dat.sz α) α i ((xs.drop k).take n) fun ys=>Row (splice xs k ys) c:=by
 rw [Nat.zero_add];exact PlS.row h
theorem ZeK {α:Type} {n:Nat} {v:Vec α n} {k:Nat}:v.put k []=v:=by
 unfold Vec.put splice
 split
 ·cases v;simp
 ·rfl
theorem slD {b c m n:Nat} {pr:Prop} {A:Nat→Prop} {w:World} {v:Value} (e:m=n) (h:(Sl b pr 0 m c).p A w v):(Sl b pr 0 n c).p A w v:=e▸h
theorem VC_le {C C':Ct} (h:∀ A w cs,C.p A w cs→C'.p A w cs):(VC C).le (VC C'):=fun A w v ⟨cs,h1,h2⟩=>⟨cs,h A w cs h1,h2⟩
theorem ZhE {α:Type} {i:Dat α} {C C':Ct} {o b m n c:Nat} {pr:Prop} (hs:CtSet C o (List α) instList [] C') (e:m=n):∀ A w cs,(C.mix o (Sl b pr 0 m c)).p A w cs→(C'.mix o (Sl b pr 0 n c)).p A w cs:=fun A w cs ⟨cs0,v,h1,h2,h3,h4⟩=>by
 subst e;have hz:Dat.rd A w [.slice none 0 0] ([]:List α):=⟨none,0,rfl,Nat.le_refl _,by unfold maxLen;omega,by unfold ZjT;simp,fun i hi=>absurd hi (by simp)⟩;obtain ⟨-,g2⟩:=hs.h h1 hz;have hss:ZU cs0 o [Value.slice none 0 0]=cs0.set o (.slice none 0 0):=by
  refine ZaH (by rw [Zl (by simp;omega),List.length_set]) fun q hq=>?_
  rw [ZO (by simp;omega)];simp only [List.getD_eq_getElem?_getD,List.length_singleton]
  by_cases hqo:q=o
  ·subst hqo;rw [if_pos (by omega),List.getElem?_set_self h2];simp
  ·rw [if_neg (by omega),List.getElem?_set_ne (Ne.symm hqo)]
 rw [hss] at g2;exact ⟨_,v,g2,by simpa using h2,h3,by rw [h4];simp⟩
section ops
variable {P:Program} {B0:Nat} {A:Nat→Prop} {Ω:List Pe} {Γ:Env} {dst:Option Tmp} {ty:TypeId} {pos:String} {aft:Array Edge} {gd:Option (Nat×Bool)}
def shl8 (m:UInt8) (s:Int):UInt8:=UInt8.ofNat (m.toNat*2 ^ s.toNat)
def shr8 (m:UInt8) (s:Int):UInt8:=UInt8.ofNat (m.toNat/2 ^ s.toNat)
def shl16 (m:UInt16) (s:Int):UInt16:=UInt16.ofNat (m.toNat*2 ^ s.toNat)
def shr16 (m:UInt16) (s:Int):UInt16:=UInt16.ofNat (m.toNat/2 ^ s.toNat)
def shr32 (m:UInt32) (s:Int):UInt32:=UInt32.ofNat (m.toNat/2 ^ s.toNat)
def shl64 (m:UInt64) (s:Int):UInt64:=UInt64.ofNat (m.toNat*2 ^ s.toNat)
def shr64 (m:UInt64) (s:Int):UInt64:=UInt64.ofNat (m.toNat/2 ^ s.toNat)
section
variable {x y:Operand} {τ σ:Ty} {t u:TypeId} {s:Int} [hsx:Has Γ x τ] [hsy:Has Γ y σ] [hy:AsCnt σ s]
include hsx hsy hy
theorem OpD.shl8 {m:UInt8} [hx:AsU8 τ m] (h:0≤s):OpY P B0 A Ω Γ ⟨dst,.binOp .shl t x y u,ty,pos,aft,gd⟩ (U8 (Tr.shl8 m s)):=OpY.shl8 h
theorem OpD.shr8 {m:UInt8} [hx:AsU8 τ m] (h:0≤s):OpY P B0 A Ω Γ ⟨dst,.binOp .shr t x y u,ty,pos,aft,gd⟩ (U8 (Tr.shr8 m s)):=OpY.shr8 h
theorem OpD.shl16 {m:UInt16} [hx:AsU16 τ m] (h:0≤s):OpY P B0 A Ω Γ ⟨dst,.binOp .shl t x y u,ty,pos,aft,gd⟩ (U16 (Tr.shl16 m s)):=OpY.shl16 h
theorem OpD.shr16 {m:UInt16} [hx:AsU16 τ m] (h:0≤s):OpY P B0 A Ω Γ ⟨dst,.binOp .shr t x y u,ty,pos,aft,gd⟩ (U16 (Tr.shr16 m s)):=OpY.shr16 h
theorem OpD.shr32 {m:UInt32} [hx:AsU32 τ m] (h:0≤s):OpY P B0 A Ω Γ ⟨dst,.binOp .shr t x y u,ty,pos,aft,gd⟩ (U32 (Tr.shr32 m s)):=OpY.shr32 h
theorem OpD.shl64 {m:UInt64} [hx:AsU64 τ m] (h:0≤s):OpY P B0 A Ω Γ ⟨dst,.binOp .shl t x y u,ty,pos,aft,gd⟩ (U64 (Tr.shl64 m s)):=OpY.shl64 h
theorem OpD.shr64 {m:UInt64} [hx:AsU64 τ m] (h:0≤s):OpY P B0 A Ω Γ ⟨dst,.binOp .shr t x y u,ty,pos,aft,gd⟩ (U64 (Tr.shr64 m s)):=OpY.shr64 h
end
end ops
section s3
variable {P:Program} {B0:Nat} {A:Nat→Prop} {Ω:List Pe} {Γ:Env} {dst:Option Tmp} {ty:TypeId} {pos:String} {aft:Array Edge} {gd:Option (Nat×Bool)}
variable {α:Type} {i:Dat α} {t e:TypeId} {x y z q:Operand} {τ σ ρ υ:Ty} {b o m:Nat} {pr:Prop} {l r k:Int} {u v:Unit} {xs:List α}
theorem OpY.slice3Sv [S:TSl P t e] [T:TDat P e α i] [hx:Has Γ x τ] [ka:AsSv τ b pr o m] [Has Γ y σ] [hy:AsI σ l] [Has Γ z ρ] [hz:AsI ρ r] [Has Γ q υ] [hq:AsI υ k] (h:cut k.toNat l r=some u) (h':cut m 0 k=some v) :
  OpY P B0 A Ω Γ ⟨dst,.slice t x (some y) (some z) (some q),ty,pos,aft,gd⟩ Ty.any:=
 OpY.val fun a w hl=>by
  have h2:=ZT h;have h3:=ZT h';have h:=ka.le _ _ _ (Zt (x:=x) (τ:=τ) (op:=.slice t x (some y) (some z) (some q)) (by simp [Op.operands]) hl);have ey:a.eval y=.int .i64 l:=hy.le _ _ _ (Zt (x:=y) (τ:=σ) (op:=.slice t x (some y) (some z) (some q)) (by simp [Op.operands]) hl);have ez:a.eval z=.int .i64 r:=hz.le _ _ _ (Zt (x:=z) (τ:=ρ) (op:=.slice t x (some y) (some z) (some q)) (by simp [Op.operands]) hl);have eq:a.eval q=.int .i64 k:=hq.le _ _ _ (Zt (x:=q) (τ:=υ) (op:=.slice t x (some y) (some z) (some q)) (by simp [Op.operands]) hl);rcases h with ⟨hp,o',c,ex,hmc,ho⟩ | ⟨hp,rfl,ex⟩
  ·refine ⟨.slice (if k.toNat=l.toNat then some ⟨b,o',none⟩ else some ⟨b,o' + l.toNat*Dat.sz α,none⟩) (r.toNat-l.toNat) (k.toNat-l.toNat),?_,trivial⟩;have c0:0≤k∧k≤(c:Int):=by omega
   have c1:0≤r∧r≤(k.toNat:Int):=by omega
   have c2:0≤l∧l≤(r.toNat:Int):=by omega
   simp only [execOp,ex,ey,ez,eq,Instr.sliceAt,Instr.slice,Option.map_some,Sem.run_bind,run_underlying S.h,Result.andThen_ok,Instr.sliceBounds,Instr.sliceBound,asIntOf,Sem.run_pure,c0,c1,c2,and_self,if_true,T.sz,Za0]
  ·have hk:k=0:=by omega
   have hr:r=0:=by omega
   have hl0:l=0:=by omega
   subst hk;subst hr;subst hl0;refine ⟨.slice none 0 0,?_,trivial⟩;simp [execOp,ex,ey,ez,eq,Instr.sliceAt,Instr.slice,run_underlying S.h,Instr.sliceBounds,Instr.sliceBound,asIntOf,T.sz]
end s3
section hasb
instance (priority:=800) {b:Nat} {pr:Prop} {C:Ct} {Ω Ω' Ωr:List Pe} [h:Pick Ω' b pr C Ωr]:Pick (Ω++Ω') b pr C (Ω++Ωr):=⟨(h.perm.append_left Ω).trans List.perm_middle⟩
instance (priority:=900) {b:Nat} {pr:Prop} {C:Ct} {Ω Ω':List Pe} [h:HasB Ω' b pr C]:HasB (Ω++Ω') b pr C:=⟨List.mem_append_right _ h.h⟩
instance (priority:=800) {b:Nat} {pr:Prop} {C:Ct} {Ω Ω':List Pe} [h:HasB Ω b pr C]:HasB (Ω++Ω') b pr C:=⟨List.mem_append_left _ h.h⟩
end hasb
section within
variable {P:Program} {B:Nat} {Ωs Ω Ωr:List Pe} {Γ:Env} {t ty e:TypeId} {d:Tmp} {pos:String} {aft:Array Edge} {α:Type} {i:Dat α} {bt:Nat}
theorem run_appendIn [S:TSl P t e] [T:TEl P e α i bt] {A:Nat→Prop} {w:World} {b m c:Nat} {cs:List Value} {u:Value} {xs ys:List α} {ty:TypeId} (hblk:Blk w b cs) (hrow:(Row xs c).p A w cs) (hu:Src A w u ys) (hm:m+ys.length≤xs.length) :
  ∃ w',(Builtin.append_ #[t,t] ty #[.slice (some ⟨b,0,none⟩) m c,u]).run P w=.ok (.slice (some ⟨b,0,none⟩) (m+ys.length) c) w'∧((ys=[]∧w'=w)∨
   ∃ news,Blk w' b (ZU cs (m*Dat.sz α) news)∧Mut (fun k=>k=b) w w'∧news.length=ys.length*Dat.sz α∧ZaT A w news ys):=by
 obtain ⟨ti,z,hi1,hi2,hi3,hi4,hi5⟩:=T.h;obtain ⟨ad,c2,rfl,h4⟩:=hu;obtain ⟨hcl,hle,hcm,hmx,hel⟩:=hrow;have hroom:m+ys.length≤c:=by omega
 have hmc:m≤c:=by omega
 rcases Nat.eq_zero_or_pos ys.length with h0 | h0
 ·have hy0:ys=[]:=List.eq_nil_of_length_eq_zero h0;subst hy0;refine ⟨w,?_,.inl ⟨rfl,rfl⟩⟩;have hf:(Builtin.firstCells ti.size 0 (.slice ad 0 c2)).run P w=.ok #[] w:=by
   cases ad <;> simp [Builtin.firstCells,loadCells,loadCellsFrom]
  simp [Builtin.append_,run_underlying S.h,sizeOf,typeInfo,hi1,Builtin.lenOf,hf,hmc,storeCells]
 obtain ⟨b2,off,news,rfl,hl,hr,he⟩:=h4 h0;have hnews:∀ j v,news[j]?=some v→w.cell? (Addr.add ⟨b2,off,none⟩ j)=some v:=fun j v hj=>by
  obtain ⟨h5,rfl⟩:=List.getElem?_eq_some_iff.1 hj;rw [Za0,hr j h5,List.getD_eq_getElem?_getD,List.getElem?_eq_getElem h5];rfl
 have hfit:m*Dat.sz α+news.length≤cs.length:=by rw [hl,hcl,← Nat.add_mul];exact Nat.mul_le_mul_right _ hroom
 obtain ⟨w',r1,r2,r3,r4⟩:=Zbe (P:=P) hblk hfit (he.scal hl);have hf:=run_firstCells_some (P:=P) w ti.size ys.length ⟨b2,off,none⟩ ys.length c2 news (by rw [hl,hi3]) hnews;refine ⟨w',?_,.inr ⟨news,r2,r3,hl,he⟩⟩;rw [hi3] at hf;simp [Builtin.append_,run_underlying S.h,sizeOf,typeInfo,hi1,hi3,Builtin.lenOf,hroom,hf,Za0,r1]
theorem OpT.appIn [S:TSl P t e] [T:TEl P e α i bt] {s x:Operand} {σ:Ty} {b m c c':Nat} {pr:Prop} {xs ys:List α} [hs:Has Γ s (Sl b pr 0 m c')] [pk:Pick Ω b pr (Row xs c) Ωr] [hx:Has Γ x σ] (hl:SrcOf (Ωs++Ω) σ α i ys)
  (hp:pr) (hc:c'=c) (hm:m+ys.length≤xs.length) :
  OpT P B Ωs Ω Γ ⟨some d,.call { callee:=.builtin .append,args:=#[s,x],argTypes:=#[t,t] },ty,pos,aft,none⟩ (fun _:Unit=>Sl b pr 0 (m+ys.length) c') fun _=>⟨b,pr,Row (splice xs m ys) c⟩::Ωr:=by
 subst hc;exact ZmS (C:=Row xs c') rfl fun A a w hk hlv=>by
  have h1:=hs.le a _ w fun t ht=>hlv t (by simp [Op.operands,Call.operands,← ht])
  have h2:=hl.h hk (hx.le a _ w fun t ht=>hlv t (by simp [Op.operands,Call.operands,← ht]));rcases h1 with ⟨-,h0,h1⟩ | ⟨hn,-⟩
  ·obtain ⟨cs,g1,g2⟩:=hk ⟨b,pr,Row xs c'⟩ (List.mem_append_right _ (pk.perm.mem_iff.2 (List.mem_cons_self ..))) hp;obtain ⟨w',r1,r2⟩:=run_appendIn (P:=P) (t:=t) (e:=e) (bt:=bt) (ty:=ty) (m:=m) g1 g2 h2 hm;rw [← h1] at r1;have hle:xs.length≤c':=g2.2.1;refine ⟨_,fun _ _=>.inl ⟨hp,⟨by omega,h0.2⟩,rfl⟩,?_⟩;rcases r2 with ⟨hy,rfl⟩ | ⟨news,r2,r3,r4,r5⟩
   ·left
    refine ⟨.inl (app_run r1),fun A cs _ hc=>?_⟩;subst hy;have:splice xs m ([]:List α)=xs:=by simp [splice]
    rw [this];exact hc
   ·right
    refine ⟨hp,w',cs,_,.inl (app_run r1),g1,r2,r3,?_⟩;exact Row.splice g2 r5 r4 (by omega) (by omega) (by have:=g2.2.2.2.1;omega)
  ·exact absurd hp hn
theorem ZmP {B0:Nat} {A:Nat→Prop} {dst:Option Tmp} {gd:Option (Nat×Bool)} [S:TSl P t e] [T:TDat P e α i] {x y z:Operand} {σ ρ:Ty} {b m c:Nat} {pr:Prop} {l r:Int} {xs:List α} [hx:Has Γ x (Sl b pr 0 m c)] [hb:HasB Ω b pr (Row xs c)] [Has Γ y σ] [hy:AsI σ l] [Has Γ z ρ] [hz:AsI ρ r] (hpr:pr) (h0:0≤l) (h1:l≤r) (h2:r≤xs.length) :
  OpY P B0 A Ω Γ ⟨dst,.slice t x (some y) (some z) none,ty,pos,aft,gd⟩ (Sv b pr (0+l.toNat*Dat.sz α) (r-l).toNat):=fun a w hB hA hp hl=>by
 have hcs:=hp _ hb.h hpr;obtain ⟨cs,g1,g2⟩:=hcs;have hle:xs.length≤c:=g2.2.1;have h:=Zt (x:=x) (τ:=Sl b pr 0 m c) (op:=.slice t x (some y) (some z) none) (by simp [Op.operands]) hl;have ey:a.eval y=.int .i64 l:=hy.le _ _ _ (Zt (x:=y) (τ:=σ) (op:=.slice t x (some y) (some z) none) (by simp [Op.operands]) hl);have ez:a.eval z=.int .i64 r:=hz.le _ _ _ (Zt (x:=z) (τ:=ρ) (op:=.slice t x (some y) (some z) none) (by simp [Op.operands]) hl);rcases h with ⟨-,hmc,ex⟩ | ⟨hn,-⟩
 ·have c1:0≤r∧r≤(c:Int):=by omega
  have c2:0≤l∧l≤(r.toNat:Int):=by omega
  have hv:(Sv b pr (0+l.toNat*Dat.sz α) (r-l).toNat).p A w (.slice (if c=l.toNat then some ⟨b,0,none⟩ else some ⟨b,0+l.toNat*Dat.sz α,none⟩) (r.toNat-l.toNat) (c-l.toNat)):=Sv.cut (α:=α) (m:=c) hpr ⟨Nat.le_refl _,hmc.2⟩ (fun _=>rfl) h0 h1 c1.2 rfl;simp only [execOp,ex,ey,ez,Instr.sliceAt,Instr.slice,Option.map_some,Option.map_none,Sem.run_bind,run_underlying S.h,Result.andThen_ok,Instr.sliceBounds,Instr.sliceBound,asIntOf,Sem.run_pure,c1,c2,and_self,if_true,T.sz,Za0];exact ⟨Grow.refl _ _,hv⟩
 ·exact absurd hpr hn
theorem Less.ct {b:Nat} {pr:Prop} {C C':Ct} (h:∀ A w cs,C.p A w cs→C'.p A w cs):Less (⟨b,pr,C⟩::Ω) (⟨b,pr,C'⟩::Ω):=
 ⟨fun k ⟨e,he,h1,h2⟩=>by
  rcases List.mem_cons.1 he with rfl | he
  ·exact ⟨_,List.mem_cons_self ..,h1,h2⟩
  ·exact ⟨e,List.mem_cons_of_mem _ he,h1,h2⟩,fun hap=>by
  obtain ⟨h1,h2⟩:=List.pairwise_cons.1 hap;exact List.pairwise_cons.2 ⟨fun f hf a1 a2=>h1 f hf a1 a2,h2⟩,fun A w hk e he h1=>by
  rcases List.mem_cons.1 he with rfl | he
  ·obtain ⟨cs,g1,g2⟩:=hk _ (List.mem_cons_self ..) h1;exact ⟨cs,g1,h _ _ _ g2⟩
  ·exact hk e (List.mem_cons_of_mem _ he) h1⟩
theorem ZjQ {Δ:List Pe} {b c:Nat} {pr:Prop} {xs ys:List α} (m:Nat) [h:Pick Ω b pr (Row xs c) Ωr] (hm:m≤xs.length) (he:xs.take m=ys) (k:Less Ωr Δ):Less Ω (⟨b,pr,Row ys c⟩::Δ):=by
 subst he;exact (Less.perm h.perm).trans ((Less.cons k).trans (Less.ct fun A w cs hc=>Row.take hc hm))
theorem cut_of {n:Nat} {l r:Int} (h1:0≤l) (h2:l≤r) (h3:r≤n):cut n l r=some ():=by unfold cut;rw [if_pos ⟨h1,h2,h3⟩]
theorem ZmM {xs:List α} {c k:Nat} (h:k≤xs.length):PlS (Row xs c) (0+k*Dat.sz α) α i (xs.drop k) fun ys=>Row (splice xs k ys) c:=by
 have:=ZgK (i:=i) (c:=c) (xs:=xs) (k:=k) (n:=xs.length-k) (by omega)
 rwa [List.take_of_length_le (by simp)] at this
omit i in
theorem del_take {S zs:List α} {a j m:Nat} (hk:a≤S.length) (hm:m=a+(S.drop j).length):(splice (splice S a (S.drop j)) (Int.toNat ((m:Nat):Int)) zs).take m=S.take a++S.drop j:=by
 have h1:(splice S a (S.drop j)).take m=S.take a++S.drop j:=splice_take hm hk;have h2:((splice S a (S.drop j)).take m).length=m:=by rw [h1,hm];simp;omega
 show ((splice S a (S.drop j)).take (Int.toNat ((m:Nat):Int))++zs++_).take m=_;rw [Int.toNat_natCast,List.append_assoc,List.take_left' h2,h1]
end within
section al
variable {P:Program} {B:Nat} {Ωs Ω:List Pe} {Γ:Env} {t ty:TypeId} {d:Tmp} {pos:String} {aft:Array Edge} {α:Type} {i:Dat α} {bt:Nat}
theorem ZcD [T:TEl P t α i bt]:OpT P B Ωs Ω Γ ⟨some d,.alloc t,ty,pos,aft,none⟩ (fun g:Nat×Unit=>Pt g.1 0) fun g=>⟨g.1,True,One (Dat.z:α)⟩::Ω:=
 OpT.alloc (by obtain ⟨ti,z,h1,h2,_,_,h3⟩:=T.h;exact ⟨ti,z,h1,h2,h3⟩)
end al
section pc
variable {P:Program} {t u:TypeId} {Γ:Env} {f off:Nat} {β:Type} {j:Dat β}
theorem PartsC.d {p:Operand} {ps:List (Nat×Operand)} {τ:Ty} {y:β} {bt:Nat} {C C1 C':Ct} [F:TFld P t f u off] [T:TEl P u β j bt] [hp:Has Γ p τ] [hy:ToD τ β j y] (c:CtSet C off β j y C1) (r:PartsC P t Γ ps C1 C') :
  PartsC P t Γ ((f,p)::ps) C C':=by haveI:=c;haveI:=r;infer_instance
end pc
theorem TRw_mono {P:Program} {B:Nat} {Ωs:List Pe} {ops:Array Oper} {n:Nat} {ms:List Nat} {K K':Env→Fam→Prop} (hk:∀ Γ F,K Γ F→K' Γ F):∀ (l:List Oper) (k:Nat) (Γ:Env) (F:Fam),TRw P B Ωs ops n ms k l Γ F K→TRw P B Ωs ops n ms k l Γ F K'
 | [],_,_,_,h=>hk _ _ h
 | o::l,k,_,_,h=>by
  obtain ⟨h1,h2⟩:=h;refine ⟨h1,?_⟩;rcases h2 with ⟨h2,h3,τ,h4,h5⟩ | ⟨h2,μ,τ,Ω',h4,h5⟩
  ·exact .inl ⟨h2,h3,τ,h4,TRw_mono hk l _ _ _ h5⟩
  ·exact .inr ⟨h2,μ,τ,Ω',h4,TRw_mono hk l _ _ _ h5⟩
section drawn
variable {P:Program} {r:Ref} {n:Nat} {Γ:Env} {Ω Ωs Ωt:List Pe} {Q:Exit→Act→World→Prop} [op:Opens r]
theorem Zff {id:Nat} {l:List Oper} (ms:List Nat) (bs:List Nat) [hs:Split Ω bs Ωs Ωt] (hm:P.follows .mixedOrders=true) (hB:Region.lexB .any l.toArray=true) (hc:Zix .any l.toArray ms=true)
  (h:TRw P r.w.heap.size Ωs l.toArray n ms 0 l Γ (Fam.one Ωt) fun Γ' F'=>∀ g,TE r n (Env.or (F'.Θ g) Γ') (Ωs++F'.Ω g) Q .normal):TC P r n Γ Ω (.region id l.toArray true) Q:=
 Zla ms Ωs Ωt (Less.perm hs.perm) hm hB hc h
theorem ZaW {id:Nat} {l:List Oper} {y:Code} (ms:List Nat) (bs:List Nat) [hs:Split Ω bs Ωs Ωt] (hm:P.follows .mixedOrders=true) (hB:Region.lexB .any l.toArray=true) (hc:Zix .any l.toArray ms=true)
  (h:TRw P r.w.heap.size Ωs l.toArray n ms 0 l Γ (Fam.one Ωt) fun Γ' F'=>∀ g,TC P r n (Env.or (F'.Θ g) Γ') (Ωs++F'.Ω g) y Q):TC P r n Γ Ω (.seq (.region id l.toArray true) y) Q:=
 Zau (Zla ms Ωs Ωt (Less.perm hs.perm) hm hB hc h)
theorem Less.left {Ω Ω':List Pe}:Less (Ω++Ω') Ω:=⟨fun k hk=>ZP.2 (.inl hk),fun hp=>(List.pairwise_append.1 hp).1,fun A w hk=>(Zbn.1 hk).1⟩
theorem Env.or_le {Θ Γ:Env}:(Env.or Θ Γ).le Γ:=fun t A w v h=>h.2
theorem TC.regD0 {id:Nat} {l:List Oper} (hm:P.follows .mixedOrders=true) (hB:Region.lexB .any l.toArray=true)
  (h:TRw P r.w.heap.size Ω l.toArray n [] 0 l Γ (Fam.one []) fun Γ' _=>TE r n Γ' Ω Q .normal):TC P r n Γ Ω (.region id l.toArray true) Q:=
 Zla [] Ω [] (by rw [List.append_nil];exact Less.refl _) hm hB rfl (TRw_mono (fun Γ' F' hk g a w hs=>hk a w ((hs.le Env.or_le).less Less.left)) _ _ _ _ h)
theorem TC.seqD0 {id:Nat} {l:List Oper} {y:Code} (hm:P.follows .mixedOrders=true) (hB:Region.lexB .any l.toArray=true)
  (h:TRw P r.w.heap.size Ω l.toArray n [] 0 l Γ (Fam.one []) fun Γ' _=>TC P r n Γ' Ω y Q):TC P r n Γ Ω (.seq (.region id l.toArray true) y) Q:=
 Zau (TC.regD0 hm hB h)
variable {B:Nat} {Ωr:List Pe} {α:Type} {i:Dat α} {t e:TypeId} {bt:Nat} {d:Tmp} {ty:TypeId} {pos:String} {aft:Array Edge}
theorem OpT.appR [S:TSl P t e] [T:TEl P e α i bt] {s x:Operand} {σ:Ty} {b m c c':Nat} {pr:Prop} {xs ys:List α} {u:Unit} [hs:Has Γ s (Sl b pr 0 m c')] [sp:Pick Ω b pr (Row xs c) Ωr] [hx:Has Γ x σ] (hl:SrcOf (Ωs++Ω) σ α i ys)
  (hr:Zdv bt ((xs.length+ys.length:Nat):Int)=some u) (hc:c'=c) (hm:m=xs.length) :
  OpT P B Ωs Ω Γ ⟨some d,.call { callee:=.builtin .append,args:=#[s,x],argTypes:=#[t,t] },ty,pos,aft,none⟩ (fun g:Nat×Prop×Nat=>Sl g.1 g.2.1 0 (xs++ys).length g.2.2) fun g=>⟨g.1,g.2.1,Row (xs++ys) g.2.2⟩::Ωr:=
 OpT.append hl hc hm (ZlV hr).1 (ZlV hr).2
end drawn
end Go.Proofs.YtkmojgfenlgchaaGreatDoor.Tr
namespace Go.Proofs.YtkmojgfenlgchaaGreatDoor.Tr
open Go Go.RowKit
def edgeB (md:Region.Mode) (ops:Array Oper) (i t:Nat):Bool:=(ops[i]?).any fun o=>o.after.toList.any fun e=>Region.binds md e&&decide (e.on=t)
theorem edgeB_spec {md:Region.Mode} {ops:Array Oper} {i t:Nat} (h:edgeB md ops i t=true):∃ o,ops[i]?=some o∧∃ e∈o.after,Region.binds md e=true∧e.on=t:=by
 unfold edgeB at h;cases ho:ops[i]? with
 | none=>rw [ho] at h;cases h
 | some o=>
  rw [ho] at h;simp only [Option.any_some,List.any_eq_true,Bool.and_eq_true,decide_eq_true_eq] at h;obtain ⟨e,he,h1,h2⟩:=h;exact ⟨o,rfl,e,by simpa using he,h1,h2⟩
def barB (md:Region.Mode) (ops:Array Oper) (k:Nat):Bool:=
 ((List.range ops.size).all fun i=>(ops[i]?).all fun o=>
  (o.after.toList.all fun e=>!Region.binds md e||decide (e.on<i))&&(o.guard.all fun g=>decide (g.1<i))) &&
 (List.range k).all fun t=>((List.range (ops.size-k)).all fun i=>edgeB md ops (k+i) t)||(List.range (k-t-1)).any fun s=>edgeB md ops (t+1+s) t
theorem Ziy {md:Region.Mode} {ops:Array Oper} {k:Nat} (h:barB md ops k=true) {i:Nat} {o:Oper} (ho:ops[i]?=some o) :
  (∀ e∈o.after,Region.binds md e=true→e.on<i)∧(∀ g,o.guard=some g→g.1<i):=by
 have hi:i<ops.size:=(Array.getElem?_eq_some_iff.1 ho).1;unfold barB at h;rw [Bool.and_eq_true] at h;have h1:=List.all_eq_true.1 h.1 i (by simpa using hi);rw [ho] at h1;simp only [Option.all_some,Bool.and_eq_true,List.all_eq_true] at h1;obtain ⟨h2,h3⟩:=h1;refine ⟨fun e he hb=>by simpa [hb] using h2 e (by simpa using he),fun g hg=>?_⟩;rw [hg] at h3;simpa using h3
theorem barB_wait {md:Region.Mode} {ops:Array Oper} {k:Nat} (h:barB md ops k=true) {t:Nat} (ht:t<k) :
  (∀ i,k≤i→i<ops.size→edgeB md ops i t=true)∨∃ s,t<s∧s<k∧edgeB md ops s t=true:=by
 unfold barB at h;rw [Bool.and_eq_true] at h;have h1:=List.all_eq_true.1 h.2 t (by simpa using ht);rw [Bool.or_eq_true] at h1;rcases h1 with h1 | h1
 ·left
  intro i hi hs;have:=List.all_eq_true.1 h1 (i-k) (by simp;omega)
  rwa [show k+(i-k)=i by omega] at this
 ·right
  obtain ⟨s,hs,he⟩:=List.any_eq_true.1 h1;exact ⟨t+1+s,by omega,by simp at hs;omega,he⟩
section ext
variable {P:Program} {B:Nat} {Ωs:List Pe} {ops ops1:Array Oper} {n:Nat} {ms:List Nat} {md:Region.Mode}
theorem OpG.ext {Γ:Env} {o:Oper} {τ:Ty} (hg:∀ g,o.guard=some g→ops1[g.1]?=ops[g.1]?) (h:OpG P B ops1 Ωs Γ o τ):OpG P B ops Ωs Γ o τ:=by
 intro A a w hB hu hp hl;have e1:o.looksAt ops=o.looksAt ops1:=by
  unfold Oper.looksAt;cases hq:o.guard with
  | none=>rfl
  | some g=>obtain ⟨g,b⟩:=g;simp only [hg _ hq]
 have e2:Region.wanted o (yielded ops a.tmps)=Region.wanted o (yielded ops1 a.tmps):=by
  unfold Region.wanted;cases hq:o.guard with
  | none=>rfl
  | some g=>obtain ⟨g,b⟩:=g;have:=hg _ hq;simp only at this;simp only [yielded,this]
 have:=h A a w hB hu hp (by rw [← e1];exact hl);rw [e2];exact this
theorem OpF.ext {Γ:Env} {F:Fam} {o:Oper} {μ:F.ν→Type} {τ:(g:F.ν)→μ g→Ty} {Ω':(g:F.ν)→μ g→List Pe} (hg:∀ g,o.guard=some g→ops1[g.1]?=ops[g.1]?) (h:OpF P B Ωs ops1 Γ F o τ Ω'):OpF P B Ωs ops Γ F o τ Ω':=fun g=>⟨fun A a w hl=>by
 have e1:o.looksAt ops=o.looksAt ops1:=by
  unfold Oper.looksAt;cases hq:o.guard with
  | none=>rfl
  | some g=>obtain ⟨g,b⟩:=g;simp only [hg _ hq]
 have e2:Region.wanted o (yielded ops a.tmps)=Region.wanted o (yielded ops1 a.tmps):=by
  unfold Region.wanted;cases hq:o.guard with
  | none=>rfl
  | some g=>obtain ⟨g,b⟩:=g;have:=hg _ hq;simp only at this;simp only [yielded,this]
 rw [e2];exact (h g).1 A a w (by rw [← e1];exact hl),(h g).2⟩
theorem tOp_ext {i:Nat} {K:Env→Fam→Prop} {Γ:Env} {F:Fam} (he:ops1[i]?=ops[i]?) (hg:∀ o,ops[i]?=some o→∀ g,o.guard=some g→ops1[g.1]?=ops[g.1]?) (h:tOp P B Ωs ops1 n ms i K Γ F):tOp P B Ωs ops n ms i K Γ F:=by
 unfold tOp at *;rw [he] at h
 split
 ·rename_i ho;simp only [ho] at h;exact h
 ·rename_i o ho
  simp only [ho] at h;obtain ⟨h1,h2⟩:=h;refine ⟨h1,?_⟩;rcases h2 with ⟨h3,h4,τ,h5,h6⟩ | h2
  ·exact .inl ⟨h3,h4,τ,h5.ext (hg o ho),h6⟩
  ·obtain ⟨h3,μ,τ,Ω',h4,h5⟩:=h2;exact .inr ⟨h3,μ,τ,Ω',h4.ext (hg o ho),h5⟩
end ext
section any
variable {P:Program} {ops:Array Oper} {md:Region.Mode} {Q:Exit→Act→World→Prop}
theorem wpAny_more {ρ:Option Nat}:∀ (f:Nat) (listed:Array Bool) (a:Act) (w:World),wpAnyIn (FR ρ) 0 P md ops Q f listed a w→wpAnyIn (FR ρ) 0 P md ops Q (f+1) listed a w
 | 0,listed,a,w,h=>⟨fun _=>h.2,fun i hi=>by rw [h.1] at hi;cases hi⟩
 | f+1,listed,a,w,h=>⟨h.1,fun i hi=>wpOpIn_mono (fun a' w' h'=>wpAny_more f _ a' w' h') (h.2 i hi)⟩
theorem wpAny_le {ρ:Option Nat} {f g:Nat} (hfg:f≤g) {listed:Array Bool} {a:Act} {w:World} (h:wpAnyIn (FR ρ) 0 P md ops Q f listed a w):wpAnyIn (FR ρ) 0 P md ops Q g listed a w:=by
 induction hfg with
 | refl=>exact h
 | step _ ih=>exact wpAny_more _ _ _ _ ih
variable {r:Ref} {n:Nat} {Ωs:List Pe} {ms:List Nat} {ops1:Array Oper} {k m:Nat}
theorem wpAny_phase [op:Opens r] (hb:barB md ops k=true) (hk:k≤ops.size) (h1:∀ i,i<k→ops1[i]?=ops[i]?) (hz1:ops1.size=k) {K:Env→Fam→Prop}
  (hQ:∀ Γ F a w (listed:Array Bool),listed.size=ops.size→(∀ t,t<ops.size→listed.getD t true=decide (t<k))→RSt r n Ωs Γ F a w→K Γ F→wpAnyIn (FR r.ρ) 0 P md ops Q m listed a w) :
  ∀ (fuel:Nat) (l1 listed:Array Bool) (Γ:Env) (F:Fam) (a:Act) (w:World),l1.size=k→listed.size=ops.size→(∀ t,t<k→listed.getD t true=l1.getD t true)→(∀ t,k≤t→t<ops.size→listed.getD t true=false)→
   (∀ j,j<k→l1.getD j true=true→∀ o,ops1[j]?=some o→∀ e∈o.after,Region.binds md e=true→l1.getD e.on false=true)→
   RSt r n Ωs Γ F a w→TAny P r.w.heap.size Ωs ops1 n ms md K fuel l1 Γ F→wpAnyIn (FR r.ρ) 0 P md ops Q (fuel+m) listed a w:=by
 have hgd:∀ (l:Array Bool) (t:Nat),t<l.size→l.getD t false=l.getD t true:=fun l t ht=>by simp [ht]
 -- when nothing of the first phase is ready, all of it is done
 have hall:∀ (l1:Array Bool),l1.size=k→Region.ready md ops1 l1=[]→∀ t,t<k→l1.getD t true=true:=by
  intro l1 hs hr t
  induction t using Nat.strongRecOn with
  | _ t ih=>
   intro ht;cases hc:l1.getD t true with
   | true=>rfl
   | false=>
    exfalso
    obtain ⟨o,ho⟩:∃ o,ops1[t]?=some o:=⟨ops1[t]'(by omega),Array.getElem?_eq_getElem (by omega)⟩;have hmem:t∈Region.ready md ops1 l1:=mem_ready.2 ⟨hc,o,ho,fun e he hbe=>by
     have hlt:=(Ziy hb (by rw [← h1 t ht];exact ho)).1 e he hbe;rw [hgd l1 e.on (by omega)];exact ih e.on hlt (by omega)⟩
    rw [hr] at hmem;cases hmem
 have hrd:∀ (l1 listed:Array Bool),l1.size=k→listed.size=ops.size→(∀ t,t<k→listed.getD t true=l1.getD t true)→(∀ t,k≤t→t<ops.size→listed.getD t true=false)→
   (∀ j,j<k→l1.getD j true=true→∀ o,ops1[j]?=some o→∀ e∈o.after,Region.binds md e=true→l1.getD e.on false=true)→¬ (∀ t,t<k→l1.getD t true=true)→
   ∀ i,i∈Region.ready md ops listed→i<k∧i∈Region.ready md ops1 l1:=by
  intro l1 listed hs hz he hf hcl hn i hi;obtain ⟨hun,o,ho,hall'⟩:=mem_ready.1 hi;have hik:i<k:=by
   rcases Nat.lt_or_ge i k with h | h
   ·exact h
   ·exfalso
    have key:∀ q t,t<k→k-t≤q→l1.getD t true=true:=by
     intro q
     induction q with
     | zero=>intro t ht hq;omega
     | succ q ih=>
      intro t ht hq;rcases barB_wait hb ht with h5 | ⟨s,h5,h6,h7⟩
      ·obtain ⟨o',ho',e,he1,he2,he3⟩:=edgeB_spec (h5 i h (by have:=(Array.getElem?_eq_some_iff.1 ho).1;omega));rw [ho] at ho';injection ho' with ho';subst ho';have:=hall' e he1 he2;rw [he3,hgd listed t (by omega)] at this;rw [← he t ht];exact this
      ·obtain ⟨o',ho',e,he1,he2,he3⟩:=edgeB_spec h7;have:=hcl s h6 (ih s h6 (by omega)) o' (by rw [h1 s h6];exact ho') e he1 he2;rw [he3,hgd l1 t (by omega)] at this;exact this
    exact hn fun t ht=>key k t ht (by omega)
  refine ⟨hik,mem_ready.2 ⟨by rw [← he i hik];exact hun,o,by rw [h1 i hik];exact ho,fun e he1 he2=>?_⟩⟩;have hlt:=(Ziy hb ho).1 e he1 he2;have:=hall' e he1 he2;rw [hgd listed _ (by omega)] at this;rw [hgd l1 _ (by omega),← he _ (by omega)];exact this
 intro fuel
 induction fuel with
 | zero=>
  intro l1 listed Γ F a w hs hz he hf hcl ha h;have hd:=hall l1 hs h.1;rw [Nat.zero_add];refine hQ Γ F a w listed hz (fun t ht=>?_) ha h.2
  by_cases htk:t<k
  ·rw [he t htk,hd t htk];simp [htk]
  ·rw [hf t (by omega) ht];simp [htk]
 | succ fuel ih=>
  intro l1 listed Γ F a w hs hz he hf hcl ha h
  by_cases hd:∀ t,t<k→l1.getD t true=true
  ·have hr:Region.ready md ops1 l1=[]:=by
    cases hr:Region.ready md ops1 l1 with
    | nil=>rfl
    | cons i _=>
     exfalso
     obtain ⟨hun,o,ho,-⟩:=mem_ready.1 (show i∈Region.ready md ops1 l1 by rw [hr];exact List.mem_cons_self ..);have hi:i<k:=by have:=(Array.getElem?_eq_some_iff.1 ho).1;omega
     rw [hd i hi] at hun;cases hun
   exact wpAny_le (by omega) (hQ Γ F a w listed hz (fun t ht=>by
    by_cases htk:t<k
    ·rw [he t htk,hd t htk];simp [htk]
    ·rw [hf t (by omega) ht];simp [htk]) ha (h.1 hr))
  ·rw [show fuel+1+m=(fuel+m)+1 by omega];refine ⟨fun hr=>?_,fun i hi=>?_⟩
   ·exfalso
    -- the first that isn't listed is ready
    refine hd (hall l1 hs ?_);cases hr1:Region.ready md ops1 l1 with
    | nil=>rfl
    | cons i _=>
     exfalso
     obtain ⟨hun,o,ho,hall'⟩:=mem_ready.1 (show i∈Region.ready md ops1 l1 by rw [hr1];exact List.mem_cons_self ..);have hik:i<k:=by have:=(Array.getElem?_eq_some_iff.1 ho).1;omega
     have:i∈Region.ready md ops listed:=mem_ready.2 ⟨by rw [he i hik];exact hun,o,by rw [← h1 i hik];exact ho,fun e he1 he2=>by
      have hlt:=(Ziy hb (by rw [← h1 i hik];exact ho)).1 e he1 he2;have:=hall' e he1 he2;rw [hgd l1 _ (by omega)] at this;rw [hgd listed _ (by omega),he _ (by omega)];exact this⟩
     rw [hr] at this;cases this
   ·obtain ⟨hik,hi1⟩:=hrd l1 listed hs hz he hf hcl hd i hi;have ht:=tOp_ext (h1 i hik) (fun o ho g hg=>h1 _ (by have:=(Ziy hb ho).2 g hg;omega)) (h.2 i hi1);refine Zl9 ha (fun Γ' F' a' w' ha' hK=>ih _ _ Γ' F' a' w' (by simpa using hs) (by simpa using hz) (fun t htk=>?_) (fun t htk hts=>?_) (fun j hj hjl o ho e he1 he2=>?_) ha' hK) ht
    ·by_cases e:i=t
     ·subst e;simp [hs,hz,hik,show i<ops.size by omega]
     ·rw [getD_set_ne true e,getD_set_ne true e];exact he t htk
    ·rw [getD_set_ne true (show i≠t by omega)];exact hf t htk hts
    ·have hlt:=(Ziy hb (by rw [← h1 j hj];exact ho)).1 e he1 he2;have hold:l1.getD e.on false=true:=by
      by_cases hij:i=j
      ·subst hij;obtain ⟨-,o2,ho2,hall'⟩:=mem_ready.1 hi1;rw [ho] at ho2;injection ho2 with ho2;subst ho2;exact hall' e he1 he2
      ·rw [getD_set_ne true hij] at hjl;exact hcl j hj hjl o ho e he1 he2
     by_cases h9:i=e.on
     ·simp [← h9,hs,hik]
     ·rw [getD_set_ne false h9];exact hold
end any
theorem Zlq {md:Region.Mode} {ops:Array Oper}:∀ (j m s:Nat) (listed:Array Bool),listed.size=ops.size→s+j≤ops.size→(∀ t,t<ops.size→listed.getD t true=decide (t<s))→Region.lexFrom md ops (j+m) s listed=true→
  ∃ listed',listed'.size=ops.size∧(∀ t,t<ops.size→listed'.getD t true=decide (t<s+j))∧Region.lexFrom md ops m (s+j) listed'=true
 | 0,m,s,listed,hz,_,ht,h=>⟨listed,hz,ht,by rw [Nat.zero_add] at h;exact h⟩
 | j+1,m,s,listed,hz,hs,ht,h=>by
  rw [show j+1+m=(j+m)+1 by omega] at h;simp only [Region.lexFrom,Bool.and_eq_true] at h;have:=Zlq j m (s+1) (listed.setIfInBounds s true) (by simpa using hz) (by omega) (fun t hts=>by
   by_cases h1:s=t
   ·subst h1;have:s<listed.size:=by omega
    simp [this]
   ·rw [getD_set_ne true h1,ht t hts,decide_eq_decide];omega) h.2
  rw [show s+(j+1)=s+1+j by omega];exact this
theorem listed_ext {l l':Array Bool} (hs:l.size=l'.size) (h:∀ t,t<l.size→l.getD t true=l'.getD t true):l=l':=by
 apply Array.ext hs;intro t h1 h2;have:=h t h1;simpa [h1,h2] using this
section tc
variable {P:Program} {r:Ref} {n:Nat} {Γ:Env} {Ω:List Pe} {Q:Exit→Act→World→Prop}
theorem TC.regionP [op:Opens r] {id:Nat} {l:List Oper} {Q':Exit→Act→World→Prop} (k:Nat) (ms ms2:List Nat) (Ωs Ωt:List Pe) (hΩ:Less Ω (Ωs++Ωt)) (hm:P.follows .mixedOrders=true) (hB:Region.lexB .any l.toArray=true) (hB1:Region.lexB .any (l.take k).toArray=true)
  (hk:Nat.ble k l.length=true) (hb:barB .any l.toArray k=true) (hc:Zix .any (l.take k).toArray ms=true) (hc2:Zix .any l.toArray ms2=true)
  (h:TRw P r.w.heap.size Ωs (l.take k).toArray n ms 0 (l.take k) Γ (Fam.one Ωt) fun Γ' F'=>∀ g,∃ Ωs2 Ωt2,Less (Ωs++F'.Ω g) (Ωs2++Ωt2)∧
   TRw P r.w.heap.size Ωs2 l.toArray n ms2 k (l.drop k) (Env.or (F'.Θ g) Γ') (Fam.one Ωt2) fun Γ'' F''=>∀ g,TE r n (Env.or (F''.Θ g) Γ'') (Ωs2++F''.Ω g) Q' .normal):TC P r n Γ Ω (.region id l.toArray true) Q':=by
 intro a w hs;have hs:=hs.less hΩ;have hkl:k≤l.length:=Nat.le_of_ble_eq_true hk;have hB0:=hB;simp only [Region.lexB,Bool.and_eq_true] at hB hB1;refine wpIn_region_any hm ?_;have h2:=Zl5 (P:=P) (md:=.any) (ops:=(l.take k).toArray) hc (l.take k) 0 (Array.replicate (l.take k).toArray.size false) Γ (Fam.one Ωt) (fun j=>by simp) (by simp) (fun t ht=>by
  rw [Array.getD_eq_getD_getElem?,Array.getElem?_replicate];have h6:t<min k l.length:=by simpa using ht
  simp [h6]) (by simpa using hB1.2) h
 have hg:Grow r.w.heap.size w { w with drawn:=w.drawn+1 }:=Grow.drawn _;have h3:RSt r n Ωs Γ (Fam.one Ωt) a { w with drawn:=w.drawn+1 }:=
  ⟨(),hs.sz,hs.df,hs.mu.stp (ZdL (S:=fun _=>False) hg) (fun j hj=>hj.elim),fun t=>⟨trivial,(Γ t).st hg (hs.ty t)⟩,hs.pv.grow hg⟩
 have hsz:l.toArray.size=k+(l.drop k).length:=by simp;omega
 have:=wpAny_phase (P:=P) (md:=.any) (ops:=l.toArray) (ops1:=(l.take k).toArray) (Q:=Q') (r:=r) (n:=n) (Ωs:=Ωs) (ms:=ms) (k:=k) (m:=(l.drop k).length) hb (by simpa using hkl) (fun i hi=>by simp [List.getElem?_take,hi]) (by simp;omega)
  (fun Γ' F' a w listed hz ht ⟨g,hok⟩ hK=>by
   obtain ⟨Ωs2,Ωt2,hl2,hT⟩:=hK g;obtain ⟨listed',hz',ht',hlex⟩:=Zlq (md:=.any) (ops:=l.toArray) k (l.drop k).length 0 (Array.replicate l.toArray.size false) (by simp) (by simpa using hkl) (fun t ht=>by
    rw [Array.getD_eq_getD_getElem?,Array.getElem?_replicate];simp at ht;simp [ht]) (by rw [← hsz];simpa using hB.2)
   have he:listed'=listed:=listed_ext (by rw [hz,hz']) fun t htt=>by
    rw [hz'] at htt;rw [ht' t htt,ht t htt,Nat.zero_add]
   subst he;have h4:=Zl5 (P:=P) (md:=.any) (ops:=l.toArray) hc2 (l.drop k) k listed' (Env.or (F'.Θ g) Γ') (Fam.one Ωt2) (fun j=>by simp [List.getElem?_drop]) hz ht (by rw [Nat.zero_add] at hlex;exact hlex) hT;have hok':=hok.less hl2;exact ZkJ (P:=P) (Q':=Q') (md:=.any) (fun Γ'' F'' a w ⟨g,hok⟩ hK=>hK g a w hok) _ _ _ (Fam.one Ωt2) a w ⟨(),hok'.sz,hok'.df,hok'.mu,fun t=>⟨trivial,hok'.ty t⟩,hok'.pv⟩ h4)
  (l.take k).length (Array.replicate (l.take k).toArray.size false) (Array.replicate l.toArray.size false) Γ (Fam.one Ωt) a { w with drawn:=w.drawn+1 } (by simp;omega) (by simp) (fun t ht=>by
   rw [Array.getD_eq_getD_getElem?,Array.getElem?_replicate,Array.getD_eq_getD_getElem?,Array.getElem?_replicate];have h5:t<l.length:=by omega
   have h6:t<min k l.length:=by omega
   simp [h5,h6]) (fun t h5 h6=>by
   rw [Array.getD_eq_getD_getElem?,Array.getElem?_replicate];simp at h6;simp [h6]) (fun j hj hjl=>by
   rw [Array.getD_eq_getD_getElem?,Array.getElem?_replicate] at hjl;have h6:j<min k l.length:=by omega
   simp [h6] at hjl) h3 h2
 have hk':(l.take k).length=k:=by simp;omega
 rw [hk',← hsz] at this;exact this
theorem TC.seqPh [op:Opens r] {id:Nat} {l:List Oper} {y:Code} {Ωs Ωt:List Pe} (k:Nat) (ms ms2 bs:List Nat) [hs:Split Ω bs Ωs Ωt] (hm:P.follows .mixedOrders=true) (hB:Region.lexB .any l.toArray=true) (hB1:Region.lexB .any (l.take k).toArray=true)
  (hk:Nat.ble k l.length=true) (hb:barB .any l.toArray k=true) (hc:Zix .any (l.take k).toArray ms=true) (hc2:Zix .any l.toArray ms2=true)
  (h:TRw P r.w.heap.size Ωs (l.take k).toArray n ms 0 (l.take k) Γ (Fam.one Ωt) fun Γ' F'=>∀ g,∃ Ωs2 Ωt2,Less (Ωs++F'.Ω g) (Ωs2++Ωt2)∧
   TRw P r.w.heap.size Ωs2 l.toArray n ms2 k (l.drop k) (Env.or (F'.Θ g) Γ') (Fam.one Ωt2) fun Γ'' F''=>∀ g,TC P r n (Env.or (F''.Θ g) Γ'') (Ωs2++F''.Ω g) y Q):TC P r n Γ Ω (.seq (.region id l.toArray true) y) Q:=
 Zau (TC.regionP k ms ms2 Ωs Ωt (Less.perm hs.perm) hm hB hB1 hk hb hc hc2 h)
theorem PH.next {B:Nat} {ops:Array Oper} {ms2:List Nat} {k:Nat} {l:List Oper} {K:List Pe→Env→Fam→Prop} {Ωs2 Ωt2:List Pe} (bs:List Nat) [hs:Split Ω bs Ωs2 Ωt2] (h:TRw P B Ωs2 ops n ms2 k l Γ (Fam.one Ωt2) (K Ωs2)) :
  ∃ Ωs2 Ωt2,Less Ω (Ωs2++Ωt2)∧TRw P B Ωs2 ops n ms2 k l Γ (Fam.one Ωt2) (K Ωs2):=⟨Ωs2,Ωt2,Less.perm hs.perm,h⟩
end tc
end Go.Proofs.YtkmojgfenlgchaaGreatDoor.Tr
namespace Go.Proofs.YtkmojgfenlgchaaGreatDoor.Tr
open Go
theorem Zz {α:Type} {l:List α} {i:Nat} (h:i<l.length):idx l (i:Int)=some l[i]:=by
 unfold idx;rw [if_pos (by omega),Int.toNat_natCast,List.getElem?_eq_getElem h]
theorem idx_of {α:Type} {l:List α} {k:Int} (h0:0≤k) (h:k<l.length):idx l k=some (l[k.toNat]'(by omega)):=by
 unfold idx;rw [if_pos h0,List.getElem?_eq_getElem (by omega)]
theorem Zmv {z:Int} (h1:-9223372036854775808≤z) (h2:z≤9223372036854775807):ZiR z=some z:=by
 unfold ZiR;rw [if_pos ⟨h1,h2⟩]
theorem ZZ {a b:Int} (h1:-9223372036854775808≤a+b) (h2:a+b≤9223372036854775807):Zas a b=some (a+b):=Zmv h1 h2
theorem ZaN {a b:Int} (h1:-9223372036854775808≤a-b) (h2:a-b≤9223372036854775807):Zgs a b=some (a-b):=Zmv h1 h2
theorem ZjE {a b:Int} (h1:-9223372036854775808≤a*b) (h2:a*b≤9223372036854775807):mulI a b=some (a*b):=Zmv h1 h2
theorem Zfz {i:Nat} (h:i<9223372036854775807):Zas (i:Int) 1=some ((i+1:Nat):Int):=by
 rw [ZZ (by omega) (by omega)];rfl
theorem ZjB {a b:Int} (h1:0≤a) (h2:0<b):remI a b=some (a % b):=by unfold remI;rw [if_pos ⟨h1,h2⟩]
theorem Zf0 {a b:Int} (h1:0≤a) (h2:0<b):ZjS a b=some (a/b):=by unfold ZjS;rw [if_pos ⟨h1,h2⟩]
theorem ZaA {bt:Nat} {n:Int} (h0:0≤n) (h1:n*bt≤140737488355328) (h2:n≤140737488351232):Zdv bt n=some ():=by unfold Zdv;rw [if_pos ⟨h0,h1,h2⟩]
theorem Zep {n:Nat} {l r:Int} (h1:0≤l) (h2:l≤r) (h3:r≤n):cut n l r=some ():=by unfold cut;rw [if_pos ⟨h1,h2,h3⟩]
-- not by rfl alone: what a rule by rfl rewrites the kernel would run
theorem ZaO {α:Type} [Inhabited α] {x:Option α}:gb true x=x:=Eq.trans rfl rfl
theorem ZaQ {α:Type} [Inhabited α] {x:Option α}:gb false x=some default:=Eq.trans rfl rfl
theorem Zr {α:Type} {x y:α}:(bif true then x else y)=x:=Eq.trans rfl rfl
theorem Zo {α:Type} {x y:α}:(bif false then x else y)=y:=Eq.trans rfl rfl
theorem Zb {α β:Type} {a:α} {f:α→Option β}:(some a).bind f=f a:=Eq.trans rfl rfl
theorem ZcE {α β ρ:Type} {a:α} {b:β} {f:α→β→ρ}:el2 (a,b) f=f a b:=Eq.trans rfl rfl
theorem el4_at {α β γ δ ρ:Type} {a:α} {b:β} {c:γ} {d:δ} {f:α→β→γ→δ→ρ}:el4 (a,b,c,d) f=f a b c d:=Eq.trans rfl rfl
theorem Zaj {α β γ:Type} {a:α} {f:α→γ} {g:β→γ}:elS (.inl a) f g=f a:=Eq.trans rfl rfl
theorem ZaY {α β γ:Type} {a:β} {f:α→γ} {g:β→γ}:elS (.inr a) f g=g a:=Eq.trans rfl rfl
theorem el2_eq {α β γ:Type} {s:α×β} {f:α→β→γ}:el2 s f=f s.1 s.2:=Eq.trans rfl rfl
theorem ZhF {σ ε:Type} {f:σ→Option (σ⊕ε)} {s:σ} {e:ε} (k:Nat) (hk:k≤18446744073709551616) (h:Zfa f k s=some e):ZM f s=some e:=loopN_mono _ h hk
theorem ZeC {σ ε:Type} {f:σ→Option (σ⊕ε)} {s:σ} {e:ε} {k:Nat} (h:f s=some (.inr e)):Zfa f (k+1) s=some e:=by unfold Zfa;rw [h]
theorem ZdR {σ ε:Type} {f:σ→Option (σ⊕ε)} {s s':σ} {k:Nat} (h:f s=some (.inl s')):Zfa f (k+1) s=Zfa f k s':=by rw [Zfa,h]
theorem gb_of {α:Type} [Inhabited α] {g:Bool} {x:Option α} {a:α} (h:g=true→x=some a):gb g x=some (bif g then a else default):=by
 cases g with
 | true=>exact h rfl
 | false=>rfl
end Go.Proofs.YtkmojgfenlgchaaGreatDoor.Tr
namespace Go.Proofs.YtkmojgfenlgchaaGreatDoor.Tr
open Go Go.RowKit
theorem Row.zeros {α:Type} {i:Dat α} {A:Nat→Prop} {w:World} {zs:Array Value} {m gc:Nat} (hz:zs=(Dat.zc α).toArray) (ge:m≤gc) (cm:gc≤maxLen) (hm:m≤ZjT) :
  (Row (List.replicate m (Dat.z (α:=α))) gc).p A w (Builtin.zeroCells zs m++Builtin.zeroCells zs (gc-m)).toList:=by
 have hzl:zs.size=Dat.sz α:=by rw [hz];simpa using Dat.len (Dat.zrd (α:=α) (A:=fun _=>True) (w:=w))
 have hsz:=Dat.pos (α:=α);refine ⟨?_,by simpa using ge,cm,by simpa using hm,fun j hj=>?_⟩
 ·simp only [Array.length_toList,Array.size_append,size_zeroCells,hzl,← Nat.add_mul];congr 1;omega
 ·simp only [List.length_replicate] at hj;have hzc:(Dat.zc α).length=Dat.sz α:=Dat.len (Dat.zrd (α:=α) (A:=fun _=>True) (w:=w));have hle:j*Dat.sz α+Dat.sz α≤m*Dat.sz α:=by rw [← Nat.succ_mul];exact Nat.mul_le_mul_right _ (by omega)
  have e3:seg (Builtin.zeroCells zs m++Builtin.zeroCells zs (gc-m)).toList (j*Dat.sz α) (Dat.sz α)=Dat.zc α:=by
   rw [Array.toList_append,Zj6 (by rw [Array.length_toList,size_zeroCells,hzl];exact hle)];refine ZaH (by rw [Zv (by rw [Array.length_toList,size_zeroCells,hzl];exact hle),hzc]) fun q hq=>?_
   rw [Zv (by rw [Array.length_toList,size_zeroCells,hzl];exact hle)] at hq;rw [Zab hq];have h3:j*Dat.sz α+q<m*Dat.sz α:=by omega
   have h4:(j*Dat.sz α+q) % Dat.sz α=q:=by rw [Nat.mul_comm,Nat.mul_add_mod,Nat.mod_eq_of_lt hq]
   have h5:(Builtin.zeroCells zs m).toList.getD (j*Dat.sz α+q) undef=zs[(j*Dat.sz α+q) % zs.size]!:=by
    simp [Builtin.zeroCells,List.getD_eq_getElem?_getD,hzl,h3]
   rw [h5,hzl,h4,hz,getElem!_pos _ _ (by simpa [hzc] using hq)];simp [List.getD_eq_getElem?_getD,hzc,hq]
  rw [e3,List.getElem_replicate];exact Dat.zrd
def posI (n:Int):Option Unit:=if 0<n then some () else none
theorem posI_some {n:Int} {u:Unit} (h:posI n=some u):0<n:=by
 unfold posI at h;split at h
 ·assumption
 ·cases h
theorem posI_ok {n:Int} (h:0<n):posI n=some ():=by unfold posI;rw [if_pos h]
section am
variable {P:Program} {B:Nat} {Ωs Ω:List Pe} {Γ:Env} {t e u ty:TypeId} {d:Tmp} {pos:String} {aft:Array Edge} {α:Type} {i:Dat α} {bt:Nat}
theorem OpT.appMake [S:TSl P t e] [T:TEl P e α i bt] [U:TIn P u .i64] {s x:Operand} {σ:Ty} {n:Int} {v v':Unit} [hs:Has Γ s NilS] [hx:Has Γ x σ] [k:AsI σ n] (hr:Zdv bt n=some v) (h0':posI n=some v') :
  OpT P B Ωs Ω Γ ⟨some d,.call { callee:=.builtin .append,args:=#[s,x],argTypes:=#[t,u] },ty,pos,aft,none⟩ (fun g:Nat×Nat=>Sl g.1 True 0 (List.replicate n.toNat (Dat.z (α:=α))).length g.2)
   fun g=>⟨g.1,True,Row (List.replicate n.toNat (Dat.z (α:=α))) g.2⟩::Ω:=
 ZfB (C:=fun c=>Row (List.replicate n.toNat (Dat.z (α:=α))) c) rfl fun A a w _ _ hl=>by
  have h0:=posI_some h0';obtain ⟨-,h1',hm'⟩:=Za3 hr;obtain ⟨m,rfl⟩:=Int.eq_ofNat_of_zero_le (show 0≤n by omega);have h1:m*bt≤140737488355328:=by rw [← Int.natCast_mul] at h1';omega
  have hm:m≤140737488351232:=by omega
  simp only [Int.toNat_natCast,List.length_replicate];obtain ⟨ti,z,hi1,hi2,hi3,hi4,hi5⟩:=T.h;have e1:a.eval s=.slice none 0 0:=Zt (x:=s) (τ:=NilS) (op:=.call { callee:=.builtin .append,args:=#[s,x],argTypes:=#[t,u] }) (by simp [Op.operands,Call.operands]) hl;have e2:a.eval x=.int .i64 m:=k.le _ _ _ (Zt (x:=x) (τ:=σ) (op:=.call { callee:=.builtin .append,args:=#[s,x],argTypes:=#[t,u] }) (by simp [Op.operands,Call.operands]) hl);have hsz:=Dat.pos (α:=α);have hw:IntKind.i64.wrap (m:Int)=m:=Zdx (by omega) (by omega);have n0:¬ m=0:=by omega
  have n1:¬ (m:Int)<0:=by omega
  have hb:(m:Int)*(ti.bytes:Int)≤281474976710656:=by
   rw [hi4];have h2:((m*bt:Nat):Int)≤140737488355328:=by omega
   rw [Int.natCast_mul] at h2;omega
  have n2:¬ (281474976710656<(m:Int)*(ti.bytes:Int)):=by omega
  have n3:¬ ((9223372036854775807:Int)<(m:Int)):=by omega
  have n4:¬ (281474976710656<Builtin.nextslicecap m 0*ti.bytes):=by rw [nextslicecap_zero (by omega),hi4];omega
  have n5:¬ m*Dat.sz α=0:=by intro h;rcases Nat.mul_eq_zero.1 h with h | h <;> omega
  have ge:=grownCap_ge w m 0 e;have cm:=grownCap_le_maxLen w m 0 e (by unfold maxLen;omega);have hrun:(execOp a.eval ⟨some d,.call { callee:=.builtin .append,args:=#[s,x],argTypes:=#[t,u] },ty,pos,aft,none⟩).run P w =
    .ok (.value (.slice (some ⟨w.heap.size,0,none⟩) m (grownCap w m 0 e))) (w.drew.alloc (.cells (Builtin.zeroCells z.cells m++Builtin.zeroCells z.cells (grownCap w m 0 e-m)) e)):=by
   simp [execOp,resolve,invoke,builtin,e1,e2,Builtin.append_,run_underlying S.h,run_underlying U.h,sizeOf,typeInfo,zeroValue,hi1,hi2,hi3,asInt,asIntOf,hw,n0,n1,n2,n3,n4,n5,Question.forced,Builtin.firstCells,newRow,grownCap]
  generalize grownCap w m 0 e=gc at *;refine ⟨gc,_,w.drawn+1,(Builtin.zeroCells z.cells m++Builtin.zeroCells z.cells (gc-m)).toList,e,?_,fun _ _=>.inl ⟨trivial,⟨ge,cm⟩,rfl⟩,Row.zeros hi5 ge cm (by unfold ZjT;omega)⟩;rw [hrun,Array.toArray_toList];rfl
end am
section ts
variable {P:Program} {r:Ref} {n:Nat} {ops:Array Oper} {k:Nat} {rest:List Oper} {Γ:Env} {Ω:List Pe} {Q:Exit→Act→World→Prop}
variable {t e u ty:TypeId} {d:Tmp} {pos:String} {aft:Array Edge} {α:Type} {i:Dat α} {bt:Nat}
theorem TS.appMake [op:Opens r] [S:TSl P t e] [T:TEl P e α i bt] [U:TIn P u .i64] {s x:Operand} {σ:Ty} {q:Int} {v v':Unit} [hs:Has Γ s NilS] [hx:Has Γ x σ] [kx:AsI σ q] (hr:Zdv bt q=some v) (h0:posI q=some v') (hd:Nat.blt d n=true)
  (hk:∀ b c,TS P r n ops rest (k+1) (Γ.set d (Sl b True 0 (List.replicate q.toNat (Dat.z (α:=α))).length c)) (⟨b,True,Row (List.replicate q.toNat (Dat.z (α:=α))) c⟩::Ω) Q) :
  TS P r n ops (⟨some d,.call { callee:=.builtin .append,args:=#[s,x],argTypes:=#[t,u] },ty,pos,aft,none⟩::rest) k Γ Ω Q:=
 Zdw (OpT.appMake hr h0) hd fun g=>hk g.1 g.2
theorem TS.nilE (b:Nat) (α:Type) [i:Dat α] (h:TS P r n ops rest k Γ (⟨b,False,Row ([]:List α) 0⟩::Ω) Q):TS P r n ops rest k Γ Ω Q:=
 TS.weaken (Env.le.refl _) (ZiI fun h=>h) h
structure ZeroC (α:Type) (i:Dat α) (C:Ct):Prop where
 h:∀ {A:Nat→Prop} {w:World},C.p A w (Dat.zc α)
theorem ZeroC.one:ZeroC α i (One (Dat.z:α)):=⟨Dat.zrd⟩
theorem ZeroC.mix {C:Ct} {o b:Nat} (h:ZeroC α i C) (hz:(Dat.zc α)[o]?=some (.slice none 0 0)):ZeroC α i (C.mix o (Sl b False 0 0 0)):=⟨CtH.nil h.h hz⟩
theorem OpY.buildZ {B0:Nat} {A:Nat→Prop} {dst:Option Tmp} {gd:Option (Nat×Bool)} {parts:Array (Nat×Operand)} {ps:List (Nat×Operand)} {C0 C:Ct} [T:TEl P t α i bt] (hps:parts=ps.toArray) (hu:∃ fs,P.underlying t=some (.struct fs)∧(fs.toList.mapM (fun f=>(P.info? f.type).map fun i=>(f.offset,i.size))).isSome=true)
  (hz:ZeroC α i C0) (h:PartsC P t Γ ps C0 C):OpY P B0 A Ω Γ ⟨dst,.build t parts,ty,pos,aft,gd⟩ (VC C):=
 OpY.val fun a w hl=>by
  subst hps;obtain ⟨fs,u1,u2⟩:=hu;obtain ⟨places,u2⟩:=Option.isSome_iff_exists.1 u2;obtain ⟨ti,z,i1,i2,i3,i4,i5⟩:=T.h;obtain ⟨cs',r1,r2⟩:=h.h a A w (fun k hk=>hl k (by simp only [Op.operands];simpa using hk)) fs places _ u1 u2 hz.h;refine ⟨.agg cs'.toArray,?_,cs',r2,rfl⟩;have hb:P.built t ((ps.toArray.map fun (i,x)=>(i,a.eval x)).toList)=some cs'.toArray:=by
   unfold Program.built;rw [i1,u1];simp only [i2,u2,i5];simpa using r1
  simp only [execOp,Sem.run_bind,run_build w t _ cs'.toArray hb,Result.andThen_ok,Sem.run_pure]
theorem TC.trim {c:Code} (b m:Nat) {pr:Prop} {c0:Nat} {xs:List α} {Ωr:List Pe} [h:Pick Ω b pr (Row xs c0) Ωr] (hm:m≤xs.length) (hk:TC P r n Γ (⟨b,pr,Row (xs.take m) c0⟩::Ωr) c Q):TC P r n Γ Ω c Q:=
 TC.less (ZjQ m hm rfl (Less.refl _)) hk
theorem TE.trim {e:Exit} (b m:Nat) {pr:Prop} {c0:Nat} {xs:List α} {Ωr:List Pe} [h:Pick Ω b pr (Row xs c0) Ωr] (hm:m≤xs.length) (hk:TE r n Γ (⟨b,pr,Row (xs.take m) c0⟩::Ωr) Q e):TE r n Γ Ω Q e:=
 TE.less (ZjQ m hm rfl (Less.refl _)) hk
end ts
theorem Zld.pub {A:Nat→Prop} {w:World} {ν:Type} {τ:ν→Ty} {σ:Ty} {Ω':ν→List Pe} {e:Ending} {w':World} (hA:∀ k,w.heap.size≤k→A k)
  (hσ:∀ g (A:Nat→Prop) w v,(∀ e∈Ω' g,e.pr→A e.b∧∃ cs,Blk w e.b cs∧e.C.p A w cs)→(τ g).p A w v→σ.p A w v) (h:Zld A w [] τ Ω' e w'):Ret A w σ e w':=by
 obtain ⟨v,g,h1,h2⟩:=h;refine ⟨v,h1,⟨h2.st.os,h2.st.tape,h2.st.output,h2.st.size,fun k hk=>h2.st.old k hk fun ⟨e,he,_⟩=>absurd he (by simp),fun k hk=>h2.st.cells k hk fun ⟨e,he,_⟩=>absurd he (by simp)⟩,?_⟩;refine hσ g A w' v (fun e he hp=>?_) (Ty.keep _ (Keep.mono fun k _ hk=>(ZE.1 hk).1) h2.ty);obtain ⟨cs,g1,g2⟩:=h2.ks e he hp;refine ⟨?_,cs,g1,e.C.keep (Keep.mono fun k _ hk=>(ZE.1 hk).1) g2⟩;rcases h2.nw e.b ⟨e,he,hp,rfl⟩ with ⟨x,hx,_⟩ | h
 ·exact absurd hx (by simp)
 ·exact hA e.b h
theorem VC.pub {α β:Type} {i:Dat α} {j:Dat β} {A:Nat→Prop} {w:World} {C:Ct} {o:Nat} {τ:Ty} {xs:List α} {y:β} {v:Value} (c:CtSet C o (List α) instList xs (One y)) (ha:Dat.agg β=true) (hτ:∀ u,τ.p A w u→(D xs).p A w u) (h:(VC (C.mix o τ)).p A w v):(D y).p A w v:=by
 obtain ⟨cs,h1,rfl⟩:=h;have h2:=c.coll (Keep.refl A w) hτ h1;exact ⟨cs,h2,by simp [mkV,ha]⟩
theorem ZfV {α:Type} {l ys:List α} {k m:Nat} (h:k+m≤l.length):(splice l k (over ((l.drop k).take m) ys)).length=l.length:=by
 rw [ZkS (by omega),over_len,List.length_take,List.length_drop];omega
def andI (a b:Int):Option Int:=if 0≤a∧0≤b then some ((a.toNat &&& b.toNat:Nat):Int) else none
def orI (a b:Int):Option Int:=if 0≤a∧0≤b then some ((a.toNat ||| b.toNat:Nat):Int) else none
def shrI (a s:Int):Option Int:=if 0≤a∧0≤s then some (a/2 ^ s.toNat) else none
def shlI (a s:Int):Option Int:=if 0≤a∧0≤s∧s≤62∧a*2 ^ s.toNat≤9223372036854775807 then some (a*2 ^ s.toNat) else none
section bi
variable {P:Program} {B0:Nat} {A:Nat→Prop} {Ω:List Pe} {Γ:Env} {dst:Option Tmp} {ty:TypeId} {pos:String} {aft:Array Edge} {gd:Option (Nat×Bool)}
theorem OpD.andi {x y:Operand} {τ σ:Ty} {t u:TypeId} {m k z:Int} [hsx:Has Γ x τ] [hx:ToD τ Int inferInstance m] [hsy:Has Γ y σ] [hy:ToD σ Int inferInstance k] (h:andI m k=some z) :
  OpY P B0 A Ω Γ ⟨dst,.binOp .and t x y u,ty,pos,aft,gd⟩ (D z):=fun a w hB hu hp hl=>by
 unfold andI at h;split at h
 ·rename_i hc
  injection h with h;subst h;obtain ⟨e1,e2,hm,hk⟩:=evD2 (x:=x) (y:=y) (τ:=τ) (σ:=σ) (t:=t) (u:=u) (m:=m) (k:=k) (A:=A) (op:=.and) hl;unfold ZeD at hm hk;have h1:m.toNat<2 ^ 63:=by omega
  have h2:k.toNat<2 ^ 63:=by omega
  have h3:m.toNat &&& k.toNat<2 ^ 63:=Nat.and_lt_two_pow _ h2;refine Zdt (I_D (by omega) (by omega)) (OpY.val fun a w hl=>⟨.int .i64 (m.toNat &&& k.toNat:Nat),?_,rfl⟩) a w hB hu hp hl;obtain ⟨e1,e2,-,-⟩:=evD2 (x:=x) (y:=y) (τ:=τ) (σ:=σ) (t:=t) (u:=u) (m:=m) (k:=k) (A:=A) (op:=.and) hl;have e3:IntKind.i64.wrap ((BitVec.ofInt IntKind.i64.bits m &&& BitVec.ofInt IntKind.i64.bits k).toNat:Int)=((m.toNat &&& k.toNat:Nat):Int):=by
   have g1:(BitVec.ofInt IntKind.i64.bits m).toNat=m.toNat:=by show (BitVec.ofInt 64 m).toNat=_;rw [BitVec.toNat_ofInt];omega
   have g2:(BitVec.ofInt IntKind.i64.bits k).toNat=k.toNat:=by show (BitVec.ofInt 64 k).toNat=_;rw [BitVec.toNat_ofInt];omega
   rw [BitVec.toNat_and,g1,g2];exact Zdx (by omega) (by omega)
  simp only [execOp,e1,e2,eqGuard_and,binOp_and,Op.intBits,Sem.run_bind,Sem.run_pure,Result.andThen_ok];exact congrArg (fun z=>Result.ok (Next.value (Value.int .i64 z)) w) e3
 ·cases h
theorem OpD.ori {x y:Operand} {τ σ:Ty} {t u:TypeId} {m k z:Int} [hsx:Has Γ x τ] [hx:ToD τ Int inferInstance m] [hsy:Has Γ y σ] [hy:ToD σ Int inferInstance k] (h:orI m k=some z) :
  OpY P B0 A Ω Γ ⟨dst,.binOp .or t x y u,ty,pos,aft,gd⟩ (D z):=fun a w hB hu hp hl=>by
 unfold orI at h;split at h
 ·rename_i hc
  injection h with h;subst h;obtain ⟨e1,e2,hm,hk⟩:=evD2 (x:=x) (y:=y) (τ:=τ) (σ:=σ) (t:=t) (u:=u) (m:=m) (k:=k) (A:=A) (op:=.or) hl;unfold ZeD at hm hk;have h1:m.toNat<2 ^ 63:=by omega
  have h2:k.toNat<2 ^ 63:=by omega
  have h3:m.toNat ||| k.toNat<2 ^ 63:=Nat.or_lt_two_pow h1 h2;refine Zdt (I_D (by omega) (by omega)) (OpY.val fun a w hl=>⟨.int .i64 (m.toNat ||| k.toNat:Nat),?_,rfl⟩) a w hB hu hp hl;obtain ⟨e1,e2,-,-⟩:=evD2 (x:=x) (y:=y) (τ:=τ) (σ:=σ) (t:=t) (u:=u) (m:=m) (k:=k) (A:=A) (op:=.or) hl;have e3:IntKind.i64.wrap ((BitVec.ofInt IntKind.i64.bits m ||| BitVec.ofInt IntKind.i64.bits k).toNat:Int)=((m.toNat ||| k.toNat:Nat):Int):=by
   have g1:(BitVec.ofInt IntKind.i64.bits m).toNat=m.toNat:=by show (BitVec.ofInt 64 m).toNat=_;rw [BitVec.toNat_ofInt];omega
   have g2:(BitVec.ofInt IntKind.i64.bits k).toNat=k.toNat:=by show (BitVec.ofInt 64 k).toNat=_;rw [BitVec.toNat_ofInt];omega
   rw [BitVec.toNat_or,g1,g2];exact Zdx (by omega) (by omega)
  simp only [execOp,e1,e2,eqGuard_or,binOp_or,Op.intBits,Sem.run_bind,Sem.run_pure,Result.andThen_ok];exact congrArg (fun z=>Result.ok (Next.value (Value.int .i64 z)) w) e3
 ·cases h
theorem OpD.shri {x y:Operand} {τ σ:Ty} {t u:TypeId} {m k z:Int} [hsx:Has Γ x τ] [hx:ToD τ Int inferInstance m] [hsy:Has Γ y σ] [hy:AsCnt σ k] (h:shrI m k=some z) :
  OpY P B0 A Ω Γ ⟨dst,.binOp .shr t x y u,ty,pos,aft,gd⟩ (D z):=fun a w hB hu hp hl=>by
 unfold shrI at h;split at h
 ·rename_i hc
  injection h with h;subst h;have h1:=hx.le _ _ _ (Zt (x:=x) (τ:=τ) (op:=.binOp .shr t x y u) (by simp [Op.operands]) hl);have hm:=D.wf h1;have hm:ZeD m:=hm;unfold ZeD at hm;have hd0:0≤m/2 ^ k.toNat:=Int.ediv_nonneg hc.1 (Int.pow_nonneg (by decide));have hd1:m/2 ^ k.toNat≤m:=Int.ediv_le_self _ hc.1;refine Zdt (I_D (by omega) (by omega)) (OpY.val fun a w hl=>⟨.int .i64 (m/2 ^ k.toNat),?_,rfl⟩) a w hB hu hp hl;have e1:a.eval x=.int .i64 m:=D_I _ _ _ (hx.le _ _ _ (Zt (x:=x) (τ:=τ) (op:=.binOp .shr t x y u) (by simp [Op.operands]) hl));obtain ⟨K,e2⟩:=hy.ex _ _ _ (Zt (x:=y) (τ:=σ) (op:=.binOp .shr t x y u) (by simp [Op.operands]) hl);have e3:m.fdiv ((2:Int) ^ (Min.min k.toNat IntKind.i64.bits:Nat))=m/2 ^ k.toNat:=by
   rw [Int.fdiv_eq_ediv_of_nonneg _ (Int.pow_nonneg (by decide))];rcases Nat.le_total k.toNat 64 with hs | hs
   ·rw [show Min.min k.toNat IntKind.i64.bits=k.toNat from Nat.min_eq_left hs]
   ·rw [show Min.min k.toNat IntKind.i64.bits=64 from Nat.min_eq_right hs];have hp:(2:Nat) ^ 64≤2 ^ k.toNat:=Nat.pow_le_pow_right (by decide) hs;have hp2:(2:Int) ^ 64≤2 ^ k.toNat:=by exact_mod_cast hp
    rw [Int.ediv_eq_zero_of_lt hc.1 (by omega),Int.ediv_eq_zero_of_lt hc.1 (by omega)]
  simp only [execOp,e1,e2,eqGuard_shr,binOp_shr,Op.shift];rw [if_neg (by omega)];simp only [e3,Sem.run_bind,Sem.run_pure,Result.andThen_ok]
 ·cases h
theorem OpD.shli {x y:Operand} {τ σ:Ty} {t u:TypeId} {m k z:Int} [hsx:Has Γ x τ] [hx:ToD τ Int inferInstance m] [hsy:Has Γ y σ] [hy:AsCnt σ k] (h:shlI m k=some z) :
  OpY P B0 A Ω Γ ⟨dst,.binOp .shl t x y u,ty,pos,aft,gd⟩ (D z):=fun a w hB hu hp hl=>by
 unfold shlI at h;split at h
 ·rename_i hc
  injection h with h;subst h;have hd0:0≤m*2 ^ k.toNat:=Int.mul_nonneg hc.1 (Int.pow_nonneg (by decide));refine Zdt (I_D (by omega) (by omega)) (OpY.val fun a w hl=>⟨.int .i64 (m*2 ^ k.toNat),?_,rfl⟩) a w hB hu hp hl;have e1:a.eval x=.int .i64 m:=D_I _ _ _ (hx.le _ _ _ (Zt (x:=x) (τ:=τ) (op:=.binOp .shl t x y u) (by simp [Op.operands]) hl));obtain ⟨K,e2⟩:=hy.ex _ _ _ (Zt (x:=y) (τ:=σ) (op:=.binOp .shl t x y u) (by simp [Op.operands]) hl);have e3:IntKind.i64.wrap (m*(2:Int) ^ (Min.min k.toNat IntKind.i64.bits:Nat))=m*2 ^ k.toNat:=by
   rw [show Min.min k.toNat IntKind.i64.bits=k.toNat from Nat.min_eq_left (show k.toNat≤64 by omega)];exact Zdx (by omega) (by omega)
  simp only [execOp,e1,e2,eqGuard_shl,binOp_shl,Op.shift];rw [if_neg (by omega)];simp only [e3,Sem.run_bind,Sem.run_pure,Result.andThen_ok]
 ·cases h
end bi
end Go.Proofs.YtkmojgfenlgchaaGreatDoor.Tr
namespace Go.Proofs.YtkmojgfenlgchaaGreatDoor.Tr
open Go Go.RowKit Go.MapKept
def iKey (k:Int):Value:=.int .i64 k
def MapIs (w:World) (N:Nat) (M:List Int):Prop:=
 ∃ es clock,w.heap[N]?=some (.map es clock)∧es.toList.map (·.key)=M.map iKey∧∀ e∈es.toList,e.val=.agg #[]
theorem MapIs.lt {w:World} {N:Nat} {M:List Int} (h:MapIs w N M):N<w.heap.size:=by
 obtain ⟨es,c,h,-⟩:=h;rcases Nat.lt_or_ge N w.heap.size with h1 | h1
 ·exact h1
 ·rw [Array.getElem?_eq_none h1] at h;cases h
structure Ep (r0:Ref) (N:Nat) (M:List Int) (r:Ref):Prop where
 a:∀ k,r.A k↔(r0.A k∧k≠N)
 sub:∀ k,r.S k→r0.w.heap.size≤k∨r0.S k
 mt:Mut r0.S r0.w r.w
 op:Opens r
 nS:¬ r.S N
 new:r0.w.heap.size≤N
 mp:MapIs r.w N M
 rh:r.ρ=r0.ρ
 dq:r.ds=r0.ds
theorem Ep.cur {r0 r:Ref} {N:Nat} {M:List Int} {n:Nat} {Γ:Env} {Ω:List Pe} {a:Act} {w:World} (h:Ep r0 N M r) (s:Stt r n Γ Ω a w):MapIs w N M:=by
 obtain ⟨es,c,h1,h2,h3⟩:=h.mp;exact ⟨es,c,by rw [s.mu.same N h.mp.lt h.nS];exact h1,h2,h3⟩
theorem Ep.nOwn {r0 r:Ref} {N:Nat} {M:List Int} {n:Nat} {Γ:Env} {Ω:List Pe} {a:Act} {w:World} (h:Ep r0 N M r) (s:Stt r n Γ Ω a w):¬ Own Ω N:=fun ho=>by
 rcases s.pv.own N ho with h1 | h1
 ·have:=h.mp.lt;omega
 ·exact h.nS h1
theorem Ep.back {r0 r:Ref} {N:Nat} {M:List Int} {n:Nat} {Γ:Env} {Ω:List Pe} {a:Act} {w:World} (h:Ep r0 N M r) (s:Stt r n Γ Ω a w):Stt r0 n Γ Ω a w:=by
 have hk:Keep (Pub r.A Ω) (Pub r0.A Ω) w w:=Keep.mono fun k _ hk=>ZE.2 ⟨((h.a k).1 (ZE.1 hk).1).1,(ZE.1 hk).2⟩
 refine ⟨s.sz,s.df.trans h.dq,⟨s.mu.os.trans h.mt.os,s.mu.tape.trans h.mt.tape,s.mu.output.trans h.mt.output,Nat.le_trans h.mt.size s.mu.size,fun k hk hs=>?_⟩,fun t=>(Γ t).keep hk (s.ty t),⟨fun k hk=>?_,s.pv.ks.keep hk fun j _ _=>Zed.refl _,s.pv.ap⟩⟩
 ·rw [s.mu.same k (Nat.lt_of_lt_of_le hk h.mt.size) (fun hS=>by rcases h.sub k hS with h1 | h1;omega;exact hs h1)];exact h.mt.same k hk hs
 ·rcases s.pv.own k hk with h1 | h1
  ·exact .inl (Nat.le_trans h.mt.size h1)
  ·exact h.sub k h1
section rules
variable {P:Program} {r0 r:Ref} {n:Nat} {Γ:Env} {Ω:List Pe} {Q:Exit→Act→World→Prop} {N:Nat} {M:List Int}
theorem ZfM {e:Exit} (h:Ep r0 N M r) (k:TE r0 n Γ Ω Q e):TE r n Γ Ω Q e:=fun a w hs=>k a w (h.back hs)
def CutM {σ ν:Type} (r0:Ref) (N:Nat) (n:Nat) (p:σ→Prop) (Mf:σ→List Int) (Δ:σ→ν→Env) (J:σ→ν→List Pe) (Q:Exit→Act→World→Prop):Exit→Act→World→Prop
 | .normal,a,w=>∃ s m r,p s∧Ep r0 N (Mf s) r∧Stt r n (Δ s m) (J s m) a w
 | e,a,w=>Q e a w
theorem Zlb {σ ν:Type} {c:Code} (h0:Ep r0 N M r) (p:σ→Prop) (Mf:σ→List Int) (Δ:σ→ν→Env) (J:σ→ν→List Pe) (h:TC P r n Γ Ω c (CutM r0 N n p Mf Δ J Q)) (k:∀ s m,p s→∀ r,Ep r0 N (Mf s) r→TE r n (Δ s m) (J s m) Q .normal):TC P r n Γ Ω c Q:=fun a w hs=>wpIn_mono (h a w hs) fun e a' w' hq=>by
 cases e with
 | normal=>obtain ⟨s,m,r,h1,h2,h3⟩:=hq;exact k s m h1 r h2 a' w' h3
 | _=>exact hq
theorem ZiC {σ ν:Type} {p:σ→Prop} {Mf:σ→List Int} {Δ:σ→ν→Env} {J:σ→ν→List Pe} (h0:Ep r0 N M r) (s:σ) (m:ν) (hp:p s) (hM:M=Mf s) (h:Γ.le (Δ s m)) (j:Less Ω (J s m)):TE r n Γ Ω (CutM r0 N n p Mf Δ J Q) .normal:=
 fun _ _ hs=>⟨s,m,r,hp,hM▸h0,(hs.le h).less j⟩
theorem ZhV {σ ν:Type} {p:σ→Prop} {Mf:σ→List Int} {Δ:σ→ν→Env} {J:σ→ν→List Pe} (h:TE r n Γ Ω Q .ret):TE r n Γ Ω (CutM r0 N n p Mf Δ J Q) .ret:=h
theorem Zl4 {σ ε ν:Type} {f:σ→Option (σ⊕ε)} {s0:σ} {e:ε} {c:Code} (hl:ZM f s0=some e) (h00:Ep r0 N M r) (Mf:σ→List Int) (I:σ→ν→Env) (J:σ→ν→List Pe) (m0:ν) (hM:M=Mf s0) (h0:Γ.le (I s0 m0)) (j0:Less Ω (J s0 m0))
  (round:∀ s m x,f s=some x→(∀ e',x=.inr e'→e'=e)→∀ r,Ep r0 N (Mf s) r→TC P r n (I s m) (J s m) c (Exit.then (fun a w=>∃ s' m' r,x=.inl s'∧Ep r0 N (Mf s') r∧Stt r n (I s' m') (J s' m') a w) Q)):TC P r n Γ Ω (.loop c) Q:=by
 intro a w hs b k cs hro hb hr;have key:∀ (m:Nat) (s:σ) (v:ν) (r:Ref) a w,Zfa f m s=some e→Ep r0 N (Mf s) r→Stt r n (I s v) (J s v) a w→
   ∃ e a' w',Q e a' w'∧ArrivesIn (Machine.fenced P (FR none)) P (lone (b.atR a (.code c :: .inLoop c::k)) cs w) b k cs e a' w':=by
  intro m
  induction m with
  | zero=>intro s v r a w hg;cases hg
  | succ m ih=>
   intro s v r a w hg hE hI;unfold Zfa at hg;cases hf:f s with
   | none=>rw [hf] at hg;cases hg
   | some x=>
    rw [hf] at hg;obtain ⟨ex,a₁,w₁,hq,harr⟩:=round s v x hf (fun e' h=>by subst h;injection hg) r hE a w hI b (.inLoop c::k) cs (by rw [hE.rh,← h00.rh];exact hro) trivial (fun d hd=>by cases hd);cases ex with
    | normal=>
     obtain ⟨s',m',r',hx,hE',hI₁⟩:=hq;subst hx;obtain ⟨e₂,a₂,w₂,hq₂,harr₂⟩:=ih s' m' r' a₁ w₁ hg hE' hI₁;exact ⟨e₂,a₂,w₂,hq₂,.of_steps (StepsIn.trans harr (.one (fenced_calm (F:=FR none) (n:=0) trivial (fun d hd=>by cases hd) rfl) stepR_inLoop)) harr₂⟩
    | exit id=>exact ⟨_,a₁,w₁,hq,.pass (x:=.inLoop c) rfl (fun _ _=>.inl (by simp)) harr⟩
    | goto l=>exact ⟨_,a₁,w₁,hq,.pass (x:=.inLoop c) rfl (fun _ _=>.inl (by simp)) harr⟩
    | ret=>exact ⟨_,a₁,w₁,hq,.pass (x:=.inLoop c) rfl (fun _ _=>.inl (by simp)) harr⟩
    | panic ch=>exact ⟨_,a₁,w₁,hq,.pass (x:=.inLoop c) rfl (fun _ _=>.inl (by simp)) harr⟩
    | outgrown=>exact ⟨_,a₁,w₁,hq,.pass (x:=.inLoop c) rfl (fun _ _=>.inl (by simp)) harr⟩
 obtain ⟨e',a',w',hq,harr⟩:=key _ s0 m0 r a w hl (hM▸h00) ((hs.le h0).less j0);exact ⟨e',a',w',hq,.of_steps (.one (fenced_calm (F:=FR r.ρ) (n:=0) trivial (fun d hd=>by cases hd) rfl) stepR_loop) harr⟩
theorem Zl3 {σ ε ν:Type} {Mf:σ→List Int} {I:σ→ν→Env} {J:σ→ν→List Pe} {x:σ⊕ε} (h0:Ep r0 N M r) (s':σ) (m':ν) (hx:x=.inl s') (hM:M=Mf s') (h:Γ.le (I s' m')) (j:Less Ω (J s' m')) :
  TE r n Γ Ω (Exit.then (fun a w=>∃ s' m' r,x=.inl s'∧Ep r0 N (Mf s') r∧Stt r n (I s' m') (J s' m') a w) Q) .normal:=fun _ _ hs=>⟨s',m',r,hx,hM▸h0,(hs.le h).less j⟩
end rules
def putM (M:List Int) (k:Int):List Int:=if k∈M then M else M++[k]
def MapT (N:Nat):Ty:=Ex (.map (some N))
def EmpT:Ty:=Ex (.agg #[])
theorem Ep.put {r0 r:Ref} {N:Nat} {M M':List Int} {n:Nat} {Γ:Env} {Ω:List Pe} {a:Act} {w:World} {es:Array MapEntry} {c:Nat} (h:Ep r0 N M r) (s:Stt r n Γ Ω a w)
  (hm:MapIs { w with heap:=w.heap.setIfInBounds N (.map es c) } N M'):∃ r',Ep r0 N M' r'∧Stt r' n Γ Ω a { w with heap:=w.heap.setIfInBounds N (.map es c) }:=by
 have hno:=h.nOwn s;have hlt:N<w.heap.size:=(h.cur s).lt;have hsame:∀ k,k≠N→({ w with heap:=w.heap.setIfInBounds N (.map es c) }:World).heap[k]?=w.heap[k]?:=fun k hk=>by
  show (w.heap.setIfInBounds N _)[k]?=_;rw [Array.getElem?_setIfInBounds_ne (Ne.symm hk)]
 have hsz:({ w with heap:=w.heap.setIfInBounds N (.map es c) }:World).heap.size=w.heap.size:=by simp
 have hA:∀ k,Pub r.A Ω k→k≠N:=fun k hk=>((h.a k).1 (ZE.1 hk).1).2
 have hin:∀ k,Own Ω k→k≠N:=fun k hk e=>hno (e▸hk)
 have hkeep:Keep (Pub r.A Ω) (Pub r.A Ω) w { w with heap:=w.heap.setIfInBounds N (.map es c) }:=⟨by rw [hsz];exact Nat.le_refl _,fun k _ hk=>⟨hk,by rw [hsame k (hA k hk)];exact Zed.refl _⟩⟩;refine ⟨⟨{ w with heap:=w.heap.setIfInBounds N (.map es c) },r.A,Own Ω,fun k hk=>r.up k (Nat.le_trans s.mu.size (by rw [← hsz];exact hk)),r.ρ,r.ds⟩,⟨h.a,fun k hk=>?_,?_,⟨fun k hk=>?_⟩,hno,h.new,hm,h.rh,h.dq⟩,⟨s.sz,s.df,Mut.refl _ _,fun t=>(Γ t).keep hkeep (s.ty t),⟨fun k hk=>.inr hk,s.pv.ks.keep hkeep fun j hj ho=>by rw [hsame j (hin j ho)];exact Zed.refl _,s.pv.ap⟩⟩⟩
 ·rcases s.pv.own k hk with h1 | h1
  ·exact .inl (Nat.le_trans h.mt.size h1)
  ·exact h.sub k h1
 ·have hb:=(h.back s).mu;refine ⟨hb.os,hb.tape,hb.output,Nat.le_trans hb.size (by rw [hsz];exact Nat.le_refl _),fun k hk hS=>?_⟩;rw [hsame k (fun e=>by have:=h.new;omega)];exact hb.same k hk hS
 ·rcases hk with hk | hk
  ·exact r.up k (Nat.le_trans s.mu.size (by rw [← hsz];exact hk))
  ·exact h.op.h k (s.pv.own k hk)
section ops
variable {P:Program} {r0 r:Ref} {n:Nat} {Γ:Env} {Ω:List Pe} {Q:Exit→Act→World→Prop} {N:Nat} {M:List Int} {ops:Array Oper} {k:Nat} {rest:List Oper}
variable {t kt et ty:TypeId} {d:Tmp} {pos:String} {aft:Array Edge}
class TMap (P:Program) (t:TypeId) (kt et:outParam TypeId):Prop where
 h:P.underlying t=some (.map kt et)
 k:P.underlying kt=some (.int .i64)
 z:∃ ti z,P.info? et=some ti∧ti.zero=some z∧z=.agg #[]
theorem TS.step {o:Oper} {a:Act} {w w':World} {v:Value} (hg:o.guard=none) (hrun:(execOp a.eval o).run P w=.ok (.value v) w')
  (hl:∀ j,(o::rest)[j]?=ops[k+j]?) {ρ:Option Nat} (hk:wpOpsIn (FR ρ) 0 P ops Q (List.range' (k+1) rest.length) (a.put o.dst v) w'):wpOpsIn (FR ρ) 0 P ops Q (List.range' k (o::rest).length) a w:=by
 have h0:ops[k]?=some o:=by simpa using (hl 0).symm
 simp only [List.length_cons,List.range'_succ];rw [wpOpsIn_cons];unfold wpOpIn;simp only [h0,Region.wanted,hg,if_true];have hn:∀ c,o.op≠.defer c:=fun c hc=>by rcases Zml (ρ:=a.eval) (P:=P) (w:=w) hc with ⟨d,w',e⟩ | ⟨x,w',e⟩ <;> rw [e] at hrun <;> cases hrun
 refine ⟨fun _ _=>trivial,?_⟩;rw [Oper.semAt_eq _ _ _ hn,hrun];exact hk
theorem Zgi {o:Oper} (hl:∀ j,(o::rest)[j]?=ops[k+j]?):∀ j,rest[j]?=ops[k+1+j]?:=fun j=>by have:=hl (j+1);simpa [Nat.add_assoc,Nat.add_comm 1 j] using this
theorem Zkx {hint : Option Operand} [op : Opens r0] (hd : Nat.blt d n = true)
    (hrun : ∀ a w, Stt r0 n Γ Ω a w → (execOp a.eval ⟨some d, .makeMap t hint, ty, pos, aft, none⟩).run P w = .ok (.value (.map (some w.heap.size))) (w.alloc (.map #[] 0)))
    (hk : ∀ N r, Ep r0 N [] r → TS P r n ops rest (k + 1) (Γ.set d (MapT N)) Ω Q) : TS P r0 n ops (⟨some d, .makeMap t hint, ty, pos, aft, none⟩ :: rest) k Γ Ω Q := fun hl a w hs => by
  refine TS.step rfl (hrun a w hs) hl ?_
  have hown : ∀ k, Own Ω k → k < w.heap.size := fun k hk => hs.pv.ks.lt hk
  have hh : ∀ k, k < w.heap.size → (w.alloc (.map #[] 0)).heap[k]? = w.heap[k]? := (heap_alloc w _).2
  have hsz : (w.alloc (.map #[] 0)).heap.size = w.heap.size + 1 := World.size_alloc _ _
  have hkeep : Keep (Pub r0.A Ω) (Pub (fun k => r0.A k ∧ k ≠ w.heap.size) Ω) w (w.alloc (.map #[] 0)) := ⟨by omega, fun k hk hp => ⟨ZE.2 ⟨⟨(ZE.1 hp).1, by omega⟩, (ZE.1 hp).2⟩, by rw [hh k hk]; exact Zed.refl _⟩⟩
  refine hk w.heap.size ⟨w.alloc (.map #[] 0), fun k => r0.A k ∧ k ≠ w.heap.size, Own Ω, fun k hk => ⟨r0.up k (by have := hs.mu.size; omega), by omega⟩, r0.ρ, r0.ds⟩ ⟨fun k => Iff.rfl, fun k hk => hs.pv.own k hk, ?_, ⟨fun k hk => ?_⟩, fun hN => by have := hown _ hN; omega, hs.mu.size, ⟨#[], 0, (heap_alloc w _).1, rfl, fun e he => by simp at he⟩, rfl, rfl⟩ (Zgi hl) _ _ ?_
  · exact ⟨hs.mu.os, hs.mu.tape, hs.mu.output, by have := hs.mu.size; rw [hsz]; omega, fun k hk hS => by rw [hh k (by have := hs.mu.size; omega)]; exact hs.mu.same k hk hS⟩
  · rcases hk with hk | hk
    · exact ⟨r0.up k (by have := hs.mu.size; have h2 : w.heap.size + 1 ≤ k := by rw [← hsz]; exact hk
                         omega), by have h2 : w.heap.size + 1 ≤ k := by rw [← hsz]; exact hk
                                    omega⟩
    · exact ⟨op.h k (hs.pv.own k hk), by have := hown k hk; omega⟩
  · obtain ⟨h1, h2, h3⟩ := tmps_put (a := a) (d := some d) (τ := MapT w.heap.size) (v := .map (some w.heap.size)) (w' := w.alloc (.map #[] 0)) hs.sz (fun t ht => by injection ht with ht; subst ht; simpa using hd) (fun t => (Γ t).keep hkeep (hs.ty t)) rfl
    exact ⟨h1, h2.trans hs.df, Mut.refl _ _, h3, ⟨fun k hk => .inr hk, hs.pv.ks.keep hkeep fun j hj _ => by rw [hh j hj]; exact Zed.refl _, hs.pv.ap⟩⟩
theorem TS.makeMap [op:Opens r0] (hd:Nat.blt d n=true) (hk:∀ N r,Ep r0 N [] r→TS P r n ops rest (k+1) (Γ.set d (MapT N)) Ω Q):TS P r0 n ops (⟨some d,.makeMap t none,ty,pos,aft,none⟩::rest) k Γ Ω Q:=
 Zkx hd (fun a w _=>by simp [execOp,Instr.makeMap]) hk
theorem TS.makeMapN [op:Opens r0] {x:Operand} {τ:Ty} {q:Int} [m:TMap P t kt et] [hx:Has Γ x τ] [hq:AsI τ q] (hd:Nat.blt d n=true) (hk:∀ N r,Ep r0 N [] r→TS P r n ops rest (k+1) (Γ.set d (MapT N)) Ω Q):TS P r0 n ops (⟨some d,.makeMap t (some x),ty,pos,aft,none⟩::rest) k Γ Ω Q:=
 Zkx hd (fun a w hs=>by
  have e1:a.eval x=.int .i64 q:=hq.le _ _ _ (hx.le a _ w fun t _=>hs.ty t);simp [execOp,Instr.makeMap,e1,run_underlying m.h,asInt,asIntOf]) hk
theorem find_key {M : List Int} {q : Int} : ∀ (es : List MapEntry) (i : Nat), es.map (·.key) = M.map iKey →
    (q ∉ M ∧ Instr.findNow (.int .i64) (iKey q) es i = some none) ∨ (q ∈ M ∧ ∃ j e, es[j]? = some e ∧ e.key = iKey q ∧ Instr.findNow (.int .i64) (iKey q) es i = some (some (i + j, e.val))) := by
  induction M with
  | nil => intro es i h; left; have : es = [] := by simpa using h
           subst this; exact ⟨by simp, rfl⟩
  | cons x M ih =>
    intro es i h
    cases es with
    | nil => simp at h
    | cons e es =>
      simp only [List.map_cons, List.cons.injEq] at h
      obtain ⟨h1, h2⟩ := h
      unfold Instr.findNow
      rw [h1]
      by_cases hq : q = x
      · subst hq
        right
        refine ⟨by simp, 0, e, rfl, h1, ?_⟩
        simp [Instr.sameNow, iKey]
      · have hs : Instr.sameNow (.int .i64) (iKey q) (iKey x) = some false := by simp [Instr.sameNow, iKey, hq]
        rw [hs]
        rcases ih es (i + 1) h2 with ⟨g1, g2⟩ | ⟨g1, j, e', g2, g3, g4⟩
        · left; exact ⟨by simp [hq, g1], g2⟩
        · right; exact ⟨by simp [g1], j + 1, e', by simpa using g2, g3, by rw [g4, show i + 1 + j = i + (j + 1) by omega]⟩
theorem TS.mapUpdate {m x y:Operand} {τ:Ty} {q:Int} [T:TMap P t kt et] (h0:Ep r0 N M r) [hm:Has Γ m (MapT N)] [hx:Has Γ x τ] [hq:AsI τ q] [hy:Has Γ y EmpT]
  (hk:∀ r,Ep r0 N (putM M q) r→TS P r n ops rest (k+1) Γ Ω Q):TS P r n ops (⟨none,.mapUpdate t m x y,ty,pos,aft,none⟩::rest) k Γ Ω Q:=fun hl a w hs=>by
 have e1:a.eval m=.map (some N):=hm.le a _ w fun t _=>hs.ty t
 have e2:a.eval x=iKey q:=hq.le _ _ _ (hx.le a _ w fun t _=>hs.ty t);have e3:a.eval y=.agg #[]:=hy.le a _ w fun t _=>hs.ty t
 obtain ⟨es,c,b1,b2,b3⟩:=h0.cur hs;have hkey:IsKey (.int .i64) (iKey q):=rfl;have hck:=run_checkKey (P:=P) (w:=w) (kt:=kt) (k:=iKey q) T.k hkey false 9999;rcases find_key (q:=q) es.toList 0 b2 with ⟨g1,g2⟩ | ⟨g1,j,e,g2,g3,g4⟩
 ·have hf:=run_findKey (P:=P) (w:=w) (kt:=kt) T.k g2;have hrun:(execOp a.eval ⟨none,.mapUpdate t m x y,ty,pos,aft,none⟩).run P w=.ok .skip { w with heap:=w.heap.setIfInBounds N (.map (es.push { key:=iKey q,val:=.agg #[],born:=c }) (c+1)) }:=by
   simp only [execOp,Instr.mapUpdate,e1,e2,e3,Sem.run_bind,run_underlying T.h,Result.andThen_ok,MapKept.run_getObj_map b1,hck,hf,run_setObj_map _ b1,Sem.run_pure]
  obtain ⟨r',p1,p2⟩:=h0.put (M':=putM M q) hs ⟨es.push { key:=iKey q,val:=.agg #[],born:=c },c+1,(heap_set b1).1,by unfold putM;rw [if_neg g1];simp [b2],fun e he=>by
   simp only [Array.toList_push,List.mem_append,List.mem_singleton] at he;rcases he with he | rfl
   ·exact b3 e he
   ·rfl⟩
  have h1:ops[k]?=some ⟨none,.mapUpdate t m x y,ty,pos,aft,none⟩:=by simpa using (hl 0).symm
  simp only [List.length_cons,List.range'_succ];rw [wpOpsIn_cons];unfold wpOpIn;simp only [h1,Region.wanted,if_true];refine ⟨fun _ _=>trivial,?_⟩;rw [Oper.semAt_eq _ _ _ (fun c hc=>by cases hc),hrun];have:=hk r' p1 (Zgi hl) _ _ p2;rw [p1.rh,← h0.rh] at this;exact this
 ·have hf:=run_findKey (P:=P) (w:=w) (kt:=kt) T.k g4;have hes:es[0+j]?=some e:=by rw [Nat.zero_add];simpa using g2
  have hst:=run_keyThatStays (P:=P) (w:=w) hkey;have hrun:(execOp a.eval ⟨none,.mapUpdate t m x y,ty,pos,aft,none⟩).run P w=.ok .skip { w with heap:=w.heap.setIfInBounds N (.map (es.modify (0+j) fun e=>{ e with key:=iKey q,val:=.agg #[] }) c) }:=by
   simp only [execOp,Instr.mapUpdate,e1,e2,e3,Sem.run_bind,run_underlying T.h,Result.andThen_ok,MapKept.run_getObj_map b1,hck,hf,hes,Option.map_some,Option.getD_some,g3,hst,run_setObj_map _ b1,Sem.run_pure]
  obtain ⟨r',p1,p2⟩:=h0.put (M':=putM M q) hs ⟨es.modify (0+j) fun e=>{ e with key:=iKey q,val:=.agg #[] },c,(heap_set b1).1,by
   unfold putM;rw [if_pos g1,modify_keys _ _ (fun e' he'=>by
    rw [hes] at he';injection he' with he';subst he';exact g3.symm),b2],fun e' he'=>by
   obtain ⟨i,hi,hie⟩:=List.getElem_of_mem he';simp only [Array.toList_modify] at hi hie;rw [List.getElem_modify] at hie
   split at hie
   ·rw [← hie]
   ·rw [← hie];exact b3 _ (List.getElem_mem _)⟩
  have h1:ops[k]?=some ⟨none,.mapUpdate t m x y,ty,pos,aft,none⟩:=by simpa using (hl 0).symm
  simp only [List.length_cons,List.range'_succ];rw [wpOpsIn_cons];unfold wpOpIn;simp only [h1,Region.wanted,if_true];refine ⟨fun _ _=>trivial,?_⟩;rw [Oper.semAt_eq _ _ _ (fun c hc=>by cases hc),hrun];have:=hk r' p1 (Zgi hl) _ _ p2;rw [p1.rh,← h0.rh] at this;exact this
theorem Ziz {m x:Operand} {τ:Ty} {q:Int} [T:TMap P t kt et] (h0:Ep r0 N M r) [hm:Has Γ m (MapT N)] [hx:Has Γ x τ] [hq:AsI τ q] (hd:Nat.blt d n=true)
  (hk:TS P r n ops rest (k+1) (Γ.set d (Tup [EmpT,B (decide (q∈M))])) Ω Q):TS P r n ops (⟨some d,.lookup t m x true,ty,pos,aft,none⟩::rest) k Γ Ω Q:=fun hl a w hs=>by
 have e1:a.eval m=.map (some N):=hm.le a _ w fun t _=>hs.ty t
 have e2:a.eval x=iKey q:=hq.le _ _ _ (hx.le a _ w fun t _=>hs.ty t);obtain ⟨es,c,b1,b2,b3⟩:=h0.cur hs;have hkey:IsKey (.int .i64) (iKey q):=rfl;obtain ⟨ti,z,z1,z2,rfl⟩:=T.z;have hck:∀ em,(Instr.checkKey em 10000 kt (iKey q)).run P w=.ok () w:=fun em=>run_checkKey (P:=P) (w:=w) (kt:=kt) (k:=iKey q) T.k hkey em 9999
 have hrun:(execOp a.eval ⟨some d,.lookup t m x true,ty,pos,aft,none⟩).run P w=.ok (.value (.tuple #[.agg #[],.bool (decide (q∈M))])) w:=by
  rcases find_key (q:=q) es.toList 0 b2 with ⟨g1,g2⟩ | ⟨g1,j,e,g2,g3,g4⟩
  ·have hf:=run_findKey (P:=P) (w:=w) (kt:=kt) T.k g2;simp [execOp,Instr.lookup,e1,e2,run_underlying T.h,MapKept.run_getObj_map b1,hck,hf,zeroValue,typeInfo,z1,z2,g1]
  ·have hf:=run_findKey (P:=P) (w:=w) (kt:=kt) T.k g4;have hv:=b3 e (List.mem_of_getElem? g2);simp [execOp,Instr.lookup,e1,e2,run_underlying T.h,MapKept.run_getObj_map b1,hck,hf,hv,g1]
 refine TS.step rfl hrun hl (hk (Zgi hl) _ _ (hs.put (d:=some d) (fun t ht=>by injection ht with ht;subst ht;simpa using hd) (Grow.refl _ _) ⟨[.agg #[],.bool (decide (q∈M))],rfl,rfl,fun i hi=>?_⟩))
 match i,hi with
 | 0,_=>rfl
 | 1,_=>rfl
end ops
section sn
variable {P:Program} {r:Ref} {n:Nat} {Γ:Env} {Ω:List Pe} {Q:Exit→Act→World→Prop} {ops:Array Oper} {k:Nat} {rest:List Oper} {op:Op} {ty:TypeId} {pos:String} {aft:Array Edge}
theorem TS.sn {τ:Ty} (h:∀ {A:Nat→Prop},OpY P r.w.heap.size A Ω Γ ⟨none,op,ty,pos,aft,none⟩ τ) (hk:TS P r n ops rest (k+1) Γ Ω Q):TS P r n ops (⟨none,op,ty,pos,aft,none⟩::rest) k Γ Ω Q:=
 TS.G (τ:=τ) (fun t ht=>by cases ht) (fun A a w hB hu hp hl=>by
  rw [if_pos (by simp [Region.wanted])];exact h a w hB hu hp fun t ht=>hl t (Zhb ht)) hk
end sn
section emp
variable {P:Program} {B0:Nat} {A:Nat→Prop} {Ω:List Pe} {Γ:Env} {dst:Option Tmp} {ty:TypeId} {pos:String} {aft:Array Edge} {gd:Option (Nat×Bool)} {t:TypeId}
def PtrE:Ty:=⟨fun _ _ v=>∃ b,v=.pointer (some ⟨b,0,none⟩),fun _ h=>h⟩
class TEmp (P:Program) (t:TypeId):Prop where
 b:P.built t []=some #[]
 z:∃ ti z,P.info? t=some ti∧ti.zero=some z∧z=.agg #[]∧ti.size=0
theorem Zlg [T:TEmp P t]:OpY P B0 A Ω Γ ⟨dst,.build t #[],ty,pos,aft,gd⟩ EmpT:=
 OpY.val fun a w hl=>⟨.agg #[],by
  have hb:P.built t ((#[].map fun (i,x)=>(i,a.eval x)).toList)=some #[]:=by simpa using T.b
  simp only [execOp,Sem.run_bind,run_build w t _ #[] hb,Result.andThen_ok,Sem.run_pure],rfl⟩
theorem Zlh [T:TEmp P t]:OpY P B0 A Ω Γ ⟨dst,.alloc t,ty,pos,aft,gd⟩ PtrE:=fun a w hB hu hp hl=>by
 obtain ⟨ti,z,z1,z2,rfl,z3⟩:=T.z;have hrun:(execOp a.eval ⟨dst,.alloc t,ty,pos,aft,gd⟩).run P w=.ok (.value (.pointer (some ⟨w.heap.size,0,none⟩))) (w.alloc (.cells #[] t)):=by
  simp [execOp,Instr.alloc,zeroValue,typeInfo,z1,z2,newVar,newRow,Value.cells]
 rw [hrun];exact ⟨Grow.push _ hB,_,rfl⟩
theorem Zle [T:TEmp P t] {p x:Operand} [hp:Has Γ p PtrE] [hx:Has Γ x EmpT]:OpY P B0 A Ω Γ ⟨dst,.store t p x,ty,pos,aft,gd⟩ Ty.any:=fun a w hB hu hpk hl=>by
 obtain ⟨b,e1⟩:=Zt (x:=p) (τ:=PtrE) (op:=.store t p x) (by simp [Op.operands]) hl;have e2:a.eval x=.agg #[]:=Zt (x:=x) (τ:=EmpT) (op:=.store t p x) (by simp [Op.operands]) hl;obtain ⟨ti,z,z1,z2,rfl,z3⟩:=T.z;have hrun:(execOp a.eval ⟨dst,.store t p x,ty,pos,aft,gd⟩).run P w=.ok .skip w:=by
  simp [execOp,Instr.storeAt,e1,e2,Instr.sureAddr,storeVar,sizeOf,typeInfo,z1,z3,Value.cells,storeCells]
 rw [hrun];exact ⟨Grow.refl _ _,trivial⟩
end emp
end Go.Proofs.YtkmojgfenlgchaaGreatDoor.Tr
namespace Go.Proofs.YtkmojgfenlgchaaGreatDoor.Tr
open Go Go.RowKit
section op
variable {P:Program} {B:Nat} {Ωs Ωt:List Pe} {ops:Array Oper}
theorem ZhX {Γ1 Γ2:Env} {o:Oper} {ν:Type} {τ:ν→Ty} {Ω':ν→List Pe} (h:OpT P B Ωs Ωt Γ1 o τ Ω') (he:∀ t∈o.looksAt ops,(Γ2 t).le (Γ1 t)):OpT P B Ωs Ωt Γ2 o τ Ω':=
 ⟨h.1,fun A0 a w hB hu ho ha hp hl=>h.2 A0 a w hB hu ho ha hp fun t ht=>he t (Zhb ht) _ _ _ (hl t ht)⟩
theorem ZjP {Γ1 Γ2:Env} {o:Oper} {τ:Ty} (h:OpG P B ops Ωs Γ1 o τ) (he:∀ t∈o.looksAt ops,(Γ2 t).le (Γ1 t)):OpG P B ops Ωs Γ2 o τ:=
 fun A a w hB hu hp hl=>h A a w hB hu hp fun t ht=>he t ht _ _ _ (hl t ht)
theorem OpG.more {Γ:Env} {o:Oper} {τ:Ty} {Ω2:List Pe} (h:OpG P B ops Ωs Γ o τ) (hk:∀ A w,Pks A Ω2 w→Pks A Ωs w):OpG P B ops Ω2 Γ o τ:=
 fun A a w hB hu hp hl=>h A a w hB hu (hk _ _ hp) hl
theorem OpT.map {Γ:Env} {o:Oper} {ν ν':Type} {τ:ν→Ty} {τ':ν'→Ty} {Ω1:ν→List Pe} {Ω2:ν'→List Pe} (f:ν→ν') (h1:∀ g,τ' (f g)=τ g) (h2:∀ g,Ω2 (f g)=Ω1 g) (h:OpT P B Ωs Ωt Γ o τ Ω1):OpT P B Ωs Ωt Γ o τ' Ω2:=
 ⟨h.1,fun A0 a w hB hu ho ha hp hl=>by
  have hy:=h.2 A0 a w hB hu ho ha hp hl;generalize (execOp a.eval o).run P w=r at *;cases r with
  | ok x w'=>
   cases x <;> simp only [Zfe] at hy ⊢
   case value v=>obtain ⟨g,hg⟩:=hy;exact ⟨f g,by rw [h1,h2];exact hg⟩
   case skip=>obtain ⟨g,hg⟩:=hy;exact ⟨f g,by rw [h1,h2];exact hg⟩
   case enter g args=>exact hy.mono fun e w' ⟨v,g,he,hg⟩=>⟨v,f g,he,by rw [h1,h2];exact hg⟩
  | halt x w'=>simp only [Zfe] at hy⟩
theorem OpT.perm {Γ:Env} {o:Oper} {ν:Type} {τ:ν→Ty} {Ω':ν→List Pe} {Ω2:List Pe} (hp:Ω2.Perm Ωt) (h:OpT P B Ωs Ωt Γ o τ Ω'):OpT P B Ωs Ω2 Γ o τ fun g=>Ω' g++[]:=
 OpT.frame (Ωt:=Ωt) (Ωr:=[]) (by rw [List.append_nil];exact hp) (by rw [List.append_nil];exact h)
end op
structure Sub (F' F:Fam) where
 h:F'.ν→F.ν
 th:∀ g t,(F'.Θ g t).le (F.Θ (h g) t)
 pm:∀ g,(F'.Ω g).Perm (F.Ω (h g))
 tl:∀ t,t∈F'.tl↔t∈F.tl
theorem put_le {Γ Δ:Env} {τ:Ty} {d:Option Tmp} (h:∀ t,(Γ t).le (Δ t)):∀ t,(Γ.put d τ t).le (Δ.put d τ t):=fun t=>by
 cases d with
 | none=>exact h t
 | some d=>
  simp only [Env.put,Env.set]
  split
  ·exact Ty.le.refl _
  ·exact h t
def Sub.next {F' F:Fam} (s:Sub F' F) (d:Option Tmp) {μ:F.ν→Type} (τ:(g:F.ν)→μ g→Ty) (Ω':(g:F.ν)→μ g→List Pe) (Ω'':(g:F'.ν)→μ (s.h g)→List Pe) (hp:∀ g m,(Ω'' g m).Perm (Ω' (s.h g) m)) :
  Sub (F'.next d (μ:=fun g=>μ (s.h g)) (fun g m=>τ (s.h g) m) Ω'') (F.next d τ Ω') where
 h g:=⟨s.h g.1,g.2⟩
 th g:=put_le (s.th g.1)
 pm g:=hp g.1 g.2
 tl t:=by simp only [Fam.next,List.mem_append,s.tl]
theorem or_le {Θ1 Θ2 Γ:Env} (h:∀ t,(Θ1 t).le (Θ2 t)) (t:Tmp):(Env.or Θ1 Γ t).le (Env.or Θ2 Γ t):=fun A w v x=>⟨h t A w v x.1,x.2⟩
def AllocU (P:Program) (o:Oper) (C:Ct):Prop:=∀ (B:Nat) (Ωs Ω:List Pe) (Γ:Env),OpT P B Ωs Ω Γ o (fun b:Nat=>Pt b 0) fun b=>⟨b,True,C⟩::Ω
theorem AllocU.of {P:Program} {t ty:TypeId} {d:Tmp} {pos:String} {aft:Array Edge} {α:Type} {i:Dat α} {bt:Nat} [T:TEl P t α i bt]:AllocU P ⟨some d,.alloc t,ty,pos,aft,none⟩ (One (Dat.z:α)):=fun B Ωs Ω Γ=>
 OpT.map (fun g:Nat×Unit=>g.1) (fun _=>rfl) (fun _=>rfl) (ZcD (α:=α))
section cls
variable (P:Program) (B:Nat) (Ωs:List Pe) (ops:Array Oper) (n:Nat) (cl:Nat→Nat)
def OpU (Γ:Env) (F:Fam) (o:Oper) {μ:F.ν→Type} (τ:(g:F.ν)→μ g→Ty) (Ω':(g:F.ν)→μ g→List Pe):Prop:=
 ∀ Ωr g,OpT P B (Ωs++Ωr) (F.Ω g) (Env.or (F.Θ g) Γ) o (τ g) (Ω' g)
def OpR (Γ:Env) (F:Fam) (o:Oper) (τ:F.ν→Ty):Prop:=∀ g,OpG P B ops (Ωs++F.Ω g) (Env.or (F.Θ g) Γ) o (τ g)
def OpV (Γ:Env) (F:Fam) (o:Oper) (τ:Nat→Ty) (C:Ct):Prop:=∀ (B:Nat) (Ωs Ω:List Pe) (g:F.ν),OpT P B Ωs Ω (Env.or (F.Θ g) Γ) o τ fun b=>⟨b,True,C⟩::Ω
def Stepc (c:Nat) (o:Oper) (K:Env→Fam→Prop) (Γ:Env) (F:Fam):Prop:=
 (c=0∧(∀ t,o.dst=some t→t∉F.tl)∧∃ τ,OpG P B ops Ωs Γ o τ∧K (Γ.put o.dst τ) F)∨
 (c=1∧∃ (μ:F.ν→Type) (τ:(g:F.ν)→μ g→Ty) (Ω':(g:F.ν)→μ g→List Pe),OpU P B Ωs Γ F o τ Ω'∧K (Γ.put o.dst Ty.any) (F.next o.dst τ Ω'))∨
 (c=2∧∃ τ:F.ν→Ty,OpR P B Ωs ops Γ F o τ∧K (Γ.put o.dst Ty.any) (F.next o.dst (μ:=fun _=>Unit) (fun g _=>τ g) fun g _=>F.Ω g))∨
 (c=3∧∃ C,AllocU P o C∧K (Γ.put o.dst Ty.any) (F.next o.dst (μ:=fun _=>Nat) (fun _ b=>Pt b 0) fun g b=>⟨b,True,C⟩::F.Ω g))∨
 (c=4∧∃ (C:Ct) (τ:Nat→Ty),OpV P Γ F o τ C∧K (Γ.put o.dst Ty.any) (F.next o.dst (μ:=fun _=>Nat) (fun _ b=>τ b) fun g b=>⟨b,True,C⟩::F.Ω g))
def tOp2 (i:Nat) (K:Env→Fam→Prop) (Γ:Env) (F:Fam):Prop:=
 match ops[i]? with
 | none=>K Γ F
 | some o=>(∀ t,o.dst=some t→t<n)∧Stepc P B Ωs ops (cl i) o K Γ F
def TRw2:Nat→List Oper→Env→Fam→(Env→Fam→Prop)→Prop
 | _,[],Γ,F,K=>K Γ F
 | k,o::rest,Γ,F,K=>(∀ t,o.dst=some t→t<n)∧Stepc P B Ωs ops (cl k) o (fun Γ F=>TRw2 (k+1) rest Γ F K) Γ F
def TAny2 (md:Region.Mode) (K:Env→Fam→Prop):Nat→Array Bool→Env→Fam→Prop
 | 0,listed,Γ,F=>Region.ready md ops listed=[]∧K Γ F
 | fuel+1,listed,Γ,F=>
  (Region.ready md ops listed=[]→K Γ F)∧
  ∀ i∈Region.ready md ops listed,tOp2 P B Ωs ops n cl i (TAny2 md K fuel (listed.setIfInBounds i true)) Γ F
end cls
def Cl (K:Env→Fam→Prop):Prop:=∀ Γ F F',Sub F' F→K Γ F→K Γ F'
section any
variable {P:Program} {B:Nat} {Ωs:List Pe} {ops:Array Oper} {n:Nat} {cl:Nat→Nat} {md:Region.Mode}
theorem Stepc.mono {c:Nat} {o:Oper} {K K':Env→Fam→Prop} {Γ:Env} {F:Fam} (h:∀ Γ F,K Γ F→K' Γ F) (hh:Stepc P B Ωs ops c o K Γ F):Stepc P B Ωs ops c o K' Γ F:=by
 rcases hh with ⟨h0,h1,τ,h2,h3⟩ | ⟨h0,μ,τ,Ω',h2,h3⟩ | ⟨h0,τ,h2,h3⟩ | ⟨h0,C,h2,h3⟩ | ⟨h0,C,τ,h2,h3⟩
 ·exact .inl ⟨h0,h1,τ,h2,h _ _ h3⟩
 ·exact .inr (.inl ⟨h0,μ,τ,Ω',h2,h _ _ h3⟩)
 ·exact .inr (.inr (.inl ⟨h0,τ,h2,h _ _ h3⟩))
 ·exact .inr (.inr (.inr (.inl ⟨h0,C,h2,h _ _ h3⟩)))
 ·exact .inr (.inr (.inr (.inr ⟨h0,C,τ,h2,h _ _ h3⟩)))
theorem tOp2.mono {i:Nat} {K K':Env→Fam→Prop} {Γ:Env} {F:Fam} (h:∀ Γ F,K Γ F→K' Γ F) (hh:tOp2 P B Ωs ops n cl i K Γ F):tOp2 P B Ωs ops n cl i K' Γ F:=by
 unfold tOp2 at *
 split
 ·rename_i ho;simp only [ho] at hh;exact h _ _ hh
 ·rename_i o ho;simp only [ho] at hh;exact ⟨hh.1,hh.2.mono h⟩
theorem Stepc.sub {c:Nat} {o:Oper} {K:Env→Fam→Prop} (hK:Cl K) {Γ:Env} {F F':Fam} (s:Sub F' F) (hh:Stepc P B Ωs ops c o K Γ F):Stepc P B Ωs ops c o K Γ F':=by
 rcases hh with ⟨h0,h1,τ,h2,h3⟩ | ⟨h0,μ,τ,Ω',h2,h3⟩ | ⟨h0,τ,h2,h3⟩ | ⟨h0,C,h2,h3⟩ | ⟨h0,C,τ,h2,h3⟩
 ·exact .inl ⟨h0,fun t ht hm=>h1 t ht ((s.tl t).1 hm),τ,h2,hK _ _ _ s h3⟩
 ·refine .inr (.inl ⟨h0,fun g=>μ (s.h g),fun g m=>τ (s.h g) m,fun g m=>Ω' (s.h g) m++[],fun Ωr g=>ZhX (ops:=ops) (OpT.perm (s.pm g) (h2 Ωr (s.h g))) fun t _=>or_le (s.th g) t,hK _ _ _ (s.next _ _ _ _ fun g m=>by rw [List.append_nil]) h3⟩)
 ·refine .inr (.inr (.inl ⟨h0,fun g=>τ (s.h g),fun g=>OpG.more (ZjP (h2 (s.h g)) fun t _=>or_le (s.th g) t) fun A w hk e he=>hk e (((s.pm g).append_left Ωs).mem_iff.2 he),hK _ _ _ (s.next o.dst (μ:=fun _=>Unit) (fun g _=>τ g) (fun g _=>F.Ω g) (fun g _=>F'.Ω g) fun g m=>s.pm g) h3⟩))
 ·exact .inr (.inr (.inr (.inl ⟨h0,C,h2,hK _ _ _ (s.next o.dst (μ:=fun _=>Nat) (fun _ b=>Pt b 0) (fun g b=>⟨b,True,C⟩::F.Ω g) (fun g b=>⟨b,True,C⟩::F'.Ω g) fun g m=>(s.pm g).cons _) h3⟩)))
 ·exact .inr (.inr (.inr (.inr ⟨h0,C,τ,fun B Ωs Ω g=>ZhX (ops:=ops) (h2 B Ωs Ω (s.h g)) fun t _=>or_le (s.th g) t,hK _ _ _ (s.next o.dst (μ:=fun _=>Nat) (fun _ b=>τ b) (fun g b=>⟨b,True,C⟩::F.Ω g) (fun g b=>⟨b,True,C⟩::F'.Ω g) fun g m=>(s.pm g).cons _) h3⟩)))
theorem tOp2.sub {i:Nat} {K:Env→Fam→Prop} (hK:Cl K):Cl (tOp2 P B Ωs ops n cl i K):=fun Γ F F' s hh=>by
 unfold tOp2 at *
 split
 ·rename_i ho;simp only [ho] at hh;exact hK _ _ _ s hh
 ·rename_i o ho;simp only [ho] at hh;exact ⟨hh.1,hh.2.sub hK s⟩
theorem TAny2.sub {K:Env→Fam→Prop} (hK:Cl K):∀ (fuel:Nat) (listed:Array Bool),Cl (TAny2 P B Ωs ops n cl md K fuel listed)
 | 0,_=>fun Γ F F' s h=>⟨h.1,hK _ _ _ s h.2⟩
 | fuel+1,listed=>fun Γ F F' s h=>⟨fun h0=>hK _ _ _ s (h.1 h0),fun i hi=>tOp2.sub (TAny2.sub hK fuel _) _ _ _ s (h.2 i hi)⟩
def Cmp (c d:Nat):Prop:=c=0∨d=0∨d=3∨(c=2∧d=2)∨(c=2∧d=4)
theorem exch {j:Nat} {oi oj:Oper} {ci:Nat} (hj:ops[j]?=some oj) (hap:oi.apart ops oj=true) (hc:Cmp ci (cl j)) {K:Env→Fam→Prop} (hK:Cl K) {Γ:Env} {F:Fam}
  (h:Stepc P B Ωs ops ci oi (tOp2 P B Ωs ops n cl j K) Γ F):tOp2 P B Ωs ops n cl j (fun Γ' F'=>Stepc P B Ωs ops ci oi K Γ' F') Γ F:=by
 obtain ⟨a1,a2,a3⟩:=Oper.apart_spec hap;have e1:∀ (Γ:Env) (τ:Ty),∀ t∈oj.looksAt ops,Γ.put oi.dst τ t=Γ t:=fun Γ τ t ht=>Zci Γ τ fun e=>a1 t e ht
 have e2:∀ (Γ:Env) (τ:Ty),∀ t∈oi.looksAt ops,Γ.put oj.dst τ t=Γ t:=fun Γ τ t ht=>Zci Γ τ fun e=>a3 t e ht
 have pc:∀ (Γ:Env) (τ σ:Ty),(Γ.put oi.dst τ).put oj.dst σ=(Γ.put oj.dst σ).put oi.dst τ:=fun Γ τ σ=>ZgM Γ τ σ a2
 unfold tOp2 at *;simp only [hj] at *;rcases h with ⟨c0,hoff,τi,hi,hd,h⟩ | ⟨c0,μi,τi,Ωi,hi,hd,h⟩ | ⟨c0,τi,hi,hd,h⟩ | ⟨c0,Ci,hi,hd,h⟩ | ⟨c0,Ci,τi,hi,hd,h⟩
 · -- i touches nothing
  refine ⟨hd,?_⟩;rcases h with ⟨d0,hof,τ,ho,hk⟩ | ⟨d0,μ,τ,Ω',ho,hk⟩ | ⟨d0,τ,ho,hk⟩ | ⟨d0,C,ho,hk⟩ | ⟨d0,C,τ,ho,hk⟩
  ·refine .inl ⟨d0,hof,τ,ho.congr fun t ht=>(e1 Γ τi t ht).symm,.inl ⟨c0,hoff,τi,hi.congr fun t ht=>e2 Γ τ t ht,?_⟩⟩;rw [← pc];exact hk
  ·refine .inr (.inl ⟨d0,μ,τ,Ω',fun Ωr g=>ZhX (ops:=ops) (ho Ωr g) fun t ht A w v x=>⟨x.1,by rw [e1 Γ τi t ht];exact x.2⟩,.inl ⟨c0,fun t ht hx=>?_,τi,hi.congr fun t ht=>e2 Γ Ty.any t ht,?_⟩⟩)
   ·rcases List.mem_append.1 hx with hx | hx
    ·exact a2 t ht (by simpa using hx)
    ·exact hoff t ht hx
   ·rw [← pc];exact hk
  ·refine .inr (.inr (.inl ⟨d0,τ,fun g=>ZjP (ho g) fun t ht A w v x=>⟨x.1,by rw [e1 Γ τi t ht];exact x.2⟩,.inl ⟨c0,fun t ht hx=>?_,τi,hi.congr fun t ht=>e2 Γ Ty.any t ht,?_⟩⟩))
   ·rcases List.mem_append.1 hx with hx | hx
    ·exact a2 t ht (by simpa using hx)
    ·exact hoff t ht hx
   ·rw [← pc];exact hk
  ·refine .inr (.inr (.inr (.inl ⟨d0,C,ho,.inl ⟨c0,fun t ht hx=>?_,τi,hi.congr fun t ht=>e2 Γ Ty.any t ht,?_⟩⟩)))
   ·rcases List.mem_append.1 hx with hx | hx
    ·exact a2 t ht (by simpa using hx)
    ·exact hoff t ht hx
   ·rw [← pc];exact hk
  ·refine .inr (.inr (.inr (.inr ⟨d0,C,τ,fun B Ωs Ω g=>ZhX (ops:=ops) (ho B Ωs Ω g) fun t ht A w v x=>⟨x.1,by rw [e1 Γ τi t ht];exact x.2⟩,.inl ⟨c0,fun t ht hx=>?_,τi,hi.congr fun t ht=>e2 Γ Ty.any t ht,?_⟩⟩)))
   ·rcases List.mem_append.1 hx with hx | hx
    ·exact a2 t ht (by simpa using hx)
    ·exact hoff t ht hx
   ·rw [← pc];exact hk
 · -- i touches
  refine ⟨hd,?_⟩;have hi2:∀ (σ:Ty),OpU P B Ωs (Γ.put oj.dst σ) F oi τi Ωi:=fun σ Ωr g=>ZhX (ops:=ops) (hi Ωr g) fun t ht A w v x=>⟨x.1,by have:=x.2;rwa [e2 Γ σ t ht] at this⟩
  rcases h with ⟨d0,hof,τ,ho,hk⟩ | ⟨d0,_⟩ | ⟨d0,_⟩ | ⟨d0,C,ho,hk⟩ | ⟨d0,_⟩
  ·refine .inl ⟨d0,fun t ht hx=>hof t ht (List.mem_append_right _ hx),τ,ho.congr fun t ht=>(e1 Γ Ty.any t ht).symm,.inr (.inl ⟨c0,μi,τi,Ωi,hi2 τ,?_⟩)⟩;rw [← pc];exact hk
  ·exact absurd hc (by unfold Cmp;omega)
  ·exact absurd hc (by unfold Cmp;omega)
  ·refine .inr (.inr (.inr (.inl ⟨d0,C,ho,.inr (.inl ⟨c0,fun g=>μi g.1,fun g m=>τi g.1 m,fun g m=>Ωi g.1 m++[⟨g.2,True,C⟩],fun Ωr g=>?_,?_⟩)⟩)))
   ·have h1:=hi2 Ty.any (Ωr++[⟨g.2,True,C⟩]) g.1;rw [← List.append_assoc] at h1;refine ZhX (ops:=ops) (OpT.frame (Ωt:=F.Ω g.1) (Ωr:=[⟨g.2,True,C⟩]) ?_ h1) fun t ht A w v x=>⟨?_,x.2⟩
    ·exact (List.perm_append_comm (l₁:=[(⟨g.2,True,C⟩:Pe)]) (l₂:=F.Ω g.1))
    ·have:=x.1
     rwa [show (F.next oj.dst (μ:=fun _=>Nat) (fun _ b=>Pt b 0) fun g b=>⟨b,True,C⟩::F.Ω g).Θ g t=(F.Θ g.1).put oj.dst (Pt g.2 0) t from rfl,e2 (F.Θ g.1) (Pt g.2 0) t ht] at this
   ·rw [← pc];refine hK _ _ _ ?_ hk;refine ⟨fun g=>⟨⟨g.1.1,g.2⟩,g.1.2⟩,fun g t=>?_,fun g=>?_,fun t=>?_⟩
    ·show (((F.Θ g.1.1).put oj.dst (Pt g.1.2 0)).put oi.dst (τi g.1.1 g.2) t).le (((F.Θ g.1.1).put oi.dst (τi g.1.1 g.2)).put oj.dst (Pt g.1.2 0) t);rw [pc];exact Ty.le.refl _
    ·exact List.perm_append_comm (l₁:=Ωi g.1.1 g.2) (l₂:=[(⟨g.1.2,True,C⟩:Pe)])
    ·simp only [Fam.next,List.mem_append];constructor <;> rintro (h | h | h) <;> simp [h]
  ·exact absurd hc (by unfold Cmp;omega)
 · -- i reads what is touched
  refine ⟨hd,?_⟩;have hi2:∀ (σ:Ty),OpR P B Ωs ops (Γ.put oj.dst σ) F oi τi:=fun σ g=>ZjP (hi g) fun t ht A w v x=>⟨x.1,by have:=x.2;rwa [e2 Γ σ t ht] at this⟩
  rcases h with ⟨d0,hof,τ,ho,hk⟩ | ⟨d0,_⟩ | ⟨d0,τ,ho,hk⟩ | ⟨d0,C,ho,hk⟩ | ⟨d0,C,τ,ho,hk⟩
  ·refine .inl ⟨d0,fun t ht hx=>hof t ht (List.mem_append_right _ hx),τ,ho.congr fun t ht=>(e1 Γ Ty.any t ht).symm,.inr (.inr (.inl ⟨c0,τi,hi2 τ,?_⟩))⟩;rw [← pc];exact hk
  ·exact absurd hc (by unfold Cmp;omega)
  ·refine .inr (.inr (.inl ⟨d0,fun g=>τ ⟨g,()⟩,fun g=>ZjP (ho ⟨g,()⟩) fun t ht A w v x=>⟨?_,?_⟩,.inr (.inr (.inl ⟨c0,fun g=>τi g.1,fun g=>ZjP (hi2 Ty.any g.1) fun t ht A w v x=>⟨?_,x.2⟩,?_⟩))⟩))
   ·show ((F.Θ g).put oi.dst (τi g) t).p A w v;rw [e1 (F.Θ g) (τi g) t ht];exact x.1
   ·rw [e1 Γ Ty.any t ht];exact x.2
   ·have:=x.1
    rwa [show (F.next oj.dst (μ:=fun _=>Unit) (fun g _=>τ ⟨g,()⟩) fun g _=>F.Ω g).Θ g t=(F.Θ g.1).put oj.dst (τ ⟨g.1,()⟩) t from rfl,e2 (F.Θ g.1) (τ ⟨g.1,()⟩) t ht] at this
   ·rw [← pc];refine hK _ _ _ ?_ hk;refine ⟨fun g=>⟨⟨g.1.1,()⟩,()⟩,fun g t=>?_,fun g=>List.Perm.refl _,fun t=>?_⟩
    ·show (((F.Θ g.1.1).put oj.dst (τ ⟨g.1.1,()⟩)).put oi.dst (τi g.1.1) t).le (((F.Θ g.1.1).put oi.dst (τi g.1.1)).put oj.dst (τ ⟨g.1.1,()⟩) t);rw [pc];exact Ty.le.refl _
    ·simp only [Fam.next,List.mem_append];constructor <;> rintro (h | h | h) <;> simp [h]
  ·refine .inr (.inr (.inr (.inl ⟨d0,C,ho,.inr (.inr (.inl ⟨c0,fun g=>τi g.1,fun g=>OpG.more (ZjP (hi2 Ty.any g.1) fun t ht A w v x=>⟨?_,x.2⟩) fun A w hk e he=>?_,?_⟩))⟩)))
   ·have:=x.1
    rwa [show (F.next oj.dst (μ:=fun _=>Nat) (fun _ b=>Pt b 0) fun g b=>⟨b,True,C⟩::F.Ω g).Θ g t=(F.Θ g.1).put oj.dst (Pt g.2 0) t from rfl,e2 (F.Θ g.1) (Pt g.2 0) t ht] at this
   ·rcases List.mem_append.1 he with he | he
    ·exact hk e (List.mem_append_left _ he)
    ·exact hk e (List.mem_append_right _ (List.mem_cons_of_mem _ he))
   ·rw [← pc];refine hK _ _ _ ?_ hk;refine ⟨fun g=>⟨⟨g.1.1,()⟩,g.1.2⟩,fun g t=>?_,fun g=>List.Perm.refl _,fun t=>?_⟩
    ·show (((F.Θ g.1.1).put oj.dst (Pt g.1.2 0)).put oi.dst (τi g.1.1) t).le (((F.Θ g.1.1).put oi.dst (τi g.1.1)).put oj.dst (Pt g.1.2 0) t);rw [pc];exact Ty.le.refl _
    ·simp only [Fam.next,List.mem_append];constructor <;> rintro (h | h | h) <;> simp [h]
  ·refine .inr (.inr (.inr (.inr ⟨d0,C,τ,fun B Ωs Ω g=>ZhX (ops:=ops) (ho B Ωs Ω ⟨g,()⟩) fun t ht A w v x=>⟨?_,by rw [e1 Γ Ty.any t ht];exact x.2⟩,.inr (.inr (.inl ⟨c0,fun g=>τi g.1,fun g=>OpG.more (ZjP (hi2 Ty.any g.1) fun t ht A w v x=>⟨?_,x.2⟩) fun A w hk e he=>?_,?_⟩))⟩)))
   ·show ((F.Θ g).put oi.dst (τi g) t).p A w v;rw [e1 (F.Θ g) (τi g) t ht];exact x.1
   ·have:=x.1
    rwa [show (F.next oj.dst (μ:=fun _=>Nat) (fun _ b=>τ b) fun g b=>⟨b,True,C⟩::F.Ω g).Θ g t=(F.Θ g.1).put oj.dst (τ g.2) t from rfl,e2 (F.Θ g.1) (τ g.2) t ht] at this
   ·rcases List.mem_append.1 he with he | he
    ·exact hk e (List.mem_append_left _ he)
    ·exact hk e (List.mem_append_right _ (List.mem_cons_of_mem _ he))
   ·rw [← pc];refine hK _ _ _ ?_ hk;refine ⟨fun g=>⟨⟨g.1.1,()⟩,g.1.2⟩,fun g t=>?_,fun g=>List.Perm.refl _,fun t=>?_⟩
    ·show (((F.Θ g.1.1).put oj.dst (τ g.1.2)).put oi.dst (τi g.1.1) t).le (((F.Θ g.1.1).put oi.dst (τi g.1.1)).put oj.dst (τ g.1.2) t);rw [pc];exact Ty.le.refl _
    ·simp only [Fam.next,List.mem_append];constructor <;> rintro (h | h | h) <;> simp [h]
 · -- i makes a box
  refine ⟨hd,?_⟩;rcases h with ⟨d0,hof,τ,ho,hk⟩ | ⟨d0,_⟩ | ⟨d0,_⟩ | ⟨d0,C,ho,hk⟩ | ⟨d0,_⟩
  ·refine .inl ⟨d0,fun t ht hx=>hof t ht (List.mem_append_right _ hx),τ,ho.congr fun t ht=>(e1 Γ Ty.any t ht).symm,.inr (.inr (.inr (.inl ⟨c0,Ci,hi,?_⟩)))⟩;rw [← pc];exact hk
  ·exact absurd hc (by unfold Cmp;omega)
  ·exact absurd hc (by unfold Cmp;omega)
  ·refine .inr (.inr (.inr (.inl ⟨d0,C,ho,.inr (.inr (.inr (.inl ⟨c0,Ci,hi,?_⟩)))⟩)));rw [← pc];refine hK _ _ _ ?_ hk;refine ⟨fun g=>⟨⟨g.1.1,g.2⟩,g.1.2⟩,fun g t=>?_,fun g=>List.Perm.swap _ _ _,fun t=>?_⟩
   ·show (((F.Θ g.1.1).put oj.dst (Pt g.1.2 0)).put oi.dst (Pt g.2 0) t).le (((F.Θ g.1.1).put oi.dst (Pt g.2 0)).put oj.dst (Pt g.1.2 0) t);rw [pc];exact Ty.le.refl _
   ·simp only [Fam.next,List.mem_append];constructor <;> rintro (h | h | h) <;> simp [h]
  ·exact absurd hc (by unfold Cmp;omega)
 · -- i makes a block of what was read
  refine ⟨hd,?_⟩;rcases h with ⟨d0,hof,τ,ho,hk⟩ | ⟨d0,_⟩ | ⟨d0,_⟩ | ⟨d0,C,ho,hk⟩ | ⟨d0,_⟩
  ·refine .inl ⟨d0,fun t ht hx=>hof t ht (List.mem_append_right _ hx),τ,ho.congr fun t ht=>(e1 Γ Ty.any t ht).symm,.inr (.inr (.inr (.inr ⟨c0,Ci,τi,fun B Ωs Ω g=>ZhX (ops:=ops) (hi B Ωs Ω g) fun t ht A w v x=>⟨x.1,by have:=x.2;rwa [e2 Γ τ t ht] at this⟩,?_⟩)))⟩;rw [← pc];exact hk
  ·exact absurd hc (by unfold Cmp;omega)
  ·exact absurd hc (by unfold Cmp;omega)
  ·refine .inr (.inr (.inr (.inl ⟨d0,C,ho,.inr (.inr (.inr (.inr ⟨c0,Ci,τi,fun B Ωs Ω g=>ZhX (ops:=ops) (hi B Ωs Ω g.1) fun t ht A w v x=>⟨?_,?_⟩,?_⟩)))⟩)))
   ·have:=x.1
    rwa [show (F.next oj.dst (μ:=fun _=>Nat) (fun _ b=>Pt b 0) fun g b=>⟨b,True,C⟩::F.Ω g).Θ g t=(F.Θ g.1).put oj.dst (Pt g.2 0) t from rfl,e2 (F.Θ g.1) (Pt g.2 0) t ht] at this
   ·have:=x.2;rwa [e2 Γ Ty.any t ht] at this
   rw [← pc];refine hK _ _ _ ?_ hk;refine ⟨fun g=>⟨⟨g.1.1,g.2⟩,g.1.2⟩,fun g t=>?_,fun g=>List.Perm.swap _ _ _,fun t=>?_⟩
   ·show (((F.Θ g.1.1).put oj.dst (Pt g.1.2 0)).put oi.dst (τi g.2) t).le (((F.Θ g.1.1).put oi.dst (τi g.2)).put oj.dst (Pt g.1.2 0) t);rw [pc];exact Ty.le.refl _
   ·simp only [Fam.next,List.mem_append];constructor <;> rintro (h | h | h) <;> simp [h]
  ·exact absurd hc (by unfold Cmp;omega)
theorem Stepc.any {c:Nat} {o:Oper} {K:Env→Fam→Prop} {Γ:Env} {F:Fam} (hh:Stepc P B Ωs ops c o K Γ F):∃ Γ' F',K Γ' F':=by
 rcases hh with ⟨h0,h1,τ,h2,h3⟩ | ⟨h0,μ,τ,Ω',h2,h3⟩ | ⟨h0,τ,h2,h3⟩ | ⟨h0,C,h2,h3⟩ | ⟨h0,C,τ,h2,h3⟩ <;> exact ⟨_,_,h3⟩
theorem getD_ft {listed:Array Bool} {t:Nat} (h:listed.getD t false=true):listed.getD t true=true:=by
 rcases Nat.lt_or_ge t listed.size with h' | h'
 ·simp [h'] at h ⊢;exact h
 ·simp [Array.getElem?_eq_none h']
def Zmr (md:Region.Mode) (ops:Array Oper):Nat→Nat→Nat→Bool
 | 0,_,_=>false
 | f+1,j,i=>(ops[j]?).any fun o=>o.after.any fun e=>Region.binds md e&&(e.on == i||Zmr md ops f e.on i)
def Down (md:Region.Mode) (ops:Array Oper) (listed:Array Bool):Prop:=
 ∀ (j:Nat) (o:Oper),ops[j]?=some o→listed.getD j true=true→∀ e∈o.after,Region.binds md e=true→listed.getD e.on true=true
theorem path_mem {f j i:Nat} (h:Zmr md ops (f+1) j i=true):∃ o,ops[j]?=some o∧∃ e∈o.after,Region.binds md e=true∧(e.on=i∨Zmr md ops f e.on i=true):=by
 simp only [Zmr] at h;cases ho:ops[j]? with
 | none=>rw [ho] at h;simp at h
 | some o=>
  rw [ho] at h;simp only [Option.any_some] at h;obtain ⟨k,hk,he⟩:=Array.any_eq_true.1 h;simp only [Bool.and_eq_true,Bool.or_eq_true,beq_iff_eq] at he;exact ⟨o,rfl,_,Array.getElem_mem hk,he.1,he.2⟩
theorem Down.path {listed:Array Bool} (hd:Down md ops listed):∀ (f j i:Nat),Zmr md ops f j i=true→listed.getD j true=true→listed.getD i true=true
 | 0,_,_,h,_=>by simp [Zmr] at h
 | f+1,j,i,h,hj=>by
  obtain ⟨o,ho,e,he,hb,h1⟩:=path_mem h;have h2:=hd j o ho hj e he hb;rcases h1 with rfl | h1
  ·exact h2
  ·exact hd.path f _ i h1 h2
theorem Down.ready {listed:Array Bool} (hd:Down md ops listed) {f j i:Nat} (h:Zmr md ops f j i=true) (hj:j∈Region.ready md ops listed):listed.getD i true=true:=by
 cases f with
 | zero=>simp [Zmr] at h
 | succ f=>
  obtain ⟨o,ho,e,he,hb,h1⟩:=path_mem h;obtain ⟨_,oj,hoj,hall⟩:=mem_ready.1 hj;rw [ho] at hoj;injection hoj with hoj;subst hoj;have h2:listed.getD e.on true=true:=getD_ft (hall e he hb);rcases h1 with rfl | h1
  ·exact h2
  ·exact hd.path f _ i h1 h2
theorem getD_set_true {listed:Array Bool} {j t:Nat} (h:listed.getD t true=true):(listed.setIfInBounds j true).getD t true=true:=by
 by_cases hjt:j=t
 ·subst hjt
  by_cases hj:j<listed.size
  ·simp [hj]
  ·rw [Array.getD_eq_getD_getElem?,Array.getElem?_eq_none (by simpa using hj)];rfl
 ·rw [getD_set_ne true hjt];exact h
theorem Down.set {listed:Array Bool} (hd:Down md ops listed) {j:Nat} (hj:j∈Region.ready md ops listed):Down md ops (listed.setIfInBounds j true):=fun k o ho hk e he hb=>by
 refine getD_set_true ?_
 by_cases hjk:j=k
 ·subst hjk;obtain ⟨_,oj,hoj,hall⟩:=mem_ready.1 hj;rw [ho] at hoj;injection hoj with hoj;subst hoj;exact getD_ft (hall e he hb)
 ·rw [getD_set_ne true hjk] at hk;exact hd k o ho hk e he hb
theorem TAny2_first {K:Env→Fam→Prop} (hK:Cl K) {i:Nat} {oi:Oper} (hi:ops[i]?=some oi) (hdi:∀ t,oi.dst=some t→t<n) :
  ∀ (fuel:Nat) (listed:Array Bool) (Γ:Env) (F:Fam),
   (∀ j oj,ops[j]?=some oj→j≠i→listed.getD j true=false→(∀ e∈oj.after,Region.binds md e=true→e.on≠i)→oi.apart ops oj=true)→
   (∀ j,j<ops.size→j≠i→listed.getD j true=false→Cmp (cl i) (cl j)∨∃ f,Zmr md ops f j i=true)→Down md ops listed→
   i∈Region.ready md ops listed→Stepc P B Ωs ops (cl i) oi (TAny2 P B Ωs ops n cl md K fuel (listed.setIfInBounds i true)) Γ F→TAny2 P B Ωs ops n cl md K (fuel+1) listed Γ F:=by
 intro fuel
 induction fuel with
 | zero=>
  intro listed Γ F _ _ _ hr hy;refine ⟨fun h=>(by rw [h] at hr;cases hr),fun j hj=>?_⟩
  by_cases hji:j=i
  ·subst hji;unfold tOp2;simp only [hi];exact ⟨hdi,hy⟩
  ·have:=ready_mono hj hji;obtain ⟨Γ',F',H⟩:=hy.any;rw [H.1] at this;cases this
 | succ fuel ih=>
  intro listed Γ F hfree hcm hdn hr hy;refine ⟨fun h=>(by rw [h] at hr;cases hr),fun j hj=>?_⟩
  by_cases hji:j=i
  ·subst hji;unfold tOp2;simp only [hi];exact ⟨hdi,hy⟩
  ·obtain ⟨hjun,oj,hoj,hall⟩:=mem_ready.1 hj;have hiun:=(mem_ready.1 hr).1;have hnot:∀ e∈oj.after,Region.binds md e=true→e.on≠i:=fun e he hb heq=>by
    have h1:=hall e he hb;have h0:=(mem_ready.1 hr).1;rw [heq] at h1;rcases Nat.lt_or_ge i listed.size with h' | h'
    ·simp [h'] at h0 h1;rw [h0] at h1;cases h1
    ·simp [Array.getElem?_eq_none h'] at h1
   have hap:=hfree j oj hoj hji hjun hnot;have hlt:j<ops.size:=(Array.getElem?_eq_some_iff.1 hoj).1;have hc:Cmp (cl i) (cl j):=by
    rcases hcm j hlt hji hjun with h | ⟨f,h⟩
    ·exact h
    ·have h1:=hdn.ready h hj;rcases Nat.lt_or_ge i listed.size with h' | h'
     ·simp [h'] at hiun h1;rw [hiun] at h1;cases h1
     ·simp [Array.getElem?_eq_none h'] at hiun
   have hun':∀ k,(listed.setIfInBounds j true).getD k true=false→listed.getD k true=false:=fun k hun=>by
    by_cases hjk:j=k
    ·subst hjk;exact hjun
    ·rw [getD_set_ne true hjk] at hun;exact hun
   have h1:=exch hoj hap hc (TAny2.sub hK fuel _) (hy.mono fun Γ' F' H=>H.2 j (ready_mono hj hji));refine tOp2.mono (fun Γ' F' h3=>ih (listed.setIfInBounds j true) Γ' F' (fun k ok hk hki hun hno=>hfree k ok hk hki (hun' k hun) hno) (fun k hk hki hun=>hcm k hk hki (hun' k hun)) (hdn.set hj) (ready_mono hr (Ne.symm hji)) ?_) h1;rw [Array.setIfInBounds_comm _ _ hji];exact h3
def okB (md:Region.Mode) (ops:Array Oper) (cl:Nat→Nat) (N:Nat):Bool:=
 (List.range N).all fun i=>(List.range N).all fun j=>decide (j≤i)||(cl i == 0||cl j == 0||cl j == 3||(cl i == 2&&cl j == 2)||(cl i == 2&&cl j == 4))||Zmr md ops N j i
theorem okB_spec {N:Nat} (h:okB md ops cl N=true) {i j:Nat} (hi:i<N) (hj:j<N) (hij:i<j):Cmp (cl i) (cl j)∨∃ f,Zmr md ops f j i=true:=by
 simp only [okB,List.all_eq_true,List.mem_range,Bool.or_eq_true,decide_eq_true_eq,Bool.and_eq_true,beq_iff_eq] at h;rcases h i hi j hj with (h | h) | h
 ·omega
 ·left;unfold Cmp;omega
 ·exact .inr ⟨_,h⟩
theorem TAny2_lex (hc:okB md ops cl ops.size=true) {K:Env→Fam→Prop} (hK:Cl K):∀ (l:List Oper) (k:Nat) (listed:Array Bool) (Γ:Env) (F:Fam),(∀ j,l[j]?=ops[k+j]?)→listed.size=ops.size→(∀ t,t<ops.size→listed.getD t true=decide (t<k))→Down md ops listed→
  Region.lexFrom md ops l.length k listed=true→TRw2 P B Ωs ops n cl k l Γ F K→TAny2 P B Ωs ops n cl md K l.length listed Γ F
 | [],_,_,_,_,_,_,_,_,hB,h=>⟨by simpa [Region.lexFrom] using hB,h⟩
 | o::l,k,listed,Γ,F,hl,hz,ht,hdn,hB,h=>by
  have h0:ops[k]?=some o:=by simpa using (hl 0).symm
  have hk:k<ops.size:=(Array.getElem?_eq_some_iff.1 h0).1;simp only [List.length_cons,Region.lexFrom,Bool.and_eq_true] at hB;obtain ⟨⟨hr,hf⟩,hB'⟩:=hB;obtain ⟨hd,h⟩:=h;have hr':k∈Region.ready md ops listed:=by simpa using hr
  have ih:=fun Γ' F' hK'=>TAny2_lex hc hK l (k+1) (listed.setIfInBounds k true) Γ' F' (fun j=>by have:=hl (j+1);simpa [Nat.add_assoc,Nat.add_comm 1 j] using this) (by simpa using hz) (fun t hts=>by
   by_cases h1:k=t
   ·subst h1;have:k<listed.size:=by omega
    simp [this]
   ·rw [getD_set_ne true h1,ht t hts,decide_eq_decide];omega) (hdn.set hr') hB' hK'
  refine TAny2_first hK h0 hd l.length listed Γ F (Region.free_spec h0 hf) (fun j hj hji hun=>?_) hdn hr' (h.mono fun Γ' F' h'=>ih _ _ h');rw [ht j hj] at hun;exact okB_spec hc hk hj (by have:=of_decide_eq_false hun;omega)
end any
section world
variable {P:Program} {r:Ref} {n:Nat} {Ωs:List Pe} {ops:Array Oper} {cl:Nat→Nat} {md:Region.Mode}
theorem RSt.putG {Γ:Env} {F:Fam} {a:Act} {w w':World} {d:Option Tmp} {v:Value} {τ:Ty} {g:F.ν} (ha:Stt r n (Env.or (F.Θ g) Γ) (Ωs++F.Ω g) a w) (hd:∀ t,d=some t→t<n) (hof:∀ t,d=some t→t∉F.tl)
  (hg:Grow r.w.heap.size w w') (hv:τ.p (Pub r.A (Ωs++F.Ω g)) w' v):RSt r n Ωs (Γ.put d τ) F (a.put d v) w':=by
 have hst:=ha.put (d:=d) (τ:=τ) hd hg hv;refine ⟨g,hst.sz,hst.df,hst.mu,fun t=>?_,hst.pv⟩;have ht:=hst.ty t;cases hdst:d with
 | none=>rw [hdst] at ht;exact ht
 | some d=>
  rw [hdst] at ht;simp only [Env.put,Env.set,Env.or] at ht ⊢
  by_cases htd:t=d
  ·subst htd;simp only [if_true] at ht ⊢;rw [F.off g t (hof t hdst)];exact ⟨trivial,ht⟩
  ·simp only [htd,if_false] at ht ⊢;exact ht
theorem Zkz {Γ:Env} {F:Fam} {a:Act} {w':World} {d:Option Tmp} {v:Value} {g:F.ν} {μ:F.ν→Type} {τ:(g:F.ν)→μ g→Ty} {Ω':(g:F.ν)→μ g→List Pe} {m:μ g}
  (hst:Stt r n ((Env.or (F.Θ g) Γ).put d (τ g m)) (Ωs++Ω' g m) (a.put d v) w'):RSt r n Ωs (Γ.put d Ty.any) (F.next d τ Ω') (a.put d v) w':=by
 refine ⟨(⟨g,m⟩:(g:F.ν)×μ g),hst.sz,hst.df,hst.mu,fun t=>?_,hst.pv⟩;have ht:=hst.ty t;cases hdst:d with
 | none=>rw [hdst] at ht;simpa only [Fam.next,Env.put] using ht
 | some d=>
  rw [hdst] at ht;simp only [Fam.next,Env.put,Env.set,Env.or] at ht ⊢
  by_cases htd:t=d
  ·subst htd;simp only [if_true] at ht ⊢;exact ⟨ht,trivial⟩
  ·simp only [htd,if_false] at ht ⊢;exact ht
theorem wpOp_of_tOp2 [op:Opens r] {i:Nat} {Γ:Env} {F:Fam} {K:Env→Fam→Prop} {K':Act→World→Prop} {Q':Exit→Act→World→Prop} {a:Act} {w:World} (ha:RSt r n Ωs Γ F a w)
  (h:∀ Γ' F' a' w',RSt r n Ωs Γ' F' a' w'→K Γ' F'→K' a' w') (hh:tOp2 P r.w.heap.size Ωs ops n cl i K Γ F):wpOpIn (FR r.ρ) 0 P ops Q' i K' a w:=by
 unfold tOp2 at hh;unfold wpOpIn
 split
 ·rename_i ho;simp only [ho] at hh;exact h _ _ _ _ ha hh
 ·rename_i o ho
  simp only [ho] at hh;obtain ⟨hd,hh⟩:=hh;obtain ⟨g,ha⟩:=ha;rcases hh with ⟨_,hof,τ,hy,hK⟩ | ⟨_,μ,τ,Ω',hy,hK⟩ | ⟨_,τ,hy,hK⟩ | ⟨_,C,hy,hK⟩ | ⟨_,C,τ,hy,hK⟩
  ·have hy:=hy (Pub r.A (Ωs++F.Ω g)) a w ha.mu.size ha.up (Zbn.1 ha.pv.ks).1 fun t _=>(ha.ty t).2
   split
   ·rename_i hw
    simp only [hw,if_true] at hy;exact Zgw hy fun v w' hg hv=>h _ _ _ _ (RSt.putG ha hd hof hg hv) hK
   ·rename_i hw
    simp only [hw] at hy;exact ⟨fun _ _=>trivial,h _ _ _ _ (RSt.putG ha hd hof (Grow.refl _ _) hy) hK⟩
  ·have hy:=hy [] g;rw [List.append_nil] at hy;have hg:=hy.1;have hy:=ha.opT ha.ty hy;rw [if_pos (by simp [Region.wanted,hg])];exact Zdj hy fun m v w' haf=>h _ _ _ _ (Zkz (ha.T (d:=o.dst) hd haf)) hK
  ·have hy:=hy g (Pub r.A (Ωs++F.Ω g)) a w ha.mu.size ha.up ha.pv.ks fun t _=>ha.ty t
   split
   ·rename_i hw
    simp only [hw,if_true] at hy;exact Zgw hy fun v w' hg hv=>h _ _ _ _ (Zkz (μ:=fun _=>Unit) (τ:=fun g _=>τ g) (Ω':=fun g _=>F.Ω g) (m:=()) (ha.put (d:=o.dst) hd hg hv)) hK
   ·rename_i hw
    simp only [hw] at hy;exact ⟨fun _ _=>trivial,h _ _ _ _ (Zkz (μ:=fun _=>Unit) (τ:=fun g _=>τ g) (Ω':=fun g _=>F.Ω g) (m:=()) (ha.put (d:=o.dst) hd (Grow.refl _ _) hy)) hK⟩
  ·have hy:=hy r.w.heap.size Ωs (F.Ω g) (Env.or (F.Θ g) Γ);have hg:=hy.1;have hy:=ha.opT ha.ty hy;rw [if_pos (by simp [Region.wanted,hg])];exact Zdj hy fun m v w' haf=>h _ _ _ _ (Zkz (μ:=fun _=>Nat) (τ:=fun _ b=>Pt b 0) (Ω':=fun g b=>⟨b,True,C⟩::F.Ω g) (m:=m) (ha.T (d:=o.dst) hd haf)) hK
  ·have hy:=hy r.w.heap.size Ωs (F.Ω g) g;have hg:=hy.1;have hy:=ha.opT ha.ty hy;rw [if_pos (by simp [Region.wanted,hg])];exact Zdj hy fun m v w' haf=>h _ _ _ _ (Zkz (μ:=fun _=>Nat) (τ:=fun _ b=>τ b) (Ω':=fun g b=>⟨b,True,C⟩::F.Ω g) (m:=m) (ha.T (d:=o.dst) hd haf)) hK
theorem Zma [op:Opens r] {K:Env→Fam→Prop} {Q':Exit→Act→World→Prop} (hQ:∀ Γ F a w,RSt r n Ωs Γ F a w→K Γ F→Q' .normal a w):∀ (fuel:Nat) (listed:Array Bool) (Γ:Env) (F:Fam) (a:Act) (w:World),
  RSt r n Ωs Γ F a w→TAny2 P r.w.heap.size Ωs ops n cl md K fuel listed Γ F→wpAnyIn (FR r.ρ) 0 P md ops Q' fuel listed a w
 | 0,_,_,_,_,_,ha,h=>⟨h.1,hQ _ _ _ _ ha h.2⟩
 | fuel+1,_,_,_,_,_,ha,h=>⟨fun h0=>hQ _ _ _ _ ha (h.1 h0),fun i hi=>wpOp_of_tOp2 ha (fun Γ' F' a' w' ha' hK=>Zma hQ fuel _ Γ' F' a' w' ha' hK) (h.2 i hi)⟩
end world
section rules
variable {P:Program} {r:Ref} {n:Nat} {Γ:Env} {Ω Ωs Ωt:List Pe} {Q:Exit→Act→World→Prop} [op:Opens r]
theorem Less.tail {Ω1 Ω2:List Pe} (hp:Ω1.Perm Ω2):Less (Ωs++Ω1) (Ωs++Ω2):=Less.perm (hp.append_left Ωs)
theorem TC.regionD2 {id:Nat} {l:List Oper} {R:Env→List Pe→Prop} {Q':Exit→Act→World→Prop} (cs:List Nat) (hΩ:Less Ω (Ωs++Ωt)) (hm:P.follows .mixedOrders=true) (hB:Region.lexB .any l.toArray=true) (hc:okB .any l.toArray (fun k=>cs.getD k 0) l.toArray.size=true)
  (hR:∀ Γ Ω,R Γ Ω→∀ a w,Stt r n Γ Ω a w→Q' .normal a w)
  (hle:∀ Γ Γ' Ω1 Ω2,Γ'.le Γ→Ω1.Perm Ω2→R Γ (Ωs++Ω2)→R Γ' (Ωs++Ω1))
  (h:TRw2 P r.w.heap.size Ωs l.toArray n (fun k=>cs.getD k 0) 0 l Γ (Fam.one Ωt) fun Γ' F'=>∀ g,R (Env.or (F'.Θ g) Γ') (Ωs++F'.Ω g)):TC P r n Γ Ω (.region id l.toArray true) Q':=by
 intro a w hs;have hs:=hs.less hΩ;simp only [Region.lexB,Bool.and_eq_true] at hB;refine wpIn_region_any hm ?_;have hK:Cl fun Γ' F'=>∀ g,R (Env.or (F'.Θ g) Γ') (Ωs++F'.Ω g):=fun Γ F F' s hk g=>hle _ _ _ _ (fun t=>or_le (s.th g) t) (s.pm g) (hk (s.h g))
 have h2:=TAny2_lex (P:=P) (md:=.any) (ops:=l.toArray) hc hK l 0 (Array.replicate l.toArray.size false) Γ (Fam.one Ωt) (fun j=>by simp) (by simp) (fun t ht=>by
  rw [Array.getD_eq_getD_getElem?,Array.getElem?_replicate];simp at ht;simp [ht]) (fun j o ho hj=>by
   have hlt:j<l.toArray.size:=(Array.getElem?_eq_some_iff.1 ho).1;rw [Array.getD_eq_getD_getElem?,Array.getElem?_replicate,if_pos hlt] at hj;cases hj) (by simpa using hB.2) h
 have hg:Grow r.w.heap.size w { w with drawn:=w.drawn+1 }:=Grow.drawn _;have h3:RSt r n Ωs Γ (Fam.one Ωt) a { w with drawn:=w.drawn+1 }:=
  ⟨(),hs.sz,hs.df,hs.mu.stp (ZdL (S:=fun _=>False) hg) (fun j hj=>hj.elim),fun t=>⟨trivial,(Γ t).st hg (hs.ty t)⟩,hs.pv.grow hg⟩
 have:=Zma (P:=P) (Q':=Q') (md:=.any) (fun Γ' F' a w ⟨g,hok⟩ hK=>hR _ _ (hK g) a w hok) _ _ Γ (Fam.one Ωt) a { w with drawn:=w.drawn+1 } h3 h2;simpa using this
theorem TC.seqD2 {id:Nat} {l:List Oper} {y:Code} (cs:List Nat) (bs:List Nat) [hs:Split Ω bs Ωs Ωt] (hm:P.follows .mixedOrders=true) (hB:Region.lexB .any l.toArray=true) (hc:okB .any l.toArray (fun k=>cs.getD k 0) l.toArray.size=true)
  (h:TRw2 P r.w.heap.size Ωs l.toArray n (fun k=>cs.getD k 0) 0 l Γ (Fam.one Ωt) fun Γ' F'=>∀ g,TC P r n (Env.or (F'.Θ g) Γ') (Ωs++F'.Ω g) y Q):TC P r n Γ Ω (.seq (.region id l.toArray true) y) Q:=
 Zau (TC.regionD2 (R:=fun Γ Ω=>TC P r n Γ Ω y Q) cs (Less.perm hs.perm) hm hB hc (fun _ _ h=>h) (fun _ _ _ _ h1 h2 h3=>TC.weaken h1 (TC.less (Less.tail h2) h3)) h)
end rules
section steps
variable {P:Program} {B:Nat} {Ωs:List Pe} {ops:Array Oper} {n:Nat} {cl:Nat→Nat} {k:Nat} {Γ:Env} {F:Fam} {K:Env→Fam→Prop}
theorem TR2.nil (h:K Γ F):TRw2 P B Ωs ops n cl k [] Γ F K:=h
theorem TR2.G {d:Tmp} {op:Op} {ty:TypeId} {pos:String} {aft:Array Edge} {gd:Option (Nat×Bool)} {rest:List Oper} {τ:Ty}
  (h:OpG P B ops Ωs Γ ⟨some d,op,ty,pos,aft,gd⟩ τ) (hd:(Nat.blt d n&&Nat.beq (cl k) 0 && !F.tl.contains d)=true) (hk:TRw2 P B Ωs ops n cl (k+1) rest (Γ.set d τ) F K):TRw2 P B Ωs ops n cl k (⟨some d,op,ty,pos,aft,gd⟩::rest) Γ F K:=by
 simp only [Bool.and_eq_true,Bool.not_eq_true'] at hd;exact ⟨fun t e=>by injection e with e;subst e;simpa using hd.1.1,.inl ⟨Nat.eq_of_beq_eq_true hd.1.2,fun t e=>by injection e with e;subst e;simpa using hd.2,τ,h,hk⟩⟩
theorem TR2.s {d:Tmp} {op:Op} {ty:TypeId} {pos:String} {aft:Array Edge} {rest:List Oper} {τ:Ty}
  (h:∀ {A:Nat→Prop},OpY P B A Ωs Γ ⟨some d,op,ty,pos,aft,none⟩ τ) (hd:(Nat.blt d n&&Nat.beq (cl k) 0 && !F.tl.contains d)=true) (hk:TRw2 P B Ωs ops n cl (k+1) rest (Γ.set d τ) F K):TRw2 P B Ωs ops n cl k (⟨some d,op,ty,pos,aft,none⟩::rest) Γ F K:=
 TR2.G (OpG.s h) hd hk
theorem TR2.t {d:Tmp} {op:Op} {ty:TypeId} {pos:String} {aft:Array Edge} {gd:Option (Nat×Bool)} {rest:List Oper} {μ:F.ν→Type} {τ:(g:F.ν)→μ g→Ty} {Ω':(g:F.ν)→μ g→List Pe}
  (h:∀ Ωr g,OpT P B (Ωs++Ωr) (F.Ω g) (Env.or (F.Θ g) Γ) ⟨some d,op,ty,pos,aft,gd⟩ (τ g) (Ω' g)) (hd:(Nat.blt d n&&Nat.beq (cl k) 1)=true) (hk:TRw2 P B Ωs ops n cl (k+1) rest (Γ.set d Ty.any) (F.nextS d τ Ω') K):TRw2 P B Ωs ops n cl k (⟨some d,op,ty,pos,aft,gd⟩::rest) Γ F K:=by
 simp only [Bool.and_eq_true] at hd;exact ⟨fun t e=>by injection e with e;subst e;simpa using hd.1,.inr (.inl ⟨Nat.eq_of_beq_eq_true hd.2,μ,τ,Ω',h,hk⟩)⟩
theorem TR2.tn {op:Op} {ty:TypeId} {pos:String} {aft:Array Edge} {gd:Option (Nat×Bool)} {rest:List Oper} {μ:F.ν→Type} {τ:(g:F.ν)→μ g→Ty} {Ω':(g:F.ν)→μ g→List Pe}
  (h:∀ Ωr g,OpT P B (Ωs++Ωr) (F.Ω g) (Env.or (F.Θ g) Γ) ⟨none,op,ty,pos,aft,gd⟩ (τ g) (Ω' g)) (hd:Nat.beq (cl k) 1=true) (hk:TRw2 P B Ωs ops n cl (k+1) rest Γ (F.nextN Ω') K):TRw2 P B Ωs ops n cl k (⟨none,op,ty,pos,aft,gd⟩::rest) Γ F K:=
 ⟨fun t e=>(by cases e),.inr (.inl ⟨Nat.eq_of_beq_eq_true hd,μ,τ,Ω',h,hk⟩)⟩
theorem TR2.r {d:Tmp} {op:Op} {ty:TypeId} {pos:String} {aft:Array Edge} {gd:Option (Nat×Bool)} {rest:List Oper} {τ:F.ν→Ty}
  (h:∀ g,OpG P B ops (Ωs++F.Ω g) (Env.or (F.Θ g) Γ) ⟨some d,op,ty,pos,aft,gd⟩ (τ g)) (hd:(Nat.blt d n&&Nat.beq (cl k) 2)=true) (hk:TRw2 P B Ωs ops n cl (k+1) rest (Γ.set d Ty.any) (F.nextS d (μ:=fun _=>Unit) (fun g _=>τ g) fun g _=>F.Ω g) K):TRw2 P B Ωs ops n cl k (⟨some d,op,ty,pos,aft,gd⟩::rest) Γ F K:=by
 simp only [Bool.and_eq_true] at hd;exact ⟨fun t e=>by injection e with e;subst e;simpa using hd.1,.inr (.inr (.inl ⟨Nat.eq_of_beq_eq_true hd.2,τ,h,hk⟩))⟩
theorem TR2.a {d:Tmp} {op:Op} {ty:TypeId} {pos:String} {aft:Array Edge} {gd:Option (Nat×Bool)} {rest:List Oper} {C:Ct}
  (h:AllocU P ⟨some d,op,ty,pos,aft,gd⟩ C) (hd:(Nat.blt d n&&Nat.beq (cl k) 3)=true) (hk:TRw2 P B Ωs ops n cl (k+1) rest (Γ.set d Ty.any) (F.nextS d (μ:=fun _=>Nat) (fun _ b=>Pt b 0) fun g b=>⟨b,True,C⟩::F.Ω g) K):TRw2 P B Ωs ops n cl k (⟨some d,op,ty,pos,aft,gd⟩::rest) Γ F K:=by
 simp only [Bool.and_eq_true] at hd;exact ⟨fun t e=>by injection e with e;subst e;simpa using hd.1,.inr (.inr (.inr (.inl ⟨Nat.eq_of_beq_eq_true hd.2,C,h,hk⟩)))⟩
theorem TR2.v {d:Tmp} {op:Op} {ty:TypeId} {pos:String} {aft:Array Edge} {gd:Option (Nat×Bool)} {rest:List Oper} {C:Ct} {τ:Nat→Ty}
  (h:OpV P Γ F ⟨some d,op,ty,pos,aft,gd⟩ τ C) (hd:(Nat.blt d n&&Nat.beq (cl k) 4)=true) (hk:TRw2 P B Ωs ops n cl (k+1) rest (Γ.set d Ty.any) (F.nextS d (μ:=fun _=>Nat) (fun _ b=>τ b) fun g b=>⟨b,True,C⟩::F.Ω g) K):TRw2 P B Ωs ops n cl k (⟨some d,op,ty,pos,aft,gd⟩::rest) Γ F K:=by
 simp only [Bool.and_eq_true] at hd;exact ⟨fun t e=>by injection e with e;subst e;simpa using hd.1,.inr (.inr (.inr (.inr ⟨Nat.eq_of_beq_eq_true hd.2,C,τ,h,hk⟩)))⟩
end steps
end Go.Proofs.YtkmojgfenlgchaaGreatDoor.Tr
namespace Go.Proofs.YtkmojgfenlgchaaGreatDoor.Tr
open Go Go.RowKit
def offS (L:List Nat) (j:Nat):Nat:=(L.take j).sum
theorem Zmw (L:List Nat):offS L L.length=L.sum:=by unfold offS;rw [List.take_length]
theorem Zmx (L M:List Nat) {j:Nat} (h:j≤L.length):offS (L++M) j=offS L j:=by
 unfold offS;rw [List.take_append_of_le_length h]
def ZjU (b:Nat) (pr:Prop) (z:Nat) (L:List Nat) (m:Nat):Ct:=
 ⟨fun A w cs=>cs.length=m∧L.length≤m∧m≤maxLen∧m≤ZjT∧∀ j (h:j<L.length),(Sv b pr (offS L j*z) L[j]).p A w (cs.getD j undef),fun _ h=>h⟩
theorem ZjU.nil {α:Type} {i:Dat α} {b z m:Nat} {pr:Prop} {xs:List (List α)} (hm:m=xs.length):∀ A w cs,(Row xs m).p A w cs→(ZjU b pr z [] m).p A w cs:=fun A w cs ⟨h1,h2,h3,h4,h5⟩=>
 ⟨by rw [h1];exact Nat.mul_one m,Nat.zero_le _,h3,by omega,fun j h=>absurd h (by simp)⟩
theorem ZjU.put {b z m n o o2:Nat} {pr:Prop} {L:List Nat} (ho:o=L.length) (hm:L.length<m) (h2:o2=L.sum*z):CtH (ZjU b pr z L m) o (Sv b pr o2 n) (ZjU b pr z (L++[n]) m):=⟨fun {A w cs v} ⟨h1,h3,h4,h5,h6⟩ hv=>by
 subst ho;subst h2;refine ⟨by omega,by rw [List.length_set];exact h1,by simp;omega,h4,h5,fun j hj=>?_⟩;simp only [List.length_append,List.length_singleton] at hj
 by_cases hjl:j=L.length
 ·subst hjl;rw [List.getD_eq_getElem?_getD,List.getElem?_set_self (by omega),Zmx _ _ (Nat.le_refl _),Zmw];simpa using hv
 ·rw [List.getD_eq_getElem?_getD,List.getElem?_set_ne (Ne.symm hjl),← List.getD_eq_getElem?_getD,Zmx _ _ (by omega),List.getElem_append_left (by omega)];exact h6 j (by omega)⟩
theorem ZjU.at {b z m o j:Nat} {pr:Prop} {L:List Nat} (hj:j<L.length) (ho:o=j):CeH (ZjU b pr z L m) o (Sv b pr (offS L j*z) L[j]):=⟨fun {A w cs} ⟨h1,h3,h4,h5,h6⟩=>by
 subst ho;exact ⟨by omega,h6 o hj⟩⟩
section flat
variable {α:Type}
theorem ZlZ (p:List (List α)) (j:Nat):(p.take j).flatten.length=offS (p.map List.length) j:=by
 unfold offS;rw [← List.map_take]
 induction p.take j with
 | nil=>rfl
 | cons x xs ih=>simp only [List.flatten_cons,List.length_append,List.map_cons,List.sum_cons,ih]
theorem ZiY {p:List (List α)} {j:Nat} (hj:j<p.length):p.flatten=(p.take j).flatten++(p[j]++(p.drop (j+1)).flatten):=by
 conv=>lhs;rw [← List.take_append_drop j p]
 rw [List.flatten_append,List.drop_eq_getElem_cons hj,List.flatten_cons]
theorem flat_part {p:List (List α)} {j:Nat} (hj:j<p.length):(p.flatten.drop (offS (p.map List.length) j)).take p[j].length=p[j]:=by
 rw [ZiY hj,← ZlZ,List.drop_left,List.take_left]
theorem flat_fit {p:List (List α)} {j:Nat} (hj:j<p.length):offS (p.map List.length) j+p[j].length≤p.flatten.length:=by
 rw [ZiY hj,← ZlZ];simp
theorem flat_set {p:List (List α)} {j:Nat} (hj:j<p.length) {ys:List α} (hy:ys.length=p[j].length):splice p.flatten (offS (p.map List.length) j) ys=(p.set j ys).flatten:=by
 have e1:(p.set j ys).flatten=(p.take j).flatten++(ys++(p.drop (j+1)).flatten):=by
  rw [ZiY (p:=p.set j ys) (j:=j) (by simpa using hj)];rw [List.take_set_of_le (Nat.le_refl _),List.drop_set_of_lt (by omega)];simp
 rw [e1];unfold splice;rw [ZiY hj,← ZlZ,List.take_left,hy,← List.append_assoc (p.take j).flatten p[j],← List.length_append,List.drop_left,List.append_assoc]
theorem Zkl {p:List (List α)} {j:Nat} (hj:j<p.length) {ys:List α} (hy:ys.length=p[j].length):(p.set j ys).map List.length=p.map List.length:=by
 rw [List.map_set];refine List.ext_getElem (by simp) fun k h1 h2=>?_
 rw [List.getElem_set]
 split
 ·rename_i e;subst e;simp [hy]
 ·rfl
end flat
theorem PlS.flat {α:Type} {i:Dat α} {p:List (List α)} {c j n:Nat} (hj:j<p.length) (hn:n=offS (p.map List.length) j):PlS (Row p.flatten c) (n*Dat.sz α) α i p[j] fun ys=>Row (splice p.flatten n ys) c:=by
 subst hn;have h:=PlS.row (i:=i) (c:=c) (flat_fit hj)
 rwa [flat_part hj] at h
theorem PlS.flat2 {α:Type} {i:Dat α} {p:List (List α)} {c j n:Nat} (hj:j<p.length) (hn:n=offS (p.map List.length) j):PlS (Row p.flatten c) (n*Dat.sz α) α i p[j] fun ys=>Row (p.set j ys).flatten c:=by
 have h:=PlS.flat (i:=i) (c:=c) hj hn;refine ⟨h.mo,h.rd,fun ys hy hc hl he=>?_⟩;have h2:=h.st ys hy hc hl he;rw [hn] at h2;rw [flat_set hj hy] at h2;rw [hn];exact h2
theorem Pl.part {α:Type} {i:Dat α} {C:Ct} {o k:Nat} {xs:List α} {upd:List α→Ct} (h:PlS C o α i xs upd) (hk:k<xs.length):Pl C (o+k*Dat.sz α) α i xs[k] fun y=>upd (xs.set k y):=by
 have hfit0:k*Dat.sz α+Dat.sz α≤xs.length*Dat.sz α:=by rw [← Nat.succ_mul];exact Nat.mul_le_mul_right _ (by omega)
 refine ⟨⟨fun {A w cs} hc=>?_⟩,fun y=>⟨fun {A w cs ds} hc hd=>?_⟩⟩
 ·obtain ⟨h1,h2⟩:=h.rd hc;have h3:=h2 k hk;rw [Zib hfit0 h1] at h3;exact ⟨by omega,h3⟩
 ·obtain ⟨h1,h2⟩:=h.rd hc;have l2:=Dat.len hd;have hsl:(seg cs o (xs.length*Dat.sz α)).length=xs.length*Dat.sz α:=Zv h1;refine ⟨by omega,?_⟩;have g:=h.st (xs.set k y) (by simp) hc (news:=ZU (seg cs o (xs.length*Dat.sz α)) (k*Dat.sz α) ds) (by rw [Zl (by omega),hsl];simp) fun q hq=>by
   simp only [List.length_set] at hq;have hq2:q*Dat.sz α+Dat.sz α≤xs.length*Dat.sz α:=by rw [← Nat.succ_mul];exact Nat.mul_le_mul_right _ (by omega)
   by_cases hqk:q=k
   ·subst hqk;have e9:=ZbH (cs:=seg cs o (xs.length*Dat.sz α)) (o:=q*Dat.sz α) (vs:=ds) (by omega);rw [l2] at e9;rw [e9,List.getElem_set_self];exact hd
   ·rw [Zaz (by omega) (by omega) ?_,List.getElem_set_ne (fun h=>hqk h.symm)]
    ·exact h2 q hq
    ·rcases Nat.lt_or_ge q k with h6 | h6
     ·left;rw [← Nat.succ_mul];exact Nat.mul_le_mul_right _ (by omega)
     ·right;rw [l2,← Nat.succ_mul];exact Nat.mul_le_mul_right _ (by omega)
  have e:ZU cs o (ZU (seg cs o (xs.length*Dat.sz α)) (k*Dat.sz α) ds)=ZU cs (o+k*Dat.sz α) ds:=by
   have hl2:(ZU (seg cs o (xs.length*Dat.sz α)) (k*Dat.sz α) ds).length=xs.length*Dat.sz α:=by rw [Zl (by omega),hsl]
   refine ZaH (by rw [Zl (by omega),Zl (by omega)]) fun j hj=>?_
   rw [Zl (by omega)] at hj;rw [ZO (cs:=cs) (o:=o) (by omega),ZO (cs:=cs) (o:=o+k*Dat.sz α) (by omega),hl2]
   by_cases c1:o≤j∧j<o+xs.length*Dat.sz α
   ·rw [if_pos c1,ZO (by omega)]
    by_cases c2:k*Dat.sz α≤j-o∧j-o<k*Dat.sz α+ds.length
    ·rw [if_pos c2,if_pos (by omega)];congr 1;omega
    ·rw [if_neg c2,if_neg (by omega),Zab (by omega)];congr 1;omega
   ·rw [if_neg c1,if_neg (by omega)]
  rw [e] at g;exact g
section ops
variable {P:Program} {B0:Nat} {A:Nat→Prop} {Ω:List Pe} {Γ:Env} {dst:Option Tmp} {ty:TypeId} {pos:String} {aft:Array Edge} {gd:Option (Nat×Bool)}
variable {α:Type} {i:Dat α} {t e:TypeId} {x y z q:Operand} {τ σ ρ υ:Ty} {b o m c:Nat} {pr:Prop} {l r k:Int} {u v:Unit} {xs:List α}
theorem OpY.slice3Sl [S:TSl P t e] [T:TDat P e α i] [hx:Has Γ x (Sl b pr o m c)] [Has Γ y σ] [hy:AsI σ l] [Has Γ z ρ] [hz:AsI ρ r] [Has Γ q υ] [hq:AsI υ k] (h0:0≤l) (h1:l≤r) (h2:r≤k) (h3:k≤m) :
  OpY P B0 A Ω Γ ⟨dst,.slice t x (some y) (some z) (some q),ty,pos,aft,gd⟩ (Sv b pr (o+l.toNat*Dat.sz α) (r-l).toNat):=
 OpY.val fun a w hl=>by
  have h:=Sl.sv _ _ _ (Zt (x:=x) (τ:=Sl b pr o m c) (op:=.slice t x (some y) (some z) (some q)) (by simp [Op.operands]) hl);have ey:a.eval y=.int .i64 l:=hy.le _ _ _ (Zt (x:=y) (τ:=σ) (op:=.slice t x (some y) (some z) (some q)) (by simp [Op.operands]) hl);have ez:a.eval z=.int .i64 r:=hz.le _ _ _ (Zt (x:=z) (τ:=ρ) (op:=.slice t x (some y) (some z) (some q)) (by simp [Op.operands]) hl);have eq:a.eval q=.int .i64 k:=hq.le _ _ _ (Zt (x:=q) (τ:=υ) (op:=.slice t x (some y) (some z) (some q)) (by simp [Op.operands]) hl);rcases h with ⟨hp,o',c,ex,hmc,ho⟩ | ⟨hp,rfl,ex⟩
  ·refine ⟨.slice (if k.toNat=l.toNat then some ⟨b,o',none⟩ else some ⟨b,o' + l.toNat*Dat.sz α,none⟩) (r.toNat-l.toNat) (k.toNat-l.toNat),?_,.inl ⟨hp,if k.toNat=l.toNat then o' else o' + l.toNat*Dat.sz α,k.toNat-l.toNat,?_,⟨by omega,by omega⟩,fun h=>?_⟩⟩
   ·have c0:0≤k∧k≤(c:Int):=by omega
    have c1:0≤r∧r≤(k.toNat:Int):=by omega
    have c2:0≤l∧l≤(r.toNat:Int):=by omega
    simp only [execOp,ex,ey,ez,eq,Instr.sliceAt,Instr.slice,Option.map_some,Sem.run_bind,run_underlying S.h,Result.andThen_ok,Instr.sliceBounds,Instr.sliceBound,asIntOf,Sem.run_pure,c0,c1,c2,and_self,if_true,T.sz,Za0]
   ·rw [show (r-l).toNat=r.toNat-l.toNat by omega];split <;> rfl
   ·rw [if_neg (by omega),ho (by omega)]
  ·have hk:k=0:=by omega
   have hr:r=0:=by omega
   have hl0:l=0:=by omega
   subst hk;subst hr;subst hl0;refine ⟨.slice none 0 0,?_,.inr ⟨hp,rfl,rfl⟩⟩;simp [execOp,ex,ey,ez,eq,Instr.sliceAt,Instr.slice,run_underlying S.h,Instr.sliceBounds,Instr.sliceBound,asIntOf,T.sz]
end ops
theorem ZkE {α:Type} {i:Dat α} {xs:List α} {c o off:Nat} {k:Int} {x:α} {τ:Ty} (e:idx xs k=some x) (ho:o=0+k.toNat*Dat.sz α+off) (hoff:off<Dat.sz α):CtH (Row xs c) o τ ((Row xs c).mix o τ):=⟨fun {A w cs v} hc hv=>by
 obtain ⟨h1,h2,h3,h4,h5⟩:=hc;have h6:=Zil e;have h7:k.toNat*Dat.sz α+Dat.sz α≤c*Dat.sz α:=by rw [← Nat.succ_mul];exact Nat.mul_le_mul_right _ (by omega)
 exact ⟨by omega,cs,v,⟨h1,h2,h3,h4,h5⟩,by omega,hv,rfl⟩⟩
section co
variable {P:Program} {r:Ref} {n:Nat} {Γ:Env} {Ω Ω1 Ω2:List Pe} {Q:Exit→Act→World→Prop} {ops:Array Oper} {k:Nat} {rest:List Oper} {α:Type} {i:Dat α}
theorem Stt.collG {b0 b:Nat} {pr0 pr:Prop} {C C' D0:Ct} [op:Opens r] [p0:Pick Ω b0 pr0 C Ω1] [p1:Pick Ω1 b pr D0 Ω2] {a:Act} {w:World} (hpp:pr0→pr)
  (hC:∀ {A A':Nat→Prop} {w:World} {cs:List Value},Keep A A' w w→(A' b∧∃ cs',Blk w b cs'∧D0.p A' w cs')→C.p A w cs→C'.p A' w cs) (h:Stt r n Γ Ω a w):Stt r n Γ (⟨b0,pr0,C'⟩::Ω2) a w:=by
 have h:=(h.less (Less.perm p0.perm)).less (Less.cons (Less.perm p1.perm));have hl:Less (⟨b0,pr0,C⟩::⟨b,pr,D0⟩::Ω2) (⟨b0,pr0,C⟩::Ω2):=Less.cons (Less.drop (Less.refl _));have h2:=h.less hl;have hown:∀ k,Own (⟨b0,pr0,C'⟩::Ω2) k↔Own (⟨b0,pr0,C⟩::Ω2) k:=fun k=>by
  constructor
  ·rintro ⟨e,he,h1,h2⟩;rcases List.mem_cons.1 he with rfl | he
   ·exact ⟨_,List.mem_cons_self ..,h1,h2⟩
   ·exact ⟨e,List.mem_cons_of_mem _ he,h1,h2⟩
  ·rintro ⟨e,he,h1,h2⟩;rcases List.mem_cons.1 he with rfl | he
   ·exact ⟨_,List.mem_cons_self ..,h1,h2⟩
   ·exact ⟨e,List.mem_cons_of_mem _ he,h1,h2⟩
 have hpub:Pub r.A (⟨b0,pr0,C'⟩::Ω2)=Pub r.A (⟨b0,pr0,C⟩::Ω2):=by
  funext k;exact propext (by rw [ZE,ZE,hown])
 have hk:Keep (Pub r.A (⟨b0,pr0,C⟩::⟨b,pr,D0⟩::Ω2)) (Pub r.A (⟨b0,pr0,C⟩::Ω2)) w w:=Keep.mono fun j _ hj=>ZE.2 ⟨(ZE.1 hj).1,fun ho=>(ZE.1 hj).2 (hl.own j ho)⟩
 refine ⟨h2.sz,h2.df,h2.mu,by rw [hpub];exact h2.ty,⟨fun j hj=>h2.pv.own j ((hown j).1 hj),?_,List.pairwise_cons.2 ⟨fun f hf h1 h3=>(List.pairwise_cons.1 h2.pv.ap).1 f hf h1 h3,(List.pairwise_cons.1 h2.pv.ap).2⟩⟩⟩;rw [hpub];intro e he hp;rcases List.mem_cons.1 he with rfl | he
 ·obtain ⟨cs,g1,g2⟩:=h.pv.ks ⟨b0,pr0,C⟩ (List.mem_cons_self ..) hp;refine ⟨cs,g1,hC hk ?_ g2⟩;obtain ⟨cs',g3,g4⟩:=h.pv.ks ⟨b,pr,D0⟩ (List.mem_cons_of_mem _ (List.mem_cons_self ..)) (hpp hp);refine ⟨ZE.2 ⟨op.h b (h.pv.own b ⟨_,List.mem_cons_of_mem _ (List.mem_cons_self ..),hpp hp,rfl⟩),fun ⟨f,hf,hpf,hfb⟩=>?_⟩,cs',g3,D0.keep hk g4⟩;have ha:=List.pairwise_cons.1 h.pv.ap;rcases List.mem_cons.1 hf with rfl | hf
  ·exact ha.1 _ (List.mem_cons_self ..) hpf (hpp hp) hfb
  ·exact (List.pairwise_cons.1 ha.2).1 f hf (hpp hp) hpf hfb.symm
 ·exact h2.pv.ks e (List.mem_cons_of_mem _ he) hp
theorem ZjU.coll {b m c z:Nat} {pr:Prop} {p:List (List α)} (hz:z=Dat.sz α) (hm:m=p.length) {A A':Nat→Prop} {w:World} {cs:List Value} (hk:Keep A A' w w) (hb:A' b∧∃ cs',Blk w b cs'∧(Row p.flatten c).p A' w cs') (h:(ZjU b pr z (p.map List.length) m).p A w cs):(Row p m).p A' w cs:=by
 subst hz;subst hm;obtain ⟨h1,h2,h3,h4,h5⟩:=h;refine ⟨by rw [h1];exact (Nat.mul_one _).symm,Nat.le_refl _,h3,h4,fun j hj=>?_⟩;have h6:=h5 j (by simpa using hj);simp only [List.getElem_map] at h6;obtain ⟨ds,h7,h8⟩:=ZG (C:=Row p.flatten c) (τ:=Sv b pr (offS (p.map List.length) j*Dat.sz α) p[j].length) (PlS.flat2 (i:=i) hj rfl) rfl A' w _ (fun _=>hb) h6;have h9:ds=[cs.getD j undef]:=by
  have hl:=Dat.len h7;obtain ⟨x,rfl⟩:∃ x,ds=[x]:=List.length_eq_one_iff.1 hl;have h8:cs.getD j undef=[x].getD 0 undef:=h8;simp only [List.getD_cons_zero] at h8;rw [h8]
 have h10:seg cs (j*1) 1=[cs.getD j undef]:=by
  refine ZaH (by rw [Zv (by omega)];rfl) fun q hq=>?_
  rw [Zv (by omega)] at hq;rw [Zab hq];have:q=0:=by omega
  subst this;simp
 show Dat.rd A' w (seg cs (j*1) 1) p[j];rw [h10,← h9];exact h7
theorem Stt.collS (b0 b:Nat) {m c z:Nat} {p:List (List α)} {pr:Prop} [op:Opens r] [p0:Pick Ω b0 pr (ZjU b pr z (p.map List.length) m) Ω1] [p1:Pick Ω1 b pr (Row p.flatten c) Ω2] (hz:z=Dat.sz α) (hm:m=p.length) {a:Act} {w:World}
  (h:Stt r n Γ Ω a w):Stt r n Γ (⟨b0,pr,Row p m⟩::Ω2) a w:=h.collG (C':=Row p m) id fun hk hb hc=>ZjU.coll hz hm hk hb hc
theorem TE.collS {e:Exit} (b0 b:Nat) {m c z:Nat} {p:List (List α)} {pr:Prop} [op:Opens r] [p0:Pick Ω b0 pr (ZjU b pr z (p.map List.length) m) Ω1] [p1:Pick Ω1 b pr (Row p.flatten c) Ω2] (hz:z=Dat.sz α) (hm:m=p.length)
  (h:TE r n Γ (⟨b0,pr,Row p m⟩::Ω2) Q e):TE r n Γ Ω Q e:=fun a w hs=>h a w (hs.collS b0 b hz hm)
theorem rowS_data {b b2 m c z cc:Nat} {p:List (List α)} {pr:Prop} {A:Nat→Prop} {w:World} {v:Value} (h1:pr→A b∧∃ cs,Blk w b cs∧(ZjU b2 pr z (p.map List.length) m).p A w cs) (h2:pr→A b2∧∃ cs,Blk w b2 cs∧(Row p.flatten c).p A w cs)
  (h:(Sl b pr 0 p.length cc).p A w v) (hz:z=Dat.sz α:=by rfl) (hm:m=p.length:=by rfl):(D p).p A w v:=
 ZG (C:=Row p m) (τ:=Sl b pr 0 p.length cc) PlS.all rfl A w v (fun hp=>by
  obtain ⟨g1,cs,g2,g3⟩:=h1 hp;exact ⟨g1,cs,g2,ZjU.coll hz hm (Keep.mono fun _ _ h=>h) (h2 hp) g3⟩) h
end co
theorem ZkY {σ ε:Type} {f:σ→Option (σ⊕ε)} (I:σ→Prop) (R:ε→Prop) (h1:∀ s s',I s→f s=some (.inl s')→I s') (h2:∀ s e,I s→f s=some (.inr e)→R e) {s:σ} {e:ε} (hs:I s) (h:ZM f s=some e):R e:=by
 have key:∀ (k:Nat) (s:σ),I s→Zfa f k s=some e→R e:=by
  intro k
  induction k with
  | zero=>intro s _ h;cases h
  | succ k ih=>
   intro s hs h;unfold Zfa at h;cases hf:f s with
   | none=>rw [hf] at h;cases h
   | some x=>
    rw [hf] at h;cases x with
    | inl s'=>exact ih s' (h1 s s' hs hf) h
    | inr e'=>obtain rfl:=ZZi h;exact h2 s e' hs hf
 exact key _ s hs h
theorem TC.loopPI {P:Program} {r:Ref} {n:Nat} {Γ:Env} {Ω:List Pe} {Q:Exit→Act→World→Prop} {σ ε ν:Type} {f:σ→Option (σ⊕ε)} {s0:σ} {e:ε} {c:Code} (hl:ZM f s0=some e) (Inv:σ→Prop) (hi:Inv s0) (hp:∀ s s',Inv s→f s=some (.inl s')→Inv s') (I:σ→ν→Env) (J:σ→ν→List Pe) (m0:ν) (h0:Γ.le (I s0 m0)) (j0:Less Ω (J s0 m0))
  (round:∀ s m x,Inv s→f s=some x→(∀ e',x=.inr e'→e'=e)→TC P r n (I s m) (J s m) c (Exit.then (fun a w=>∃ s' m',x=.inl s'∧Stt r n (I s' m') (J s' m') a w) Q)):TC P r n Γ Ω (.loop c) Q:=by
 refine TC.loop (γ:={g:σ×ν×Nat // Zfa f g.2.2 g.1=some e∧Inv g.1}) (fun g=>I g.1.1 g.1.2.1) (fun g=>J g.1.1 g.1.2.1) (fun g=>g.1.2.2) ⟨(s0,m0,_),hl,hi⟩ h0 j0 ?_;rintro ⟨⟨s,m,k⟩,hg,hv⟩;cases k with
 | zero=>cases hg
 | succ k=>
  have hg:Zfa f (k+1) s=some e:=hg;have hv:Inv s:=hv;unfold Zfa at hg;cases hf:f s with
  | none=>rw [hf] at hg;cases hg
  | some x=>
   rw [hf] at hg;intro a w hs;have:=round s m x hv hf (fun e' h=>by subst h;injection hg) a w hs;refine wpIn_mono this fun ex a' w' hq=>?_
   cases ex with
   | normal=>
    obtain ⟨s',m',hx,hst⟩:=hq;subst hx;exact ⟨⟨(s',m',k),hg,hp s s' hv hf⟩,Nat.lt_succ_self _,hst⟩
   | _=>exact hq
theorem Zl6 {α:Type} {b z m o:Nat} {pr:Prop} {p:List (List α)} {k:Int} {x:List α} (e:idx p k=some x) (ho:o=k.toNat):CeH (ZjU b pr z (p.map List.length) m) o (Sv b pr (offS (p.map List.length) k.toNat*z) x.length):=by
 obtain ⟨-,h5⟩:=ZaS e;obtain ⟨h6,h7⟩:=List.getElem?_eq_some_iff.1 h5;have:=ZjU.at (b:=b) (z:=z) (m:=m) (pr:=pr) (L:=p.map List.length) (j:=k.toNat) (o:=o) (by simpa using h6) ho;rw [List.getElem_map,h7] at this;exact this
theorem rowS_nm {α:Type} {b z m:Nat} {pr:Prop} {p q:List (List α)} (h:some p=some q):ZjU b pr z (p.map List.length) m=ZjU b pr z (q.map List.length) m:=by rw [ZZi h]
theorem rowF_nm {α:Type} {i:Dat α} {c:Nat} {p q:List (List α)} (h:some p=some q):Row p.flatten c=Row q.flatten c:=by rw [ZZi h]
theorem ZlU {α:Type} {b z m:Nat} {pr:Prop} {p:List (List α)} {k:Int} {x ys:List α} (e:idx p k=some x) (hy:ys.length=x.length):ZjU b pr z (p.map List.length) m=ZjU b pr z ((p.set k.toNat ys).map List.length) m:=by
 obtain ⟨-,h5⟩:=ZaS e;obtain ⟨h6,h7⟩:=List.getElem?_eq_some_iff.1 h5;rw [Zkl h6 (by rw [h7];exact hy)]
theorem PlS.page {α:Type} {i:Dat α} {p:List (List α)} {c:Nat} {k:Int} {x:List α} (e:idx p k=some x):PlS (Row p.flatten c) (offS (p.map List.length) k.toNat*Dat.sz α) α i x fun ys=>Row (p.set k.toNat ys).flatten c:=by
 obtain ⟨-,h5⟩:=ZaS e;obtain ⟨h6,h7⟩:=List.getElem?_eq_some_iff.1 h5;have:=PlS.flat2 (i:=i) (c:=c) h6 rfl;rw [h7] at this;exact this
theorem Pl.page {α:Type} {i:Dat α} {p:List (List α)} {c:Nat} {k q:Int} {x:List α} {y:α} (e:idx p k=some x) (e2:idx x q=some y):Pl (Row p.flatten c) (offS (p.map List.length) k.toNat*Dat.sz α+q.toNat*Dat.sz α) α i y fun y=>Row (p.set k.toNat (x.set q.toNat y)).flatten c:=by
 obtain ⟨-,h5⟩:=ZaS e2;obtain ⟨h6,h7⟩:=List.getElem?_eq_some_iff.1 h5;have:=Pl.part (PlS.page (i:=i) (c:=c) e) h6;rw [h7] at this;exact this
def lenI (n m:Nat):Option Unit:=if n=m then some () else none
theorem Zfb {n m:Nat} {u:Unit} (h:lenI n m=some u):m=n:=by
 unfold lenI at h;split at h
 ·exact Eq.symm ‹_›
 ·cases h
theorem ZhG {n m:Nat} (h:n=m):lenI n m=some ():=if_pos h
theorem rowF_nil {α:Type} {i:Dat α} {p:List (List α)} {c:Nat} {k:Int} {x:List α} (e:idx p k=some x) (h:x=[]):Row (p.set k.toNat ([]:List α)).flatten c=Row p.flatten c:=by
 subst h;obtain ⟨-,h5⟩:=ZaS e;obtain ⟨h6,h7⟩:=List.getElem?_eq_some_iff.1 h5;rw [← h7,List.set_getElem_self]
class IsPtr (τ:Ty):Prop where
 h:∀ {A:Nat→Prop} {w:World} {v:Value},τ.p A w v→∃ a,v=.pointer (some a)
instance {b o:Nat} {pr:Prop}:IsPtr (Pq b o pr):=⟨fun h=>⟨_,h.2⟩⟩
instance {b o:Nat}:IsPtr (Pt b o):=⟨fun h=>⟨_,h⟩⟩
instance {α:Type} {i:Dat α} {x:α}:IsPtr (ZlO x):=⟨fun ⟨b,o,cs,h,_⟩=>⟨_,h⟩⟩
theorem ZiE {P:Program} {B0:Nat} {A:Nat→Prop} {Ω:List Pe} {Γ:Env} {dst:Option Tmp} {ty:TypeId} {pos:String} {aft:Array Edge} {gd:Option (Nat×Bool)} {x:Operand} {τ σ:Ty} [Has Γ x τ] [k:AsT τ σ] [q:IsPtr σ]:OpY P B0 A Ω Γ ⟨dst,.nilCheck x,ty,pos,aft,gd⟩ σ:=
 OpY.val fun a w hl=>by
  have h:=k.le _ _ _ (Zt (x:=x) (τ:=τ) (op:=.nilCheck x) (by simp [Op.operands]) hl);obtain ⟨ad,e⟩:=q.h h;refine ⟨a.eval x,?_,h⟩;simp only [execOp,e,Sem.run_pure]
theorem Pl.partI {α:Type} {i:Dat α} {C:Ct} {o:Nat} {xs:List α} {upd:List α→Ct} {q:Int} {y:α} (h:PlS C o α i xs upd) (e:idx xs q=some y):Pl C (o+q.toNat*Dat.sz α) α i y fun y=>upd (xs.set q.toNat y):=by
 obtain ⟨-,h5⟩:=ZaS e;obtain ⟨h6,h7⟩:=List.getElem?_eq_some_iff.1 h5;have:=Pl.part h h6;rw [h7] at this;exact this
theorem rowF_keep {α:Type} {i:Dat α} {p:List (List α)} {c:Nat} {k:Int} {x:List α} (e:idx p k=some x):Row p.flatten c=Row (p.set k.toNat x).flatten c:=by
 obtain ⟨-,h5⟩:=ZaS e;obtain ⟨h6,h7⟩:=List.getElem?_eq_some_iff.1 h5;rw [← h7,List.set_getElem_self]
theorem PlS.pageF {α:Type} {i:Dat α} {p:List (List α)} {c:Nat} {k:Int} {x ys:List α} (e:idx p k=some x) (hy:ys.length=x.length):PlS (Row (p.set k.toNat ys).flatten c) (offS (p.map List.length) k.toNat*Dat.sz α) α i ys fun zs=>Row (p.set k.toNat zs).flatten c:=by
 obtain ⟨h0,h5⟩:=ZaS e;obtain ⟨h6,h7⟩:=List.getElem?_eq_some_iff.1 h5;have e2:idx (p.set k.toNat ys) k=some ys:=by
  unfold idx;rw [if_pos h0,List.getElem?_set_self h6]
 have:=PlS.page (i:=i) (c:=c) e2;rw [Zkl h6 (by rw [h7];exact hy)] at this;simp only [List.set_set] at this;exact this
end Go.Proofs.YtkmojgfenlgchaaGreatDoor.Tr
namespace Go.Proofs.YtkmojgfenlgchaaGreatDoor.Tr
open Go Go.RowKit
structure EqN (P:Program) (t:TypeId) (α:Type) (i:Dat α) (n:Nat) [DecidableEq α]:Prop where
 h:∀ {A:Nat→Prop} (w:World) (d:Nat) {cs ds:List Value} {x y:α},Dat.rd A w cs x→Dat.rd A w ds y→(Op.equalIn (d+n+1) t (mkV α cs) (mkV α ds)).run P w=.ok (decide (x=y)) w
section
variable {P:Program} {t u:TypeId} {n:Nat}
theorem EqN.i64 {k:IntKind} (hu:P.underlying t=some (.int k)):EqN P t Int inferInstance n:=⟨fun {A} w d {cs ds x y} hx hy=>by
 obtain ⟨rfl,-⟩:=hx;obtain ⟨rfl,-⟩:=hy;show (Op.equalIn (d+n+1) t (.int .i64 x) (.int .i64 y)).run P w=_;rw [run_equalIn_int w (d+n) t .i64 k x y hu]
 by_cases h:x=y <;> simp [h]⟩
theorem EqN.u8 {k:IntKind} (hu:P.underlying t=some (.int k)):EqN P t UInt8 inferInstance n:=⟨fun {A} w d {cs ds x y} hx hy=>by
 have hx:cs=[.int .u8 x.toNat]:=hx;have hy:ds=[.int .u8 y.toNat]:=hy;subst hx;subst hy;show (Op.equalIn (d+n+1) t (.int .u8 x.toNat) (.int .u8 y.toNat)).run P w=_;rw [run_equalIn_int w (d+n) t .u8 k _ _ hu];have e3:((x.toNat:Int)=(y.toNat:Int))↔x=y:=by rw [Int.natCast_inj,UInt8.toNat_inj]
 have e4:((x.toNat:Int) == (y.toNat:Int))=decide (x=y):=by rw [Bool.eq_iff_iff];simp only [beq_iff_eq,e3,decide_eq_true_eq]
 rw [e4]⟩
theorem EqN.bool (hu:P.underlying t=some .bool):EqN P t Bool inferInstance n:=⟨fun {A} w d {cs ds x y} hx hy=>by
 have hx:cs=[.bool x]:=hx;have hy:ds=[.bool y]:=hy;subst hx;subst hy;show (Op.equalIn (d+n+1) t (.bool x) (.bool y)).run P w=_;rw [run_equalIn_bool' w (d+n) t x y hu];cases x <;> cases y <;> rfl⟩
theorem eqF_nil {d:Nat} {xs ys:Array Value} {w:World}:(Op.eqFields d xs ys []).run P w=.ok true w:=by simp [Op.eqFields]
theorem Zfu {f : Field} {rest : List Field} {off : Nat} {β : Type} {j : Dat β} [DecidableEq β] (hn : f.name ≠ "_") (hu : f.type = u) (ho : f.offset = off) [T : TDat P u β j] (E : EqN P u β j n) {A : Nat → Prop} {w : World} {d : Nat} {cs ds : List Value} {a b : β} {r : Bool}
  (la:off+Dat.sz β≤cs.length) (lb:off+Dat.sz β≤ds.length) (ra:Dat.rd A w (seg cs off (Dat.sz β)) a) (rb:Dat.rd A w (seg ds off (Dat.sz β)) b)
  (hr:(Op.eqFields (d+n+1) cs.toArray ds.toArray rest).run P w=.ok r w):(Op.eqFields (d+n+1) cs.toArray ds.toArray (f::rest)).run P w=.ok (decide (a=b)&&r) w:=by
 subst hu;subst ho;simp only [Op.eqFields,if_pos hn,Sem.run_bind,ZlT (P:=P) (u:=f.type) ra la,ZlT (P:=P) (u:=f.type) rb lb,Result.andThen_ok,E.h w d ra rb]
 by_cases h:a=b
 ·simp [h,hr]
 ·simp [h]
theorem EqN.struct {α:Type} {i:Dat α} [DecidableEq α] {fs:Array Field} (hu:P.underlying t=some (.struct fs)) (hp:P.stoodInHeld t=false) (ha:Dat.agg α=true)
  (hf:∀ {A:Nat→Prop} (w:World) (d:Nat) {cs ds:List Value} {x y:α},Dat.rd A w cs x→Dat.rd A w ds y→(Op.eqFields (d+n+1) cs.toArray ds.toArray fs.toList).run P w=.ok (decide (x=y)) w):EqN P t α i (n+1):=⟨fun {A} w d {cs ds x y} hx hy=>by
 have hfs:P.fieldsOf t=fs:=by unfold Program.fieldsOf;rw [hu]
 have e1:mkV α cs=.agg cs.toArray:=by unfold mkV;rw [ha];rfl
 have e2:mkV α ds=.agg ds.toArray:=by unfold mkV;rw [ha];rfl
 rw [e1,e2,run_equalIn_agg w (d+(n+1)) t _ _ (by rw [hfs];exact hu) hp,hfs];exact hf w d hx hy⟩
variable {B0:Nat} {A:Nat→Prop} {Ω:List Pe} {Γ:Env} {dst:Option Tmp} {ty:TypeId} {pos:String} {aft:Array Edge} {gd:Option (Nat×Bool)}
variable {α:Type} {i:Dat α} [DecidableEq α] {x y:Operand} {τ σ:Ty} {m k:α}
theorem ZhW [Has Γ x τ] [hx:AsD τ α i m] [Has Γ y σ] [hy:AsD σ α i k] (E:EqN P t α i n) (hn:n<10000) (hg:P.eqGuardType P.depth t=false) (ha:Dat.agg α=true):OpY P B0 A Ω Γ ⟨dst,.binOp .neq t x y u,ty,pos,aft,gd⟩ (B (decide (m≠k))):=
 OpY.val fun a w hl=>by
  obtain ⟨cs,h1,h2⟩:=hx.le _ _ _ (Zt (x:=x) (τ:=τ) (op:=.binOp .neq t x y u) (by simp [Op.operands]) hl);obtain ⟨ds,h3,h4⟩:=hy.le _ _ _ (Zt (x:=y) (τ:=σ) (op:=.binOp .neq t x y u) (by simp [Op.operands]) hl);have e1:mkV α cs=.agg cs.toArray:=by unfold mkV;rw [ha];rfl
  have e2:mkV α ds=.agg ds.toArray:=by unfold mkV;rw [ha];rfl
  have h5:=E.h w (9999-n) h1 h3;rw [show 9999-n+n+1=10000 by omega,e1,e2] at h5;refine ⟨.bool (decide (m≠k)),?_,rfl⟩;simp only [execOp,h2,h4,e1,e2,Sem.run_bind,run_eqGuard_agg w .neq t x y _ _ hg,Result.andThen_ok,run_neq_struct,h5,Sem.run_pure]
  by_cases h:m=k <;> simp [h]
theorem ZmQ [Has Γ x τ] [hx:AsD τ α i m] [Has Γ y σ] [hy:AsD σ α i k] (E:EqN P t α i n) (hn:n<10000) (hg:P.eqGuardType P.depth t=false) (ha:Dat.agg α=true):OpY P B0 A Ω Γ ⟨dst,.binOp .eql t x y u,ty,pos,aft,gd⟩ (B (decide (m=k))):=
 OpY.val fun a w hl=>by
  obtain ⟨cs,h1,h2⟩:=hx.le _ _ _ (Zt (x:=x) (τ:=τ) (op:=.binOp .eql t x y u) (by simp [Op.operands]) hl);obtain ⟨ds,h3,h4⟩:=hy.le _ _ _ (Zt (x:=y) (τ:=σ) (op:=.binOp .eql t x y u) (by simp [Op.operands]) hl);have e1:mkV α cs=.agg cs.toArray:=by unfold mkV;rw [ha];rfl
  have e2:mkV α ds=.agg ds.toArray:=by unfold mkV;rw [ha];rfl
  have h5:=E.h w (9999-n) h1 h3;rw [show 9999-n+n+1=10000 by omega,e1,e2] at h5;refine ⟨.bool (decide (m=k)),?_,rfl⟩;simp only [execOp,h2,h4,e1,e2,Sem.run_bind,run_eqGuard_agg w .eql t x y _ _ hg,Result.andThen_ok,run_eql_struct,h5,Sem.run_pure]
end
end Go.Proofs.YtkmojgfenlgchaaGreatDoor.Tr
namespace Go.Proofs.YtkmojgfenlgchaaGreatDoor.Tr
open Go Go.RowKit
def Clo1 (g:Nat) (τ:Ty):Ty:=⟨fun A w v=>∃ c,v=.func (.func g) #[] #[c]∧τ.p A w c,fun k ⟨c,h,t⟩=>⟨c,h,τ.keep k t⟩⟩
section ops
variable {P:Program} {B0:Nat} {A:Nat→Prop} {Ω:List Pe} {Γ:Env} {dst:Option Tmp} {ty:TypeId} {pos:String} {aft:Array Edge} {gd:Option (Nat×Bool)} {f:FuncId}
theorem OpY.clo1 {c1:Operand} {τ1 σ1:Ty} [h1:Has Γ c1 τ1] (k1:τ1.le σ1):OpY P B0 A Ω Γ ⟨dst,.makeFunc (.func f) #[] #[c1],ty,pos,aft,gd⟩ (Clo1 f σ1):=
 OpY.val fun a w hl=>⟨.func (.func f) #[] #[a.eval c1],by simp [execOp,Instr.makeFunc],_,rfl,k1 _ _ _ (h1.le a A w fun t e=>hl t (by simp [Op.operands,e]))⟩
end ops
end Go.Proofs.YtkmojgfenlgchaaGreatDoor.Tr
namespace Go.Proofs.YtkmojgfenlgchaaGreatDoor.Tr
open Go Go.RowKit
section
variable (r:Ref) (n:Nat) (Γ:Env)
structure Rec where
 fn:FuncId
 tmps:Array Value
 ps:Array Tmp
 assign:Code
 body:Code
 D:Nat
variable {σ ε ν:Type} (J:σ→ν→List Pe) (Jx:ε→ν→List Pe)
structure Rnd where
 l:Nat
 D:Nat
 a:Act
 q:Rec
 X:Nat→Prop
 Y:Nat→Prop
 Ac:Nat→Prop
 W:World
end
section rules
variable {P:Program} {r:Ref} {n:Nat} {Γ Γ':Env} {Ω:List Pe} {Q:Exit→Act→World→Prop} {σ ε ν:Type} {J:σ→ν→List Pe} {Jx:ε→ν→List Pe} {R:Rnd} {t:Bool} {rr:Ref}
theorem Zec {y:Code} {ρ:Option Nat} (hρ:r.ρ=ρ) (h:TC P r n Γ Ω y Q):TE r n Γ Ω (Exit.then (y.wpIn (FR ρ) 0 P Q) Q) .normal:=by subst hρ;exact h
end rules
end Go.Proofs.YtkmojgfenlgchaaGreatDoor.Tr
namespace Go.Proofs.YtkmojgfenlgchaaGreatDoor.Tr
open Go Go.RowKit
theorem bytes_get {l:List UInt8} {i:Nat} {v:UInt8} (h:l[i]?=some v):(⟨l.toArray⟩:ByteArray)[i]?=some v:=by
 obtain ⟨h1,h2⟩:=List.getElem?_eq_some_iff.1 h;have hs:i<(⟨l.toArray⟩:ByteArray).size:=by show i<l.toArray.size;simpa using h1
 rw [getElem?_pos (⟨l.toArray⟩:ByteArray) i hs];refine congrArg some ?_;show l.toArray[i]=v;simpa using h2
section ops
variable {P:Program} {B0:Nat} {A:Nat→Prop} {Ω:List Pe} {Γ:Env} {dst:Option Tmp} {ty:TypeId} {pos:String} {aft:Array Edge} {gd:Option (Nat×Bool)} {t e:TypeId} {x y:Operand} {τ σ:Ty}
theorem OpY.indexStr {l l':List UInt8} {q:Int} {v:UInt8} [T:TStr P t] [Has Γ x τ] [hx:AsStr τ l'] [Has Γ y σ] [hy:AsIx σ q] (hl:l'=l) (h:idx l q=some v):OpY P B0 A Ω Γ ⟨dst,.index t x y,ty,pos,aft,gd⟩ (D v):=
 OpY.val fun a w hl2=>by
  subst hl;have e1:a.eval x=.string ⟨l'.toArray⟩:=hx.le _ _ _ (Zt (x:=x) (τ:=τ) (op:=.index t x y) (by simp [Op.operands]) hl2);obtain ⟨kd,e2⟩:=hy.h (Zt (x:=y) (τ:=σ) (op:=.index t x y) (by simp [Op.operands]) hl2);obtain ⟨h1,h2⟩:=ZaS h;refine ⟨.int .u8 v.toNat,?_,[_],rfl,rfl⟩;simp only [execOp,e1,e2,Instr.index,asIntOf,Sem.run_bind,Sem.run_pure,Result.andThen_ok,run_underlying T.h,h1,if_true,bytes_get h2]
end ops
end Go.Proofs.YtkmojgfenlgchaaGreatDoor.Tr
namespace Go.Proofs.YtkmojgfenlgchaaGreatDoor.Tr
open Go
variable {P:Program} {B0:Nat} {A:Nat→Prop} {Ω:List Pe} {Γ:Env} {dst:Option Tmp} {ty:TypeId} {pos:String} {aft:Array Edge} {gd:Option (Nat×Bool)}
class ExtCmp (P:Program) (f:FuncId):Prop where
 h:∀ args w,(callFunc f args).run P w=((Extern.BytealgCompare.compare args).run P w).andThen fun v w'=>.ok (.value v) w'
def ZcT:List UInt8→List UInt8→Int
 | [],[]=>0
 | [],_::_=>-1
 | _::_,[]=>1
 | a::l1,b::l2=>if a<b then -1 else if b<a then 1 else ZcT l1 l2
theorem ZmH:∀ a b:List UInt8,Lib.compareBytes a b=ZcT a b
 | [],[]=>rfl
 | [],_::_=>rfl
 | _::_,[]=>rfl
 | a::l1,b::l2=>by unfold Lib.compareBytes ZcT;rw [ZmH l1 l2]
theorem ZmG:∀ a b:List UInt8,ZcT a b=-1∨ZcT a b=0∨ZcT a b=1
 | [],[]=>.inr (.inl rfl)
 | [],_::_=>.inl rfl
 | _::_,[]=>.inr (.inr rfl)
 | a::l1,b::l2=>by
  unfold ZcT
  split
  ·exact .inl rfl
  ·split
   ·exact .inr (.inr rfl)
   ·exact ZmG l1 l2
theorem Zmm {w:World} {v:Value} {l:List UInt8} (h:(D l).p A w v):(Extern.Bytes.bytesOf v).run P w=.ok ⟨l.toArray⟩ w:=by
 obtain ⟨ad,c,e,h1,h2,h3,h4⟩:=ZlQ rfl h;obtain rfl:=(List.cons.inj e).1;cases l with
 | nil=>
  cases ad with
  | none=>rfl
  | some ad=>rfl
 | cons x xs=>
  obtain ⟨b,off,rfl,-⟩:=h4 0 (by simp);have hl:=Lib.run_loadBytesX (P:=P) w ((x::xs).map fun y=>(y.toNat:Int)) ⟨b,off,none⟩ .empty (fun j z hj=>by
   rw [List.getElem?_map] at hj;obtain ⟨y,hy,rfl⟩:=Option.map_eq_some_iff.1 hj;obtain ⟨hjl,hy2⟩:=List.getElem?_eq_some_iff.1 hy;obtain ⟨b',off',e',-,es,g1,g2⟩:=h4 j hjl;obtain ⟨rfl,rfl,-⟩:=Addr.mk.inj (ZZi e');have g2:es=[Value.int .u8 ((x::xs)[j].toNat:Int)]:=g2;subst g2;have g3:=g1 0 (by simp);rw [hy2] at g3;have e2:(⟨b,off,none⟩:Addr).add j=⟨b,off+j,none⟩:=by unfold Addr.add;split <;> simp_all
   rw [e2];have:Dat.sz UInt8=1:=rfl;rw [this,Nat.mul_one,Nat.add_zero] at g3;exact g3)
  have hb:(⟨ByteArray.empty.data++(Lib.bytesOf ((x::xs).map fun y=>(y.toNat:Int))).toArray⟩:ByteArray)=⟨(x::xs).toArray⟩:=by
   apply ByteArray.ext;show (#[]:Array UInt8)++(Lib.bytesOf ((x::xs).map fun y=>(y.toNat:Int))).toArray=_;rw [Array.empty_append];congr 1;unfold Lib.bytesOf;rw [List.map_map];rw [List.map_congr_left (g:=fun y=>y) (fun y _=>by show (y.toNat:Int).toNat.toUInt8=y;rw [Int.toNat_natCast];simp),List.map_id']
  rw [hb,List.length_map] at hl;exact hl
theorem OpY.cmp {f:FuncId} {ts:Array TypeId} [F:ExtCmp P f] {x1 x2:Operand} {τ1 τ2:Ty} {l1 l2:List UInt8} [h1:Has Γ x1 τ1] [k1:AsL τ1 UInt8 instDatUInt8 l1] [h2:Has Γ x2 τ2] [k2:AsL τ2 UInt8 instDatUInt8 l2] :
  OpY P B0 A Ω Γ ⟨dst,.call { callee:=.value (.func f),args:=#[x1,x2],argTypes:=ts },ty,pos,aft,gd⟩ (D (ZcT l1 l2:Int)):=fun a w hB hu hp hl=>by
 have g1:=k1.le _ _ _ (h1.le a A w fun t e=>hl t (by simp [Op.operands,Call.operands,e]));have g2:=k2.le _ _ _ (h2.le a A w fun t e=>hl t (by simp [Op.operands,Call.operands,e]));have hr:(Extern.BytealgCompare.compare #[a.eval x1,a.eval x2]).run P w=.ok (.int .i64 (ZcT l1 l2)) w:=by
  change Sem.run P (do pure (goInt (Extern.BytealgCompare.cmp (← Extern.Bytes.bytesOf (a.eval x1)) (← Extern.Bytes.bytesOf (a.eval x2))))) w=_
  simp only [Sem.run_bind,Zmm (P:=P) g1,Zmm (P:=P) g2,Result.andThen_ok,Sem.run_pure];rw [Lib.cmp_eq,ZmH];rfl
 have:(execOp a.eval ⟨dst,.call { callee:=.value (.func f),args:=#[x1,x2],argTypes:=ts },ty,pos,aft,gd⟩).run P w=.ok (.value (.int .i64 (ZcT l1 l2))) w:=by
  have e1:a.eval (.func f)=.func (.func f) #[] #[]:=rfl;simp only [execOp,resolve,Deferred.ofValue,e1,Sem.run_bind,Sem.run_pure,Result.andThen_ok,invoke,Array.append_empty,Array.empty_append];rw [show (#[x1,x2].map a.eval)=#[a.eval x1,a.eval x2] by simp,F.h,hr];rfl
 rw [this];have:=ZmG l1 l2;exact ⟨Grow.refl _ _,⟨[.int .i64 (ZcT l1 l2)],⟨rfl,by unfold ZeD;omega⟩,rfl⟩⟩
section arr
variable {β:Type} {j:Dat β} {n:Nat} [hn:BoolIs (Nat.ble 1 n) true]
theorem vec_set {A:Nat→Prop} {w:World} {cs ds:List Value} {v:Vec β n} {k:Nat} {y:β} (hk:k<n) (h:Dat.rd A w cs v) (hd:Dat.rd A w ds y):Dat.rd A w (ZU cs (k*Dat.sz β) ds) (v.set k y):=by
 obtain ⟨g1,g3⟩:=h;have hv:=v.h;have l2:=Dat.len hd;have hkn:k*Dat.sz β+Dat.sz β≤n*Dat.sz β:=by rw [← Nat.succ_mul];exact Nat.mul_le_mul_right _ hk
 refine ⟨by rw [Zl (by omega),g1],fun q hq=>?_⟩;have hq':q<v.l.length:=by simpa [Vec.set] using hq
 by_cases hqk:q=k
 ·subst hqk;have e9:=ZbH (cs:=cs) (o:=q*Dat.sz β) (vs:=ds) (by omega);rw [l2] at e9;rw [e9];simp only [Vec.set,List.getElem_set_self];exact hd
 ·rw [Zaz (by omega) (by rw [g1,← Nat.succ_mul];exact Nat.mul_le_mul_right _ (by omega)) ?_]
  ·simp only [Vec.set,List.getElem_set_ne (fun h=>hqk h.symm)];exact g3 q hq'
  ·rcases Nat.lt_or_ge q k with h6 | h6
   ·left;rw [← Nat.succ_mul];exact Nat.mul_le_mul_right _ (by omega)
   ·right;rw [l2,← Nat.succ_mul];exact Nat.mul_le_mul_right _ (by omega)
class HasPartsA (Γ:Env) (ps:List (Nat×Operand)) (β:Type) (j:Dat β) (n:Nat) [hn:BoolIs (Nat.ble 1 n) true] (x0:Vec β n) (x:outParam (Vec β n)):Prop where
 h:∀ (a:Act) A w,(∀ k,.tmp k∈ps.map (·.2)→(Γ k).p A w (a.tmps.getD k undef))→∀ cs,Dat.rd A w cs x0→
  ∃ cs',Instr.fill (fun i=>some (i*Dat.sz β,Dat.sz β)) cs.toArray (ps.map fun p=>(p.1,a.eval p.2))=some cs'.toArray∧Dat.rd A w cs' x
instance {x:Vec β n}:HasPartsA Γ [] β j n x x:=⟨fun a A w _ cs h=>⟨cs,by simp [Instr.fill],h⟩⟩
instance {x0 x:Vec β n} {p:Operand} {f:Nat} {ps:List (Nat×Operand)} {τ:Ty} {y:β} [hf:BoolIs (Nat.ble n f) false] [hp:Has Γ p τ] [hy:ToD τ β j y] [r:HasPartsA Γ ps β j n (x0.set f y) x] :
  HasPartsA Γ ((f,p)::ps) β j n x0 x:=⟨fun a A w ha cs hr=>by
 obtain ⟨es,e1,e2⟩:=ZjR (hy.le _ _ _ (hp.le a A w fun k e=>ha k (by simp [e])));have hfn:f<n:=by
  have h:=hf.h;rcases Nat.lt_or_ge f n with h1 | h1
  ·exact h1
  ·rw [Nat.ble_eq_true_of_le h1] at h;cases h
 have l1:es.length=Dat.sz β:=Dat.len e2;have l2:cs.length=n*Dat.sz β:=Dat.len hr;have l3:f*Dat.sz β+Dat.sz β≤n*Dat.sz β:=by rw [← Nat.succ_mul];exact Nat.mul_le_mul_right _ hfn
 obtain ⟨cs',r1,r2⟩:=r.h a A w (fun k hk=>ha k (List.mem_cons_of_mem _ hk)) _ (vec_set hfn hr e2);refine ⟨cs',?_,r2⟩;simp only [List.map_cons,Instr.fill,e1];rw [if_neg (by simp [l1];omega)];have h5:=ZdS es 0 (f*Dat.sz β) cs (by omega);simp only [Nat.add_zero] at h5;rw [← r1];congr 1;rw [← h5];simp⟩
theorem Zdi {t e:TypeId} {parts:Array (Nat×Operand)} {ps:List (Nat×Operand)} {bt be:Nat} {x:Vec β n} (y:Vec β n) [T:TEl P t (Vec β n) instVec bt] [E:TEl P e β j be] (hps:parts=ps.toArray) (hu:P.underlying t=some (.array n e))
  [h:HasPartsA Γ ps β j n Dat.z x] (hxy:x=y):OpY P B0 A Ω Γ ⟨dst,.build t parts,ty,pos,aft,gd⟩ (D y):=hxy▸
 OpY.val fun a w hl=>by
  subst hps;obtain ⟨ti,z,i1,i2,i3,i4,i5⟩:=T.h;obtain ⟨ei,ez,k1,k2,k3,k4,k5⟩:=E.h;obtain ⟨cs',r1,r2⟩:=h.h a A w (fun k hk=>hl k (by simp only [Op.operands];simpa using hk)) _ Dat.zrd;refine ⟨.agg cs'.toArray,?_,cs',r2,by unfold mkV;rfl⟩;have hb:P.built t ((ps.toArray.map fun (i,x)=>(i,a.eval x)).toList)=some cs'.toArray:=by
   unfold Program.built;rw [i1,hu];simp only [i2,k1,i5,k3];simpa using r1
  simp only [execOp,Sem.run_bind,run_build w t _ cs'.toArray hb,Result.andThen_ok,Sem.run_pure]
end arr
end Go.Proofs.YtkmojgfenlgchaaGreatDoor.Tr
namespace Go.Proofs.YtkmojgfenlgchaaGreatDoor.Tr
open Go Go.RowKit
section
variable {P:Program} {t u:TypeId} {n:Nat}
theorem EqN.up {α:Type} {i:Dat α} [DecidableEq α] {m:Nat} (h:EqN P t α i n) (hm:n≤m):EqN P t α i m:=⟨fun {A} w d {cs ds x y} hx hy=>by
 have:=h.h w (d+(m-n)) hx hy;rw [show d+(m-n)+n+1=d+m+1 by omega] at this;exact this⟩
theorem EqN.u16 {k:IntKind} (hu:P.underlying t=some (.int k)):EqN P t UInt16 inferInstance n:=⟨fun {A} w d {cs ds x y} hx hy=>by
 have hx:cs=[.int .u16 x.toNat]:=hx;have hy:ds=[.int .u16 y.toNat]:=hy;subst hx;subst hy;show (Op.equalIn (d+n+1) t (.int .u16 x.toNat) (.int .u16 y.toNat)).run P w=_;rw [run_equalIn_int w (d+n) t .u16 k _ _ hu];have e3:((x.toNat:Int)=(y.toNat:Int))↔x=y:=by rw [Int.natCast_inj,UInt16.toNat_inj]
 have e4:((x.toNat:Int) == (y.toNat:Int))=decide (x=y):=by rw [Bool.eq_iff_iff];simp only [beq_iff_eq,e3,decide_eq_true_eq]
 rw [e4]⟩
def ZjJ (d:Nat) (u:TypeId) (n:Nat) (xs ys:Array Value):Nat→Nat→Sem Bool
 | _,0=>pure true
 | i,k+1=>do if !(← Op.equalIn d u (← part u xs (i*n)) (← part u ys (i*n))) then pure false else ZjJ d u n xs ys (i+1) k
theorem ZkT {w:World} {d len:Nat} {xs ys:Array Value} (ht:P.underlying t=some (.array len u)) {m:Nat} (hm:∀ w,(sizeOf u).run P w=.ok m w) :
  (Op.equalIn (d+1) t (.agg xs) (.agg ys)).run P w=(ZjJ d u m xs ys 0 len).run P w:=by
 simp only [Op.equalIn,Sem.run_bind,run_underlying ht,Result.andThen_ok,hm];rw [Std.Legacy.Range.forIn_eq_forIn_range'];simp only [Std.Legacy.Range.size,Nat.sub_zero,Nat.add_sub_cancel,Nat.div_one];clear ht hm;generalize (0:Nat)=i
 induction len generalizing i w with
 | zero=>simp [ZjJ]
 | succ k ih=>
  rw [List.range'_succ];simp only [List.forIn_cons,ZjJ,Sem.run_bind];generalize (part u xs (i*m)).run P w=r1;cases r1 with
  | ok a w1=>
   simp only [Result.andThen_ok];generalize (part u ys (i*m)).run P w1=r2;cases r2 with
   | ok b w2=>
    simp only [Result.andThen_ok];generalize (Op.equalIn d u a b).run P w2=r3;cases r3 with
    | ok r w3=>
     cases r
     ·simp only [Result.andThen_ok,Bool.not_false,if_true,Sem.run_pure]
     ·simp only [Result.andThen_ok,Bool.not_true,Bool.false_eq_true,if_false,Sem.run_pure];exact ih (i+1)
    | halt x w3=>simp [Result.andThen]
   | halt x w2=>simp [Result.andThen]
  | halt x w1=>simp [Result.andThen]
theorem EqN.vec {β:Type} {j:Dat β} [DecidableEq β] {len:Nat} [hn:BoolIs (Nat.ble 1 len) true] (hu:P.underlying t=some (.array len u)) [T:TDat P u β j] (E:EqN P u β j n):EqN P t (Vec β len) instVec (n+1):=⟨fun {A} w d {cs ds x y} hx hy=>by
 have e1:mkV (Vec β len) cs=.agg cs.toArray:=rfl;have e2:mkV (Vec β len) ds=.agg ds.toArray:=rfl;rw [e1,e2,show d+(n+1)+1=(d+n+1)+1 by omega,ZkT hu T.sz];obtain ⟨x1,x2⟩:=hx;obtain ⟨y1,y2⟩:=hy;have hxl:=x.h;have hyl:=y.h;have key:∀ (k i:Nat),i+k=len→(ZjJ (d+n+1) u (Dat.sz β) cs.toArray ds.toArray i k).run P w=.ok (decide (x.l.drop i=y.l.drop i)) w:=by
  intro k
  induction k with
  | zero=>
   intro i hi;rw [List.drop_of_length_le (by omega),List.drop_of_length_le (by omega)];simp [ZjJ]
  | succ k ih=>
   intro i hi;have hix:i<x.l.length:=by omega
   have hiy:i<y.l.length:=by omega
   have hb:i*Dat.sz β+Dat.sz β≤len*Dat.sz β:=by rw [← Nat.succ_mul];exact Nat.mul_le_mul_right _ (by omega)
   simp only [ZjJ,Sem.run_bind,ZlT (P:=P) (u:=u) (x2 i hix) (by omega),ZlT (P:=P) (u:=u) (y2 i hiy) (by omega),Result.andThen_ok,E.h w d (x2 i hix) (y2 i hiy)];rw [List.drop_eq_getElem_cons hix,List.drop_eq_getElem_cons hiy]
   by_cases h:x.l[i]=y.l[i]
   ·simp only [h,decide_true,Bool.not_true,Bool.false_eq_true,if_false,ih (i+1) (by omega),List.cons.injEq,true_and]
   ·simp only [h,decide_false,Bool.not_false,if_true,Sem.run_pure,List.cons.injEq,false_and]
 rw [key len 0 (by omega),List.drop_zero,List.drop_zero];congr 1;rw [decide_eq_decide];exact ⟨fun h=>Vec.ext h,fun h=>by rw [h]⟩⟩
end
end Go.Proofs.YtkmojgfenlgchaaGreatDoor.Tr
namespace Go.Proofs.YtkmojgfenlgchaaGreatDoor.Tr
open Go Go.RowKit
section mm
variable {P:Program} {B0:Nat} {A:Nat→Prop} {Ω:List Pe} {Γ:Env} {dst:Option Tmp} {ty:TypeId} {pos:String} {aft:Array Edge} {gd:Option (Nat×Bool)}
def max64 (a b:UInt64):UInt64:=if a<b then b else a
theorem OpY.max64 {x y:Operand} {τ σ:Ty} {ts:Array TypeId} {m k:UInt64} [Has Γ x τ] [hx:AsU64 τ m] [Has Γ y σ] [hy:AsU64 σ k] :
  OpY P B0 A Ω Γ ⟨dst,.call { callee:=.builtin .max,args:=#[x,y],argTypes:=ts },ty,pos,aft,gd⟩ (U64 (Tr.max64 m k)):=
 OpY.val fun a w hl=>⟨.int .u64 (Tr.max64 m k).toNat,by
  have e1:a.eval x=.int .u64 m.toNat:=hx.le _ _ _ (Zt (x:=x) (τ:=τ) (op:=.call { callee:=.builtin .max,args:=#[x,y],argTypes:=ts }) (by simp [Op.operands,Call.operands]) hl);have e2:a.eval y=.int .u64 k.toNat:=hy.le _ _ _ (Zt (x:=y) (τ:=σ) (op:=.call { callee:=.builtin .max,args:=#[x,y],argTypes:=ts }) (by simp [Op.operands,Call.operands]) hl);have e3:(if m.toNat<k.toNat then (k.toNat:Int) else (m.toNat:Int))=((Tr.max64 m k).toNat:Int):=by
   unfold Tr.max64
   by_cases h:m<k
   ·rw [if_pos h,if_pos (UInt64.lt_iff_toNat_lt.1 h)]
   ·rw [if_neg h,if_neg fun h3=>h (UInt64.lt_iff_toNat_lt.2 h3)]
  simp [execOp,resolve,invoke,builtin,e1,e2,Builtin.max_,Builtin.max2];exact e3,rfl⟩
end mm
def Hold (τ:Ty):Ct:=⟨fun A w cs=>∃ v,cs=[v]∧τ.p A w v,fun k ⟨v,h,t⟩=>⟨v,h,τ.keep k t⟩⟩
def PtrR {α:Type} [Dat α] (x:α):Ty:=
  ⟨fun A w v=>∃ b off u,v=.pointer (some ⟨b,off,none⟩)∧A b∧w.cell? ⟨b,off,none⟩=some u∧(ZlO x).p A w u,
   fun k ⟨b,off,u,h1,h2,h3,h4⟩=>⟨b,off,u,h1,(k.h b (cell_lt h3) h2).1,k.cell h2 h3,(ZlO x).keep k h4⟩⟩
class TPtr (P:Program) (t:TypeId):Prop where
 ag:∀ w,(isAgg t).run P w=.ok false w
 sz:∀ w,(sizeOf t).run P w=.ok 1 w
section hold
variable {P:Program} {B:Nat} {Ωs Ω:List Pe} {Γ:Env} {dst:Option Tmp} {ty:TypeId} {pos:String} {aft:Array Edge} {gd:Option (Nat×Bool)} {d:Tmp} {t:TypeId}
theorem OpT.boxP {x:Operand} {b o:Nat} [hx:Has Γ x (Pt b o)] :
  OpT P B Ωs Ω Γ ⟨some d,.box t x,ty,pos,aft,none⟩ (fun g:Nat×Unit=>Pt g.1 0) fun g=>⟨g.1,True,Hold (Pt b o)⟩::Ω:=
 ZfB (C:=fun _=>Hold (Pt b o)) rfl fun A a w _ _ hl=>by
  have e1:a.eval x=.pointer (some ⟨b,o,none⟩):=Zt (x:=x) (τ:=Pt b o) (op:=.box t x) (by simp [Op.operands]) hl;refine ⟨(),.pointer (some ⟨w.heap.size,0,none⟩),w.drawn,[.pointer (some ⟨b,o,none⟩)],t,?_,fun _ _=>rfl,_,rfl,rfl⟩;simp [execOp,Instr.box,newVar,newRow,e1,Value.cells]
theorem ZeN {A:Nat→Prop} {x:Operand} {b:Nat} {τ:Ty} [hx:Has Γ x (Pt b 0)] [hb:HasB Ω b True (Hold τ)] [T:TPtr P t] :
  OpY P B A Ω Γ ⟨dst,.load t x,ty,pos,aft,gd⟩ τ:=fun a w _ _ hp hl=>by
 have e1:a.eval x=.pointer (some ⟨b,0,none⟩):=Zt (x:=x) (τ:=Pt b 0) (op:=.load t x) (by simp [Op.operands]) hl;obtain ⟨cs,g1,v,rfl,g2⟩:=hp _ hb.h trivial;have:(loadVar t ⟨b,0,none⟩).run P w=.ok v w:=by
  unfold loadVar;rw [Sem.run_bind,T.ag];simp only [Result.andThen_ok,Bool.false_eq_true,if_false];have hc:=g1.cell (i:=0) (by simp);rw [run_load,hc];rfl
 simp only [execOp,Instr.loadAt,e1,Instr.sureAddr,Sem.run_bind,Sem.run_pure,Result.andThen_ok,this];exact ⟨Grow.refl _ _,g2⟩
theorem OpY.ldR {A:Nat→Prop} {α:Type} {i:Dat α} {y:α} {x:Operand} [hx:Has Γ x (PtrR y)] [T:TPtr P t] :
  OpY P B A Ω Γ ⟨dst,.load t x,ty,pos,aft,gd⟩ (ZlO y):=fun a w _ _ hp hl=>by
 obtain ⟨b,off,u,e1,h2,h3,h4⟩:=Zt (x:=x) (τ:=PtrR y) (op:=.load t x) (by simp [Op.operands]) hl;have:(loadVar t ⟨b,off,none⟩).run P w=.ok u w:=by
  unfold loadVar;rw [Sem.run_bind,T.ag];simp only [Result.andThen_ok,Bool.false_eq_true,if_false];rw [run_load,h3]
 simp only [execOp,Instr.loadAt,e1,Instr.sureAddr,Sem.run_bind,Sem.run_pure,Result.andThen_ok,this];exact ⟨Grow.refl _ _,h4⟩
end hold
theorem ZcW {Ω:List Pe} {bs:List Nat} {τ:Ty} {b o:Nat} {pr:Prop} {C:Ct} {α:Type} {i:Dat α} {x:α} {upd:α→Ct} [k:AsPt τ b o] [hb:HasB Ω b pr C] (p:Pl C o α i x upd) (hp:pr) (hbs:b∈bs):ArgB Ω bs τ (ZlO x):=fun A w v hk h=>
 ArgB.pt p hp hbs A w v hk (k.le A w v h)
theorem ArgB.ptR {Ω:List Pe} {bs:List Nat} {b b0 o:Nat} {pr:Prop} {C:Ct} {α:Type} {i:Dat α} {x:α} {upd:α→Ct} [h1:HasB Ω b True (Hold (Pt b0 o))] [hb:HasB Ω b0 pr C] (p:Pl C o α i x upd) (hp:pr) (hbs:b∈bs) (hbs0:b0∈bs):ArgB Ω bs (Pt b 0) (PtrR x):=fun A w v hk h=>by
 obtain ⟨cs,g1,u,rfl,g2⟩:=hk _ h1.h trivial;exact ⟨b,0,u,h,.inr hbs,g1.cell (i:=0) (by simp),ArgB.pt p hp hbs0 A w u hk g2⟩
theorem ArgB.clo1_1 {P:Program} {Ω:List Pe} {bs:List Nat} {f:FuncId} {τ1 σ1:Ty} {α β:Type} {i:Dat α} {j:Dat β} {g:α→Option β} [F:Fun P f] (k:ArgB Ω bs τ1 σ1)
  (h:∀ {A:Nat→Prop} {x:α} {y:β} w v0 v1,(∀ k,w.heap.size≤k→A k)→(D x).p A w v0→σ1.p A w v1→g x=some y→Calls P f #[v0,v1] w (Ret A w (D y))) :
  ArgB Ω bs (Clo1 f τ1) (D (⟨g⟩:F1 P α β)):=fun A w v hk ⟨c,e,hc⟩=>by
 subst e;exact ⟨[_],⟨.func (.func f) #[] #[c],rfl,rfl,rfl,fun A' w' u x y hkp hu hx hy=>ZkH (by simpa using h w' u _ hu hx (σ1.keep hkp (k A w c hk hc)) hy)⟩,rfl⟩
theorem ArgB.svMix {Ω:List Pe} {bs:List Nat} {τ:Ty} {b o n b' m c c':Nat} {pr pr':Prop} {α:Type} {i:Dat α} {xs:List (List α)} {ys:List α} [k:AsSv τ b pr o n] [hb:HasB Ω b pr (Ct.mix (Row xs c) 1 (Sl b' pr' 0 m c'))] [hb':HasB Ω b' pr' (Row ys c')]
  (h0:o=0) (hn:n=xs.length) (hm:m=ys.length) (hi:1<xs.length) (hbs:b∈bs) (hbs':b'∈bs):ArgB Ω bs τ (D (xs.set 1 ys)):=fun A w v hk h=>by
 subst h0;rcases k.le _ _ _ h with ⟨hp,o',cc,rfl,hcc,ho⟩ | ⟨hp,h1,rfl⟩
 ·obtain ⟨cs,g1,cs0,u,g2,g3,g4,rfl⟩:=hk _ hb.h hp;obtain rfl:=ho (by omega);obtain ⟨r1,r2,r3,r4,r5⟩:=g2;have hu:(D ys).p (Lent A bs) w u:=ZiK (τ:=Sl b' pr' 0 m c') PlS.all hm hbs' A w u hk g4;have hu:=ZlQ rfl hu;have hsz:Dat.sz (List α)=1:=rfl;rw [hsz,Nat.mul_one] at r1;refine ⟨[_],⟨some ⟨b,0,none⟩,cc,by rw [hn,List.length_set],by rw [List.length_set];omega,hcc.2,by rw [List.length_set];exact r4,fun j hj=>?_⟩,rfl⟩;rw [List.length_set] at hj;refine ⟨b,0,rfl,.inr hbs,?_⟩;have hrow:∀ z,(cs0.set 1 u)[j]?=some z→Zi9 w b (0+j*Dat.sz (List α)) [z]:=fun z hz q hq=>by
   obtain rfl:q=0:=by simpa using hq
   have:=g1.cell (i:=j) (by simp;omega);rw [hsz,Nat.zero_add,Nat.mul_one,Nat.add_zero,this];simp [List.getD_eq_getElem?_getD,hz]
  by_cases h1:j=1
  ·subst h1;refine ⟨[u],hrow u (by rw [List.getElem?_set_self (by omega)]),?_⟩;rw [List.getElem_set_self];exact hu
  ·have r6:=r5 j hj;rw [hsz,Nat.mul_one] at r6;have e1:seg cs0 j 1=[cs0.getD j undef]:=by
    refine ZaH (by rw [Zv (by omega)];rfl) fun q hq=>?_
    rw [Zv (by omega)] at hq;obtain rfl:q=0:=by omega
    rw [Zab (by omega)];rfl
   rw [e1] at r6;refine ⟨[cs0.getD j undef],hrow _ (by rw [List.getElem?_set_ne (Ne.symm h1),List.getD_eq_getElem?_getD,List.getElem?_eq_getElem (by omega)];rfl),?_⟩;rw [List.getElem_set_ne (Ne.symm h1)];exact Dat.mono Lent.keep r6
 ·omega
section lo
variable {P:Program} {B:Nat} {Ωs Ω:List Pe} {Γ:Env} {dst:Option Tmp} {ty:TypeId} {pos:String} {aft:Array Edge} {f:FuncId} {ts:Array TypeId} {α:Type} {i:Dat α}
theorem OpT.callLON {os:Array Operand} {xs:List α} [F:Fun P f] [Fl:Flat α i] (bs:List Nat)
  (h:∀ (A:Nat→Prop) (a:Act) w,(∀ k,w.heap.size≤k→Lent A bs k)→Pks A (Ωs++Ω) w→(∀ t,.tmp t∈os.toList→(Γ t).p A w (a.tmps.getD t undef))→Calls P f (os.map a.eval) w (Zld (Lent A bs) w [] (fun g:Nat×Prop×Nat=>Sl g.1 g.2.1 0 xs.length g.2.2) fun g=>[⟨g.1,g.2.1,Row xs g.2.2⟩])) :
  OpT P B Ωs Ω Γ ⟨dst,.call { callee:=.value (.func f),args:=os,argTypes:=ts },ty,pos,aft,none⟩ (fun g:Nat×Prop×Nat=>Sl g.1 g.2.1 0 xs.length g.2.2) fun g=>⟨g.1,g.2.1,Row xs g.2.2⟩::Ω:=by
 refine OpT.frame (Ωt:=[]) (Ω':=fun g:Nat×Prop×Nat=>[⟨g.1,g.2.1,Row xs g.2.2⟩]) (List.Perm.refl _) ⟨rfl,fun A0 a w hB hu ho ha hk hl=>?_⟩;rw [List.append_nil] at ha hk hl;have hlt:∀ j,Own (Ωs++Ω) j→j<w.heap.size:=fun j hj=>hk.lt hj
 have hr:(execOp a.eval ⟨dst,.call { callee:=.value (.func f),args:=os,argTypes:=ts },ty,pos,aft,none⟩).run P w=.ok (.enter f (os.map a.eval)) w:=by
  have e1:a.eval (.func f)=.func (.func f) #[] #[]:=rfl;simp only [execOp,resolve,Deferred.ofValue,e1,Sem.run_bind,Sem.run_pure,Result.andThen_ok,invoke,F.h,Array.append_empty,Array.empty_append]
 rw [hr];have hc:=h (Pub A0 (Ωs++Ω)) a w (fun k hk=>.inl (ZE.2 ⟨hu k hk,fun hj=>by have:=hlt k hj;omega⟩)) hk (fun t ht=>hl t (by
  simp only [Op.operands,Call.operands,Array.toList_append,List.mem_append];exact .inr ht))
 refine hc.mono fun e w' ⟨v,g,g1,g2⟩=>⟨v,g,g1,g2.st.mono hB (fun _ h=>h),fun k hk=>?_,?_,g2.ty,fun e he hp=>?_⟩
 ·rcases g2.nw k hk with ⟨e,he,_⟩ | h
  ·exact absurd he (by simp)
  ·exact .inr h
 ·refine List.pairwise_append.2 ⟨ha,List.pairwise_singleton _ _,fun x hx y hy h3 h4 h5=>?_⟩;rcases g2.nw y.b ⟨y,hy,h4,rfl⟩ with ⟨z,hz,_⟩ | h6
  ·exact absurd hz (by simp)
  ·have:=hlt x.b ⟨x,hx,h3,rfl⟩;omega
 ·obtain ⟨cs,q1,q2⟩:=g2.ks e he hp;refine ⟨cs,q1,?_⟩;obtain rfl:=List.mem_singleton.1 he;obtain ⟨r1,r2,r3,r4,r5⟩:=q2;exact ⟨r1,r2,r3,r4,fun j hj=>Fl.h (r5 j hj)⟩
theorem Pub_nil {A:Nat→Prop}:Pub A []=A:=by funext k;exact propext ⟨fun h=>h.1,fun h=>⟨h,fun e he=>absurd he (by simp)⟩⟩
theorem Zgn {x1 x2:Operand} {τ1 σ1 τ2 σ2:Ty} {xs:List α} [h1:Has Γ x1 τ1] [h2:Has Γ x2 τ2] [F:Fun P f] [Fl:Flat α i] (bs:List Nat) (k1:ArgB (Ωs++Ω) bs τ1 σ1) (k2:ArgB (Ωs++Ω) bs τ2 σ2)
  (h:∀ {A:Nat→Prop} w v1 v2,(∀ k,w.heap.size≤k→A k)→OwnIn A []→ZfD []→Pks (Pub A []) [] w→σ1.p (Pub A []) w v1→σ2.p (Pub A []) w v2→Calls P f #[v1,v2] w (Zld A w [] (fun g:Nat×Prop×Nat=>Sl g.1 g.2.1 0 xs.length g.2.2) fun g=>[⟨g.1,g.2.1,Row xs g.2.2⟩])) :
  OpT P B Ωs Ω Γ ⟨dst,.call { callee:=.value (.func f),args:=#[x1,x2],argTypes:=ts },ty,pos,aft,none⟩ (fun g:Nat×Prop×Nat=>Sl g.1 g.2.1 0 xs.length g.2.2) fun g=>⟨g.1,g.2.1,Row xs g.2.2⟩::Ω:=
 OpT.callLON bs fun A a w hu hp hl=>by
  rw [show (#[x1,x2].map a.eval)=#[a.eval x1,a.eval x2] by simp];refine h w _ _ hu ⟨fun k ⟨e,he,_⟩=>absurd he (by simp)⟩ List.Pairwise.nil (fun e he=>absurd he (by simp)) ?_ ?_
  ·rw [Pub_nil];exact k1 A w _ hp (h1.le a A w fun t e=>hl t (by simp [e]))
  ·rw [Pub_nil];exact k2 A w _ hp (h2.le a A w fun t e=>hl t (by simp [e]))
end lo
section b2
variable {P:Program} {B:Nat} {Ωs Ω:List Pe} {Γ:Env} {ty:TypeId} {pos:String} {aft:Array Edge} {α:Type} {i:Dat α} {t e:TypeId} {bt:Nat} {d:Tmp}
theorem OpT.build2 [S:TSl P t e] [T:TEl P e (List α) instList bt] {x0 x1:Operand} {τ:Ty} {xs:List α} {b m c:Nat} {pr:Prop} [h0:Has Γ x0 τ] [k0:ToD τ (List α) instList xs] [h1:Has Γ x1 (Sl b pr 0 m c)] :
  OpT P B Ωs Ω Γ ⟨some d,.buildSlice t 2 #[(0,x0),(1,x1)],ty,pos,aft,none⟩ (fun g:Nat×Unit=>Sl g.1 True 0 2 2) fun g=>⟨g.1,True,Ct.mix (Row [xs,[]] 2) 1 (Sl b pr 0 m c)⟩::Ω:=
 ZfB (C:=fun _=>Ct.mix (Row [xs,[]] 2) 1 (Sl b pr 0 m c)) rfl fun A a w _ _ hl=>by
  obtain ⟨ti,z,hi1,hi2,hi3,hi4,hi5⟩:=T.h;have g0:=k0.le _ _ _ (h0.le a A w fun t ht=>hl t (by simp [Op.operands,ht]));have g1:=h1.le a A w fun t ht=>hl t (by simp [Op.operands,ht])
  have g0':=ZlQ rfl g0;obtain ⟨h3,h4⟩:=OneC.h (τ:=Sl b pr 0 m c) g1;have hc0:(a.eval x0).cells=#[a.eval x0]:=Dat.plain rfl g0';have hz:Dat.rd A w [.slice none 0 0] ([]:List α):=⟨none,0,rfl,Nat.le_refl _,by unfold maxLen;omega,by unfold ZjT;simp,fun i hi=>absurd hi (by simp)⟩;refine ⟨(),.slice (some ⟨w.heap.size,0,none⟩) 2 2,w.drawn,[a.eval x0,a.eval x1],e,?_,fun _ _=>.inl ⟨trivial,⟨Nat.le_refl _,by unfold maxLen;omega⟩,rfl⟩,[a.eval x0,.slice none 0 0],a.eval x1,?_,by simp,g1,rfl⟩
  ·have hsz:Dat.sz (List α)=1:=rfl;have hzc:z.cells.size=1:=by rw [hi5];rfl
   simp only [execOp,Instr.buildSlice,Sem.run_bind,run_underlying S.h,Result.andThen_ok,sizeOf,typeInfo,run_program,hi1,Sem.run_pure,hi3];rw [if_neg (by rw [hsz];omega)];have hf:Instr.fill (fun i=>some (i*Dat.sz (List α),Dat.sz (List α))) ((Array.range (2*Dat.sz (List α))).map (z.cells[· % z.cells.size]!)) [(0,a.eval x0),(1,a.eval x1)]=some #[a.eval x0,a.eval x1]:=by
    have ha:∀ w0 w1:Value,Instr.fill (fun i=>some (i*1,1)) #[w0,w1] [(0,a.eval x0),(1,a.eval x1)]=some #[a.eval x0,a.eval x1]:=fun w0 w1=>by
     simp [Instr.fill,hc0,h3]
    rw [hsz];have hr:(Array.range (2*1)).map (z.cells[· % z.cells.size]!)=#[z.cells[0 % z.cells.size]!,z.cells[1 % z.cells.size]!]:=by
     apply Array.ext';simp [Array.range_succ,List.range_succ]
    rw [hr];exact ha _ _
   rw [hsz] at hf;have h20:¬ (2*1=0):=by decide
   simp only [Sem.run_pure,Result.andThen_ok,hsz,if_neg h20,Sem.run_bind,zeroValue,typeInfo,run_program,hi1,hi2,List.map_toArray,List.map_cons,List.map_nil,hf];simp [newRow]
  ·refine ⟨rfl,by simp,by unfold maxLen;omega,by simp [ZjT],fun j hj=>?_⟩;simp only [List.length_cons,List.length_nil] at hj
   match j,hj with
   | 0,_=>exact g0'
   | 1,_=>exact hz
end b2
end Go.Proofs.YtkmojgfenlgchaaGreatDoor.Tr
namespace Go.Proofs.YtkmojgfenlgchaaGreatDoor.Tr
open Go Go.RowKit
def DN {α:Type} [Dat α] (xs:List α):Ty:=⟨fun A w v=>(D xs).p A w v∧(xs=[]→v=.slice none 0 0),fun k ⟨h1,h2⟩=>⟨(D xs).keep k h1,h2⟩⟩
theorem NilS.dn {α:Type} [Dat α]:Ty.le NilS (DN ([]:List α)):=fun A w v h=>⟨NilS.le A w v h,fun _=>h⟩
theorem DN.of {α:Type} [Dat α] {xs:List α} {τ:Ty} [k:ToD τ (List α) inferInstance xs] (h:xs≠[]):τ.le (DN xs):=fun A w v hv=>⟨k.le A w v hv,fun e=>absurd e h⟩
def pos1 (n:Nat):Option Unit:=if 0<n then some () else none
theorem pos1_ne {α:Type} {xs:List α} {u:Unit} (h:pos1 xs.length=some u):xs≠[]:=fun e=>by subst e;cases h
section nn
variable {P:Program} {B0:Nat} {A:Nat→Prop} {Ω:List Pe} {Γ:Env} {dst:Option Tmp} {ty:TypeId} {pos:String} {aft:Array Edge} {gd:Option (Nat×Bool)} {t e:TypeId} {x y:Operand} {τ σ:Ty}
theorem OpY.neqNil {α:Type} [Dat α] [DecidableEq α] {xs:List α} [Has Γ x (DN xs)] [S:TSl P t e] :
  OpY P B0 A Ω Γ ⟨dst,.binOp .neq t x (.const (.slice none 0 0)) t,ty,pos,aft,gd⟩ (B (decide (xs≠[]))):=
 OpY.val fun a w hl=>by
  obtain ⟨⟨cs,⟨ad,c,h1,h2,h3,h3',h4⟩,h5⟩,hn⟩:=Zt (x:=x) (τ:=DN xs) (op:=.binOp .neq t x (.const (.slice none 0 0)) t) (by simp [Op.operands]) hl;subst h1;have e1:a.eval x=.slice ad xs.length c:=h5;refine ⟨.bool (!ad.isNone),?_,?_⟩
  ·have:(binOp .neq t (.slice ad xs.length c) (.slice none 0 0)).run P w=.ok (.bool (!ad.isNone)) w:=run_neq_slice_nil w t e ad xs.length c S.h;simp only [execOp,e1,evC,eqGuard_at_slice,Sem.run_bind,Sem.run_pure,Result.andThen_ok,this]
  ·show Value.bool _=Value.bool _;congr 1
   by_cases h0:xs=[]
   ·have:=hn h0;rw [e1] at this;injection this with q1;subst q1;simp [h0]
   ·have hp:0<xs.length:=List.length_pos_iff.2 h0;obtain ⟨b,off,q,_⟩:=h4 0 hp;subst q;simp [h0]
end nn
structure Txt where
 l:List UInt8
 deriving DecidableEq
instance instTxt:Dat Txt where
 agg:=false
 sz:=1
 rd _ _ cs x:=cs=[.string ⟨x.l.toArray⟩]
 wf _:=True
 len h:=ZeR h
 one _:=rfl
 pos:=Nat.one_pos
 ok _:=trivial
 plain _ h:=by simp at h;rw [h];rfl
 mono _ h:=h
 scal h v hv:=by rw [h] at hv;simp at hv;rw [hv];rfl
 z:=⟨[]⟩
 zc:=[.string ⟨#[]⟩]
 zrd:=rfl
theorem D_Str {x:Txt}:(D x).le (Str x.l):=fun _ _ _ h=>by have:=ZlQ rfl h;simpa [Str,Ex,Dat.rd] using this
theorem Str_D {l:List UInt8}:(Str l).le (D (⟨l⟩:Txt)):=fun _ _ v h=>⟨[v],by have h:v=_:=h;rw [h];rfl,rfl⟩
instance {x:Txt}:AsStr (D x) x.l:=⟨D_Str⟩
instance {l:List UInt8}:ToD (Str l) Txt instTxt ⟨l⟩:=⟨Str_D⟩
section txt
variable {P:Program} {B0:Nat} {A:Nat→Prop} {Ω:List Pe} {Γ:Env} {dst:Option Tmp} {ty:TypeId} {pos:String} {aft:Array Edge} {gd:Option (Nat×Bool)} {t e:TypeId} {x y z:Operand} {τ σ ρ:Ty}
theorem Zbd [Has Γ x τ] {l:List UInt8} {n:Int} [hx:AsStr τ l] [S:TStr P t] (h:ZiR (l.length:Int)=some n) :
  OpY P B0 A Ω Γ ⟨dst,.call { callee:=.builtin .len,args:=#[x],argTypes:=#[t] },ty,pos,aft,gd⟩ (D n):=
 OpY.val fun a w hl=>by
  have e1:a.eval x=.string ⟨l.toArray⟩:=hx.le _ _ _ (Zt (x:=x) (τ:=τ) (op:=.call { callee:=.builtin .len,args:=#[x],argTypes:=#[t] }) (by simp [Op.operands,Call.operands]) hl);obtain ⟨rfl,h1,h2⟩:=Zct h;refine ⟨.int .i64 l.length,?_,[_],⟨rfl,h1,h2⟩,rfl⟩;have:(⟨l.toArray⟩:ByteArray).size=l.length:=by show l.toArray.size=_;simp
  simp [execOp,resolve,invoke,builtin,e1,run_len_string w t ty _ S.h,goInt,this]
theorem ZeP {l:List UInt8} {q:Int} {v:UInt8} [T:TStr P t] [Has Γ x τ] [hx:AsStr τ l] [Has Γ y σ] [hy:AsIx σ q] (h:idx l q=some v):OpY P B0 A Ω Γ ⟨dst,.index t x y,ty,pos,aft,gd⟩ (D v):=OpY.indexStr rfl h
theorem size_mk (l:List UInt8):(⟨l.toArray⟩:ByteArray).size=l.length:=by show l.toArray.size=_;simp
theorem ZlD {l:List UInt8} {j:Int} {u:Unit} [T:TStr P t] [Has Γ x τ] [hx:AsStr τ l] [Has Γ z ρ] [hz:AsI ρ j] (h:cut l.length 0 j=some u) :
  OpY P B0 A Ω Γ ⟨dst,.slice t x none (some z) none,ty,pos,aft,gd⟩ (D (⟨l.take j.toNat⟩:Txt)):=
 OpY.val fun a w hl=>by
  have e1:a.eval x=.string ⟨l.toArray⟩:=hx.le _ _ _ (Zt (x:=x) (τ:=τ) (op:=.slice t x none (some z) none) (by simp [Op.operands]) hl);have ez:a.eval z=.int .i64 j:=hz.le _ _ _ (Zt (x:=z) (τ:=ρ) (op:=.slice t x none (some z) none) (by simp [Op.operands]) hl);have hc:=ZT h;refine ⟨_,?_,[_],rfl,rfl⟩;have:=run_slice_string_h (P:=P) w t ⟨l.toArray⟩ T.h .i64 j (by omega) (by rw [size_mk];omega);simp only [execOp,e1,ez,Option.map_some,Option.map_none,run_sliceAt_string w t _ _ _ _ T.h,Sem.run_bind,Result.andThen_ok,Sem.run_pure,this,ByteArray.extract_mk];simp;rfl
theorem Zg1 {l:List UInt8} {i:Int} {u:Unit} [T:TStr P t] [Has Γ x τ] [hx:AsStr τ l] [Has Γ y σ] [hy:AsI σ i] (h:cut l.length i l.length=some u) :
  OpY P B0 A Ω Γ ⟨dst,.slice t x (some y) none none,ty,pos,aft,gd⟩ (D (⟨l.drop i.toNat⟩:Txt)):=
 OpY.val fun a w hl=>by
  have e1:a.eval x=.string ⟨l.toArray⟩:=hx.le _ _ _ (Zt (x:=x) (τ:=τ) (op:=.slice t x (some y) none none) (by simp [Op.operands]) hl);have ey:a.eval y=.int .i64 i:=hy.le _ _ _ (Zt (x:=y) (τ:=σ) (op:=.slice t x (some y) none none) (by simp [Op.operands]) hl);have hc:=ZT h;refine ⟨_,?_,[_],rfl,rfl⟩;have:=run_slice_string_l (P:=P) w t ⟨l.toArray⟩ T.h .i64 i (by omega) (by rw [size_mk];omega);simp only [execOp,e1,ey,Option.map_some,Option.map_none,run_sliceAt_string w t _ _ _ _ T.h,Sem.run_bind,Result.andThen_ok,Sem.run_pure,this,ByteArray.extract_mk,size_mk];rw [List.take_of_length_le (by simp)];simp;rfl
class ExtIdx (P:Program) (f:FuncId):Prop where
 h:∀ args w,(callFunc f args).run P w=((Extern.BytealgIndexByte.indexByte args).run P w).andThen fun v w'=>.ok (.value v) w'
class ExtCnt (P:Program) (f:FuncId):Prop where
 h:∀ args w,(callFunc f args).run P w=((Extern.BytealgCount.count args).run P w).andThen fun v w'=>.ok (.value v) w'
def idxByte (l:List UInt8) (c:UInt8):Int:=firstIdx ⟨l.toArray⟩ c
def cntByte (l:List UInt8) (c:UInt8):Int:=Lib.countByte l c
theorem OpY.idxByte {f:FuncId} {ts:Array TypeId} {l:List UInt8} {c:UInt8} {n:Int} [F:ExtIdx P f] [h1:Has Γ x τ] [k1:AsStr τ l] [h2:Has Γ y σ] [k2:AsU8 σ c] (h:ZiR (Tr.idxByte l c)=some n) :
  OpY P B0 A Ω Γ ⟨dst,.call { callee:=.value (.func f),args:=#[x,y],argTypes:=ts },ty,pos,aft,gd⟩ (D n):=fun a w hB hu hp hl=>by
 have g1:a.eval x=.string ⟨l.toArray⟩:=k1.le _ _ _ (h1.le a A w fun t e=>hl t (by simp [Op.operands,Call.operands,e]));have g2:a.eval y=.int .u8 c.toNat:=k2.le _ _ _ (h2.le a A w fun t e=>hl t (by simp [Op.operands,Call.operands,e]));obtain ⟨rfl,q1,q2⟩:=Zct h;have hr:(Extern.BytealgIndexByte.indexByte #[a.eval x,a.eval y]).run P w=.ok (.int .i64 (Tr.idxByte l c)) w:=by
  rw [g1,g2,run_indexByte_string];unfold Tr.idxByte;rw [Int.toNat_natCast];simp
 have:(execOp a.eval ⟨dst,.call { callee:=.value (.func f),args:=#[x,y],argTypes:=ts },ty,pos,aft,gd⟩).run P w=.ok (.value (.int .i64 (Tr.idxByte l c))) w:=by
  have e1:a.eval (.func f)=.func (.func f) #[] #[]:=rfl;simp only [execOp,resolve,Deferred.ofValue,e1,Sem.run_bind,Sem.run_pure,Result.andThen_ok,invoke,Array.append_empty,Array.empty_append];rw [show (#[x,y].map a.eval)=#[a.eval x,a.eval y] by simp,F.h,hr];rfl
 rw [this];exact ⟨Grow.refl _ _,⟨[_],⟨rfl,q1,q2⟩,rfl⟩⟩
theorem OpY.cntByte {f:FuncId} {ts:Array TypeId} {l:List UInt8} {c:UInt8} {n:Int} [F:ExtCnt P f] [h1:Has Γ x τ] [k1:AsStr τ l] [h2:Has Γ y σ] [k2:AsU8 σ c] (h:ZiR (Tr.cntByte l c)=some n) :
  OpY P B0 A Ω Γ ⟨dst,.call { callee:=.value (.func f),args:=#[x,y],argTypes:=ts },ty,pos,aft,gd⟩ (D n):=fun a w hB hu hp hl=>by
 have g1:a.eval x=.string ⟨l.toArray⟩:=k1.le _ _ _ (h1.le a A w fun t e=>hl t (by simp [Op.operands,Call.operands,e]));have g2:a.eval y=.int .u8 c.toNat:=k2.le _ _ _ (h2.le a A w fun t e=>hl t (by simp [Op.operands,Call.operands,e]));obtain ⟨rfl,q1,q2⟩:=Zct h;have hr:(Extern.BytealgCount.count #[a.eval x,a.eval y]).run P w=.ok (.int .i64 (Tr.cntByte l c)) w:=by
  rw [g1,g2,Lib.run_countString];unfold Tr.cntByte;rw [Int.toNat_natCast];simp
 have:(execOp a.eval ⟨dst,.call { callee:=.value (.func f),args:=#[x,y],argTypes:=ts },ty,pos,aft,gd⟩).run P w=.ok (.value (.int .i64 (Tr.cntByte l c))) w:=by
  have e1:a.eval (.func f)=.func (.func f) #[] #[]:=rfl;simp only [execOp,resolve,Deferred.ofValue,e1,Sem.run_bind,Sem.run_pure,Result.andThen_ok,invoke,Array.append_empty,Array.empty_append];rw [show (#[x,y].map a.eval)=#[a.eval x,a.eval y] by simp,F.h,hr];rfl
 rw [this];exact ⟨Grow.refl _ _,⟨[_],⟨rfl,q1,q2⟩,rfl⟩⟩
end txt
theorem Fld.whole {α:Type} {i:Dat α} (h:Dat.agg α=true):Fld α i 0 α i (fun x=>x) (fun y _=>y) where
 agg:=h
 le:=by omega
 rd {A w cs x} h:=by have l:=Dat.len h;rw [show seg cs 0 (Dat.sz α)=cs by simp [seg,← l]];exact h
 st {A w cs x es y} h k:=by
  have l:=Dat.len h;have l2:=Dat.len k;rw [show ZU cs 0 es=es by simp [ZU,l,l2]];exact k
section bw
variable {P:Program} {B0:Nat} {A:Nat→Prop} {Ω:List Pe} {Γ:Env} {dst:Option Tmp} {ty:TypeId} {pos:String} {aft:Array Edge} {gd:Option (Nat×Bool)} {t:TypeId} {x:Operand}
theorem OpY.buildW {C:Ct} {n bt:Nat} {α:Type} {i:Dat α} [T:TEl P t α i bt] [hx:Has Γ x (VC C)] [l:CtLen C n] (hn:n=Dat.sz α) (hu:∃ fs,P.underlying t=some (.struct fs)∧fs.toList.mapM (fun f=>(P.info? f.type).map fun i=>(f.offset,i.size))=some [(0,n)]) :
  OpY P B0 A Ω Γ ⟨dst,.build t #[(0,x)],ty,pos,aft,gd⟩ (VC C):=
 OpY.val fun a w hl=>by
  obtain ⟨cs,h1,h2⟩:=Zt (x:=x) (τ:=VC C) (op:=.build t #[(0,x)]) (by simp [Op.operands]) hl;obtain ⟨ti,z,i1,i2,i3,i4,i5⟩:=T.h;obtain ⟨fs,u1,u2⟩:=hu;have hlen:=l.h h1;have hz:(Dat.zc α).length=n:=by rw [hn];exact Dat.len (Dat.zrd (A:=A) (w:=w))
  refine ⟨.agg cs.toArray,?_,cs,h1,rfl⟩;have hc:(Value.agg cs.toArray).cells=cs.toArray:=rfl;have hb:P.built t ((#[(0,x)].map fun (i,x)=>(i,a.eval x)).toList)=some cs.toArray:=by
   unfold Program.built;rw [i1,u1];simp only [i2,u2,i5,h2];simp only [List.map_toArray,List.map_cons,List.map_nil,Instr.fill,h2,hc];simp only [List.getElem?_toArray,List.getElem?_cons_zero,List.size_toArray,hlen,hz];rw [if_neg (by simp)];have h5:=ZdS cs 0 0 (Dat.zc α) (by omega);simp only [Nat.add_zero,Nat.zero_add] at h5;have e2:ZU (Dat.zc α) 0 cs=cs:=by simp [ZU,hlen,hz]
   rw [e2] at h5;refine congrArg some (Eq.trans ?_ h5);simp
  simp only [execOp,Sem.run_bind,run_build w t _ cs.toArray hb,Result.andThen_ok,Sem.run_pure]
end bw
theorem Zhq {Ω Ωr Δ:List Pe} {b:Nat} {pr:Prop} {C C':Ct} [h:Pick Ω b pr C Ωr] (e:∀ A w cs,C.p A w cs→C'.p A w cs) (k:Less Ωr Δ):Less Ω (⟨b,pr,C'⟩::Δ):=(Less.perm h.perm).trans ((Less.cons k).trans (Less.ct e))
theorem OpV.of2 {P:Program} {Γ:Env} {F:Fam} {o:Oper} {C:Ct} (h:∀ (B:Nat) (Ωs Ω:List Pe) (g:F.ν),OpT P B Ωs Ω (Env.or (F.Θ g) Γ) o (fun g:Nat×Unit=>Sl g.1 True 0 2 2) fun g=>⟨g.1,True,C⟩::Ω):OpV P Γ F o (fun b=>Sl b True 0 2 2) C:=
 fun B Ωs Ω g=>OpT.map (fun q:Nat×Unit=>q.1) (fun _=>rfl) (fun _=>rfl) (h B Ωs Ω g)
section ts
variable {P:Program} {r:Ref} {n:Nat} {ops:Array Oper} {k:Nat} {rest:List Oper} {Γ:Env} {Ω Ωr:List Pe} {Q:Exit→Act→World→Prop} {ty:TypeId} {pos:String} {aft:Array Edge} {α:Type} {i:Dat α} {t e:TypeId} {bt:Nat} {d:Tmp} [op:Opens r]
theorem TS.boxP {x:Operand} {b o:Nat} [hx:Has Γ x (Pt b o)] (hd:Nat.blt d n=true)
  (hk:∀ q,TS P r n ops rest (k+1) (Γ.set d (Pt q 0)) (⟨q,True,Hold (Pt b o)⟩::Ω) Q):TS P r n ops (⟨some d,.box t x,ty,pos,aft,none⟩::rest) k Γ Ω Q:=
 Zdw OpT.boxP hd fun g=>hk g.1
theorem TS.build2 [S:TSl P t e] [T:TEl P e (List α) instList bt] {x0 x1:Operand} {τ:Ty} {xs:List α} {b m c:Nat} {pr:Prop} [h0:Has Γ x0 τ] [k0:ToD τ (List α) instList xs] [h1:Has Γ x1 (Sl b pr 0 m c)] (hd:Nat.blt d n=true)
  (hk:∀ q,TS P r n ops rest (k+1) (Γ.set d (Sl q True 0 2 2)) (⟨q,True,Ct.mix (Row [xs,[]] 2) 1 (Sl b pr 0 m c)⟩::Ω) Q):TS P r n ops (⟨some d,.buildSlice t 2 #[(0,x0),(1,x1)],ty,pos,aft,none⟩::rest) k Γ Ω Q:=
 Zdw OpT.build2 hd fun g=>hk g.1
theorem TS.re {pr:Prop} {C C':Ct} (b0:Nat) [pk:Pick Ω b0 pr C Ωr] (h:∀ A w cs,pr→C.p A w cs→C'.p A w cs) (hk:TS P r n ops rest k Γ (⟨b0,pr,C'⟩::Ωr) Q):TS P r n ops rest k Γ Ω Q:=fun hl a w hs=>hk hl a w ((hs.less (Less.perm pk.perm)).less
 ⟨fun j ⟨e,he,h1,h2⟩=>(by
  rcases List.mem_cons.1 he with rfl | he
  ·exact ⟨_,List.mem_cons_self ..,h1,h2⟩
  ·exact ⟨e,List.mem_cons_of_mem _ he,h1,h2⟩),fun hp=>List.pairwise_cons.2 ⟨fun f hf h1 h2=>(List.pairwise_cons.1 hp).1 f hf h1 h2,(List.pairwise_cons.1 hp).2⟩,fun A w hk e he h1=>by
  rcases List.mem_cons.1 he with rfl | he
  ·obtain ⟨cs,g1,g2⟩:=hk ⟨b0,pr,C⟩ (List.mem_cons_self ..) h1;exact ⟨cs,g1,h _ _ _ h1 g2⟩
  ·exact hk e (List.mem_cons_of_mem _ he) h1⟩)
end ts
end Go.Proofs.YtkmojgfenlgchaaGreatDoor.Tr
namespace Go.Proofs.YtkmojgfenlgchaaGreatDoor.Tr
open Go Go.RowKit
def ExD {α:Type} [Dat α] (u:Value) (xs:List α):Ty:=⟨fun A w v=>v=u∧(D xs).p A w v,fun k ⟨h1,h2⟩=>⟨h1,(D xs).keep k h2⟩⟩
instance {α:Type} [i:Dat α] {u:Value} {xs:List α}:AsL (ExD u xs) α i xs:=⟨fun _ _ _ h=>h.2⟩
def Raw1 (w:World) (v:Value):Prop:=∃ q cs e,v=.slice (some ⟨q,0,none⟩) 1 1∧w.heap[q]?=some (.cells cs e (0,0))∧cs.size≠0
class ExtOvl (P:Program) (f:FuncId) (t:outParam TypeId):Prop where
 h:∀ args w,(callFunc f args).run P w=((Extern.SlicesOverlaps.overlaps #[t,t] #[4] args).run P w).andThen fun v w'=>.ok (.value v) w'
section ops
variable {P:Program} {B:Nat} {Ωs Ω Ωr:List Pe} {Γ:Env} {dst:Option Tmp} {ty:TypeId} {pos:String} {aft:Array Edge} {gd:Option (Nat×Bool)} {α:Type} {i:Dat α} {t u e:TypeId} {bt:Nat} {d:Tmp}
theorem OpY.capSl {A:Nat→Prop} {x:Operand} {b n c:Nat} {pr:Prop} [hx:Has Γ x (Sl b pr 0 n c)] [S:TSl P t e] :
  OpY P B A Ω Γ ⟨dst,.call { callee:=.builtin .cap,args:=#[x],argTypes:=#[t] },ty,pos,aft,gd⟩ (D ((c:Nat):Int)):=
 OpY.val fun a w hl=>by
  have h:=Zt (x:=x) (τ:=Sl b pr 0 n c) (op:=.call { callee:=.builtin .cap,args:=#[x],argTypes:=#[t] }) (by simp [Op.operands,Call.operands]) hl;refine ⟨.int .i64 (c:Nat),?_,[_],⟨rfl,?_⟩,rfl⟩
  ·rcases h with ⟨hp,hc,e1⟩ | ⟨hp,h1,rfl,e1⟩
   ·simp [execOp,resolve,invoke,builtin,e1,Builtin.cap_,run_underlying S.h,goInt]
   ·simp [execOp,resolve,invoke,builtin,e1,Builtin.cap_,run_underlying S.h,goInt]
  ·rcases h with ⟨hp,hc,e1⟩ | ⟨hp,h1,rfl,e1⟩
   ·have:=hc.2;unfold maxLen at this;unfold ZeD;omega
   ·unfold ZeD;omega
theorem OpY.sliceUp {A:Nat→Prop} [S:TSl P t e] [T:TDat P e α i] {x z:Operand} {ρ:Ty} {b m c:Nat} {pr:Prop} {r:Int} [hx:Has Γ x (Sl b pr 0 m c)] [Has Γ z ρ] [hz:AsI ρ r] (h1:0≤r) (h2:r≤c) :
  OpY P B A Ω Γ ⟨dst,.slice t x none (some z) none,ty,pos,aft,gd⟩ (Sl b pr 0 r.toNat c):=
 OpY.val fun a w hl=>by
  have h:=Zt (x:=x) (τ:=Sl b pr 0 m c) (op:=.slice t x none (some z) none) (by simp [Op.operands]) hl;have ez:a.eval z=.int .i64 r:=hz.le _ _ _ (Zt (x:=z) (τ:=ρ) (op:=.slice t x none (some z) none) (by simp [Op.operands]) hl);rcases h with ⟨hp,hmc,ex⟩ | ⟨hp,rfl,rfl,ex⟩
  ·refine ⟨.slice (some ⟨b,0,none⟩) r.toNat c,?_,.inl ⟨hp,⟨by omega,hmc.2⟩,rfl⟩⟩;have c1:0≤r∧r≤(c:Int):=by omega
   simp only [execOp,ex,ez,Instr.sliceAt,Instr.slice,Option.map_some,Option.map_none,Sem.run_bind,run_underlying S.h,Result.andThen_ok,Instr.sliceBounds,Instr.sliceBound,asIntOf,Sem.run_pure,c1,and_self,if_true,T.sz,Nat.sub_zero,Nat.zero_mul,Za0,Nat.add_zero];congr 1
   split <;> rfl
  ·have hr:r=0:=by omega
   subst hr;refine ⟨.slice none 0 0,?_,.inr ⟨hp,rfl,rfl,rfl⟩⟩;simp [execOp,ex,ez,Instr.sliceAt,Instr.slice,run_underlying S.h,Instr.sliceBounds,Instr.sliceBound,asIntOf,T.sz]
theorem OpT.appZ [S:TSl P t e] [T:TEl P e α i bt] [U:TIn P u .i64] {s x:Operand} {σ:Ty} {n:Int} {b k c:Nat} {pr:Prop} {xs:List α} [hs:Has Γ s (Sl b pr 0 k c)] [hb:HasB Ω b pr (Row xs c)] [hx:Has Γ x σ] [kx:AsI σ n]
  (hpr:pr) (hk:k≤xs.length) (hn:0<n) (hc:c<k+n.toNat) (hr:(k+n.toNat)*bt≤140737488355328) (hm:k+n.toNat≤140737488351232) :
  OpT P B Ωs Ω Γ ⟨some d,.call { callee:=.builtin .append,args:=#[s,x],argTypes:=#[t,u] },ty,pos,aft,none⟩ (fun g:Nat×Nat=>Sl g.1 True 0 (xs.take k++List.replicate n.toNat (Dat.z (α:=α))).length g.2)
   fun g=>⟨g.1,True,Row (xs.take k++List.replicate n.toNat (Dat.z (α:=α))) g.2⟩::Ω:=
 ZfB (C:=fun c=>Row (xs.take k++List.replicate n.toNat (Dat.z (α:=α))) c) rfl fun A a w _ hks hl=>by
  obtain ⟨m,rfl⟩:=Int.eq_ofNat_of_zero_le (show 0≤n by omega);simp only [Int.toNat_natCast] at hc hr hm ⊢;obtain ⟨ti,z,hi1,hi2,hi3,hi4,hi5⟩:=T.h;have e1:=Zt (x:=s) (τ:=Sl b pr 0 k c) (op:=.call { callee:=.builtin .append,args:=#[s,x],argTypes:=#[t,u] }) (by simp [Op.operands,Call.operands]) hl;have e2:a.eval x=.int .i64 m:=kx.le _ _ _ (Zt (x:=x) (τ:=σ) (op:=.call { callee:=.builtin .append,args:=#[s,x],argTypes:=#[t,u] }) (by simp [Op.operands,Call.operands]) hl);obtain ⟨hkc,e1⟩:(k≤c∧c≤maxLen)∧a.eval s=.slice (some ⟨b,0,none⟩) k c:=by
   rcases e1 with ⟨-,h1,h2⟩ | ⟨hp,_⟩
   ·exact ⟨h1,h2⟩
   ·exact absurd hpr hp
  obtain ⟨cs,g1,g2⟩:=hks _ (List.mem_append_right _ hb.h) hpr;obtain ⟨r1,r2,r3,r4,r5⟩:=g2;have hsz:=Dat.pos (α:=α);have hkl:k*Dat.sz α≤cs.length:=by rw [r1];exact Nat.mul_le_mul_right _ (by omega)
  have g1':Blk w.drew b cs:=g1;have hold:(Builtin.firstCells ti.size k (.slice (some ⟨b,0,none⟩) k c)).run P w.drew=.ok (seg cs 0 (k*Dat.sz α)).toArray w.drew:=by
   have:=Zjz (P:=P) (w:=w.drew) (b:=b) (cs:=cs) (o:=0) (k:=k*Dat.sz α) g1' (by omega);simpa [Builtin.firstCells,hi3] using this
  have hle:Builtin.nextslicecap (k+m) c*ti.bytes≤281474976710656:=growslice_fits hc (by rw [hi4];exact hr);have hrun:=Lib.run_append_grow_zeros (P:=P) w t u ty e ti z .i64 .i64 S.h U.h hi1 hi2 (some ⟨b,0,none⟩) k c (seg cs 0 (k*Dat.sz α)) hold m (by omega) (by rw [hi3];exact hsz) hc (by omega) (by rw [hi4];have:=Nat.mul_le_mul_right bt (show m≤k+m by omega);omega) hle;have ge:=grownCap_ge w (k+m) c e;have cm:=grownCap_le_maxLen w (k+m) c e (by unfold maxLen;omega);generalize grownCap w (k+m) c e=gc at *;refine ⟨gc,.slice (some ⟨w.heap.size,0,none⟩) (xs.take k++List.replicate m (Dat.z (α:=α))).length gc,w.drawn+1,seg cs 0 (k*Dat.sz α)++(Builtin.zeroCells z.cells m).toList++(Builtin.zeroCells z.cells (gc-(k+m))).toList,e,?_,fun _ _=>.inl ⟨trivial,⟨by simp;omega,cm⟩,rfl⟩,?_⟩
  ·simp only [execOp,resolve,invoke,builtin,e1,e2,Sem.run_bind,Sem.run_pure,Result.andThen_ok,List.map_toArray,List.map_cons,List.map_nil,hrun];congr 2
   ·simp;exact (Nat.min_eq_left (by omega)).symm
   ·simp [World.drew]
  ·have hz:=Row.zeros (A:=A) (w:=w) (i:=i) hi5 (m:=m) (gc:=gc-k) (by omega) (by omega) (by unfold ZjT;omega);obtain ⟨z1,z2,z3,z4,z5⟩:=hz;obtain ⟨p1,p2⟩:=(PlS.row0 (i:=i) (c:=c) (n:=k) hk).rd (A:=A) (w:=w) (cs:=cs) ⟨r1,r2,r3,r4,r5⟩;have htl:(xs.take k).length=k:=by simp;omega
   rw [htl] at p1 p2;have hsl:(seg cs 0 (k*Dat.sz α)).length=k*Dat.sz α:=Zv (by omega);have e9:gc-(k+m)=gc-k-m:=by omega
   rw [Array.toList_append] at z1 z5;rw [e9,List.append_assoc];refine ⟨?_,by simp;omega,cm,by simp;unfold ZjT;omega,ZaT.append p2 z5 (by rw [hsl,htl])⟩;rw [List.length_append,hsl,z1,← Nat.add_mul];congr 1;omega
theorem OpT.copyShift [S:TSl P t e] [T:TEl P e α i bt] {x y:Operand} {b k m1 m2 o1 o2 c:Nat} {pr:Prop} {xs:List α} [hx:Has Γ x (Sv b pr o1 m1)] [hy:Has Γ y (Sv b pr o2 m2)] [pk:Pick Ω b pr (Row xs c) Ωr]
  (h1:o1=(k+1)*Dat.sz α) (h2:o2=k*Dat.sz α) (hk:k<xs.length) (hm1:m1=xs.length-k) (hm2:m2=xs.length+1-k) (hc:xs.length+1≤c) (hmo:xs.length+1≤ZjT) :
  OpT P B Ωs Ω Γ ⟨dst,.call { callee:=.builtin .copy,args:=#[x,y],argTypes:=#[t,u] },ty,pos,aft,none⟩ (fun _:Unit=>Ty.any) fun _=>⟨b,pr,Row (splice xs (k+1) (xs.drop k)) c⟩::Ωr:=
 ZmS (C:=Row xs c) rfl fun A a w hks hl=>by
  have e1:=hx.le a _ w fun t ht=>hl t (by simp [Op.operands,Call.operands,← ht])
  have e2:=hy.le a _ w fun t ht=>hl t (by simp [Op.operands,Call.operands,← ht])
  refine ⟨.int .i64 (xs.length-k:Nat),fun _ _=>trivial,?_⟩;obtain ⟨hp,c1,e1⟩:pr∧∃ c1,a.eval x=.slice (some ⟨b,o1,none⟩) m1 c1:=by
   rcases e1 with ⟨hp,o1',c1,e1,-,ho1⟩ | ⟨hp,h0,_⟩
   ·obtain rfl:=ho1 (by omega);exact ⟨hp,c1,e1⟩
   ·omega
  obtain ⟨c2,e2⟩:∃ c2,a.eval y=.slice (some ⟨b,o2,none⟩) m2 c2:=by
   rcases e2 with ⟨-,o2',c2,e2,-,ho2⟩ | ⟨hp',_⟩
   ·obtain rfl:=ho2 (by omega);exact ⟨c2,e2⟩
   ·exact absurd hp hp'
  obtain ⟨cs,g1,g2⟩:=hks ⟨b,pr,Row xs c⟩ (List.mem_append_right _ (pk.perm.mem_iff.2 (List.mem_cons_self ..))) hp;have hlen:cs.length=c*Dat.sz α:=g2.1;have hp1:=PlS.row (i:=i) (xs:=xs) (c:=c) (k:=k) (n:=xs.length-k) (by omega);have hd:(xs.drop k).take (xs.length-k)=xs.drop k:=List.take_of_length_le (by simp);rw [hd] at hp1;obtain ⟨q1,q2⟩:=hp1.rd g2;have hdl:(xs.drop k).length=xs.length-k:=by simp
  rw [hdl] at q1 q2;have hnews:(seg cs (k*Dat.sz α) ((xs.length-k)*Dat.sz α)).length=(xs.drop k).length*Dat.sz α:=by rw [Zv q1,hdl]
  have hsp:=Row.splice (k:=k+1) g2 q2 hnews (by omega) (by rw [hdl];omega) (by rw [hdl];unfold ZjT at *;omega);have hfit:(k+1)*Dat.sz α+(seg cs (k*Dat.sz α) ((xs.length-k)*Dat.sz α)).length≤cs.length:=by
   rw [hnews,hlen,← Nat.add_mul,hdl];exact Nat.mul_le_mul_right _ (by omega)
  obtain ⟨w',r1,r2,r3,r4⟩:=Zbe (P:=P) g1 (o:=(k+1)*Dat.sz α) (vs:=seg cs (k*Dat.sz α) ((xs.length-k)*Dat.sz α)) hfit (fun v hv=>q2.scal hnews v hv);refine .inr ⟨hp,w',cs,_,.inl ?_,g1,r2,r3,hsp⟩;have hld:=Zjz (P:=P) g1 (o:=k*Dat.sz α) (k:=(xs.length-k)*Dat.sz α) q1;have emin:Nat.min (xs.length+1-k) (xs.length-k)=xs.length-k:=Nat.min_eq_right (by omega);subst hm1;subst hm2;subst h1;subst h2;have hfc:(Builtin.firstCells (Dat.sz α) (xs.length-k) (.slice (some ⟨b,k*Dat.sz α,none⟩) (xs.length+1-k) c2)).run P w=.ok (seg cs (k*Dat.sz α) ((xs.length-k)*Dat.sz α)).toArray w:=by
   simpa [Builtin.firstCells] using hld
  have r1':(storeCells ⟨b,(k+1)*Dat.sz α,none⟩ (seg cs (k*Dat.sz α) ((xs.length-k)*Dat.sz α)).toArray.toList).run P w=.ok () w':=by simpa using r1
  simp only [execOp,resolve,invoke,builtin,Builtin.copy_,e1,e2,List.map_toArray,List.map_cons,List.map_nil,Sem.run_bind,Sem.run_pure,Result.andThen_ok,List.getElem?_toArray,List.getElem?_cons_zero,List.getElem?_cons_succ,run_underlying S.h,Builtin.lenOf,T.d.sz,emin,hfc,r1',goInt]
end ops
section two
variable {P:Program} {r:Ref} {n:Nat} {ops:Array Oper} {k:Nat} {rest:List Oper} {Γ:Env} {Ω Ωr:List Pe} {Q:Exit→Act→World→Prop} {ty ty2:TypeId} {pos pos2:String} {aft aft2:Array Edge} {α:Type} {i:Dat α} {t e:TypeId} {bt:Nat} {d d2:Tmp} [op:Opens r]
theorem TS.buildCall [S:TSl P t e] [T:TEl P e α i bt] {s y x:Operand} {τs τy σ:Ty} {z:α} {b:Nat} {pr:Prop} {C:Ct} {f:FuncId} {ts:Array TypeId} {ν:Type} {τ:ν→Ty} {Ω':ν→List Pe} [pk:Pick Ω b pr C Ωr] [hs:Has (Γ.set d (D [z])) s τs] [hy:Has (Γ.set d (D [z])) y τy] [hx:Has Γ x σ] [kx:ToD σ α i z] [F:Fun P f]
  (hsz:Dat.sz α≤16777216) (hd:Nat.blt d n=true) (hd2:Nat.blt d2 n=true)
  (hc:∀ {A:Nat→Prop} w v0 v1 v2,(∀ k,w.heap.size≤k→A k)→OwnIn A [⟨b,pr,C⟩]→ZfD [⟨b,pr,C⟩]→Pks (Pub A [⟨b,pr,C⟩]) [⟨b,pr,C⟩] w→τs.p (Pub A [⟨b,pr,C⟩]) w v0→τy.p (Pub A [⟨b,pr,C⟩]) w v1→(D [z]).p (Pub A [⟨b,pr,C⟩]) w v2→Raw1 w v2→Calls P f #[v0,v1,v2] w (Zld A w [⟨b,pr,C⟩] τ Ω'))
  (hk:∀ g,TS P r n ops rest (k+1+1) ((Γ.set d (D [z])).set d2 (τ g)) (Ω' g++Ωr) Q) :
  TS P r n ops (⟨some d,.buildSlice t 1 #[(0,x)],ty,pos,aft,none⟩::⟨some d2,.call { callee:=.value (.func f),args:=#[s,y,.tmp d],argTypes:=ts },ty2,pos2,aft2,none⟩::rest) k Γ Ω Q:=fun hl a w hst=>by
 have h0:ops[k]?=some ⟨some d,.buildSlice t 1 #[(0,x)],ty,pos,aft,none⟩:=by simpa using (hl 0).symm
 have hl1:=Zgi hl;have h1:ops[k+1]?=some ⟨some d2,.call { callee:=.value (.func f),args:=#[s,y,.tmp d],argTypes:=ts },ty2,pos2,aft2,none⟩:=by simpa using (hl1 0).symm
 haveI:HasAll Γ [x] α i [z]:=inferInstance
 obtain ⟨v,w1,e1,hnew⟩:=ZgU (P:=P) (t:=t) (e:=e) (bt:=bt) (A:=Pub r.A Ω) (dst:=some d) (ty:=ty) (pos:=pos) (aft:=aft) (gd:=none) (w:=w) (a:=a) [x] (ys:=[z]) (parts:=#[(0,x)]) (n:=1) rfl rfl (by omega) (fun t ht=>hst.ty t);have hg:Grow r.w.heap.size w w1:=hnew.new.grow hst.mu.size;have hD:(D [z]).p (Pub r.A Ω) w1 v:=hnew.new.reads hst.up;have hraw:Raw1 w1 v:=by
  obtain ⟨cs,q,el,rfl,rfl,hr⟩:=hnew;refine ⟨w.heap.size,cs.toArray,el,rfl,?_,?_⟩
  ·exact heap_alloc_new ({ w with drawn:=q }:World) _
  ·have:=hr.1;have h2:=Dat.pos (α:=α);simp only [List.length_cons,List.length_nil] at this;simp [this];omega
 have hst1:Stt r n (Γ.set d (D [z])) Ω (a.put (some d) v) w1:=hst.put (d:=some d) (fun t e=>by injection e with e;subst e;simpa using hd) hg hD;simp only [List.length_cons,List.range'_succ];rw [wpOpsIn_cons];unfold wpOpIn;simp only [h0,Region.wanted,if_true];refine ⟨fun _ _=>trivial,?_⟩;rw [Oper.semAt_eq _ _ _ (fun c hc=>by cases hc),e1];simp only [Oper.uponIn];rw [wpOpsIn_cons];unfold wpOpIn;simp only [h1,Region.wanted,if_true];have hst2:=hst1.less (Less.perm (pk.perm.trans (show (([⟨b,pr,C⟩]:List Pe)++Ωr).Perm (Ωr++[⟨b,pr,C⟩]) from List.perm_append_comm)));have hlt:∀ j,Own Ωr j→j<w1.heap.size:=fun j hj=>(Zbn.1 hst2.pv.ks).1.lt hj
 have ev:(a.put (some d) v).eval (.tmp d)=v:=by
  have:d<a.tmps.size:=by rw [hst.sz];simpa using hd
  simp [Act.eval,Act.put,this]
 have hcall:Zfe P r.w.heap.size r.A Ωr [⟨b,pr,C⟩] τ Ω' w1 ((execOp (a.put (some d) v).eval ⟨some d2,.call { callee:=.value (.func f),args:=#[s,y,.tmp d],argTypes:=ts },ty2,pos2,aft2,none⟩).run P w1):=by
  have hr:(execOp (a.put (some d) v).eval ⟨some d2,.call { callee:=.value (.func f),args:=#[s,y,.tmp d],argTypes:=ts },ty2,pos2,aft2,none⟩).run P w1=.ok (.enter f #[(a.put (some d) v).eval s,(a.put (some d) v).eval y,v]) w1:=by
   have e1:(a.put (some d) v).eval (.func f)=.func (.func f) #[] #[]:=rfl;simp only [execOp,resolve,Deferred.ofValue,e1,ev,Sem.run_bind,Sem.run_pure,Result.andThen_ok,invoke,F.h,Array.append_empty,Array.empty_append,List.map_toArray,List.map_cons,List.map_nil]
  rw [hr];have hq:Pub (Pub r.A Ωr) [⟨b,pr,C⟩]=Pub r.A (Ωr++[⟨b,pr,C⟩]):=ZjN;have hcc:=hc (A:=Pub r.A Ωr) w1 _ _ v (fun k hk=>ZE.2 ⟨r.up k (Nat.le_trans hst2.mu.size hk),fun hj=>by have:=hlt k hj;omega⟩)
   ⟨fun k hko=>ZE.2 ⟨op.h k (hst2.pv.own k (ZP.2 (.inr hko))),fun ⟨e,he,h1,h2⟩=>by
    obtain ⟨f,hf,h3,h4⟩:=hko;exact (List.pairwise_append.1 hst2.pv.ap).2.2 e he f hf h1 h3 (h2.trans h4.symm)⟩⟩
   (List.pairwise_append.1 hst2.pv.ap).2.1 (by rw [hq];exact (Zbn.1 hst2.pv.ks).2) (by rw [hq];exact hs.le _ _ _ fun t _=>hst2.ty t) (by rw [hq];exact hy.le _ _ _ fun t _=>hst2.ty t) (by
    rw [hq];have:=hst2.ty d;simp only [Env.set,if_true] at this;have e9:(a.put (some d) v).tmps.getD d undef=v:=ev
    rwa [e9] at this) hraw
  refine hcc.mono fun e w' ⟨v,g,h1,h2⟩=>⟨v,g,h1,h2.st.mono hst2.mu.size (fun _ h=>h),h2.nw,?_,by rw [← ZjN];exact h2.ty,by rw [← ZjN];exact h2.ks⟩
  refine List.pairwise_append.2 ⟨(List.pairwise_append.1 hst2.pv.ap).1,h2.ap,fun x hx y hy h3 h4 h5=>?_⟩;rcases h2.nw y.b ⟨y,hy,h4,rfl⟩ with ⟨z,hz,h6,h7⟩ | h6
  ·exact (List.pairwise_append.1 hst2.pv.ap).2.2 x hx z hz h3 h6 (h5.trans h7.symm)
  ·have:=hlt x.b ⟨x,hx,h3,rfl⟩;omega
 exact Zdj hcall fun g v' w' haf=>hk g (Zgi hl1) _ w' ((hst2.T (d:=some d2) (fun t e=>by injection e with e;subst e;simpa using hd2) haf).less (Less.perm List.perm_append_comm))
theorem TS.ovl {f:FuncId} {ts:Array TypeId} [F:ExtOvl P f t] [S:TSl P t e] [T:TDat P e α i] {x y:Operand} {u:Value} {xs:List α} {b o m:Nat} {pr:Prop} {C:Ct} [hx:Has Γ x (ExD u xs)] [hy:Has Γ y (Sv b pr o m)] [hb:HasB Ω b pr C]
  (hpr:pr) (hraw:Raw1 r.w u) (hS:∀ q l c,u=.slice (some ⟨q,0,none⟩) l c→¬ r.S q) (hcs:∀ A w cs,C.p A w cs→cs.length≠0) (hd:Nat.blt d n=true) (hm:0<m)
  (hk:TS P r n ops rest (k+1) (Γ.set d (D false)) Ω Q):TS P r n ops (⟨some d,.call { callee:=.value (.func f),args:=#[x,y],argTypes:=ts },ty,pos,aft,none⟩::rest) k Γ Ω Q:=fun hl a w hst=>by
 have h0:ops[k]?=some ⟨some d,.call { callee:=.value (.func f),args:=#[x,y],argTypes:=ts },ty,pos,aft,none⟩:=by simpa using (hl 0).symm
 obtain ⟨q,cq,el,rfl,hq,hne⟩:=hraw;have hlt:q<r.w.heap.size:=by
  rcases Nat.lt_or_ge q r.w.heap.size with h | h
  ·exact h
  ·rw [Array.getElem?_eq_none h] at hq;cases hq
 have hq':w.heap[q]?=some (.cells cq el (0,0)):=by rw [hst.mu.same q hlt (hS q 1 1 rfl)];exact hq
 obtain ⟨ex,-⟩:=hx.le a _ w fun t _=>hst.ty t
 have ey:=hy.le a _ w fun t _=>hst.ty t
 obtain ⟨c,ey⟩:∃ c,a.eval y=.slice (some ⟨b,o,none⟩) m c:=by
  rcases ey with ⟨-,o',c,ey,-,ho⟩ | ⟨hp,_⟩
  ·obtain rfl:=ho hm;exact ⟨c,ey⟩
  ·exact absurd hpr hp
 obtain ⟨cs,⟨eb,fb,g1,-⟩,g2⟩:=hst.pv.ks _ hb.h hpr;have hbq:q≠b:=fun e=>by
  rcases hst.pv.own b ⟨_,hb.h,hpr,rfl⟩ with h | h
  ·omega
  ·exact hS q 1 1 rfl (e▸h)
 have hcl:=hcs _ _ _ g2;have hr:(Extern.SlicesOverlaps.overlaps #[t,t] #[4] #[a.eval x,a.eval y]).run P w=.ok (.bool false) w:=by
  rw [ex,ey];exact Lib.run_overlaps_apart w t 4 e S.h (Dat.sz α) T.sz ⟨q,0,none⟩ ⟨b,o,none⟩ 1 1 m c hbq el eb cq.size cs.length (by unfold World.shape?;rw [hq']) (by unfold World.shape?;rw [g1];simp) hcl (by unfold World.frozen?;rw [hq'];simp) (by unfold World.frozen?;rw [hq'];simp)
 have hex:(execOp a.eval ⟨some d,.call { callee:=.value (.func f),args:=#[x,y],argTypes:=ts },ty,pos,aft,none⟩).run P w=.ok (.value (.bool false)) w:=by
  have e1:a.eval (.func f)=.func (.func f) #[] #[]:=rfl;simp only [execOp,resolve,Deferred.ofValue,e1,Sem.run_bind,Sem.run_pure,Result.andThen_ok,invoke,Array.append_empty,Array.empty_append];rw [show (#[x,y].map a.eval)=#[a.eval x,a.eval y] by simp,F.h,hr];rfl
 have hst1:Stt r n (Γ.set d (D false)) Ω (a.put (some d) (.bool false)) w:=hst.put (d:=some d) (τ:=D false) (fun t e=>by injection e with e;subst e;simpa using hd) (Grow.refl _ _) ⟨[_],rfl,rfl⟩;simp only [List.length_cons,List.range'_succ];rw [wpOpsIn_cons];unfold wpOpIn;simp only [h0,Region.wanted,if_true];refine ⟨fun _ _=>trivial,?_⟩;rw [Oper.semAt_eq _ _ _ (fun c hc=>by cases hc),hex];simp only [Oper.uponIn];exact hk (Zgi hl) _ w hst1
end two
section rb
variable {α:Type} [i:Dat α]
def RowB (xs:List (List α)) (c m:Nat):Ct:=⟨fun A w cs=>(Row xs c).p A w cs∧∀ j,m≤j→j<xs.length→cs.getD j undef=.slice none 0 0,fun k ⟨h1,h2⟩=>⟨(Row xs c).keep k h1,h2⟩⟩
theorem RowB.len {xs:List (List α)} {c m:Nat} {A:Nat→Prop} {w:World} {cs:List Value} (h:(RowB xs c m).p A w cs):xs.length≤cs.length:=by
 obtain ⟨⟨h1,h2,-⟩,-⟩:=h;have:Dat.sz (List α)=1:=rfl;rw [h1,this];omega
theorem RowB.ce {xs:List (List α)} {c m o:Nat} (h:m≤o) (ho:o<xs.length):CeH (RowB xs c m) (0+o*Dat.sz (List α)) NilS:=⟨fun {A w cs} hc=>by
 have:=RowB.len hc;have e:0+o*Dat.sz (List α)=o:=by show 0+o*1=o;omega
 rw [e];exact ⟨by omega,hc.2 o h ho⟩⟩
theorem RowB.st {xs:List (List α)} {c m o:Nat} {ys:List α} (h:o<m) (ho:o<xs.length):CtSet (RowB xs c m) (0+o*Dat.sz (List α)) (List α) instList ys (RowB (xs.set o ys) c m):=⟨fun {A w cs ds} hc hd=>by
 have e:0+o*Dat.sz (List α)=o*Dat.sz (List α):=Nat.zero_add _;rw [e];obtain ⟨g1,g2⟩:=(Row.set (i:=instList) (c:=c) (y:=ys) ho).h hc.1 hd;refine ⟨g1,g2,fun j hj hl=>?_⟩;rw [List.length_set] at hl;have l:=Dat.len hd;have hsz:Dat.sz (List α)=1:=rfl;rw [ZO (by rw [l];exact g1),if_neg (by rw [l,hsz];omega)];exact hc.2 j hj hl⟩
theorem RowB.mixed {xs:List (List α)} {c m m' o:Nat} {τ:Ty} (h:m≤m') (ho:o<xs.length):CtH (RowB xs c m) (0+o*Dat.sz (List α)) τ (Ct.mix (RowB xs c m') (0+o*Dat.sz (List α)) τ):=⟨fun {A w cs v} hc hv=>by
 have:=RowB.len hc;have e:0+o*Dat.sz (List α)=o:=by show 0+o*1=o;omega
 rw [e];exact ⟨by omega,cs,v,⟨hc.1,fun j hj=>hc.2 j (by omega)⟩,by omega,hv,rfl⟩⟩
theorem RowB.first {xs:List (List α)} {c:Nat} (ho:0<xs.length) {A:Nat→Prop} {w:World} {cs:List Value} (h:(RowB xs c 0).p A w cs):(Ct.mix (RowB xs c 1) (0+Int.toNat 0*Dat.sz (List α)) (Sl 0 False 0 0 0)).p A w cs:=by
 have hl:=RowB.len h;have h0:=h.2 0 (Nat.le_refl _) ho;have e:0+Int.toNat 0*Dat.sz (List α)=0:=by show 0+0*1=0;omega
 rw [e];refine ⟨cs,.slice none 0 0,⟨h.1,fun j _=>h.2 j (Nat.zero_le _)⟩,by omega,.inr ⟨fun h=>h,rfl,rfl,rfl⟩,?_⟩;rw [← h0,List.getD_eq_getElem?_getD,List.getElem?_eq_getElem (by omega)];simp
theorem OpT.makeB {P:Program} {B:Nat} {Ωs Ω:List Pe} {Γ:Env} {d:Tmp} {ty:TypeId} {pos:String} {aft:Array Edge} {t e:TypeId} {bt:Nat} [S:TSl P t e] [T:TEl P e (List α) instList bt] {x y:Operand} {τ σ:Ty} {n:Int} {u:Unit} [hx:Has Γ x τ] [kx:AsI τ n] [hy:Has Γ y σ] [k:AsI σ n] (hr:Zdv bt n=some u) :
  OpT P B Ωs Ω Γ ⟨some d,.makeSlice t x y,ty,pos,aft,none⟩ (fun g:Nat×Unit=>Sl g.1 True 0 n.toNat n.toNat) fun g=>⟨g.1,True,RowB (List.replicate n.toNat ([]:List α)) n.toNat 0⟩::Ω:=
 ZfB (C:=fun _=>RowB (List.replicate n.toNat ([]:List α)) n.toNat 0) rfl fun A a w _ _ hl=>by
  obtain ⟨r0,r1,r2⟩:=Zdz hr;obtain ⟨ti,z,hi1,hi2,hi3,hi4,hi5⟩:=T.h;have e0:a.eval x=.int .i64 n:=kx.le _ _ _ (Zt (x:=x) (τ:=τ) (op:=.makeSlice t x y) (by simp [Op.operands]) hl);have e1:a.eval y=.int .i64 n:=k.le _ _ _ (Zt (x:=y) (τ:=σ) (op:=.makeSlice t x y) (by simp [Op.operands]) hl);have hbb:(bt:Int)*n≤281474976710656:=by
   have h1:((bt*n.toNat:Nat):Int)≤281474976710656:=by omega
   rw [Int.natCast_mul,Int.toNat_of_nonneg (by omega)] at h1;exact h1
  have hrm:=run_make (P:=P) w t e ti z S.h hi1 hi2 .i64 .i64 n n r0 (Int.le_refl _) (by rw [hi4];exact hbb) (by omega);have hrun:(execOp a.eval ⟨some d,.makeSlice t x y,ty,pos,aft,none⟩).run P w=.ok (.value (.slice (some ⟨w.heap.size,0,none⟩) n.toNat n.toNat)) (w.alloc (.cells (madeCells z.cells (n.toNat*ti.size)) e)):=by
   simp only [execOp,Sem.run_bind,Sem.run_pure,e0,e1,hrm,Result.andThen_ok]
  obtain ⟨cs,h1,h2⟩:=ZgT (P:=P) (t:=t) (e:=e) (bt:=bt) (A:=A) (dst:=some d) (ty:=ty) (pos:=pos) (aft:=aft) (gd:=none) (α:=List α) (x:=x) (y:=y) (a:=a) (w:=w) r0 (Int.le_refl _) r1 r2 hl;have hcs:cs=(madeCells z.cells (n.toNat*ti.size)).toList:=by
   rw [hrun] at h1;injection h1 with h1 h3;unfold World.alloc at h3;injection h3 with h3;have:=congrArg Array.back? h3;simp at this;rw [this]
  refine ⟨(),_,w.drawn,cs,e,h1,fun _ _=>.inl ⟨trivial,⟨by omega,h2.2.2.1⟩,rfl⟩,h2,fun j _ hj=>?_⟩;rw [List.length_replicate] at hj;have hsz:ti.size=1:=hi3;have hz:z.cells=#[.slice none 0 0]:=hi5;rw [hcs];simp [madeCells,List.getD_eq_getElem?_getD,hsz,hj,hz,Nat.mod_one]
end rb
section nile
variable {P:Program} {r:Ref} {n:Nat} {Γ:Env} {Ω:List Pe} {Q:Exit→Act→World→Prop}
theorem TC.nilE {c:Code} (b:Nat) (α:Type) [i:Dat α] (h:TC P r n Γ (⟨b,False,Row ([]:List α) 0⟩::Ω) c Q):TC P r n Γ Ω c Q:=
 TC.less (ZiI fun h=>h) h
theorem TC.reL {c:Code} (b:Nat) {pr:Prop} {C C':Ct} {Ωr:List Pe} [pk:Pick Ω b pr C Ωr] (h:∀ A w cs,C.p A w cs→C'.p A w cs) (hk:TC P r n Γ (⟨b,pr,C'⟩::Ωr) c Q):TC P r n Γ Ω c Q:=
 TC.less ((Less.perm pk.perm).trans (Less.ct h)) hk
end nile
end Go.Proofs.YtkmojgfenlgchaaGreatDoor.Tr
namespace Go.Proofs.YtkmojgfenlgchaaGreatDoor.Tr
open Go Go.RowKit
set_option maxRecDepth 10000
structure Block where
 Pages:(List (List UInt8))
 Used:Int
 Worn:Int
 Bad:Bool
def ZfC:Block→((List (List UInt8))×(Int×(Int×Bool))):=fun x=>(x.Pages,x.Used,x.Worn,x.Bad)
def ZhZ:((List (List UInt8))×(Int×(Int×Bool)))→Block:=fun p=>⟨p.1,p.2.1,p.2.2.1,p.2.2.2⟩
instance Block_dat:Dat Block:=Dat.iso ZfC ZhZ (fun _=>rfl)
instance :Inhabited Block:=⟨ZhZ default⟩
theorem Block_inj {x y:Block} (h:ZfC x=ZfC y):x=y:=by have e:=congrArg ZhZ h;exact e
instance :DecidableEq Block:=fun x y=>if h:ZfC x=ZfC y then isTrue (Block_inj h) else isFalse fun e=>h (by rw [e])
instance :Fld Block Block_dat 0 (List (List UInt8)) inferInstance Block.Pages (fun y x=>⟨y,x.Used,x.Worn,x.Bad⟩):=Fld.iso (f:=ZfC) (g:=ZhZ) (h:=fun _=>rfl) (Fld.fst (α:=(List (List UInt8))) (β:=(Int×(Int×Bool))))
instance :Fld Block Block_dat 1 Int inferInstance Block.Used (fun y x=>⟨x.Pages,y,x.Worn,x.Bad⟩):=Fld.iso (f:=ZfC) (g:=ZhZ) (h:=fun _=>rfl) (Fld.next (α:=(List (List UInt8))) (β:=(Int×(Int×Bool))) (Fld.fst (α:=Int) (β:=(Int×Bool))))
instance :Fld Block Block_dat 2 Int inferInstance Block.Worn (fun y x=>⟨x.Pages,x.Used,y,x.Bad⟩):=Fld.iso (f:=ZfC) (g:=ZhZ) (h:=fun _=>rfl) (Fld.next (α:=(List (List UInt8))) (β:=(Int×(Int×Bool))) (Fld.next (α:=Int) (β:=(Int×Bool)) (Fld.fst (α:=Int) (β:=Bool))))
instance :Fld Block Block_dat 3 Bool inferInstance Block.Bad (fun y x=>⟨x.Pages,x.Used,x.Worn,y⟩):=Fld.iso (f:=ZfC) (g:=ZhZ) (h:=fun _=>rfl) (Fld.next (α:=(List (List UInt8))) (β:=(Int×(Int×Bool))) (Fld.next (α:=Int) (β:=(Int×Bool)) (Fld.snd (α:=Int) (β:=Bool))))
structure Fault where
 Op:Int
 Fail:Bool
 Cut:Bool
 Mask:UInt8
def ZeW:Fault→(Int×(Bool×(Bool×UInt8))):=fun x=>(x.Op,x.Fail,x.Cut,x.Mask)
def ZgL:(Int×(Bool×(Bool×UInt8)))→Fault:=fun p=>⟨p.1,p.2.1,p.2.2.1,p.2.2.2⟩
instance Fault_dat:Dat Fault:=Dat.iso ZeW ZgL (fun _=>rfl)
instance :Inhabited Fault:=⟨ZgL default⟩
theorem Fault_inj {x y:Fault} (h:ZeW x=ZeW y):x=y:=by have e:=congrArg ZgL h;exact e
instance :DecidableEq Fault:=fun x y=>if h:ZeW x=ZeW y then isTrue (Fault_inj h) else isFalse fun e=>h (by rw [e])
instance :Fld Fault Fault_dat 0 Int inferInstance Fault.Op (fun y x=>⟨y,x.Fail,x.Cut,x.Mask⟩):=Fld.iso (f:=ZeW) (g:=ZgL) (h:=fun _=>rfl) (Fld.fst (α:=Int) (β:=(Bool×(Bool×UInt8))))
instance :Fld Fault Fault_dat 1 Bool inferInstance Fault.Fail (fun y x=>⟨x.Op,y,x.Cut,x.Mask⟩):=Fld.iso (f:=ZeW) (g:=ZgL) (h:=fun _=>rfl) (Fld.next (α:=Int) (β:=(Bool×(Bool×UInt8))) (Fld.fst (α:=Bool) (β:=(Bool×UInt8))))
instance :Fld Fault Fault_dat 2 Bool inferInstance Fault.Cut (fun y x=>⟨x.Op,x.Fail,y,x.Mask⟩):=Fld.iso (f:=ZeW) (g:=ZgL) (h:=fun _=>rfl) (Fld.next (α:=Int) (β:=(Bool×(Bool×UInt8))) (Fld.next (α:=Bool) (β:=(Bool×UInt8)) (Fld.fst (α:=Bool) (β:=UInt8))))
instance :Fld Fault Fault_dat 3 UInt8 inferInstance Fault.Mask (fun y x=>⟨x.Op,x.Fail,x.Cut,y⟩):=Fld.iso (f:=ZeW) (g:=ZgL) (h:=fun _=>rfl) (Fld.next (α:=Int) (β:=(Bool×(Bool×UInt8))) (Fld.next (α:=Bool) (β:=(Bool×UInt8)) (Fld.snd (α:=Bool) (β:=UInt8))))
structure Chip where
 Pages:Int
 Size:Int
 Blocks:(List Block)
 Ops:Int
 Off:Bool
 Faults:(List Fault)
def Zgr:Chip→(Int×(Int×((List Block)×(Int×(Bool×(List Fault)))))):=fun x=>(x.Pages,x.Size,x.Blocks,x.Ops,x.Off,x.Faults)
def ZiJ:(Int×(Int×((List Block)×(Int×(Bool×(List Fault))))))→Chip:=fun p=>⟨p.1,p.2.1,p.2.2.1,p.2.2.2.1,p.2.2.2.2.1,p.2.2.2.2.2⟩
instance Chip_dat:Dat Chip:=Dat.iso Zgr ZiJ (fun _=>rfl)
theorem Chip_inj {x y:Chip} (h:Zgr x=Zgr y):x=y:=by have e:=congrArg ZiJ h;exact e
instance :DecidableEq Chip:=fun x y=>if h:Zgr x=Zgr y then isTrue (Chip_inj h) else isFalse fun e=>h (by rw [e])
instance :Fld Chip Chip_dat 0 Int inferInstance Chip.Pages (fun y x=>⟨y,x.Size,x.Blocks,x.Ops,x.Off,x.Faults⟩):=Fld.iso (f:=Zgr) (g:=ZiJ) (h:=fun _=>rfl) (Fld.fst (α:=Int) (β:=(Int×((List Block)×(Int×(Bool×(List Fault)))))))
instance :Fld Chip Chip_dat 1 Int inferInstance Chip.Size (fun y x=>⟨x.Pages,y,x.Blocks,x.Ops,x.Off,x.Faults⟩):=Fld.iso (f:=Zgr) (g:=ZiJ) (h:=fun _=>rfl) (Fld.next (α:=Int) (β:=(Int×((List Block)×(Int×(Bool×(List Fault)))))) (Fld.fst (α:=Int) (β:=((List Block)×(Int×(Bool×(List Fault)))))))
instance :Fld Chip Chip_dat 2 (List Block) inferInstance Chip.Blocks (fun y x=>⟨x.Pages,x.Size,y,x.Ops,x.Off,x.Faults⟩):=Fld.iso (f:=Zgr) (g:=ZiJ) (h:=fun _=>rfl) (Fld.next (α:=Int) (β:=(Int×((List Block)×(Int×(Bool×(List Fault)))))) (Fld.next (α:=Int) (β:=((List Block)×(Int×(Bool×(List Fault))))) (Fld.fst (α:=(List Block)) (β:=(Int×(Bool×(List Fault)))))))
instance :Fld Chip Chip_dat 3 Int inferInstance Chip.Ops (fun y x=>⟨x.Pages,x.Size,x.Blocks,y,x.Off,x.Faults⟩):=Fld.iso (f:=Zgr) (g:=ZiJ) (h:=fun _=>rfl) (Fld.next (α:=Int) (β:=(Int×((List Block)×(Int×(Bool×(List Fault)))))) (Fld.next (α:=Int) (β:=((List Block)×(Int×(Bool×(List Fault))))) (Fld.next (α:=(List Block)) (β:=(Int×(Bool×(List Fault)))) (Fld.fst (α:=Int) (β:=(Bool×(List Fault)))))))
instance :Fld Chip Chip_dat 4 Bool inferInstance Chip.Off (fun y x=>⟨x.Pages,x.Size,x.Blocks,x.Ops,y,x.Faults⟩):=Fld.iso (f:=Zgr) (g:=ZiJ) (h:=fun _=>rfl) (Fld.next (α:=Int) (β:=(Int×((List Block)×(Int×(Bool×(List Fault)))))) (Fld.next (α:=Int) (β:=((List Block)×(Int×(Bool×(List Fault))))) (Fld.next (α:=(List Block)) (β:=(Int×(Bool×(List Fault)))) (Fld.next (α:=Int) (β:=(Bool×(List Fault))) (Fld.fst (α:=Bool) (β:=(List Fault)))))))
instance :Fld Chip Chip_dat 5 (List Fault) inferInstance Chip.Faults (fun y x=>⟨x.Pages,x.Size,x.Blocks,x.Ops,x.Off,y⟩):=Fld.iso (f:=Zgr) (g:=ZiJ) (h:=fun _=>rfl) (Fld.next (α:=Int) (β:=(Int×((List Block)×(Int×(Bool×(List Fault)))))) (Fld.next (α:=Int) (β:=((List Block)×(Int×(Bool×(List Fault))))) (Fld.next (α:=(List Block)) (β:=(Int×(Bool×(List Fault)))) (Fld.next (α:=Int) (β:=(Bool×(List Fault))) (Fld.snd (α:=Bool) (β:=(List Fault)))))))
structure Vol where
 Chip:Chip
 At:(List Int)
 Gen:UInt64
 Last:Int
def Zkw:Vol→(Chip×((List Int)×(UInt64×Int))):=fun x=>(x.Chip,x.At,x.Gen,x.Last)
def Vol_of:(Chip×((List Int)×(UInt64×Int)))→Vol:=fun p=>⟨p.1,p.2.1,p.2.2.1,p.2.2.2⟩
instance Vol_dat:Dat Vol:=Dat.iso Zkw Vol_of (fun _=>rfl)
theorem Vol_inj {x y:Vol} (h:Zkw x=Zkw y):x=y:=by have e:=congrArg Vol_of h;exact e
instance :DecidableEq Vol:=fun x y=>if h:Zkw x=Zkw y then isTrue (Vol_inj h) else isFalse fun e=>h (by rw [e])
instance :Fld Vol Vol_dat 0 Chip inferInstance Vol.Chip (fun y x=>⟨y,x.At,x.Gen,x.Last⟩):=Fld.iso (f:=Zkw) (g:=Vol_of) (h:=fun _=>rfl) (Fld.fst (α:=Chip) (β:=((List Int)×(UInt64×Int))))
instance :Fld Vol Vol_dat 6 (List Int) inferInstance Vol.At (fun y x=>⟨x.Chip,y,x.Gen,x.Last⟩):=Fld.iso (f:=Zkw) (g:=Vol_of) (h:=fun _=>rfl) (Fld.next (α:=Chip) (β:=((List Int)×(UInt64×Int))) (Fld.fst (α:=(List Int)) (β:=(UInt64×Int))))
instance :Fld Vol Vol_dat 7 UInt64 inferInstance Vol.Gen (fun y x=>⟨x.Chip,x.At,y,x.Last⟩):=Fld.iso (f:=Zkw) (g:=Vol_of) (h:=fun _=>rfl) (Fld.next (α:=Chip) (β:=((List Int)×(UInt64×Int))) (Fld.next (α:=(List Int)) (β:=(UInt64×Int)) (Fld.fst (α:=UInt64) (β:=Int))))
instance :Fld Vol Vol_dat 8 Int inferInstance Vol.Last (fun y x=>⟨x.Chip,x.At,x.Gen,y⟩):=Fld.iso (f:=Zkw) (g:=Vol_of) (h:=fun _=>rfl) (Fld.next (α:=Chip) (β:=((List Int)×(UInt64×Int))) (Fld.next (α:=(List Int)) (β:=(UInt64×Int)) (Fld.snd (α:=UInt64) (β:=Int))))
structure Prefix where
 Bits:Int
 Len:Int
 Key:(Vec UInt8 16)
def Zef:Prefix→(Int×(Int×(Vec UInt8 16))):=fun x=>(x.Bits,x.Len,x.Key)
def Zgl:(Int×(Int×(Vec UInt8 16)))→Prefix:=fun p=>⟨p.1,p.2.1,p.2.2⟩
instance Prefix_dat:Dat Prefix:=Dat.iso Zef Zgl (fun _=>rfl)
instance :Inhabited Prefix:=⟨Zgl default⟩
theorem Prefix_inj {x y:Prefix} (h:Zef x=Zef y):x=y:=by have e:=congrArg Zgl h;exact e
instance :DecidableEq Prefix:=fun x y=>if h:Zef x=Zef y then isTrue (Prefix_inj h) else isFalse fun e=>h (by rw [e])
instance :Fld Prefix Prefix_dat 0 Int inferInstance Prefix.Bits (fun y x=>⟨y,x.Len,x.Key⟩):=Fld.iso (f:=Zef) (g:=Zgl) (h:=fun _=>rfl) (Fld.fst (α:=Int) (β:=(Int×(Vec UInt8 16))))
instance :Fld Prefix Prefix_dat 1 Int inferInstance Prefix.Len (fun y x=>⟨x.Bits,y,x.Key⟩):=Fld.iso (f:=Zef) (g:=Zgl) (h:=fun _=>rfl) (Fld.next (α:=Int) (β:=(Int×(Vec UInt8 16))) (Fld.fst (α:=Int) (β:=(Vec UInt8 16))))
instance :Fld Prefix Prefix_dat 2 (Vec UInt8 16) inferInstance Prefix.Key (fun y x=>⟨x.Bits,x.Len,y⟩):=Fld.iso (f:=Zef) (g:=Zgl) (h:=fun _=>rfl) (Fld.next (α:=Int) (β:=(Int×(Vec UInt8 16))) (Fld.snd (α:=Int) (β:=(Vec UInt8 16))))
structure Route where
 Prefix:Prefix
 Hop:UInt16
def ZgJ:Route→(Prefix×UInt16):=fun x=>(x.Prefix,x.Hop)
def Zi4:(Prefix×UInt16)→Route:=fun p=>⟨p.1,p.2⟩
instance Route_dat:Dat Route:=Dat.iso ZgJ Zi4 (fun _=>rfl)
instance :Inhabited Route:=⟨Zi4 default⟩
theorem Route_inj {x y:Route} (h:ZgJ x=ZgJ y):x=y:=by have e:=congrArg Zi4 h;exact e
instance :DecidableEq Route:=fun x y=>if h:ZgJ x=ZgJ y then isTrue (Route_inj h) else isFalse fun e=>h (by rw [e])
instance :Fld Route Route_dat 0 Prefix inferInstance Route.Prefix (fun y x=>⟨y,x.Hop⟩):=Fld.iso (f:=ZgJ) (g:=Zi4) (h:=fun _=>rfl) (Fld.fst (α:=Prefix) (β:=UInt16))
instance :Fld Route Route_dat 18 UInt16 inferInstance Route.Hop (fun y x=>⟨x.Prefix,y⟩):=Fld.iso (f:=ZgJ) (g:=Zi4) (h:=fun _=>rfl) (Fld.snd (α:=Prefix) (β:=UInt16))
structure Fib where
 Vol:Vol
 Table:(List Route)
def Fib_to:Fib→(Vol×(List Route)):=fun x=>(x.Vol,x.Table)
def Fib_of:(Vol×(List Route))→Fib:=fun p=>⟨p.1,p.2⟩
instance Fib_dat:Dat Fib:=Dat.iso Fib_to Fib_of (fun _=>rfl)
instance :Fld Fib Fib_dat 0 Vol inferInstance Fib.Vol (fun y x=>⟨y,x.Table⟩):=Fld.iso (f:=Fib_to) (g:=Fib_of) (h:=fun _=>rfl) (Fld.fst (α:=Vol) (β:=(List Route)))
instance :Fld Fib Fib_dat 9 (List Route) inferInstance Fib.Table (fun y x=>⟨x.Vol,y⟩):=Fld.iso (f:=Fib_to) (g:=Fib_of) (h:=fun _=>rfl) (Fld.snd (α:=Vol) (β:=(List Route)))
structure Change where
 Route:Route
 Gone:Bool
def ZkF:Change→(Route×Bool):=fun x=>(x.Route,x.Gone)
def ZkG:(Route×Bool)→Change:=fun p=>⟨p.1,p.2⟩
instance Change_dat:Dat Change:=Dat.iso ZkF ZkG (fun _=>rfl)
instance :Fld Change Change_dat 0 Route inferInstance Change.Route (fun y x=>⟨y,x.Gone⟩):=Fld.iso (f:=ZkF) (g:=ZkG) (h:=fun _=>rfl) (Fld.fst (α:=Route) (β:=Bool))
instance :Fld Change Change_dat 19 Bool inferInstance Change.Gone (fun y x=>⟨x.Route,y⟩):=Fld.iso (f:=ZkF) (g:=ZkG) (h:=fun _=>rfl) (Fld.snd (α:=Route) (β:=Bool))
structure bywaytop_Job where
 Batch:(List Change)
 Faults:(List Fault)
def Zd9:bywaytop_Job→((List Change)×(List Fault)):=fun x=>(x.Batch,x.Faults)
def Zdc:((List Change)×(List Fault))→bywaytop_Job:=fun p=>⟨p.1,p.2⟩
instance bywaytop_Job_dat:Dat bywaytop_Job:=Dat.iso Zd9 Zdc (fun _=>rfl)
instance :Inhabited bywaytop_Job:=⟨Zdc default⟩
instance :Fld bywaytop_Job bywaytop_Job_dat 0 (List Change) inferInstance bywaytop_Job.Batch (fun y x=>⟨y,x.Faults⟩):=Fld.iso (f:=Zd9) (g:=Zdc) (h:=fun _=>rfl) (Fld.fst (α:=(List Change)) (β:=(List Fault)))
instance :Fld bywaytop_Job bywaytop_Job_dat 1 (List Fault) inferInstance bywaytop_Job.Faults (fun y x=>⟨x.Batch,y⟩):=Fld.iso (f:=Zd9) (g:=Zdc) (h:=fun _=>rfl) (Fld.snd (α:=(List Change)) (β:=(List Fault)))
structure Item where
 Id:Int
 Body:(List UInt8)
def Item_to:Item→(Int×(List UInt8)):=fun x=>(x.Id,x.Body)
def Item_of:(Int×(List UInt8))→Item:=fun p=>⟨p.1,p.2⟩
instance Item_dat:Dat Item:=Dat.iso Item_to Item_of (fun _=>rfl)
instance :Fld Item Item_dat 0 Int inferInstance Item.Id (fun y x=>⟨y,x.Body⟩):=Fld.iso (f:=Item_to) (g:=Item_of) (h:=fun _=>rfl) (Fld.fst (α:=Int) (β:=(List UInt8)))
instance :Fld Item Item_dat 1 (List UInt8) inferInstance Item.Body (fun y x=>⟨x.Id,y⟩):=Fld.iso (f:=Item_to) (g:=Item_of) (h:=fun _=>rfl) (Fld.snd (α:=Int) (β:=(List UInt8)))
structure Slot where
 Len:Int
 Hop:UInt16
def Slot_to:Slot→(Int×UInt16):=fun x=>(x.Len,x.Hop)
def Slot_of:(Int×UInt16)→Slot:=fun p=>⟨p.1,p.2⟩
instance Slot_dat:Dat Slot:=Dat.iso Slot_to Slot_of (fun _=>rfl)
instance :Fld Slot Slot_dat 0 Int inferInstance Slot.Len (fun y x=>⟨y,x.Hop⟩):=Fld.iso (f:=Slot_to) (g:=Slot_of) (h:=fun _=>rfl) (Fld.fst (α:=Int) (β:=UInt16))
instance :Fld Slot Slot_dat 1 UInt16 inferInstance Slot.Hop (fun y x=>⟨x.Len,y⟩):=Fld.iso (f:=Slot_to) (g:=Slot_of) (h:=fun _=>rfl) (Fld.snd (α:=Int) (β:=UInt16))
structure Node where
 Slots:(Vec Slot 16)
 Next:(Vec Int 16)
def Node_to:Node→((Vec Slot 16)×(Vec Int 16)):=fun x=>(x.Slots,x.Next)
def Node_of:((Vec Slot 16)×(Vec Int 16))→Node:=fun p=>⟨p.1,p.2⟩
instance Node_dat:Dat Node:=Dat.iso Node_to Node_of (fun _=>rfl)
instance :Fld Node Node_dat 0 (Vec Slot 16) inferInstance Node.Slots (fun y x=>⟨y,x.Next⟩):=Fld.iso (f:=Node_to) (g:=Node_of) (h:=fun _=>rfl) (Fld.fst (α:=(Vec Slot 16)) (β:=(Vec Int 16)))
instance :Fld Node Node_dat 32 (Vec Int 16) inferInstance Node.Next (fun y x=>⟨x.Slots,y⟩):=Fld.iso (f:=Node_to) (g:=Node_of) (h:=fun _=>rfl) (Fld.snd (α:=(Vec Slot 16)) (β:=(Vec Int 16)))
structure Trie where
 Bits:Int
 Nodes:(List Node)
def Trie_to:Trie→(Int×(List Node)):=fun x=>(x.Bits,x.Nodes)
def Trie_of:(Int×(List Node))→Trie:=fun p=>⟨p.1,p.2⟩
instance Trie_dat:Dat Trie:=Dat.iso Trie_to Trie_of (fun _=>rfl)
instance :Fld Trie Trie_dat 0 Int inferInstance Trie.Bits (fun y x=>⟨y,x.Nodes⟩):=Fld.iso (f:=Trie_to) (g:=Trie_of) (h:=fun _=>rfl) (Fld.fst (α:=Int) (β:=(List Node)))
instance :Fld Trie Trie_dat 1 (List Node) inferInstance Trie.Nodes (fun y x=>⟨x.Bits,y⟩):=Fld.iso (f:=Trie_to) (g:=Trie_of) (h:=fun _=>rfl) (Fld.snd (α:=Int) (β:=(List Node)))
structure flash_writer where
 Vol:Vol
 beyond:Bool
def ZbJ:flash_writer→(Vol×Bool):=fun x=>(x.Vol,x.beyond)
def Zd3:(Vol×Bool)→flash_writer:=fun p=>⟨p.1,p.2⟩
instance flash_writer_dat:Dat flash_writer:=Dat.iso ZbJ Zd3 (fun _=>rfl)
theorem ZlI {x y:flash_writer} (h:ZbJ x=ZbJ y):x=y:=by have e:=congrArg Zd3 h;exact e
instance :DecidableEq flash_writer:=fun x y=>if h:ZbJ x=ZbJ y then isTrue (ZlI h) else isFalse fun e=>h (by rw [e])
instance :Fld flash_writer flash_writer_dat 0 Vol inferInstance flash_writer.Vol (fun y x=>⟨y,x.beyond⟩):=Fld.iso (f:=ZbJ) (g:=Zd3) (h:=fun _=>rfl) (Fld.fst (α:=Vol) (β:=Bool))
instance :Fld flash_writer flash_writer_dat 9 Bool inferInstance flash_writer.beyond (fun y x=>⟨x.Vol,y⟩):=Fld.iso (f:=ZbJ) (g:=Zd3) (h:=fun _=>rfl) (Fld.snd (α:=Vol) (β:=Bool))
structure trie_builder where
 Trie:Trie
def Zh9:trie_builder→Trie:=fun x=>x.Trie
def Zia:Trie→trie_builder:=fun p=>⟨p⟩
instance trie_builder_dat:Dat trie_builder:=Dat.iso Zh9 Zia (fun _=>rfl)
instance :Fld trie_builder trie_builder_dat 0 Trie inferInstance trie_builder.Trie (fun y x=>⟨y⟩):=Fld.iso (f:=Zh9) (g:=Zia) (h:=fun _=>rfl) (Fld.whole (i:=inferInstance) rfl)
structure Roots where
 Gen:UInt64
 At:(List Int)
def Roots_to:Roots→(UInt64×(List Int)):=fun x=>(x.Gen,x.At)
def Roots_of:(UInt64×(List Int))→Roots:=fun p=>⟨p.1,p.2⟩
instance Roots_dat:Dat Roots:=Dat.iso Roots_to Roots_of (fun _=>rfl)
instance :Fld Roots Roots_dat 0 UInt64 inferInstance Roots.Gen (fun y x=>⟨y,x.At⟩):=Fld.iso (f:=Roots_to) (g:=Roots_of) (h:=fun _=>rfl) (Fld.fst (α:=UInt64) (β:=(List Int)))
instance :Fld Roots Roots_dat 1 (List Int) inferInstance Roots.At (fun y x=>⟨x.Gen,y⟩):=Fld.iso (f:=Roots_to) (g:=Roots_of) (h:=fun _=>rfl) (Fld.snd (α:=UInt64) (β:=(List Int)))
structure Page where
 Kind:Int
 Id:Int
 Gen:UInt64
 Body:(List UInt8)
def ZmN:Page→(Int×(Int×(UInt64×(List UInt8)))):=fun x=>(x.Kind,x.Id,x.Gen,x.Body)
def ZmO:(Int×(Int×(UInt64×(List UInt8))))→Page:=fun p=>⟨p.1,p.2.1,p.2.2.1,p.2.2.2⟩
instance Page_dat:Dat Page:=Dat.iso ZmN ZmO (fun _=>rfl)
instance :Fld Page Page_dat 0 Int inferInstance Page.Kind (fun y x=>⟨y,x.Id,x.Gen,x.Body⟩):=Fld.iso (f:=ZmN) (g:=ZmO) (h:=fun _=>rfl) (Fld.fst (α:=Int) (β:=(Int×(UInt64×(List UInt8)))))
instance :Fld Page Page_dat 1 Int inferInstance Page.Id (fun y x=>⟨x.Kind,y,x.Gen,x.Body⟩):=Fld.iso (f:=ZmN) (g:=ZmO) (h:=fun _=>rfl) (Fld.next (α:=Int) (β:=(Int×(UInt64×(List UInt8)))) (Fld.fst (α:=Int) (β:=(UInt64×(List UInt8)))))
instance :Fld Page Page_dat 2 UInt64 inferInstance Page.Gen (fun y x=>⟨x.Kind,x.Id,y,x.Body⟩):=Fld.iso (f:=ZmN) (g:=ZmO) (h:=fun _=>rfl) (Fld.next (α:=Int) (β:=(Int×(UInt64×(List UInt8)))) (Fld.next (α:=Int) (β:=(UInt64×(List UInt8))) (Fld.fst (α:=UInt64) (β:=(List UInt8)))))
instance :Fld Page Page_dat 3 (List UInt8) inferInstance Page.Body (fun y x=>⟨x.Kind,x.Id,x.Gen,y⟩):=Fld.iso (f:=ZmN) (g:=ZmO) (h:=fun _=>rfl) (Fld.next (α:=Int) (β:=(Int×(UInt64×(List UInt8)))) (Fld.next (α:=Int) (β:=(UInt64×(List UInt8))) (Fld.snd (α:=UInt64) (β:=(List UInt8)))))
structure Wear where
 Live:Int
 Used:Int
 Worn:Int
 Bad:Bool
def ZhU:Wear→(Int×(Int×(Int×Bool))):=fun x=>(x.Live,x.Used,x.Worn,x.Bad)
def ZjM:(Int×(Int×(Int×Bool)))→Wear:=fun p=>⟨p.1,p.2.1,p.2.2.1,p.2.2.2⟩
instance Wear_dat:Dat Wear:=Dat.iso ZhU ZjM (fun _=>rfl)
instance :Inhabited Wear:=⟨ZjM default⟩
theorem Wear_inj {x y:Wear} (h:ZhU x=ZhU y):x=y:=by have e:=congrArg ZjM h;exact e
instance :DecidableEq Wear:=fun x y=>if h:ZhU x=ZhU y then isTrue (Wear_inj h) else isFalse fun e=>h (by rw [e])
instance :Flat Wear Wear_dat:=Flat.iso (h:=fun _=>rfl) inferInstance
instance :Fld Wear Wear_dat 0 Int inferInstance Wear.Live (fun y x=>⟨y,x.Used,x.Worn,x.Bad⟩):=Fld.iso (f:=ZhU) (g:=ZjM) (h:=fun _=>rfl) (Fld.fst (α:=Int) (β:=(Int×(Int×Bool))))
instance :Fld Wear Wear_dat 1 Int inferInstance Wear.Used (fun y x=>⟨x.Live,y,x.Worn,x.Bad⟩):=Fld.iso (f:=ZhU) (g:=ZjM) (h:=fun _=>rfl) (Fld.next (α:=Int) (β:=(Int×(Int×Bool))) (Fld.fst (α:=Int) (β:=(Int×Bool))))
instance :Fld Wear Wear_dat 2 Int inferInstance Wear.Worn (fun y x=>⟨x.Live,x.Used,y,x.Bad⟩):=Fld.iso (f:=ZhU) (g:=ZjM) (h:=fun _=>rfl) (Fld.next (α:=Int) (β:=(Int×(Int×Bool))) (Fld.next (α:=Int) (β:=(Int×Bool)) (Fld.fst (α:=Int) (β:=Bool))))
instance :Fld Wear Wear_dat 3 Bool inferInstance Wear.Bad (fun y x=>⟨x.Live,x.Used,x.Worn,y⟩):=Fld.iso (f:=ZhU) (g:=ZjM) (h:=fun _=>rfl) (Fld.next (α:=Int) (β:=(Int×(Int×Bool))) (Fld.next (α:=Int) (β:=(Int×Bool)) (Fld.snd (α:=Int) (β:=Bool))))
structure wear_block where
 Wear:Wear
 pages:Int
def Zhs:wear_block→(Wear×Int):=fun x=>(x.Wear,x.pages)
def Zht:(Wear×Int)→wear_block:=fun p=>⟨p.1,p.2⟩
instance wear_block_dat:Dat wear_block:=Dat.iso Zhs Zht (fun _=>rfl)
instance :Fld wear_block wear_block_dat 0 Wear inferInstance wear_block.Wear (fun y x=>⟨y,x.pages⟩):=Fld.iso (f:=Zhs) (g:=Zht) (h:=fun _=>rfl) (Fld.fst (α:=Wear) (β:=Int))
instance :Fld wear_block wear_block_dat 4 Int inferInstance wear_block.pages (fun y x=>⟨x.Wear,y⟩):=Fld.iso (f:=Zhs) (g:=Zht) (h:=fun _=>rfl) (Fld.snd (α:=Wear) (β:=Int))
end Go.Proofs.YtkmojgfenlgchaaGreatDoor.Tr
