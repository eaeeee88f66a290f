/- What the proof leans on. Conditions: none. -/
import Derived.Test.YtkmojgfenlgchaaGreatDoorRows
import Derived.Test.YtkmojgfenlgchaaGreatDoorChecked
import Derived.Still
import Derived.Below
import Derived.WalkKit
import Derived.Laws.AppendOwn
import Derived.Laws.MakeOwn
import Derived.OrdersIn
import Derived.RangeFuncLeaves
import Derived.RangeFuncFrom
import Derived.Laws.Tables
import Derived.WalkSpells
import Derived.Laws.Small
import Derived.MapKept
import Derived.Laws.StructEq
import Derived.Lib.BytesEntry
import Derived.Laws.Externs
import Derived.Laws.Strings
import Derived.Laws.Strings2
import Derived.Laws.Cover3
import Derived.Lib.Bytealg
import Derived.Lib.Overlaps
import Derived.Lib.AppendZerosOnto
import Derived.SizedLaws
import Derived.ProofKit
import Derived.OpenShut
import Derived.Carry
import Derived.ChangeOld
import Derived.Deep.Slices
import Derived.Test.YtkmojgfenlgchaaGreatDoorTie
import Derived.Test.YtkmojgfenlgchaaGreatDoorCards
import Derived.LaidMore
import Derived.Lay
import Derived.SevenTiedAt
import Derived.Stop.Joined
set_option linter.all false
set_option linter.unusedSimpArgs false
set_option linter.unusedVariables false
set_option linter.unusedSectionVars false
namespace Go.Proofs.YtkmojgfenlgchaaGreatDoor.Tr
theorem ZZi {α:Type} {a b:α} (h:some a=some b):a=b:=Option.some.inj h
theorem ZZs {α:Type} {a b:α} (h:some a=some b):b=a:=(Option.some.inj h).symm
end Go.Proofs.YtkmojgfenlgchaaGreatDoor.Tr
namespace Go.Proofs.YtkmojgfenlgchaaGreatDoor.Tr
open Go Go.RowKit
def Zed:Option Obj→Option Obj→Prop
 | some (.cells c e f),o'=>∃ f',o'=some (.cells c e f')∧(f'=f∨(c.size≤f'.1∧(f=(0,0)∨c.size≤f.1)))
 | o,o'=>o'=o
theorem Zed.refl (o:Option Obj):Zed o o:=by
 cases o with
 | none=>rfl
 | some o=>cases o <;> first | rfl | exact ⟨_,rfl,.inl rfl⟩
theorem Zed.trans {a b c:Option Obj} (h:Zed a b) (k:Zed b c):Zed a c:=by
 cases a with
 | none=>cases h;exact k
 | some o=>
  cases o with
  | cells x e f=>
   obtain ⟨f1,rfl,h1⟩:=h;obtain ⟨f2,rfl,h2⟩:=k;refine ⟨f2,rfl,?_⟩;rcases h1 with rfl | ⟨h1,h3⟩
   ·exact h2
   ·rcases h2 with rfl | ⟨h2,_⟩
    ·exact .inr ⟨h1,h3⟩
    ·exact .inr ⟨h2,h3⟩
  | _=>cases h;exact k
structure Grow (B:Nat) (w w':World):Prop where
 os:w'.os=w.os
 tape:w'.tape=w.tape
 output:w'.output=w.output
 size:w.heap.size≤w'.heap.size
 old:∀ k,k<B→w'.heap[k]?=w.heap[k]?
 cells:∀ k,k<w.heap.size→Zed (w.heap[k]?) (w'.heap[k]?)
theorem Grow.refl (B:Nat) (w:World):Grow B w w:=⟨rfl,rfl,rfl,Nat.le_refl _,fun _ _=>rfl,fun _ _=>Zed.refl _⟩
theorem Grow.trans {B:Nat} {a b c:World} (h:Grow B a b) (k:Grow B b c):Grow B a c:=
 ⟨k.os.trans h.os,k.tape.trans h.tape,k.output.trans h.output,Nat.le_trans h.size k.size,fun i hi=>(k.old i hi).trans (h.old i hi),
  fun i hi=>(h.cells i hi).trans (k.cells i (Nat.lt_of_lt_of_le hi h.size))⟩
theorem Grow.mono {B B':Nat} {w w':World} (h:Grow B w w') (hB:B'≤B):Grow B' w w':=
 ⟨h.os,h.tape,h.output,h.size,fun k hk=>h.old k (Nat.lt_of_lt_of_le hk hB),h.cells⟩
theorem Grow.below {w w':World} (h:Grow w.heap.size w w'):Below w.heap.size w w':=
 ⟨h.os,h.tape,h.output,h.size,h.old⟩
theorem Grow.drawn {B:Nat} {w:World} (n:Nat):Grow B w { w with drawn:=n }:=⟨rfl,rfl,rfl,Nat.le_refl _,fun _ _=>rfl,fun _ _=>Zed.refl _⟩
theorem Grow.push {B:Nat} {w:World} (o:Obj) (hB:B≤w.heap.size):Grow B w { w with heap:=w.heap.push o }:=by
 have hk:∀ k,k<w.heap.size→(w.heap.push o)[k]?=w.heap[k]?:=fun k hk=>by rw [Array.getElem?_push,if_neg (by omega)]
 exact ⟨rfl,rfl,rfl,by simp,fun k h=>hk k (by omega),fun k h=>by rw [hk k h];exact Zed.refl _⟩
theorem cell_lt {w:World} {a:Addr} {v:Value} (hc:w.cell? a=some v):a.block<w.heap.size:=by
 unfold World.cell? at hc;rcases Nat.lt_or_ge a.block w.heap.size with h1 | h1
 ·exact h1
 ·rw [Array.getElem?_eq_none h1] at hc;cases hc
def Zi9 (w:World) (b off:Nat) (cs:List Value):Prop:=∀ j,j<cs.length→w.cell? ⟨b,off+j,none⟩=some (cs.getD j undef)
structure Keep (A A':Nat→Prop) (w w':World):Prop where
 size:w.heap.size≤w'.heap.size
 h:∀ k,k<w.heap.size→A k→A' k∧Zed (w.heap[k]?) (w'.heap[k]?)
theorem Keep.refl (A:Nat→Prop) (w:World):Keep A A w w:=⟨Nat.le_refl _,fun k _ ha=>⟨ha,Zed.refl _⟩⟩
theorem Keep.trans {A A' A'':Nat→Prop} {w w' w'':World} (h:Keep A A' w w') (k:Keep A' A'' w' w''):Keep A A'' w w'':=
 ⟨Nat.le_trans h.size k.size,fun i hi ha=>⟨(k.h i (Nat.lt_of_lt_of_le hi h.size) (h.h i hi ha).1).1,(h.h i hi ha).2.trans (k.h i (Nat.lt_of_lt_of_le hi h.size) (h.h i hi ha).1).2⟩⟩
theorem Keep.grow {A:Nat→Prop} {B:Nat} {w w':World} (h:Grow B w w'):Keep A A w w':=⟨h.size,fun k hk ha=>⟨ha,h.cells k hk⟩⟩
theorem Keep.mono {A A':Nat→Prop} {w:World} (h:∀ k,k<w.heap.size→A k→A' k):Keep A A' w w:=⟨Nat.le_refl _,fun k hk ha=>⟨h k hk ha,Zed.refl _⟩⟩
theorem Keep.cell {A A':Nat→Prop} {w w':World} (h:Keep A A' w w') {a:Addr} {v:Value} (ha:A a.block) (hc:w.cell? a=some v):w'.cell? a=some v:=by
 have hs:=(h.h a.block (cell_lt hc) ha).2;unfold World.cell? at *;generalize w.heap[a.block]?=o at *;cases o with
 | none=>cases hc
 | some o=>
  cases o with
  | cells c e f=>obtain ⟨f',h',-⟩:=hs;rw [h'];exact hc
  | _=>cases hc
theorem Keep.row {A A':Nat→Prop} {w w':World} (h:Keep A A' w w') {b off:Nat} {cs:List Value} (ha:A b) (hc:Zi9 w b off cs):Zi9 w' b off cs:=
 fun j hj=>h.cell (a:=⟨b,off+j,none⟩) ha (hc j hj)
def seg (cs:List Value) (o n:Nat):List Value:=(cs.drop o).take n
def ZU (cs:List Value) (o:Nat) (vs:List Value):List Value:=cs.take o++vs++cs.drop (o+vs.length)
theorem Zv {cs:List Value} {o n:Nat} (h:o+n≤cs.length):(seg cs o n).length=n:=by simp [seg];omega
theorem Zab {cs:List Value} {o n j:Nat} (hj:j<n):(seg cs o n).getD j undef=cs.getD (o+j) undef:=by
 simp [seg,List.getD_eq_getElem?_getD,hj]
theorem Zl {cs:List Value} {o:Nat} {vs:List Value} (h:o+vs.length≤cs.length):(ZU cs o vs).length=cs.length:=by simp [ZU];omega
theorem ZO {cs:List Value} {o j:Nat} {vs:List Value} (h:o+vs.length≤cs.length) :
  (ZU cs o vs).getD j undef=if o≤j∧j<o+vs.length then vs.getD (j-o) undef else cs.getD j undef:=by
 simp only [ZU,List.getD_eq_getElem?_getD,List.append_assoc];rcases Nat.lt_or_ge j o with h1 | h1
 ·rw [if_neg (by omega),List.getElem?_append_left (by simp;omega),List.getElem?_take_of_lt h1]
 ·rw [List.getElem?_append_right (by simp;omega)];have e1:(cs.take o).length=o:=by simp;omega
  rw [e1];rcases Nat.lt_or_ge j (o+vs.length) with h2 | h2
  ·rw [if_pos ⟨h1,h2⟩,List.getElem?_append_left (by omega)]
  ·rw [if_neg (by omega),List.getElem?_append_right (by omega),List.getElem?_drop,show o+vs.length+(j-o-vs.length)=j by omega]
theorem ZaH {a b:List Value} (hl:a.length=b.length) (h:∀ j,j<a.length→a.getD j undef=b.getD j undef):a=b:=by
 apply List.ext_getElem hl;intro j h1 h2;have:=h j h1;simpa [List.getD_eq_getElem?_getD,List.getElem?_eq_getElem h1,List.getElem?_eq_getElem h2] using this
theorem ZbH {cs:List Value} {o:Nat} {vs:List Value} (h:o+vs.length≤cs.length):seg (ZU cs o vs) o vs.length=vs:=by
 refine ZaH (Zv (by rw [Zl h];exact h)) fun j hj=>?_
 rw [Zv (by rw [Zl h];exact h)] at hj;rw [Zab hj,ZO h,if_pos (by omega)];congr 1;omega
theorem Zaz {cs:List Value} {o p n:Nat} {vs:List Value} (h:o+vs.length≤cs.length) (hp:p+n≤cs.length) (hd:p+n≤o∨o+vs.length≤p):seg (ZU cs o vs) p n=seg cs p n:=by
 refine ZaH (by rw [Zv (by rw [Zl h];exact hp),Zv hp]) fun j hj=>?_
 rw [Zv (by rw [Zl h];exact hp)] at hj;rw [Zab hj,Zab hj,ZO h,if_neg (by omega)]
def Blk (w:World) (b:Nat) (cs:List Value):Prop:=∃ e f,w.heap[b]?=some (.cells cs.toArray e f)∧(f=(0,0)∨cs.length≤f.1)
theorem Blk.lt {w:World} {b:Nat} {cs:List Value} (h:Blk w b cs):b<w.heap.size:=by
 obtain ⟨e,f,h,-⟩:=h;rcases Nat.lt_or_ge b w.heap.size with h1 | h1
 ·exact h1
 ·rw [Array.getElem?_eq_none h1] at h;cases h
theorem Blk.cell {w:World} {b:Nat} {cs:List Value} (h:Blk w b cs) {i:Nat} (hi:i<cs.length):w.cell? ⟨b,i,none⟩=some (cs.getD i undef):=by
 obtain ⟨e,f,h,-⟩:=h;simp [World.cell?,h,List.getD_eq_getElem?_getD,List.getElem?_eq_getElem hi]
theorem Blk.row {w:World} {b:Nat} {cs:List Value} (h:Blk w b cs) {o n:Nat} (hn:o+n≤cs.length):Zi9 w b o (seg cs o n):=fun j hj=>by
 rw [Zv hn] at hj;rw [h.cell (by omega),Zab hj]
theorem Blk.free {w:World} {b:Nat} {cs:List Value} (h:Blk w b cs) {i:Nat} (hi:i<cs.length):w.frozen? ⟨b,i,none⟩=false:=by
 obtain ⟨e,f,h,hf⟩:=h;unfold World.frozen?;simp only [h];rcases hf with rfl | hf
 ·simp
 ·simp;omega
theorem Blk.same {w w':World} {b:Nat} {cs:List Value} (h2:Zed (w.heap[b]?) (w'.heap[b]?)) (h:Blk w b cs):Blk w' b cs:=by
 obtain ⟨e,f,h,hf⟩:=h;rw [h] at h2;obtain ⟨f',h3,h4⟩:=h2;refine ⟨e,f',h3,?_⟩;rcases h4 with rfl | ⟨h4,_⟩
 ·exact hf
 ·exact .inr (by simpa using h4)
theorem Blk.keep {A A':Nat→Prop} {w w':World} {b:Nat} {cs:List Value} (k:Keep A A' w w') (ha:A b) (h:Blk w b cs):Blk w' b cs:=h.same (k.h b h.lt ha).2
theorem Blk.new {w:World} {b:Nat} {cs:List Value} {e:TypeId} (hb:b=w.heap.size):Blk (w.alloc (.cells cs.toArray e)) b cs:=by
 subst hb;exact ⟨e,(0,0),(heap_alloc_new w _),.inl rfl⟩
structure Ty where
 p:(Nat→Prop)→World→Value→Prop
 keep:∀ {A A' w w' v},Keep A A' w w'→p A w v→p A' w' v
def Ty.any:Ty:=⟨fun _ _ _=>True,fun _ h=>h⟩
theorem Ty.st (τ:Ty) {A:Nat→Prop} {B:Nat} {w w':World} {v:Value} (h:Grow B w w') (k:τ.p A w v):τ.p A w' v:=τ.keep (Keep.grow h) k
structure Ct where
 p:(Nat→Prop)→World→List Value→Prop
 keep:∀ {A A' w w' cs},Keep A A' w w'→p A w cs→p A' w' cs
structure Pe where
 b:Nat
 pr:Prop
 C:Ct
abbrev Env:=Tmp→Ty
def Env.set (Γ:Env) (d:Tmp) (τ:Ty):Env:=fun t=>if t=d then τ else Γ t
def Env.put (Γ:Env):Option Tmp→Ty→Env
 | some d,τ=>Γ.set d τ
 | none,_=>Γ
def Env.nil:Env:=fun _=>Ty.any
def Pub (A:Nat→Prop) (Ω:List Pe) (k:Nat):Prop:=A k∧∀ e∈Ω,e.pr→e.b≠k
def Pks (A:Nat→Prop) (Ω:List Pe) (w:World):Prop:=∀ e∈Ω,e.pr→∃ cs,Blk w e.b cs∧e.C.p A w cs
def ZfD (Ω:List Pe):Prop:=Ω.Pairwise fun e f=>e.pr→f.pr→e.b≠f.b
def Own (Ω:List Pe) (k:Nat):Prop:=∃ e∈Ω,e.pr∧e.b=k
theorem ZE {A:Nat→Prop} {Ω:List Pe} {k:Nat}:Pub A Ω k↔A k∧¬ Own Ω k:=by
 unfold Pub Own
 constructor
 ·rintro ⟨h1,h2⟩;exact ⟨h1,fun ⟨e,he,hp,hb⟩=>h2 e he hp hb⟩
 ·rintro ⟨h1,h2⟩;exact ⟨h1,fun e he hp hb=>h2 ⟨e,he,hp,hb⟩⟩
structure Ref where
 w:World
 A:Nat→Prop
 S:Nat→Prop
 up:∀ k,w.heap.size≤k→A k
 /-- the loop in whose round this is,and the deferred calls -/
 ρ:Option Nat
 ds:List Deferred
structure Mut (S:Nat→Prop) (w w':World):Prop where
 os:w'.os=w.os
 tape:w'.tape=w.tape
 output:w'.output=w.output
 size:w.heap.size≤w'.heap.size
 same:∀ k,k<w.heap.size→¬ S k→w'.heap[k]?=w.heap[k]?
theorem Mut.refl (S:Nat→Prop) (w:World):Mut S w w:=⟨rfl,rfl,rfl,Nat.le_refl _,fun _ _ _=>rfl⟩
theorem Mut.trans {S:Nat→Prop} {a b c:World} (h:Mut S a b) (k:Mut S b c):Mut S a c:=
 ⟨k.os.trans h.os,k.tape.trans h.tape,k.output.trans h.output,Nat.le_trans h.size k.size,fun i hi hs=>(k.same i (Nat.lt_of_lt_of_le hi h.size) hs).trans (h.same i hi hs)⟩
theorem Mut.mono {S T:Nat→Prop} {w w':World} (h:Mut S w w') (hs:∀ k,S k→T k):Mut T w w':=⟨h.os,h.tape,h.output,h.size,fun k hk hn=>h.same k hk fun x=>hn (hs k x)⟩
theorem Mut.keep {S A:Nat→Prop} {w w':World} (h:Mut S w w') (hA:∀ k,A k→¬ S k):Keep A A w w':=⟨h.size,fun k hk ha=>⟨ha,by rw [h.same k hk (hA k ha)];exact Zed.refl _⟩⟩
structure Stp (B:Nat) (S:Nat→Prop) (w w':World):Prop where
 os:w'.os=w.os
 tape:w'.tape=w.tape
 output:w'.output=w.output
 size:w.heap.size≤w'.heap.size
 old:∀ k,k<B→¬ S k→w'.heap[k]?=w.heap[k]?
 cells:∀ k,k<w.heap.size→¬ S k→Zed (w.heap[k]?) (w'.heap[k]?)
theorem Stp.refl (B:Nat) (S:Nat→Prop) (w:World):Stp B S w w:=⟨rfl,rfl,rfl,Nat.le_refl _,fun _ _ _=>rfl,fun _ _ _=>Zed.refl _⟩
theorem Stp.mono {B B':Nat} {S S':Nat→Prop} {w w':World} (h:Stp B S w w') (hB:B'≤B) (hS:∀ k,S k→S' k):Stp B' S' w w':=
 ⟨h.os,h.tape,h.output,h.size,fun k hk hs=>h.old k (Nat.lt_of_lt_of_le hk hB) fun x=>hs (hS k x),fun k hk hs=>h.cells k hk fun x=>hs (hS k x)⟩
theorem ZdL {B:Nat} {S:Nat→Prop} {w w':World} (h:Grow B w w'):Stp B S w w':=⟨h.os,h.tape,h.output,h.size,fun k hk _=>h.old k hk,fun k hk _=>h.cells k hk⟩
theorem Zlc {B:Nat} {S:Nat→Prop} {w w':World} (h:Mut S w w') (hB:B≤w.heap.size):Stp B S w w':=
 ⟨h.os,h.tape,h.output,h.size,fun k hk hs=>h.same k (Nat.lt_of_lt_of_le hk hB) hs,fun k hk hs=>by rw [h.same k hk hs];exact Zed.refl _⟩
structure Pok (r:Ref) (Ω:List Pe) (w:World):Prop where
 own:∀ k,Own Ω k→r.w.heap.size≤k∨r.S k
 ks:Pks (Pub r.A Ω) Ω w
 ap:ZfD Ω
theorem Pks.keep {A A':Nat→Prop} {Ω:List Pe} {w w':World} (h:Pks A Ω w) (k:Keep A A' w w') (hc:∀ j,j<w.heap.size→Own Ω j→Zed (w.heap[j]?) (w'.heap[j]?)):Pks A' Ω w':=fun e he hp=>by
 obtain ⟨cs,h1,h2⟩:=h e he hp;exact ⟨cs,h1.same (hc _ h1.lt ⟨e,he,hp,rfl⟩),e.C.keep k h2⟩
theorem Pok.grow {r:Ref} {Ω:List Pe} {B:Nat} {w w':World} (h:Pok r Ω w) (g:Grow B w w'):Pok r Ω w':=⟨h.own,h.ks.keep (Keep.grow g) fun j hj _=>g.cells j hj,h.ap⟩
theorem Pks.lt {A:Nat→Prop} {Ω:List Pe} {w:World} (h:Pks A Ω w) {k:Nat} (hk:Own Ω k):k<w.heap.size:=by
 obtain ⟨e,he,hp,rfl⟩:=hk;obtain ⟨cs,h1,-⟩:=h e he hp;exact h1.lt
theorem Pok.up {r:Ref} {Ω:List Pe} {w:World} (h:Pok r Ω w) (hs:r.w.heap.size≤w.heap.size):∀ k,w.heap.size≤k→Pub r.A Ω k:=fun k hk=>
 ZE.2 ⟨r.up k (Nat.le_trans hs hk),fun ho=>by have:=h.ks.lt ho;omega⟩
structure Stt (r:Ref) (n:Nat) (Γ:Env) (Ω:List Pe) (a:Act) (w:World):Prop where
 sz:a.tmps.size=n
 df:a.defers=r.ds
 mu:Mut r.S r.w w
 ty:∀ t,(Γ t).p (Pub r.A Ω) w (a.tmps.getD t undef)
 pv:Pok r Ω w
theorem Mut.stp {S T:Nat→Prop} {w0 w w':World} (h:Mut S w0 w) (k:Stp w0.heap.size T w w') (hT:∀ j,T j→w0.heap.size≤j∨S j):Mut S w0 w':=
 ⟨k.os.trans h.os,k.tape.trans h.tape,k.output.trans h.output,Nat.le_trans h.size k.size,fun j hj hs=>by
  rw [k.old j hj fun x=>by rcases hT j x with y | y;omega;exact hs y];exact h.same j hj hs⟩
structure Aft (B:Nat) (A0:Nat→Prop) (Ωs Ωt:List Pe) (τ:Ty) (Ωt':List Pe) (w w':World) (v:Value):Prop where
 st:Stp B (Own Ωt) w w'
 nw:∀ k,Own Ωt' k→Own Ωt k∨w.heap.size≤k
 ap:ZfD (Ωs++Ωt')
 ty:τ.p (Pub A0 (Ωs++Ωt')) w' v
 ks:Pks (Pub A0 (Ωs++Ωt')) Ωt' w'
section
variable (P:Program) (B:Nat)
def Zhm (A:Nat→Prop) (w:World) (τ:Ty):Result Next→Prop
 | .ok (.value v) w'=>Grow B w w'∧τ.p A w' v
 | .ok .skip w'=>Grow B w w'∧τ.p A w' undef
 | .ok (.enter f args) w'=>Grow B w w'∧Calls P f args w' fun e w''=>∃ v,e=.returned v∧Grow B w' w''∧τ.p A w'' v
 | _=>False
def Zfe (A0:Nat→Prop) (Ωs Ωt:List Pe) {ν:Type} (τ:ν→Ty) (Ωt':ν→List Pe) (w:World):Result Next→Prop
 | .ok (.value v) w'=>∃ g,Aft B A0 Ωs Ωt (τ g) (Ωt' g) w w' v
 | .ok .skip w'=>∃ g,Aft B A0 Ωs Ωt (τ g) (Ωt' g) w w' undef
 | .ok (.enter f args) w1=>Calls P f args w1 fun e w'=>∃ v g,e=.returned v∧Aft B A0 Ωs Ωt (τ g) (Ωt' g) w w' v
 | _=>False
def OpY (A:Nat→Prop) (Ω:List Pe) (Γ:Env) (o:Oper) (τ:Ty):Prop:=
 ∀ (a:Act) (w:World),B≤w.heap.size→(∀ k,w.heap.size≤k→A k)→Pks A Ω w→(∀ t,.tmp t∈o.op.operands.toList→(Γ t).p A w (a.tmps.getD t undef))→Zhm P B A w τ ((execOp a.eval o).run P w)
def OpG (ops:Array Oper) (Ω:List Pe) (Γ:Env) (o:Oper) (τ:Ty):Prop:=
 ∀ (A:Nat→Prop) (a:Act) (w:World),B≤w.heap.size→(∀ k,w.heap.size≤k→A k)→Pks A Ω w→(∀ t∈o.looksAt ops,(Γ t).p A w (a.tmps.getD t undef))→
  if Region.wanted o (yielded ops a.tmps) then Zhm P B A w τ ((execOp a.eval o).run P w) else τ.p A w undef
def OpT (Ωs Ωt:List Pe) (Γ:Env) (o:Oper) {ν:Type} (τ:ν→Ty) (Ωt':ν→List Pe):Prop:=
 o.guard=none∧∀ (A0:Nat→Prop) (a:Act) (w:World),B≤w.heap.size→(∀ k,w.heap.size≤k→A0 k)→(∀ k,Own Ωt k→A0 k)→ZfD (Ωs++Ωt)→Pks (Pub A0 (Ωs++Ωt)) (Ωs++Ωt) w→
  (∀ t,.tmp t∈o.op.operands.toList→(Γ t).p (Pub A0 (Ωs++Ωt)) w (a.tmps.getD t undef))→Zfe P B A0 Ωs Ωt τ Ωt' w ((execOp a.eval o).run P w)
end
end Go.Proofs.YtkmojgfenlgchaaGreatDoor.Tr
namespace Go.Proofs.YtkmojgfenlgchaaGreatDoor.Tr
open Go Go.RowKit
def Env.or (Θ Γ:Env):Env:=fun t=>⟨fun A w v=>(Θ t).p A w v∧(Γ t).p A w v,fun k h=>⟨(Θ t).keep k h.1,(Γ t).keep k h.2⟩⟩
structure Fam where
 ν:Type
 Θ:ν→Env
 Ω:ν→List Pe
 tl:List Tmp
 off:∀ g t,t∉tl→Θ g t=Ty.any
def Fam.next (F:Fam) (d:Option Tmp) {μ:F.ν→Type} (τ:(g:F.ν)→μ g→Ty) (Ω':(g:F.ν)→μ g→List Pe):Fam where
 ν:=(g:F.ν)×μ g
 Θ:=fun g=>(F.Θ g.1).put d (τ g.1 g.2)
 Ω:=fun g=>Ω' g.1 g.2
 tl:=d.toList++F.tl
 off g t ht:=by
  have h1:t∉F.tl:=fun h=>ht (List.mem_append_right _ h)
  have h2:d≠some t:=fun h=>ht (List.mem_append_left _ (by rw [h];simp))
  cases d with
  | none=>exact F.off _ _ h1
  | some d=>
   have hne:t≠d:=fun e=>h2 (by rw [e])
   simp only [Env.put,Env.set,hne,if_false];exact F.off _ _ h1
section
variable (P:Program) (B:Nat) (Ωs:List Pe) (ops:Array Oper) (n:Nat) (ms:List Nat)
def strip (o:Oper):Oper:={ o with guard:=none }
def OpF (Γ:Env) (F:Fam) (o:Oper) {μ:F.ν→Type} (τ:(g:F.ν)→μ g→Ty) (Ω':(g:F.ν)→μ g→List Pe):Prop:=
 ∀ g,(∀ (A:Nat→Prop) (a:Act) (w:World),(∀ t∈o.looksAt ops,(Γ t).p A w (a.tmps.getD t undef))→Region.wanted o (yielded ops a.tmps)=true)∧OpT P B Ωs (F.Ω g) (Env.or (F.Θ g) Γ) (strip o) (τ g) (Ω' g)
def TRw:Nat→List Oper→Env→Fam→(Env→Fam→Prop)→Prop
  | _,[],Γ,F,K=>K Γ F
  | k,o::rest,Γ,F,K=>(∀ t,o.dst=some t→t<n)∧
      ((k∉ms∧(∀ t,o.dst=some t→t∉F.tl)∧∃ τ,OpG P B ops Ωs Γ o τ∧TRw (k+1) rest (Γ.put o.dst τ) F K)∨
       (k∈ms∧∃ (μ:F.ν→Type) (τ:(g:F.ν)→μ g→Ty) (Ω':(g:F.ν)→μ g→List Pe),OpF P B Ωs ops Γ F o τ Ω'∧TRw (k+1) rest (Γ.put o.dst Ty.any) (F.next o.dst τ Ω') K))
def tOp (i:Nat) (K:Env→Fam→Prop) (Γ:Env) (F:Fam):Prop:=
  match ops[i]? with
  | none=>K Γ F
  | some o=>(∀ t,o.dst=some t→t<n)∧
      ((i∉ms∧(∀ t,o.dst=some t→t∉F.tl)∧∃ τ,OpG P B ops Ωs Γ o τ∧K (Γ.put o.dst τ) F)∨
       (i∈ms∧∃ (μ:F.ν→Type) (τ:(g:F.ν)→μ g→Ty) (Ω':(g:F.ν)→μ g→List Pe),OpF P B Ωs ops Γ F o τ Ω'∧K (Γ.put o.dst Ty.any) (F.next o.dst τ Ω')))
def TAny (md:Region.Mode) (K:Env→Fam→Prop):Nat→Array Bool→Env→Fam→Prop
 | 0,listed,Γ,F=>Region.ready md ops listed=[]∧K Γ F
 | fuel+1,listed,Γ,F=>
  (Region.ready md ops listed=[]→K Γ F)∧
  ∀ i∈Region.ready md ops listed,tOp P B Ωs ops n ms i (TAny md K fuel (listed.setIfInBounds i true)) Γ F
end
section any
variable {P:Program} {B:Nat} {Ωs:List Pe} {ops:Array Oper} {n:Nat} {ms:List Nat} {md:Region.Mode}
theorem OpG.congr {Γ Γ':Env} {o:Oper} {τ:Ty} (h:OpG P B ops Ωs Γ o τ) (he:∀ t∈o.looksAt ops,Γ' t=Γ t):OpG P B ops Ωs Γ' o τ:=
 fun A a w hB hu hp hl=>h A a w hB hu hp fun t ht=>by have:=hl t ht;rwa [he t ht] at this
theorem Zhb {o:Oper} {t:Tmp} (h:.tmp t∈o.op.operands.toList):t∈o.looksAt ops:=by
 unfold Oper.looksAt;refine List.mem_append.2 (.inl ?_);exact List.mem_filterMap.2 ⟨.tmp t,h,rfl⟩
theorem OpF.of {Γ:Env} {F:Fam} {o:Oper} {μ:F.ν→Type} {τ:(g:F.ν)→μ g→Ty} {Ω':(g:F.ν)→μ g→List Pe} (h:∀ g,OpT P B Ωs (F.Ω g) (Env.or (F.Θ g) Γ) o (τ g) (Ω' g)):OpF P B Ωs ops Γ F o τ Ω':=
 fun g=>⟨fun A a w _=>by simp [Region.wanted,(h g).1],by
  have e:strip o=o:=by
   have h1:=(h g).1;cases o;simp only at h1;subst h1;rfl
  rw [e];exact h g⟩
theorem exec_strip (e:Operand→Value) (o:Oper):execOp e (strip o)=execOp e o:=by cases o;rfl
theorem OpF.congr {Γ Γ':Env} {F:Fam} {o:Oper} {μ:F.ν→Type} {τ:(g:F.ν)→μ g→Ty} {Ω':(g:F.ν)→μ g→List Pe} (h:OpF P B Ωs ops Γ F o τ Ω') (he:∀ t∈o.looksAt ops,Γ' t=Γ t):OpF P B Ωs ops Γ' F o τ Ω':=
 fun g=>⟨fun A a w hl=>(h g).1 A a w fun t ht=>by have:=hl t ht;rwa [he t ht] at this,(h g).2.1,fun A0 a w hB hu ho ha hp hl=>(h g).2.2 A0 a w hB hu ho ha hp fun t ht=>by
  have h2:=hl t ht;exact ⟨h2.1,by have:=h2.2;rwa [he t (Zhb ht)] at this⟩⟩
theorem tOp_mono {i:Nat} {Γ:Env} {F:Fam} {K K':Env→Fam→Prop} (h:∀ Γ F,K Γ F→K' Γ F) (hh:tOp P B Ωs ops n ms i K Γ F):tOp P B Ωs ops n ms i K' Γ F:=by
 unfold tOp at *
 split
 ·rename_i ho;simp only [ho] at hh;exact h _ _ hh
 ·rename_i o ho
  simp only [ho] at hh;obtain ⟨h1,hh⟩:=hh;refine ⟨h1,?_⟩;rcases hh with ⟨h2,h2',τ,h3,h4⟩ | ⟨h2,μ,τ,Ω',h3,h4⟩
  ·exact .inl ⟨h2,h2',τ,h3,h _ _ h4⟩
  ·exact .inr ⟨h2,μ,τ,Ω',h3,h _ _ h4⟩
theorem ZgM (Γ:Env) {x y:Option Tmp} (τ σ:Ty) (h:∀ d,x=some d→y≠some d):(Γ.put x τ).put y σ=(Γ.put y σ).put x τ:=by
 cases x with
 | none=>rfl
 | some d=>
  cases y with
  | none=>rfl
  | some e=>
   have hne:d≠e:=fun he=>h d rfl (he▸rfl)
   funext t
   simp only [Env.put,Env.set]
   by_cases h1:t=e
   ·subst h1;simp [Ne.symm hne]
   ·simp [h1]
theorem Zci (Γ:Env) {x:Option Tmp} (τ:Ty) {t:Tmp} (h:x≠some t):Γ.put x τ t=Γ t:=by
 cases x with
 | none=>rfl
 | some d=>simp only [Env.put,Env.set];rw [if_neg (fun e=>h (by rw [e]))]
theorem tOp_putG {j:Nat} {oi oj:Oper} {τi:Ty} (hj:ops[j]?=some oj) (hap:oi.apart ops oj=true) {K:Env→Fam→Prop} {Γ:Env} {F:Fam}
  (hoff:∀ t,oi.dst=some t→t∉F.tl)
  (hy:OpG P B ops Ωs Γ oi τi) (h:tOp P B Ωs ops n ms j K (Γ.put oi.dst τi) F) :
  tOp P B Ωs ops n ms j (fun Γ' F'=>(∀ t,oi.dst=some t→t∉F'.tl)∧OpG P B ops Ωs Γ' oi τi∧K (Γ'.put oi.dst τi) F') Γ F:=by
 obtain ⟨h1,h2,h3⟩:=Oper.apart_spec hap;unfold tOp at *;simp only [hj] at *;obtain ⟨hd,h⟩:=h;refine ⟨hd,?_⟩;rcases h with ⟨hm,hof,τ,ho,hK⟩ | ⟨hm,μ,τ,Ω',ho,hK⟩
 ·refine .inl ⟨hm,hof,τ,ho.congr fun t ht=>(Zci _ _ fun e=>h1 t e ht).symm,hoff,hy.congr fun t ht=>Zci _ _ fun e=>h3 t e ht,?_⟩;rw [← ZgM Γ τi τ h2];exact hK
 ·refine .inr ⟨hm,μ,τ,Ω',ho.congr (ops:=ops) fun t ht=>(Zci _ _ fun e=>h1 t e ht).symm,fun t ht hx=>?_,hy.congr fun t ht=>Zci _ _ fun e=>h3 t e ht,?_⟩
  ·rcases List.mem_append.1 hx with hx | hx
   ·exact h2 t ht (by simpa using hx)
   ·exact hoff t ht hx
  ·rw [← ZgM Γ τi Ty.any h2];exact hK
theorem tOp_putT {j:Nat} {oi oj:Oper} (hj:ops[j]?=some oj) (hjm:j∉ms) (hap:oi.apart ops oj=true) {K:Env→Fam→Prop} {Γ:Env} {F:Fam} {μi:F.ν→Type} {τi:(g:F.ν)→μi g→Ty} {Ωi:(g:F.ν)→μi g→List Pe}
  (hy:OpF P B Ωs ops Γ F oi τi Ωi) (h:tOp P B Ωs ops n ms j K (Γ.put oi.dst Ty.any) (F.next oi.dst τi Ωi)) :
  tOp P B Ωs ops n ms j (fun Γ' F'=>∃ (μi:F'.ν→Type) (τi:(g:F'.ν)→μi g→Ty) (Ωi:(g:F'.ν)→μi g→List Pe),OpF P B Ωs ops Γ' F' oi τi Ωi∧K (Γ'.put oi.dst Ty.any) (F'.next oi.dst τi Ωi)) Γ F:=by
 obtain ⟨h1,h2,h3⟩:=Oper.apart_spec hap;unfold tOp at *;simp only [hj] at *;obtain ⟨hd,h⟩:=h;refine ⟨hd,?_⟩;rcases h with ⟨hm,hof,τ,ho,hK⟩ | ⟨hm,_⟩
 ·refine .inl ⟨hm,fun t ht hx=>hof t ht (List.mem_append_right _ hx),τ,ho.congr fun t ht=>(Zci _ _ fun e=>h1 t e ht).symm,μi,τi,Ωi,hy.congr (ops:=ops) fun t ht=>Zci _ _ fun e=>h3 t e ht,?_⟩;rw [← ZgM Γ Ty.any τ h2];exact hK
 ·exact absurd hm hjm
def Next1 (md:Region.Mode) (ops:Array Oper) (ms:List Nat) (i:Nat) (listed:Array Bool):Prop:=
 i∈ms→∀ t∈ms,t≠i→listed.getD t true=true∨∃ i'∈ms,listed.getD i' true=false∧∀ ot,ops[t]?=some ot→∃ e∈ot.after,Region.binds md e=true∧e.on=i'
theorem Next1.not {i j:Nat} {listed:Array Bool} (h:Next1 md ops ms i listed) (hi:i∈ms) (hji:j≠i) (hj:j∈Region.ready md ops listed):j∉ms:=fun hm=>by
 obtain ⟨hjun,oj,hoj,hall⟩:=mem_ready.1 hj;rcases h hi j hm hji with h1 | ⟨i',hi',hun,he⟩
 ·rw [h1] at hjun;cases hjun
 ·obtain ⟨e,he1,he2,he3⟩:=he oj hoj;have h2:=hall e he1 he2;rw [he3] at h2;rcases Nat.lt_or_ge i' listed.size with h' | h'
  ·simp [h'] at hun h2;rw [hun] at h2;cases h2
  ·simp [Array.getElem?_eq_none h'] at h2
theorem Next1.set {i j:Nat} {listed:Array Bool} (h:Next1 md ops ms i listed) (hj:j∉ms):Next1 md ops ms i (listed.setIfInBounds j true):=fun hi t ht hti=>by
 rcases h hi t ht hti with h1 | ⟨i',hi',hun,he⟩
 ·left
  by_cases hjt:j=t
  ·subst hjt;exact absurd ht hj
  ·rw [getD_set_ne true hjt];exact h1
 ·right
  exact ⟨i',hi',by rw [getD_set_ne true (fun e=>hj (by rw [e];exact hi'))];exact hun,he⟩
theorem Next1.off {i:Nat} {listed:Array Bool} (h:i∉ms):Next1 md ops ms i listed:=fun hi=>absurd hi h
def FirstG (P:Program) (B:Nat) (Ωs:List Pe) (ops:Array Oper) (oi:Oper) (K:Env→Fam→Prop) (Γ:Env) (F:Fam):Prop:=
 (∀ t,oi.dst=some t→t∉F.tl)∧∃ τ,OpG P B ops Ωs Γ oi τ∧K (Γ.put oi.dst τ) F
def FirstT (P:Program) (B:Nat) (Ωs:List Pe) (ops:Array Oper) (oi:Oper) (K:Env→Fam→Prop) (Γ:Env) (F:Fam):Prop:=
 ∃ (μ:F.ν→Type) (τ:(g:F.ν)→μ g→Ty) (Ω':(g:F.ν)→μ g→List Pe),OpF P B Ωs ops Γ F oi τ Ω'∧K (Γ.put oi.dst Ty.any) (F.next oi.dst τ Ω')
theorem TAny_first {K:Env→Fam→Prop} {i:Nat} {oi:Oper} (hi:ops[i]?=some oi) (hdi:∀ t,oi.dst=some t→t<n) :
  ∀ (fuel:Nat) (listed:Array Bool) (Γ:Env) (F:Fam),
   (∀ j oj,ops[j]?=some oj→j≠i→listed.getD j true=false→(∀ e∈oj.after,Region.binds md e=true→e.on≠i)→oi.apart ops oj=true)→
   Next1 md ops ms i listed→
   i∈Region.ready md ops listed→(i∉ms∧FirstG P B Ωs ops oi (TAny P B Ωs ops n ms md K fuel (listed.setIfInBounds i true)) Γ F∨
    i∈ms∧FirstT P B Ωs ops oi (TAny P B Ωs ops n ms md K fuel (listed.setIfInBounds i true)) Γ F)→TAny P B Ωs ops n ms md K (fuel+1) listed Γ F:=by
 intro fuel
 induction fuel with
 | zero=>
  intro listed Γ F _ hn hr hy;refine ⟨fun h=>(by rw [h] at hr;cases hr),fun j hj=>?_⟩
  by_cases hji:j=i
  ·subst hji;unfold tOp;simp only [hi];refine ⟨hdi,?_⟩;rcases hy with ⟨hm,ho,τ,hy,H⟩ | ⟨hm,μ,τ,Ω',hy,H⟩
   ·exact .inl ⟨hm,ho,τ,hy,H⟩
   ·exact .inr ⟨hm,μ,τ,Ω',hy,H⟩
  ·have:=ready_mono hj hji;rcases hy with ⟨hm,ho,τ,hy,H⟩ | ⟨hm,μ,τ,Ω',hy,H⟩ <;> rw [H.1] at this <;> cases this
 | succ fuel ih=>
  intro listed Γ F hfree hn hr hy;refine ⟨fun h=>(by rw [h] at hr;cases hr),fun j hj=>?_⟩
  by_cases hji:j=i
  ·subst hji;unfold tOp;simp only [hi];refine ⟨hdi,?_⟩;rcases hy with ⟨hm,ho,τ,hy,H⟩ | ⟨hm,μ,τ,Ω',hy,H⟩
   ·exact .inl ⟨hm,ho,τ,hy,H⟩
   ·exact .inr ⟨hm,μ,τ,Ω',hy,H⟩
  ·obtain ⟨hjun,oj,hoj,hall⟩:=mem_ready.1 hj;have hnot:∀ e∈oj.after,Region.binds md e=true→e.on≠i:=fun e he hb heq=>by
    have h1:=hall e he hb;have h0:=(mem_ready.1 hr).1;rw [heq] at h1;rcases Nat.lt_or_ge i listed.size with h' | h'
    ·simp [h'] at h0 h1;rw [h0] at h1;cases h1
    ·simp [Array.getElem?_eq_none h'] at h1
   have hap:=hfree j oj hoj hji hjun hnot;have hfree':∀ k ok,ops[k]?=some ok→k≠i→(listed.setIfInBounds j true).getD k true=false→
     (∀ e∈ok.after,Region.binds md e=true→e.on≠i)→oi.apart ops ok=true:=fun k ok hk hki hun hno=>by
    refine hfree k ok hk hki ?_ hno
    by_cases hjk:j=k
    ·subst hjk;exact hjun
    ·rw [getD_set_ne true hjk] at hun;exact hun
   rcases hy with ⟨hm,ho,τ,hy,H⟩ | ⟨hm,μ,τ,Ω',hy,H⟩
   ·have h1:=H.2 j (ready_mono hj hji);refine tOp_mono (fun Γ' F' h3=>ih (listed.setIfInBounds j true) Γ' F' hfree' (Next1.off hm) (ready_mono hr (Ne.symm hji)) (.inl ⟨hm,h3.1,τ,h3.2.1,?_⟩)) (tOp_putG hoj hap ho hy h1);rw [Array.setIfInBounds_comm _ _ hji];exact h3.2.2
   ·have h1:=H.2 j (ready_mono hj hji);have hjm:=hn.not hm hji hj;refine tOp_mono (fun Γ' F' h3=>ih (listed.setIfInBounds j true) Γ' F' hfree' (hn.set hjm) (ready_mono hr (Ne.symm hji)) (.inr ⟨hm,?_⟩)) (tOp_putT hoj hjm hap hy h1);rw [Array.setIfInBounds_comm _ _ hji];exact h3
def Zix (md:Region.Mode) (ops:Array Oper):List Nat→Bool
 | p::q::r=>decide (p<q)&&((ops[q]?).all fun o=>o.after.any fun e=>Region.binds md e&&e.on == p)&&Zix md ops (q::r)
 | _=>true
theorem ZmJ:∀ (l:List Nat),Zix md ops l=true→(∀ t∈l,l.headD 0≤t)∧∀ i∈l,∀ t∈l,i<t→∃ i'∈l,i≤i'∧i' < t∧∀ ot,ops[t]?=some ot→∃ e∈ot.after,Region.binds md e=true∧e.on=i'
 | [],_=>⟨fun t h=>by simp at h,fun i h=>by simp at h⟩
 | [p],_=>⟨fun t h=>by simp at h;simp [h],fun i hi t ht hlt=>by simp at hi ht;omega⟩
 | p::q::r,h=>by
  simp only [Zix,Bool.and_eq_true,decide_eq_true_eq] at h;obtain ⟨⟨h1,h2⟩,h3⟩:=h;obtain ⟨g1,g2⟩:=ZmJ (q::r) h3;have hge:∀ t∈q::r,q≤t:=fun t ht=>by simpa using g1 t ht
  refine ⟨fun t ht=>?_,fun i hi t ht hlt=>?_⟩
  ·rcases List.mem_cons.1 ht with rfl | ht1
   ·simp
   ·have:=hge t ht1;simp;omega
  ·rcases List.mem_cons.1 ht with rfl | ht1
   ·rcases List.mem_cons.1 hi with rfl | hi1
    ·omega
    ·have:=hge i hi1;omega
   ·rcases List.mem_cons.1 hi with rfl | hi1
    ·by_cases hq:t=q
     ·subst hq;refine ⟨i,by simp,Nat.le_refl _,h1,fun ot hot=>?_⟩;rw [hot] at h2;simp only [Option.all_some] at h2;obtain ⟨j,hj,he⟩:=Array.any_eq_true.1 h2;simp only [Bool.and_eq_true,beq_iff_eq] at he;exact ⟨_,Array.getElem_mem hj,he.1,he.2⟩
     ·have:=hge t ht1;obtain ⟨i',k1,k2,k3,k4⟩:=g2 q (by simp) t ht1 (by omega);exact ⟨i',List.mem_cons_of_mem _ k1,by omega,k3,k4⟩
    ·obtain ⟨i',k1,k2,k3,k4⟩:=g2 i hi1 t ht1 hlt;exact ⟨i',List.mem_cons_of_mem _ k1,k2,k3,k4⟩
theorem Zl5 (hc:Zix md ops ms=true) {K:Env→Fam→Prop}:∀ (l:List Oper) (k:Nat) (listed:Array Bool) (Γ:Env) (F:Fam),(∀ j,l[j]?=ops[k+j]?)→listed.size=ops.size→(∀ t,t<ops.size→listed.getD t true=decide (t<k))→
  Region.lexFrom md ops l.length k listed=true→TRw P B Ωs ops n ms k l Γ F K→TAny P B Ωs ops n ms md K l.length listed Γ F
 | [],_,_,_,_,_,_,_,hB,h=>⟨by simpa [Region.lexFrom] using hB,h⟩
 | o::l,k,listed,Γ,F,hl,hz,ht,hB,h=>by
  have h0:ops[k]?=some o:=by simpa using (hl 0).symm
  have hk:k<ops.size:=(Array.getElem?_eq_some_iff.1 h0).1;simp only [List.length_cons,Region.lexFrom,Bool.and_eq_true] at hB;obtain ⟨⟨hr,hf⟩,hB'⟩:=hB;obtain ⟨hd,h⟩:=h;have hn:Next1 md ops ms k listed:=fun hk' t htm htk=>by
   by_cases hts:t<ops.size
   ·rcases Nat.lt_or_ge t k with h1 | h1
    ·left;rw [ht t hts];simpa using h1
    ·right
     obtain ⟨i',k1,k2,k3,k4⟩:=(ZmJ ms hc).2 k hk' t htm (by omega);exact ⟨i',k1,by rw [ht i' (by omega)];simpa using k2,k4⟩
   ·left
    rw [Array.getD_eq_getD_getElem?,Array.getElem?_eq_none (by omega)];rfl
  have ih:=fun Γ' F' hK=>Zl5 hc (K:=K) l (k+1) (listed.setIfInBounds k true) Γ' F' (fun j=>by have:=hl (j+1);simpa [Nat.add_assoc,Nat.add_comm 1 j] using this) (by simpa using hz) (fun t hts=>by
   by_cases h1:k=t
   ·subst h1;have:k<listed.size:=by omega
    simp [this]
   ·rw [getD_set_ne true h1,ht t hts,decide_eq_decide];omega) hB' hK
  rcases h with ⟨hm,ho,τ,hy,hK⟩ | ⟨hm,μ,τ,Ω',hy,hK⟩
  ·exact TAny_first h0 hd l.length listed Γ F (Region.free_spec h0 hf) hn (by simpa using hr) (.inl ⟨hm,ho,τ,hy,ih _ _ hK⟩)
  ·exact TAny_first h0 hd l.length listed Γ F (Region.free_spec h0 hf) hn (by simpa using hr) (.inr ⟨hm,μ,τ,Ω',hy,ih _ _ hK⟩)
end any
end Go.Proofs.YtkmojgfenlgchaaGreatDoor.Tr
namespace Go.Proofs.YtkmojgfenlgchaaGreatDoor.Tr
open Go Go.RowKit
def FR (ρ:Option Nat):Fence:={ fn:=fun _=>True,depth:=none,alive:=false,round:=ρ }
theorem callsIn_FR {ρ:Option Nat} {n:Nat} {P:Program} {f:FuncId} {args:Array Value} {w:World} {R:Ending→World→Prop}:CallsIn (FR ρ) n P f args w R↔Calls P f args w R:=callsIn_wide (n:=n)
theorem Zml {ρ:Operand→Value} {o:Oper} {c:Call} {P:Program} {w:World} (hc:o.op=.defer c):(∃ d w',(execOp ρ o).run P w=.ok (.defer d) w')∨(∃ h w',(execOp ρ o).run P w=.halt h w'):=by
 have e:execOp ρ o=(do pure (.defer (← resolve ρ c o.type))):=by unfold execOp;rw [hc]
 rw [e,Sem.run_bind];cases (resolve ρ c o.type).run P w with
 | ok d w'=>exact .inl ⟨d,w',rfl⟩
 | halt h w'=>exact .inr ⟨h,w',rfl⟩
theorem FR_depth {ρ:Option Nat} {m:Nat}:(FR ρ).depth.isSome=true→1≤m:=fun h=>by cases h
theorem ZP {Ω Ω':List Pe} {k:Nat}:Own (Ω++Ω') k↔Own Ω k∨Own Ω' k:=by
 unfold Own
 constructor
 ·rintro ⟨e,he,h⟩;rcases List.mem_append.1 he with he | he
  ·exact .inl ⟨e,he,h⟩
  ·exact .inr ⟨e,he,h⟩
 ·rintro (⟨e,he,h⟩ | ⟨e,he,h⟩)
  ·exact ⟨e,List.mem_append_left _ he,h⟩
  ·exact ⟨e,List.mem_append_right _ he,h⟩
theorem Zbn {A:Nat→Prop} {Ω Ω':List Pe} {w:World}:Pks A (Ω++Ω') w↔Pks A Ω w∧Pks A Ω' w:=
 ⟨fun h=>⟨fun e he=>h e (List.mem_append_left _ he),fun e he=>h e (List.mem_append_right _ he)⟩,fun h e he=>by
  rcases List.mem_append.1 he with he | he
  ·exact h.1 e he
  ·exact h.2 e he⟩
theorem tmps_put {Γ:Env} {n:Nat} {a:Act} {A:Nat→Prop} {w':World} {d:Option Tmp} {v:Value} {τ:Ty} (hz:a.tmps.size=n) (hd:∀ t,d=some t→t<n) (ht:∀ t,(Γ t).p A w' (a.tmps.getD t undef)) (hv:τ.p A w' v) :
  (a.put d v).tmps.size=n∧(a.put d v).defers=a.defers∧∀ t,((Γ.put d τ) t).p A w' ((a.put d v).tmps.getD t undef):=by
 cases d with
 | none=>exact ⟨hz,rfl,ht⟩
 | some d=>
  refine ⟨by simpa [Act.put] using hz,rfl,fun t=>?_⟩;have hlt:d<a.tmps.size:=by rw [hz];exact hd d rfl
  simp only [Env.put,Env.set,Act.put]
  split
  ·rename_i e;subst e
   rw [Array.getD_eq_getD_getElem?,Array.getElem?_setIfInBounds_self_of_lt hlt];exact hv
  ·rename_i e
   rw [Array.getD_eq_getD_getElem?,Array.getElem?_setIfInBounds_ne (fun x=>e x.symm),← Array.getD_eq_getD_getElem?];exact ht t
theorem Stt.put {r:Ref} {n:Nat} {Γ:Env} {Ω:List Pe} {a:Act} {w w':World} {d:Option Tmp} {v:Value} {τ:Ty} (h:Stt r n Γ Ω a w) (hd:∀ t,d=some t→t<n) (g:Grow r.w.heap.size w w') (hv:τ.p (Pub r.A Ω) w' v):Stt r n (Γ.put d τ) Ω (a.put d v) w':=by
 obtain ⟨h1,h2,h3⟩:=tmps_put h.sz hd (fun t=>(Γ t).st g (h.ty t)) hv;exact ⟨h1,h2.trans h.df,h.mu.stp (ZdL (S:=fun _=>False) g) (fun j hj=>hj.elim),h3,h.pv.grow g⟩
theorem Stt.up {r:Ref} {n:Nat} {Γ:Env} {Ω:List Pe} {a:Act} {w:World} (h:Stt r n Γ Ω a w):∀ k,w.heap.size≤k→Pub r.A Ω k:=h.pv.up h.mu.size
theorem Zgw {P:Program} {B:Nat} {A:Nat→Prop} {o:Oper} {a:Act} {w:World} {τ:Ty} {K:Act→World→Prop} {Q:Exit→Act→World→Prop}
  (h:Zhm P B A w τ ((execOp a.eval o).run P w)) (hk:∀ v w',Grow B w w'→τ.p A w' v→K (a.put o.dst v) w') {ρ:Option Nat}:o.wpIn (FR ρ) 0 P a w K Q:=by
 have hn:∀ c,o.op≠.defer c:=fun c hc=>by rcases Zml (ρ:=a.eval) (P:=P) (w:=w) hc with ⟨d,w',e⟩ | ⟨x,w',e⟩ <;> rw [e] at h <;> exact h
 refine ⟨fun _ _=>trivial,?_⟩;rw [Oper.semAt_eq _ _ _ hn];generalize (execOp a.eval o).run P w=r at *;cases r with
 | ok x w'=>
  cases x <;> simp only [Zhm] at h <;> simp only [Oper.uponIn]
  case value v=>exact hk _ _ h.1 h.2
  case skip=>exact hk _ _ h.1 h.2
  case enter f args=>
   obtain ⟨h1,h2⟩:=h;refine ⟨FR_depth,callsIn_FR.2 (h2.mono fun e w'' ⟨v,he,h3,h4⟩=>?_)⟩;subst he;exact hk _ _ (h1.trans h3) h4
 | halt x w'=>simp only [Zhm] at h
theorem Zdj {P:Program} {B:Nat} {A0:Nat→Prop} {Ωs Ωt:List Pe} {ν:Type} {τ:ν→Ty} {Ω':ν→List Pe} {o:Oper} {a:Act} {w:World} {K:Act→World→Prop} {Q:Exit→Act→World→Prop}
  (h:Zfe P B A0 Ωs Ωt τ Ω' w ((execOp a.eval o).run P w)) (hk:∀ g v w',Aft B A0 Ωs Ωt (τ g) (Ω' g) w w' v→K (a.put o.dst v) w') {ρ:Option Nat}:o.wpIn (FR ρ) 0 P a w K Q:=by
 have hn:∀ c,o.op≠.defer c:=fun c hc=>by rcases Zml (ρ:=a.eval) (P:=P) (w:=w) hc with ⟨d,w',e⟩ | ⟨x,w',e⟩ <;> rw [e] at h <;> exact h
 refine ⟨fun _ _=>trivial,?_⟩;rw [Oper.semAt_eq _ _ _ hn];generalize (execOp a.eval o).run P w=r at *;cases r with
 | ok x w'=>
  cases x <;> simp only [Zfe] at h <;> simp only [Oper.uponIn]
  case value v=>obtain ⟨g,h⟩:=h;exact hk _ _ _ h
  case skip=>obtain ⟨g,h⟩:=h;exact hk _ _ _ h
  case enter f args=>
   refine ⟨FR_depth,callsIn_FR.2 (h.mono fun e w'' ⟨v,g,he,h3⟩=>?_)⟩;subst he;exact hk _ _ _ h3
 | halt x w'=>simp only [Zfe] at h
theorem Stt.T {r:Ref} {n:Nat} {Γ:Env} {Ωs Ωt Ωt':List Pe} {a:Act} {w w':World} {d:Option Tmp} {v:Value} {τ:Ty} (h:Stt r n Γ (Ωs++Ωt) a w) (hd:∀ t,d=some t→t<n)
  (k:Aft r.w.heap.size r.A Ωs Ωt τ Ωt' w w' v):Stt r n (Γ.put d τ) (Ωs++Ωt') (a.put d v) w':=by
 have hkp:Keep (Pub r.A (Ωs++Ωt)) (Pub r.A (Ωs++Ωt')) w w':=by
  refine ⟨k.st.size,fun j hj hp=>?_⟩;obtain ⟨h1,h2⟩:=ZE.1 hp;refine ⟨ZE.2 ⟨h1,fun ho=>?_⟩,k.st.cells j hj fun ho=>h2 (ZP.2 (.inr ho))⟩;rcases ZP.1 ho with ho | ho
  ·exact h2 (ZP.2 (.inl ho))
  ·rcases k.nw j ho with ho | ho
   ·exact h2 (ZP.2 (.inr ho))
   ·omega
 obtain ⟨h1,h2,h3⟩:=tmps_put (d:=d) h.sz hd (fun t=>(Γ t).keep hkp (h.ty t)) k.ty;refine ⟨h1,h2.trans h.df,h.mu.stp k.st fun j hj=>h.pv.own j (ZP.2 (.inr hj)),h3,⟨fun j hj=>?_,Zbn.2 ⟨(Zbn.1 h.pv.ks).1.keep hkp fun j hj ho=>k.st.cells j hj fun ho2=>?_,k.ks⟩,k.ap⟩⟩
 ·rcases ZP.1 hj with hj | hj
  ·exact h.pv.own j (ZP.2 (.inl hj))
  ·rcases k.nw j hj with ho | ho
   ·exact h.pv.own j (ZP.2 (.inr ho))
   ·exact .inl (Nat.le_trans h.mu.size ho)
 ·obtain ⟨e,he,hp,hb⟩:=ho;obtain ⟨f,hf,hq,hbf⟩:=ho2;exact (List.pairwise_append.1 h.pv.ap).2.2 e he f hf hp hq (hb.trans hbf.symm)
class Opens (r:Ref):Prop where
 h:∀ k,r.w.heap.size≤k∨r.S k→r.A k
theorem Stt.opT {P:Program} {r:Ref} {n:Nat} {Γ:Env} {Ωs Ωt:List Pe} {a:Act} {w:World} [op:Opens r] {o:Oper} {ν:Type} {τ:ν→Ty} {Ω':ν→List Pe} {Γ':Env} (h:Stt r n Γ (Ωs++Ωt) a w)
  (hΓ:∀ t,(Γ' t).p (Pub r.A (Ωs++Ωt)) w (a.tmps.getD t undef)) (ho:OpT P r.w.heap.size Ωs Ωt Γ' o τ Ω'):Zfe P r.w.heap.size r.A Ωs Ωt τ Ω' w ((execOp a.eval o).run P w):=
 ho.2 r.A a w h.mu.size (fun k hk=>r.up k (Nat.le_trans h.mu.size hk)) (fun k hk=>op.h k (h.pv.own k (ZP.2 (.inr hk)))) h.pv.ap h.pv.ks fun t _=>hΓ t
section reg
variable {P:Program} {r:Ref} {n:Nat} {Ωs:List Pe} {ops:Array Oper} {ms:List Nat} {md:Region.Mode}
def RSt (r:Ref) (n:Nat) (Ωs:List Pe) (Γ:Env) (F:Fam) (a:Act) (w:World):Prop:=∃ g,Stt r n (Env.or (F.Θ g) Γ) (Ωs++F.Ω g) a w
theorem Zl9 [op:Opens r] {i:Nat} {Γ:Env} {F:Fam} {K:Env→Fam→Prop} {K':Act→World→Prop} {Q':Exit→Act→World→Prop} {a:Act} {w:World} (ha:RSt r n Ωs Γ F a w)
  (h:∀ Γ' F' a' w',RSt r n Ωs Γ' F' a' w'→K Γ' F'→K' a' w') (hh:tOp P r.w.heap.size Ωs ops n ms i K Γ F):wpOpIn (FR r.ρ) 0 P ops Q' i K' a w:=by
 unfold tOp at hh;unfold wpOpIn
 split
 ·rename_i ho;simp only [ho] at hh;exact h _ _ _ _ ha hh
 ·rename_i o ho
  simp only [ho] at hh;obtain ⟨hd,hh⟩:=hh;obtain ⟨g,ha⟩:=ha;rcases hh with ⟨hm,hof,τ,hy,hK⟩ | ⟨hm,μ,τ,Ω',hy,hK⟩
  ·have hy:=hy (Pub r.A (Ωs++F.Ω g)) a w ha.mu.size ha.up (Zbn.1 ha.pv.ks).1 fun t _=>(ha.ty t).2
   have next:∀ v w',Grow r.w.heap.size w w'→τ.p (Pub r.A (Ωs++F.Ω g)) w' v→RSt r n Ωs (Γ.put o.dst τ) F (a.put o.dst v) w':=fun v w' hg hv=>by
    have hst:=ha.put (d:=o.dst) (τ:=τ) hd hg hv;refine ⟨g,hst.sz,hst.df,hst.mu,fun t=>?_,hst.pv⟩;have ht:=hst.ty t;cases hdst:o.dst with
    | none=>rw [hdst] at ht;exact ht
    | some d=>
     rw [hdst] at ht;simp only [Env.put,Env.set,Env.or] at ht ⊢
     by_cases htd:t=d
     ·subst htd;simp only [if_true] at ht ⊢;rw [F.off g t (hof t hdst)];exact ⟨trivial,ht⟩
     ·simp only [htd,if_false] at ht ⊢;exact ht
   split
   ·rename_i hw
    simp only [hw,if_true] at hy;exact Zgw hy fun v w' hg hv=>h _ _ _ _ (next v w' hg hv) hK
   ·rename_i hw
    simp only [hw] at hy;exact ⟨fun _ _=>trivial,h _ _ _ _ (next _ _ (Grow.refl _ _) hy) hK⟩
  ·have hw:=(hy g).1 (Pub r.A (Ωs++F.Ω g)) a w fun t _=>(ha.ty t).2
   have hy:=ha.opT ha.ty (hy g).2;rw [exec_strip] at hy;rw [if_pos hw];refine Zdj hy fun m v w' haf=>h _ (F.next o.dst τ Ω') _ _ ⟨(⟨g,m⟩:(g:F.ν)×μ g),?_⟩ hK
   have hst:=ha.T (d:=o.dst) hd haf;refine ⟨hst.sz,hst.df,hst.mu,fun t=>?_,hst.pv⟩;have ht:=hst.ty t;cases hdst:o.dst with
   | none=>rw [hdst] at ht;simpa only [Fam.next,Env.put] using ht
   | some d=>
    rw [hdst] at ht;simp only [Fam.next,Env.put,Env.set,Env.or] at ht ⊢
    by_cases htd:t=d
    ·subst htd;simp only [if_true] at ht ⊢;exact ⟨ht,trivial⟩
    ·simp only [htd,if_false] at ht ⊢;exact ht
theorem ZkJ [op:Opens r] {K:Env→Fam→Prop} {Q':Exit→Act→World→Prop} (hQ:∀ Γ F a w,RSt r n Ωs Γ F a w→K Γ F→Q' .normal a w):∀ (fuel:Nat) (listed:Array Bool) (Γ:Env) (F:Fam) (a:Act) (w:World),
  RSt r n Ωs Γ F a w→TAny P r.w.heap.size Ωs ops n ms md K fuel listed Γ F→wpAnyIn (FR r.ρ) 0 P md ops Q' fuel listed a w
 | 0,_,_,_,_,_,ha,h=>⟨h.1,hQ _ _ _ _ ha h.2⟩
 | fuel+1,_,_,_,_,_,ha,h=>⟨fun h0=>hQ _ _ _ _ ha (h.1 h0),fun i hi=>Zl9 ha (fun Γ' F' a' w' ha' hK=>ZkJ hQ fuel _ Γ' F' a' w' ha' hK) (h.2 i hi)⟩
end reg
@[reducible] def Fam.one (Ω:List Pe):Fam:=⟨Unit,fun _=>Env.nil,fun _=>Ω,[],fun _ _ _=>rfl⟩
def TC (P:Program) (r:Ref) (n:Nat) (Γ:Env) (Ω:List Pe) (c:Code) (Q:Exit→Act→World→Prop):Prop:=∀ a w,Stt r n Γ Ω a w→c.wpIn (FR r.ρ) 0 P Q a w
def TE (r:Ref) (n:Nat) (Γ:Env) (Ω:List Pe) (Q:Exit→Act→World→Prop) (e:Exit):Prop:=∀ a w,Stt r n Γ Ω a w→Q e a w
def Ty.le (τ σ:Ty):Prop:=∀ A w v,τ.p A w v→σ.p A w v
theorem Ty.le.refl (τ:Ty):τ.le τ:=fun _ _ _ h=>h
theorem Ty.le.trans {τ σ ρ:Ty} (h:τ.le σ) (k:σ.le ρ):τ.le ρ:=fun A w v x=>k A w v (h A w v x)
def Env.le (Γ Δ:Env):Prop:=∀ t,(Γ t).le (Δ t)
theorem Env.le.refl (Γ:Env):Γ.le Γ:=fun _=>Ty.le.refl _
theorem Zd (Γ:Env):Γ.le Env.nil:=fun _ _ _ _ _=>trivial
theorem Zi7 {Γ Δ:Env} {d:Tmp} {τ:Ty} (h:(Γ d).le τ) (k:Γ.le Δ):Γ.le (Δ.set d τ):=fun t=>by
 unfold Env.set
 split
 ·rename_i e;subst e;exact h
 ·exact k t
theorem Stt.le {r:Ref} {n:Nat} {Γ Δ:Env} {Ω:List Pe} {a:Act} {w:World} (h:Stt r n Γ Ω a w) (k:Γ.le Δ):Stt r n Δ Ω a w:=⟨h.sz,h.df,h.mu,fun t=>k t _ _ _ (h.ty t),h.pv⟩
structure Less (Ω Ω':List Pe):Prop where
 own:∀ k,Own Ω' k→Own Ω k
 ap:ZfD Ω→ZfD Ω'
 ks:∀ A w,Pks A Ω w→Pks A Ω' w
theorem Less.refl (Ω:List Pe):Less Ω Ω:=⟨fun _ h=>h,fun h=>h,fun _ _ h=>h⟩
theorem Less.trans {Ω Ω' Ω'':List Pe} (h:Less Ω Ω') (k:Less Ω' Ω''):Less Ω Ω'':=⟨fun j x=>h.own j (k.own j x),fun x=>k.ap (h.ap x),fun A w x=>k.ks A w (h.ks A w x)⟩
theorem Ze (Ω:List Pe):Less Ω []:=⟨fun k ⟨e,he,_⟩=>absurd he (by simp),fun _=>List.Pairwise.nil,fun _ _ _ e he=>absurd he (by simp)⟩
theorem Stt.less {r:Ref} {n:Nat} {Γ:Env} {Ω Ω':List Pe} {a:Act} {w:World} (h:Stt r n Γ Ω a w) (k:Less Ω Ω'):Stt r n Γ Ω' a w:=by
 have hk:Keep (Pub r.A Ω) (Pub r.A Ω') w w:=Keep.mono fun j _ hj=>ZE.2 ⟨(ZE.1 hj).1,fun ho=>(ZE.1 hj).2 (k.own j ho)⟩
 exact ⟨h.sz,h.df,h.mu,fun t=>(Γ t).keep hk (h.ty t),fun j hj=>h.pv.own j (k.own j hj),(k.ks _ _ h.pv.ks).keep hk fun j _ _=>Zed.refl _,k.ap h.pv.ap⟩
section rules
variable {P:Program} {r:Ref} {n:Nat} {Γ:Env} {Ω:List Pe} {Q:Exit→Act→World→Prop}
theorem TC.weaken {Δ:Env} {c:Code} (h:Γ.le Δ) (k:TC P r n Δ Ω c Q):TC P r n Γ Ω c Q:=fun a w hs=>k a w (hs.le h)
theorem TC.less {Ω':List Pe} {c:Code} (h:Less Ω Ω') (k:TC P r n Γ Ω' c Q):TC P r n Γ Ω c Q:=fun a w hs=>k a w (hs.less h)
theorem TE.less {Ω':List Pe} {e:Exit} (h:Less Ω Ω') (k:TE r n Γ Ω' Q e):TE r n Γ Ω Q e:=fun a w hs=>k a w (hs.less h)
theorem Zla [op:Opens r] {id:Nat} {l:List Oper} {Q':Exit→Act→World→Prop} (ms:List Nat) (Ωs Ωt:List Pe) (hΩ:Less Ω (Ωs++Ωt)) (hm:P.follows .mixedOrders=true) (hB:Region.lexB .any l.toArray=true) (hc:Zix .any l.toArray ms=true)
  (h:TRw P r.w.heap.size Ωs l.toArray n ms 0 l Γ (Fam.one Ωt) fun Γ' F'=>∀ g,TE r n (Env.or (F'.Θ g) Γ') (Ωs++F'.Ω g) Q' .normal):TC P r n Γ Ω (.region id l.toArray true) Q':=by
 intro a w hs;have hs:=hs.less hΩ;simp only [Region.lexB,Bool.and_eq_true] at hB;refine wpIn_region_any hm ?_;have h2:=Zl5 (P:=P) (md:=.any) (ops:=l.toArray) hc l 0 (Array.replicate l.toArray.size false) Γ (Fam.one Ωt) (fun j=>by simp) (by simp) (fun t ht=>by
  rw [Array.getD_eq_getD_getElem?,Array.getElem?_replicate];simp at ht;simp [ht]) (by simpa using hB.2) h
 have hg:Grow r.w.heap.size w { w with drawn:=w.drawn+1 }:=Grow.drawn _;have h3:RSt r n Ωs Γ (Fam.one Ωt) a { w with drawn:=w.drawn+1 }:=
  ⟨(),hs.sz,hs.df,hs.mu.stp (ZdL (S:=fun _=>False) hg) (fun j hj=>hj.elim),fun t=>⟨trivial,(Γ t).st hg (hs.ty t)⟩,hs.pv.grow hg⟩
 have:=ZkJ (P:=P) (Q':=Q') (md:=.any) (fun Γ' F' a w ⟨g,hok⟩ hK=>hK g a w hok) _ _ Γ (Fam.one Ωt) a { w with drawn:=w.drawn+1 } h3 h2;simpa using this
theorem Zau {x y:Code} (h:TC P r n Γ Ω x (Exit.then (y.wpIn (FR r.ρ) 0 P Q) Q)):TC P r n Γ Ω (.seq x y) Q:=fun a w hs=>wpIn_seq (h a w hs)
def TS (P:Program) (r:Ref) (n:Nat) (ops:Array Oper) (l:List Oper) (k:Nat) (Γ:Env) (Ω:List Pe) (Q:Exit→Act→World→Prop):Prop:=
 (∀ j,l[j]?=ops[k+j]?)→∀ a w,Stt r n Γ Ω a w→wpOpsIn (FR r.ρ) 0 P ops Q (List.range' k l.length) a w
theorem TC.regionS {id:Nat} {l:List Oper} (h:TS P r n l.toArray l 0 Γ Ω Q):TC P r n Γ Ω (.region id l.toArray false) Q:=fun a w hs=>by
 refine wpIn_region ?_;have:=h (fun j=>by simp) a w hs;simpa [List.range_eq_range'] using this
theorem TC.seqS {id:Nat} {l:List Oper} {y:Code} (h:TS P r n l.toArray l 0 Γ Ω (Exit.then (y.wpIn (FR r.ρ) 0 P Q) Q)):TC P r n Γ Ω (.seq (.region id l.toArray false) y) Q:=Zau (TC.regionS h)
section ts
variable {ops:Array Oper} {k:Nat} {rest:List Oper}
theorem TS.nil (h:TE r n Γ Ω Q .normal):TS P r n ops [] k Γ Ω Q:=fun _ a w hs=>by simpa [wpOpsIn] using h a w hs
theorem TS.weaken {Δ:Env} {Ω':List Pe} (h:Γ.le Δ) (h':Less Ω Ω') (hk:TS P r n ops rest k Δ Ω' Q):TS P r n ops rest k Γ Ω Q:=fun hl a w hs=>hk hl a w ((hs.le h).less h')
theorem TS.G {o:Oper} {τ:Ty} (hd:∀ t,o.dst=some t→t<n) (h:OpG P r.w.heap.size ops Ω Γ o τ) (hk:TS P r n ops rest (k+1) (Γ.put o.dst τ) Ω Q):TS P r n ops (o::rest) k Γ Ω Q:=fun hl a w hs=>by
 have h0:ops[k]?=some o:=by simpa using (hl 0).symm
 have hl':∀ j,rest[j]?=ops[k+1+j]?:=fun j=>by have:=hl (j+1);simpa [Nat.add_assoc,Nat.add_comm 1 j] using this
 simp only [List.length_cons,List.range'_succ];rw [wpOpsIn_cons];unfold wpOpIn;simp only [h0];have hy:=h _ a w hs.mu.size hs.up hs.pv.ks fun t _=>hs.ty t
 split
 ·rename_i hw
  simp only [hw,if_true] at hy;exact Zgw hy fun v w' hg hv=>hk hl' _ w' (hs.put hd hg hv)
 ·rename_i hw
  simp only [hw] at hy;exact ⟨fun _ _=>trivial,hk hl' _ w (hs.put hd (Grow.refl _ _) hy)⟩
theorem TS.T [op:Opens r] {o:Oper} {ν:Type} {τ:ν→Ty} {Ωs Ωt:List Pe} {Ω':ν→List Pe} (hΩ:Less Ω (Ωs++Ωt)) (hd:∀ t,o.dst=some t→t<n) (h:OpT P r.w.heap.size Ωs Ωt Γ o τ Ω')
  (hk:∀ g,TS P r n ops rest (k+1) (Γ.put o.dst (τ g)) (Ωs++Ω' g) Q):TS P r n ops (o::rest) k Γ Ω Q:=fun hl a w hs=>by
 have hs:=hs.less hΩ;have h0:ops[k]?=some o:=by simpa using (hl 0).symm
 have hl':∀ j,rest[j]?=ops[k+1+j]?:=fun j=>by have:=hl (j+1);simpa [Nat.add_assoc,Nat.add_comm 1 j] using this
 simp only [List.length_cons,List.range'_succ];rw [wpOpsIn_cons];unfold wpOpIn;simp only [h0];rw [if_pos (by simp [Region.wanted,h.1])];exact Zdj (hs.opT hs.ty h) fun m v w' haf=>hk m hl' _ w' (hs.T hd haf)
end ts
theorem Zan {y:Code} (h:TC P r n Γ Ω y Q):TE r n Γ Ω (Exit.then (y.wpIn (FR r.ρ) 0 P Q) Q) .normal:=h
theorem ZiA {K:Act→World→Prop} {id:Nat} (h:TE r n Γ Ω Q (.exit id)):TE r n Γ Ω (Exit.then K Q) (.exit id):=h
theorem Zg {K:Act→World→Prop} (h:TE r n Γ Ω Q .ret):TE r n Γ Ω (Exit.then K Q) .ret:=h
theorem ZeM {id:Nat} (h:TE r n Γ Ω Q .normal):TE r n Γ Ω (Exit.inBlock id Q) .normal:=h
theorem Zf {id:Nat} (h:TE r n Γ Ω Q .ret):TE r n Γ Ω (Exit.inBlock id Q) .ret:=h
theorem ZiB {id:Nat} (h:TE r n Γ Ω Q .normal):TE r n Γ Ω (Exit.inBlock id Q) (.exit id):=fun a w hs=>by
 simp only [Exit.inBlock,if_true];exact h a w hs
theorem ZlN {id id':Nat} (hne:(id' == id)=false) (h:TE r n Γ Ω Q (.exit id')):TE r n Γ Ω (Exit.inBlock id Q) (.exit id'):=fun a w hs=>by
 have hne:id'≠id:=by simpa using hne
 simp only [Exit.inBlock,hne,if_false];exact h a w hs
theorem Zaw (h:TE r n Γ Ω Q .normal):TC P r n Γ Ω .skip Q:=fun a w hs=>wpIn_skip (h a w hs)
theorem TC.exit {id:Nat} (h:TE r n Γ Ω Q (.exit id)):TC P r n Γ Ω (.exit id) Q:=fun a w hs=>wpIn_exit (h a w hs)
theorem ZL (h:TE r n Γ Ω Q .ret):TC P r n Γ Ω .ret Q:=fun a w hs=>wpIn_ret (h a w hs)
theorem Zp {id:Nat} {c:Code} (h:TC P r n Γ Ω c (Exit.inBlock id Q)):TC P r n Γ Ω (.block id c) Q:=fun a w hs=>wpIn_block (h a w hs)
theorem TC.loop {γ:Type} {c:Code} (I:γ→Env) (J:γ→List Pe) (μ:γ→Nat) (g0:γ) (h0:Γ.le (I g0)) (j0:Less Ω (J g0))
  (round:∀ g,TC P r n (I g) (J g) c (Exit.then (fun a w=>∃ g',μ g' < μ g∧Stt r n (I g') (J g') a w) Q)):TC P r n Γ Ω (.loop c) Q:=by
 intro a w hs b k cs hro hb hr;have key:∀ (m:Nat) (g:γ) a w,μ g=m→Stt r n (I g) (J g) a w→
   ∃ e a' w',Q e a' w'∧ArrivesIn (Machine.fenced P (FR r.ρ)) P (lone (b.atR a (.code c :: .inLoop c::k)) cs w) b k cs e a' w':=by
  intro m
  induction m using Nat.strongRecOn with
  | _ m ih=>
   intro g a w hm hI;obtain ⟨e,a₁,w₁,hq,harr⟩:=round g a w hI b (.inLoop c::k) cs hro hb hr;cases e with
   | normal=>
    obtain ⟨g',hlt,hI₁⟩:=hq;obtain ⟨e₂,a₂,w₂,hq₂,harr₂⟩:=ih (μ g') (hm▸hlt) g' a₁ w₁ rfl hI₁;exact ⟨e₂,a₂,w₂,hq₂,.of_steps (StepsIn.trans harr (.one (fenced_calm hb hr rfl) stepR_inLoop)) harr₂⟩
   | exit id=>exact ⟨_,a₁,w₁,hq,.pass (x:=.inLoop c) rfl (fun _ _=>.inl (by simp)) harr⟩
   | goto l=>exact ⟨_,a₁,w₁,hq,.pass (x:=.inLoop c) rfl (fun _ _=>.inl (by simp)) harr⟩
   | ret=>exact ⟨_,a₁,w₁,hq,.pass (x:=.inLoop c) rfl (fun _ _=>.inl (by simp)) harr⟩
   | panic ch=>exact ⟨_,a₁,w₁,hq,.pass (x:=.inLoop c) rfl (fun _ _=>.inl (by simp)) harr⟩
   | outgrown=>exact ⟨_,a₁,w₁,hq,.pass (x:=.inLoop c) rfl (fun _ _=>.inl (by simp)) harr⟩
 obtain ⟨e,a',w',hq,harr⟩:=key _ g0 a w rfl ((hs.le h0).less j0);exact ⟨e,a',w',hq,.of_steps (.one (fenced_calm hb hr rfl) stepR_loop) harr⟩
end rules
def Ret (A:Nat→Prop) (w:World) (τ:Ty) (e:Ending) (w':World):Prop:=∃ v,e=.returned v∧Grow w.heap.size w w'∧τ.p A w' v
def Zld (A:Nat→Prop) (w:World) (Ωt:List Pe) {ν:Type} (τ:ν→Ty) (Ω':ν→List Pe) (e:Ending) (w':World):Prop:=∃ v g,e=.returned v∧Aft w.heap.size A [] Ωt (τ g) (Ω' g) w w' v
def Tup (τs:List Ty):Ty:=⟨fun A w v=>∃ vs:List Value,v=.tuple vs.toArray∧vs.length=τs.length∧∀ i (h:i<τs.length),τs[i].p A w (vs.getD i undef),
 fun hg ⟨vs,h1,h2,h3⟩=>⟨vs,h1,h2,fun i h=>(τs[i]).keep hg (h3 i h)⟩⟩
def Zja (A:Nat→Prop) (w:World) (hA:∀ k,w.heap.size≤k→A k):Ref:=⟨w,A,fun _=>False,hA,none,[]⟩
instance {A:Nat→Prop} {w:World} {hA:∀ k,w.heap.size≤k→A k}:Opens (Zja A w hA):=⟨fun k h=>h.elim (hA k) fun h=>h.elim⟩
def Zfg (A:Nat→Prop) (w:World) (Ωt:List Pe) (hA:∀ k,w.heap.size≤k→A k):Ref:=⟨w,A,Own Ωt,hA,none,[]⟩
class OwnIn (A:Nat→Prop) (Ωt:List Pe):Prop where
 h:∀ k,Own Ωt k→A k
instance {A:Nat→Prop} {w:World} {Ωt:List Pe} [o:OwnIn A Ωt] {hA:∀ k,w.heap.size≤k→A k}:Opens (Zfg A w Ωt hA):=⟨fun k h=>h.elim (hA k) (o.h k)⟩
section entry
variable {P:Program} {r:Ref} {n:Nat} {Γ:Env} {Ω:List Pe} {R:Ending→World→Prop}
theorem Zdb {f:FuncId} {fn:Func} {c:Code} {args:List Value} (hf:P.funcs[f]?=some fn) (hb:fn.body=some c) (hn:fn.ntmps=n) (hl:args.length≤n) (hΩ:Pok r Ω r.w)
  (hok:∀ t,t<args.length→(Γ t).p (Pub r.A Ω) r.w (args.getD t undef)) (hout:∀ t,args.length≤t→(Γ t).p (Pub r.A Ω) r.w undef)
  (h:TC P r n Γ Ω c (bodyPost P fn R)) (hρ:r.ρ=none:=by rfl) (hds:r.ds=[]:=by rfl):Calls P f args.toArray r.w R:=by
 refine calls_of_wp hf hb (wpIn_wide.1 (show c.wpIn (FR none) 0 P _ _ _ from hρ▸h _ _ ⟨?_,hds.symm,Mut.refl _ _,fun t=>?_,hΩ⟩))
 ·simp [hn];omega
 ·simp only [Array.getD_eq_getD_getElem?];rcases Nat.lt_or_ge t args.length with h1 | h1
  ·have:=hok t h1;rw [List.getD_eq_getElem?_getD] at this;rw [Array.getElem?_append_left (by simpa using h1)];simpa using this
  ·have:=hout t h1;rw [Array.getElem?_append_right (by simpa using h1)];simp only [Array.getElem?_replicate]
   split <;> simpa using this
end entry
end Go.Proofs.YtkmojgfenlgchaaGreatDoor.Tr
namespace Go.Proofs.YtkmojgfenlgchaaGreatDoor.Tr
open Go Go.RowKit
class Dat (α:Type) where
 agg:Bool
 sz:Nat
 rd:(Nat→Prop)→World→List Value→α→Prop
 wf:α→Prop
 len:∀ {A w cs x},rd A w cs x→cs.length=sz
 one:agg=false→sz=1
 pos:0<sz
 ok:∀ {A w cs x},rd A w cs x→wf x
 plain:∀ {A w v x},agg=false→rd A w [v] x→v.cells=#[v]
 mono:∀ {A A' w w' cs x},Keep A A' w w'→rd A w cs x→rd A' w' cs x
 scal:∀ {A w cs x},rd A w cs x→∀ v∈cs,v.oneCell'=true
 z:α
 zc:List Value
 zrd:∀ {A w},rd A w zc z
def mkV (α:Type) [Dat α] (cs:List Value):Value:=if Dat.agg α then .agg cs.toArray else cs.getD 0 undef
theorem mkV_cells {α:Type} [Dat α] {A:Nat→Prop} {w:World} {cs:List Value} {x:α} (h:Dat.rd A w cs x):(mkV α cs).cells=cs.toArray:=by
 unfold mkV;cases ha:Dat.agg α with
 | true=>rfl
 | false=>
  have h1:=Dat.len h;rw [Dat.one ha] at h1
  match cs,h1 with
  | [v],_=>simpa using Dat.plain ha h
def D {α:Type} [Dat α] (x:α):Ty:=⟨fun A w v=>∃ cs,Dat.rd A w cs x∧v=mkV α cs,fun k ⟨cs,h1,h2⟩=>⟨cs,Dat.mono k h1,h2⟩⟩
theorem D.wf {α:Type} [Dat α] {A:Nat→Prop} {x:α} {w:World} {v:Value} (h:(D x).p A w v):Dat.wf x:=let ⟨_,h1,_⟩:=h;Dat.ok h1
def ZlO {α:Type} [Dat α] (x:α):Ty:=
  ⟨fun A w v=>∃ b off cs,v=.pointer (some ⟨b,off,none⟩)∧A b∧Zi9 w b off cs∧Dat.rd A w cs x,
   fun k ⟨b,off,cs,h1,h2,h3,h4⟩=>⟨b,off,cs,h1,(k.h b (cell_lt (h3 0 (by rw [Dat.len h4];exact Dat.pos))) h2).1,k.row h2 h3,Dat.mono k h4⟩⟩
def Ex (v:Value):Ty:=⟨fun _ _ u=>u=v,fun _ h=>h⟩
def I (n:Int):Ty:=Ex (.int .i64 n)
def B (b:Bool):Ty:=Ex (.bool b)
def U8 (x:UInt8):Ty:=Ex (.int .u8 x.toNat)
def U16 (x:UInt16):Ty:=Ex (.int .u16 x.toNat)
def U32 (x:UInt32):Ty:=Ex (.int .u32 x.toNat)
def U64 (x:UInt64):Ty:=Ex (.int .u64 x.toNat)
def Str (l:List UInt8):Ty:=Ex (.string ⟨l.toArray⟩)
def NilS:Ty:=Ex (.slice none 0 0)
def ZgN (p:Prop) (τ:Ty):Ty:=⟨fun A w v=>(p→τ.p A w v)∧(¬ p→v=undef),fun hg h=>⟨fun hp=>τ.keep hg (h.1 hp),h.2⟩⟩
def ZeD (n:Int):Prop:=-9223372036854775808≤n∧n≤9223372036854775807
theorem ZeR {cs:List Value} {v:Value} (h:cs=[v]):cs.length=1:=by rw [h];rfl
instance :Dat Int where
 agg:=false
 sz:=1
 rd _ _ cs n:=cs=[.int .i64 n]∧ZeD n
 wf:=ZeD
 len h:=ZeR h.1
 one _:=rfl
 pos:=Nat.one_pos
 ok h:=h.2
 plain _ h:=by simp at h;rw [h.1];rfl
 mono _ h:=h
 scal h v hv:=by rw [h.1] at hv;simp at hv;rw [hv];rfl
 z:=0
 zc:=[.int .i64 0]
 zrd:=⟨rfl,by unfold ZeD;omega⟩
instance :Dat UInt8 where
 agg:=false
 sz:=1
 rd _ _ cs n:=cs=[.int .u8 n.toNat]
 wf _:=True
 len h:=ZeR h
 one _:=rfl
 pos:=Nat.one_pos
 ok _:=trivial
 plain _ h:=by simp at h;rw [h];rfl
 mono _ h:=h
 scal h v hv:=by rw [h] at hv;simp at hv;rw [hv];rfl
 z:=0
 zc:=[.int .u8 0]
 zrd:=rfl
instance :Dat UInt16 where
 agg:=false
 sz:=1
 rd _ _ cs n:=cs=[.int .u16 n.toNat]
 wf _:=True
 len h:=ZeR h
 one _:=rfl
 pos:=Nat.one_pos
 ok _:=trivial
 plain _ h:=by simp at h;rw [h];rfl
 mono _ h:=h
 scal h v hv:=by rw [h] at hv;simp at hv;rw [hv];rfl
 z:=0
 zc:=[.int .u16 0]
 zrd:=rfl
instance :Dat UInt32 where
 agg:=false
 sz:=1
 rd _ _ cs n:=cs=[.int .u32 n.toNat]
 wf _:=True
 len h:=ZeR h
 one _:=rfl
 pos:=Nat.one_pos
 ok _:=trivial
 plain _ h:=by simp at h;rw [h];rfl
 mono _ h:=h
 scal h v hv:=by rw [h] at hv;simp at hv;rw [hv];rfl
 z:=0
 zc:=[.int .u32 0]
 zrd:=rfl
instance :Dat UInt64 where
 agg:=false
 sz:=1
 rd _ _ cs n:=cs=[.int .u64 n.toNat]
 wf _:=True
 len h:=ZeR h
 one _:=rfl
 pos:=Nat.one_pos
 ok _:=trivial
 plain _ h:=by simp at h;rw [h];rfl
 mono _ h:=h
 scal h v hv:=by rw [h] at hv;simp at hv;rw [hv];rfl
 z:=0
 zc:=[.int .u64 0]
 zrd:=rfl
instance :Dat Bool where
 agg:=false
 sz:=1
 rd _ _ cs b:=cs=[.bool b]
 wf _:=True
 len h:=ZeR h
 one _:=rfl
 pos:=Nat.one_pos
 ok _:=trivial
 plain _ h:=by simp at h;rw [h];rfl
 mono _ h:=h
 scal h v hv:=by rw [h] at hv;simp at hv;rw [hv];rfl
 z:=false
 zc:=[.bool false]
 zrd:=rfl
def ZjT:Nat:=140737488351232
def Zk4 {α:Type} [Dat α] (A:Nat→Prop) (w:World) (a:Option Addr) (xs:List α):Prop:=
 ∀ i (h:i<xs.length),∃ b off,a=some ⟨b,off,none⟩∧A b∧∃ es,Zi9 w b (off+i*Dat.sz α) es∧Dat.rd A w es xs[i]
instance instList {α:Type} [Dat α]:Dat (List α) where
 agg:=false
 sz:=1
 rd A w cs xs:=∃ a c,cs=[.slice a xs.length c]∧xs.length≤c∧c≤maxLen∧xs.length≤ZjT∧Zk4 A w a xs
 wf xs:=xs.length≤ZjT∧∀ x∈xs,Dat.wf x
 len:=fun ⟨_,_,h,_⟩=>ZeR h
 one _:=rfl
 pos:=Nat.one_pos
 ok:=fun ⟨a,c,_,h1,_,h2,h3⟩=>⟨h2,fun x hx=>by
  obtain ⟨i,hi,rfl⟩:=List.getElem_of_mem hx;obtain ⟨_,_,_,_,_,_,h⟩:=h3 i hi;exact Dat.ok h⟩
 plain _:=fun ⟨_,_,h,_⟩=>by simp at h;rw [h];rfl
 scal:=fun ⟨_,_,h,_⟩ v hv=>by rw [h] at hv;simp at hv;rw [hv];rfl
 z:=[]
 zc:=[.slice none 0 0]
 zrd:=⟨none,0,rfl,Nat.le_refl _,Nat.zero_le _,Nat.zero_le _,fun i hi=>absurd hi (by simp)⟩
 mono:=fun k ⟨a,c,h0,h1,h2,h2',h3⟩=>⟨a,c,h0,h1,h2,h2',fun i hi=>by
  obtain ⟨b,off,g1,g2,es,g3,g4⟩:=h3 i hi;refine ⟨b,off,g1,?_,es,k.row g2 g3,Dat.mono k g4⟩;exact (k.h b (cell_lt (g3 0 (by rw [Dat.len g4];exact Dat.pos))) g2).1⟩
class BoolIs (x y:Bool):Prop where
 h:x=y
instance {x:Bool}:BoolIs x x:=⟨rfl⟩
class Ft (p:Prop):Prop where
 h:p
class Has (Γ:Env) (x:Operand) (τ:outParam Ty):Prop where
 le:∀ (a:Act) A w,(∀ t,x=.tmp t→(Γ t).p A w (a.tmps.getD t undef))→τ.p A w (a.eval x)
instance hasThere {Γ:Env} {t t':Tmp} {τ σ:Ty} [BoolIs (Nat.beq t t') false] [h:Has Γ (.tmp t) τ]:Has (Env.set Γ t' σ) (.tmp t) τ where
 le a A w hl:=h.le a A w fun u hu=>by
  have:=hl u hu;injection hu with hu;subst hu;have hne:t≠t':=fun e=>by
   have:=(inferInstance:BoolIs (Nat.beq t t') false).h;rw [e] at this;simp at this
  unfold Env.set at this
  rwa [if_neg hne] at this
instance (priority:=2000) hasHere {Γ:Env} {t:Tmp} {τ:Ty}:Has (Env.set Γ t τ) (.tmp t) τ where
 le a A w hl:=by
  have:=hl t rfl;unfold Env.set at this;rw [if_pos rfl] at this;exact this
instance {Γ:Env} {n:Int}:Has Γ (.const (.int .i64 n)) (I n):=⟨fun _ _ _ _=>rfl⟩
instance {Γ:Env} {b:Bool}:Has Γ (.const (.bool b)) (B b):=⟨fun _ _ _ _=>rfl⟩
instance {Γ:Env}:Has Γ (.const (.slice none 0 0)) NilS:=⟨fun _ _ _ _=>rfl⟩
instance {Γ:Env} {l:List UInt8}:Has Γ (.const (.string ⟨l.toArray⟩)) (Str l):=⟨fun _ _ _ _=>rfl⟩
instance {Γ:Env} {n:Nat} [BoolIs (Nat.ble n 255) true]:Has Γ (.const (.int .u8 (no_index (OfNat.ofNat n)))) (U8 (UInt8.ofNat n)):=⟨fun a A w _=>by
 have h:=(inferInstance:BoolIs (Nat.ble n 255) true).h;have h:n<256:=by have:=Nat.le_of_ble_eq_true h;omega
 show Value.int .u8 ((n:Nat):Int)=Value.int .u8 ((UInt8.ofNat n).toNat:Int);rw [UInt8.toNat_ofNat_of_lt' h]⟩
instance {Γ:Env} {n:Nat} [BoolIs (Nat.ble n 65535) true]:Has Γ (.const (.int .u16 (no_index (OfNat.ofNat n)))) (U16 (UInt16.ofNat n)):=⟨fun a A w _=>by
 have h:=(inferInstance:BoolIs (Nat.ble n 65535) true).h;have h:n<65536:=by have:=Nat.le_of_ble_eq_true h;omega
 show Value.int .u16 ((n:Nat):Int)=Value.int .u16 ((UInt16.ofNat n).toNat:Int);rw [UInt16.toNat_ofNat_of_lt' h]⟩
instance {Γ:Env} {n:Nat} [BoolIs (Nat.ble n 4294967295) true]:Has Γ (.const (.int .u32 (no_index (OfNat.ofNat n)))) (U32 (UInt32.ofNat n)):=⟨fun a A w _=>by
 have h:=(inferInstance:BoolIs (Nat.ble n 4294967295) true).h;have h:n<4294967296:=by have:=Nat.le_of_ble_eq_true h;omega
 show Value.int .u32 ((n:Nat):Int)=Value.int .u32 ((UInt32.ofNat n).toNat:Int);rw [UInt32.toNat_ofNat_of_lt' h]⟩
instance {Γ:Env} {n:Nat} [BoolIs (Nat.ble n 18446744073709551615) true]:Has Γ (.const (.int .u64 (no_index (OfNat.ofNat n)))) (U64 (UInt64.ofNat n)):=⟨fun a A w _=>by
 have h:=(inferInstance:BoolIs (Nat.ble n 18446744073709551615) true).h;have h:n<18446744073709551616:=by have:=Nat.le_of_ble_eq_true h;omega
 show Value.int .u64 ((n:Nat):Int)=Value.int .u64 ((UInt64.ofNat n).toNat:Int);rw [UInt64.toNat_ofNat_of_lt' h]⟩
class AsI (τ:Ty) (n:outParam Int):Prop where
 le:τ.le (I n)
class AsB (τ:Ty) (b:outParam Bool):Prop where
 le:τ.le (B b)
class AsU8 (τ:Ty) (x:outParam UInt8):Prop where
 le:τ.le (U8 x)
class AsU16 (τ:Ty) (x:outParam UInt16):Prop where
 le:τ.le (U16 x)
class AsU32 (τ:Ty) (x:outParam UInt32):Prop where
 le:τ.le (U32 x)
class AsU64 (τ:Ty) (x:outParam UInt64):Prop where
 le:τ.le (U64 x)
class AsStr (τ:Ty) (l:outParam (List UInt8)):Prop where
 le:τ.le (Str l)
class AsT (τ:Ty) (σ:outParam Ty):Prop where
 le:τ.le σ
instance (priority:=100) {τ:Ty}:AsT τ τ:=⟨Ty.le.refl _⟩
instance {p:Prop} {τ σ:Ty} [h:Ft p] [k:AsT τ σ]:AsT (ZgN p τ) σ:=⟨fun A w v x=>k.le A w v (x.1 h.h)⟩
theorem ZlQ {α:Type} [Dat α] {A:Nat→Prop} {x:α} {w:World} {v:Value} (ha:Dat.agg α=false) (h:(D x).p A w v):Dat.rd A w [v] x:=by
 obtain ⟨cs,h1,rfl⟩:=h;have:=Dat.len h1;rw [Dat.one ha] at this
 match cs,this with
 | [u],_=>simpa [mkV,ha] using h1
instance {n:Int}:AsI (I n) n:=⟨Ty.le.refl _⟩
instance {n:Int}:AsI (D n) n:=⟨fun _ _ _ h=>by have:=(ZlQ rfl h).1;simpa [I,Ex] using this⟩
instance {p:Prop} {τ:Ty} {n:Int} [h:Ft p] [k:AsI τ n]:AsI (ZgN p τ) n:=⟨fun A w v x=>k.le A w v (x.1 h.h)⟩
instance {b:Bool}:AsB (B b) b:=⟨Ty.le.refl _⟩
instance {b:Bool}:AsB (D b) b:=⟨fun _ _ _ h=>by have:=ZlQ rfl h;simpa [B,Ex,Dat.rd] using this⟩
instance {p:Prop} {τ:Ty} {b:Bool} [h:Ft p] [k:AsB τ b]:AsB (ZgN p τ) b:=⟨fun A w v x=>k.le A w v (x.1 h.h)⟩
instance {x:UInt8}:AsU8 (U8 x) x:=⟨Ty.le.refl _⟩
instance {x:UInt8}:AsU8 (D x) x:=⟨fun _ _ _ h=>by have:=ZlQ rfl h;simpa [U8,Ex,Dat.rd] using this⟩
instance {p:Prop} {τ:Ty} {x:UInt8} [h:Ft p] [k:AsU8 τ x]:AsU8 (ZgN p τ) x:=⟨fun A w v x=>k.le A w v (x.1 h.h)⟩
instance {x:UInt16}:AsU16 (U16 x) x:=⟨Ty.le.refl _⟩
instance {x:UInt16}:AsU16 (D x) x:=⟨fun _ _ _ h=>by have:=ZlQ rfl h;simpa [U16,Ex,Dat.rd] using this⟩
instance {p:Prop} {τ:Ty} {x:UInt16} [h:Ft p] [k:AsU16 τ x]:AsU16 (ZgN p τ) x:=⟨fun A w v x=>k.le A w v (x.1 h.h)⟩
instance {x:UInt32}:AsU32 (U32 x) x:=⟨Ty.le.refl _⟩
instance {x:UInt32}:AsU32 (D x) x:=⟨fun _ _ _ h=>by have:=ZlQ rfl h;simpa [U32,Ex,Dat.rd] using this⟩
instance {x:UInt64}:AsU64 (U64 x) x:=⟨Ty.le.refl _⟩
instance {x:UInt64}:AsU64 (D x) x:=⟨fun _ _ _ h=>by have:=ZlQ rfl h;simpa [U64,Ex,Dat.rd] using this⟩
instance {p:Prop} {τ:Ty} {x:UInt64} [h:Ft p] [k:AsU64 τ x]:AsU64 (ZgN p τ) x:=⟨fun A w v x=>k.le A w v (x.1 h.h)⟩
instance {l:List UInt8}:AsStr (Str l) l:=⟨Ty.le.refl _⟩
instance {p:Prop} {τ:Ty} {l:List UInt8} [h:Ft p] [k:AsStr τ l]:AsStr (ZgN p τ) l:=⟨fun A w v x=>k.le A w v (x.1 h.h)⟩
theorem NilS.le {α:Type} [Dat α]:NilS.le (D ([]:List α)):=fun _ _ v h=>by
 have h:v=.slice none 0 0:=h;subst h;exact ⟨[.slice none 0 0],⟨none,0,rfl,Nat.le_refl _,Nat.zero_le _,Nat.zero_le _,fun i hi=>absurd hi (by simp)⟩,rfl⟩
theorem Has.at {Γ:Env} {t:Tmp} {τ:Ty} (h:Has Γ (.tmp t) τ):(Γ t).le τ:=fun A w v hv=>by
 have:=h.le ⟨Array.replicate (t+1) v,[]⟩ A w fun u hu=>by
  injection hu with hu;subst hu;simpa [Array.getD_eq_getD_getElem?] using hv
 simpa [Act.eval] using this
class InB (bs:List Nat) (b:Nat):Prop where
 h:True
instance (priority:=2000) {b:Nat} {bs:List Nat}:InB (b::bs) b:=⟨trivial⟩
instance {b c:Nat} {bs:List Nat} [InB bs b]:InB (c::bs) b:=⟨trivial⟩
theorem Less.cons {Ω Ω':List Pe} {e:Pe} (h:Less Ω Ω'):Less (e::Ω) (e::Ω') where
 own k:=by
  rintro ⟨f,hf,hp,hb⟩;rcases List.mem_cons.1 hf with rfl | hf
  ·exact ⟨f,List.mem_cons_self ..,hp,hb⟩
  ·obtain ⟨g,hg,h1⟩:=h.own k ⟨f,hf,hp,hb⟩;exact ⟨g,List.mem_cons_of_mem _ hg,h1⟩
 ap hp:=by
  have hp:=List.pairwise_cons.1 hp;refine List.pairwise_cons.2 ⟨fun f hf p1 p2 he=>?_,h.ap hp.2⟩;obtain ⟨g,hg,hq,hb⟩:=h.own f.b ⟨f,hf,p2,rfl⟩;exact hp.1 g hg p1 hq (he.trans hb.symm)
 ks A w hk:=fun f hf=>by
  rcases List.mem_cons.1 hf with rfl | hf
  ·exact hk f (List.mem_cons_self ..)
  ·exact h.ks A w (fun g hg=>hk g (List.mem_cons_of_mem _ hg)) f hf
theorem Less.drop {Ω Ω':List Pe} {e:Pe} (h:Less Ω Ω'):Less (e::Ω) Ω':=
 ⟨fun k hk=>let ⟨g,hg,h1⟩:=h.own k hk;⟨g,List.mem_cons_of_mem _ hg,h1⟩,fun hp=>h.ap (List.pairwise_cons.1 hp).2,fun A w hk=>h.ks A w fun g hg=>hk g (List.mem_cons_of_mem _ hg)⟩
class AsIx (τ:Ty) (n:outParam Int):Prop where
 h:∀ {A w v},τ.p A w v→∃ k,v=.int k n
instance (priority:=1100) {τ:Ty} {n:Int} [k:AsI τ n]:AsIx τ n:=⟨fun h=>⟨.i64,k.le _ _ _ h⟩⟩
end Go.Proofs.YtkmojgfenlgchaaGreatDoor.Tr
namespace Go.Proofs.YtkmojgfenlgchaaGreatDoor.Tr
open Go Go.RowKit
section step
variable {P:Program} {r:Ref} {B:Nat} {Ωs:List Pe} {ops:Array Oper} {n:Nat} {ms:List Nat} {k:Nat} {Γ:Env} {Ω:List Pe} {F:Fam} {Q:Exit→Act→World→Prop} {K:Env→Fam→Prop}
theorem yielded_of {j:Nat} {g:Tmp} {b:Bool} {a:Act} (hg:(ops[j]?).bind (·.dst)=some g) (hv:a.tmps.getD g undef=.bool b):yielded ops a.tmps j=some b:=by
 unfold yielded;rw [hg];simp only [Option.bind_some];rw [Array.getD_eq_getD_getElem?] at hv;cases h:a.tmps[g]? with
 | none=>rw [h] at hv;simp [undef] at hv
 | some v=>rw [h] at hv;simp at hv;rw [hv]
theorem OpG.s {d:Option Tmp} {op:Op} {ty:TypeId} {pos:String} {aft:Array Edge} {τ:Ty} (h:∀ {A:Nat→Prop},OpY P B A Ωs Γ ⟨d,op,ty,pos,aft,none⟩ τ):OpG P B ops Ωs Γ ⟨d,op,ty,pos,aft,none⟩ τ:=fun A a w hB hu hp hl=>by
 rw [if_pos (by simp [Region.wanted])];exact h a w hB hu hp fun t ht=>hl t (Zhb ht)
theorem OpG.g {d:Tmp} {op:Op} {ty:TypeId} {pos:String} {aft:Array Edge} {τ:Ty} {j:Nat} {want:Bool} {b:Bool} (g:Tmp) {σ:Ty} [hs:Has Γ (.tmp g) σ] [hb:AsB σ b]
  (hg:(ops[j]?).bind (·.dst)=some g)
  (h:Ft (b=want)→∀ {A:Nat→Prop},OpY P B A Ωs Γ ⟨some d,op,ty,pos,aft,some (j,want)⟩ τ):OpG P B ops Ωs Γ ⟨some d,op,ty,pos,aft,some (j,want)⟩ (ZgN (b=want) τ):=fun A a w hB hu hp hl=>by
 have hv:a.tmps.getD g undef=.bool b:=by
  refine hb.le A w _ (hs.at A w _ (hl g ?_));unfold Oper.looksAt;refine List.mem_append.2 (.inr ?_);simp [hg]
 have hy:=yielded_of (ops:=ops) hg hv
 by_cases hbw:b=want
 ·subst hbw;rw [if_pos (by simp [Region.wanted,hy])];have:=h ⟨rfl⟩ a w hB hu hp fun t ht=>hl t (Zhb ht)
  generalize (execOp a.eval _).run P w=r at *;cases r with
  | ok x w'=>
   cases x <;> simp only [Zhm] at this ⊢
   case value v=>exact ⟨this.1,fun _=>this.2,fun x=>absurd trivial (by simp at x)⟩
   case skip=>exact ⟨this.1,fun _=>this.2,fun x=>absurd trivial (by simp at x)⟩
   case enter f args=>exact ⟨this.1,this.2.mono fun e w'' ⟨v,h1,h2,h3⟩=>⟨v,h1,h2,fun _=>h3,fun x=>absurd trivial (by simp at x)⟩⟩
  | halt x w'=>simp only [Zhm] at this
 ·rw [if_neg (by simp [Region.wanted,hy];exact hbw)];exact ⟨fun x=>absurd x hbw,fun _=>rfl⟩
theorem OpG.gg {d:Tmp} {op:Op} {ty:TypeId} {pos:String} {aft:Array Edge} {τ:Ty} {j:Nat} {want:Bool} {p:Prop} {b:Bool} (g:Tmp) {σ:Ty} [hs:Has Γ (.tmp g) (ZgN p σ)] [hb:AsB σ b]
  (hg:(ops[j]?).bind (·.dst)=some g)
  (h:Ft p→Ft (b=want)→∀ {A:Nat→Prop},OpY P B A Ωs Γ ⟨some d,op,ty,pos,aft,some (j,want)⟩ τ):OpG P B ops Ωs Γ ⟨some d,op,ty,pos,aft,some (j,want)⟩ (ZgN (p∧b=want) τ):=fun A a w hB hu hp hl=>by
 have hv:=hs.at A w _ (hl g (by
  unfold Oper.looksAt;refine List.mem_append.2 (.inr ?_);simp [hg]))
 by_cases hpp:p
 ·have hv:a.tmps.getD g undef=.bool b:=hb.le A w _ (hv.1 hpp);have hy:=yielded_of (ops:=ops) hg hv
  by_cases hbw:b=want
  ·subst hbw;rw [if_pos (by simp [Region.wanted,hy])];have:=h ⟨hpp⟩ ⟨rfl⟩ a w hB hu hp fun t ht=>hl t (Zhb ht)
   generalize (execOp a.eval _).run P w=r at *;cases r with
   | ok x w'=>
    cases x <;> simp only [Zhm] at this ⊢
    case value v=>exact ⟨this.1,fun _=>this.2,fun x=>absurd hpp (by simpa using x)⟩
    case skip=>exact ⟨this.1,fun _=>this.2,fun x=>absurd hpp (by simpa using x)⟩
    case enter f args=>exact ⟨this.1,this.2.mono fun e w'' ⟨v,h1,h2,h3⟩=>⟨v,h1,h2,fun _=>h3,fun x=>absurd hpp (by simpa using x)⟩⟩
   | halt x w'=>simp only [Zhm] at this
  ·rw [if_neg (by simp [Region.wanted,hy];exact hbw)];exact ⟨fun x=>absurd x.2 hbw,fun _=>rfl⟩
 ·have hu:a.tmps.getD g undef=undef:=hv.2 hpp;have hn:yielded ops a.tmps j=none:=by
   unfold yielded;rw [hg];simp only [Option.bind_some];rw [Array.getD_eq_getD_getElem?] at hu;cases h:a.tmps[g]? with
   | none=>rfl
   | some v=>rw [h] at hu;simp at hu;rw [hu];rfl
  rw [if_neg (by simp [Region.wanted,hn])];exact ⟨fun x=>absurd x.1 hpp,fun _=>rfl⟩
theorem TR.nil (h:K Γ F):TRw P B Ωs ops n ms k [] Γ F K:=h
theorem TR.G {d:Tmp} {op:Op} {ty:TypeId} {pos:String} {aft:Array Edge} {gd:Option (Nat×Bool)} {rest:List Oper} {τ:Ty}
  (h:OpG P B ops Ωs Γ ⟨some d,op,ty,pos,aft,gd⟩ τ) (hd:(Nat.blt d n && !ms.contains k && !F.tl.contains d)=true) (hk:TRw P B Ωs ops n ms (k+1) rest (Γ.set d τ) F K):TRw P B Ωs ops n ms k (⟨some d,op,ty,pos,aft,gd⟩::rest) Γ F K:=by
 simp only [Bool.and_eq_true,Bool.not_eq_true'] at hd;exact ⟨fun t e=>by injection e with e;subst e;simpa using hd.1.1,.inl ⟨by simpa using hd.1.2,fun t e=>by injection e with e;subst e;simpa using hd.2,τ,h,hk⟩⟩
theorem Zeq {d:Tmp} {op:Op} {ty:TypeId} {pos:String} {aft:Array Edge} {rest:List Oper} {τ:Ty}
  (h:∀ {A:Nat→Prop},OpY P B A Ωs Γ ⟨some d,op,ty,pos,aft,none⟩ τ) (hd:(Nat.blt d n && !ms.contains k && !F.tl.contains d)=true) (hk:TRw P B Ωs ops n ms (k+1) rest (Γ.set d τ) F K):TRw P B Ωs ops n ms k (⟨some d,op,ty,pos,aft,none⟩::rest) Γ F K:=
 TR.G (OpG.s h) hd hk
theorem TR.g {d:Tmp} {op:Op} {ty:TypeId} {pos:String} {aft:Array Edge} {rest:List Oper} {τ:Ty} {j:Nat} {want:Bool} {b:Bool} (g:Tmp) {σ:Ty} [hs:Has Γ (.tmp g) σ] [hb:AsB σ b]
  (hg:(ops[j]?).bind (·.dst)=some g)
  (h:Ft (b=want)→∀ {A:Nat→Prop},OpY P B A Ωs Γ ⟨some d,op,ty,pos,aft,some (j,want)⟩ τ) (hd:(Nat.blt d n && !ms.contains k && !F.tl.contains d)=true) (hk:TRw P B Ωs ops n ms (k+1) rest (Γ.set d (ZgN (b=want) τ)) F K):TRw P B Ωs ops n ms k (⟨some d,op,ty,pos,aft,some (j,want)⟩::rest) Γ F K:=
 TR.G (OpG.g g hg h) hd hk
theorem TR.gg {d:Tmp} {op:Op} {ty:TypeId} {pos:String} {aft:Array Edge} {rest:List Oper} {τ:Ty} {j:Nat} {want:Bool} {p:Prop} {b:Bool} (g:Tmp) {σ:Ty} [hs:Has Γ (.tmp g) (ZgN p σ)] [hb:AsB σ b]
  (hg:(ops[j]?).bind (·.dst)=some g)
  (h:Ft p→Ft (b=want)→∀ {A:Nat→Prop},OpY P B A Ωs Γ ⟨some d,op,ty,pos,aft,some (j,want)⟩ τ) (hd:(Nat.blt d n && !ms.contains k && !F.tl.contains d)=true) (hk:TRw P B Ωs ops n ms (k+1) rest (Γ.set d (ZgN (p∧b=want) τ)) F K):TRw P B Ωs ops n ms k (⟨some d,op,ty,pos,aft,some (j,want)⟩::rest) Γ F K:=
 TR.G (OpG.gg g hg h) hd hk
@[reducible] def Fam.nextS (F:Fam) (d:Tmp) {μ:F.ν→Type} (τ:(g:F.ν)→μ g→Ty) (Ω':(g:F.ν)→μ g→List Pe):Fam:=
 ⟨(g:F.ν)×μ g,fun g=>Env.set (F.Θ g.1) d (τ g.1 g.2),fun g=>Ω' g.1 g.2,d::F.tl,(F.next (some d) τ Ω').off⟩
@[reducible] def Fam.nextN (F:Fam) {μ:F.ν→Type} (Ω':(g:F.ν)→μ g→List Pe):Fam:=
 ⟨(g:F.ν)×μ g,fun g=>F.Θ g.1,fun g=>Ω' g.1 g.2,F.tl,fun g t h=>F.off g.1 t h⟩
theorem Zfi {d:Tmp} {op:Op} {ty:TypeId} {pos:String} {aft:Array Edge} {gd:Option (Nat×Bool)} {rest:List Oper} {μ:F.ν→Type} {τ:(g:F.ν)→μ g→Ty} {Ω':(g:F.ν)→μ g→List Pe}
  (h:∀ g,OpT P B Ωs (F.Ω g) (Env.or (F.Θ g) Γ) ⟨some d,op,ty,pos,aft,gd⟩ (τ g) (Ω' g)) (hd:(Nat.blt d n&&ms.contains k)=true) (hk:TRw P B Ωs ops n ms (k+1) rest (Γ.set d Ty.any) (F.nextS d τ Ω') K):TRw P B Ωs ops n ms k (⟨some d,op,ty,pos,aft,gd⟩::rest) Γ F K:=by
 simp only [Bool.and_eq_true] at hd;exact ⟨fun t e=>by injection e with e;subst e;simpa using hd.1,.inr ⟨by simpa using hd.2,μ,τ,Ω',OpF.of h,hk⟩⟩
theorem Zdg {op:Op} {ty:TypeId} {pos:String} {aft:Array Edge} {gd:Option (Nat×Bool)} {rest:List Oper} {μ:F.ν→Type} {τ:(g:F.ν)→μ g→Ty} {Ω':(g:F.ν)→μ g→List Pe}
  (h:∀ g,OpT P B Ωs (F.Ω g) (Env.or (F.Θ g) Γ) ⟨none,op,ty,pos,aft,gd⟩ (τ g) (Ω' g)) (hd:ms.contains k=true) (hk:TRw P B Ωs ops n ms (k+1) rest Γ (F.nextN Ω') K):TRw P B Ωs ops n ms k (⟨none,op,ty,pos,aft,gd⟩::rest) Γ F K:=
 ⟨fun t e=>(by cases e),.inr ⟨by simpa using hd,μ,τ,Ω',OpF.of h,hk⟩⟩
theorem Za1 {d:Tmp} {op:Op} {ty:TypeId} {pos:String} {aft:Array Edge} {rest:List Oper} {τ:Ty}
  (h:∀ {A:Nat→Prop},OpY P r.w.heap.size A Ω Γ ⟨some d,op,ty,pos,aft,none⟩ τ) (hd:Nat.blt d n=true) (hk:TS P r n ops rest (k+1) (Γ.set d τ) Ω Q):TS P r n ops (⟨some d,op,ty,pos,aft,none⟩::rest) k Γ Ω Q:=
 TS.G (fun t e=>by injection e with e;subst e;simpa using hd) (OpG.s h) hk
theorem Zk9 {d:Tmp} {op:Op} {ty:TypeId} {pos:String} {aft:Array Edge} {rest:List Oper} {τ:Ty} {j:Nat} {want:Bool} {b:Bool} (g:Tmp) {σ:Ty} [hs:Has Γ (.tmp g) σ] [hb:AsB σ b]
  (hg:(ops[j]?).bind (·.dst)=some g)
  (h:Ft (b=want)→∀ {A:Nat→Prop},OpY P r.w.heap.size A Ω Γ ⟨some d,op,ty,pos,aft,some (j,want)⟩ τ) (hd:Nat.blt d n=true) (hk:TS P r n ops rest (k+1) (Γ.set d (ZgN (b=want) τ)) Ω Q):TS P r n ops (⟨some d,op,ty,pos,aft,some (j,want)⟩::rest) k Γ Ω Q:=
 TS.G (fun t e=>by injection e with e;subst e;simpa using hd) (OpG.g g hg h) hk
theorem TS.gg {d:Tmp} {op:Op} {ty:TypeId} {pos:String} {aft:Array Edge} {rest:List Oper} {τ:Ty} {j:Nat} {want:Bool} {p:Prop} {b:Bool} (g:Tmp) {σ:Ty} [hs:Has Γ (.tmp g) (ZgN p σ)] [hb:AsB σ b]
  (hg:(ops[j]?).bind (·.dst)=some g)
  (h:Ft p→Ft (b=want)→∀ {A:Nat→Prop},OpY P r.w.heap.size A Ω Γ ⟨some d,op,ty,pos,aft,some (j,want)⟩ τ) (hd:Nat.blt d n=true) (hk:TS P r n ops rest (k+1) (Γ.set d (ZgN (p∧b=want) τ)) Ω Q):TS P r n ops (⟨some d,op,ty,pos,aft,some (j,want)⟩::rest) k Γ Ω Q:=
 TS.G (fun t e=>by injection e with e;subst e;simpa using hd) (OpG.gg g hg h) hk
theorem Zdw [op:Opens r] {d:Tmp} {op:Op} {ty:TypeId} {pos:String} {aft:Array Edge} {gd:Option (Nat×Bool)} {rest:List Oper} {ν:Type} {τ:ν→Ty} {Ω':ν→List Pe}
  (h:OpT P r.w.heap.size [] Ω Γ ⟨some d,op,ty,pos,aft,gd⟩ τ Ω') (hd:Nat.blt d n=true) (hk:∀ g,TS P r n ops rest (k+1) (Γ.set d (τ g)) (Ω' g) Q):TS P r n ops (⟨some d,op,ty,pos,aft,gd⟩::rest) k Γ Ω Q:=
 TS.T (Ωs:=[]) (Less.refl _) (fun t e=>by injection e with e;subst e;simpa using hd) h hk
theorem TS.tn [op:Opens r] {op:Op} {ty:TypeId} {pos:String} {aft:Array Edge} {gd:Option (Nat×Bool)} {rest:List Oper} {ν:Type} {τ:ν→Ty} {Ω':ν→List Pe}
  (h:OpT P r.w.heap.size [] Ω Γ ⟨none,op,ty,pos,aft,gd⟩ τ Ω') (hk:∀ g,TS P r n ops rest (k+1) Γ (Ω' g) Q):TS P r n ops (⟨none,op,ty,pos,aft,gd⟩::rest) k Γ Ω Q:=
 TS.T (Ωs:=[]) (Less.refl _) (fun t e=>by cases e) h hk
theorem OpT.frame {Ω Ωt Ωr:List Pe} {Γ:Env} {o:Oper} {ν:Type} {τ:ν→Ty} {Ω':ν→List Pe} (hp:Ω.Perm (Ωt++Ωr)) (h:OpT P B (Ωs++Ωr) Ωt Γ o τ Ω'):OpT P B Ωs Ω Γ o τ fun m=>Ω' m++Ωr:=by
 refine ⟨h.1,fun A0 a w hB hu ho ha hk hl=>?_⟩;have hp1:(Ωs++Ω).Perm ((Ωs++Ωr)++Ωt):=by
  rw [List.append_assoc];exact (hp.trans List.perm_append_comm).append_left _
 have hown:∀ k,Own ((Ωs++Ωr)++Ωt) k↔Own (Ωs++Ω) k:=fun k=>⟨fun ⟨e,he,h1⟩=>⟨e,hp1.mem_iff.2 he,h1⟩,fun ⟨e,he,h1⟩=>⟨e,hp1.mem_iff.1 he,h1⟩⟩
 have hpub:Pub A0 ((Ωs++Ωr)++Ωt)=Pub A0 (Ωs++Ω):=by
  funext k;exact propext (by rw [ZE,ZE,hown])
 have hap:ZfD ((Ωs++Ωr)++Ωt):=(hp1.pairwise_iff (fun {x y} hxy p1 p2 he=>hxy p2 p1 he.symm)).1 ha;have hks:Pks (Pub A0 ((Ωs++Ωr)++Ωt)) ((Ωs++Ωr)++Ωt) w:=by
  rw [hpub];exact fun e he=>hk e (hp1.mem_iff.2 he)
 have hot:∀ k,Own Ωt k→Own Ω k:=fun k ⟨e,he,h1⟩=>⟨e,hp.mem_iff.2 (List.mem_append_left _ he),h1⟩
 have hor:∀ k,Own Ωr k→Own Ω k:=fun k ⟨e,he,h1⟩=>⟨e,hp.mem_iff.2 (List.mem_append_right _ he),h1⟩
 have hy:=h.2 A0 a w hB hu (fun k hk=>ho k (hot k hk)) hap hks (fun t ht=>by rw [hpub];exact hl t ht);have conv:∀ g w' v,Aft B A0 (Ωs++Ωr) Ωt (τ g) (Ω' g) w w' v→Aft B A0 Ωs Ω (τ g) (Ω' g++Ωr) w w' v:=fun g w' v k=>by
  have hp2:((Ωs++Ωr)++Ω' g).Perm (Ωs++(Ω' g++Ωr)):=by
   rw [List.append_assoc];exact List.perm_append_comm.append_left _
  have hown2:∀ k,Own ((Ωs++Ωr)++Ω' g) k↔Own (Ωs++(Ω' g++Ωr)) k:=fun k=>⟨fun ⟨e,he,h1⟩=>⟨e,hp2.mem_iff.1 he,h1⟩,fun ⟨e,he,h1⟩=>⟨e,hp2.mem_iff.2 he,h1⟩⟩
  have hpub2:Pub A0 ((Ωs++Ωr)++Ω' g)=Pub A0 (Ωs++(Ω' g++Ωr)):=by
   funext k;exact propext (by rw [ZE,ZE,hown2])
  have hkp:Keep (Pub A0 ((Ωs++Ωr)++Ωt)) (Pub A0 ((Ωs++Ωr)++Ω' g)) w w':=by
   refine ⟨k.st.size,fun j hj hpj=>?_⟩;obtain ⟨h1,h2⟩:=ZE.1 hpj;refine ⟨ZE.2 ⟨h1,fun ho=>?_⟩,k.st.cells j hj fun ho=>h2 (ZP.2 (.inr ho))⟩;rcases ZP.1 ho with ho | ho
   ·exact h2 (ZP.2 (.inl ho))
   ·rcases k.nw j ho with ho | ho
    ·exact h2 (ZP.2 (.inr ho))
    ·omega
  refine ⟨k.st.mono (Nat.le_refl _) hot,fun j hj=>?_,(hp2.pairwise_iff (fun {x y} hxy p1 p2 he=>hxy p2 p1 he.symm)).1 k.ap,by rw [← hpub2];exact k.ty,?_⟩
  ·rcases ZP.1 hj with hj | hj
   ·rcases k.nw j hj with h1 | h1
    ·exact .inl (hot j h1)
    ·exact .inr h1
   ·exact .inl (hor j hj)
  ·rw [← hpub2];refine Zbn.2 ⟨k.ks,?_⟩;refine (Zbn.1 (Zbn.1 hks).1).2.keep hkp fun j hj ho=>k.st.cells j hj fun ho2=>?_
   obtain ⟨e,he,hp,hb⟩:=ho;obtain ⟨f,hf,hq,hbf⟩:=ho2;exact (List.pairwise_append.1 hap).2.2 e (List.mem_append_right _ he) f hf hp hq (hb.trans hbf.symm)
 generalize (execOp a.eval o).run P w=r at *;cases r with
 | ok x w'=>
  cases x <;> simp only [Zfe] at hy ⊢
  case value v=>obtain ⟨g,h⟩:=hy;exact ⟨g,conv _ _ _ h⟩
  case skip=>obtain ⟨g,h⟩:=hy;exact ⟨g,conv _ _ _ h⟩
  case enter f args=>exact hy.mono fun e w'' ⟨v,g,h1,h2⟩=>⟨v,g,h1,conv _ _ _ h2⟩
 | halt x w'=>simp only [Zfe] at hy
theorem Zgo {Γ:Env} {o:Oper} {τ:Ty} (hg:o.guard=none) (h:∀ {A:Nat→Prop},OpY P B A (Ωs++Ω) Γ o τ):OpT P B Ωs Ω Γ o (fun _:Unit=>τ) fun _=>Ω:=by
 refine ⟨hg,fun A0 a w hB hu ho ha hk hl=>?_⟩;have hy:=h (A:=Pub A0 (Ωs++Ω)) a w hB (fun k hk'=>ZE.2 ⟨hu k hk',fun ho=>by have:=hk.lt ho;omega⟩) hk hl;have conv:∀ w' v,Grow B w w'→τ.p (Pub A0 (Ωs++Ω)) w' v→Aft B A0 Ωs Ω τ Ω w w' v:=fun w' v hg hv=>
  ⟨ZdL hg,fun k hk=>.inl hk,ha,hv,(Zbn.1 hk).2.keep (Keep.grow hg) fun j hj _=>hg.cells j hj⟩
 generalize (execOp a.eval o).run P w=r at *;cases r with
 | ok x w'=>
  cases x <;> simp only [Zhm] at hy <;> simp only [Zfe]
  case value v=>exact ⟨(),conv _ _ hy.1 hy.2⟩
  case skip=>exact ⟨(),conv _ _ hy.1 hy.2⟩
  case enter f args=>exact hy.2.mono fun e w'' ⟨v,h1,h2,h3⟩=>⟨v,(),h1,conv _ _ (hy.1.trans h2) h3⟩
 | halt x w'=>simp only [Zhm] at hy
end step
section ops
variable {P:Program} {B0:Nat} {A:Nat→Prop} {Ω:List Pe} {Γ:Env} {dst:Option Tmp} {ty:TypeId} {pos:String} {aft:Array Edge} {gd:Option (Nat×Bool)}
theorem OpY.val {op:Op} {τ:Ty} (h:∀ (a:Act) (w:World),(∀ t,.tmp t∈op.operands.toList→(Γ t).p A w (a.tmps.getD t undef))→∃ v,(execOp a.eval ⟨dst,op,ty,pos,aft,gd⟩).run P w=.ok (.value v) w∧τ.p A w v) :
  OpY P B0 A Ω Γ ⟨dst,op,ty,pos,aft,gd⟩ τ:=fun a w _ _ _ hl=>by
 obtain ⟨v,h1,h2⟩:=h a w hl;rw [h1];exact ⟨Grow.refl _ _,h2⟩
theorem Zt {x:Operand} {τ:Ty} [h:Has Γ x τ] {op:Op} {a:Act} {w:World} (hx:x∈op.operands.toList) (hl:∀ t,.tmp t∈op.operands.toList→(Γ t).p A w (a.tmps.getD t undef)):τ.p A w (a.eval x):=
 h.le a A w fun t e=>hl t (e▸hx)
theorem Zeh {x:Operand} {τ σ:Ty} [Has Γ x τ] [k:AsT τ σ]:OpY P B0 A Ω Γ ⟨dst,.move x,ty,pos,aft,gd⟩ σ:=
 OpY.val fun a w hl=>⟨a.eval x,rfl,k.le _ _ _ (Zt (τ:=τ) (by simp [Op.operands]) hl)⟩
theorem ZeO {x:Operand} {τ σ:Ty} [Has Γ x τ] [k:AsT τ σ]:OpY P B0 A Ω Γ ⟨dst,.assign x,ty,pos,aft,gd⟩ σ:=
 OpY.val fun a w hl=>⟨a.eval x,rfl,k.le _ _ _ (Zt (τ:=τ) (by simp [Op.operands]) hl)⟩
theorem evC (a:Act) (v:Value):a.eval (.const v)=v:=rfl
class AsBC (σ:Ty) (b want:Bool) (d:outParam Bool):Prop where
 le:b=want→σ.le (B d)
instance {b want d:Bool} {τ:Ty} [k:AsB τ d]:AsBC (ZgN (b=want) τ) b want d:=⟨fun h _ _ _ x=>k.le _ _ _ (x.1 h)⟩
theorem OpY.pickAnd {c x:Operand} {τ σ:Ty} {b d:Bool} [Has Γ c τ] [hb:AsB τ b] [Has Γ x σ] [hd:AsBC σ b true d] :
  OpY P B0 A Ω Γ ⟨dst,.pick c x (.const (.bool false)),ty,pos,aft,gd⟩ (B (b&&d)):=
 OpY.val fun a w hl=>by
  have h1:a.eval c=.bool b:=hb.le _ _ _ (Zt (τ:=τ) (by simp [Op.operands]) hl);have h2:σ.p A w (a.eval x):=Zt (by simp [Op.operands]) hl;cases b with
  | false=>exact ⟨.bool false,by simp [execOp,h1,asBool,evC],rfl⟩
  | true=>
   have h3:a.eval x=.bool d:=hd.le rfl _ _ _ h2;exact ⟨.bool d,by simp [execOp,h1,asBool,h3,evC],rfl⟩
theorem OpY.pickOr {c x:Operand} {τ σ:Ty} {b d:Bool} [Has Γ c τ] [hb:AsB τ b] [Has Γ x σ] [hd:AsBC σ b false d] :
  OpY P B0 A Ω Γ ⟨dst,.pick c (.const (.bool true)) x,ty,pos,aft,gd⟩ (B (b||d)):=
 OpY.val fun a w hl=>by
  have h1:a.eval c=.bool b:=hb.le _ _ _ (Zt (τ:=τ) (by simp [Op.operands]) hl);have h2:σ.p A w (a.eval x):=Zt (by simp [Op.operands]) hl;cases b with
  | true=>exact ⟨.bool true,by simp [execOp,h1,asBool,evC],rfl⟩
  | false=>
   have h3:a.eval x=.bool d:=hd.le rfl _ _ _ h2;exact ⟨.bool d,by simp [execOp,h1,asBool,h3,evC],rfl⟩
theorem OpY.notB {x:Operand} {t:TypeId} {τ:Ty} {b:Bool} [Has Γ x τ] [hb:AsB τ b]:OpY P B0 A Ω Γ ⟨dst,.unOp .not t x,ty,pos,aft,gd⟩ (B (!b)):=
 OpY.val fun a w hl=>⟨.bool (!b),by
  have e1:a.eval x=.bool b:=hb.le _ _ _ (Zt (x:=x) (τ:=τ) (op:=.unOp .not t x) (by simp [Op.operands]) hl);simp only [execOp,e1,Op.unary,Sem.run_bind,Sem.run_pure,Result.andThen_ok],rfl⟩
theorem Zdx {z:Int} (h1:-9223372036854775808≤z) (h2:z≤9223372036854775807):IntKind.i64.wrap z=z:=by
 simp [IntKind.wrap,IntKind.bits,IntKind.signed];split <;> omega
section int
variable {x y:Operand} {τ σ:Ty} {t u:TypeId} {m k:Int} [hsx:Has Γ x τ] [hx:AsI τ m] [hsy:Has Γ y σ] [hy:AsI σ k]
include hsx hx hsy hy
theorem ev2 {op:BinOp} {a:Act} {w:World} (hl:∀ s,.tmp s∈(Op.binOp op t x y u).operands.toList→(Γ s).p A w (a.tmps.getD s undef)) :
  a.eval x=.int .i64 m∧a.eval y=.int .i64 k:=
 ⟨hx.le _ _ _ (Zt (τ:=τ) (op:=.binOp op t x y u) (by simp [Op.operands]) hl),hy.le _ _ _ (Zt (τ:=σ) (op:=.binOp op t x y u) (by simp [Op.operands]) hl)⟩
theorem OpY.add (h1:-9223372036854775808≤m+k) (h2:m+k≤9223372036854775807):OpY P B0 A Ω Γ ⟨dst,.binOp .add t x y u,ty,pos,aft,gd⟩ (I (m+k)):=
 OpY.val fun a w hl=>⟨.int .i64 (m+k),by obtain ⟨e1,e2⟩:=ev2 (m:=m) (k:=k) hl;simp [execOp,e1,e2,eqGuard_add,binOp_add,Op.intArith,Zdx h1 h2],rfl⟩
theorem OpY.sub (h1:-9223372036854775808≤m-k) (h2:m-k≤9223372036854775807):OpY P B0 A Ω Γ ⟨dst,.binOp .sub t x y u,ty,pos,aft,gd⟩ (I (m-k)):=
 OpY.val fun a w hl=>⟨.int .i64 (m-k),by obtain ⟨e1,e2⟩:=ev2 (m:=m) (k:=k) hl;simp [execOp,e1,e2,eqGuard_sub,binOp_sub,Op.intArith,Zdx h1 h2],rfl⟩
theorem OpY.mul (h1:-9223372036854775808≤m*k) (h2:m*k≤9223372036854775807):OpY P B0 A Ω Γ ⟨dst,.binOp .mul t x y u,ty,pos,aft,gd⟩ (I (m*k)):=
 OpY.val fun a w hl=>⟨.int .i64 (m*k),by obtain ⟨e1,e2⟩:=ev2 (m:=m) (k:=k) hl;simp [execOp,e1,e2,eqGuard_mul,binOp_mul,Op.intArith,Zdx h1 h2],rfl⟩
theorem OpY.lss:OpY P B0 A Ω Γ ⟨dst,.binOp .lss t x y u,ty,pos,aft,gd⟩ (B (decide (m<k))):=
 OpY.val fun a w hl=>⟨.bool (decide (m<k)),by obtain ⟨e1,e2⟩:=ev2 (m:=m) (k:=k) hl;simp [execOp,e1,e2,eqGuard_lss,binOp_lss],rfl⟩
theorem OpY.leq:OpY P B0 A Ω Γ ⟨dst,.binOp .leq t x y u,ty,pos,aft,gd⟩ (B (decide (m≤k))):=
 OpY.val fun a w hl=>⟨.bool (decide (m≤k)),by obtain ⟨e1,e2⟩:=ev2 (m:=m) (k:=k) hl;simp [execOp,e1,e2,eqGuard_leq,binOp_leq],rfl⟩
theorem OpY.gtr:OpY P B0 A Ω Γ ⟨dst,.binOp .gtr t x y u,ty,pos,aft,gd⟩ (B (decide (m>k))):=
 OpY.val fun a w hl=>⟨.bool (decide (m>k)),by obtain ⟨e1,e2⟩:=ev2 (m:=m) (k:=k) hl;simp [execOp,e1,e2,eqGuard_gtr,binOp_gtr],rfl⟩
theorem OpY.geq:OpY P B0 A Ω Γ ⟨dst,.binOp .geq t x y u,ty,pos,aft,gd⟩ (B (decide (m≥k))):=
 OpY.val fun a w hl=>⟨.bool (decide (m≥k)),by obtain ⟨e1,e2⟩:=ev2 (m:=m) (k:=k) hl;simp [execOp,e1,e2,eqGuard_geq,binOp_geq],rfl⟩
theorem OpY.eql:OpY P B0 A Ω Γ ⟨dst,.binOp .eql t x y u,ty,pos,aft,gd⟩ (B (decide (m=k))):=
 OpY.val fun a w hl=>⟨.bool (decide (m=k)),by obtain ⟨e1,e2⟩:=ev2 (m:=m) (k:=k) hl;simp [execOp,e1,e2,eqGuard_at_int,binOp_eql];rfl,rfl⟩
theorem OpY.neq:OpY P B0 A Ω Γ ⟨dst,.binOp .neq t x y u,ty,pos,aft,gd⟩ (B (decide (m≠k))):=
 OpY.val fun a w hl=>⟨.bool (decide (m≠k)),by obtain ⟨e1,e2⟩:=ev2 (m:=m) (k:=k) hl;simp [execOp,e1,e2,eqGuard_at_int,binOp_neq];rfl,rfl⟩
theorem OpY.quo (h1:0≤m) (h2:m≤9223372036854775807) (h3:0<k):OpY P B0 A Ω Γ ⟨dst,.binOp .quo t x y u,ty,pos,aft,gd⟩ (I (m/k)):=
 OpY.val fun a w hl=>⟨.int .i64 (m/k),by
  obtain ⟨e1,e2⟩:=ev2 (m:=m) (k:=k) hl;have h4:m/k≤m:=Int.ediv_le_self _ h1;have h5:0≤m/k:=Int.ediv_nonneg h1 (by omega);have h6:m.tdiv k=m/k:=Int.tdiv_eq_ediv_of_nonneg h1;have e3:IntKind.i64.wrap (m.tdiv k)=m/k:=by rw [h6];exact Zdx (by omega) (by omega)
  have h7:¬ k=0:=by omega
  simp only [execOp,e1,e2,eqGuard_quo,binOp_quo,Op.intDiv,h7,if_false,e3,Sem.run_bind,Sem.run_pure,Result.andThen_ok],rfl⟩
theorem OpY.rem (h1:0≤m) (h3:0<k):OpY P B0 A Ω Γ ⟨dst,.binOp .rem t x y u,ty,pos,aft,gd⟩ (I (m % k)):=
 OpY.val fun a w hl=>⟨.int .i64 (m % k),by
  obtain ⟨e1,e2⟩:=ev2 (m:=m) (k:=k) hl;have e3:m.tmod k=m % k:=Int.tmod_eq_emod_of_nonneg h1;have h7:¬ k=0:=by omega
  simp only [execOp,e1,e2,eqGuard_rem,binOp_rem,Op.intDiv,h7,if_false,e3,Sem.run_bind,Sem.run_pure,Result.andThen_ok],rfl⟩
end int
class AsCnt (τ:Ty) (s:outParam Int):Prop where
 ex:∀ A w v,τ.p A w v→∃ K,v=.int K s
instance {x:UInt64}:AsCnt (U64 x) x.toNat:=⟨fun _ _ _ h=>⟨_,h⟩⟩
theorem Zlj (z:Int):IntKind.u8.wrap z=z % 256:=by simp [IntKind.wrap,IntKind.bits,IntKind.signed]
theorem ZlH (x:UInt8):x.toNat<256:=x.toNat_lt
theorem bvU8 (x:UInt8):BitVec.ofInt 8 (x.toNat:Int)=x.toBitVec:=by
 apply BitVec.eq_of_toNat_eq;have:=ZlH x;simp
theorem bvbU8 (x:UInt8):BitVec.ofInt IntKind.u8.bits (x.toNat:Int)=x.toBitVec:=bvU8 x
theorem ofIntU8 (z:Int):((UInt8.ofInt z).toNat:Int)=z % 256:=by
 unfold UInt8.ofInt;have h1:0≤z % 256:=Int.emod_nonneg _ (by decide);have h2:z % 256<256:=Int.emod_lt_of_pos _ (by decide);rw [UInt8.toNat_ofNat'];rw [show ((2:Int) ^ 8)=256 by decide,show ((2:Nat) ^ 8)=256 by decide,Nat.mod_eq_of_lt (by omega)];omega
section u8
variable {x y:Operand} {τ σ:Ty} {t u:TypeId} {m n:UInt8} [hsx:Has Γ x τ] [hx:AsU8 τ m] [hsy:Has Γ y σ] [hy:AsU8 σ n]
include hsx hx hsy hy
theorem evU8 {op:BinOp} {a:Act} {w:World} (hl:∀ s,.tmp s∈(Op.binOp op t x y u).operands.toList→(Γ s).p A w (a.tmps.getD s undef)) :
  a.eval x=.int .u8 m.toNat∧a.eval y=.int .u8 n.toNat:=
 ⟨hx.le _ _ _ (Zt (τ:=τ) (op:=.binOp op t x y u) (by simp [Op.operands]) hl),hy.le _ _ _ (Zt (τ:=σ) (op:=.binOp op t x y u) (by simp [Op.operands]) hl)⟩
theorem OpY.or8:OpY P B0 A Ω Γ ⟨dst,.binOp .or t x y u,ty,pos,aft,gd⟩ (U8 (m ||| n)):=
 OpY.val fun a w hl=>⟨.int .u8 (m ||| n).toNat,by
  obtain ⟨e1,e2⟩:=evU8 (m:=m) (n:=n) hl;have:=ZlH (m ||| n);have e3:IntKind.u8.wrap ((m.toBitVec ||| n.toBitVec).toNat:Int)=((m ||| n).toNat:Int):=by
   rw [Zlj,← UInt8.toBitVec_or];show (((m ||| n).toNat:Nat):Int) % 256=_;omega
  simp only [execOp,e1,e2,eqGuard_or,binOp_or,Op.intBits,bvbU8,Sem.run_bind,Sem.run_pure,Result.andThen_ok];exact congrArg (fun z=>Result.ok (Next.value (Value.int .u8 z)) w) e3,rfl⟩
theorem OpY.andNot8:OpY P B0 A Ω Γ ⟨dst,.binOp .andNot t x y u,ty,pos,aft,gd⟩ (U8 (m &&& ~~~n)):=
 OpY.val fun a w hl=>⟨.int .u8 (m &&& ~~~n).toNat,by
  obtain ⟨e1,e2⟩:=evU8 (m:=m) (n:=n) hl;have:=ZlH (m &&& ~~~n);have e3:IntKind.u8.wrap ((m.toBitVec &&& ~~~n.toBitVec).toNat:Int)=((m &&& ~~~n).toNat:Int):=by
   rw [Zlj,← UInt8.toBitVec_not,← UInt8.toBitVec_and];show (((m &&& ~~~n).toNat:Nat):Int) % 256=_;omega
  simp only [execOp,e1,e2,eqGuard_andNot,binOp_andNot,Op.intBits,bvbU8,Sem.run_bind,Sem.run_pure,Result.andThen_ok];exact congrArg (fun z=>Result.ok (Next.value (Value.int .u8 z)) w) e3,rfl⟩
theorem OpY.sub8:OpY P B0 A Ω Γ ⟨dst,.binOp .sub t x y u,ty,pos,aft,gd⟩ (U8 (m-n)):=
 OpY.val fun a w hl=>⟨.int .u8 (m-n).toNat,by
  obtain ⟨e1,e2⟩:=evU8 (m:=m) (n:=n) hl;have h1:=ZlH m;have h2:=ZlH n;have e3:IntKind.u8.wrap ((m.toNat:Int)-(n.toNat:Int))=((m-n).toNat:Int):=by
   rw [Zlj,UInt8.toNat_sub,show ((2:Nat) ^ 8)=256 by decide];omega
  simp only [execOp,e1,e2,eqGuard_sub,binOp_sub,Op.intArith,e3,Sem.run_bind,Sem.run_pure,Result.andThen_ok],rfl⟩
theorem OpY.lss8:OpY P B0 A Ω Γ ⟨dst,.binOp .lss t x y u,ty,pos,aft,gd⟩ (B (decide (m<n))):=
 OpY.val fun a w hl=>⟨.bool (decide (m<n)),by
  obtain ⟨e1,e2⟩:=evU8 (m:=m) (n:=n) hl;have e3:decide ((m.toNat:Int)<n.toNat)=decide (m<n):=by rw [decide_eq_decide,UInt8.lt_iff_toNat_lt];omega
  simp only [execOp,e1,e2,eqGuard_lss,binOp_lss,e3,Sem.run_bind,Sem.run_pure,Result.andThen_ok],rfl⟩
theorem OpY.gtr8:OpY P B0 A Ω Γ ⟨dst,.binOp .gtr t x y u,ty,pos,aft,gd⟩ (B (decide (n<m))):=
 OpY.val fun a w hl=>⟨.bool (decide (n<m)),by
  obtain ⟨e1,e2⟩:=evU8 (m:=m) (n:=n) hl;have e3:decide ((m.toNat:Int)>n.toNat)=decide (n<m):=by rw [decide_eq_decide,UInt8.lt_iff_toNat_lt];omega
  simp only [execOp,e1,e2,eqGuard_gtr,binOp_gtr,e3,Sem.run_bind,Sem.run_pure,Result.andThen_ok],rfl⟩
theorem OpY.eql8:OpY P B0 A Ω Γ ⟨dst,.binOp .eql t x y u,ty,pos,aft,gd⟩ (B (decide (m=n))):=
 OpY.val fun a w hl=>⟨.bool (decide (m=n)),by
  obtain ⟨e1,e2⟩:=evU8 (m:=m) (n:=n) hl;have e3:((m.toNat:Int)=(n.toNat:Int))↔m=n:=by rw [Int.natCast_inj,UInt8.toNat_inj]
  have e4:((m.toNat:Int) == (n.toNat:Int))=decide (m=n):=by rw [Bool.eq_iff_iff];simp only [beq_iff_eq,e3,decide_eq_true_eq]
  simp only [execOp,e1,e2,eqGuard_at_int,binOp_eql,e4,Sem.run_bind,Sem.run_pure,Result.andThen_ok],rfl⟩
theorem Zl7:OpY P B0 A Ω Γ ⟨dst,.binOp .neq t x y u,ty,pos,aft,gd⟩ (B (decide (m≠n))):=
 OpY.val fun a w hl=>⟨.bool (decide (m≠n)),by
  obtain ⟨e1,e2⟩:=evU8 (m:=m) (n:=n) hl;have e3:((m.toNat:Int)=(n.toNat:Int))↔m=n:=by rw [Int.natCast_inj,UInt8.toNat_inj]
  have e4:((m.toNat:Int) == (n.toNat:Int))=decide (m=n):=by rw [Bool.eq_iff_iff];simp only [beq_iff_eq,e3,decide_eq_true_eq]
  simp only [execOp,e1,e2,eqGuard_at_int,binOp_neq,e4,bne,decide_not,Sem.run_bind,Sem.run_pure,Result.andThen_ok],rfl⟩
end u8
section un8
variable {x:Operand} {τ:Ty} {t:TypeId} {m:UInt8} [hsx:Has Γ x τ] [hx:AsU8 τ m]
include hsx hx
theorem OpY.not8:OpY P B0 A Ω Γ ⟨dst,.unOp .xor t x,ty,pos,aft,gd⟩ (U8 (~~~m)):=
 OpY.val fun a w hl=>⟨.int .u8 (~~~m).toNat,by
  have e1:a.eval x=.int .u8 m.toNat:=hx.le _ _ _ (Zt (τ:=τ) (op:=.unOp .xor t x) (by simp [Op.operands]) hl);have e3:IntKind.u8.wrap ((BitVec.ofInt 8 IntKind.u8.max ^^^ m.toBitVec).toNat:Int)=((~~~m).toNat:Int):=by
   have h0:BitVec.ofInt 8 IntKind.u8.max=BitVec.allOnes 8:=by decide
   rw [Zlj,h0,BitVec.allOnes_xor,← UInt8.toBitVec_not];have:=ZlH (~~~m);show (((~~~m).toNat:Nat):Int) % 256=_;omega
  simp only [execOp,e1,Op.unary,Op.intBits,bvbU8,Sem.run_bind,Sem.run_pure,Result.andThen_ok];exact congrArg (fun z=>Result.ok (Next.value (Value.int .u8 z)) w) e3,rfl⟩
end un8
section sh8
variable {x y:Operand} {τ σ:Ty} {t u:TypeId} {m:UInt8} {s:Int} [hsx:Has Γ x τ] [hx:AsU8 τ m] [hsy:Has Γ y σ] [hy:AsCnt σ s]
include hsx hx hsy hy
theorem evS8 {op:BinOp} {a:Act} {w:World} (hl:∀ s,.tmp s∈(Op.binOp op t x y u).operands.toList→(Γ s).p A w (a.tmps.getD s undef)) :
  a.eval x=.int .u8 m.toNat∧∃ K,a.eval y=.int K s:=
 ⟨hx.le _ _ _ (Zt (τ:=τ) (op:=.binOp op t x y u) (by simp [Op.operands]) hl),hy.ex _ _ _ (Zt (τ:=σ) (op:=.binOp op t x y u) (by simp [Op.operands]) hl)⟩
theorem OpY.shr8 (h:0≤s):OpY P B0 A Ω Γ ⟨dst,.binOp .shr t x y u,ty,pos,aft,gd⟩ (U8 (UInt8.ofNat (m.toNat/2 ^ s.toNat))):=
 OpY.val fun a w hl=>⟨.int .u8 (UInt8.ofNat (m.toNat/2 ^ s.toNat)).toNat,by
  obtain ⟨e1,K,e2⟩:=evS8 (m:=m) (s:=s) hl;have h1:=ZlH m;have e3:((m.toNat:Int).fdiv (2 ^ (min s.toNat IntKind.u8.bits)))=((UInt8.ofNat (m.toNat/2 ^ s.toNat)).toNat:Int):=by
   have hlt:m.toNat/2 ^ s.toNat<256:=Nat.lt_of_le_of_lt (Nat.div_le_self _ _) h1;rw [UInt8.toNat_ofNat_of_lt' hlt,Int.fdiv_eq_ediv_of_nonneg _ (Int.pow_nonneg (by decide))];rcases Nat.le_total s.toNat 8 with hs | hs
   ·rw [show min s.toNat IntKind.u8.bits=s.toNat from Nat.min_eq_left hs];push_cast;rfl
   ·rw [show min s.toNat IntKind.u8.bits=8 from Nat.min_eq_right hs];have hp:256≤2 ^ s.toNat:=Nat.le_trans (by decide) (Nat.pow_le_pow_right (by decide) hs);rw [Nat.div_eq_of_lt (Nat.lt_of_lt_of_le h1 hp)];rw [show ((2:Int) ^ 8)=256 by decide];omega
  simp only [execOp,e1,e2,eqGuard_shr,binOp_shr,Op.shift];rw [if_neg (by omega)];simp only [e3,Sem.run_bind,Sem.run_pure,Result.andThen_ok],rfl⟩
theorem OpY.shl8 (h:0≤s):OpY P B0 A Ω Γ ⟨dst,.binOp .shl t x y u,ty,pos,aft,gd⟩ (U8 (UInt8.ofNat (m.toNat*2 ^ s.toNat))):=
 OpY.val fun a w hl=>⟨.int .u8 (UInt8.ofNat (m.toNat*2 ^ s.toNat)).toNat,by
  obtain ⟨e1,K,e2⟩:=evS8 (m:=m) (s:=s) hl;have e3:IntKind.u8.wrap ((m.toNat:Int)*2 ^ (min s.toNat IntKind.u8.bits))=((UInt8.ofNat (m.toNat*2 ^ s.toNat)).toNat:Int):=by
   rw [Zlj,UInt8.toNat_ofNat'];rw [show ((2:Nat) ^ 8)=256 by decide];rcases Nat.le_total s.toNat 8 with hs | hs
   ·rw [show min s.toNat IntKind.u8.bits=s.toNat from Nat.min_eq_left hs,Int.natCast_emod,Int.natCast_mul,Int.natCast_pow];rfl
   ·rw [show min s.toNat IntKind.u8.bits=8 from Nat.min_eq_right hs];obtain ⟨d,hd⟩:∃ d,s.toNat=8+d:=⟨s.toNat-8,by omega⟩;rw [hd,Nat.pow_add,show ((2:Nat) ^ 8)=256 by decide,show ((2:Int) ^ 8)=256 by decide,Nat.mul_comm 256,← Nat.mul_assoc,Nat.mul_mod_left];omega
  simp only [execOp,e1,e2,eqGuard_shl,binOp_shl,Op.shift];rw [if_neg (by omega)];simp only [e3,Sem.run_bind,Sem.run_pure,Result.andThen_ok],rfl⟩
end sh8
theorem wrapU16 (z:Int):IntKind.u16.wrap z=z % 65536:=by simp [IntKind.wrap,IntKind.bits,IntKind.signed]
theorem natU16 (x:UInt16):x.toNat<65536:=x.toNat_lt
theorem bvU16 (x:UInt16):BitVec.ofInt 16 (x.toNat:Int)=x.toBitVec:=by
 apply BitVec.eq_of_toNat_eq;have:=natU16 x;simp
theorem bvbU16 (x:UInt16):BitVec.ofInt IntKind.u16.bits (x.toNat:Int)=x.toBitVec:=bvU16 x
theorem ofIntU16 (z:Int):((UInt16.ofInt z).toNat:Int)=z % 65536:=by
 unfold UInt16.ofInt;have h1:0≤z % 65536:=Int.emod_nonneg _ (by decide);have h2:z % 65536<65536:=Int.emod_lt_of_pos _ (by decide);rw [UInt16.toNat_ofNat'];rw [show ((2:Int) ^ 16)=65536 by decide,show ((2:Nat) ^ 16)=65536 by decide,Nat.mod_eq_of_lt (by omega)];omega
section u16
variable {x y:Operand} {τ σ:Ty} {t u:TypeId} {m n:UInt16} [hsx:Has Γ x τ] [hx:AsU16 τ m] [hsy:Has Γ y σ] [hy:AsU16 σ n]
include hsx hx hsy hy
theorem evU16 {op:BinOp} {a:Act} {w:World} (hl:∀ s,.tmp s∈(Op.binOp op t x y u).operands.toList→(Γ s).p A w (a.tmps.getD s undef)) :
  a.eval x=.int .u16 m.toNat∧a.eval y=.int .u16 n.toNat:=
 ⟨hx.le _ _ _ (Zt (τ:=τ) (op:=.binOp op t x y u) (by simp [Op.operands]) hl),hy.le _ _ _ (Zt (τ:=σ) (op:=.binOp op t x y u) (by simp [Op.operands]) hl)⟩
theorem OpY.or16:OpY P B0 A Ω Γ ⟨dst,.binOp .or t x y u,ty,pos,aft,gd⟩ (U16 (m ||| n)):=
 OpY.val fun a w hl=>⟨.int .u16 (m ||| n).toNat,by
  obtain ⟨e1,e2⟩:=evU16 (m:=m) (n:=n) hl;have:=natU16 (m ||| n);have e3:IntKind.u16.wrap ((m.toBitVec ||| n.toBitVec).toNat:Int)=((m ||| n).toNat:Int):=by
   rw [wrapU16,← UInt16.toBitVec_or];show (((m ||| n).toNat:Nat):Int) % 65536=_;omega
  simp only [execOp,e1,e2,eqGuard_or,binOp_or,Op.intBits,bvbU16,Sem.run_bind,Sem.run_pure,Result.andThen_ok];exact congrArg (fun z=>Result.ok (Next.value (Value.int .u16 z)) w) e3,rfl⟩
theorem OpY.eql16:OpY P B0 A Ω Γ ⟨dst,.binOp .eql t x y u,ty,pos,aft,gd⟩ (B (decide (m=n))):=
 OpY.val fun a w hl=>⟨.bool (decide (m=n)),by
  obtain ⟨e1,e2⟩:=evU16 (m:=m) (n:=n) hl;have e3:((m.toNat:Int)=(n.toNat:Int))↔m=n:=by rw [Int.natCast_inj,UInt16.toNat_inj]
  have e4:((m.toNat:Int) == (n.toNat:Int))=decide (m=n):=by rw [Bool.eq_iff_iff];simp only [beq_iff_eq,e3,decide_eq_true_eq]
  simp only [execOp,e1,e2,eqGuard_at_int,binOp_eql,e4,Sem.run_bind,Sem.run_pure,Result.andThen_ok],rfl⟩
end u16
section sh16
variable {x y:Operand} {τ σ:Ty} {t u:TypeId} {m:UInt16} {s:Int} [hsx:Has Γ x τ] [hx:AsU16 τ m] [hsy:Has Γ y σ] [hy:AsCnt σ s]
include hsx hx hsy hy
theorem evS16 {op:BinOp} {a:Act} {w:World} (hl:∀ s,.tmp s∈(Op.binOp op t x y u).operands.toList→(Γ s).p A w (a.tmps.getD s undef)) :
  a.eval x=.int .u16 m.toNat∧∃ K,a.eval y=.int K s:=
 ⟨hx.le _ _ _ (Zt (τ:=τ) (op:=.binOp op t x y u) (by simp [Op.operands]) hl),hy.ex _ _ _ (Zt (τ:=σ) (op:=.binOp op t x y u) (by simp [Op.operands]) hl)⟩
theorem OpY.shr16 (h:0≤s):OpY P B0 A Ω Γ ⟨dst,.binOp .shr t x y u,ty,pos,aft,gd⟩ (U16 (UInt16.ofNat (m.toNat/2 ^ s.toNat))):=
 OpY.val fun a w hl=>⟨.int .u16 (UInt16.ofNat (m.toNat/2 ^ s.toNat)).toNat,by
  obtain ⟨e1,K,e2⟩:=evS16 (m:=m) (s:=s) hl;have h1:=natU16 m;have e3:((m.toNat:Int).fdiv (2 ^ (min s.toNat IntKind.u16.bits)))=((UInt16.ofNat (m.toNat/2 ^ s.toNat)).toNat:Int):=by
   have hlt:m.toNat/2 ^ s.toNat<65536:=Nat.lt_of_le_of_lt (Nat.div_le_self _ _) h1;rw [UInt16.toNat_ofNat_of_lt' hlt,Int.fdiv_eq_ediv_of_nonneg _ (Int.pow_nonneg (by decide))];rcases Nat.le_total s.toNat 16 with hs | hs
   ·rw [show min s.toNat IntKind.u16.bits=s.toNat from Nat.min_eq_left hs];push_cast;rfl
   ·rw [show min s.toNat IntKind.u16.bits=16 from Nat.min_eq_right hs];have hp:65536≤2 ^ s.toNat:=Nat.le_trans (by decide) (Nat.pow_le_pow_right (by decide) hs);rw [Nat.div_eq_of_lt (Nat.lt_of_lt_of_le h1 hp)];rw [show ((2:Int) ^ 16)=65536 by decide];omega
  simp only [execOp,e1,e2,eqGuard_shr,binOp_shr,Op.shift];rw [if_neg (by omega)];simp only [e3,Sem.run_bind,Sem.run_pure,Result.andThen_ok],rfl⟩
theorem OpY.shl16 (h:0≤s):OpY P B0 A Ω Γ ⟨dst,.binOp .shl t x y u,ty,pos,aft,gd⟩ (U16 (UInt16.ofNat (m.toNat*2 ^ s.toNat))):=
 OpY.val fun a w hl=>⟨.int .u16 (UInt16.ofNat (m.toNat*2 ^ s.toNat)).toNat,by
  obtain ⟨e1,K,e2⟩:=evS16 (m:=m) (s:=s) hl;have e3:IntKind.u16.wrap ((m.toNat:Int)*2 ^ (min s.toNat IntKind.u16.bits))=((UInt16.ofNat (m.toNat*2 ^ s.toNat)).toNat:Int):=by
   rw [wrapU16,UInt16.toNat_ofNat'];rw [show ((2:Nat) ^ 16)=65536 by decide];rcases Nat.le_total s.toNat 16 with hs | hs
   ·rw [show min s.toNat IntKind.u16.bits=s.toNat from Nat.min_eq_left hs,Int.natCast_emod,Int.natCast_mul,Int.natCast_pow];rfl
   ·rw [show min s.toNat IntKind.u16.bits=16 from Nat.min_eq_right hs];obtain ⟨d,hd⟩:∃ d,s.toNat=16+d:=⟨s.toNat-16,by omega⟩;rw [hd,Nat.pow_add,show ((2:Nat) ^ 16)=65536 by decide,show ((2:Int) ^ 16)=65536 by decide,Nat.mul_comm 65536,← Nat.mul_assoc,Nat.mul_mod_left];omega
  simp only [execOp,e1,e2,eqGuard_shl,binOp_shl,Op.shift];rw [if_neg (by omega)];simp only [e3,Sem.run_bind,Sem.run_pure,Result.andThen_ok],rfl⟩
end sh16
theorem Zl8 (z:Int):IntKind.u32.wrap z=z % 4294967296:=by simp [IntKind.wrap,IntKind.bits,IntKind.signed]
theorem Zlo (x:UInt32):x.toNat<4294967296:=x.toNat_lt
theorem bvU32 (x:UInt32):BitVec.ofInt 32 (x.toNat:Int)=x.toBitVec:=by
 apply BitVec.eq_of_toNat_eq;have:=Zlo x;simp
theorem bvbU32 (x:UInt32):BitVec.ofInt IntKind.u32.bits (x.toNat:Int)=x.toBitVec:=bvU32 x
section u32
variable {x y:Operand} {τ σ:Ty} {t u:TypeId} {m n:UInt32} [hsx:Has Γ x τ] [hx:AsU32 τ m] [hsy:Has Γ y σ] [hy:AsU32 σ n]
include hsx hx hsy hy
theorem evU32 {op:BinOp} {a:Act} {w:World} (hl:∀ s,.tmp s∈(Op.binOp op t x y u).operands.toList→(Γ s).p A w (a.tmps.getD s undef)) :
  a.eval x=.int .u32 m.toNat∧a.eval y=.int .u32 n.toNat:=
 ⟨hx.le _ _ _ (Zt (τ:=τ) (op:=.binOp op t x y u) (by simp [Op.operands]) hl),hy.le _ _ _ (Zt (τ:=σ) (op:=.binOp op t x y u) (by simp [Op.operands]) hl)⟩
theorem OpY.and32:OpY P B0 A Ω Γ ⟨dst,.binOp .and t x y u,ty,pos,aft,gd⟩ (U32 (m &&& n)):=
 OpY.val fun a w hl=>⟨.int .u32 (m &&& n).toNat,by
  obtain ⟨e1,e2⟩:=evU32 (m:=m) (n:=n) hl;have:=Zlo (m &&& n);have e3:IntKind.u32.wrap ((m.toBitVec &&& n.toBitVec).toNat:Int)=((m &&& n).toNat:Int):=by
   rw [Zl8,← UInt32.toBitVec_and];show (((m &&& n).toNat:Nat):Int) % 4294967296=_;omega
  simp only [execOp,e1,e2,eqGuard_and,binOp_and,Op.intBits,bvbU32,Sem.run_bind,Sem.run_pure,Result.andThen_ok];exact congrArg (fun z=>Result.ok (Next.value (Value.int .u32 z)) w) e3,rfl⟩
theorem OpY.xor32:OpY P B0 A Ω Γ ⟨dst,.binOp .xor t x y u,ty,pos,aft,gd⟩ (U32 (m ^^^ n)):=
 OpY.val fun a w hl=>⟨.int .u32 (m ^^^ n).toNat,by
  obtain ⟨e1,e2⟩:=evU32 (m:=m) (n:=n) hl;have:=Zlo (m ^^^ n);have e3:IntKind.u32.wrap ((m.toBitVec ^^^ n.toBitVec).toNat:Int)=((m ^^^ n).toNat:Int):=by
   rw [Zl8,← UInt32.toBitVec_xor];show (((m ^^^ n).toNat:Nat):Int) % 4294967296=_;omega
  simp only [execOp,e1,e2,eqGuard_xor,binOp_xor,Op.intBits,bvbU32,Sem.run_bind,Sem.run_pure,Result.andThen_ok];exact congrArg (fun z=>Result.ok (Next.value (Value.int .u32 z)) w) e3,rfl⟩
theorem OpY.mul32:OpY P B0 A Ω Γ ⟨dst,.binOp .mul t x y u,ty,pos,aft,gd⟩ (U32 (m*n)):=
 OpY.val fun a w hl=>⟨.int .u32 (m*n).toNat,by
  obtain ⟨e1,e2⟩:=evU32 (m:=m) (n:=n) hl;have h1:=Zlo m;have h2:=Zlo n;have e3:IntKind.u32.wrap ((m.toNat:Int)*(n.toNat:Int))=((m*n).toNat:Int):=by
   rw [Zl8,UInt32.toNat_mul,show ((2:Nat) ^ 32)=4294967296 by decide];rw [Int.natCast_emod,Int.natCast_mul];rfl
  simp only [execOp,e1,e2,eqGuard_mul,binOp_mul,Op.intArith,e3,Sem.run_bind,Sem.run_pure,Result.andThen_ok],rfl⟩
end u32
section un32
variable {x:Operand} {τ:Ty} {t:TypeId} {m:UInt32} [hsx:Has Γ x τ] [hx:AsU32 τ m]
include hsx hx
theorem OpY.not32:OpY P B0 A Ω Γ ⟨dst,.unOp .xor t x,ty,pos,aft,gd⟩ (U32 (~~~m)):=
 OpY.val fun a w hl=>⟨.int .u32 (~~~m).toNat,by
  have e1:a.eval x=.int .u32 m.toNat:=hx.le _ _ _ (Zt (τ:=τ) (op:=.unOp .xor t x) (by simp [Op.operands]) hl);have e3:IntKind.u32.wrap ((BitVec.ofInt 32 IntKind.u32.max ^^^ m.toBitVec).toNat:Int)=((~~~m).toNat:Int):=by
   have h0:BitVec.ofInt 32 IntKind.u32.max=BitVec.allOnes 32:=by decide
   rw [Zl8,h0,BitVec.allOnes_xor,← UInt32.toBitVec_not];have:=Zlo (~~~m);show (((~~~m).toNat:Nat):Int) % 4294967296=_;omega
  simp only [execOp,e1,Op.unary,Op.intBits,bvbU32,Sem.run_bind,Sem.run_pure,Result.andThen_ok];exact congrArg (fun z=>Result.ok (Next.value (Value.int .u32 z)) w) e3,rfl⟩
end un32
section sh32
variable {x y:Operand} {τ σ:Ty} {t u:TypeId} {m:UInt32} {s:Int} [hsx:Has Γ x τ] [hx:AsU32 τ m] [hsy:Has Γ y σ] [hy:AsCnt σ s]
include hsx hx hsy hy
theorem evS32 {op:BinOp} {a:Act} {w:World} (hl:∀ s,.tmp s∈(Op.binOp op t x y u).operands.toList→(Γ s).p A w (a.tmps.getD s undef)) :
  a.eval x=.int .u32 m.toNat∧∃ K,a.eval y=.int K s:=
 ⟨hx.le _ _ _ (Zt (τ:=τ) (op:=.binOp op t x y u) (by simp [Op.operands]) hl),hy.ex _ _ _ (Zt (τ:=σ) (op:=.binOp op t x y u) (by simp [Op.operands]) hl)⟩
theorem OpY.shr32 (h:0≤s):OpY P B0 A Ω Γ ⟨dst,.binOp .shr t x y u,ty,pos,aft,gd⟩ (U32 (UInt32.ofNat (m.toNat/2 ^ s.toNat))):=
 OpY.val fun a w hl=>⟨.int .u32 (UInt32.ofNat (m.toNat/2 ^ s.toNat)).toNat,by
  obtain ⟨e1,K,e2⟩:=evS32 (m:=m) (s:=s) hl;have h1:=Zlo m;have e3:((m.toNat:Int).fdiv (2 ^ (min s.toNat IntKind.u32.bits)))=((UInt32.ofNat (m.toNat/2 ^ s.toNat)).toNat:Int):=by
   have hlt:m.toNat/2 ^ s.toNat<4294967296:=Nat.lt_of_le_of_lt (Nat.div_le_self _ _) h1;rw [UInt32.toNat_ofNat_of_lt' hlt,Int.fdiv_eq_ediv_of_nonneg _ (Int.pow_nonneg (by decide))];rcases Nat.le_total s.toNat 32 with hs | hs
   ·rw [show min s.toNat IntKind.u32.bits=s.toNat from Nat.min_eq_left hs];push_cast;rfl
   ·rw [show min s.toNat IntKind.u32.bits=32 from Nat.min_eq_right hs];have hp:4294967296≤2 ^ s.toNat:=Nat.le_trans (by decide) (Nat.pow_le_pow_right (by decide) hs);rw [Nat.div_eq_of_lt (Nat.lt_of_lt_of_le h1 hp)];rw [show ((2:Int) ^ 32)=4294967296 by decide];omega
  simp only [execOp,e1,e2,eqGuard_shr,binOp_shr,Op.shift];rw [if_neg (by omega)];simp only [e3,Sem.run_bind,Sem.run_pure,Result.andThen_ok],rfl⟩
end sh32
theorem ZkI (z:Int):IntKind.u64.wrap z=z % 18446744073709551616:=by simp [IntKind.wrap,IntKind.bits,IntKind.signed]
theorem natU64 (x:UInt64):x.toNat<18446744073709551616:=x.toNat_lt
theorem bvU64 (x:UInt64):BitVec.ofInt 64 (x.toNat:Int)=x.toBitVec:=by
 apply BitVec.eq_of_toNat_eq;have:=natU64 x;simp
theorem bvbU64 (x:UInt64):BitVec.ofInt IntKind.u64.bits (x.toNat:Int)=x.toBitVec:=bvU64 x
theorem ofIntU64 (z:Int):((UInt64.ofInt z).toNat:Int)=z % 18446744073709551616:=by
 unfold UInt64.ofInt;have h1:0≤z % 18446744073709551616:=Int.emod_nonneg _ (by decide);have h2:z % 18446744073709551616<18446744073709551616:=Int.emod_lt_of_pos _ (by decide);rw [UInt64.toNat_ofNat'];rw [show ((2:Int) ^ 64)=18446744073709551616 by decide,show ((2:Nat) ^ 64)=18446744073709551616 by decide,Nat.mod_eq_of_lt (by omega)];omega
section u64
variable {x y:Operand} {τ σ:Ty} {t u:TypeId} {m n:UInt64} [hsx:Has Γ x τ] [hx:AsU64 τ m] [hsy:Has Γ y σ] [hy:AsU64 σ n]
include hsx hx hsy hy
theorem evU64 {op:BinOp} {a:Act} {w:World} (hl:∀ s,.tmp s∈(Op.binOp op t x y u).operands.toList→(Γ s).p A w (a.tmps.getD s undef)) :
  a.eval x=.int .u64 m.toNat∧a.eval y=.int .u64 n.toNat:=
 ⟨hx.le _ _ _ (Zt (τ:=τ) (op:=.binOp op t x y u) (by simp [Op.operands]) hl),hy.le _ _ _ (Zt (τ:=σ) (op:=.binOp op t x y u) (by simp [Op.operands]) hl)⟩
theorem OpY.or64:OpY P B0 A Ω Γ ⟨dst,.binOp .or t x y u,ty,pos,aft,gd⟩ (U64 (m ||| n)):=
 OpY.val fun a w hl=>⟨.int .u64 (m ||| n).toNat,by
  obtain ⟨e1,e2⟩:=evU64 (m:=m) (n:=n) hl;have:=natU64 (m ||| n);have e3:IntKind.u64.wrap ((m.toBitVec ||| n.toBitVec).toNat:Int)=((m ||| n).toNat:Int):=by
   rw [ZkI,← UInt64.toBitVec_or];show (((m ||| n).toNat:Nat):Int) % 18446744073709551616=_;omega
  simp only [execOp,e1,e2,eqGuard_or,binOp_or,Op.intBits,bvbU64,Sem.run_bind,Sem.run_pure,Result.andThen_ok];exact congrArg (fun z=>Result.ok (Next.value (Value.int .u64 z)) w) e3,rfl⟩
theorem ZiH:OpY P B0 A Ω Γ ⟨dst,.binOp .add t x y u,ty,pos,aft,gd⟩ (U64 (m+n)):=
 OpY.val fun a w hl=>⟨.int .u64 (m+n).toNat,by
  obtain ⟨e1,e2⟩:=evU64 (m:=m) (n:=n) hl;have h1:=natU64 m;have h2:=natU64 n;have e3:IntKind.u64.wrap ((m.toNat:Int)+(n.toNat:Int))=((m+n).toNat:Int):=by
   rw [ZkI,UInt64.toNat_add,show ((2:Nat) ^ 64)=18446744073709551616 by decide];omega
  simp only [execOp,e1,e2,eqGuard_add,binOp_add,Op.intArith,e3,Sem.run_bind,Sem.run_pure,Result.andThen_ok],rfl⟩
theorem OpY.lss64:OpY P B0 A Ω Γ ⟨dst,.binOp .lss t x y u,ty,pos,aft,gd⟩ (B (decide (m<n))):=
 OpY.val fun a w hl=>⟨.bool (decide (m<n)),by
  obtain ⟨e1,e2⟩:=evU64 (m:=m) (n:=n) hl;have e3:decide ((m.toNat:Int)<n.toNat)=decide (m<n):=by rw [decide_eq_decide,UInt64.lt_iff_toNat_lt];omega
  simp only [execOp,e1,e2,eqGuard_lss,binOp_lss,e3,Sem.run_bind,Sem.run_pure,Result.andThen_ok],rfl⟩
theorem OpY.gtr64:OpY P B0 A Ω Γ ⟨dst,.binOp .gtr t x y u,ty,pos,aft,gd⟩ (B (decide (n<m))):=
 OpY.val fun a w hl=>⟨.bool (decide (n<m)),by
  obtain ⟨e1,e2⟩:=evU64 (m:=m) (n:=n) hl;have e3:decide ((m.toNat:Int)>n.toNat)=decide (n<m):=by rw [decide_eq_decide,UInt64.lt_iff_toNat_lt];omega
  simp only [execOp,e1,e2,eqGuard_gtr,binOp_gtr,e3,Sem.run_bind,Sem.run_pure,Result.andThen_ok],rfl⟩
theorem ZkA:OpY P B0 A Ω Γ ⟨dst,.binOp .geq t x y u,ty,pos,aft,gd⟩ (B (decide (n≤m))):=
 OpY.val fun a w hl=>⟨.bool (decide (n≤m)),by
  obtain ⟨e1,e2⟩:=evU64 (m:=m) (n:=n) hl;have e3:decide ((m.toNat:Int)≥n.toNat)=decide (n≤m):=by rw [decide_eq_decide,UInt64.le_iff_toNat_le];omega
  simp only [execOp,e1,e2,eqGuard_geq,binOp_geq,e3,Sem.run_bind,Sem.run_pure,Result.andThen_ok],rfl⟩
theorem ZmR:OpY P B0 A Ω Γ ⟨dst,.binOp .eql t x y u,ty,pos,aft,gd⟩ (B (decide (m=n))):=
 OpY.val fun a w hl=>⟨.bool (decide (m=n)),by
  obtain ⟨e1,e2⟩:=evU64 (m:=m) (n:=n) hl;have e3:((m.toNat:Int)=(n.toNat:Int))↔m=n:=by rw [Int.natCast_inj,UInt64.toNat_inj]
  have e4:((m.toNat:Int) == (n.toNat:Int))=decide (m=n):=by rw [Bool.eq_iff_iff];simp only [beq_iff_eq,e3,decide_eq_true_eq]
  simp only [execOp,e1,e2,eqGuard_at_int,binOp_eql,e4,Sem.run_bind,Sem.run_pure,Result.andThen_ok],rfl⟩
theorem OpY.neq64:OpY P B0 A Ω Γ ⟨dst,.binOp .neq t x y u,ty,pos,aft,gd⟩ (B (decide (m≠n))):=
 OpY.val fun a w hl=>⟨.bool (decide (m≠n)),by
  obtain ⟨e1,e2⟩:=evU64 (m:=m) (n:=n) hl;have e3:((m.toNat:Int)=(n.toNat:Int))↔m=n:=by rw [Int.natCast_inj,UInt64.toNat_inj]
  have e4:((m.toNat:Int) == (n.toNat:Int))=decide (m=n):=by rw [Bool.eq_iff_iff];simp only [beq_iff_eq,e3,decide_eq_true_eq]
  simp only [execOp,e1,e2,eqGuard_at_int,binOp_neq,e4,bne,decide_not,Sem.run_bind,Sem.run_pure,Result.andThen_ok],rfl⟩
end u64
section sh64
variable {x y:Operand} {τ σ:Ty} {t u:TypeId} {m:UInt64} {s:Int} [hsx:Has Γ x τ] [hx:AsU64 τ m] [hsy:Has Γ y σ] [hy:AsCnt σ s]
include hsx hx hsy hy
theorem evS64 {op:BinOp} {a:Act} {w:World} (hl:∀ s,.tmp s∈(Op.binOp op t x y u).operands.toList→(Γ s).p A w (a.tmps.getD s undef)) :
  a.eval x=.int .u64 m.toNat∧∃ K,a.eval y=.int K s:=
 ⟨hx.le _ _ _ (Zt (τ:=τ) (op:=.binOp op t x y u) (by simp [Op.operands]) hl),hy.ex _ _ _ (Zt (τ:=σ) (op:=.binOp op t x y u) (by simp [Op.operands]) hl)⟩
theorem OpY.shr64 (h:0≤s):OpY P B0 A Ω Γ ⟨dst,.binOp .shr t x y u,ty,pos,aft,gd⟩ (U64 (UInt64.ofNat (m.toNat/2 ^ s.toNat))):=
 OpY.val fun a w hl=>⟨.int .u64 (UInt64.ofNat (m.toNat/2 ^ s.toNat)).toNat,by
  obtain ⟨e1,K,e2⟩:=evS64 (m:=m) (s:=s) hl;have h1:=natU64 m;have e3:((m.toNat:Int).fdiv (2 ^ (min s.toNat IntKind.u64.bits)))=((UInt64.ofNat (m.toNat/2 ^ s.toNat)).toNat:Int):=by
   have hlt:m.toNat/2 ^ s.toNat<18446744073709551616:=Nat.lt_of_le_of_lt (Nat.div_le_self _ _) h1;rw [UInt64.toNat_ofNat_of_lt' hlt,Int.fdiv_eq_ediv_of_nonneg _ (Int.pow_nonneg (by decide))];rcases Nat.le_total s.toNat 64 with hs | hs
   ·rw [show min s.toNat IntKind.u64.bits=s.toNat from Nat.min_eq_left hs];push_cast;rfl
   ·rw [show min s.toNat IntKind.u64.bits=64 from Nat.min_eq_right hs];have hp:18446744073709551616≤2 ^ s.toNat:=Nat.le_trans (by decide) (Nat.pow_le_pow_right (by decide) hs);rw [Nat.div_eq_of_lt (Nat.lt_of_lt_of_le h1 hp)];rw [show ((2:Int) ^ 64)=18446744073709551616 by decide];omega
  simp only [execOp,e1,e2,eqGuard_shr,binOp_shr,Op.shift];rw [if_neg (by omega)];simp only [e3,Sem.run_bind,Sem.run_pure,Result.andThen_ok],rfl⟩
theorem OpY.shl64 (h:0≤s):OpY P B0 A Ω Γ ⟨dst,.binOp .shl t x y u,ty,pos,aft,gd⟩ (U64 (UInt64.ofNat (m.toNat*2 ^ s.toNat))):=
 OpY.val fun a w hl=>⟨.int .u64 (UInt64.ofNat (m.toNat*2 ^ s.toNat)).toNat,by
  obtain ⟨e1,K,e2⟩:=evS64 (m:=m) (s:=s) hl;have e3:IntKind.u64.wrap ((m.toNat:Int)*2 ^ (min s.toNat IntKind.u64.bits))=((UInt64.ofNat (m.toNat*2 ^ s.toNat)).toNat:Int):=by
   rw [ZkI,UInt64.toNat_ofNat'];rw [show ((2:Nat) ^ 64)=18446744073709551616 by decide];rcases Nat.le_total s.toNat 64 with hs | hs
   ·rw [show min s.toNat IntKind.u64.bits=s.toNat from Nat.min_eq_left hs,Int.natCast_emod,Int.natCast_mul,Int.natCast_pow];rfl
   ·rw [show min s.toNat IntKind.u64.bits=64 from Nat.min_eq_right hs];obtain ⟨d,hd⟩:∃ d,s.toNat=64+d:=⟨s.toNat-64,by omega⟩;rw [hd,Nat.pow_add,show ((2:Nat) ^ 64)=18446744073709551616 by decide,show ((2:Int) ^ 64)=18446744073709551616 by decide,Nat.mul_comm 18446744073709551616,← Nat.mul_assoc,Nat.mul_mod_left];omega
  simp only [execOp,e1,e2,eqGuard_shl,binOp_shl,Op.shift];rw [if_neg (by omega)];simp only [e3,Sem.run_bind,Sem.run_pure,Result.andThen_ok],rfl⟩
end sh64
end ops
end Go.Proofs.YtkmojgfenlgchaaGreatDoor.Tr
namespace Go.Proofs.YtkmojgfenlgchaaGreatDoor.Tr
open Go Go.RowKit
class TSl (P:Program) (t:TypeId) (e:outParam TypeId):Prop where
 h:P.underlying t=some (.slice e)
class TIn (P:Program) (t:TypeId) (k:outParam IntKind):Prop where
 h:P.underlying t=some (.int k)
class TStr (P:Program) (t:TypeId):Prop where
 h:P.underlying t=some .string
class TDat (P:Program) (t:TypeId) (α:outParam Type) (i:outParam (Dat α)):Prop where
 ag:∀ w,(isAgg t).run P w=.ok (Dat.agg α) w
 sz:∀ w,(sizeOf t).run P w=.ok (Dat.sz α) w
class TFld (P:Program) (t:TypeId) (f:Nat) (u:outParam TypeId) (off:outParam Nat):Prop where
 h:∃ fs fl,P.underlying t=some (.struct fs)∧fs[f]?=some fl∧fl.type=u∧fl.offset=off
class AsD (τ:Ty) (α:outParam Type) (i:outParam (Dat α)) (x:outParam α):Prop where
 le:τ.le (D x)
instance {α:Type} [i:Dat α] {x:α}:AsD (D x) α i x:=⟨Ty.le.refl _⟩
instance {p:Prop} {τ:Ty} {α:Type} {i:Dat α} {x:α} [h:Ft p] [k:AsD τ α i x]:AsD (ZgN p τ) α i x:=⟨fun A w v y=>k.le A w v (y.1 h.h)⟩
class AsL (τ:Ty) (α:outParam Type) (i:outParam (Dat α)) (x:outParam (List α)):Prop where
 le:τ.le (D x)
instance {α:Type} [i:Dat α] {x:List α}:AsL (D x) α i x:=⟨Ty.le.refl _⟩
instance {p:Prop} {τ:Ty} {α:Type} {i:Dat α} {x:List α} [h:Ft p] [k:AsL τ α i x]:AsL (ZgN p τ) α i x:=⟨fun A w v y=>k.le A w v (y.1 h.h)⟩
class AsPtr (τ:Ty) (α:outParam Type) (i:outParam (Dat α)) (x:outParam α):Prop where
 le:τ.le (ZlO x)
instance {α:Type} [i:Dat α] {x:α}:AsPtr (ZlO x) α i x:=⟨Ty.le.refl _⟩
instance {p:Prop} {τ:Ty} {α:Type} {i:Dat α} {x:α} [h:Ft p] [k:AsPtr τ α i x]:AsPtr (ZgN p τ) α i x:=⟨fun A w v y=>k.le A w v (y.1 h.h)⟩
theorem Zg6 {P:Program} {w:World} {b off:Nat} (cs:List Value):∀ (k i:Nat) (acc:Array Value),i+k=cs.length→Zi9 w b off cs→
  (loadCellsFrom ⟨b,off,none⟩ i k acc).run P w=.ok (acc++(cs.drop i).toArray) w
 | 0,i,acc,h,_=>by
  have:cs.drop i=[]:=List.drop_eq_nil_of_le (by omega);simp [loadCellsFrom,this]
 | k+1,i,acc,h,hr=>by
  have hi:i<cs.length:=by omega
  have hc:=hr i hi;have ha:Addr.add ⟨b,off,none⟩ i=⟨b,off+i,none⟩:=by
   unfold Addr.add;split
   ·subst_vars;rfl
   ·rfl
  have hd:cs.drop i=cs.getD i undef::cs.drop (i+1):=by
   rw [List.drop_eq_getElem_cons hi,List.getD_eq_getElem?_getD,List.getElem?_eq_getElem hi];rfl
  unfold loadCellsFrom;rw [Sem.run_bind,ha,run_load,hc];simp only [Result.andThen_ok];rw [Zg6 cs k (i+1) _ (by omega) hr,hd];simp
theorem Zfp {P:Program} {w:World} {b off:Nat} {cs:List Value} (h:Zi9 w b off cs):(loadCells ⟨b,off,none⟩ cs.length).run P w=.ok cs.toArray w:=by
 unfold loadCells;rw [Zg6 cs cs.length 0 #[] (by omega) h];simp
theorem Zjy {P:Program} {w:World} {t:TypeId} {α:Type} [i:Dat α] [T:TDat P t α i] {A:Nat→Prop} {b off:Nat} {cs:List Value} {x:α} (h:Zi9 w b off cs) (hr:Dat.rd A w cs x) :
  (loadVar t ⟨b,off,none⟩).run P w=.ok (mkV α cs) w:=by
 unfold loadVar mkV;rw [Sem.run_bind,T.ag];simp only [Result.andThen_ok];cases ha:Dat.agg α with
 | true=>
  simp only [if_true];rw [Sem.run_bind,T.sz];simp only [Result.andThen_ok];rw [← Dat.len hr,Sem.run_bind,Zfp h];rfl
 | false=>
  simp only [Bool.false_eq_true,if_false];have hl:0<cs.length:=by rw [Dat.len hr];exact Dat.pos
  have:=h 0 hl;simp only [Nat.add_zero] at this;rw [run_load,this]
section
variable {P:Program} {B0:Nat} {A:Nat→Prop} {Ω:List Pe} {Γ:Env} {dst:Option Tmp} {ty:TypeId} {pos:String} {aft:Array Edge} {gd:Option (Nat×Bool)}
theorem OpY.load {t:TypeId} {x:Operand} {τ:Ty} {α:Type} {i:Dat α} {v:α} [Has Γ x τ] [hx:AsPtr τ α i v] [T:TDat P t α i] :
  OpY P B0 A Ω Γ ⟨dst,.load t x,ty,pos,aft,gd⟩ (D v):=
 OpY.val fun a w hl=>by
  obtain ⟨b,off,cs,h1,h2,h3,h4⟩:=hx.le _ _ _ (Zt (x:=x) (τ:=τ) (op:=.load t x) (by simp [Op.operands]) hl);refine ⟨mkV α cs,?_,cs,h4,rfl⟩;simp only [execOp,Instr.loadAt,h1,Instr.sureAddr,Sem.run_bind,Sem.run_pure,Result.andThen_ok];rw [Zjy (t:=t) h3 h4];simp only [Result.andThen_ok]
theorem Za0 (b off n:Nat):Addr.add ⟨b,off,none⟩ n=⟨b,off+n,none⟩:=by
 unfold Addr.add;split
 ·subst_vars;rfl
 ·rfl
theorem OpY.indexAddr {t e:TypeId} {x y:Operand} {τ σ:Ty} {α:Type} {i:Dat α} {xs:List α} {k:Int} {v:α} [Has Γ x τ] [hx:AsL τ α i xs] [Has Γ y σ] [hy:AsIx σ k] [S:TSl P t e] [T:TDat P e α i]
  (h0:0≤k) (hv:xs[k.toNat]?=some v):OpY P B0 A Ω Γ ⟨dst,.indexAddr t x y,ty,pos,aft,gd⟩ (ZlO v):=
 OpY.val fun a w hl=>by
  obtain ⟨cs,⟨ad,c,h1,h2,h3,h3',h4⟩,h5⟩:=hx.le _ _ _ (Zt (x:=x) (τ:=τ) (op:=.indexAddr t x y) (by simp [Op.operands]) hl);obtain ⟨kd,e2⟩:=hy.h (Zt (x:=y) (τ:=σ) (op:=.indexAddr t x y) (by simp [Op.operands]) hl);subst h1;have e1:a.eval x=.slice ad xs.length c:=h5;obtain ⟨hk,rfl⟩:=List.getElem?_eq_some_iff.1 hv;obtain ⟨b,off,rfl,g2,es,g3,g4⟩:=h4 _ hk;refine ⟨.pointer (some ⟨b,off+k.toNat*Dat.sz α,none⟩),?_,b,_,es,rfl,g2,g3,g4⟩;have hin:0≤k∧k<(xs.length:Int):=by omega
  simp only [execOp,e1,e2,Instr.indexAt,asIntOf,Sem.run_bind,Sem.run_pure,Result.andThen_ok,run_underlying S.h,hin,and_self,if_true,T.sz,Za0]
theorem OpY.len {t:TypeId} {e:TypeId} {x:Operand} {τ:Ty} {α:Type} {i:Dat α} {xs:List α} [Has Γ x τ] [hx:AsL τ α i xs] [S:TSl P t e] :
  OpY P B0 A Ω Γ ⟨dst,.call { callee:=.builtin .len,args:=#[x],argTypes:=#[t] },ty,pos,aft,gd⟩ (I xs.length):=
 OpY.val fun a w hl=>by
  obtain ⟨cs,⟨ad,c,h1,h2,h3,h3',h4⟩,h5⟩:=hx.le _ _ _ (Zt (x:=x) (τ:=τ) (op:=.call { callee:=.builtin .len,args:=#[x],argTypes:=#[t] }) (by simp [Op.operands,Call.operands]) hl);subst h1;have e1:a.eval x=.slice ad xs.length c:=h5;exact ⟨.int .i64 xs.length,by simp [execOp,resolve,invoke,builtin,e1,Builtin.len_,run_underlying S.h,goInt],rfl⟩
theorem OpY.lenNil {t:TypeId} {e:TypeId} {x:Operand} [hs:Has Γ x NilS] [S:TSl P t e] :
  OpY P B0 A Ω Γ ⟨dst,.call { callee:=.builtin .len,args:=#[x],argTypes:=#[t] },ty,pos,aft,gd⟩ (I 0):=
 OpY.val fun a w hl=>by
  have e1:a.eval x=.slice none 0 0:=Zt (x:=x) (τ:=NilS) (op:=.call { callee:=.builtin .len,args:=#[x],argTypes:=#[t] }) (by simp [Op.operands,Call.operands]) hl;exact ⟨.int .i64 0,by simp [execOp,resolve,invoke,builtin,e1,Builtin.len_,run_underlying S.h,goInt],rfl⟩
section conv
variable {s d:TypeId} {x:Operand} {τ:Ty} [hsx:Has Γ x τ]
include hsx
theorem Zei {ks kd:IntKind} {z z':Int} {σ:Ty} (S:P.underlying s=some (.int ks)) (T:P.underlying d=some (.int kd)) (e:∀ w v,τ.p A w v→v=.int ks z) (h:kd.wrap z=z') (hσ:∀ w,σ.p A w (.int kd z')) :
  OpY P B0 A Ω Γ ⟨dst,.convert s d x,ty,pos,aft,gd⟩ σ:=
 OpY.val fun a w hl=>⟨.int kd z',by
  have e:=e w _ (Zt (x:=x) (τ:=τ) (op:=.convert s d x) (by simp [Op.operands]) hl);simp only [execOp,e,convert,Sem.run_bind,run_underlying S,run_underlying T,Result.andThen_ok,Conv.intToInt,Sem.run_pure,h],hσ w⟩
theorem ZlA {m:UInt8} [hx:AsU8 τ m] [S:TIn P s .u8] [T:TIn P d .u16]:OpY P B0 A Ω Γ ⟨dst,.convert s d x,ty,pos,aft,gd⟩ (U16 m.toUInt16):=
 Zei S.h T.h (fun w v h=>hx.le _ w v h) (z':=(m.toUInt16.toNat:Int)) (by rw [wrapU16,UInt8.toNat_toUInt16];have:=ZlH m;omega) (fun _=>rfl)
theorem OpY.conv8_32 {m:UInt8} [hx:AsU8 τ m] [S:TIn P s .u8] [T:TIn P d .u32]:OpY P B0 A Ω Γ ⟨dst,.convert s d x,ty,pos,aft,gd⟩ (U32 m.toUInt32):=
 Zei S.h T.h (fun w v h=>hx.le _ w v h) (z':=(m.toUInt32.toNat:Int)) (by rw [Zl8,UInt8.toNat_toUInt32];have:=ZlH m;omega) (fun _=>rfl)
theorem OpY.conv8_64 {m:UInt8} [hx:AsU8 τ m] [S:TIn P s .u8] [T:TIn P d .u64]:OpY P B0 A Ω Γ ⟨dst,.convert s d x,ty,pos,aft,gd⟩ (U64 m.toUInt64):=
 Zei S.h T.h (fun w v h=>hx.le _ w v h) (z':=(m.toUInt64.toNat:Int)) (by rw [ZkI,UInt8.toNat_toUInt64];have:=ZlH m;omega) (fun _=>rfl)
theorem OpY.conv8_i {m:UInt8} [hx:AsU8 τ m] [S:TIn P s .u8] [T:TIn P d .i64]:OpY P B0 A Ω Γ ⟨dst,.convert s d x,ty,pos,aft,gd⟩ (I m.toNat):=
 Zei S.h T.h (fun w v h=>hx.le _ w v h) (by have:=ZlH m;rw [Zdx (by omega) (by omega)]) (fun _=>rfl)
theorem OpY.convi_8 {z:Int} [hx:AsI τ z] [S:TIn P s .i64] [T:TIn P d .u8]:OpY P B0 A Ω Γ ⟨dst,.convert s d x,ty,pos,aft,gd⟩ (U8 (UInt8.ofInt z)):=
 Zei S.h T.h (fun w v h=>hx.le _ w v h) (by rw [Zlj,ofIntU8]) (fun _=>rfl)
theorem ZlB {m:UInt16} [hx:AsU16 τ m] [S:TIn P s .u16] [T:TIn P d .u8]:OpY P B0 A Ω Γ ⟨dst,.convert s d x,ty,pos,aft,gd⟩ (U8 m.toUInt8):=
 Zei S.h T.h (fun w v h=>hx.le _ w v h) (z':=(m.toUInt8.toNat:Int)) (by rw [Zlj,UInt16.toNat_toUInt8];have:=natU16 m;omega) (fun _=>rfl)
theorem OpY.convi_16 {z:Int} [hx:AsI τ z] [S:TIn P s .i64] [T:TIn P d .u16]:OpY P B0 A Ω Γ ⟨dst,.convert s d x,ty,pos,aft,gd⟩ (U16 (UInt16.ofInt z)):=
 Zei S.h T.h (fun w v h=>hx.le _ w v h) (by rw [wrapU16,ofIntU16]) (fun _=>rfl)
theorem ZkB {m:UInt32} [hx:AsU32 τ m] [S:TIn P s .u32] [T:TIn P d .u64]:OpY P B0 A Ω Γ ⟨dst,.convert s d x,ty,pos,aft,gd⟩ (U64 m.toUInt64):=
 Zei S.h T.h (fun w v h=>hx.le _ w v h) (z':=(m.toUInt64.toNat:Int)) (by rw [ZkI,UInt32.toNat_toUInt64];have:=Zlo m;omega) (fun _=>rfl)
theorem OpY.conv64_8 {m:UInt64} [hx:AsU64 τ m] [S:TIn P s .u64] [T:TIn P d .u8]:OpY P B0 A Ω Γ ⟨dst,.convert s d x,ty,pos,aft,gd⟩ (U8 m.toUInt8):=
 Zei S.h T.h (fun w v h=>hx.le _ w v h) (z':=(m.toUInt8.toNat:Int)) (by rw [Zlj,UInt64.toNat_toUInt8];have:=natU64 m;omega) (fun _=>rfl)
theorem OpY.conv64_i {m:UInt64} [hx:AsU64 τ m] [S:TIn P s .u64] [T:TIn P d .i64] (hm:m.toNat≤9223372036854775807):OpY P B0 A Ω Γ ⟨dst,.convert s d x,ty,pos,aft,gd⟩ (I m.toNat):=
 Zei S.h T.h (fun w v h=>hx.le _ w v h) (by rw [Zdx (by omega) (by omega)]) (fun _=>rfl)
theorem ZiF {z:Int} [hx:AsI τ z] [S:TIn P s .i64] [T:TIn P d .u64]:OpY P B0 A Ω Γ ⟨dst,.convert s d x,ty,pos,aft,gd⟩ (U64 (UInt64.ofInt z)):=
 Zei S.h T.h (fun w v h=>hx.le _ w v h) (by rw [ZkI,ofIntU64]) (fun _=>rfl)
end conv
theorem Zk4.cut {α:Type} [Dat α] {A:Nat→Prop} {w:World} {a:Option Addr} {xs:List α} (h:Zk4 A w a xs) (l r:Nat) (hr:r≤xs.length) :
  Zk4 A w (a.map (·.add (l*Dat.sz α))) ((xs.take r).drop l):=fun i hi=>by
 have hi':l+i<xs.length:=by simp at hi;omega
 obtain ⟨b,off,rfl,h2,es,h3,h4⟩:=h (l+i) hi';refine ⟨b,off+l*Dat.sz α,by simp [Za0],h2,es,?_,?_⟩
 ·rw [Nat.add_assoc,← Nat.add_mul];exact h3
 ·rw [List.getElem_drop,List.getElem_take];exact h4
theorem Zk4.nil {α:Type} [Dat α] {A:Nat→Prop} {w:World} {a:Option Addr}:Zk4 A w a ([]:List α):=fun i hi=>absurd hi (by simp)
section cut
variable {t e:TypeId} {x y z:Operand} {τ σ ρ:Ty} {α:Type} {i:Dat α} {xs:List α} {l r:Int}
theorem ZmF {α:Type} [Dat α] {A:Nat→Prop} {w:World} {ad:Option Addr} {c:Nat} {xs:List α} {l r:Nat} (hl:l≤r) (hr:r≤xs.length) (h2:xs.length≤c) (h3:c≤maxLen) (h3':xs.length≤ZjT) (h4:Zk4 A w ad xs) :
  (D ((xs.take r).drop l)).p A w (.slice (if c=l then ad else ad.map (·.add (l*Dat.sz α))) (r-l) (c-l)):=by
 have hlen:((xs.take r).drop l).length=r-l:=by simp;omega
 refine ⟨[_],⟨_,c-l,by rw [hlen],by rw [hlen];omega,by omega,by rw [hlen];omega,?_⟩,rfl⟩
 split
 ·have:(xs.take r).drop l=[]:=by apply List.eq_nil_of_length_eq_zero;rw [hlen];omega
  rw [this];exact Zk4.nil
 ·exact h4.cut l r hr
theorem OpY.slice2 [hsx:Has Γ x τ] [hx:AsL τ α i xs] [hsy:Has Γ y σ] [hy:AsI σ l] [hsz:Has Γ z ρ] [hz:AsI ρ r] [S:TSl P t e] [T:TDat P e α i]
  (h0:0≤l) (h1:l≤r) (h2:r≤xs.length):OpY P B0 A Ω Γ ⟨dst,.slice t x (some y) (some z) none,ty,pos,aft,gd⟩ (D ((xs.take r.toNat).drop l.toNat)):=
 OpY.val fun a w hl=>by
  obtain ⟨cs,⟨ad,c,g1,g2,g3,g3',g4⟩,g5⟩:=hx.le _ _ _ (Zt (x:=x) (τ:=τ) (op:=.slice t x (some y) (some z) none) (by simp [Op.operands]) hl);have ey:a.eval y=.int .i64 l:=hy.le _ _ _ (Zt (x:=y) (τ:=σ) (op:=.slice t x (some y) (some z) none) (by simp [Op.operands]) hl);have ez:a.eval z=.int .i64 r:=hz.le _ _ _ (Zt (x:=z) (τ:=ρ) (op:=.slice t x (some y) (some z) none) (by simp [Op.operands]) hl);subst g1;have ex:a.eval x=.slice ad xs.length c:=g5;refine ⟨_,?_,ZmF (l:=l.toNat) (r:=r.toNat) (by omega) (by omega) g2 g3 g3' g4⟩;have c1:0≤r∧r≤(c:Int):=by unfold maxLen at g3;omega
  have c2:0≤l∧l≤(r.toNat:Int):=by omega
  simp only [execOp,ex,ey,ez,Instr.sliceAt,Instr.slice,Option.map_some,Option.map_none,Sem.run_bind,run_underlying S.h,Result.andThen_ok,Instr.sliceBounds,Instr.sliceBound,asIntOf,Sem.run_pure,c1,c2,and_self,if_true,T.sz]
theorem OpY.sliceTo [hsx:Has Γ x τ] [hx:AsL τ α i xs] [hsz:Has Γ z ρ] [hz:AsI ρ r] [S:TSl P t e] [T:TDat P e α i]
  (h1:0≤r) (h2:r≤xs.length):OpY P B0 A Ω Γ ⟨dst,.slice t x none (some z) none,ty,pos,aft,gd⟩ (D (xs.take r.toNat)):=
 OpY.val fun a w hl=>by
  obtain ⟨cs,⟨ad,c,g1,g2,g3,g3',g4⟩,g5⟩:=hx.le _ _ _ (Zt (x:=x) (τ:=τ) (op:=.slice t x none (some z) none) (by simp [Op.operands]) hl);have ez:a.eval z=.int .i64 r:=hz.le _ _ _ (Zt (x:=z) (τ:=ρ) (op:=.slice t x none (some z) none) (by simp [Op.operands]) hl);subst g1;have ex:a.eval x=.slice ad xs.length c:=g5;refine ⟨.slice (if c=0 then ad else ad.map (·.add (0*Dat.sz α))) r.toNat c,?_,by simpa using ZmF (l:=0) (r:=r.toNat) (by omega) (by omega) g2 g3 g3' g4⟩;have c1:0≤r∧r≤(c:Int):=by unfold maxLen at g3;omega
  simp only [execOp,ex,ez,Instr.sliceAt,Instr.slice,Option.map_some,Option.map_none,Sem.run_bind,run_underlying S.h,Result.andThen_ok,Instr.sliceBounds,Instr.sliceBound,asIntOf,Sem.run_pure,c1,and_self,if_true,T.sz,Nat.sub_zero]
theorem OpY.sliceFrom [hsx:Has Γ x τ] [hx:AsL τ α i xs] [hsy:Has Γ y σ] [hy:AsI σ l] [S:TSl P t e] [T:TDat P e α i]
  (h0:0≤l) (h1:l≤xs.length):OpY P B0 A Ω Γ ⟨dst,.slice t x (some y) none none,ty,pos,aft,gd⟩ (D (xs.drop l.toNat)):=
 OpY.val fun a w hl=>by
  obtain ⟨cs,⟨ad,c,g1,g2,g3,g3',g4⟩,g5⟩:=hx.le _ _ _ (Zt (x:=x) (τ:=τ) (op:=.slice t x (some y) none none) (by simp [Op.operands]) hl);have ey:a.eval y=.int .i64 l:=hy.le _ _ _ (Zt (x:=y) (τ:=σ) (op:=.slice t x (some y) none none) (by simp [Op.operands]) hl);subst g1;have ex:a.eval x=.slice ad xs.length c:=g5;refine ⟨_,?_,by simpa using ZmF (l:=l.toNat) (r:=xs.length) (by omega) (by omega) g2 g3 g3' g4⟩;have c1:0≤l∧l≤(xs.length:Int):=by omega
  simp only [execOp,ex,ey,Instr.sliceAt,Instr.slice,Option.map_some,Option.map_none,Sem.run_bind,run_underlying S.h,Result.andThen_ok,Instr.sliceBounds,Instr.sliceBound,asIntOf,Sem.run_pure,c1,and_self,if_true,T.sz]
end cut
theorem Ret.yields {w w':World} {τ:Ty} {e:Ending} (hB:B0≤w.heap.size) (h:Ret A w τ e w'):∃ v,e=.returned v∧Grow B0 w w'∧τ.p A w' v:=
 let ⟨v,h1,h2,h3⟩:=h;⟨v,h1,h2.mono hB,h3⟩
class Fun (P:Program) (f:FuncId):Prop where
 h:∀ args w,(callFunc f args).run P w=.ok (.enter f args) w
theorem ZiG {f:FuncId} {xs:Array Operand} {ts:Array TypeId} {τ:Ty} [F:Fun P f]
  (h:∀ (a:Act) w,(∀ k,w.heap.size≤k→A k)→(∀ t,.tmp t∈xs.toList→(Γ t).p A w (a.tmps.getD t undef))→Calls P f (xs.map a.eval) w (Ret A w τ)) :
  OpY P B0 A Ω Γ ⟨dst,.call { callee:=.value (.func f),args:=xs,argTypes:=ts },ty,pos,aft,gd⟩ τ:=fun a w hB hu hp hl=>by
 have h4:=h a w hu fun t ht=>hl t (by
  simp only [Op.operands,Call.operands,Array.toList_append,List.mem_append];exact .inr ht)
 have:(execOp a.eval ⟨dst,.call { callee:=.value (.func f),args:=xs,argTypes:=ts },ty,pos,aft,gd⟩).run P w=.ok (.enter f (xs.map a.eval)) w:=by
  have e1:a.eval (.func f)=.func (.func f) #[] #[]:=rfl;simp only [execOp,resolve,Deferred.ofValue,e1,Sem.run_bind,Sem.run_pure,Result.andThen_ok,invoke,F.h,Array.append_empty,Array.empty_append]
 rw [this];exact ⟨Grow.refl _ _,h4.mono fun e w' hr=>hr.yields hB⟩
theorem OpY.call0 {f:FuncId} {ts:Array TypeId} {τ:Ty} [F:Fun P f]
  (h:∀ w,(∀ k,w.heap.size≤k→A k)→Calls P f #[] w (Ret A w τ)) :
  OpY P B0 A Ω Γ ⟨dst,.call { callee:=.value (.func f),args:=#[],argTypes:=ts },ty,pos,aft,gd⟩ τ:=
 ZiG fun a w hu _=>by rw [Array.map_empty];exact h w hu
theorem Zho {f:FuncId} {ts:Array TypeId} {τ:Ty} [F:Fun P f] {x1:Operand} {τ1 σ1:Ty} [h1:Has Γ x1 τ1] [k1:AsT τ1 σ1]
  (h:∀ w v1,(∀ k,w.heap.size≤k→A k)→σ1.p A w v1→Calls P f #[v1] w (Ret A w τ)) :
  OpY P B0 A Ω Γ ⟨dst,.call { callee:=.value (.func f),args:=#[x1],argTypes:=ts },ty,pos,aft,gd⟩ τ:=
 ZiG fun a w hu hl=>by
  rw [show (#[x1].map a.eval)=#[a.eval x1] by simp];exact h w _ hu (k1.le _ _ _ (h1.le a A w fun t e=>hl t (by simp [e])))
theorem ZkC {f:FuncId} {ts:Array TypeId} {τ:Ty} [F:Fun P f] {x1 x2:Operand} {τ1 σ1 τ2 σ2:Ty} [h1:Has Γ x1 τ1] [k1:AsT τ1 σ1] [h2:Has Γ x2 τ2] [k2:AsT τ2 σ2]
  (h:∀ w v1 v2,(∀ k,w.heap.size≤k→A k)→σ1.p A w v1→σ2.p A w v2→Calls P f #[v1,v2] w (Ret A w τ)) :
  OpY P B0 A Ω Γ ⟨dst,.call { callee:=.value (.func f),args:=#[x1,x2],argTypes:=ts },ty,pos,aft,gd⟩ τ:=
 ZiG fun a w hu hl=>by
  rw [show (#[x1,x2].map a.eval)=#[a.eval x1,a.eval x2] by simp];exact h w _ _ hu (k1.le _ _ _ (h1.le a A w fun t e=>hl t (by simp [e]))) (k2.le _ _ _ (h2.le a A w fun t e=>hl t (by simp [e])))
theorem OpY.call3 {f:FuncId} {ts:Array TypeId} {τ:Ty} [F:Fun P f] {x1 x2 x3:Operand} {τ1 σ1 τ2 σ2 τ3 σ3:Ty} [h1:Has Γ x1 τ1] [k1:AsT τ1 σ1] [h2:Has Γ x2 τ2] [k2:AsT τ2 σ2] [h3:Has Γ x3 τ3] [k3:AsT τ3 σ3]
  (h:∀ w v1 v2 v3,(∀ k,w.heap.size≤k→A k)→σ1.p A w v1→σ2.p A w v2→σ3.p A w v3→Calls P f #[v1,v2,v3] w (Ret A w τ)) :
  OpY P B0 A Ω Γ ⟨dst,.call { callee:=.value (.func f),args:=#[x1,x2,x3],argTypes:=ts },ty,pos,aft,gd⟩ τ:=
 ZiG fun a w hu hl=>by
  rw [show (#[x1,x2,x3].map a.eval)=#[a.eval x1,a.eval x2,a.eval x3] by simp];exact h w _ _ _ hu (k1.le _ _ _ (h1.le a A w fun t e=>hl t (by simp [e]))) (k2.le _ _ _ (h2.le a A w fun t e=>hl t (by simp [e]))) (k3.le _ _ _ (h3.le a A w fun t e=>hl t (by simp [e])))
theorem OpY.call4 {f:FuncId} {ts:Array TypeId} {τ:Ty} [F:Fun P f] {x1 x2 x3 x4:Operand} {τ1 σ1 τ2 σ2 τ3 σ3 τ4 σ4:Ty} [h1:Has Γ x1 τ1] [k1:AsT τ1 σ1] [h2:Has Γ x2 τ2] [k2:AsT τ2 σ2] [h3:Has Γ x3 τ3] [k3:AsT τ3 σ3] [h4:Has Γ x4 τ4] [k4:AsT τ4 σ4]
  (h:∀ w v1 v2 v3 v4,(∀ k,w.heap.size≤k→A k)→σ1.p A w v1→σ2.p A w v2→σ3.p A w v3→σ4.p A w v4→Calls P f #[v1,v2,v3,v4] w (Ret A w τ)) :
  OpY P B0 A Ω Γ ⟨dst,.call { callee:=.value (.func f),args:=#[x1,x2,x3,x4],argTypes:=ts },ty,pos,aft,gd⟩ τ:=
 ZiG fun a w hu hl=>by
  rw [show (#[x1,x2,x3,x4].map a.eval)=#[a.eval x1,a.eval x2,a.eval x3,a.eval x4] by simp];exact h w _ _ _ _ hu (k1.le _ _ _ (h1.le a A w fun t e=>hl t (by simp [e]))) (k2.le _ _ _ (h2.le a A w fun t e=>hl t (by simp [e]))) (k3.le _ _ _ (h3.le a A w fun t e=>hl t (by simp [e]))) (k4.le _ _ _ (h4.le a A w fun t e=>hl t (by simp [e])))
class AsTup (τ:Ty) (τs:outParam (List Ty)):Prop where
 le:τ.le (Tup τs)
instance {τs:List Ty}:AsTup (Tup τs) τs:=⟨Ty.le.refl _⟩
theorem ZjO {x:Operand} {τ σ:Ty} {τs:List Ty} {k:Nat} [Has Γ x τ] [hx:AsTup τ τs] (hk:τs[k]?=some σ) :
  OpY P B0 A Ω Γ ⟨dst,.extract x k,ty,pos,aft,gd⟩ σ:=
 OpY.val fun a w hl=>by
  obtain ⟨vs,h1,h2,h3⟩:=hx.le _ _ _ (Zt (x:=x) (τ:=τ) (op:=.extract x k) (by simp [Op.operands]) hl);obtain ⟨hlt,rfl⟩:=List.getElem?_eq_some_iff.1 hk;have h4:=h3 k hlt;have h5:vs.toArray[k]?=some (vs.getD k undef):=by
   rw [List.getElem?_toArray,List.getD_eq_getElem?_getD,List.getElem?_eq_getElem (by omega)];rfl
  refine ⟨vs.getD k undef,?_,h4⟩;simp only [execOp,h1,Instr.extract,h5,Sem.run_bind,Sem.run_pure,Result.andThen_ok]
end
end Go.Proofs.YtkmojgfenlgchaaGreatDoor.Tr
namespace Go.Proofs.YtkmojgfenlgchaaGreatDoor.Tr
open Go Go.RowKit
theorem Zj6 {a b:List Value} {o n:Nat} (h:o+n≤a.length):seg (a++b) o n=seg a o n:=by
 refine ZaH (by rw [Zv h,Zv (by simp;omega)]) fun j hj=>?_
 rw [Zv (by simp;omega)] at hj;rw [Zab hj,Zab hj];simp [List.getD_eq_getElem?_getD,List.getElem?_append_left (show o+j<a.length by omega)]
theorem seg_right {a b:List Value} {o n:Nat} (h:o+n≤b.length):seg (a++b) (a.length+o) n=seg b o n:=by
 refine ZaH (by rw [Zv h,Zv (by simp;omega)]) fun j hj=>?_
 rw [Zv (by simp;omega)] at hj;rw [Zab hj,Zab hj];simp [List.getD_eq_getElem?_getD,List.getElem?_append_right (show a.length≤a.length+o+j by omega),show a.length+o+j-a.length=o+j by omega]
theorem seg_take {a:List Value} {o n k:Nat} (h:o+n≤k) (hk:k≤a.length):seg (a.take k) o n=seg a o n:=by
 refine ZaH (by rw [Zv (by simp;omega),Zv (by omega)]) fun j hj=>?_
 rw [Zv (by simp;omega)] at hj;rw [Zab hj,Zab hj];simp [List.getD_eq_getElem?_getD,List.getElem?_take_of_lt (show o+j<k by omega)]
theorem seg_setSeg_in {cs:List Value} {o p q:Nat} {vs:List Value} (h:o+vs.length≤cs.length) (hp:p+q≤vs.length):seg (ZU cs o vs) (o+p) q=seg vs p q:=by
 have h1:o+p+q≤(ZU cs o vs).length:=by rw [Zl h];omega
 refine ZaH (by rw [Zv h1,Zv hp]) fun j hj=>?_
 rw [Zv h1] at hj;rw [Zab hj,Zab hj,ZO h,if_pos (by omega)];congr 1;omega
theorem Mut.setCell {w:World} {b i:Nat} {v:Value}:Mut (fun k=>k=b) w (w.setCell ⟨b,i,none⟩ v):=
 ⟨rfl,rfl,rfl,by simp,fun k hk hn=>Below.heap_setCell _ _ _ _ (by simpa using hn)⟩
theorem Blk.setCell {w:World} {b i:Nat} {v:Value} {cs:List Value} (h:Blk w b cs):Blk (w.setCell ⟨b,i,none⟩ v) b (cs.set i v):=by
 obtain ⟨e,f,h,hf⟩:=h;refine ⟨e,f,?_,by simpa using hf⟩;simp only [World.setCell,Array.getElem?_modify,if_true,h,Option.map_some];simp
theorem set_setSeg {cs:List Value} {o:Nat} {v:Value} {vs:List Value} (h:o+(vs.length+1)≤cs.length):ZU (cs.set o v) (o+1) vs=ZU cs o (v::vs):=by
 have h1:o+1+vs.length≤(cs.set o v).length:=by simp;omega
 have h2:o+(v::vs).length≤cs.length:=by simpa using h
 refine ZaH (by rw [Zl h1,Zl h2];simp) fun j hj=>?_
 rw [Zl h1] at hj;rw [ZO h1,ZO h2];simp only [List.length_cons]
 by_cases c1:j=o
 ·subst c1;rw [if_neg (by omega),if_pos (by omega)];simp [List.getD_eq_getElem?_getD,List.getElem?_set_self (show j<cs.length by omega)]
 ·by_cases c2:o+1≤j∧j<o+1+vs.length
  ·rw [if_pos c2,if_pos (by omega)];rw [show j-o=(j-(o+1))+1 by omega];simp [List.getD_eq_getElem?_getD]
  ·rw [if_neg c2,if_neg (by omega)];simp [List.getD_eq_getElem?_getD,List.getElem?_set_ne (show o≠j from fun e=>c1 e.symm)]
theorem Zic {P:Program} {b o:Nat}:∀ (vs:List Value) (i:Nat) (cs:List Value) (w:World),Blk w b cs→o+i+vs.length≤cs.length→(∀ v∈vs,v.oneCell'=true)→
  ∃ w',(storeCells ⟨b,o,none⟩ vs i).run P w=.ok () w'∧Blk w' b (ZU cs (o+i) vs)∧Mut (fun k=>k=b) w w'∧w'.heap.size=w.heap.size
 | [],i,cs,w,hb,_,_=>⟨w,rfl,by simpa [ZU] using hb,Mut.refl _ _,rfl⟩
 | v::vs,i,cs,w,hb,hl,h1=>by
  have hl':o+i+(vs.length+1)≤cs.length:=by simpa using hl
  obtain ⟨w',r1,r2,r3,r4⟩:=Zic (P:=P) (b:=b) (o:=o) vs (i+1) (cs.set (o+i) v) (w.setCell ⟨b,o+i,none⟩ v) hb.setCell (by simp;omega) fun u hu=>h1 u (List.mem_cons_of_mem _ hu)
  refine ⟨w',?_,?_,Mut.setCell.trans r3,by rw [r4];simp⟩
  ·unfold storeCells;rw [Sem.run_bind,Za0,run_store _ _ _ _ _ (h1 v List.mem_cons_self),hb.cell (by omega),hb.free (by omega)];simpa using r1
  ·rw [← Nat.add_assoc,set_setSeg hl'] at r2;exact r2
theorem Zbe {P:Program} {b o:Nat} {vs:List Value} {cs:List Value} {w:World} (hb:Blk w b cs) (hl:o+vs.length≤cs.length) (h1:∀ v∈vs,v.oneCell'=true) :
  ∃ w',(storeCells ⟨b,o,none⟩ vs).run P w=.ok () w'∧Blk w' b (ZU cs o vs)∧Mut (fun k=>k=b) w w'∧w'.heap.size=w.heap.size:=
 Zic vs 0 cs w hb (by omega) h1
theorem Zib {cs:List Value} {a m o n:Nat} (h:o+n≤m) (hm:a+m≤cs.length):seg (seg cs a m) o n=seg cs (a+o) n:=by
 have hl:(seg cs a m).length=m:=Zv hm;refine ZaH (by rw [Zv (by omega),Zv (by omega)]) fun j hj=>?_
 rw [Zv (by omega)] at hj;rw [Zab hj,Zab hj,Zab (by omega)];congr 1;omega
theorem ZlG {cs:List Value} {a m o:Nat} {es:List Value} (h:o+es.length≤m) (hm:a+m≤cs.length):seg (ZU cs (a+o) es) a m=ZU (seg cs a m) o es:=by
 have hl:(seg cs a m).length=m:=Zv hm;have h1:a+o+es.length≤cs.length:=by omega
 have h2:o+es.length≤(seg cs a m).length:=by omega
 refine ZaH (by rw [Zv (by rw [Zl h1];omega),Zl h2,hl]) fun j hj=>?_
 rw [Zv (by rw [Zl h1];omega)] at hj;rw [Zab hj,ZO h1,ZO h2,Zab hj]
 by_cases c:o≤j∧j<o+es.length
 ·rw [if_pos (by omega),if_pos c];congr 1;omega
 ·rw [if_neg (by omega),if_neg c]
theorem seg_two {cs:List Value} {a b:Nat} (h:cs.length=a+b):cs=seg cs 0 a++seg cs a b:=by
 have e1:seg cs 0 a=cs.take a:=by simp [seg]
 have e2:seg cs a b=cs.drop a:=by simp only [seg];exact List.take_of_length_le (by simp;omega)
 rw [e1,e2,List.take_append_drop]
theorem ZcX (α:Type) [Dat α]:(Dat.zc α).length=Dat.sz α:=Dat.len (Dat.zrd (A:=fun _=>True) (w:=default))
instance instProd {α β:Type} [Dat α] [Dat β]:Dat (α×β) where
 agg:=true
 sz:=Dat.sz α+Dat.sz β
 rd A w cs x:=cs.length=Dat.sz α+Dat.sz β∧Dat.rd A w (seg cs 0 (Dat.sz α)) x.1∧Dat.rd A w (seg cs (Dat.sz α) (Dat.sz β)) x.2
 wf x:=Dat.wf x.1∧Dat.wf x.2
 len h:=h.1
 one h:=by cases h
 pos:=by have:=Dat.pos (α:=α);omega
 ok h:=⟨Dat.ok h.2.1,Dat.ok h.2.2⟩
 plain h:=by cases h
 mono k h:=⟨h.1,Dat.mono k h.2.1,Dat.mono k h.2.2⟩
 scal h v hv:=by
  rw [seg_two h.1,List.mem_append] at hv;rcases hv with hv | hv
  ·exact Dat.scal h.2.1 v hv
  ·exact Dat.scal h.2.2 v hv
 z:=(Dat.z,Dat.z)
 zc:=Dat.zc α++Dat.zc β
 zrd {A w}:=⟨by rw [List.length_append,ZcX,ZcX],by
   rw [Zj6 (by rw [ZcX];omega)];have:seg (Dat.zc α) 0 (Dat.sz α)=Dat.zc α:=by rw [← ZcX α];simp [seg]
   rw [this];exact Dat.zrd,by
   have e:=seg_right (a:=Dat.zc α) (b:=Dat.zc β) (o:=0) (n:=Dat.sz β) (by rw [ZcX];omega);rw [ZcX,Nat.add_zero] at e;rw [e];have:seg (Dat.zc β) 0 (Dat.sz β)=Dat.zc β:=by rw [← ZcX β];simp [seg]
   rw [this];exact Dat.zrd⟩
@[reducible] def Dat.iso {α β:Type} [i:Dat β] (f:α→β) (g:β→α) (h:∀ y,f (g y)=y):Dat α where
 agg:=Dat.agg β
 sz:=Dat.sz β
 rd A w cs x:=Dat.rd A w cs (f x)
 wf x:=Dat.wf (f x)
 len h:=Dat.len h
 one h:=Dat.one h
 pos:=Dat.pos
 ok h:=Dat.ok h
 plain h:=Dat.plain h
 mono k h:=Dat.mono k h
 scal h:=Dat.scal h
 z:=g Dat.z
 zc:=Dat.zc β
 zrd:=by intro A w;show Dat.rd A w (Dat.zc β) (f (g Dat.z));rw [h];exact Dat.zrd
class Fld (α:Type) (i:Dat α) (off:Nat) (β:outParam Type) (j:outParam (Dat β)) (get:outParam (α→β)) (set:outParam (β→α→α)):Prop where
 agg:Dat.agg α=true
 le:off+Dat.sz β≤Dat.sz α
 rd:∀ {A w cs x},Dat.rd A w cs x→Dat.rd A w (seg cs off (Dat.sz β)) (get x)
 st:∀ {A w cs x es y},Dat.rd A w cs x→Dat.rd A w es y→Dat.rd A w (ZU cs off es) (set y x)
theorem Fld.fst {α β:Type} [Dat α] [Dat β]:Fld (α×β) inferInstance 0 α inferInstance Prod.fst (fun y x=>(y,x.2)) where
 agg:=rfl
 le:=by show 0+Dat.sz α≤Dat.sz α+Dat.sz β;omega
 rd h:=h.2.1
 st {A w cs x es y} h k:=by
  have l:=Dat.len k;have l1:=h.1;refine ⟨by rw [Zl (by omega)];exact h.1,?_,?_⟩
  ·have e:=ZbH (cs:=cs) (o:=0) (vs:=es) (by omega);rw [l] at e;rw [e];exact k
  ·rw [Zaz (by omega) (by omega) (.inr (by omega))];exact h.2.2
theorem Fld.snd {α β:Type} [Dat α] [Dat β]:Fld (α×β) inferInstance (Dat.sz α) β inferInstance Prod.snd (fun y x=>(x.1,y)) where
 agg:=rfl
 le:=Nat.le_refl _
 rd h:=h.2.2
 st {A w cs x es y} h k:=by
  have l:=Dat.len k;have l1:=h.1;refine ⟨by rw [Zl (by omega)];exact h.1,?_,?_⟩
  ·rw [Zaz (by omega) (by omega) (.inl (by omega))];exact h.2.1
  ·have e:=ZbH (cs:=cs) (o:=Dat.sz α) (vs:=es) (by omega);rw [l] at e;rw [e];exact k
theorem Fld.next {α β γ:Type} [Dat α] [b:Dat β] {j:Dat γ} {off:Nat} {get:β→γ} {set:γ→β→β} (F:Fld β b off γ j get set):Fld (α×β) inferInstance (Dat.sz α+off) γ j (fun x=>get x.2) (fun y x=>(x.1,set y x.2)) where
 agg:=rfl
 le:=by have:=F.le;show Dat.sz α+off+Dat.sz γ≤Dat.sz α+Dat.sz β;omega
 rd {A w cs x} h:=by
  have l1:=h.1;have:=F.le;have k:=F.rd h.2.2
  rwa [Zib (by omega) (by omega)] at k
 st {A w cs x es y} h k:=by
  have l:=Dat.len k;have l1:=h.1;have:=F.le;refine ⟨by rw [Zl (by omega)];exact h.1,?_,?_⟩
  ·rw [Zaz (by omega) (by omega) (.inl (by omega))];exact h.2.1
  ·rw [ZlG (by omega) (by omega)];exact F.st h.2.2 k
theorem Fld.iso {α β γ:Type} [b:Dat β] {j:Dat γ} {f:α→β} {g:β→α} {h:∀ y,f (g y)=y} {off:Nat} {get:β→γ} {set:γ→β→β} (F:Fld β b off γ j get set):Fld α (Dat.iso f g h) off γ j (fun x=>get (f x)) (fun y x=>g (set y (f x))) where
 agg:=F.agg
 le:=F.le
 rd k:=F.rd k
 st {A w cs x es y} k l:=by show Dat.rd A w _ (f (g _));rw [h];exact F.st k l
class ToD (τ:Ty) (α:Type) (i:Dat α) (x:outParam α):Prop where
 le:τ.le (D x)
theorem I_D {n:Int} (h1:-9223372036854775808≤n) (h2:n≤9223372036854775807):(I n).le (D n):=fun _ _ v h=>by
 have h:v=.int .i64 n:=h;subst h;exact ⟨[_],⟨rfl,h1,h2⟩,rfl⟩
theorem U8_D {n:UInt8}:(U8 n).le (D n):=fun _ _ v h=>⟨[_],rfl,h⟩
theorem U16_D {n:UInt16}:(U16 n).le (D n):=fun _ _ v h=>⟨[_],rfl,h⟩
theorem U32_D {n:UInt32}:(U32 n).le (D n):=fun _ _ v h=>⟨[_],rfl,h⟩
theorem U64_D {n:UInt64}:(U64 n).le (D n):=fun _ _ v h=>⟨[_],rfl,h⟩
theorem B_D {n:Bool}:(B n).le (D n):=fun _ _ v h=>⟨[_],rfl,h⟩
instance {α:Type} {i:Dat α} {x:α}:ToD (D x) α i x:=⟨Ty.le.refl _⟩
instance {x:UInt8}:ToD (U8 x) UInt8 inferInstance x:=⟨U8_D⟩
instance {x:UInt16}:ToD (U16 x) UInt16 inferInstance x:=⟨U16_D⟩
instance {x:UInt32}:ToD (U32 x) UInt32 inferInstance x:=⟨U32_D⟩
instance {x:UInt64}:ToD (U64 x) UInt64 inferInstance x:=⟨U64_D⟩
instance {x:Bool}:ToD (B x) Bool inferInstance x:=⟨B_D⟩
instance {x:Int} [h:Ft (ZeD x)]:ToD (I x) Int inferInstance x:=⟨I_D h.h.1 h.h.2⟩
instance {α:Type} {i:Dat α}:ToD NilS (List α) instList []:=⟨NilS.le⟩
instance {p:Prop} {τ:Ty} {α:Type} {i:Dat α} {x:α} [h:Ft p] [k:ToD τ α i x]:ToD (ZgN p τ) α i x:=⟨fun A w v y=>k.le A w v (y.1 h.h)⟩
instance litInt {n:Nat} [h:BoolIs (Nat.ble n 9223372036854775807) true]:Ft (ZeD (no_index (OfNat.ofNat n))):=⟨by
 have:=Nat.le_of_ble_eq_true h.h;show ZeD (n:Int);unfold ZeD;omega⟩
instance :Ft True:=⟨trivial⟩
theorem ZjR {α:Type} [Dat α] {A:Nat→Prop} {w:World} {x:α} {v:Value} (h:(D x).p A w v):∃ cs,v.cells=cs.toArray∧Dat.rd A w cs x:=by
 obtain ⟨cs,h1,rfl⟩:=h;exact ⟨cs,mkV_cells h1,h1⟩
def One {α:Type} [Dat α] (x:α):Ct:=⟨fun A w cs=>Dat.rd A w cs x,fun k h=>Dat.mono k h⟩
def ZaT {α:Type} [Dat α] (A:Nat→Prop) (w:World) (cs:List Value) (xs:List α):Prop:=∀ i (h:i<xs.length),Dat.rd A w (seg cs (i*Dat.sz α) (Dat.sz α)) xs[i]
theorem ZaT.keep {α:Type} [Dat α] {A A':Nat→Prop} {w w':World} {cs:List Value} {xs:List α} (k:Keep A A' w w') (h:ZaT A w cs xs):ZaT A' w' cs xs:=fun i hi=>Dat.mono k (h i hi)
def Row {α:Type} [Dat α] (xs:List α) (c:Nat):Ct:=
 ⟨fun A w cs=>cs.length=c*Dat.sz α∧xs.length≤c∧c≤maxLen∧xs.length≤ZjT∧ZaT A w cs xs,fun k ⟨h1,h2,h3,h4,h5⟩=>⟨h1,h2,h3,h4,h5.keep k⟩⟩
def Pt (b off:Nat):Ty:=Ex (.pointer (some ⟨b,off,none⟩))
def Sl (b:Nat) (pr:Prop) (o n c:Nat):Ty:=⟨fun _ _ v=>(pr∧(n≤c∧c≤maxLen)∧v=.slice (some ⟨b,o,none⟩) n c)∨(¬ pr∧n=0∧c=0∧v=.slice none 0 0),fun _ h=>h⟩
class HasB (Ω:List Pe) (b:Nat) (pr:outParam Prop) (C:outParam Ct):Prop where
 h:(⟨b,pr,C⟩:Pe)∈Ω
instance (priority:=2000) {b:Nat} {pr:Prop} {C:Ct} {Ω:List Pe}:HasB (⟨b,pr,C⟩::Ω) b pr C:=⟨List.mem_cons_self ..⟩
instance {e:Pe} {b:Nat} {pr:Prop} {C:Ct} {Ω:List Pe} [h:HasB Ω b pr C]:HasB (e::Ω) b pr C:=⟨List.mem_cons_of_mem _ h.h⟩
theorem Less.perm {Ω Ω':List Pe} (h:Ω.Perm Ω'):Less Ω Ω' where
 own k:=fun ⟨e,he,h1⟩=>⟨e,h.mem_iff.2 he,h1⟩
 ap hp:=(h.pairwise_iff (fun {x y} hxy p1 p2 he=>hxy p2 p1 he.symm)).1 hp
 ks A w hk:=fun e he=>hk e (h.mem_iff.2 he)
class Split (Ω:List Pe) (bs:List Nat) (Ωs Ωt:outParam (List Pe)):Prop where
 perm:Ω.Perm (Ωs++Ωt)
instance {bs:List Nat}:Split [] bs [] []:=⟨List.Perm.refl _⟩
instance (priority:=500) {e:Pe} {Ω Ωs Ωt:List Pe} {bs:List Nat} [h:Split Ω bs Ωs Ωt]:Split (e::Ω) bs (e::Ωs) Ωt:=⟨h.perm.cons e⟩
instance (priority:=2000) {b:Nat} {pr:Prop} {C:Ct} {Ω Ωs Ωt:List Pe} {bs:List Nat} [InB bs b] [h:Split Ω bs Ωs Ωt]:Split (⟨b,pr,C⟩::Ω) bs Ωs (⟨b,pr,C⟩::Ωt):=⟨(h.perm.cons _).trans List.perm_middle.symm⟩
class Pick (Ω:List Pe) (b:Nat) (pr:outParam Prop) (C:outParam Ct) (Ωr:outParam (List Pe)):Prop where
 perm:Ω.Perm (⟨b,pr,C⟩::Ωr)
instance (priority:=2000) {b:Nat} {pr:Prop} {C:Ct} {Ω:List Pe}:Pick (⟨b,pr,C⟩::Ω) b pr C Ω:=⟨List.Perm.refl _⟩
instance {e:Pe} {b:Nat} {pr:Prop} {C:Ct} {Ω Ωr:List Pe} [h:Pick Ω b pr C Ωr]:Pick (e::Ω) b pr C (e::Ωr):=⟨(h.perm.cons e).trans (List.Perm.swap _ _ _)⟩
section ops
variable {P:Program} {B:Nat} {Ωs Ω:List Pe} {Γ:Env}
theorem ZfB {o:Oper} {κ:Type} {τ:Nat×κ→Ty} {C:κ→Ct} (hg:o.guard=none)
  (h:∀ (A:Nat→Prop) (a:Act) (w:World),(∀ k,w.heap.size≤k→A k)→Pks A (Ωs++Ω) w→(∀ t,.tmp t∈o.op.operands.toList→(Γ t).p A w (a.tmps.getD t undef))→
   ∃ k v q cs e,(execOp a.eval o).run P w=.ok (.value v) (({ w with drawn:=q }:World).alloc (.cells cs.toArray e))∧(∀ A w',(τ (w.heap.size,k)).p A w' v)∧(C k).p A w cs) :
  OpT P B Ωs Ω Γ o τ fun g=>⟨g.1,True,C g.2⟩::Ω:=by
 have key:OpT P B (Ωs++Ω) [] Γ o τ fun g=>[⟨g.1,True,C g.2⟩]:=by
  refine ⟨hg,fun A0 a w hB hu ho ha hk hl=>?_⟩;rw [List.append_nil] at ha hk hl;obtain ⟨k,v,q,cs,e,h1,h2,h3⟩:=h (Pub A0 (Ωs++Ω)) a w (fun k hk'=>ZE.2 ⟨hu k hk',fun ho=>by have:=hk.lt ho;omega⟩) hk hl;rw [h1];have hlt:∀ j,Own (Ωs++Ω) j→j<w.heap.size:=fun j hj=>hk.lt hj
  have hown:∀ j,Own ((Ωs++Ω)++[⟨w.heap.size,True,C k⟩]) j→Own (Ωs++Ω) j∨j=w.heap.size:=fun j hj=>by
   rcases ZP.1 hj with hj | ⟨f,hf,_,hb⟩
   ·exact .inl hj
   ·obtain rfl:=List.mem_singleton.1 hf;exact .inr hb.symm
  have hgr:Grow B w (({ w with drawn:=q }:World).alloc (.cells cs.toArray e)):=(Grow.drawn q).trans (Grow.push _ hB);have hkp:Keep (Pub A0 (Ωs++Ω)) (Pub A0 ((Ωs++Ω)++[⟨w.heap.size,True,C k⟩])) w (({ w with drawn:=q }:World).alloc (.cells cs.toArray e)):=by
   refine ⟨hgr.size,fun j hj hp=>⟨ZE.2 ⟨(ZE.1 hp).1,fun ho=>?_⟩,hgr.cells j hj⟩⟩;rcases hown j ho with ho | ho
   ·exact (ZE.1 hp).2 ho
   ·omega
  refine ⟨(w.heap.size,k),ZdL hgr,fun j ⟨f,hf,_,hb⟩=>?_,?_,h2 _ _,fun f hf _=>?_⟩
  ·obtain rfl:=List.mem_singleton.1 hf;right;simp at hb;omega
  ·refine List.pairwise_append.2 ⟨ha,List.pairwise_singleton _ _,fun x hx y hy hp _ hb=>?_⟩;obtain rfl:=List.mem_singleton.1 hy;have:=hlt _ ⟨x,hx,hp,rfl⟩;simp at hb;omega
  ·obtain rfl:=List.mem_singleton.1 hf;exact ⟨cs,Blk.new rfl,(C k).keep hkp h3⟩
 exact key.frame (Ωt:=[]) (List.Perm.refl _)
theorem OpT.box {t:TypeId} {x:Operand} {d:Tmp} {ty:TypeId} {pos:String} {aft:Array Edge} {τ:Ty} {α:Type} {i:Dat α} {y:α} [T:TDat P t α i] [hx:Has Γ x τ] [hy:ToD τ α i y] :
  OpT P B Ωs Ω Γ ⟨some d,.box t x,ty,pos,aft,none⟩ (fun g:Nat×Unit=>Pt g.1 0) fun g=>⟨g.1,True,One y⟩::Ω:=
 ZfB (C:=fun _=>One y) rfl fun A a w _ _ hl=>by
  obtain ⟨cs,e1,r1⟩:=ZjR (hy.le _ _ _ (Zt (x:=x) (τ:=τ) (op:=.box t x) (by simp [Op.operands]) hl));refine ⟨(),.pointer (some ⟨w.heap.size,0,none⟩),w.drawn,cs,t,?_,fun _ _=>rfl,r1⟩;simp [execOp,Instr.box,newVar,newRow,e1]
theorem OpT.alloc {t:TypeId} {d:Tmp} {ty:TypeId} {pos:String} {aft:Array Edge} {α:Type} {i:Dat α} (T:∃ ti z,P.info? t=some ti∧ti.zero=some z∧z.cells=(Dat.zc α).toArray) :
  OpT P B Ωs Ω Γ ⟨some d,.alloc t,ty,pos,aft,none⟩ (fun g:Nat×Unit=>Pt g.1 0) fun g=>⟨g.1,True,One (Dat.z:α)⟩::Ω:=
 ZfB (C:=fun _=>One (Dat.z:α)) rfl fun A a w _ _ hl=>by
  obtain ⟨ti,z,h1,h2,h3⟩:=T;refine ⟨(),.pointer (some ⟨w.heap.size,0,none⟩),w.drawn,Dat.zc α,t,?_,fun _ _=>rfl,Dat.zrd⟩;simp [execOp,Instr.alloc,zeroValue,typeInfo,h1,h2,newVar,newRow,h3]
end ops
end Go.Proofs.YtkmojgfenlgchaaGreatDoor.Tr
namespace Go.Proofs.YtkmojgfenlgchaaGreatDoor.Tr
open Go Go.RowKit
theorem seg_self {cs:List Value} {n:Nat} (h:cs.length=n):seg cs 0 n=cs:=by subst h;simp [seg]
theorem Zmj {cs vs:List Value} (h:cs.length=vs.length):ZU cs 0 vs=vs:=by
 unfold ZU;rw [Nat.zero_add,← h];simp
class CtAt (C:Ct) (off:Nat) (α:Type) (i:Dat α) (x:outParam α):Prop where
 h:∀ {A w cs},C.p A w cs→off+Dat.sz α≤cs.length∧Dat.rd A w (seg cs off (Dat.sz α)) x
class CtSet (C:Ct) (off:Nat) (α:Type) (i:Dat α) (y:α) (C':outParam Ct):Prop where
 h:∀ {A w cs ds},C.p A w cs→Dat.rd A w ds y→off+Dat.sz α≤cs.length∧C'.p A w (ZU cs off ds)
instance (priority:=2000) {α:Type} {i:Dat α} {x:α}:CtAt (One x) 0 α i x:=⟨fun {A w cs} h=>by
 have h:Dat.rd A w cs x:=h;have l:=Dat.len h;rw [seg_self l];exact ⟨by omega,h⟩⟩
instance (priority:=2000) {α:Type} {i:Dat α} {x y:α}:CtSet (One x) 0 α i y (One y):=⟨fun {A w cs ds} h k=>by
 have h:Dat.rd A w cs x:=h;have l:=Dat.len h;have l2:=Dat.len k;refine ⟨by omega,?_⟩;show Dat.rd A w (ZU cs 0 ds) y;rw [Zmj (by omega)];exact k⟩
theorem Row.at {α:Type} [i:Dat α] {xs:List α} {c j:Nat} (hj:j<xs.length):CtAt (Row xs c) (j*Dat.sz α) α i xs[j]:=⟨fun {A w cs} h=>by
 obtain ⟨h1,h2,h3,h4,h5⟩:=h;exact ⟨by rw [h1,← Nat.succ_mul];exact Nat.mul_le_mul_right _ (by omega),h5 j hj⟩⟩
theorem Row.set {α:Type} [i:Dat α] {xs:List α} {c j:Nat} {y:α} (hj:j<xs.length):CtSet (Row xs c) (j*Dat.sz α) α i y (Row (xs.set j y) c):=⟨fun {A w cs ds} h k=>by
 obtain ⟨h1,h2,h3,h4,h5⟩:=h;have l2:=Dat.len k;have hfit:j*Dat.sz α+Dat.sz α≤cs.length:=by rw [h1,← Nat.succ_mul];exact Nat.mul_le_mul_right _ (by omega)
 refine ⟨hfit,by rw [Zl (by omega)];exact h1,by simpa using h2,h3,by simpa using h4,fun q hq=>?_⟩;simp only [List.length_set] at hq
 by_cases hqj:q=j
 ·subst hqj;have e9:=ZbH (cs:=cs) (o:=q*Dat.sz α) (vs:=ds) (by omega);rw [l2] at e9;rw [e9,List.getElem_set_self];exact k
 ·rw [Zaz (by omega) (by rw [h1,← Nat.succ_mul];exact Nat.mul_le_mul_right _ (by omega)) ?_,List.getElem_set_ne (fun h=>hqj h.symm)]
  ·exact h5 q hq
  ·rcases Nat.lt_or_ge q j with h6 | h6
   ·left;rw [← Nat.succ_mul];exact Nat.mul_le_mul_right _ (by omega)
   ·right;rw [l2,← Nat.succ_mul];exact Nat.mul_le_mul_right _ (by omega)⟩
theorem CtAt.fld {α β:Type} {i:Dat α} {j:Dat β} {C:Ct} {o off:Nat} {get:α→β} {set:β→α→α} {x:α} (h:CtAt C o α i x) (L:Fld α i off β j get set):CtAt C (o+off) β j (get x):=⟨fun {A w cs} hc=>by
 obtain ⟨h1,h2⟩:=h.h hc;have h3:=L.le;have h4:=L.rd h2;rw [Zib (by omega) (by omega)] at h4;exact ⟨by omega,h4⟩⟩
structure Pl (C:Ct) (o:Nat) (α:Type) (i:Dat α) (x:α) (upd:α→Ct):Prop where
 rd:CtAt C o α i x
 st:∀ y,CtSet C o α i y (upd y)
theorem Zx {α:Type} {i:Dat α} {x:α}:Pl (One x) 0 α i x One:=⟨inferInstance,fun y=>inferInstance⟩
theorem Pl.fld {α β:Type} {i:Dat α} {j:Dat β} {C:Ct} {o off:Nat} {get:α→β} {set:β→α→α} {x:α} {upd:α→Ct} (h:Pl C o α i x upd) [L:Fld α i off β j get set]:Pl C (o+off) β j (get x) fun y=>upd (set y x):=
 ⟨h.rd.fld L,fun y=>⟨fun {A w cs ds} hc hd=>by
  obtain ⟨h1,h2⟩:=h.rd.h hc;have l2:=Dat.len hd;have hL:=L.le;obtain ⟨-,g2⟩:=(h.st (set y x)).h hc (L.st h2 hd);refine ⟨by omega,?_⟩;have e:ZU cs o (ZU (seg cs o (Dat.sz α)) off ds)=ZU cs (o+off) ds:=by
   have hl:(seg cs o (Dat.sz α)).length=Dat.sz α:=Zv h1;have hl2:(ZU (seg cs o (Dat.sz α)) off ds).length=Dat.sz α:=by rw [Zl (by omega),hl]
   refine ZaH (by rw [Zl (by omega),Zl (by omega)]) fun j hj=>?_
   rw [Zl (by omega)] at hj;rw [ZO (cs:=cs) (o:=o) (by omega),ZO (cs:=cs) (o:=o+off) (by omega),hl2]
   by_cases c1:o≤j∧j<o+Dat.sz α
   ·rw [if_pos c1,ZO (by omega)]
    by_cases c2:off≤j-o∧j-o<off+ds.length
    ·rw [if_pos c2,if_pos (by omega)];congr 1;omega
    ·rw [if_neg c2,if_neg (by omega),Zab (by omega)];congr 1;omega
   ·rw [if_neg c1,if_neg (by omega)]
  rw [e] at g2;exact g2⟩⟩
def idx {α:Type} (xs:List α) (k:Int):Option α:=if 0≤k then xs[k.toNat]? else none
theorem ZaS {α:Type} {xs:List α} {k:Int} {x:α} (h:idx xs k=some x):0≤k∧xs[k.toNat]?=some x:=by
 unfold idx at h;split at h
 ·exact ⟨‹_›,h⟩
 ·cases h
theorem Zil {α:Type} {xs:List α} {k:Int} {x:α} (h:idx xs k=some x):0≤k∧k<xs.length:=by
 obtain ⟨h1,h2⟩:=ZaS h;have:=(List.getElem?_eq_some_iff.1 h2).1;omega
theorem Pl.row {α:Type} {i:Dat α} {xs:List α} {c:Nat} {k:Int} {x:α} (h:idx xs k=some x):Pl (Row xs c) (k.toNat*Dat.sz α) α i x fun y=>Row (xs.set k.toNat y) c:=by
 obtain ⟨h1,h2⟩:=ZaS h;obtain ⟨h3,h4⟩:=List.getElem?_eq_some_iff.1 h2;subst h4;exact ⟨Row.at h3,fun y=>Row.set h3⟩
def Ct.mix (C:Ct) (o:Nat) (τ:Ty):Ct:=
 ⟨fun A w cs=>∃ cs0 v,C.p A w cs0∧o<cs0.length∧τ.p A w v∧cs=cs0.set o v,fun k ⟨cs0,v,h1,h2,h3,h4⟩=>⟨cs0,v,C.keep k h1,h2,τ.keep k h3,h4⟩⟩
theorem seg_set_other {cs:List Value} {o off n:Nat} {v:Value} (h:o<off∨off+n≤o) (hl:off+n≤cs.length):seg (cs.set o v) off n=seg cs off n:=by
 refine ZaH (by rw [Zv (by simpa using hl),Zv hl]) fun j hj=>?_
 rw [Zv (by simpa using hl)] at hj;rw [Zab hj,Zab hj];simp only [List.getD_eq_getElem?_getD];rw [List.getElem?_set_ne (by omega)]
theorem ZlF {cs ds:List Value} {o off:Nat} {v:Value} (h:o<off∨off+ds.length≤o) (hl:off+ds.length≤cs.length):ZU (cs.set o v) off ds=(ZU cs off ds).set o v:=by
 refine ZaH (by rw [Zl (by simpa using hl),List.length_set,List.length_set,Zl hl]) fun j hj=>?_
 rw [Zl (by simpa using hl),List.length_set] at hj;rw [ZO (by simpa using hl)]
 by_cases hjo:j=o
 ·subst hjo;rw [if_neg (by omega)];simp only [List.getD_eq_getElem?_getD];rw [List.getElem?_set_self (by omega),List.getElem?_set_self (by rw [Zl hl];omega)]
 ·have e1:((ZU cs off ds).set o v).getD j undef=(ZU cs off ds).getD j undef:=by
   simp only [List.getD_eq_getElem?_getD];rw [List.getElem?_set_ne (fun h=>hjo h.symm)]
  have e2:(cs.set o v).getD j undef=cs.getD j undef:=by
   simp only [List.getD_eq_getElem?_getD];rw [List.getElem?_set_ne (fun h=>hjo h.symm)]
  rw [e1,e2,ZO hl]
theorem CtAt.mix {C:Ct} {o off:Nat} {τ:Ty} {α:Type} {i:Dat α} {x:α} (h:CtAt C off α i x) (hd:o<off∨off+Dat.sz α≤o):CtAt (C.mix o τ) off α i x:=⟨fun {A w cs} ⟨cs0,v,h1,h2,h3,h4⟩=>by
 obtain ⟨g1,g2⟩:=h.h h1;subst h4;exact ⟨by simpa using g1,by rw [seg_set_other hd g1];exact g2⟩⟩
theorem CtSet.mix {C C':Ct} {o off:Nat} {τ:Ty} {α:Type} {i:Dat α} {y:α} (h:CtSet C off α i y C') (hd:o<off∨off+Dat.sz α≤o):CtSet (C.mix o τ) off α i y (C'.mix o τ):=⟨fun {A w cs ds} ⟨cs0,v,h1,h2,h3,h4⟩ k=>by
 obtain ⟨g1,g2⟩:=h.h h1 k;have l:=Dat.len k;subst h4;exact ⟨by simpa using g1,ZU cs0 off ds,v,g2,by rw [Zl (by omega)];exact h2,h3,ZlF (by omega) (by omega)⟩⟩
theorem Pl.mix {C:Ct} {o off:Nat} {τ:Ty} {α:Type} {i:Dat α} {x:α} {upd:α→Ct} (h:Pl C off α i x upd) (hd:o<off∨off+Dat.sz α≤o):Pl (C.mix o τ) off α i x fun y=>(upd y).mix o τ:=⟨h.rd.mix hd,fun y=>(h.st y).mix hd⟩
section ops
variable {P:Program} {B0:Nat} {A:Nat→Prop} {Ω:List Pe} {Γ:Env} {dst:Option Tmp} {ty:TypeId} {pos:String} {aft:Array Edge} {gd:Option (Nat×Bool)}
variable {α β:Type} {i:Dat α} {j:Dat β} {t u:TypeId} {f off:Nat} {get:α→β} {set:β→α→α}
theorem ZlT {w:World} {cs:List Value} {x:β} [T:TDat P u β j] (h:Dat.rd A w (seg cs off (Dat.sz β)) x) (hl:off+Dat.sz β≤cs.length):(part u cs.toArray off).run P w=.ok (mkV β (seg cs off (Dat.sz β))) w:=by
 unfold part mkV;rw [Sem.run_bind,T.ag];simp only [Result.andThen_ok];cases ha:Dat.agg β with
 | true=>
  simp only [if_true];rw [Sem.run_bind,T.sz];simp only [Result.andThen_ok,Sem.run_pure];congr 2;simp [seg,List.extract_eq_take_drop]
 | false=>
  simp only [Bool.false_eq_true,if_false];have h1:=Dat.one ha;have hlt:off<cs.length:=by have:=Dat.pos (α:=β);omega
  have e:cs.toArray[off]?=some (cs.getD off undef):=by
   simp [List.getD_eq_getElem?_getD,List.getElem?_eq_getElem hlt]
  rw [e];simp only [Sem.run_pure];rw [Zab (by omega),Nat.add_zero]
theorem run_fieldPlace {w:World} {b o:Nat} {fl:Field} [T:TDat P u β j] (h3:fl.type=u) (h4:fl.offset=off):(fieldPlace ⟨b,o,none⟩ fl).run P w=.ok ⟨b,o+off,none⟩ w:=by
 unfold fieldPlace;rw [Sem.run_bind,h3,T.sz];have:=Dat.pos (α:=β);simp only [Result.andThen_ok];rw [if_neg (by omega),Sem.run_pure,h4,Za0]
theorem rowAt_seg {w:World} {b o n:Nat} {cs:List Value} (h:Zi9 w b o cs) (hl:off+n≤cs.length):Zi9 w b (o+off) (seg cs off n):=fun q hq=>by
 rw [Zv hl] at hq;rw [Zab hq,Nat.add_assoc];exact h _ (by omega)
class FaP (τ:Ty) (α:Type) (off:Nat) (β:Type) (σ:outParam Ty):Prop where
 h:∀ {A w v},τ.p A w v→∃ b o,v=.pointer (some ⟨b,o,none⟩)∧σ.p A w (.pointer (some ⟨b,o+off,none⟩))
instance {x:α} [L:Fld α i off β j get set]:FaP (ZlO x) α off β (ZlO (get x)):=⟨fun {A w v} ⟨b,o,cs,h1,h2,h3,h4⟩=>by
 have hl2:=L.le;have hlen:cs.length=Dat.sz α:=Dat.len h4;exact ⟨b,o,h1,b,o+off,seg cs off (Dat.sz β),rfl,h2,rowAt_seg h3 (by omega),L.rd h4⟩⟩
instance {b o:Nat}:FaP (Pt b o) α off β (Pt b (o+off)):=⟨fun h=>⟨b,o,h,rfl⟩⟩
instance {p:Prop} {τ σ:Ty} [h:Ft p] [k:FaP τ α off β σ]:FaP (ZgN p τ) α off β σ:=⟨fun x=>k.h (x.1 h.h)⟩
theorem ZaX {x:Operand} {τ σ:Ty} [Has Γ x τ] [F:TFld P t f u off] [S:TDat P t α i] [T:TDat P u β j] [k:FaP τ α off β σ] :
  OpY P B0 A Ω Γ ⟨dst,.fieldAddr t x f,ty,pos,aft,gd⟩ σ:=
 OpY.val fun a w hl=>by
  obtain ⟨b,o,h1,h2⟩:=k.h (Zt (x:=x) (τ:=τ) (op:=.fieldAddr t x f) (by simp [Op.operands]) hl);obtain ⟨fs,fl,g1,g2,g3,g4⟩:=F.h;refine ⟨_,?_,h2⟩;simp only [execOp,h1,Instr.fieldAt,Sem.run_bind,run_underlying g1,Result.andThen_ok,g2,Instr.sureAddr,Sem.run_pure,run_fieldPlace (P:=P) (u:=u) g3 g4]
class LdP (Ω:List Pe) (τ:Ty) (α:Type) (i:Dat α) (x:outParam α):Prop where
 h:∀ {A w v},Pks A Ω w→τ.p A w v→∃ b o cs,v=.pointer (some ⟨b,o,none⟩)∧Zi9 w b o cs∧Dat.rd A w cs x
theorem LdP.pt {b o:Nat} {pr:Prop} {C:Ct} {x:α} (hb:HasB Ω b pr C) (hp:pr) (c:CtAt C o α i x):LdP Ω (Pt b o) α i x:=⟨fun {A w v} hk hv=>by
 obtain ⟨cs,h1,h2⟩:=hk _ hb.h hp;obtain ⟨h3,h4⟩:=c.h h2;exact ⟨b,o,_,hv,h1.row h3,h4⟩⟩
instance {b o:Nat} {pr:Prop} {C:Ct} {x:α} [hb:HasB Ω b pr C] [hp:Ft pr] [c:CtAt C o α i x]:LdP Ω (Pt b o) α i x:=LdP.pt hb hp.h c
theorem OpY.ldBy {x:Operand} {τ:Ty} {v:α} [hx:Has Γ x τ] [T:TDat P t α i] (k:LdP Ω τ α i v):OpY P B0 A Ω Γ ⟨dst,.load t x,ty,pos,aft,gd⟩ (D v):=fun a w _ _ hp hl=>by
 obtain ⟨b,o,cs,h1,h2,h3⟩:=k.h hp (Zt (x:=x) (τ:=τ) (op:=.load t x) (by simp [Op.operands]) hl);simp only [execOp,Instr.loadAt,h1,Instr.sureAddr,Sem.run_bind,Sem.run_pure,Result.andThen_ok];rw [Zjy (t:=t) h2 h3];exact ⟨Grow.refl _ _,cs,h3,rfl⟩
theorem run_storeVar {w:World} {b o:Nat} {cs:List Value} {v:Value} {y:α} [T:TDat P t α i] (hb:Blk w b cs) (hl:o+Dat.sz α≤cs.length) (hy:(D y).p A w v) :
  ∃ w' ds,(storeVar t ⟨b,o,none⟩ v).run P w=.ok () w'∧Dat.rd A w ds y∧Blk w' b (ZU cs o ds)∧Mut (fun k=>k=b) w w'∧w'.heap.size=w.heap.size:=by
 obtain ⟨ds,e1,r1⟩:=ZjR hy;have l1:=Dat.len r1;obtain ⟨w',h1,h2,h3,h4⟩:=Zbe (P:=P) hb (by rw [l1];exact hl) (Dat.scal r1);refine ⟨w',ds,?_,r1,h2,h3,h4⟩;unfold storeVar;rw [Sem.run_bind,T.sz];simp only [Result.andThen_ok,e1,List.size_toArray,l1,ne_eq,not_true,if_false];exact h1
end ops
end Go.Proofs.YtkmojgfenlgchaaGreatDoor.Tr
namespace Go.Proofs.YtkmojgfenlgchaaGreatDoor.Tr
open Go Go.RowKit
section
variable {P:Program} {r:Ref} {n:Nat} {Γ:Env} {Ω:List Pe} {Q:Exit→Act→World→Prop}
theorem Zgk {c:Operand} {x y:Code} {τ:Ty} {b:Bool} [hc:Has Γ c τ] [hb:AsB τ b]
  (h1:b=true→TC P r n Γ Ω x Q) (h2:b=false→TC P r n Γ Ω y Q):TC P r n Γ Ω (.cond c x y) Q:=fun a w hs=>by
 have e:a.eval c=.bool b:=hb.le _ _ _ (hc.le a _ w fun t _=>hs.ty t);refine wpIn_cond_split e (fun hb=>h1 hb a w hs) (fun hb=>h2 hb a w hs)
def BE (φ:Bool→Prop):Ty:=⟨fun _ _ v=>∃ b,v=.bool b∧φ b,fun _ h=>h⟩
theorem ZfA {c:Operand} {x y:Code} {φ:Bool→Prop} [hc:Has Γ c (BE φ)]
  (h1:φ true→TC P r n Γ Ω x Q) (h2:φ false→TC P r n Γ Ω y Q):TC P r n Γ Ω (.cond c x y) Q:=fun a w hs=>by
 obtain ⟨b,e,h⟩:=hc.le a _ w fun t _=>hs.ty t
 cases b
 ·exact wpIn_cond_split e (fun x=>by cases x) (fun _=>h2 h a w hs)
 ·exact wpIn_cond_split e (fun _=>h1 h a w hs) (fun x=>by cases x)
theorem Zcg {c:Code} (t:Tmp) {τ:Ty} (σ:Ty) [h:Has Γ (.tmp t) τ] (hp:τ.le σ) (k:TC P r n (Γ.set t σ) Ω c Q):TC P r n Γ Ω c Q:=
 fun a w hs=>k a w (hs.le (Zi7 (h.at.trans hp) (Env.le.refl _)))
theorem ZcF {e:Exit} (t:Tmp) {τ:Ty} (σ:Ty) [h:Has Γ (.tmp t) τ] (hp:τ.le σ) (k:TE r n (Γ.set t σ) Ω Q e):TE r n Γ Ω Q e:=
 fun a w hs=>k a w (hs.le (Zi7 (h.at.trans hp) (Env.le.refl _)))
theorem D_I {n:Int}:(D n).le (I n):=(inferInstance:AsI (D n) n).le
def rvRead (a:Act):ResultVar→Sem Value
 | .tmp t=>pure (a.tmps.getD t undef)
 | .cell s t=>do loadVar t (← asAddr (a.tmps.getD s undef))
theorem ZgB {fn:Func} {xs:List ResultVar} {a:Act} {vs:List Value} {w:World} (hr:fn.results=xs.toArray) (h:(xs.mapM (rvRead a)).run P w=.ok vs w):(results fn a.tmps).run P w=.ok (if h:vs.toArray.size=1 then vs.toArray[0] else .tuple vs.toArray) w:=by
 have e:results fn a.tmps=(do let vs ← fn.results.mapM (rvRead a);pure (if h:vs.size=1 then vs[0] else .tuple vs)):=by
  unfold results;congr 1
 rw [e,hr,Array.mapM_eq_mapM_toList,Sem.run_bind];simp only [map_eq_pure_bind,Sem.run_bind,h,Result.andThen_ok,Sem.run_pure]
class Rv (P:Program) (Γ:Env) (Ω:List Pe) (x:ResultVar) (τ:outParam Ty):Prop where
 h:∀ {A w} {a:Act},(∀ t,(Γ t).p A w (a.tmps.getD t undef))→Pks A Ω w→∃ v,(rvRead a x).run P w=.ok v w∧τ.p A w v
instance {t:Tmp} {τ:Ty} [h:Has Γ (.tmp t) τ]:Rv P Γ Ω (.tmp t) τ:=⟨fun ht _=>⟨_,rfl,h.at _ _ _ (ht t)⟩⟩
instance {s:Tmp} {t:TypeId} {τ:Ty} {α:Type} {i:Dat α} {x:α} [h:Has Γ (.tmp s) τ] [T:TDat P t α i] [k:LdP Ω τ α i x]:Rv P Γ Ω (.cell s t) (D x):=⟨fun ht hk=>by
 obtain ⟨b,o,cs,h1,h2,h3⟩:=k.h hk (h.at _ _ _ (ht s));refine ⟨_,?_,cs,h3,rfl⟩;simp only [rvRead,Sem.run_bind,h1,asAddr,Sem.run_pure,Result.andThen_ok];exact Zjy (t:=t) h2 h3⟩
class Still (r:Ref):Prop where
 h:∀ k,¬ r.S k
 d:r.ds=[]
instance {A:Nat→Prop} {w:World} {hA:∀ k,w.heap.size≤k→A k}:Still (Zja A w hA):=⟨fun _ h=>h,rfl⟩
theorem Stt.out [s:Still r] {a:Act} {w:World} (h:Stt r n Γ Ω a w):Grow r.w.heap.size r.w w:=
 ⟨h.mu.os,h.mu.tape,h.mu.output,h.mu.size,fun k hk=>h.mu.same k hk (s.h k),fun k hk=>by rw [h.mu.same k hk (s.h k)];exact Zed.refl _⟩
theorem Stt.lift {τ:Ty} {a:Act} {w:World} {v:Value} (h:Stt r n Γ Ω a w) (hv:τ.p (Pub r.A Ω) w v):τ.p r.A w v:=τ.keep (Keep.mono fun k _ hk=>(ZE.1 hk).1) hv
theorem leave1 {fn:Func} {x:ResultVar} {τ σ:Ty} [s:Still r] (hr:fn.results=#[x]) [hx:Rv P Γ Ω x τ] (k:τ.le σ) {a:Act} {w:World} (h:Stt r n Γ Ω a w):a.defers=[]∧∃ v,(results fn a.tmps).run P w=.ok v w∧Ret r.A r.w σ (.returned v) w:=by
 obtain ⟨v,h1,h2⟩:=hx.h (a:=a) h.ty h.pv.ks;refine ⟨h.df.trans s.d,v,?_,v,rfl,h.out,k _ _ _ (h.lift h2)⟩;have:=ZgB (P:=P) (a:=a) (xs:=[x]) (vs:=[v]) (w:=w) hr (by rw [List.mapM_cons,Sem.run_bind,h1];simp);simpa using this
theorem ZaV {fn:Func} {x:ResultVar} {τ σ:Ty} [s:Still r] (hr:fn.results=#[x]) [hx:Rv P Γ Ω x τ] (k:τ.le σ):TE r n Γ Ω (bodyPost P fn (Ret r.A r.w σ)) .ret:=fun a w hs=>leave1 hr k hs
class RvL (P:Program) (Γ:Env) (Ω:List Pe) (xs:List ResultVar) (τs:outParam (List Ty)):Prop where
 len:xs.length=τs.length
 h:∀ {A w} {a:Act},(∀ t,(Γ t).p A w (a.tmps.getD t undef))→Pks A Ω w→∃ vs:List Value,(xs.mapM (rvRead a)).run P w=.ok vs w∧vs.length=τs.length∧∀ i (hi:i<τs.length),τs[i].p A w (vs.getD i undef)
instance :RvL P Γ Ω [] []:=⟨rfl,fun _ _=>⟨[],rfl,rfl,fun i hi=>absurd hi (by simp)⟩⟩
instance {x:ResultVar} {xs:List ResultVar} {τ:Ty} {τs:List Ty} [h:Rv P Γ Ω x τ] [k:RvL P Γ Ω xs τs]:RvL P Γ Ω (x::xs) (τ::τs):=⟨by simp [k.len],fun ht hp=>by
 obtain ⟨v,h1,h2⟩:=h.h ht hp;obtain ⟨vs,g1,g2,g3⟩:=k.h ht hp;refine ⟨v::vs,?_,by simp [g2],fun i hi=>?_⟩
 ·rw [List.mapM_cons,Sem.run_bind,h1];simp only [Result.andThen_ok,Sem.run_bind,g1,Sem.run_pure]
 ·cases i with
  | zero=>exact h2
  | succ i=>simpa using g3 i (by simpa using hi)⟩
inductive LeAll:List Ty→List Ty→Prop
 | nil:LeAll [] []
 | cons {τ σ:Ty} {τs σs:List Ty}:τ.le σ→LeAll τs σs→LeAll (τ::τs) (σ::σs)
theorem LeAll.spec:∀ {τs σs:List Ty},LeAll τs σs→τs.length=σs.length∧∀ i (hi:i<τs.length) (hi':i<σs.length),(τs[i]).le σs[i]
 | _,_,.nil=>⟨rfl,fun i hi=>absurd hi (by simp)⟩
 | _,_,.cons h k=>⟨by simp [k.spec.1],fun i hi hi'=>by
   cases i with
   | zero=>exact h
   | succ i=>simpa using k.spec.2 i (by simpa using hi) (by simpa using hi')⟩
theorem leaveN {fn:Func} {xs:List ResultVar} {τs σs:List Ty} [s:Still r] (hr:fn.results=xs.toArray) (hn:(xs.length == 1)=false) [hx:RvL P Γ Ω xs τs] (k:LeAll τs σs) {a:Act} {w:World} (h:Stt r n Γ Ω a w):a.defers=[]∧∃ v,(results fn a.tmps).run P w=.ok v w∧Ret r.A r.w (Tup σs) (.returned v) w:=by
 obtain ⟨vs,h1,h2,h3⟩:=hx.h (a:=a) h.ty h.pv.ks;have hl:=hx.len;have hne:vs.length≠1:=by rw [h2,← hl];simpa using hn
 refine ⟨h.df.trans s.d,.tuple vs.toArray,?_,_,rfl,h.out,vs,rfl,by rw [h2,k.spec.1],fun i hi=>?_⟩
 ·have:=ZgB (P:=P) (a:=a) (w:=w) hr h1;rw [dif_neg (by simpa using hne)] at this;exact this
 ·exact k.spec.2 i (by rw [k.spec.1];exact hi) hi _ _ _ (h.lift (h3 i (by rw [k.spec.1];exact hi)))
theorem ZeL {fn:Func} {xs:List ResultVar} {τs σs:List Ty} [s:Still r] (hr:fn.results=xs.toArray) (hn:(xs.length == 1)=false) [hx:RvL P Γ Ω xs τs] (k:LeAll τs σs):TE r n Γ Ω (bodyPost P fn (Ret r.A r.w (Tup σs))) .ret:=fun a w hs=>leaveN hr hn k hs
theorem Stt.aft {A:Nat→Prop} {w0:World} {Ωt:List Pe} {hA:∀ k,w0.heap.size≤k→A k} {Ω1:List Pe} {τ σ:Ty} {a:Act} {w:World} {v:Value} (h:Stt (Zfg A w0 Ωt hA) n Γ Ω a w) (hl:Less Ω Ω1) (hv:τ.p (Pub A Ω) w v) (k:τ.le σ) :
  Aft w0.heap.size A [] Ωt σ Ω1 w0 w v:=by
 have h2:=h.less hl;have hk:Keep (Pub A Ω) (Pub A Ω1) w w:=Keep.mono fun j _ hj=>ZE.2 ⟨(ZE.1 hj).1,fun ho=>(ZE.1 hj).2 (hl.own j ho)⟩
 exact ⟨Zlc h.mu (Nat.le_refl _),fun j hj=>(h2.pv.own j hj).symm,h2.pv.ap,k _ _ _ (τ.keep hk hv),h2.pv.ks⟩
section
variable {A:Nat→Prop} {w0:World} {Ωt:List Pe} {hA:∀ k,w0.heap.size≤k→A k} {ν:Type} {Ω':ν→List Pe}
theorem leaveO1 {fn:Func} {x:ResultVar} {τ:Ty} {σ:ν→Ty} (hr:fn.results=#[x]) [hx:Rv P Γ Ω x τ] (g:ν) (k:τ.le (σ g)) (hl:Less Ω (Ω' g)) {a:Act} {w:World} (h:Stt (Zfg A w0 Ωt hA) n Γ Ω a w):a.defers=[]∧∃ v,(results fn a.tmps).run P w=.ok v w∧Zld A w0 Ωt σ Ω' (.returned v) w:=by
 obtain ⟨v,h1,h2⟩:=hx.h (a:=a) h.ty h.pv.ks;refine ⟨h.df,v,?_,v,g,rfl,h.aft hl h2 k⟩;have:=ZgB (P:=P) (a:=a) (xs:=[x]) (vs:=[v]) (w:=w) hr (by rw [List.mapM_cons,Sem.run_bind,h1];simp);simpa using this
theorem ZA {fn:Func} {x:ResultVar} {τ:Ty} {σ:ν→Ty} (hr:fn.results=#[x]) [hx:Rv P Γ Ω x τ] (g:ν) (k:τ.le (σ g)) (hl:Less Ω (Ω' g)):TE (Zfg A w0 Ωt hA) n Γ Ω (bodyPost P fn (Zld A w0 Ωt σ Ω')) .ret:=fun a w hs=>leaveO1 hr g k hl hs
theorem leaveON {fn:Func} {xs:List ResultVar} {τs:List Ty} {σs:ν→List Ty} (hr:fn.results=xs.toArray) (hn:(xs.length == 1)=false) [hx:RvL P Γ Ω xs τs] (g:ν) (k:LeAll τs (σs g)) (hl:Less Ω (Ω' g)) {a:Act} {w:World} (h:Stt (Zfg A w0 Ωt hA) n Γ Ω a w):a.defers=[]∧∃ v,(results fn a.tmps).run P w=.ok v w∧Zld A w0 Ωt (fun g=>Tup (σs g)) Ω' (.returned v) w:=by
 obtain ⟨vs,h1,h2,h3⟩:=hx.h (a:=a) h.ty h.pv.ks;have hll:=hx.len;have hne:vs.length≠1:=by rw [h2,← hll];simpa using hn
 refine ⟨h.df,.tuple vs.toArray,?_,_,g,rfl,h.aft (τ:=Tup τs) hl ⟨vs,rfl,h2,h3⟩ fun A w v ⟨vs,g1,g2,g3⟩=>⟨vs,g1,by rw [g2,k.spec.1],fun i hi=>k.spec.2 i (by rw [k.spec.1];exact hi) hi _ _ _ (g3 i (by rw [k.spec.1];exact hi))⟩⟩;have:=ZgB (P:=P) (a:=a) (w:=w) hr h1;rw [dif_neg (by simpa using hne)] at this;exact this
theorem Zap {fn:Func} {xs:List ResultVar} {τs:List Ty} {σs:ν→List Ty} (hr:fn.results=xs.toArray) (hn:(xs.length == 1)=false) [hx:RvL P Γ Ω xs τs] (g:ν) (k:LeAll τs (σs g)) (hl:Less Ω (Ω' g)):TE (Zfg A w0 Ωt hA) n Γ Ω (bodyPost P fn (Zld A w0 Ωt (fun g=>Tup (σs g)) Ω')) .ret:=fun a w hs=>leaveON hr hn g k hl hs
theorem Zl2 {fn:Func} {xs:List ResultVar} {τs:List Ty} {σs:ν→List Ty} (hr:fn.results=xs.toArray) (hn:(xs.length == 1)=false) [hx:RvL P Γ Ω xs τs] (g:ν) (k:LeAll τs (σs g)) (hl:Less Ω (Ω' g)):TE (Zfg A w0 Ωt hA) n Γ Ω (bodyPost P fn (Zld A w0 Ωt (fun g=>Tup (σs g)) Ω')) .normal:=fun a w hs=>leaveON hr hn g k hl hs
end
end
section
variable {P:Program} {n:Nat} {R:Ending→World→Prop}
theorem Pok.nil {r:Ref} {w:World}:Pok r [] w:=⟨fun k ⟨e,he,_⟩=>absurd he (by simp),fun e he=>absurd he (by simp),List.Pairwise.nil⟩
theorem Ty.enter {τ:Ty} {A:Nat→Prop} {w:World} {v:Value} (h:τ.p A w v):τ.p (Pub A []) w v:=τ.keep (Keep.mono fun k _ hk=>⟨hk,fun e he=>absurd he (by simp)⟩) h
theorem enter0 {f:FuncId} {fn:Func} {c:Code} {A:Nat→Prop} {w:World} (hA:∀ k,w.heap.size≤k→A k) (hf:P.funcs[f]?=some fn) (hb:fn.body=some c) (hn:fn.ntmps=n) (hl:Nat.ble 0 n=true)
  (h:TC P (Zja A w hA) n Env.nil [] c (bodyPost P fn R)):Calls P f #[] w R:=by
 refine Zdb (r:=Zja A w hA) (args:=[]) hf hb hn (by simpa using hl) Pok.nil (fun t ht=>?_) (fun t ht=>?_) h
 ·simp at ht
 ·exact trivial
theorem enter1 {f:FuncId} {fn:Func} {c:Code} {A:Nat→Prop} {w:World} {v0:Value} {τ0:Ty} (hA:∀ k,w.heap.size≤k→A k) (hf:P.funcs[f]?=some fn) (hb:fn.body=some c) (hn:fn.ntmps=n) (hl:Nat.ble 1 n=true) (h0:τ0.p A w v0)
  (h:TC P (Zja A w hA) n (Env.set Env.nil 0 τ0) [] c (bodyPost P fn R)):Calls P f #[v0] w R:=by
 refine Zdb (r:=Zja A w hA) (args:=[v0]) hf hb hn (by simpa using hl) Pok.nil (fun t ht=>?_) (fun t ht=>?_) h
 ·match t,ht with
  | 0,_=>exact Ty.enter h0
 ·have ht:1≤t:=ht;have n0:¬ t=0:=by omega
  simp only [Env.set,n0,if_false];exact trivial
theorem enter2 {f:FuncId} {fn:Func} {c:Code} {A:Nat→Prop} {w:World} {v0 v1:Value} {τ0 τ1:Ty} (hA:∀ k,w.heap.size≤k→A k) (hf:P.funcs[f]?=some fn) (hb:fn.body=some c) (hn:fn.ntmps=n) (hl:Nat.ble 2 n=true) (h0:τ0.p A w v0) (h1:τ1.p A w v1)
  (h:TC P (Zja A w hA) n (Env.set (Env.set Env.nil 0 τ0) 1 τ1) [] c (bodyPost P fn R)):Calls P f #[v0,v1] w R:=by
 refine Zdb (r:=Zja A w hA) (args:=[v0,v1]) hf hb hn (by simpa using hl) Pok.nil (fun t ht=>?_) (fun t ht=>?_) h
 ·match t,ht with
  | 0,_=>exact Ty.enter h0
  | 1,_=>exact Ty.enter h1
 ·have ht:2≤t:=ht;have n0:¬ t=0:=by omega
  have n1:¬ t=1:=by omega
  simp only [Env.set,n0,n1,if_false];exact trivial
theorem enter3 {f:FuncId} {fn:Func} {c:Code} {A:Nat→Prop} {w:World} {v0 v1 v2:Value} {τ0 τ1 τ2:Ty} (hA:∀ k,w.heap.size≤k→A k) (hf:P.funcs[f]?=some fn) (hb:fn.body=some c) (hn:fn.ntmps=n) (hl:Nat.ble 3 n=true) (h0:τ0.p A w v0) (h1:τ1.p A w v1) (h2:τ2.p A w v2)
  (h:TC P (Zja A w hA) n (Env.set (Env.set (Env.set Env.nil 0 τ0) 1 τ1) 2 τ2) [] c (bodyPost P fn R)):Calls P f #[v0,v1,v2] w R:=by
 refine Zdb (r:=Zja A w hA) (args:=[v0,v1,v2]) hf hb hn (by simpa using hl) Pok.nil (fun t ht=>?_) (fun t ht=>?_) h
 ·match t,ht with
  | 0,_=>exact Ty.enter h0
  | 1,_=>exact Ty.enter h1
  | 2,_=>exact Ty.enter h2
 ·have ht:3≤t:=ht;have n0:¬ t=0:=by omega
  have n1:¬ t=1:=by omega
  have n2:¬ t=2:=by omega
  simp only [Env.set,n0,n1,n2,if_false];exact trivial
theorem enter4 {f:FuncId} {fn:Func} {c:Code} {A:Nat→Prop} {w:World} {v0 v1 v2 v3:Value} {τ0 τ1 τ2 τ3:Ty} (hA:∀ k,w.heap.size≤k→A k) (hf:P.funcs[f]?=some fn) (hb:fn.body=some c) (hn:fn.ntmps=n) (hl:Nat.ble 4 n=true) (h0:τ0.p A w v0) (h1:τ1.p A w v1) (h2:τ2.p A w v2) (h3:τ3.p A w v3)
  (h:TC P (Zja A w hA) n (Env.set (Env.set (Env.set (Env.set Env.nil 0 τ0) 1 τ1) 2 τ2) 3 τ3) [] c (bodyPost P fn R)):Calls P f #[v0,v1,v2,v3] w R:=by
 refine Zdb (r:=Zja A w hA) (args:=[v0,v1,v2,v3]) hf hb hn (by simpa using hl) Pok.nil (fun t ht=>?_) (fun t ht=>?_) h
 ·match t,ht with
  | 0,_=>exact Ty.enter h0
  | 1,_=>exact Ty.enter h1
  | 2,_=>exact Ty.enter h2
  | 3,_=>exact Ty.enter h3
 ·have ht:4≤t:=ht;have n0:¬ t=0:=by omega
  have n1:¬ t=1:=by omega
  have n2:¬ t=2:=by omega
  have n3:¬ t=3:=by omega
  simp only [Env.set,n0,n1,n2,n3,if_false];exact trivial
theorem enterO1 {f:FuncId} {fn:Func} {c:Code} {A:Nat→Prop} {w:World} {Ωt:List Pe} {v0:Value} {τ0:Ty} [hO:OwnIn A Ωt] (hA:∀ k,w.heap.size≤k→A k) (hap:ZfD Ωt) (hks:Pks (Pub A Ωt) Ωt w) (hf:P.funcs[f]?=some fn) (hb:fn.body=some c) (hn:fn.ntmps=n) (hl:Nat.ble 1 n=true) (h0:τ0.p (Pub A Ωt) w v0)
  (h:TC P (Zfg A w Ωt hA) n (Env.set Env.nil 0 τ0) Ωt c (bodyPost P fn R)):Calls P f #[v0] w R:=by
 refine Zdb (r:=Zfg A w Ωt hA) (args:=[v0]) hf hb hn (by simpa using hl) ⟨fun k hk=>.inr hk,hks,hap⟩ (fun t ht=>?_) (fun t ht=>?_) h
 ·match t,ht with
  | 0,_=>exact h0
 ·have ht:1≤t:=ht;have n0:¬ t=0:=by omega
  simp only [Env.set,n0,if_false];exact trivial
theorem enterO2 {f:FuncId} {fn:Func} {c:Code} {A:Nat→Prop} {w:World} {Ωt:List Pe} {v0 v1:Value} {τ0 τ1:Ty} [hO:OwnIn A Ωt] (hA:∀ k,w.heap.size≤k→A k) (hap:ZfD Ωt) (hks:Pks (Pub A Ωt) Ωt w) (hf:P.funcs[f]?=some fn) (hb:fn.body=some c) (hn:fn.ntmps=n) (hl:Nat.ble 2 n=true) (h0:τ0.p (Pub A Ωt) w v0) (h1:τ1.p (Pub A Ωt) w v1)
  (h:TC P (Zfg A w Ωt hA) n (Env.set (Env.set Env.nil 0 τ0) 1 τ1) Ωt c (bodyPost P fn R)):Calls P f #[v0,v1] w R:=by
 refine Zdb (r:=Zfg A w Ωt hA) (args:=[v0,v1]) hf hb hn (by simpa using hl) ⟨fun k hk=>.inr hk,hks,hap⟩ (fun t ht=>?_) (fun t ht=>?_) h
 ·match t,ht with
  | 0,_=>exact h0
  | 1,_=>exact h1
 ·have ht:2≤t:=ht;have n0:¬ t=0:=by omega
  have n1:¬ t=1:=by omega
  simp only [Env.set,n0,n1,if_false];exact trivial
theorem enterO3 {f:FuncId} {fn:Func} {c:Code} {A:Nat→Prop} {w:World} {Ωt:List Pe} {v0 v1 v2:Value} {τ0 τ1 τ2:Ty} [hO:OwnIn A Ωt] (hA:∀ k,w.heap.size≤k→A k) (hap:ZfD Ωt) (hks:Pks (Pub A Ωt) Ωt w) (hf:P.funcs[f]?=some fn) (hb:fn.body=some c) (hn:fn.ntmps=n) (hl:Nat.ble 3 n=true) (h0:τ0.p (Pub A Ωt) w v0) (h1:τ1.p (Pub A Ωt) w v1) (h2:τ2.p (Pub A Ωt) w v2)
  (h:TC P (Zfg A w Ωt hA) n (Env.set (Env.set (Env.set Env.nil 0 τ0) 1 τ1) 2 τ2) Ωt c (bodyPost P fn R)):Calls P f #[v0,v1,v2] w R:=by
 refine Zdb (r:=Zfg A w Ωt hA) (args:=[v0,v1,v2]) hf hb hn (by simpa using hl) ⟨fun k hk=>.inr hk,hks,hap⟩ (fun t ht=>?_) (fun t ht=>?_) h
 ·match t,ht with
  | 0,_=>exact h0
  | 1,_=>exact h1
  | 2,_=>exact h2
 ·have ht:3≤t:=ht;have n0:¬ t=0:=by omega
  have n1:¬ t=1:=by omega
  have n2:¬ t=2:=by omega
  simp only [Env.set,n0,n1,n2,if_false];exact trivial
end
end Go.Proofs.YtkmojgfenlgchaaGreatDoor.Tr
namespace Go.Proofs.YtkmojgfenlgchaaGreatDoor.Tr
open Go Go.RowKit
theorem Zk4.flat {α:Type} [Dat α] {A:Nat→Prop} {w:World} {a:Option Addr} {xs:List α} (h:Zk4 A w a xs) (hx:0<xs.length) :
  ∃ b off news,a=some ⟨b,off,none⟩∧A b∧news.length=xs.length*Dat.sz α∧Zi9 w b off news∧ZaT A w news xs:=by
 obtain ⟨b,off,rfl,hb,-⟩:=h 0 hx;have hs:=Dat.pos (α:=α);have hcell:∀ j,j<xs.length*Dat.sz α→w.cell? ⟨b,off+j,none⟩=some ((w.cell? ⟨b,off+j,none⟩).getD undef):=fun j hj=>by
  have hi:j/Dat.sz α<xs.length:=Nat.div_lt_of_lt_mul (by rw [Nat.mul_comm];exact hj);obtain ⟨b',off',he,_,es,h3,h4⟩:=h _ hi;injection he with he;injection he with e1 e2;subst e1;subst e2;have:=h3 (j % Dat.sz α) (by rw [Dat.len h4];exact Nat.mod_lt _ hs);rw [Nat.add_assoc,Nat.mul_comm,Nat.div_add_mod] at this;rw [this];rfl
 refine ⟨b,off,(List.range (xs.length*Dat.sz α)).map fun j=>(w.cell? ⟨b,off+j,none⟩).getD undef,rfl,hb,by simp,fun j hj=>?_,fun i hi=>?_⟩
 ·simp only [List.length_map,List.length_range] at hj;rw [hcell j hj];simp [List.getD_eq_getElem?_getD,hj]
 ·obtain ⟨b',off',he,_,es,h3,h4⟩:=h i hi;injection he with he;injection he with e1 e2;subst e1;subst e2;have hle:i*Dat.sz α+Dat.sz α≤xs.length*Dat.sz α:=by rw [← Nat.succ_mul];exact Nat.mul_le_mul_right _ (by omega)
  have:seg ((List.range (xs.length*Dat.sz α)).map fun j=>(w.cell? ⟨b,off+j,none⟩).getD undef) (i*Dat.sz α) (Dat.sz α)=es:=by
   refine ZaH (by rw [Zv (by simpa using hle),Dat.len h4]) fun j hj=>?_
   rw [Zv (by simpa using hle)] at hj;rw [Zab hj];have h5:=h3 j (by rw [Dat.len h4];exact hj);rw [Nat.add_assoc] at h5;simp [List.getD_eq_getElem?_getD,show i*Dat.sz α+j<xs.length*Dat.sz α by omega,h5]
  rw [this];exact h4
section ops
variable {P:Program} {B0:Nat} {A:Nat→Prop} {Ω:List Pe} {Γ:Env} {dst:Option Tmp} {ty:TypeId} {pos:String} {aft:Array Edge} {gd:Option (Nat×Bool)}
variable {α:Type} {i:Dat α} {t e:TypeId}
theorem push_toArray (l:List UInt8) (x:UInt8):(ByteArray.mk l.toArray).push x=⟨(l++[x]).toArray⟩:=by
 simp [ByteArray.push]
theorem fold_push:∀ (ns l:List UInt8),(ns.map fun x:UInt8=>(x.toNat:Int)).foldl (fun (r:ByteArray) n=>r.push (UInt8.ofNat n.toNat)) ⟨l.toArray⟩=⟨(l++ns).toArray⟩
 | [],l=>by simp
 | x::ns,l=>by
  simp only [List.map_cons,List.foldl_cons];rw [show UInt8.ofNat ((x.toNat:Int)).toNat=x by simp,push_toArray,fold_push ns (l++[x])];simp
theorem Zch {s d:TypeId} [S:TSl P s e] [E:TIn P e .u8] [T:TStr P d] {x:Operand} {τ:Ty} {xs:List UInt8} [Has Γ x τ] [hx:AsL τ UInt8 inferInstance xs] :
  OpY P B0 A Ω Γ ⟨dst,.convert s d x,ty,pos,aft,gd⟩ (Str xs):=
 OpY.val fun a w hl=>by
  obtain ⟨cs,⟨ad,c,h1,h2,h3,h3',h4⟩,h5⟩:=hx.le _ _ _ (Zt (x:=x) (τ:=τ) (op:=.convert s d x) (by simp [Op.operands]) hl);subst h1;have e1:a.eval x=.slice ad xs.length c:=h5;refine ⟨.string ⟨xs.toArray⟩,?_,rfl⟩;simp only [execOp,e1,Sem.run_bind,run_convert_bytes_string w s d e ad xs.length c S.h E.h T.h];have:(Conv.bytesToString (.slice ad xs.length c)).run P w=.ok (.string ⟨xs.toArray⟩) w:=by
   rcases Nat.eq_zero_or_pos xs.length with h0 | h0
   ·have hx0:xs=[]:=List.eq_nil_of_length_eq_zero h0;subst hx0;cases ad with
    | none=>simp [Conv.bytesToString];rfl
    | some ad=>
     have:=run_bytesToString (P:=P) w ad 0 c [] (by simp [loadCells,loadCellsFrom]);simp only [List.foldl_nil] at this;exact this
   ·obtain ⟨b,off,news,rfl,_,hl',hr,he⟩:=h4.flat h0;have hn:news=xs.map fun x=>Value.int .u8 (x.toNat:Int):=by
     have hsz:Dat.sz UInt8=1:=rfl;refine ZaH (by rw [hl',hsz];simp) fun j hj=>?_
     rw [hl',hsz] at hj;have h6:=he j (by omega);have h6:seg news (j*1) 1=[.int .u8 (xs[j]'(by omega)).toNat]:=h6;have h7:=Zab (cs:=news) (o:=j*1) (n:=1) (j:=0) (by omega);rw [h6] at h7;simp only [Nat.mul_one,Nat.add_zero] at h7;rw [← h7];simp [List.getD_eq_getElem?_getD,List.getElem?_eq_getElem (show j<xs.length by omega)]
    have h8:=Zfp (P:=P) hr;rw [hl',show Dat.sz UInt8=1 from rfl,Nat.mul_one,hn] at h8;have h9:=run_bytesToString (P:=P) w ⟨b,off,none⟩ xs.length c (xs.map fun x:UInt8=>(x.toNat:Int)) (by rw [h8];simp [List.map_map,Function.comp_def]);rw [h9];have:=fold_push xs [];simp only [List.nil_append] at this;rw [← this];rfl
  rw [this];rfl
theorem str_beq (l m:List UInt8):((ByteArray.mk l.toArray).toList == (ByteArray.mk m.toArray).toList)=decide (l=m):=by
 have h:∀ l:List UInt8,(ByteArray.mk l.toArray).toList=l:=fun l=>by
  rw [ByteArray.toList_eq]
 rw [h,h];rw [Bool.eq_iff_iff];simp
theorem ZeV {x y:Operand} {τ σ:Ty} {u:TypeId} {l m:List UInt8} [Has Γ x τ] [hx:AsStr τ l] [Has Γ y σ] [hy:AsStr σ m] :
  OpY P B0 A Ω Γ ⟨dst,.binOp .eql t x y u,ty,pos,aft,gd⟩ (B (decide (l=m))):=
 OpY.val fun a w hl=>⟨.bool (decide (l=m)),by
  have e1:a.eval x=.string ⟨l.toArray⟩:=hx.le _ _ _ (Zt (x:=x) (τ:=τ) (op:=.binOp .eql t x y u) (by simp [Op.operands]) hl);have e2:a.eval y=.string ⟨m.toArray⟩:=hy.le _ _ _ (Zt (x:=y) (τ:=σ) (op:=.binOp .eql t x y u) (by simp [Op.operands]) hl);simp only [execOp,e1,e2,eqGuard_at_string,binOp_string_eql,str_beq,Sem.run_bind,Sem.run_pure,Result.andThen_ok],rfl⟩
theorem OpY.neq_string {x y:Operand} {τ σ:Ty} {u:TypeId} {l m:List UInt8} [Has Γ x τ] [hx:AsStr τ l] [Has Γ y σ] [hy:AsStr σ m] :
  OpY P B0 A Ω Γ ⟨dst,.binOp .neq t x y u,ty,pos,aft,gd⟩ (B (decide (l≠m))):=
 OpY.val fun a w hl=>⟨.bool (decide (l≠m)),by
  have e1:a.eval x=.string ⟨l.toArray⟩:=hx.le _ _ _ (Zt (x:=x) (τ:=τ) (op:=.binOp .neq t x y u) (by simp [Op.operands]) hl);have e2:a.eval y=.string ⟨m.toArray⟩:=hy.le _ _ _ (Zt (x:=y) (τ:=σ) (op:=.binOp .neq t x y u) (by simp [Op.operands]) hl);simp only [execOp,e1,e2,eqGuard_at_string,binOp_string_neq,str_beq,Sem.run_bind,Sem.run_pure,Result.andThen_ok,decide_not],rfl⟩
theorem OpY.minI {x y:Operand} {τ σ:Ty} {ts:Array TypeId} {m k:Int} [Has Γ x τ] [hx:AsI τ m] [Has Γ y σ] [hy:AsI σ k] :
  OpY P B0 A Ω Γ ⟨dst,.call { callee:=.builtin .min,args:=#[x,y],argTypes:=ts },ty,pos,aft,gd⟩ (I (min m k)):=
 OpY.val fun a w hl=>⟨.int .i64 (min m k),by
  have e1:a.eval x=.int .i64 m:=hx.le _ _ _ (Zt (x:=x) (τ:=τ) (op:=.call { callee:=.builtin .min,args:=#[x,y],argTypes:=ts }) (by simp [Op.operands,Call.operands]) hl);have e2:a.eval y=.int .i64 k:=hy.le _ _ _ (Zt (x:=y) (τ:=σ) (op:=.call { callee:=.builtin .min,args:=#[x,y],argTypes:=ts }) (by simp [Op.operands,Call.operands]) hl);have e3:(if k<m then k else m)=min m k:=by split <;> omega
  simp [execOp,resolve,invoke,builtin,e1,e2,Builtin.min_,Builtin.min2,e3],rfl⟩
theorem OpY.maxI {x y:Operand} {τ σ:Ty} {ts:Array TypeId} {m k:Int} [Has Γ x τ] [hx:AsI τ m] [Has Γ y σ] [hy:AsI σ k] :
  OpY P B0 A Ω Γ ⟨dst,.call { callee:=.builtin .max,args:=#[x,y],argTypes:=ts },ty,pos,aft,gd⟩ (I (max m k)):=
 OpY.val fun a w hl=>⟨.int .i64 (max m k),by
  have e1:a.eval x=.int .i64 m:=hx.le _ _ _ (Zt (x:=x) (τ:=τ) (op:=.call { callee:=.builtin .max,args:=#[x,y],argTypes:=ts }) (by simp [Op.operands,Call.operands]) hl);have e2:a.eval y=.int .i64 k:=hy.le _ _ _ (Zt (x:=y) (τ:=σ) (op:=.call { callee:=.builtin .max,args:=#[x,y],argTypes:=ts }) (by simp [Op.operands,Call.operands]) hl);have e3:(if k>m then k else m)=max m k:=by split <;> omega
  simp [execOp,resolve,invoke,builtin,e1,e2,Builtin.max_,Builtin.max2,e3],rfl⟩
theorem Zi5 {x:Operand} [Has Γ x NilS] [S:TSl P t e] :
  OpY P B0 A Ω Γ ⟨dst,.call { callee:=.builtin .cap,args:=#[x],argTypes:=#[t] },ty,pos,aft,gd⟩ (I 0):=
 OpY.val fun a w hl=>by
  have e1:a.eval x=.slice none 0 0:=Zt (x:=x) (τ:=NilS) (op:=.call { callee:=.builtin .cap,args:=#[x],argTypes:=#[t] }) (by simp [Op.operands,Call.operands]) hl;exact ⟨.int .i64 0,by simp [execOp,resolve,invoke,builtin,e1,Builtin.cap_,run_underlying S.h,goInt],rfl⟩
theorem Zlx {x z:Operand} {σ:Ty} [Has Γ x NilS] [Has Γ z σ] [hz:AsI σ 0] [S:TSl P t e] [T:TDat P e α i]:OpY P B0 A Ω Γ ⟨dst,.slice t x none (some z) none,ty,pos,aft,gd⟩ NilS:=
 OpY.val fun a w hl=>by
  have e1:a.eval x=.slice none 0 0:=Zt (x:=x) (τ:=NilS) (op:=.slice t x none (some z) none) (by simp [Op.operands]) hl;have e2:a.eval z=.int .i64 0:=hz.le _ _ _ (Zt (x:=z) (τ:=σ) (op:=.slice t x none (some z) none) (by simp [Op.operands]) hl);exact ⟨.slice none 0 0,by simp [execOp,e1,e2,Instr.sliceAt,Instr.slice,run_underlying S.h,Instr.sliceBounds,Instr.sliceBound,asIntOf,T.sz],rfl⟩
theorem Zby {x:Operand} {τ:Ty} {xs:List α} [Has Γ x τ] [hx:AsL τ α i xs] [S:TSl P t e] :
  OpY P B0 A Ω Γ ⟨dst,.binOp .eql t x (.const (.slice none 0 0)) t,ty,pos,aft,gd⟩ (BE fun b=>b=true→xs=[]):=
 OpY.val fun a w hl=>by
  obtain ⟨cs,⟨ad,c,h1,h2,h3,h3',h4⟩,h5⟩:=hx.le _ _ _ (Zt (x:=x) (τ:=τ) (op:=.binOp .eql t x (.const (.slice none 0 0)) t) (by simp [Op.operands]) hl);subst h1;have e1:a.eval x=.slice ad xs.length c:=h5;refine ⟨.bool ad.isNone,?_,ad.isNone,rfl,fun h=>?_⟩
  ·have:(binOp .eql t (.slice ad xs.length c) (.slice none 0 0)).run P w=.ok (.bool ad.isNone) w:=by
    exact Lib.run_eql_slice_nil w t e ad xs.length c 0 0 S.h
   simp only [execOp,e1,evC,eqGuard_at_slice,Sem.run_bind,Sem.run_pure,Result.andThen_ok,this]
  ·cases ad with
   | some ad=>simp at h
   | none=>
    apply List.eq_nil_of_length_eq_zero;rcases Nat.eq_zero_or_pos xs.length with h0 | h0
    ·exact h0
    ·obtain ⟨b,off,e,_⟩:=h4 0 h0;cases e
section dv8
variable {x y:Operand} {τ σ:Ty} {u:TypeId} {m n:UInt8} [hsx:Has Γ x τ] [hx:AsU8 τ m] [hsy:Has Γ y σ] [hy:AsU8 σ n]
include hsx hx hsy hy
theorem OpY.rem8 (h:n≠0):OpY P B0 A Ω Γ ⟨dst,.binOp .rem t x y u,ty,pos,aft,gd⟩ (U8 (m % n)):=
 OpY.val fun a w hl=>⟨.int .u8 (m % n).toNat,by
  obtain ⟨e1,e2⟩:=evU8 (m:=m) (n:=n) hl;have h3:n.toNat≠0:=fun e=>h (by rw [← UInt8.toNat_inj];simpa using e)
  have h4:¬ ((n.toNat:Int)=0):=by omega
  have e3:((m.toNat:Int).tmod (n.toNat:Int))=((m % n).toNat:Int):=by
   rw [Int.tmod_eq_emod_of_nonneg (by omega),← Int.natCast_emod,← UInt8.toNat_mod]
  simp only [execOp,e1,e2,eqGuard_rem,binOp_rem,Op.intDiv,h4,if_false,e3,Sem.run_bind,Sem.run_pure,Result.andThen_ok],rfl⟩
end dv8
theorem OpY.eql_bool {x y:Operand} {τ σ:Ty} {u:TypeId} {l m:Bool} [Has Γ x τ] [hx:AsB τ l] [Has Γ y σ] [hy:AsB σ m] (hb:P.underlying t=some .bool) :
  OpY P B0 A Ω Γ ⟨dst,.binOp .eql t x y u,ty,pos,aft,gd⟩ (B (decide (l=m))):=
 OpY.val fun a w hl=>⟨.bool (decide (l=m)),by
  have e1:a.eval x=.bool l:=hx.le _ _ _ (Zt (x:=x) (τ:=τ) (op:=.binOp .eql t x y u) (by simp [Op.operands]) hl);have e2:a.eval y=.bool m:=hy.le _ _ _ (Zt (x:=y) (τ:=σ) (op:=.binOp .eql t x y u) (by simp [Op.operands]) hl);have e3:(l == m)=decide (l=m):=by rw [Bool.eq_iff_iff];simp
  simp only [execOp,e1,e2,eqGuard_at_bool,run_eql_bool w t l m hb,e3,Sem.run_bind,Sem.run_pure,Result.andThen_ok],rfl⟩
theorem Zly {x y:Operand} {τ σ:Ty} {u:TypeId} {l m:Bool} [Has Γ x τ] [hx:AsB τ l] [Has Γ y σ] [hy:AsB σ m] (hb:P.underlying t=some .bool) :
  OpY P B0 A Ω Γ ⟨dst,.binOp .neq t x y u,ty,pos,aft,gd⟩ (B (decide (l≠m))):=
 OpY.val fun a w hl=>⟨.bool (decide (l≠m)),by
  have e1:a.eval x=.bool l:=hx.le _ _ _ (Zt (x:=x) (τ:=τ) (op:=.binOp .neq t x y u) (by simp [Op.operands]) hl);have e2:a.eval y=.bool m:=hy.le _ _ _ (Zt (x:=y) (τ:=σ) (op:=.binOp .neq t x y u) (by simp [Op.operands]) hl);have e3:(l == m)=decide (l=m):=by rw [Bool.eq_iff_iff];simp
  simp only [execOp,e1,e2,eqGuard_at_bool,run_neq_bool w t l m hb,e3,decide_not,Sem.run_bind,Sem.run_pure,Result.andThen_ok],rfl⟩
end ops
end Go.Proofs.YtkmojgfenlgchaaGreatDoor.Tr
namespace Go.Proofs.YtkmojgfenlgchaaGreatDoor.Tr
open Go Go.RowKit
theorem ZaT.scal {α:Type} [Dat α] {A:Nat→Prop} {w:World} {cs:List Value} {xs:List α} (h:ZaT A w cs xs) (hl:cs.length=xs.length*Dat.sz α):∀ v∈cs,v.oneCell'=true:=fun v hv=>by
 obtain ⟨j,hj,rfl⟩:=List.getElem_of_mem hv;have hs:=Dat.pos (α:=α);rw [hl] at hj;have hi:j/Dat.sz α<xs.length:=Nat.div_lt_of_lt_mul (by rw [Nat.mul_comm];exact hj);have hle:j/Dat.sz α*Dat.sz α+Dat.sz α≤cs.length:=by rw [hl,← Nat.succ_mul];exact Nat.mul_le_mul_right _ (by omega)
 refine Dat.scal (h _ hi) _ ?_;have hm:=Nat.mod_lt j hs;have e1:(seg cs (j/Dat.sz α*Dat.sz α) (Dat.sz α)).getD (j % Dat.sz α) undef=cs[j]:=by
  rw [Zab hm,Nat.mul_comm,Nat.div_add_mod];rw [List.getD_eq_getElem?_getD,List.getElem?_eq_getElem (by omega)];rfl
 rw [← e1];have hl2:j % Dat.sz α<(seg cs (j/Dat.sz α*Dat.sz α) (Dat.sz α)).length:=by rw [Zv hle];exact hm
 rw [List.getD_eq_getElem?_getD,List.getElem?_eq_getElem hl2];exact List.getElem_mem hl2
class HasAll (Γ:Env) (xs:List Operand) (α:Type) (i:Dat α) (ys:outParam (List α)):Prop where
 len:xs.length=ys.length
 h:∀ (a:Act) A w,(∀ t,.tmp t∈xs→(Γ t).p A w (a.tmps.getD t undef))→∀ j (hj:j<xs.length) (hj':j<ys.length),(D ys[j]).p A w (a.eval xs[j])
instance {Γ:Env} {α:Type} {i:Dat α}:HasAll Γ [] α i []:=⟨rfl,fun _ _ _ _ _ h _=>absurd h (by simp)⟩
instance {Γ:Env} {x:Operand} {xs:List Operand} {α:Type} {i:Dat α} {τ:Ty} {y:α} {ys:List α} [h:Has Γ x τ] [k:ToD τ α i y] [l:HasAll Γ xs α i ys]:HasAll Γ (x::xs) α i (y::ys):=
 ⟨by simp [l.len],fun a A w ha j hj hj'=>by
  cases j with
  | zero=>exact k.le _ _ _ (h.le a A w fun t e=>ha t (by simp [e]))
  | succ j=>exact l.h a A w (fun t ht=>ha t (List.mem_cons_of_mem _ ht)) j (by simpa using hj) (by simpa using hj')⟩
theorem ZdS:∀ (vs:List Value) (k o:Nat) (cs:List Value),o+k+vs.length≤cs.length→
  (vs.zipIdx k).foldl (fun (a:Array Value) (p:Value×Nat)=>a.setIfInBounds (o+p.2) p.1) cs.toArray=(ZU cs (o+k) vs).toArray
 | [],k,o,cs,h=>by simp [ZU]
 | v::vs,k,o,cs,h=>by
  have h':o+k+(vs.length+1)≤cs.length:=by simpa using h
  simp only [List.zipIdx_cons,List.foldl_cons];rw [show cs.toArray.setIfInBounds (o+k) v=(cs.set (o+k) v).toArray by simp];rw [ZdS vs (k+1) o (cs.set (o+k) v) (by simp;omega),← Nat.add_assoc,set_setSeg h']
theorem fill_row {α : Type} [Dat α] {A : Nat → Prop} {w : World} : ∀ (vs : List Value) (ys : List α) (k : Nat) (cs : List Value), vs.length = ys.length → (k + vs.length) * Dat.sz α ≤ cs.length →
    (∀ j (hj : j < vs.length) (hj' : j < ys.length), (D ys[j]).p A w vs[j]) →
    ∃ cs', Instr.fill (fun i => some (i * Dat.sz α, Dat.sz α)) cs.toArray ((vs.zipIdx k).map fun p => (p.2, p.1)) = some cs'.toArray ∧ cs'.length = cs.length ∧
      (∀ j (hj : j < ys.length), Dat.rd A w (seg cs' ((k + j) * Dat.sz α) (Dat.sz α)) ys[j]) ∧ (∀ p q, (p + q ≤ k * Dat.sz α ∨ (k + vs.length) * Dat.sz α ≤ p) → p + q ≤ cs.length → seg cs' p q = seg cs p q)
  | [], [], k, cs, _, hc, _ => ⟨cs, by simp [Instr.fill], rfl, fun j hj => absurd hj (by simp), fun _ _ _ _ => rfl⟩
  | [], y :: ys, k, cs, hl, _, _ => by simp at hl
  | v :: vs, [], k, cs, hl, _, _ => by simp at hl
  | v :: vs, y :: ys, k, cs, hl, hc, hv => by
    obtain ⟨c0, e0, r0⟩ := ZjR (hv 0 (by simp) (by simp))
    simp only [List.getElem_cons_zero] at e0 r0
    have l0 := Dat.len r0
    have hc' : (k + 1 + vs.length) * Dat.sz α ≤ cs.length := by simpa [Nat.add_assoc, Nat.add_comm 1] using hc
    have hk : k * Dat.sz α + c0.length ≤ cs.length := by
      rw [l0, ← Nat.succ_mul]; exact Nat.le_trans (Nat.mul_le_mul_right _ (by omega)) hc'
    obtain ⟨cs', f1, f2, f3, f4⟩ := fill_row (α := α) (A := A) (w := w) vs ys (k + 1) (ZU cs (k * Dat.sz α) c0) (by simpa using hl) (by rw [Zl hk]; exact hc') fun j hj hj' => by
      have := hv (j + 1) (by simpa using hj) (by simpa using hj')
      simpa using this
    refine ⟨cs', ?_, by rw [f2, Zl hk], fun j hj => ?_, fun p q hpq hle => ?_⟩
    · simp only [List.zipIdx_cons, List.map_cons, Instr.fill, e0]
      rw [if_neg (by simp [l0]; omega)]
      have := ZdS c0 0 (k * Dat.sz α) cs (by omega)
      simp only [Nat.add_zero] at this
      have e1 : (Array.zipIdx c0.toArray).foldl (fun cs (x : Value × Nat) => cs.setIfInBounds (k * Dat.sz α + x.2) x.1) cs.toArray = (ZU cs (k * Dat.sz α) c0).toArray := by
        rw [← this]; simp
      rw [← f1]
      congr 1
    · cases j with
      | zero =>
        rw [f4 _ _ (.inl (by simp [Nat.succ_mul])) (by rw [Zl hk]; simp; omega)]
        have e9 := ZbH hk
        rw [l0] at e9
        rw [Nat.add_zero, e9]; exact r0
      | succ j =>
        have := f3 j (by simpa using hj)
        rw [show k + (j + 1) = k + 1 + j by omega]; simpa using this
    · rw [f4 p q (by rcases hpq with h | h
                     · left; rw [Nat.succ_mul]; omega
                     · right; simpa [Nat.add_assoc, Nat.add_comm 1] using h) (by rw [Zl hk]; exact hle)]
      refine Zaz hk hle ?_
      rcases hpq with h | h
      · left; exact h
      · right
        rw [l0, ← Nat.succ_mul]
        exact Nat.le_trans (Nat.mul_le_mul_right _ (by simp)) h
class TEl (P:Program) (e:TypeId) (α:outParam Type) (i:outParam (Dat α)) (by_:outParam Nat):Prop where
 d:TDat P e α i
 h:∃ ti z,P.info? e=some ti∧ti.zero=some z∧ti.size=Dat.sz α∧ti.bytes=by_∧z.cells=(Dat.zc α).toArray
instance {P:Program} {e:TypeId} {α:Type} {i:Dat α} {n:Nat} [h:TEl P e α i n]:TDat P e α i:=h.d
def NewR {α:Type} [Dat α] (A:Nat→Prop) (w:World) (xs:List α) (v:Value) (w':World):Prop:=
 ∃ c cs d e,v=.slice (some ⟨w.heap.size,0,none⟩) xs.length c∧w'=({ w with drawn:=d }:World).alloc (.cells cs.toArray e)∧(Row xs c).p A w cs
theorem NewR.grow {α:Type} [Dat α] {A:Nat→Prop} {w:World} {xs:List α} {v:Value} {w':World} {B0:Nat} (h:NewR A w xs v w') (hB:B0≤w.heap.size):Grow B0 w w':=by
 obtain ⟨c,cs,d,e,-,rfl,-⟩:=h;exact (Grow.drawn d).trans (Grow.push _ hB)
theorem NewR.reads {α:Type} [Dat α] {A:Nat→Prop} {w:World} {xs:List α} {v:Value} {w':World} (h:NewR A w xs v w') (hA:∀ k,w.heap.size≤k→A k):(D xs).p A w' v:=by
 have hg:Grow 0 w w':=h.grow (Nat.zero_le _);obtain ⟨c,cs,d,e,rfl,rfl,hr⟩:=h;obtain ⟨k1,k2,k3,k4,k5⟩:=(Row xs c).keep (Keep.grow hg) hr;have hblk:Blk (({ w with drawn:=d }:World).alloc (.cells cs.toArray e)) w.heap.size cs:=Blk.new rfl;refine ⟨[_],⟨_,c,rfl,k2,k3,k4,fun q hq=>⟨w.heap.size,0,rfl,hA _ (Nat.le_refl _),_,?_,k5 q hq⟩⟩,rfl⟩;rw [Nat.zero_add];refine hblk.row ?_;rw [k1,← Nat.succ_mul];exact Nat.mul_le_mul_right _ (by omega)
def Src {α:Type} [Dat α] (A:Nat→Prop) (w:World) (u:Value) (ys:List α):Prop:=
 ∃ ad c,u=.slice ad ys.length c∧(0<ys.length→∃ b off news,ad=some ⟨b,off,none⟩∧news.length=ys.length*Dat.sz α∧Zi9 w b off news∧ZaT A w news ys)
theorem Src.of_D {α:Type} [Dat α] {A:Nat→Prop} {w:World} {u:Value} {ys:List α} (h:(D ys).p A w u):Src A w u ys:=by
 obtain ⟨cs0,⟨ad,c,rfl,h2,h3,h3',h4⟩,hu'⟩:=h;refine ⟨ad,c,hu',fun h0=>?_⟩;obtain ⟨b,off,news,h5,_,hl,hr,he⟩:=h4.flat h0;exact ⟨b,off,news,h5,hl,hr,he⟩
theorem Src.cells {P:Program} {α:Type} [Dat α] {A:Nat→Prop} {w:World} {u:Value} {ys:List α} (h:Src A w u ys) :
  ∃ ad c news,u=.slice ad ys.length c∧news.length=ys.length*Dat.sz α∧ZaT A w news ys∧∀ m,m≤ys.length→(Builtin.firstCells (Dat.sz α) m u).run P w=.ok (news.take (m*Dat.sz α)).toArray w:=by
 obtain ⟨ad,c,rfl,h4⟩:=h;rcases Nat.eq_zero_or_pos ys.length with h0 | h0
 ·have hy:ys=[]:=List.eq_nil_of_length_eq_zero h0;subst hy;refine ⟨ad,c,[],rfl,by simp,fun i hi=>absurd hi (by simp),fun m hm=>?_⟩;have hm:m=0:=by simpa using hm
  subst hm;cases ad <;> simp [Builtin.firstCells,loadCells,loadCellsFrom]
 ·obtain ⟨b,off,news,rfl,hl,hr,he⟩:=h4 h0;refine ⟨_,c,news,rfl,hl,he,fun m hm=>?_⟩;have hlen:(news.take (m*Dat.sz α)).length=m*Dat.sz α:=by rw [List.length_take,hl];exact Nat.min_eq_left (Nat.mul_le_mul_right _ hm)
  have hr':Zi9 w b off (news.take (m*Dat.sz α)):=fun j hj=>by
   rw [hlen] at hj;have:j<news.length:=by rw [hl];exact Nat.lt_of_lt_of_le hj (Nat.mul_le_mul_right _ hm)
   rw [hr j this];simp [List.getD_eq_getElem?_getD,hj]
  have:=Zfp (P:=P) hr';rw [hlen] at this;simpa [Builtin.firstCells] using this
theorem ZaT.take {α:Type} [Dat α] {A:Nat→Prop} {w:World} {cs:List Value} {xs:List α} {m:Nat} (h:ZaT A w cs xs) (hl:cs.length=xs.length*Dat.sz α) (hm:m≤xs.length):ZaT A w (cs.take (m*Dat.sz α)) (xs.take m):=fun j hj=>by
 have hj':j<m:=by simp at hj;omega
 rw [List.getElem_take,seg_take (by rw [← Nat.succ_mul];exact Nat.mul_le_mul_right _ (by omega)) (by rw [hl];exact Nat.mul_le_mul_right _ hm)];exact h j (by omega)
theorem ZaT.drop {α:Type} [Dat α] {A:Nat→Prop} {w:World} {cs:List Value} {xs:List α} {m:Nat} (h:ZaT A w cs xs) (hl:xs.length*Dat.sz α≤cs.length):ZaT A w (cs.drop (m*Dat.sz α)) (xs.drop m):=fun j hj=>by
 have hj':m+j<xs.length:=by simp at hj;omega
 have e:seg (cs.drop (m*Dat.sz α)) (j*Dat.sz α) (Dat.sz α)=seg cs ((m+j)*Dat.sz α) (Dat.sz α):=by
  unfold seg;rw [List.drop_drop,← Nat.add_mul]
 rw [List.getElem_drop,e];exact h _ hj'
def splice {α:Type} (xs:List α) (k:Nat) (ys:List α):List α:=xs.take k++ys++xs.drop (k+ys.length)
theorem ZaT.splice {α:Type} [Dat α] {A:Nat→Prop} {w:World} {cs news:List Value} {xs ys:List α} {k:Nat} (h:ZaT A w cs xs) (g:ZaT A w news ys) (hl:news.length=ys.length*Dat.sz α) (hx:xs.length*Dat.sz α≤cs.length) (hk:k≤xs.length) (hf:(k+ys.length)*Dat.sz α≤cs.length) :
  ZaT A w (ZU cs (k*Dat.sz α) news) (Tr.splice xs k ys):=fun j hj=>by
 have hfit:k*Dat.sz α+news.length≤cs.length:=by rw [hl,← Nat.add_mul];exact hf
 have hkl:(xs.take k).length=k:=by simp;omega
 unfold Tr.splice at hj ⊢;simp only [List.length_append,hkl,List.length_drop] at hj;rcases Nat.lt_or_ge j k with h1 | h1
 ·have hle2:j*Dat.sz α+Dat.sz α≤k*Dat.sz α:=by rw [← Nat.succ_mul];exact Nat.mul_le_mul_right _ (by omega)
  rw [Zaz hfit (by omega) (.inl hle2)];have e:(xs.take k++ys++xs.drop (k+ys.length))[j]=xs[j]'(by omega):=by
   rw [List.getElem_append_left (by simp only [List.length_append,hkl];omega),List.getElem_append_left (by omega),List.getElem_take]
  rw [e];exact h j (by omega)
 ·rcases Nat.lt_or_ge j (k+ys.length) with h2 | h2
  ·have hle2:(j-k)*Dat.sz α+Dat.sz α≤news.length:=by rw [hl,← Nat.succ_mul];exact Nat.mul_le_mul_right _ (by omega)
   have e11:j*Dat.sz α=k*Dat.sz α+(j-k)*Dat.sz α:=by rw [← Nat.add_mul];congr 1;omega
   rw [e11,seg_setSeg_in hfit hle2];have e:(xs.take k++ys++xs.drop (k+ys.length))[j]=ys[j-k]'(by omega):=by
    rw [List.getElem_append_left (by simp only [List.length_append,hkl];omega),List.getElem_append_right (by omega)];simp only [hkl]
   rw [e];exact g _ (by omega)
  ·have hjx:j<xs.length:=by omega
   have hle2:k*Dat.sz α+news.length≤j*Dat.sz α:=by rw [hl,← Nat.add_mul];exact Nat.mul_le_mul_right _ h2
   have hle3:j*Dat.sz α+Dat.sz α≤cs.length:=Nat.le_trans (by rw [← Nat.succ_mul];exact Nat.mul_le_mul_right _ (by omega)) hx;rw [Zaz hfit hle3 (.inr hle2)];have e:(xs.take k++ys++xs.drop (k+ys.length))[j]=xs[j]:=by
    have h3:(xs.take k++ys++xs.drop (k+ys.length))[j]?=xs[j]?:=by
     rw [List.getElem?_append_right (by simp only [List.length_append,hkl];omega),List.getElem?_drop];simp only [List.length_append,hkl];congr 1;omega
    rw [List.getElem?_eq_getElem (by simp only [List.length_append,hkl,List.length_drop];omega),List.getElem?_eq_getElem hjx] at h3;exact ZZi h3
   rw [e];exact h j hjx
theorem ZkS {α:Type} {xs ys:List α} {k:Nat} (hk:k≤xs.length):(splice xs k ys).length=max xs.length (k+ys.length):=by
 unfold splice;simp only [List.length_append,List.length_take,List.length_drop];omega
theorem Row.splice {α:Type} [Dat α] {A:Nat→Prop} {w:World} {cs news:List Value} {xs ys:List α} {k c:Nat} (h:(Row xs c).p A w cs) (g:ZaT A w news ys) (hl:news.length=ys.length*Dat.sz α) (hk:k≤xs.length) (hf:k+ys.length≤c) (hm:k+ys.length≤ZjT) :
  (Row (Tr.splice xs k ys) c).p A w (ZU cs (k*Dat.sz α) news):=by
 obtain ⟨h1,h2,h3,h4,h5⟩:=h;have hfit:(k+ys.length)*Dat.sz α≤cs.length:=by rw [h1];exact Nat.mul_le_mul_right _ hf
 have hsl:=ZkS (xs:=xs) (ys:=ys) hk;exact ⟨by rw [Zl (by rw [hl,← Nat.add_mul];exact hfit)];exact h1,by omega,h3,by omega,h5.splice g hl (by rw [h1];exact Nat.mul_le_mul_right _ h2) hk hfit⟩
theorem Row.take {α:Type} [Dat α] {A:Nat→Prop} {w:World} {cs:List Value} {xs:List α} {c m:Nat} (h:(Row xs c).p A w cs) (hm:m≤xs.length):(Row (xs.take m) c).p A w cs:=by
 obtain ⟨h1,h2,h3,h4,h5⟩:=h;refine ⟨h1,by simp;omega,h3,by simp;omega,fun j hj=>?_⟩;rw [List.getElem_take];exact h5 j (by simp at hj;omega)
theorem splice_take {α:Type} {xs ys:List α} {k m:Nat} (h:m=k+ys.length) (hk:k≤xs.length):(splice xs k ys).take m=xs.take k++ys:=by
 unfold splice;rw [List.take_append_of_le_length (by simp;omega),List.take_of_length_le (by simp;omega)]
section app
variable {P:Program} {α:Type} {i:Dat α} {t e:TypeId} {bt:Nat}
theorem run_append [S:TSl P t e] [T:TEl P e α i bt] {A:Nat→Prop} {w:World} {b:Nat} {v u:Value} {xs ys:List α} {ty:TypeId}
  (hv:(v=.slice none 0 0∧xs=[])∨∃ c cs,v=.slice (some ⟨b,0,none⟩) xs.length c∧Blk w b cs∧(Row xs c).p A w cs) (hu:Src A w u ys) (hn:(xs.length+ys.length)*bt≤140737488355328) (hm:xs.length+ys.length≤ZjT) :
  ∃ v' w',(Builtin.append_ #[t,t] ty #[v,u]).run P w=.ok v' w'∧((ys=[]∧v'=v∧w'=w)∨NewR A w (xs++ys) v' w'∨
   ∃ c cs news,v=.slice (some ⟨b,0,none⟩) xs.length c∧xs.length+ys.length≤c∧0<ys.length∧v'=.slice (some ⟨b,0,none⟩) (xs.length+ys.length) c∧Blk w b cs∧(Row xs c).p A w cs∧Blk w' b (ZU cs (xs.length*Dat.sz α) news)∧Mut (fun k=>k=b) w w'∧news.length=ys.length*Dat.sz α∧ZaT A w news ys):=by
 obtain ⟨ti,z,hi1,hi2,hi3,hi4,hi5⟩:=T.h;obtain ⟨ad,c,rfl,h4⟩:=hu;have hmost:xs.length+ys.length≤9223372036854775807:=by unfold ZjT at hm;omega
 rcases Nat.eq_zero_or_pos ys.length with h0 | h0
 ·have hy0:ys=[]:=List.eq_nil_of_length_eq_zero h0;subst hy0;refine ⟨v,w,?_,.inl ⟨rfl,rfl,rfl⟩⟩;have hf:(Builtin.firstCells ti.size 0 (.slice ad 0 c)).run P w=.ok #[] w:=by
   cases ad <;> simp [Builtin.firstCells,loadCells,loadCellsFrom]
  rcases hv with ⟨rfl,rfl⟩ | ⟨cp,cs,rfl,hblk,hcl,hle,hcm,hmx,hel⟩
  ·simp [Builtin.append_,run_underlying S.h,sizeOf,typeInfo,hi1,Builtin.lenOf,hf]
  ·simp [Builtin.append_,run_underlying S.h,sizeOf,typeInfo,hi1,Builtin.lenOf,hf,hle,storeCells]
 obtain ⟨b2,off,news,rfl,hl,hr,he⟩:=h4 h0;have hzl:z.cells.size=Dat.sz α:=by rw [hi5];simpa using ZcX α
 have hnews:∀ j v,news[j]?=some v→w.cell? (Addr.add ⟨b2,off,none⟩ j)=some v:=fun j v hj=>by
  obtain ⟨h5,rfl⟩:=List.getElem?_eq_some_iff.1 hj;rw [Za0,hr j h5,List.getD_eq_getElem?_getD,List.getElem?_eq_getElem h5];rfl
 have key:∀ (oc:Nat) (old:List Value),old.length=xs.length*Dat.sz α→ZaT A w old xs→
   NewR A w (xs++ys) (.slice (some ⟨w.heap.size,0,none⟩) (xs.length+ys.length) (grownCap w (xs.length+ys.length) oc e)) (w.drew.alloc (.cells (old.toArray++news.toArray++Builtin.zeroCells z.cells (grownCap w (xs.length+ys.length) oc e-(xs.length+ys.length))) e)):=fun oc old ho heo=>by
  have ge:=grownCap_ge w (xs.length+ys.length) oc e;have cm:=grownCap_le_maxLen w (xs.length+ys.length) oc e (by unfold maxLen;omega);generalize grownCap w (xs.length+ys.length) oc e=gc at *;have hall:(old++news++(Builtin.zeroCells z.cells (gc-(xs.length+ys.length))).toList).toArray=(old.toArray++news.toArray++Builtin.zeroCells z.cells (gc-(xs.length+ys.length))):=by simp
  have hzs:(Builtin.zeroCells z.cells (gc-(xs.length+ys.length))).toList.length=(gc-(xs.length+ys.length))*Dat.sz α:=by
   rw [Array.length_toList,size_zeroCells,hzl]
  refine ⟨gc,old++news++(Builtin.zeroCells z.cells (gc-(xs.length+ys.length))).toList,w.drawn+1,e,by simp,by rw [hall];rfl,?_,by simpa using ge,cm,by simpa using hm,fun j hj=>?_⟩
  ·simp only [List.length_append,hzs,ho,hl,← Nat.add_mul];congr 1;omega
  ·simp only [List.length_append] at hj;rw [List.append_assoc];rcases Nat.lt_or_ge j xs.length with h1 | h1
   ·have hle:j*Dat.sz α+Dat.sz α≤old.length:=by rw [ho,← Nat.succ_mul];exact Nat.mul_le_mul_right _ (by omega)
    rw [Zj6 hle,List.getElem_append_left h1];exact heo j h1
   ·have hle:(j-xs.length)*Dat.sz α+Dat.sz α≤news.length:=by rw [hl,← Nat.succ_mul];exact Nat.mul_le_mul_right _ (by omega)
    have e1:j*Dat.sz α=old.length+(j-xs.length)*Dat.sz α:=by rw [ho,← Nat.add_mul];congr 1;omega
    rw [e1,seg_right (by simp;omega),Zj6 hle,List.getElem_append_right h1];exact he (j-xs.length) (by omega)
 rcases hv with ⟨rfl,rfl⟩ | ⟨cp,cs,rfl,hblk,hrow⟩
 · -- nil
  simp only [List.length_nil,Nat.zero_add,List.nil_append] at *;have k1:=key 0 [] (by simp) (fun j hj=>absurd hj (by simp));have hr:=run_append_nil (P:=P) w t ty e ti z S.h hi1 hi2 ⟨b2,off,none⟩ ys.length c news (by rw [hl,hi3]) hnews h0 (by omega) (by rw [hi4];omega);refine ⟨_,_,hr,.inr (.inl ?_)⟩;simpa using k1
 ·obtain ⟨hcl,hle,hcm,hmx,hel⟩:=hrow
  by_cases hroom:xs.length+ys.length≤cp
  · -- there is Zdv
   have hfit:xs.length*Dat.sz α+news.length≤cs.length:=by rw [hl,hcl,← Nat.add_mul];exact Nat.mul_le_mul_right _ hroom
   obtain ⟨w',r1,r2,r3,r4⟩:=Zbe (P:=P) hblk hfit (he.scal hl);have hf:=run_firstCells_some (P:=P) w ti.size ys.length ⟨b2,off,none⟩ ys.length c news (by rw [hl,hi3]) hnews;refine ⟨.slice (some ⟨b,0,none⟩) (xs.length+ys.length) cp,w',?_,.inr (.inr ⟨cp,cs,news,rfl,hroom,h0,rfl,hblk,⟨hcl,hle,hcm,hmx,hel⟩,r2,r3,hl,he⟩)⟩;rw [hi3] at hf;simp [Builtin.append_,run_underlying S.h,sizeOf,typeInfo,hi1,hi3,Builtin.lenOf,hroom,hf,Za0,r1]
  · -- a new row
   have hlo:xs.length*Dat.sz α≤cs.length:=by rw [hcl];exact Nat.mul_le_mul_right _ hle
   have hol:(cs.take (xs.length*Dat.sz α)).length=xs.length*Dat.sz α:=by rw [List.length_take];exact Nat.min_eq_left hlo
   have heo:ZaT A w (cs.take (xs.length*Dat.sz α)) xs:=fun j hj=>by
    rw [seg_take (by rw [← Nat.succ_mul];exact Nat.mul_le_mul_right _ (by omega)) hlo];exact hel j hj
   have hr:=run_append_grow (P:=P) w t ty e ti z S.h hi1 hi2 ⟨b,0,none⟩ xs.length cp (cs.take (xs.length*Dat.sz α)) (by rw [hol,hi3]) (fun j v hj=>by
    obtain ⟨h5,rfl⟩:=List.getElem?_eq_some_iff.1 hj;rw [hol] at h5;rw [Za0,Nat.zero_add,hblk.cell (by omega),List.getElem_take,List.getD_eq_getElem?_getD,List.getElem?_eq_getElem (by omega)];rfl)
    ⟨b2,off,none⟩ ys.length c news (by rw [hl,hi3]) hnews (by omega) (by omega) (by rw [hi4];exact growslice_fits (by omega) hn)
   exact ⟨_,_,hr,.inr (.inl (key cp _ hol heo))⟩
end app
end Go.Proofs.YtkmojgfenlgchaaGreatDoor.Tr
namespace Go.Proofs.YtkmojgfenlgchaaGreatDoor.Tr
open Go Go.RowKit
def Fu {α:Type} [Dat α] (B:Nat) (xs:List α):Ty:=
  ⟨fun A w v=>∃ b cs,v=.slice (some ⟨b,0,none⟩) xs.length xs.length∧B≤b∧A b∧Blk w b cs∧(Row xs xs.length).p A w cs,
   fun k ⟨b,cs,h1,h2,h3,h4,h5⟩=>⟨b,cs,h1,h2,(k.h b h4.lt h3).1,h4.keep k h3,(Row xs xs.length).keep k h5⟩⟩
theorem Row.reads {α:Type} [Dat α] {A:Nat→Prop} {w:World} {b c:Nat} {cs:List Value} {xs:List α} (hb:A b) (hblk:Blk w b cs) (hr:(Row xs c).p A w cs):(D xs).p A w (.slice (some ⟨b,0,none⟩) xs.length c):=by
 obtain ⟨k1,k2,k3,k4,k5⟩:=hr;refine ⟨[_],⟨_,c,rfl,k2,k3,k4,fun q hq=>⟨b,0,rfl,hb,_,?_,k5 q hq⟩⟩,rfl⟩;rw [Nat.zero_add];refine hblk.row ?_;rw [k1,← Nat.succ_mul];exact Nat.mul_le_mul_right _ (by omega)
theorem Fu.le {α:Type} [Dat α] {B:Nat} {xs:List α}:(Fu B xs).le (D xs):=fun A w v ⟨b,cs,h1,h2,h3,h4,h5⟩=>by rw [h1];exact Row.reads h3 h4 h5
instance {α:Type} [i:Dat α] {B:Nat} {x:List α}:AsL (Fu B x) α i x:=⟨Fu.le⟩
instance {α:Type} {i:Dat α} {B:Nat} {x:List α}:ToD (Fu B x) (List α) instList x:=⟨Fu.le⟩
def NewF {α:Type} [Dat α] (A:Nat→Prop) (w:World) (xs:List α) (v:Value) (w':World):Prop:=
 ∃ cs d e,v=.slice (some ⟨w.heap.size,0,none⟩) xs.length xs.length∧w'=({ w with drawn:=d }:World).alloc (.cells cs.toArray e)∧(Row xs xs.length).p A w cs
theorem NewF.new {α:Type} [Dat α] {A:Nat→Prop} {w:World} {xs:List α} {v:Value} {w':World} (h:NewF A w xs v w'):NewR A w xs v w':=let ⟨cs,d,e,h⟩:=h;⟨_,cs,d,e,h⟩
theorem NewF.fu {α:Type} [Dat α] {A:Nat→Prop} {w:World} {xs:List α} {v:Value} {w':World} {B:Nat} (h:NewF A w xs v w') (hB:B≤w.heap.size) (hA:∀ k,w.heap.size≤k→A k):(Fu B xs).p A w' v:=by
 have hg:Grow 0 w w':=h.new.grow (Nat.zero_le _);obtain ⟨cs,d,e,rfl,rfl,hr⟩:=h;exact ⟨_,cs,rfl,hB,hA _ (Nat.le_refl _),Blk.new rfl,(Row xs xs.length).keep (Keep.grow hg) hr⟩
section run
variable {P:Program} {B0:Nat} {A:Nat→Prop} {Γ:Env} {dst:Option Tmp} {ty:TypeId} {pos:String} {aft:Array Edge} {gd:Option (Nat×Bool)}
variable {α:Type} {i:Dat α} {t e:TypeId} {bt:Nat}
theorem ZgU [S:TSl P t e] [T:TEl P e α i bt] {n:Nat} {parts:Array (Nat×Operand)} {a:Act} {w:World} (xs:List Operand) {ys:List α} [h:HasAll Γ xs α i ys]
  (hp:parts=(xs.zipIdx.map fun p=>(p.2,p.1)).toArray) (hn:xs.length=n) (hs:n*Dat.sz α≤16777216) (hl:∀ s,.tmp s∈(Op.buildSlice t n parts).operands.toList→(Γ s).p A w (a.tmps.getD s undef)) :
  ∃ v w',(execOp a.eval ⟨dst,.buildSlice t n parts,ty,pos,aft,gd⟩).run P w=.ok (.value v) w'∧NewF A w ys v w':=by
 obtain ⟨ti,z,hi1,hi2,hi3,hi4,hi5⟩:=T.h;subst hp;have hin:∀ t,.tmp t∈xs→(Γ t).p A w (a.tmps.getD t undef):=fun t ht=>hl t (by
  simp only [Op.operands];obtain ⟨j,hj,e1⟩:=List.getElem_of_mem ht;simp only [List.map_map,List.mem_map,Function.comp];exact ⟨(.tmp t,j),by rw [List.mem_zipIdx_iff_getElem?];rw [List.getElem?_eq_getElem hj,e1],rfl⟩)
 have hlen:xs.length=ys.length:=h.len;have hsz:=Dat.pos (α:=α)
 let zs:List Value:=((List.range (n*Dat.sz α)).map fun j=>(z.cells[j % z.cells.size]!))
 obtain ⟨cs',f1,f2,f3,-⟩:=fill_row (α:=α) (A:=A) (w:=w) (xs.map a.eval) ys 0 zs (by simpa using hlen) (by simp [zs,hn]) fun j hj hj'=>by
  rw [List.getElem_map];exact h.h a A w hin j (by simpa using hj) hj'
 have e2:(xs.zipIdx.map fun p=>(p.2,p.1)).map (fun q:Nat×Operand=>(q.1,a.eval q.2))=((xs.map a.eval).zipIdx 0).map fun p=>(p.2,p.1):=by
  rw [List.zipIdx_map];simp [List.map_map,Function.comp_def]
 have hcs:cs'.length=ys.length*Dat.sz α:=by rw [f2];simp [zs];rw [← hn,hlen]
 have hrun:(execOp a.eval ⟨dst,.buildSlice t n (xs.zipIdx.map fun p=>(p.2,p.1)).toArray,ty,pos,aft,gd⟩).run P w=.ok (.value (.slice (some ⟨w.heap.size,0,none⟩) n n)) (w.alloc (.cells cs'.toArray e)):=by
  have h1:¬ (16777216<n*Dat.sz α):=by omega
  have f1':Instr.fill (fun i=>some (i*Dat.sz α,Dat.sz α)) ((Array.range (n*Dat.sz α)).map (z.cells[· % z.cells.size]!)) (((xs.zipIdx.map fun p=>(p.2,p.1)).map (fun q:Nat×Operand=>(q.1,a.eval q.2))))=some cs'.toArray:=by
   rw [e2,← f1];congr 1;apply Array.ext';simp [zs]
  by_cases h0:n*Dat.sz α=0
  ·have hz0:n=0:=by rcases Nat.mul_eq_zero.1 h0 with h | h <;> omega
   subst hz0;have hx0:xs=[]:=List.eq_nil_of_length_eq_zero hn;subst hx0;have hc0:cs'=[]:=List.eq_nil_of_length_eq_zero (by rw [hcs,← hlen];simp);subst hc0;simp [execOp,Instr.buildSlice,run_underlying S.h,sizeOf,typeInfo,hi1,Instr.fill,newRow,Array.range_zero']
  ·simp only [execOp,Instr.buildSlice,Sem.run_bind,run_underlying S.h,Result.andThen_ok,sizeOf,typeInfo,run_program,hi1,Sem.run_pure,hi3];rw [if_neg (by simpa using h1)];simp only [Sem.run_pure,Result.andThen_ok,if_neg h0,Sem.run_bind,zeroValue,typeInfo,run_program,hi1,hi2,List.map_toArray,f1'];simp [newRow]
 refine ⟨_,_,hrun,cs',w.drawn,e,by rw [← hlen,hn],rfl,hcs,Nat.le_refl _,?_,?_,fun j hj=>?_⟩
 ·have:ys.length≤ys.length*Dat.sz α:=Nat.le_mul_of_pos_right _ hsz;rw [← hlen,hn] at this ⊢;unfold maxLen;omega
 ·have:ys.length≤ys.length*Dat.sz α:=Nat.le_mul_of_pos_right _ hsz;rw [← hlen,hn] at this ⊢;unfold ZjT;omega
 ·have:=f3 j hj
  rwa [Nat.zero_add] at this
theorem ZgT [S:TSl P t e] [T:TEl P e α i bt] {x y:Operand} {τ σ:Ty} {m n:Int} {a:Act} {w:World} [hx:Has Γ x τ] [kx:AsI τ m] [hy:Has Γ y σ] [k:AsI σ n] (hm0:0≤m) (h0:m≤n) (hb:bt*n.toNat≤281474976710656) (hm:n≤140737488351232) (hl:∀ s,.tmp s∈(Op.makeSlice t x y).operands.toList→(Γ s).p A w (a.tmps.getD s undef)) :
  ∃ cs,(execOp a.eval ⟨dst,.makeSlice t x y,ty,pos,aft,gd⟩).run P w=.ok (.value (.slice (some ⟨w.heap.size,0,none⟩) m.toNat n.toNat)) (({ w with drawn:=w.drawn }:World).alloc (.cells cs.toArray e))∧(Row (List.replicate n.toNat (Dat.z (α:=α))) n.toNat).p A w cs:=by
 obtain ⟨ti,z,hi1,hi2,hi3,hi4,hi5⟩:=T.h;have e0:a.eval x=.int .i64 m:=kx.le _ _ _ (Zt (x:=x) (τ:=τ) (op:=.makeSlice t x y) (by simp [Op.operands]) hl);have e1:a.eval y=.int .i64 n:=k.le _ _ _ (Zt (x:=y) (τ:=σ) (op:=.makeSlice t x y) (by simp [Op.operands]) hl);have hbb:(bt:Int)*n≤281474976710656:=by
  have h1:((bt*n.toNat:Nat):Int)≤281474976710656:=by omega
  rw [Int.natCast_mul,Int.toNat_of_nonneg (by omega)] at h1;exact h1
 have hr:=run_make (P:=P) w t e ti z S.h hi1 hi2 .i64 .i64 m n hm0 h0 (by rw [hi4];exact hbb) (by omega);have hrun:(execOp a.eval ⟨dst,.makeSlice t x y,ty,pos,aft,gd⟩).run P w=.ok (.value (.slice (some ⟨w.heap.size,0,none⟩) m.toNat n.toNat)) (w.alloc (.cells (madeCells z.cells (n.toNat*ti.size)) e)):=by
  simp only [execOp,Sem.run_bind,Sem.run_pure,e0,e1,hr,Result.andThen_ok]
 have hsz:=Dat.pos (α:=α);have hzl:z.cells.size=Dat.sz α:=by rw [hi5];simpa using Dat.len (Dat.zrd (α:=α) (A:=fun _=>True) (w:=w))
 refine ⟨(madeCells z.cells (n.toNat*ti.size)).toList,by rw [hrun,Array.toArray_toList],?_,by simp,?_,?_,fun j hj=>?_⟩
 ·simp [size_madeCells,hi3]
 ·unfold maxLen;omega
 ·simp;unfold ZjT;omega
 ·simp only [List.length_replicate] at hj;have e2:seg (madeCells z.cells (n.toNat*ti.size)).toList (j*Dat.sz α) (Dat.sz α)=Dat.zc α:=by
   have hle:j*Dat.sz α+Dat.sz α≤n.toNat*Dat.sz α:=by rw [← Nat.succ_mul];exact Nat.mul_le_mul_right _ (by omega)
   have hzc:(Dat.zc α).length=Dat.sz α:=Dat.len (Dat.zrd (α:=α) (A:=fun _=>True) (w:=w));refine ZaH (by rw [Zv (by simpa [size_madeCells,hi3] using hle),hzc]) fun q hq=>?_
   rw [Zv (by simpa [size_madeCells,hi3] using hle)] at hq;rw [Zab hq];have h3:j*Dat.sz α+q<n.toNat*Dat.sz α:=by omega
   have h4:(j*Dat.sz α+q) % Dat.sz α=q:=by rw [Nat.mul_comm,Nat.mul_add_mod,Nat.mod_eq_of_lt hq]
   have h5:(madeCells z.cells (n.toNat*ti.size)).toList.getD (j*Dat.sz α+q) undef=z.cells[(j*Dat.sz α+q) % z.cells.size]!:=by
    simp [madeCells,List.getD_eq_getElem?_getD,hi3,h3]
   rw [h5,hzl,h4,hi5,getElem!_pos _ _ (by simpa [hzc] using hq)];simp [List.getD_eq_getElem?_getD,hzc,hq]
  rw [e2,List.getElem_replicate];exact Dat.zrd
theorem run_makeSlice [S:TSl P t e] [T:TEl P e α i bt] {x:Operand} {τ:Ty} {n:Int} {a:Act} {w:World} [hx:Has Γ x τ] [k:AsI τ n] (h0:0≤n) (hb:bt*n.toNat≤281474976710656) (hm:n≤140737488351232) (hl:∀ s,.tmp s∈(Op.makeSlice t x x).operands.toList→(Γ s).p A w (a.tmps.getD s undef)) :
  ∃ v w',(execOp a.eval ⟨dst,.makeSlice t x x,ty,pos,aft,gd⟩).run P w=.ok (.value v) w'∧NewF A w (List.replicate n.toNat (Dat.z (α:=α))) v w':=by
 obtain ⟨cs,h1,h2⟩:=ZgT (P:=P) (t:=t) (e:=e) (bt:=bt) (A:=A) (dst:=dst) (ty:=ty) (pos:=pos) (aft:=aft) (gd:=gd) (α:=α) (x:=x) (y:=x) (a:=a) (w:=w) h0 (Int.le_refl _) hb hm hl;refine ⟨_,_,h1,cs,w.drawn,e,by simp,rfl,by simpa using h2⟩
end run
section ops
variable {P:Program} {B0:Nat} {A:Nat→Prop} {Ω:List Pe} {Γ:Env} {dst:Option Tmp} {ty:TypeId} {pos:String} {aft:Array Edge} {gd:Option (Nat×Bool)}
variable {α:Type} {i:Dat α} {t e:TypeId} {bt:Nat}
theorem OpY.buildSlice [S:TSl P t e] [T:TEl P e α i bt] {n:Nat} {parts:Array (Nat×Operand)} (xs:List Operand) {ys:List α} [h:HasAll Γ xs α i ys]
  (hp:parts=(xs.zipIdx.map fun p=>(p.2,p.1)).toArray) (hn:xs.length=n) (hs:n*Dat.sz α≤16777216):OpY P B0 A Ω Γ ⟨dst,.buildSlice t n parts,ty,pos,aft,gd⟩ (Fu B0 ys):=fun a w hB hu _ hl=>by
 obtain ⟨v,w',h1,h2⟩:=ZgU (P:=P) (A:=A) (dst:=dst) (ty:=ty) (pos:=pos) (aft:=aft) (gd:=gd) xs (ys:=ys) hp hn hs hl;rw [h1];exact ⟨h2.new.grow hB,h2.fu hB hu⟩
theorem OpY.makeSlice [S:TSl P t e] [T:TEl P e α i bt] {x:Operand} {τ:Ty} {n:Int} [hx:Has Γ x τ] [k:AsI τ n] (h0:0≤n) (hb:bt*n.toNat≤281474976710656) (hm:n≤140737488351232) :
  OpY P B0 A Ω Γ ⟨dst,.makeSlice t x x,ty,pos,aft,gd⟩ (Fu B0 (List.replicate n.toNat (Dat.z (α:=α)))):=fun a w hB hu _ hl=>by
 obtain ⟨v,w',h1,h2⟩:=run_makeSlice (P:=P) (A:=A) (dst:=dst) (ty:=ty) (pos:=pos) (aft:=aft) (gd:=gd) (α:=α) (x:=x) h0 hb hm hl;rw [h1];exact ⟨h2.new.grow hB,h2.fu hB hu⟩
theorem app_run {a:Act} {w w':World} {s x:Operand} {v:Value} (h:(Builtin.append_ #[t,t] ty #[a.eval s,a.eval x]).run P w=.ok v w') :
  (execOp a.eval ⟨dst,.call { callee:=.builtin .append,args:=#[s,x],argTypes:=#[t,t] },ty,pos,aft,gd⟩).run P w=.ok (.value v) w':=by
 simp only [execOp,resolve,invoke,builtin,Sem.run_bind,Sem.run_pure,Result.andThen_ok,List.map_toArray,List.map_cons,List.map_nil,h]
end ops
end Go.Proofs.YtkmojgfenlgchaaGreatDoor.Tr
namespace Go.Proofs.YtkmojgfenlgchaaGreatDoor.Tr
open Go Go.RowKit
structure PlS (C:Ct) (o:Nat) (α:Type) (i:Dat α) (xs:List α) (upd:List α→Ct):Prop where
 mo:∀ {A w cs},C.p A w cs→xs.length≤ZjT
 rd:∀ {A w cs},C.p A w cs→o+xs.length*Dat.sz α≤cs.length∧ZaT A w (seg cs o (xs.length*Dat.sz α)) xs
 st:∀ {A w cs news} (ys:List α),ys.length=xs.length→C.p A w cs→news.length=ys.length*Dat.sz α→ZaT A w news ys→(upd ys).p A w (ZU cs o news)
theorem PlS.row {α:Type} {i:Dat α} {xs:List α} {c k n:Nat} (h:k+n≤xs.length):PlS (Row xs c) (k*Dat.sz α) α i ((xs.drop k).take n) fun ys=>Row (splice xs k ys) c:=by
 have hl:((xs.drop k).take n).length=n:=by simp;omega
 refine ⟨fun {A w cs} hc=>by obtain ⟨h1,h2,h3,h4,h5⟩:=hc;omega,fun {A w cs} hc=>?_,fun {A w cs news} ys hy hc hn he=>?_⟩
 ·obtain ⟨h1,h2,h3,h4,h5⟩:=hc;rw [hl];have hfit:k*Dat.sz α+n*Dat.sz α≤cs.length:=by rw [h1,← Nat.add_mul];exact Nat.mul_le_mul_right _ (by omega)
  refine ⟨hfit,?_⟩;intro j hj;have hj':j<n:=by omega
  rw [Zib (by rw [← Nat.succ_mul];exact Nat.mul_le_mul_right _ (by omega)) hfit,← Nat.add_mul];have e:((xs.drop k).take n)[j]=xs[k+j]'(by omega):=by rw [List.getElem_take,List.getElem_drop]
  rw [e];exact h5 _ (by omega)
 ·obtain ⟨h1,h2,h3,h4,h5⟩:=hc;exact Row.splice ⟨h1,h2,h3,h4,h5⟩ he hn (by omega) (by omega) (by omega)
theorem PlS.row0 {α:Type} {i:Dat α} {xs:List α} {c n:Nat} (h:n≤xs.length):PlS (Row xs c) 0 α i (xs.take n) fun ys=>Row (splice xs 0 ys) c:=by
 have:=PlS.row (i:=i) (xs:=xs) (c:=c) (k:=0) (n:=n) (by omega);simpa using this
theorem PlS.src {α:Type} {i:Dat α} {C:Ct} {o n c:Nat} {xs:List α} {upd:List α→Ct} {A:Nat→Prop} {w:World} {b:Nat} {cs:List Value} (h:PlS C o α i xs upd) (hb:Blk w b cs) (hc:C.p A w cs) (hn:n=xs.length):Src A w (.slice (some ⟨b,o,none⟩) n c) xs:=by
 subst hn;obtain ⟨h1,h2⟩:=h.rd hc;exact ⟨_,c,rfl,fun _=>⟨b,o,_,rfl,Zv h1,hb.row h1,h2⟩⟩
def Sv (b:Nat) (pr:Prop) (o n:Nat):Ty:=⟨fun _ _ v=>(pr∧∃ o' c,v=.slice (some ⟨b,o',none⟩) n c∧(n≤c∧c≤maxLen)∧(0<n→o'=o))∨(¬ pr∧n=0∧v=.slice none 0 0),fun _ h=>h⟩
theorem Sl.sv {b:Nat} {pr:Prop} {o n c:Nat}:(Sl b pr o n c).le (Sv b pr o n):=fun _ _ v h=>by
 rcases h with ⟨h1,h0,h2⟩ | ⟨h1,h2,h3,h4⟩
 ·exact .inl ⟨h1,o,c,h2,h0,fun _=>rfl⟩
 ·exact .inr ⟨h1,h2,h4⟩
class AsSv (τ:Ty) (b:outParam Nat) (pr:outParam Prop) (o n:outParam Nat):Prop where
 le:τ.le (Sv b pr o n)
instance {b:Nat} {pr:Prop} {o n:Nat}:AsSv (Sv b pr o n) b pr o n:=⟨Ty.le.refl _⟩
instance {b:Nat} {pr:Prop} {o n c:Nat}:AsSv (Sl b pr o n c) b pr o n:=⟨Sl.sv⟩
instance {p:Prop} {τ:Ty} {b:Nat} {pr:Prop} {o n:Nat} [h:Ft p] [k:AsSv τ b pr o n]:AsSv (ZgN p τ) b pr o n:=⟨fun A w v x=>k.le A w v (x.1 h.h)⟩
section ops
variable {P:Program} {B:Nat} {Ωs Ω Ωr:List Pe} {Γ:Env} {ty:TypeId} {pos:String} {aft:Array Edge}
variable {α:Type} {i:Dat α} {t e:TypeId} {bt:Nat} {d:Tmp}
theorem OpT.buildSlice [S:TSl P t e] [T:TEl P e α i bt] {m:Nat} {parts:Array (Nat×Operand)} (xs:List Operand) {ys:List α} [h:HasAll Γ xs α i ys]
  (hp:parts=(xs.zipIdx.map fun p=>(p.2,p.1)).toArray) (hn:xs.length=m) (hs:m*Dat.sz α≤16777216) :
  OpT P B Ωs Ω Γ ⟨some d,.buildSlice t m parts,ty,pos,aft,none⟩ (fun g:Nat×Unit=>Sl g.1 True 0 ys.length ys.length) fun g=>⟨g.1,True,Row ys ys.length⟩::Ω:=
 ZfB (C:=fun _=>Row ys ys.length) rfl fun A a w _ _ hl=>by
  obtain ⟨v,w',h1,cs,q,el,h2,rfl,h3⟩:=ZgU (P:=P) (t:=t) (e:=e) (bt:=bt) (A:=A) (dst:=some d) (ty:=ty) (pos:=pos) (aft:=aft) (gd:=none) (w:=w) (a:=a) xs (ys:=ys) hp hn hs hl;exact ⟨(),v,q,cs,el,h1,fun _ _=>.inl ⟨trivial,⟨Nat.le_refl _,h3.2.2.1⟩,h2⟩,h3⟩
theorem OpT.makeSlice [S:TSl P t e] [T:TEl P e α i bt] {x y:Operand} {τ σ:Ty} {m n:Int} [hx:Has Γ x τ] [kx:AsI τ m] [hy:Has Γ y σ] [k:AsI σ n] (hm0:0≤m) (h0:m≤n) (hb:bt*n.toNat≤281474976710656) (hm:n≤140737488351232) :
  OpT P B Ωs Ω Γ ⟨some d,.makeSlice t x y,ty,pos,aft,none⟩ (fun g:Nat×Unit=>Sl g.1 True 0 m.toNat n.toNat) fun g=>⟨g.1,True,Row (List.replicate n.toNat (Dat.z (α:=α))) n.toNat⟩::Ω:=
 ZfB (C:=fun _=>Row (List.replicate n.toNat (Dat.z (α:=α))) n.toNat) rfl fun A a w _ _ hl=>by
  obtain ⟨cs,h1,h2⟩:=ZgT (P:=P) (t:=t) (e:=e) (bt:=bt) (A:=A) (dst:=some d) (ty:=ty) (pos:=pos) (aft:=aft) (gd:=none) (α:=α) (x:=x) (y:=y) (a:=a) (w:=w) hm0 h0 hb hm hl;exact ⟨(),_,w.drawn,cs,e,h1,fun _ _=>.inl ⟨trivial,⟨by omega,h2.2.2.1⟩,rfl⟩,h2⟩
theorem ZiI {b:Nat} {C:Ct} {pr:Prop} (hp:¬ pr):Less Ω (⟨b,pr,C⟩::Ω):=
 ⟨fun k ⟨e,he,h1,h2⟩=>by
  rcases List.mem_cons.1 he with rfl | he
  ·exact absurd h1 hp
  ·exact ⟨e,he,h1,h2⟩,fun h=>List.pairwise_cons.2 ⟨fun f _ h1=>absurd h1 hp,h⟩,fun A w h e he h1=>by
  rcases List.mem_cons.1 he with rfl | he
  ·exact absurd h1 hp
  ·exact h e he h1⟩
theorem NilS.sl {b:Nat} {pr:Prop} {o:Nat} (hp:¬ pr):Ty.le NilS (Sl b pr o 0 0):=fun _ _ v h=>.inr ⟨hp,rfl,rfl,h⟩
class SrcOf (Ω:List Pe) (τ:Ty) (α:Type) (i:Dat α) (ys:outParam (List α)):Prop where
 h:∀ {A w u},Pks A Ω w→τ.p A w u→Src A w u ys
instance {τ:Ty} {ys:List α} [hl:AsL τ α i ys]:SrcOf Ω τ α i ys:=⟨fun _ h=>Src.of_D (hl.le _ _ _ h)⟩
theorem Zky {τ:Ty} {b o n:Nat} {pr:Prop} {C:Ct} {ys:List α} {upd:List α→Ct} [k:AsSv τ b pr o n] [hb:HasB Ω b pr C] (p:PlS C o α i ys upd) (hn:n=ys.length):SrcOf Ω τ α i ys:=⟨fun {A w u} hk h=>by
 rcases k.le _ _ _ h with ⟨hp,o',c,rfl,-,h2⟩ | ⟨hp,h1,rfl⟩
 ·obtain ⟨cs,g1,g2⟩:=hk _ hb.h hp;rcases Nat.eq_zero_or_pos n with h0 | h0
  ·subst h0;have:ys=[]:=List.eq_nil_of_length_eq_zero hn.symm;subst this;exact ⟨_,c,rfl,fun h=>absurd h (by simp)⟩
  ·obtain rfl:=h2 h0;exact p.src g1 g2 hn
 ·subst h1;have:ys=[]:=List.eq_nil_of_length_eq_zero hn.symm;subst this;exact ⟨_,0,rfl,fun h=>absurd h (by simp)⟩⟩
theorem OpT.appendBy [S:TSl P t e] [T:TEl P e α i bt] {s x:Operand} {σ:Ty} {b m c c':Nat} {pr:Prop} {xs ys:List α} [hs:Has Γ s (Sl b pr 0 m c')] [sp:Pick Ω b pr (Row xs c) Ωr] [hx:Has Γ x σ] (hl:SrcOf (Ωs++Ω) σ α i ys)
  (hc:c'=c) (hm:m≤xs.length) (hn:(m+ys.length)*bt≤140737488355328) (hmo:m+ys.length≤ZjT) :
  OpT P B Ωs Ω Γ ⟨some d,.call { callee:=.builtin .append,args:=#[s,x],argTypes:=#[t,t] },ty,pos,aft,none⟩ (fun g:Nat×Prop×Nat=>Sl g.1 g.2.1 0 (xs.take m++ys).length g.2.2) fun g=>⟨g.1,g.2.1,Row (xs.take m++ys) g.2.2⟩::Ωr:=by
 subst hc;refine OpT.frame (Ωt:=[⟨b,pr,Row xs c'⟩]) (Ω':=fun g:Nat×Prop×Nat=>[⟨g.1,g.2.1,Row (xs.take m++ys) g.2.2⟩]) sp.perm ⟨rfl,fun A0 a w hB hu ho ha hk hlv=>?_⟩;have hp1:(Ωs++Ω).Perm ((Ωs++Ωr)++[⟨b,pr,Row xs c'⟩]):=by
  rw [List.append_assoc];exact (sp.perm.trans (show (([⟨b,pr,Row xs c'⟩]:List Pe)++Ωr).Perm (Ωr++[⟨b,pr,Row xs c'⟩]) from List.perm_append_comm)).append_left _
 have hk0:Pks (Pub A0 ((Ωs++Ωr)++[⟨b,pr,Row xs c'⟩])) (Ωs++Ω) w:=fun e he=>hk e (hp1.mem_iff.1 he)
 have h1:=hs.le a _ w fun t ht=>hlv t (by simp [Op.operands,Call.operands,← ht])
 have h2:=hl.h hk0 (hx.le a _ w fun t ht=>hlv t (by simp [Op.operands,Call.operands,← ht]));have hml:(xs.take m).length=m:=by simp;omega
 have hv:(a.eval s=.slice none 0 0∧xs.take m=[])∨∃ c cs,a.eval s=.slice (some ⟨b,0,none⟩) (xs.take m).length c∧Blk w b cs∧(Row (xs.take m) c).p (Pub A0 ((Ωs++Ωr)++[⟨b,pr,Row xs c'⟩])) w cs:=by
  rcases h1 with ⟨hp,-,h1⟩ | ⟨hp,h1,h1',h1''⟩
  ·obtain ⟨cs,g1,g2⟩:=hk ⟨b,pr,Row xs c'⟩ (by simp) hp;exact .inr ⟨c',cs,by rw [h1,hml],g1,Row.take g2 hm⟩
  ·exact .inl ⟨h1'',List.eq_nil_of_length_eq_zero (by omega)⟩
 obtain ⟨v',w',r1,r2⟩:=run_append (P:=P) (t:=t) (e:=e) (bt:=bt) (ty:=ty) hv h2 (by rw [hml];exact hn) (by rw [hml];exact hmo);rw [app_run r1];have hap1:=(List.pairwise_append.1 ha).1;have hlt:∀ j,Own (Ωs++Ωr) j→j<w.heap.size:=fun j hj=>(Zbn.1 hk).1.lt hj
 rcases r2 with ⟨hy,rfl,rfl⟩ | r2 | ⟨c2,cs,news,e1,e2,e3,e4,e5,e6,e7,e8,e9,e10⟩
 ·refine ⟨(b,pr,c'),Stp.refl _ _ _,fun k ⟨f,hf,h3,h4⟩=>?_,?_,?_,fun f hf hfp=>?_⟩
  ·obtain rfl:=List.mem_singleton.1 hf;exact .inl ⟨_,List.mem_singleton.2 rfl,h3,h4⟩
  ·refine List.pairwise_append.2 ⟨hap1,List.pairwise_singleton _ _,fun x hx y hy h3 h4=>?_⟩;obtain rfl:=List.mem_singleton.1 hy;exact (List.pairwise_append.1 ha).2.2 x hx ⟨b,pr,Row xs c'⟩ (List.mem_singleton.2 rfl) h3 h4
  ·rw [hy,List.append_nil,hml];exact h1
  ·obtain rfl:=List.mem_singleton.1 hf;obtain ⟨cs,g1,g2⟩:=hk ⟨b,pr,Row xs c'⟩ (by simp) hfp;refine ⟨cs,g1,?_⟩;have:=Row.take g2 hm;rw [hy,List.append_nil];exact (Row (xs.take m) c').keep (Keep.mono fun j _ hj=>ZE.2 ⟨(ZE.1 hj).1,fun hoj=>(ZE.1 hj).2 (by
    rcases ZP.1 hoj with h | ⟨f,hf,h3,h4⟩
    ·exact ZP.2 (.inl h)
    ·obtain rfl:=List.mem_singleton.1 hf;exact ZP.2 (.inr ⟨_,List.mem_singleton.2 rfl,h3,h4⟩))⟩) this
 ·obtain ⟨c2,cs,q,el,rfl,rfl,f3⟩:=r2;have hgr:Grow B w (({ w with drawn:=q }:World).alloc (.cells cs.toArray el)):=(Grow.drawn q).trans (Grow.push _ hB);have hkp:Keep (Pub A0 ((Ωs++Ωr)++[⟨b,pr,Row xs c'⟩])) (Pub A0 ((Ωs++Ωr)++[⟨w.heap.size,True,Row (xs.take m++ys) c2⟩])) w (({ w with drawn:=q }:World).alloc (.cells cs.toArray el)):=by
   refine ⟨hgr.size,fun j hj hp=>⟨ZE.2 ⟨(ZE.1 hp).1,fun hoj=>?_⟩,hgr.cells j hj⟩⟩;rcases ZP.1 hoj with h | ⟨f,hf,h3,h4⟩
   ·exact (ZE.1 hp).2 (ZP.2 (.inl h))
   ·obtain rfl:=List.mem_singleton.1 hf;simp at h4;omega
  refine ⟨(w.heap.size,True,c2),(ZdL hgr),fun k ⟨f,hf,_,h4⟩=>?_,?_,.inl ⟨trivial,⟨f3.2.1,f3.2.2.1⟩,rfl⟩,fun f hf _=>?_⟩
  ·obtain rfl:=List.mem_singleton.1 hf;right;simp at h4;omega
  ·refine List.pairwise_append.2 ⟨hap1,List.pairwise_singleton _ _,fun x hx y hy h3 _ h4=>?_⟩;obtain rfl:=List.mem_singleton.1 hy;have:=hlt _ ⟨x,hx,h3,rfl⟩;simp at h4;omega
  ·obtain rfl:=List.mem_singleton.1 hf;exact ⟨cs,Blk.new rfl,(Row (xs.take m++ys) c2).keep hkp f3⟩
 ·rcases h1 with ⟨hp,-,h1⟩ | ⟨hp,h1,h1',h1''⟩
  ·have hcc:c2=c':=by rw [h1] at e1;injection e1 with _ _ e;exact e.symm
   subst hcc;have hm1:Mut (Own [⟨b,pr,Row xs c2⟩]) w w':=e8.mono fun k e=>⟨_,List.mem_singleton.2 rfl,hp,e.symm⟩
   have hav:∀ j,Pub A0 ((Ωs++Ωr)++[⟨b,pr,Row xs c2⟩]) j→¬ j=b:=fun j hj h=>(ZE.1 hj).2 (ZP.2 (.inr ⟨_,List.mem_singleton.2 rfl,hp,h.symm⟩))
   have hkp:Keep (Pub A0 ((Ωs++Ωr)++[⟨b,pr,Row xs c2⟩])) (Pub A0 ((Ωs++Ωr)++[⟨b,pr,Row (xs.take m++ys) c2⟩])) w w':=by
    refine ⟨e8.size,fun j hj hpj=>⟨ZE.2 ⟨(ZE.1 hpj).1,fun hoj=>(ZE.1 hpj).2 ?_⟩,by rw [e8.same j hj (hav j hpj)];exact Zed.refl _⟩⟩;rcases ZP.1 hoj with h | ⟨f,hf,h3,h4⟩
    ·exact ZP.2 (.inl h)
    ·obtain rfl:=List.mem_singleton.1 hf;exact ZP.2 (.inr ⟨_,List.mem_singleton.2 rfl,h3,h4⟩)
   refine ⟨(b,pr,c2),Zlc hm1 hB,fun k ⟨f,hf,h3,h4⟩=>?_,?_,.inl ⟨hp,⟨by rw [List.length_append];exact e2,e6.2.2.1⟩,by rw [e4,List.length_append]⟩,fun f hf hfp=>?_⟩
   ·obtain rfl:=List.mem_singleton.1 hf;exact .inl ⟨_,List.mem_singleton.2 rfl,h3,h4⟩
   ·refine List.pairwise_append.2 ⟨hap1,List.pairwise_singleton _ _,fun x hx y hy h3 h4=>?_⟩;obtain rfl:=List.mem_singleton.1 hy;exact (List.pairwise_append.1 ha).2.2 x hx ⟨b,pr,Row xs c2⟩ (List.mem_singleton.2 rfl) h3 h4
   ·obtain rfl:=List.mem_singleton.1 hf;refine ⟨_,e7,(Row (xs.take m++ys) c2).keep hkp ?_⟩;have h7:=Row.splice (k:=(xs.take m).length) e6 e10 e9 (Nat.le_refl _) e2 (by rw [hml];exact hmo);unfold splice at h7
    rwa [List.take_of_length_le (Nat.le_refl _),List.drop_of_length_le (by omega),List.append_nil] at h7
  ·rw [h1''] at e1;cases e1
theorem OpT.append [S:TSl P t e] [T:TEl P e α i bt] {s x:Operand} {σ:Ty} {b m c c':Nat} {pr:Prop} {xs ys:List α} [hs:Has Γ s (Sl b pr 0 m c')] [sp:Pick Ω b pr (Row xs c) Ωr] [hx:Has Γ x σ] (hl:SrcOf (Ωs++Ω) σ α i ys)
  (hc:c'=c) (hm:m=xs.length) (hn:(xs.length+ys.length)*bt≤140737488355328) (hmo:xs.length+ys.length≤ZjT) :
  OpT P B Ωs Ω Γ ⟨some d,.call { callee:=.builtin .append,args:=#[s,x],argTypes:=#[t,t] },ty,pos,aft,none⟩ (fun g:Nat×Prop×Nat=>Sl g.1 g.2.1 0 (xs++ys).length g.2.2) fun g=>⟨g.1,g.2.1,Row (xs++ys) g.2.2⟩::Ωr:=by
 have:=OpT.appendBy (P:=P) (B:=B) (Ωs:=Ωs) (Ω:=Ω) (Ωr:=Ωr) (Γ:=Γ) (d:=d) (ty:=ty) (pos:=pos) (aft:=aft) (t:=t) (e:=e) (s:=s) (x:=x) (b:=b) (pr:=pr) (m:=m) (xs:=xs) (ys:=ys) (c:=c) (c':=c') hl hc (by omega) (by rw [hm];exact hn) (by rw [hm];exact hmo);subst hm;rw [List.take_of_length_le (Nat.le_refl _)] at this;exact this
end ops
end Go.Proofs.YtkmojgfenlgchaaGreatDoor.Tr
namespace Go.Proofs.YtkmojgfenlgchaaGreatDoor.Tr
open Go Go.RowKit
theorem setSeg_pre {cs a:List Value} {o r:Nat} (h:o+a.length+r≤cs.length):ZU cs o (a++seg cs (o+a.length) r)=ZU cs o a:=by
 have hs:(seg cs (o+a.length) r).length=r:=Zv h;refine ZaH (by rw [Zl (by simp [hs];omega),Zl (by omega)]) fun j hj=>?_
 rw [Zl (by simp [hs];omega)] at hj;rw [ZO (by simp [hs];omega),ZO (by omega)];simp only [List.length_append,hs]
 by_cases h1:o≤j∧j<o+a.length
 ·rw [if_pos (by omega),if_pos h1];simp only [List.getD_eq_getElem?_getD];rw [List.getElem?_append_left (by omega)]
 ·rw [if_neg h1]
  split
  ·rename_i h2
   have e:(a++seg cs (o+a.length) r).getD (j-o) undef=(seg cs (o+a.length) r).getD (j-o-a.length) undef:=by
    simp only [List.getD_eq_getElem?_getD];rw [List.getElem?_append_right (by omega)]
   rw [e,Zab (by omega)];congr 1;omega
  ·rfl
theorem ZaT.append {α:Type} [Dat α] {A:Nat→Prop} {w:World} {cs ds:List Value} {xs ys:List α} (h:ZaT A w cs xs) (g:ZaT A w ds ys) (hl:cs.length=xs.length*Dat.sz α):ZaT A w (cs++ds) (xs++ys):=fun j hj=>by
 simp only [List.length_append] at hj;rcases Nat.lt_or_ge j xs.length with h1 | h1
 ·have hle:j*Dat.sz α+Dat.sz α≤cs.length:=by rw [hl,← Nat.succ_mul];exact Nat.mul_le_mul_right _ (by omega)
  rw [Zj6 hle,List.getElem_append_left h1];exact h j h1
 ·have e1:j*Dat.sz α=cs.length+(j-xs.length)*Dat.sz α:=by rw [hl,← Nat.add_mul];congr 1;omega
  have e2:seg (cs++ds) (cs.length+(j-xs.length)*Dat.sz α) (Dat.sz α)=seg ds ((j-xs.length)*Dat.sz α) (Dat.sz α):=by
   unfold seg;rw [← List.drop_drop,List.drop_left]
  rw [e1,e2,List.getElem_append_right h1];exact g _ (by omega)
def over {α:Type} (xs ys:List α):List α:=ys.take xs.length++xs.drop ys.length
theorem over_len {α:Type} {xs ys:List α}:(over xs ys).length=xs.length:=by unfold over;simp;omega
theorem PlS.over {α:Type} {i:Dat α} {C:Ct} {o:Nat} {xs:List α} {upd:List α→Ct} (p:PlS C o α i xs upd) {A:Nat→Prop} {w:World} {cs news:List Value} {ys:List α} (hc:C.p A w cs) (hn:news.length=ys.length*Dat.sz α) (he:ZaT A w news ys) :
  o+(news.take (min ys.length xs.length*Dat.sz α)).length≤cs.length∧(upd (Tr.over xs ys)).p A w (ZU cs o (news.take (min ys.length xs.length*Dat.sz α))):=by
 obtain ⟨h1,h2⟩:=p.rd hc;have hk:min ys.length xs.length≤ys.length:=Nat.min_le_left _ _;have hk2:min ys.length xs.length≤xs.length:=Nat.min_le_right _ _;have hl:(news.take (min ys.length xs.length*Dat.sz α)).length=min ys.length xs.length*Dat.sz α:=by rw [List.length_take,hn];exact Nat.min_eq_left (Nat.mul_le_mul_right _ hk)
 have hle:min ys.length xs.length*Dat.sz α≤xs.length*Dat.sz α:=Nat.mul_le_mul_right _ hk2;have hsub:xs.length*Dat.sz α=min ys.length xs.length*Dat.sz α+(xs.length-min ys.length xs.length)*Dat.sz α:=by rw [← Nat.add_mul];congr 1;omega
 refine ⟨by omega,?_⟩;have hfit:o+(news.take (min ys.length xs.length*Dat.sz α)).length+(xs.length-min ys.length xs.length)*Dat.sz α≤cs.length:=by omega
 rw [← setSeg_pre hfit];have hov:Tr.over xs ys=ys.take (min ys.length xs.length)++xs.drop (min ys.length xs.length):=by
  unfold Tr.over;rcases Nat.le_total ys.length xs.length with h | h
  ·rw [Nat.min_eq_left h,List.take_of_length_le h,List.take_of_length_le (Nat.le_refl _)]
  ·rw [Nat.min_eq_right h,List.drop_of_length_le h,List.drop_of_length_le (Nat.le_refl _)]
 rw [hov];refine p.st _ (by simp;omega) hc (by
  have h9:(ys.take (min ys.length xs.length)++xs.drop (min ys.length xs.length)).length=xs.length:=by simp;omega
  rw [h9,List.length_append,Zv hfit,hl];omega) ?_
 refine ZaT.append (he.take hn hk) ?_ (by rw [hl,List.length_take];congr 1;omega);have h3:=h2.drop (m:=min ys.length xs.length) (by rw [Zv h1];exact Nat.le_refl _);have e:(seg cs o (xs.length*Dat.sz α)).drop (min ys.length xs.length*Dat.sz α)=seg cs (o+(news.take (min ys.length xs.length*Dat.sz α)).length) ((xs.length-min ys.length xs.length)*Dat.sz α):=by
  unfold seg;rw [hl,List.drop_take,List.drop_drop];congr 1;omega
 rw [e] at h3;exact h3
section ops
variable {P:Program} {B:Nat} {Ωs Ω Ωr:List Pe} {Γ:Env} {dst:Option Tmp} {ty:TypeId} {pos:String} {aft:Array Edge}
variable {α:Type} {i:Dat α} {t u e:TypeId} {bt:Nat}
def Outs (P:Program) (o:Oper) (a:Act) (w:World) (v:Value) (w':World):Prop:=(execOp a.eval o).run P w=.ok (.value v) w'∨((execOp a.eval o).run P w=.ok .skip w'∧v=undef)
theorem Outs.yields {P:Program} {B:Nat} {A0:Nat→Prop} {Ωs Ωt:List Pe} {ν:Type} {τ:ν→Ty} {Ω':ν→List Pe} {o:Oper} {a:Act} {w w':World} {v:Value} (h:Outs P o a w v w') (g:ν) (k:Aft B A0 Ωs Ωt (τ g) (Ω' g) w w' v):Zfe P B A0 Ωs Ωt τ Ω' w ((execOp a.eval o).run P w):=by
 rcases h with h | ⟨h,rfl⟩ <;> rw [h] <;> exact ⟨g,k⟩
theorem ZmS {o:Oper} {b:Nat} {pr:Prop} {C C':Ct} {τ:Ty} [pk:Pick Ω b pr C Ωr] (hg:o.guard=none)
  (h:∀ (A:Nat→Prop) (a:Act) (w:World),Pks A (Ωs++Ω) w→(∀ t,.tmp t∈o.op.operands.toList→(Γ t).p A w (a.tmps.getD t undef))→
   ∃ v,(∀ A w,τ.p A w v)∧((Outs P o a w v w∧∀ A cs,pr→C.p A w cs→C'.p A w cs)∨
    pr∧∃ w' cs cs',Outs P o a w v w'∧Blk w b cs∧Blk w' b cs'∧Mut (fun k=>k=b) w w'∧C'.p A w cs')) :
  OpT P B Ωs Ω Γ o (fun _:Unit=>τ) fun _=>⟨b,pr,C'⟩::Ωr:=by
 refine OpT.frame (Ωt:=[⟨b,pr,C⟩]) (Ω':=fun _=>[⟨b,pr,C'⟩]) pk.perm ⟨hg,fun A0 a w hB hu ho ha hk hl=>?_⟩;have hp1:(Ωs++Ω).Perm ((Ωs++Ωr)++[⟨b,pr,C⟩]):=by
  rw [List.append_assoc];exact (pk.perm.trans (show (([⟨b,pr,C⟩]:List Pe)++Ωr).Perm (Ωr++[⟨b,pr,C⟩]) from List.perm_append_comm)).append_left _
 have hown:∀ k,Own ((Ωs++Ωr)++[⟨b,pr,C'⟩]) k↔Own ((Ωs++Ωr)++[⟨b,pr,C⟩]) k:=fun k=>by
  rw [ZP (Ω:=Ωs++Ωr),ZP (Ω:=Ωs++Ωr)]
  constructor
  ·rintro (h | ⟨e,he,h1,h2⟩)
   ·exact .inl h
   ·obtain rfl:=List.mem_singleton.1 he;exact .inr ⟨_,List.mem_singleton.2 rfl,h1,h2⟩
  ·rintro (h | ⟨e,he,h1,h2⟩)
   ·exact .inl h
   ·obtain rfl:=List.mem_singleton.1 he;exact .inr ⟨_,List.mem_singleton.2 rfl,h1,h2⟩
 have hpub:Pub A0 ((Ωs++Ωr)++[⟨b,pr,C'⟩])=Pub A0 ((Ωs++Ωr)++[⟨b,pr,C⟩]):=by
  funext k;exact propext (by rw [ZE,ZE,hown])
 have hap:ZfD ((Ωs++Ωr)++[⟨b,pr,C'⟩]):=List.pairwise_append.2 ⟨(List.pairwise_append.1 ha).1,List.pairwise_singleton _ _,fun x hx y hy h1 h2=>by
  obtain rfl:=List.mem_singleton.1 hy;exact (List.pairwise_append.1 ha).2.2 x hx ⟨b,pr,C⟩ (List.mem_singleton.2 rfl) h1 h2⟩
 have hnw:∀ k,Own [⟨b,pr,C'⟩] k→Own [⟨b,pr,C⟩] k∨w.heap.size≤k:=fun k ⟨e,he,h1,h2⟩=>by
  obtain rfl:=List.mem_singleton.1 he;exact .inl ⟨_,List.mem_singleton.2 rfl,h1,h2⟩
 obtain ⟨v,hv,⟨h1,h2⟩ | ⟨hpr,w',cs,cs',h1,h2,h3,h4,h5⟩⟩:=h (Pub A0 ((Ωs++Ωr)++[⟨b,pr,C⟩])) a w (fun e he=>hk e (hp1.mem_iff.1 he)) hl
 ·refine h1.yields () ⟨Stp.refl _ _ _,hnw,hap,hv _ _,fun e he hp=>?_⟩;obtain rfl:=List.mem_singleton.1 he;obtain ⟨cs,g1,g2⟩:=hk ⟨b,pr,C⟩ (by simp) hp;rw [hpub];exact ⟨cs,g1,h2 _ _ hp g2⟩
 ·have hm:Mut (Own [⟨b,pr,C⟩]) w w':=h4.mono fun k e=>⟨_,List.mem_singleton.2 rfl,hpr,e.symm⟩
  have hkp:Keep (Pub A0 ((Ωs++Ωr)++[⟨b,pr,C⟩])) (Pub A0 ((Ωs++Ωr)++[⟨b,pr,C⟩])) w w':=h4.keep fun k hk e=>(ZE.1 hk).2 (ZP.2 (.inr ⟨_,List.mem_singleton.2 rfl,hpr,e.symm⟩))
  refine h1.yields () ⟨Zlc hm hB,hnw,hap,hv _ _,fun e he _=>?_⟩;obtain rfl:=List.mem_singleton.1 he;rw [hpub];exact ⟨_,h3,C'.keep hkp h5⟩
theorem ZcO [S:TSl P t e] [T:TEl P e α i bt] {x y:Operand} {τ σ:Ty} {b o m:Nat} {pr:Prop} {C:Ct} {xs ys:List α} {upd:List α→Ct} [hx:Has Γ x τ] [ka:AsSv τ b pr o m] [pk:Pick Ω b pr C Ωr] [hy:Has Γ y σ] (hs:SrcOf (Ωs++Ω) σ α i ys) (p:PlS C o α i xs upd) (hm:m=xs.length) (hnil:pr→xs=[]→upd []=C) :
  OpT P B Ωs Ω Γ ⟨dst,.call { callee:=.builtin .copy,args:=#[x,y],argTypes:=#[t,u] },ty,pos,aft,none⟩ (fun _:Unit=>I (min ys.length xs.length:Nat)) fun _=>⟨b,pr,upd (over xs ys)⟩::Ωr:=
 ZmS (C:=C) rfl fun A a w hk hl=>by
  obtain ⟨ti,z,hi1,hi2,hi3,hi4,hi5⟩:=T.h;have h1:=ka.le _ _ _ (hx.le a _ w fun t ht=>hl t (by simp [Op.operands,Call.operands,← ht]));have h2:=hs.h hk (hy.le a _ w fun t ht=>hl t (by simp [Op.operands,Call.operands,← ht]));obtain ⟨ad,c,news,e2,hn,he,hf⟩:=h2.cells (P:=P);refine ⟨.int .i64 (min ys.length xs.length:Nat),fun _ _=>rfl,?_⟩;rcases h1 with ⟨hp,o',c',e1,-,ho⟩ | ⟨hp,h0,e1⟩
  ·obtain ⟨cs,g1,g2⟩:=hk ⟨b,pr,C⟩ (List.mem_append_right _ (pk.perm.mem_iff.2 (List.mem_cons_self ..))) hp;rcases Nat.eq_zero_or_pos m with h0 | h0
   ·left
    have hx0:xs=[]:=List.eq_nil_of_length_eq_zero (by omega);refine ⟨.inl ?_,fun A cs hp hc=>?_⟩
    ·have hf0:=hf 0 (Nat.zero_le _);simp only [Nat.zero_mul,List.take_zero] at hf0;rw [hi3.symm,e2] at hf0;subst hx0;simp [execOp,resolve,invoke,builtin,Builtin.copy_,e1,e2,h0,run_underlying S.h,Builtin.lenOf,sizeOf,typeInfo,hi1,hf0,storeCells,goInt]
    ·subst hx0;have:over [] ys=[]:=by unfold over;simp
     rw [this,hnil hp rfl];exact hc
   ·right
    obtain rfl:=ho h0;obtain ⟨k1,k2⟩:=p.over g2 hn he;have hmin:min ys.length xs.length≤ys.length:=Nat.min_le_left _ _;have hsc:∀ v∈news.take (min ys.length xs.length*Dat.sz α),v.oneCell'=true:=fun v hv=>(he.scal hn) v (List.mem_of_mem_take hv)
    obtain ⟨w',r1,r2,r3,r4⟩:=Zbe (P:=P) g1 k1 hsc;refine ⟨hp,w',cs,_,.inl ?_,g1,r2,r3,k2⟩;have hf0:=hf _ hmin;have emin:Nat.min ys.length m=min ys.length xs.length:=by rw [hm]
    rw [e2] at hf0;have r1':(storeCells ⟨b,o',none⟩ (news.take (min ys.length xs.length*Dat.sz α)).toArray.toList).run P w=.ok () w':=by simpa using r1
    simp only [execOp,resolve,invoke,builtin,Builtin.copy_,e1,e2,List.map_toArray,List.map_cons,List.map_nil,Sem.run_bind,Sem.run_pure,Result.andThen_ok,List.getElem?_toArray,List.getElem?_cons_zero,List.getElem?_cons_succ,run_underlying S.h,Builtin.lenOf,T.d.sz,emin,hf0,r1',goInt]
  ·left
   have hx0:xs=[]:=List.eq_nil_of_length_eq_zero (by omega);refine ⟨.inl ?_,fun A cs hp' _=>absurd hp' hp⟩;have hf0:=hf 0 (Nat.zero_le _);simp only [Nat.zero_mul,List.take_zero] at hf0;rw [hi3.symm,e2] at hf0;subst hx0;simp [execOp,resolve,invoke,builtin,Builtin.copy_,e1,e2,run_underlying S.h,Builtin.lenOf,sizeOf,typeInfo,hi1,hf0,goInt]
theorem OpT.clearBy [S:TSl P t e] [T:TEl P e α i bt] {x:Operand} {τ:Ty} {b o m:Nat} {pr:Prop} {C:Ct} {xs:List α} {upd:List α→Ct} [hx:Has Γ x τ] [ka:AsSv τ b pr o m] [pk:Pick Ω b pr C Ωr] (p:PlS C o α i xs upd) (hm:m=xs.length) (hnil:pr→xs=[]→upd []=C) :
  OpT P B Ωs Ω Γ ⟨dst,.call { callee:=.builtin .clear,args:=#[x],argTypes:=#[t] },ty,pos,aft,none⟩ (fun _:Unit=>Ty.any) fun _=>⟨b,pr,upd (List.replicate m (Dat.z (α:=α)))⟩::Ωr:=
 ZmS (C:=C) rfl fun A a w hk hl=>by
  obtain ⟨ti,z,hi1,hi2,hi3,hi4,hi5⟩:=T.h;have h1:=ka.le _ _ _ (hx.le a _ w fun t ht=>hl t (by simp [Op.operands,Call.operands,← ht]));refine ⟨.tuple #[],fun _ _=>trivial,?_⟩;rcases h1 with ⟨hp,o',c',e1,-,ho⟩ | ⟨hp,h0,e1⟩
  ·obtain ⟨cs,g1,g2⟩:=hk ⟨b,pr,C⟩ (List.mem_append_right _ (pk.perm.mem_iff.2 (List.mem_cons_self ..))) hp;rcases Nat.eq_zero_or_pos m with h0 | h0
   ·left
    have hx0:xs=[]:=List.eq_nil_of_length_eq_zero (by omega);refine ⟨.inl ?_,fun A cs hp hc=>by rw [h0,List.replicate_zero,hnil hp hx0];exact hc⟩;simp [execOp,resolve,invoke,builtin,Builtin.clear_,e1,h0,run_underlying S.h]
   ·right
    obtain rfl:=ho h0;have hzl:z.cells.size=Dat.sz α:=by rw [hi5];simpa using ZcX α
    have hz:(Builtin.zeroCells z.cells m).toList.length=m*Dat.sz α:=by rw [Array.length_toList,size_zeroCells,hzl]
    have he:ZaT A w (Builtin.zeroCells z.cells m).toList (List.replicate m (Dat.z (α:=α))):=fun j hj=>by
     simp only [List.length_replicate] at hj;have e2:seg (Builtin.zeroCells z.cells m).toList (j*Dat.sz α) (Dat.sz α)=Dat.zc α:=by
      have hle:j*Dat.sz α+Dat.sz α≤m*Dat.sz α:=by rw [← Nat.succ_mul];exact Nat.mul_le_mul_right _ (by omega)
      have hzc:(Dat.zc α).length=Dat.sz α:=ZcX α;refine ZaH (by rw [Zv (by omega),hzc]) fun q hq=>?_
      rw [Zv (by omega)] at hq;rw [Zab hq];have h3:j*Dat.sz α+q<m*Dat.sz α:=by omega
      have h4:(j*Dat.sz α+q) % Dat.sz α=q:=by rw [Nat.mul_comm,Nat.mul_add_mod,Nat.mod_eq_of_lt hq]
      have h5:(Builtin.zeroCells z.cells m).toList.getD (j*Dat.sz α+q) undef=z.cells[(j*Dat.sz α+q) % z.cells.size]!:=by
       simp [Builtin.zeroCells,List.getD_eq_getElem?_getD,hzl,h3]
      rw [h5,hzl,h4,hi5,getElem!_pos _ _ (by simpa [hzc] using hq)];simp [List.getD_eq_getElem?_getD,hzc,hq]
     rw [e2,List.getElem_replicate];exact Dat.zrd
    have hf:=(p.rd g2).1;obtain ⟨w',r1,r2,r3,r4⟩:=Zbe (P:=P) g1 (o:=o') (vs:=(Builtin.zeroCells z.cells m).toList) (by rw [hz,hm];exact hf) (he.scal (by rw [hz,List.length_replicate]));refine ⟨hp,w',cs,_,.inl ?_,g1,r2,r3,p.st _ (by rw [List.length_replicate,hm]) g2 (by rw [hz,List.length_replicate]) he⟩;obtain ⟨m',rfl⟩:∃ m',m=m' + 1:=⟨m-1,by omega⟩;simp [execOp,resolve,invoke,builtin,Builtin.clear_,e1,run_underlying S.h,zeroValue,typeInfo,hi1,hi2,r1]
  ·left
   have hx0:xs=[]:=List.eq_nil_of_length_eq_zero (by omega);refine ⟨.inl ?_,fun A cs hp' _=>absurd hp' hp⟩;simp [execOp,resolve,invoke,builtin,Builtin.clear_,e1,h0,run_underlying S.h]
end ops
section rd
variable {P:Program} {B0:Nat} {A:Nat→Prop} {Ω:List Pe} {Γ:Env} {dst:Option Tmp} {ty:TypeId} {pos:String} {aft:Array Edge} {gd:Option (Nat×Bool)}
variable {α:Type} {i:Dat α} {t e:TypeId} {bt:Nat}
theorem OpY.lenSv {x:Operand} {τ:Ty} {b o m:Nat} {pr:Prop} [hx:Has Γ x τ] [ka:AsSv τ b pr o m] [S:TSl P t e] :
  OpY P B0 A Ω Γ ⟨dst,.call { callee:=.builtin .len,args:=#[x],argTypes:=#[t] },ty,pos,aft,gd⟩ (I m):=
 OpY.val fun a w hl=>by
  have h:=ka.le _ _ _ (Zt (x:=x) (τ:=τ) (op:=.call { callee:=.builtin .len,args:=#[x],argTypes:=#[t] }) (by simp [Op.operands,Call.operands]) hl);rcases h with ⟨_,o',c,e1,_⟩ | ⟨_,rfl,e1⟩
  ·exact ⟨.int .i64 m,by simp [execOp,resolve,invoke,builtin,e1,Builtin.len_,run_underlying S.h,goInt],rfl⟩
  ·exact ⟨.int .i64 0,by simp [execOp,resolve,invoke,builtin,e1,Builtin.len_,run_underlying S.h,goInt],rfl⟩
theorem Zeg [S:TSl P t e] [T:TDat P e α i] {x z:Operand} {ρ:Ty} {b m c:Nat} {pr:Prop} {r:Int} [hx:Has Γ x (Sl b pr 0 m c)] [Has Γ z ρ] [hz:AsI ρ r] (h1:0≤r) (h2:r≤m) :
  OpY P B0 A Ω Γ ⟨dst,.slice t x none (some z) none,ty,pos,aft,gd⟩ (Sl b pr 0 r.toNat c):=
 OpY.val fun a w hl=>by
  have h:=Zt (x:=x) (τ:=Sl b pr 0 m c) (op:=.slice t x none (some z) none) (by simp [Op.operands]) hl;have ez:a.eval z=.int .i64 r:=hz.le _ _ _ (Zt (x:=z) (τ:=ρ) (op:=.slice t x none (some z) none) (by simp [Op.operands]) hl);rcases h with ⟨hp,hmc,ex⟩ | ⟨hp,rfl,rfl,ex⟩
  ·refine ⟨.slice (some ⟨b,0,none⟩) r.toNat c,?_,.inl ⟨hp,⟨by omega,hmc.2⟩,rfl⟩⟩;have c1:0≤r∧r≤(c:Int):=by omega
   simp only [execOp,ex,ez,Instr.sliceAt,Instr.slice,Option.map_some,Option.map_none,Sem.run_bind,run_underlying S.h,Result.andThen_ok,Instr.sliceBounds,Instr.sliceBound,asIntOf,Sem.run_pure,c1,and_self,if_true,T.sz,Nat.sub_zero,Nat.zero_mul,Za0,Nat.add_zero,Option.map_some,ite_self]
  ·have hr:r=0:=by omega
   subst hr;refine ⟨.slice none 0 0,?_,.inr ⟨hp,rfl,rfl,rfl⟩⟩;simp [execOp,ex,ez,Instr.sliceAt,Instr.slice,run_underlying S.h,Instr.sliceBounds,Instr.sliceBound,asIntOf,T.sz]
section sv
variable {x y z:Operand} {τ σ ρ:Ty} {b o m:Nat} {pr:Prop} {l r:Int}
theorem Sv.cut {o' c:Nat} {v:Value} (hp:pr) (hmc:m≤c∧c≤maxLen) (ho:0<m→o'=o) (h0:0≤l) (h1:l≤r) (h2:r≤m) (hv:v=.slice (if c=l.toNat then some ⟨b,o',none⟩ else some ⟨b,o' + l.toNat*Dat.sz α,none⟩) (r.toNat-l.toNat) (c-l.toNat)) {A:Nat→Prop} {w:World} :
  (Sv b pr (o+l.toNat*Dat.sz α) (r-l).toNat).p A w v:=by
 left
 refine ⟨hp,if c=l.toNat then o' else o' + l.toNat*Dat.sz α,c-l.toNat,?_,⟨by omega,by omega⟩,fun h=>?_⟩
 ·rw [hv,show (r-l).toNat=r.toNat-l.toNat by omega];split <;> rfl
 ·rw [if_neg (by omega),ho (by omega)]
theorem Zlw [S:TSl P t e] [T:TDat P e α i] [hx:Has Γ x τ] [ka:AsSv τ b pr o m] [Has Γ y σ] [hy:AsI σ l] [Has Γ z ρ] [hz:AsI ρ r] (h0:0≤l) (h1:l≤r) (h2:r≤m) :
  OpY P B0 A Ω Γ ⟨dst,.slice t x (some y) (some z) none,ty,pos,aft,gd⟩ (Sv b pr (o+l.toNat*Dat.sz α) (r-l).toNat):=
 OpY.val fun a w hl=>by
  have h:=ka.le _ _ _ (Zt (x:=x) (τ:=τ) (op:=.slice t x (some y) (some z) none) (by simp [Op.operands]) hl);have ey:a.eval y=.int .i64 l:=hy.le _ _ _ (Zt (x:=y) (τ:=σ) (op:=.slice t x (some y) (some z) none) (by simp [Op.operands]) hl);have ez:a.eval z=.int .i64 r:=hz.le _ _ _ (Zt (x:=z) (τ:=ρ) (op:=.slice t x (some y) (some z) none) (by simp [Op.operands]) hl);rcases h with ⟨hp,o',c,ex,hmc,ho⟩ | ⟨hp,rfl,ex⟩
  ·refine ⟨_,?_,Sv.cut hp hmc ho h0 h1 h2 rfl⟩;have c1:0≤r∧r≤(c:Int):=by omega
   have c2:0≤l∧l≤(r.toNat:Int):=by omega
   simp only [execOp,ex,ey,ez,Instr.sliceAt,Instr.slice,Option.map_some,Option.map_none,Sem.run_bind,run_underlying S.h,Result.andThen_ok,Instr.sliceBounds,Instr.sliceBound,asIntOf,Sem.run_pure,c1,c2,and_self,if_true,T.sz,Za0]
  ·have hr:r=0:=by omega
   have hl0:l=0:=by omega
   subst hr;subst hl0;refine ⟨.slice none 0 0,?_,.inr ⟨hp,rfl,rfl⟩⟩;simp [execOp,ex,ey,ez,Instr.sliceAt,Instr.slice,run_underlying S.h,Instr.sliceBounds,Instr.sliceBound,asIntOf,T.sz]
theorem ZaK [S:TSl P t e] [T:TDat P e α i] [hx:Has Γ x τ] [ka:AsSv τ b pr o m] [Has Γ y σ] [hy:AsI σ l] (h0:0≤l) (h1:l≤m) :
  OpY P B0 A Ω Γ ⟨dst,.slice t x (some y) none none,ty,pos,aft,gd⟩ (Sv b pr (o+l.toNat*Dat.sz α) ((m:Int)-l).toNat):=
 OpY.val fun a w hl=>by
  have h:=ka.le _ _ _ (Zt (x:=x) (τ:=τ) (op:=.slice t x (some y) none none) (by simp [Op.operands]) hl);have ey:a.eval y=.int .i64 l:=hy.le _ _ _ (Zt (x:=y) (τ:=σ) (op:=.slice t x (some y) none none) (by simp [Op.operands]) hl);rcases h with ⟨hp,o',c,ex,hmc,ho⟩ | ⟨hp,rfl,ex⟩
  ·refine ⟨_,?_,Sv.cut (r:=(m:Int)) hp hmc ho h0 h1 (Int.le_refl _) rfl⟩;have c2:0≤l∧l≤(m:Int):=by omega
   simp only [execOp,ex,ey,Instr.sliceAt,Instr.slice,Option.map_some,Option.map_none,Sem.run_bind,run_underlying S.h,Result.andThen_ok,Instr.sliceBounds,Instr.sliceBound,asIntOf,Sem.run_pure,c2,and_self,if_true,T.sz,Za0,Int.toNat_natCast]
  ·have hl0:l=0:=by omega
   subst hl0;refine ⟨.slice none 0 0,?_,.inr ⟨hp,rfl,rfl⟩⟩;simp [execOp,ex,ey,Instr.sliceAt,Instr.slice,run_underlying S.h,Instr.sliceBounds,Instr.sliceBound,asIntOf,T.sz]
end sv
end rd
end Go.Proofs.YtkmojgfenlgchaaGreatDoor.Tr
namespace Go.Proofs.YtkmojgfenlgchaaGreatDoor.Tr
open Go Go.RowKit
def PubC (C:Ct) (b:Nat) (pr:Prop) (τ σ:Ty):Prop:=∀ (A:Nat→Prop) (w:World) (v:Value),(pr→A b∧∃ cs,Blk w b cs∧C.p A w cs)→τ.p A w v→σ.p A w v
theorem PubC.refl {C:Ct} {b:Nat} {pr:Prop} (τ:Ty):PubC C b pr τ τ:=fun _ _ _ _ h=>h
theorem ZG {C:Ct} {b o n:Nat} {pr:Prop} {τ:Ty} {α:Type} {i:Dat α} {ys:List α} {upd:List α→Ct} [k:AsSv τ b pr o n] (p:PlS C o α i ys upd) (hn:n=ys.length):PubC C b pr τ (D ys):=fun A w v hb h=>by
 rcases k.le _ _ _ h with ⟨hp,o',c,rfl,h1,h2⟩ | ⟨hp,h1,rfl⟩
 ·obtain ⟨ha,cs,g1,g2⟩:=hb hp;obtain ⟨e1,e2⟩:=p.rd g2;have hmo:=p.mo g2;refine ⟨[_],⟨some ⟨b,o',none⟩,c,rfl,by omega,h1.2,hmo,fun q hq=>⟨b,o',rfl,ha,seg cs (o+q*Dat.sz α) (Dat.sz α),?_,?_⟩⟩,by rw [hn];rfl⟩
  ·obtain rfl:=h2 (by omega);refine g1.row ?_;have:q*Dat.sz α+Dat.sz α≤ys.length*Dat.sz α:=by rw [← Nat.succ_mul];exact Nat.mul_le_mul_right _ (by omega)
   omega
  ·have:=e2 q hq
   rwa [Zib (by rw [← Nat.succ_mul];exact Nat.mul_le_mul_right _ (by omega)) e1] at this
 ·have:ys=[]:=List.eq_nil_of_length_eq_zero (by omega);subst this;exact NilS.le _ _ _ rfl
theorem PubC.pt {C:Ct} {b o:Nat} {pr:Prop} {α:Type} {i:Dat α} {x:α} {upd:α→Ct} (p:Pl C o α i x upd) (hp:pr):PubC C b pr (Pt b o) (ZlO x):=fun A w v hb h=>by
 obtain ⟨ha,cs,g1,g2⟩:=hb hp;obtain ⟨e1,e2⟩:=p.rd.h g2;exact ⟨b,o,_,h,ha,g1.row e1,e2⟩
def PubE (C:Ct) (b:Nat) (pr:Prop) (Γ Δ:Env):Prop:=∀ t,PubC C b pr (Γ t) (Δ t)
theorem PubE.refl {C:Ct} {b:Nat} {pr:Prop} {Γ:Env}:PubE C b pr Γ Γ:=fun t=>PubC.refl _
theorem PubE.set {C:Ct} {b:Nat} {pr:Prop} {Γ Δ:Env} (t:Tmp) {τ σ:Ty} [h:Has Γ (.tmp t) τ] (k:PubC C b pr τ σ) (l:PubE C b pr Γ Δ):PubE C b pr Γ (Δ.set t σ):=fun u A w v hb hv=>by
 unfold Env.set
 split
 ·rename_i e;subst e;exact k A w v hb (h.at _ _ _ hv)
 ·exact l u A w v hb hv
section pub
variable {P:Program} {r:Ref} {n:Nat} {Γ Δ:Env} {Ω Ωr:List Pe} {Q:Exit→Act→World→Prop} {ops:Array Oper} {k:Nat} {rest:List Oper} {C:Ct} {pr:Prop}
theorem Stt.pub {b:Nat} [op:Opens r] [pk:Pick Ω b pr C Ωr] (hΔ:PubE C b pr Γ Δ) {a:Act} {w:World} (h:Stt r n Γ Ω a w):Stt r n Δ Ωr a w:=by
 have h:=h.less (Less.perm pk.perm);have hl:Less (⟨b,pr,C⟩::Ωr) Ωr:=Less.drop (Less.refl _);have h2:=h.less hl;refine ⟨h2.sz,h2.df,h2.mu,fun t=>hΔ t _ _ _ (fun hp=>?_) (h2.ty t),h2.pv⟩;obtain ⟨cs,g1,g2⟩:=h.pv.ks ⟨b,pr,C⟩ (List.mem_cons_self ..) hp;have hk:Keep (Pub r.A (⟨b,pr,C⟩::Ωr)) (Pub r.A Ωr) w w:=Keep.mono fun j _ hj=>ZE.2 ⟨(ZE.1 hj).1,fun ho=>(ZE.1 hj).2 (hl.own j ho)⟩
 exact ⟨ZE.2 ⟨op.h b (h.pv.own b ⟨_,List.mem_cons_self ..,hp,rfl⟩),fun ⟨f,hf,hpf,hfb⟩=>(List.pairwise_cons.1 h.pv.ap).1 f hf hp hpf hfb.symm⟩,cs,g1,C.keep hk g2⟩
theorem TE.pub {e:Exit} (b:Nat) [op:Opens r] [pk:Pick Ω b pr C Ωr] (hΔ:PubE C b pr Γ Δ) (h:TE r n Δ Ωr Q e):TE r n Γ Ω Q e:=fun a w hs=>h a w (hs.pub hΔ)
theorem TS.pub (b:Nat) [op:Opens r] [pk:Pick Ω b pr C Ωr] (hΔ:PubE C b pr Γ Δ) (h:TS P r n ops rest k Δ Ωr Q):TS P r n ops rest k Γ Ω Q:=fun hl a w hs=>h hl a w (hs.pub hΔ)
theorem TC.re {c:Code} (b:Nat) {C':Ct} [pk:Pick Ω b pr C Ωr] (h:∀ A w cs,pr→C.p A w cs→C'.p A w cs) (k:TC P r n Γ (⟨b,pr,C'⟩::Ωr) c Q):TC P r n Γ Ω c Q:=fun a w hs=>k a w ((hs.less (Less.perm pk.perm)).less
 ⟨fun j ⟨e,he,h1,h2⟩=>(by
  rcases List.mem_cons.1 he with rfl | he
  ·exact ⟨_,List.mem_cons_self ..,h1,h2⟩
  ·exact ⟨e,List.mem_cons_of_mem _ he,h1,h2⟩),fun hp=>List.pairwise_cons.2 ⟨fun f hf h1 h2=>(List.pairwise_cons.1 hp).1 f hf h1 h2,(List.pairwise_cons.1 hp).2⟩,fun A w hk e he h1=>by
  rcases List.mem_cons.1 he with rfl | he
  ·obtain ⟨cs,g1,g2⟩:=hk ⟨b,pr,C⟩ (List.mem_cons_self ..) h1;exact ⟨cs,g1,h _ _ _ h1 g2⟩
  ·exact hk e (List.mem_cons_of_mem _ he) h1⟩)
end pub
class NoPtr (τ:Ty):Prop where
 h:∀ {A A':Nat→Prop} {w w':World} {v:Value},τ.p A w v→τ.p A' w' v
class Flat (α:Type) (i:Dat α):Prop where
 h:∀ {A A':Nat→Prop} {w w':World} {cs:List Value} {x:α},Dat.rd A w cs x→Dat.rd A' w' cs x
instance :Flat Int inferInstance:=⟨fun h=>h⟩
instance :Flat UInt32 inferInstance:=⟨fun h=>h⟩
instance :Flat UInt64 inferInstance:=⟨fun h=>h⟩
instance :Flat Bool inferInstance:=⟨fun h=>h⟩
instance {α β:Type} {i:Dat α} {j:Dat β} [h:Flat α i] [k:Flat β j]:Flat (α×β) instProd:=⟨fun ⟨h1,h2,h3⟩=>⟨h1,h.h h2,k.h h3⟩⟩
theorem Flat.iso {α β:Type} [i:Dat β] {f:α→β} {g:β→α} {h:∀ y,f (g y)=y} (k:Flat β i):Flat α (Dat.iso f g h):=⟨fun h=>k.h h⟩
instance {α:Type} {i:Dat α} {x:α} [h:Flat α i]:NoPtr (D x):=⟨fun ⟨cs,h1,h2⟩=>⟨cs,h.h h1,h2⟩⟩
class NoPtrL (τs:List Ty):Prop where
 h:∀ {A A':Nat→Prop} {w w':World} {v:Value} (i:Nat) (hi:i<τs.length),τs[i].p A w v→τs[i].p A' w' v
instance :NoPtrL []:=⟨fun i hi=>absurd hi (by simp)⟩
instance {τ:Ty} {τs:List Ty} [h:NoPtr τ] [k:NoPtrL τs]:NoPtrL (τ::τs):=⟨fun i hi hv=>by
 cases i with
 | zero=>exact h.h hv
 | succ i=>exact k.h i (by simpa using hi) hv⟩
instance {τs:List Ty} [h:NoPtrL τs]:NoPtr (Tup τs):=⟨fun ⟨vs,h1,h2,h3⟩=>⟨vs,h1,h2,fun i hi=>h.h i hi (h3 i hi)⟩⟩
def Lent (A:Nat→Prop) (bs:List Nat) (k:Nat):Prop:=A k∨k∈bs
def ArgB (Ω:List Pe) (bs:List Nat) (τ σ:Ty):Prop:=∀ (A:Nat→Prop) (w:World) (v:Value),Pks A Ω w→τ.p A w v→σ.p (Lent A bs) w v
theorem Lent.keep {A:Nat→Prop} {bs:List Nat} {w:World}:Keep A (Lent A bs) w w:=Keep.mono fun _ _ h=>.inl h
theorem ArgB.d {Ω:List Pe} {bs:List Nat} {τ σ:Ty} [k:AsT τ σ]:ArgB Ω bs τ σ:=fun A w v _ h=>Ty.keep σ Lent.keep (k.le A w v h)
theorem ZiK {Ω:List Pe} {bs:List Nat} {τ:Ty} {b o n:Nat} {pr:Prop} {C:Ct} {α:Type} {i:Dat α} {ys:List α} {upd:List α→Ct} [k:AsSv τ b pr o n] [hb:HasB Ω b pr C] (p:PlS C o α i ys upd) (hn:n=ys.length) (hbs:b∈bs):ArgB Ω bs τ (D ys):=fun A w v hk h=>
 ZG (τ:=τ) p hn _ w v (fun hp=>⟨.inr hbs,by obtain ⟨cs,g1,g2⟩:=hk _ hb.h hp;exact ⟨cs,g1,C.keep Lent.keep g2⟩⟩) (τ.keep Lent.keep h)
theorem ArgB.pt {Ω:List Pe} {bs:List Nat} {b o:Nat} {pr:Prop} {C:Ct} {α:Type} {i:Dat α} {x:α} {upd:α→Ct} [hb:HasB Ω b pr C] (p:Pl C o α i x upd) (hp:pr) (hbs:b∈bs):ArgB Ω bs (Pt b o) (ZlO x):=fun A w v hk h=>
 PubC.pt p hp _ w v (fun hp=>⟨.inr hbs,by obtain ⟨cs,g1,g2⟩:=hk _ hb.h hp;exact ⟨cs,g1,C.keep Lent.keep g2⟩⟩) h
section call
variable {P:Program} {B0:Nat} {A:Nat→Prop} {Ω:List Pe} {Γ:Env} {dst:Option Tmp} {ty:TypeId} {pos:String} {aft:Array Edge} {gd:Option (Nat×Bool)} {f:FuncId} {ts:Array TypeId} {τ:Ty}
theorem ZlC {xs:Array Operand} [F:Fun P f] [N:NoPtr τ] (bs:List Nat)
  (h:∀ (A:Nat→Prop) (a:Act) w,(∀ k,w.heap.size≤k→Lent A bs k)→Pks A Ω w→(∀ t,.tmp t∈xs.toList→(Γ t).p A w (a.tmps.getD t undef))→Calls P f (xs.map a.eval) w (Ret (Lent A bs) w τ)) :
  OpY P B0 A Ω Γ ⟨dst,.call { callee:=.value (.func f),args:=xs,argTypes:=ts },ty,pos,aft,gd⟩ τ:=fun a w hB hu hp hl=>by
 have hc:=h A a w (fun k hk=>.inl (hu k hk)) hp fun t ht=>hl t (by
  simp only [Op.operands,Call.operands,Array.toList_append,List.mem_append];exact .inr ht)
 have hr:(execOp a.eval ⟨dst,.call { callee:=.value (.func f),args:=xs,argTypes:=ts },ty,pos,aft,gd⟩).run P w=.ok (.enter f (xs.map a.eval)) w:=by
  have e1:a.eval (.func f)=.func (.func f) #[] #[]:=rfl;simp only [execOp,resolve,Deferred.ofValue,e1,Sem.run_bind,Sem.run_pure,Result.andThen_ok,invoke,F.h,Array.append_empty,Array.empty_append]
 rw [hr];refine ⟨Grow.refl _ _,hc.mono fun e w' h=>?_⟩;obtain ⟨v,h1,h2,h3⟩:=h;exact ⟨v,h1,h2.mono hB,N.h h3⟩
theorem ZfN {x1:Operand} {τ1 σ1:Ty} [h1:Has Γ x1 τ1] [F:Fun P f] [N:NoPtr τ] (bs:List Nat) (k1:ArgB Ω bs τ1 σ1)
  (h:∀ {A:Nat→Prop} w v1,(∀ k,w.heap.size≤k→A k)→σ1.p A w v1→Calls P f #[v1] w (Ret A w τ)) :
  OpY P B0 A Ω Γ ⟨dst,.call { callee:=.value (.func f),args:=#[x1],argTypes:=ts },ty,pos,aft,gd⟩ τ:=
 ZlC bs fun A a w hu hp hl=>by
  rw [show (#[x1].map a.eval)=#[a.eval x1] by simp];exact h w _ hu (k1 A w _ hp (h1.le a A w fun t e=>hl t (by simp [e])))
theorem ZcN {x1:Operand} {τ1 σ1:Ty} [h1:Has Γ x1 τ1] {x2:Operand} {τ2 σ2:Ty} [h2:Has Γ x2 τ2] [F:Fun P f] [N:NoPtr τ] (bs:List Nat) (k1:ArgB Ω bs τ1 σ1) (k2:ArgB Ω bs τ2 σ2)
  (h:∀ {A:Nat→Prop} w v1 v2,(∀ k,w.heap.size≤k→A k)→σ1.p A w v1→σ2.p A w v2→Calls P f #[v1,v2] w (Ret A w τ)) :
  OpY P B0 A Ω Γ ⟨dst,.call { callee:=.value (.func f),args:=#[x1,x2],argTypes:=ts },ty,pos,aft,gd⟩ τ:=
 ZlC bs fun A a w hu hp hl=>by
  rw [show (#[x1,x2].map a.eval)=#[a.eval x1,a.eval x2] by simp];exact h w _ _ hu (k1 A w _ hp (h1.le a A w fun t e=>hl t (by simp [e]))) (k2 A w _ hp (h2.le a A w fun t e=>hl t (by simp [e])))
end call
class Sel2 (Ω:List Pe) (bs:List Nat) (Ωt Ωr:outParam (List Pe)):Prop where
 perm:Ω.Perm (Ωt++Ωr)
instance {Ω:List Pe}:Sel2 Ω [] [] Ω:=⟨List.Perm.refl _⟩
instance {Ω Ω1 Ωt Ωr:List Pe} {b:Nat} {bs:List Nat} {pr:Prop} {C:Ct} [h:Pick Ω b pr C Ω1] [k:Sel2 Ω1 bs Ωt Ωr]:Sel2 Ω (b::bs) (⟨b,pr,C⟩::Ωt) Ωr:=⟨h.perm.trans (k.perm.cons _)⟩
theorem ZjN {A:Nat→Prop} {Ω Ω':List Pe}:Pub (Pub A Ω) Ω'=Pub A (Ω++Ω'):=by
 funext k
 refine propext ?_;rw [ZE,ZE,ZE,ZP]
 constructor
 ·rintro ⟨⟨h1,h2⟩,h3⟩;exact ⟨h1,fun h=>h.elim h2 h3⟩
 ·rintro ⟨h1,h2⟩;exact ⟨⟨h1,fun h=>h2 (.inl h)⟩,fun h=>h2 (.inr h)⟩
section callO
variable {P:Program} {B:Nat} {Ωs Ω Ωt Ωr:List Pe} {Γ:Env} {dst:Option Tmp} {ty:TypeId} {pos:String} {aft:Array Edge} {f:FuncId} {ts:Array TypeId} {ν:Type} {τ:ν→Ty} {Ω':ν→List Pe}
theorem Zli {xs:Array Operand} [F:Fun P f] (hp:Ω.Perm (Ωt++Ωr))
  (h:∀ (A:Nat→Prop) (a:Act) w,(∀ k,w.heap.size≤k→A k)→OwnIn A Ωt→ZfD Ωt→Pks (Pub A Ωt) Ωt w→(∀ t,.tmp t∈xs.toList→(Γ t).p (Pub A Ωt) w (a.tmps.getD t undef))→Calls P f (xs.map a.eval) w (Zld A w Ωt τ Ω')) :
  OpT P B Ωs Ω Γ ⟨dst,.call { callee:=.value (.func f),args:=xs,argTypes:=ts },ty,pos,aft,none⟩ τ fun g=>Ω' g++Ωr:=by
 refine OpT.frame hp ⟨rfl,fun A0 a w hB hu ho ha hk hl=>?_⟩;have hlt:∀ j,Own (Ωs++Ωr) j→j<w.heap.size:=fun j hj=>(Zbn.1 hk).1.lt hj
 have hr:(execOp a.eval ⟨dst,.call { callee:=.value (.func f),args:=xs,argTypes:=ts },ty,pos,aft,none⟩).run P w=.ok (.enter f (xs.map a.eval)) w:=by
  have e1:a.eval (.func f)=.func (.func f) #[] #[]:=rfl;simp only [execOp,resolve,Deferred.ofValue,e1,Sem.run_bind,Sem.run_pure,Result.andThen_ok,invoke,F.h,Array.append_empty,Array.empty_append]
 rw [hr];have hc:=h (Pub A0 (Ωs++Ωr)) a w (fun k hk=>ZE.2 ⟨hu k hk,fun hj=>by have:=hlt k hj;omega⟩)
  ⟨fun k hko=>ZE.2 ⟨ho k hko,fun ⟨e,he,h1,h2⟩=>by
   obtain ⟨f,hf,h3,h4⟩:=hko;exact (List.pairwise_append.1 ha).2.2 e he f hf h1 h3 (h2.trans h4.symm)⟩⟩
  (List.pairwise_append.1 ha).2.1 (by rw [ZjN];exact (Zbn.1 hk).2) (fun t ht=>by
   rw [ZjN];exact hl t (by
    simp only [Op.operands,Call.operands,Array.toList_append,List.mem_append];exact .inr ht))
 refine hc.mono fun e w' ⟨v,g,h1,h2⟩=>⟨v,g,h1,h2.st.mono hB (fun _ h=>h),h2.nw,?_,by rw [← ZjN];exact h2.ty,by rw [← ZjN];exact h2.ks⟩
 refine List.pairwise_append.2 ⟨(List.pairwise_append.1 ha).1,h2.ap,fun x hx y hy h3 h4 h5=>?_⟩;rcases h2.nw y.b ⟨y,hy,h4,rfl⟩ with ⟨z,hz,h6,h7⟩ | h6
 ·exact (List.pairwise_append.1 ha).2.2 x hx z hz h3 h6 (h5.trans h7.symm)
 ·have:=hlt x.b ⟨x,hx,h3,rfl⟩;omega
theorem Zhp {x1:Operand} {τ1:Ty} [h1:Has Γ x1 τ1] [F:Fun P f] (bs:List Nat) [sp:Sel2 Ω bs Ωt Ωr]
  (h:∀ {A:Nat→Prop} w v1,(∀ k,w.heap.size≤k→A k)→OwnIn A Ωt→ZfD Ωt→Pks (Pub A Ωt) Ωt w→τ1.p (Pub A Ωt) w v1→Calls P f #[v1] w (Zld A w Ωt τ Ω')) :
  OpT P B Ωs Ω Γ ⟨dst,.call { callee:=.value (.func f),args:=#[x1],argTypes:=ts },ty,pos,aft,none⟩ τ fun g=>Ω' g++Ωr:=
 Zli sp.perm fun A a w hu ho ha hk hl=>by
  rw [show (#[x1].map a.eval)=#[a.eval x1] by simp];exact h w _ hu ho ha hk (h1.le a _ w fun t e=>hl t (by simp [e]))
theorem OpT.callO2 {x1:Operand} {τ1:Ty} [h1:Has Γ x1 τ1] {x2:Operand} {τ2:Ty} [h2:Has Γ x2 τ2] [F:Fun P f] (bs:List Nat) [sp:Sel2 Ω bs Ωt Ωr]
  (h:∀ {A:Nat→Prop} w v1 v2,(∀ k,w.heap.size≤k→A k)→OwnIn A Ωt→ZfD Ωt→Pks (Pub A Ωt) Ωt w→τ1.p (Pub A Ωt) w v1→τ2.p (Pub A Ωt) w v2→Calls P f #[v1,v2] w (Zld A w Ωt τ Ω')) :
  OpT P B Ωs Ω Γ ⟨dst,.call { callee:=.value (.func f),args:=#[x1,x2],argTypes:=ts },ty,pos,aft,none⟩ τ fun g=>Ω' g++Ωr:=
 Zli sp.perm fun A a w hu ho ha hk hl=>by
  rw [show (#[x1,x2].map a.eval)=#[a.eval x1,a.eval x2] by simp];exact h w _ _ hu ho ha hk (h1.le a _ w fun t e=>hl t (by simp [e])) (h2.le a _ w fun t e=>hl t (by simp [e]))
theorem OpT.callO3 {x1:Operand} {τ1:Ty} [h1:Has Γ x1 τ1] {x2:Operand} {τ2:Ty} [h2:Has Γ x2 τ2] {x3:Operand} {τ3:Ty} [h3:Has Γ x3 τ3] [F:Fun P f] (bs:List Nat) [sp:Sel2 Ω bs Ωt Ωr]
  (h:∀ {A:Nat→Prop} w v1 v2 v3,(∀ k,w.heap.size≤k→A k)→OwnIn A Ωt→ZfD Ωt→Pks (Pub A Ωt) Ωt w→τ1.p (Pub A Ωt) w v1→τ2.p (Pub A Ωt) w v2→τ3.p (Pub A Ωt) w v3→Calls P f #[v1,v2,v3] w (Zld A w Ωt τ Ω')) :
  OpT P B Ωs Ω Γ ⟨dst,.call { callee:=.value (.func f),args:=#[x1,x2,x3],argTypes:=ts },ty,pos,aft,none⟩ τ fun g=>Ω' g++Ωr:=
 Zli sp.perm fun A a w hu ho ha hk hl=>by
  rw [show (#[x1,x2,x3].map a.eval)=#[a.eval x1,a.eval x2,a.eval x3] by simp];exact h w _ _ _ hu ho ha hk (h1.le a _ w fun t e=>hl t (by simp [e])) (h2.le a _ w fun t e=>hl t (by simp [e])) (h3.le a _ w fun t e=>hl t (by simp [e]))
end callO
end Go.Proofs.YtkmojgfenlgchaaGreatDoor.Tr
namespace Go.Proofs.YtkmojgfenlgchaaGreatDoor.Tr
open Go Go.RowKit
def Zfa {σ ε:Type} (f:σ→Option (σ⊕ε)):Nat→σ→Option ε
 | 0,_=>none
 | n+1,s=>match f s with
  | none=>none
  | some (.inl s')=>Zfa f n s'
  | some (.inr e)=>some e
def ZM {σ ε:Type} (f:σ→Option (σ⊕ε)) (s:σ):Option ε:=Zfa f 18446744073709551616 s
theorem loopN_mono {σ ε:Type} {f:σ→Option (σ⊕ε)}:∀ {n:Nat} {s:σ} {e:ε} (m:Nat),Zfa f n s=some e→n≤m→Zfa f m s=some e
 | n+1,s,e,0,_,h=>by omega
 | n+1,s,e,m+1,h,hm=>by
  unfold Zfa at *;cases hf:f s with
  | none=>rw [hf] at h;cases h
  | some x=>
   rw [hf] at h;cases x with
   | inl s'=>exact loopN_mono m h (by omega)
   | inr e'=>exact h
theorem Zik {σ ε:Type} {f:σ→Option (σ⊕ε)} (I:σ→Prop) (μ:σ→Nat) (R:ε→Prop) (h:∀ s,I s→(∃ s',f s=some (.inl s')∧I s'∧μ s' < μ s)∨∃ e,f s=some (.inr e)∧R e) {s:σ} (hs:I s) (hm:μ s<18446744073709551616) :
  ∃ e,ZM f s=some e∧R e:=by
 have key:∀ (k:Nat) (s:σ),μ s<k→I s→∃ e,Zfa f k s=some e∧R e:=by
  intro k
  induction k with
  | zero=>intro s h;omega
  | succ k ih=>
   intro s hk hi;rcases h s hi with ⟨s',h1,h2,h3⟩ | ⟨e,h1,h2⟩
   ·obtain ⟨e,h4,h5⟩:=ih s' (by omega) h2;exact ⟨e,by unfold Zfa;rw [h1];exact h4,h5⟩
   ·exact ⟨e,by unfold Zfa;rw [h1],h2⟩
 exact key _ s hm hs
theorem bnd {α β:Type} {x:Option α} {f:α→Option β} {r:β} (h:x.bind f=some r):∃ a,x=some a∧f a=some r:=by
 cases x with
 | none=>cases h
 | some a=>exact ⟨a,rfl,h⟩
theorem cT {α:Type} {b:Bool} {x y:Option α} {r:α} (h:(bif b then x else y)=some r) (hb:b=true):x=some r:=by rw [hb] at h;exact h
theorem cF {α:Type} {b:Bool} {x y:Option α} {r:α} (h:(bif b then x else y)=some r) (hb:b=false):y=some r:=by rw [hb] at h;exact h
def gb {α:Type} [Inhabited α] (g:Bool) (x:Option α):Option α:=bif g then x else some default
theorem Zbx {α:Type} [Inhabited α] {g:Bool} {x:Option α} {a:α} (h:gb g x=some a) (hg:g=true):x=some a:=by subst hg;exact h
def el2 {α β γ:Type} (s:α×β) (f:α→β→γ):γ:=f s.1 s.2
def el3 {α β γ δ:Type} (s:α×β×γ) (f:α→β→γ→δ):δ:=f s.1 s.2.1 s.2.2
def el4 {α β γ δ ε:Type} (s:α×β×γ×δ) (f:α→β→γ→δ→ε):ε:=f s.1 s.2.1 s.2.2.1 s.2.2.2
def elS {α β γ:Type} (s:α⊕β) (f:α→γ) (g:β→γ):γ:=match s with | .inl a=>f a | .inr b=>g b
section rules
variable {P:Program} {r:Ref} {n:Nat} {Γ:Env} {Ω:List Pe} {Q:Exit→Act→World→Prop}
theorem Zu {σ ε ν:Type} {f:σ→Option (σ⊕ε)} {s0:σ} {e:ε} {c:Code} (hl:ZM f s0=some e) (I:σ→ν→Env) (J:σ→ν→List Pe) (m0:ν) (h0:Γ.le (I s0 m0)) (j0:Less Ω (J s0 m0))
  (round:∀ s m x,f s=some x→(∀ e',x=.inr e'→e'=e)→TC P r n (I s m) (J s m) c (Exit.then (fun a w=>∃ s' m',x=.inl s'∧Stt r n (I s' m') (J s' m') a w) Q)):TC P r n Γ Ω (.loop c) Q:=by
 refine TC.loop (γ:={g:σ×ν×Nat // Zfa f g.2.2 g.1=some e}) (fun g=>I g.1.1 g.1.2.1) (fun g=>J g.1.1 g.1.2.1) (fun g=>g.1.2.2) ⟨(s0,m0,_),hl⟩ h0 j0 ?_;rintro ⟨⟨s,m,k⟩,hg⟩;cases k with
 | zero=>cases hg
 | succ k=>
  have hg:Zfa f (k+1) s=some e:=hg;unfold Zfa at hg;cases hf:f s with
  | none=>rw [hf] at hg;cases hg
  | some x=>
   rw [hf] at hg;intro a w hs;have:=round s m x hf (fun e' h=>by subst h;injection hg) a w hs;refine wpIn_mono this fun ex a' w' hq=>?_
   cases ex with
   | normal=>
    obtain ⟨s',m',hx,hst⟩:=hq;subst hx;exact ⟨⟨(s',m',k),hg⟩,Nat.lt_succ_self _,hst⟩
   | _=>exact hq
theorem Zq {σ ε ν:Type} {I:σ→ν→Env} {J:σ→ν→List Pe} {x:σ⊕ε} (s':σ) (m':ν) (hx:x=.inl s') (h:Γ.le (I s' m')) (j:Less Ω (J s' m')) :
  TE r n Γ Ω (Exit.then (fun a w=>∃ s' m',x=.inl s'∧Stt r n (I s' m') (J s' m') a w) Q) .normal:=fun _ _ hs=>⟨s',m',hx,(hs.le h).less j⟩
end rules
class Cv (τ σ:Ty):Prop where
 le:τ.le σ
instance (priority:=2000) {τ:Ty}:Cv τ τ:=⟨Ty.le.refl _⟩
instance {τ:Ty} {α:Type} {i:Dat α} {x:α} [h:ToD τ α i x]:Cv τ (D x):=⟨h.le⟩
theorem Za {Γ Δ:Env} {d:Tmp} {τ σ:Ty} [h:Has Γ (.tmp d) τ] [c:Cv τ σ] (k:Γ.le Δ):Γ.le (Δ.set d σ):=Zi7 (h.at.trans c.le) k
theorem Zk {Γ Δ:Env} {d:Tmp} {τ σ:Ty} [h:Has Γ (.tmp d) τ] (c:τ.le σ) (k:Γ.le Δ):Γ.le (Δ.set d σ):=Zi7 (h.at.trans c) k
theorem ZC {b:Nat} {pr:Prop} {o m n c:Nat} (h:m=n):(Sl b pr o m c).le (Sl b pr o n c):=h▸Ty.le.refl _
theorem ZcV {b:Nat}:Ty.le NilS (Sl b False 0 0 0):=NilS.sl (fun h=>h)
theorem Zbq {Ω Δ:List Pe} {b:Nat} {C:Ct} (h:Less Ω Δ):Less Ω (⟨b,False,C⟩::Δ):=(ZiI (fun h=>h)).trans (Less.cons h)
end Go.Proofs.YtkmojgfenlgchaaGreatDoor.Tr
namespace Go.Proofs.YtkmojgfenlgchaaGreatDoor.Tr
open Go Go.RowKit
section ops
variable {P:Program} {B0:Nat} {A:Nat→Prop} {Ω:List Pe} {Γ:Env} {dst:Option Tmp} {ty:TypeId} {pos:String} {aft:Array Edge} {gd:Option (Nat×Bool)}
variable {α β:Type} {i:Dat α} {j:Dat β} {t u:TypeId} {f off:Nat} {get:α→β} {set:β→α→α}
class HasParts (P:Program) (t:TypeId) (Γ:Env) (ps:List (Nat×Operand)) (α:Type) (i:Dat α) (x0:α) (x:outParam α):Prop where
 h:∀ (a:Act) A w,(∀ k,.tmp k∈ps.map (·.2)→(Γ k).p A w (a.tmps.getD k undef))→∀ fs places cs,P.underlying t=some (.struct fs)→fs.toList.mapM (fun f=>(P.info? f.type).map fun i=>(f.offset,i.size))=some places→Dat.rd A w cs x0→
  ∃ cs',Instr.fill (places.toArray[·]?) cs.toArray (ps.map fun p=>(p.1,a.eval p.2))=some cs'.toArray∧Dat.rd A w cs' x
instance {Γ:Env} {x:α}:HasParts P t Γ [] α i x x:=⟨fun a A w _ fs places cs _ _ h=>⟨cs,by simp [Instr.fill],h⟩⟩
theorem mapM_at {γ δ:Type} {g:γ→Option δ}:∀ {l:List γ} {r:List δ},l.mapM g=some r→∀ (k:Nat) (x:γ),l[k]?=some x→g x=r[k]?
 | [],r,h,k,x,hx=>by simp at hx
 | y::ys,r,h,k,x,hx=>by
  simp only [List.mapM_cons,Option.bind_eq_bind,Option.pure_def] at h;cases hy:g y with
  | none=>simp [hy] at h
  | some z=>
   cases hr:ys.mapM g with
   | none=>simp [hy,hr] at h
   | some zs=>
    simp [hy,hr] at h;subst h;cases k with
    | zero=>simp at hx;subst hx;simpa using hy
    | succ k=>simpa using mapM_at hr k x (by simpa using hx)
instance {Γ:Env} {x0 x:α} {p:Operand} {ps:List (Nat×Operand)} {τ:Ty} {y:β} {bt:Nat} [F:TFld P t f u off] [T:TEl P u β j bt] [L:Fld α i off β j get set] [hp:Has Γ p τ] [hy:ToD τ β j y] [r:HasParts P t Γ ps α i (set y x0) x] :
  HasParts P t Γ ((f,p)::ps) α i x0 x:=⟨fun a A w ha fs places cs hu hm hr=>by
 obtain ⟨fs',fl,g1,g2,g3,g4⟩:=F.h;rw [hu] at g1;injection g1 with g1;injection g1 with g1;subst g1;obtain ⟨es,e1,e2⟩:=ZjR (hy.le _ _ _ (hp.le a A w fun k e=>ha k (by simp [e])));obtain ⟨ti,z,i1,i2,i3,i4,i5⟩:=T.h;have hpl:places[f]?=some (off,Dat.sz β):=by
  have:=mapM_at hm f fl (by simpa using g2);rw [← this,g3,g4,i1,Option.map_some,i3]
 have l1:es.length=Dat.sz β:=Dat.len e2;have l2:cs.length=Dat.sz α:=Dat.len hr;have l3:off+Dat.sz β≤Dat.sz α:=L.le;obtain ⟨cs',r1,r2⟩:=r.h a A w (fun k hk=>ha k (List.mem_cons_of_mem _ hk)) fs places _ hu hm (L.st hr e2);refine ⟨cs',?_,r2⟩;have hpl2:places.toArray[f]?=some (off,Dat.sz β):=by simpa using hpl
 simp only [List.map_cons,Instr.fill,hpl2,e1];rw [if_neg (by simp [l1];omega)];have h5:=ZdS es 0 off cs (by omega);simp only [Nat.add_zero] at h5;rw [← r1];congr 1;rw [← h5];simp⟩
theorem OpY.build {parts:Array (Nat×Operand)} {ps:List (Nat×Operand)} {bt:Nat} {x:α} [T:TEl P t α i bt] (hps:parts=ps.toArray) (hu:∃ fs,P.underlying t=some (.struct fs)∧(fs.toList.mapM (fun f=>(P.info? f.type).map fun i=>(f.offset,i.size))).isSome=true) (ha:Dat.agg α=true)
  [h:HasParts P t Γ ps α i Dat.z x]:OpY P B0 A Ω Γ ⟨dst,.build t parts,ty,pos,aft,gd⟩ (D x):=
 OpY.val fun a w hl=>by
  subst hps;obtain ⟨fs,u1,u2⟩:=hu;obtain ⟨places,u2⟩:=Option.isSome_iff_exists.1 u2;obtain ⟨ti,z,i1,i2,i3,i4,i5⟩:=T.h;obtain ⟨cs',r1,r2⟩:=h.h a A w (fun k hk=>hl k (by simp only [Op.operands];simpa using hk)) fs places _ u1 u2 Dat.zrd;refine ⟨.agg cs'.toArray,?_,cs',r2,by unfold mkV;rw [ha];rfl⟩;have hb:P.built t ((ps.toArray.map fun (i,x)=>(i,a.eval x)).toList)=some cs'.toArray:=by
   unfold Program.built;rw [i1,u1];simp only [i2,u2,i5];simpa using r1
  simp only [execOp,Sem.run_bind,run_build w t _ cs'.toArray hb,Result.andThen_ok,Sem.run_pure]
theorem OpY.buildAs {parts:Array (Nat×Operand)} {ps:List (Nat×Operand)} {bt:Nat} {x:α} (y:α) [T:TEl P t α i bt] (hps:parts=ps.toArray) (hu:∃ fs,P.underlying t=some (.struct fs)∧(fs.toList.mapM (fun f=>(P.info? f.type).map fun i=>(f.offset,i.size))).isSome=true) (ha:Dat.agg α=true)
  [h:HasParts P t Γ ps α i Dat.z x] (hxy:x=y):OpY P B0 A Ω Γ ⟨dst,.build t parts,ty,pos,aft,gd⟩ (D y):=hxy▸OpY.build hps hu ha
end ops
end Go.Proofs.YtkmojgfenlgchaaGreatDoor.Tr
namespace Go.Proofs.YtkmojgfenlgchaaGreatDoor.Tr
open Go Go.RowKit
class OneC (τ:Ty):Prop where
 h:∀ {A:Nat→Prop} {w:World} {v:Value},τ.p A w v→v.cells=#[v]∧v.oneCell'=true
instance {b:Nat} {pr:Prop} {o n c:Nat}:OneC (Sl b pr o n c):=⟨fun h=>by rcases h with ⟨_,_,rfl⟩ | ⟨_,_,_,rfl⟩ <;> exact ⟨rfl,rfl⟩⟩
instance {b:Nat} {pr:Prop} {o n:Nat}:OneC (Sv b pr o n):=⟨fun h=>by rcases h with ⟨_,_,_,rfl,_⟩ | ⟨_,_,rfl⟩ <;> exact ⟨rfl,rfl⟩⟩
structure CtH (C:Ct) (off:Nat) (τ:Ty) (C':Ct):Prop where
 h:∀ {A w cs v},C.p A w cs→τ.p A w v→off<cs.length∧C'.p A w (cs.set off v)
class CtLen (C:Ct) (n:outParam Nat):Prop where
 h:∀ {A w cs},C.p A w cs→cs.length=n
instance {α:Type} {i:Dat α} {x:α}:CtLen (One x) (Dat.sz α):=⟨fun h=>Dat.len h⟩
instance {C:Ct} {o n:Nat} {τ:Ty} [k:CtLen C n]:CtLen (C.mix o τ) n:=⟨fun ⟨cs0,v,h1,h2,h3,h4⟩=>by subst h4;rw [List.length_set];exact k.h h1⟩
theorem CtH.new {C:Ct} {off n:Nat} {τ:Ty} [k:CtLen C n] (h:off<n):CtH C off τ (C.mix off τ):=⟨fun {A w cs v} hc hv=>by
 have:=k.h hc;exact ⟨by omega,cs,v,hc,by omega,hv,rfl⟩⟩
theorem CtH.same {C:Ct} {off:Nat} {σ τ:Ty}:CtH (C.mix off σ) off τ (C.mix off τ):=⟨fun {A w cs v} ⟨cs0,u,h1,h2,h3,h4⟩ hv=>by
 subst h4;exact ⟨by simpa using h2,cs0,v,h1,h2,hv,by simp⟩⟩
structure CeH (C:Ct) (off:Nat) (τ:Ty):Prop where
 h:∀ {A w cs},C.p A w cs→off<cs.length∧τ.p A w (cs.getD off undef)
theorem Zaa {C:Ct} {off:Nat} {τ:Ty}:CeH (C.mix off τ) off τ:=⟨fun {A w cs} ⟨cs0,u,h1,h2,h3,h4⟩=>by
 subst h4;refine ⟨by simpa using h2,?_⟩;rw [List.getD_eq_getElem?_getD,List.getElem?_set_self h2];exact h3⟩
def VC (C:Ct):Ty:=⟨fun A w v=>∃ cs,C.p A w cs∧v=.agg cs.toArray,fun k ⟨cs,h1,h2⟩=>⟨cs,C.keep k h1,h2⟩⟩
section ops
variable {P:Program} {B:Nat} {Ωs Ω Ωr:List Pe} {Γ:Env} {dst:Option Tmp} {ty:TypeId} {pos:String} {aft:Array Edge}
variable {α β:Type} {i:Dat α} {j:Dat β} {t u:TypeId}
theorem Zjz {w:World} {b:Nat} {cs:List Value} {o k:Nat} (hb:Blk w b cs) (hl:o+k≤cs.length):(loadCells ⟨b,o,none⟩ k).run P w=.ok (seg cs o k).toArray w:=by
 have:=Zfp (P:=P) (hb.row hl)
 rwa [Zv hl] at this
theorem ZX {b k:Nat} {pr:Prop} {C C':Ct} {p x:Operand} [hp:Has Γ p (Pt b 0)] [pk:Pick Ω b pr C Ωr] [hx:Has Γ x (VC C')] [T:TDat P t α i] [l:CtLen C k] [l':CtLen C' k] (hpr:pr) (hk:k=Dat.sz α) (hsc:∀ {A w cs},C'.p A w cs→∀ v∈cs,v.oneCell'=true) :
  OpT P B Ωs Ω Γ ⟨none,.store t p x,ty,pos,aft,none⟩ (fun _:Unit=>Ty.any) fun _=>⟨b,pr,C'⟩::Ωr:=
 ZmS (C:=C) rfl fun A a w hks hl=>by
  have e1:a.eval p=.pointer (some ⟨b,0,none⟩):=Zt (x:=p) (τ:=Pt b 0) (op:=.store t p x) (by simp [Op.operands]) hl;obtain ⟨ds,h2,h3⟩:=Zt (x:=x) (τ:=VC C') (op:=.store t p x) (by simp [Op.operands]) hl;obtain ⟨cs,g1,g2⟩:=hks ⟨b,pr,C⟩ (List.mem_append_right _ (pk.perm.mem_iff.2 (List.mem_cons_self ..))) hpr;have e3:=l.h g2;have e4:=l'.h h2;obtain ⟨w',r1,r2,r3,r4⟩:=Zbe (P:=P) g1 (o:=0) (vs:=ds) (by omega) (hsc h2);rw [Zmj (by omega)] at r2;refine ⟨undef,fun _ _=>trivial,.inr ⟨hpr,w',cs,ds,.inr ⟨?_,rfl⟩,g1,r2,r3,h2⟩⟩;have e5:(Value.agg ds.toArray).cells=ds.toArray:=rfl;simp only [execOp,Instr.storeAt,e1,Instr.sureAddr,Sem.run_bind,Sem.run_pure,Result.andThen_ok,storeVar,T.sz,h3,e5,List.size_toArray];rw [if_neg (by omega)];simp [r1]
end ops
class CtSc (C:Ct):Prop where
 h:∀ {A w cs},C.p A w cs→∀ v∈cs,v.oneCell'=true
instance {α:Type} {i:Dat α} {x:α}:CtSc (One x):=⟨fun h=>Dat.scal h⟩
instance {C:Ct} {o:Nat} {τ:Ty} [k:CtSc C] [oc:OneC τ]:CtSc (C.mix o τ):=⟨fun ⟨cs0,v,h1,h2,h3,h4⟩ u hu=>by
 subst h4;rcases List.mem_or_eq_of_mem_set hu with h | rfl
 ·exact k.h h1 u h
 ·exact (oc.h h3).2⟩
section rd
variable {P:Program} {B0:Nat} {A:Nat→Prop} {Ω:List Pe} {Γ:Env} {dst:Option Tmp} {ty:TypeId} {pos:String} {aft:Array Edge} {gd:Option (Nat×Bool)}
variable {α β:Type} {i:Dat α} {j:Dat β} {t u:TypeId} {f off:Nat}
theorem run_loadC {w:World} {b k:Nat} {C:Ct} {A:Nat→Prop} {cs:List Value} [T:TDat P t α i] [l:CtLen C k] (g1:Blk w b cs) (g2:C.p A w cs) (hk:k=Dat.sz α) (ha:Dat.agg α=true):(loadVar t ⟨b,0,none⟩).run P w=.ok (.agg cs.toArray) w:=by
 have e:=l.h g2;unfold loadVar;rw [Sem.run_bind,T.ag,ha];simp only [Result.andThen_ok,if_true];rw [Sem.run_bind,T.sz];simp only [Result.andThen_ok];have hld:=Zjz (P:=P) (o:=0) (k:=Dat.sz α) g1 (by omega);rw [seg_self (by omega)] at hld;rw [Sem.run_bind,hld];rfl
theorem Zdu {x:Operand} {b k:Nat} {pr:Prop} {C:Ct} [hx:Has Γ x (Pt b 0)] [hb:HasB Ω b pr C] [T:TDat P t α i] [l:CtLen C k] (hpr:pr) (hk:k=Dat.sz α) (ha:Dat.agg α=true):OpY P B0 A Ω Γ ⟨dst,.load t x,ty,pos,aft,gd⟩ (VC C):=fun a w _ _ hp hl=>by
 have e1:a.eval x=.pointer (some ⟨b,0,none⟩):=Zt (x:=x) (τ:=Pt b 0) (op:=.load t x) (by simp [Op.operands]) hl;obtain ⟨cs,g1,g2⟩:=hp _ hb.h hpr;simp only [execOp,Instr.loadAt,e1,Instr.sureAddr,Sem.run_bind,Sem.run_pure,Result.andThen_ok];rw [run_loadC (t:=t) g1 g2 hk ha];exact ⟨Grow.refl _ _,cs,g2,rfl⟩
instance (priority:=100) rvC {s:Tmp} {b k:Nat} {C:Ct} [h:Has Γ (.tmp s) (Pt b 0)] [hb:HasB Ω b True C] [T:TDat P t α i] [l:CtLen C k] [hk:BoolIs (Nat.beq k (Dat.sz α)) true] [ha:BoolIs (Dat.agg α) true]:Rv P Γ Ω (.cell s t) (VC C):=⟨fun ht hk'=>by
 obtain ⟨cs,g1,g2⟩:=hk' _ hb.h trivial;have e:_=Value.pointer (some ⟨b,0,none⟩):=h.at _ _ _ (ht s);refine ⟨_,?_,cs,g2,rfl⟩;simp only [rvRead,Sem.run_bind,e,asAddr,Sem.run_pure,Result.andThen_ok];exact run_loadC (t:=t) g1 g2 (Nat.eq_of_beq_eq_true hk.h) ha.h⟩
class PartsC (P:Program) (t:TypeId) (Γ:Env) (ps:List (Nat×Operand)) (C:Ct) (C':outParam Ct):Prop where
 h:∀ (a:Act) A w,(∀ k,.tmp k∈ps.map (·.2)→(Γ k).p A w (a.tmps.getD k undef))→∀ fs places cs,P.underlying t=some (.struct fs)→fs.toList.mapM (fun f=>(P.info? f.type).map fun i=>(f.offset,i.size))=some places→C.p A w cs→
  ∃ cs',Instr.fill (places.toArray[·]?) cs.toArray (ps.map fun p=>(p.1,a.eval p.2))=some cs'.toArray∧C'.p A w cs'
instance {C:Ct}:PartsC P t Γ [] C C:=⟨fun a A w _ fs places cs _ _ h=>⟨cs,by simp [Instr.fill],h⟩⟩
instance {p:Operand} {ps:List (Nat×Operand)} {τ:Ty} {y:β} {bt:Nat} {C C1 C':Ct} [F:TFld P t f u off] [T:TEl P u β j bt] [hp:Has Γ p τ] [hy:ToD τ β j y] [c:CtSet C off β j y C1] [r:PartsC P t Γ ps C1 C'] :
  PartsC P t Γ ((f,p)::ps) C C':=⟨fun a A w ha fs places cs hu hm hr=>by
 obtain ⟨fs',fl,g1,g2,g3,g4⟩:=F.h;rw [hu] at g1;injection g1 with g1;injection g1 with g1;subst g1;obtain ⟨es,e1,e2⟩:=ZjR (hy.le _ _ _ (hp.le a A w fun k e=>ha k (by simp [e])));obtain ⟨ti,z,i1,i2,i3,i4,i5⟩:=T.h;have hpl:places[f]?=some (off,Dat.sz β):=by
  have:=mapM_at hm f fl (by simpa using g2);rw [← this,g3,g4,i1,Option.map_some,i3]
 have l1:es.length=Dat.sz β:=Dat.len e2;obtain ⟨l3,k2⟩:=c.h hr e2;obtain ⟨cs',r1,r2⟩:=r.h a A w (fun k hk=>ha k (List.mem_cons_of_mem _ hk)) fs places _ hu hm k2;refine ⟨cs',?_,r2⟩;have hpl2:places.toArray[f]?=some (off,Dat.sz β):=by simpa using hpl
 simp only [List.map_cons,Instr.fill,hpl2,e1];rw [if_neg (by simp [l1];omega)];have h5:=ZdS es 0 off cs (by omega);simp only [Nat.add_zero] at h5;rw [← r1];congr 1;rw [← h5];simp⟩
theorem PartsC.hd {p:Operand} {ps:List (Nat×Operand)} {τ:Ty} {bt:Nat} {C C1 C':Ct} [F:TFld P t f u off] [T:TEl P u (List β) instList bt] [hp:Has Γ p τ] [oc:OneC τ] (c:CtH C off τ C1) (r:PartsC P t Γ ps C1 C') :
  PartsC P t Γ ((f,p)::ps) C C':=⟨fun a A w ha fs places cs hu hm hr=>by
 obtain ⟨fs',fl,g1,g2,g3,g4⟩:=F.h;rw [hu] at g1;injection g1 with g1;injection g1 with g1;subst g1;have hv:=hp.le a A w fun k e=>ha k (by simp [e])
 obtain ⟨e1,e2⟩:=oc.h hv;obtain ⟨ti,z,i1,i2,i3,i4,i5⟩:=T.h;have i3:ti.size=1:=i3;have hpl:places[f]?=some (off,1):=by
  have:=mapM_at hm f fl (by simpa using g2);rw [← this,g3,g4,i1,Option.map_some,i3]
 obtain ⟨l3,k2⟩:=c.h hr hv;obtain ⟨cs',r1,r2⟩:=r.h a A w (fun k hk=>ha k (List.mem_cons_of_mem _ hk)) fs places _ hu hm k2;refine ⟨cs',?_,r2⟩;have hpl2:places.toArray[f]?=some (off,1):=by simpa using hpl
 simp only [List.map_cons,Instr.fill,hpl2,e1];rw [if_neg (by simp;omega)];rw [← r1];congr 1;simp⟩
theorem OpY.buildC {parts:Array (Nat×Operand)} {ps:List (Nat×Operand)} {bt:Nat} {C:Ct} [T:TEl P t α i bt] (hps:parts=ps.toArray) (hu:∃ fs,P.underlying t=some (.struct fs)∧(fs.toList.mapM (fun f=>(P.info? f.type).map fun i=>(f.offset,i.size))).isSome=true)
  (h:PartsC P t Γ ps (One (Dat.z:α)) C):OpY P B0 A Ω Γ ⟨dst,.build t parts,ty,pos,aft,gd⟩ (VC C):=
 OpY.val fun a w hl=>by
  subst hps;obtain ⟨fs,u1,u2⟩:=hu;obtain ⟨places,u2⟩:=Option.isSome_iff_exists.1 u2;obtain ⟨ti,z,i1,i2,i3,i4,i5⟩:=T.h;obtain ⟨cs',r1,r2⟩:=h.h a A w (fun k hk=>hl k (by simp only [Op.operands];simpa using hk)) fs places _ u1 u2 Dat.zrd;refine ⟨.agg cs'.toArray,?_,cs',r2,rfl⟩;have hb:P.built t ((ps.toArray.map fun (i,x)=>(i,a.eval x)).toList)=some cs'.toArray:=by
   unfold Program.built;rw [i1,u1];simp only [i2,u2,i5];simpa using r1
  simp only [execOp,Sem.run_bind,run_build w t _ cs'.toArray hb,Result.andThen_ok,Sem.run_pure]
end rd
section co
variable {P:Program} {r:Ref} {n:Nat} {Γ:Env} {Ω Ω1 Ω2:List Pe} {Q:Exit→Act→World→Prop} {ops:Array Oper} {k:Nat} {rest:List Oper} {α:Type} {i:Dat α}
theorem Stt.coll {b0 b o m:Nat} {pr0 pr:Prop} {C C' D0:Ct} {τ:Ty} {xs:List α} [op:Opens r] [p0:Pick Ω b0 pr0 C Ω1] [p1:Pick Ω1 b pr D0 Ω2] {a:Act} {w:World}
  (hC:∀ {A A':Nat→Prop} {w cs},Keep A A' w w→(∀ v,τ.p A w v→(D xs).p A' w v)→C.p A w cs→C'.p A' w cs) (hx:PubC D0 b pr τ (D xs)) (h:Stt r n Γ Ω a w):Stt r n Γ (⟨b0,pr0,C'⟩::Ω2) a w:=by
 have h:=(h.less (Less.perm p0.perm)).less (Less.cons (Less.perm p1.perm));have hl:Less (⟨b0,pr0,C⟩::⟨b,pr,D0⟩::Ω2) (⟨b0,pr0,C⟩::Ω2):=Less.cons (Less.drop (Less.refl _));have h2:=h.less hl;have hown:∀ k,Own (⟨b0,pr0,C'⟩::Ω2) k↔Own (⟨b0,pr0,C⟩::Ω2) k:=fun k=>by
  constructor
  ·rintro ⟨e,he,h1,h2⟩;rcases List.mem_cons.1 he with rfl | he
   ·exact ⟨_,List.mem_cons_self ..,h1,h2⟩
   ·exact ⟨e,List.mem_cons_of_mem _ he,h1,h2⟩
  ·rintro ⟨e,he,h1,h2⟩;rcases List.mem_cons.1 he with rfl | he
   ·exact ⟨_,List.mem_cons_self ..,h1,h2⟩
   ·exact ⟨e,List.mem_cons_of_mem _ he,h1,h2⟩
 have hpub:Pub r.A (⟨b0,pr0,C'⟩::Ω2)=Pub r.A (⟨b0,pr0,C⟩::Ω2):=by
  funext k;exact propext (by rw [ZE,ZE,hown])
 have hk:Keep (Pub r.A (⟨b0,pr0,C⟩::⟨b,pr,D0⟩::Ω2)) (Pub r.A (⟨b0,pr0,C⟩::Ω2)) w w:=Keep.mono fun j _ hj=>ZE.2 ⟨(ZE.1 hj).1,fun ho=>(ZE.1 hj).2 (hl.own j ho)⟩
 refine ⟨h2.sz,h2.df,h2.mu,by rw [hpub];exact h2.ty,⟨fun j hj=>h2.pv.own j ((hown j).1 hj),?_,List.pairwise_cons.2 ⟨fun f hf h1 h3=>(List.pairwise_cons.1 h2.pv.ap).1 f hf h1 h3,(List.pairwise_cons.1 h2.pv.ap).2⟩⟩⟩;rw [hpub];intro e he hp;rcases List.mem_cons.1 he with rfl | he
 ·obtain ⟨cs,g1,g2⟩:=h.pv.ks ⟨b0,pr0,C⟩ (List.mem_cons_self ..) hp;refine ⟨cs,g1,hC hk (fun v hv=>hx _ w v (fun hpr=>?_) (τ.keep hk hv)) g2⟩;obtain ⟨cs',g3,g4⟩:=h.pv.ks ⟨b,pr,D0⟩ (List.mem_cons_of_mem _ (List.mem_cons_self ..)) hpr;refine ⟨ZE.2 ⟨op.h b (h.pv.own b ⟨_,List.mem_cons_of_mem _ (List.mem_cons_self ..),hpr,rfl⟩),fun ⟨f,hf,hpf,hfb⟩=>?_⟩,cs',g3,D0.keep hk g4⟩;have ha:=List.pairwise_cons.1 h.pv.ap;rcases List.mem_cons.1 hf with rfl | hf
  ·exact ha.1 _ (List.mem_cons_self ..) hpf hpr hfb
  ·exact (List.pairwise_cons.1 ha.2).1 f hf hpr hpf hfb.symm
 ·exact h2.pv.ks e (List.mem_cons_of_mem _ he) hp
theorem CtSet.coll {C C':Ct} {o:Nat} {τ:Ty} {xs:List α} (c:CtSet C o (List α) instList xs C'):∀ {A A':Nat→Prop} {w cs},Keep A A' w w→(∀ v,τ.p A w v→(D xs).p A' w v)→(C.mix o τ).p A w cs→C'.p A' w cs:=fun {A A' w cs} hk hv ⟨cs0,v,h1,h2,h3,h4⟩=>by
 subst h4;obtain ⟨es,h5,h6⟩:=hv v h3;obtain ⟨-,g2⟩:=c.h (C.keep hk h1) h5;have he:es=[v]:=by
  have hl:=Dat.len h5;have h6:v=es.getD 0 undef:=h6;obtain ⟨x,rfl⟩:∃ x,es=[x]:=List.length_eq_one_iff.1 hl;simp at h6;rw [h6]
 subst he;have hs:ZU cs0 o [v]=cs0.set o v:=by
  refine ZaH (by rw [Zl (by simp;omega),List.length_set]) fun q hq=>?_
  rw [ZO (by simp;omega)];simp only [List.getD_eq_getElem?_getD,List.length_singleton]
  by_cases hqo:q=o
  ·subst hqo;rw [if_pos (by omega),List.getElem?_set_self h2];simp
  ·rw [if_neg (by omega),List.getElem?_set_ne (Ne.symm hqo)]
 rwa [hs] at g2
theorem TC.coll {c:Code} (b0 b:Nat) {o:Nat} {pr0 pr:Prop} {C C' D0:Ct} {τ:Ty} {xs:List α} [op:Opens r] [p0:Pick Ω b0 pr0 (C.mix o τ) Ω1] [p1:Pick Ω1 b pr D0 Ω2] (cs:CtSet C o (List α) instList xs C') (hx:PubC D0 b pr τ (D xs)) (h:TC P r n Γ (⟨b0,pr0,C'⟩::Ω2) c Q):TC P r n Γ Ω c Q:=fun a w hs=>h a w (hs.coll (m:=0) (o:=o) cs.coll hx)
theorem TE.coll {e:Exit} (b0 b:Nat) {o:Nat} {pr0 pr:Prop} {C C' D0:Ct} {τ:Ty} {xs:List α} [op:Opens r] [p0:Pick Ω b0 pr0 (C.mix o τ) Ω1] [p1:Pick Ω1 b pr D0 Ω2] (cs:CtSet C o (List α) instList xs C') (hx:PubC D0 b pr τ (D xs)) (h:TE r n Γ (⟨b0,pr0,C'⟩::Ω2) Q e):TE r n Γ Ω Q e:=fun a w hs=>h a w (hs.coll (m:=0) (o:=o) cs.coll hx)
theorem TS.coll (b0 b:Nat) {o:Nat} {pr0 pr:Prop} {C C' D0:Ct} {τ:Ty} {xs:List α} [op:Opens r] [p0:Pick Ω b0 pr0 (C.mix o τ) Ω1] [p1:Pick Ω1 b pr D0 Ω2] (cs:CtSet C o (List α) instList xs C') (hx:PubC D0 b pr τ (D xs)) (h:TS P r n ops rest k Γ (⟨b0,pr0,C'⟩::Ω2) Q):TS P r n ops rest k Γ Ω Q:=fun hl a w hs=>h hl a w (hs.coll (m:=0) (o:=o) cs.coll hx)
end co
end Go.Proofs.YtkmojgfenlgchaaGreatDoor.Tr
