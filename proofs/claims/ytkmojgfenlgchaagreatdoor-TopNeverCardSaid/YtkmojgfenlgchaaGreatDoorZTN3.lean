/- What the proof leans on. Conditions: none. -/
import Derived.Test.YtkmojgfenlgchaaGreatDoorZTN2
set_option linter.all false
set_option linter.unusedSimpArgs false
set_option linter.unusedVariables false
set_option linter.unusedSectionVars false
namespace Go.Proofs.YtkmojgfenlgchaaGreatDoor.Tr
open Go
set_option maxRecDepth 100000
theorem mix:Tryz.prog.follows .mixedOrders=true:=by kernel_rfl
instance :TIn Tryz.prog 3 .i64:=⟨Tryz.underlying3⟩
instance :TEl Tryz.prog 3 Int inferInstance 8:=⟨⟨Tryz.isAgg3,Tryz.sizeOf3⟩,Tryz.t3,_,Tryz.type3,rfl,rfl,rfl,rfl⟩
instance :TEl Tryz.prog 4 Bool inferInstance 1:=⟨⟨Tryz.isAgg4,Tryz.sizeOf4⟩,Tryz.t4,_,Tryz.type4,rfl,rfl,rfl,rfl⟩
instance :TIn Tryz.prog 5 .u8:=⟨Tryz.underlying5⟩
instance :TEl Tryz.prog 5 UInt8 inferInstance 1:=⟨⟨Tryz.isAgg5,Tryz.sizeOf5⟩,Tryz.t5,_,Tryz.type5,rfl,rfl,rfl,rfl⟩
instance :TStr Tryz.prog 9:=⟨Tryz.underlying9⟩
instance :TEl Tryz.prog 9 Txt inferInstance 16:=⟨⟨Tryz.isAgg9,Tryz.sizeOf9⟩,Tryz.t9,_,Tryz.type9,rfl,rfl,rfl,rfl⟩
instance :TSl Tryz.prog 22 45:=⟨Tryz.underlying22⟩
instance :TSl Tryz.prog 25 111:=⟨Tryz.underlying25⟩
instance :TEl Tryz.prog 25 (List Block) inferInstance 24:=⟨⟨Tryz.isAgg25,Tryz.sizeOf25⟩,Tryz.t25,_,Tryz.type25,rfl,rfl,rfl,rfl⟩
instance :TSl Tryz.prog 26 120:=⟨Tryz.underlying26⟩
instance :TEl Tryz.prog 26 (List Fault) inferInstance 24:=⟨⟨Tryz.isAgg26,Tryz.sizeOf26⟩,Tryz.t26,_,Tryz.type26,rfl,rfl,rfl,rfl⟩
instance :TFld Tryz.prog 28 0 3 0:=⟨_,_,Tryz.underlying28,rfl,rfl,rfl⟩
instance :TFld Tryz.prog 28 1 3 1:=⟨_,_,Tryz.underlying28,rfl,rfl,rfl⟩
instance :TFld Tryz.prog 28 2 25 2:=⟨_,_,Tryz.underlying28,rfl,rfl,rfl⟩
instance :TFld Tryz.prog 28 3 3 3:=⟨_,_,Tryz.underlying28,rfl,rfl,rfl⟩
instance :TFld Tryz.prog 28 4 4 4:=⟨_,_,Tryz.underlying28,rfl,rfl,rfl⟩
instance :TFld Tryz.prog 28 5 26 5:=⟨_,_,Tryz.underlying28,rfl,rfl,rfl⟩
instance :TEl Tryz.prog 28 Chip inferInstance 80:=⟨⟨Tryz.isAgg28,Tryz.sizeOf28⟩,Tryz.t28,_,Tryz.type28,rfl,rfl,rfl,rfl⟩
instance :TSl Tryz.prog 32 3:=⟨Tryz.underlying32⟩
instance :TEl Tryz.prog 32 (List Int) inferInstance 24:=⟨⟨Tryz.isAgg32,Tryz.sizeOf32⟩,Tryz.t32,_,Tryz.type32,rfl,rfl,rfl,rfl⟩
instance :TIn Tryz.prog 33 .u64:=⟨Tryz.underlying33⟩
instance :TEl Tryz.prog 33 UInt64 inferInstance 8:=⟨⟨Tryz.isAgg33,Tryz.sizeOf33⟩,Tryz.t33,_,Tryz.type33,rfl,rfl,rfl,rfl⟩
instance :TFld Tryz.prog 35 0 28 0:=⟨_,_,Tryz.underlying35,rfl,rfl,rfl⟩
instance :TFld Tryz.prog 35 1 32 6:=⟨_,_,Tryz.underlying35,rfl,rfl,rfl⟩
instance :TFld Tryz.prog 35 2 33 7:=⟨_,_,Tryz.underlying35,rfl,rfl,rfl⟩
instance :TFld Tryz.prog 35 3 3 8:=⟨_,_,Tryz.underlying35,rfl,rfl,rfl⟩
instance :TEl Tryz.prog 35 Vol inferInstance 120:=⟨⟨Tryz.isAgg35,Tryz.sizeOf35⟩,Tryz.t35,_,Tryz.type35,rfl,rfl,rfl,rfl⟩
instance :TSl Tryz.prog 36 87:=⟨Tryz.underlying36⟩
instance :TEl Tryz.prog 36 (List Route) inferInstance 24:=⟨⟨Tryz.isAgg36,Tryz.sizeOf36⟩,Tryz.t36,_,Tryz.type36,rfl,rfl,rfl,rfl⟩
instance :TFld Tryz.prog 38 0 35 0:=⟨_,_,Tryz.underlying38,rfl,rfl,rfl⟩
instance :TFld Tryz.prog 38 1 36 9:=⟨_,_,Tryz.underlying38,rfl,rfl,rfl⟩
instance :TEl Tryz.prog 38 Fib inferInstance 144:=⟨⟨Tryz.isAgg38,Tryz.sizeOf38⟩,Tryz.t38,_,Tryz.type38,rfl,rfl,rfl,rfl⟩
instance :TSl Tryz.prog 43 106:=⟨Tryz.underlying43⟩
instance :TEl Tryz.prog 43 (List Change) inferInstance 24:=⟨⟨Tryz.isAgg43,Tryz.sizeOf43⟩,Tryz.t43,_,Tryz.type43,rfl,rfl,rfl,rfl⟩
instance :TFld Tryz.prog 45 0 43 0:=⟨_,_,Tryz.underlying45,rfl,rfl,rfl⟩
instance :TFld Tryz.prog 45 1 26 1:=⟨_,_,Tryz.underlying45,rfl,rfl,rfl⟩
instance :TEl Tryz.prog 45 bywaytop_Job inferInstance 48:=⟨⟨Tryz.isAgg45,Tryz.sizeOf45⟩,Tryz.t45,_,Tryz.type45,rfl,rfl,rfl,rfl⟩
instance :TSl Tryz.prog 63 72:=⟨Tryz.underlying63⟩
instance :TIn Tryz.prog 68 .u16:=⟨Tryz.underlying68⟩
instance :TEl Tryz.prog 68 UInt16 inferInstance 2:=⟨⟨Tryz.isAgg68,Tryz.sizeOf68⟩,Tryz.t68,_,Tryz.type68,rfl,rfl,rfl,rfl⟩
instance :TSl Tryz.prog 70 5:=⟨Tryz.underlying70⟩
instance :TEl Tryz.prog 70 (List UInt8) inferInstance 24:=⟨⟨Tryz.isAgg70,Tryz.sizeOf70⟩,Tryz.t70,_,Tryz.type70,rfl,rfl,rfl,rfl⟩
instance :TFld Tryz.prog 72 0 3 0:=⟨_,_,Tryz.underlying72,rfl,rfl,rfl⟩
instance :TFld Tryz.prog 72 1 70 1:=⟨_,_,Tryz.underlying72,rfl,rfl,rfl⟩
instance :TEl Tryz.prog 72 Item inferInstance 32:=⟨⟨Tryz.isAgg72,Tryz.sizeOf72⟩,Tryz.t72,_,Tryz.type72,rfl,rfl,rfl,rfl⟩
instance :TAr Tryz.prog 83 16 5:=⟨Tryz.underlying83⟩
instance :TEl Tryz.prog 83 (Vec UInt8 16) inferInstance 16:=⟨⟨Tryz.isAgg83,Tryz.sizeOf83⟩,Tryz.t83,_,Tryz.type83,rfl,rfl,rfl,rfl⟩
instance :TFld Tryz.prog 85 0 3 0:=⟨_,_,Tryz.underlying85,rfl,rfl,rfl⟩
instance :TFld Tryz.prog 85 1 3 1:=⟨_,_,Tryz.underlying85,rfl,rfl,rfl⟩
instance :TFld Tryz.prog 85 2 83 2:=⟨_,_,Tryz.underlying85,rfl,rfl,rfl⟩
instance :TEl Tryz.prog 85 Prefix inferInstance 32:=⟨⟨Tryz.isAgg85,Tryz.sizeOf85⟩,Tryz.t85,_,Tryz.type85,rfl,rfl,rfl,rfl⟩
instance :TFld Tryz.prog 87 0 85 0:=⟨_,_,Tryz.underlying87,rfl,rfl,rfl⟩
instance :TFld Tryz.prog 87 1 68 18:=⟨_,_,Tryz.underlying87,rfl,rfl,rfl⟩
instance :TEl Tryz.prog 87 Route inferInstance 40:=⟨⟨Tryz.isAgg87,Tryz.sizeOf87⟩,Tryz.t87,_,Tryz.type87,rfl,rfl,rfl,rfl⟩
instance :TSl Tryz.prog 91 160:=⟨Tryz.underlying91⟩
instance :TEl Tryz.prog 91 (List Node) inferInstance 24:=⟨⟨Tryz.isAgg91,Tryz.sizeOf91⟩,Tryz.t91,_,Tryz.type91,rfl,rfl,rfl,rfl⟩
instance :TFld Tryz.prog 93 0 3 0:=⟨_,_,Tryz.underlying93,rfl,rfl,rfl⟩
instance :TFld Tryz.prog 93 1 91 1:=⟨_,_,Tryz.underlying93,rfl,rfl,rfl⟩
instance :TEl Tryz.prog 93 Trie inferInstance 32:=⟨⟨Tryz.isAgg93,Tryz.sizeOf93⟩,Tryz.t93,_,Tryz.type93,rfl,rfl,rfl,rfl⟩
instance :TFld Tryz.prog 106 0 87 0:=⟨_,_,Tryz.underlying106,rfl,rfl,rfl⟩
instance :TFld Tryz.prog 106 1 4 19:=⟨_,_,Tryz.underlying106,rfl,rfl,rfl⟩
instance :TEl Tryz.prog 106 Change inferInstance 48:=⟨⟨Tryz.isAgg106,Tryz.sizeOf106⟩,Tryz.t106,_,Tryz.type106,rfl,rfl,rfl,rfl⟩
instance :TSl Tryz.prog 109 70:=⟨Tryz.underlying109⟩
instance :TEl Tryz.prog 109 (List (List UInt8)) inferInstance 24:=⟨⟨Tryz.isAgg109,Tryz.sizeOf109⟩,Tryz.t109,_,Tryz.type109,rfl,rfl,rfl,rfl⟩
instance :TFld Tryz.prog 111 0 109 0:=⟨_,_,Tryz.underlying111,rfl,rfl,rfl⟩
instance :TFld Tryz.prog 111 1 3 1:=⟨_,_,Tryz.underlying111,rfl,rfl,rfl⟩
instance :TFld Tryz.prog 111 2 3 2:=⟨_,_,Tryz.underlying111,rfl,rfl,rfl⟩
instance :TFld Tryz.prog 111 3 4 3:=⟨_,_,Tryz.underlying111,rfl,rfl,rfl⟩
instance :TEl Tryz.prog 111 Block inferInstance 48:=⟨⟨Tryz.isAgg111,Tryz.sizeOf111⟩,Tryz.t111,_,Tryz.type111,rfl,rfl,rfl,rfl⟩
instance :TFld Tryz.prog 120 0 3 0:=⟨_,_,Tryz.underlying120,rfl,rfl,rfl⟩
instance :TFld Tryz.prog 120 1 4 1:=⟨_,_,Tryz.underlying120,rfl,rfl,rfl⟩
instance :TFld Tryz.prog 120 2 4 2:=⟨_,_,Tryz.underlying120,rfl,rfl,rfl⟩
instance :TFld Tryz.prog 120 3 5 3:=⟨_,_,Tryz.underlying120,rfl,rfl,rfl⟩
instance :TEl Tryz.prog 120 Fault inferInstance 16:=⟨⟨Tryz.isAgg120,Tryz.sizeOf120⟩,Tryz.t120,_,Tryz.type120,rfl,rfl,rfl,rfl⟩
instance :TPtr Tryz.prog 134:=⟨Tryz.isAgg134,Tryz.sizeOf134⟩
instance :TFld Tryz.prog 136 0 35 0:=⟨_,_,Tryz.underlying136,rfl,rfl,rfl⟩
instance :TFld Tryz.prog 136 1 4 9:=⟨_,_,Tryz.underlying136,rfl,rfl,rfl⟩
instance :TEl Tryz.prog 136 flash_writer inferInstance 128:=⟨⟨Tryz.isAgg136,Tryz.sizeOf136⟩,Tryz.t136,_,Tryz.type136,rfl,rfl,rfl,rfl⟩
instance :TFld Tryz.prog 153 0 93 0:=⟨_,_,Tryz.underlying153,rfl,rfl,rfl⟩
instance :TEl Tryz.prog 153 trie_builder inferInstance 32:=⟨⟨Tryz.isAgg153,Tryz.sizeOf153⟩,Tryz.t153,_,Tryz.type153,rfl,rfl,rfl,rfl⟩
instance :TFld Tryz.prog 156 0 3 0:=⟨_,_,Tryz.underlying156,rfl,rfl,rfl⟩
instance :TFld Tryz.prog 156 1 68 1:=⟨_,_,Tryz.underlying156,rfl,rfl,rfl⟩
instance :TEl Tryz.prog 156 Slot inferInstance 16:=⟨⟨Tryz.isAgg156,Tryz.sizeOf156⟩,Tryz.t156,_,Tryz.type156,rfl,rfl,rfl,rfl⟩
instance :TAr Tryz.prog 157 16 156:=⟨Tryz.underlying157⟩
instance :TEl Tryz.prog 157 (Vec Slot 16) inferInstance 256:=⟨⟨Tryz.isAgg157,Tryz.sizeOf157⟩,Tryz.t157,_,Tryz.type157,rfl,rfl,rfl,rfl⟩
instance :TAr Tryz.prog 158 16 3:=⟨Tryz.underlying158⟩
instance :TEl Tryz.prog 158 (Vec Int 16) inferInstance 128:=⟨⟨Tryz.isAgg158,Tryz.sizeOf158⟩,Tryz.t158,_,Tryz.type158,rfl,rfl,rfl,rfl⟩
instance :TFld Tryz.prog 160 0 157 0:=⟨_,_,Tryz.underlying160,rfl,rfl,rfl⟩
instance :TFld Tryz.prog 160 1 158 32:=⟨_,_,Tryz.underlying160,rfl,rfl,rfl⟩
instance :TEl Tryz.prog 160 Node inferInstance 384:=⟨⟨Tryz.isAgg160,Tryz.sizeOf160⟩,Tryz.t160,_,Tryz.type160,rfl,rfl,rfl,rfl⟩
instance :TFld Tryz.prog 193 0 33 0:=⟨_,_,Tryz.underlying193,rfl,rfl,rfl⟩
instance :TFld Tryz.prog 193 1 32 1:=⟨_,_,Tryz.underlying193,rfl,rfl,rfl⟩
instance :TEl Tryz.prog 193 Roots inferInstance 32:=⟨⟨Tryz.isAgg193,Tryz.sizeOf193⟩,Tryz.t193,_,Tryz.type193,rfl,rfl,rfl,rfl⟩
instance :TMap Tryz.prog 196 3 197:=⟨Tryz.underlying196,Tryz.underlying3,⟨Tryz.t197,_,Tryz.type197,rfl,rfl⟩⟩
instance :TEmp Tryz.prog 197:=⟨by kernel_rfl,⟨Tryz.t197,_,Tryz.type197,rfl,rfl,rfl⟩⟩
instance :TFld Tryz.prog 202 0 3 0:=⟨_,_,Tryz.underlying202,rfl,rfl,rfl⟩
instance :TFld Tryz.prog 202 1 3 1:=⟨_,_,Tryz.underlying202,rfl,rfl,rfl⟩
instance :TFld Tryz.prog 202 2 33 2:=⟨_,_,Tryz.underlying202,rfl,rfl,rfl⟩
instance :TFld Tryz.prog 202 3 70 3:=⟨_,_,Tryz.underlying202,rfl,rfl,rfl⟩
instance :TEl Tryz.prog 202 Page inferInstance 48:=⟨⟨Tryz.isAgg202,Tryz.sizeOf202⟩,Tryz.t202,_,Tryz.type202,rfl,rfl,rfl,rfl⟩
instance :TIn Tryz.prog 213 .u64:=⟨Tryz.underlying213⟩
instance :TAr Tryz.prog 218 20 5:=⟨Tryz.underlying218⟩
instance :TEl Tryz.prog 218 (Vec UInt8 20) inferInstance 20:=⟨⟨Tryz.isAgg218,Tryz.sizeOf218⟩,Tryz.t218,_,Tryz.type218,rfl,rfl,rfl,rfl⟩
instance :TSl Tryz.prog 234 32:=⟨Tryz.underlying234⟩
instance :TIn Tryz.prog 239 .u32:=⟨Tryz.underlying239⟩
instance :TSl Tryz.prog 255 109:=⟨Tryz.underlying255⟩
instance :TSl Tryz.prog 258 261:=⟨Tryz.underlying258⟩
instance :TFld Tryz.prog 261 0 3 0:=⟨_,_,Tryz.underlying261,rfl,rfl,rfl⟩
instance :TFld Tryz.prog 261 1 3 1:=⟨_,_,Tryz.underlying261,rfl,rfl,rfl⟩
instance :TFld Tryz.prog 261 2 3 2:=⟨_,_,Tryz.underlying261,rfl,rfl,rfl⟩
instance :TFld Tryz.prog 261 3 4 3:=⟨_,_,Tryz.underlying261,rfl,rfl,rfl⟩
instance :TEl Tryz.prog 261 Wear inferInstance 32:=⟨⟨Tryz.isAgg261,Tryz.sizeOf261⟩,Tryz.t261,_,Tryz.type261,rfl,rfl,rfl,rfl⟩
instance :TSl Tryz.prog 270 9:=⟨Tryz.underlying270⟩
instance :TFld Tryz.prog 282 0 261 0:=⟨_,_,Tryz.underlying282,rfl,rfl,rfl⟩
instance :TFld Tryz.prog 282 1 3 4:=⟨_,_,Tryz.underlying282,rfl,rfl,rfl⟩
instance :TEl Tryz.prog 282 wear_block inferInstance 40:=⟨⟨Tryz.isAgg282,Tryz.sizeOf282⟩,Tryz.t282,_,Tryz.type282,rfl,rfl,rfl,rfl⟩
instance :TEl Tryz.prog 283 (F2 Tryz.prog wear_block wear_block Int) inferInstance 8:=⟨⟨Tryz.isAgg283,Tryz.sizeOf283⟩,Tryz.t283,_,Tryz.type283,rfl,rfl,rfl,rfl⟩
instance :TSl Tryz.prog 289 283:=⟨Tryz.underlying289⟩
theorem EqV_83:EqN Tryz.prog 83 (Vec UInt8 16) inferInstance 1:=EqN.vec Tryz.underlying83 (EqN.u8 (n:=0) Tryz.underlying5)
theorem EqG_83:Tryz.prog.eqGuardType Tryz.prog.depth 83=false:=by decide +kernel
theorem EqV_85:EqN Tryz.prog 85 Prefix inferInstance 2:=EqN.struct Tryz.underlying85 (by decide +kernel) rfl fun {A} w d {cs ds x y} hx hy=>by
 have h1:cs.length=Dat.sz Prefix:=Dat.len hx;have h2:ds.length=Dat.sz Prefix:=Dat.len hy;refine Eq.trans (b:=.ok (decide (x.Bits=y.Bits)&&(decide (x.Len=y.Len)&&(decide (x.Key=y.Key)&&true))) w) ?_ ?_
 ·exact (Zfu (n:=1) (A:=A) (off:=0) (β:=Int) (a:=x.Bits) (b:=y.Bits) (by decide) rfl rfl (EqN.up (EqN.i64 (n:=0) Tryz.underlying3) (by decide)) (by rw [h1];decide) (by rw [h2];decide) (Fld.rd (α:=Prefix) (off:=0) hx) (Fld.rd (α:=Prefix) (off:=0) hy) (Zfu (n:=1) (A:=A) (off:=1) (β:=Int) (a:=x.Len) (b:=y.Len) (by decide) rfl rfl (EqN.up (EqN.i64 (n:=0) Tryz.underlying3) (by decide)) (by rw [h1];decide) (by rw [h2];decide) (Fld.rd (α:=Prefix) (off:=1) hx) (Fld.rd (α:=Prefix) (off:=1) hy) (Zfu (n:=1) (A:=A) (off:=2) (β:=(Vec UInt8 16)) (a:=x.Key) (b:=y.Key) (by decide) rfl rfl (EqN.up EqV_83 (by decide)) (by rw [h1];decide) (by rw [h2];decide) (Fld.rd (α:=Prefix) (off:=2) hx) (Fld.rd (α:=Prefix) (off:=2) hy) eqF_nil)))
 congr 1;cases x;cases y;rw [Bool.eq_iff_iff];simp
theorem EqG_85:Tryz.prog.eqGuardType Tryz.prog.depth 85=false:=by decide +kernel
theorem EqV_87:EqN Tryz.prog 87 Route inferInstance 3:=EqN.struct Tryz.underlying87 (by decide +kernel) rfl fun {A} w d {cs ds x y} hx hy=>by
 have h1:cs.length=Dat.sz Route:=Dat.len hx;have h2:ds.length=Dat.sz Route:=Dat.len hy;refine Eq.trans (b:=.ok (decide (x.Prefix=y.Prefix)&&(decide (x.Hop=y.Hop)&&true)) w) ?_ ?_
 ·exact (Zfu (n:=2) (A:=A) (off:=0) (β:=Prefix) (a:=x.Prefix) (b:=y.Prefix) (by decide) rfl rfl (EqN.up EqV_85 (by decide)) (by rw [h1];decide) (by rw [h2];decide) (Fld.rd (α:=Route) (off:=0) hx) (Fld.rd (α:=Route) (off:=0) hy) (Zfu (n:=2) (A:=A) (off:=18) (β:=UInt16) (a:=x.Hop) (b:=y.Hop) (by decide) rfl rfl (EqN.up (EqN.u16 (n:=0) Tryz.underlying68) (by decide)) (by rw [h1];decide) (by rw [h2];decide) (Fld.rd (α:=Route) (off:=18) hx) (Fld.rd (α:=Route) (off:=18) hy) eqF_nil))
 congr 1;cases x;cases y;rw [Bool.eq_iff_iff];simp
theorem EqG_87:Tryz.prog.eqGuardType Tryz.prog.depth 87=false:=by decide +kernel
theorem EqV_120:EqN Tryz.prog 120 Fault inferInstance 1:=EqN.struct Tryz.underlying120 (by decide +kernel) rfl fun {A} w d {cs ds x y} hx hy=>by
 have h1:cs.length=Dat.sz Fault:=Dat.len hx;have h2:ds.length=Dat.sz Fault:=Dat.len hy;refine Eq.trans (b:=.ok (decide (x.Op=y.Op)&&(decide (x.Fail=y.Fail)&&(decide (x.Cut=y.Cut)&&(decide (x.Mask=y.Mask)&&true)))) w) ?_ ?_
 ·exact (Zfu (n:=0) (A:=A) (off:=0) (β:=Int) (a:=x.Op) (b:=y.Op) (by decide) rfl rfl (EqN.up (EqN.i64 (n:=0) Tryz.underlying3) (by decide)) (by rw [h1];decide) (by rw [h2];decide) (Fld.rd (α:=Fault) (off:=0) hx) (Fld.rd (α:=Fault) (off:=0) hy) (Zfu (n:=0) (A:=A) (off:=1) (β:=Bool) (a:=x.Fail) (b:=y.Fail) (by decide) rfl rfl (EqN.up (EqN.bool (n:=0) Tryz.underlying4) (by decide)) (by rw [h1];decide) (by rw [h2];decide) (Fld.rd (α:=Fault) (off:=1) hx) (Fld.rd (α:=Fault) (off:=1) hy) (Zfu (n:=0) (A:=A) (off:=2) (β:=Bool) (a:=x.Cut) (b:=y.Cut) (by decide) rfl rfl (EqN.up (EqN.bool (n:=0) Tryz.underlying4) (by decide)) (by rw [h1];decide) (by rw [h2];decide) (Fld.rd (α:=Fault) (off:=2) hx) (Fld.rd (α:=Fault) (off:=2) hy) (Zfu (n:=0) (A:=A) (off:=3) (β:=UInt8) (a:=x.Mask) (b:=y.Mask) (by decide) rfl rfl (EqN.up (EqN.u8 (n:=0) Tryz.underlying5) (by decide)) (by rw [h1];decide) (by rw [h2];decide) (Fld.rd (α:=Fault) (off:=3) hx) (Fld.rd (α:=Fault) (off:=3) hy) eqF_nil))))
 congr 1;cases x;cases y;rw [Bool.eq_iff_iff];simp
theorem EqG_120:Tryz.prog.eqGuardType Tryz.prog.depth 120=false:=by decide +kernel
instance :Fun Tryz.prog 7:=⟨Tryz.call7⟩
instance :Fun Tryz.prog 8:=⟨Tryz.call8⟩
instance :Fun Tryz.prog 9:=⟨Tryz.call9⟩
instance :Fun Tryz.prog 10:=⟨Tryz.call10⟩
instance :Fun Tryz.prog 11:=⟨Tryz.call11⟩
instance :Fun Tryz.prog 12:=⟨Tryz.call12⟩
instance :Fun Tryz.prog 13:=⟨Tryz.call13⟩
instance :Fun Tryz.prog 14:=⟨Tryz.call14⟩
instance :Fun Tryz.prog 15:=⟨Tryz.call15⟩
instance :Fun Tryz.prog 16:=⟨Tryz.call16⟩
instance :Fun Tryz.prog 17:=⟨Tryz.call17⟩
instance :Fun Tryz.prog 18:=⟨Tryz.call18⟩
instance :Fun Tryz.prog 22:=⟨Tryz.call22⟩
instance :Fun Tryz.prog 23:=⟨Tryz.call23⟩
instance :Fun Tryz.prog 25:=⟨Tryz.call25⟩
instance :Fun Tryz.prog 33:=⟨Tryz.call33⟩
instance :Fun Tryz.prog 34:=⟨Tryz.call34⟩
instance :Fun Tryz.prog 37:=⟨Tryz.call37⟩
instance :Fun Tryz.prog 38:=⟨Tryz.call38⟩
instance :Fun Tryz.prog 39:=⟨Tryz.call39⟩
instance :Fun Tryz.prog 40:=⟨Tryz.call40⟩
instance :Fun Tryz.prog 41:=⟨Tryz.call41⟩
instance :Fun Tryz.prog 42:=⟨Tryz.call42⟩
instance :Fun Tryz.prog 43:=⟨Tryz.call43⟩
instance :Fun Tryz.prog 44:=⟨Tryz.call44⟩
instance :Fun Tryz.prog 45:=⟨Tryz.call45⟩
instance :Fun Tryz.prog 46:=⟨Tryz.call46⟩
instance :Fun Tryz.prog 47:=⟨Tryz.call47⟩
instance :Fun Tryz.prog 48:=⟨Tryz.call48⟩
instance :Fun Tryz.prog 49:=⟨Tryz.call49⟩
instance :Fun Tryz.prog 50:=⟨Tryz.call50⟩
instance :Fun Tryz.prog 51:=⟨Tryz.call51⟩
instance :Fun Tryz.prog 52:=⟨Tryz.call52⟩
instance :Fun Tryz.prog 53:=⟨Tryz.call53⟩
instance :Fun Tryz.prog 54:=⟨Tryz.call54⟩
instance :Fun Tryz.prog 55:=⟨Tryz.call55⟩
instance :Fun Tryz.prog 56:=⟨Tryz.call56⟩
instance :Fun Tryz.prog 57:=⟨Tryz.call57⟩
instance :Fun Tryz.prog 58:=⟨Tryz.call58⟩
instance :Fun Tryz.prog 59:=⟨Tryz.call59⟩
instance :Fun Tryz.prog 60:=⟨Tryz.call60⟩
instance :Fun Tryz.prog 61:=⟨Tryz.call61⟩
instance :Fun Tryz.prog 64:=⟨Tryz.call64⟩
instance :Fun Tryz.prog 65:=⟨Tryz.call65⟩
instance :Fun Tryz.prog 66:=⟨Tryz.call66⟩
instance :Fun Tryz.prog 67:=⟨Tryz.call67⟩
instance :Fun Tryz.prog 68:=⟨Tryz.call68⟩
instance :Fun Tryz.prog 69:=⟨Tryz.call69⟩
instance :Fun Tryz.prog 70:=⟨Tryz.call70⟩
instance :Fun Tryz.prog 71:=⟨Tryz.call71⟩
instance :Fun Tryz.prog 72:=⟨Tryz.call72⟩
instance :Fun Tryz.prog 76:=⟨Tryz.call76⟩
instance :Fun Tryz.prog 77:=⟨Tryz.call77⟩
instance :Fun Tryz.prog 79:=⟨Tryz.call79⟩
instance :Fun Tryz.prog 80:=⟨Tryz.call80⟩
instance :Fun Tryz.prog 81:=⟨Tryz.call81⟩
instance :Fun Tryz.prog 86:=⟨Tryz.call86⟩
instance :Fun Tryz.prog 87:=⟨Tryz.call87⟩
instance :Fun Tryz.prog 88:=⟨Tryz.call88⟩
instance :Fun Tryz.prog 89:=⟨Tryz.call89⟩
instance :Fun Tryz.prog 90:=⟨Tryz.call90⟩
instance :Fun Tryz.prog 91:=⟨Tryz.call91⟩
instance :Fun Tryz.prog 92:=⟨Tryz.call92⟩
instance :Fun Tryz.prog 93:=⟨Tryz.call93⟩
instance :Fun Tryz.prog 94:=⟨Tryz.call94⟩
instance :Fun Tryz.prog 95:=⟨Tryz.call95⟩
instance :Fun Tryz.prog 96:=⟨Tryz.call96⟩
instance :Fun Tryz.prog 97:=⟨Tryz.call97⟩
instance :Fun Tryz.prog 98:=⟨Tryz.call98⟩
instance :Fun Tryz.prog 99:=⟨Tryz.call99⟩
instance :Fun Tryz.prog 100:=⟨Tryz.call100⟩
instance :Fun Tryz.prog 101:=⟨Tryz.call101⟩
instance :Fun Tryz.prog 102:=⟨Tryz.call102⟩
instance :Fun Tryz.prog 103:=⟨Tryz.call103⟩
instance :Fun Tryz.prog 104:=⟨Tryz.call104⟩
instance :Fun Tryz.prog 105:=⟨Tryz.call105⟩
instance :Fun Tryz.prog 106:=⟨Tryz.call106⟩
instance :Fun Tryz.prog 107:=⟨Tryz.call107⟩
instance :Fun Tryz.prog 108:=⟨Tryz.call108⟩
instance :Fun Tryz.prog 109:=⟨Tryz.call109⟩
instance :Fun Tryz.prog 110:=⟨Tryz.call110⟩
instance :Fun Tryz.prog 113:=⟨Tryz.call113⟩
instance :Fun Tryz.prog 114:=⟨Tryz.call114⟩
instance :Fun Tryz.prog 115:=⟨Tryz.call115⟩
instance :Fun Tryz.prog 116:=⟨Tryz.call116⟩
instance :Fun Tryz.prog 117:=⟨Tryz.call117⟩
instance :Fun Tryz.prog 118:=⟨Tryz.call118⟩
instance :Fun Tryz.prog 119:=⟨Tryz.call119⟩
instance :Fun Tryz.prog 120:=⟨Tryz.call120⟩
instance :Fun Tryz.prog 121:=⟨Tryz.call121⟩
instance :Fun Tryz.prog 122:=⟨Tryz.call122⟩
instance :Fun Tryz.prog 126:=⟨Tryz.call126⟩
instance :Fun Tryz.prog 127:=⟨Tryz.call127⟩
instance :Fun Tryz.prog 128:=⟨Tryz.call128⟩
instance :Fun Tryz.prog 129:=⟨Tryz.call129⟩
instance :Fun Tryz.prog 131:=⟨Tryz.call131⟩
instance :Fun Tryz.prog 132:=⟨Tryz.call132⟩
instance :Fun Tryz.prog 135:=⟨Tryz.call135⟩
instance :Fun Tryz.prog 136:=⟨Tryz.call136⟩
instance :Fun Tryz.prog 138:=⟨Tryz.call138⟩
instance :Fun Tryz.prog 139:=⟨Tryz.call139⟩
instance :Fun Tryz.prog 140:=⟨Tryz.call140⟩
instance :Fun Tryz.prog 141:=⟨Tryz.call141⟩
instance :Fun Tryz.prog 142:=⟨Tryz.call142⟩
instance :Fun Tryz.prog 143:=⟨Tryz.call143⟩
instance :Fun Tryz.prog 144:=⟨Tryz.call144⟩
instance :Fun Tryz.prog 145:=⟨Tryz.call145⟩
instance :Fun Tryz.prog 146:=⟨Tryz.call146⟩
instance :Fun Tryz.prog 147:=⟨Tryz.call147⟩
instance :Fun Tryz.prog 148:=⟨Tryz.call148⟩
instance :Fun Tryz.prog 149:=⟨Tryz.call149⟩
instance :Fun Tryz.prog 150:=⟨Tryz.call150⟩
instance :Fun Tryz.prog 151:=⟨Tryz.call151⟩
instance :Fun Tryz.prog 152:=⟨Tryz.call152⟩
instance :Fun Tryz.prog 153:=⟨Tryz.call153⟩
instance :Fun Tryz.prog 154:=⟨Tryz.call154⟩
instance :Fun Tryz.prog 155:=⟨Tryz.call155⟩
instance :Fun Tryz.prog 156:=⟨Tryz.call156⟩
instance :Fun Tryz.prog 157:=⟨Tryz.call157⟩
instance :Fun Tryz.prog 158:=⟨Tryz.call158⟩
instance :Fun Tryz.prog 159:=⟨Tryz.call159⟩
instance :Fun Tryz.prog 161:=⟨Tryz.call161⟩
instance :Fun Tryz.prog 162:=⟨Tryz.call162⟩
instance :Fun Tryz.prog 163:=⟨Tryz.call163⟩
instance :Fun Tryz.prog 164:=⟨Tryz.call164⟩
instance :Fun Tryz.prog 165:=⟨Tryz.call165⟩
instance :Fun Tryz.prog 166:=⟨Tryz.call166⟩
instance :Fun Tryz.prog 167:=⟨Tryz.call167⟩
instance :Fun Tryz.prog 168:=⟨Tryz.call168⟩
instance :Fun Tryz.prog 169:=⟨Tryz.call169⟩
instance :Fun Tryz.prog 170:=⟨Tryz.call170⟩
instance :Fun Tryz.prog 171:=⟨Tryz.call171⟩
instance :Fun Tryz.prog 172:=⟨Tryz.call172⟩
instance :Fun Tryz.prog 173:=⟨Tryz.call173⟩
instance :Fun Tryz.prog 174:=⟨Tryz.call174⟩
instance :Fun Tryz.prog 175:=⟨Tryz.call175⟩
instance :Fun Tryz.prog 176:=⟨Tryz.call176⟩
instance :Fun Tryz.prog 177:=⟨Tryz.call177⟩
instance :Fun Tryz.prog 178:=⟨Tryz.call178⟩
instance :Fun Tryz.prog 179:=⟨Tryz.call179⟩
instance :Fun Tryz.prog 180:=⟨Tryz.call180⟩
instance :Fun Tryz.prog 181:=⟨Tryz.call181⟩
instance :Fun Tryz.prog 182:=⟨Tryz.call182⟩
instance :Fun Tryz.prog 183:=⟨Tryz.call183⟩
instance :Fun Tryz.prog 187:=⟨Tryz.call187⟩
instance :Fun Tryz.prog 188:=⟨Tryz.call188⟩
instance :Fun Tryz.prog 190:=⟨Tryz.call190⟩
instance :Fun Tryz.prog 191:=⟨Tryz.call191⟩
instance :Fun Tryz.prog 192:=⟨Tryz.call192⟩
instance :Fun Tryz.prog 193:=⟨Tryz.call193⟩
instance :Fun Tryz.prog 194:=⟨Tryz.call194⟩
instance :Fun Tryz.prog 195:=⟨Tryz.call195⟩
instance :Fun Tryz.prog 196:=⟨Tryz.call196⟩
instance :Fun Tryz.prog 197:=⟨Tryz.call197⟩
instance :Fun Tryz.prog 198:=⟨Tryz.call198⟩
instance :Fun Tryz.prog 199:=⟨Tryz.call199⟩
instance :Fun Tryz.prog 200:=⟨Tryz.call200⟩
instance :Fun Tryz.prog 201:=⟨Tryz.call201⟩
instance :Fun Tryz.prog 204:=⟨Tryz.call204⟩
instance :Fun Tryz.prog 205:=⟨Tryz.call205⟩
instance :Fun Tryz.prog 206:=⟨Tryz.call206⟩
instance :Fun Tryz.prog 207:=⟨Tryz.call207⟩
instance :Fun Tryz.prog 208:=⟨Tryz.call208⟩
instance :Fun Tryz.prog 209:=⟨Tryz.call209⟩
instance :Fun Tryz.prog 210:=⟨Tryz.call210⟩
instance :Fun Tryz.prog 211:=⟨Tryz.call211⟩
instance :Fun Tryz.prog 212:=⟨Tryz.call212⟩
instance :Fun Tryz.prog 213:=⟨Tryz.call213⟩
instance :Fun Tryz.prog 214:=⟨Tryz.call214⟩
instance :Fun Tryz.prog 215:=⟨Tryz.call215⟩
instance :Fun Tryz.prog 216:=⟨Tryz.call216⟩
instance :Fun Tryz.prog 217:=⟨Tryz.call217⟩
instance :Fun Tryz.prog 218:=⟨Tryz.call218⟩
instance :ExtOvl Tryz.prog 133 36:=⟨fun args w=>run_callFunc_extern Tryz.func133 (by kernel_rfl) (by kernel_rfl) (by kernel_rfl) (by kernel_rfl) args w⟩
instance :ExtCmp Tryz.prog 137:=⟨fun args w=>run_callFunc_extern Tryz.func137 (by kernel_rfl) (by kernel_rfl) (by kernel_rfl) (by kernel_rfl) args w⟩
instance :ExtIdx Tryz.prog 202:=⟨fun args w=>run_callFunc_extern Tryz.func202 (by kernel_rfl) (by kernel_rfl) (by kernel_rfl) (by kernel_rfl) args w⟩
instance :ExtCnt Tryz.prog 220:=⟨fun args w=>run_callFunc_extern Tryz.func220 (by kernel_rfl) (by kernel_rfl) (by kernel_rfl) (by kernel_rfl) args w⟩
end Go.Proofs.YtkmojgfenlgchaaGreatDoor.Tr
namespace Go.Proofs.YtkmojgfenlgchaaGreatDoor.Tr
open Go Go.RowKit Go.ChangeShapes Go.WideShapes Go.ChangeAt
theorem cells?_row {w:World} {base:Nat} {a:Addr} {n:Nat} {cs:List Value} (h:w.cells? base a n=some cs) (hn:0<n):a.spot=none∧cs.length=n∧Zi9 w a.block a.off cs:=by
 obtain ⟨-,hl,hc⟩:=World.cells?_some h;obtain ⟨b,off,sp⟩:=a;have hsp:sp=none:=by
  have h0:=hc 0 hn;rw [List.getElem?_eq_getElem (by omega)] at h0;simpa [Addr.add] using World.cell?_spot h0
 subst hsp;refine ⟨rfl,hl,fun j hj=>?_⟩;have:=hc j (by omega);rw [List.getElem?_eq_getElem hj] at this;rw [List.getD_eq_getElem?_getD,List.getElem?_eq_getElem hj]
 rwa [Za0] at this
class TOpen (P:Program) (t:TypeId) (α:outParam Type) (i:outParam (Dat α)):Prop where
 h:∀ {H:Type} {enc:TypeId×Value→H} {W:World} {base:Nat} {sp:Nat→Bool} {held:Bool} {fuel:Nat} {cs:List Value} {d:DataW H} {ps:List MemPlace},
  DataW.trod enc P W base sp held fuel t cs=some (d,ps)→(∀ n∈d.weights P t,n≤reachBytes)→∃ x:α,Dat.rd (fun _=>True) W cs x
 s:∀ {W:World} {base:Nat} {v:Value},Value.okWide P W .any base t v→v=mkV α v.cells.toList
theorem reach_most:reachBytes≤ZjT:=by decide
theorem wf_u8 {n:Int} (h:(Lit.int .u8 n).wf=true):0≤n∧n<256:=by
 simp [Lit.wf,IntKind.bits,IntKind.signed,IntKind.min,IntKind.max] at h;omega
theorem wf_u16 {n:Int} (h:(Lit.int .u16 n).wf=true):0≤n∧n<65536:=by
 simp [Lit.wf,IntKind.bits,IntKind.signed,IntKind.min,IntKind.max] at h;omega
theorem wf_i64 {n:Int} (h:(Lit.int .i64 n).wf=true):ZeD n:=by
 simp [Lit.wf,IntKind.bits,IntKind.signed,IntKind.min,IntKind.max] at h;unfold ZeD;omega
theorem topen_i64 {P:Program} {t:TypeId} (ht:P.underlying t=some (.int .i64)):TOpen P t Int inferInstance where
 h hd _:=by
  obtain ⟨n,rfl,-,hw⟩:=DataW.trod_int ht hd;exact ⟨n,rfl,wf_i64 hw⟩
 s hv:=by obtain ⟨n,rfl⟩:=okWide_int ht hv;rfl
theorem topen_u8 {P:Program} {t:TypeId} (ht:P.underlying t=some (.int .u8)):TOpen P t UInt8 inferInstance where
 h hd _:=by
  obtain ⟨n,rfl,-,hw⟩:=DataW.trod_int ht hd;have:=wf_u8 hw;refine ⟨UInt8.ofNat n.toNat,?_⟩;show [Value.int .u8 n]=[.int .u8 _];rw [UInt8.toNat_ofNat_of_lt' (by show n.toNat<256;omega),Int.toNat_of_nonneg this.1]
 s hv:=by obtain ⟨n,rfl⟩:=okWide_int ht hv;rfl
theorem topen_u16 {P:Program} {t:TypeId} (ht:P.underlying t=some (.int .u16)):TOpen P t UInt16 inferInstance where
 h hd _:=by
  obtain ⟨n,rfl,-,hw⟩:=DataW.trod_int ht hd;have:=wf_u16 hw;refine ⟨UInt16.ofNat n.toNat,?_⟩;show [Value.int .u16 n]=[.int .u16 _];rw [UInt16.toNat_ofNat_of_lt' (by show n.toNat<65536;omega),Int.toNat_of_nonneg this.1]
 s hv:=by obtain ⟨n,rfl⟩:=okWide_int ht hv;rfl
theorem topen_bool {P:Program} {t:TypeId} (ht:P.underlying t=some .bool):TOpen P t Bool inferInstance where
 h hd _:=by
  obtain ⟨b,rfl,-⟩:=DataW.trod_bool ht hd;exact ⟨b,rfl⟩
 s hv:=by obtain ⟨n,rfl⟩:=okWide_bool ht hv;rfl
theorem ZgO {H:Type} {P:Program} {e:TypeId} {d:DataW H} {n:Nat} (hn:n∈d.weights P e):∀ {l:List (DataW H)},d∈l→n∈DataW.weightsAll P e l
 | [],h=>by cases h
 | x::r,h=>by
  simp only [DataW.weightsAll,List.mem_append];rcases List.mem_cons.1 h with rfl | h
  ·exact .inl hn
  ·exact .inr (ZgO hn h)
theorem ZkO {P:Program} {t e:TypeId} {α:Type} {i:Dat α} (ht:P.underlying t=some (.slice e)) (hc:P.cellsOf e=Dat.sz α) (hb:1≤P.bytesOf e) [k:TOpen P e α i]:TOpen P t (List α) inferInstance where
 h {H enc W base sp held fuel cs d ps} hd hw:=by
  rcases Go.Deep.open_slice ht hd with ⟨rfl,-⟩ | ⟨a,len,cap,m,n,Df,Pl,rfl,-,h1,h2,hm,hx,hel⟩
  ·exact ⟨[],none,0,rfl,Nat.le_refl _,Nat.zero_le _,Nat.zero_le _,fun i hi=>absurd hi (by simp)⟩
  ·have hlm:len≤m:=by rw [hm];split <;> omega
   injection hx with hx1 hx2;subst hx1;have hwt:∀ i,i<len→∀ n∈(Df i).weights P e,n≤reachBytes:=fun i hi n hn=>by
    refine hw n ?_;simp only [DataW.weights,ht];refine List.mem_cons_of_mem _ (List.mem_append_left _ ?_);exact ZgO hn (List.mem_map.2 ⟨i,by simpa using hi,rfl⟩)
   have hlen:len≤ZjT:=by
    have:=hw ((((List.range len).map Df).length+((List.range (m-len)).map fun j=>Df (len+j)).length)*P.bytesOf e) (by simp only [DataW.weights,ht];exact List.mem_cons_self ..);simp only [List.length_map,List.length_range] at this;have h3:len≤(len+(m-len))*P.bytesOf e:=Nat.le_trans (Nat.le_add_right _ _) (Nat.le_mul_of_pos_right _ hb);exact Nat.le_trans (Nat.le_trans h3 this) reach_most
   have hx:∀ i:Fin len,∃ x:α,∃ es,W.cells? base (a.add (i.1*P.cellsOf e)) (P.cellsOf e)=some es∧Dat.rd (fun _=>True) W es x:=fun i=>by
    obtain ⟨cs',g1,g2⟩:=hel i.1 (Nat.lt_of_lt_of_le i.2 hlm);obtain ⟨x,hx⟩:=k.h g2 (hwt i.1 i.2);exact ⟨x,cs',g1,hx⟩
   refine ⟨List.ofFn fun i=>Classical.choose (hx i),some a,cap,by simp,by simpa using h1,h2,by simpa using hlen,fun i hi=>?_⟩;have hi':i<len:=by simpa using hi
   obtain ⟨es,g1,g2⟩:=Classical.choose_spec (hx ⟨i,hi'⟩);have hpos:0<P.cellsOf e:=by rw [hc];exact Dat.pos
   obtain ⟨-,q2,q3⟩:=cells?_row g1 hpos;obtain ⟨cs0,g0,-⟩:=hel 0 (by omega);rw [Nat.zero_mul] at g0;obtain ⟨q1,-,-⟩:=cells?_row g0 hpos;refine ⟨a.block,a.off,?_,trivial,es,?_,by simpa using g2⟩
   ·obtain ⟨b,off,s⟩:=a;obtain rfl:s=none:=q1;rfl
   ·obtain ⟨b,off,s⟩:=a;obtain rfl:s=none:=q1;rw [hc] at q3;rw [Za0] at q3;exact q3
 s hv:=by obtain ⟨a,l,c,rfl⟩:=okWide_slice ht hv;rfl
theorem ZfO {H:Type} {P:Program}:∀ {ts:List TypeId} {ds:List (DataW H)} {j:Nat} {t:TypeId} {d:DataW H} {n:Nat},ts[j]?=some t→ds[j]?=some d→n∈d.weights P t→n∈DataW.weightsEach P ts ds
 | [],_,_,_,_,_,h,_,_=>by simp at h
 | _::_,[],_,_,_,_,_,h,_=>by simp at h
 | t::ts,d::ds,0,_,_,n,h1,h2,h3=>by
  obtain rfl:t=_:=by simpa using h1
  obtain rfl:d=_:=by simpa using h2
  simp only [DataW.weightsEach,List.mem_append];exact .inl h3
 | t::ts,d::ds,j+1,_,_,n,h1,h2,h3=>by
  simp only [DataW.weightsEach,List.mem_append];exact .inr (ZfO (j:=j) (by simpa using h1) (by simpa using h2) h3)
class TOpF (P:Program) (fs:List Field) (o:Nat) (α:Type) (i:Dat α):Prop where
 h:∀ {H:Type} {enc:TypeId×Value→H} {W:World} {base:Nat} {sp:Nat→Bool} {held:Bool} {fuel:Nat} {cs:List Value} {xs:List (DataW H×List MemPlace)},
  cs.length=o+Dat.sz α→(∀ (j:Nat) (f:Field),fs[j]?=some f→DataW.trod enc P W base sp held fuel f.type ((cs.drop f.offset).take (P.cellsOf f.type))=xs[j]?)→
  xs.length=fs.length→(∀ n∈DataW.weightsEach P (fs.map (·.type)) (xs.map (·.1)),n≤reachBytes)→∃ x:α,Dat.rd (fun _=>True) W (cs.drop o) x
theorem Zj1 {P:Program} {f:Field} {α:Type} {i:Dat α} {o:Nat} {t:TypeId} (k:TOpen P t α i) (hc:P.cellsOf t=Dat.sz α) (ht:f.type=t) (ho:f.offset=o):TOpF P [f] o α i where
 h {H enc W base sp held fuel cs xs} hl hx hn hw:=by
  subst ht
  match xs,hn with
  | [x],_=>
   have h0:=hx 0 f rfl;rw [hc,ho] at h0;have e:(cs.drop o).take (Dat.sz α)=cs.drop o:=List.take_of_length_le (by rw [List.length_drop,hl];omega);rw [e] at h0;exact k.h h0 fun n hn=>hw n (ZfO (j:=0) rfl rfl hn)
theorem ZeX {P:Program} {f:Field} {fs:List Field} {α β:Type} {i:Dat α} {j:Dat β} {o o':Nat} {t:TypeId} (k:TOpen P t α i) (hc:P.cellsOf t=Dat.sz α) (ht:f.type=t) (ho:f.offset=o) (ho':o'=o+Dat.sz α) (r:TOpF P fs o' β j):TOpF P (f::fs) o (α×β) instProd where
 h {H enc W base sp held fuel cs xs} hl hx hn hw:=by
  subst ht;subst ho'
  match xs,hn with
  | x::xs',hn=>
   have h0:=hx 0 f rfl;rw [hc,ho] at h0;obtain ⟨a,ha⟩:=k.h h0 fun n hn=>hw n (ZfO (j:=0) rfl rfl hn)
   have hl':cs.length=o+Dat.sz α+Dat.sz β:=by
    have:Dat.sz (α×β)=Dat.sz α+Dat.sz β:=rfl;omega
   obtain ⟨b,hb⟩:=r.h hl' (fun q g hg=>hx (q+1) g hg) (by simpa using hn) fun n hn=>hw n (by
    simp only [List.map_cons,DataW.weightsEach,List.mem_append];exact .inr hn)
   refine ⟨(a,b),?_,?_,?_⟩
   ·rw [List.length_drop,hl'];omega
   ·show Dat.rd _ W (seg (cs.drop o) 0 (Dat.sz α)) a;simpa [seg] using ha
   ·show Dat.rd _ W (seg (cs.drop o) (Dat.sz α) (Dat.sz β)) b;have e:seg (cs.drop o) (Dat.sz α) (Dat.sz β)=cs.drop (o+Dat.sz α):=by
     simp only [seg,List.drop_drop];exact List.take_of_length_le (by rw [List.length_drop,hl'];omega)
    rw [e];exact hb
theorem ZeY {P:Program} {t:TypeId} {fs:Array Field} {α:Type} {i:Dat α} {β:Type} {j:Dat β} (f:α→β) (g:β→α) (hfg:∀ y,f (g y)=y) (hi:i=Dat.iso f g hfg) (ht:P.underlying t=some (.struct fs)) (ha:Dat.agg β=true) (hc:P.cellsOf t=Dat.sz β) (k:TOpF P fs.toList 0 β j):TOpen P t α i where
 h {H enc W base sp held fuel cs d ps} hd hw:=by
  obtain ⟨xs,n,rfl,hx,hl,hn,hel⟩:=DataW.trod_struct ht hd;injection hx with hx1 hx2;subst hx1;obtain ⟨y,hy⟩:=k.h (by rw [hl,hc];omega) (fun q f hf=>hel q f (by simpa using hf)) (by simpa using hn) (fun n hn=>hw n (by simp only [DataW.weights,ht];exact hn));subst hi;refine ⟨g y,?_⟩;show Dat.rd _ W cs (f (g y));rw [hfg];simpa using hy
 s {W base v} hv:=by
  simp only [Value.okWide,ht] at hv;obtain ⟨cs,rfl,-⟩:=hv;subst hi;show _=@mkV α (Dat.iso f g hfg) _;have:@Dat.agg α (Dat.iso f g hfg)=true:=ha;simp [mkV,this,Value.cells]
theorem topen_vec {P:Program} {t e:TypeId} {n:Nat} {α:Type} {i:Dat α} [hn:BoolIs (Nat.ble 1 n) true] (ht:P.underlying t=some (.array n e)) (hc:P.cellsOf e=Dat.sz α) (hct:P.cellsOf t=n*Dat.sz α) [k:TOpen P e α i]:TOpen P t (Vec α n) instVec where
 h {H enc W base sp held fuel cs d ps} hd hw:=by
  obtain ⟨xs,m,rfl,hx,hl,hm,hel⟩:=DataW.trod_array ht hd;injection hx with hx1 hx2;subst hx1;have hx:∀ q:Fin n,∃ x:α,Dat.rd (fun _=>True) W (seg cs (q.1*Dat.sz α) (Dat.sz α)) x:=fun q=>by
   have h1:=hel q.1 q.2;rw [hc,List.getElem?_eq_getElem (by rw [hm];exact q.2)] at h1;refine k.h h1 fun w hwn=>hw w ?_
   simp only [DataW.weights,ht];exact ZgO hwn (List.mem_map.2 ⟨_,List.getElem_mem _,rfl⟩)
  refine ⟨⟨List.ofFn fun q=>Classical.choose (hx q),by simp⟩,by rw [hl,hct],fun q hq=>?_⟩;have hq':q<n:=by simpa using hq
  have:=Classical.choose_spec (hx ⟨q,hq'⟩);simpa using this
 s {W base v} hv:=by
  simp only [Value.okWide,ht] at hv;obtain ⟨cs,rfl,-⟩:=hv;rfl
theorem top_open {P:Program} {t:TypeId} {α:Type} {i:Dat α} [k:TOpen P t α i] {H:Type} {enc:TypeId×Value→H} {W:World} {base b0:Nat} {sp:Nat→Bool} {held:Bool} {v:Value} {d:DataW H} {ps:List MemPlace}
  (h:DataW.Trod enc P W base sp held t v d ps) (hv:Value.okWide P W .any b0 t v) (hw:∀ n∈d.weights P t,n≤reachBytes):∃ x:α,(D x).p (fun _=>True) W v:=by
 obtain ⟨fuel,hf⟩:=h;obtain ⟨x,hx⟩:=k.h hf hw;exact ⟨x,_,hx,k.s hv⟩
theorem ZjW {H:Type} {enc:TypeId×Value→H} {P:Program} (hl:laidOutB P=true) {W W':World} (hb:Below W.heap.size W W'):∀ {ts:List TypeId} {vs:List Value} {ds:List (DataW H)} {ps:List MemPlace},
  (∀ t∈ts,P.readableRec t=true∧t<P.types.size)→DataW.TrodAll enc P W 0 (fun _=>true) true ts vs ds ps→DataW.TrodAll enc P W' 0 (fun b=>decide (b<W.heap.size)) true ts vs ds ps
 | [],vs,ds,ps,_,h=>by obtain ⟨rfl,rfl,rfl⟩:=trodAll_nil h;exact trodAll_mk0
 | t::ts,vs,ds,ps,hr,h=>by
  obtain ⟨v,vs',d,ds',p,q,rfl,rfl,rfl,h1,h2⟩:=trodAll_cons h;have hlt:∀ x∈p,x.block<W.heap.size:=by obtain ⟨m,hm⟩:=h1;exact DataW.trod_lt m _ _ _ hm
  exact trodAll_cons_mk (Below.trod hl (hr t (List.mem_cons_self ..)).1 (hr t (List.mem_cons_self ..)).2 h1 hb hlt) (ZjW hl hb (fun u hu=>hr u (List.mem_cons_of_mem _ hu)) h2)
theorem law_post {H:Type} {enc:TypeId×Value→H} {P:Program} {f:Func} {s:ChangeSpec} {tb:TypeId} (hl:laidOutB P=true) (hb:P.underlying tb=some .bool) (hres:f.resultTypes=#[tb]) (hvars:s.vars=[])
  (hr:∀ t∈f.params.toList,P.readableRec t=true∧t<P.types.size) {W W':World} {args:Array Value} {ds gs:List (DataW H)} {before:List MemPlace} {e:Ending}
  (hs:s.fn H ds={ results:=[.lit (.bool true)],args:=ds })
  (hW:DataW.Whole enc P f.params.toList s.vars false W args.toList ds gs before) (h:Ret (fun _=>True) W (D true) e W'):∃ v,e=.returned v∧s.post enc P f false true false false W args v W':=by
 obtain ⟨v,rfl,hg,hv⟩:=h;obtain rfl:v=.bool true:=by
  have:=ZlQ rfl hv;simpa [Dat.rd] using this
 have hW':=hW;obtain ⟨p,q,hA,hV,rfl,-,-⟩:=hW;rw [hvars] at hV;obtain ⟨rfl,rfl⟩:=trodVars_none hV;refine ⟨_,rfl,ds,[],p++[],[],p,[],hW',?_,?_,?_,hg.below.frame _,fun h=>by cases h⟩
 ·rw [List.append_nil,hs,hres];exact trodAll_mk1 (shut_bool hb _)
 ·rw [List.append_nil,hs];exact ZjW hl hg.below hr hA
 ·rw [List.append_nil,hs,hvars];rfl
end Go.Proofs.YtkmojgfenlgchaaGreatDoor.Tr
namespace Go.Proofs.YtkmojgfenlgchaaGreatDoor.Tr
open Go
theorem ZQ {σ ε : Type} {f : σ → Option (σ ⊕ ε)} (g : Nat → σ) (n : Nat) {e : ε} (hn : n < 18446744073709551616) (h : ∀ i, i < n → f (g i) = some (.inl (g (i + 1)))) (he : f (g n) = some (.inr e)) {s : σ} (hs : s = g 0) : ZM f s = some e := by
  have key : ∀ k i, i + k = n → Zfa f (k + 1) (g i) = some e := by
    intro k
    induction k with
    | zero => intro i hi; obtain rfl : i = n := by omega
              exact ZeC he
    | succ k ih => intro i hi; rw [ZdR (h i (by omega))]; exact ih (i + 1) (by omega)
  subst hs
  exact ZhF (n + 1) (by omega) (key n 0 (by omega))
theorem ZfG {σ ε:Type} {f:σ→Option (σ⊕ε)} (g:Nat→σ) (n:Nat) (p:Nat→Bool) (x:Nat→ε) {y:ε} (hn:n<18446744073709551616)
  (h:∀ i,i<n→p i=false→f (g i)=some (.inl (g (i+1)))) (hx:∀ i,i<n→p i=true→f (g i)=some (.inr (x i))) (he:f (g n)=some (.inr y)) {s:σ} (hs:s=g 0) :
  (∃ i,i<n∧p i=true∧(∀ j,j<i→p j=false)∧ZM f s=some (x i))∨((∀ j,j<n→p j=false)∧ZM f s=some y):=by
 by_cases hex:∃ i,i<n∧p i=true
 ·left
  have key:∀ m,(∃ i,i<m∧i<n∧p i=true)→∃ i,i<n∧p i=true∧∀ j,j<i→p j=false:=by
   intro m
   induction m with
   | zero=>rintro ⟨i,h,_⟩;omega
   | succ m ih=>
    rintro ⟨i,h1,h2,h3⟩
    by_cases hs:∃ i,i<m∧i<n∧p i=true
    ·exact ih hs
    ·refine ⟨i,h2,h3,fun j hj=>?_⟩;cases hp:p j with
     | false=>rfl
     | true=>exact absurd ⟨j,by omega,by omega,hp⟩ hs
  obtain ⟨i0,h0,h1⟩:=hex;obtain ⟨i,h1,h2,h3⟩:=key (i0+1) ⟨i0,by omega,h0,h1⟩;exact ⟨i,h1,h2,h3,ZQ g i (by omega) (fun j hj=>h j (by omega) (h3 j hj)) (hx i h1 h2) hs⟩
 ·right
  have hall:∀ j,j<n→p j=false:=fun j hj=>by
   cases hp:p j with
   | false=>rfl
   | true=>exact absurd ⟨j,hj,hp⟩ hex
  exact ⟨hall,ZQ g n hn (fun j hj=>h j hj (hall j hj)) he hs⟩
theorem Zej {i n:Nat} (h:i<n):decide ((i:Int)<(n:Int))=true:=by simpa using h
theorem Zh6 {n:Nat}:decide ((n:Int)<(n:Int))=false:=by simp
theorem Zjc {i n:Nat} (h:n≤i):decide ((i:Int)<(n:Int))=false:=by simpa using h
theorem ZN {i:Nat} (h:i<9223372036854775807):Zas (i:Int) 1=some (((i+1:Nat)):Int):=Zfz h
theorem Zi {α:Type} {b:Bool} {x y:α} (h:b=true):(bif b then x else y)=x:=by rw [h,Zr]
theorem Zh {α:Type} {b:Bool} {x y:α} (h:b=false):(bif b then x else y)=y:=by rw [h,Zo]
theorem Zbi {α β:Type} {x:Option α} {a:α} {f:α→Option β} (h:x=some a):x.bind f=f a:=by rw [h,Zb]
theorem Zim {α:Type} [Inhabited α] {g:Bool} {x:Option α} {a:α} (h:x=some a):gb g x=some (bif g then a else default):=gb_of fun _=>h
theorem remI_nat {a b:Nat} (h:0<b):remI (a:Int) (b:Int)=some ((a % b:Nat):Int):=by rw [ZjB (by omega) (by omega)];rfl
theorem quoI_nat {a b:Nat} (h:0<b):ZjS (a:Int) (b:Int)=some ((a/b:Nat):Int):=by rw [Zf0 (by omega) (by omega)];rfl
end Go.Proofs.YtkmojgfenlgchaaGreatDoor.Tr
namespace Go.Proofs.YtkmojgfenlgchaaGreatDoor.Tr
open Go Go.RowKit
class OpA (P:Program) (B:Nat) (Ω:List Pe) (Γ:Env) (o:Oper) (τ:outParam Ty):Prop where
 h:∀ {A:Nat→Prop},OpY P B A Ω Γ o τ
class OpB (P:Program) (B:Nat) (Ω:List Pe) (Γ:Env) (o:Oper) (α:outParam Type) (x:outParam (Option α)) (τ:outParam (α→Ty)):Prop where
 h:∀ {a:α},x=some a→∀ {A:Nat→Prop},OpY P B A Ω Γ o (τ a)
class FtE {α:Type} (e:Option α) (v:outParam α):Prop where
 h:e=some v
class FtG {α:Type} [Inhabited α] (e:Option α) (g:outParam Bool) (v:outParam α):Prop where
 h:gb g e=some v
class FtT (g:Bool):Prop where
 h:g=true
instance {b:Bool} [h:Ft (b=true)]:FtT b:=⟨h.h⟩
instance {b:Bool} [h:Ft (b=false)]:FtT (!b):=⟨nF h.h⟩
instance {p q:Prop} [h:Ft p] [k:Ft q]:Ft (p∧q):=⟨⟨h.h,k.h⟩⟩
class TupAt (τs:List Ty) (k:Nat) (σ:outParam Ty):Prop where
 h:τs[k]?=some σ
instance {σ:Ty} {τs:List Ty}:TupAt (σ::τs) 0 σ:=⟨rfl⟩
instance {σ τ:Ty} {τs:List Ty} {k:Nat} [h:TupAt τs k σ]:TupAt (τ::τs) (k+1) σ:=⟨by simpa using h.h⟩
class PlO (C:Ct) (o:Nat) (α:outParam Type) (i:outParam (Dat α)) (v:outParam α) (upd:outParam (α→Ct)):Prop where
 h:Pl C o α i v upd
instance {α:Type} {i:Dat α} {x:α}:PlO (One x) 0 α i x One:=⟨Zx⟩
instance {α β:Type} {i:Dat α} {j:Dat β} {C:Ct} {o off:Nat} {get:α→β} {set:β→α→α} {x:α} {upd:α→Ct} [h:PlO C o α i x upd] [L:Fld α i off β j get set]:PlO C (o+off) β j (get x) (fun y=>upd (set y x)):=⟨Pl.fld h.h⟩
instance {α:Type} {i:Dat α} {xs:List α} {c:Nat} {k:Int} {x:α} [h:FtE (idx xs k) x]:PlO (Row xs c) (0+k.toNat*Dat.sz α) α i x (fun y=>Row (xs.set k.toNat y) c):=⟨ZaC h.h⟩
section ops
variable {P:Program} {B0:Nat} {Ω:List Pe} {Γ:Env} {dst:Option Tmp} {ty:TypeId} {pos:String} {aft:Array Edge} {gd:Option (Nat×Bool)} {x y c:Operand} {τ σ ρ:Ty} {t u e s d:TypeId} {α β:Type} {i:Dat α} {j:Dat β}
instance [Has Γ x τ] [AsT τ σ]:OpA P B0 Ω Γ ⟨dst,.move x,ty,pos,aft,gd⟩ σ:=⟨Zeh⟩
instance [Has Γ x τ] [AsT τ σ]:OpA P B0 Ω Γ ⟨dst,.assign x,ty,pos,aft,gd⟩ σ:=⟨ZeO⟩
instance {f off:Nat} [Has Γ x τ] [F:TFld P t f u off] [S:TDat P t α i] [T:TDat P u β j] [k:FaP τ α off β σ]:OpA P B0 Ω Γ ⟨dst,.fieldAddr t x f,ty,pos,aft,gd⟩ σ:=⟨ZaX⟩
instance {v:α} [Has Γ x τ] [hx:AsPtr τ α i v] [T:TDat P t α i]:OpA P B0 Ω Γ ⟨dst,.load t x,ty,pos,aft,gd⟩ (D v):=⟨OpY.load⟩
instance (priority:=900) {b o:Nat} {pr:Prop} {C:Ct} {v:α} {upd:α→Ct} [hx:Has Γ x τ] [q:AsPq τ b o pr] [T:TDat P t α i] [hb:HasB Ω b pr C] [p:PlO C o α i v upd]:OpA P B0 Ω Γ ⟨dst,.load t x,ty,pos,aft,gd⟩ (D v):=⟨ZaE p.h⟩
instance {τs:List Ty} {k:Nat} [Has Γ x τ] [hx:AsTup τ τs] [h:TupAt τs k σ]:OpA P B0 Ω Γ ⟨dst,.extract x k,ty,pos,aft,gd⟩ σ:=⟨ZjO h.h⟩
instance [Has Γ x τ] [k:AsT τ σ] [q:IsPtr σ]:OpA P B0 Ω Γ ⟨dst,.nilCheck x,ty,pos,aft,gd⟩ σ:=⟨ZiE⟩
instance {b:Bool} [Has Γ x τ] [hb:AsB τ b]:OpA P B0 Ω Γ ⟨dst,.unOp .not t x,ty,pos,aft,gd⟩ (B (!b)):=⟨OpY.notB⟩
instance {b d:Bool} [Has Γ c τ] [hb:AsB τ b] [Has Γ x σ] [hd:AsBC σ b true d]:OpA P B0 Ω Γ ⟨dst,.pick c x (.const (.bool false)),ty,pos,aft,gd⟩ (B (b&&d)):=⟨OpY.pickAnd⟩
instance {b d:Bool} [Has Γ c τ] [hb:AsB τ b] [Has Γ x σ] [hd:AsBC σ b false d]:OpA P B0 Ω Γ ⟨dst,.pick c (.const (.bool true)) x,ty,pos,aft,gd⟩ (B (b||d)):=⟨OpY.pickOr⟩
section cmp
variable {m k:Int} [hsx:Has Γ x τ] [hx:AsI τ m] [hsy:Has Γ y σ] [hy:AsI σ k]
include hx hy hsx hsy
instance :OpA P B0 Ω Γ ⟨dst,.binOp .lss t x y u,ty,pos,aft,gd⟩ (B (decide (m<k))):=⟨OpY.lss⟩
instance :OpA P B0 Ω Γ ⟨dst,.binOp .leq t x y u,ty,pos,aft,gd⟩ (B (decide (m≤k))):=⟨OpY.leq⟩
instance :OpA P B0 Ω Γ ⟨dst,.binOp .gtr t x y u,ty,pos,aft,gd⟩ (B (decide (m>k))):=⟨OpY.gtr⟩
instance :OpA P B0 Ω Γ ⟨dst,.binOp .geq t x y u,ty,pos,aft,gd⟩ (B (decide (m≥k))):=⟨OpY.geq⟩
instance :OpA P B0 Ω Γ ⟨dst,.binOp .eql t x y u,ty,pos,aft,gd⟩ (B (decide (m=k))):=⟨OpY.eql⟩
instance :OpA P B0 Ω Γ ⟨dst,.binOp .neq t x y u,ty,pos,aft,gd⟩ (B (decide (m≠k))):=⟨OpY.neq⟩
instance :OpB P B0 Ω Γ ⟨dst,.binOp .add t x y u,ty,pos,aft,gd⟩ Int (Zas m k) D:=⟨fun h=>Zgp h⟩
instance :OpB P B0 Ω Γ ⟨dst,.binOp .sub t x y u,ty,pos,aft,gd⟩ Int (Zgs m k) D:=⟨fun h=>OpD.sub h⟩
instance :OpB P B0 Ω Γ ⟨dst,.binOp .mul t x y u,ty,pos,aft,gd⟩ Int (mulI m k) D:=⟨fun h=>OpD.mul h⟩
end cmp
instance {m k:Int} [hsx:Has Γ x τ] [hx:ToD τ Int inferInstance m] [hsy:Has Γ y σ] [hy:ToD σ Int inferInstance k]:OpB P B0 Ω Γ ⟨dst,.binOp .quo t x y u,ty,pos,aft,gd⟩ Int (ZjS m k) D:=⟨fun h=>OpD.quo h⟩
instance {m k:Int} [hsx:Has Γ x τ] [hx:ToD τ Int inferInstance m] [hsy:Has Γ y σ] [hy:ToD σ Int inferInstance k]:OpB P B0 Ω Γ ⟨dst,.binOp .rem t x y u,ty,pos,aft,gd⟩ Int (remI m k) D:=⟨fun h=>OpD.rem h⟩
instance {m k:Int} [hsx:Has Γ x τ] [hx:ToD τ Int inferInstance m] [hsy:Has Γ y σ] [hy:ToD σ Int inferInstance k]:OpB P B0 Ω Γ ⟨dst,.binOp .and t x y u,ty,pos,aft,gd⟩ Int (andI m k) D:=⟨fun h=>OpD.andi h⟩
instance {m k:Int} [hsx:Has Γ x τ] [hx:ToD τ Int inferInstance m] [hsy:Has Γ y σ] [hy:ToD σ Int inferInstance k]:OpB P B0 Ω Γ ⟨dst,.binOp .or t x y u,ty,pos,aft,gd⟩ Int (orI m k) D:=⟨fun h=>OpD.ori h⟩
instance {m k:Int} [hsx:Has Γ x τ] [hx:ToD τ Int inferInstance m] [hsy:Has Γ y σ] [hy:AsCnt σ k]:OpB P B0 Ω Γ ⟨dst,.binOp .shl t x y u,ty,pos,aft,gd⟩ Int (shlI m k) D:=⟨fun h=>OpD.shli h⟩
instance {m k:Int} [hsx:Has Γ x τ] [hx:ToD τ Int inferInstance m] [hsy:Has Γ y σ] [hy:AsCnt σ k]:OpB P B0 Ω Γ ⟨dst,.binOp .shr t x y u,ty,pos,aft,gd⟩ Int (shrI m k) D:=⟨fun h=>OpD.shri h⟩
instance {xs:List α} [hsx:Has Γ x τ] [hx:AsL τ α i xs] [S:TSl P t e]:OpA P B0 Ω Γ ⟨dst,.call { callee:=.builtin .len,args:=#[x],argTypes:=#[t] },ty,pos,aft,gd⟩ (D (xs.length:Int)):=⟨OpD.len⟩
instance {m k:Int} {ts:Array TypeId} [hsx:Has Γ x τ] [hx:ToD τ Int inferInstance m] [hsy:Has Γ y σ] [hy:ToD σ Int inferInstance k]:OpA P B0 Ω Γ ⟨dst,.call { callee:=.builtin .min,args:=#[x,y],argTypes:=ts },ty,pos,aft,gd⟩ (D (min m k)):=⟨OpD.min⟩
instance {m k:Int} {ts:Array TypeId} [hsx:Has Γ x τ] [hx:ToD τ Int inferInstance m] [hsy:Has Γ y σ] [hy:ToD σ Int inferInstance k]:OpA P B0 Ω Γ ⟨dst,.call { callee:=.builtin .max,args:=#[x,y],argTypes:=ts },ty,pos,aft,gd⟩ (D (max m k)):=⟨OpD.max⟩
instance {m:UInt8} [hsx:Has Γ x τ] [hx:AsU8 τ m] [S:TIn P s .u8] [T:TIn P d .i64]:OpA P B0 Ω Γ ⟨dst,.convert s d x,ty,pos,aft,gd⟩ (D (m.toNat:Int)):=⟨OpD.conv8_i⟩
instance {z:Int} [hsx:Has Γ x τ] [hx:AsI τ z] [S:TIn P s .i64] [T:TIn P d .u8]:OpA P B0 Ω Γ ⟨dst,.convert s d x,ty,pos,aft,gd⟩ (U8 (UInt8.ofInt z)):=⟨OpY.convi_8⟩
instance {xs:List α} {l:Int} [Has Γ x τ] [hx:AsL τ α i xs] [Has Γ y σ] [hy:AsIx σ l] [S:TSl P t e] [T:TDat P e α i]:OpB P B0 Ω Γ ⟨dst,.indexAddr t x y,ty,pos,aft,gd⟩ α (idx xs l) ZlO:=⟨fun h=>OpD.index h⟩
instance {xs:List α} {l r:Int} {z:Operand} [hsx:Has Γ x τ] [hx:AsL τ α i xs] [hsy:Has Γ y σ] [hy:AsI σ l] [hsz:Has Γ z ρ] [hz:AsI ρ r] [S:TSl P t e] [T:TDat P e α i]:OpB P B0 Ω Γ ⟨dst,.slice t x (some y) (some z) none,ty,pos,aft,gd⟩ Unit (cut xs.length l r) (fun _=>D ((xs.take r.toNat).drop l.toNat)):=⟨fun h=>OpD.slice2 h⟩
instance {xs:List α} {r:Int} {z:Operand} [hsx:Has Γ x τ] [hx:AsL τ α i xs] [hsz:Has Γ z ρ] [hz:AsI ρ r] [S:TSl P t e] [T:TDat P e α i]:OpB P B0 Ω Γ ⟨dst,.slice t x none (some z) none,ty,pos,aft,gd⟩ Unit (cut xs.length 0 r) (fun _=>D (xs.take r.toNat)):=⟨fun h=>OpD.sliceTo h⟩
instance {xs:List α} {l:Int} [hsx:Has Γ x τ] [hx:AsL τ α i xs] [hsy:Has Γ y σ] [hy:AsI σ l] [S:TSl P t e] [T:TDat P e α i]:OpB P B0 Ω Γ ⟨dst,.slice t x (some y) none none,ty,pos,aft,gd⟩ Unit (cut xs.length l xs.length) (fun _=>D (xs.drop l.toNat)):=⟨fun h=>OpD.sliceFrom h⟩
end ops
class Fn1 (P:Program) (f:FuncId) (α:outParam Type) (i:outParam (Dat α)) (ρ:outParam Type) (g:outParam (α→Option ρ)) (σ:outParam (ρ→Ty)):Prop where
 h:∀ {A:Nat→Prop} {a:α} {r:ρ} (w:World) (v0:Value),(∀ k,w.heap.size≤k→A k)→(D a).p A w v0→g a=some r→Calls P f #[v0] w (Ret A w (σ r))
class Fn2 (P:Program) (f:FuncId) (α:outParam Type) (i:outParam (Dat α)) (β:outParam Type) (j:outParam (Dat β)) (ρ:outParam Type) (g:outParam (α→β→Option ρ)) (σ:outParam (ρ→Ty)):Prop where
 h:∀ {A:Nat→Prop} {a:α} {b:β} {r:ρ} (w:World) (v0 v1:Value),(∀ k,w.heap.size≤k→A k)→(D a).p A w v0→(D b).p A w v1→g a b=some r→Calls P f #[v0,v1] w (Ret A w (σ r))
class Fn3 (P:Program) (f:FuncId) (α:outParam Type) (i:outParam (Dat α)) (β:outParam Type) (j:outParam (Dat β)) (γ:outParam Type) (k:outParam (Dat γ)) (ρ:outParam Type) (g:outParam (α→β→γ→Option ρ)) (σ:outParam (ρ→Ty)):Prop where
 h:∀ {A:Nat→Prop} {a:α} {b:β} {c:γ} {r:ρ} (w:World) (v0 v1 v2:Value),(∀ k,w.heap.size≤k→A k)→(D a).p A w v0→(D b).p A w v1→(D c).p A w v2→g a b c=some r→Calls P f #[v0,v1,v2] w (Ret A w (σ r))
class Fn4 (P:Program) (f:FuncId) (α:outParam Type) (i:outParam (Dat α)) (β:outParam Type) (j:outParam (Dat β)) (γ:outParam Type) (k:outParam (Dat γ)) (δ:outParam Type) (l:outParam (Dat δ)) (ρ:outParam Type) (g:outParam (α→β→γ→δ→Option ρ)) (σ:outParam (ρ→Ty)):Prop where
 h:∀ {A:Nat→Prop} {a:α} {b:β} {c:γ} {d:δ} {r:ρ} (w:World) (v0 v1 v2 v3:Value),(∀ k,w.heap.size≤k→A k)→(D a).p A w v0→(D b).p A w v1→(D c).p A w v2→(D d).p A w v3→g a b c d=some r→Calls P f #[v0,v1,v2,v3] w (Ret A w (σ r))
section calls
variable {P:Program} {B0:Nat} {Ω:List Pe} {Γ:Env} {dst:Option Tmp} {ty:TypeId} {pos:String} {aft:Array Edge} {gd:Option (Nat×Bool)} {f:FuncId} {ts:Array TypeId} {x0 x1 x2 x3:Operand} {τ0 τ1 τ2 τ3 σ0 σ1 σ2 σ3:Ty} {α β γ δ ρ:Type} {i:Dat α} {j:Dat β} {k:Dat γ} {l:Dat δ} {a:α} {b:β} {c:γ} {d:δ} {σ:ρ→Ty} {r:ρ}
instance {g:α→Option ρ} [F:Fun P f] [C:Fn1 P f α i ρ g σ] [h0:Has Γ x0 τ0] [k0:AsT τ0 σ0] [d0:ToD σ0 α i a]:OpB P B0 Ω Γ ⟨dst,.call { callee:=.value (.func f),args:=#[x0],argTypes:=ts },ty,pos,aft,gd⟩ ρ (g a) σ:=
 ⟨fun e=>Zho fun w v0 hA h0=>C.h w v0 hA (toD h0) e⟩
instance {g:α→β→Option ρ} [F:Fun P f] [C:Fn2 P f α i β j ρ g σ] [h0:Has Γ x0 τ0] [k0:AsT τ0 σ0] [d0:ToD σ0 α i a] [h1:Has Γ x1 τ1] [k1:AsT τ1 σ1] [d1:ToD σ1 β j b]:OpB P B0 Ω Γ ⟨dst,.call { callee:=.value (.func f),args:=#[x0,x1],argTypes:=ts },ty,pos,aft,gd⟩ ρ (g a b) σ:=
 ⟨fun e=>ZkC fun w v0 v1 hA h0 h1=>C.h w v0 v1 hA (toD h0) (toD h1) e⟩
instance {g:α→β→γ→Option ρ} [F:Fun P f] [C:Fn3 P f α i β j γ k ρ g σ] [h0:Has Γ x0 τ0] [k0:AsT τ0 σ0] [d0:ToD σ0 α i a] [h1:Has Γ x1 τ1] [k1:AsT τ1 σ1] [d1:ToD σ1 β j b] [h2:Has Γ x2 τ2] [k2:AsT τ2 σ2] [d2:ToD σ2 γ k c]:OpB P B0 Ω Γ ⟨dst,.call { callee:=.value (.func f),args:=#[x0,x1,x2],argTypes:=ts },ty,pos,aft,gd⟩ ρ (g a b c) σ:=
 ⟨fun e=>OpY.call3 fun w v0 v1 v2 hA h0 h1 h2=>C.h w v0 v1 v2 hA (toD h0) (toD h1) (toD h2) e⟩
instance {g:α→β→γ→δ→Option ρ} [F:Fun P f] [C:Fn4 P f α i β j γ k δ l ρ g σ] [h0:Has Γ x0 τ0] [k0:AsT τ0 σ0] [d0:ToD σ0 α i a] [h1:Has Γ x1 τ1] [k1:AsT τ1 σ1] [d1:ToD σ1 β j b] [h2:Has Γ x2 τ2] [k2:AsT τ2 σ2] [d2:ToD σ2 γ k c] [h3:Has Γ x3 τ3] [k3:AsT τ3 σ3] [d3:ToD σ3 δ l d]:OpB P B0 Ω Γ ⟨dst,.call { callee:=.value (.func f),args:=#[x0,x1,x2,x3],argTypes:=ts },ty,pos,aft,gd⟩ ρ (g a b c d) σ:=
 ⟨fun e=>OpY.call4 fun w v0 v1 v2 v3 hA h0 h1 h2 h3=>C.h w v0 v1 v2 v3 hA (toD h0) (toD h1) (toD h2) (toD h3) e⟩
end calls
section st
variable {P:Program} {r:Ref} {B:Nat} {Ωs:List Pe} {ops:Array Oper} {n:Nat} {ms:List Nat} {k:Nat} {Γ Δ:Env} {Ω Ω':List Pe} {F:Fam} {Q:Exit→Act→World→Prop} {K:Env→Fam→Prop}
 {d:Tmp} {op:Op} {ty:TypeId} {pos:String} {aft:Array Edge} {rest:List Oper} {τ σ:Ty} {j:Nat} {want b:Bool} {g:Tmp} {c:Prop} {p:Prop} {x y:Code} {id:Nat} {l:List Oper} {W:Act→World→Prop}
theorem TSA [h:OpA P r.w.heap.size Ω Γ ⟨some d,op,ty,pos,aft,none⟩ τ] (hd:Nat.blt d n=true) (hk:p→TS P r n ops rest (k+1) (Γ.set d τ) Ω Q):p→TS P r n ops (⟨some d,op,ty,pos,aft,none⟩::rest) k Γ Ω Q:=fun H=>Za1 h.h hd (hk H)
theorem TSG (hg:(ops[j]?).bind (·.dst)=some g) [hs:Has Γ (.tmp g) σ] [hb:AsB σ b] (h:Ft (b=want)→OpA P r.w.heap.size Ω Γ ⟨some d,op,ty,pos,aft,some (j,want)⟩ τ) (hd:Nat.blt d n=true) (hk:p→TS P r n ops rest (k+1) (Γ.set d (ZgN (b=want) τ)) Ω Q):p→TS P r n ops (⟨some d,op,ty,pos,aft,some (j,want)⟩::rest) k Γ Ω Q:=
 fun H=>Zk9 g hg (fun hg=>(h hg).h) hd (hk H)
theorem TSH (hg:(ops[j]?).bind (·.dst)=some g) [hs:Has Γ (.tmp g) (ZgN c σ)] [hb:AsB σ b] (h:Ft c→Ft (b=want)→OpA P r.w.heap.size Ω Γ ⟨some d,op,ty,pos,aft,some (j,want)⟩ τ) (hd:Nat.blt d n=true) (hk:p→TS P r n ops rest (k+1) (Γ.set d (ZgN (c∧b=want) τ)) Ω Q):p→TS P r n ops (⟨some d,op,ty,pos,aft,some (j,want)⟩::rest) k Γ Ω Q:=
 fun H=>TS.gg g hg (fun hp hg=>(h hp hg).h) hd (hk H)
theorem TRA [h:OpA P B Ωs Γ ⟨some d,op,ty,pos,aft,none⟩ τ] (hd:(Nat.blt d n && !ms.contains k && !F.tl.contains d)=true) (hk:p→TRw P B Ωs ops n ms (k+1) rest (Γ.set d τ) F K):p→TRw P B Ωs ops n ms k (⟨some d,op,ty,pos,aft,none⟩::rest) Γ F K:=fun H=>Zeq h.h hd (hk H)
theorem TRG (hg:(ops[j]?).bind (·.dst)=some g) [hs:Has Γ (.tmp g) σ] [hb:AsB σ b] (h:Ft (b=want)→OpA P B Ωs Γ ⟨some d,op,ty,pos,aft,some (j,want)⟩ τ) (hd:(Nat.blt d n && !ms.contains k && !F.tl.contains d)=true) (hk:p→TRw P B Ωs ops n ms (k+1) rest (Γ.set d (ZgN (b=want) τ)) F K):p→TRw P B Ωs ops n ms k (⟨some d,op,ty,pos,aft,some (j,want)⟩::rest) Γ F K:=
 fun H=>TR.g g hg (fun hg=>(h hg).h) hd (hk H)
theorem TRH (hg:(ops[j]?).bind (·.dst)=some g) [hs:Has Γ (.tmp g) (ZgN c σ)] [hb:AsB σ b] (h:Ft c→Ft (b=want)→OpA P B Ωs Γ ⟨some d,op,ty,pos,aft,some (j,want)⟩ τ) (hd:(Nat.blt d n && !ms.contains k && !F.tl.contains d)=true) (hk:p→TRw P B Ωs ops n ms (k+1) rest (Γ.set d (ZgN (c∧b=want) τ)) F K):p→TRw P B Ωs ops n ms k (⟨some d,op,ty,pos,aft,some (j,want)⟩::rest) Γ F K:=
 fun H=>TR.gg g hg (fun hp hg=>(h hp hg).h) hd (hk H)
section b
variable {α γ:Type} {v:Option α} {f:α→Option γ} {z:γ} {ζ:α→Ty} {G:Bool}
theorem TSB [h:OpB P r.w.heap.size Ω Γ ⟨some d,op,ty,pos,aft,none⟩ α v ζ] (hd:Nat.blt d n=true) (hk:∀ a,FtE v a→f a=some z→TS P r n ops rest (k+1) (Γ.set d (ζ a)) Ω Q):v.bind f=some z→TS P r n ops (⟨some d,op,ty,pos,aft,none⟩::rest) k Γ Ω Q:=fun H=>let ⟨a,e,H⟩:=bnd H;Za1 (h.h e) hd (hk a ⟨e⟩ H)
theorem TSGB [Inhabited α] (hg:(ops[j]?).bind (·.dst)=some g) [hs:Has Γ (.tmp g) σ] [hb:AsB σ b] (h:Ft (b=want)→OpB P r.w.heap.size Ω Γ ⟨some d,op,ty,pos,aft,some (j,want)⟩ α v ζ) (ht:Ft (b=want)→FtT G) (hd:Nat.blt d n=true) (hk:∀ a,FtG v G a→f a=some z→TS P r n ops rest (k+1) (Γ.set d (ZgN (b=want) (ζ a))) Ω Q):(gb G v).bind f=some z→TS P r n ops (⟨some d,op,ty,pos,aft,some (j,want)⟩::rest) k Γ Ω Q:=
 fun H=>let ⟨a,e,H⟩:=bnd H;Zk9 g hg (fun hg=>(h hg).h (Zbx e (ht hg).h)) hd (hk a ⟨e⟩ H)
theorem TSHB [Inhabited α] (hg:(ops[j]?).bind (·.dst)=some g) [hs:Has Γ (.tmp g) (ZgN c σ)] [hb:AsB σ b] (h:Ft c→Ft (b=want)→OpB P r.w.heap.size Ω Γ ⟨some d,op,ty,pos,aft,some (j,want)⟩ α v ζ) (ht:Ft c→Ft (b=want)→FtT G) (hd:Nat.blt d n=true) (hk:∀ a,FtG v G a→f a=some z→TS P r n ops rest (k+1) (Γ.set d (ZgN (c∧b=want) (ζ a))) Ω Q):(gb G v).bind f=some z→TS P r n ops (⟨some d,op,ty,pos,aft,some (j,want)⟩::rest) k Γ Ω Q:=
 fun H=>let ⟨a,e,H⟩:=bnd H;TS.gg g hg (fun hp hg=>(h hp hg).h (Zbx e (ht hp hg).h)) hd (hk a ⟨e⟩ H)
theorem TRB [h:OpB P B Ωs Γ ⟨some d,op,ty,pos,aft,none⟩ α v ζ] (hd:(Nat.blt d n && !ms.contains k && !F.tl.contains d)=true) (hk:∀ a,FtE v a→f a=some z→TRw P B Ωs ops n ms (k+1) rest (Γ.set d (ζ a)) F K):v.bind f=some z→TRw P B Ωs ops n ms k (⟨some d,op,ty,pos,aft,none⟩::rest) Γ F K:=fun H=>let ⟨a,e,H⟩:=bnd H;Zeq (h.h e) hd (hk a ⟨e⟩ H)
theorem TRGB [Inhabited α] (hg:(ops[j]?).bind (·.dst)=some g) [hs:Has Γ (.tmp g) σ] [hb:AsB σ b] (h:Ft (b=want)→OpB P B Ωs Γ ⟨some d,op,ty,pos,aft,some (j,want)⟩ α v ζ) (ht:Ft (b=want)→FtT G) (hd:(Nat.blt d n && !ms.contains k && !F.tl.contains d)=true) (hk:∀ a,FtG v G a→f a=some z→TRw P B Ωs ops n ms (k+1) rest (Γ.set d (ZgN (b=want) (ζ a))) F K):(gb G v).bind f=some z→TRw P B Ωs ops n ms k (⟨some d,op,ty,pos,aft,some (j,want)⟩::rest) Γ F K:=
 fun H=>let ⟨a,e,H⟩:=bnd H;TR.g g hg (fun hg=>(h hg).h (Zbx e (ht hg).h)) hd (hk a ⟨e⟩ H)
theorem TRHB [Inhabited α] (hg:(ops[j]?).bind (·.dst)=some g) [hs:Has Γ (.tmp g) (ZgN c σ)] [hb:AsB σ b] (h:Ft c→Ft (b=want)→OpB P B Ωs Γ ⟨some d,op,ty,pos,aft,some (j,want)⟩ α v ζ) (ht:Ft c→Ft (b=want)→FtT G) (hd:(Nat.blt d n && !ms.contains k && !F.tl.contains d)=true) (hk:∀ a,FtG v G a→f a=some z→TRw P B Ωs ops n ms (k+1) rest (Γ.set d (ZgN (c∧b=want) (ζ a))) F K):(gb G v).bind f=some z→TRw P B Ωs ops n ms k (⟨some d,op,ty,pos,aft,some (j,want)⟩::rest) Γ F K:=
 fun H=>let ⟨a,e,H⟩:=bnd H;TR.gg g hg (fun hp hg=>(h hp hg).h (Zbx e (ht hp hg).h)) hd (hk a ⟨e⟩ H)
theorem uSB {a:α} (e:FtE v a) [h:OpB P r.w.heap.size Ω Γ ⟨some d,op,ty,pos,aft,none⟩ α v ζ] (hd:Nat.blt d n=true) (hk:p→TS P r n ops rest (k+1) (Γ.set d (ζ a)) Ω Q):p→TS P r n ops (⟨some d,op,ty,pos,aft,none⟩::rest) k Γ Ω Q:=fun H=>Za1 (h.h e.h) hd (hk H)
theorem uRB {a:α} (e:FtE v a) [h:OpB P B Ωs Γ ⟨some d,op,ty,pos,aft,none⟩ α v ζ] (hd:(Nat.blt d n && !ms.contains k && !F.tl.contains d)=true) (hk:p→TRw P B Ωs ops n ms (k+1) rest (Γ.set d (ζ a)) F K):p→TRw P B Ωs ops n ms k (⟨some d,op,ty,pos,aft,none⟩::rest) Γ F K:=fun H=>Zeq (h.h e.h) hd (hk H)
theorem uSG [Inhabited α] {a:α} (e:FtG v G a) (hg:(ops[j]?).bind (·.dst)=some g) [hs:Has Γ (.tmp g) σ] [hb:AsB σ b] (h:Ft (b=want)→OpB P r.w.heap.size Ω Γ ⟨some d,op,ty,pos,aft,some (j,want)⟩ α v ζ) (ht:Ft (b=want)→FtT G) (hd:Nat.blt d n=true) (hk:p→TS P r n ops rest (k+1) (Γ.set d (ZgN (b=want) (ζ a))) Ω Q):p→TS P r n ops (⟨some d,op,ty,pos,aft,some (j,want)⟩::rest) k Γ Ω Q:=
 fun H=>Zk9 g hg (fun hg=>(h hg).h (Zbx e.h (ht hg).h)) hd (hk H)
theorem uSH [Inhabited α] {a:α} (e:FtG v G a) (hg:(ops[j]?).bind (·.dst)=some g) [hs:Has Γ (.tmp g) (ZgN c σ)] [hb:AsB σ b] (h:Ft c→Ft (b=want)→OpB P r.w.heap.size Ω Γ ⟨some d,op,ty,pos,aft,some (j,want)⟩ α v ζ) (ht:Ft c→Ft (b=want)→FtT G) (hd:Nat.blt d n=true) (hk:p→TS P r n ops rest (k+1) (Γ.set d (ZgN (c∧b=want) (ζ a))) Ω Q):p→TS P r n ops (⟨some d,op,ty,pos,aft,some (j,want)⟩::rest) k Γ Ω Q:=
 fun H=>TS.gg g hg (fun hp hg=>(h hp hg).h (Zbx e.h (ht hp hg).h)) hd (hk H)
theorem uRG [Inhabited α] {a:α} (e:FtG v G a) (hg:(ops[j]?).bind (·.dst)=some g) [hs:Has Γ (.tmp g) σ] [hb:AsB σ b] (h:Ft (b=want)→OpB P B Ωs Γ ⟨some d,op,ty,pos,aft,some (j,want)⟩ α v ζ) (ht:Ft (b=want)→FtT G) (hd:(Nat.blt d n && !ms.contains k && !F.tl.contains d)=true) (hk:p→TRw P B Ωs ops n ms (k+1) rest (Γ.set d (ZgN (b=want) (ζ a))) F K):p→TRw P B Ωs ops n ms k (⟨some d,op,ty,pos,aft,some (j,want)⟩::rest) Γ F K:=
 fun H=>TR.g g hg (fun hg=>(h hg).h (Zbx e.h (ht hg).h)) hd (hk H)
theorem uRH [Inhabited α] {a:α} (e:FtG v G a) (hg:(ops[j]?).bind (·.dst)=some g) [hs:Has Γ (.tmp g) (ZgN c σ)] [hb:AsB σ b] (h:Ft c→Ft (b=want)→OpB P B Ωs Γ ⟨some d,op,ty,pos,aft,some (j,want)⟩ α v ζ) (ht:Ft c→Ft (b=want)→FtT G) (hd:(Nat.blt d n && !ms.contains k && !F.tl.contains d)=true) (hk:p→TRw P B Ωs ops n ms (k+1) rest (Γ.set d (ZgN (c∧b=want) (ζ a))) F K):p→TRw P B Ωs ops n ms k (⟨some d,op,ty,pos,aft,some (j,want)⟩::rest) Γ F K:=
 fun H=>TR.gg g hg (fun hp hg=>(h hp hg).h (Zbx e.h (ht hp hg).h)) hd (hk H)
end b
theorem tN (h:p→TC P r n Γ Ω y Q):p→TS P r n ops [] k Γ Ω (Exit.then (y.wpIn (FR r.ρ) 0 P Q) Q):=fun H=>TS.nil (Zan (h H))
theorem tNil (h:p→TE r n Γ Ω Q .normal):p→TS P r n ops [] k Γ Ω Q:=fun H=>TS.nil (h H)
theorem tSq (h:p→TS P r n l.toArray l 0 Γ Ω (Exit.then (y.wpIn (FR r.ρ) 0 P Q) Q)):p→TC P r n Γ Ω (.seq (.region id l.toArray false) y) Q:=fun H=>TC.seqS (h H)
theorem tRg (h:p→TS P r n l.toArray l 0 Γ Ω Q):p→TC P r n Γ Ω (.region id l.toArray false) Q:=fun H=>TC.regionS (h H)
theorem tDq (hm:P.follows .mixedOrders=true) [op:Opens r] (hB:Region.lexB .any l.toArray=true) (h:p→TRw P r.w.heap.size Ω l.toArray n [] 0 l Γ (Fam.one []) fun Γ' _=>TC P r n Γ' Ω y Q):p→TC P r n Γ Ω (.seq (.region id l.toArray true) y) Q:=fun H=>TC.seqD0 hm hB (h H)
theorem tSeq (h:p→TC P r n Γ Ω x (Exit.then (y.wpIn (FR r.ρ) 0 P Q) Q)):p→TC P r n Γ Ω (.seq x y) Q:=fun H=>Zau (h H)
theorem tThen (h:p→TC P r n Γ Ω y Q):p→TE r n Γ Ω (Exit.then (y.wpIn (FR r.ρ) 0 P Q) Q) .normal:=fun H=>Zan (h H)
theorem tSkip (h:p→TE r n Γ Ω Q .normal):p→TC P r n Γ Ω .skip Q:=fun H=>Zaw (h H)
theorem tRet (h:p→TE r n Γ Ω Q .ret):p→TC P r n Γ Ω .ret Q:=fun H=>ZL (h H)
theorem tRt (h:p→TE r n Γ Ω Q .ret):p→TE r n Γ Ω (Exit.then W Q) .ret:=fun H=>Zg (h H)
theorem tRi (h:p→TE r n Γ Ω Q .ret):p→TE r n Γ Ω (Exit.inBlock id Q) .ret:=fun H=>Zf (h H)
theorem tNi (h:p→TE r n Γ Ω Q .normal):p→TE r n Γ Ω (Exit.inBlock id Q) .normal:=fun H=>ZeM (h H)
theorem tBk (h:p→TC P r n Γ Ω y (Exit.inBlock id Q)):p→TC P r n Γ Ω (.block id y) Q:=fun H=>Zp (h H)
theorem tRn (h:p→K Γ F):p→TRw P B Ωs ops n ms k [] Γ F K:=fun H=>TR.nil (h H)
theorem tXt (h:p→TE r n Γ Ω Q (.exit id)):p→TE r n Γ Ω (Exit.then W Q) (.exit id):=fun H=>ZiA (h H)
theorem tEx (h:p→TE r n Γ Ω Q (.exit id)):p→TC P r n Γ Ω (.exit id) Q:=fun H=>TC.exit (h H)
theorem tXe {σ ν:Type} {pp:σ→Prop} {Δ:σ→ν→Env} {J:σ→ν→List Pe} (h:p→TE r n Γ Ω Q (.exit id)):p→TE r n Γ Ω (CutQ r n pp Δ J Q) (.exit id):=fun H=>TE.cut_exit (h H)
theorem tCr {σ ν:Type} {pp:σ→Prop} {Δ:σ→ν→Env} {J:σ→ν→List Pe} (h:p→TE r n Γ Ω Q .ret):p→TE r n Γ Ω (CutQ r n pp Δ J Q) .ret:=fun H=>Zs (h H)
theorem tXh (h:p→TE r n Γ Ω Q .normal):p→TE r n Γ Ω (Exit.inBlock id Q) (.exit id):=fun H=>ZiB (h H)
theorem tXo {id':Nat} (hne:(id' == id)=false) (h:p→TE r n Γ Ω Q (.exit id')):p→TE r n Γ Ω (Exit.inBlock id Q) (.exit id'):=fun H=>ZlN hne (h H)
theorem TSW [op:Opens r] {t:TypeId} {v x:Operand} {α:Type} {i:Dat α} {bl o:Nat} {pr:Prop} {C:Ct} {Ωr:List Pe} {u y:α} {upd:α→Ct} [hp:Has Γ v τ] [q:AsPq τ bl o pr] [pk:Pick Ω bl pr C Ωr] [hx:Has Γ x σ] [T:TDat P t α i] [hy:ToD σ α i y] [pl:PlO C o α i u upd]
  (hk:p→TS P r n ops rest (k+1) Γ (⟨bl,pr,upd y⟩::Ωr) Q):p→TS P r n ops (⟨none,.store t v x,ty,pos,aft,none⟩::rest) k Γ Ω Q:=fun H=>Zbj (Zw pl.h) (hk H)
theorem tBox [op:Opens r] {t:TypeId} {x:Operand} {α:Type} {i:Dat α} {y:α} [T:TDat P t α i] [hx:Has Γ x τ] [hy:ToD τ α i y] (hd:Nat.blt d n=true) (hk:∀ b,p→TS P r n ops rest (k+1) (Γ.set d (Pt b 0)) (⟨b,True,One y⟩::Ω) Q):p→TS P r n ops (⟨some d,.box t x,ty,pos,aft,none⟩::rest) k Γ Ω Q:=fun H=>TS.box hd fun b=>hk b H
theorem tAl [op:Opens r] {t:TypeId} {α:Type} {i:Dat α} {bt:Nat} [T:TEl P t α i bt] (hd:Nat.blt d n=true) (hk:∀ b,p→TS P r n ops rest (k+1) (Γ.set d (Pt b 0)) (⟨b,True,One (Dat.z:α)⟩::Ω) Q):p→TS P r n ops (⟨some d,.alloc t,ty,pos,aft,none⟩::rest) k Γ Ω Q:=fun H=>TS.alloc hd fun b=>hk b H
theorem gS {o:Oper} (h:p→TS P r n ops (o::rest) k Γ Ω Q):p→TS P r n ops (o::rest) k Γ Ω Q:=h
theorem gR {o:Oper} (h:p→TRw P B Ωs ops n ms k (o::rest) Γ F K):p→TRw P B Ωs ops n ms k (o::rest) Γ F K:=h
theorem gD (h:p→TC P r n Γ Ω (.seq (.region id l.toArray true) y) Q):p→TC P r n Γ Ω (.seq (.region id l.toArray true) y) Q:=h
theorem gE {e:Exit} (h:p→TE r n Γ Ω Q e):p→TE r n Γ Ω Q e:=h
theorem bS {α β:Type} {a:α} {f:α→Option β} {z:β} (k:f a=some z→p):(some a).bind f=some z→p:=k
theorem cI {o:Operand} {α:Type} {u v:Option α} {z:α} [hc:Has Γ o τ] [hb:AsB τ b] (h1:b=true→u=some z→TC P r n Γ Ω x Q) (h2:b=false→v=some z→TC P r n Γ Ω y Q):(bif b then u else v)=some z→TC P r n Γ Ω (.cond o x y) Q:=
 fun H=>Zgk (fun hc=>h1 hc (cT H hc)) fun hc=>h2 hc (cF H hc)
class CvL (τs σs:List Ty):Prop where
 h:LeAll τs σs
instance :CvL [] []:=⟨.nil⟩
instance {τ σ:Ty} {τs σs:List Ty} [c:Cv τ σ] [k:CvL τs σs]:CvL (τ::τs) (σ::σs):=⟨.cons c.le k.h⟩
end st
abbrev Fd1 (f:FuncId) {α ρ:Type} [i:Dat α] (g:α→Option ρ) (σ:ρ→Ty):Prop:=Fn1 Tryz.prog f α i ρ g σ
abbrev Fd2 (f:FuncId) {α β ρ:Type} [i:Dat α] [j:Dat β] (g:α→β→Option ρ) (σ:ρ→Ty):Prop:=Fn2 Tryz.prog f α i β j ρ g σ
abbrev Fd3 (f:FuncId) {α β γ ρ:Type} [i:Dat α] [j:Dat β] [k:Dat γ] (g:α→β→γ→Option ρ) (σ:ρ→Ty):Prop:=Fn3 Tryz.prog f α i β j γ k ρ g σ
abbrev Fd4 (f:FuncId) {α β γ δ ρ:Type} [i:Dat α] [j:Dat β] [k:Dat γ] [l:Dat δ] (g:α→β→γ→δ→Option ρ) (σ:ρ→Ty):Prop:=Fn4 Tryz.prog f α i β j γ k δ l ρ g σ
section en
variable {f:FuncId} {fn:Func} {n:Nat} {c:Code} {α β γ δ ρ:Type} [i:Dat α] [j:Dat β] [k:Dat γ] [l:Dat δ] {σ:ρ→Ty}
theorem en1 {g:α→Option ρ} (hf:Tryz.prog.funcs[f]?=some fn) (hb:fn.body=some c) (hn:fn.ntmps=n)
 (h:∀ (A:Nat→Prop) (w:World) (hA:∀ k,w.heap.size≤k→A k) (a:α) (r:ρ),g a=some r→TC Tryz.prog (Zja A w hA) n (Env.set Env.nil 0 (D a)) [] c (bodyPost Tryz.prog fn (Ret A w (σ r)))) (hl:Nat.ble 1 n=true:=by rfl):Fd1 f g σ:=
 ⟨fun w v0 hA h0 H=>enter1 hA hf hb hn hl h0 (h _ w hA _ _ H)⟩
theorem en2 {g:α→β→Option ρ} (hf:Tryz.prog.funcs[f]?=some fn) (hb:fn.body=some c) (hn:fn.ntmps=n)
 (h:∀ (A:Nat→Prop) (w:World) (hA:∀ k,w.heap.size≤k→A k) (a:α) (b:β) (r:ρ),g a b=some r→TC Tryz.prog (Zja A w hA) n (Env.set (Env.set Env.nil 0 (D a)) 1 (D b)) [] c (bodyPost Tryz.prog fn (Ret A w (σ r)))) (hl:Nat.ble 2 n=true:=by rfl):Fd2 f g σ:=
 ⟨fun w v0 v1 hA h0 h1 H=>enter2 hA hf hb hn hl h0 h1 (h _ w hA _ _ _ H)⟩
theorem en3 {g:α→β→γ→Option ρ} (hf:Tryz.prog.funcs[f]?=some fn) (hb:fn.body=some c) (hn:fn.ntmps=n)
 (h:∀ (A:Nat→Prop) (w:World) (hA:∀ k,w.heap.size≤k→A k) (a:α) (b:β) (c0:γ) (r:ρ),g a b c0=some r→TC Tryz.prog (Zja A w hA) n (Env.set (Env.set (Env.set Env.nil 0 (D a)) 1 (D b)) 2 (D c0)) [] c (bodyPost Tryz.prog fn (Ret A w (σ r)))) (hl:Nat.ble 3 n=true:=by rfl):Fd3 f g σ:=
 ⟨fun w v0 v1 v2 hA h0 h1 h2 H=>enter3 hA hf hb hn hl h0 h1 h2 (h _ w hA _ _ _ _ H)⟩
theorem en4 {g:α→β→γ→δ→Option ρ} (hf:Tryz.prog.funcs[f]?=some fn) (hb:fn.body=some c) (hn:fn.ntmps=n)
 (h:∀ (A:Nat→Prop) (w:World) (hA:∀ k,w.heap.size≤k→A k) (a:α) (b:β) (c0:γ) (d:δ) (r:ρ),g a b c0 d=some r→TC Tryz.prog (Zja A w hA) n (Env.set (Env.set (Env.set (Env.set Env.nil 0 (D a)) 1 (D b)) 2 (D c0)) 3 (D d)) [] c (bodyPost Tryz.prog fn (Ret A w (σ r)))) (hl:Nat.ble 4 n=true:=by rfl):Fd4 f g σ:=
 ⟨fun w v0 v1 v2 v3 hA h0 h1 h2 h3 H=>enter4 hA hf hb hn hl h0 h1 h2 h3 (h _ w hA _ _ _ _ _ H)⟩
end en
theorem zY {p q:Prop} (H:p) (h:p→q:=by
 repeat' (first
  | ((with_reducible refine gS ?_);(first | refine TSA rfl ?_ | refine TSB rfl fun _ _=>?_ | refine TSG rfl (fun _=>inferInstance) rfl ?_ | refine TSGB rfl (fun _=>inferInstance) (fun _=>inferInstance) rfl fun _ _=>?_ | refine TSH rfl (fun _ _=>inferInstance) rfl ?_ | refine TSH rfl (fun h _=>haveI:=Ft.l h;haveI:=Ft.r h;inferInstance) rfl ?_ | refine TSHB rfl (fun _ _=>inferInstance) (fun _ _=>inferInstance) rfl fun _ _=>?_ | refine TSW ?_ | refine tBox rfl fun _=>?_ | refine tAl rfl fun _=>?_))
  | with_reducible refine tN ?_
  | with_reducible refine tSq ?_
  | with_reducible refine bS ?_
  | with_reducible refine cI (fun _=>?_) (fun _=>?_)
  | ((with_reducible refine gD ?_);refine tDq mix (by kernel_rfl) ?_)
  | with_reducible refine tSeq ?_
  | with_reducible refine tThen ?_
  | with_reducible refine tSkip ?_
  | with_reducible refine tRet ?_
  | with_reducible refine tRt ?_
  | with_reducible refine tRi ?_
  | with_reducible refine tNi ?_
  | with_reducible refine tBk ?_
  | ((with_reducible refine gR ?_);(first | refine TRA rfl ?_ | refine TRB rfl fun _ _=>?_ | refine TRG rfl (fun _=>inferInstance) rfl ?_ | refine TRGB rfl (fun _=>inferInstance) (fun _=>inferInstance) rfl fun _ _=>?_ | refine TRH rfl (fun _ _=>inferInstance) rfl ?_ | refine TRHB rfl (fun _ _=>inferInstance) (fun _ _=>inferInstance) rfl fun _ _=>?_))
  | with_reducible refine tRn ?_
  | with_reducible refine tNil ?_
  | with_reducible refine tRg ?_
  | ((with_reducible refine gE ?_);intro h;obtain rfl:=ZZi h;first | exact ZaV rfl Cv.le | exact ZeL rfl rfl CvL.h))):q:=h H
theorem zg {m q:Prop} (k:q) (h:q→True→m:=by
 intro k
 repeat (first
  | ((with_reducible refine gS ?_);(first | refine TSA rfl ?_ | refine TSG rfl (fun _=>inferInstance) rfl ?_ | refine TSH rfl (fun _ _=>inferInstance) rfl ?_ | refine TSH rfl (fun h _=>haveI:=Ft.l h;haveI:=Ft.r h;inferInstance) rfl ?_ | refine TSW ?_))
  | with_reducible refine tN ?_
  | with_reducible refine tSq ?_
  | ((with_reducible refine gD ?_);refine tDq mix (by kernel_rfl) ?_)
  | with_reducible refine tSeq ?_
  | with_reducible refine tThen ?_
  | with_reducible refine tSkip ?_
  | with_reducible refine tRet ?_
  | with_reducible refine tRt ?_
  | with_reducible refine tRi ?_
  | with_reducible refine tNi ?_
  | with_reducible refine tBk ?_
  | ((with_reducible refine gR ?_);(first | refine TRA rfl ?_ | refine TRG rfl (fun _=>inferInstance) rfl ?_ | refine TRH rfl (fun _ _=>inferInstance) rfl ?_))
  | with_reducible refine tRn ?_
  | with_reducible refine tNil ?_
  | with_reducible refine tRg ?_
  | with_reducible refine tXt ?_
  | with_reducible refine tXe ?_
  | with_reducible refine tCr ?_
  | with_reducible refine tEx ?_
  | with_reducible refine tXh ?_
  | (with_reducible refine tXo rfl ?_))
 exact fun _=>k):m:=h k trivial
theorem zX {m p q:Prop} (f:m→p) (k:q) (h:q→True→m:=by
 intro k
 repeat (first
  | ((with_reducible refine gS ?_);(first | refine TSA rfl ?_ | refine TSG rfl (fun _=>inferInstance) rfl ?_ | refine TSH rfl (fun _ _=>inferInstance) rfl ?_ | refine TSH rfl (fun h _=>haveI:=Ft.l h;haveI:=Ft.r h;inferInstance) rfl ?_ | refine TSW ?_))
  | with_reducible refine tN ?_
  | with_reducible refine tSq ?_
  | ((with_reducible refine gD ?_);refine tDq mix (by kernel_rfl) ?_)
  | with_reducible refine tSeq ?_
  | with_reducible refine tThen ?_
  | with_reducible refine tSkip ?_
  | with_reducible refine tRet ?_
  | with_reducible refine tRt ?_
  | with_reducible refine tRi ?_
  | with_reducible refine tNi ?_
  | with_reducible refine tBk ?_
  | ((with_reducible refine gR ?_);(first | refine TRA rfl ?_ | refine TRG rfl (fun _=>inferInstance) rfl ?_ | refine TRH rfl (fun _ _=>inferInstance) rfl ?_))
  | with_reducible refine tRn ?_
  | with_reducible refine tNil ?_
  | with_reducible refine tRg ?_
  | with_reducible refine tXt ?_
  | with_reducible refine tXe ?_
  | with_reducible refine tCr ?_
  | with_reducible refine tEx ?_
  | with_reducible refine tXh ?_
  | (with_reducible refine tXo rfl ?_))
 exact fun _=>k):p:=f (h k trivial)
theorem zb {α β:Type} {x:Option α} {f:α→Option β} {z:β} {p:Prop} {q:α→Prop} (H:x.bind f=some z) (k:∀ a,FtE x a→f a=some z→q a) (h:∀ a,FtE x a→q a→True→p:=by
 intro a e k
 (first | refine uSB e rfl ?_ | refine uRB e rfl ?_)
 repeat (first
  | ((with_reducible refine gS ?_);(first | refine TSA rfl ?_ | refine TSG rfl (fun _=>inferInstance) rfl ?_ | refine TSH rfl (fun _ _=>inferInstance) rfl ?_ | refine TSH rfl (fun h _=>haveI:=Ft.l h;haveI:=Ft.r h;inferInstance) rfl ?_ | refine TSW ?_))
  | with_reducible refine tN ?_
  | with_reducible refine tSq ?_
  | ((with_reducible refine gD ?_);refine tDq mix (by kernel_rfl) ?_)
  | with_reducible refine tSeq ?_
  | with_reducible refine tThen ?_
  | with_reducible refine tSkip ?_
  | with_reducible refine tRet ?_
  | with_reducible refine tRt ?_
  | with_reducible refine tRi ?_
  | with_reducible refine tNi ?_
  | with_reducible refine tBk ?_
  | ((with_reducible refine gR ?_);(first | refine TRA rfl ?_ | refine TRG rfl (fun _=>inferInstance) rfl ?_ | refine TRH rfl (fun _ _=>inferInstance) rfl ?_))
  | with_reducible refine tRn ?_
  | with_reducible refine tNil ?_
  | with_reducible refine tRg ?_
  | with_reducible refine tXt ?_
  | with_reducible refine tXe ?_
  | with_reducible refine tCr ?_
  | with_reducible refine tEx ?_
  | with_reducible refine tXh ?_
  | (with_reducible refine tXo rfl ?_))
 exact fun _=>k):p:=let ⟨a,e,H⟩:=bnd H;h a ⟨e⟩ (k a ⟨e⟩ H) trivial
theorem zd {α β:Type} [Inhabited α] {g:Bool} {x:Option α} {f:α→Option β} {z:β} {p:Prop} {q:α→Prop} (H:(gb g x).bind f=some z) (k:∀ a,FtG x g a→f a=some z→q a) (h:∀ a,FtG x g a→q a→True→p:=by
 intro a e k
 (first | refine uSG e rfl (fun _=>inferInstance) (fun _=>inferInstance) rfl ?_ | refine uRG e rfl (fun _=>inferInstance) (fun _=>inferInstance) rfl ?_ | refine uSH e rfl (fun _ _=>inferInstance) (fun _ _=>inferInstance) rfl ?_ | refine uRH e rfl (fun _ _=>inferInstance) (fun _ _=>inferInstance) rfl ?_)
 repeat (first
  | ((with_reducible refine gS ?_);(first | refine TSA rfl ?_ | refine TSG rfl (fun _=>inferInstance) rfl ?_ | refine TSH rfl (fun _ _=>inferInstance) rfl ?_ | refine TSH rfl (fun h _=>haveI:=Ft.l h;haveI:=Ft.r h;inferInstance) rfl ?_ | refine TSW ?_))
  | with_reducible refine tN ?_
  | with_reducible refine tSq ?_
  | ((with_reducible refine gD ?_);refine tDq mix (by kernel_rfl) ?_)
  | with_reducible refine tSeq ?_
  | with_reducible refine tThen ?_
  | with_reducible refine tSkip ?_
  | with_reducible refine tRet ?_
  | with_reducible refine tRt ?_
  | with_reducible refine tRi ?_
  | with_reducible refine tNi ?_
  | with_reducible refine tBk ?_
  | ((with_reducible refine gR ?_);(first | refine TRA rfl ?_ | refine TRG rfl (fun _=>inferInstance) rfl ?_ | refine TRH rfl (fun _ _=>inferInstance) rfl ?_))
  | with_reducible refine tRn ?_
  | with_reducible refine tNil ?_
  | with_reducible refine tRg ?_
  | with_reducible refine tXt ?_
  | with_reducible refine tXe ?_
  | with_reducible refine tCr ?_
  | with_reducible refine tEx ?_
  | with_reducible refine tXh ?_
  | (with_reducible refine tXo rfl ?_))
 exact fun _=>k):p:=let ⟨a,e,H⟩:=bnd H;h a ⟨e⟩ (k a ⟨e⟩ H) trivial
theorem zo {α β:Type} {x:Option α} {f:α→Option β} {z:β} {p:Prop} {q:α→Prop} (H:x.bind f=some z) (k:∀ a,FtE x a→f a=some z→q a) (h:∀ a,FtE x a→q a→True→p:=by
 intro a e k
 (first | refine uSB e rfl ?_ | refine uRB e rfl ?_)
 exact fun _=>k):p:=let ⟨a,e,H⟩:=bnd H;h a ⟨e⟩ (k a ⟨e⟩ H) trivial
theorem zp {α β:Type} [Inhabited α] {g:Bool} {x:Option α} {f:α→Option β} {z:β} {p:Prop} {q:α→Prop} (H:(gb g x).bind f=some z) (k:∀ a,FtG x g a→f a=some z→q a) (h:∀ a,FtG x g a→q a→True→p:=by
 intro a e k
 (first | refine uSG e rfl (fun _=>inferInstance) (fun _=>inferInstance) rfl ?_ | refine uRG e rfl (fun _=>inferInstance) (fun _=>inferInstance) rfl ?_ | refine uSH e rfl (fun _ _=>inferInstance) (fun _ _=>inferInstance) rfl ?_ | refine uRH e rfl (fun _ _=>inferInstance) (fun _ _=>inferInstance) rfl ?_)
 exact fun _=>k):p:=let ⟨a,e,H⟩:=bnd H;h a ⟨e⟩ (k a ⟨e⟩ H) trivial
theorem zh {α β:Type} {x:Option α} {f:α→Option β} {z:β} {p:Prop} (H:x.bind f=some z) (k:∀ a,x=some a→f a=some z→p):p:=let ⟨a,e,H⟩:=bnd H;k a e H
theorem zn {α β:Type} {x:Option α} {f:α→Option β} {z:β} {p:Prop} (H:x.bind f=some z) (k:∀ a,FtE x a→f a=some z→p):p:=let ⟨a,e,H⟩:=bnd H;k a ⟨e⟩ H
theorem zm {α β:Type} [Inhabited α] {g:Bool} {x:Option α} {f:α→Option β} {z:β} {p:Prop} (H:(gb g x).bind f=some z) (k:∀ a,FtG x g a→f a=some z→p):p:=let ⟨a,e,H⟩:=bnd H;k a ⟨e⟩ H
theorem zc {P:Program} {r:Ref} {n:Nat} {Γ:Env} {Ω:List Pe} {Q:Exit→Act→World→Prop} {o:Operand} {x y:Code} {τ:Ty} {b:Bool} {α:Type} {u v:Option α} {z:α} (H:(bif b then u else v)=some z) [hc:Has Γ o τ] [hb:AsB τ b] (k1:b=true→u=some z→TC P r n Γ Ω x Q) (k2:b=false→v=some z→TC P r n Γ Ω y Q):TC P r n Γ Ω (.cond o x y) Q:=Zgk (fun hc=>k1 hc (cT H hc)) fun hc=>k2 hc (cF H hc)
theorem zC {m q:Prop} (k:q) (h:q→True→m:=by
 intro k
 repeat (first
  | with_reducible refine tSq ?_
  | ((with_reducible refine gD ?_);refine tDq mix (by kernel_rfl) ?_)
  | with_reducible refine tRg ?_
  | with_reducible refine tSeq ?_
  | with_reducible refine tThen ?_
  | with_reducible refine tSkip ?_
  | with_reducible refine tNi ?_
  | with_reducible refine tBk ?_)
 repeat (first
  | ((with_reducible refine gS ?_);(first | refine TSA rfl ?_ | refine TSG rfl (fun _=>inferInstance) rfl ?_ | refine TSH rfl (fun _ _=>inferInstance) rfl ?_ | refine TSH rfl (fun h _=>haveI:=Ft.l h;haveI:=Ft.r h;inferInstance) rfl ?_ | refine TSW ?_))
  | ((with_reducible refine gR ?_);(first | refine TRA rfl ?_ | refine TRG rfl (fun _=>inferInstance) rfl ?_ | refine TRH rfl (fun _ _=>inferInstance) rfl ?_)))
 (first | with_reducible refine tN ?_ | with_reducible refine tRn ?_)
 exact fun _=>k):m:=h k trivial
theorem zE {m q:Prop} (k:q) (h:q→True→m:=by
 intro k
 repeat (first
  | with_reducible refine tSq ?_
  | ((with_reducible refine gD ?_);refine tDq mix (by kernel_rfl) ?_)
  | with_reducible refine tRg ?_
  | with_reducible refine tSeq ?_
  | with_reducible refine tThen ?_
  | with_reducible refine tSkip ?_
  | with_reducible refine tNi ?_
  | with_reducible refine tBk ?_)
 repeat (first
  | ((with_reducible refine gS ?_);(first | refine TSA rfl ?_ | refine TSG rfl (fun _=>inferInstance) rfl ?_ | refine TSH rfl (fun _ _=>inferInstance) rfl ?_ | refine TSH rfl (fun h _=>haveI:=Ft.l h;haveI:=Ft.r h;inferInstance) rfl ?_ | refine TSW ?_))
  | ((with_reducible refine gR ?_);(first | refine TRA rfl ?_ | refine TRG rfl (fun _=>inferInstance) rfl ?_ | refine TRH rfl (fun _ _=>inferInstance) rfl ?_)))
 with_reducible refine tNil ?_
 exact fun _=>k):m:=h k trivial
def CO1 (f:FuncId) (Ωt:List Pe) (τ0:Ty) {ν:Type} (τ:ν→Ty) (Ω':ν→List Pe):Prop:=∀ {A:Nat→Prop} (w:World) (v0:Value),(∀ k,w.heap.size≤k→A k)→OwnIn A Ωt→ZfD Ωt→Pks (Pub A Ωt) Ωt w→τ0.p (Pub A Ωt) w v0→Calls Tryz.prog f #[v0] w (Zld A w Ωt τ Ω')
theorem eO1 {f:FuncId} {fn:Func} {n:Nat} {c:Code} {Ωt:List Pe} {τ0:Ty} {ν:Type} {τ:ν→Ty} {Ω':ν→List Pe} (hf:Tryz.prog.funcs[f]?=some fn) (hb:fn.body=some c) (hn:fn.ntmps=n)
 (h:∀ (A:Nat→Prop) (w:World) (hA:∀ k,w.heap.size≤k→A k) (hO:OwnIn A Ωt),TC Tryz.prog (Zfg A w Ωt hA) n (Env.set Env.nil 0 τ0) Ωt c (bodyPost Tryz.prog fn (Zld A w Ωt τ Ω'))) (hl:Nat.ble 1 n=true:=by rfl):CO1 f Ωt τ0 τ Ω':=
 fun w v0 hA hO hap hks h0=>enterO1 hA hap hks hf hb hn hl h0 (h _ w hA hO)
theorem oc1 {B:Nat} {Ωs Ω Ωt Ωr:List Pe} {Γ:Env} {dst:Option Tmp} {ty:TypeId} {pos:String} {aft:Array Edge} {f:FuncId} {ts:Array TypeId} {ν:Type} {τ:ν→Ty} {Ω':ν→List Pe} {x0:Operand} {ρ0 τ0:Ty} [F:Fun Tryz.prog f] [H0:Has Γ x0 ρ0] (bs:List Nat) [sp:Sel2 Ω bs Ωt Ωr] (C:CO1 f Ωt τ0 τ Ω') (k0:∀ {A:Nat→Prop} {w:World} {v:Value},ρ0.p A w v→τ0.p A w v) :
 OpT Tryz.prog B Ωs Ω Γ ⟨dst,.call { callee:=.value (.func f),args:=#[x0],argTypes:=ts },ty,pos,aft,none⟩ τ fun g=>Ω' g++Ωr:=
 Zhp bs fun w v0 hA hO hap hks h0=>C w v0 hA hO hap hks (k0 h0)
def CO2 (f:FuncId) (Ωt:List Pe) (τ0 τ1:Ty) {ν:Type} (τ:ν→Ty) (Ω':ν→List Pe):Prop:=∀ {A:Nat→Prop} (w:World) (v0 v1:Value),(∀ k,w.heap.size≤k→A k)→OwnIn A Ωt→ZfD Ωt→Pks (Pub A Ωt) Ωt w→τ0.p (Pub A Ωt) w v0→τ1.p (Pub A Ωt) w v1→Calls Tryz.prog f #[v0,v1] w (Zld A w Ωt τ Ω')
theorem eO2 {f:FuncId} {fn:Func} {n:Nat} {c:Code} {Ωt:List Pe} {τ0 τ1:Ty} {ν:Type} {τ:ν→Ty} {Ω':ν→List Pe} (hf:Tryz.prog.funcs[f]?=some fn) (hb:fn.body=some c) (hn:fn.ntmps=n)
 (h:∀ (A:Nat→Prop) (w:World) (hA:∀ k,w.heap.size≤k→A k) (hO:OwnIn A Ωt),TC Tryz.prog (Zfg A w Ωt hA) n (Env.set (Env.set Env.nil 0 τ0) 1 τ1) Ωt c (bodyPost Tryz.prog fn (Zld A w Ωt τ Ω'))) (hl:Nat.ble 2 n=true:=by rfl):CO2 f Ωt τ0 τ1 τ Ω':=
 fun w v0 v1 hA hO hap hks h0 h1=>enterO2 hA hap hks hf hb hn hl h0 h1 (h _ w hA hO)
theorem oc2 {B:Nat} {Ωs Ω Ωt Ωr:List Pe} {Γ:Env} {dst:Option Tmp} {ty:TypeId} {pos:String} {aft:Array Edge} {f:FuncId} {ts:Array TypeId} {ν:Type} {τ:ν→Ty} {Ω':ν→List Pe} {x0 x1:Operand} {ρ0 ρ1 τ0 τ1:Ty} [F:Fun Tryz.prog f] [H0:Has Γ x0 ρ0] [H1:Has Γ x1 ρ1] (bs:List Nat) [sp:Sel2 Ω bs Ωt Ωr] (C:CO2 f Ωt τ0 τ1 τ Ω') (k0:∀ {A:Nat→Prop} {w:World} {v:Value},ρ0.p A w v→τ0.p A w v) (k1:∀ {A:Nat→Prop} {w:World} {v:Value},ρ1.p A w v→τ1.p A w v) :
 OpT Tryz.prog B Ωs Ω Γ ⟨dst,.call { callee:=.value (.func f),args:=#[x0,x1],argTypes:=ts },ty,pos,aft,none⟩ τ fun g=>Ω' g++Ωr:=
 OpT.callO2 bs fun w v0 v1 hA hO hap hks h0 h1=>C w v0 v1 hA hO hap hks (k0 h0) (k1 h1)
def CO3 (f:FuncId) (Ωt:List Pe) (τ0 τ1 τ2:Ty) {ν:Type} (τ:ν→Ty) (Ω':ν→List Pe):Prop:=∀ {A:Nat→Prop} (w:World) (v0 v1 v2:Value),(∀ k,w.heap.size≤k→A k)→OwnIn A Ωt→ZfD Ωt→Pks (Pub A Ωt) Ωt w→τ0.p (Pub A Ωt) w v0→τ1.p (Pub A Ωt) w v1→τ2.p (Pub A Ωt) w v2→Calls Tryz.prog f #[v0,v1,v2] w (Zld A w Ωt τ Ω')
theorem eO3 {f:FuncId} {fn:Func} {n:Nat} {c:Code} {Ωt:List Pe} {τ0 τ1 τ2:Ty} {ν:Type} {τ:ν→Ty} {Ω':ν→List Pe} (hf:Tryz.prog.funcs[f]?=some fn) (hb:fn.body=some c) (hn:fn.ntmps=n)
 (h:∀ (A:Nat→Prop) (w:World) (hA:∀ k,w.heap.size≤k→A k) (hO:OwnIn A Ωt),TC Tryz.prog (Zfg A w Ωt hA) n (Env.set (Env.set (Env.set Env.nil 0 τ0) 1 τ1) 2 τ2) Ωt c (bodyPost Tryz.prog fn (Zld A w Ωt τ Ω'))) (hl:Nat.ble 3 n=true:=by rfl):CO3 f Ωt τ0 τ1 τ2 τ Ω':=
 fun w v0 v1 v2 hA hO hap hks h0 h1 h2=>enterO3 hA hap hks hf hb hn hl h0 h1 h2 (h _ w hA hO)
theorem oc3 {B:Nat} {Ωs Ω Ωt Ωr:List Pe} {Γ:Env} {dst:Option Tmp} {ty:TypeId} {pos:String} {aft:Array Edge} {f:FuncId} {ts:Array TypeId} {ν:Type} {τ:ν→Ty} {Ω':ν→List Pe} {x0 x1 x2:Operand} {ρ0 ρ1 ρ2 τ0 τ1 τ2:Ty} [F:Fun Tryz.prog f] [H0:Has Γ x0 ρ0] [H1:Has Γ x1 ρ1] [H2:Has Γ x2 ρ2] (bs:List Nat) [sp:Sel2 Ω bs Ωt Ωr] (C:CO3 f Ωt τ0 τ1 τ2 τ Ω') (k0:∀ {A:Nat→Prop} {w:World} {v:Value},ρ0.p A w v→τ0.p A w v) (k1:∀ {A:Nat→Prop} {w:World} {v:Value},ρ1.p A w v→τ1.p A w v) (k2:∀ {A:Nat→Prop} {w:World} {v:Value},ρ2.p A w v→τ2.p A w v) :
 OpT Tryz.prog B Ωs Ω Γ ⟨dst,.call { callee:=.value (.func f),args:=#[x0,x1,x2],argTypes:=ts },ty,pos,aft,none⟩ τ fun g=>Ω' g++Ωr:=
 OpT.callO3 bs fun w v0 v1 v2 hA hO hap hks h0 h1 h2=>C w v0 v1 v2 hA hO hap hks (k0 h0) (k1 h1) (k2 h2)
theorem on1 {f:FuncId} {τ0:Ty} {ν:Type} {τ:ν→Ty} {Ω':ν→List Pe} (C:CO1 f [] τ0 τ Ω') {A:Nat→Prop} (w:World) (v0:Value) (hA:∀ k,w.heap.size≤k→A k) (h0:τ0.p A w v0):Calls Tryz.prog f #[v0] w (Zld A w [] τ Ω'):=
 C w v0 hA ⟨fun k ⟨e,he,_⟩=>absurd he (by simp)⟩ List.Pairwise.nil (fun e he=>absurd he (by simp)) (Ty.enter h0)
theorem on2 {f:FuncId} {τ0 τ1:Ty} {ν:Type} {τ:ν→Ty} {Ω':ν→List Pe} (C:CO2 f [] τ0 τ1 τ Ω') {A:Nat→Prop} (w:World) (v0 v1:Value) (hA:∀ k,w.heap.size≤k→A k) (h0:τ0.p A w v0) (h1:τ1.p A w v1):Calls Tryz.prog f #[v0,v1] w (Zld A w [] τ Ω'):=
 C w v0 v1 hA ⟨fun k ⟨e,he,_⟩=>absurd he (by simp)⟩ List.Pairwise.nil (fun e he=>absurd he (by simp)) (Ty.enter h0) (Ty.enter h1)
class TBu (P:Program) (t:TypeId):Prop where
 h:∃ fs,P.underlying t=some (.struct fs)∧(fs.toList.mapM (fun f=>(P.info? f.type).map fun i=>(f.offset,i.size))).isSome=true
class HasPa (P:Program) (t:TypeId) (Γ:Env) (ps:Array (Nat×Operand)) (α:Type) (i:Dat α) (x0:α) (x:outParam α):Prop where
 h:∃ l,ps=l.toArray∧HasParts P t Γ l α i x0 x
instance {P:Program} {t:TypeId} {Γ:Env} {l:List (Nat×Operand)} {α:Type} {i:Dat α} {x0 x:α} [h:HasParts P t Γ l α i x0 x]:HasPa P t Γ l.toArray α i x0 x:=⟨l,rfl,h⟩
theorem tB {P:Program} {B0:Nat} {A:Nat→Prop} {Ω:List Pe} {Γ:Env} {dst:Option Tmp} {ty:TypeId} {pos:String} {aft:Array Edge} {gd:Option (Nat×Bool)} {α:Type} {i:Dat α} {t:TypeId} {parts:Array (Nat×Operand)} {bt:Nat} {x:α} (y:α) [T:TEl P t α i bt] [U:TBu P t] [h:HasPa P t Γ parts α i Dat.z x] (ha:Dat.agg α=true) (hxy:x=y):OpY P B0 A Ω Γ ⟨dst,.build t parts,ty,pos,aft,gd⟩ (D y):=
 let ⟨l,e,h⟩:=h.h;OpY.buildAs y e U.h ha hxy
theorem zw {m q:Prop} (k:q) (h:q→True→m:=by
 intro k;dsimp only [List.cons_append,List.nil_append]
 repeat (first
  | ((with_reducible refine gS ?_);(first | refine TSA rfl ?_ | refine TSG rfl (fun _=>inferInstance) rfl ?_ | refine TSH rfl (fun _ _=>inferInstance) rfl ?_ | refine TSH rfl (fun h _=>haveI:=Ft.l h;haveI:=Ft.r h;inferInstance) rfl ?_ | refine TSW ?_))
  | with_reducible refine tN ?_
  | with_reducible refine tSq ?_
  | ((with_reducible refine gD ?_);refine tDq mix (by kernel_rfl) ?_)
  | with_reducible refine tSeq ?_
  | with_reducible refine tThen ?_
  | with_reducible refine tSkip ?_
  | with_reducible refine tRet ?_
  | with_reducible refine tRt ?_
  | with_reducible refine tRi ?_
  | with_reducible refine tNi ?_
  | with_reducible refine tBk ?_
  | ((with_reducible refine gR ?_);(first | refine TRA rfl ?_ | refine TRG rfl (fun _=>inferInstance) rfl ?_ | refine TRH rfl (fun _ _=>inferInstance) rfl ?_))
  | with_reducible refine tRn ?_
  | with_reducible refine tNil ?_
  | with_reducible refine tRg ?_
  | with_reducible refine tXt ?_
  | with_reducible refine tXe ?_
  | with_reducible refine tCr ?_
  | with_reducible refine tEx ?_
  | with_reducible refine tXh ?_
  | (with_reducible refine tXo rfl ?_))
 exact fun _=>k):m:=h k trivial
end Go.Proofs.YtkmojgfenlgchaaGreatDoor.Tr
namespace Go.Proofs.YtkmojgfenlgchaaGreatDoor.Tr
open Go
instance :TBu Tryz.prog 106:=⟨_,Tryz.underlying106,by kernel_rfl⟩
instance :TBu Tryz.prog 120:=⟨_,Tryz.underlying120,by kernel_rfl⟩
instance :TBu Tryz.prog 136:=⟨_,Tryz.underlying136,by kernel_rfl⟩
instance :TBu Tryz.prog 156:=⟨_,Tryz.underlying156,by kernel_rfl⟩
instance :TBu Tryz.prog 160:=⟨_,Tryz.underlying160,by kernel_rfl⟩
instance :TBu Tryz.prog 193:=⟨_,Tryz.underlying193,by kernel_rfl⟩
instance :TBu Tryz.prog 202:=⟨_,Tryz.underlying202,by kernel_rfl⟩
instance :TBu Tryz.prog 261:=⟨_,Tryz.underlying261,by kernel_rfl⟩
instance :TBu Tryz.prog 28:=⟨_,Tryz.underlying28,by kernel_rfl⟩
instance :TBu Tryz.prog 282:=⟨_,Tryz.underlying282,by kernel_rfl⟩
instance :TBu Tryz.prog 35:=⟨_,Tryz.underlying35,by kernel_rfl⟩
instance :TBu Tryz.prog 38:=⟨_,Tryz.underlying38,by kernel_rfl⟩
instance :TBu Tryz.prog 72:=⟨_,Tryz.underlying72,by kernel_rfl⟩
instance :TBu Tryz.prog 85:=⟨_,Tryz.underlying85,by kernel_rfl⟩
instance :TBu Tryz.prog 87:=⟨_,Tryz.underlying87,by kernel_rfl⟩
instance :TBu Tryz.prog 93:=⟨_,Tryz.underlying93,by kernel_rfl⟩
end Go.Proofs.YtkmojgfenlgchaaGreatDoor.Tr
namespace Go.Proofs.YtkmojgfenlgchaaGreatDoor.Tr
open Go
section cz
variable {P:Program} {r:Ref} {B:Nat} {Ωs:List Pe} {ops:Array Oper} {n:Nat} {ms:List Nat} {k:Nat} {Γ Δ:Env} {Ω Ω':List Pe} {F:Fam} {Q:Exit→Act→World→Prop} {K:Env→Fam→Prop}
 {d:Tmp} {op:Op} {ty:TypeId} {pos:String} {aft:Array Edge} {rest:List Oper} {τ σ:Ty} {x:Operand}
theorem TSx (h:∀ {A:Nat→Prop},OpY P r.w.heap.size A Ω Γ ⟨some d,op,ty,pos,aft,none⟩ τ) (hk:TS P r n ops rest (k+1) (Γ.set d τ) Ω Q) (hd:Nat.blt d n=true:=by rfl):TS P r n ops (⟨some d,op,ty,pos,aft,none⟩::rest) k Γ Ω Q:=Za1 h hd hk
theorem TSm [Has Γ x τ] [AsT τ σ] (hk:TS P r n ops rest (k+1) (Γ.set d σ) Ω Q) (hd:Nat.blt d n=true:=by rfl):TS P r n ops (⟨some d,.move x,ty,pos,aft,none⟩::rest) k Γ Ω Q:=Za1 Zeh hd hk
theorem TSa [Has Γ x τ] [AsT τ σ] (hk:TS P r n ops rest (k+1) (Γ.set d σ) Ω Q) (hd:Nat.blt d n=true:=by rfl):TS P r n ops (⟨some d,.assign x,ty,pos,aft,none⟩::rest) k Γ Ω Q:=Za1 ZeO hd hk
theorem TRx (h:∀ {A:Nat→Prop},OpY P B A Ωs Γ ⟨some d,op,ty,pos,aft,none⟩ τ) (hk:TRw P B Ωs ops n ms (k+1) rest (Γ.set d τ) F K) (hd:(Nat.blt d n && !ms.contains k && !F.tl.contains d)=true:=by rfl):TRw P B Ωs ops n ms k (⟨some d,op,ty,pos,aft,none⟩::rest) Γ F K:=Zeq h hd hk
theorem TRm [Has Γ x τ] [AsT τ σ] (hk:TRw P B Ωs ops n ms (k+1) rest (Γ.set d σ) F K) (hd:(Nat.blt d n && !ms.contains k && !F.tl.contains d)=true:=by rfl):TRw P B Ωs ops n ms k (⟨some d,.move x,ty,pos,aft,none⟩::rest) Γ F K:=Zeq Zeh hd hk
theorem PF (off:Nat) (α β:Type) {i:Dat α} {j:Dat β} {C:Ct} {o:Nat} {get:α→β} {set:β→α→α} {x:α} {upd:α→Ct} (h:Pl C o α i x upd) [L:Fld α i off β j get set]:Pl C (o+off) β j (get x) fun y=>upd (set y x):=h.fld
end cz
end Go.Proofs.YtkmojgfenlgchaaGreatDoor.Tr
namespace Go.Proofs.YtkmojgfenlgchaaGreatDoor.Tr
open Go Go.RowKit
set_option maxRecDepth 100000
set_option synthInstance.maxHeartbeats 400000
set_option synthInstance.maxSize 4096
def Zf1 (size0:Int):Option Bool:=
 some ((decide (size0≥(24:Int)))&&(decide (size0≤(256:Int))))
instance page_fits_c:Fd1 101 Zf1 fun r=>D r:=en1 Tryz.func101 rfl Tryz.ntmps101 fun _ _ _ _ _ H=>by
 unfold Zf1 at H;exact zY H
def Zc0 (size0:Int):Option Int:=
 (Zf1 size0).bind fun x_1=>bif (!x_1) then (some (0:Int)) else ((Zgs size0 16).bind fun x_2=>some x_2)
instance page_Room_c:Fd1 54 Zc0 fun r=>D r:=en1 Tryz.func54 rfl Tryz.ntmps54 fun _ _ _ _ _ H=>by
 unfold Zc0 at H;exact zY H
def ZiQ (p0:Page) (size0:Int):Option Bool:=
 (Zf1 size0).bind fun x_2=>(gb ((((x_2&&((decide (p0.Kind=(1:Int)))||(decide (p0.Kind=(2:Int)))))&&(decide (p0.Id≥(0:Int))))&&(decide (p0.Id<(64:Int))))&&(decide (p0.Gen<(UInt64.ofNat 281474976710656)))) (Zc0 size0)).bind fun x_3=>some (((((x_2&&((decide (p0.Kind=(1:Int)))||(decide (p0.Kind=(2:Int)))))&&(decide (p0.Id≥(0:Int))))&&(decide (p0.Id<(64:Int))))&&(decide (p0.Gen<(UInt64.ofNat 281474976710656))))&&(decide ((p0.Body.length:Int)≤x_3)))
instance page_May_c:Fd2 155 ZiQ fun r=>D r:=en2 Tryz.func155 rfl Tryz.ntmps155 fun A w hA p0 size0 r H=>by
 unfold ZiQ at H;refine zg ?_;refine TS.box rfl fun b2_0=>zg ?_
 refine zb H fun _ _ H=>?_
 refine TR.g 27 rfl (fun hg=>OpY.lss64) rfl ?_;exact zY H
def ZiL (n0:UInt64) (many0:Int) (l_3:(List UInt8)) (x_6:Int) (bx_7:(List UInt8)):Option ((Int×(List UInt8))⊕(List UInt8)):=
 bif (decide (x_6<(l_3.length:Int))) then ((Zgs many0 1).bind fun x_9=>(Zgs x_9 x_6).bind fun x_10=>(mulI (8:Int) x_6).bind fun x_11=>(cnt x_11).bind fun n_12=>(idx bx_7 x_10).bind fun x_13=>(some ((bx_7.set (Int.toNat x_10) ((shr64 n0 x_11).toUInt8)):(List UInt8))).bind fun l_14=>(Zas x_6 1).bind fun x_15=>some (.inl (x_15,l_14))) else (some (.inr bx_7))
def Zju (n0:UInt64) (many0:Int):Option (List UInt8):=
 bif ((decide (many0<(1:Int)))||(decide (many0>(8:Int)))) then (some ([]:List UInt8)) else ((Zdv 1 many0).bind fun u_1=>(some ((List.replicate (Int.toNat many0) (Dat.z:UInt8)):(List UInt8))).bind fun l_3=>(ZM (fun s=>ZiL n0 many0 l_3 s.1 s.2) ((0:Int),l_3)).bind fun bx_4=>some bx_4)
instance sum_Put_c:Fd2 166 Zju fun r=>D r:=en2 Tryz.func166 rfl Tryz.ntmps166 fun A w hA n0 many0 r H=>by
 unfold Zju at H;refine zg ?_;refine zc H (fun hc H=>?_) fun hc H=>?_
 ·exact zY H
 ·refine zg ?_;refine zn H fun _ eu_1 H=>?_
  refine Zgj eu_1.h ⟨(Za3 eu_1.h).1,Int.le_refl _⟩ rfl fun b14_1=>?_
  refine zC ?_;refine zn H fun l_3 el_3 H=>?_
  refine ZB b14_1 (Zac el_3.h) ?_;refine zX (Zcg 5 _ (ZaP el_3.h (by simp))) ?_;refine TSx (Zax (n:=l_3.length) rfl) ?_;refine zC ?_;refine zh H fun o_5 H5 H=>?_
  refine Zn (fun s:(List UInt8)=>o_5=s) (fun (bx_4:(List UInt8)) (_:Unit)=>(Env.set Env.nil 5 (Sl b14_1 True 0 bx_4.length (Int.toNat many0)))) (fun (bx_4:(List UInt8)) (_:Unit)=>[⟨b14_1,True,(Row (bx_4:List UInt8) (Int.toNat many0))⟩]) ?_ ?_
  ·skip;refine Zp<|Zu H5 (fun ⟨x_6,bx_7⟩ (_:Unit)=>(Env.set (Env.set (Env.set (Env.set (Env.set Env.nil 0 (D n0)) 1 (D many0)) 5 (Sl b14_1 True 0 bx_7.length (Int.toNat many0))) 16 (D ((l_3.length:Int):Int))) 17 (D x_6))) (fun ⟨x_6,bx_7⟩ (_:Unit)=>[⟨b14_1,True,(Row (bx_7:List UInt8) (Int.toNat many0))⟩]) () (Za (Za (Zk (ZC rfl) (Za (Za (Zd _)))))) (Zc rfl (Ze _)) ?_;rintro ⟨x_6,bx_7⟩ ⟨⟩ x_8 H8 he8;dsimp only at H8;unfold ZiL at H8;refine zg ?_;refine zc H8 (fun hc H8=>?_) fun hc H8=>?_
   ·refine zg ?_;refine zb H8 fun _ _ H8=>?_
    refine zb H8 fun _ _ H8=>?_
    refine zb H8 fun _ _ H8=>?_
    refine zn H8 fun _ en_12 H8=>?_
    refine TSx (OpD.shr64 (cnt_some en_12.h).1)<|TSx OpY.conv64_8 ?_;refine zn H8 fun _ ex_13 H8=>?_
    refine TSx (Zm (ZI ex_13.h rfl)) ?_;refine zE ?_;refine zn H8 fun l_14 el_14 H8=>?_
    refine Zaf b14_1 (Zac el_14.h) ?_;refine zX (ZcF 5 _ (ZaP el_14.h (by simp))) ?_;refine zb H8 fun x_15 _ H8=>?_
    exact Zq ⟨x_15,l_14⟩ () (ZZs H8) (Za (Za (Zk (ZC rfl) (Za (Za (Zd _)))))) (Zc rfl (Ze _))
   ·refine zg ?_;exact Zj bx_7 () (he8 _ (ZZs H8)).symm (Zk (ZC rfl) (Zd _)) (Zc rfl (Ze _))
  rintro bx_4 ⟨⟩ hp;replace hp:=hp.symm;subst hp;refine zC ?_;refine ZL<|TE.pub b14_1 (PubE.set 4 (ZG PlS.all rfl) PubE.refl) ?_;exact zY H
def Zj2 (n_9:UInt32) (x_10:Int):Option ((UInt32×Int)⊕UInt32):=
 bif (decide (x_10<(8:Int))) then ((some ((n_9 &&& (UInt32.ofNat 1)):UInt32)).bind fun odd_12=>(some ((shr32 n_9 ((UInt64.ofNat 1).toNat:Int)):UInt32)).bind fun n_13=>(some ((n_13 ^^^ ((UInt32.ofNat 3988292384)*odd_12)):UInt32)).bind fun n_14=>(Zas x_10 1).bind fun x_15=>some (.inl (n_14,x_15))) else (some (.inr n_9))
def Zj3 (b0:(List UInt8)) (n_3:UInt32) (x_4:Int):Option ((UInt32×Int)⊕UInt32):=
 bif (decide (x_4<(b0.length:Int))) then ((idx b0 x_4).bind fun x_6=>(ZM (fun s=>Zj2 s.1 s.2) ((n_3 ^^^ (x_6.toUInt32)),(0:Int))).bind fun n_7=>(Zas x_4 1).bind fun x_16=>some (.inl (n_7,x_16))) else (some (.inr n_3))
def sum_On (sum0:UInt32) (b0:(List UInt8)):Option UInt32:=
 (ZM (fun s=>Zj3 b0 s.1 s.2) ((~~~sum0),(0:Int))).bind fun n_1=>some (~~~n_1)
instance sum_On_c:Fd2 182 sum_On fun r=>D r:=en2 Tryz.func182 rfl Tryz.ntmps182 fun A w hA sum0 b0 r H=>by
 unfold sum_On at H;refine zg ?_;refine TSx OpY.not32 ?_;refine zC ?_;refine zC ?_;refine zh H fun o_2 H2 H=>?_
 refine Zn (fun s:UInt32=>o_2=s) (fun (n_1:UInt32) (_:Unit)=>(Env.set Env.nil 5 (D n_1))) (fun (n_1:UInt32) (_:Unit)=>[]) ?_ ?_
 ·skip;refine Zp<|Zu H2 (fun ⟨n_3,x_4⟩ (_:Unit)=>(Env.set (Env.set (Env.set (Env.set Env.nil 5 (D n_3)) 11 (D b0)) 12 (D ((b0.length:Int):Int))) 13 (D x_4))) (fun ⟨n_3,x_4⟩ (_:Unit)=>[]) () (Za (Za (Za (Za (Zd _))))) (Ze _) ?_;rintro ⟨n_3,x_4⟩ ⟨⟩ x_5 H5 he5;dsimp only at H5;unfold Zj3 at H5;refine zg ?_;refine zc H5 (fun hc H5=>?_) fun hc H5=>?_
  ·refine zg ?_;refine zb H5 fun _ _ H5=>?_
   refine TSx OpY.conv8_32<|TSx OpY.xor32 ?_;refine zC ?_;refine zC ?_;refine zh H5 fun o_8 H8 H5=>?_
   refine Zn (fun s:UInt32=>o_8=s) (fun (n_7:UInt32) (_:Unit)=>(Env.set (Env.set (Env.set (Env.set Env.nil 5 (D n_7)) 11 (D b0)) 12 (D ((b0.length:Int):Int))) 13 (D x_4))) (fun (n_7:UInt32) (_:Unit)=>[]) ?_ ?_
   ·skip;refine Zp<|Zu H8 (fun ⟨n_9,x_10⟩ (_:Unit)=>(Env.set (Env.set (Env.set (Env.set (Env.set Env.nil 5 (D n_9)) 11 (D b0)) 12 (D ((b0.length:Int):Int))) 13 (D x_4)) 21 (D x_10))) (fun ⟨n_9,x_10⟩ (_:Unit)=>[]) () (Za (Za (Za (Za (Za (Zd _)))))) (Ze _) ?_;rintro ⟨n_9,x_10⟩ ⟨⟩ x_11 H11 he11;dsimp only at H11;unfold Zj2 at H11;refine zg ?_;refine zc H11 (fun hc H11=>?_) fun hc H11=>?_
    ·refine zg ?_;refine TSx OpY.and32 ?_;refine zC ?_;refine zn H11 fun odd_12 eodd_12 H11=>?_
     refine zX (Zcg 8 (D odd_12) (nm_cv eodd_12.h)) ?_;refine TSx (OpD.shr32 (Int.natCast_nonneg _)) ?_;refine zC ?_;refine zn H11 fun n_13 en_13 H11=>?_
     refine zX (Zcg 5 (D n_13) (nm_cv en_13.h)) ?_;refine TSx OpY.mul32<|TSx OpY.xor32 ?_;refine zE ?_;refine zn H11 fun n_14 en_14 H11=>?_
     refine zX (ZcF 5 (D n_14) (nm_cv en_14.h)) ?_;refine zb H11 fun x_15 _ H11=>?_
     exact Zq ⟨n_14,x_15⟩ () (ZZs H11) (Za (Za (Za (Za (Za (Zd _)))))) (Ze _)
    ·refine zg ?_;exact Zj n_9 () (he11 _ (ZZs H11)).symm (Za (Za (Za (Za (Zd _))))) (Ze _)
   rintro n_7 ⟨⟩ hp;replace hp:=hp.symm;subst hp;refine zg ?_;refine zb H5 fun x_16 _ H5=>?_
   exact Zq ⟨n_7,x_16⟩ () (ZZs H5) (Za (Za (Za (Za (Zd _))))) (Ze _)
  ·refine zg ?_;exact Zj n_3 () (he5 _ (ZZs H5)).symm (Za (Zd _)) (Ze _)
 rintro n_1 ⟨⟩ hp;replace hp:=hp.symm;subst hp;refine zg ?_;refine TSx OpY.not32 ?_;exact zY H
def sum_Of (b0:(List UInt8)):Option UInt32:=
 (sum_On (UInt32.ofNat 0) b0).bind fun x_1=>some x_1
instance sum_Of_c:Fd1 154 sum_Of fun r=>D r:=en1 Tryz.func154 rfl Tryz.ntmps154 fun _ _ _ _ _ H=>by
 unfold sum_Of at H;exact zY H
def ZdI (s0:(List UInt8)) (n0:Int):Option (List UInt8):=
 bif (decide (n0<(0:Int))) then (none) else (((Zgs (0:Int) (0:Int)).bind fun x_4=>(Zgs n0 x_4).bind fun x_5=>bif (decide (x_5>(0:Int))) then ((Zdv 1 x_5).bind fun u_6=>(posI x_5).bind fun u_7=>(cut (List.replicate (Int.toNat x_5) (Dat.z:UInt8)).length 0 (0:Int)).bind fun u_9=>(some (((List.replicate (Int.toNat x_5) (Dat.z:UInt8)).take (Int.toNat (0:Int))):(List UInt8))).bind fun l_10=>some l_10) else (some [])).bind fun s_2=>some s_2)
theorem Zj5 {s0:(List UInt8)} {n0:Int} {r:(List UInt8)} (H:ZdI s0 n0=some r):CO2 190 [] (NilS) (D n0) (fun g:Nat×Prop×Nat=>Sl g.1 g.2.1 0 (List.length r) g.2.2) fun g=>[⟨g.1,g.2.1,Row (r:List UInt8) g.2.2⟩]:=eO2 Tryz.func190 rfl Tryz.ntmps190 fun A w hA hO=>by
 unfold ZdI at H;refine zg ?_;refine zc H (fun hc H=>?_) fun hc H=>?_
 ·cases H
 ·refine Zaw<|Zan<|Zau ?_;refine zh H fun o_3 H3 H=>?_
  refine Zn (fun s:(List UInt8)=>o_3=s) (fun (s_2:(List UInt8)) (⟨b_0,p_0,c_0⟩:Nat×Prop×Nat)=>(Env.set Env.nil 0 (Sl b_0 p_0 0 s_2.length c_0))) (fun (s_2:(List UInt8)) (⟨b_0,p_0,c_0⟩:Nat×Prop×Nat)=>[⟨b_0,p_0,(Row (s_2:List UInt8) c_0)⟩]) ?_ ?_
  ·skip;refine zg ?_;refine zX (Za1 Zi5 rfl) ?_;refine TSx Zi6 ?_;refine zb H3 fun _ _ H3=>?_
   refine zb H3 fun x_5 _ H3=>?_
   refine zc H3 (fun hc H3=>?_) fun hc H3=>?_
   ·refine zg ?_;refine TSx Zi5 ?_;refine zX (Za1 (Zlx (α:=UInt8)) rfl) ?_;refine zn H3 fun _ eu_6 H3=>?_
    refine zn H3 fun _ eu_7 H3=>?_
    refine TS.appMake (α:=UInt8) eu_6.h eu_7.h rfl fun b22_7 c22_7=>zg ?_
    refine TSx Zi6 ?_;refine zn H3 fun _ eu_9 H3=>?_
    refine TSx (Zeg (Zd4 eu_9.h rfl).2.1 (Zd4 eu_9.h rfl).2.2) ?_;refine zE ?_;refine TE.trim b22_7 (Int.toNat (0:Int)) (Zk5 eu_9.h)<|ZcF 0 _ (ZC (List.length_take_of_le (l:=(List.replicate (Int.toNat x_5) (Dat.z:UInt8))) (Zk5 eu_9.h)).symm) ?_;refine zn H3 fun l_10 el_10 H3=>?_
    exact Zaf b22_7 (Zac el_10.h)<|ZcF 0 _ (ZaP el_10.h rfl)<|Zj l_10 ⟨b22_7,True,c22_7⟩ (ZZs H3) (Zk (ZC rfl) (Zd _)) (Zc rfl (Ze _))
   ·refine zg ?_;exact Zj [] ⟨0,False,0⟩ (ZZs H3) (Zk ZcV (Zd _)) (Zbq (Ze _))
  rintro s_2 ⟨b_0,p_0,c_0⟩ hp;replace hp:=hp.symm;subst hp;refine zg ?_;obtain rfl:=ZZi H;exact ZA rfl ⟨b_0,p_0,c_0⟩ (ZC rfl) (Zc rfl (Ze _))
def ZbV (slices0:(List (List UInt8))) (size_3:Int) (x_4:Int):Option ((Int×Int)⊕Int):=
 bif (decide (x_4<(slices0.length:Int))) then ((idx slices0 x_4).bind fun x_6=>(Zas size_3 (x_6.length:Int)).bind fun x_7=>bif (decide (x_7<(0:Int))) then (none) else ((Zas x_4 1).bind fun x_8=>some (.inl (x_7,x_8)))) else (some (.inr size_3))
def ZbU (slices0:(List (List UInt8))) (x_14:Int) (newslice_16:(List UInt8)):Option ((Int×(List UInt8))⊕(List UInt8)):=
 bif (decide (x_14<(slices0.length:Int))) then ((idx slices0 x_14).bind fun x_18=>(Zdv 1 ((newslice_16.length+x_18.length:Nat):Int)).bind fun u_20=>(some ((newslice_16++x_18):(List UInt8))).bind fun l_21=>(Zas x_14 1).bind fun x_22=>some (.inl (x_22,l_21))) else (some (.inr newslice_16))
def ZbW (slices0:(List (List UInt8))):Option (List UInt8):=
 (ZM (fun s=>ZbV slices0 s.1 s.2) ((0:Int),(0:Int))).bind fun size_1=>(ZdI [] size_1).bind fun x_9=>(ZM (fun s=>ZbU slices0 s.1 s.2) ((0:Int),x_9)).bind fun newslice_12=>some newslice_12
instance slices_Concat_byte_c:Fd1 167 ZbW fun r=>D r:=en1 Tryz.func167 rfl Tryz.ntmps167 fun A w hA slices0 r H=>by
 unfold ZbW at H;refine zC ?_;refine zC ?_;refine zC ?_;refine zh H fun o_2 H2 H=>?_
 refine Zn (fun s:Int=>o_2=s) (fun (size_1:Int) (_:Unit)=>(Env.set (Env.set Env.nil 0 (D slices0)) 3 (D size_1))) (fun (size_1:Int) (_:Unit)=>[]) ?_ ?_
 ·skip;refine Zp<|Zu H2 (fun ⟨size_3,x_4⟩ (_:Unit)=>(Env.set (Env.set (Env.set (Env.set (Env.set Env.nil 0 (D slices0)) 3 (D size_3)) 9 (D slices0)) 10 (D ((slices0.length:Int):Int))) 11 (D x_4))) (fun ⟨size_3,x_4⟩ (_:Unit)=>[]) () (Za (Za (Za (Za (Za (Zd _)))))) (Ze _) ?_;rintro ⟨size_3,x_4⟩ ⟨⟩ x_5 H5 he5;dsimp only at H5;unfold ZbV at H5;refine zg ?_;refine zc H5 (fun hc H5=>?_) fun hc H5=>?_
  ·refine zg ?_;refine zb H5 fun _ _ H5=>?_
   refine zb H5 fun x_7 _ H5=>?_
   refine zc H5 (fun hc H5=>?_) fun hc H5=>?_
   ·cases H5
   ·refine zg ?_;refine zb H5 fun x_8 _ H5=>?_
    exact Zq ⟨x_7,x_8⟩ () (ZZs H5) (Za (Za (Za (Za (Za (Zd _)))))) (Ze _)
  ·refine zg ?_;exact Zj size_3 () (he5 _ (ZZs H5)).symm (Za (Za (Zd _))) (Ze _)
 rintro size_1 ⟨⟩ hp;replace hp:=hp.symm;subst hp;refine zg ?_;refine zn H fun _ ex_9 H=>?_
 refine Zdw (oc2 [] (Zj5 ex_9.h) id toD) rfl fun ⟨b24_9,p24_9,c24_9⟩=>?_
 dsimp only [List.cons_append,List.nil_append];refine zC ?_;refine zC ?_;refine zh H fun o_13 H13 H=>?_
 refine Zn (fun s:(List UInt8)=>o_13=s) (fun (newslice_12:(List UInt8)) (⟨b_10,p_10,c_10⟩:Nat×Prop×Nat)=>(Env.set Env.nil 6 (Sl b_10 p_10 0 newslice_12.length c_10))) (fun (newslice_12:(List UInt8)) (⟨b_10,p_10,c_10⟩:Nat×Prop×Nat)=>[⟨b_10,p_10,(Row (newslice_12:List UInt8) c_10)⟩]) ?_ ?_
 ·skip;refine Zp<|Zu H13 (fun ⟨x_14,newslice_16⟩ (⟨b_14,p_14,c_14⟩:Nat×Prop×Nat)=>(Env.set (Env.set (Env.set (Env.set Env.nil 6 (Sl b_14 p_14 0 newslice_16.length c_14)) 25 (D slices0)) 26 (D ((slices0.length:Int):Int))) 27 (D x_14))) (fun ⟨x_14,newslice_16⟩ (⟨b_14,p_14,c_14⟩:Nat×Prop×Nat)=>[⟨b_14,p_14,(Row (newslice_16:List UInt8) c_14)⟩]) ⟨b24_9,p24_9,c24_9⟩ (Za (Za (Za (Zk (ZC rfl) (Zd _))))) (Zc rfl (Ze _)) ?_;rintro ⟨x_14,newslice_16⟩ ⟨b_14,p_14,c_14⟩ x_17 H17 he17;dsimp only at H17;unfold ZbU at H17;refine zg ?_;refine zc H17 (fun hc H17=>?_) fun hc H17=>?_
  ·refine zg ?_;refine zb H17 fun x_18 _ H17=>?_
   refine zn H17 fun _ eu_20 H17=>?_
   refine TS.app (ys:=x_18) inferInstance eu_20.h rfl rfl rfl fun b33_18 p33_18 c33_18=>?_
   refine zE ?_;refine zn H17 fun l_21 el_21 H17=>?_
   refine Zaf b33_18 (Zac el_21.h) ?_;refine zX (ZcF 6 _ (ZaP el_21.h rfl)) ?_;refine zb H17 fun x_22 _ H17=>?_
   exact Zq ⟨x_22,l_21⟩ ⟨b33_18,p33_18,c33_18⟩ (ZZs H17) (Za (Za (Za (Zk (ZC rfl) (Zd _))))) (Zc rfl (Ze _))
  ·refine zg ?_;exact Zj newslice_16 ⟨b_14,p_14,c_14⟩ (he17 _ (ZZs H17)).symm (Zk (ZC rfl) (Zd _)) (Zc rfl (Ze _))
 rintro newslice_12 ⟨b_10,p_10,c_10⟩ hp;replace hp:=hp.symm;subst hp;refine zC ?_;refine ZL<|TE.pub b_10 (PubE.set 2 (ZG PlS.all rfl) PubE.refl) ?_;exact zY H
def Zfr (p0:Page) (size0:Int):Option ((List UInt8)×Int):=
 (ZiQ p0 size0).bind fun x_2=>bif (!x_2) then (some (([]:List UInt8),(1:Int))) else ((Zgs size0 4).bind fun x_3=>(Zdv 1 x_3).bind fun u_4=>(some ((List.replicate (Int.toNat x_3) (Dat.z:UInt8)):(List UInt8))).bind fun l_6=>(idx l_6 0).bind fun x_7=>(idx (l_6.set (Int.toNat (0:Int)) (UInt8.ofInt p0.Kind)) (1:Int)).bind fun x_8=>(some (((l_6.set (Int.toNat (0:Int)) (UInt8.ofInt p0.Kind)).set (Int.toNat (1:Int)) (UInt8.ofInt p0.Id)):(List UInt8))).bind fun l_9=>(cut l_9.length (2:Int) (8:Int)).bind fun u_10=>(Zju p0.Gen (6:Int)).bind fun x_11=>(some ((splice l_9 (Int.toNat (2:Int)) (over ((l_9.drop (Int.toNat (2:Int))).take (((8:Int)-(2:Int)).toNat)) x_11)):(List UInt8))).bind fun l_12=>(cut l_12.length (8:Int) (10:Int)).bind fun u_13=>(Zju (UInt64.ofInt (p0.Body.length:Int)) (2:Int)).bind fun x_14=>(some ((splice l_12 (Int.toNat (8:Int)) (over ((l_12.drop (Int.toNat (8:Int))).take (((10:Int)-(8:Int)).toNat)) x_14)):(List UInt8))).bind fun l_15=>(cut l_15.length (10:Int) (l_15.length:Int)).bind fun u_16=>(some ((splice l_15 (Int.toNat (10:Int)) (over ((l_15.drop (Int.toNat (10:Int))).take (((l_15.length:Nat)-(10:Int):Int).toNat)) p0.Body)):(List UInt8))).bind fun l_17=>(sum_Of l_17).bind fun x_18=>(Zju (x_18.toUInt64) (4:Int)).bind fun x_19=>(ZbW ([l_17,x_19]:List (List UInt8))).bind fun x_20=>some (x_20,(0:Int)))
instance page_Put_c:Fd2 142 Zfr fun r=>Tup [D r.1,D r.2]:=en2 Tryz.func142 rfl Tryz.ntmps142 fun A w hA p0 size0 r H=>by
 unfold Zfr at H;refine zg ?_;refine TS.box rfl fun b2_0=>zg ?_
 refine zb H fun _ _ H=>?_
 refine zc H (fun hc H=>?_) fun hc H=>?_
 ·exact zY H
 ·refine zg ?_;refine zb H fun _ _ H=>?_
  refine zn H fun _ eu_4 H=>?_
  refine Zgj eu_4.h ⟨(Za3 eu_4.h).1,Int.le_refl _⟩ rfl fun b13_4=>?_
  refine zC ?_;refine zn H fun _ el_6 H=>?_
  refine ZB b13_4 (Zac el_6.h)<|Zcg 6 _ (ZaP el_6.h (by simp)) ?_;refine zX (ZaW [9,11] [b13_4] mix (by kernel_rfl) (by kernel_rfl)) ?_;refine zn H fun _ ex_7 H=>?_
  refine TRx (Zm (ZI ex_7.h rfl))<|Zdg (fun g=>(Zw (y:=((UInt8.ofInt p0.Kind):UInt8)) (ZaC ex_7.h))) rfl ?_;refine zn H fun _ ex_8 H=>?_
  refine TRx (Zm (ZI ex_8.h (by simp)))<|Zdg (fun g=>(Zw (y:=((UInt8.ofInt p0.Id):UInt8)) (ZaC ex_8.h))) rfl ?_;refine zC ?_;rintro ⟨⟨_,_⟩,_⟩;dsimp only [Fam.nextS,Fam.nextN,Fam.one,List.cons_append,List.nil_append];refine zn H fun _ el_9 H=>?_
  refine ZB b13_4 (Zac el_9.h)<|Zcg 6 _ (ZaP el_9.h (by simp)) ?_;refine zX (ZaW [5] [b13_4] mix (by kernel_rfl) (by kernel_rfl)) ?_;refine zn H fun _ eu_10 H=>?_
  refine zX (Zeq (Zlw (Zd4 eu_10.h rfl).1 (Zd4 eu_10.h rfl).2.1 (Zd4 eu_10.h rfl).2.2) rfl) ?_;refine zb H fun x_11 _ H=>?_
  refine Zfi (fun g=>(ZcO (ys:=x_11) inferInstance (ZgK (Zh3 eu_10.h)) (Zg0 eu_10.h rfl) (fun _ h=>by simp [h,splice,ZeK]))) rfl ?_;refine zC ?_;rintro ⟨_,_⟩;dsimp only [Fam.nextS,Fam.nextN,Fam.one,List.cons_append,List.nil_append];refine zn H fun _ el_12 H=>?_
  refine ZB b13_4 (Zac el_12.h)<|Zcg 6 _ (ZaP el_12.h (ZfV (Zh3 eu_10.h)).symm) ?_;refine zX (ZaW [7] [b13_4] mix (by kernel_rfl) (by kernel_rfl)) ?_;refine zn H fun _ eu_13 H=>?_
  refine zX (Zeq (Zlw (Zd4 eu_13.h rfl).1 (Zd4 eu_13.h rfl).2.1 (Zd4 eu_13.h rfl).2.2) rfl) ?_;refine TRx ZiF ?_;refine zb H fun x_14 _ H=>?_
  refine Zfi (fun g=>(ZcO (ys:=x_14) inferInstance (ZgK (Zh3 eu_13.h)) (Zg0 eu_13.h rfl) (fun _ h=>by simp [h,splice,ZeK]))) rfl ?_;refine zC ?_;rintro ⟨_,_⟩;dsimp only [Fam.nextS,Fam.nextN,Fam.one,List.cons_append,List.nil_append];refine zn H fun _ el_15 H=>?_
  refine ZB b13_4 (Zac el_15.h)<|Zcg 6 _ (ZaP el_15.h (ZfV (Zh3 eu_13.h)).symm) ?_;refine zX (ZaW [4] [b13_4] mix (by kernel_rfl) (by kernel_rfl)) ?_;refine zn H fun _ eu_16 H=>?_
  refine zX (Zeq (ZaK (Zd4 eu_16.h rfl).1 (Zd4 eu_16.h rfl).2.1) rfl) ?_;refine Zfi (fun g=>(ZcO (ys:=p0.Body) inferInstance (ZgK (cut_leF eu_16.h rfl)) (cut_lenF eu_16.h rfl) (fun _ h=>by simp [h,splice,ZeK]))) rfl ?_;refine zC ?_;rintro ⟨_,_⟩;dsimp only [Fam.nextS,Fam.nextN,Fam.one,List.cons_append,List.nil_append];refine zn H fun _ el_17 H=>?_
  refine ZB b13_4 (Zac el_17.h) ?_;refine zX (Zcg 6 _ (ZaP el_17.h (ZfV (cut_leF eu_16.h rfl)).symm)) ?_;refine zn H fun _ ex_18 H=>?_
  refine TSx (ZfN [b13_4] (ZiK PlS.all rfl (by simp)) fun w v0 hA h0=>sum_Of_c.h w v0 hA (toD h0) ex_18.h)<|TSx ZkB ?_;refine zb H fun _ _ H=>?_
  refine TS.pub b13_4 (PubE.set 44 (ZG PlS.all rfl) (PubE.set 43 (ZG PlS.all rfl) (PubE.set 6 (ZG PlS.all rfl) PubE.refl))) ?_;refine TSx (OpY.buildSlice [.tmp 43,.tmp 47] rfl rfl (by decide)) ?_;exact zY H
def ZhD (b0:(List UInt8)) (x_2:Int):Option (Int⊕(Unit⊕Bool)):=
 bif (decide (x_2<(b0.length:Int))) then ((idx b0 x_2).bind fun x_4=>bif (decide (x_4≠(UInt8.ofNat 255))) then (some (.inr (.inr false))) else ((Zas x_2 1).bind fun x_6=>some (.inl x_6))) else (some (.inr (.inl ())))
def ZfF (b0:(List UInt8)):Option Bool:=
 (ZM (fun s=>ZhD b0 s) (0:Int)).bind fun o_1=>elS o_1 (fun _=>some true) (fun q=>some q)
instance page_Blank_c:Fd1 152 ZfF fun r=>D r:=en1 Tryz.func152 rfl Tryz.ntmps152 fun A w hA b0 r H=>by
 unfold ZfF at H;refine zC ?_;refine zC ?_;refine zh H fun o_1 H1 H=>?_
 refine Zn (fun s:Unit=>o_1=.inl s) (fun (_:Unit) (_:Unit)=>Env.nil) (fun (_:Unit) (_:Unit)=>[]) ?_ ?_
 ·skip;refine Zp<|Zu H1 (fun (x_2:Int) (_:Unit)=>(Env.set (Env.set (Env.set Env.nil 5 (D b0)) 6 (D ((b0.length:Int):Int))) 7 (D x_2))) (fun (x_2:Int) (_:Unit)=>[]) () (Za (Za (Za (Zd _)))) (Ze _) ?_;rintro x_2 ⟨⟩ x_3 H3 he3;unfold ZhD at H3;refine zg ?_;refine zc H3 (fun hc H3=>?_) fun hc H3=>?_
  ·refine zg ?_;refine zb H3 fun _ _ H3=>?_
   refine zX (Za1 Zl7 rfl) ?_;refine zc H3 (fun hc H3=>?_) fun hc H3=>?_
   ·refine zC ?_;refine ZL<|Zf<|Zg<|Zg<|Zf<|Zs ?_;have R4:=ZaM (he3 _ (ZZs H3)) H;refine zg ?_;obtain rfl:=ZZi R4;exact ZaV rfl Cv.le
   ·refine zg ?_;refine zb H3 fun x_6 _ H3=>?_
    exact Zq x_6 () (ZZs H3) (Za (Za (Za (Zd _)))) (Ze _)
  ·refine zg ?_;exact Zj () () (he3 _ (ZZs H3)).symm (Zd _) (Ze _)
 rintro ⟨⟩ ⟨⟩ hp;replace H:=ZbD hp H;exact zY H
def ZiM (b0:(List UInt8)) (n_3:UInt64) (x_4:Int):Option ((UInt64×Int)⊕UInt64):=
 bif (decide (x_4<(b0.length:Int))) then ((idx b0 x_4).bind fun x_6=>(some (((shl64 n_3 ((UInt64.ofNat 8).toNat:Int)) ||| (x_6.toUInt64)):UInt64)).bind fun n_7=>(Zas x_4 1).bind fun x_8=>some (.inl (n_7,x_8))) else (some (.inr n_3))
def Zjv (b0:(List UInt8)):Option UInt64:=
 (ZM (fun s=>ZiM b0 s.1 s.2) ((UInt64.ofNat 0),(0:Int))).bind fun n_1=>some n_1
instance sum_Get_c:Fd1 153 Zjv fun r=>D r:=en1 Tryz.func153 rfl Tryz.ntmps153 fun A w hA b0 r H=>by
 unfold Zjv at H;refine zC ?_;refine zC ?_;refine zC ?_;refine zh H fun o_2 H2 H=>?_
 refine Zn (fun s:UInt64=>o_2=s) (fun (n_1:UInt64) (_:Unit)=>(Env.set Env.nil 3 (D n_1))) (fun (n_1:UInt64) (_:Unit)=>[]) ?_ ?_
 ·skip;refine Zp<|Zu H2 (fun ⟨n_3,x_4⟩ (_:Unit)=>(Env.set (Env.set (Env.set (Env.set Env.nil 3 (D n_3)) 6 (D b0)) 7 (D ((b0.length:Int):Int))) 8 (D x_4))) (fun ⟨n_3,x_4⟩ (_:Unit)=>[]) () (Za (Za (Za (Za (Zd _))))) (Ze _) ?_;rintro ⟨n_3,x_4⟩ ⟨⟩ x_5 H5 he5;dsimp only at H5;unfold ZiM at H5;refine zg ?_;refine zc H5 (fun hc H5=>?_) fun hc H5=>?_
  ·refine zg ?_;refine zb H5 fun _ _ H5=>?_
   refine zX (Za1 (OpD.shl64 (Int.natCast_nonneg _)) rfl) ?_;refine TSx OpY.conv8_64<|TSx OpY.or64 ?_;refine zE ?_;refine zn H5 fun n_7 en_7 H5=>?_
   refine zX (ZcF 3 (D n_7) (nm_cv en_7.h)) ?_;refine zb H5 fun x_8 _ H5=>?_
   exact Zq ⟨n_7,x_8⟩ () (ZZs H5) (Za (Za (Za (Za (Zd _))))) (Ze _)
  ·refine zg ?_;exact Zj n_3 () (he5 _ (ZZs H5)).symm (Za (Zd _)) (Ze _)
 rintro n_1 ⟨⟩ hp;replace hp:=hp.symm;subst hp;exact zY H
def Zcr (s0:(List UInt8)):Option (List UInt8):=
 (Zdv 1 ((0+s0.length:Nat):Int)).bind fun _=>some s0
theorem Zjx {s0:(List UInt8)} {r:(List UInt8)} (H:Zcr s0=some r):CO1 156 [] (D s0) (fun g:Nat×Prop×Nat=>Sl g.1 g.2.1 0 (List.length r) g.2.2) fun g=>[⟨g.1,g.2.1,Row (r:List UInt8) g.2.2⟩]:=eO1 Tryz.func156 rfl Tryz.ntmps156 fun A w hA hO=>by
 unfold Zcr at H;refine zn H fun _ eu H=>?_
 obtain rfl:=ZZi H;refine zg ?_;refine TSx Zby ?_;refine zC ?_;refine ZfA (fun hc=>?_) (fun hc=>?_)
 ·obtain rfl:=hc rfl;refine zg ?_;exact ZA rfl ⟨0,False,0⟩ ZcV (Zbq (Ze _))
 ·refine zg ?_;refine TS.build [] rfl rfl (by decide) rfl fun b=>zg ?_
  refine TS.app (ys:=s0) inferInstance eu.h rfl rfl rfl fun b1 p1 c1=>zg ?_
  exact ZA rfl ⟨b1,p1,c1⟩ (ZC (by simp)) (Zc rfl (Ze _))
instance slices_Clone_byte_c:Fd1 156 Zcr fun r=>D r:=⟨fun w v0 hA h0 H=>(on1 (Zjx H) w v0 hA h0).mono fun e w' h=>Zhn hA h⟩
def ZdO (inner_10:(List UInt8)) (x_27:Int) (x_30:Int):Option (Int⊕(Unit⊕(Page×Int))):=
 bif (decide (x_30<((inner_10.drop (Int.toNat x_27)).length:Int))) then ((idx (inner_10.drop (Int.toNat x_27)) x_30).bind fun x_32=>bif (decide (x_32≠(UInt8.ofNat 0))) then ((some ((⟨0,0,0,[]⟩:Page):Page)).bind fun k_33=>some (.inr (.inr (k_33,(2:Int))))) else ((Zas x_30 1).bind fun x_35=>some (.inl x_35))) else (some (.inr (.inl ())))
def ZdA (b0:(List UInt8)):Option (Page×Int):=
 (Zf1 (b0.length:Int)).bind fun x_2=>bif (!x_2) then ((some ((⟨0,0,0,[]⟩:Page):Page)).bind fun k_3=>some (k_3,(3:Int))) else ((ZfF b0).bind fun x_4=>bif x_4 then ((some ((⟨(0:Int),0,0,[]⟩:Page):Page)).bind fun k_5=>some (k_5,(0:Int))) else ((Zgs (b0.length:Int) (4:Int)).bind fun x_6=>(cut b0.length 0 x_6).bind fun u_7=>(Zgs (b0.length:Int) (4:Int)).bind fun x_8=>(cut b0.length x_8 b0.length).bind fun u_9=>(some ((b0.take (Int.toNat x_6)):(List UInt8))).bind fun inner_10=>(some ((b0.drop (Int.toNat x_8)):(List UInt8))).bind fun end_11=>(Zjv end_11).bind fun x_12=>(sum_Of inner_10).bind fun x_13=>bif (decide (x_12≠(x_13.toUInt64))) then ((some ((⟨0,0,0,[]⟩:Page):Page)).bind fun k_14=>some (k_14,(4:Int))) else ((idx b0 0).bind fun x_15=>(idx b0 1).bind fun x_16=>(cut b0.length (2:Int) (8:Int)).bind fun u_17=>(Zjv ((b0.take (Int.toNat (8:Int))).drop (Int.toNat (2:Int)))).bind fun x_18=>(some ((⟨(x_15.toNat:Int),(x_16.toNat:Int),x_18,[]⟩:Page):Page)).bind fun px_20=>(cut b0.length (8:Int) (10:Int)).bind fun u_21=>(Zjv ((b0.take (Int.toNat (10:Int))).drop (Int.toNat (8:Int)))).bind fun x_22=>(ZiR (x_22.toNat:Int)).bind fun x_23=>(Zc0 (b0.length:Int)).bind fun x_24=>(gb (!(decide (x_23>x_24))) (ZiQ px_20 (b0.length:Int))).bind fun x_25=>bif ((decide (x_23>x_24))||(!x_25)) then ((some ((⟨0,0,0,[]⟩:Page):Page)).bind fun k_26=>some (k_26,(2:Int))) else ((Zas (10:Int) x_23).bind fun x_27=>(cut inner_10.length x_27 inner_10.length).bind fun u_28=>(ZM (fun s=>ZdO inner_10 x_27 s) (0:Int)).bind fun o_29=>elS o_29 (fun _=>(bif (decide (x_23>(0:Int))) then ((Zas (10:Int) x_23).bind fun x_38=>(cut b0.length (10:Int) x_38).bind fun u_39=>(Zcr ((b0.take (Int.toNat x_38)).drop (Int.toNat (10:Int)))).bind fun x_40=>(some ((⟨px_20.Kind,px_20.Id,px_20.Gen,x_40⟩:Page):Page)).bind fun px_41=>some px_41) else (some px_20)).bind fun px_36=>some (px_36,(0:Int))) (fun q=>some q)))))
instance page_Read_c:Fd1 126 ZdA fun r=>Tup [D r.1,D r.2]:=en1 Tryz.func126 rfl Tryz.ntmps126 fun A w hA b0 r H=>by
 unfold ZdA at H;refine zg ?_;refine TS.alloc rfl fun b2_0=>zg ?_
 refine zb H fun _ _ H=>?_
 refine zc H (fun hc H=>?_) fun hc H=>?_
 ·refine zg ?_;refine TSx (tB (⟨0,0,0,[]⟩:Page) rfl rfl) ?_;exact zY H
 ·refine zg ?_;refine zb H fun _ _ H=>?_
  refine zc H (fun hc H=>?_) fun hc H=>?_
  ·refine zg ?_;refine TSx (tB (⟨(0:Int),0,0,[]⟩:Page) rfl rfl) ?_;exact zY H
  ·refine zg ?_;refine zb H fun _ _ H=>?_
   refine zb H fun _ _ H=>?_
   refine zb H fun _ _ H=>?_
   refine zo H fun _ _ H=>?_
   refine zC ?_;refine zn H fun inner_10 einner_10 H=>?_
   refine Zcg 4 (D inner_10) (nm_cv einner_10.h) ?_;refine zn H fun end_11 eend_11 H=>?_
   refine zX (Zcg 5 (D end_11) (nm_cv eend_11.h)) ?_;refine zb H fun _ _ H=>?_
   refine zb H fun _ _ H=>?_
   refine TSx ZkB ?_;refine zX (Za1 OpY.neq64 rfl) ?_;refine zc H (fun hc H=>?_) fun hc H=>?_
   ·refine zg ?_;refine TSx (tB (⟨0,0,0,[]⟩:Page) rfl rfl) ?_;exact zY H
   ·refine Zaw<|Zan ?_;refine zX (ZaW [12,13] [] mix (by kernel_rfl) (by kernel_rfl)) ?_;refine zb H fun x_15 _ H=>?_
    refine zb H fun x_16 _ H=>?_
    refine zb H fun _ _ H=>?_
    refine zb H fun x_18 _ H=>?_
    refine TRx (tB (⟨(x_15.toNat:Int),(x_16.toNat:Int),x_18,[]⟩:Page) rfl rfl)<|Zfi (fun g=>ZcD (α:=Page)) rfl<|Zdg (fun g=>(Zw (y:=((⟨(x_15.toNat:Int),(x_16.toNat:Int),x_18,[]⟩:Page):Page)) Zx)) rfl ?_;refine zC ?_;rintro ⟨⟨_,⟨b6_18,_⟩⟩,_⟩;dsimp only [Fam.nextS,Fam.nextN,Fam.one,List.cons_append,List.nil_append];refine zn H fun px_20 epx_20 H=>?_
    refine zX (ZB b6_18 (Zah epx_20.h)) ?_;refine zb H fun _ _ H=>?_
    refine zb H fun _ _ H=>?_
    refine zn H fun x_23 ex_23 H=>?_
    refine zX (Za1 (ZlE ex_23.h) rfl) ?_;refine zb H fun _ _ H=>?_
    refine zd H fun _ _ H=>?_
    refine zc H (fun hc H=>?_) fun hc H=>?_
    ·refine zg ?_;refine TSx (tB (⟨0,0,0,[]⟩:Page) rfl rfl) ?_;exact zY H
    ·refine zg ?_;refine zb H fun x_27 _ H=>?_
     refine zo H fun _ _ H=>?_
     refine zC ?_;refine zh H fun o_29 H29 H=>?_
     refine Zn (fun s:Unit=>o_29=.inl s) (fun (_:Unit) (_:Unit)=>(Env.set (Env.set (Env.set (Env.set Env.nil 0 (D b0)) 2 (Pt b2_0 0)) 6 (Pt b6_18 0)) 7 (D x_23))) (fun (_:Unit) (_:Unit)=>[⟨b2_0,True,(One ((Dat.z:Page):Page))⟩,⟨b6_18,True,(One px_20)⟩]) ?_ ?_
     ·skip;refine Zp<|Zu H29 (fun (x_30:Int) (_:Unit)=>(Env.set (Env.set (Env.set (Env.set (Env.set (Env.set (Env.set Env.nil 0 (D b0)) 2 (Pt b2_0 0)) 6 (Pt b6_18 0)) 7 (D x_23)) 67 (D ((inner_10.drop (Int.toNat x_27)):(List UInt8)))) 68 (D (((inner_10.drop (Int.toNat x_27)).length:Int):Int))) 69 (D x_30))) (fun (x_30:Int) (_:Unit)=>[⟨b2_0,True,(One ((Dat.z:Page):Page))⟩,⟨b6_18,True,(One px_20)⟩]) () (Za (Za (Za (Za (Za (Za (Za (Zd _)))))))) (Zc rfl (Zc rfl (Ze _))) ?_;rintro x_30 ⟨⟩ x_31 H31 he31;unfold ZdO at H31;refine zg ?_;refine zc H31 (fun hc H31=>?_) fun hc H31=>?_
      ·refine zg ?_;refine zb H31 fun _ _ H31=>?_
       refine zX (Za1 Zl7 rfl) ?_;refine zc H31 (fun hc H31=>?_) fun hc H31=>?_
       ·refine zg ?_;refine TSx (tB (⟨0,0,0,[]⟩:Page) rfl rfl) ?_;refine zC ?_;refine zn H31 fun _ ek_33 H31=>?_
        refine ZB b2_0 (Zah ek_33.h)<|ZL<|Zf<|Zg<|Zg<|Zf<|Zs ?_;have R33:=ZaM (he31 _ (ZZs H31)) H;refine zg ?_;obtain rfl:=ZZi R33;exact ZeL rfl rfl (.cons Cv.le (.cons Cv.le .nil))
       ·refine zg ?_;refine zb H31 fun x_35 _ H31=>?_
        exact Zq x_35 () (ZZs H31) (Za (Za (Za (Za (Za (Za (Za (Zd _)))))))) (Zc rfl (Zc rfl (Ze _)))
      ·refine zg ?_;exact Zj () () (he31 _ (ZZs H31)).symm (Za (Za (Za (Za (Zd _))))) (Zc rfl (Zc rfl (Ze _)))
     rintro ⟨⟩ ⟨⟩ hp;replace H:=ZbD hp H;refine Zan<|Zau ?_;refine zh H fun o_37 H37 H=>?_
     refine Zn (fun s:Page=>o_37=s) (fun (px_36:Page) (_:Unit)=>(Env.set (Env.set Env.nil 2 (Pt b2_0 0)) 6 (Pt b6_18 0))) (fun (px_36:Page) (_:Unit)=>[⟨b2_0,True,(One ((Dat.z:Page):Page))⟩,⟨b6_18,True,(One px_36)⟩]) ?_ ?_
     ·skip;refine zg ?_;refine zc H37 (fun hc H37=>?_) fun hc H37=>?_
      ·refine zg ?_;refine zb H37 fun _ _ H37=>?_
       refine zb H37 fun _ _ H37=>?_
       refine zo H37 fun _ _ H37=>?_
       refine zE ?_;refine zn H37 fun px_41 epx_41 H37=>?_
       exact Zaf b6_18 (Zah epx_41.h)<|Zj px_41 () (ZZs H37) (Za (Za (Zd _))) (Zc rfl (Zc rfl (Ze _)))
      ·refine zg ?_;exact Zj px_20 () (ZZs H37) (Za (Za (Zd _))) (Zc rfl (Zc rfl (Ze _)))
     rintro px_36 ⟨⟩ hp;replace hp:=hp.symm;subst hp;exact zY H
def ZfY (size0:Int):Option Int:=
 (Zc0 size0).bind fun x_1=>(ZjS x_1 2).bind fun x_2=>some (min (64:Int) x_2)
instance root_Most_c:Fd1 65 ZfY fun r=>D r:=en1 Tryz.func65 rfl Tryz.ntmps65 fun _ _ _ _ _ H=>by
 unfold ZfY at H;exact zY H
def ZeA (r0:Roots) (x_5:Int):Option (Int⊕(Unit⊕Bool)):=
 bif (decide (x_5<(r0.At.length:Int))) then ((idx r0.At x_5).bind fun x_7=>bif ((decide (x_7<(0:Int)))||(decide (x_7>(65535:Int)))) then (some (.inr (.inr false))) else ((Zas x_5 1).bind fun x_9=>some (.inl x_9))) else (some (.inr (.inl ())))
def Zka (r0:Roots) (size0:Int):Option Bool:=
 (Zc0 size0).bind fun x_2=>(gb (!((decide (x_2=(0:Int)))||(decide ((UInt64.ofNat 281474976710656)≤r0.Gen)))) (ZfY size0)).bind fun x_3=>bif (((decide (x_2=(0:Int)))||(decide ((UInt64.ofNat 281474976710656)≤r0.Gen)))||(decide ((r0.At.length:Int)>x_3))) then (some false) else ((ZM (fun s=>ZeA r0 s) (0:Int)).bind fun o_4=>elS o_4 (fun _=>some true) (fun q=>some q))
instance root_May_c:Fd2 141 Zka fun r=>D r:=en2 Tryz.func141 rfl Tryz.ntmps141 fun A w hA r0 size0 r H=>by
 unfold Zka at H;refine zg ?_;refine TS.box rfl fun b2_0=>zg ?_
 refine zb H fun _ _ H=>?_
 refine zX (TR.g 10 rfl (fun hg=>ZkA) rfl) ?_;refine zd H fun _ _ H=>?_
 refine zc H (fun hc H=>?_) fun hc H=>?_
 ·exact zY H
 ·refine zC ?_;refine zh H fun o_4 H4 H=>?_
  refine Zn (fun s:Unit=>o_4=.inl s) (fun (_:Unit) (_:Unit)=>Env.nil) (fun (_:Unit) (_:Unit)=>[]) ?_ ?_
  ·skip;refine Zp<|Zu H4 (fun (x_5:Int) (_:Unit)=>(Env.set (Env.set (Env.set Env.nil 24 (D r0.At)) 25 (D ((r0.At.length:Int):Int))) 26 (D x_5))) (fun (x_5:Int) (_:Unit)=>[]) () (Za (Za (Za (Zd _)))) (Ze _) ?_;rintro x_5 ⟨⟩ x_6 H6 he6;unfold ZeA at H6;refine zg ?_;refine zc H6 (fun hc H6=>?_) fun hc H6=>?_
   ·refine zg ?_;refine zb H6 fun _ _ H6=>?_
    refine zc H6 (fun hc H6=>?_) fun hc H6=>?_
    ·refine zC ?_;refine ZL<|Zf<|Zg<|Zg<|Zf<|Zs ?_;have R7:=ZaM (he6 _ (ZZs H6)) H;refine zg ?_;obtain rfl:=ZZi R7;exact ZaV rfl Cv.le
    ·refine zg ?_;refine zb H6 fun x_9 _ H6=>?_
     exact Zq x_9 () (ZZs H6) (Za (Za (Za (Zd _)))) (Ze _)
   ·refine zg ?_;exact Zj () () (he6 _ (ZZs H6)).symm (Zd _) (Ze _)
  rintro ⟨⟩ ⟨⟩ hp;replace H:=ZbD hp H;exact zY H
def ZhA (r0:Roots) (x_10:Int) (l_12:(List UInt8)):Option ((Int×(List UInt8))⊕(List UInt8)):=
 bif (decide (x_10<(r0.At.length:Int))) then ((idx r0.At x_10).bind fun x_14=>(shrI x_14 8).bind fun x_15=>(Zdv 1 ((l_12.length+([(UInt8.ofInt x_15),(UInt8.ofInt x_14)]:List UInt8).length:Nat):Int)).bind fun u_17=>(some ((l_12++([(UInt8.ofInt x_15),(UInt8.ofInt x_14)]:List UInt8)):(List UInt8))).bind fun l_18=>(Zas x_10 1).bind fun x_19=>some (.inl (x_19,l_18))) else (some (.inr l_12))
def ZiN (r0:Roots) (size0:Int):Option ((List UInt8)×Int):=
 (Zka r0 size0).bind fun x_2=>bif (!x_2) then (some (([]:List UInt8),(1:Int))) else ((Zgs (r0.At.length:Int) (1:Int)).bind fun x_3=>(some ((⟨(2:Int),(max (0:Int) x_3),r0.Gen,[]⟩:Page):Page)).bind fun px_5=>(some (([]:List UInt8):(List UInt8))).bind fun l_6=>(ZM (fun s=>ZhA r0 s.1 s.2) ((0:Int),l_6)).bind fun l_8=>(Zfr (⟨px_5.Kind,px_5.Id,px_5.Gen,l_8⟩:Page) size0).bind fun r_20=>some (r_20.1,r_20.2))
instance root_Put_c:Fd2 116 ZiN fun r=>Tup [D r.1,D r.2]:=en2 Tryz.func116 rfl Tryz.ntmps116 fun A w hA r0 size0 r H=>by
 unfold ZiN at H;refine zg ?_;refine TS.box rfl fun b2_0=>zg ?_
 refine zb H fun _ _ H=>?_
 refine zc H (fun hc H=>?_) fun hc H=>?_
 ·exact zY H
 ·refine zg ?_;refine zb H fun _ _ H=>?_
  refine TS.nilE 0 UInt8 ?_;refine TSx (OpY.buildZ (ps:=_) rfl ⟨_,Tryz.underlying202,by kernel_rfl⟩ (ZeroC.mix (α:=Page) (o:=3) (b:=0) (ZeroC.one (α:=Page)) rfl) (PartsC.d (((Pl.mix (PF 0 Page Int Zx) (by first | decide | omega))).st _) (PartsC.d (((Pl.mix (PF 1 Page Int Zx) (by first | decide | omega))).st _) (PartsC.d (((Pl.mix (PF 2 Page UInt64 Zx) (by first | decide | omega))).st _) inferInstance)))) ?_;refine TS.alloc rfl fun b6_3=>?_
  refine Zbj (ZX trivial rfl CtSc.h) ?_;refine zC ?_;refine zn H fun px_5 epx_5 H=>?_
  refine ZB b6_3 (Zc2 (Zah epx_5.h)) ?_;refine zn H fun _ el_6 H=>?_
  refine ZB 0 (Zac el_6.h)<|ZB b6_3 (Zft (Zen el_6.h (by simp))) ?_;refine zC ?_;refine zh H fun o_9 H9 H=>?_
  refine Zn (fun s:(List UInt8)=>o_9=s) (fun (l_8:(List UInt8)) (⟨b_6,p_6,c_6⟩:Nat×Prop×Nat)=>(Env.set (Env.set Env.nil 1 (D size0)) 6 (Pt b6_3 0))) (fun (l_8:(List UInt8)) (⟨b_6,p_6,c_6⟩:Nat×Prop×Nat)=>[⟨b_6,p_6,(Row (l_8:List UInt8) c_6)⟩,⟨b6_3,True,(Ct.mix (One px_5) 3 (Sl b_6 p_6 0 l_8.length c_6))⟩]) ?_ ?_
  ·skip;refine Zp<|Zu H9 (fun ⟨x_10,l_12⟩ (⟨b_10,p_10,c_10⟩:Nat×Prop×Nat)=>(Env.set (Env.set (Env.set (Env.set (Env.set Env.nil 1 (D size0)) 6 (Pt b6_3 0)) 22 (D r0.At)) 23 (D ((r0.At.length:Int):Int))) 24 (D x_10))) (fun ⟨x_10,l_12⟩ (⟨b_10,p_10,c_10⟩:Nat×Prop×Nat)=>[⟨b_10,p_10,(Row (l_12:List UInt8) c_10)⟩,⟨b6_3,True,(Ct.mix (One px_5) 3 (Sl b_10 p_10 0 l_12.length c_10))⟩]) ⟨0,False,0⟩ (Za (Za (Za (Za (Za (Zd _)))))) (Zc rfl (Zc rfl (Ze _))) ?_;rintro ⟨x_10,l_12⟩ ⟨b_10,p_10,c_10⟩ x_13 H13 he13;dsimp only at H13;unfold ZhA at H13;refine zg ?_;refine zc H13 (fun hc H13=>?_) fun hc H13=>?_
   ·refine zg ?_;refine zb H13 fun x_14 _ H13=>?_
    refine zX (Za1 (ZS Zaa) rfl) ?_;refine zb H13 fun x_15 _ H13=>?_
    refine TSx (OpY.buildSlice [.tmp 32,.tmp 34] rfl rfl (by decide)) ?_;refine zn H13 fun _ eu_17 H13=>?_
    refine TS.app (ys:=([(UInt8.ofInt x_15),(UInt8.ofInt x_14)]:List UInt8)) inferInstance eu_17.h rfl rfl rfl fun b36_15 p36_15 c36_15=>zg ?_
    refine Zbj (Zbc CtH.same) ?_;refine zE ?_;refine zn H13 fun l_18 el_18 H13=>?_
    refine Zaf b36_15 (Zac el_18.h) ?_;refine zX (Zaf b6_3 (Zft (Zen el_18.h rfl))) ?_;refine zb H13 fun x_19 _ H13=>?_
    exact Zq ⟨x_19,l_18⟩ ⟨b36_15,p36_15,c36_15⟩ (ZZs H13) (Za (Za (Za (Za (Za (Zd _)))))) (Zc rfl (Zc rfl (Ze _)))
   ·refine zg ?_;exact Zj l_12 ⟨b_10,p_10,c_10⟩ (he13 _ (ZZs H13)).symm (Za (Za (Zd _))) (Zc rfl (Zc rfl (Ze _)))
  rintro l_8 ⟨b_6,p_6,c_6⟩ hp;replace hp:=hp.symm;subst hp;refine zg ?_;refine TS.coll b6_3 b_6 (o:=3) (((PF 3 Page (List UInt8) Zx)).st (l_8:List UInt8)) (ZG PlS.all rfl) ?_;exact zY H
def ZgA (r_2:(Page×Int)) (x_6:Int) (x_16:Int) (l_18:(List Int)):Option ((Int×(List Int))⊕(List Int)):=
 bif (decide (x_16<x_6)) then ((mulI (2:Int) x_16).bind fun x_20=>(idx r_2.1.Body x_20).bind fun x_21=>(shlI (x_21.toNat:Int) 8).bind fun x_22=>(mulI (2:Int) x_16).bind fun x_23=>(Zas x_23 1).bind fun x_24=>(idx r_2.1.Body x_24).bind fun x_25=>(orI x_22 (x_25.toNat:Int)).bind fun x_26=>(Zdv 8 ((l_18.length+([x_26]:List Int).length:Nat):Int)).bind fun u_28=>(some ((l_18++([x_26]:List Int)):(List Int))).bind fun l_29=>(Zas x_16 1).bind fun x_30=>some (.inl (x_30,l_29))) else (some (.inr l_18))
def Zg7 (b0:(List UInt8)):Option (Roots×Int):=
 (ZdA b0).bind fun r_2=>bif (decide (r_2.2≠(0:Int))) then ((some ((⟨0,[]⟩:Roots):Roots)).bind fun k_4=>some (k_4,r_2.2)) else (bif (decide (r_2.1.Kind=(0:Int))) then ((some ((⟨0,[]⟩:Roots):Roots)).bind fun k_5=>some (k_5,(6:Int))) else ((ZjS (r_2.1.Body.length:Int) (2:Int)).bind fun x_6=>(gb (!(decide (r_2.1.Kind≠(2:Int)))) (remI (r_2.1.Body.length:Int) (2:Int))).bind fun x_7=>(gb (!((decide (r_2.1.Kind≠(2:Int)))||(decide (x_7≠(0:Int))))) (Zgs x_6 1)).bind fun x_8=>bif (((decide (r_2.1.Kind≠(2:Int)))||(decide (x_7≠(0:Int))))||(decide (r_2.1.Id≠(max (0:Int) x_8)))) then ((some ((⟨0,[]⟩:Roots):Roots)).bind fun k_9=>some (k_9,(2:Int))) else ((some ((⟨r_2.1.Gen,[]⟩:Roots):Roots)).bind fun r_11=>(some (([]:List Int):(List Int))).bind fun l_12=>(ZM (fun s=>ZgA r_2 x_6 s.1 s.2) ((0:Int),l_12)).bind fun l_14=>(some ((⟨r_11.Gen,l_14⟩:Roots):Roots)).bind fun k_31=>some (k_31,(0:Int)))))
instance root_Read_c:Fd1 161 Zg7 fun r=>Tup [D r.1,D r.2]:=en1 Tryz.func161 rfl Tryz.ntmps161 fun A w hA b0 r H=>by
 unfold Zg7 at H;refine zg ?_;refine TS.alloc rfl fun b2_0=>zg ?_
 refine zb H fun r_2 _ H=>?_
 refine TS.alloc rfl fun b4_2=>zg ?_
 refine zc H (fun hc H=>?_) fun hc H=>?_
 ·refine zg ?_;refine TSx (tB (⟨0,[]⟩:Roots) rfl rfl) ?_;exact zY H
 ·refine zg ?_;refine zc H (fun hc H=>?_) fun hc H=>?_
  ·refine zg ?_;refine TSx (tB (⟨0,[]⟩:Roots) rfl rfl) ?_;exact zY H
  ·refine zg ?_;refine zb H fun x_6 _ H=>?_
   refine zd H fun _ _ H=>?_
   refine zd H fun _ _ H=>?_
   refine zc H (fun hc H=>?_) fun hc H=>?_
   ·refine zg ?_;refine TSx (tB (⟨0,[]⟩:Roots) rfl rfl) ?_;exact zY H
   ·refine zg ?_;refine TS.nilE 0 Int ?_;refine TSx (OpY.buildZ (ps:=_) rfl ⟨_,Tryz.underlying193,by kernel_rfl⟩ (ZeroC.mix (α:=Roots) (o:=1) (b:=0) (ZeroC.one (α:=Roots)) rfl) (PartsC.d (((Pl.mix (PF 0 Roots UInt64 Zx) (by first | decide | omega))).st _) inferInstance)) ?_;refine TS.alloc rfl fun b7_9=>?_
    refine Zbj (ZX trivial rfl CtSc.h) ?_;refine zC ?_;refine zn H fun r_11 er_11 H=>?_
    refine ZB b7_9 (Zc2 (Zah er_11.h)) ?_;refine zn H fun _ el_12 H=>?_
    refine ZB 0 (Zac el_12.h)<|ZB b7_9 (Zft (Zen el_12.h (by simp))) ?_;refine zC ?_;refine zh H fun o_15 H15 H=>?_
    refine Zn (fun s:(List Int)=>o_15=s) (fun (l_14:(List Int)) (⟨b_12,p_12,c_12⟩:Nat×Prop×Nat)=>(Env.set (Env.set Env.nil 2 (Pt b2_0 0)) 7 (Pt b7_9 0))) (fun (l_14:(List Int)) (⟨b_12,p_12,c_12⟩:Nat×Prop×Nat)=>[⟨b_12,p_12,(Row (l_14:List Int) c_12)⟩,⟨b2_0,True,(One ((Dat.z:Roots):Roots))⟩,⟨b7_9,True,(Ct.mix (One r_11) 1 (Sl b_12 p_12 0 l_14.length c_12))⟩]) ?_ ?_
    ·skip;refine Zp<|Zu H15 (fun ⟨x_16,l_18⟩ (⟨b_16,p_16,c_16⟩:Nat×Prop×Nat)=>(Env.set (Env.set (Env.set (Env.set (Env.set Env.nil 2 (Pt b2_0 0)) 4 (Pt b4_2 0)) 7 (Pt b7_9 0)) 48 (D x_6)) 49 (D x_16))) (fun ⟨x_16,l_18⟩ (⟨b_16,p_16,c_16⟩:Nat×Prop×Nat)=>[⟨b_16,p_16,(Row (l_18:List Int) c_16)⟩,⟨b2_0,True,(One ((Dat.z:Roots):Roots))⟩,⟨b4_2,True,(One r_2.1)⟩,⟨b7_9,True,(Ct.mix (One r_11) 1 (Sl b_16 p_16 0 l_18.length c_16))⟩]) ⟨0,False,0⟩ (Za (Za (Za (Za (Za (Zd _)))))) (Zc rfl (Zc rfl (Zc rfl (Zc rfl (Ze _))))) ?_;rintro ⟨x_16,l_18⟩ ⟨b_16,p_16,c_16⟩ x_19 H19 he19;dsimp only at H19;unfold ZgA at H19;refine zg ?_;refine zc H19 (fun hc H19=>?_) fun hc H19=>?_
     ·refine zC ?_;refine zX (Zff [1,20,22] [b7_9,b_16] mix (by kernel_rfl) (by kernel_rfl)) ?_;refine zX (Zfi (fun g=>Zgo rfl (ZS Zaa)) rfl) ?_;refine zb H19 fun _ _ H19=>?_
      refine zb H19 fun _ _ H19=>?_
      refine zb H19 fun _ _ H19=>?_
      refine zb H19 fun _ _ H19=>?_
      refine zb H19 fun _ _ H19=>?_
      refine zb H19 fun _ _ H19=>?_
      refine zb H19 fun x_26 _ H19=>?_
      refine TRx (OpY.buildSlice [.tmp 70] rfl rfl (by decide)) ?_;refine zn H19 fun _ eu_28 H19=>?_
      refine zX (Zfi (fun g=>OpT.appR (ys:=([x_26]:List Int)) inferInstance eu_28.h rfl rfl) rfl) ?_;refine Zdg (fun g=>(Zbc CtH.same)) rfl ?_;refine zC ?_;rintro ⟨⟨⟨_,_⟩,⟨b72_26,p72_26,c72_26⟩⟩,_⟩;dsimp only [Fam.nextS,Fam.nextN,Fam.one,List.cons_append,List.nil_append];refine zn H19 fun l_29 el_29 H19=>?_
      refine Zaf b72_26 (Zac el_29.h) ?_;refine zX (Zaf b7_9 (Zft (Zen el_29.h rfl))) ?_;refine zb H19 fun x_30 _ H19=>?_
      exact Zq ⟨x_30,l_29⟩ ⟨b72_26,p72_26,c72_26⟩ (ZZs H19) (Za (Za (Za (Za (Za (Zd _)))))) (Zc rfl (Zc rfl (Zc rfl (Zc rfl (Ze _)))))
     ·refine zg ?_;exact Zj l_18 ⟨b_16,p_16,c_16⟩ (he19 _ (ZZs H19)).symm (Za (Za (Zd _))) (Zc rfl (Zc rfl (Zc rfl (Ze _))))
    rintro l_14 ⟨b_12,p_12,c_12⟩ hp;replace hp:=hp.symm;subst hp;refine zg ?_;refine TS.coll b7_9 b_12 (o:=1) (((PF 1 Roots (List Int) Zx)).st (l_14:List Int)) (ZG PlS.all rfl) ?_;exact zY H
def ZeQ (l0:(List (List UInt8))) (at_9:Int) (found_10:Bool) (blank_11:Bool) (x_12:Int) (newest_13:Roots):Option ((Int×Bool×Bool×Int×Roots)⊕(Int×Bool×Bool×Roots)):=
 bif (decide (x_12<(l0.length:Int))) then (((idx l0 x_12).bind fun x_20=>(gb blank_11 (ZfF x_20)).bind fun x_21=>(Zg7 x_20).bind fun r_22=>bif ((decide (r_22.2=(0:Int)))&&((!found_10)||(decide (newest_13.Gen≤r_22.1.Gen)))) then (some (x_12,true,(blank_11&&x_21),r_22.1)) else (some (at_9,found_10,(blank_11&&x_21),newest_13))).bind fun o_19=>el4 o_19 (fun at_15 found_16 blank_17 newest_18=>(Zas x_12 1).bind fun x_24=>some (.inl (at_15,found_16,blank_17,x_24,newest_18)))) else (some (.inr (at_9,found_10,blank_11,newest_13)))
def Zez (l0:(List (List UInt8))):Option (Int×Roots×Int):=
 (some ((⟨0,[]⟩:Roots):Roots)).bind fun newest_3=>(ZM (fun s=>ZeQ l0 s.1 s.2.1 s.2.2.1 s.2.2.2.1 s.2.2.2.2) ((0:Int),false,true,(0:Int),newest_3)).bind fun o_8=>el4 o_8 (fun at_4 found_5 blank_6 newest_7=>bif found_5 then (some (at_4,newest_7,(0:Int))) else (bif blank_6 then ((some ((⟨0,[]⟩:Roots):Roots)).bind fun k_25=>some ((0:Int),k_25,(6:Int))) else ((some ((⟨0,[]⟩:Roots):Roots)).bind fun k_26=>some ((0:Int),k_26,(2:Int)))))
instance root_Newest_c:Fd1 144 Zez fun r=>Tup [D r.1,D r.2.1,D r.2.2]:=en1 Tryz.func144 rfl Tryz.ntmps144 fun A w hA l0 r H=>by
 unfold Zez at H;refine zg ?_;refine TS.alloc rfl fun b3_0=>zg ?_
 refine TSx (tB (⟨0,[]⟩:Roots) rfl rfl) ?_;refine TS.alloc rfl fun b6_1=>?_
 refine zC ?_;refine zn H fun _ enewest_3 H=>?_
 refine ZB b6_1 (Zah enewest_3.h) ?_;refine zC ?_;refine zh H fun o_8 H8 H=>?_
 refine Zn (fun s:(Int×Bool×Bool×Roots)=>o_8=s) (fun ⟨at_4,found_5,blank_6,newest_7⟩ (_:Unit)=>(Env.set (Env.set (Env.set (Env.set (Env.set Env.nil 3 (Pt b3_0 0)) 5 (D at_4)) 6 (Pt b6_1 0)) 7 (D found_5)) 8 (D blank_6))) (fun ⟨at_4,found_5,blank_6,newest_7⟩ (_:Unit)=>[⟨b3_0,True,(One ((Dat.z:Roots):Roots))⟩,⟨b6_1,True,(One newest_7)⟩]) ?_ ?_
 ·skip;refine Zp<|Zu H8 (fun ⟨at_9,found_10,blank_11,x_12,newest_13⟩ (_:Unit)=>(Env.set (Env.set (Env.set (Env.set (Env.set (Env.set (Env.set (Env.set Env.nil 3 (Pt b3_0 0)) 5 (D at_9)) 6 (Pt b6_1 0)) 7 (D found_10)) 8 (D blank_11)) 14 (D l0)) 15 (D ((l0.length:Int):Int))) 16 (D x_12))) (fun ⟨at_9,found_10,blank_11,x_12,newest_13⟩ (_:Unit)=>[⟨b3_0,True,(One ((Dat.z:Roots):Roots))⟩,⟨b6_1,True,(One newest_13)⟩]) () (Za (Za (Za (Za (Za (Za (Za (Za (Zd _))))))))) (Zc rfl (Zc rfl (Ze _))) ?_;rintro ⟨at_9,found_10,blank_11,x_12,newest_13⟩ ⟨⟩ x_14 H14 he14;dsimp only at H14;unfold ZeQ at H14;refine zg ?_;refine zc H14 (fun hc H14=>?_) fun hc H14=>?_
  ·refine Zaw<|Zan<|Zau ?_;refine zh H14 fun o_19 H19 H14=>?_
   refine Zn (fun s:(Int×Bool×Bool×Roots)=>o_19=s) (fun ⟨at_15,found_16,blank_17,newest_18⟩ (_:Unit)=>(Env.set (Env.set (Env.set (Env.set (Env.set (Env.set (Env.set (Env.set Env.nil 3 (Pt b3_0 0)) 5 (D at_15)) 6 (Pt b6_1 0)) 7 (D found_16)) 8 (D blank_17)) 14 (D l0)) 15 (D ((l0.length:Int):Int))) 16 (D x_12))) (fun ⟨at_15,found_16,blank_17,newest_18⟩ (_:Unit)=>[⟨b3_0,True,(One ((Dat.z:Roots):Roots))⟩,⟨b6_1,True,(One newest_18)⟩]) ?_ ?_
   ·skip;refine zg ?_;refine zb H19 fun _ _ H19=>?_
    refine zd H19 fun x_21 _ H19=>?_
    refine zb H19 fun r_22 _ H19=>?_
    refine TS.alloc rfl fun b11_22=>zg ?_
    refine zX (TS.gg 36 rfl (fun hp hg=>ZkA) rfl) ?_;refine zc H19 (fun hc H19=>?_) fun hc H19=>?_
    ·refine zX (Zff [3] [b6_1] mix (by kernel_rfl) (by kernel_rfl)) ?_;refine Zdg (fun g=>(Zw (y:=(r_22.1:Roots)) Zx)) rfl ?_;refine zC ?_;rintro ⟨_,_⟩;dsimp only [Fam.nextS,Fam.nextN,Fam.one,List.cons_append,List.nil_append];refine zg ?_;exact Zj ⟨x_12,true,(blank_11&&x_21),r_22.1⟩ () (ZZs H19) (Za (Za (Za (Za (Za (Za (Za (Za (Zd _))))))))) (Zc rfl (Zc rfl (Ze _)))
    ·refine zg ?_;exact Zj ⟨at_9,found_10,(blank_11&&x_21),newest_13⟩ () (ZZs H19) (Za (Za (Za (Za (Za (Za (Za (Za (Zd _))))))))) (Zc rfl (Zc rfl (Ze _)))
   rintro ⟨at_15,found_16,blank_17,newest_18⟩ ⟨⟩ hp;replace hp:=hp.symm;subst hp;replace H14:=el4_mk H14;refine zg ?_;refine zb H14 fun x_24 _ H14=>?_
   exact Zq ⟨at_15,found_16,blank_17,x_24,newest_18⟩ () (ZZs H14) (Za (Za (Za (Za (Za (Za (Za (Za (Zd _))))))))) (Zc rfl (Zc rfl (Ze _)))
  ·refine zg ?_;exact Zj ⟨at_9,found_10,blank_11,newest_13⟩ () (he14 _ (ZZs H14)).symm (Za (Za (Za (Za (Za (Zd _)))))) (Zc rfl (Zc rfl (Ze _)))
 rintro ⟨at_4,found_5,blank_6,newest_7⟩ ⟨⟩ hp;replace hp:=hp.symm;subst hp;replace H:=el4_mk H;refine zg ?_;refine zc H (fun hc H=>?_) fun hc H=>?_
 ·refine zX (ZaW [3] [b3_0] mix (by kernel_rfl) (by kernel_rfl)) ?_;refine Zdg (fun g=>(Zw (y:=(newest_7:Roots)) Zx)) rfl ?_;refine zC ?_;rintro ⟨_,_⟩;dsimp only [Fam.nextS,Fam.nextN,Fam.one,List.cons_append,List.nil_append];exact zY H
 ·refine zg ?_;refine zc H (fun hc H=>?_) fun hc H=>?_
  ·refine zg ?_;refine TSx (tB (⟨0,[]⟩:Roots) rfl rfl) ?_;exact zY H
  ·refine zg ?_;refine TSx (tB (⟨0,[]⟩:Roots) rfl rfl) ?_;exact zY H
end Go.Proofs.YtkmojgfenlgchaaGreatDoor.Tr
namespace Go.Proofs.YtkmojgfenlgchaaGreatDoor.Tr
open Go
def crcPoly:UInt32:=0xEDB88320
def crcBit (n:UInt32):UInt32:=UInt32.ofNat (n.toNat/2 ^ (1:Int).toNat) ^^^ crcPoly*(n &&& 1)
def crcBits:Nat→UInt32→UInt32
 | 0,n=>n
 | k+1,n=>crcBit (crcBits k n)
def ZgH (n:UInt32) (xs:List UInt8):UInt32:=xs.foldl (fun n x=>crcBits 8 (n ^^^ x.toUInt32)) n
def crcOn (s:UInt32) (xs:List UInt8):UInt32:= ~~~ZgH (~~~s) xs
def ZdD (xs:List UInt8):UInt64:=xs.foldl (fun n x=>UInt64.ofNat (n.toNat*2 ^ (8:Int).toNat) ||| x.toUInt64) 0
def byteAt (n:UInt64) (k:Nat):UInt8:=(UInt64.ofNat (n.toNat/2 ^ (8*(k:Int)).toNat)).toUInt8
def Zbk (n:UInt64):Nat→List UInt8
 | 0=>[]
 | k+1=>byteAt n k::Zbk n k
def Zkc (n:UInt64) (m:Int):List UInt8:=if 1≤m∧m≤8 then Zbk n m.toNat else []
theorem ZcY {α:Type} {xs:List α} {k:Nat} (hk:k<xs.length):xs.take (k+1)=xs.take k++[xs[k]]:=by
 rw [List.take_succ_eq_append_getElem hk]
theorem crc_step8 {n:UInt32} {xs:List UInt8} {k j:Nat} (hk:k<xs.length) (hj:j=8):crcBits j (ZgH n (xs.take k) ^^^ xs[k].toUInt32)=ZgH n (xs.take (k+1)):=by
 subst hj;rw [ZcY hk];unfold ZgH;rw [List.foldl_append];rfl
theorem getNum_step {xs:List UInt8} {k:Nat} (hk:k<xs.length):UInt64.ofNat ((ZdD (xs.take k)).toNat*2 ^ (8:Int).toNat) ||| xs[k].toUInt64=ZdD (xs.take (k+1)):=by
 rw [ZcY hk];unfold ZdD;rw [List.foldl_append];rfl
theorem or_add (n:UInt64) (x:UInt8):UInt64.ofNat (n.toNat*2 ^ (8:Int).toNat) ||| x.toUInt64=n*256+x.toUInt64:=by
 rw [← UInt64.toNat_inj,UInt64.toNat_or,UInt64.toNat_add,UInt64.toNat_mul,UInt64.toNat_ofNat',UInt8.toNat_toUInt64];have hx:=x.toNat_lt;have h1:(256:UInt64).toNat=256:=rfl;have h2:2 ^ (8:Int).toNat=256:=rfl;rw [h1,h2];have h3:n.toNat*256 % 2 ^ 64=(n.toNat % 2 ^ 56) <<< 8:=by
  rw [Nat.shiftLeft_eq];omega
 rw [h3,← Nat.shiftLeft_add_eq_or_of_lt (by omega),Nat.shiftLeft_eq];omega
theorem Zar (n:UInt64) (k:Nat):(Zbk n k).length=k:=by
 induction k with
 | zero=>rfl
 | succ k ih=>simp [Zbk,ih]
theorem putOf_none {n:UInt64} {m:Int} (h:m<1∨8<m):Zkc n m=[]:=by
 unfold Zkc;rw [if_neg (by omega)]
theorem put_step {n:UInt64} {m:Int} {k:Nat} (hk:k<m.toNat) (h:0≤m) :
  (List.replicate (m.toNat-k) 0++Zbk n k).set (m-1-(k:Int)).toNat (byteAt n k)=List.replicate (m.toNat-(k+1)) 0++Zbk n (k+1):=by
 have e1:(m-1-(k:Int)).toNat=m.toNat-(k+1):=by omega
 have e2:m.toNat-k=(m.toNat-(k+1))+1:=by omega
 rw [e1,e2,List.replicate_succ',List.append_assoc,List.set_append_right _ _ (by simp)];simp [Zbk]
theorem put_end {n:UInt64} {m:Int} {k:Nat} (hk:k=m.toNat) (h1:1≤m) (h2:m≤8):List.replicate (m.toNat-k) 0++Zbk n k=Zkc n m:=by
 subst hk;unfold Zkc;rw [if_pos ⟨h1,h2⟩];simp
theorem ZiP {n:UInt64} {m:Int} (h1:1≤m) (h2:m≤8):Zkc n m=Zbk n m.toNat:=by unfold Zkc;rw [if_pos ⟨h1,h2⟩]
theorem putOf_le (n:UInt64) (m:Int):(Zkc n m).length≤8:=by
 unfold Zkc;split
 ·rw [Zar];omega
 ·simp
theorem Zio {α:Type} {xss:List (List α)} {k:Nat} (hk:k<xss.length):(xss.take (k+1)).flatten=(xss.take k).flatten++xss[k]:=by
 rw [ZcY hk,List.flatten_append];simp
theorem Zin {α:Type} (xss:List (List α)) (k:Nat):(xss.take k).flatten.length≤xss.flatten.length:=by
 have h:=List.take_append_drop k xss;have h2:(xss.take k).flatten++(xss.drop k).flatten=xss.flatten:=by rw [← List.flatten_append,h]
 rw [← h2,List.length_append];omega
theorem flat_le {α:Type} {xss:List (List α)} {k:Nat} (hk:k<xss.length):(xss.take k).flatten.length+xss[k].length≤xss.flatten.length:=by
 have:=Zin xss (k+1);rw [Zio hk,List.length_append] at this;exact this
def Zbz (xs:List UInt8):List UInt8:=xs++Zkc (crcOn 0 xs).toUInt64 4
theorem Zlu (n:UInt64) (k:Nat):(byteAt n k).toNat=n.toNat/256 ^ k % 256:=by
 unfold byteAt;have h1:n.toNat/2 ^ (8*(k:Int)).toNat<2 ^ 64:=Nat.lt_of_le_of_lt (Nat.div_le_self _ _) n.toNat_lt;rw [UInt64.toNat_toUInt8,UInt64.toNat_ofNat_of_lt' h1];rw [show (8*(k:Int)).toNat=8*k by omega,Nat.pow_mul]
def Zh1 (xs:List UInt8):Nat:=xs.foldl (fun n x=>n*256+x.toNat) 0
theorem natNum_from (xs:List UInt8) (a:Nat):xs.foldl (fun n x=>n*256+x.toNat) a=a*256 ^ xs.length+Zh1 xs:=by
 unfold Zh1
 induction xs generalizing a with
 | nil=>simp
 | cons x xs ih=>
  simp only [List.foldl_cons,List.length_cons];rw [ih,ih (0*256+x.toNat),Nat.pow_succ,Nat.zero_mul,Nat.zero_add,Nat.add_mul,Nat.mul_comm (256 ^ xs.length) 256,← Nat.mul_assoc];omega
theorem ZjD (x:UInt8) (xs:List UInt8):Zh1 (x::xs)=x.toNat*256 ^ xs.length+Zh1 xs:=by
 show (xs.foldl _ (0*256+x.toNat))=_;rw [natNum_from];simp
theorem Zkg (xs:List UInt8):Zh1 xs<256 ^ xs.length:=by
 induction xs with
 | nil=>simp [Zh1]
 | cons x xs ih=>
  rw [ZjD,List.length_cons,Nat.pow_succ];have:=x.toNat_lt;have h:x.toNat*256 ^ xs.length≤255*256 ^ xs.length:=Nat.mul_le_mul_right _ (by omega);omega
theorem natNum_put (n:UInt64) (k:Nat):Zh1 (Zbk n k)=n.toNat % 256 ^ k:=by
 induction k with
 | zero=>simp [Zbk,Zh1,Nat.mod_one]
 | succ k ih=>
  rw [Zbk,ZjD,ih,Zar,Zlu,Nat.pow_succ,Nat.mod_mul];rw [Nat.mul_comm (256 ^ k)];omega
theorem ZiX (xs:List UInt8):(ZdD xs).toNat=Zh1 xs % 2 ^ 64:=by
 have h:∀ (xs:List UInt8) (a:UInt64) (b:Nat),a.toNat=b % 2 ^ 64→(xs.foldl (fun n x=>UInt64.ofNat (n.toNat*2 ^ (8:Int).toNat) ||| x.toUInt64) a).toNat=(xs.foldl (fun n x=>n*256+x.toNat) b) % 2 ^ 64:=by
  intro xs
  induction xs with
  | nil=>intro a b h;simpa using h
  | cons x xs ih=>
   intro a b h;simp only [List.foldl_cons];refine ih _ _ ?_;rw [or_add,UInt64.toNat_add,UInt64.toNat_mul,UInt8.toNat_toUInt64,h];show (b % 2 ^ 64*256 % 2 ^ 64+x.toNat) % 2 ^ 64=_;omega
 exact h xs 0 0 rfl
theorem get_put (n:UInt64) {k:Nat} (hk:k≤8):(ZdD (Zbk n k)).toNat=n.toNat % 256 ^ k:=by
 rw [ZiX,natNum_put];have:256 ^ k≤2 ^ 64:=Nat.le_trans (Nat.pow_le_pow_right (by decide) hk) (by decide);have h2:n.toNat % 256 ^ k<256 ^ k:=Nat.mod_lt _ (Nat.pow_pos (by decide));omega
theorem put_get (xs:List UInt8) (h:xs.length≤8):Zbk (ZdD xs) xs.length=xs:=by
 have hval:(ZdD xs).toNat=Zh1 xs:=by
  rw [ZiX];have h1:=Zkg xs;have:256 ^ xs.length≤2 ^ 64:=Nat.le_trans (Nat.pow_le_pow_right (by decide) h) (by decide);omega
 have key:∀ (ys:List UInt8) (n:UInt64),(∃ c,n.toNat=c*256 ^ ys.length+Zh1 ys)→Zbk n ys.length=ys:=by
  intro ys
  induction ys with
  | nil=>intro n _;rfl
  | cons y ys ih=>
   intro n ⟨c,hc⟩;rw [ZjD,List.length_cons,Nat.pow_succ] at hc;have hlt:=Zkg ys;have hy:=y.toNat_lt;have hp:0<256 ^ ys.length:=Nat.pow_pos (by decide);have hc2:n.toNat=(c*256+y.toNat)*256 ^ ys.length+Zh1 ys:=by rw [hc,Nat.add_mul,Nat.mul_assoc,Nat.mul_comm 256];omega
   show byteAt n ys.length::Zbk n ys.length=y::ys;rw [ih n ⟨_,hc2⟩];congr 1;rw [← UInt8.toNat_inj,Zlu,hc2,Nat.mul_comm (c*256+y.toNat),Nat.mul_add_div hp,Nat.div_eq_of_lt hlt];omega
 exact key xs _ ⟨0,by rw [hval];simp⟩
theorem sum_bytes {s:UInt32} {ys:List UInt8} (hy:ys.length=4):s.toUInt64=ZdD ys↔Zkc s.toUInt64 4=ys:=by
 rw [ZiP (by decide) (by decide)]
 constructor
 ·intro h;rw [h];have:=put_get ys (by omega);rw [hy] at this;exact this
 ·intro h;have h1:=get_put s.toUInt64 (k:=(4:Int).toNat) (by decide);rw [h] at h1;rw [← UInt64.toNat_inj,h1];have h2:s.toUInt64.toNat=s.toNat:=by simp
  have:=s.toNat_lt;rw [h2];show s.toNat=s.toNat % 256 ^ 4;omega
theorem sealed_iff {xs:List UInt8} (h:¬ xs.length<4):Zbz (xs.take (xs.length-4))=xs↔(crcOn 0 (xs.take (xs.length-4))).toUInt64=ZdD (xs.drop (xs.length-4)):=by
 have e:=List.take_append_drop (xs.length-4) xs;have hl:(xs.drop (xs.length-4)).length=4:=by simp;omega
 rw [sum_bytes hl];unfold Zbz
 constructor
 ·intro h1;rw [← List.append_cancel_left_eq (xs.take (xs.length-4)),h1,e]
 ·intro h1;rw [h1,e]
def stOf (d:List UInt8) (c:UInt32):List UInt8:=d++Zbk c.toUInt64 4
theorem stOf_length (d:List UInt8) (c:UInt32):(stOf d c).length=d.length+4:=by simp [stOf,Zar]
theorem Zj7 (d:List UInt8):Zbz d=stOf d (crcOn 0 d):=by
 unfold Zbz stOf;rw [ZiP (by decide) (by decide)];rfl
theorem Zhy (b:List UInt8):(Zbz b).length=b.length+4:=by rw [Zj7,stOf_length]
theorem sum_On_eq (s:UInt32) (b:List UInt8) (hb:b.length≤1000000):sum_On s b=some (crcOn s b):=by
 unfold sum_On;refine (Zbi (ZQ (fun i=>(ZgH (~~~s) (b.take i),(i:Int))) b.length (e:=ZgH (~~~s) b) (by omega) (fun i hi=>?_) ?_ rfl)).trans ?_
 rotate_right
 ·rfl
 ·unfold Zj3;dsimp only;rw [Zej hi,Zr,Zz hi,Zb];refine (Zbi (ZQ (fun k=>(crcBits k (ZgH (~~~s) (b.take i) ^^^ b[i].toUInt32),(k:Int))) 8 (e:=ZgH (~~~s) (b.take (i+1))) (by omega) (fun k hk=>?_) ?_ rfl)).trans ?_
  rotate_right
  ·rw [ZN (by omega),Zb]
  ·unfold Zj2;dsimp only;rw [show decide ((k:Int)<(8:Int))=true by simp;omega,Zr,Zb,Zb,ZN (by omega),Zb];rfl
  ·unfold Zj2;dsimp only;rw [show decide (((8:Nat):Int)<(8:Int))=false by decide,Zo,crc_step8 hi rfl]
 ·unfold Zj3;dsimp only;rw [Zh6,Zo,List.take_length]
theorem sum_Of_eq (b:List UInt8) (hb:b.length≤1000000):sum_Of b=some (crcOn 0 b):=by
 unfold sum_Of;rw [show (UInt32.ofNat 0)=0 from rfl,sum_On_eq 0 b hb,Zb]
theorem ZkQ (b:List UInt8) (hb:b.length≤1000000):Zjv b=some (ZdD b):=by
 unfold Zjv;refine (Zbi (ZQ (fun i=>(ZdD (b.take i),(i:Int))) b.length (e:=ZdD b) (by omega) (fun i hi=>?_) ?_ rfl)).trans ?_
 rotate_right
 ·rfl
 ·unfold ZiM;dsimp only;rw [Zej hi,Zr,Zz hi,Zb,Zb,ZN (by omega),Zb,← getNum_step hi];rfl
 ·unfold ZiM;dsimp only;rw [Zh6,Zo,List.take_length]
theorem ZkP (n:UInt64) (m:Int):Zju n m=some (Zkc n m):=by
 unfold Zju
 by_cases h:1≤m∧m≤8
 ·obtain ⟨k,rfl⟩:=Int.eq_ofNat_of_zero_le (show 0≤m by omega);have hk:1≤k∧k≤8:=by omega
  rw [Zh (by simp;omega),ZaA (by omega) (by omega) (by omega),Zb,Zb];refine (Zbi (ZQ (fun i=>((i:Int),(List.replicate (k-i) (Dat.z:UInt8)++Zbk n i))) k (e:=Zkc n k) (by omega) (fun i hi=>?_) ?_ (by simp [Zbk]))).trans ?_
  rotate_right
  ·rfl
  ·unfold ZiL;dsimp only;rw [List.length_replicate,Int.toNat_natCast,Zej hi,Zr,ZaN (by omega) (by omega),Zb,ZaN (by omega) (by omega),Zb,ZjE (by omega) (by omega),Zb];rw [show cnt (8*(i:Int))=some (8*i) by unfold cnt;rw [if_pos (by omega)];congr 1,Zb];rw [idx_of (by omega) (by simp [Zar];omega),Zb,Zb,ZN (by omega),Zb];have h1:=put_step (n:=n) (m:=k) (k:=i) (by simpa using hi) (by omega);rw [Int.toNat_natCast] at h1;exact congrArg (fun z:List UInt8=>some (Sum.inl (((i+1:Nat):Int),z))) h1
  ·unfold ZiL;dsimp only;rw [List.length_replicate,Int.toNat_natCast,Zh6,Zo];have h1:=put_end (n:=n) (m:=k) (k:=k) rfl (by omega) (by omega);rw [Int.toNat_natCast] at h1;exact congrArg (fun z:List UInt8=>some (Sum.inr z)) h1
 ·rw [Zi (by simp;omega),putOf_none (by omega)]
theorem concat2_eq (a b:List UInt8) (ha:a.length≤1000000) (hb:b.length≤1000000):ZbW [a,b]=some (a++b):=by
 unfold ZbW;refine (Zbi (ZQ (fun i=>((([a,b].take i).flatten.length:Int),(i:Int))) 2 (e:=((a++b).length:Int)) (by omega) (fun i hi=>?_) ?_ rfl)).trans ?_
 rotate_right
 ·unfold ZdI;rw [Zh (by simp;omega),ZaN (by omega) (by omega),Zb,ZaN (by simp;omega) (by simp;omega),Zb];have e:∀ x:List UInt8,x=[]→(some x).bind (fun s_2=>some s_2)=some ([]:List UInt8):=fun x h=>by rw [h,Zb]
  have e9:(bif decide ((((a++b).length:Int))-((0:Int)-0)>(0:Int)) then ((Zdv 1 ((((a++b).length:Int))-((0:Int)-0))).bind fun u_6=>(posI ((((a++b).length:Int))-((0:Int)-0))).bind fun u_7=>(cut (List.replicate (Int.toNat ((((a++b).length:Int))-((0:Int)-0))) (Dat.z:UInt8)).length 0 (0:Int)).bind fun u_9=>(some (((List.replicate (Int.toNat ((((a++b).length:Int))-((0:Int)-0))) (Dat.z:UInt8)).take (Int.toNat (0:Int))):(List UInt8))).bind fun l_10=>some l_10) else (some []))=some ([]:List UInt8):=by
   by_cases h0:0<(a++b).length
   ·rw [Zi (by simp at h0 ⊢;omega),ZaA (by simp;omega) (by simp;omega) (by simp;omega),Zb,posI_ok (by simp at h0 ⊢;omega),Zb,Zep (by omega) (by omega) (by simp;omega),Zb,Zb];simp
   ·rw [Zh (by simp at h0 ⊢;simp [h0])]
  rw [Zbi e9,Zb];refine (Zbi (ZQ (fun i=>((i:Int),([a,b].take i).flatten)) 2 (e:=a++b) (by omega) (fun i hi=>?_) ?_ rfl)).trans ?_
  rotate_right
  ·rfl
  ·unfold ZbU;dsimp only;rw [show decide ((i:Int)<(([a,b].length:Nat):Int))=true by simp;omega,Zr,Zz (show i < [a,b].length by simpa using hi),Zb];have h1:=Zio (xss:=[a,b]) (k:=i) (by simpa using hi);have h2:([a,b].take i).flatten.length+([a,b][i]'(by simpa using hi)).length≤2000000:=by
    rw [← List.length_append,← h1];have:=Zin [a,b] (i+1);have e3:[a,b].flatten.length=a.length+b.length:=by simp
    omega
   rw [ZaA (by omega) (by omega) (by omega),Zb,Zb,ZN (by omega),Zb,← h1]
  ·unfold ZbU;dsimp only;rw [show decide (((2:Nat):Int)<(([a,b].length:Nat):Int))=false by simp,Zo];simp
 ·unfold ZbV;dsimp only;rw [show decide ((i:Int)<(([a,b].length:Nat):Int))=true by simp;omega,Zr,Zz (show i < [a,b].length by simpa using hi),Zb];have h1:=Zio (xss:=[a,b]) (k:=i) (by simpa using hi);have h2:([a,b].take i).flatten.length+([a,b][i]'(by simpa using hi)).length≤2000000:=by
   rw [← List.length_append,← h1];have:=Zin [a,b] (i+1);have e3:[a,b].flatten.length=a.length+b.length:=by simp
   omega
  rw [ZZ (by omega) (by omega),Zb,Zh (by simp;omega),ZN (by omega),Zb,h1,List.length_append];rfl
 ·unfold ZbV;dsimp only;rw [show decide (((2:Nat):Int)<(([a,b].length:Nat):Int))=false by simp,Zo];simp
def Zgm (s:Int):Prop:=24≤s∧s≤256
instance {s:Int}:Decidable (Zgm s):=by unfold Zgm;exact inferInstance
def PMay (p:Page) (s:Int):Prop:=Zgm s∧(p.Kind=1∨p.Kind=2)∧0≤p.Id∧p.Id<64∧p.Gen<UInt64.ofNat 281474976710656∧(p.Body.length:Int)≤s-16
instance {p:Page} {s:Int}:Decidable (PMay p s):=by unfold PMay;exact inferInstance
theorem ZgD (s:Int):Zf1 s=some (decide (Zgm s)):=by
 unfold Zf1;congr 1;rw [Bool.eq_iff_iff];simp only [Bool.and_eq_true,decide_eq_true_eq,ge_iff_le];rfl
theorem and_gb {c:Bool} {r d:Int} {P:Int→Bool}:(c&&P (bif c then r else d))=(c&&P r):=by cases c <;> rfl
def Zee (s:Int):Int:=if Zgm s then s-16 else 0
theorem ZcZ (s:Int):Zc0 s=some (Zee s):=by
 unfold Zc0 Zee;rw [ZgD,Zb]
 by_cases h:Zgm s
 ·have h2:=h;unfold Zgm at h2;rw [Zh (by simp [h]),ZaN (by omega) (by omega),Zb,if_pos h]
 ·rw [Zi (by simp [h]),if_neg h]
theorem Zms (p:Page) (s:Int):ZiQ p s=some (decide (PMay p s)):=by
 unfold ZiQ;rw [ZgD,Zb,Zim (ZcZ s),Zb,and_gb (P:=fun r=>decide ((p.Body.length:Int)≤r))];congr 1;rw [Bool.eq_iff_iff];simp only [Bool.and_eq_true,Bool.or_eq_true,decide_eq_true_eq];unfold PMay Zee
 constructor
 ·rintro ⟨⟨⟨⟨⟨h1,h2⟩,h3⟩,h4⟩,h5⟩,h6⟩;rw [if_pos h1] at h6;exact ⟨h1,h2,h3,h4,h5,h6⟩
 ·rintro ⟨h1,h2,h3,h4,h5,h6⟩;rw [if_pos h1];exact ⟨⟨⟨⟨⟨h1,h2⟩,h3⟩,h4⟩,h5⟩,h6⟩
theorem blank_loop {f:Int→Option (Int⊕(Unit⊕Bool))} {b:List UInt8} (hb:b.length≤1000000000000000)
  (h1:∀ i,(hi:i<b.length)→b[i]≠255→f (i:Int)=some (.inr (.inr false))) (h2:∀ i,(hi:i<b.length)→b[i]=255→f (i:Int)=some (.inl ((i+1:Nat):Int))) (h3:f (b.length:Int)=some (.inr (.inl ()))) :
  ((ZM f (0:Int)).bind fun o=>elS o (fun _=>some true) (fun q=>some q))=some (decide (∀ x∈b,x=255)):=by
 rcases ZfG (f:=f) (fun i=>(i:Int)) b.length (fun i=>decide (b.getD i 255≠255)) (fun _=>.inr false) (y:=.inl ()) (by omega)
  (fun i hi hp=>h2 i hi (by simpa [List.getD_eq_getElem?_getD,List.getElem?_eq_getElem hi] using hp))
  (fun i hi hp=>h1 i hi (by simpa [List.getD_eq_getElem?_getD,List.getElem?_eq_getElem hi] using hp)) h3 (s:=(0:Int)) rfl with ⟨i,hi,hp,-,e⟩ | ⟨hall,e⟩
 ·rw [e,Zb,ZaY];congr 1
  symm
  simp only [decide_eq_false_iff_not];intro h;have:=h _ (List.getElem_mem hi);simp [List.getD_eq_getElem?_getD,List.getElem?_eq_getElem hi,this] at hp
 ·rw [e,Zb,Zaj];congr 1
  symm
  simp only [decide_eq_true_eq];intro x hx;obtain ⟨j,hj,rfl⟩:=List.getElem_of_mem hx;have:=hall j hj;simpa [List.getD_eq_getElem?_getD,List.getElem?_eq_getElem hj] using this
theorem Zkd (b:List UInt8) (hb:b.length≤1000000000000000):ZfF b=some (decide (∀ x∈b,x=255)):=by
 unfold ZfF;refine blank_loop hb (fun i hi hx=>?_) (fun i hi hx=>?_) ?_ <;> unfold ZhD
 ·rw [Zej hi,Zr,Zz hi,Zb,Zi (by simpa using hx)]
 ·rw [Zej hi,Zr,Zz hi,Zb,Zh (by simpa using hx),ZN (by omega),Zb]
 ·rw [Zh6,Zo]
def Zig (p:Page):List UInt8:=[UInt8.ofInt p.Kind,UInt8.ofInt p.Id]++Zbk p.Gen 6++Zbk (UInt64.ofNat p.Body.length) 2
def ZbA (p:Page) (n:Nat):List UInt8:=Zig p++p.Body++List.replicate (n-14-p.Body.length) 0
def PutV (p:Page) (s:Int):List UInt8×Int:=if PMay p s then (Zbz (ZbA p s.toNat),0) else ([],1)
theorem ZgE (p:Page):(Zig p).length=10:=by simp [Zig,Zar]
theorem Zke {p:Page} {s:Int} (h:PMay p s):(ZbA p s.toNat).length=s.toNat-4:=by
 obtain ⟨⟨h1,h2⟩,-,-,-,-,h3⟩:=h;simp [ZbA,ZgE];omega
theorem Zj4 {a b ys:List UInt8} {k m:Nat} (hk:k=a.length) (hm:m≤b.length) (hy:ys.length≤m):splice (a++b) k (over (((a++b).drop k).take m) ys)=a++ys++b.drop ys.length:=by
 subst hk;unfold splice over;rw [List.drop_left,List.take_left];have e1:(b.take m).length=m:=by simp;omega
 rw [e1,List.take_of_length_le hy];have e2:(ys++(b.take m).drop ys.length).length=m:=by simp;omega
 rw [e2,← List.drop_drop,List.drop_left,List.append_assoc,List.append_assoc,List.append_assoc];congr 2;have:b.drop ys.length=(b.take m).drop ys.length++b.drop m:=by
  have h:=congrArg (List.drop ys.length) (List.take_append_drop m b);rw [List.drop_append_of_le_length (by omega)] at h;exact h.symm
 rw [this]
theorem ZhC (p:Page) (s:Int):Zfr p s=some (PutV p s):=by
 unfold Zfr PutV;rw [Zms,Zb]
 by_cases h:PMay p s
 ·rw [Zh (by simp [h]),if_pos h];have hm:=h;obtain ⟨⟨h1,h2⟩,h3,h4,h5,h6,h7⟩:=h;obtain ⟨n,rfl⟩:=Int.eq_ofNat_of_zero_le (show 0≤s by omega);rw [ZaN (by omega) (by omega),Zb,ZaA (by omega) (by omega) (by omega),Zb,Zb];have e0:List.replicate (Int.toNat ((n:Int)-4)) (Dat.z:UInt8)=[0,0]++List.replicate (n-6) 0:=by
   rw [show ((n:Int)-4).toNat=(n-6)+1+1 by omega,List.replicate_succ,List.replicate_succ];rfl
  rw [e0,idx_of (by omega) (by simp;omega),Zb];rw [idx_of (by omega) (by simp;omega),Zb,Zb];have e1:(([0,0]++List.replicate (n-6) (0:UInt8)).set (Int.toNat (0:Int)) (UInt8.ofInt p.Kind)).set (Int.toNat (1:Int)) (UInt8.ofInt p.Id)=[UInt8.ofInt p.Kind,UInt8.ofInt p.Id]++List.replicate (n-6) (0:UInt8):=rfl;rw [e1,Zep (by omega) (by omega) (by simp;omega),Zb,ZkP,Zb,Zb];have e2:splice ([UInt8.ofInt p.Kind,UInt8.ofInt p.Id]++List.replicate (n-6) (0:UInt8)) (Int.toNat 2) (over ((([UInt8.ofInt p.Kind,UInt8.ofInt p.Id]++List.replicate (n-6) (0:UInt8)).drop (Int.toNat 2)).take ((8:Int)-2).toNat) (Zkc p.Gen 6))=([UInt8.ofInt p.Kind,UInt8.ofInt p.Id]++Zbk p.Gen 6)++List.replicate (n-12) (0:UInt8):=by
   rw [ZiP (by omega) (by omega),Zj4 (k:=Int.toNat 2) rfl (by simp;omega) (by simp [Zar]),Zar,List.drop_replicate];congr 2
  rw [e2,Zep (by omega) (by omega) (by simp [Zar];omega),Zb,ZkP,Zb,Zb];have e3:splice (([UInt8.ofInt p.Kind,UInt8.ofInt p.Id]++Zbk p.Gen 6)++List.replicate (n-12) (0:UInt8)) (Int.toNat 8) (over (((([UInt8.ofInt p.Kind,UInt8.ofInt p.Id]++Zbk p.Gen 6)++List.replicate (n-12) (0:UInt8)).drop (Int.toNat 8)).take ((10:Int)-8).toNat) (Zkc (UInt64.ofInt (p.Body.length:Int)) 2))=Zig p++List.replicate (n-14) (0:UInt8):=by
   rw [ZiP (by omega) (by omega),Zj4 (by simp [Zar]) (by simp;omega) (by simp [Zar]),Zar,List.drop_replicate];unfold Zig;have e9:UInt64.ofInt (p.Body.length:Int)=UInt64.ofNat p.Body.length:=by
    unfold UInt64.ofInt;rw [← UInt64.toNat_inj,UInt64.toNat_ofNat',UInt64.toNat_ofNat'];omega
   rw [e9];congr 2
  rw [e3];have hl:(Zig p++List.replicate (n-14) (0:UInt8)).length=n-4:=by simp [ZgE];omega
  rw [Zep (by omega) (by omega) (by omega),Zb,Zb];have e4:splice (Zig p++List.replicate (n-14) (0:UInt8)) (Int.toNat 10) (over (((Zig p++List.replicate (n-14) (0:UInt8)).drop (Int.toNat 10)).take (((Zig p++List.replicate (n-14) (0:UInt8)).length:Nat)-(10:Int):Int).toNat) p.Body)=ZbA p n:=by
   rw [Zj4 (by rw [ZgE];rfl) (by rw [hl];simp;omega) (by rw [hl];omega),List.drop_replicate];rfl
  rw [e4];have hi:=Zke hm;rw [Int.toNat_natCast] at hi;rw [sum_Of_eq _ (by omega),Zb,ZkP,Zb,concat2_eq _ _ (by omega) (by have:=putOf_le (crcOn 0 (ZbA p n)).toUInt64 4;omega),Zb,Int.toNat_natCast];rfl
 ·rw [Zi (by simp [h]),if_neg h]
def Page0:Page:=⟨0,0,0,[]⟩
def ZdC (b:List UInt8):Nat:=(ZdD ((b.take 10).drop 8)).toNat
def pOf (b:List UInt8):Page:=⟨((b.getD 0 0).toNat:Int),((b.getD 1 0).toNat:Int),ZdD ((b.take 8).drop 2),(b.take (10+ZdC b)).drop 10⟩
def PForm (b:List UInt8):Prop:=(b.getD 0 0=1∨b.getD 0 0=2)∧(b.getD 1 0).toNat<64∧16+ZdC b≤b.length∧∀ x∈(b.take (b.length-4)).drop (10+ZdC b),x=0
instance {b:List UInt8}:Decidable (PForm b):=by unfold PForm;exact inferInstance
def PSum (b:List UInt8):Prop:=ZdD (b.drop (b.length-4))=(crcOn 0 (b.take (b.length-4))).toUInt64
instance {b:List UInt8}:Decidable (PSum b):=by unfold PSum;exact inferInstance
def Zds (b:List UInt8):Page×Int:=
 if ¬ Zgm b.length then (Page0,3) else if ∀ x∈b,x=255 then (Page0,0) else if ¬ PSum b then (Page0,4) else if ¬ PForm b then (Page0,2) else (pOf b,0)
theorem pMany_lt (b:List UInt8):ZdC b<65536:=by
 unfold ZdC;rw [ZiX];have h:=Zkg ((b.take 10).drop 8);have h2:((b.take 10).drop 8).length≤2:=by simp;omega
 have h3:256 ^ ((b.take 10).drop 8).length≤256 ^ 2:=Nat.pow_le_pow_right (by omega) h2;omega
theorem gen_lt (b:List UInt8):ZdD ((b.take 8).drop 2)<UInt64.ofNat 281474976710656:=by
 rw [UInt64.lt_iff_toNat_lt,ZiX];have h:=Zkg ((b.take 8).drop 2);have h2:((b.take 8).drop 2).length≤6:=by simp;omega
 have h3:256 ^ ((b.take 8).drop 2).length≤256 ^ 6:=Nat.pow_le_pow_right (by omega) h2;have h4:(UInt64.ofNat 281474976710656).toNat=281474976710656:=by decide
 omega
theorem zeros_loop {f:Int→Option (Int⊕(Unit⊕(Page×Int)))} {c:List UInt8} {k:Nat} {y:Page×Int} (hc:c.length≤1000000)
  (h1:∀ i,(hi:i<c.length)→c[i]≠0→f ((k+i:Nat):Int)=some (.inr (.inr y))) (h2:∀ i,(hi:i<c.length)→c[i]=0→f ((k+i:Nat):Int)=some (.inl ((k+(i+1):Nat):Int))) (h3:f ((k+c.length:Nat):Int)=some (.inr (.inl ()))) :
  ((∀ x∈c,x=0)∧ZM f (k:Int)=some (.inl ()))∨((¬ ∀ x∈c,x=0)∧ZM f (k:Int)=some (.inr y)):=by
 rcases ZfG (f:=f) (fun i=>((k+i:Nat):Int)) c.length (fun i=>decide (c.getD i 0≠0)) (fun _=>.inr y) (y:=.inl ()) (by omega)
  (fun i hi hp=>h2 i hi (by simpa [List.getD_eq_getElem?_getD,List.getElem?_eq_getElem hi] using hp))
  (fun i hi hp=>h1 i hi (by simpa [List.getD_eq_getElem?_getD,List.getElem?_eq_getElem hi] using hp)) h3 (s:=(k:Int)) rfl with ⟨i,hi,hp,-,e⟩ | ⟨hall,e⟩
 ·refine .inr ⟨fun h=>?_,e⟩;have:=h _ (List.getElem_mem hi);simp [List.getD_eq_getElem?_getD,List.getElem?_eq_getElem hi,this] at hp
 ·refine .inl ⟨fun x hx=>?_,e⟩;obtain ⟨j,hj,rfl⟩:=List.getElem_of_mem hx;have:=hall j hj;simpa [List.getD_eq_getElem?_getD,List.getElem?_eq_getElem hj] using this
theorem getD_of {b:List UInt8} {i:Nat} (h:i<b.length):b.getD i 0=b[i]:=by rw [List.getD_eq_getElem?_getD,List.getElem?_eq_getElem h];rfl
theorem idx_D {b:List UInt8} {i:Nat} {k:Int} (hk:k=i) (h:i<b.length):idx b k=some (b.getD i 0):=by subst hk;rw [Zz h,getD_of h]
theorem ZkK (x:UInt8):((x.toNat:Int)=1↔x=1)∧((x.toNat:Int)=2↔x=2):=by
 constructor
 ·rw [← UInt8.toNat_inj];show _↔x.toNat=1;omega
 ·rw [← UInt8.toNat_inj];show _↔x.toNat=2;omega
theorem page_Read_eq (b:List UInt8) (hb:b.length≤1000000):ZdA b=some (Zds b):=by
 unfold ZdA Zds;rw [ZgD,Zb]
 by_cases h1:Zgm b.length
 ·have h1':=h1;unfold Zgm at h1';rw [Zh (by simp [h1]),if_neg (by simp [h1]),Zkd b (by omega),Zb]
  by_cases h2:∀ x∈b,x=255
  ·rw [Zi (by simpa using h2),if_pos h2,Zb];rfl
  ·rw [Zh (by simpa using h2),if_neg h2,ZaN (by omega) (by omega),Zb,Zep (by omega) (by omega) (by omega),Zb,Zb,Zep (by omega) (by omega) (by omega),Zb,Zb,Zb,
    ZkQ _ (by simp;omega),Zb,sum_Of_eq _ (by simp;omega),Zb]
   rw [show ((b.length:Int)-4).toNat=b.length-4 by omega]
   by_cases h3:PSum b
   ·rw [Zh (by unfold PSum at h3;simpa using h3),if_neg (by simp [h3]),idx_D (b:=b) (i:=0) (k:=0) rfl (by omega),Zb,idx_D (b:=b) (i:=1) (k:=1) rfl (by omega),Zb,Zep (by omega) (by omega) (by omega),Zb,ZkQ _ (by simp;omega),Zb,Zb,
     Zep (by omega) (by omega) (by omega),Zb,ZkQ _ (by simp;omega),Zb]
    have hm:=pMany_lt b;have e0:((ZdD ((b.take (Int.toNat 10)).drop (Int.toNat 8))).toNat:Int)=(ZdC b:Int):=rfl;rw [e0,Zmv (by omega) (by omega),Zb,ZcZ,Zb,Zim (Zms _ _),Zb];have hr:Zee b.length=b.length-16:=by unfold Zee;rw [if_pos h1]
    rw [hr]
    by_cases h4:(b.getD 0 0=1∨b.getD 0 0=2)∧(b.getD 1 0).toNat<64∧16+ZdC b≤b.length
    ·obtain ⟨g1,g2,g3⟩:=h4;have hmay:PMay ⟨((b.getD 0 0).toNat:Int),((b.getD 1 0).toNat:Int),ZdD ((b.take (Int.toNat 8)).drop (Int.toNat 2)),[]⟩ b.length:=by
      refine ⟨h1,?_,by dsimp only;omega,by dsimp only;omega,gen_lt b,by simp;omega⟩;rcases g1 with g | g
      ·exact .inl ((ZkK _).1.2 g)
      ·exact .inr ((ZkK _).2.2 g)
     have d0:decide ((ZdC b:Int)>(b.length:Int)-16)=false:=by simp;omega
     rw [d0,decide_eq_true hmay];rw [show ((false || !bif !false then true else default):Bool)=false from rfl,Zo,ZZ (by omega) (by omega),Zb,Zep (by omega) (by simp;omega) (by simp),Zb];have hz:=zeros_loop (f:=fun s=>ZdO (b.take (b.length-4)) (10+(ZdC b:Int)) s) (c:=(b.take (b.length-4)).drop (10+ZdC b)) (k:=0) (y:=(Page0,2)) (by simp;omega) (fun i hi hx=>by
       unfold ZdO;rw [show (10+(ZdC b:Int)).toNat=10+ZdC b by omega,Nat.zero_add,Zej hi,Zr,Zz hi,Zb,Zi (by simpa using hx),Zb];rfl) (fun i hi hx=>by
       unfold ZdO;rw [show (10+(ZdC b:Int)).toNat=10+ZdC b by omega,Nat.zero_add,Nat.zero_add,Zej hi,Zr,Zz hi,Zb,Zh (by simpa using hx),ZN (by simp at hi;omega),Zb]) (by
       unfold ZdO;rw [show (10+(ZdC b:Int)).toNat=10+ZdC b by omega,Nat.zero_add,Zh6,Zo])
     rcases hz with ⟨z1,z2⟩ | ⟨z1,z2⟩
     ·rw [show ((0:Int))=((0:Nat):Int) from rfl,z2,Zb,Zaj,if_neg (by rw [Decidable.not_not];exact ⟨g1,g2,g3,z1⟩)]
      by_cases hp:ZdC b=0
      ·rw [Zh (by simp [hp]),Zb];congr 2;unfold pOf;rw [hp];simp
      ·rw [Zi (by simp;omega),Zb,Zep (by omega) (by omega) (by omega),Zb];unfold Zcr;rw [ZaA (by omega) (by simp;omega) (by simp;omega),Zb,Zb,Zb,Zb];rw [show (10+(ZdC b:Int)).toNat=10+ZdC b by omega];rfl
     ·rw [show ((0:Int))=((0:Nat):Int) from rfl,z2,Zb,ZaY,if_pos (fun h=>z1 h.2.2.2)]
    ·have hnm:(decide ((ZdC b:Int)>(b.length:Int)-16) || !(bif !(decide ((ZdC b:Int)>(b.length:Int)-16)) then decide (PMay ⟨((b.getD 0 0).toNat:Int),((b.getD 1 0).toNat:Int),ZdD ((b.take (Int.toNat 8)).drop (Int.toNat 2)),[]⟩ b.length) else default))=true:=by
      by_cases g3:(ZdC b:Int)>(b.length:Int)-16
      ·simp [g3]
      ·rw [decide_eq_false g3];have:¬ PMay ⟨((b.getD 0 0).toNat:Int),((b.getD 1 0).toNat:Int),ZdD ((b.take (Int.toNat 8)).drop (Int.toNat 2)),[]⟩ b.length:=fun hp=>h4 (by
        obtain ⟨q1,q2,q3,q4,q5,q6⟩:=hp;dsimp only at q2 q3 q4;refine ⟨?_,by omega,by omega⟩;rcases q2 with q | q
        ·exact .inl ((ZkK _).1.1 q)
        ·exact .inr ((ZkK _).2.1 q))
       rw [decide_eq_false this];rfl
     rw [hnm,Zr,Zb,if_pos (fun h=>h4 ⟨h.1,h.2.1,h.2.2.1⟩)];rfl
   ·rw [Zi (by unfold PSum at h3;simpa using h3),Zb,if_pos h3];rfl
 ·rw [Zi (by simp [h1]),if_pos h1,Zb];rfl
theorem Zk0 {n:UInt64} {k:Nat} (hk:k≤8) (h:n.toNat<256 ^ k):ZdD (Zbk n k)=n:=by
 rw [← UInt64.toNat_inj,get_put n hk,Nat.mod_eq_of_lt h]
theorem Zg3 {z:Int} (h0:0≤z) (h:z<256):((UInt8.ofInt z).toNat:Int)=z:=by rw [ofIntU8];omega
theorem Zmk (xs:List UInt8):(Zbz xs).take ((Zbz xs).length-4)=xs:=by
 rw [Zhy,Zj7];unfold stOf;simp
theorem sealed_drop (xs:List UInt8):(Zbz xs).drop ((Zbz xs).length-4)=Zbk (crcOn 0 xs).toUInt64 4:=by
 rw [Zhy,Zj7];unfold stOf;simp
theorem sealed_sum (xs:List UInt8):PSum (Zbz xs):=by
 unfold PSum;rw [Zmk,sealed_drop,Zk0 (by omega)];have:=(crcOn 0 xs).toNat_lt;rw [UInt32.toNat_toUInt64];omega
theorem ZiO {p:Page} {n:Nat} (h:PMay p n) {x:List UInt8} (hx:x=Zbz (ZbA p n)) :
  x.length=n∧x.getD 0 0=UInt8.ofInt p.Kind∧x.getD 1 0=UInt8.ofInt p.Id∧(x.take 8).drop 2=Zbk p.Gen 6∧(x.take 10).drop 8=Zbk (UInt64.ofNat p.Body.length) 2∧(x.take (10+p.Body.length)).drop 10=p.Body∧(x.take (x.length-4)).drop (10+p.Body.length)=List.replicate (n-14-p.Body.length) 0:=by
 have hl:=Zke h;rw [Int.toNat_natCast] at hl;obtain ⟨⟨h1,h2⟩,h3,h4,h5,h6,h7⟩:=h;have hn:x.length=n:=by rw [hx,Zhy];omega
 have e0:x=Zig p++(p.Body++(List.replicate (n-14-p.Body.length) 0++Zbk (crcOn 0 (ZbA p n)).toUInt64 4)):=by
  rw [hx,Zj7];unfold stOf ZbA;simp only [List.append_assoc]
 have eh:Zig p=[UInt8.ofInt p.Kind,UInt8.ofInt p.Id]++(Zbk p.Gen 6++Zbk (UInt64.ofNat p.Body.length) 2):=by unfold Zig;rw [List.append_assoc]
 have hh:=ZgE p;have t8:x.take 8=[UInt8.ofInt p.Kind,UInt8.ofInt p.Id]++Zbk p.Gen 6:=by
  rw [e0,List.take_append_of_le_length (by omega),eh,← List.append_assoc,List.take_append_of_le_length (by simp [Zar]),List.take_of_length_le (by simp [Zar])]
 have t10:x.take 10=Zig p:=by
  rw [e0,List.take_append_of_le_length (by omega),List.take_of_length_le (by omega)]
 have tb:x.take (10+p.Body.length)=Zig p++p.Body:=by
  rw [e0,← List.append_assoc,List.take_append_of_le_length (by simp [hh]),List.take_of_length_le (by simp [hh])]
 refine ⟨hn,?_,?_,?_,?_,?_,?_⟩
 ·rw [e0,eh];rfl
 ·rw [e0,eh];rfl
 ·rw [t8];rfl
 ·rw [t10];unfold Zig;exact List.drop_left' (by simp [Zar])
 ·rw [tb];exact List.drop_left' hh
 ·have e1:x.take (x.length-4)=ZbA p n:=by rw [hx,Zmk]
  rw [e1];unfold ZbA;exact List.drop_left' (by simp [hh])
theorem read_put {p:Page} {n:Nat} (h:PMay p n):Zds (Zbz (ZbA p n))=(p,0):=by
 generalize hx:Zbz (ZbA p n)=x;obtain ⟨g1,g2,g3,g4,g5,g6,g7⟩:=ZiO h hx.symm;obtain ⟨⟨h1,h2⟩,h3,h4,h5,h6,h7⟩:=h;have hk:p.Kind=1∨p.Kind=2:=h3;have hm:ZdC x=p.Body.length:=by
  unfold ZdC;have hb:(UInt64.ofNat p.Body.length).toNat=p.Body.length:=UInt64.toNat_ofNat_of_lt' (show p.Body.length<18446744073709551616 by omega);rw [g5,Zk0 (k:=2) (by omega) (by rw [hb];omega),hb]
 have hid:((UInt8.ofInt p.Id).toNat:Int)=p.Id:=Zg3 (by omega) (by omega);have hkd:((UInt8.ofInt p.Kind).toNat:Int)=p.Kind:=Zg3 (by omega) (by omega);have k1:UInt8.ofInt p.Kind=1∨UInt8.ofInt p.Kind=2:=by
  rcases hk with e | e
  ·left;rw [e];rfl
  ·right;rw [e];rfl
 unfold Zds;rw [if_neg (by rw [Decidable.not_not];unfold Zgm;omega),if_neg (fun hall=>by
  have h0:x.getD 0 0=255:=by rw [getD_of (by omega)];exact hall _ (List.getElem_mem _)
  rw [g2] at h0;rcases k1 with e | e <;> rw [e] at h0 <;> exact absurd h0 (by decide)),if_neg (by rw [Decidable.not_not,← hx];exact sealed_sum _),if_neg (by
  rw [Decidable.not_not];refine ⟨by rw [g2];exact k1,by rw [g3];omega,by rw [hm];omega,fun y hy=>?_⟩;rw [hm,g7] at hy;exact List.eq_of_mem_replicate hy)]
 congr 1;unfold pOf;rw [hm,g2,g3,g4,g6,hid,hkd,Zk0 (by omega) (by
  rw [UInt64.lt_iff_toNat_lt] at h6;have:(UInt64.ofNat 281474976710656).toNat=281474976710656:=by decide
  omega)]
theorem read_ok {b:List UInt8} (h:(Zds b).2=0) (hk:(Zds b).1.Kind≠0):PMay (Zds b).1 b.length∧Zbz (ZbA (Zds b).1 b.length)=b:=by
 unfold Zds at *
 by_cases h1:Zgm b.length
 ·rw [if_neg (by simp [h1])] at *
  by_cases h2:∀ x∈b,x=255
  ·rw [if_pos h2] at hk;exact absurd rfl hk
  ·rw [if_neg h2] at *
   by_cases h3:PSum b
   ·rw [if_neg (by simp [h3])] at *
    by_cases h4:PForm b
    ·rw [if_neg (by simp [h4])] at *;dsimp only;obtain ⟨g1,g2,g3,g4⟩:=h4;have h1':=h1;unfold Zgm at h1';have hbl:(pOf b).Body.length=ZdC b:=by unfold pOf;simp;omega
     have hmay:PMay (pOf b) b.length:=by
      refine ⟨h1,?_,by unfold pOf;dsimp only;omega,by unfold pOf;dsimp only;omega,gen_lt b,by rw [hbl];omega⟩;rcases g1 with g | g
      ·exact .inl ((ZkK _).1.2 g)
      ·exact .inr ((ZkK _).2.2 g)
     refine ⟨hmay,?_⟩;have key:ZbA (pOf b) b.length=b.take (b.length-4):=by
      unfold ZbA;rw [hbl];have e0:Zig (pOf b)=b.take 10:=by
       unfold Zig;rw [hbl];have a1:UInt8.ofInt (pOf b).Kind=b.getD 0 0:=by
        rw [← UInt8.toNat_inj];have:((UInt8.ofInt (pOf b).Kind).toNat:Int)=(b.getD 0 0).toNat:=by
         have q:=(b.getD 0 0).toNat_lt;exact Zg3 (by unfold pOf;dsimp only;omega) (by unfold pOf;dsimp only;omega)
        omega
       have a2:UInt8.ofInt (pOf b).Id=b.getD 1 0:=by
        rw [← UInt8.toNat_inj];have:((UInt8.ofInt (pOf b).Id).toNat:Int)=(b.getD 1 0).toNat:=by
         have q:=(b.getD 1 0).toNat_lt;exact Zg3 (by unfold pOf;dsimp only;omega) (by unfold pOf;dsimp only;omega)
        omega
       have a3:Zbk (pOf b).Gen 6=(b.take 8).drop 2:=by
        have l6:((b.take 8).drop 2).length=6:=by simp;omega
        have:=put_get ((b.take 8).drop 2) (by omega);rw [l6] at this;exact this
       have a4:Zbk (UInt64.ofNat (ZdC b)) 2=(b.take 10).drop 8:=by
        have l2:((b.take 10).drop 8).length=2:=by simp;omega
        have:=put_get ((b.take 10).drop 8) (by omega);rw [l2] at this;rw [← this];congr 1;unfold ZdC;exact UInt64.ofNat_toNat
       rw [a1,a2,a3,a4];have a5:[b.getD 0 0,b.getD 1 0]=b.take 2:=by
        apply List.ext_getElem
        ·simp;omega
        ·intro j q1 q2;simp at q1;rcases (by omega:j=0∨j=1) with rfl | rfl
         ·show b.getD 0 0=_;rw [getD_of (by omega),List.getElem_take]
         ·show b.getD 1 0=_;rw [getD_of (by omega),List.getElem_take]
       rw [a5];have a6:b.take 2++(b.take 8).drop 2=b.take 8:=by
        have:=List.take_append_drop 2 (b.take 8);rw [List.take_take] at this;exact this
       have a7:b.take 8++(b.take 10).drop 8=b.take 10:=by
        have:=List.take_append_drop 8 (b.take 10);rw [List.take_take] at this;exact this
       rw [a6,a7]
      have e1:b.take 10++(pOf b).Body=b.take (10+ZdC b):=by
       have:=List.take_append_drop 10 (b.take (10+ZdC b));rw [List.take_take,Nat.min_eq_left (by omega)] at this;exact this
      have e2:List.replicate (b.length-14-ZdC b) (0:UInt8)=(b.take (b.length-4)).drop (10+ZdC b):=by
       symm
       rw [List.eq_replicate_iff];exact ⟨by simp;omega,g4⟩
      rw [e0,e1,e2];have:=List.take_append_drop (10+ZdC b) (b.take (b.length-4));rw [List.take_take,Nat.min_eq_left (by omega)] at this;exact this
     rw [key];exact (sealed_iff (by omega)).2 h3.symm
    ·rw [if_pos h4] at h;exact absurd h (by decide)
   ·rw [if_pos h3] at h;exact absurd h (by decide)
 ·rw [if_pos h1] at h;exact absurd h (by decide)
theorem read_none {b:List UInt8} (h:(Zds b).2≠0∨(Zds b).1.Kind=0):(Zds b).1=Page0:=by
 unfold Zds at *
 by_cases h1:Zgm b.length
 ·rw [if_neg (by simp [h1])] at *
  by_cases h2:∀ x∈b,x=255
  ·rw [if_pos h2]
  ·rw [if_neg h2] at *
   by_cases h3:PSum b
   ·rw [if_neg (by simp [h3])] at *
    by_cases h4:PForm b
    ·rw [if_neg (by simp [h4])] at *
     exfalso
     rcases h with h | h
     ·exact h rfl
     ·have e:((b.getD 0 0).toNat:Int)=0:=h;rcases h4.1 with g | g <;> rw [g] at e <;> exact absurd e (by decide)
    ·rw [if_pos h4]
   ·rw [if_pos h3]
 ·rw [if_pos h1]
end Go.Proofs.YtkmojgfenlgchaaGreatDoor.Tr
namespace Go.Proofs.YtkmojgfenlgchaaGreatDoor.Tr
open Go Go.RowKit
set_option maxRecDepth 100000
set_option synthInstance.maxHeartbeats 400000
set_option synthInstance.maxSize 4096
def ZfK (blocks0:Int) (pages0:Int) (size0:Int):Option Bool:=
 some ((((((decide (blocks0≥(1:Int)))&&(decide (blocks0≤(32:Int))))&&(decide (pages0≥(1:Int))))&&(decide (pages0≤(16:Int))))&&(decide (size0≥(1:Int))))&&(decide (size0≤(256:Int))))
instance chip_sound_c:Fd3 41 ZfK fun r=>D r:=en3 Tryz.func41 rfl Tryz.ntmps41 fun _ _ _ _ _ _ _ H=>by
 unfold ZfK at H;exact zY H
def Zcb (b0x:(List UInt8)) (x_3:Int) (bx_4:(List UInt8)):Option ((Int×(List UInt8))⊕(List UInt8)):=
 bif (decide (x_3<(b0x.length:Int))) then ((idx bx_4 x_3).bind fun x_6=>(some ((bx_4.set (Int.toNat x_3) (UInt8.ofNat 255)):(List UInt8))).bind fun l_7=>(Zas x_3 1).bind fun x_8=>some (.inl (x_8,l_7))) else (some (.inr bx_4))
def ZdE (b0x:(List UInt8)):Option (List UInt8):=
 (ZM (fun s=>Zcb b0x s.1 s.2) ((0:Int),b0x)).bind fun bx_1=>some bx_1
theorem chip_fill_o {b0x:(List UInt8)} {b0 c0:Nat} {p0:Prop} {r:(List UInt8)} (H:ZdE b0x=some r):CO1 42 [⟨b0,p0,Row (b0x:List UInt8) c0⟩] (Sl b0 p0 0 b0x.length c0) (fun g:Unit=>Tup []) fun g=>[⟨b0,p0,Row (r:List UInt8) c0⟩]:=eO1 Tryz.func42 rfl Tryz.ntmps42 fun A w hA hO=>by
 unfold ZdE at H;refine zg ?_;refine TSx (Zax (n:=b0x.length) rfl) ?_;refine zC ?_;refine zh H fun o_2 H2 H=>?_
 refine Zn (fun s:(List UInt8)=>o_2=s) (fun (bx_1:(List UInt8)) (_:Unit)=>Env.nil) (fun (bx_1:(List UInt8)) (_:Unit)=>[⟨b0,p0,(Row (bx_1:List UInt8) c0)⟩]) ?_ ?_
 ·skip;refine Zp<|Zu H2 (fun ⟨x_3,bx_4⟩ (_:Unit)=>(Env.set (Env.set (Env.set Env.nil 0 (Sl b0 p0 0 bx_4.length c0)) 4 (D ((b0x.length:Int):Int))) 5 (D x_3))) (fun ⟨x_3,bx_4⟩ (_:Unit)=>[⟨b0,p0,(Row (bx_4:List UInt8) c0)⟩]) () (Za (Za (Zk (ZC rfl) (Zd _)))) (Zc rfl (Ze _)) ?_;rintro ⟨x_3,bx_4⟩ ⟨⟩ x_5 H5 he5;dsimp only at H5;unfold Zcb at H5;refine zg ?_;refine zc H5 (fun hc H5=>?_) fun hc H5=>?_
  ·refine zg ?_;refine zn H5 fun _ ex_6 H5=>?_
   refine TSx (Zm (ZI ex_6.h rfl)) ?_;refine zE ?_;refine zn H5 fun l_7 el_7 H5=>?_
   refine Zaf b0 (Zac el_7.h) ?_;refine zX (ZcF 0 _ (ZaP el_7.h (by simp))) ?_;refine zb H5 fun x_8 _ H5=>?_
   exact Zq ⟨x_8,l_7⟩ () (ZZs H5) (Za (Za (Zk (ZC rfl) (Zd _)))) (Zc rfl (Ze _))
  ·refine zg ?_;exact Zj bx_4 () (he5 _ (ZZs H5)).symm (Zd _) (Zc rfl (Ze _))
 rintro bx_1 ⟨⟩ hp;replace hp:=hp.symm;subst hp;obtain rfl:=ZZi H;exact Zl2 rfl rfl () .nil (Zc rfl (Ze _))
theorem Zks {b r:List UInt8} (H:ZdE b=some r):r.length=b.length:=by
 unfold ZdE at H;refine zn H fun _ hx H=>?_
 obtain rfl:=ZZi H;refine ZkY (fun s:Int×List UInt8=>s.2.length=b.length) (fun r=>r.length=b.length) ?_ ?_ rfl hx.h
 ·rintro ⟨i,l⟩ ⟨i',l'⟩ h1 hf;dsimp only at h1 hf ⊢;unfold Zcb at hf;cases hc:decide (i<(b.length:Int)) with
  | false=>replace hf:=cF hf hc;cases ZZi hf
  | true=>
    replace hf:=cT hf hc;obtain ⟨_,_,hf⟩:=bnd hf;obtain ⟨l2,e2,hf⟩:=bnd hf;obtain ⟨_,_,hf⟩:=bnd hf;have h2:=ZZi hf;injection h2 with h2;injection h2 with e3 e4;subst e4;rw [← ZZi e2];simpa using h1
 ·rintro ⟨i,l⟩ e h1 hf;dsimp only at h1 hf ⊢;unfold Zcb at hf;cases hc:decide (i<(b.length:Int)) with
  | true=>
    replace hf:=cT hf hc;obtain ⟨_,_,hf⟩:=bnd hf;obtain ⟨l2,e2,hf⟩:=bnd hf;obtain ⟨_,_,hf⟩:=bnd hf;cases ZZi hf
  | false=>
    replace hf:=cF hf hc;have h2:=ZZi hf;injection h2 with h2;subst h2;exact h1
theorem chip_fill_step {b l l':List UInt8} {i i':Int} (hf:Zcb b i l=some (.inl (i',l'))):l'.length=l.length:=by
 unfold Zcb at hf;cases hc:decide (i<(b.length:Int)) with
 | false=>replace hf:=cF hf hc;cases ZZi hf
 | true=>
   replace hf:=cT hf hc;obtain ⟨_,_,hf⟩:=bnd hf;obtain ⟨l2,e2,hf⟩:=bnd hf;obtain ⟨_,_,hf⟩:=bnd hf;have h2:=ZZi hf;injection h2 with h2;injection h2 with e3 e4;subst e4;rw [← ZZi e2];simp
theorem chip_fill_p {A:Nat→Prop} {b0x:(List UInt8)} {b0 o:Nat} {p0:Prop} {C0:Ct} {Cf:List UInt8→Ct} {r:(List UInt8)} (hC:C0=Cf b0x) (hf:∀ ys,ys.length=b0x.length→PlS (Cf ys) o UInt8 inferInstance ys Cf) (w:World) (v0:Value) (hA:∀ k,w.heap.size≤k→A k) (hO:OwnIn A [⟨b0,p0,C0⟩]) (hap:ZfD [⟨b0,p0,C0⟩]) (hks:Pks (Pub A [⟨b0,p0,C0⟩]) [⟨b0,p0,C0⟩] w) (h0:(Sv b0 p0 o b0x.length).p (Pub A [⟨b0,p0,C0⟩]) w v0) (H:ZdE b0x=some r) :
    Calls Tryz.prog 42 #[v0] w (Zld A w [⟨b0,p0,C0⟩] (fun g:Unit=>Tup []) fun g=>[⟨b0,p0,Cf r⟩]):=by
 subst hC;unfold ZdE at H;refine zX (enterO1 hA hap hks Tryz.func42 rfl Tryz.ntmps42 rfl h0) ?_;refine TSx (Zax (n:=b0x.length) rfl) ?_;refine zC ?_;refine zh H fun o_2 H2 H=>?_
 refine Zn (fun s:(List UInt8)=>o_2=s) (fun (b_1:(List UInt8)) (_:Unit)=>Env.nil) (fun (b_1:(List UInt8)) (_:Unit)=>[⟨b0,p0,Cf b_1⟩]) ?_ ?_
 ·skip;refine Zp<|TC.loopPI H2 (fun s:Int×List UInt8=>s.2.length=b0x.length) rfl (fun ⟨_,_⟩ ⟨_,_⟩ h1 hf=>(chip_fill_step hf).trans h1) (fun ⟨x_3,b_4⟩ (_:Unit)=>(Env.set (Env.set (Env.set Env.nil 0 (Sv b0 p0 o b0x.length)) 4 (D ((b0x.length:Int):Int))) 5 (D x_3))) (fun ⟨x_3,b_4⟩ (_:Unit)=>[⟨b0,p0,Cf b_4⟩]) () (Za (Za (Zk (Ty.le.refl _) (Zd _)))) (Zc rfl (Ze _)) ?_;rintro ⟨x_3,b_4⟩ ⟨⟩ x_5 hI H5 he5;replace hI:b_4.length=b0x.length:=hI
  try dsimp only at H5
  unfold Zcb at H5;refine zg ?_;refine zc H5 (fun hc H5=>?_) fun hc H5=>?_
  ·refine zg ?_;refine zn H5 fun _ ex_6 H5=>?_
   refine TSx (Zm (ZI ex_6.h hI.symm))<|Zbj (Zw (y:=((UInt8.ofNat 255):UInt8)) (Pl.partI (hf b_4 hI) ex_6.h)) ?_;refine zE ?_;refine zn H5 fun l_7 el_7 H5=>?_
   refine zX (Zaf b0 (congrArg Cf (ZZi el_7.h))) ?_;refine zb H5 fun x_8 _ H5=>?_
   exact Zq ⟨x_8,l_7⟩ () (ZZs H5) (Za (Za (Zk (Ty.le.refl _) (Zd _)))) (Zc rfl (Ze _))
  ·refine zg ?_;exact Zj b_4 () (he5 _ (ZZs H5)).symm (Zd _) (Zc rfl (Ze _))
 rintro b_1 ⟨⟩ hp;replace hp:=hp.symm;subst hp;obtain rfl:=ZZi H;exact Zl2 rfl rfl () .nil (Zc rfl (Ze _))
def ZhP (pages0:Int) (size0:Int) (x_11:Int) (l_12:(List Block)) (x_20:Int) (l_21:(List (List UInt8))):Option ((Int×(List (List UInt8)))⊕(List (List UInt8))):=
 bif (decide (x_20<pages0)) then ((idx l_12 x_11).bind fun x_23=>(Zdv 1 size0).bind fun u_24=>(idx l_21 x_20).bind fun x_26=>(some ((List.replicate (Int.toNat size0) (Dat.z:UInt8)):(List UInt8))).bind fun l_27=>(idx l_12 x_11).bind fun x_28=>(idx l_21 x_20).bind fun x_29=>(ZdE l_27).bind fun x_30=>(Zas x_20 1).bind fun x_32=>some (.inl (x_32,(l_21.set (Int.toNat x_20) x_30)))) else (some (.inr l_21))
def ZhQ (blocks0:Int) (pages0:Int) (size0:Int) (x_11:Int) (l_12:(List Block)):Option ((Int×(List Block))⊕(List Block)):=
 bif (decide (x_11<blocks0)) then ((Zdv 24 pages0).bind fun u_14=>(idx l_12 x_11).bind fun x_16=>(some ((List.replicate (Int.toNat pages0) (Dat.z:(List UInt8))):(List (List UInt8)))).bind fun l_17=>(ZM (fun s=>ZhP pages0 size0 x_11 l_12 s.1 s.2) ((0:Int),l_17)).bind fun l_18=>(Zas x_11 1).bind fun x_33=>some (.inl (x_33,(l_12.set (Int.toNat x_11) (⟨l_18,x_16.Used,x_16.Worn,x_16.Bad⟩:Block))))) else (some (.inr l_12))
def ZhR (blocks0:Int) (pages0:Int) (size0:Int):Option (Chip×Int):=
 (ZfK blocks0 pages0 size0).bind fun x_2=>bif (!x_2) then ((some ((⟨0,0,[],0,false,[]⟩:Chip):Chip)).bind fun k_3=>some (k_3,(1:Int))) else ((Zdv 48 blocks0).bind fun u_4=>(some ((⟨pages0,size0,[],0,false,[]⟩:Chip):Chip)).bind fun cx_7=>(some ((List.replicate (Int.toNat blocks0) (Dat.z:Block)):(List Block))).bind fun l_8=>(ZM (fun s=>ZhQ blocks0 pages0 size0 s.1 s.2) ((0:Int),l_8)).bind fun l_9=>some ((⟨cx_7.Pages,cx_7.Size,l_9,cx_7.Ops,cx_7.Off,cx_7.Faults⟩:Chip),(0:Int)))
instance chip_New_c:Fd3 9 ZhR fun r=>Tup [D r.1,D r.2]:=en3 Tryz.func9 rfl Tryz.ntmps9 fun A w hA blocks0 pages0 size0 r H=>by
 unfold ZhR at H;refine zg ?_;refine TS.alloc rfl fun b6_0=>zg ?_
 refine zb H fun _ _ H=>?_
 refine zc H (fun hc H=>?_) fun hc H=>?_
 ·refine zg ?_;refine TSx (tB (⟨0,0,[],0,false,[]⟩:Chip) rfl rfl) ?_;exact zY H
 ·refine zg ?_;refine zn H fun _ eu_4 H=>?_
  refine Zgj eu_4.h ⟨(Za3 eu_4.h).1,Int.le_refl _⟩ rfl fun b20_4=>?_
  refine TSx (OpY.buildC (ps:=_) rfl ⟨_,Tryz.underlying28,by kernel_rfl⟩ ((PartsC.d (((PF 0 Chip Int Zx)).st _) (PartsC.d (((PF 1 Chip Int Zx)).st _) (PartsC.hd (CtH.new (by decide)) inferInstance))))) ?_;refine TS.alloc rfl fun b8_5=>?_
  refine Zbj (ZX trivial rfl CtSc.h) ?_;refine zC ?_;refine zn H fun cx_7 ecx_7 H=>?_
  refine ZB b8_5 (Zc2 (Zah ecx_7.h)) ?_;refine zn H fun _ el_8 H=>?_
  refine ZB b20_4 (Zac el_8.h)<|ZB b8_5 (Zft (Zen el_8.h (by simp))) ?_;refine zC ?_;refine zh H fun o_10 H10 H=>?_
  refine Zn (fun s:(List Block)=>o_10=s) (fun (l_9:(List Block)) (_:Unit)=>(Env.set (Env.set Env.nil 6 (Pt b6_0 0)) 8 (Pt b8_5 0))) (fun (l_9:(List Block)) (_:Unit)=>[⟨b20_4,True,(Row (l_9:List Block) (Int.toNat blocks0))⟩,⟨b6_0,True,(One ((Dat.z:Chip):Chip))⟩,⟨b8_5,True,(Ct.mix (One cx_7) 2 (Sl b20_4 True 0 l_9.length (Int.toNat blocks0)))⟩]) ?_ ?_
  ·skip;refine Zp<|Zu H10 (fun ⟨x_11,l_12⟩ (_:Unit)=>(Env.set (Env.set (Env.set (Env.set (Env.set (Env.set Env.nil 1 (D pages0)) 2 (D size0)) 6 (Pt b6_0 0)) 8 (Pt b8_5 0)) 22 (D blocks0)) 23 (D x_11))) (fun ⟨x_11,l_12⟩ (_:Unit)=>[⟨b20_4,True,(Row (l_12:List Block) (Int.toNat blocks0))⟩,⟨b6_0,True,(One ((Dat.z:Chip):Chip))⟩,⟨b8_5,True,(Ct.mix (One cx_7) 2 (Sl b20_4 True 0 l_12.length (Int.toNat blocks0)))⟩]) () (Za (Za (Za (Za (Za (Za (Zd _))))))) (Zc rfl (Zc rfl (Zc rfl (Ze _)))) ?_;rintro ⟨x_11,l_12⟩ ⟨⟩ x_13 H13 he13;dsimp only at H13;unfold ZhQ at H13;refine zg ?_;refine zc H13 (fun hc H13=>?_) fun hc H13=>?_
   ·refine zC ?_;refine zX (ZaW [4,7] [b20_4] mix (by kernel_rfl) (by kernel_rfl)) ?_;refine zX (Zeq (ZS Zaa) rfl) ?_;refine zn H13 fun _ eu_14 H13=>?_
    refine Zfi (fun g=>OpT.makeSlice (Za3 eu_14.h).1 (Int.le_refl _) (Zdz eu_14.h).2.1 (Zdz eu_14.h).2.2) rfl ?_;refine zn H13 fun x_16 ex_16 H13=>?_
    refine zX (Zeq (Zm (ZI ex_16.h rfl)) rfl) ?_;refine Zdg (fun g=>(Zbc (ZkE ex_16.h (off:=0) (by omega) (by decide)))) rfl ?_;refine zC ?_;rintro ⟨⟨_,⟨b30_14,_⟩⟩,_⟩;dsimp only [Fam.nextS,Fam.nextN,Fam.one,List.cons_append,List.nil_append];refine zn H13 fun _ el_17 H13=>?_
    refine ZB b30_14 (Zac el_17.h)<|ZB b20_4 (Zft (Zen el_17.h (by simp))) ?_;refine zC ?_;refine zh H13 fun o_19 H19 H13=>?_
    refine Zn (fun s:(List (List UInt8))=>o_19=s) (fun (l_18:(List (List UInt8))) (_:Unit)=>(Env.set (Env.set (Env.set (Env.set (Env.set (Env.set Env.nil 1 (D pages0)) 2 (D size0)) 6 (Pt b6_0 0)) 8 (Pt b8_5 0)) 22 (D blocks0)) 23 (D x_11))) (fun (l_18:(List (List UInt8))) (_:Unit)=>[⟨b20_4,True,(Ct.mix (Row (l_12:List Block) (Int.toNat blocks0)) ((0+Int.toNat x_11*Dat.sz Block)+0) (Sl b30_14 True 0 l_18.length (Int.toNat pages0)))⟩,⟨b30_14,True,(Row (l_18:List (List UInt8)) (Int.toNat pages0))⟩,⟨b6_0,True,(One ((Dat.z:Chip):Chip))⟩,⟨b8_5,True,(Ct.mix (One cx_7) 2 (Sl b20_4 True 0 l_12.length (Int.toNat blocks0)))⟩]) ?_ ?_
    ·skip;refine Zp<|Zu H19 (fun ⟨x_20,l_21⟩ (_:Unit)=>(Env.set (Env.set (Env.set (Env.set (Env.set (Env.set (Env.set (Env.set (Env.set Env.nil 1 (D pages0)) 2 (D size0)) 6 (Pt b6_0 0)) 8 (Pt b8_5 0)) 9 (D x_11)) 22 (D blocks0)) 23 (D x_11)) 33 (D pages0)) 34 (D x_20))) (fun ⟨x_20,l_21⟩ (_:Unit)=>[⟨b20_4,True,(Ct.mix (Row (l_12:List Block) (Int.toNat blocks0)) ((0+Int.toNat x_11*Dat.sz Block)+0) (Sl b30_14 True 0 l_21.length (Int.toNat pages0)))⟩,⟨b30_14,True,(Row (l_21:List (List UInt8)) (Int.toNat pages0))⟩,⟨b6_0,True,(One ((Dat.z:Chip):Chip))⟩,⟨b8_5,True,(Ct.mix (One cx_7) 2 (Sl b20_4 True 0 l_12.length (Int.toNat blocks0)))⟩]) () (Za (Za (Za (Za (Za (Za (Za (Za (Za (Zd _)))))))))) (Zc rfl (Zc rfl (Zc rfl (Zc rfl (Ze _))))) ?_;rintro ⟨x_20,l_21⟩ ⟨⟩ x_22 H22 he22;dsimp only at H22;unfold ZhP at H22;refine zg ?_;refine zc H22 (fun hc H22=>?_) fun hc H22=>?_
     ·refine zC ?_;refine zX (ZaW [8,10] [b30_14] mix (by kernel_rfl) (by kernel_rfl)) ?_;refine zX (Zeq (ZS Zaa) rfl) ?_;refine zn H22 fun _ ex_23 H22=>?_
      refine zX (Zeq (Zm (ZI ex_23.h rfl)) rfl) ?_;refine zX (Zeq (ZS Zaa) rfl) ?_;refine zn H22 fun _ eu_24 H22=>?_
      refine Zfi (fun g=>OpT.makeSlice (Za3 eu_24.h).1 (Int.le_refl _) (Zdz eu_24.h).2.1 (Zdz eu_24.h).2.2) rfl ?_;refine zn H22 fun _ ex_26 H22=>?_
      refine TRx (Zm (ZI ex_26.h rfl))<|Zdg (fun g=>(Zbc (ZkE ex_26.h (off:=0) (by omega) (by decide)))) rfl ?_;refine zC ?_;rintro ⟨⟨_,⟨b45_24,_⟩⟩,_⟩;dsimp only [Fam.nextS,Fam.nextN,Fam.one,List.cons_append,List.nil_append];refine zn H22 fun _ el_27 H22=>?_
      refine ZB b45_24 (Zac el_27.h) ?_;refine zX (ZB b30_14 (Zft (Zen el_27.h (by simp)))) ?_;refine zX (Za1 (ZS Zaa) rfl) ?_;refine zn H22 fun _ ex_28 H22=>?_
      refine zX (Za1 (Zm (ZI ex_28.h rfl)) rfl) ?_;refine zX (Za1 (ZS Zaa) rfl) ?_;refine zn H22 fun _ ex_29 H22=>?_
      refine TSx (Zm (ZI ex_29.h rfl))<|TSx (ZS Zaa) ?_;refine zn H22 fun x_30 ex_30 H22=>?_
      refine Zdw (oc1 [b45_24] (chip_fill_o ex_30.h) (slD rfl)) rfl fun _=>?_
      refine zw ?_;refine zo H22 fun x_32 _ H22=>?_
      refine zE ?_;refine TE.coll b30_14 b45_24 (o:=(0+Int.toNat x_20*Dat.sz (List UInt8))) (((ZaC ex_26.h)).st (x_30:List UInt8)) (ZG PlS.all (Zks ex_30.h).symm) ?_;exact Zaf b20_4 (Zft (m:=l_21.length) (n:=(l_21.set (Int.toNat x_20) x_30).length) (by simp))<|Zq ⟨x_32,(l_21.set (Int.toNat x_20) x_30)⟩ () (ZZs H22) (Za (Za (Za (Za (Za (Za (Za (Za (Za (Zd _)))))))))) (Zc rfl (Zc rfl (Zc rfl (Zc rfl (Ze _)))))
     ·refine zg ?_;exact Zj l_21 () (he22 _ (ZZs H22)).symm (Za (Za (Za (Za (Za (Za (Zd _))))))) (Zc rfl (Zc rfl (Zc rfl (Zc rfl (Ze _)))))
    rintro l_18 ⟨⟩ hp;replace hp:=hp.symm;subst hp;refine zg ?_;refine zo H13 fun x_33 _ H13=>?_
    refine zE ?_;refine TE.coll b20_4 b30_14 (o:=((0+Int.toNat x_11*Dat.sz Block)+0)) (((PF 0 Block (List (List UInt8)) (ZaC ex_16.h))).st (l_18:List (List UInt8))) (ZG PlS.all rfl) ?_;exact Zaf b8_5 (Zft (m:=l_12.length) (n:=(l_12.set (Int.toNat x_11) (⟨l_18,x_16.Used,x_16.Worn,x_16.Bad⟩:Block)).length) (by simp))<|Zq ⟨x_33,(l_12.set (Int.toNat x_11) (⟨l_18,x_16.Used,x_16.Worn,x_16.Bad⟩:Block))⟩ () (ZZs H13) (Za (Za (Za (Za (Za (Za (Zd _))))))) (Zc rfl (Zc rfl (Zc rfl (Ze _))))
   ·refine zg ?_;exact Zj l_12 () (he13 _ (ZZs H13)).symm (Za (Za (Zd _))) (Zc rfl (Zc rfl (Zc rfl (Ze _))))
  rintro l_9 ⟨⟩ hp;replace hp:=hp.symm;subst hp;refine zg ?_;refine TSx (Zdu trivial rfl rfl)<|Zbj (ZX trivial rfl CtSc.h) ?_;refine zC ?_;refine ZL<|TE.coll b6_0 b20_4 (o:=2) (((PF 2 Chip (List Block) Zx)).st (l_9:List Block)) (ZG PlS.all rfl) ?_;exact zY H
def ZW (s0:(List Block)):Option (List Block):=
 (Zdv 48 ((0+s0.length:Nat):Int)).bind fun _=>some s0
theorem Zcs {s0:(List Block)} {r:(List Block)} (H:ZW s0=some r):CO1 92 [] (D s0) (fun g:Nat×Prop×Nat=>Sl g.1 g.2.1 0 (List.length r) g.2.2) fun g=>[⟨g.1,g.2.1,Row (r:List Block) g.2.2⟩]:=eO1 Tryz.func92 rfl Tryz.ntmps92 fun A w hA hO=>by
 unfold ZW at H;refine zn H fun _ eu H=>?_
 obtain rfl:=ZZi H;refine zg ?_;refine TSx Zby ?_;refine zC ?_;refine ZfA (fun hc=>?_) (fun hc=>?_)
 ·obtain rfl:=hc rfl;refine zg ?_;exact ZA rfl ⟨0,False,0⟩ ZcV (Zbq (Ze _))
 ·refine zg ?_;refine TS.build [] rfl rfl (by decide) rfl fun b=>zg ?_
  refine TS.app (ys:=s0) inferInstance eu.h rfl rfl rfl fun b1 p1 c1=>zg ?_
  exact ZA rfl ⟨b1,p1,c1⟩ (ZC (by simp)) (Zc rfl (Ze _))
def ZbB (p0:(List (List UInt8))) (x_1:Int) (x_2:Int):Option ((Int×Int)⊕Int):=
 bif (decide (x_1<(p0.length:Int))) then ((idx p0 x_1).bind fun x_3=>(Zas x_2 (x_3.length:Int)).bind fun x_4=>(Zas x_1 1).bind fun x_5=>some (.inl (x_5,x_4))) else (some (.inr x_2))
def ZdF (p0:(List (List UInt8))) (x_1:Int):Option (Int⊕Unit):=
 bif (decide (x_1<(p0.length:Int))) then ((idx p0 x_1).bind fun x_3=>(Zas x_1 1).bind fun x_5=>some (.inl x_5)) else (some (.inr ()))
def Zda (p0:(List (List UInt8))):Option (List (List UInt8)):=
 (ZM (fun s=>ZbB p0 s.1 s.2) ((0:Int),(0:Int))).bind fun x_1=>(Zdv 1 x_1).bind fun _=>(Zdv 24 (p0.length:Int)).bind fun _=>(ZM (fun s=>ZdF p0 s) (0:Int)).bind fun _=>some p0
theorem ZlL {p0:List (List UInt8)} {m:Int} (h:ZM (fun s=>ZbB p0 s.1 s.2) ((0:Int),(0:Int))=some m):m=(p0.flatten.length:Int):=by
 refine ZkY (fun s:Int×Int=>0≤s.1∧s.1≤(p0.length:Int)∧s.2=((p0.take s.1.toNat).flatten.length:Int)) (fun m=>m=(p0.flatten.length:Int)) ?_ ?_ ⟨Int.le_refl _,by simp,by simp⟩ h
 ·rintro ⟨x,y⟩ ⟨x',y'⟩ ⟨h1,h2,h3⟩ hf;dsimp only at h1 h2 h3 hf ⊢;unfold ZbB at hf;cases hc:decide (x<(p0.length:Int)) with
  | false=>rw [hc] at hf;cases hf
  | true=>
    replace hf:=cT hf hc;obtain ⟨q,eq,hf⟩:=bnd hf;obtain ⟨m2,em,hf⟩:=bnd hf;obtain ⟨y2,ey,hf⟩:=bnd hf;have hf:=ZZi hf;injection hf with hf;injection hf with e1 e2;subst e1;subst e2;have h4:=Zil eq;obtain ⟨-,h5⟩:=ZaS eq;obtain ⟨h6,h7⟩:=List.getElem?_eq_some_iff.1 h5;obtain ⟨e3,-⟩:=Zct ey;obtain ⟨e4,-⟩:=Zct em;have e5:y2.toNat=x.toNat+1:=by omega
    refine ⟨by omega,by omega,?_⟩;rw [e5,List.take_succ_eq_append_getElem h6,List.flatten_append,List.length_append,h7,← e4,h3];simp
 ·rintro ⟨x,y⟩ e ⟨h1,h2,h3⟩ hf;dsimp only at h1 h2 h3 hf ⊢;unfold ZbB at hf;cases hc:decide (x<(p0.length:Int)) with
  | true=>
    replace hf:=cT hf hc;obtain ⟨q,eq,hf⟩:=bnd hf;obtain ⟨m2,em,hf⟩:=bnd hf;obtain ⟨y2,ey,hf⟩:=bnd hf;have hf:=ZZi hf;cases hf
  | false=>
    replace hf:=cF hf hc;have hf:=ZZi hf;injection hf with hf;subst hf;rw [h3,List.take_of_length_le (by have:=of_decide_eq_false hc;omega)]
theorem ZlK {p:List (List UInt8)} {i:Nat} {q:List UInt8} (hi:i<p.length) (hq:p[i]=q) :
    splice ((p.take i).flatten++List.replicate (p.flatten.length-(p.take i).flatten.length) (Dat.z:UInt8)) (p.take i).flatten.length q=(p.take (i+1)).flatten++List.replicate (p.flatten.length-(p.take (i+1)).flatten.length) (Dat.z:UInt8):=by
 have e1:(p.take (i+1)).flatten=(p.take i).flatten++q:=by
   rw [List.take_succ_eq_append_getElem hi,List.flatten_append,hq];simp
 unfold splice;rw [e1,List.take_left,List.append_assoc,List.append_assoc,← List.drop_drop,List.drop_left,List.drop_replicate,List.length_append];congr 3;omega
theorem Zis {p:List (List UInt8)} {i:Nat} {q:List UInt8} (hi:i<p.length) (hq:p[i]=q):(p.take i).flatten.length+q.length≤p.flatten.length:=by
 have:=flat_fit hi;rw [← ZlZ,hq] at this;exact this
theorem Zkt {p0 r:(List (List UInt8))} (H:Zda p0=some r):CO1 96 [] (D p0) (fun g:Nat×Nat×Prop×Nat×Nat=>Sl g.1 g.2.2.1 0 (List.length r) g.2.2.2.1) fun g=>[⟨g.1,g.2.2.1,ZjU g.2.1 g.2.2.1 1 (r.map List.length) (List.length r)⟩,⟨g.2.1,g.2.2.1,Row (r.flatten:List UInt8) g.2.2.2.2⟩]:=eO1 Tryz.func96 rfl Tryz.ntmps96 fun A w hA hO=>by
 unfold Zda at H;refine zn H fun many hmany H=>?_
 refine zn H fun _ eu1 H=>?_
 refine zn H fun _ eu2 H=>?_
 refine zn H fun _ eu3 H=>?_
 obtain rfl:=ZZi H;have hlen:=ZlL hmany.h;refine zg ?_;refine TSx Zby ?_;refine zC ?_;refine ZfA (fun hc=>?_) (fun hc=>?_)
 ·obtain rfl:=hc rfl;refine zg ?_;exact ZA rfl ⟨0,0,False,0,0⟩ ZcV ((ZiI fun h=>h).trans (ZiI fun h=>h))
 ·refine zC ?_;refine zC ?_;refine Zn (fun s:Int=>many=s) (fun (m:Int) (_:Unit)=>(Env.set (Env.set Env.nil 0 (D p0)) 3 (D m))) (fun (m:Int) (_:Unit)=>[]) ?_ ?_
  ·skip;refine Zp<|Zu hmany.h (fun ⟨x,m⟩ (_:Unit)=>(Env.set (Env.set (Env.set (Env.set (Env.set Env.nil 0 (D p0)) 3 (D m)) 13 (D p0)) 14 (D ((p0.length:Int):Int))) 15 (D x))) (fun ⟨x,m⟩ (_:Unit)=>[]) () (Za (Za (Za (Za (Za (Zd _)))))) (Ze _) ?_;rintro ⟨x,m⟩ ⟨⟩ y Hy hey;replace Hy:ZbB p0 x m=some y:=Hy;unfold ZbB at Hy;refine zg ?_;refine zc Hy (fun hc Hy=>?_) fun hc Hy=>?_
   ·refine zg ?_;refine zb Hy fun _ _ Hy=>?_
    refine zb Hy fun m2 _ Hy=>?_
    refine zb Hy fun y2 _ Hy=>?_
    exact Zq ⟨y2,m2⟩ () (ZZs Hy) (Za (Za (Za (Za (Za (Zd _)))))) (Ze _)
   ·refine zg ?_;exact Zj m () (hey _ (ZZs Hy)).symm (Za (Za (Zd _))) (Ze _)
  rintro m ⟨⟩ hp;replace hp:=hp.symm;subst hp;refine zg ?_;refine Zgj eu1.h ⟨Int.le_refl _,(Za3 eu1.h).1⟩ rfl fun br=>zg ?_
  refine Zgj eu2.h ⟨(Za3 eu2.h).1,Int.le_refl _⟩ rfl fun bo=>?_
  refine zC ?_;refine TC.re bo (C':=ZjU br True 1 [] p0.length) (fun A w cs _ h=>ZjU.nil (by simp) A w cs h) ?_;have hmt:Int.toNat m=p0.flatten.length:=by rw [hlen];rfl
  rw [hmt];refine zC ?_;refine Zn (fun s:Unit=>True) (fun (_:Unit) (_:Unit)=>(Env.set Env.nil 7 (Sl bo True 0 p0.length p0.length))) (fun (_:Unit) (_:Unit)=>[⟨br,True,Row (p0.flatten:List UInt8) p0.flatten.length⟩,⟨bo,True,ZjU br True 1 (p0.map List.length) p0.length⟩]) ?_ ?_
  ·skip;refine Zp ?_;refine Zu eu3.h (fun (x:Int) (_:Unit)=>(Env.set (Env.set (Env.set (Env.set (Env.set Env.nil 6 (Sl br True 0 (p0.take x.toNat).flatten.length p0.flatten.length)) 7 (Sl bo True 0 p0.length p0.length)) 29 (D p0)) 30 (D ((p0.length:Int):Int))) 31 (D x)))
     (fun (x:Int) (_:Unit)=>[⟨br,True,Row ((p0.take x.toNat).flatten++List.replicate (p0.flatten.length-(p0.take x.toNat).flatten.length) (Dat.z:UInt8)) p0.flatten.length⟩,⟨bo,True,ZjU br True 1 ((p0.take x.toNat).map List.length) p0.length⟩]) () (Za (Za (Za (Zk (ZC rfl) (Zk (ZC rfl) (Zd _)))))) (Zc rfl (Zc rfl (Ze _))) ?_
   rintro x ⟨⟩ y Hy hey;replace Hy:ZdF p0 x=some y:=Hy;unfold ZdF at Hy;refine zg ?_;refine zc Hy (fun hc Hy=>?_) fun hc Hy=>?_
   ·refine zn Hy fun q eq Hy=>?_
    refine zn Hy fun y2 ey Hy=>?_
    have h4:=Zil eq.h;obtain ⟨-,h5⟩:=ZaS eq.h;obtain ⟨h6,h7⟩:=List.getElem?_eq_some_iff.1 h5;obtain ⟨e3,-⟩:=Zct ey.h;have e5:y2.toNat=x.toNat+1:=by omega
    have hfit:=Zis h6 h7;have hll:((p0.take x.toNat).map List.length).length=x.toNat:=by simp;omega
    refine zg ?_;refine zX (Za1 (OpD.index eq.h) rfl) ?_;refine zX (Za1 (Zax (n:=(p0.take x.toNat).flatten.length) rfl) rfl) ?_;refine zX (TS.u (OpT.appIn (ys:=q) inferInstance trivial rfl (by rw [List.length_append,List.length_replicate];omega)) rfl) ?_;refine zX (Za1 (Zax (n:=(p0.take x.toNat).flatten.length+q.length) rfl) rfl) ?_;refine TSx (Zax (n:=(p0.take x.toNat).flatten.length+q.length) rfl)<|TSx (OpY.slice3Sl (by omega) (by omega) (by omega) (by omega))<|TSx (Zm h4)<|Zbj (Zbc (ZjU.put (by rw [hll];show 0+x.toNat*1=_;omega) (by rw [hll];omega) (by rw [← Zmw,hll,offS];show 0+_*1=_;rw [← List.map_take,List.take_take,Nat.min_self,← List.length_flatten];simp))) ?_;refine zE ?_;refine Zaf br (C':=Row ((p0.take y2.toNat).flatten++List.replicate (p0.flatten.length-(p0.take y2.toNat).flatten.length) (Dat.z:UInt8)) p0.flatten.length) (by rw [ZlK h6 h7,e5]) ?_;refine Zaf bo (C':=ZjU br True 1 ((p0.take y2.toNat).map List.length) p0.length) (by
      rw [e5,List.take_succ_eq_append_getElem h6,List.map_append,h7];congr 2;simp;omega) ?_
    refine zX (ZcF 6 (Sl br True 0 (p0.take y2.toNat).flatten.length p0.flatten.length) (ZC (by rw [e5,List.take_succ_eq_append_getElem h6,List.flatten_append,h7];simp))) ?_;refine zX (Za1 (Zgp ey.h) rfl) ?_;exact Zq y2 () (ZZs Hy) (Za (Za (Za (Zk (ZC rfl) (Zk (ZC rfl) (Zd _)))))) (Zc rfl (Zc rfl (Ze _)))
   ·have hge:p0.take x.toNat=p0:=List.take_of_length_le (by have:=of_decide_eq_false hc;omega);rw [hge];refine zg ?_;exact Zj () () trivial (Zk (ZC rfl) (Zd _)) (Zc (by rw [Nat.sub_self];simp) (Zc rfl (Ze _)))
  rintro ⟨⟩ ⟨⟩ hp;refine zg ?_;exact ZA rfl ⟨bo,br,True,p0.length,p0.flatten.length⟩ (ZC rfl) (Zc rfl (Zc rfl (Ze _)))
instance chip_copied_c:Fd1 96 Zda fun r=>D r:=⟨fun w v0 hA h0 H=>(on1 (Zkt H) w v0 hA h0).mono fun e w' h=>Zld.pub hA (fun g A w v hb h=>rowS_data (hb _ (List.mem_cons_self ..)) (hb _ (List.mem_cons_of_mem _ (List.mem_cons_self ..))) h) h⟩
def ZH (s0:(List Fault)):Option (List Fault):=
 (Zdv 16 ((0+s0.length:Nat):Int)).bind fun _=>some s0
theorem Zg5 {s0:(List Fault)} {r:(List Fault)} (H:ZH s0=some r):CO1 50 [] (D s0) (fun g:Nat×Prop×Nat=>Sl g.1 g.2.1 0 (List.length r) g.2.2) fun g=>[⟨g.1,g.2.1,Row (r:List Fault) g.2.2⟩]:=eO1 Tryz.func50 rfl Tryz.ntmps50 fun A w hA hO=>by
 unfold ZH at H;refine zn H fun _ eu H=>?_
 obtain rfl:=ZZi H;refine zg ?_;refine TSx Zby ?_;refine zC ?_;refine ZfA (fun hc=>?_) (fun hc=>?_)
 ·obtain rfl:=hc rfl;refine zg ?_;exact ZA rfl ⟨0,False,0⟩ ZcV (Zbq (Ze _))
 ·refine zg ?_;refine TS.build [] rfl rfl (by decide) rfl fun b=>zg ?_
  refine TS.app (ys:=s0) inferInstance eu.h rfl rfl rfl fun b1 p1 c1=>zg ?_
  exact ZA rfl ⟨b1,p1,c1⟩ (ZC (by simp)) (Zc rfl (Ze _))
instance slices_Clone_api_Fault_c:Fd1 50 ZH fun r=>D r:=⟨fun w v0 hA h0 H=>(on1 (Zg5 H) w v0 hA h0).mono fun e w' h=>Zhn hA h⟩
def ZaU (x_3:(List Block)) (x_7:Int) (l_8:(List Block)):Option ((Int×(List Block))⊕(List Block)):=
 bif (decide (x_7<(x_3.length:Int))) then ((idx l_8 x_7).bind fun x_10=>(Zda x_10.Pages).bind fun x_11=>(idx l_8 x_7).bind fun x_12=>(some ((l_8.set (Int.toNat x_7) (⟨x_11,x_12.Used,x_12.Worn,x_12.Bad⟩:Block)):(List Block))).bind fun l_13=>(Zas x_7 1).bind fun x_14=>some (.inl (x_14,l_13))) else (some (.inr l_8))
def Zbm (c0:Chip):Option Chip:=
 (ZW c0.Blocks).bind fun x_3=>(ZM (fun s=>ZaU x_3 s.1 s.2) ((0:Int),x_3)).bind fun l_5=>(ZH c0.Faults).bind fun x_15=>(some ((⟨c0.Pages,c0.Size,c0.Blocks,c0.Ops,c0.Off,x_15⟩:Chip):Chip)).bind fun cx_16=>some (⟨cx_16.Pages,cx_16.Size,l_5,cx_16.Ops,cx_16.Off,cx_16.Faults⟩:Chip)
theorem ZgI {c0:Chip} {r:Chip} (H:Zbm c0=some r):CO1 48 [] (D c0) (fun g:Nat×Prop×Nat=>VC (Ct.mix (One ((⟨r.Pages,r.Size,[],r.Ops,r.Off,r.Faults⟩:Chip):Chip)) 2 (Sl g.1 g.2.1 0 (List.length r.Blocks) g.2.2))) fun g=>[⟨g.1,g.2.1,Row (r.Blocks:List Block) g.2.2⟩]:=eO1 Tryz.func48 rfl Tryz.ntmps48 fun A w hA hO=>by
 unfold Zbm at H;refine zg ?_;refine TS.box rfl fun b1_0=>?_
 refine TS.alloc rfl fun b2_1=>zg ?_
 refine zn H fun x_3 ex_3 H=>?_
 refine Zdw (oc1 [] (Zcs ex_3.h) toD) rfl fun ⟨b6_3,p6_3,c6_3⟩=>?_
 refine zw ?_;refine zX (Zbj (Zbc (CtH.new (by decide)))) ?_;refine TSx (ZS Zaa)<|TSx (Zax (n:=x_3.length) rfl) ?_;refine zC ?_;refine zh H fun o_6 H6 H=>?_
 refine Zn (fun s:(List Block)=>o_6=s) (fun (l_5:(List Block)) (_:Unit)=>(Env.set (Env.set Env.nil 1 (Pt b1_0 0)) 2 (Pt b2_1 0))) (fun (l_5:(List Block)) (_:Unit)=>[⟨b6_3,p6_3,(Row (l_5:List Block) c6_3)⟩,⟨b1_0,True,(Ct.mix (One c0) 2 (Sl b6_3 p6_3 0 l_5.length c6_3))⟩,⟨b2_1,True,(One ((Dat.z:Chip):Chip))⟩]) ?_ ?_
 ·skip;refine Zp<|Zu H6 (fun ⟨x_7,l_8⟩ (_:Unit)=>(Env.set (Env.set (Env.set (Env.set Env.nil 1 (Pt b1_0 0)) 2 (Pt b2_1 0)) 10 (D ((x_3.length:Int):Int))) 11 (D x_7))) (fun ⟨x_7,l_8⟩ (_:Unit)=>[⟨b6_3,p6_3,(Row (l_8:List Block) c6_3)⟩,⟨b1_0,True,(Ct.mix (One c0) 2 (Sl b6_3 p6_3 0 l_8.length c6_3))⟩,⟨b2_1,True,(One ((Dat.z:Chip):Chip))⟩]) () (Za (Za (Za (Za (Zd _))))) (Zc rfl (Zc rfl (Zc rfl (Ze _)))) ?_;rintro ⟨x_7,l_8⟩ ⟨⟩ x_9 H9 he9;dsimp only at H9;unfold ZaU at H9;refine zg ?_;refine zc H9 (fun hc H9=>?_) fun hc H9=>?_
  ·refine zC ?_;refine zX (Zff [8,9,12] [b6_3] mix (by kernel_rfl) (by kernel_rfl)) ?_;refine zX (Zeq (ZS Zaa) rfl) ?_;refine zX (Zeq (ZS Zaa) rfl) ?_;refine zn H9 fun _ ex_10 H9=>?_
   refine zX (Zeq (Zm (ZI ex_10.h rfl)) rfl) ?_;refine Zfi (fun g=>Zgo rfl (ZaE (PF 0 Block (List (List UInt8)) (ZaC ex_10.h)))) rfl ?_;refine zn H9 fun x_11 ex_11 H9=>?_
   refine Zfi (fun g=>Zgo rfl (Zho fun w v0 hA h0=>chip_copied_c.h w v0 hA (toD h0) ex_11.h)) rfl ?_;refine zn H9 fun _ ex_12 H9=>?_
   refine zX (Zeq (Zm (ZI ex_12.h rfl)) rfl) ?_;refine Zdg (fun g=>(Zw (y:=(x_11:(List (List UInt8)))) (PF 0 Block (List (List UInt8)) (ZaC ex_12.h)))) rfl ?_;refine zC ?_;rintro ⟨⟨⟨_,_⟩,_⟩,_⟩;dsimp only [Fam.nextS,Fam.nextN,Fam.one,List.cons_append,List.nil_append];refine zn H9 fun l_13 el_13 H9=>?_
   refine Zaf b6_3 (Zac el_13.h) ?_;refine zX (Zaf b1_0 (Zft (Zen el_13.h (by simp)))) ?_;refine zb H9 fun x_14 _ H9=>?_
   exact Zq ⟨x_14,l_13⟩ () (ZZs H9) (Za (Za (Za (Za (Zd _))))) (Zc rfl (Zc rfl (Zc rfl (Ze _))))
  ·refine zg ?_;exact Zj l_8 () (he9 _ (ZZs H9)).symm (Za (Za (Zd _))) (Zc rfl (Zc rfl (Zc rfl (Ze _))))
 rintro l_5 ⟨⟩ hp;replace hp:=hp.symm;subst hp;refine zg ?_;refine TSx (ZaE (Pl.mix (PF 5 Chip (List Fault) Zx) (by first | decide | omega))) ?_;refine zb H fun x_15 _ H=>?_
 refine Zbj (Zw (y:=(x_15:(List Fault))) (Pl.mix (PF 5 Chip (List Fault) Zx) (by first | decide | omega))) ?_;refine zC ?_;refine zn H fun cx_16 ecx_16 H=>?_
 refine zX (ZB b1_0 (Zc2 (Zah ecx_16.h))) ?_;refine TSx (Zdu trivial rfl rfl) ?_;refine zX (Zbj (ZX trivial rfl CtSc.h)) ?_;obtain rfl:=ZZi H;exact ZA rfl ⟨b6_3,p6_3,c6_3⟩ (VC_le (ZhE (α:=Block) (by have h:=((PF 2 Chip (List Block) (Zx (α:=Chip) (i:=Chip_dat) (x:=cx_16)))).st ([]:(List Block));exact h) rfl)) (Zc rfl (Ze _))
instance chip_clone_c:Fd1 48 Zbm fun r=>D r:=⟨@fun _ _ r w v0 hA h0 H=>(on1 (ZgI H) w v0 hA h0).mono fun e w' h=>Zld.pub hA (by exact fun g A w v hb h=>(fun v h=>VC.pub (((PF 2 Chip (List Block) Zx)).st (r.Blocks:(List Block))) rfl (fun u h=>ZG (C:=Row r.Blocks g.2.2) PlS.all rfl A w u (fun hp=>hb _ (List.mem_singleton.2 rfl) hp) h) h) v h) h⟩
theorem ZdG {p r:List (List UInt8)} (H:Zda p=some r):r=p:=by
 unfold Zda at H;refine zn H fun _ _ H=>?_
 refine zn H fun _ _ H=>?_
 refine zn H fun _ _ H=>?_
 refine zn H fun _ _ H=>?_
 exact (ZZs H)
theorem Zit {l:List Block} {x x':Int} {l' x3:List Block} (h:ZaU x3 x l=some (.inl (x',l'))):l'=l:=by
 unfold ZaU at h;cases hc:decide (x<(x3.length:Int)) with
 | false=>replace h:=cF h hc;cases ZZi h
 | true=>
   replace h:=cT h hc;obtain ⟨y,ey,h⟩:=bnd h;obtain ⟨p,ep,h⟩:=bnd h;obtain ⟨z,ez,h⟩:=bnd h;obtain ⟨l2,el,h⟩:=bnd h;obtain ⟨_,_,h⟩:=bnd h;have h:=ZZi h;injection h with h;injection h with h1 h2;subst h2;rw [ey] at ez;obtain rfl:=ZZi ez;obtain rfl:=ZdG ep;obtain ⟨-,h5⟩:=ZaS ey;obtain ⟨h6,h7⟩:=List.getElem?_eq_some_iff.1 h5;rw [← ZZi el,← h7,List.set_getElem_self]
theorem Zjq {l:List Block} {x:Int} {l' x3:List Block} (h:ZaU x3 x l=some (.inr l')):l'=l:=by
 unfold ZaU at h;cases hc:decide (x<(x3.length:Int)) with
 | true=>
   replace h:=cT h hc;obtain ⟨y,ey,h⟩:=bnd h;obtain ⟨p,ep,h⟩:=bnd h;obtain ⟨z,ez,h⟩:=bnd h;obtain ⟨l2,el,h⟩:=bnd h;obtain ⟨_,_,h⟩:=bnd h;cases ZZi h
 | false=>replace h:=cF h hc;injection ZZi h with h;exact h.symm
theorem Ziu {x3 l:List Block} (h:ZM (fun s=>ZaU x3 s.1 s.2) ((0:Int),x3)=some l):l=x3:=
 ZkY (fun s:Int×List Block=>s.2=x3) (fun l=>l=x3) (fun ⟨_,_⟩ ⟨_,_⟩ h1 hf=>(Zit hf).trans h1) (fun ⟨_,_⟩ _ h1 hf=>(Zjq hf).trans h1) rfl h
theorem Zjp {s r:List Block} (h:ZW s=some r):r=s:=by
 unfold ZW at h;obtain ⟨_,_,h⟩:=bnd h;exact (ZZs h)
theorem clone_Fault_eq {s r:List Fault} (h:ZH s=some r):r=s:=by
 unfold ZH at h;obtain ⟨_,_,h⟩:=bnd h;exact (ZZs h)
theorem ZhN {c r:Chip} (H:Zbm c=some r):r=c:=by
 unfold Zbm at H;refine zn H fun _ e1 H=>?_
 refine zn H fun _ e2 H=>?_
 refine zn H fun _ e3 H=>?_
 refine zn H fun _ e4 H=>?_
 obtain rfl:=Zjp e1.h;obtain rfl:=Ziu e2.h;obtain rfl:=clone_Fault_eq e3.h;have h:=ZZi H;have h4:=ZZi e4.h;subst h4;exact h.symm
def cloJ (b6_3:Nat) (p6_3:Prop) (c6_3 b1_0 b2_1:Nat) (c0:Chip) (P:List (List UInt8)) (β x:Int) (l:List Block) (m:Nat×Nat×Prop×Nat×Nat):List Pe:=
 if x≤β then [⟨b6_3,p6_3,(Row (l:List Block) c6_3)⟩,⟨b1_0,True,(Ct.mix (One c0) 2 (Sl b6_3 p6_3 0 l.length c6_3))⟩,⟨b2_1,True,(One (Dat.z:Chip))⟩]
 else [⟨b6_3,p6_3,(Ct.mix (Row (l:List Block) c6_3) ((0+Int.toNat β*Dat.sz Block)+0) (Sl m.1 m.2.2.1 0 P.length m.2.2.2.1))⟩,⟨b1_0,True,(Ct.mix (One c0) 2 (Sl b6_3 p6_3 0 l.length c6_3))⟩,⟨b2_1,True,(One (Dat.z:Chip))⟩,
  ⟨m.1,m.2.2.1,ZjU m.2.1 m.2.2.1 1 (P.map List.length) P.length⟩,⟨m.2.1,m.2.2.1,Row (P.flatten:List UInt8) m.2.2.2.2⟩]
theorem cloJ_lo {b6_3:Nat} {p6_3:Prop} {c6_3 b1_0 b2_1:Nat} {c0:Chip} {P:List (List UInt8)} {β x:Int} {l:List Block} {m:Nat×Nat×Prop×Nat×Nat} (h:x≤β):cloJ b6_3 p6_3 c6_3 b1_0 b2_1 c0 P β x l m =
  [⟨b6_3,p6_3,(Row (l:List Block) c6_3)⟩,⟨b1_0,True,(Ct.mix (One c0) 2 (Sl b6_3 p6_3 0 l.length c6_3))⟩,⟨b2_1,True,(One (Dat.z:Chip))⟩]:=if_pos h
theorem cloJ_hi {b6_3:Nat} {p6_3:Prop} {c6_3 b1_0 b2_1:Nat} {c0:Chip} {P:List (List UInt8)} {β x:Int} {l:List Block} {bo br:Nat} {po:Prop} {co cr:Nat} (h:β<x):cloJ b6_3 p6_3 c6_3 b1_0 b2_1 c0 P β x l ⟨bo,br,po,co,cr⟩ =
  [⟨b6_3,p6_3,(Ct.mix (Row (l:List Block) c6_3) ((0+Int.toNat β*Dat.sz Block)+0) (Sl bo po 0 P.length co))⟩,⟨b1_0,True,(Ct.mix (One c0) 2 (Sl b6_3 p6_3 0 l.length c6_3))⟩,⟨b2_1,True,(One (Dat.z:Chip))⟩,
   ⟨bo,po,ZjU br po 1 (P.map List.length) P.length⟩,⟨br,po,Row (P.flatten:List UInt8) cr⟩]:=if_neg (by omega)
theorem Zlt {A:Nat→Prop} {c0 r:Chip} {β:Int} {y:Block} (w:World) (v0:Value) (hA:∀ k,w.heap.size≤k→A k) (hO:OwnIn A []) (hap:ZfD []) (hks:Pks (Pub A []) [] w) (h0:(D c0).p (Pub A []) w v0) (H:Zbm c0=some r) (hβ:idx r.Blocks β=some y) :
    Calls Tryz.prog 48 #[v0] w (Zld A w [] (fun g:Nat×Prop×Nat×Nat×Nat×Prop×Nat×Nat=>VC (Ct.mix (One ((⟨r.Pages,r.Size,[],r.Ops,r.Off,r.Faults⟩:Chip):Chip)) 2 (Sl g.1 g.2.1 0 (List.length r.Blocks) g.2.2.1)))
      fun g=>[⟨g.1,g.2.1,Ct.mix (Row (r.Blocks:List Block) g.2.2.1) ((0+Int.toNat β*Dat.sz Block)+0) (Sl g.2.2.2.1 g.2.2.2.2.2.1 0 y.Pages.length g.2.2.2.2.2.2.1)⟩,⟨g.2.2.2.1,g.2.2.2.2.2.1,ZjU g.2.2.2.2.1 g.2.2.2.2.2.1 1 (y.Pages.map List.length) y.Pages.length⟩,⟨g.2.2.2.2.1,g.2.2.2.2.2.1,Row (y.Pages.flatten:List UInt8) g.2.2.2.2.2.2.2⟩]):=by
 have hr:=ZhN H;unfold Zbm at H;refine zX (enterO1 hA hap hks Tryz.func48 rfl Tryz.ntmps48 rfl h0) ?_;refine TS.box rfl fun b1_0=>?_
 refine TS.alloc rfl fun b2_1=>zg ?_
 refine zn H fun x_3 ex_3 H=>?_
 have hx3:=Zjp ex_3.h;refine Zdw (oc1 [] (Zcs ex_3.h) toD) rfl fun ⟨b6_3,p6_3,c6_3⟩=>?_
 refine zw ?_;refine zX (Zbj (Zbc (CtH.new (by decide)))) ?_;refine TSx (ZS Zaa)<|TSx (Zax (n:=x_3.length) rfl) ?_;refine zC ?_;refine zh H fun o_6 H6 H=>?_
 have ho6:=Ziu H6;have hβ':idx x_3 β=some y:=by rw [hx3,← hr];exact hβ
 have hβ2:=Zil hβ';refine Zn (fun s:(List Block)=>o_6=s) (fun (l_5:(List Block)) (_:Nat×Nat×Prop×Nat×Nat)=>(Env.set (Env.set Env.nil 1 (Pt b1_0 0)) 2 (Pt b2_1 0))) (fun (l_5:(List Block)) (m:Nat×Nat×Prop×Nat×Nat)=>[⟨b6_3,p6_3,(Ct.mix (Row (l_5:List Block) c6_3) ((0+Int.toNat β*Dat.sz Block)+0) (Sl m.1 m.2.2.1 0 y.Pages.length m.2.2.2.1))⟩,⟨b1_0,True,(Ct.mix (One c0) 2 (Sl b6_3 p6_3 0 l_5.length c6_3))⟩,⟨b2_1,True,(One (Dat.z:Chip))⟩,
   ⟨m.1,m.2.2.1,ZjU m.2.1 m.2.2.1 1 (y.Pages.map List.length) y.Pages.length⟩,⟨m.2.1,m.2.2.1,Row (y.Pages.flatten:List UInt8) m.2.2.2.2⟩]) ?_ ?_
 ·skip;refine Zp ?_;refine TC.loopPI H6 (fun s:Int×List Block=>s.2=x_3) rfl (fun ⟨_,_⟩ ⟨_,_⟩ h1 hf=>(Zit hf).trans h1) (fun ⟨x_7,l_8⟩ (_:Nat×Nat×Prop×Nat×Nat)=>(Env.set (Env.set (Env.set (Env.set Env.nil 1 (Pt b1_0 0)) 2 (Pt b2_1 0)) 10 (D ((x_3.length:Int):Int))) 11 (D x_7))) (fun ⟨x_7,l_8⟩ m=>cloJ b6_3 p6_3 c6_3 b1_0 b2_1 c0 y.Pages β x_7 l_8 m) ⟨0,0,True,0,0⟩ (Za (Za (Za (Za (Zd _))))) (by
    show Less _ (cloJ b6_3 p6_3 c6_3 b1_0 b2_1 c0 y.Pages β 0 x_3 _);rw [cloJ_lo (by omega)];exact (Zc rfl (Zc rfl (Zc rfl (Ze _))))) ?_
  rintro ⟨x_7,l_8⟩ m x_9 hl8 H9 he9;replace H9:ZaU x_3 x_7 l_8=some x_9:=H9;obtain rfl:l_8=x_3:=hl8;have hend:=@Zjq l_8 x_7;unfold ZaU at H9;show TC _ _ _ _ (cloJ b6_3 p6_3 c6_3 b1_0 b2_1 c0 y.Pages β x_7 l_8 m) _ _;rcases Int.lt_trichotomy x_7 β with hx | hx | hx
  ·rw [cloJ_lo (by omega)];refine zg ?_;refine Zgk (fun hc=>?_) (fun hc=>?_)
   ·replace H9:=cT H9 hc;refine zn H9 fun x_10 ex_10 H9=>?_
    refine zn H9 fun x_11 ex_11 H9=>?_
    refine zn H9 fun x_12 ex_12 H9=>?_
    replace ex_12:=ex_12.h;refine zn H9 fun l_13 el_13 H9=>?_
    refine zn H9 fun x_14 ex_14 H9=>?_
    have e14:=(Zct ex_14.h).1;have hset:(l_8.set (Int.toNat x_7) (⟨x_11,x_12.Used,x_12.Worn,x_12.Bad⟩:Block))=l_8:=by
      have h12:x_12=x_10:=by rw [ex_10.h] at ex_12;exact (ZZs ex_12)
      obtain ⟨-,h5⟩:=ZaS ex_10.h;obtain ⟨h6,h7⟩:=List.getElem?_eq_some_iff.1 h5;rw [ZdG ex_11.h,h12];show l_8.set (Int.toNat x_7) x_10=l_8;rw [← h7,List.set_getElem_self]
    rw [show l_13=l_8 from (ZZi el_13.h).symm.trans hset] at H9;refine zC ?_;refine zX (Zff [8,9,12] [b6_3] mix (by kernel_rfl) (by kernel_rfl)) ?_;refine zX (Zeq (ZS Zaa) rfl) ?_;refine zX (Zeq (ZS Zaa) rfl) ?_;refine zX (Zeq (Zm (ZI ex_10.h rfl)) rfl) ?_;refine Zfi (fun g=>Zgo rfl (ZaE (PF 0 Block (List (List UInt8)) (ZaC ex_10.h)))) rfl<|Zfi (fun g=>Zgo rfl (Zho fun w v0 hA h0=>chip_copied_c.h w v0 hA (toD h0) ex_11.h)) rfl ?_;refine zX (Zeq (Zm (ZI ex_12 rfl)) rfl) ?_;refine Zdg (fun g=>(Zw (y:=(x_11:(List (List UInt8)))) (PF 0 Block (List (List UInt8)) (ZaC ex_12)))) rfl ?_;refine zC ?_;rintro ⟨⟨⟨_,_⟩,_⟩,_⟩;dsimp only [Fam.nextS,Fam.nextN,Fam.one,List.cons_append,List.nil_append];refine zX (Zaf b6_3 (by rw [hset])) ?_;refine zX (Za1 (Zgp ex_14.h) rfl) ?_;exact Zq ⟨x_14,l_8⟩ m (ZZs H9) (Za (Za (Za (Za (Zd _))))) (by rw [cloJ_lo (by omega)];exact (Zc rfl (Zc rfl (Zc rfl (Ze _)))))
   ·have:=of_decide_eq_false hc;omega
  ·subst hx;rw [cloJ_lo (by omega)];refine zg ?_;refine Zgk (fun hc=>?_) (fun hc=>?_)
   ·replace H9:=cT H9 hc;refine zn H9 fun x_10 ex_10 H9=>?_
    replace ex_10:=ex_10.h;refine zn H9 fun x_11 ex_11 H9=>?_
    refine zn H9 fun x_12 ex_12 H9=>?_
    replace ex_12:=ex_12.h;refine zn H9 fun l_13 el_13 H9=>?_
    refine zn H9 fun x_14 ex_14 H9=>?_
    have e14:=(Zct ex_14.h).1;have hset:(l_8.set (Int.toNat x_7) (⟨x_11,x_12.Used,x_12.Worn,x_12.Bad⟩:Block))=l_8:=by
      have h12:x_12=x_10:=by rw [ex_10] at ex_12;exact (ZZs ex_12)
      obtain ⟨-,h5⟩:=ZaS ex_10;obtain ⟨h6,h7⟩:=List.getElem?_eq_some_iff.1 h5;rw [ZdG ex_11.h,h12];show l_8.set (Int.toNat x_7) x_10=l_8;rw [← h7,List.set_getElem_self]
    rw [show l_13=l_8 from (ZZi el_13.h).symm.trans hset] at H9;have K9:=H9;rw [hβ'] at ex_10;obtain rfl:=ZZi ex_10;replace ex_10:=hβ';obtain rfl:=ZdG ex_11.h;refine zC ?_;refine zX (Zff [8,9,12] [b6_3] mix (by kernel_rfl) (by kernel_rfl)) ?_;refine zX (Zeq (ZS Zaa) rfl) ?_;refine zX (Zeq (ZS Zaa) rfl) ?_;refine zX (Zeq (Zm (ZI ex_10 rfl)) rfl) ?_;refine Zfi (fun g=>Zgo rfl (ZaE (PF 0 Block (List (List UInt8)) (ZaC ex_10)))) rfl<|Zfi (fun g=>oc1 [] (Zkt ex_11.h) toD) rfl ?_;refine zX (Zeq (Zm (ZI ex_12 rfl)) rfl) ?_;refine Zdg (fun g=>(Zbc (ZkE ex_12 (off:=0) (by omega) (by decide)))) rfl ?_;refine zC ?_;rintro ⟨⟨⟨_,_⟩,⟨bo,br,po,co,cr⟩⟩,_⟩;dsimp only [Fam.nextS,Fam.nextN,Fam.one,List.cons_append,List.nil_append];skip;refine zg ?_;refine zX (Za1 (Zgp ex_14.h) rfl) ?_;exact Zq ⟨x_14,l_8⟩ ⟨bo,br,po,co,cr⟩ (ZZs K9) (Za (Za (Za (Za (Zd _))))) (by rw [cloJ_hi (by omega)];exact (Zc rfl (Zc rfl (Zc rfl (Zc rfl (Zc rfl (Ze _)))))))
   ·have:=of_decide_eq_false hc;omega
  ·obtain ⟨bo,br,po,co,cr⟩:=m;rw [cloJ_hi hx];refine zg ?_;refine zc H9 (fun hc H9=>?_) fun hc H9=>?_
   ·refine zn H9 fun x_10 ex_10 H9=>?_
    refine zn H9 fun x_11 ex_11 H9=>?_
    refine zn H9 fun x_12 ex_12 H9=>?_
    replace ex_12:=ex_12.h;refine zn H9 fun l_13 el_13 H9=>?_
    refine zn H9 fun x_14 ex_14 H9=>?_
    have e14:=(Zct ex_14.h).1;have hset:(l_8.set (Int.toNat x_7) (⟨x_11,x_12.Used,x_12.Worn,x_12.Bad⟩:Block))=l_8:=by
      have h12:x_12=x_10:=by rw [ex_10.h] at ex_12;exact (ZZs ex_12)
      obtain ⟨-,h5⟩:=ZaS ex_10.h;obtain ⟨h6,h7⟩:=List.getElem?_eq_some_iff.1 h5;rw [ZdG ex_11.h,h12];show l_8.set (Int.toNat x_7) x_10=l_8;rw [← h7,List.set_getElem_self]
    rw [show l_13=l_8 from (ZZi el_13.h).symm.trans hset] at H9;have hxn:Int.toNat x_7≠Int.toNat β:=by have:=Zil ex_10.h;omega
    refine zC ?_;refine zX (Zff [8,9,12] [b6_3] mix (by kernel_rfl) (by kernel_rfl)) ?_;refine zX (Zeq (ZS Zaa) rfl) ?_;refine zX (Zeq (ZS Zaa) rfl) ?_;refine zX (Zeq (Zm (ZI ex_10.h rfl)) rfl) ?_;refine Zfi (fun g=>Zgo rfl (ZaE (Pl.mix (PF 0 Block (List (List UInt8)) (ZaC ex_10.h)) (by simp only [show Dat.sz Block=4 from rfl,show Dat.sz (List (List UInt8))=1 from rfl];omega)))) rfl<|Zfi (fun g=>Zgo rfl (Zho fun w v0 hA h0=>chip_copied_c.h w v0 hA (toD h0) ex_11.h)) rfl ?_;refine zX (Zeq (Zm (ZI ex_12 rfl)) rfl) ?_;refine Zdg (fun g=>(Zw (y:=(x_11:(List (List UInt8)))) (Pl.mix (PF 0 Block (List (List UInt8)) (ZaC ex_12)) (by simp only [show Dat.sz Block=4 from rfl,show Dat.sz (List (List UInt8))=1 from rfl];omega)))) rfl ?_;refine zC ?_;rintro ⟨⟨⟨_,_⟩,_⟩,_⟩;dsimp only [Fam.nextS,Fam.nextN,Fam.one,List.cons_append,List.nil_append];refine zX (Zaf b6_3 (Zc2 (by rw [hset]))) ?_;refine zX (Za1 (Zgp ex_14.h) rfl) ?_;exact Zq ⟨x_14,l_8⟩ ⟨bo,br,po,co,cr⟩ (ZZs H9) (Za (Za (Za (Za (Zd _))))) (by rw [cloJ_hi (by omega)];exact (Zc rfl (Zc rfl (Zc rfl (Zc rfl (Zc rfl (Ze _)))))))
   ·refine zg ?_;exact Zj l_8 ⟨bo,br,po,co,cr⟩ (he9 _ (ZZs H9)).symm (Za (Za (Zd _))) (Zc rfl (Zc rfl (Zc rfl (Zc rfl (Zc rfl (Ze _))))))
 rintro l_5 ⟨bo,br,po,co,cr⟩ hp;replace hp:=hp.symm;subst hp;dsimp only;refine zg ?_;refine TSx (ZaE (Pl.mix (PF 5 Chip (List Fault) Zx) (by first | decide | omega))) ?_;refine zb H fun x_15 _ H=>?_
 refine Zbj (Zw (y:=(x_15:(List Fault))) (Pl.mix (PF 5 Chip (List Fault) Zx) (by first | decide | omega))) ?_;refine zC ?_;refine zn H fun c_16 ec_16 H=>?_
 refine zX (ZB b1_0 (Zc2 (Zah ec_16.h))) ?_;refine TSx (Zdu trivial rfl rfl) ?_;refine zX (Zbj (ZX trivial rfl CtSc.h)) ?_;obtain rfl:=ZZi H;exact ZA rfl ⟨b6_3,p6_3,c6_3,bo,br,po,co,cr⟩ (VC_le (ZhE (α:=Block) (by have h:=((PF 2 Chip (List Block) (Zx (α:=Chip) (i:=Chip_dat) (x:=c_16)))).st ([]:(List Block));exact h) rfl)) (Zc rfl (Zc rfl (Zc rfl (Ze _))))
def Zd6 (c0:Chip) (x_6:Block) (x_10:Int):Option (Int⊕(Unit⊕Bool)):=
 bif (decide (x_10<(x_6.Pages.length:Int))) then ((idx x_6.Pages x_10).bind fun x_12=>bif (decide ((x_12.length:Int)≠c0.Size)) then (some (.inr (.inr false))) else ((Zas x_10 1).bind fun x_15=>some (.inl x_15))) else (some (.inr (.inl ())))
def Zd7 (c0:Chip) (x_4:Int):Option (Int⊕(Unit⊕Bool)):=
 bif (decide (x_4<(c0.Blocks.length:Int))) then ((idx c0.Blocks x_4).bind fun x_6=>bif (((((decide ((x_6.Pages.length:Int)≠c0.Pages))||(decide (x_6.Used<(0:Int))))||(decide (x_6.Used>c0.Pages)))||(decide (x_6.Worn<(0:Int))))||(decide (x_6.Worn>(1099511627776:Int)))) then (some (.inr (.inr false))) else ((ZM (fun s=>Zd6 c0 x_6 s) (0:Int)).bind fun o_9=>elS o_9 (fun _=>(Zas x_4 1).bind fun x_16=>some (.inl x_16)) (fun q=>some (.inr (.inr q))))) else (some (.inr (.inl ())))
def ZeJ (c0:Chip):Option Bool:=
 (ZfK (c0.Blocks.length:Int) c0.Pages c0.Size).bind fun x_2=>bif ((((!x_2)||(decide (c0.Ops<(0:Int))))||(decide (c0.Ops>(1099511627776:Int))))||(decide ((c0.Faults.length:Int)>(64:Int)))) then (some false) else ((ZM (fun s=>Zd7 c0 s) (0:Int)).bind fun o_3=>elS o_3 (fun _=>some true) (fun q=>some q))
instance chip_Right_c:Fd1 49 ZeJ fun r=>D r:=en1 Tryz.func49 rfl Tryz.ntmps49 fun A w hA c0 r H=>by
 unfold ZeJ at H;refine zg ?_;refine TS.box rfl fun b1_0=>zg ?_
 refine zb H fun _ _ H=>?_
 refine zc H (fun hc H=>?_) fun hc H=>?_
 ·exact zY H
 ·refine zC ?_;refine zh H fun o_3 H3 H=>?_
  refine Zn (fun s:Unit=>o_3=.inl s) (fun (_:Unit) (_:Unit)=>Env.nil) (fun (_:Unit) (_:Unit)=>[]) ?_ ?_
  ·skip;refine Zp<|Zu H3 (fun (x_4:Int) (_:Unit)=>(Env.set (Env.set (Env.set (Env.set Env.nil 1 (Pt b1_0 0)) 33 (D c0.Blocks)) 34 (D ((c0.Blocks.length:Int):Int))) 35 (D x_4))) (fun (x_4:Int) (_:Unit)=>[⟨b1_0,True,(One c0)⟩]) () (Za (Za (Za (Za (Zd _))))) (Zc rfl (Ze _)) ?_;rintro x_4 ⟨⟩ x_5 H5 he5;unfold Zd7 at H5;refine zg ?_;refine zc H5 (fun hc H5=>?_) fun hc H5=>?_
   ·refine zg ?_;refine zb H5 fun x_6 _ H5=>?_
    refine TS.alloc rfl fun b4_6=>zg ?_
    refine zc H5 (fun hc H5=>?_) fun hc H5=>?_
    ·refine zC ?_;refine ZL<|Zg<|Zf<|Zg<|Zg<|Zf<|Zs ?_;have R7:=ZaM (he5 _ (ZZs H5)) H;refine zg ?_;obtain rfl:=ZZi R7;exact ZaV rfl Cv.le
    ·refine zC ?_;refine zh H5 fun o_9 H9 H5=>?_
     refine Zn (fun s:Unit=>o_9=.inl s) (fun (_:Unit) (_:Unit)=>(Env.set (Env.set (Env.set (Env.set Env.nil 1 (Pt b1_0 0)) 33 (D c0.Blocks)) 34 (D ((c0.Blocks.length:Int):Int))) 35 (D x_4))) (fun (_:Unit) (_:Unit)=>[⟨b1_0,True,(One c0)⟩]) ?_ ?_
     ·skip;refine Zp<|Zu H9 (fun (x_10:Int) (_:Unit)=>(Env.set (Env.set (Env.set (Env.set (Env.set (Env.set (Env.set Env.nil 1 (Pt b1_0 0)) 33 (D c0.Blocks)) 34 (D ((c0.Blocks.length:Int):Int))) 35 (D x_4)) 68 (D x_6.Pages)) 69 (D ((x_6.Pages.length:Int):Int))) 70 (D x_10))) (fun (x_10:Int) (_:Unit)=>[⟨b1_0,True,(One c0)⟩]) () (Za (Za (Za (Za (Za (Za (Za (Zd _)))))))) (Zc rfl (Ze _)) ?_;rintro x_10 ⟨⟩ x_11 H11 he11;unfold Zd6 at H11;refine zg ?_;refine zc H11 (fun hc H11=>?_) fun hc H11=>?_
      ·refine zg ?_;refine zb H11 fun _ _ H11=>?_
       refine zc H11 (fun hc H11=>?_) fun hc H11=>?_
       ·refine zC ?_;refine ZL<|Zf<|Zg<|Zg<|Zf<|Zs ?_;have R12:=ZaM (he11 _ (ZZs H11)) H5;refine Zf<|Zg<|Zg<|Zf<|Zs ?_;have R13:=ZaM (he5 _ (ZZs R12)) H;refine zg ?_;obtain rfl:=ZZi R13;exact ZaV rfl Cv.le
       ·refine zg ?_;refine zb H11 fun x_15 _ H11=>?_
        exact Zq x_15 () (ZZs H11) (Za (Za (Za (Za (Za (Za (Za (Zd _)))))))) (Zc rfl (Ze _))
      ·refine zg ?_;exact Zj () () (he11 _ (ZZs H11)).symm (Za (Za (Za (Za (Zd _))))) (Zc rfl (Ze _))
     rintro ⟨⟩ ⟨⟩ hp;replace H5:=ZbD hp H5;refine zg ?_;refine zb H5 fun x_16 _ H5=>?_
     exact Zq x_16 () (ZZs H5) (Za (Za (Za (Za (Zd _))))) (Zc rfl (Ze _))
   ·refine zg ?_;exact Zj () () (he5 _ (ZZs H5)).symm (Zd _) (Ze _)
  rintro ⟨⟩ ⟨⟩ hp;replace H:=ZbD hp H;exact zY H
def Ziv (c0:Chip) (faults0:(List Fault)):Option (Chip×Int):=
 (Zbm c0).bind fun x_3=>(ZeJ c0).bind fun x_5=>bif ((!x_5)||(decide ((faults0.length:Int)>(64:Int)))) then (some (x_3,(1:Int))) else ((some ((⟨x_3.Pages,x_3.Size,x_3.Blocks,x_3.Ops,false,x_3.Faults⟩:Chip):Chip)).bind fun d_6=>(ZH faults0).bind fun x_7=>(some ((⟨d_6.Pages,d_6.Size,d_6.Blocks,d_6.Ops,d_6.Off,x_7⟩:Chip):Chip)).bind fun d_8=>some (d_8,(0:Int)))
instance chip_On_c:Fd2 12 Ziv fun r=>Tup [D r.1,D r.2]:=en2 Tryz.func12 rfl Tryz.ntmps12 fun _ _ _ _ _ _ H=>by
 unfold Ziv at H;exact zY H
def ZeT (c0:Chip) (block0:Int):Option Bool:=
 (ZeJ c0).bind fun x_2=>some ((x_2&&(decide (block0≥(0:Int))))&&(decide (block0<(c0.Blocks.length:Int))))
instance chip_has_c:Fd2 162 ZeT fun r=>D r:=en2 Tryz.func162 rfl Tryz.ntmps162 fun _ _ _ _ _ _ H=>by
 unfold ZeT at H;exact zY H
theorem Zkr {c:Chip} {n:Int} {x:Bool} (H:ZeT c n=some x) (h:idx c.Blocks n=none):x=false:=by
 unfold ZeT at H;refine zn H fun _ _ H=>?_
 rw [← ZZi H];unfold idx at h
 split at h
 ·have h2:=List.getElem?_eq_none_iff.1 h;have h3:decide (n<(c.Blocks.length:Int))=false:=by simp;omega
  rw [h3,Bool.and_false]
 ·have h3:decide (n≥(0:Int))=false:=by simp;omega
  rw [h3,Bool.and_false,Bool.false_and]
theorem block_same {xs:List Block} {k:Int} {y:Block} (e:idx xs k=some y):xs.set k.toNat (⟨y.Pages,y.Used,y.Worn,y.Bad⟩:Block)=xs:=by
 obtain ⟨-,h5⟩:=ZaS e;obtain ⟨h6,h7⟩:=List.getElem?_eq_some_iff.1 h5;show xs.set k.toNat y=xs;rw [← h7,List.set_getElem_self]
theorem ZfL {xs:List Block} {c:Nat} {k:Int} {y:Block} (e:idx xs k=some y):CtSet (Row xs c) ((0+Int.toNat k*Dat.sz Block)+0) (List (List UInt8)) instList y.Pages (Row xs c):=by
 have h:=((Pl.fld (off:=0) (α:=Block) (i:=Block_dat) (β:=(List (List UInt8))) (j:=instList) (ZaC (i:=Block_dat) (c:=c) e))).st y.Pages;rw [block_same e] at h;exact h
def Ziw (c0:Chip) (block0:Int):Option (Chip×Int):=
 (Zbm c0).bind fun x_3=>(some ((⟨x_3.Pages,x_3.Size,[],x_3.Ops,x_3.Off,x_3.Faults⟩:Chip):Chip)).bind fun d_6=>(ZeT c0 block0).bind fun x_7=>bif (!x_7) then ((some ((⟨d_6.Pages,d_6.Size,x_3.Blocks,d_6.Ops,d_6.Off,d_6.Faults⟩:Chip):Chip)).bind fun k_8=>some (k_8,(1:Int))) else (bif c0.Off then ((some ((⟨d_6.Pages,d_6.Size,x_3.Blocks,d_6.Ops,d_6.Off,d_6.Faults⟩:Chip):Chip)).bind fun k_9=>some (k_9,(7:Int))) else ((idx x_3.Blocks block0).bind fun x_10=>(some ((x_3.Blocks.set (Int.toNat block0) (⟨x_10.Pages,x_10.Used,x_10.Worn,true⟩:Block)):(List Block))).bind fun l_11=>(some ((⟨d_6.Pages,d_6.Size,l_11,d_6.Ops,d_6.Off,d_6.Faults⟩:Chip):Chip)).bind fun k_12=>some (k_12,(0:Int))))
instance chip_Mark_c:Fd2 165 Ziw fun r=>Tup [D r.1,D r.2]:=en2 Tryz.func165 rfl Tryz.ntmps165 fun A w hA c0 block0 r H=>by
 unfold Ziw at H;refine zg ?_;refine TS.box rfl fun b2_0=>?_
 refine TS.alloc rfl fun b4_1=>zg ?_
 refine zn H fun x_3 ex_3 H=>?_
 refine Zdw (oc1 [] (ZgI ex_3.h) toD) rfl fun ⟨b8_3,p8_3,c8_3⟩=>?_
 dsimp only [List.cons_append,List.nil_append];refine TS.alloc rfl fun b6_4=>?_
 refine Zbj (ZX trivial rfl CtSc.h) ?_;refine zC ?_;refine zn H fun _ ed_6 H=>?_
 refine zX (ZB b6_4 (Zc2 (Zah ed_6.h))) ?_;refine zb H fun _ _ H=>?_
 refine zc H (fun hc H=>?_) fun hc H=>?_
 ·refine zg ?_;refine TS.coll b6_4 b8_3 (o:=2) (((PF 2 Chip (List Block) Zx)).st (x_3.Blocks:List Block)) (ZG PlS.all rfl) ?_;exact zY H
 ·refine zg ?_;refine zc H (fun hc H=>?_) fun hc H=>?_
  ·refine zg ?_;refine TS.coll b6_4 b8_3 (o:=2) (((PF 2 Chip (List Block) Zx)).st (x_3.Blocks:List Block)) (ZG PlS.all rfl) ?_;exact zY H
  ·refine zg ?_;refine zX (Za1 (ZS Zaa) rfl) ?_;refine zn H fun _ ex_10 H=>?_
   refine TSx (Zm (ZI ex_10.h rfl)) ?_;refine zC ?_;refine zn H fun l_11 el_11 H=>?_
   refine ZB b8_3 (Zac el_11.h) ?_;refine zX (ZB b6_4 (Zft (Zen el_11.h (by simp)))) ?_;refine TS.coll b6_4 b8_3 (o:=2) (((PF 2 Chip (List Block) Zx)).st (l_11:List Block)) (ZG PlS.all rfl) ?_;exact zY H
end Go.Proofs.YtkmojgfenlgchaaGreatDoor.Tr
namespace Go.Proofs.YtkmojgfenlgchaaGreatDoor.Tr
open Go Go.RowKit
set_option maxRecDepth 100000
set_option synthInstance.maxHeartbeats 400000
set_option synthInstance.maxSize 4096
def Zcz (c0:Chip) (x_4:Int):Option (Int⊕(Unit⊕(Fault×Bool))):=
 bif (decide (x_4<(c0.Faults.length:Int))) then ((idx c0.Faults x_4).bind fun x_6=>bif (decide (x_6.Op=c0.Ops)) then (some (.inr (.inr (x_6,(x_6.Cut||x_6.Fail))))) else ((Zas x_4 1).bind fun x_9=>some (.inl x_9))) else (some (.inr (.inl ())))
def ZdU (c0:Chip):Option (Fault×Bool):=
 (ZM (fun s=>Zcz c0 s) (0:Int)).bind fun o_3=>elS o_3 (fun _=>(some ((⟨0,false,false,0⟩:Fault):Fault)).bind fun k_10=>some (k_10,false)) (fun q=>some q)
instance chip_strikes_c:Fd1 163 ZdU fun r=>Tup [D r.1,D r.2]:=en1 Tryz.func163 rfl Tryz.ntmps163 fun A w hA c0 r H=>by
 unfold ZdU at H;refine zg ?_;refine TS.box rfl fun b1_0=>?_
 refine TS.alloc rfl fun b2_1=>?_
 refine zC ?_;refine zC ?_;refine zh H fun o_3 H3 H=>?_
 refine Zn (fun s:Unit=>o_3=.inl s) (fun (_:Unit) (_:Unit)=>(Env.set Env.nil 2 (Pt b2_1 0))) (fun (_:Unit) (_:Unit)=>[⟨b2_1,True,(One ((Dat.z:Fault):Fault))⟩]) ?_ ?_
 ·skip;refine Zp<|Zu H3 (fun (x_4:Int) (_:Unit)=>(Env.set (Env.set (Env.set (Env.set (Env.set Env.nil 1 (Pt b1_0 0)) 2 (Pt b2_1 0)) 7 (D c0.Faults)) 8 (D ((c0.Faults.length:Int):Int))) 9 (D x_4))) (fun (x_4:Int) (_:Unit)=>[⟨b1_0,True,(One c0)⟩,⟨b2_1,True,(One ((Dat.z:Fault):Fault))⟩]) () (Za (Za (Za (Za (Za (Zd _)))))) (Zc rfl (Zc rfl (Ze _))) ?_;rintro x_4 ⟨⟩ x_5 H5 he5;unfold Zcz at H5;refine zg ?_;refine zc H5 (fun hc H5=>?_) fun hc H5=>?_
  ·refine zg ?_;refine zb H5 fun x_6 _ H5=>?_
   refine TS.alloc rfl fun b5_6=>zg ?_
   refine zc H5 (fun hc H5=>?_) fun hc H5=>?_
   ·refine zX (ZaW [7] [b2_1] mix (by kernel_rfl) (by kernel_rfl)) ?_;refine Zdg (fun g=>(Zw (y:=(x_6:Fault)) Zx)) rfl ?_;refine zC ?_;rintro ⟨_,_⟩;dsimp only [Fam.nextS,Fam.nextN,Fam.one,List.cons_append,List.nil_append];refine ZL<|Zf<|Zg<|Zg<|Zf<|Zs ?_;have R7:=ZaM (he5 _ (ZZs H5)) H;refine zg ?_;obtain rfl:=ZZi R7;exact ZeL rfl rfl (.cons Cv.le (.cons Cv.le .nil))
   ·refine zg ?_;refine zb H5 fun x_9 _ H5=>?_
    exact Zq x_9 () (ZZs H5) (Za (Za (Za (Za (Za (Zd _)))))) (Zc rfl (Zc rfl (Ze _)))
  ·refine zg ?_;exact Zj () () (he5 _ (ZZs H5)).symm (Za (Zd _)) (Zc rfl (Ze _))
 rintro ⟨⟩ ⟨⟩ hp;replace H:=ZbD hp H;refine zg ?_;refine TSx (tB (⟨0,false,false,0⟩:Fault) rfl rfl) ?_;exact zY H
def ZeI (f0:Fault):Option (Bool×Int):=
 bif f0.Cut then (some (true,(7:Int))) else (some (false,(9:Int)))
instance chip_struck_c:Fd1 164 ZeI fun r=>Tup [D r.1,D r.2]:=en1 Tryz.func164 rfl Tryz.ntmps164 fun _ _ _ _ _ H=>by
 unfold ZeI at H;exact zY H
def Zd8 (c0:Chip) (page0:Int) (x_8:Block) (r_9:(Fault×Bool)) (x_21:Int) (q_22:(List (List UInt8))):Option ((Int×(List (List UInt8)))⊕(List (List UInt8))):=
 bif (decide (x_21<c0.Size)) then ((lenI q_22.length x_8.Pages.length).bind fun u_24=>(idx q_22 page0).bind fun x_25=>(idx x_25 x_21).bind fun x_26=>(idx x_25 x_21).bind fun x_27=>(some ((q_22.set (Int.toNat page0) (x_25.set (Int.toNat x_21) (x_26 ||| (~~~r_9.1.Mask)))):(List (List UInt8)))).bind fun q_28=>(Zas x_21 1).bind fun x_29=>some (.inl (x_29,q_28))) else (some (.inr q_22))
def Ze6 (c0:Chip) (block0:Int) (page0:Int) (p0:(List UInt8)):Option (Chip×Int):=
 (Zbm c0).bind fun x_3=>(some ((⟨x_3.Pages,x_3.Size,[],x_3.Ops,x_3.Off,x_3.Faults⟩:Chip):Chip)).bind fun d_6=>(ZeT c0 block0).bind fun x_7=>bif (((((!x_7)||(decide (page0<(0:Int))))||(decide (page0≥c0.Pages)))||(decide ((p0.length:Int)≠c0.Size)))||(decide (c0.Ops≥(1099511627776:Int)))) then (some ((⟨d_6.Pages,d_6.Size,x_3.Blocks,d_6.Ops,d_6.Off,d_6.Faults⟩:Chip),(1:Int))) else (bif c0.Off then (some ((⟨d_6.Pages,d_6.Size,x_3.Blocks,d_6.Ops,d_6.Off,d_6.Faults⟩:Chip),(7:Int))) else ((idx x_3.Blocks block0).bind fun x_8=>bif (x_8.Bad||(decide (page0≠x_8.Used))) then (some ((⟨d_6.Pages,d_6.Size,x_3.Blocks,d_6.Ops,d_6.Off,d_6.Faults⟩:Chip),(9:Int))) else ((ZdU c0).bind fun r_9=>(Zas d_6.Ops 1).bind fun x_11=>(some ((⟨d_6.Pages,d_6.Size,d_6.Blocks,x_11,d_6.Off,d_6.Faults⟩:Chip):Chip)).bind fun d_12=>(Zas x_8.Used 1).bind fun x_13=>(some ((x_3.Blocks.set (Int.toNat block0) (⟨x_8.Pages,x_13,x_8.Worn,x_8.Bad⟩:Block)):(List Block))).bind fun l_14=>(idx x_8.Pages page0).bind fun x_15=>(some ((x_8.Pages.set (Int.toNat page0) (over x_15 p0)):(List (List UInt8)))).bind fun q_16=>bif (!r_9.2) then ((lenI q_16.length x_8.Pages.length).bind fun u_17=>(idx l_14 block0).bind fun x_18=>some ((⟨d_12.Pages,d_12.Size,(l_14.set (Int.toNat block0) (⟨q_16,x_18.Used,x_18.Worn,x_18.Bad⟩:Block)),d_12.Ops,d_12.Off,d_12.Faults⟩:Chip),(0:Int))) else ((ZM (fun s=>Zd8 c0 page0 x_8 r_9 s.1 s.2) ((0:Int),q_16)).bind fun q_19=>(ZeI r_9.1).bind fun r_30=>(some ((⟨d_12.Pages,d_12.Size,d_12.Blocks,d_12.Ops,r_30.1,d_12.Faults⟩:Chip):Chip)).bind fun d_31=>(lenI q_19.length x_8.Pages.length).bind fun u_32=>(idx l_14 block0).bind fun x_33=>some ((⟨d_31.Pages,d_31.Size,(l_14.set (Int.toNat block0) (⟨q_19,x_33.Used,x_33.Worn,x_33.Bad⟩:Block)),d_31.Ops,d_31.Off,d_31.Faults⟩:Chip),r_30.2)))))
instance chip_Program_c:Fd4 143 Ze6 fun r=>Tup [D r.1,D r.2]:=en4 Tryz.func143 rfl Tryz.ntmps143 fun A w hA c0 block0 page0 p0 r H=>by
 unfold Ze6 at H;rcases hgh:idx c0.Blocks block0 with _ | yg
 ·skip;refine zg ?_;refine TS.box rfl fun b4_0=>?_
  refine TS.alloc rfl fun b8_1=>zg ?_
  refine zn H fun x_3 ex_3 H=>?_
  refine Zdw (oc1 [] (ZgI ex_3.h) toD) rfl fun ⟨b18_3,p18_3,c18_3⟩=>?_
  dsimp only [List.cons_append,List.nil_append];refine TS.alloc rfl fun b10_4=>?_
  refine Zbj (ZX trivial rfl CtSc.h) ?_;refine zC ?_;refine zn H fun _ ed_6 H=>?_
  refine zX (ZB b10_4 (Zc2 (Zah ed_6.h))) ?_;refine zb H fun _ ex_7 H=>?_
  refine Zgk (fun hc=>?_) (fun hc=>?_)
  ·replace H:=cT H hc;refine zg ?_;refine TSx (Zdu trivial rfl rfl)<|Zbj (ZX trivial rfl CtSc.h) ?_;refine zC ?_;refine ZL<|Zg<|TE.coll b8_1 b18_3 (o:=2) (((PF 2 Chip (List Block) Zx)).st (x_3.Blocks:List Block)) (ZG PlS.all rfl) ?_;exact zY H
  ·exact absurd hc (by simp [Zkr ex_7.h hgh])
 ·skip;refine zg ?_;refine TS.box rfl fun b4_0=>?_
  refine TS.alloc rfl fun b8_1=>zg ?_
  refine zn H fun x_3 ex_3 H=>?_
  have hgz:idx x_3.Blocks block0=some yg:=(congrArg (fun c:Chip=>idx c.Blocks block0) (ZhN ex_3.h)).trans hgh;refine Zdw (Zhp [] fun w v0 hA hO hap hks h0=>Zlt w v0 hA hO hap hks (toD h0) ex_3.h hgz) rfl fun ⟨b18_3,p18_3,c18_3,bo18_3,br18_3,po18_3,co18_3,cr18_3⟩=>?_
  dsimp only [List.cons_append,List.nil_append];refine TS.alloc rfl fun b10_4=>?_
  refine Zbj (ZX trivial rfl CtSc.h) ?_;refine zC ?_;refine zn H fun _ ed_6 H=>?_
  refine zX (ZB b10_4 (Zc2 (Zah ed_6.h))) ?_;refine zb H fun _ _ H=>?_
  refine zc H (fun hc H=>?_) fun hc H=>?_
  ·refine zg ?_;refine TSx (Zdu trivial rfl rfl)<|Zbj (ZX trivial rfl CtSc.h) ?_;refine zC ?_;refine ZL<|Zg<|TE.collS bo18_3 br18_3 rfl rfl ?_;refine TE.coll b18_3 bo18_3 (o:=((0+Int.toNat block0*Dat.sz Block)+0)) (ZfL hgz) (ZG PlS.all rfl) ?_;refine TE.coll b8_1 b18_3 (o:=2) (((PF 2 Chip (List Block) Zx)).st (x_3.Blocks:List Block)) (ZG PlS.all (by simp)) ?_;exact zY H
  ·refine zg ?_;refine zc H (fun hc H=>?_) fun hc H=>?_
   ·refine zg ?_;refine TSx (Zdu trivial rfl rfl)<|Zbj (ZX trivial rfl CtSc.h) ?_;refine zC ?_;refine ZL<|Zg<|TE.collS bo18_3 br18_3 rfl rfl ?_;refine TE.coll b18_3 bo18_3 (o:=((0+Int.toNat block0*Dat.sz Block)+0)) (ZfL hgz) (ZG PlS.all rfl) ?_;refine TE.coll b8_1 b18_3 (o:=2) (((PF 2 Chip (List Block) Zx)).st (x_3.Blocks:List Block)) (ZG PlS.all (by simp)) ?_;exact zY H
   ·refine zg ?_;refine zX (Za1 (ZS Zaa) rfl) ?_;refine zn H fun x_8 ex_8 H=>?_
    obtain rfl:x_8=yg:=ZZi (ex_8.h.symm.trans hgz);refine zX (Za1 (Zm (ZI ex_8.h (by simp))) rfl) ?_;refine zX (Za1 (ZaE (Pl.mix (PF 3 Block Bool (ZaC ex_8.h)) (by first | decide | omega))) rfl) ?_;refine zX (Zk9 57 rfl (fun hg=>(ZaE (Pl.mix (PF 1 Block Int (ZaC ex_8.h)) (by first | decide | omega)))) rfl) ?_;refine zc H (fun hc H=>?_) fun hc H=>?_
    ·refine zg ?_;refine TSx (Zdu trivial rfl rfl)<|Zbj (ZX trivial rfl CtSc.h) ?_;refine zC ?_;refine ZL<|Zg<|TE.collS bo18_3 br18_3 rfl rfl ?_;refine TE.coll b18_3 bo18_3 (o:=((0+Int.toNat block0*Dat.sz Block)+0)) (ZfL hgz) (ZG PlS.all rfl) ?_;refine TE.coll b8_1 b18_3 (o:=2) (((PF 2 Chip (List Block) Zx)).st (x_3.Blocks:List Block)) (ZG PlS.all (by simp)) ?_;exact zY H
    ·refine zg ?_;refine zb H fun r_9 _ H=>?_
     refine TS.alloc rfl fun b12_9=>zg ?_
     refine TSx (ZaE (Pl.mix (PF 3 Chip Int Zx) (by first | decide | omega))) ?_;refine zb H fun x_11 _ H=>?_
     refine Zbj (Zw (y:=(x_11:Int)) (Pl.mix (PF 3 Chip Int Zx) (by first | decide | omega))) ?_;refine zC ?_;refine zn H fun d_12 ed_12 H=>?_
     refine zX (ZB b10_4 (Zc2 (Zah ed_12.h))) ?_;refine TSx (ZaE (Pl.mix (PF 1 Block Int (ZaC ex_8.h)) (by first | decide | omega))) ?_;refine zb H fun x_13 _ H=>?_
     refine Zbj (Zw (y:=(x_13:Int)) (Pl.mix (PF 1 Block Int (ZaC ex_8.h)) (by first | decide | omega))) ?_;refine zC ?_;refine zn H fun l_14 el_14 H=>?_
     refine ZB b18_3 (Zc2 (Zac el_14.h)) ?_;refine zX (ZB b10_4 (Zft (Zen el_14.h (by simp)))) ?_;refine zX (Za1 (ZS Zaa) rfl) ?_;refine zn H fun x_15 ex_15 H=>?_
     refine TSx (Zm (ZI ex_15.h rfl)) ?_;refine zX (Za1 (ZS (Zl6 ex_15.h (by show 0+_*1=_;omega))) rfl) ?_;refine TS.u (ZcO (ys:=p0) inferInstance (PlS.page ex_15.h) rfl (fun _ h=>rowF_nil ex_15.h h)) rfl ?_;refine zC ?_;refine ZB bo18_3 (ZlU (ys:=(over x_15 p0)) ex_15.h over_len) ?_;refine zn H fun q_16 eq_16 H=>?_
     refine ZB br18_3 (rowF_nm eq_16.h) ?_;refine zX (ZB bo18_3 (rowS_nm eq_16.h)) ?_;refine zc H (fun hc H=>?_) fun hc H=>?_
     ·refine zg ?_;refine TSx (Zdu trivial rfl rfl)<|Zbj (ZX trivial rfl CtSc.h) ?_;refine zC ?_;refine ZL<|Zg ?_;refine zn H fun _ eu_17 H=>?_
      refine TE.collS bo18_3 br18_3 rfl (Zfb eu_17.h) ?_;refine zn H fun x_18 ex_18 H=>?_
      refine TE.coll b18_3 bo18_3 (o:=((0+Int.toNat block0*Dat.sz Block)+0)) (((PF 0 Block (List (List UInt8)) (ZaC ex_18.h))).st (q_16:List (List UInt8))) (ZG PlS.all (Zfb eu_17.h)) ?_;refine Zaf b8_1 (Zft (m:=l_14.length) (n:=(l_14.set (Int.toNat block0) (⟨q_16,x_18.Used,x_18.Worn,x_18.Bad⟩:Block)).length) (by simp))<|TE.coll b8_1 b18_3 (o:=2) (((PF 2 Chip (List Block) Zx)).st ((l_14.set (Int.toNat block0) (⟨q_16,x_18.Used,x_18.Worn,x_18.Bad⟩:Block)):List Block)) (ZG PlS.all (by simp)) ?_;exact zY H
     ·refine zC ?_;refine zh H fun o_20 H20 H=>?_
      refine Zn (fun s:(List (List UInt8))=>o_20=s) (fun (q_19:(List (List UInt8))) (_:Unit)=>(Env.set (Env.set (Env.set Env.nil 8 (Pt b8_1 0)) 10 (Pt b10_4 0)) 12 (Pt b12_9 0))) (fun (q_19:(List (List UInt8))) (_:Unit)=>[⟨b18_3,p18_3,(Ct.mix (Row (l_14:List Block) c18_3) ((0+Int.toNat block0*Dat.sz Block)+0) (Sl bo18_3 po18_3 0 x_8.Pages.length co18_3))⟩,⟨bo18_3,po18_3,ZjU br18_3 po18_3 1 (List.map List.length q_19) x_8.Pages.length⟩,⟨br18_3,po18_3,(Row (List.flatten q_19:List UInt8) cr18_3)⟩,⟨b8_1,True,(One ((Dat.z:Chip):Chip))⟩,⟨b10_4,True,(Ct.mix (One d_12) 2 (Sl b18_3 p18_3 0 l_14.length c18_3))⟩,⟨b12_9,True,(One r_9.1)⟩]) ?_ ?_
      ·skip;refine Zp<|Zu H20 (fun ⟨x_21,q_22⟩ (_:Unit)=>(Env.set (Env.set (Env.set (Env.set (Env.set (Env.set (Env.set Env.nil 2 (D page0)) 8 (Pt b8_1 0)) 10 (Pt b10_4 0)) 11 (Pq b18_3 (0+Int.toNat block0*Dat.sz Block) p18_3)) 12 (Pt b12_9 0)) 95 (D c0.Size)) 96 (D x_21))) (fun ⟨x_21,q_22⟩ (_:Unit)=>[⟨b18_3,p18_3,(Ct.mix (Row (l_14:List Block) c18_3) ((0+Int.toNat block0*Dat.sz Block)+0) (Sl bo18_3 po18_3 0 x_8.Pages.length co18_3))⟩,⟨bo18_3,po18_3,ZjU br18_3 po18_3 1 (List.map List.length q_22) x_8.Pages.length⟩,⟨br18_3,po18_3,(Row (List.flatten q_22:List UInt8) cr18_3)⟩,⟨b8_1,True,(One ((Dat.z:Chip):Chip))⟩,⟨b10_4,True,(Ct.mix (One d_12) 2 (Sl b18_3 p18_3 0 l_14.length c18_3))⟩,⟨b12_9,True,(One r_9.1)⟩]) () (Za (Za (Za (Za (Za (Za (Za (Zd _)))))))) (Zc rfl (Zc rfl (Zc rfl (Zc rfl (Zc rfl (Zc rfl (Ze _))))))) ?_;rintro ⟨x_21,q_22⟩ ⟨⟩ x_23 H23 he23;dsimp only at H23;unfold Zd8 at H23;refine zg ?_;refine zc H23 (fun hc H23=>?_) fun hc H23=>?_
       ·refine zC ?_;refine zX (Zff [6,8,9,13,14,15] [bo18_3,br18_3] mix (by kernel_rfl) (by kernel_rfl)) ?_;refine zX (Zeq (ZS Zaa) rfl) ?_;refine zn H23 fun _ eu_24 H23=>?_
        refine zn H23 fun x_25 ex_25 H23=>?_
        refine TRx (Zm (ZI ex_25.h (Zfb eu_24.h))) ?_;refine zX (Zfi (fun g=>Zgo rfl (ZS (Zl6 ex_25.h (by show 0+_*1=_;omega)))) rfl) ?_;refine zn H23 fun x_26 ex_26 H23=>?_
        refine Zfi (fun g=>Zgo rfl (Zm (ZI ex_26.h rfl))) rfl ?_;refine zX (Zfi (fun g=>Zgo rfl (ZaE (Pl.page ex_25.h ex_26.h))) rfl) ?_;refine TRx OpY.not8<|Zfi (fun g=>Zgo rfl OpY.or8) rfl ?_;refine zn H23 fun _ ex_27 H23=>?_
        refine Zfi (fun g=>Zgo rfl (Zm (ZI ex_27.h rfl))) rfl<|Zdg (fun g=>(Zw (y:=((x_26 ||| (~~~r_9.1.Mask)):UInt8)) (Pl.page ex_25.h ex_27.h))) rfl ?_;refine zC ?_;rintro ⟨⟨⟨⟨⟨⟨_,_⟩,_⟩,_⟩,_⟩,_⟩,_⟩;dsimp only [Fam.nextS,Fam.nextN,Fam.one,List.cons_append,List.nil_append];refine Zaf bo18_3 (ZlU (ys:=(x_25.set (Int.toNat x_21) (x_26 ||| (~~~r_9.1.Mask)))) ex_25.h (by simp)) ?_;refine zn H23 fun q_28 eq_28 H23=>?_
        refine Zaf br18_3 (rowF_nm eq_28.h) ?_;refine zX (Zaf bo18_3 (rowS_nm eq_28.h)) ?_;refine zb H23 fun x_29 _ H23=>?_
        exact Zq ⟨x_29,q_28⟩ () (ZZs H23) (Za (Za (Za (Za (Za (Za (Za (Zd _)))))))) (Zc rfl (Zc rfl (Zc rfl (Zc rfl (Zc rfl (Zc rfl (Ze _)))))))
       ·refine zg ?_;exact Zj q_22 () (he23 _ (ZZs H23)).symm (Za (Za (Za (Zd _)))) (Zc rfl (Zc rfl (Zc rfl (Zc rfl (Zc rfl (Zc rfl (Ze _)))))))
      rintro q_19 ⟨⟩ hp;replace hp:=hp.symm;subst hp;refine zg ?_;refine zb H fun r_30 _ H=>?_
      refine Zbj (Zw (y:=(r_30.1:Bool)) (Pl.mix (PF 4 Chip Bool Zx) (by first | decide | omega))) ?_;refine zC ?_;refine zn H fun _ ed_31 H=>?_
      refine zX (ZB b10_4 (Zc2 (Zah ed_31.h))) ?_;refine zX (Za1 (Zdu trivial rfl rfl) rfl) ?_;refine Zbj (ZX trivial rfl CtSc.h) ?_;refine zC ?_;refine ZL ?_;refine zn H fun _ eu_32 H=>?_
      refine TE.collS bo18_3 br18_3 rfl (Zfb eu_32.h) ?_;refine zn H fun x_33 ex_33 H=>?_
      refine TE.coll b18_3 bo18_3 (o:=((0+Int.toNat block0*Dat.sz Block)+0)) (((PF 0 Block (List (List UInt8)) (ZaC ex_33.h))).st (q_19:List (List UInt8))) (ZG PlS.all (Zfb eu_32.h)) ?_;refine Zaf b8_1 (Zft (m:=l_14.length) (n:=(l_14.set (Int.toNat block0) (⟨q_19,x_33.Used,x_33.Worn,x_33.Bad⟩:Block)).length) (by simp))<|TE.coll b8_1 b18_3 (o:=2) (((PF 2 Chip (List Block) Zx)).st ((l_14.set (Int.toNat block0) (⟨q_19,x_33.Used,x_33.Worn,x_33.Bad⟩:Block)):List Block)) (ZG PlS.all (by simp)) ?_;exact zY H
def Zfx (c0:Chip) (x_9:Block) (x_20:Int) (q_21:(List (List UInt8))):Option ((Int×(List (List UInt8)))⊕(List (List UInt8))):=
 bif (decide (x_20<c0.Pages)) then ((lenI q_21.length x_9.Pages.length).bind fun u_23=>(idx q_21 x_20).bind fun x_24=>(ZdE x_24).bind fun x_25=>(some ((q_21.set (Int.toNat x_20) x_25):(List (List UInt8)))).bind fun q_26=>(Zas x_20 1).bind fun x_27=>some (.inl (x_27,q_26))) else (some (.inr q_21))
def Zfv (c0:Chip) (x_9:Block) (r_10:(Fault×Bool)) (x_34:Int) (x_39:Int) (q_40:(List (List UInt8))):Option ((Int×(List (List UInt8)))⊕(List (List UInt8))):=
 bif (decide (x_39<c0.Size)) then ((lenI q_40.length x_9.Pages.length).bind fun u_42=>(idx q_40 x_34).bind fun x_43=>(idx x_43 x_39).bind fun x_44=>(idx x_43 x_39).bind fun x_45=>(some ((q_40.set (Int.toNat x_34) (x_43.set (Int.toNat x_39) (x_44 ||| r_10.1.Mask))):(List (List UInt8)))).bind fun q_46=>(Zas x_39 1).bind fun x_47=>some (.inl (x_47,q_46))) else (some (.inr q_40))
def Zfw (c0:Chip) (x_9:Block) (r_10:(Fault×Bool)) (x_34:Int) (q_35:(List (List UInt8))):Option ((Int×(List (List UInt8)))⊕(List (List UInt8))):=
 bif (decide (x_34<c0.Pages)) then ((ZM (fun s=>Zfv c0 x_9 r_10 x_34 s.1 s.2) ((0:Int),q_35)).bind fun q_37=>(Zas x_34 1).bind fun x_48=>some (.inl (x_48,q_37))) else (some (.inr q_35))
def Zhl (c0:Chip) (block0:Int):Option (Chip×Int):=
 (Zbm c0).bind fun x_3=>(some ((⟨x_3.Pages,x_3.Size,[],x_3.Ops,x_3.Off,x_3.Faults⟩:Chip):Chip)).bind fun d_6=>(ZeT c0 block0).bind fun x_7=>(gb (!((!x_7)||(decide (c0.Ops≥(1099511627776:Int))))) (idx c0.Blocks block0)).bind fun x_8=>bif (((!x_7)||(decide (c0.Ops≥(1099511627776:Int))))||(decide (x_8.Worn≥(1099511627776:Int)))) then (some ((⟨d_6.Pages,d_6.Size,x_3.Blocks,d_6.Ops,d_6.Off,d_6.Faults⟩:Chip),(1:Int))) else (bif c0.Off then (some ((⟨d_6.Pages,d_6.Size,x_3.Blocks,d_6.Ops,d_6.Off,d_6.Faults⟩:Chip),(7:Int))) else ((idx x_3.Blocks block0).bind fun x_9=>bif x_9.Bad then (some ((⟨d_6.Pages,d_6.Size,x_3.Blocks,d_6.Ops,d_6.Off,d_6.Faults⟩:Chip),(9:Int))) else ((ZdU c0).bind fun r_10=>(Zas d_6.Ops 1).bind fun x_12=>(some ((⟨d_6.Pages,d_6.Size,d_6.Blocks,x_12,d_6.Off,d_6.Faults⟩:Chip):Chip)).bind fun d_13=>(Zas x_9.Worn 1).bind fun x_14=>(some ((x_3.Blocks.set (Int.toNat block0) (⟨x_9.Pages,x_9.Used,x_14,x_9.Bad⟩:Block)):(List Block))).bind fun l_15=>bif (!r_10.2) then ((idx l_15 block0).bind fun x_16=>(some ((l_15.set (Int.toNat block0) (⟨x_16.Pages,(0:Int),x_16.Worn,x_16.Bad⟩:Block)):(List Block))).bind fun l_17=>(ZM (fun s=>Zfx c0 x_9 s.1 s.2) ((0:Int),x_9.Pages)).bind fun q_18=>(lenI q_18.length x_9.Pages.length).bind fun u_28=>(idx l_17 block0).bind fun x_29=>some ((⟨d_13.Pages,d_13.Size,(l_17.set (Int.toNat block0) (⟨q_18,x_29.Used,x_29.Worn,x_29.Bad⟩:Block)),d_13.Ops,d_13.Off,d_13.Faults⟩:Chip),(0:Int))) else ((idx l_15 block0).bind fun x_30=>(some ((l_15.set (Int.toNat block0) (⟨x_30.Pages,c0.Pages,x_30.Worn,x_30.Bad⟩:Block)):(List Block))).bind fun l_31=>(ZM (fun s=>Zfw c0 x_9 r_10 s.1 s.2) ((0:Int),x_9.Pages)).bind fun q_32=>(ZeI r_10.1).bind fun r_49=>(some ((⟨d_13.Pages,d_13.Size,d_13.Blocks,d_13.Ops,r_49.1,d_13.Faults⟩:Chip):Chip)).bind fun d_50=>(lenI q_32.length x_9.Pages.length).bind fun u_51=>(idx l_31 block0).bind fun x_52=>some ((⟨d_50.Pages,d_50.Size,(l_31.set (Int.toNat block0) (⟨q_32,x_52.Used,x_52.Worn,x_52.Bad⟩:Block)),d_50.Ops,d_50.Off,d_50.Faults⟩:Chip),r_49.2)))))
instance chip_Erase_c:Fd2 139 Zhl fun r=>Tup [D r.1,D r.2]:=en2 Tryz.func139 rfl Tryz.ntmps139 fun A w hA c0 block0 r H=>by
 unfold Zhl at H;rcases hgh:idx c0.Blocks block0 with _ | yg
 ·skip;refine zg ?_;refine TS.box rfl fun b2_0=>?_
  refine TS.alloc rfl fun b4_1=>zg ?_
  refine zn H fun x_3 ex_3 H=>?_
  refine Zdw (oc1 [] (ZgI ex_3.h) toD) rfl fun ⟨b16_3,p16_3,c16_3⟩=>?_
  dsimp only [List.cons_append,List.nil_append];refine TS.alloc rfl fun b6_4=>?_
  refine Zbj (ZX trivial rfl CtSc.h) ?_;refine zC ?_;refine zn H fun _ ed_6 H=>?_
  refine zX (ZB b6_4 (Zc2 (Zah ed_6.h))) ?_;refine zb H fun _ ex_7 H=>?_
  refine zd H fun _ _ H=>?_
  refine Zgk (fun hc=>?_) (fun hc=>?_)
  ·replace H:=cT H hc;refine zg ?_;refine TSx (Zdu trivial rfl rfl)<|Zbj (ZX trivial rfl CtSc.h) ?_;refine zC ?_;refine ZL<|Zg<|TE.coll b4_1 b16_3 (o:=2) (((PF 2 Chip (List Block) Zx)).st (x_3.Blocks:List Block)) (ZG PlS.all rfl) ?_;exact zY H
  ·exact absurd hc (by simp [Zkr ex_7.h hgh])
 ·skip;refine zg ?_;refine TS.box rfl fun b2_0=>?_
  refine TS.alloc rfl fun b4_1=>zg ?_
  refine zn H fun x_3 ex_3 H=>?_
  have hgz:idx x_3.Blocks block0=some yg:=(congrArg (fun c:Chip=>idx c.Blocks block0) (ZhN ex_3.h)).trans hgh;refine Zdw (Zhp [] fun w v0 hA hO hap hks h0=>Zlt w v0 hA hO hap hks (toD h0) ex_3.h hgz) rfl fun ⟨b16_3,p16_3,c16_3,bo16_3,br16_3,po16_3,co16_3,cr16_3⟩=>?_
  dsimp only [List.cons_append,List.nil_append];refine TS.alloc rfl fun b6_4=>?_
  refine Zbj (ZX trivial rfl CtSc.h) ?_;refine zC ?_;refine zn H fun _ ed_6 H=>?_
  refine zX (ZB b6_4 (Zc2 (Zah ed_6.h))) ?_;refine zb H fun _ _ H=>?_
  refine zd H fun _ _ H=>?_
  refine zc H (fun hc H=>?_) fun hc H=>?_
  ·refine zg ?_;refine TSx (Zdu trivial rfl rfl)<|Zbj (ZX trivial rfl CtSc.h) ?_;refine zC ?_;refine ZL<|Zg<|TE.collS bo16_3 br16_3 rfl rfl ?_;refine TE.coll b16_3 bo16_3 (o:=((0+Int.toNat block0*Dat.sz Block)+0)) (ZfL hgz) (ZG PlS.all rfl) ?_;refine TE.coll b4_1 b16_3 (o:=2) (((PF 2 Chip (List Block) Zx)).st (x_3.Blocks:List Block)) (ZG PlS.all (by simp)) ?_;exact zY H
  ·refine zg ?_;refine zc H (fun hc H=>?_) fun hc H=>?_
   ·refine zg ?_;refine TSx (Zdu trivial rfl rfl)<|Zbj (ZX trivial rfl CtSc.h) ?_;refine zC ?_;refine ZL<|Zg<|TE.collS bo16_3 br16_3 rfl rfl ?_;refine TE.coll b16_3 bo16_3 (o:=((0+Int.toNat block0*Dat.sz Block)+0)) (ZfL hgz) (ZG PlS.all rfl) ?_;refine TE.coll b4_1 b16_3 (o:=2) (((PF 2 Chip (List Block) Zx)).st (x_3.Blocks:List Block)) (ZG PlS.all (by simp)) ?_;exact zY H
   ·refine zg ?_;refine zX (Za1 (ZS Zaa) rfl) ?_;refine zn H fun x_9 ex_9 H=>?_
    obtain rfl:x_9=yg:=ZZi (ex_9.h.symm.trans hgz);refine zX (Za1 (Zm (ZI ex_9.h (by simp))) rfl) ?_;refine zX (Za1 (ZaE (Pl.mix (PF 3 Block Bool (ZaC ex_9.h)) (by first | decide | omega))) rfl) ?_;refine zc H (fun hc H=>?_) fun hc H=>?_
    ·refine zg ?_;refine TSx (Zdu trivial rfl rfl)<|Zbj (ZX trivial rfl CtSc.h) ?_;refine zC ?_;refine ZL<|Zg<|TE.collS bo16_3 br16_3 rfl rfl ?_;refine TE.coll b16_3 bo16_3 (o:=((0+Int.toNat block0*Dat.sz Block)+0)) (ZfL hgz) (ZG PlS.all rfl) ?_;refine TE.coll b4_1 b16_3 (o:=2) (((PF 2 Chip (List Block) Zx)).st (x_3.Blocks:List Block)) (ZG PlS.all (by simp)) ?_;exact zY H
    ·refine zg ?_;refine zb H fun r_10 _ H=>?_
     refine TS.alloc rfl fun b8_10=>zg ?_
     refine TSx (ZaE (Pl.mix (PF 3 Chip Int Zx) (by first | decide | omega))) ?_;refine zb H fun x_12 _ H=>?_
     refine Zbj (Zw (y:=(x_12:Int)) (Pl.mix (PF 3 Chip Int Zx) (by first | decide | omega))) ?_;refine zC ?_;refine zn H fun d_13 ed_13 H=>?_
     refine zX (ZB b6_4 (Zc2 (Zah ed_13.h))) ?_;refine TSx (ZaE (Pl.mix (PF 2 Block Int (ZaC ex_9.h)) (by first | decide | omega))) ?_;refine zb H fun x_14 _ H=>?_
     refine Zbj (Zw (y:=(x_14:Int)) (Pl.mix (PF 2 Block Int (ZaC ex_9.h)) (by first | decide | omega))) ?_;refine zC ?_;refine zn H fun _ el_15 H=>?_
     refine ZB b16_3 (Zc2 (Zac el_15.h)) ?_;refine zX (ZB b6_4 (Zft (Zen el_15.h (by simp)))) ?_;refine zc H (fun hc H=>?_) fun hc H=>?_
     ·refine zg ?_;refine zn H fun _ ex_16 H=>?_
      refine Zbj (Zw (y:=((0:Int):Int)) (Pl.mix (PF 1 Block Int (ZaC ex_16.h)) (by first | decide | omega))) ?_;refine zC ?_;refine zn H fun l_17 el_17 H=>?_
      refine ZB b16_3 (Zc2 (Zac el_17.h))<|ZB b6_4 (Zft (Zen el_17.h (by simp))) ?_;refine zC ?_;refine zh H fun o_19 H19 H=>?_
      refine Zn (fun s:(List (List UInt8))=>o_19=s) (fun (q_18:(List (List UInt8))) (_:Unit)=>(Env.set (Env.set Env.nil 4 (Pt b4_1 0)) 6 (Pt b6_4 0))) (fun (q_18:(List (List UInt8))) (_:Unit)=>[⟨b16_3,p16_3,(Ct.mix (Row (l_17:List Block) c16_3) ((0+Int.toNat block0*Dat.sz Block)+0) (Sl bo16_3 po16_3 0 x_9.Pages.length co16_3))⟩,⟨bo16_3,po16_3,ZjU br16_3 po16_3 1 (List.map List.length q_18) x_9.Pages.length⟩,⟨br16_3,po16_3,(Row (List.flatten q_18:List UInt8) cr16_3)⟩,⟨b4_1,True,(One ((Dat.z:Chip):Chip))⟩,⟨b6_4,True,(Ct.mix (One d_13) 2 (Sl b16_3 p16_3 0 l_17.length c16_3))⟩]) ?_ ?_
      ·skip;refine Zp<|Zu H19 (fun ⟨x_20,q_21⟩ (_:Unit)=>(Env.set (Env.set (Env.set (Env.set (Env.set Env.nil 4 (Pt b4_1 0)) 6 (Pt b6_4 0)) 7 (Pq b16_3 (0+Int.toNat block0*Dat.sz Block) p16_3)) 70 (D c0.Pages)) 71 (D x_20))) (fun ⟨x_20,q_21⟩ (_:Unit)=>[⟨b16_3,p16_3,(Ct.mix (Row (l_17:List Block) c16_3) ((0+Int.toNat block0*Dat.sz Block)+0) (Sl bo16_3 po16_3 0 x_9.Pages.length co16_3))⟩,⟨bo16_3,po16_3,ZjU br16_3 po16_3 1 (List.map List.length q_21) x_9.Pages.length⟩,⟨br16_3,po16_3,(Row (List.flatten q_21:List UInt8) cr16_3)⟩,⟨b4_1,True,(One ((Dat.z:Chip):Chip))⟩,⟨b6_4,True,(Ct.mix (One d_13) 2 (Sl b16_3 p16_3 0 l_17.length c16_3))⟩]) () (Za (Za (Za (Za (Za (Zd _)))))) (Zc rfl (Zc rfl (Zc rfl (Zc rfl (Zc rfl (Ze _)))))) ?_;rintro ⟨x_20,q_21⟩ ⟨⟩ x_22 H22 he22;dsimp only at H22;unfold Zfx at H22;refine zg ?_;refine zc H22 (fun hc H22=>?_) fun hc H22=>?_
       ·refine zg ?_;refine zX (Za1 (ZS Zaa) rfl) ?_;refine zn H22 fun _ eu_23 H22=>?_
        refine zn H22 fun _ ex_24 H22=>?_
        refine TSx (Zm (ZI ex_24.h (Zfb eu_23.h)))<|TSx (ZS (Zl6 ex_24.h (by show 0+_*1=_;omega))) ?_;refine zn H22 fun x_25 ex_25 H22=>?_
        refine Zdw (Zhp [br16_3] fun w v0 hA hO hap hks h0=>chip_fill_p (Cf:=fun ys=>Row (List.flatten (q_21.set (Int.toNat x_20) ys)) cr16_3) (rowF_keep ex_24.h) (fun ys hy=>PlS.pageF ex_24.h hy) w v0 hA hO hap hks h0 ex_25.h) rfl fun _=>?_
        dsimp only [List.cons_append,List.nil_append];refine zE ?_;refine Zaf bo16_3 (ZlU (ys:=x_25) ex_24.h (Zks ex_25.h)) ?_;refine zn H22 fun q_26 eq_26 H22=>?_
        refine Zaf br16_3 (rowF_nm eq_26.h) ?_;refine zX (Zaf bo16_3 (rowS_nm eq_26.h)) ?_;refine zb H22 fun x_27 _ H22=>?_
        exact Zq ⟨x_27,q_26⟩ () (ZZs H22) (Za (Za (Za (Za (Za (Zd _)))))) (Zc rfl (Zc rfl (Zc rfl (Zc rfl (Zc rfl (Ze _))))))
       ·refine zg ?_;exact Zj q_21 () (he22 _ (ZZs H22)).symm (Za (Za (Zd _))) (Zc rfl (Zc rfl (Zc rfl (Zc rfl (Zc rfl (Ze _))))))
      rintro q_18 ⟨⟩ hp;replace hp:=hp.symm;subst hp;refine zg ?_;refine TSx (Zdu trivial rfl rfl)<|Zbj (ZX trivial rfl CtSc.h) ?_;refine zC ?_;refine ZL<|Zg ?_;refine zn H fun _ eu_28 H=>?_
      refine TE.collS bo16_3 br16_3 rfl (Zfb eu_28.h) ?_;refine zn H fun x_29 ex_29 H=>?_
      refine TE.coll b16_3 bo16_3 (o:=((0+Int.toNat block0*Dat.sz Block)+0)) (((PF 0 Block (List (List UInt8)) (ZaC ex_29.h))).st (q_18:List (List UInt8))) (ZG PlS.all (Zfb eu_28.h)) ?_;refine Zaf b4_1 (Zft (m:=l_17.length) (n:=(l_17.set (Int.toNat block0) (⟨q_18,x_29.Used,x_29.Worn,x_29.Bad⟩:Block)).length) (by simp))<|TE.coll b4_1 b16_3 (o:=2) (((PF 2 Chip (List Block) Zx)).st ((l_17.set (Int.toNat block0) (⟨q_18,x_29.Used,x_29.Worn,x_29.Bad⟩:Block)):List Block)) (ZG PlS.all (by simp)) ?_;exact zY H
     ·refine zg ?_;refine zn H fun _ ex_30 H=>?_
      refine Zbj (Zw (y:=(c0.Pages:Int)) (Pl.mix (PF 1 Block Int (ZaC ex_30.h)) (by first | decide | omega))) ?_;refine zC ?_;refine zn H fun l_31 el_31 H=>?_
      refine ZB b16_3 (Zc2 (Zac el_31.h))<|ZB b6_4 (Zft (Zen el_31.h (by simp))) ?_;refine zC ?_;refine zh H fun o_33 H33 H=>?_
      refine Zn (fun s:(List (List UInt8))=>o_33=s) (fun (q_32:(List (List UInt8))) (_:Unit)=>(Env.set (Env.set (Env.set Env.nil 4 (Pt b4_1 0)) 6 (Pt b6_4 0)) 8 (Pt b8_10 0))) (fun (q_32:(List (List UInt8))) (_:Unit)=>[⟨b16_3,p16_3,(Ct.mix (Row (l_31:List Block) c16_3) ((0+Int.toNat block0*Dat.sz Block)+0) (Sl bo16_3 po16_3 0 x_9.Pages.length co16_3))⟩,⟨bo16_3,po16_3,ZjU br16_3 po16_3 1 (List.map List.length q_32) x_9.Pages.length⟩,⟨br16_3,po16_3,(Row (List.flatten q_32:List UInt8) cr16_3)⟩,⟨b4_1,True,(One ((Dat.z:Chip):Chip))⟩,⟨b6_4,True,(Ct.mix (One d_13) 2 (Sl b16_3 p16_3 0 l_31.length c16_3))⟩,⟨b8_10,True,(One r_10.1)⟩]) ?_ ?_
      ·skip;refine Zp<|Zu H33 (fun ⟨x_34,q_35⟩ (_:Unit)=>(Env.set (Env.set (Env.set (Env.set (Env.set (Env.set (Env.set Env.nil 2 (Pt b2_0 0)) 4 (Pt b4_1 0)) 6 (Pt b6_4 0)) 7 (Pq b16_3 (0+Int.toNat block0*Dat.sz Block) p16_3)) 8 (Pt b8_10 0)) 90 (D c0.Pages)) 91 (D x_34))) (fun ⟨x_34,q_35⟩ (_:Unit)=>[⟨b16_3,p16_3,(Ct.mix (Row (l_31:List Block) c16_3) ((0+Int.toNat block0*Dat.sz Block)+0) (Sl bo16_3 po16_3 0 x_9.Pages.length co16_3))⟩,⟨bo16_3,po16_3,ZjU br16_3 po16_3 1 (List.map List.length q_35) x_9.Pages.length⟩,⟨br16_3,po16_3,(Row (List.flatten q_35:List UInt8) cr16_3)⟩,⟨b2_0,True,(One c0)⟩,⟨b4_1,True,(One ((Dat.z:Chip):Chip))⟩,⟨b6_4,True,(Ct.mix (One d_13) 2 (Sl b16_3 p16_3 0 l_31.length c16_3))⟩,⟨b8_10,True,(One r_10.1)⟩]) () (Za (Za (Za (Za (Za (Za (Za (Zd _)))))))) (Zc rfl (Zc rfl (Zc rfl (Zc rfl (Zc rfl (Zc rfl (Zc rfl (Ze _)))))))) ?_;rintro ⟨x_34,q_35⟩ ⟨⟩ x_36 H36 he36;dsimp only at H36;unfold Zfw at H36;refine zg ?_;refine zc H36 (fun hc H36=>?_) fun hc H36=>?_
       ·refine zC ?_;refine zC ?_;refine zh H36 fun o_38 H38 H36=>?_
        refine Zn (fun s:(List (List UInt8))=>o_38=s) (fun (q_37:(List (List UInt8))) (_:Unit)=>(Env.set (Env.set (Env.set (Env.set (Env.set (Env.set (Env.set Env.nil 2 (Pt b2_0 0)) 4 (Pt b4_1 0)) 6 (Pt b6_4 0)) 7 (Pq b16_3 (0+Int.toNat block0*Dat.sz Block) p16_3)) 8 (Pt b8_10 0)) 90 (D c0.Pages)) 91 (D x_34))) (fun (q_37:(List (List UInt8))) (_:Unit)=>[⟨b16_3,p16_3,(Ct.mix (Row (l_31:List Block) c16_3) ((0+Int.toNat block0*Dat.sz Block)+0) (Sl bo16_3 po16_3 0 x_9.Pages.length co16_3))⟩,⟨bo16_3,po16_3,ZjU br16_3 po16_3 1 (List.map List.length q_37) x_9.Pages.length⟩,⟨br16_3,po16_3,(Row (List.flatten q_37:List UInt8) cr16_3)⟩,⟨b2_0,True,(One c0)⟩,⟨b4_1,True,(One ((Dat.z:Chip):Chip))⟩,⟨b6_4,True,(Ct.mix (One d_13) 2 (Sl b16_3 p16_3 0 l_31.length c16_3))⟩,⟨b8_10,True,(One r_10.1)⟩]) ?_ ?_
        ·skip;refine Zp<|Zu H38 (fun ⟨x_39,q_40⟩ (_:Unit)=>(Env.set (Env.set (Env.set (Env.set (Env.set (Env.set (Env.set (Env.set (Env.set (Env.set Env.nil 2 (Pt b2_0 0)) 4 (Pt b4_1 0)) 6 (Pt b6_4 0)) 7 (Pq b16_3 (0+Int.toNat block0*Dat.sz Block) p16_3)) 8 (Pt b8_10 0)) 11 (D x_34)) 90 (D c0.Pages)) 91 (D x_34)) 95 (D c0.Size)) 96 (D x_39))) (fun ⟨x_39,q_40⟩ (_:Unit)=>[⟨b16_3,p16_3,(Ct.mix (Row (l_31:List Block) c16_3) ((0+Int.toNat block0*Dat.sz Block)+0) (Sl bo16_3 po16_3 0 x_9.Pages.length co16_3))⟩,⟨bo16_3,po16_3,ZjU br16_3 po16_3 1 (List.map List.length q_40) x_9.Pages.length⟩,⟨br16_3,po16_3,(Row (List.flatten q_40:List UInt8) cr16_3)⟩,⟨b2_0,True,(One c0)⟩,⟨b4_1,True,(One ((Dat.z:Chip):Chip))⟩,⟨b6_4,True,(Ct.mix (One d_13) 2 (Sl b16_3 p16_3 0 l_31.length c16_3))⟩,⟨b8_10,True,(One r_10.1)⟩]) () (Za (Za (Za (Za (Za (Za (Za (Za (Za (Za (Zd _))))))))))) (Zc rfl (Zc rfl (Zc rfl (Zc rfl (Zc rfl (Zc rfl (Zc rfl (Ze _)))))))) ?_;rintro ⟨x_39,q_40⟩ ⟨⟩ x_41 H41 he41;dsimp only at H41;unfold Zfv at H41;refine zg ?_;refine zc H41 (fun hc H41=>?_) fun hc H41=>?_
         ·refine zC ?_;refine zX (Zff [6,8,9,12,13,14] [bo16_3,br16_3] mix (by kernel_rfl) (by kernel_rfl)) ?_;refine zX (Zeq (ZS Zaa) rfl) ?_;refine zn H41 fun _ eu_42 H41=>?_
          refine zn H41 fun x_43 ex_43 H41=>?_
          refine TRx (Zm (ZI ex_43.h (Zfb eu_42.h))) ?_;refine zX (Zfi (fun g=>Zgo rfl (ZS (Zl6 ex_43.h (by show 0+_*1=_;omega)))) rfl) ?_;refine zn H41 fun x_44 ex_44 H41=>?_
          refine Zfi (fun g=>Zgo rfl (Zm (ZI ex_44.h rfl))) rfl ?_;refine zX (Zfi (fun g=>Zgo rfl (ZaE (Pl.page ex_43.h ex_44.h))) rfl) ?_;refine Zfi (fun g=>Zgo rfl OpY.or8) rfl ?_;refine zn H41 fun _ ex_45 H41=>?_
          refine Zfi (fun g=>Zgo rfl (Zm (ZI ex_45.h rfl))) rfl<|Zdg (fun g=>(Zw (y:=((x_44 ||| r_10.1.Mask):UInt8)) (Pl.page ex_43.h ex_45.h))) rfl ?_;refine zC ?_;rintro ⟨⟨⟨⟨⟨⟨_,_⟩,_⟩,_⟩,_⟩,_⟩,_⟩;dsimp only [Fam.nextS,Fam.nextN,Fam.one,List.cons_append,List.nil_append];refine Zaf bo16_3 (ZlU (ys:=(x_43.set (Int.toNat x_39) (x_44 ||| r_10.1.Mask))) ex_43.h (by simp)) ?_;refine zn H41 fun q_46 eq_46 H41=>?_
          refine Zaf br16_3 (rowF_nm eq_46.h) ?_;refine zX (Zaf bo16_3 (rowS_nm eq_46.h)) ?_;refine zb H41 fun x_47 _ H41=>?_
          exact Zq ⟨x_47,q_46⟩ () (ZZs H41) (Za (Za (Za (Za (Za (Za (Za (Za (Za (Za (Zd _))))))))))) (Zc rfl (Zc rfl (Zc rfl (Zc rfl (Zc rfl (Zc rfl (Zc rfl (Ze _))))))))
         ·refine zg ?_;exact Zj q_40 () (he41 _ (ZZs H41)).symm (Za (Za (Za (Za (Za (Za (Za (Zd _)))))))) (Zc rfl (Zc rfl (Zc rfl (Zc rfl (Zc rfl (Zc rfl (Zc rfl (Ze _))))))))
        rintro q_37 ⟨⟩ hp;replace hp:=hp.symm;subst hp;refine zg ?_;refine zb H36 fun x_48 _ H36=>?_
        exact Zq ⟨x_48,q_37⟩ () (ZZs H36) (Za (Za (Za (Za (Za (Za (Za (Zd _)))))))) (Zc rfl (Zc rfl (Zc rfl (Zc rfl (Zc rfl (Zc rfl (Zc rfl (Ze _))))))))
       ·refine zg ?_;exact Zj q_35 () (he36 _ (ZZs H36)).symm (Za (Za (Za (Zd _)))) (Zc rfl (Zc rfl (Zc rfl (Zc rfl (Zc rfl (Zc rfl (Ze _)))))))
      rintro q_32 ⟨⟩ hp;replace hp:=hp.symm;subst hp;refine zg ?_;refine zb H fun r_49 _ H=>?_
      refine Zbj (Zw (y:=(r_49.1:Bool)) (Pl.mix (PF 4 Chip Bool Zx) (by first | decide | omega))) ?_;refine zC ?_;refine zn H fun _ ed_50 H=>?_
      refine zX (ZB b6_4 (Zc2 (Zah ed_50.h))) ?_;refine zX (Za1 (Zdu trivial rfl rfl) rfl) ?_;refine Zbj (ZX trivial rfl CtSc.h) ?_;refine zC ?_;refine ZL ?_;refine zn H fun _ eu_51 H=>?_
      refine TE.collS bo16_3 br16_3 rfl (Zfb eu_51.h) ?_;refine zn H fun x_52 ex_52 H=>?_
      refine TE.coll b16_3 bo16_3 (o:=((0+Int.toNat block0*Dat.sz Block)+0)) (((PF 0 Block (List (List UInt8)) (ZaC ex_52.h))).st (q_32:List (List UInt8))) (ZG PlS.all (Zfb eu_51.h)) ?_;refine Zaf b4_1 (Zft (m:=l_31.length) (n:=(l_31.set (Int.toNat block0) (⟨q_32,x_52.Used,x_52.Worn,x_52.Bad⟩:Block)).length) (by simp))<|TE.coll b4_1 b16_3 (o:=2) (((PF 2 Chip (List Block) Zx)).st ((l_31.set (Int.toNat block0) (⟨q_32,x_52.Used,x_52.Worn,x_52.Bad⟩:Block)):List Block)) (ZG PlS.all (by simp)) ?_;exact zY H
end Go.Proofs.YtkmojgfenlgchaaGreatDoor.Tr
namespace Go.Proofs.YtkmojgfenlgchaaGreatDoor.Tr
open Go Go.RowKit
set_option maxRecDepth 100000
set_option synthInstance.maxHeartbeats 400000
set_option synthInstance.maxSize 4096
def Zd5 (x0:Int):Option Bool:=
 some (decide (x0≠x0))
instance cmp_isNaN_int_c:Fd1 217 Zd5 fun r=>D r:=en1 Tryz.func217 rfl Tryz.ntmps217 fun _ _ _ _ _ H=>by
 unfold Zd5 at H;exact zY H
def ZbM (x0:Int) (y0:Int):Option Int:=
 (Zd5 x0).bind fun x_1=>(Zd5 y0).bind fun x_2=>bif x_1 then (bif x_2 then (some (0:Int)) else (some (-1:Int))) else (bif x_2 then (some (1:Int)) else (bif (decide (x0<y0)) then (some (-1:Int)) else (bif (decide (x0>y0)) then (some (1:Int)) else (some (0:Int)))))
instance cmp_Compare_int_c:Fd2 213 ZbM fun r=>D r:=en2 Tryz.func213 rfl Tryz.ntmps213 fun _ _ _ _ _ _ H=>by
 unfold ZbM at H;exact zY H
def Za9 (b0:wear_block) (c0:wear_block):Option Int:=
 (ZbM c0.Wear.Used b0.Wear.Used).bind fun x_3=>some x_3
instance wear_block_fuller_c:Fd2 201 Za9 fun r=>D r:=en2 Tryz.func201 rfl Tryz.ntmps201 fun _ _ _ _ _ _ H=>by
 unfold Za9 at H;exact zY H
instance {Γ:Env}:Has Γ (.func 201) (D (⟨Za9⟩:F2 Tryz.prog wear_block wear_block Int)):=⟨fun a A w _=>F2.const (P:=Tryz.prog) (f:=201) fun w v0 v1 hA h0 h1 e=>wear_block_fuller_c.h w v0 v1 hA h0 h1 e⟩
def ZJ (b0:wear_block) (c0:wear_block):Option Int:=
 (ZbM b0.Wear.Worn c0.Wear.Worn).bind fun x_3=>some x_3
instance wear_block_fresher_c:Fd2 199 ZJ fun r=>D r:=en2 Tryz.func199 rfl Tryz.ntmps199 fun _ _ _ _ _ _ H=>by
 unfold ZJ at H;exact zY H
instance {Γ:Env}:Has Γ (.func 199) (D (⟨ZJ⟩:F2 Tryz.prog wear_block wear_block Int)):=⟨fun a A w _=>F2.const (P:=Tryz.prog) (f:=199) fun w v0 v1 hA h0 h1 e=>wear_block_fresher_c.h w v0 v1 hA h0 h1 e⟩
def Zfm (l0:(List Wear)) (pages0:Int) (x_2:Int):Option (Int⊕(Unit⊕Bool)):=
 bif (decide (x_2<(l0.length:Int))) then ((idx l0 x_2).bind fun x_4=>bif (((((decide (x_4.Live<(0:Int)))||(decide (x_4.Live>x_4.Used)))||(decide (x_4.Used>pages0)))||(decide (x_4.Worn<(0:Int))))||(decide (x_4.Worn>(1099511627776:Int)))) then (some (.inr (.inr false))) else ((Zas x_2 1).bind fun x_7=>some (.inl x_7))) else (some (.inr (.inl ())))
def ZfE (l0:(List Wear)) (pages0:Int):Option Bool:=
 bif ((((decide ((l0.length:Int)<(1:Int)))||(decide ((l0.length:Int)>(32:Int))))||(decide (pages0<(1:Int))))||(decide (pages0>(16:Int)))) then (some false) else ((ZM (fun s=>Zfm l0 pages0 s) (0:Int)).bind fun o_1=>elS o_1 (fun _=>some true) (fun q=>some q))
instance wear_Right_c:Fd2 211 ZfE fun r=>D r:=en2 Tryz.func211 rfl Tryz.ntmps211 fun A w hA l0 pages0 r H=>by
 unfold ZfE at H;refine zg ?_;refine zc H (fun hc H=>?_) fun hc H=>?_
 ·exact zY H
 ·refine zC ?_;refine zh H fun o_1 H1 H=>?_
  refine Zn (fun s:Unit=>o_1=.inl s) (fun (_:Unit) (_:Unit)=>Env.nil) (fun (_:Unit) (_:Unit)=>[]) ?_ ?_
  ·skip;refine Zp<|Zu H1 (fun (x_2:Int) (_:Unit)=>(Env.set (Env.set (Env.set (Env.set Env.nil 1 (D pages0)) 23 (D l0)) 24 (D ((l0.length:Int):Int))) 25 (D x_2))) (fun (x_2:Int) (_:Unit)=>[]) () (Za (Za (Za (Za (Zd _))))) (Ze _) ?_;rintro x_2 ⟨⟩ x_3 H3 he3;unfold Zfm at H3;refine zg ?_;refine zc H3 (fun hc H3=>?_) fun hc H3=>?_
   ·refine zg ?_;refine zb H3 fun _ _ H3=>?_
    refine TS.alloc rfl fun b6_4=>zg ?_
    refine zc H3 (fun hc H3=>?_) fun hc H3=>?_
    ·refine zC ?_;refine ZL<|Zf<|Zg<|Zg<|Zf<|Zs ?_;have R5:=ZaM (he3 _ (ZZs H3)) H;refine zg ?_;obtain rfl:=ZZi R5;exact ZaV rfl Cv.le
    ·refine zg ?_;refine zb H3 fun x_7 _ H3=>?_
     exact Zq x_7 () (ZZs H3) (Za (Za (Za (Za (Zd _))))) (Ze _)
   ·refine zg ?_;exact Zj () () (he3 _ (ZZs H3)).symm (Zd _) (Ze _)
  rintro ⟨⟩ ⟨⟩ hp;replace H:=ZbD hp H;exact zY H
def Zfl (a0:wear_block) (b0:wear_block) (orders0:(List (F2 Tryz.prog wear_block wear_block Int))) (x_4:Int):Option (Int⊕(Unit⊕Bool)):=
 bif (decide (x_4<(orders0.length:Int))) then ((idx orders0 x_4).bind fun x_6=>((x_6).f a0 b0).bind fun x_7=>bif (decide (x_7≠(0:Int))) then (some (.inr (.inr (decide (x_7<(0:Int)))))) else ((Zas x_4 1).bind fun x_9=>some (.inl x_9))) else (some (.inr (.inl ())))
def Zes (a0:wear_block) (b0:wear_block) (orders0:(List (F2 Tryz.prog wear_block wear_block Int))):Option Bool:=
 (ZM (fun s=>Zfl a0 b0 orders0 s) (0:Int)).bind fun o_3=>elS o_3 (fun _=>some false) (fun q=>some q)
instance wear_ahead_c:Fd3 212 Zes fun r=>D r:=en3 Tryz.func212 rfl Tryz.ntmps212 fun A w hA a0 b0 orders0 r H=>by
 unfold Zes at H;refine zg ?_;refine TS.box rfl fun b3_0=>?_
 refine TS.box rfl fun b4_1=>?_
 refine zC ?_;refine zC ?_;refine zh H fun o_3 H3 H=>?_
 refine Zn (fun s:Unit=>o_3=.inl s) (fun (_:Unit) (_:Unit)=>Env.nil) (fun (_:Unit) (_:Unit)=>[]) ?_ ?_
 ·skip;refine Zp<|Zu H3 (fun (x_4:Int) (_:Unit)=>(Env.set (Env.set (Env.set (Env.set (Env.set Env.nil 3 (Pt b3_0 0)) 4 (Pt b4_1 0)) 10 (D orders0)) 11 (D ((orders0.length:Int):Int))) 12 (D x_4))) (fun (x_4:Int) (_:Unit)=>[⟨b3_0,True,(One a0)⟩,⟨b4_1,True,(One b0)⟩]) () (Za (Za (Za (Za (Za (Zd _)))))) (Zc rfl (Zc rfl (Ze _))) ?_;rintro x_4 ⟨⟩ x_5 H5 he5;unfold Zfl at H5;refine zg ?_;refine zc H5 (fun hc H5=>?_) fun hc H5=>?_
  ·refine zg ?_;refine zb H5 fun _ _ H5=>?_
   refine zn H5 fun _ ex_7 H5=>?_
   refine zX (Za1 (OpY.callV2 ex_7.h) rfl) ?_;refine zc H5 (fun hc H5=>?_) fun hc H5=>?_
   ·refine zC ?_;refine ZL<|Zf<|Zg<|Zg<|Zf<|Zs ?_;have R7:=ZaM (he5 _ (ZZs H5)) H;refine zg ?_;obtain rfl:=ZZi R7;exact ZaV rfl Cv.le
   ·refine zg ?_;refine zb H5 fun x_9 _ H5=>?_
    exact Zq x_9 () (ZZs H5) (Za (Za (Za (Za (Za (Zd _)))))) (Zc rfl (Zc rfl (Ze _)))
  ·refine zg ?_;exact Zj () () (he5 _ (ZZs H5)).symm (Zd _) (Ze _)
 rintro ⟨⟩ ⟨⟩ hp;replace H:=ZbD hp H;exact zY H
def Zdk (l0:(List Wear)) (pages0:Int) (rule0:(F1 Tryz.prog wear_block Bool)) (orders0:(List (F2 Tryz.prog wear_block wear_block Int))) (at_5:Int) (found_6:Bool) (x_7:Int):Option ((Int×Bool×Int)⊕(Int×Bool)):=
 bif (decide (x_7<(l0.length:Int))) then (((idx l0 x_7).bind fun x_12=>(some ((⟨x_12,pages0⟩:wear_block):wear_block)).bind fun bx_15=>((rule0).f bx_15).bind fun x_16=>bif (!x_16) then (some (at_5,found_6)) else ((gb (!(!found_6)) (idx l0 at_5)).bind fun x_17=>(gb (!(!found_6)) (Zes bx_15 (⟨x_17,pages0⟩:wear_block) orders0)).bind fun x_18=>bif ((!found_6)||x_18) then (some (x_7,true)) else (some (at_5,found_6)))).bind fun o_11=>el2 o_11 (fun at_9 found_10=>(Zas x_7 1).bind fun x_19=>some (.inl (at_9,found_10,x_19)))) else (some (.inr (at_5,found_6)))
def Zer (l0:(List Wear)) (pages0:Int) (rule0:(F1 Tryz.prog wear_block Bool)) (orders0:(List (F2 Tryz.prog wear_block wear_block Int))):Option (Int×Bool):=
 (ZfE l0 pages0).bind fun x_1=>bif (!x_1) then (some ((0:Int),false)) else ((ZM (fun s=>Zdk l0 pages0 rule0 orders0 s.1 s.2.1 s.2.2) ((0:Int),false,(0:Int))).bind fun o_4=>el2 o_4 (fun at_2 found_3=>some (at_2,found_3)))
instance wear_first_c:Fd4 197 Zer fun r=>Tup [D r.1,D r.2]:=en4 Tryz.func197 rfl Tryz.ntmps197 fun A w hA l0 pages0 rule0 orders0 r H=>by
 unfold Zer at H;refine zg ?_;refine zb H fun _ _ H=>?_
 refine zc H (fun hc H=>?_) fun hc H=>?_
 ·exact zY H
 ·refine zC ?_;refine zC ?_;refine zh H fun o_4 H4 H=>?_
  refine Zn (fun s:(Int×Bool)=>o_4=s) (fun ⟨at_2,found_3⟩ (_:Unit)=>(Env.set (Env.set Env.nil 10 (D at_2)) 11 (D found_3))) (fun ⟨at_2,found_3⟩ (_:Unit)=>[]) ?_ ?_
  ·skip;refine Zp<|Zu H4 (fun ⟨at_5,found_6,x_7⟩ (_:Unit)=>(Env.set (Env.set (Env.set (Env.set (Env.set (Env.set (Env.set (Env.set (Env.set Env.nil 0 (D l0)) 1 (D pages0)) 2 (D rule0)) 3 (D orders0)) 10 (D at_5)) 11 (D found_6)) 19 (D l0)) 20 (D ((l0.length:Int):Int))) 21 (D x_7))) (fun ⟨at_5,found_6,x_7⟩ (_:Unit)=>[]) () (Za (Za (Za (Za (Za (Za (Za (Za (Za (Zd _)))))))))) (Ze _) ?_;rintro ⟨at_5,found_6,x_7⟩ ⟨⟩ x_8 H8 he8;dsimp only at H8;unfold Zdk at H8;refine zg ?_;refine zc H8 (fun hc H8=>?_) fun hc H8=>?_
   ·refine Zaw<|Zan<|Zau ?_;refine zh H8 fun o_11 H11 H8=>?_
    refine Zn (fun s:(Int×Bool)=>o_11=s) (fun ⟨at_9,found_10⟩ (_:Unit)=>(Env.set (Env.set (Env.set (Env.set (Env.set (Env.set (Env.set (Env.set (Env.set Env.nil 0 (D l0)) 1 (D pages0)) 2 (D rule0)) 3 (D orders0)) 10 (D at_9)) 11 (D found_10)) 19 (D l0)) 20 (D ((l0.length:Int):Int))) 21 (D x_7))) (fun ⟨at_9,found_10⟩ (_:Unit)=>[]) ?_ ?_
    ·skip;refine zg ?_;refine zb H11 fun x_12 _ H11=>?_
     refine TS.alloc rfl fun b13_12=>zg ?_
     refine TSx (tB (⟨x_12,pages0⟩:wear_block) rfl rfl) ?_;refine TS.alloc rfl fun b14_13=>?_
     refine zC ?_;refine zn H11 fun _ ebx_15 H11=>?_
     refine zX (ZB b14_13 (Zah ebx_15.h)) ?_;refine zn H11 fun _ ex_16 H11=>?_
     refine zX (Za1 (Zlf ex_16.h) rfl) ?_;refine zc H11 (fun hc H11=>?_) fun hc H11=>?_
     ·refine zg ?_;exact Zj ⟨at_5,found_6⟩ () (ZZs H11) (Za (Za (Za (Za (Za (Za (Za (Za (Za (Zd _)))))))))) (Ze _)
     ·refine zg ?_;refine zd H11 fun x_17 _ H11=>?_
      refine zX (TR.g 35 rfl (fun hg=>(tB (⟨x_17,pages0⟩:wear_block) rfl rfl)) rfl) ?_;refine zd H11 fun _ _ H11=>?_
      refine zc H11 (fun hc H11=>?_) fun hc H11=>?_
      ·refine zg ?_;exact Zj ⟨x_7,true⟩ () (ZZs H11) (Za (Za (Za (Za (Za (Za (Za (Za (Za (Zd _)))))))))) (Ze _)
      ·refine zg ?_;exact Zj ⟨at_5,found_6⟩ () (ZZs H11) (Za (Za (Za (Za (Za (Za (Za (Za (Za (Zd _)))))))))) (Ze _)
    rintro ⟨at_9,found_10⟩ ⟨⟩ hp;replace hp:=hp.symm;subst hp;replace H8:=Zeo H8;refine zg ?_;refine zb H8 fun x_19 _ H8=>?_
    exact Zq ⟨at_9,found_10,x_19⟩ () (ZZs H8) (Za (Za (Za (Za (Za (Za (Za (Za (Za (Zd _)))))))))) (Ze _)
   ·refine zg ?_;exact Zj ⟨at_5,found_6⟩ () (he8 _ (ZZs H8)).symm (Za (Za (Zd _))) (Ze _)
  rintro ⟨at_2,found_3⟩ ⟨⟩ hp;replace hp:=hp.symm;subst hp;replace H:=Zeo H;exact zY H
def ZbE (b0:wear_block):Option Bool:=
 some ((!b0.Wear.Bad)&&(decide (b0.Wear.Used<b0.pages)))
instance wear_block_free_c:Fd1 200 ZbE fun r=>D r:=en1 Tryz.func200 rfl Tryz.ntmps200 fun _ _ _ _ _ H=>by
 unfold ZbE at H;exact zY H
instance {Γ:Env}:Has Γ (.func 200) (D (⟨ZbE⟩:F1 Tryz.prog wear_block Bool)):=⟨fun a A w _=>F1.const (P:=Tryz.prog) (f:=200) fun w v0 hA h0 e=>wear_block_free_c.h w v0 hA h0 e⟩
def ZdM (l0:(List Wear)) (pages0:Int):Option (Int×Bool):=
 (Zer l0 pages0 (⟨ZbE⟩:(F1 Tryz.prog wear_block Bool)) ([(⟨Za9⟩:(F2 Tryz.prog wear_block wear_block Int)),(⟨ZJ⟩:(F2 Tryz.prog wear_block wear_block Int))]:List (F2 Tryz.prog wear_block wear_block Int))).bind fun r_1=>some (r_1.1,r_1.2)
instance wear_Front_c:Fd2 179 ZdM fun r=>Tup [D r.1,D r.2]:=en2 Tryz.func179 rfl Tryz.ntmps179 fun A w hA l0 pages0 r H=>by
 unfold ZdM at H;refine zg ?_;refine TSx (OpY.buildSlice [.func 201,.func 199] rfl rfl (by decide)) ?_;exact zY H
def ZbF (b0:wear_block):Option Bool:=
 some (((!b0.Wear.Bad)&&(decide (b0.Wear.Live=(0:Int))))&&(decide (b0.Wear.Used>(0:Int))))
instance wear_block_dead_c:Fd1 198 ZbF fun r=>D r:=en1 Tryz.func198 rfl Tryz.ntmps198 fun _ _ _ _ _ H=>by
 unfold ZbF at H;exact zY H
instance {Γ:Env}:Has Γ (.func 198) (D (⟨ZbF⟩:F1 Tryz.prog wear_block Bool)):=⟨fun a A w _=>F1.const (P:=Tryz.prog) (f:=198) fun w v0 hA h0 e=>wear_block_dead_c.h w v0 hA h0 e⟩
def ZdW (l0:(List Wear)) (pages0:Int):Option (Int×Bool):=
 (Zer l0 pages0 (⟨ZbF⟩:(F1 Tryz.prog wear_block Bool)) ([(⟨ZJ⟩:(F2 Tryz.prog wear_block wear_block Int))]:List (F2 Tryz.prog wear_block wear_block Int))).bind fun r_1=>some (r_1.1,r_1.2)
instance wear_Dead_c:Fd2 176 ZdW fun r=>Tup [D r.1,D r.2]:=en2 Tryz.func176 rfl Tryz.ntmps176 fun A w hA l0 pages0 r H=>by
 unfold ZdW at H;refine zg ?_;refine TSx (OpY.buildSlice [.func 199] rfl rfl (by decide)) ?_;exact zY H
def Zbo (b0:wear_block) (c0:wear_block):Option Int:=
 bif (decide (b0.Wear.Bad=c0.Wear.Bad)) then (some (0:Int)) else (bif b0.Wear.Bad then (some (-1:Int)) else (some (1:Int)))
instance wear_block_worse_c:Fd2 206 Zbo fun r=>D r:=en2 Tryz.func206 rfl Tryz.ntmps206 fun A w hA b0 c0 r H=>by
 unfold Zbo at H;refine zg ?_;refine TS.box rfl fun b2_0=>?_
 refine TS.box rfl fun b3_1=>zg ?_
 refine TSx (OpY.eql_bool Tryz.underlying4) ?_;exact zY H
instance {Γ:Env}:Has Γ (.func 206) (D (⟨Zbo⟩:F2 Tryz.prog wear_block wear_block Int)):=⟨fun a A w _=>F2.const (P:=Tryz.prog) (f:=206) fun w v0 v1 hA h0 h1 e=>wear_block_worse_c.h w v0 v1 hA h0 h1 e⟩
def ZaR (b0:wear_block) (c0:wear_block):Option Int:=
 (ZbM b0.Wear.Live c0.Wear.Live).bind fun x_3=>some x_3
instance wear_block_emptier_c:Fd2 207 ZaR fun r=>D r:=en2 Tryz.func207 rfl Tryz.ntmps207 fun _ _ _ _ _ _ H=>by
 unfold ZaR at H;exact zY H
instance {Γ:Env}:Has Γ (.func 207) (D (⟨ZaR⟩:F2 Tryz.prog wear_block wear_block Int)):=⟨fun a A w _=>F2.const (P:=Tryz.prog) (f:=207) fun w v0 v1 hA h0 h1 e=>wear_block_emptier_c.h w v0 v1 hA h0 h1 e⟩
def Zbp (b0:wear_block):Option Bool:=
 bif b0.Wear.Bad then (some (decide (b0.Wear.Live>(0:Int)))) else (some (((decide (b0.Wear.Used=b0.pages))&&(decide (b0.Wear.Live>(0:Int))))&&(decide (b0.Wear.Live<b0.pages))))
instance wear_block_mixed_c:Fd1 205 Zbp fun r=>D r:=en1 Tryz.func205 rfl Tryz.ntmps205 fun _ _ _ _ _ H=>by
 unfold Zbp at H;exact zY H
instance {Γ:Env}:Has Γ (.func 205) (D (⟨Zbp⟩:F1 Tryz.prog wear_block Bool)):=⟨fun a A w _=>F1.const (P:=Tryz.prog) (f:=205) fun w v0 hA h0 e=>wear_block_mixed_c.h w v0 hA h0 e⟩
def ZfP (l0:(List Wear)) (pages0:Int):Option (Int×Bool):=
 (Zer l0 pages0 (⟨Zbp⟩:(F1 Tryz.prog wear_block Bool)) ([(⟨Zbo⟩:(F2 Tryz.prog wear_block wear_block Int)),(⟨ZaR⟩:(F2 Tryz.prog wear_block wear_block Int)),(⟨ZJ⟩:(F2 Tryz.prog wear_block wear_block Int))]:List (F2 Tryz.prog wear_block wear_block Int))).bind fun r_1=>some (r_1.1,r_1.2)
instance wear_Victim_c:Fd2 192 ZfP fun r=>Tup [D r.1,D r.2]:=en2 Tryz.func192 rfl Tryz.ntmps192 fun A w hA l0 pages0 r H=>by
 unfold ZfP at H;refine zg ?_;refine TSx (OpY.buildSlice [.func 206,.func 207,.func 199] rfl rfl (by decide)) ?_;exact zY H
def Zgx (l0:(List Wear)) (pages0:Int) (room_4:Int) (x_5:Int):Option ((Int×Int)⊕Int):=
 bif (decide (x_5<(l0.length:Int))) then (((idx l0 x_5).bind fun x_9=>(some ((⟨x_9,pages0⟩:wear_block):wear_block)).bind fun bx_12=>(ZbF bx_12).bind fun x_13=>bif x_13 then ((Zas room_4 pages0).bind fun x_14=>some x_14) else ((ZbE bx_12).bind fun x_15=>bif x_15 then ((Zgs pages0 bx_12.Wear.Used).bind fun x_16=>(Zas room_4 x_16).bind fun x_17=>some x_17) else (some room_4))).bind fun room_7=>(Zas x_5 1).bind fun x_18=>some (.inl (room_7,x_18))) else (some (.inr room_4))
def Zg2 (l0:(List Wear)) (pages0:Int):Option Int:=
 (ZfE l0 pages0).bind fun x_1=>bif (!x_1) then (some (0:Int)) else ((ZM (fun s=>Zgx l0 pages0 s.1 s.2) ((0:Int),(0:Int))).bind fun room_2=>some room_2)
instance wear_Room_c:Fd2 195 Zg2 fun r=>D r:=en2 Tryz.func195 rfl Tryz.ntmps195 fun A w hA l0 pages0 r H=>by
 unfold Zg2 at H;refine zg ?_;refine zb H fun _ _ H=>?_
 refine zc H (fun hc H=>?_) fun hc H=>?_
 ·exact zY H
 ·refine zC ?_;refine zC ?_;refine zh H fun o_3 H3 H=>?_
  refine Zn (fun s:Int=>o_3=s) (fun (room_2:Int) (_:Unit)=>(Env.set Env.nil 5 (D room_2))) (fun (room_2:Int) (_:Unit)=>[]) ?_ ?_
  ·skip;refine Zp<|Zu H3 (fun ⟨room_4,x_5⟩ (_:Unit)=>(Env.set (Env.set (Env.set (Env.set (Env.set Env.nil 1 (D pages0)) 5 (D room_4)) 13 (D l0)) 14 (D ((l0.length:Int):Int))) 15 (D x_5))) (fun ⟨room_4,x_5⟩ (_:Unit)=>[]) () (Za (Za (Za (Za (Za (Zd _)))))) (Ze _) ?_;rintro ⟨room_4,x_5⟩ ⟨⟩ x_6 H6 he6;dsimp only at H6;unfold Zgx at H6;refine zg ?_;refine zc H6 (fun hc H6=>?_) fun hc H6=>?_
   ·refine Zaw<|Zan<|Zau ?_;refine zh H6 fun o_8 H8 H6=>?_
    refine Zn (fun s:Int=>o_8=s) (fun (room_7:Int) (_:Unit)=>(Env.set (Env.set (Env.set (Env.set (Env.set Env.nil 1 (D pages0)) 5 (D room_7)) 13 (D l0)) 14 (D ((l0.length:Int):Int))) 15 (D x_5))) (fun (room_7:Int) (_:Unit)=>[]) ?_ ?_
    ·skip;refine zg ?_;refine zb H8 fun x_9 _ H8=>?_
     refine TS.alloc rfl fun b7_9=>zg ?_
     refine TSx (tB (⟨x_9,pages0⟩:wear_block) rfl rfl) ?_;refine TS.alloc rfl fun b8_10=>?_
     refine zC ?_;refine zn H8 fun _ ebx_12 H8=>?_
     refine zX (ZB b8_10 (Zah ebx_12.h)) ?_;refine zb H8 fun _ _ H8=>?_
     refine zc H8 (fun hc H8=>?_) fun hc H8=>?_
     ·refine zg ?_;refine zb H8 fun x_14 _ H8=>?_
      exact Zj x_14 () (ZZs H8) (Za (Za (Za (Za (Za (Zd _)))))) (Ze _)
     ·refine zg ?_;refine zb H8 fun _ _ H8=>?_
      refine zc H8 (fun hc H8=>?_) fun hc H8=>?_
      ·refine zg ?_;refine zb H8 fun _ _ H8=>?_
       refine zb H8 fun x_17 _ H8=>?_
       exact Zj x_17 () (ZZs H8) (Za (Za (Za (Za (Za (Zd _)))))) (Ze _)
      ·refine zg ?_;exact Zj room_4 () (ZZs H8) (Za (Za (Za (Za (Za (Zd _)))))) (Ze _)
    rintro room_7 ⟨⟩ hp;replace hp:=hp.symm;subst hp;refine zg ?_;refine zb H6 fun x_18 _ H6=>?_
    exact Zq ⟨room_7,x_18⟩ () (ZZs H6) (Za (Za (Za (Za (Za (Zd _)))))) (Ze _)
   ·refine zg ?_;exact Zj room_4 () (he6 _ (ZZs H6)).symm (Za (Zd _)) (Ze _)
  rintro room_2 ⟨⟩ hp;replace hp:=hp.symm;subst hp;exact zY H
end Go.Proofs.YtkmojgfenlgchaaGreatDoor.Tr
namespace Go.Proofs.YtkmojgfenlgchaaGreatDoor.Tr
open Go Go.RowKit
set_option maxRecDepth 100000
set_option synthInstance.maxHeartbeats 400000
set_option synthInstance.maxSize 4096
def ZdK (b0:(List UInt8)):Option (List UInt8):=
 (Zdv 1 ((0+b0.length:Nat):Int)).bind fun _=>some b0
theorem bytes_Clone_o {b0:(List UInt8)} {r:(List UInt8)} (H:ZdK b0=some r):CO1 77 [] (D b0) (fun g:Nat×Prop×Nat=>Sl g.1 g.2.1 0 (List.length r) g.2.2) fun g=>[⟨g.1,g.2.1,Row (r:List UInt8) g.2.2⟩]:=eO1 Tryz.func77 rfl Tryz.ntmps77 fun A w hA hO=>by
 unfold ZdK at H;refine zn H fun _ eu H=>?_
 obtain rfl:=ZZi H;refine zg ?_;refine TSx Zby ?_;refine zC ?_;refine ZfA (fun hc=>?_) (fun hc=>?_)
 ·obtain rfl:=hc rfl;refine zg ?_;exact ZA rfl ⟨0,False,0⟩ ZcV (Zbq (Ze _))
 ·refine zg ?_;refine TS.build [] rfl rfl (by decide) rfl fun b=>zg ?_
  refine TS.app (ys:=b0) inferInstance eu.h rfl rfl rfl fun b1 p1 c1=>zg ?_
  exact ZA rfl ⟨b1,p1,c1⟩ (ZC (by simp)) (Zc rfl (Ze _))
instance bytes_Clone_c:Fd1 77 ZdK fun r=>D r:=⟨fun w v0 hA h0 H=>(on1 (bytes_Clone_o H) w v0 hA h0).mono fun e w' h=>Zhn hA h⟩
end Go.Proofs.YtkmojgfenlgchaaGreatDoor.Tr
