/- What the proof leans on. Conditions: none. -/
import Derived.Test.YtkmojgfenlgchaaGreatDoorZTK2
set_option linter.all false
set_option linter.unusedSimpArgs false
set_option linter.unusedVariables false
set_option linter.unusedSectionVars false
namespace Go.Proofs.YtkmojgfenlgchaaGreatDoor.Tr
open Go
set_option maxRecDepth 100000
theorem mix:Tryz.prog.follows .mixedOrders=true:=by kernel_rfl
instance :TIn Tryz.prog 3 .i64:=⟨Tryz.underlying3⟩
instance :TEl Tryz.prog 3 Int inferInstance 8:=⟨⟨Tryz.isAgg3,Tryz.sizeOf3⟩,Tryz.t3,_,Tryz.type3,rfl,rfl,rfl,rfl⟩
instance :TEl Tryz.prog 4 Bool inferInstance 1:=⟨⟨Tryz.isAgg4,Tryz.sizeOf4⟩,Tryz.t4,_,Tryz.type4,rfl,rfl,rfl,rfl⟩
instance :TIn Tryz.prog 5 .u8:=⟨Tryz.underlying5⟩
instance :TEl Tryz.prog 5 UInt8 inferInstance 1:=⟨⟨Tryz.isAgg5,Tryz.sizeOf5⟩,Tryz.t5,_,Tryz.type5,rfl,rfl,rfl,rfl⟩
instance :TStr Tryz.prog 9:=⟨Tryz.underlying9⟩
instance :TEl Tryz.prog 9 Txt inferInstance 16:=⟨⟨Tryz.isAgg9,Tryz.sizeOf9⟩,Tryz.t9,_,Tryz.type9,rfl,rfl,rfl,rfl⟩
instance :TSl Tryz.prog 25 111:=⟨Tryz.underlying25⟩
instance :TEl Tryz.prog 25 (List Block) inferInstance 24:=⟨⟨Tryz.isAgg25,Tryz.sizeOf25⟩,Tryz.t25,_,Tryz.type25,rfl,rfl,rfl,rfl⟩
instance :TSl Tryz.prog 26 120:=⟨Tryz.underlying26⟩
instance :TEl Tryz.prog 26 (List Fault) inferInstance 24:=⟨⟨Tryz.isAgg26,Tryz.sizeOf26⟩,Tryz.t26,_,Tryz.type26,rfl,rfl,rfl,rfl⟩
instance :TFld Tryz.prog 28 0 3 0:=⟨_,_,Tryz.underlying28,rfl,rfl,rfl⟩
instance :TFld Tryz.prog 28 1 3 1:=⟨_,_,Tryz.underlying28,rfl,rfl,rfl⟩
instance :TFld Tryz.prog 28 2 25 2:=⟨_,_,Tryz.underlying28,rfl,rfl,rfl⟩
instance :TFld Tryz.prog 28 3 3 3:=⟨_,_,Tryz.underlying28,rfl,rfl,rfl⟩
instance :TFld Tryz.prog 28 4 4 4:=⟨_,_,Tryz.underlying28,rfl,rfl,rfl⟩
instance :TFld Tryz.prog 28 5 26 5:=⟨_,_,Tryz.underlying28,rfl,rfl,rfl⟩
instance :TEl Tryz.prog 28 Chip inferInstance 80:=⟨⟨Tryz.isAgg28,Tryz.sizeOf28⟩,Tryz.t28,_,Tryz.type28,rfl,rfl,rfl,rfl⟩
instance :TSl Tryz.prog 32 3:=⟨Tryz.underlying32⟩
instance :TEl Tryz.prog 32 (List Int) inferInstance 24:=⟨⟨Tryz.isAgg32,Tryz.sizeOf32⟩,Tryz.t32,_,Tryz.type32,rfl,rfl,rfl,rfl⟩
instance :TIn Tryz.prog 33 .u64:=⟨Tryz.underlying33⟩
instance :TEl Tryz.prog 33 UInt64 inferInstance 8:=⟨⟨Tryz.isAgg33,Tryz.sizeOf33⟩,Tryz.t33,_,Tryz.type33,rfl,rfl,rfl,rfl⟩
instance :TFld Tryz.prog 35 0 28 0:=⟨_,_,Tryz.underlying35,rfl,rfl,rfl⟩
instance :TFld Tryz.prog 35 1 32 6:=⟨_,_,Tryz.underlying35,rfl,rfl,rfl⟩
instance :TFld Tryz.prog 35 2 33 7:=⟨_,_,Tryz.underlying35,rfl,rfl,rfl⟩
instance :TFld Tryz.prog 35 3 3 8:=⟨_,_,Tryz.underlying35,rfl,rfl,rfl⟩
instance :TEl Tryz.prog 35 Vol inferInstance 120:=⟨⟨Tryz.isAgg35,Tryz.sizeOf35⟩,Tryz.t35,_,Tryz.type35,rfl,rfl,rfl,rfl⟩
instance :TSl Tryz.prog 36 87:=⟨Tryz.underlying36⟩
instance :TEl Tryz.prog 36 (List Route) inferInstance 24:=⟨⟨Tryz.isAgg36,Tryz.sizeOf36⟩,Tryz.t36,_,Tryz.type36,rfl,rfl,rfl,rfl⟩
instance :TFld Tryz.prog 38 0 35 0:=⟨_,_,Tryz.underlying38,rfl,rfl,rfl⟩
instance :TFld Tryz.prog 38 1 36 9:=⟨_,_,Tryz.underlying38,rfl,rfl,rfl⟩
instance :TEl Tryz.prog 38 Fib inferInstance 144:=⟨⟨Tryz.isAgg38,Tryz.sizeOf38⟩,Tryz.t38,_,Tryz.type38,rfl,rfl,rfl,rfl⟩
instance :TSl Tryz.prog 43 106:=⟨Tryz.underlying43⟩
instance :TSl Tryz.prog 59 68:=⟨Tryz.underlying59⟩
instance :TSl Tryz.prog 63 72:=⟨Tryz.underlying63⟩
instance :TEl Tryz.prog 63 (List Item) inferInstance 24:=⟨⟨Tryz.isAgg63,Tryz.sizeOf63⟩,Tryz.t63,_,Tryz.type63,rfl,rfl,rfl,rfl⟩
instance :TFld Tryz.prog 65 0 3 0:=⟨_,_,Tryz.underlying65,rfl,rfl,rfl⟩
instance :TFld Tryz.prog 65 1 63 1:=⟨_,_,Tryz.underlying65,rfl,rfl,rfl⟩
instance :TEl Tryz.prog 65 Kept inferInstance 32:=⟨⟨Tryz.isAgg65,Tryz.sizeOf65⟩,Tryz.t65,_,Tryz.type65,rfl,rfl,rfl,rfl⟩
instance :TIn Tryz.prog 68 .u16:=⟨Tryz.underlying68⟩
instance :TEl Tryz.prog 68 UInt16 inferInstance 2:=⟨⟨Tryz.isAgg68,Tryz.sizeOf68⟩,Tryz.t68,_,Tryz.type68,rfl,rfl,rfl,rfl⟩
instance :TSl Tryz.prog 70 5:=⟨Tryz.underlying70⟩
instance :TEl Tryz.prog 70 (List UInt8) inferInstance 24:=⟨⟨Tryz.isAgg70,Tryz.sizeOf70⟩,Tryz.t70,_,Tryz.type70,rfl,rfl,rfl,rfl⟩
instance :TFld Tryz.prog 72 0 3 0:=⟨_,_,Tryz.underlying72,rfl,rfl,rfl⟩
instance :TFld Tryz.prog 72 1 70 1:=⟨_,_,Tryz.underlying72,rfl,rfl,rfl⟩
instance :TEl Tryz.prog 72 Item inferInstance 32:=⟨⟨Tryz.isAgg72,Tryz.sizeOf72⟩,Tryz.t72,_,Tryz.type72,rfl,rfl,rfl,rfl⟩
instance :TAr Tryz.prog 83 16 5:=⟨Tryz.underlying83⟩
instance :TEl Tryz.prog 83 (Vec UInt8 16) inferInstance 16:=⟨⟨Tryz.isAgg83,Tryz.sizeOf83⟩,Tryz.t83,_,Tryz.type83,rfl,rfl,rfl,rfl⟩
instance :TFld Tryz.prog 85 0 3 0:=⟨_,_,Tryz.underlying85,rfl,rfl,rfl⟩
instance :TFld Tryz.prog 85 1 3 1:=⟨_,_,Tryz.underlying85,rfl,rfl,rfl⟩
instance :TFld Tryz.prog 85 2 83 2:=⟨_,_,Tryz.underlying85,rfl,rfl,rfl⟩
instance :TEl Tryz.prog 85 Prefix inferInstance 32:=⟨⟨Tryz.isAgg85,Tryz.sizeOf85⟩,Tryz.t85,_,Tryz.type85,rfl,rfl,rfl,rfl⟩
instance :TFld Tryz.prog 87 0 85 0:=⟨_,_,Tryz.underlying87,rfl,rfl,rfl⟩
instance :TFld Tryz.prog 87 1 68 18:=⟨_,_,Tryz.underlying87,rfl,rfl,rfl⟩
instance :TEl Tryz.prog 87 Route inferInstance 40:=⟨⟨Tryz.isAgg87,Tryz.sizeOf87⟩,Tryz.t87,_,Tryz.type87,rfl,rfl,rfl,rfl⟩
instance :TSl Tryz.prog 91 160:=⟨Tryz.underlying91⟩
instance :TEl Tryz.prog 91 (List Node) inferInstance 24:=⟨⟨Tryz.isAgg91,Tryz.sizeOf91⟩,Tryz.t91,_,Tryz.type91,rfl,rfl,rfl,rfl⟩
instance :TFld Tryz.prog 93 0 3 0:=⟨_,_,Tryz.underlying93,rfl,rfl,rfl⟩
instance :TFld Tryz.prog 93 1 91 1:=⟨_,_,Tryz.underlying93,rfl,rfl,rfl⟩
instance :TEl Tryz.prog 93 Trie inferInstance 32:=⟨⟨Tryz.isAgg93,Tryz.sizeOf93⟩,Tryz.t93,_,Tryz.type93,rfl,rfl,rfl,rfl⟩
instance :TFld Tryz.prog 106 0 87 0:=⟨_,_,Tryz.underlying106,rfl,rfl,rfl⟩
instance :TFld Tryz.prog 106 1 4 19:=⟨_,_,Tryz.underlying106,rfl,rfl,rfl⟩
instance :TEl Tryz.prog 106 Change inferInstance 48:=⟨⟨Tryz.isAgg106,Tryz.sizeOf106⟩,Tryz.t106,_,Tryz.type106,rfl,rfl,rfl,rfl⟩
instance :TSl Tryz.prog 109 70:=⟨Tryz.underlying109⟩
instance :TEl Tryz.prog 109 (List (List UInt8)) inferInstance 24:=⟨⟨Tryz.isAgg109,Tryz.sizeOf109⟩,Tryz.t109,_,Tryz.type109,rfl,rfl,rfl,rfl⟩
instance :TFld Tryz.prog 111 0 109 0:=⟨_,_,Tryz.underlying111,rfl,rfl,rfl⟩
instance :TFld Tryz.prog 111 1 3 1:=⟨_,_,Tryz.underlying111,rfl,rfl,rfl⟩
instance :TFld Tryz.prog 111 2 3 2:=⟨_,_,Tryz.underlying111,rfl,rfl,rfl⟩
instance :TFld Tryz.prog 111 3 4 3:=⟨_,_,Tryz.underlying111,rfl,rfl,rfl⟩
instance :TEl Tryz.prog 111 Block inferInstance 48:=⟨⟨Tryz.isAgg111,Tryz.sizeOf111⟩,Tryz.t111,_,Tryz.type111,rfl,rfl,rfl,rfl⟩
instance :TFld Tryz.prog 120 0 3 0:=⟨_,_,Tryz.underlying120,rfl,rfl,rfl⟩
instance :TFld Tryz.prog 120 1 4 1:=⟨_,_,Tryz.underlying120,rfl,rfl,rfl⟩
instance :TFld Tryz.prog 120 2 4 2:=⟨_,_,Tryz.underlying120,rfl,rfl,rfl⟩
instance :TFld Tryz.prog 120 3 5 3:=⟨_,_,Tryz.underlying120,rfl,rfl,rfl⟩
instance :TEl Tryz.prog 120 Fault inferInstance 16:=⟨⟨Tryz.isAgg120,Tryz.sizeOf120⟩,Tryz.t120,_,Tryz.type120,rfl,rfl,rfl,rfl⟩
instance :TPtr Tryz.prog 134:=⟨Tryz.isAgg134,Tryz.sizeOf134⟩
instance :TFld Tryz.prog 136 0 35 0:=⟨_,_,Tryz.underlying136,rfl,rfl,rfl⟩
instance :TFld Tryz.prog 136 1 4 9:=⟨_,_,Tryz.underlying136,rfl,rfl,rfl⟩
instance :TEl Tryz.prog 136 flash_writer inferInstance 128:=⟨⟨Tryz.isAgg136,Tryz.sizeOf136⟩,Tryz.t136,_,Tryz.type136,rfl,rfl,rfl,rfl⟩
instance :TFld Tryz.prog 153 0 93 0:=⟨_,_,Tryz.underlying153,rfl,rfl,rfl⟩
instance :TEl Tryz.prog 153 trie_builder inferInstance 32:=⟨⟨Tryz.isAgg153,Tryz.sizeOf153⟩,Tryz.t153,_,Tryz.type153,rfl,rfl,rfl,rfl⟩
instance :TFld Tryz.prog 156 0 3 0:=⟨_,_,Tryz.underlying156,rfl,rfl,rfl⟩
instance :TFld Tryz.prog 156 1 68 1:=⟨_,_,Tryz.underlying156,rfl,rfl,rfl⟩
instance :TEl Tryz.prog 156 Slot inferInstance 16:=⟨⟨Tryz.isAgg156,Tryz.sizeOf156⟩,Tryz.t156,_,Tryz.type156,rfl,rfl,rfl,rfl⟩
instance :TAr Tryz.prog 157 16 156:=⟨Tryz.underlying157⟩
instance :TEl Tryz.prog 157 (Vec Slot 16) inferInstance 256:=⟨⟨Tryz.isAgg157,Tryz.sizeOf157⟩,Tryz.t157,_,Tryz.type157,rfl,rfl,rfl,rfl⟩
instance :TAr Tryz.prog 158 16 3:=⟨Tryz.underlying158⟩
instance :TEl Tryz.prog 158 (Vec Int 16) inferInstance 128:=⟨⟨Tryz.isAgg158,Tryz.sizeOf158⟩,Tryz.t158,_,Tryz.type158,rfl,rfl,rfl,rfl⟩
instance :TFld Tryz.prog 160 0 157 0:=⟨_,_,Tryz.underlying160,rfl,rfl,rfl⟩
instance :TFld Tryz.prog 160 1 158 32:=⟨_,_,Tryz.underlying160,rfl,rfl,rfl⟩
instance :TEl Tryz.prog 160 Node inferInstance 384:=⟨⟨Tryz.isAgg160,Tryz.sizeOf160⟩,Tryz.t160,_,Tryz.type160,rfl,rfl,rfl,rfl⟩
instance :TFld Tryz.prog 193 0 33 0:=⟨_,_,Tryz.underlying193,rfl,rfl,rfl⟩
instance :TFld Tryz.prog 193 1 32 1:=⟨_,_,Tryz.underlying193,rfl,rfl,rfl⟩
instance :TEl Tryz.prog 193 Roots inferInstance 32:=⟨⟨Tryz.isAgg193,Tryz.sizeOf193⟩,Tryz.t193,_,Tryz.type193,rfl,rfl,rfl,rfl⟩
instance :TMap Tryz.prog 196 3 197:=⟨Tryz.underlying196,Tryz.underlying3,⟨Tryz.t197,_,Tryz.type197,rfl,rfl⟩⟩
instance :TEmp Tryz.prog 197:=⟨by kernel_rfl,⟨Tryz.t197,_,Tryz.type197,rfl,rfl,rfl⟩⟩
instance :TFld Tryz.prog 202 0 3 0:=⟨_,_,Tryz.underlying202,rfl,rfl,rfl⟩
instance :TFld Tryz.prog 202 1 3 1:=⟨_,_,Tryz.underlying202,rfl,rfl,rfl⟩
instance :TFld Tryz.prog 202 2 33 2:=⟨_,_,Tryz.underlying202,rfl,rfl,rfl⟩
instance :TFld Tryz.prog 202 3 70 3:=⟨_,_,Tryz.underlying202,rfl,rfl,rfl⟩
instance :TEl Tryz.prog 202 Page inferInstance 48:=⟨⟨Tryz.isAgg202,Tryz.sizeOf202⟩,Tryz.t202,_,Tryz.type202,rfl,rfl,rfl,rfl⟩
instance :TIn Tryz.prog 213 .u64:=⟨Tryz.underlying213⟩
instance :TAr Tryz.prog 218 20 5:=⟨Tryz.underlying218⟩
instance :TEl Tryz.prog 218 (Vec UInt8 20) inferInstance 20:=⟨⟨Tryz.isAgg218,Tryz.sizeOf218⟩,Tryz.t218,_,Tryz.type218,rfl,rfl,rfl,rfl⟩
instance :TSl Tryz.prog 234 32:=⟨Tryz.underlying234⟩
instance :TIn Tryz.prog 239 .u32:=⟨Tryz.underlying239⟩
instance :TSl Tryz.prog 255 109:=⟨Tryz.underlying255⟩
instance :TSl Tryz.prog 258 261:=⟨Tryz.underlying258⟩
instance :TFld Tryz.prog 261 0 3 0:=⟨_,_,Tryz.underlying261,rfl,rfl,rfl⟩
instance :TFld Tryz.prog 261 1 3 1:=⟨_,_,Tryz.underlying261,rfl,rfl,rfl⟩
instance :TFld Tryz.prog 261 2 3 2:=⟨_,_,Tryz.underlying261,rfl,rfl,rfl⟩
instance :TFld Tryz.prog 261 3 4 3:=⟨_,_,Tryz.underlying261,rfl,rfl,rfl⟩
instance :TEl Tryz.prog 261 Wear inferInstance 32:=⟨⟨Tryz.isAgg261,Tryz.sizeOf261⟩,Tryz.t261,_,Tryz.type261,rfl,rfl,rfl,rfl⟩
instance :TSl Tryz.prog 270 9:=⟨Tryz.underlying270⟩
instance :TFld Tryz.prog 282 0 261 0:=⟨_,_,Tryz.underlying282,rfl,rfl,rfl⟩
instance :TFld Tryz.prog 282 1 3 4:=⟨_,_,Tryz.underlying282,rfl,rfl,rfl⟩
instance :TEl Tryz.prog 282 wear_block inferInstance 40:=⟨⟨Tryz.isAgg282,Tryz.sizeOf282⟩,Tryz.t282,_,Tryz.type282,rfl,rfl,rfl,rfl⟩
instance :TEl Tryz.prog 283 (F2 Tryz.prog wear_block wear_block Int) inferInstance 8:=⟨⟨Tryz.isAgg283,Tryz.sizeOf283⟩,Tryz.t283,_,Tryz.type283,rfl,rfl,rfl,rfl⟩
instance :TSl Tryz.prog 289 283:=⟨Tryz.underlying289⟩
theorem EqV_83:EqN Tryz.prog 83 (Vec UInt8 16) inferInstance 1:=EqN.vec Tryz.underlying83 (EqN.u8 (n:=0) Tryz.underlying5)
theorem EqG_83:Tryz.prog.eqGuardType Tryz.prog.depth 83=false:=by decide +kernel
theorem EqV_85:EqN Tryz.prog 85 Prefix inferInstance 2:=EqN.struct Tryz.underlying85 (by decide +kernel) rfl fun {A} w d {cs ds x y} hx hy=>by
 have h1:cs.length=Dat.sz Prefix:=Dat.len hx;have h2:ds.length=Dat.sz Prefix:=Dat.len hy;refine Eq.trans (b:=.ok (decide (x.Bits=y.Bits)&&(decide (x.Len=y.Len)&&(decide (x.Key=y.Key)&&true))) w) ?_ ?_
 ·exact (Zj4 (n:=1) (A:=A) (off:=0) (β:=Int) (a:=x.Bits) (b:=y.Bits) (by decide) rfl rfl (EqN.up (EqN.i64 (n:=0) Tryz.underlying3) (by decide)) (by rw [h1];decide) (by rw [h2];decide) (Fld.rd (α:=Prefix) (off:=0) hx) (Fld.rd (α:=Prefix) (off:=0) hy) (Zj4 (n:=1) (A:=A) (off:=1) (β:=Int) (a:=x.Len) (b:=y.Len) (by decide) rfl rfl (EqN.up (EqN.i64 (n:=0) Tryz.underlying3) (by decide)) (by rw [h1];decide) (by rw [h2];decide) (Fld.rd (α:=Prefix) (off:=1) hx) (Fld.rd (α:=Prefix) (off:=1) hy) (Zj4 (n:=1) (A:=A) (off:=2) (β:=(Vec UInt8 16)) (a:=x.Key) (b:=y.Key) (by decide) rfl rfl (EqN.up EqV_83 (by decide)) (by rw [h1];decide) (by rw [h2];decide) (Fld.rd (α:=Prefix) (off:=2) hx) (Fld.rd (α:=Prefix) (off:=2) hy) eqF_nil)))
 congr 1;cases x;cases y;rw [Bool.eq_iff_iff];simp
theorem EqG_85:Tryz.prog.eqGuardType Tryz.prog.depth 85=false:=by decide +kernel
theorem EqV_87:EqN Tryz.prog 87 Route inferInstance 3:=EqN.struct Tryz.underlying87 (by decide +kernel) rfl fun {A} w d {cs ds x y} hx hy=>by
 have h1:cs.length=Dat.sz Route:=Dat.len hx;have h2:ds.length=Dat.sz Route:=Dat.len hy;refine Eq.trans (b:=.ok (decide (x.Prefix=y.Prefix)&&(decide (x.Hop=y.Hop)&&true)) w) ?_ ?_
 ·exact (Zj4 (n:=2) (A:=A) (off:=0) (β:=Prefix) (a:=x.Prefix) (b:=y.Prefix) (by decide) rfl rfl (EqN.up EqV_85 (by decide)) (by rw [h1];decide) (by rw [h2];decide) (Fld.rd (α:=Route) (off:=0) hx) (Fld.rd (α:=Route) (off:=0) hy) (Zj4 (n:=2) (A:=A) (off:=18) (β:=UInt16) (a:=x.Hop) (b:=y.Hop) (by decide) rfl rfl (EqN.up (EqN.u16 (n:=0) Tryz.underlying68) (by decide)) (by rw [h1];decide) (by rw [h2];decide) (Fld.rd (α:=Route) (off:=18) hx) (Fld.rd (α:=Route) (off:=18) hy) eqF_nil))
 congr 1;cases x;cases y;rw [Bool.eq_iff_iff];simp
theorem EqG_87:Tryz.prog.eqGuardType Tryz.prog.depth 87=false:=by decide +kernel
instance :Fun Tryz.prog 7:=⟨Tryz.call7⟩
instance :Fun Tryz.prog 9:=⟨Tryz.call9⟩
instance :Fun Tryz.prog 10:=⟨Tryz.call10⟩
instance :Fun Tryz.prog 11:=⟨Tryz.call11⟩
instance :Fun Tryz.prog 12:=⟨Tryz.call12⟩
instance :Fun Tryz.prog 13:=⟨Tryz.call13⟩
instance :Fun Tryz.prog 14:=⟨Tryz.call14⟩
instance :Fun Tryz.prog 17:=⟨Tryz.call17⟩
instance :Fun Tryz.prog 18:=⟨Tryz.call18⟩
instance :Fun Tryz.prog 22:=⟨Tryz.call22⟩
instance :Fun Tryz.prog 23:=⟨Tryz.call23⟩
instance :Fun Tryz.prog 24:=⟨Tryz.call24⟩
instance :Fun Tryz.prog 25:=⟨Tryz.call25⟩
instance :Fun Tryz.prog 26:=⟨Tryz.call26⟩
instance :Fun Tryz.prog 27:=⟨Tryz.call27⟩
instance :Fun Tryz.prog 28:=⟨Tryz.call28⟩
instance :Fun Tryz.prog 29:=⟨Tryz.call29⟩
instance :Fun Tryz.prog 30:=⟨Tryz.call30⟩
instance :Fun Tryz.prog 33:=⟨Tryz.call33⟩
instance :Fun Tryz.prog 34:=⟨Tryz.call34⟩
instance :Fun Tryz.prog 37:=⟨Tryz.call37⟩
instance :Fun Tryz.prog 38:=⟨Tryz.call38⟩
instance :Fun Tryz.prog 39:=⟨Tryz.call39⟩
instance :Fun Tryz.prog 41:=⟨Tryz.call41⟩
instance :Fun Tryz.prog 42:=⟨Tryz.call42⟩
instance :Fun Tryz.prog 43:=⟨Tryz.call43⟩
instance :Fun Tryz.prog 44:=⟨Tryz.call44⟩
instance :Fun Tryz.prog 45:=⟨Tryz.call45⟩
instance :Fun Tryz.prog 46:=⟨Tryz.call46⟩
instance :Fun Tryz.prog 47:=⟨Tryz.call47⟩
instance :Fun Tryz.prog 48:=⟨Tryz.call48⟩
instance :Fun Tryz.prog 49:=⟨Tryz.call49⟩
instance :Fun Tryz.prog 50:=⟨Tryz.call50⟩
instance :Fun Tryz.prog 51:=⟨Tryz.call51⟩
instance :Fun Tryz.prog 52:=⟨Tryz.call52⟩
instance :Fun Tryz.prog 53:=⟨Tryz.call53⟩
instance :Fun Tryz.prog 54:=⟨Tryz.call54⟩
instance :Fun Tryz.prog 55:=⟨Tryz.call55⟩
instance :Fun Tryz.prog 56:=⟨Tryz.call56⟩
instance :Fun Tryz.prog 58:=⟨Tryz.call58⟩
instance :Fun Tryz.prog 59:=⟨Tryz.call59⟩
instance :Fun Tryz.prog 60:=⟨Tryz.call60⟩
instance :Fun Tryz.prog 61:=⟨Tryz.call61⟩
instance :Fun Tryz.prog 64:=⟨Tryz.call64⟩
instance :Fun Tryz.prog 65:=⟨Tryz.call65⟩
instance :Fun Tryz.prog 66:=⟨Tryz.call66⟩
instance :Fun Tryz.prog 67:=⟨Tryz.call67⟩
instance :Fun Tryz.prog 68:=⟨Tryz.call68⟩
instance :Fun Tryz.prog 69:=⟨Tryz.call69⟩
instance :Fun Tryz.prog 70:=⟨Tryz.call70⟩
instance :Fun Tryz.prog 71:=⟨Tryz.call71⟩
instance :Fun Tryz.prog 72:=⟨Tryz.call72⟩
instance :Fun Tryz.prog 73:=⟨Tryz.call73⟩
instance :Fun Tryz.prog 74:=⟨Tryz.call74⟩
instance :Fun Tryz.prog 75:=⟨Tryz.call75⟩
instance :Fun Tryz.prog 76:=⟨Tryz.call76⟩
instance :Fun Tryz.prog 77:=⟨Tryz.call77⟩
instance :Fun Tryz.prog 79:=⟨Tryz.call79⟩
instance :Fun Tryz.prog 80:=⟨Tryz.call80⟩
instance :Fun Tryz.prog 81:=⟨Tryz.call81⟩
instance :Fun Tryz.prog 86:=⟨Tryz.call86⟩
instance :Fun Tryz.prog 87:=⟨Tryz.call87⟩
instance :Fun Tryz.prog 88:=⟨Tryz.call88⟩
instance :Fun Tryz.prog 89:=⟨Tryz.call89⟩
instance :Fun Tryz.prog 90:=⟨Tryz.call90⟩
instance :Fun Tryz.prog 91:=⟨Tryz.call91⟩
instance :Fun Tryz.prog 92:=⟨Tryz.call92⟩
instance :Fun Tryz.prog 93:=⟨Tryz.call93⟩
instance :Fun Tryz.prog 94:=⟨Tryz.call94⟩
instance :Fun Tryz.prog 95:=⟨Tryz.call95⟩
instance :Fun Tryz.prog 96:=⟨Tryz.call96⟩
instance :Fun Tryz.prog 97:=⟨Tryz.call97⟩
instance :Fun Tryz.prog 98:=⟨Tryz.call98⟩
instance :Fun Tryz.prog 99:=⟨Tryz.call99⟩
instance :Fun Tryz.prog 100:=⟨Tryz.call100⟩
instance :Fun Tryz.prog 101:=⟨Tryz.call101⟩
instance :Fun Tryz.prog 102:=⟨Tryz.call102⟩
instance :Fun Tryz.prog 103:=⟨Tryz.call103⟩
instance :Fun Tryz.prog 104:=⟨Tryz.call104⟩
instance :Fun Tryz.prog 105:=⟨Tryz.call105⟩
instance :Fun Tryz.prog 106:=⟨Tryz.call106⟩
instance :Fun Tryz.prog 109:=⟨Tryz.call109⟩
instance :Fun Tryz.prog 110:=⟨Tryz.call110⟩
instance :Fun Tryz.prog 113:=⟨Tryz.call113⟩
instance :Fun Tryz.prog 114:=⟨Tryz.call114⟩
instance :Fun Tryz.prog 115:=⟨Tryz.call115⟩
instance :Fun Tryz.prog 116:=⟨Tryz.call116⟩
instance :Fun Tryz.prog 117:=⟨Tryz.call117⟩
instance :Fun Tryz.prog 118:=⟨Tryz.call118⟩
instance :Fun Tryz.prog 119:=⟨Tryz.call119⟩
instance :Fun Tryz.prog 120:=⟨Tryz.call120⟩
instance :Fun Tryz.prog 121:=⟨Tryz.call121⟩
instance :Fun Tryz.prog 122:=⟨Tryz.call122⟩
instance :Fun Tryz.prog 123:=⟨Tryz.call123⟩
instance :Fun Tryz.prog 124:=⟨Tryz.call124⟩
instance :Fun Tryz.prog 125:=⟨Tryz.call125⟩
instance :Fun Tryz.prog 126:=⟨Tryz.call126⟩
instance :Fun Tryz.prog 127:=⟨Tryz.call127⟩
instance :Fun Tryz.prog 128:=⟨Tryz.call128⟩
instance :Fun Tryz.prog 129:=⟨Tryz.call129⟩
instance :Fun Tryz.prog 131:=⟨Tryz.call131⟩
instance :Fun Tryz.prog 132:=⟨Tryz.call132⟩
instance :Fun Tryz.prog 135:=⟨Tryz.call135⟩
instance :Fun Tryz.prog 138:=⟨Tryz.call138⟩
instance :Fun Tryz.prog 139:=⟨Tryz.call139⟩
instance :Fun Tryz.prog 140:=⟨Tryz.call140⟩
instance :Fun Tryz.prog 141:=⟨Tryz.call141⟩
instance :Fun Tryz.prog 142:=⟨Tryz.call142⟩
instance :Fun Tryz.prog 143:=⟨Tryz.call143⟩
instance :Fun Tryz.prog 144:=⟨Tryz.call144⟩
instance :Fun Tryz.prog 145:=⟨Tryz.call145⟩
instance :Fun Tryz.prog 146:=⟨Tryz.call146⟩
instance :Fun Tryz.prog 147:=⟨Tryz.call147⟩
instance :Fun Tryz.prog 148:=⟨Tryz.call148⟩
instance :Fun Tryz.prog 149:=⟨Tryz.call149⟩
instance :Fun Tryz.prog 150:=⟨Tryz.call150⟩
instance :Fun Tryz.prog 151:=⟨Tryz.call151⟩
instance :Fun Tryz.prog 152:=⟨Tryz.call152⟩
instance :Fun Tryz.prog 153:=⟨Tryz.call153⟩
instance :Fun Tryz.prog 154:=⟨Tryz.call154⟩
instance :Fun Tryz.prog 155:=⟨Tryz.call155⟩
instance :Fun Tryz.prog 156:=⟨Tryz.call156⟩
instance :Fun Tryz.prog 157:=⟨Tryz.call157⟩
instance :Fun Tryz.prog 158:=⟨Tryz.call158⟩
instance :Fun Tryz.prog 159:=⟨Tryz.call159⟩
instance :Fun Tryz.prog 161:=⟨Tryz.call161⟩
instance :Fun Tryz.prog 162:=⟨Tryz.call162⟩
instance :Fun Tryz.prog 163:=⟨Tryz.call163⟩
instance :Fun Tryz.prog 164:=⟨Tryz.call164⟩
instance :Fun Tryz.prog 165:=⟨Tryz.call165⟩
instance :Fun Tryz.prog 166:=⟨Tryz.call166⟩
instance :Fun Tryz.prog 167:=⟨Tryz.call167⟩
instance :Fun Tryz.prog 168:=⟨Tryz.call168⟩
instance :Fun Tryz.prog 169:=⟨Tryz.call169⟩
instance :Fun Tryz.prog 170:=⟨Tryz.call170⟩
instance :Fun Tryz.prog 171:=⟨Tryz.call171⟩
instance :Fun Tryz.prog 172:=⟨Tryz.call172⟩
instance :Fun Tryz.prog 173:=⟨Tryz.call173⟩
instance :Fun Tryz.prog 174:=⟨Tryz.call174⟩
instance :Fun Tryz.prog 175:=⟨Tryz.call175⟩
instance :Fun Tryz.prog 176:=⟨Tryz.call176⟩
instance :Fun Tryz.prog 177:=⟨Tryz.call177⟩
instance :Fun Tryz.prog 178:=⟨Tryz.call178⟩
instance :Fun Tryz.prog 179:=⟨Tryz.call179⟩
instance :Fun Tryz.prog 180:=⟨Tryz.call180⟩
instance :Fun Tryz.prog 181:=⟨Tryz.call181⟩
instance :Fun Tryz.prog 182:=⟨Tryz.call182⟩
instance :Fun Tryz.prog 183:=⟨Tryz.call183⟩
instance :Fun Tryz.prog 187:=⟨Tryz.call187⟩
instance :Fun Tryz.prog 188:=⟨Tryz.call188⟩
instance :Fun Tryz.prog 190:=⟨Tryz.call190⟩
instance :Fun Tryz.prog 191:=⟨Tryz.call191⟩
instance :Fun Tryz.prog 192:=⟨Tryz.call192⟩
instance :Fun Tryz.prog 193:=⟨Tryz.call193⟩
instance :Fun Tryz.prog 194:=⟨Tryz.call194⟩
instance :Fun Tryz.prog 195:=⟨Tryz.call195⟩
instance :Fun Tryz.prog 196:=⟨Tryz.call196⟩
instance :Fun Tryz.prog 197:=⟨Tryz.call197⟩
instance :Fun Tryz.prog 198:=⟨Tryz.call198⟩
instance :Fun Tryz.prog 199:=⟨Tryz.call199⟩
instance :Fun Tryz.prog 200:=⟨Tryz.call200⟩
instance :Fun Tryz.prog 201:=⟨Tryz.call201⟩
instance :Fun Tryz.prog 204:=⟨Tryz.call204⟩
instance :Fun Tryz.prog 205:=⟨Tryz.call205⟩
instance :Fun Tryz.prog 206:=⟨Tryz.call206⟩
instance :Fun Tryz.prog 207:=⟨Tryz.call207⟩
instance :Fun Tryz.prog 208:=⟨Tryz.call208⟩
instance :Fun Tryz.prog 209:=⟨Tryz.call209⟩
instance :Fun Tryz.prog 210:=⟨Tryz.call210⟩
instance :Fun Tryz.prog 211:=⟨Tryz.call211⟩
instance :Fun Tryz.prog 212:=⟨Tryz.call212⟩
instance :Fun Tryz.prog 213:=⟨Tryz.call213⟩
instance :Fun Tryz.prog 214:=⟨Tryz.call214⟩
instance :Fun Tryz.prog 215:=⟨Tryz.call215⟩
instance :Fun Tryz.prog 216:=⟨Tryz.call216⟩
instance :Fun Tryz.prog 217:=⟨Tryz.call217⟩
instance :Fun Tryz.prog 218:=⟨Tryz.call218⟩
instance :ExtOvl Tryz.prog 133 36:=⟨fun args w=>run_callFunc_extern Tryz.func133 (by kernel_rfl) (by kernel_rfl) (by kernel_rfl) (by kernel_rfl) args w⟩
instance :ExtCmp Tryz.prog 137:=⟨fun args w=>run_callFunc_extern Tryz.func137 (by kernel_rfl) (by kernel_rfl) (by kernel_rfl) (by kernel_rfl) args w⟩
instance :ExtIdx Tryz.prog 202:=⟨fun args w=>run_callFunc_extern Tryz.func202 (by kernel_rfl) (by kernel_rfl) (by kernel_rfl) (by kernel_rfl) args w⟩
instance :ExtCnt Tryz.prog 220:=⟨fun args w=>run_callFunc_extern Tryz.func220 (by kernel_rfl) (by kernel_rfl) (by kernel_rfl) (by kernel_rfl) args w⟩
end Go.Proofs.YtkmojgfenlgchaaGreatDoor.Tr
namespace Go.Proofs.YtkmojgfenlgchaaGreatDoor.Tr
open Go Go.RowKit Go.ChangeShapes Go.WideShapes Go.ChangeAt
theorem cells?_row {w:World} {base:Nat} {a:Addr} {n:Nat} {cs:List Value} (h:w.cells? base a n=some cs) (hn:0<n):a.spot=none∧cs.length=n∧ZiU w a.block a.off cs:=by
 obtain ⟨-,hl,hc⟩:=World.cells?_some h;obtain ⟨b,off,sp⟩:=a;have hsp:sp=none:=by
  have h0:=hc 0 hn;rw [List.getElem?_eq_getElem (by omega)] at h0;simpa [Addr.add] using World.cell?_spot h0
 subst hsp;refine ⟨rfl,hl,fun j hj=>?_⟩;have:=hc j (by omega);rw [List.getElem?_eq_getElem hj] at this;rw [List.getD_eq_getElem?_getD,List.getElem?_eq_getElem hj]
 rwa [Za8] at this
class TOpen (P:Program) (t:TypeId) (α:outParam Type) (i:outParam (Dat α)):Prop where
 h:∀ {H:Type} {enc:TypeId×Value→H} {W:World} {base:Nat} {sp:Nat→Bool} {held:Bool} {fuel:Nat} {cs:List Value} {d:DataW H} {ps:List MemPlace},
  DataW.trod enc P W base sp held fuel t cs=some (d,ps)→(∀ n∈d.weights P t,n≤reachBytes)→∃ x:α,Dat.rd (fun _=>True) W cs x
 s:∀ {W:World} {base:Nat} {v:Value},Value.okWide P W .any base t v→v=mkV α v.cells.toList
theorem reach_most:reachBytes≤ZjH:=by decide
theorem wf_u8 {n:Int} (h:(Lit.int .u8 n).wf=true):0≤n∧n<256:=by
 simp [Lit.wf,IntKind.bits,IntKind.signed,IntKind.min,IntKind.max] at h;omega
theorem wf_u16 {n:Int} (h:(Lit.int .u16 n).wf=true):0≤n∧n<65536:=by
 simp [Lit.wf,IntKind.bits,IntKind.signed,IntKind.min,IntKind.max] at h;omega
theorem topen_u8 {P:Program} {t:TypeId} (ht:P.underlying t=some (.int .u8)):TOpen P t UInt8 inferInstance where
 h hd _:=by
  obtain ⟨n,rfl,-,hw⟩:=DataW.trod_int ht hd;have:=wf_u8 hw;refine ⟨UInt8.ofNat n.toNat,?_⟩;show [Value.int .u8 n]=[.int .u8 _];rw [UInt8.toNat_ofNat_of_lt' (by show n.toNat<256;omega),Int.toNat_of_nonneg this.1]
 s hv:=by obtain ⟨n,rfl⟩:=okWide_int ht hv;rfl
theorem topen_u16 {P:Program} {t:TypeId} (ht:P.underlying t=some (.int .u16)):TOpen P t UInt16 inferInstance where
 h hd _:=by
  obtain ⟨n,rfl,-,hw⟩:=DataW.trod_int ht hd;have:=wf_u16 hw;refine ⟨UInt16.ofNat n.toNat,?_⟩;show [Value.int .u16 n]=[.int .u16 _];rw [UInt16.toNat_ofNat_of_lt' (by show n.toNat<65536;omega),Int.toNat_of_nonneg this.1]
 s hv:=by obtain ⟨n,rfl⟩:=okWide_int ht hv;rfl
theorem Zi6 {H:Type} {P:Program} {e:TypeId} {d:DataW H} {n:Nat} (hn:n∈d.weights P e):∀ {l:List (DataW H)},d∈l→n∈DataW.weightsAll P e l
 | [],h=>by cases h
 | x::r,h=>by
  simp only [DataW.weightsAll,List.mem_append];rcases List.mem_cons.1 h with rfl | h
  ·exact .inl hn
  ·exact .inr (Zi6 hn h)
theorem topen_list {P:Program} {t e:TypeId} {α:Type} {i:Dat α} (ht:P.underlying t=some (.slice e)) (hc:P.cellsOf e=Dat.sz α) (hb:1≤P.bytesOf e) [k:TOpen P e α i]:TOpen P t (List α) inferInstance where
 h {H enc W base sp held fuel cs d ps} hd hw:=by
  rcases Go.Deep.open_slice ht hd with ⟨rfl,-⟩ | ⟨a,len,cap,m,n,Df,Pl,rfl,-,h1,h2,hm,hx,hel⟩
  ·exact ⟨[],none,0,rfl,Nat.le_refl _,Nat.zero_le _,Nat.zero_le _,fun i hi=>absurd hi (by simp)⟩
  ·have hlm:len≤m:=by rw [hm];split <;> omega
   injection hx with hx1 hx2;subst hx1;have hwt:∀ i,i<len→∀ n∈(Df i).weights P e,n≤reachBytes:=fun i hi n hn=>by
    refine hw n ?_;simp only [DataW.weights,ht];refine List.mem_cons_of_mem _ (List.mem_append_left _ ?_);exact Zi6 hn (List.mem_map.2 ⟨i,by simpa using hi,rfl⟩)
   have hlen:len≤ZjH:=by
    have:=hw ((((List.range len).map Df).length+((List.range (m-len)).map fun j=>Df (len+j)).length)*P.bytesOf e) (by simp only [DataW.weights,ht];exact List.mem_cons_self ..);simp only [List.length_map,List.length_range] at this;have h3:len≤(len+(m-len))*P.bytesOf e:=Nat.le_trans (Nat.le_add_right _ _) (Nat.le_mul_of_pos_right _ hb);exact Nat.le_trans (Nat.le_trans h3 this) reach_most
   have hx:∀ i:Fin len,∃ x:α,∃ es,W.cells? base (a.add (i.1*P.cellsOf e)) (P.cellsOf e)=some es∧Dat.rd (fun _=>True) W es x:=fun i=>by
    obtain ⟨cs',g1,g2⟩:=hel i.1 (Nat.lt_of_lt_of_le i.2 hlm);obtain ⟨x,hx⟩:=k.h g2 (hwt i.1 i.2);exact ⟨x,cs',g1,hx⟩
   refine ⟨List.ofFn fun i=>Classical.choose (hx i),some a,cap,by simp,by simpa using h1,h2,by simpa using hlen,fun i hi=>?_⟩;have hi':i<len:=by simpa using hi
   obtain ⟨es,g1,g2⟩:=Classical.choose_spec (hx ⟨i,hi'⟩);have hpos:0<P.cellsOf e:=by rw [hc];exact Dat.pos
   obtain ⟨-,q2,q3⟩:=cells?_row g1 hpos;obtain ⟨cs0,g0,-⟩:=hel 0 (by omega);rw [Nat.zero_mul] at g0;obtain ⟨q1,-,-⟩:=cells?_row g0 hpos;refine ⟨a.block,a.off,?_,trivial,es,?_,by simpa using g2⟩
   ·obtain ⟨b,off,s⟩:=a;obtain rfl:s=none:=q1;rfl
   ·obtain ⟨b,off,s⟩:=a;obtain rfl:s=none:=q1;rw [hc] at q3;rw [Za8] at q3;exact q3
 s hv:=by obtain ⟨a,l,c,rfl⟩:=okWide_slice ht hv;rfl
theorem Zls {P:Program} {t:TypeId} {α:Type} {i:Dat α} [k:TOpen P t α i] {H:Type} {enc:TypeId×Value→H} {W:World} {base b0:Nat} {sp:Nat→Bool} {held:Bool} {v:Value} {d:DataW H} {ps:List MemPlace}
  (h:DataW.Trod enc P W base sp held t v d ps) (hv:Value.okWide P W .any b0 t v) (hw:∀ n∈d.weights P t,n≤reachBytes):∃ x:α,(D x).p (fun _=>True) W v:=by
 obtain ⟨fuel,hf⟩:=h;obtain ⟨x,hx⟩:=k.h hf hw;exact ⟨x,_,hx,k.s hv⟩
theorem ZjK {H:Type} {enc:TypeId×Value→H} {P:Program} (hl:laidOutB P=true) {W W':World} (hb:Below W.heap.size W W'):∀ {ts:List TypeId} {vs:List Value} {ds:List (DataW H)} {ps:List MemPlace},
  (∀ t∈ts,P.readableRec t=true∧t<P.types.size)→DataW.TrodAll enc P W 0 (fun _=>true) true ts vs ds ps→DataW.TrodAll enc P W' 0 (fun b=>decide (b<W.heap.size)) true ts vs ds ps
 | [],vs,ds,ps,_,h=>by obtain ⟨rfl,rfl,rfl⟩:=trodAll_nil h;exact trodAll_mk0
 | t::ts,vs,ds,ps,hr,h=>by
  obtain ⟨v,vs',d,ds',p,q,rfl,rfl,rfl,h1,h2⟩:=trodAll_cons h;have hlt:∀ x∈p,x.block<W.heap.size:=by obtain ⟨m,hm⟩:=h1;exact DataW.trod_lt m _ _ _ hm
  exact trodAll_cons_mk (Below.trod hl (hr t (List.mem_cons_self ..)).1 (hr t (List.mem_cons_self ..)).2 h1 hb hlt) (ZjK hl hb (fun u hu=>hr u (List.mem_cons_of_mem _ hu)) h2)
theorem law_post {H:Type} {enc:TypeId×Value→H} {P:Program} {f:Func} {s:ChangeSpec} {tb:TypeId} (hl:laidOutB P=true) (hb:P.underlying tb=some .bool) (hres:f.resultTypes=#[tb]) (hvars:s.vars=[])
  (hr:∀ t∈f.params.toList,P.readableRec t=true∧t<P.types.size) {W W':World} {args:Array Value} {ds gs:List (DataW H)} {before:List MemPlace} {e:Ending}
  (hs:s.fn H ds={ results:=[.lit (.bool true)],args:=ds })
  (hW:DataW.Whole enc P f.params.toList s.vars false W args.toList ds gs before) (h:Ret (fun _=>True) W (D true) e W'):∃ v,e=.returned v∧s.post enc P f false true false false W args v W':=by
 obtain ⟨v,rfl,hg,hv⟩:=h;obtain rfl:v=.bool true:=by
  have:=Zlr rfl hv;simpa [Dat.rd] using this
 have hW':=hW;obtain ⟨p,q,hA,hV,rfl,-,-⟩:=hW;rw [hvars] at hV;obtain ⟨rfl,rfl⟩:=trodVars_none hV;refine ⟨_,rfl,ds,[],p++[],[],p,[],hW',?_,?_,?_,hg.below.frame _,fun h=>by cases h⟩
 ·rw [List.append_nil,hs,hres];exact trodAll_mk1 (shut_bool hb _)
 ·rw [List.append_nil,hs];exact ZjK hl hg.below hr hA
 ·rw [List.append_nil,hs,hvars];rfl
end Go.Proofs.YtkmojgfenlgchaaGreatDoor.Tr
namespace Go.Proofs.YtkmojgfenlgchaaGreatDoor.Tr
open Go
theorem Zap {σ ε : Type} {f : σ → Option (σ ⊕ ε)} (g : Nat → σ) (n : Nat) {e : ε} (hn : n < 18446744073709551616) (h : ∀ i, i < n → f (g i) = some (.inl (g (i + 1)))) (he : f (g n) = some (.inr e)) {s : σ} (hs : s = g 0) : ZR f s = some e := by
  have key : ∀ k i, i + k = n → Zfp f (k + 1) (g i) = some e := by
    intro k
    induction k with
    | zero => intro i hi; obtain rfl : i = n := by omega
              exact ZeF he
    | succ k ih => intro i hi; rw [ZdZ (h i (by omega))]; exact ih (i + 1) (by omega)
  subst hs
  exact Zhq (n + 1) (by omega) (key n 0 (by omega))
theorem ZfL {σ ε:Type} {f:σ→Option (σ⊕ε)} (g:Nat→σ) (n:Nat) (p:Nat→Bool) (x:Nat→ε) {y:ε} (hn:n<18446744073709551616)
  (h:∀ i,i<n→p i=false→f (g i)=some (.inl (g (i+1)))) (hx:∀ i,i<n→p i=true→f (g i)=some (.inr (x i))) (he:f (g n)=some (.inr y)) {s:σ} (hs:s=g 0) :
  (∃ i,i<n∧p i=true∧(∀ j,j<i→p j=false)∧ZR f s=some (x i))∨((∀ j,j<n→p j=false)∧ZR f s=some y):=by
 by_cases hex:∃ i,i<n∧p i=true
 ·left
  have key:∀ m,(∃ i,i<m∧i<n∧p i=true)→∃ i,i<n∧p i=true∧∀ j,j<i→p j=false:=by
   intro m
   induction m with
   | zero=>rintro ⟨i,h,_⟩;omega
   | succ m ih=>
    rintro ⟨i,h1,h2,h3⟩
    by_cases hs:∃ i,i<m∧i<n∧p i=true
    ·exact ih hs
    ·refine ⟨i,h2,h3,fun j hj=>?_⟩;cases hp:p j with
     | false=>rfl
     | true=>exact absurd ⟨j,by omega,by omega,hp⟩ hs
  obtain ⟨i0,h0,h1⟩:=hex;obtain ⟨i,h1,h2,h3⟩:=key (i0+1) ⟨i0,by omega,h0,h1⟩;exact ⟨i,h1,h2,h3,Zap g i (by omega) (fun j hj=>h j (by omega) (h3 j hj)) (hx i h1 h2) hs⟩
 ·right
  have hall:∀ j,j<n→p j=false:=fun j hj=>by
   cases hp:p j with
   | false=>rfl
   | true=>exact absurd ⟨j,hj,hp⟩ hex
  exact ⟨hall,Zap g n hn (fun j hj=>h j hj (hall j hj)) he hs⟩
theorem ZgU {i n:Nat} (h:i<n):decide ((i:Int)<(n:Int))=true:=by simpa using h
theorem Zmg {n:Nat}:decide ((n:Int)<(n:Int))=false:=by simp
theorem Zkz {i n:Nat} (h:n≤i):decide ((i:Int)<(n:Int))=false:=by simpa using h
theorem Zao {i:Nat} (h:i<9223372036854775807):ZaA (i:Int) 1=some (((i+1:Nat)):Int):=ZcT h
theorem Zl {α:Type} {b:Bool} {x y:α} (h:b=true):(bif b then x else y)=x:=by rw [h,Zx]
theorem Zh {α:Type} {b:Bool} {x y:α} (h:b=false):(bif b then x else y)=y:=by rw [h,Zw]
theorem Zbs {α β:Type} {x:Option α} {a:α} {f:α→Option β} (h:x=some a):x.bind f=f a:=by rw [h,Ze]
theorem Zh9 {α:Type} [Inhabited α] {g:Bool} {x:Option α} {a:α} (h:x=some a):gb g x=some (bif g then a else default):=gb_of fun _=>h
theorem remI_nat {a b:Nat} (h:0<b):remI (a:Int) (b:Int)=some ((a % b:Nat):Int):=by rw [remI_ok (by omega) (by omega)];rfl
theorem quoI_nat {a b:Nat} (h:0<b):ZkX (a:Int) (b:Int)=some ((a/b:Nat):Int):=by rw [Zjp (by omega) (by omega)];rfl
end Go.Proofs.YtkmojgfenlgchaaGreatDoor.Tr
namespace Go.Proofs.YtkmojgfenlgchaaGreatDoor.Tr
open Go Go.RowKit
class OpA (P:Program) (B:Nat) (Ω:List Pe) (Γ:Env) (o:Oper) (τ:outParam Ty):Prop where
 h:∀ {A:Nat→Prop},OpY P B A Ω Γ o τ
class OpB (P:Program) (B:Nat) (Ω:List Pe) (Γ:Env) (o:Oper) (α:outParam Type) (x:outParam (Option α)) (τ:outParam (α→Ty)):Prop where
 h:∀ {a:α},x=some a→∀ {A:Nat→Prop},OpY P B A Ω Γ o (τ a)
class FtE {α:Type} (e:Option α) (v:outParam α):Prop where
 h:e=some v
class FtG {α:Type} [Inhabited α] (e:Option α) (g:outParam Bool) (v:outParam α):Prop where
 h:gb g e=some v
class FtT (g:Bool):Prop where
 h:g=true
instance {b:Bool} [h:Ft (b=true)]:FtT b:=⟨h.h⟩
instance {b:Bool} [h:Ft (b=false)]:FtT (!b):=⟨nF h.h⟩
instance {p q:Prop} [h:Ft p] [k:Ft q]:Ft (p∧q):=⟨⟨h.h,k.h⟩⟩
class TupAt (τs:List Ty) (k:Nat) (σ:outParam Ty):Prop where
 h:τs[k]?=some σ
instance {σ:Ty} {τs:List Ty}:TupAt (σ::τs) 0 σ:=⟨rfl⟩
instance {σ τ:Ty} {τs:List Ty} {k:Nat} [h:TupAt τs k σ]:TupAt (τ::τs) (k+1) σ:=⟨by simpa using h.h⟩
class PlO (C:Ct) (o:Nat) (α:outParam Type) (i:outParam (Dat α)) (v:outParam α) (upd:outParam (α→Ct)):Prop where
 h:Pl C o α i v upd
instance {α:Type} {i:Dat α} {x:α}:PlO (One x) 0 α i x One:=⟨Zv⟩
instance {α β:Type} {i:Dat α} {j:Dat β} {C:Ct} {o off:Nat} {get:α→β} {set:β→α→α} {x:α} {upd:α→Ct} [h:PlO C o α i x upd] [L:Fld α i off β j get set]:PlO C (o+off) β j (get x) (fun y=>upd (set y x)):=⟨Pl.fld h.h⟩
instance {α:Type} {i:Dat α} {xs:List α} {c:Nat} {k:Int} {x:α} [h:FtE (idx xs k) x]:PlO (Row xs c) (0+k.toNat*Dat.sz α) α i x (fun y=>Row (xs.set k.toNat y) c):=⟨ZaJ h.h⟩
section ops
variable {P:Program} {B0:Nat} {Ω:List Pe} {Γ:Env} {dst:Option Tmp} {ty:TypeId} {pos:String} {aft:Array Edge} {gd:Option (Nat×Bool)} {x y c:Operand} {τ σ ρ:Ty} {t u e s d:TypeId} {α β:Type} {i:Dat α} {j:Dat β}
instance [Has Γ x τ] [AsT τ σ]:OpA P B0 Ω Γ ⟨dst,.move x,ty,pos,aft,gd⟩ σ:=⟨Zeq⟩
instance [Has Γ x τ] [AsT τ σ]:OpA P B0 Ω Γ ⟨dst,.assign x,ty,pos,aft,gd⟩ σ:=⟨Zd5⟩
instance {f off:Nat} [Has Γ x τ] [F:TFld P t f u off] [S:TDat P t α i] [T:TDat P u β j] [k:FaP τ α off β σ]:OpA P B0 Ω Γ ⟨dst,.fieldAddr t x f,ty,pos,aft,gd⟩ σ:=⟨Za4⟩
instance {v:α} [Has Γ x τ] [hx:AsPtr τ α i v] [T:TDat P t α i]:OpA P B0 Ω Γ ⟨dst,.load t x,ty,pos,aft,gd⟩ (D v):=⟨OpY.load⟩
instance (priority:=900) {b o:Nat} {pr:Prop} {C:Ct} {v:α} {upd:α→Ct} [hx:Has Γ x τ] [q:AsPq τ b o pr] [T:TDat P t α i] [hb:HasB Ω b pr C] [p:PlO C o α i v upd]:OpA P B0 Ω Γ ⟨dst,.load t x,ty,pos,aft,gd⟩ (D v):=⟨ZaE p.h⟩
instance {τs:List Ty} {k:Nat} [Has Γ x τ] [hx:AsTup τ τs] [h:TupAt τs k σ]:OpA P B0 Ω Γ ⟨dst,.extract x k,ty,pos,aft,gd⟩ σ:=⟨ZjE h.h⟩
instance [Has Γ x τ] [k:AsT τ σ] [q:IsPtr σ]:OpA P B0 Ω Γ ⟨dst,.nilCheck x,ty,pos,aft,gd⟩ σ:=⟨Zir⟩
instance {b:Bool} [Has Γ x τ] [hb:AsB τ b]:OpA P B0 Ω Γ ⟨dst,.unOp .not t x,ty,pos,aft,gd⟩ (B (!b)):=⟨OpY.notB⟩
instance {b d:Bool} [Has Γ c τ] [hb:AsB τ b] [Has Γ x σ] [hd:AsBC σ b true d]:OpA P B0 Ω Γ ⟨dst,.pick c x (.const (.bool false)),ty,pos,aft,gd⟩ (B (b&&d)):=⟨OpY.pickAnd⟩
instance {b d:Bool} [Has Γ c τ] [hb:AsB τ b] [Has Γ x σ] [hd:AsBC σ b false d]:OpA P B0 Ω Γ ⟨dst,.pick c (.const (.bool true)) x,ty,pos,aft,gd⟩ (B (b||d)):=⟨OpY.pickOr⟩
section cmp
variable {m k:Int} [hsx:Has Γ x τ] [hx:AsI τ m] [hsy:Has Γ y σ] [hy:AsI σ k]
include hx hy hsx hsy
instance :OpA P B0 Ω Γ ⟨dst,.binOp .lss t x y u,ty,pos,aft,gd⟩ (B (decide (m<k))):=⟨OpY.lss⟩
instance :OpA P B0 Ω Γ ⟨dst,.binOp .leq t x y u,ty,pos,aft,gd⟩ (B (decide (m≤k))):=⟨OpY.leq⟩
instance :OpA P B0 Ω Γ ⟨dst,.binOp .gtr t x y u,ty,pos,aft,gd⟩ (B (decide (m>k))):=⟨OpY.gtr⟩
instance :OpA P B0 Ω Γ ⟨dst,.binOp .geq t x y u,ty,pos,aft,gd⟩ (B (decide (m≥k))):=⟨OpY.geq⟩
instance :OpA P B0 Ω Γ ⟨dst,.binOp .eql t x y u,ty,pos,aft,gd⟩ (B (decide (m=k))):=⟨OpY.eql⟩
instance :OpA P B0 Ω Γ ⟨dst,.binOp .neq t x y u,ty,pos,aft,gd⟩ (B (decide (m≠k))):=⟨OpY.neq⟩
instance :OpB P B0 Ω Γ ⟨dst,.binOp .add t x y u,ty,pos,aft,gd⟩ Int (ZaA m k) D:=⟨fun h=>Zgb h⟩
instance :OpB P B0 Ω Γ ⟨dst,.binOp .sub t x y u,ty,pos,aft,gd⟩ Int (Zgf m k) D:=⟨fun h=>OpD.sub h⟩
instance :OpB P B0 Ω Γ ⟨dst,.binOp .mul t x y u,ty,pos,aft,gd⟩ Int (mulI m k) D:=⟨fun h=>OpD.mul h⟩
end cmp
instance {m k:Int} [hsx:Has Γ x τ] [hx:ToD τ Int inferInstance m] [hsy:Has Γ y σ] [hy:ToD σ Int inferInstance k]:OpB P B0 Ω Γ ⟨dst,.binOp .quo t x y u,ty,pos,aft,gd⟩ Int (ZkX m k) D:=⟨fun h=>OpD.quo h⟩
instance {m k:Int} [hsx:Has Γ x τ] [hx:ToD τ Int inferInstance m] [hsy:Has Γ y σ] [hy:ToD σ Int inferInstance k]:OpB P B0 Ω Γ ⟨dst,.binOp .rem t x y u,ty,pos,aft,gd⟩ Int (remI m k) D:=⟨fun h=>OpD.rem h⟩
instance {m k:Int} [hsx:Has Γ x τ] [hx:ToD τ Int inferInstance m] [hsy:Has Γ y σ] [hy:ToD σ Int inferInstance k]:OpB P B0 Ω Γ ⟨dst,.binOp .and t x y u,ty,pos,aft,gd⟩ Int (andI m k) D:=⟨fun h=>OpD.andi h⟩
instance {m k:Int} [hsx:Has Γ x τ] [hx:ToD τ Int inferInstance m] [hsy:Has Γ y σ] [hy:ToD σ Int inferInstance k]:OpB P B0 Ω Γ ⟨dst,.binOp .or t x y u,ty,pos,aft,gd⟩ Int (orI m k) D:=⟨fun h=>OpD.ori h⟩
instance {m k:Int} [hsx:Has Γ x τ] [hx:ToD τ Int inferInstance m] [hsy:Has Γ y σ] [hy:AsCnt σ k]:OpB P B0 Ω Γ ⟨dst,.binOp .shl t x y u,ty,pos,aft,gd⟩ Int (shlI m k) D:=⟨fun h=>OpD.shli h⟩
instance {m k:Int} [hsx:Has Γ x τ] [hx:ToD τ Int inferInstance m] [hsy:Has Γ y σ] [hy:AsCnt σ k]:OpB P B0 Ω Γ ⟨dst,.binOp .shr t x y u,ty,pos,aft,gd⟩ Int (shrI m k) D:=⟨fun h=>OpD.shri h⟩
instance {xs:List α} [hsx:Has Γ x τ] [hx:AsL τ α i xs] [S:TSl P t e]:OpA P B0 Ω Γ ⟨dst,.call { callee:=.builtin .len,args:=#[x],argTypes:=#[t] },ty,pos,aft,gd⟩ (D (xs.length:Int)):=⟨OpD.len⟩
instance {m k:Int} {ts:Array TypeId} [hsx:Has Γ x τ] [hx:ToD τ Int inferInstance m] [hsy:Has Γ y σ] [hy:ToD σ Int inferInstance k]:OpA P B0 Ω Γ ⟨dst,.call { callee:=.builtin .min,args:=#[x,y],argTypes:=ts },ty,pos,aft,gd⟩ (D (min m k)):=⟨OpD.min⟩
instance {m k:Int} {ts:Array TypeId} [hsx:Has Γ x τ] [hx:ToD τ Int inferInstance m] [hsy:Has Γ y σ] [hy:ToD σ Int inferInstance k]:OpA P B0 Ω Γ ⟨dst,.call { callee:=.builtin .max,args:=#[x,y],argTypes:=ts },ty,pos,aft,gd⟩ (D (max m k)):=⟨OpD.max⟩
instance {m:UInt8} [hsx:Has Γ x τ] [hx:AsU8 τ m] [S:TIn P s .u8] [T:TIn P d .i64]:OpA P B0 Ω Γ ⟨dst,.convert s d x,ty,pos,aft,gd⟩ (D (m.toNat:Int)):=⟨OpD.conv8_i⟩
instance {z:Int} [hsx:Has Γ x τ] [hx:AsI τ z] [S:TIn P s .i64] [T:TIn P d .u8]:OpA P B0 Ω Γ ⟨dst,.convert s d x,ty,pos,aft,gd⟩ (U8 (UInt8.ofInt z)):=⟨OpY.convi_8⟩
instance {xs:List α} {l:Int} [Has Γ x τ] [hx:AsL τ α i xs] [Has Γ y σ] [hy:AsIx σ l] [S:TSl P t e] [T:TDat P e α i]:OpB P B0 Ω Γ ⟨dst,.indexAddr t x y,ty,pos,aft,gd⟩ α (idx xs l) Zk9:=⟨fun h=>OpD.index h⟩
instance {xs:List α} {l r:Int} {z:Operand} [hsx:Has Γ x τ] [hx:AsL τ α i xs] [hsy:Has Γ y σ] [hy:AsI σ l] [hsz:Has Γ z ρ] [hz:AsI ρ r] [S:TSl P t e] [T:TDat P e α i]:OpB P B0 Ω Γ ⟨dst,.slice t x (some y) (some z) none,ty,pos,aft,gd⟩ Unit (cut xs.length l r) (fun _=>D ((xs.take r.toNat).drop l.toNat)):=⟨fun h=>OpD.slice2 h⟩
instance {xs:List α} {r:Int} {z:Operand} [hsx:Has Γ x τ] [hx:AsL τ α i xs] [hsz:Has Γ z ρ] [hz:AsI ρ r] [S:TSl P t e] [T:TDat P e α i]:OpB P B0 Ω Γ ⟨dst,.slice t x none (some z) none,ty,pos,aft,gd⟩ Unit (cut xs.length 0 r) (fun _=>D (xs.take r.toNat)):=⟨fun h=>OpD.sliceTo h⟩
instance {xs:List α} {l:Int} [hsx:Has Γ x τ] [hx:AsL τ α i xs] [hsy:Has Γ y σ] [hy:AsI σ l] [S:TSl P t e] [T:TDat P e α i]:OpB P B0 Ω Γ ⟨dst,.slice t x (some y) none none,ty,pos,aft,gd⟩ Unit (cut xs.length l xs.length) (fun _=>D (xs.drop l.toNat)):=⟨fun h=>OpD.sliceFrom h⟩
end ops
class Fn1 (P:Program) (f:FuncId) (α:outParam Type) (i:outParam (Dat α)) (ρ:outParam Type) (g:outParam (α→Option ρ)) (σ:outParam (ρ→Ty)):Prop where
 h:∀ {A:Nat→Prop} {a:α} {r:ρ} (w:World) (v0:Value),(∀ k,w.heap.size≤k→A k)→(D a).p A w v0→g a=some r→Calls P f #[v0] w (Ret A w (σ r))
class Fn2 (P:Program) (f:FuncId) (α:outParam Type) (i:outParam (Dat α)) (β:outParam Type) (j:outParam (Dat β)) (ρ:outParam Type) (g:outParam (α→β→Option ρ)) (σ:outParam (ρ→Ty)):Prop where
 h:∀ {A:Nat→Prop} {a:α} {b:β} {r:ρ} (w:World) (v0 v1:Value),(∀ k,w.heap.size≤k→A k)→(D a).p A w v0→(D b).p A w v1→g a b=some r→Calls P f #[v0,v1] w (Ret A w (σ r))
class Fn3 (P:Program) (f:FuncId) (α:outParam Type) (i:outParam (Dat α)) (β:outParam Type) (j:outParam (Dat β)) (γ:outParam Type) (k:outParam (Dat γ)) (ρ:outParam Type) (g:outParam (α→β→γ→Option ρ)) (σ:outParam (ρ→Ty)):Prop where
 h:∀ {A:Nat→Prop} {a:α} {b:β} {c:γ} {r:ρ} (w:World) (v0 v1 v2:Value),(∀ k,w.heap.size≤k→A k)→(D a).p A w v0→(D b).p A w v1→(D c).p A w v2→g a b c=some r→Calls P f #[v0,v1,v2] w (Ret A w (σ r))
class Fn4 (P:Program) (f:FuncId) (α:outParam Type) (i:outParam (Dat α)) (β:outParam Type) (j:outParam (Dat β)) (γ:outParam Type) (k:outParam (Dat γ)) (δ:outParam Type) (l:outParam (Dat δ)) (ρ:outParam Type) (g:outParam (α→β→γ→δ→Option ρ)) (σ:outParam (ρ→Ty)):Prop where
 h:∀ {A:Nat→Prop} {a:α} {b:β} {c:γ} {d:δ} {r:ρ} (w:World) (v0 v1 v2 v3:Value),(∀ k,w.heap.size≤k→A k)→(D a).p A w v0→(D b).p A w v1→(D c).p A w v2→(D d).p A w v3→g a b c d=some r→Calls P f #[v0,v1,v2,v3] w (Ret A w (σ r))
section calls
variable {P:Program} {B0:Nat} {Ω:List Pe} {Γ:Env} {dst:Option Tmp} {ty:TypeId} {pos:String} {aft:Array Edge} {gd:Option (Nat×Bool)} {f:FuncId} {ts:Array TypeId} {x0 x1 x2 x3:Operand} {τ0 τ1 τ2 τ3 σ0 σ1 σ2 σ3:Ty} {α β γ δ ρ:Type} {i:Dat α} {j:Dat β} {k:Dat γ} {l:Dat δ} {a:α} {b:β} {c:γ} {d:δ} {σ:ρ→Ty} {r:ρ}
instance {g:α→Option ρ} [F:Fun P f] [C:Fn1 P f α i ρ g σ] [h0:Has Γ x0 τ0] [k0:AsT τ0 σ0] [d0:ToD σ0 α i a]:OpB P B0 Ω Γ ⟨dst,.call { callee:=.value (.func f),args:=#[x0],argTypes:=ts },ty,pos,aft,gd⟩ ρ (g a) σ:=
 ⟨fun e=>ZaK fun w v0 hA h0=>C.h w v0 hA (toD h0) e⟩
instance {g:α→β→Option ρ} [F:Fun P f] [C:Fn2 P f α i β j ρ g σ] [h0:Has Γ x0 τ0] [k0:AsT τ0 σ0] [d0:ToD σ0 α i a] [h1:Has Γ x1 τ1] [k1:AsT τ1 σ1] [d1:ToD σ1 β j b]:OpB P B0 Ω Γ ⟨dst,.call { callee:=.value (.func f),args:=#[x0,x1],argTypes:=ts },ty,pos,aft,gd⟩ ρ (g a b) σ:=
 ⟨fun e=>ZdI fun w v0 v1 hA h0 h1=>C.h w v0 v1 hA (toD h0) (toD h1) e⟩
instance {g:α→β→γ→Option ρ} [F:Fun P f] [C:Fn3 P f α i β j γ k ρ g σ] [h0:Has Γ x0 τ0] [k0:AsT τ0 σ0] [d0:ToD σ0 α i a] [h1:Has Γ x1 τ1] [k1:AsT τ1 σ1] [d1:ToD σ1 β j b] [h2:Has Γ x2 τ2] [k2:AsT τ2 σ2] [d2:ToD σ2 γ k c]:OpB P B0 Ω Γ ⟨dst,.call { callee:=.value (.func f),args:=#[x0,x1,x2],argTypes:=ts },ty,pos,aft,gd⟩ ρ (g a b c) σ:=
 ⟨fun e=>OpY.call3 fun w v0 v1 v2 hA h0 h1 h2=>C.h w v0 v1 v2 hA (toD h0) (toD h1) (toD h2) e⟩
instance {g:α→β→γ→δ→Option ρ} [F:Fun P f] [C:Fn4 P f α i β j γ k δ l ρ g σ] [h0:Has Γ x0 τ0] [k0:AsT τ0 σ0] [d0:ToD σ0 α i a] [h1:Has Γ x1 τ1] [k1:AsT τ1 σ1] [d1:ToD σ1 β j b] [h2:Has Γ x2 τ2] [k2:AsT τ2 σ2] [d2:ToD σ2 γ k c] [h3:Has Γ x3 τ3] [k3:AsT τ3 σ3] [d3:ToD σ3 δ l d]:OpB P B0 Ω Γ ⟨dst,.call { callee:=.value (.func f),args:=#[x0,x1,x2,x3],argTypes:=ts },ty,pos,aft,gd⟩ ρ (g a b c d) σ:=
 ⟨fun e=>OpY.call4 fun w v0 v1 v2 v3 hA h0 h1 h2 h3=>C.h w v0 v1 v2 v3 hA (toD h0) (toD h1) (toD h2) (toD h3) e⟩
end calls
section st
variable {P:Program} {r:Ref} {B:Nat} {Ωs:List Pe} {ops:Array Oper} {n:Nat} {ms:List Nat} {k:Nat} {Γ Δ:Env} {Ω Ω':List Pe} {F:Fam} {Q:Exit→Act→World→Prop} {K:Env→Fam→Prop}
 {d:Tmp} {op:Op} {ty:TypeId} {pos:String} {aft:Array Edge} {rest:List Oper} {τ σ:Ty} {j:Nat} {want b:Bool} {g:Tmp} {c:Prop} {p:Prop} {x y:Code} {id:Nat} {l:List Oper} {W:Act→World→Prop}
theorem TSA [h:OpA P r.w.heap.size Ω Γ ⟨some d,op,ty,pos,aft,none⟩ τ] (hd:Nat.blt d n=true) (hk:p→TS P r n ops rest (k+1) (Γ.set d τ) Ω Q):p→TS P r n ops (⟨some d,op,ty,pos,aft,none⟩::rest) k Γ Ω Q:=fun H=>ZaH h.h hd (hk H)
theorem TSG (hg:(ops[j]?).bind (·.dst)=some g) [hs:Has Γ (.tmp g) σ] [hb:AsB σ b] (h:Ft (b=want)→OpA P r.w.heap.size Ω Γ ⟨some d,op,ty,pos,aft,some (j,want)⟩ τ) (hd:Nat.blt d n=true) (hk:p→TS P r n ops rest (k+1) (Γ.set d (Zgu (b=want) τ)) Ω Q):p→TS P r n ops (⟨some d,op,ty,pos,aft,some (j,want)⟩::rest) k Γ Ω Q:=
 fun H=>Zmy g hg (fun hg=>(h hg).h) hd (hk H)
theorem TSH (hg:(ops[j]?).bind (·.dst)=some g) [hs:Has Γ (.tmp g) (Zgu c σ)] [hb:AsB σ b] (h:Ft c→Ft (b=want)→OpA P r.w.heap.size Ω Γ ⟨some d,op,ty,pos,aft,some (j,want)⟩ τ) (hd:Nat.blt d n=true) (hk:p→TS P r n ops rest (k+1) (Γ.set d (Zgu (c∧b=want) τ)) Ω Q):p→TS P r n ops (⟨some d,op,ty,pos,aft,some (j,want)⟩::rest) k Γ Ω Q:=
 fun H=>Zmx g hg (fun hp hg=>(h hp hg).h) hd (hk H)
theorem TRA [h:OpA P B Ωs Γ ⟨some d,op,ty,pos,aft,none⟩ τ] (hd:(Nat.blt d n && !ms.contains k && !F.tl.contains d)=true) (hk:p→TRw P B Ωs ops n ms (k+1) rest (Γ.set d τ) F K):p→TRw P B Ωs ops n ms k (⟨some d,op,ty,pos,aft,none⟩::rest) Γ F K:=fun H=>Ze4 h.h hd (hk H)
theorem TRG (hg:(ops[j]?).bind (·.dst)=some g) [hs:Has Γ (.tmp g) σ] [hb:AsB σ b] (h:Ft (b=want)→OpA P B Ωs Γ ⟨some d,op,ty,pos,aft,some (j,want)⟩ τ) (hd:(Nat.blt d n && !ms.contains k && !F.tl.contains d)=true) (hk:p→TRw P B Ωs ops n ms (k+1) rest (Γ.set d (Zgu (b=want) τ)) F K):p→TRw P B Ωs ops n ms k (⟨some d,op,ty,pos,aft,some (j,want)⟩::rest) Γ F K:=
 fun H=>TR.g g hg (fun hg=>(h hg).h) hd (hk H)
theorem TRH (hg:(ops[j]?).bind (·.dst)=some g) [hs:Has Γ (.tmp g) (Zgu c σ)] [hb:AsB σ b] (h:Ft c→Ft (b=want)→OpA P B Ωs Γ ⟨some d,op,ty,pos,aft,some (j,want)⟩ τ) (hd:(Nat.blt d n && !ms.contains k && !F.tl.contains d)=true) (hk:p→TRw P B Ωs ops n ms (k+1) rest (Γ.set d (Zgu (c∧b=want) τ)) F K):p→TRw P B Ωs ops n ms k (⟨some d,op,ty,pos,aft,some (j,want)⟩::rest) Γ F K:=
 fun H=>TR.gg g hg (fun hp hg=>(h hp hg).h) hd (hk H)
section b
variable {α γ:Type} {v:Option α} {f:α→Option γ} {z:γ} {ζ:α→Ty} {G:Bool}
theorem TSB [h:OpB P r.w.heap.size Ω Γ ⟨some d,op,ty,pos,aft,none⟩ α v ζ] (hd:Nat.blt d n=true) (hk:∀ a,FtE v a→f a=some z→TS P r n ops rest (k+1) (Γ.set d (ζ a)) Ω Q):v.bind f=some z→TS P r n ops (⟨some d,op,ty,pos,aft,none⟩::rest) k Γ Ω Q:=fun H=>let ⟨a,e,H⟩:=bnd H;ZaH (h.h e) hd (hk a ⟨e⟩ H)
theorem TSGB [Inhabited α] (hg:(ops[j]?).bind (·.dst)=some g) [hs:Has Γ (.tmp g) σ] [hb:AsB σ b] (h:Ft (b=want)→OpB P r.w.heap.size Ω Γ ⟨some d,op,ty,pos,aft,some (j,want)⟩ α v ζ) (ht:Ft (b=want)→FtT G) (hd:Nat.blt d n=true) (hk:∀ a,FtG v G a→f a=some z→TS P r n ops rest (k+1) (Γ.set d (Zgu (b=want) (ζ a))) Ω Q):(gb G v).bind f=some z→TS P r n ops (⟨some d,op,ty,pos,aft,some (j,want)⟩::rest) k Γ Ω Q:=
 fun H=>let ⟨a,e,H⟩:=bnd H;Zmy g hg (fun hg=>(h hg).h (ZbH e (ht hg).h)) hd (hk a ⟨e⟩ H)
theorem TSHB [Inhabited α] (hg:(ops[j]?).bind (·.dst)=some g) [hs:Has Γ (.tmp g) (Zgu c σ)] [hb:AsB σ b] (h:Ft c→Ft (b=want)→OpB P r.w.heap.size Ω Γ ⟨some d,op,ty,pos,aft,some (j,want)⟩ α v ζ) (ht:Ft c→Ft (b=want)→FtT G) (hd:Nat.blt d n=true) (hk:∀ a,FtG v G a→f a=some z→TS P r n ops rest (k+1) (Γ.set d (Zgu (c∧b=want) (ζ a))) Ω Q):(gb G v).bind f=some z→TS P r n ops (⟨some d,op,ty,pos,aft,some (j,want)⟩::rest) k Γ Ω Q:=
 fun H=>let ⟨a,e,H⟩:=bnd H;Zmx g hg (fun hp hg=>(h hp hg).h (ZbH e (ht hp hg).h)) hd (hk a ⟨e⟩ H)
theorem TRB [h:OpB P B Ωs Γ ⟨some d,op,ty,pos,aft,none⟩ α v ζ] (hd:(Nat.blt d n && !ms.contains k && !F.tl.contains d)=true) (hk:∀ a,FtE v a→f a=some z→TRw P B Ωs ops n ms (k+1) rest (Γ.set d (ζ a)) F K):v.bind f=some z→TRw P B Ωs ops n ms k (⟨some d,op,ty,pos,aft,none⟩::rest) Γ F K:=fun H=>let ⟨a,e,H⟩:=bnd H;Ze4 (h.h e) hd (hk a ⟨e⟩ H)
theorem TRGB [Inhabited α] (hg:(ops[j]?).bind (·.dst)=some g) [hs:Has Γ (.tmp g) σ] [hb:AsB σ b] (h:Ft (b=want)→OpB P B Ωs Γ ⟨some d,op,ty,pos,aft,some (j,want)⟩ α v ζ) (ht:Ft (b=want)→FtT G) (hd:(Nat.blt d n && !ms.contains k && !F.tl.contains d)=true) (hk:∀ a,FtG v G a→f a=some z→TRw P B Ωs ops n ms (k+1) rest (Γ.set d (Zgu (b=want) (ζ a))) F K):(gb G v).bind f=some z→TRw P B Ωs ops n ms k (⟨some d,op,ty,pos,aft,some (j,want)⟩::rest) Γ F K:=
 fun H=>let ⟨a,e,H⟩:=bnd H;TR.g g hg (fun hg=>(h hg).h (ZbH e (ht hg).h)) hd (hk a ⟨e⟩ H)
theorem TRHB [Inhabited α] (hg:(ops[j]?).bind (·.dst)=some g) [hs:Has Γ (.tmp g) (Zgu c σ)] [hb:AsB σ b] (h:Ft c→Ft (b=want)→OpB P B Ωs Γ ⟨some d,op,ty,pos,aft,some (j,want)⟩ α v ζ) (ht:Ft c→Ft (b=want)→FtT G) (hd:(Nat.blt d n && !ms.contains k && !F.tl.contains d)=true) (hk:∀ a,FtG v G a→f a=some z→TRw P B Ωs ops n ms (k+1) rest (Γ.set d (Zgu (c∧b=want) (ζ a))) F K):(gb G v).bind f=some z→TRw P B Ωs ops n ms k (⟨some d,op,ty,pos,aft,some (j,want)⟩::rest) Γ F K:=
 fun H=>let ⟨a,e,H⟩:=bnd H;TR.gg g hg (fun hp hg=>(h hp hg).h (ZbH e (ht hp hg).h)) hd (hk a ⟨e⟩ H)
theorem uSB {a:α} (e:FtE v a) [h:OpB P r.w.heap.size Ω Γ ⟨some d,op,ty,pos,aft,none⟩ α v ζ] (hd:Nat.blt d n=true) (hk:p→TS P r n ops rest (k+1) (Γ.set d (ζ a)) Ω Q):p→TS P r n ops (⟨some d,op,ty,pos,aft,none⟩::rest) k Γ Ω Q:=fun H=>ZaH (h.h e.h) hd (hk H)
theorem uRB {a:α} (e:FtE v a) [h:OpB P B Ωs Γ ⟨some d,op,ty,pos,aft,none⟩ α v ζ] (hd:(Nat.blt d n && !ms.contains k && !F.tl.contains d)=true) (hk:p→TRw P B Ωs ops n ms (k+1) rest (Γ.set d (ζ a)) F K):p→TRw P B Ωs ops n ms k (⟨some d,op,ty,pos,aft,none⟩::rest) Γ F K:=fun H=>Ze4 (h.h e.h) hd (hk H)
theorem uSG [Inhabited α] {a:α} (e:FtG v G a) (hg:(ops[j]?).bind (·.dst)=some g) [hs:Has Γ (.tmp g) σ] [hb:AsB σ b] (h:Ft (b=want)→OpB P r.w.heap.size Ω Γ ⟨some d,op,ty,pos,aft,some (j,want)⟩ α v ζ) (ht:Ft (b=want)→FtT G) (hd:Nat.blt d n=true) (hk:p→TS P r n ops rest (k+1) (Γ.set d (Zgu (b=want) (ζ a))) Ω Q):p→TS P r n ops (⟨some d,op,ty,pos,aft,some (j,want)⟩::rest) k Γ Ω Q:=
 fun H=>Zmy g hg (fun hg=>(h hg).h (ZbH e.h (ht hg).h)) hd (hk H)
theorem uSH [Inhabited α] {a:α} (e:FtG v G a) (hg:(ops[j]?).bind (·.dst)=some g) [hs:Has Γ (.tmp g) (Zgu c σ)] [hb:AsB σ b] (h:Ft c→Ft (b=want)→OpB P r.w.heap.size Ω Γ ⟨some d,op,ty,pos,aft,some (j,want)⟩ α v ζ) (ht:Ft c→Ft (b=want)→FtT G) (hd:Nat.blt d n=true) (hk:p→TS P r n ops rest (k+1) (Γ.set d (Zgu (c∧b=want) (ζ a))) Ω Q):p→TS P r n ops (⟨some d,op,ty,pos,aft,some (j,want)⟩::rest) k Γ Ω Q:=
 fun H=>Zmx g hg (fun hp hg=>(h hp hg).h (ZbH e.h (ht hp hg).h)) hd (hk H)
theorem uRG [Inhabited α] {a:α} (e:FtG v G a) (hg:(ops[j]?).bind (·.dst)=some g) [hs:Has Γ (.tmp g) σ] [hb:AsB σ b] (h:Ft (b=want)→OpB P B Ωs Γ ⟨some d,op,ty,pos,aft,some (j,want)⟩ α v ζ) (ht:Ft (b=want)→FtT G) (hd:(Nat.blt d n && !ms.contains k && !F.tl.contains d)=true) (hk:p→TRw P B Ωs ops n ms (k+1) rest (Γ.set d (Zgu (b=want) (ζ a))) F K):p→TRw P B Ωs ops n ms k (⟨some d,op,ty,pos,aft,some (j,want)⟩::rest) Γ F K:=
 fun H=>TR.g g hg (fun hg=>(h hg).h (ZbH e.h (ht hg).h)) hd (hk H)
theorem uRH [Inhabited α] {a:α} (e:FtG v G a) (hg:(ops[j]?).bind (·.dst)=some g) [hs:Has Γ (.tmp g) (Zgu c σ)] [hb:AsB σ b] (h:Ft c→Ft (b=want)→OpB P B Ωs Γ ⟨some d,op,ty,pos,aft,some (j,want)⟩ α v ζ) (ht:Ft c→Ft (b=want)→FtT G) (hd:(Nat.blt d n && !ms.contains k && !F.tl.contains d)=true) (hk:p→TRw P B Ωs ops n ms (k+1) rest (Γ.set d (Zgu (c∧b=want) (ζ a))) F K):p→TRw P B Ωs ops n ms k (⟨some d,op,ty,pos,aft,some (j,want)⟩::rest) Γ F K:=
 fun H=>TR.gg g hg (fun hp hg=>(h hp hg).h (ZbH e.h (ht hp hg).h)) hd (hk H)
end b
theorem tN (h:p→TC P r n Γ Ω y Q):p→TS P r n ops [] k Γ Ω (Exit.then (y.wpIn (FR r.ρ) 0 P Q) Q):=fun H=>TS.nil (Zae (h H))
theorem tNil (h:p→TE r n Γ Ω Q .normal):p→TS P r n ops [] k Γ Ω Q:=fun H=>TS.nil (h H)
theorem tSq (h:p→TS P r n l.toArray l 0 Γ Ω (Exit.then (y.wpIn (FR r.ρ) 0 P Q) Q)):p→TC P r n Γ Ω (.seq (.region id l.toArray false) y) Q:=fun H=>TC.seqS (h H)
theorem tRg (h:p→TS P r n l.toArray l 0 Γ Ω Q):p→TC P r n Γ Ω (.region id l.toArray false) Q:=fun H=>TC.regionS (h H)
theorem tDq (hm:P.follows .mixedOrders=true) [op:Opens r] (hB:Region.lexB .any l.toArray=true) (h:p→TRw P r.w.heap.size Ω l.toArray n [] 0 l Γ (Fam.one []) fun Γ' _=>TC P r n Γ' Ω y Q):p→TC P r n Γ Ω (.seq (.region id l.toArray true) y) Q:=fun H=>TC.seqD0 hm hB (h H)
theorem tSeq (h:p→TC P r n Γ Ω x (Exit.then (y.wpIn (FR r.ρ) 0 P Q) Q)):p→TC P r n Γ Ω (.seq x y) Q:=fun H=>Zas (h H)
theorem tThen (h:p→TC P r n Γ Ω y Q):p→TE r n Γ Ω (Exit.then (y.wpIn (FR r.ρ) 0 P Q) Q) .normal:=fun H=>Zae (h H)
theorem tSkip (h:p→TE r n Γ Ω Q .normal):p→TC P r n Γ Ω .skip Q:=fun H=>Zat (h H)
theorem tRet (h:p→TE r n Γ Ω Q .ret):p→TC P r n Γ Ω .ret Q:=fun H=>ZM (h H)
theorem tRt (h:p→TE r n Γ Ω Q .ret):p→TE r n Γ Ω (Exit.then W Q) .ret:=fun H=>Zg (h H)
theorem tRi (h:p→TE r n Γ Ω Q .ret):p→TE r n Γ Ω (Exit.inBlock id Q) .ret:=fun H=>Zf (h H)
theorem tNi (h:p→TE r n Γ Ω Q .normal):p→TE r n Γ Ω (Exit.inBlock id Q) .normal:=fun H=>ZeS (h H)
theorem tBk (h:p→TC P r n Γ Ω y (Exit.inBlock id Q)):p→TC P r n Γ Ω (.block id y) Q:=fun H=>Zp (h H)
theorem tRn (h:p→K Γ F):p→TRw P B Ωs ops n ms k [] Γ F K:=fun H=>TR.nil (h H)
theorem tXt (h:p→TE r n Γ Ω Q (.exit id)):p→TE r n Γ Ω (Exit.then W Q) (.exit id):=fun H=>Zim (h H)
theorem tEx (h:p→TE r n Γ Ω Q (.exit id)):p→TC P r n Γ Ω (.exit id) Q:=fun H=>TC.exit (h H)
theorem tXe {σ ν:Type} {pp:σ→Prop} {Δ:σ→ν→Env} {J:σ→ν→List Pe} (h:p→TE r n Γ Ω Q (.exit id)):p→TE r n Γ Ω (CutQ r n pp Δ J Q) (.exit id):=fun H=>TE.cut_exit (h H)
theorem tCr {σ ν:Type} {pp:σ→Prop} {Δ:σ→ν→Env} {J:σ→ν→List Pe} (h:p→TE r n Γ Ω Q .ret):p→TE r n Γ Ω (CutQ r n pp Δ J Q) .ret:=fun H=>Zs (h H)
theorem tXh (h:p→TE r n Γ Ω Q .normal):p→TE r n Γ Ω (Exit.inBlock id Q) (.exit id):=fun H=>Zin (h H)
theorem tXo {id':Nat} (hne:(id' == id)=false) (h:p→TE r n Γ Ω Q (.exit id')):p→TE r n Γ Ω (Exit.inBlock id Q) (.exit id'):=fun H=>Zlp hne (h H)
theorem TSW [op:Opens r] {t:TypeId} {v x:Operand} {α:Type} {i:Dat α} {bl o:Nat} {pr:Prop} {C:Ct} {Ωr:List Pe} {u y:α} {upd:α→Ct} [hp:Has Γ v τ] [q:AsPq τ bl o pr] [pk:Pick Ω bl pr C Ωr] [hx:Has Γ x σ] [T:TDat P t α i] [hy:ToD σ α i y] [pl:PlO C o α i u upd]
  (hk:p→TS P r n ops rest (k+1) Γ (⟨bl,pr,upd y⟩::Ωr) Q):p→TS P r n ops (⟨none,.store t v x,ty,pos,aft,none⟩::rest) k Γ Ω Q:=fun H=>Za0 (Zy pl.h) (hk H)
theorem tBox [op:Opens r] {t:TypeId} {x:Operand} {α:Type} {i:Dat α} {y:α} [T:TDat P t α i] [hx:Has Γ x τ] [hy:ToD τ α i y] (hd:Nat.blt d n=true) (hk:∀ b,p→TS P r n ops rest (k+1) (Γ.set d (Pt b 0)) (⟨b,True,One y⟩::Ω) Q):p→TS P r n ops (⟨some d,.box t x,ty,pos,aft,none⟩::rest) k Γ Ω Q:=fun H=>TS.box hd fun b=>hk b H
theorem tAl [op:Opens r] {t:TypeId} {α:Type} {i:Dat α} {bt:Nat} [T:TEl P t α i bt] (hd:Nat.blt d n=true) (hk:∀ b,p→TS P r n ops rest (k+1) (Γ.set d (Pt b 0)) (⟨b,True,One (Dat.z:α)⟩::Ω) Q):p→TS P r n ops (⟨some d,.alloc t,ty,pos,aft,none⟩::rest) k Γ Ω Q:=fun H=>TS.alloc hd fun b=>hk b H
theorem gS {o:Oper} (h:p→TS P r n ops (o::rest) k Γ Ω Q):p→TS P r n ops (o::rest) k Γ Ω Q:=h
theorem gR {o:Oper} (h:p→TRw P B Ωs ops n ms k (o::rest) Γ F K):p→TRw P B Ωs ops n ms k (o::rest) Γ F K:=h
theorem gD (h:p→TC P r n Γ Ω (.seq (.region id l.toArray true) y) Q):p→TC P r n Γ Ω (.seq (.region id l.toArray true) y) Q:=h
theorem gE {e:Exit} (h:p→TE r n Γ Ω Q e):p→TE r n Γ Ω Q e:=h
theorem bS {α β:Type} {a:α} {f:α→Option β} {z:β} (k:f a=some z→p):(some a).bind f=some z→p:=k
theorem cI {o:Operand} {α:Type} {u v:Option α} {z:α} [hc:Has Γ o τ] [hb:AsB τ b] (h1:b=true→u=some z→TC P r n Γ Ω x Q) (h2:b=false→v=some z→TC P r n Γ Ω y Q):(bif b then u else v)=some z→TC P r n Γ Ω (.cond o x y) Q:=
 fun H=>Zfu (fun hc=>h1 hc (cT H hc)) fun hc=>h2 hc (cF H hc)
class CvL (τs σs:List Ty):Prop where
 h:LeAll τs σs
instance :CvL [] []:=⟨.nil⟩
instance {τ σ:Ty} {τs σs:List Ty} [c:Cv τ σ] [k:CvL τs σs]:CvL (τ::τs) (σ::σs):=⟨.cons c.le k.h⟩
end st
abbrev Fd1 (f:FuncId) {α ρ:Type} [i:Dat α] (g:α→Option ρ) (σ:ρ→Ty):Prop:=Fn1 Tryz.prog f α i ρ g σ
abbrev Fd2 (f:FuncId) {α β ρ:Type} [i:Dat α] [j:Dat β] (g:α→β→Option ρ) (σ:ρ→Ty):Prop:=Fn2 Tryz.prog f α i β j ρ g σ
abbrev Fd3 (f:FuncId) {α β γ ρ:Type} [i:Dat α] [j:Dat β] [k:Dat γ] (g:α→β→γ→Option ρ) (σ:ρ→Ty):Prop:=Fn3 Tryz.prog f α i β j γ k ρ g σ
abbrev Fd4 (f:FuncId) {α β γ δ ρ:Type} [i:Dat α] [j:Dat β] [k:Dat γ] [l:Dat δ] (g:α→β→γ→δ→Option ρ) (σ:ρ→Ty):Prop:=Fn4 Tryz.prog f α i β j γ k δ l ρ g σ
section en
variable {f:FuncId} {fn:Func} {n:Nat} {c:Code} {α β γ δ ρ:Type} [i:Dat α] [j:Dat β] [k:Dat γ] [l:Dat δ] {σ:ρ→Ty}
theorem en1 {g:α→Option ρ} (hf:Tryz.prog.funcs[f]?=some fn) (hb:fn.body=some c) (hn:fn.ntmps=n)
 (h:∀ (A:Nat→Prop) (w:World) (hA:∀ k,w.heap.size≤k→A k) (a:α) (r:ρ),g a=some r→TC Tryz.prog (ZiV A w hA) n (Env.set Env.nil 0 (D a)) [] c (bodyPost Tryz.prog fn (Ret A w (σ r)))) (hl:Nat.ble 1 n=true:=by rfl):Fd1 f g σ:=
 ⟨fun w v0 hA h0 H=>enter1 hA hf hb hn hl h0 (h _ w hA _ _ H)⟩
theorem en2 {g:α→β→Option ρ} (hf:Tryz.prog.funcs[f]?=some fn) (hb:fn.body=some c) (hn:fn.ntmps=n)
 (h:∀ (A:Nat→Prop) (w:World) (hA:∀ k,w.heap.size≤k→A k) (a:α) (b:β) (r:ρ),g a b=some r→TC Tryz.prog (ZiV A w hA) n (Env.set (Env.set Env.nil 0 (D a)) 1 (D b)) [] c (bodyPost Tryz.prog fn (Ret A w (σ r)))) (hl:Nat.ble 2 n=true:=by rfl):Fd2 f g σ:=
 ⟨fun w v0 v1 hA h0 h1 H=>enter2 hA hf hb hn hl h0 h1 (h _ w hA _ _ _ H)⟩
theorem en3 {g:α→β→γ→Option ρ} (hf:Tryz.prog.funcs[f]?=some fn) (hb:fn.body=some c) (hn:fn.ntmps=n)
 (h:∀ (A:Nat→Prop) (w:World) (hA:∀ k,w.heap.size≤k→A k) (a:α) (b:β) (c0:γ) (r:ρ),g a b c0=some r→TC Tryz.prog (ZiV A w hA) n (Env.set (Env.set (Env.set Env.nil 0 (D a)) 1 (D b)) 2 (D c0)) [] c (bodyPost Tryz.prog fn (Ret A w (σ r)))) (hl:Nat.ble 3 n=true:=by rfl):Fd3 f g σ:=
 ⟨fun w v0 v1 v2 hA h0 h1 h2 H=>enter3 hA hf hb hn hl h0 h1 h2 (h _ w hA _ _ _ _ H)⟩
theorem en4 {g:α→β→γ→δ→Option ρ} (hf:Tryz.prog.funcs[f]?=some fn) (hb:fn.body=some c) (hn:fn.ntmps=n)
 (h:∀ (A:Nat→Prop) (w:World) (hA:∀ k,w.heap.size≤k→A k) (a:α) (b:β) (c0:γ) (d:δ) (r:ρ),g a b c0 d=some r→TC Tryz.prog (ZiV A w hA) n (Env.set (Env.set (Env.set (Env.set Env.nil 0 (D a)) 1 (D b)) 2 (D c0)) 3 (D d)) [] c (bodyPost Tryz.prog fn (Ret A w (σ r)))) (hl:Nat.ble 4 n=true:=by rfl):Fd4 f g σ:=
 ⟨fun w v0 v1 v2 v3 hA h0 h1 h2 h3 H=>enter4 hA hf hb hn hl h0 h1 h2 h3 (h _ w hA _ _ _ _ _ H)⟩
end en
theorem zY {p q:Prop} (H:p) (h:p→q:=by
 repeat' (first
  | ((with_reducible refine gS ?_);(first | refine TSA rfl ?_ | refine TSB rfl fun _ _=>?_ | refine TSG rfl (fun _=>inferInstance) rfl ?_ | refine TSGB rfl (fun _=>inferInstance) (fun _=>inferInstance) rfl fun _ _=>?_ | refine TSH rfl (fun _ _=>inferInstance) rfl ?_ | refine TSH rfl (fun h _=>haveI:=Ft.l h;haveI:=Ft.r h;inferInstance) rfl ?_ | refine TSHB rfl (fun _ _=>inferInstance) (fun _ _=>inferInstance) rfl fun _ _=>?_ | refine TSW ?_ | refine tBox rfl fun _=>?_ | refine tAl rfl fun _=>?_))
  | with_reducible refine tN ?_
  | with_reducible refine tSq ?_
  | with_reducible refine bS ?_
  | with_reducible refine cI (fun _=>?_) (fun _=>?_)
  | ((with_reducible refine gD ?_);refine tDq mix (by kernel_rfl) ?_)
  | with_reducible refine tSeq ?_
  | with_reducible refine tThen ?_
  | with_reducible refine tSkip ?_
  | with_reducible refine tRet ?_
  | with_reducible refine tRt ?_
  | with_reducible refine tRi ?_
  | with_reducible refine tNi ?_
  | with_reducible refine tBk ?_
  | ((with_reducible refine gR ?_);(first | refine TRA rfl ?_ | refine TRB rfl fun _ _=>?_ | refine TRG rfl (fun _=>inferInstance) rfl ?_ | refine TRGB rfl (fun _=>inferInstance) (fun _=>inferInstance) rfl fun _ _=>?_ | refine TRH rfl (fun _ _=>inferInstance) rfl ?_ | refine TRHB rfl (fun _ _=>inferInstance) (fun _ _=>inferInstance) rfl fun _ _=>?_))
  | with_reducible refine tRn ?_
  | with_reducible refine tNil ?_
  | with_reducible refine tRg ?_
  | ((with_reducible refine gE ?_);intro h;obtain rfl:=ZZi h;first | exact ZbJ rfl Cv.le | exact ZeR rfl rfl CvL.h))):q:=h H
theorem zg {m q:Prop} (k:q) (h:q→True→m:=by
 intro k
 repeat (first
  | ((with_reducible refine gS ?_);(first | refine TSA rfl ?_ | refine TSG rfl (fun _=>inferInstance) rfl ?_ | refine TSH rfl (fun _ _=>inferInstance) rfl ?_ | refine TSH rfl (fun h _=>haveI:=Ft.l h;haveI:=Ft.r h;inferInstance) rfl ?_ | refine TSW ?_))
  | with_reducible refine tN ?_
  | with_reducible refine tSq ?_
  | ((with_reducible refine gD ?_);refine tDq mix (by kernel_rfl) ?_)
  | with_reducible refine tSeq ?_
  | with_reducible refine tThen ?_
  | with_reducible refine tSkip ?_
  | with_reducible refine tRet ?_
  | with_reducible refine tRt ?_
  | with_reducible refine tRi ?_
  | with_reducible refine tNi ?_
  | with_reducible refine tBk ?_
  | ((with_reducible refine gR ?_);(first | refine TRA rfl ?_ | refine TRG rfl (fun _=>inferInstance) rfl ?_ | refine TRH rfl (fun _ _=>inferInstance) rfl ?_))
  | with_reducible refine tRn ?_
  | with_reducible refine tNil ?_
  | with_reducible refine tRg ?_
  | with_reducible refine tXt ?_
  | with_reducible refine tXe ?_
  | with_reducible refine tCr ?_
  | with_reducible refine tEx ?_
  | with_reducible refine tXh ?_
  | (with_reducible refine tXo rfl ?_))
 exact fun _=>k):m:=h k trivial
theorem zX {m p q:Prop} (f:m→p) (k:q) (h:q→True→m:=by
 intro k
 repeat (first
  | ((with_reducible refine gS ?_);(first | refine TSA rfl ?_ | refine TSG rfl (fun _=>inferInstance) rfl ?_ | refine TSH rfl (fun _ _=>inferInstance) rfl ?_ | refine TSH rfl (fun h _=>haveI:=Ft.l h;haveI:=Ft.r h;inferInstance) rfl ?_ | refine TSW ?_))
  | with_reducible refine tN ?_
  | with_reducible refine tSq ?_
  | ((with_reducible refine gD ?_);refine tDq mix (by kernel_rfl) ?_)
  | with_reducible refine tSeq ?_
  | with_reducible refine tThen ?_
  | with_reducible refine tSkip ?_
  | with_reducible refine tRet ?_
  | with_reducible refine tRt ?_
  | with_reducible refine tRi ?_
  | with_reducible refine tNi ?_
  | with_reducible refine tBk ?_
  | ((with_reducible refine gR ?_);(first | refine TRA rfl ?_ | refine TRG rfl (fun _=>inferInstance) rfl ?_ | refine TRH rfl (fun _ _=>inferInstance) rfl ?_))
  | with_reducible refine tRn ?_
  | with_reducible refine tNil ?_
  | with_reducible refine tRg ?_
  | with_reducible refine tXt ?_
  | with_reducible refine tXe ?_
  | with_reducible refine tCr ?_
  | with_reducible refine tEx ?_
  | with_reducible refine tXh ?_
  | (with_reducible refine tXo rfl ?_))
 exact fun _=>k):p:=f (h k trivial)
theorem zb {α β:Type} {x:Option α} {f:α→Option β} {z:β} {p:Prop} {q:α→Prop} (H:x.bind f=some z) (k:∀ a,FtE x a→f a=some z→q a) (h:∀ a,FtE x a→q a→True→p:=by
 intro a e k
 (first | refine uSB e rfl ?_ | refine uRB e rfl ?_)
 repeat (first
  | ((with_reducible refine gS ?_);(first | refine TSA rfl ?_ | refine TSG rfl (fun _=>inferInstance) rfl ?_ | refine TSH rfl (fun _ _=>inferInstance) rfl ?_ | refine TSH rfl (fun h _=>haveI:=Ft.l h;haveI:=Ft.r h;inferInstance) rfl ?_ | refine TSW ?_))
  | with_reducible refine tN ?_
  | with_reducible refine tSq ?_
  | ((with_reducible refine gD ?_);refine tDq mix (by kernel_rfl) ?_)
  | with_reducible refine tSeq ?_
  | with_reducible refine tThen ?_
  | with_reducible refine tSkip ?_
  | with_reducible refine tRet ?_
  | with_reducible refine tRt ?_
  | with_reducible refine tRi ?_
  | with_reducible refine tNi ?_
  | with_reducible refine tBk ?_
  | ((with_reducible refine gR ?_);(first | refine TRA rfl ?_ | refine TRG rfl (fun _=>inferInstance) rfl ?_ | refine TRH rfl (fun _ _=>inferInstance) rfl ?_))
  | with_reducible refine tRn ?_
  | with_reducible refine tNil ?_
  | with_reducible refine tRg ?_
  | with_reducible refine tXt ?_
  | with_reducible refine tXe ?_
  | with_reducible refine tCr ?_
  | with_reducible refine tEx ?_
  | with_reducible refine tXh ?_
  | (with_reducible refine tXo rfl ?_))
 exact fun _=>k):p:=let ⟨a,e,H⟩:=bnd H;h a ⟨e⟩ (k a ⟨e⟩ H) trivial
theorem zd {α β:Type} [Inhabited α] {g:Bool} {x:Option α} {f:α→Option β} {z:β} {p:Prop} {q:α→Prop} (H:(gb g x).bind f=some z) (k:∀ a,FtG x g a→f a=some z→q a) (h:∀ a,FtG x g a→q a→True→p:=by
 intro a e k
 (first | refine uSG e rfl (fun _=>inferInstance) (fun _=>inferInstance) rfl ?_ | refine uRG e rfl (fun _=>inferInstance) (fun _=>inferInstance) rfl ?_ | refine uSH e rfl (fun _ _=>inferInstance) (fun _ _=>inferInstance) rfl ?_ | refine uRH e rfl (fun _ _=>inferInstance) (fun _ _=>inferInstance) rfl ?_)
 repeat (first
  | ((with_reducible refine gS ?_);(first | refine TSA rfl ?_ | refine TSG rfl (fun _=>inferInstance) rfl ?_ | refine TSH rfl (fun _ _=>inferInstance) rfl ?_ | refine TSH rfl (fun h _=>haveI:=Ft.l h;haveI:=Ft.r h;inferInstance) rfl ?_ | refine TSW ?_))
  | with_reducible refine tN ?_
  | with_reducible refine tSq ?_
  | ((with_reducible refine gD ?_);refine tDq mix (by kernel_rfl) ?_)
  | with_reducible refine tSeq ?_
  | with_reducible refine tThen ?_
  | with_reducible refine tSkip ?_
  | with_reducible refine tRet ?_
  | with_reducible refine tRt ?_
  | with_reducible refine tRi ?_
  | with_reducible refine tNi ?_
  | with_reducible refine tBk ?_
  | ((with_reducible refine gR ?_);(first | refine TRA rfl ?_ | refine TRG rfl (fun _=>inferInstance) rfl ?_ | refine TRH rfl (fun _ _=>inferInstance) rfl ?_))
  | with_reducible refine tRn ?_
  | with_reducible refine tNil ?_
  | with_reducible refine tRg ?_
  | with_reducible refine tXt ?_
  | with_reducible refine tXe ?_
  | with_reducible refine tCr ?_
  | with_reducible refine tEx ?_
  | with_reducible refine tXh ?_
  | (with_reducible refine tXo rfl ?_))
 exact fun _=>k):p:=let ⟨a,e,H⟩:=bnd H;h a ⟨e⟩ (k a ⟨e⟩ H) trivial
theorem zo {α β:Type} {x:Option α} {f:α→Option β} {z:β} {p:Prop} {q:α→Prop} (H:x.bind f=some z) (k:∀ a,FtE x a→f a=some z→q a) (h:∀ a,FtE x a→q a→True→p:=by
 intro a e k
 (first | refine uSB e rfl ?_ | refine uRB e rfl ?_)
 exact fun _=>k):p:=let ⟨a,e,H⟩:=bnd H;h a ⟨e⟩ (k a ⟨e⟩ H) trivial
theorem zh {α β:Type} {x:Option α} {f:α→Option β} {z:β} {p:Prop} (H:x.bind f=some z) (k:∀ a,x=some a→f a=some z→p):p:=let ⟨a,e,H⟩:=bnd H;k a e H
theorem zn {α β:Type} {x:Option α} {f:α→Option β} {z:β} {p:Prop} (H:x.bind f=some z) (k:∀ a,FtE x a→f a=some z→p):p:=let ⟨a,e,H⟩:=bnd H;k a ⟨e⟩ H
theorem zm {α β:Type} [Inhabited α] {g:Bool} {x:Option α} {f:α→Option β} {z:β} {p:Prop} (H:(gb g x).bind f=some z) (k:∀ a,FtG x g a→f a=some z→p):p:=let ⟨a,e,H⟩:=bnd H;k a ⟨e⟩ H
theorem zc {P:Program} {r:Ref} {n:Nat} {Γ:Env} {Ω:List Pe} {Q:Exit→Act→World→Prop} {o:Operand} {x y:Code} {τ:Ty} {b:Bool} {α:Type} {u v:Option α} {z:α} (H:(bif b then u else v)=some z) [hc:Has Γ o τ] [hb:AsB τ b] (k1:b=true→u=some z→TC P r n Γ Ω x Q) (k2:b=false→v=some z→TC P r n Γ Ω y Q):TC P r n Γ Ω (.cond o x y) Q:=Zfu (fun hc=>k1 hc (cT H hc)) fun hc=>k2 hc (cF H hc)
theorem zC {m q:Prop} (k:q) (h:q→True→m:=by
 intro k
 repeat (first
  | with_reducible refine tSq ?_
  | ((with_reducible refine gD ?_);refine tDq mix (by kernel_rfl) ?_)
  | with_reducible refine tRg ?_
  | with_reducible refine tSeq ?_
  | with_reducible refine tThen ?_
  | with_reducible refine tSkip ?_
  | with_reducible refine tNi ?_
  | with_reducible refine tBk ?_)
 repeat (first
  | ((with_reducible refine gS ?_);(first | refine TSA rfl ?_ | refine TSG rfl (fun _=>inferInstance) rfl ?_ | refine TSH rfl (fun _ _=>inferInstance) rfl ?_ | refine TSH rfl (fun h _=>haveI:=Ft.l h;haveI:=Ft.r h;inferInstance) rfl ?_ | refine TSW ?_))
  | ((with_reducible refine gR ?_);(first | refine TRA rfl ?_ | refine TRG rfl (fun _=>inferInstance) rfl ?_ | refine TRH rfl (fun _ _=>inferInstance) rfl ?_)))
 (first | with_reducible refine tN ?_ | with_reducible refine tRn ?_)
 exact fun _=>k):m:=h k trivial
theorem zE {m q:Prop} (k:q) (h:q→True→m:=by
 intro k
 repeat (first
  | with_reducible refine tSq ?_
  | ((with_reducible refine gD ?_);refine tDq mix (by kernel_rfl) ?_)
  | with_reducible refine tRg ?_
  | with_reducible refine tSeq ?_
  | with_reducible refine tThen ?_
  | with_reducible refine tSkip ?_
  | with_reducible refine tNi ?_
  | with_reducible refine tBk ?_)
 repeat (first
  | ((with_reducible refine gS ?_);(first | refine TSA rfl ?_ | refine TSG rfl (fun _=>inferInstance) rfl ?_ | refine TSH rfl (fun _ _=>inferInstance) rfl ?_ | refine TSH rfl (fun h _=>haveI:=Ft.l h;haveI:=Ft.r h;inferInstance) rfl ?_ | refine TSW ?_))
  | ((with_reducible refine gR ?_);(first | refine TRA rfl ?_ | refine TRG rfl (fun _=>inferInstance) rfl ?_ | refine TRH rfl (fun _ _=>inferInstance) rfl ?_)))
 with_reducible refine tNil ?_
 exact fun _=>k):m:=h k trivial
end Go.Proofs.YtkmojgfenlgchaaGreatDoor.Tr
namespace Go.Proofs.YtkmojgfenlgchaaGreatDoor.Tr
open Go
section cz
variable {P:Program} {r:Ref} {B:Nat} {Ωs:List Pe} {ops:Array Oper} {n:Nat} {ms:List Nat} {k:Nat} {Γ Δ:Env} {Ω Ω':List Pe} {F:Fam} {Q:Exit→Act→World→Prop} {K:Env→Fam→Prop}
 {d:Tmp} {op:Op} {ty:TypeId} {pos:String} {aft:Array Edge} {rest:List Oper} {τ σ:Ty} {x:Operand}
theorem TSx (h:∀ {A:Nat→Prop},OpY P r.w.heap.size A Ω Γ ⟨some d,op,ty,pos,aft,none⟩ τ) (hk:TS P r n ops rest (k+1) (Γ.set d τ) Ω Q) (hd:Nat.blt d n=true:=by rfl):TS P r n ops (⟨some d,op,ty,pos,aft,none⟩::rest) k Γ Ω Q:=ZaH h hd hk
theorem TSm [Has Γ x τ] [AsT τ σ] (hk:TS P r n ops rest (k+1) (Γ.set d σ) Ω Q) (hd:Nat.blt d n=true:=by rfl):TS P r n ops (⟨some d,.move x,ty,pos,aft,none⟩::rest) k Γ Ω Q:=ZaH Zeq hd hk
theorem TSa [Has Γ x τ] [AsT τ σ] (hk:TS P r n ops rest (k+1) (Γ.set d σ) Ω Q) (hd:Nat.blt d n=true:=by rfl):TS P r n ops (⟨some d,.assign x,ty,pos,aft,none⟩::rest) k Γ Ω Q:=ZaH Zd5 hd hk
theorem TRx (h:∀ {A:Nat→Prop},OpY P B A Ωs Γ ⟨some d,op,ty,pos,aft,none⟩ τ) (hk:TRw P B Ωs ops n ms (k+1) rest (Γ.set d τ) F K) (hd:(Nat.blt d n && !ms.contains k && !F.tl.contains d)=true:=by rfl):TRw P B Ωs ops n ms k (⟨some d,op,ty,pos,aft,none⟩::rest) Γ F K:=Ze4 h hd hk
theorem TRm [Has Γ x τ] [AsT τ σ] (hk:TRw P B Ωs ops n ms (k+1) rest (Γ.set d σ) F K) (hd:(Nat.blt d n && !ms.contains k && !F.tl.contains d)=true:=by rfl):TRw P B Ωs ops n ms k (⟨some d,.move x,ty,pos,aft,none⟩::rest) Γ F K:=Ze4 Zeq hd hk
theorem PF (off:Nat) (α β:Type) {i:Dat α} {j:Dat β} {C:Ct} {o:Nat} {get:α→β} {set:β→α→α} {x:α} {upd:α→Ct} (h:Pl C o α i x upd) [L:Fld α i off β j get set]:Pl C (o+off) β j (get x) fun y=>upd (set y x):=h.fld
end cz
end Go.Proofs.YtkmojgfenlgchaaGreatDoor.Tr
namespace Go.Proofs.YtkmojgfenlgchaaGreatDoor.Tr
open Go Go.RowKit
set_option maxRecDepth 100000
set_option synthInstance.maxHeartbeats 400000
set_option synthInstance.maxSize 4096
def ZfY (size0:Int):Option Bool:=
 some ((decide (size0≥(24:Int)))&&(decide (size0≤(256:Int))))
instance page_fits_c:Fd1 101 ZfY fun r=>D r:=en1 Tryz.func101 rfl Tryz.ntmps101 fun _ _ _ _ _ H=>by
 unfold ZfY at H;exact zY H
def Zdb (size0:Int):Option Int:=
 (ZfY size0).bind fun x_1=>bif (!x_1) then (some (0:Int)) else ((Zgf size0 16).bind fun x_2=>some x_2)
instance page_Room_c:Fd1 54 Zdb fun r=>D r:=en1 Tryz.func54 rfl Tryz.ntmps54 fun _ _ _ _ _ H=>by
 unfold Zdb at H;exact zY H
def ZiC (p0:Page) (size0:Int):Option Bool:=
 (ZfY size0).bind fun x_2=>(gb ((((x_2&&((decide (p0.Kind=(1:Int)))||(decide (p0.Kind=(2:Int)))))&&(decide (p0.Id≥(0:Int))))&&(decide (p0.Id<(64:Int))))&&(decide (p0.Gen<(UInt64.ofNat 281474976710656)))) (Zdb size0)).bind fun x_3=>some (((((x_2&&((decide (p0.Kind=(1:Int)))||(decide (p0.Kind=(2:Int)))))&&(decide (p0.Id≥(0:Int))))&&(decide (p0.Id<(64:Int))))&&(decide (p0.Gen<(UInt64.ofNat 281474976710656))))&&(decide ((p0.Body.length:Int)≤x_3)))
instance page_May_c:Fd2 155 ZiC fun r=>D r:=en2 Tryz.func155 rfl Tryz.ntmps155 fun A w hA p0 size0 r H=>by
 unfold ZiC at H;refine zg ?_;refine TS.box rfl fun b2_0=>zg ?_
 refine zb H fun _ _ H=>?_
 refine TR.g 27 rfl (fun hg=>OpY.lss64) rfl ?_;exact zY H
def ZgK (n0:UInt64) (many0:Int) (l_3:(List UInt8)) (x_6:Int) (bx_7:(List UInt8)):Option ((Int×(List UInt8))⊕(List UInt8)):=
 bif (decide (x_6<(l_3.length:Int))) then ((Zgf many0 1).bind fun x_9=>(Zgf x_9 x_6).bind fun x_10=>(mulI (8:Int) x_6).bind fun x_11=>(cnt x_11).bind fun n_12=>(idx bx_7 x_10).bind fun x_13=>(some ((bx_7.set (Int.toNat x_10) ((shr64 n0 x_11).toUInt8)):(List UInt8))).bind fun l_14=>(ZaA x_6 1).bind fun x_15=>some (.inl (x_15,l_14))) else (some (.inr bx_7))
def Zjf (n0:UInt64) (many0:Int):Option (List UInt8):=
 bif ((decide (many0<(1:Int)))||(decide (many0>(8:Int)))) then (some ([]:List UInt8)) else ((Zfk 1 many0).bind fun u_1=>(some ((List.replicate (Int.toNat many0) (Dat.z:UInt8)):(List UInt8))).bind fun l_3=>(ZR (fun s=>ZgK n0 many0 l_3 s.1 s.2) ((0:Int),l_3)).bind fun bx_4=>some bx_4)
instance sum_Put_c:Fd2 166 Zjf fun r=>D r:=en2 Tryz.func166 rfl Tryz.ntmps166 fun A w hA n0 many0 r H=>by
 unfold Zjf at H;refine zg ?_;refine zc H (fun hc H=>?_) fun hc H=>?_
 ·exact zY H
 ·refine zg ?_;refine zn H fun _ eu_1 H=>?_
  refine Zf7 eu_1.h ⟨(Za9 eu_1.h).1,Int.le_refl _⟩ rfl fun b14_1=>?_
  refine zC ?_;refine zn H fun l_3 el_3 H=>?_
  refine ZB b14_1 (Zaa el_3.h) ?_;refine zX (Zcu 5 _ (ZaT el_3.h (by simp))) ?_;refine TSx (Zai (n:=l_3.length) rfl) ?_;refine zC ?_;refine zh H fun o_5 H5 H=>?_
  refine Zo (fun s:(List UInt8)=>o_5=s) (fun (bx_4:(List UInt8)) (_:Unit)=>(Env.set Env.nil 5 (Sl b14_1 True 0 bx_4.length (Int.toNat many0)))) (fun (bx_4:(List UInt8)) (_:Unit)=>[⟨b14_1,True,(Row (bx_4:List UInt8) (Int.toNat many0))⟩]) ?_ ?_
  ·skip;refine Zp<|Zt H5 (fun ⟨x_6,bx_7⟩ (_:Unit)=>(Env.set (Env.set (Env.set (Env.set (Env.set Env.nil 0 (D n0)) 1 (D many0)) 5 (Sl b14_1 True 0 bx_7.length (Int.toNat many0))) 16 (D ((l_3.length:Int):Int))) 17 (D x_6))) (fun ⟨x_6,bx_7⟩ (_:Unit)=>[⟨b14_1,True,(Row (bx_7:List UInt8) (Int.toNat many0))⟩]) () (Za (Za (Zj (ZD rfl) (Za (Za (Zc _)))))) (Zb rfl (Zd _)) ?_;rintro ⟨x_6,bx_7⟩ ⟨⟩ x_8 H8 he8;replace H8:ZgK n0 many0 l_3 x_6 bx_7=some x_8:=H8;unfold ZgK at H8;refine zg ?_;refine zc H8 (fun hc H8=>?_) fun hc H8=>?_
   ·refine zg ?_;refine zb H8 fun _ _ H8=>?_
    refine zb H8 fun _ _ H8=>?_
    refine zb H8 fun _ _ H8=>?_
    refine zn H8 fun _ en_12 H8=>?_
    refine TSx (OpD.shr64 (cnt_some en_12.h).1)<|TSx OpY.conv64_8 ?_;refine zn H8 fun _ ex_13 H8=>?_
    refine TSx (Zn (ZH ex_13.h rfl)) ?_;refine zE ?_;refine zn H8 fun l_14 el_14 H8=>?_
    refine Zah b14_1 (Zaa el_14.h) ?_;refine zX (ZcJ 5 _ (ZaT el_14.h (by simp))) ?_;refine zb H8 fun x_15 _ H8=>?_
    exact Zq ⟨x_15,l_14⟩ () (ZZs H8) (Za (Za (Zj (ZD rfl) (Za (Za (Zc _)))))) (Zb rfl (Zd _))
   ·refine zg ?_;exact Zi bx_7 () (he8 _ (ZZs H8)).symm (Zj (ZD rfl) (Zc _)) (Zb rfl (Zd _))
  rintro bx_4 ⟨⟩ hp;replace hp:=hp.symm;subst hp;refine zC ?_;refine ZM<|TE.pub b14_1 (PubE.set 4 (ZE PlS.all rfl) PubE.refl) ?_;exact zY H
def ZhY (n_9:UInt32) (x_10:Int):Option ((UInt32×Int)⊕UInt32):=
 bif (decide (x_10<(8:Int))) then ((some ((n_9 &&& (UInt32.ofNat 1)):UInt32)).bind fun odd_12=>(some ((shr32 n_9 ((UInt64.ofNat 1).toNat:Int)):UInt32)).bind fun n_13=>(some ((n_13 ^^^ ((UInt32.ofNat 3988292384)*odd_12)):UInt32)).bind fun n_14=>(ZaA x_10 1).bind fun x_15=>some (.inl (n_14,x_15))) else (some (.inr n_9))
def ZhZ (b0:(List UInt8)) (n_3:UInt32) (x_4:Int):Option ((UInt32×Int)⊕UInt32):=
 bif (decide (x_4<(b0.length:Int))) then ((idx b0 x_4).bind fun x_6=>(ZR (fun s=>ZhY s.1 s.2) ((n_3 ^^^ (x_6.toUInt32)),(0:Int))).bind fun n_7=>(ZaA x_4 1).bind fun x_16=>some (.inl (n_7,x_16))) else (some (.inr n_3))
def sum_On (sum0:UInt32) (b0:(List UInt8)):Option UInt32:=
 (ZR (fun s=>ZhZ b0 s.1 s.2) ((~~~sum0),(0:Int))).bind fun n_1=>some (~~~n_1)
instance sum_On_c:Fd2 182 sum_On fun r=>D r:=en2 Tryz.func182 rfl Tryz.ntmps182 fun A w hA sum0 b0 r H=>by
 unfold sum_On at H;refine zg ?_;refine TSx OpY.not32 ?_;refine zC ?_;refine zC ?_;refine zh H fun o_2 H2 H=>?_
 refine Zo (fun s:UInt32=>o_2=s) (fun (n_1:UInt32) (_:Unit)=>(Env.set Env.nil 5 (D n_1))) (fun (n_1:UInt32) (_:Unit)=>[]) ?_ ?_
 ·skip;refine Zp<|Zt H2 (fun ⟨n_3,x_4⟩ (_:Unit)=>(Env.set (Env.set (Env.set (Env.set Env.nil 5 (D n_3)) 11 (D b0)) 12 (D ((b0.length:Int):Int))) 13 (D x_4))) (fun ⟨n_3,x_4⟩ (_:Unit)=>[]) () (Za (Za (Za (Za (Zc _))))) (Zd _) ?_;rintro ⟨n_3,x_4⟩ ⟨⟩ x_5 H5 he5;replace H5:ZhZ b0 n_3 x_4=some x_5:=H5;unfold ZhZ at H5;refine zg ?_;refine zc H5 (fun hc H5=>?_) fun hc H5=>?_
  ·refine zg ?_;refine zb H5 fun _ _ H5=>?_
   refine TSx OpY.conv8_32<|TSx OpY.xor32 ?_;refine zC ?_;refine zC ?_;refine zh H5 fun o_8 H8 H5=>?_
   refine Zo (fun s:UInt32=>o_8=s) (fun (n_7:UInt32) (_:Unit)=>(Env.set (Env.set (Env.set (Env.set Env.nil 5 (D n_7)) 11 (D b0)) 12 (D ((b0.length:Int):Int))) 13 (D x_4))) (fun (n_7:UInt32) (_:Unit)=>[]) ?_ ?_
   ·skip;refine Zp<|Zt H8 (fun ⟨n_9,x_10⟩ (_:Unit)=>(Env.set (Env.set (Env.set (Env.set (Env.set Env.nil 5 (D n_9)) 11 (D b0)) 12 (D ((b0.length:Int):Int))) 13 (D x_4)) 21 (D x_10))) (fun ⟨n_9,x_10⟩ (_:Unit)=>[]) () (Za (Za (Za (Za (Za (Zc _)))))) (Zd _) ?_;rintro ⟨n_9,x_10⟩ ⟨⟩ x_11 H11 he11;replace H11:ZhY n_9 x_10=some x_11:=H11;unfold ZhY at H11;refine zg ?_;refine zc H11 (fun hc H11=>?_) fun hc H11=>?_
    ·refine zg ?_;refine TSx OpY.and32 ?_;refine zC ?_;refine zn H11 fun odd_12 eodd_12 H11=>?_
     refine zX (Zcu 8 (D odd_12) (nm_cv eodd_12.h)) ?_;refine TSx (OpD.shr32 (Int.natCast_nonneg _)) ?_;refine zC ?_;refine zn H11 fun n_13 en_13 H11=>?_
     refine zX (Zcu 5 (D n_13) (nm_cv en_13.h)) ?_;refine TSx OpY.mul32<|TSx OpY.xor32 ?_;refine zE ?_;refine zn H11 fun n_14 en_14 H11=>?_
     refine zX (ZcJ 5 (D n_14) (nm_cv en_14.h)) ?_;refine zb H11 fun x_15 _ H11=>?_
     exact Zq ⟨n_14,x_15⟩ () (ZZs H11) (Za (Za (Za (Za (Za (Zc _)))))) (Zd _)
    ·refine zg ?_;exact Zi n_9 () (he11 _ (ZZs H11)).symm (Za (Za (Za (Za (Zc _))))) (Zd _)
   rintro n_7 ⟨⟩ hp;replace hp:=hp.symm;subst hp;refine zg ?_;refine zb H5 fun x_16 _ H5=>?_
   exact Zq ⟨n_7,x_16⟩ () (ZZs H5) (Za (Za (Za (Za (Zc _))))) (Zd _)
  ·refine zg ?_;exact Zi n_3 () (he5 _ (ZZs H5)).symm (Za (Zc _)) (Zd _)
 rintro n_1 ⟨⟩ hp;replace hp:=hp.symm;subst hp;refine zg ?_;refine TSx OpY.not32 ?_;exact zY H
def sum_Of (b0:(List UInt8)):Option UInt32:=
 (sum_On (UInt32.ofNat 0) b0).bind fun x_1=>some x_1
instance sum_Of_c:Fd1 154 sum_Of fun r=>D r:=en1 Tryz.func154 rfl Tryz.ntmps154 fun _ _ _ _ _ H=>by
 unfold sum_Of at H;exact zY H
def ZdJ (s0:(List UInt8)) (n0:Int):Option (List UInt8):=
 bif (decide (n0<(0:Int))) then (none) else (((Zgf (0:Int) (0:Int)).bind fun x_4=>(Zgf n0 x_4).bind fun x_5=>bif (decide (x_5>(0:Int))) then ((Zfk 1 x_5).bind fun u_6=>(posI x_5).bind fun u_7=>(cut (List.replicate (Int.toNat x_5) (Dat.z:UInt8)).length 0 (0:Int)).bind fun u_9=>(some (((List.replicate (Int.toNat x_5) (Dat.z:UInt8)).take (Int.toNat (0:Int))):(List UInt8))).bind fun l_10=>some l_10) else (some [])).bind fun s_2=>some s_2)
theorem ZjN {A:Nat→Prop} {s0:(List UInt8)} {n0:Int}  {r:(List UInt8)} (w:World) (v0 v1:Value) (hA:∀ k,w.heap.size≤k→A k) (hO:OwnIn A []) (hap:ZaY []) (hks:Pks (Pub A []) [] w) (h0:(NilS).p (Pub A []) w v0) (h1:(D n0).p (Pub A []) w v1) (H:ZdJ s0 n0=some r) :
    Calls Tryz.prog 190 #[v0,v1] w (Zd6 A w [] (fun g:Nat×Prop×Nat=>Sl g.1 g.2.1 0 (List.length r) g.2.2) fun g=>[⟨g.1,g.2.1,Row (r:List UInt8) g.2.2⟩]):=by
 unfold ZdJ at H;refine zX (ZcQ hA hap hks Tryz.func190 rfl Tryz.ntmps190 rfl h0 h1) ?_;refine zc H (fun hc H=>?_) fun hc H=>?_
 ·cases H
 ·refine Zat<|Zae<|Zas ?_;refine zh H fun o_3 H3 H=>?_
  refine Zo (fun s:(List UInt8)=>o_3=s) (fun (s_2:(List UInt8)) (⟨b_0,p_0,c_0⟩:Nat×Prop×Nat)=>(Env.set Env.nil 0 (Sl b_0 p_0 0 s_2.length c_0))) (fun (s_2:(List UInt8)) (⟨b_0,p_0,c_0⟩:Nat×Prop×Nat)=>[⟨b_0,p_0,(Row (s_2:List UInt8) c_0)⟩]) ?_ ?_
  ·skip;refine zg ?_;refine zX (ZaH ZiO rfl) ?_;refine TSx ZiQ ?_;refine zb H3 fun _ _ H3=>?_
   refine zb H3 fun x_5 _ H3=>?_
   refine zc H3 (fun hc H3=>?_) fun hc H3=>?_
   ·refine zg ?_;refine TSx ZiO ?_;refine zX (ZaH (Zlb (α:=UInt8)) rfl) ?_;refine zn H3 fun _ eu_6 H3=>?_
    refine zn H3 fun _ eu_7 H3=>?_
    refine TS.appMake (α:=UInt8) eu_6.h eu_7.h rfl fun b22_7 c22_7=>zg ?_
    refine TSx ZiQ ?_;refine zn H3 fun _ eu_9 H3=>?_
    refine TSx (Zdx (Zei eu_9.h rfl).2.1 (Zei eu_9.h rfl).2.2) ?_;refine zE ?_;refine TE.trim b22_7 (Int.toNat (0:Int)) (ZkI eu_9.h)<|ZcJ 0 _ (ZD (List.length_take_of_le (l:=(List.replicate (Int.toNat x_5) (Dat.z:UInt8))) (ZkI eu_9.h)).symm) ?_;refine zn H3 fun l_10 el_10 H3=>?_
    exact Zah b22_7 (Zaa el_10.h)<|ZcJ 0 _ (ZaT el_10.h rfl)<|Zi l_10 ⟨b22_7,True,c22_7⟩ (ZZs H3) (Zj (ZD rfl) (Zc _)) (Zb rfl (Zd _))
   ·refine zg ?_;exact Zi [] ⟨0,False,0⟩ (ZZs H3) (Zj ZcU (Zc _)) (Zbi (Zd _))
  rintro s_2 ⟨b_0,p_0,c_0⟩ hp;replace hp:=hp.symm;subst hp;refine zg ?_;obtain rfl:=ZZi H;exact ZA rfl ⟨b_0,p_0,c_0⟩ (ZD rfl) (Zb rfl (Zd _))
def Zbm (slices0:(List (List UInt8))) (size_3:Int) (x_4:Int):Option ((Int×Int)⊕Int):=
 bif (decide (x_4<(slices0.length:Int))) then ((idx slices0 x_4).bind fun x_6=>(ZaA size_3 (x_6.length:Int)).bind fun x_7=>bif (decide (x_7<(0:Int))) then (none) else ((ZaA x_4 1).bind fun x_8=>some (.inl (x_7,x_8)))) else (some (.inr size_3))
def Zbl (slices0:(List (List UInt8))) (x_14:Int) (newslice_16:(List UInt8)):Option ((Int×(List UInt8))⊕(List UInt8)):=
 bif (decide (x_14<(slices0.length:Int))) then ((idx slices0 x_14).bind fun x_18=>(Zfk 1 ((newslice_16.length+x_18.length:Nat):Int)).bind fun u_20=>(some ((newslice_16++x_18):(List UInt8))).bind fun l_21=>(ZaA x_14 1).bind fun x_22=>some (.inl (x_22,l_21))) else (some (.inr newslice_16))
def Zb8 (slices0:(List (List UInt8))):Option (List UInt8):=
 (ZR (fun s=>Zbm slices0 s.1 s.2) ((0:Int),(0:Int))).bind fun size_1=>(ZdJ [] size_1).bind fun x_9=>(ZR (fun s=>Zbl slices0 s.1 s.2) ((0:Int),x_9)).bind fun newslice_12=>some newslice_12
instance slices_Concat_byte_c:Fd1 167 Zb8 fun r=>D r:=en1 Tryz.func167 rfl Tryz.ntmps167 fun A w hA slices0 r H=>by
 unfold Zb8 at H;refine zC ?_;refine zC ?_;refine zC ?_;refine zh H fun o_2 H2 H=>?_
 refine Zo (fun s:Int=>o_2=s) (fun (size_1:Int) (_:Unit)=>(Env.set (Env.set Env.nil 0 (D slices0)) 3 (D size_1))) (fun (size_1:Int) (_:Unit)=>[]) ?_ ?_
 ·skip;refine Zp<|Zt H2 (fun ⟨size_3,x_4⟩ (_:Unit)=>(Env.set (Env.set (Env.set (Env.set (Env.set Env.nil 0 (D slices0)) 3 (D size_3)) 9 (D slices0)) 10 (D ((slices0.length:Int):Int))) 11 (D x_4))) (fun ⟨size_3,x_4⟩ (_:Unit)=>[]) () (Za (Za (Za (Za (Za (Zc _)))))) (Zd _) ?_;rintro ⟨size_3,x_4⟩ ⟨⟩ x_5 H5 he5;replace H5:Zbm slices0 size_3 x_4=some x_5:=H5;unfold Zbm at H5;refine zg ?_;refine zc H5 (fun hc H5=>?_) fun hc H5=>?_
  ·refine zg ?_;refine zb H5 fun _ _ H5=>?_
   refine zb H5 fun x_7 _ H5=>?_
   refine zc H5 (fun hc H5=>?_) fun hc H5=>?_
   ·cases H5
   ·refine zg ?_;refine zb H5 fun x_8 _ H5=>?_
    exact Zq ⟨x_7,x_8⟩ () (ZZs H5) (Za (Za (Za (Za (Za (Zc _)))))) (Zd _)
  ·refine zg ?_;exact Zi size_3 () (he5 _ (ZZs H5)).symm (Za (Za (Zc _))) (Zd _)
 rintro size_1 ⟨⟩ hp;replace hp:=hp.symm;subst hp;refine zg ?_;refine zn H fun _ ex_9 H=>?_
 refine Zc8 (Zab [] fun w v0 v1 hA hO hap hks h0 h1=>ZjN w v0 v1 hA hO hap hks (id h0) (toD h1) ex_9.h) rfl fun ⟨b24_9,p24_9,c24_9⟩=>?_
 dsimp only [List.cons_append,List.nil_append];refine zC ?_;refine zC ?_;refine zh H fun o_13 H13 H=>?_
 refine Zo (fun s:(List UInt8)=>o_13=s) (fun (newslice_12:(List UInt8)) (⟨b_10,p_10,c_10⟩:Nat×Prop×Nat)=>(Env.set Env.nil 6 (Sl b_10 p_10 0 newslice_12.length c_10))) (fun (newslice_12:(List UInt8)) (⟨b_10,p_10,c_10⟩:Nat×Prop×Nat)=>[⟨b_10,p_10,(Row (newslice_12:List UInt8) c_10)⟩]) ?_ ?_
 ·skip;refine Zp<|Zt H13 (fun ⟨x_14,newslice_16⟩ (⟨b_14,p_14,c_14⟩:Nat×Prop×Nat)=>(Env.set (Env.set (Env.set (Env.set Env.nil 6 (Sl b_14 p_14 0 newslice_16.length c_14)) 25 (D slices0)) 26 (D ((slices0.length:Int):Int))) 27 (D x_14))) (fun ⟨x_14,newslice_16⟩ (⟨b_14,p_14,c_14⟩:Nat×Prop×Nat)=>[⟨b_14,p_14,(Row (newslice_16:List UInt8) c_14)⟩]) ⟨b24_9,p24_9,c24_9⟩ (Za (Za (Za (Zj (ZD rfl) (Zc _))))) (Zb rfl (Zd _)) ?_;rintro ⟨x_14,newslice_16⟩ ⟨b_14,p_14,c_14⟩ x_17 H17 he17;replace H17:Zbl slices0 x_14 newslice_16=some x_17:=H17;unfold Zbl at H17;refine zg ?_;refine zc H17 (fun hc H17=>?_) fun hc H17=>?_
  ·refine zg ?_;refine zb H17 fun x_18 _ H17=>?_
   refine zn H17 fun _ eu_20 H17=>?_
   refine TS.app (ys:=x_18) inferInstance eu_20.h rfl rfl rfl fun b33_18 p33_18 c33_18=>?_
   refine zE ?_;refine zn H17 fun l_21 el_21 H17=>?_
   refine Zah b33_18 (Zaa el_21.h) ?_;refine zX (ZcJ 6 _ (ZaT el_21.h rfl)) ?_;refine zb H17 fun x_22 _ H17=>?_
   exact Zq ⟨x_22,l_21⟩ ⟨b33_18,p33_18,c33_18⟩ (ZZs H17) (Za (Za (Za (Zj (ZD rfl) (Zc _))))) (Zb rfl (Zd _))
  ·refine zg ?_;exact Zi newslice_16 ⟨b_14,p_14,c_14⟩ (he17 _ (ZZs H17)).symm (Zj (ZD rfl) (Zc _)) (Zb rfl (Zd _))
 rintro newslice_12 ⟨b_10,p_10,c_10⟩ hp;replace hp:=hp.symm;subst hp;refine zC ?_;refine ZM<|TE.pub b_10 (PubE.set 2 (ZE PlS.all rfl) PubE.refl) ?_;exact zY H
def ZfA (p0:Page) (size0:Int):Option ((List UInt8)×Int):=
 (ZiC p0 size0).bind fun x_2=>bif (!x_2) then (some (([]:List UInt8),(1:Int))) else ((Zgf size0 4).bind fun x_3=>(Zfk 1 x_3).bind fun u_4=>(some ((List.replicate (Int.toNat x_3) (Dat.z:UInt8)):(List UInt8))).bind fun l_6=>(idx l_6 0).bind fun x_7=>(idx (l_6.set (Int.toNat (0:Int)) (UInt8.ofInt p0.Kind)) (1:Int)).bind fun x_8=>(some (((l_6.set (Int.toNat (0:Int)) (UInt8.ofInt p0.Kind)).set (Int.toNat (1:Int)) (UInt8.ofInt p0.Id)):(List UInt8))).bind fun l_9=>(cut l_9.length (2:Int) (8:Int)).bind fun u_10=>(Zjf p0.Gen (6:Int)).bind fun x_11=>(some ((splice l_9 (Int.toNat (2:Int)) (over ((l_9.drop (Int.toNat (2:Int))).take (((8:Int)-(2:Int)).toNat)) x_11)):(List UInt8))).bind fun l_12=>(cut l_12.length (8:Int) (10:Int)).bind fun u_13=>(Zjf (UInt64.ofInt (p0.Body.length:Int)) (2:Int)).bind fun x_14=>(some ((splice l_12 (Int.toNat (8:Int)) (over ((l_12.drop (Int.toNat (8:Int))).take (((10:Int)-(8:Int)).toNat)) x_14)):(List UInt8))).bind fun l_15=>(cut l_15.length (10:Int) (l_15.length:Int)).bind fun u_16=>(some ((splice l_15 (Int.toNat (10:Int)) (over ((l_15.drop (Int.toNat (10:Int))).take (((l_15.length:Nat)-(10:Int):Int).toNat)) p0.Body)):(List UInt8))).bind fun l_17=>(sum_Of l_17).bind fun x_18=>(Zjf (x_18.toUInt64) (4:Int)).bind fun x_19=>(Zb8 ([l_17,x_19]:List (List UInt8))).bind fun x_20=>some (x_20,(0:Int)))
instance page_Put_c:Fd2 142 ZfA fun r=>Tup [D r.1,D r.2]:=en2 Tryz.func142 rfl Tryz.ntmps142 fun A w hA p0 size0 r H=>by
 unfold ZfA at H;refine zg ?_;refine TS.box rfl fun b2_0=>zg ?_
 refine zb H fun _ _ H=>?_
 refine zc H (fun hc H=>?_) fun hc H=>?_
 ·exact zY H
 ·refine zg ?_;refine zb H fun _ _ H=>?_
  refine zn H fun _ eu_4 H=>?_
  refine Zf7 eu_4.h ⟨(Za9 eu_4.h).1,Int.le_refl _⟩ rfl fun b13_4=>?_
  refine zC ?_;refine zn H fun _ el_6 H=>?_
  refine ZB b13_4 (Zaa el_6.h)<|Zcu 6 _ (ZaT el_6.h (by simp)) ?_;refine zX (ZaM [9,11] [b13_4] mix (by kernel_rfl) (by kernel_rfl)) ?_;refine zn H fun _ ex_7 H=>?_
  refine TRx (Zn (ZH ex_7.h rfl))<|ZcX (fun g=>(Zy (y:=((UInt8.ofInt p0.Kind):UInt8)) (ZaJ ex_7.h))) rfl ?_;refine zn H fun _ ex_8 H=>?_
  refine TRx (Zn (ZH ex_8.h (by simp)))<|ZcX (fun g=>(Zy (y:=((UInt8.ofInt p0.Id):UInt8)) (ZaJ ex_8.h))) rfl ?_;refine zC ?_;rintro ⟨⟨_,_⟩,_⟩;dsimp only [Fam.nextS,Fam.nextN,Fam.one,List.cons_append,List.nil_append];refine zn H fun _ el_9 H=>?_
  refine ZB b13_4 (Zaa el_9.h)<|Zcu 6 _ (ZaT el_9.h (by simp)) ?_;refine zX (ZaM [5] [b13_4] mix (by kernel_rfl) (by kernel_rfl)) ?_;refine zn H fun _ eu_10 H=>?_
  refine zX (Ze4 (Zla (Zei eu_10.h rfl).1 (Zei eu_10.h rfl).2.1 (Zei eu_10.h rfl).2.2) rfl) ?_;refine zb H fun x_11 _ H=>?_
  refine Zes (fun g=>(Zc0 (ys:=x_11) inferInstance (ZfF (ZhP eu_10.h)) (ZgG eu_10.h rfl) (fun _ h=>by simp [h,splice,ZeQ]))) rfl ?_;refine zC ?_;rintro ⟨_,_⟩;dsimp only [Fam.nextS,Fam.nextN,Fam.one,List.cons_append,List.nil_append];refine zn H fun _ el_12 H=>?_
  refine ZB b13_4 (Zaa el_12.h)<|Zcu 6 _ (ZaT el_12.h (ZfT (ZhP eu_10.h)).symm) ?_;refine zX (ZaM [7] [b13_4] mix (by kernel_rfl) (by kernel_rfl)) ?_;refine zn H fun _ eu_13 H=>?_
  refine zX (Ze4 (Zla (Zei eu_13.h rfl).1 (Zei eu_13.h rfl).2.1 (Zei eu_13.h rfl).2.2) rfl) ?_;refine TRx Zis ?_;refine zb H fun x_14 _ H=>?_
  refine Zes (fun g=>(Zc0 (ys:=x_14) inferInstance (ZfF (ZhP eu_13.h)) (ZgG eu_13.h rfl) (fun _ h=>by simp [h,splice,ZeQ]))) rfl ?_;refine zC ?_;rintro ⟨_,_⟩;dsimp only [Fam.nextS,Fam.nextN,Fam.one,List.cons_append,List.nil_append];refine zn H fun _ el_15 H=>?_
  refine ZB b13_4 (Zaa el_15.h)<|Zcu 6 _ (ZaT el_15.h (ZfT (ZhP eu_13.h)).symm) ?_;refine zX (ZaM [4] [b13_4] mix (by kernel_rfl) (by kernel_rfl)) ?_;refine zn H fun _ eu_16 H=>?_
  refine zX (Ze4 (ZaD (Zei eu_16.h rfl).1 (Zei eu_16.h rfl).2.1) rfl) ?_;refine Zes (fun g=>(Zc0 (ys:=p0.Body) inferInstance (ZfF (cut_leF eu_16.h rfl)) (cut_lenF eu_16.h rfl) (fun _ h=>by simp [h,splice,ZeQ]))) rfl ?_;refine zC ?_;rintro ⟨_,_⟩;dsimp only [Fam.nextS,Fam.nextN,Fam.one,List.cons_append,List.nil_append];refine zn H fun _ el_17 H=>?_
  refine ZB b13_4 (Zaa el_17.h) ?_;refine zX (Zcu 6 _ (ZaT el_17.h (ZfT (cut_leF eu_16.h rfl)).symm)) ?_;refine zn H fun _ ex_18 H=>?_
  refine TSx (ZfQ [b13_4] (Zge PlS.all rfl (by simp)) fun w v0 hA h0=>sum_Of_c.h w v0 hA (toD h0) ex_18.h)<|TSx Zkg ?_;refine zb H fun _ _ H=>?_
  refine TS.pub b13_4 (PubE.set 44 (ZE PlS.all rfl) (PubE.set 43 (ZE PlS.all rfl) (PubE.set 6 (ZE PlS.all rfl) PubE.refl))) ?_;refine TSx (OpY.buildSlice [.tmp 43,.tmp 47] rfl rfl (by decide)) ?_;exact zY H
def ZfB (b0:(List UInt8)) (x_2:Int):Option (Int⊕(Unit⊕Bool)):=
 bif (decide (x_2<(b0.length:Int))) then ((idx b0 x_2).bind fun x_4=>bif (decide (x_4≠(UInt8.ofNat 255))) then (some (.inr (.inr false))) else ((ZaA x_2 1).bind fun x_6=>some (.inl x_6))) else (some (.inr (.inl ())))
def ZfK (b0:(List UInt8)):Option Bool:=
 (ZR (fun s=>ZfB b0 s) (0:Int)).bind fun o_1=>elS o_1 (fun _=>some true) (fun q=>some q)
instance page_Blank_c:Fd1 152 ZfK fun r=>D r:=en1 Tryz.func152 rfl Tryz.ntmps152 fun A w hA b0 r H=>by
 unfold ZfK at H;refine zC ?_;refine zC ?_;refine zh H fun o_1 H1 H=>?_
 refine Zo (fun s:Unit=>o_1=.inl s) (fun (_:Unit) (_:Unit)=>Env.nil) (fun (_:Unit) (_:Unit)=>[]) ?_ ?_
 ·skip;refine Zp<|Zt H1 (fun (x_2:Int) (_:Unit)=>(Env.set (Env.set (Env.set Env.nil 5 (D b0)) 6 (D ((b0.length:Int):Int))) 7 (D x_2))) (fun (x_2:Int) (_:Unit)=>[]) () (Za (Za (Za (Zc _)))) (Zd _) ?_;rintro x_2 ⟨⟩ x_3 H3 he3;replace H3:ZfB b0 x_2=some x_3:=H3;unfold ZfB at H3;refine zg ?_;refine zc H3 (fun hc H3=>?_) fun hc H3=>?_
  ·refine zg ?_;refine zb H3 fun _ _ H3=>?_
   refine zX (ZaH OpY.neq8 rfl) ?_;refine zc H3 (fun hc H3=>?_) fun hc H3=>?_
   ·refine zC ?_;refine ZM<|Zf<|Zg<|Zg<|Zf<|Zs ?_;have R4:=ZaZ (he3 _ (ZZs H3)) H;refine zg ?_;obtain rfl:=ZZi R4;exact ZbJ rfl Cv.le
   ·refine zg ?_;refine zb H3 fun x_6 _ H3=>?_
    exact Zq x_6 () (ZZs H3) (Za (Za (Za (Zc _)))) (Zd _)
  ·refine zg ?_;exact Zi () () (he3 _ (ZZs H3)).symm (Zc _) (Zd _)
 rintro ⟨⟩ ⟨⟩ hp;replace H:=Zco hp H;exact zY H
def ZgL (b0:(List UInt8)) (n_3:UInt64) (x_4:Int):Option ((UInt64×Int)⊕UInt64):=
 bif (decide (x_4<(b0.length:Int))) then ((idx b0 x_4).bind fun x_6=>(some (((shl64 n_3 ((UInt64.ofNat 8).toNat:Int)) ||| (x_6.toUInt64)):UInt64)).bind fun n_7=>(ZaA x_4 1).bind fun x_8=>some (.inl (n_7,x_8))) else (some (.inr n_3))
def Zjg (b0:(List UInt8)):Option UInt64:=
 (ZR (fun s=>ZgL b0 s.1 s.2) ((UInt64.ofNat 0),(0:Int))).bind fun n_1=>some n_1
instance sum_Get_c:Fd1 153 Zjg fun r=>D r:=en1 Tryz.func153 rfl Tryz.ntmps153 fun A w hA b0 r H=>by
 unfold Zjg at H;refine zC ?_;refine zC ?_;refine zC ?_;refine zh H fun o_2 H2 H=>?_
 refine Zo (fun s:UInt64=>o_2=s) (fun (n_1:UInt64) (_:Unit)=>(Env.set Env.nil 3 (D n_1))) (fun (n_1:UInt64) (_:Unit)=>[]) ?_ ?_
 ·skip;refine Zp<|Zt H2 (fun ⟨n_3,x_4⟩ (_:Unit)=>(Env.set (Env.set (Env.set (Env.set Env.nil 3 (D n_3)) 6 (D b0)) 7 (D ((b0.length:Int):Int))) 8 (D x_4))) (fun ⟨n_3,x_4⟩ (_:Unit)=>[]) () (Za (Za (Za (Za (Zc _))))) (Zd _) ?_;rintro ⟨n_3,x_4⟩ ⟨⟩ x_5 H5 he5;replace H5:ZgL b0 n_3 x_4=some x_5:=H5;unfold ZgL at H5;refine zg ?_;refine zc H5 (fun hc H5=>?_) fun hc H5=>?_
  ·refine zg ?_;refine zb H5 fun _ _ H5=>?_
   refine zX (ZaH (OpD.shl64 (Int.natCast_nonneg _)) rfl) ?_;refine TSx OpY.conv8_64<|TSx OpY.or64 ?_;refine zE ?_;refine zn H5 fun n_7 en_7 H5=>?_
   refine zX (ZcJ 3 (D n_7) (nm_cv en_7.h)) ?_;refine zb H5 fun x_8 _ H5=>?_
   exact Zq ⟨n_7,x_8⟩ () (ZZs H5) (Za (Za (Za (Za (Zc _))))) (Zd _)
  ·refine zg ?_;exact Zi n_3 () (he5 _ (ZZs H5)).symm (Za (Zc _)) (Zd _)
 rintro n_1 ⟨⟩ hp;replace hp:=hp.symm;subst hp;exact zY H
def ZcB (s0:(List UInt8)):Option (List UInt8):=
 (Zfk 1 ((0+s0.length:Nat):Int)).bind fun _=>some s0
theorem Zjj {A:Nat→Prop} {s0:(List UInt8)}  {r:(List UInt8)} (w:World) (v0:Value) (hA:∀ k,w.heap.size≤k→A k) (hO:OwnIn A []) (hap:ZaY []) (hks:Pks (Pub A []) [] w) (h0:(D s0).p (Pub A []) w v0) (H:ZcB s0=some r) :
    Calls Tryz.prog 156 #[v0] w (Zd6 A w [] (fun g:Nat×Prop×Nat=>Sl g.1 g.2.1 0 (List.length r) g.2.2) fun g=>[⟨g.1,g.2.1,Row (r:List UInt8) g.2.2⟩]):=by
 unfold ZcB at H;refine Zc3 hA hap hks Tryz.func156 rfl Tryz.ntmps156 rfl h0 ?_;refine zn H fun _ eu H=>?_
 obtain rfl:=ZZi H;refine zg ?_;refine TSx Zbk ?_;refine zC ?_;refine Ze5 (fun hc=>?_) (fun hc=>?_)
 ·obtain rfl:=hc rfl;refine zg ?_;exact ZA rfl ⟨0,False,0⟩ ZcU (Zbi (Zd _))
 ·refine zg ?_;refine TS.build [] rfl rfl (by decide) rfl fun b=>zg ?_
  refine TS.app (ys:=s0) inferInstance eu.h rfl rfl rfl fun b1 p1 c1=>zg ?_
  exact ZA rfl ⟨b1,p1,c1⟩ (ZD (by simp)) (Zb rfl (Zd _))
theorem Zjk {A:Nat→Prop} {s0:(List UInt8)} {r:(List UInt8)} (w:World) (v0:Value) (hA:∀ k,w.heap.size≤k→A k) (h0:(D s0).p A w v0) (H:ZcB s0=some r) :
  Calls Tryz.prog 156 #[v0] w (Ret A w (D r)):=(Zjj w v0 hA ⟨fun k ⟨e,he,_⟩=>absurd he (by simp)⟩ List.Pairwise.nil (fun e he=>absurd he (by simp)) (Ty.enter h0) H).mono fun e w' h=>Zg4 hA h
def Zdc (inner_10:(List UInt8)) (x_27:Int) (x_30:Int):Option (Int⊕(Unit⊕(Page×Int))):=
 bif (decide (x_30<((inner_10.drop (Int.toNat x_27)).length:Int))) then ((idx (inner_10.drop (Int.toNat x_27)) x_30).bind fun x_32=>bif (decide (x_32≠(UInt8.ofNat 0))) then ((some ((⟨0,0,0,[]⟩:Page):Page)).bind fun k_33=>some (.inr (.inr (k_33,(2:Int))))) else ((ZaA x_30 1).bind fun x_35=>some (.inl x_35))) else (some (.inr (.inl ())))
def ZdC (b0:(List UInt8)):Option (Page×Int):=
 (ZfY (b0.length:Int)).bind fun x_2=>bif (!x_2) then ((some ((⟨0,0,0,[]⟩:Page):Page)).bind fun k_3=>some (k_3,(3:Int))) else ((ZfK b0).bind fun x_4=>bif x_4 then ((some ((⟨(0:Int),0,0,[]⟩:Page):Page)).bind fun k_5=>some (k_5,(0:Int))) else ((Zgf (b0.length:Int) (4:Int)).bind fun x_6=>(cut b0.length 0 x_6).bind fun u_7=>(Zgf (b0.length:Int) (4:Int)).bind fun x_8=>(cut b0.length x_8 b0.length).bind fun u_9=>(some ((b0.take (Int.toNat x_6)):(List UInt8))).bind fun inner_10=>(some ((b0.drop (Int.toNat x_8)):(List UInt8))).bind fun end_11=>(Zjg end_11).bind fun x_12=>(sum_Of inner_10).bind fun x_13=>bif (decide (x_12≠(x_13.toUInt64))) then ((some ((⟨0,0,0,[]⟩:Page):Page)).bind fun k_14=>some (k_14,(4:Int))) else ((idx b0 0).bind fun x_15=>(idx b0 1).bind fun x_16=>(cut b0.length (2:Int) (8:Int)).bind fun u_17=>(Zjg ((b0.take (Int.toNat (8:Int))).drop (Int.toNat (2:Int)))).bind fun x_18=>(some ((⟨(x_15.toNat:Int),(x_16.toNat:Int),x_18,[]⟩:Page):Page)).bind fun px_20=>(cut b0.length (8:Int) (10:Int)).bind fun u_21=>(Zjg ((b0.take (Int.toNat (10:Int))).drop (Int.toNat (8:Int)))).bind fun x_22=>(ZiW (x_22.toNat:Int)).bind fun x_23=>(Zdb (b0.length:Int)).bind fun x_24=>(gb (!(decide (x_23>x_24))) (ZiC px_20 (b0.length:Int))).bind fun x_25=>bif ((decide (x_23>x_24))||(!x_25)) then ((some ((⟨0,0,0,[]⟩:Page):Page)).bind fun k_26=>some (k_26,(2:Int))) else ((ZaA (10:Int) x_23).bind fun x_27=>(cut inner_10.length x_27 inner_10.length).bind fun u_28=>(ZR (fun s=>Zdc inner_10 x_27 s) (0:Int)).bind fun o_29=>elS o_29 (fun _=>(bif (decide (x_23>(0:Int))) then ((ZaA (10:Int) x_23).bind fun x_38=>(cut b0.length (10:Int) x_38).bind fun u_39=>(ZcB ((b0.take (Int.toNat x_38)).drop (Int.toNat (10:Int)))).bind fun x_40=>(some ((⟨px_20.Kind,px_20.Id,px_20.Gen,x_40⟩:Page):Page)).bind fun px_41=>some px_41) else (some px_20)).bind fun px_36=>some (px_36,(0:Int))) (fun q=>some q)))))
instance page_Read_c:Fd1 126 ZdC fun r=>Tup [D r.1,D r.2]:=en1 Tryz.func126 rfl Tryz.ntmps126 fun A w hA b0 r H=>by
 unfold ZdC at H;refine zg ?_;refine TS.alloc (α:=Page) rfl fun b2_0=>zg ?_
 refine zb H fun _ _ H=>?_
 refine zc H (fun hc H=>?_) fun hc H=>?_
 ·refine zg ?_;refine TSx (Zk (⟨0,0,0,[]⟩:Page) rfl ⟨_,Tryz.underlying202,by kernel_rfl⟩ rfl rfl) ?_;exact zY H
 ·refine zg ?_;refine zb H fun _ _ H=>?_
  refine zc H (fun hc H=>?_) fun hc H=>?_
  ·refine zg ?_;refine TSx (Zk (⟨(0:Int),0,0,[]⟩:Page) rfl ⟨_,Tryz.underlying202,by kernel_rfl⟩ rfl rfl) ?_;exact zY H
  ·refine zg ?_;refine zb H fun _ _ H=>?_
   refine zb H fun _ _ H=>?_
   refine zb H fun _ _ H=>?_
   refine zo H fun _ _ H=>?_
   refine zC ?_;refine zn H fun inner_10 einner_10 H=>?_
   refine Zcu 4 (D inner_10) (nm_cv einner_10.h) ?_;refine zn H fun end_11 eend_11 H=>?_
   refine zX (Zcu 5 (D end_11) (nm_cv eend_11.h)) ?_;refine zb H fun _ _ H=>?_
   refine zb H fun _ _ H=>?_
   refine TSx Zkg ?_;refine zX (ZaH OpY.neq64 rfl) ?_;refine zc H (fun hc H=>?_) fun hc H=>?_
   ·refine zg ?_;refine TSx (Zk (⟨0,0,0,[]⟩:Page) rfl ⟨_,Tryz.underlying202,by kernel_rfl⟩ rfl rfl) ?_;exact zY H
   ·refine Zat<|Zae ?_;refine zX (ZaM [12,13] [] mix (by kernel_rfl) (by kernel_rfl)) ?_;refine zb H fun x_15 _ H=>?_
    refine zb H fun x_16 _ H=>?_
    refine zb H fun _ _ H=>?_
    refine zb H fun x_18 _ H=>?_
    refine TRx (Zk (⟨(x_15.toNat:Int),(x_16.toNat:Int),x_18,[]⟩:Page) rfl ⟨_,Tryz.underlying202,by kernel_rfl⟩ rfl rfl)<|Zes (fun g=>Zc1 (α:=Page)) rfl<|ZcX (fun g=>(Zy (y:=((⟨(x_15.toNat:Int),(x_16.toNat:Int),x_18,[]⟩:Page):Page)) Zv)) rfl ?_;refine zC ?_;rintro ⟨⟨_,⟨b6_18,_⟩⟩,_⟩;dsimp only [Fam.nextS,Fam.nextN,Fam.one,List.cons_append,List.nil_append];refine zn H fun px_20 epx_20 H=>?_
    refine zX (ZB b6_18 (ZZ epx_20.h)) ?_;refine zb H fun _ _ H=>?_
    refine zb H fun _ _ H=>?_
    refine zn H fun x_23 ex_23 H=>?_
    refine zX (ZaH (Zlh ex_23.h) rfl) ?_;refine zb H fun _ _ H=>?_
    refine zd H fun _ _ H=>?_
    refine zc H (fun hc H=>?_) fun hc H=>?_
    ·refine zg ?_;refine TSx (Zk (⟨0,0,0,[]⟩:Page) rfl ⟨_,Tryz.underlying202,by kernel_rfl⟩ rfl rfl) ?_;exact zY H
    ·refine zg ?_;refine zb H fun x_27 _ H=>?_
     refine zo H fun _ _ H=>?_
     refine zC ?_;refine zh H fun o_29 H29 H=>?_
     refine Zo (fun s:Unit=>o_29=.inl s) (fun (_:Unit) (_:Unit)=>(Env.set (Env.set (Env.set (Env.set Env.nil 0 (D b0)) 2 (Pt b2_0 0)) 6 (Pt b6_18 0)) 7 (D x_23))) (fun (_:Unit) (_:Unit)=>[⟨b2_0,True,(One ((Dat.z:Page):Page))⟩,⟨b6_18,True,(One px_20)⟩]) ?_ ?_
     ·skip;refine Zp<|Zt H29 (fun (x_30:Int) (_:Unit)=>(Env.set (Env.set (Env.set (Env.set (Env.set (Env.set (Env.set Env.nil 0 (D b0)) 2 (Pt b2_0 0)) 6 (Pt b6_18 0)) 7 (D x_23)) 67 (D ((inner_10.drop (Int.toNat x_27)):(List UInt8)))) 68 (D (((inner_10.drop (Int.toNat x_27)).length:Int):Int))) 69 (D x_30))) (fun (x_30:Int) (_:Unit)=>[⟨b2_0,True,(One ((Dat.z:Page):Page))⟩,⟨b6_18,True,(One px_20)⟩]) () (Za (Za (Za (Za (Za (Za (Za (Zc _)))))))) (Zb rfl (Zb rfl (Zd _))) ?_;rintro x_30 ⟨⟩ x_31 H31 he31;replace H31:Zdc inner_10 x_27 x_30=some x_31:=H31;unfold Zdc at H31;refine zg ?_;refine zc H31 (fun hc H31=>?_) fun hc H31=>?_
      ·refine zg ?_;refine zb H31 fun _ _ H31=>?_
       refine zX (ZaH OpY.neq8 rfl) ?_;refine zc H31 (fun hc H31=>?_) fun hc H31=>?_
       ·refine zg ?_;refine TSx (Zk (⟨0,0,0,[]⟩:Page) rfl ⟨_,Tryz.underlying202,by kernel_rfl⟩ rfl rfl) ?_;refine zC ?_;refine zn H31 fun _ ek_33 H31=>?_
        refine ZB b2_0 (ZZ ek_33.h)<|ZM<|Zf<|Zg<|Zg<|Zf<|Zs ?_;have R33:=ZaZ (he31 _ (ZZs H31)) H;refine zg ?_;obtain rfl:=ZZi R33;exact ZeR rfl rfl (.cons Cv.le (.cons Cv.le .nil))
       ·refine zg ?_;refine zb H31 fun x_35 _ H31=>?_
        exact Zq x_35 () (ZZs H31) (Za (Za (Za (Za (Za (Za (Za (Zc _)))))))) (Zb rfl (Zb rfl (Zd _)))
      ·refine zg ?_;exact Zi () () (he31 _ (ZZs H31)).symm (Za (Za (Za (Za (Zc _))))) (Zb rfl (Zb rfl (Zd _)))
     rintro ⟨⟩ ⟨⟩ hp;replace H:=Zco hp H;refine Zae<|Zas ?_;refine zh H fun o_37 H37 H=>?_
     refine Zo (fun s:Page=>o_37=s) (fun (px_36:Page) (_:Unit)=>(Env.set (Env.set Env.nil 2 (Pt b2_0 0)) 6 (Pt b6_18 0))) (fun (px_36:Page) (_:Unit)=>[⟨b2_0,True,(One ((Dat.z:Page):Page))⟩,⟨b6_18,True,(One px_36)⟩]) ?_ ?_
     ·skip;refine zg ?_;refine zc H37 (fun hc H37=>?_) fun hc H37=>?_
      ·refine zg ?_;refine zb H37 fun _ _ H37=>?_
       refine zb H37 fun _ _ H37=>?_
       refine zn H37 fun _ ex_40 H37=>?_
       refine TSx (ZaK fun w v0 hA h0=>Zjk w v0 hA (toD h0) ex_40.h) ?_;refine zE ?_;refine zn H37 fun px_41 epx_41 H37=>?_
       exact Zah b6_18 (ZZ epx_41.h)<|Zi px_41 () (ZZs H37) (Za (Za (Zc _))) (Zb rfl (Zb rfl (Zd _)))
      ·refine zg ?_;exact Zi px_20 () (ZZs H37) (Za (Za (Zc _))) (Zb rfl (Zb rfl (Zd _)))
     rintro px_36 ⟨⟩ hp;replace hp:=hp.symm;subst hp;exact zY H
def ZfX (size0:Int):Option Int:=
 (Zdb size0).bind fun x_1=>(ZkX x_1 2).bind fun x_2=>some (min (64:Int) x_2)
instance root_Most_c:Fd1 65 ZfX fun r=>D r:=en1 Tryz.func65 rfl Tryz.ntmps65 fun _ _ _ _ _ H=>by
 unfold ZfX at H;exact zY H
def ZdR (r0:Roots) (x_5:Int):Option (Int⊕(Unit⊕Bool)):=
 bif (decide (x_5<(r0.At.length:Int))) then ((idx r0.At x_5).bind fun x_7=>bif ((decide (x_7<(0:Int)))||(decide (x_7>(65535:Int)))) then (some (.inr (.inr false))) else ((ZaA x_5 1).bind fun x_9=>some (.inl x_9))) else (some (.inr (.inl ())))
def ZjR (r0:Roots) (size0:Int):Option Bool:=
 (Zdb size0).bind fun x_2=>(gb (!((decide (x_2=(0:Int)))||(decide ((UInt64.ofNat 281474976710656)≤r0.Gen)))) (ZfX size0)).bind fun x_3=>bif (((decide (x_2=(0:Int)))||(decide ((UInt64.ofNat 281474976710656)≤r0.Gen)))||(decide ((r0.At.length:Int)>x_3))) then (some false) else ((ZR (fun s=>ZdR r0 s) (0:Int)).bind fun o_4=>elS o_4 (fun _=>some true) (fun q=>some q))
instance root_May_c:Fd2 141 ZjR fun r=>D r:=en2 Tryz.func141 rfl Tryz.ntmps141 fun A w hA r0 size0 r H=>by
 unfold ZjR at H;refine zg ?_;refine TS.box rfl fun b2_0=>zg ?_
 refine zb H fun _ _ H=>?_
 refine zX (TR.g 10 rfl (fun hg=>Zkf) rfl) ?_;refine zd H fun _ _ H=>?_
 refine zc H (fun hc H=>?_) fun hc H=>?_
 ·exact zY H
 ·refine zC ?_;refine zh H fun o_4 H4 H=>?_
  refine Zo (fun s:Unit=>o_4=.inl s) (fun (_:Unit) (_:Unit)=>Env.nil) (fun (_:Unit) (_:Unit)=>[]) ?_ ?_
  ·skip;refine Zp<|Zt H4 (fun (x_5:Int) (_:Unit)=>(Env.set (Env.set (Env.set Env.nil 24 (D r0.At)) 25 (D ((r0.At.length:Int):Int))) 26 (D x_5))) (fun (x_5:Int) (_:Unit)=>[]) () (Za (Za (Za (Zc _)))) (Zd _) ?_;rintro x_5 ⟨⟩ x_6 H6 he6;replace H6:ZdR r0 x_5=some x_6:=H6;unfold ZdR at H6;refine zg ?_;refine zc H6 (fun hc H6=>?_) fun hc H6=>?_
   ·refine zg ?_;refine zb H6 fun _ _ H6=>?_
    refine zc H6 (fun hc H6=>?_) fun hc H6=>?_
    ·refine zC ?_;refine ZM<|Zf<|Zg<|Zg<|Zf<|Zs ?_;have R7:=ZaZ (he6 _ (ZZs H6)) H;refine zg ?_;obtain rfl:=ZZi R7;exact ZbJ rfl Cv.le
    ·refine zg ?_;refine zb H6 fun x_9 _ H6=>?_
     exact Zq x_9 () (ZZs H6) (Za (Za (Za (Zc _)))) (Zd _)
   ·refine zg ?_;exact Zi () () (he6 _ (ZZs H6)).symm (Zc _) (Zd _)
  rintro ⟨⟩ ⟨⟩ hp;replace H:=Zco hp H;exact zY H
def ZfW (r0:Roots) (x_10:Int) (l_12:(List UInt8)):Option ((Int×(List UInt8))⊕(List UInt8)):=
 bif (decide (x_10<(r0.At.length:Int))) then ((idx r0.At x_10).bind fun x_14=>(shrI x_14 8).bind fun x_15=>(Zfk 1 ((l_12.length+([(UInt8.ofInt x_15),(UInt8.ofInt x_14)]:List UInt8).length:Nat):Int)).bind fun u_17=>(some ((l_12++([(UInt8.ofInt x_15),(UInt8.ofInt x_14)]:List UInt8)):(List UInt8))).bind fun l_18=>(ZaA x_10 1).bind fun x_19=>some (.inl (x_19,l_18))) else (some (.inr l_12))
def Ziz (r0:Roots) (size0:Int):Option ((List UInt8)×Int):=
 (ZjR r0 size0).bind fun x_2=>bif (!x_2) then (some (([]:List UInt8),(1:Int))) else ((Zgf (r0.At.length:Int) (1:Int)).bind fun x_3=>(some ((⟨(2:Int),(max (0:Int) x_3),r0.Gen,[]⟩:Page):Page)).bind fun px_5=>(some (([]:List UInt8):(List UInt8))).bind fun l_6=>(ZR (fun s=>ZfW r0 s.1 s.2) ((0:Int),l_6)).bind fun l_8=>(ZfA (⟨px_5.Kind,px_5.Id,px_5.Gen,l_8⟩:Page) size0).bind fun r_20=>some (r_20.1,r_20.2))
instance root_Put_c:Fd2 116 Ziz fun r=>Tup [D r.1,D r.2]:=en2 Tryz.func116 rfl Tryz.ntmps116 fun A w hA r0 size0 r H=>by
 unfold Ziz at H;refine zg ?_;refine TS.box rfl fun b2_0=>zg ?_
 refine zb H fun _ _ H=>?_
 refine zc H (fun hc H=>?_) fun hc H=>?_
 ·exact zY H
 ·refine zg ?_;refine zb H fun _ _ H=>?_
  refine TS.nilE 0 UInt8 ?_;refine TSx (OpY.buildZ (ps:=_) rfl ⟨_,Tryz.underlying202,by kernel_rfl⟩ (ZeroC.mix (α:=Page) (o:=3) (b:=0) (ZeroC.one (α:=Page)) rfl) (PartsC.d (((Pl.mix (PF 0 Page Int Zv) (by first | decide | omega))).st _) (PartsC.d (((Pl.mix (PF 1 Page Int Zv) (by first | decide | omega))).st _) (PartsC.d (((Pl.mix (PF 2 Page UInt64 Zv) (by first | decide | omega))).st _) inferInstance)))) ?_;refine TS.alloc (α:=Page) rfl fun b6_3=>?_
  refine Za0 (ZP trivial rfl CtSc.h) ?_;refine zC ?_;refine zn H fun px_5 epx_5 H=>?_
  refine ZB b6_3 (ZcE (ZZ epx_5.h)) ?_;refine zn H fun _ el_6 H=>?_
  refine ZB 0 (Zaa el_6.h)<|ZB b6_3 (Zfb (ZdY el_6.h (by simp))) ?_;refine zC ?_;refine zh H fun o_9 H9 H=>?_
  refine Zo (fun s:(List UInt8)=>o_9=s) (fun (l_8:(List UInt8)) (⟨b_6,p_6,c_6⟩:Nat×Prop×Nat)=>(Env.set (Env.set Env.nil 1 (D size0)) 6 (Pt b6_3 0))) (fun (l_8:(List UInt8)) (⟨b_6,p_6,c_6⟩:Nat×Prop×Nat)=>[⟨b_6,p_6,(Row (l_8:List UInt8) c_6)⟩,⟨b6_3,True,(Ct.mix (One px_5) 3 (Sl b_6 p_6 0 l_8.length c_6))⟩]) ?_ ?_
  ·skip;refine Zp<|Zt H9 (fun ⟨x_10,l_12⟩ (⟨b_10,p_10,c_10⟩:Nat×Prop×Nat)=>(Env.set (Env.set (Env.set (Env.set (Env.set Env.nil 1 (D size0)) 6 (Pt b6_3 0)) 22 (D r0.At)) 23 (D ((r0.At.length:Int):Int))) 24 (D x_10))) (fun ⟨x_10,l_12⟩ (⟨b_10,p_10,c_10⟩:Nat×Prop×Nat)=>[⟨b_10,p_10,(Row (l_12:List UInt8) c_10)⟩,⟨b6_3,True,(Ct.mix (One px_5) 3 (Sl b_10 p_10 0 l_12.length c_10))⟩]) ⟨0,False,0⟩ (Za (Za (Za (Za (Za (Zc _)))))) (Zb rfl (Zb rfl (Zd _))) ?_;rintro ⟨x_10,l_12⟩ ⟨b_10,p_10,c_10⟩ x_13 H13 he13;replace H13:ZfW r0 x_10 l_12=some x_13:=H13;unfold ZfW at H13;refine zg ?_;refine zc H13 (fun hc H13=>?_) fun hc H13=>?_
   ·refine zg ?_;refine zb H13 fun x_14 _ H13=>?_
    refine zX (ZaH (ZI ZL) rfl) ?_;refine zb H13 fun x_15 _ H13=>?_
    refine TSx (OpY.buildSlice [.tmp 32,.tmp 34] rfl rfl (by decide)) ?_;refine zn H13 fun _ eu_17 H13=>?_
    refine TS.app (ys:=([(UInt8.ofInt x_15),(UInt8.ofInt x_14)]:List UInt8)) inferInstance eu_17.h rfl rfl rfl fun b36_15 p36_15 c36_15=>zg ?_
    refine Za0 (Zax CtH.same) ?_;refine zE ?_;refine zn H13 fun l_18 el_18 H13=>?_
    refine Zah b36_15 (Zaa el_18.h) ?_;refine zX (Zah b6_3 (Zfb (ZdY el_18.h rfl))) ?_;refine zb H13 fun x_19 _ H13=>?_
    exact Zq ⟨x_19,l_18⟩ ⟨b36_15,p36_15,c36_15⟩ (ZZs H13) (Za (Za (Za (Za (Za (Zc _)))))) (Zb rfl (Zb rfl (Zd _)))
   ·refine zg ?_;exact Zi l_12 ⟨b_10,p_10,c_10⟩ (he13 _ (ZZs H13)).symm (Za (Za (Zc _))) (Zb rfl (Zb rfl (Zd _)))
  rintro l_8 ⟨b_6,p_6,c_6⟩ hp;replace hp:=hp.symm;subst hp;refine zg ?_;refine TS.coll b6_3 b_6 (o:=3) (((PF 3 Page (List UInt8) Zv)).st (l_8:List UInt8)) (ZE PlS.all rfl) ?_;exact zY H
def Ze9 (r_2:(Page×Int)) (x_6:Int) (x_16:Int) (l_18:(List Int)):Option ((Int×(List Int))⊕(List Int)):=
 bif (decide (x_16<x_6)) then ((mulI (2:Int) x_16).bind fun x_20=>(idx r_2.1.Body x_20).bind fun x_21=>(shlI (x_21.toNat:Int) 8).bind fun x_22=>(mulI (2:Int) x_16).bind fun x_23=>(ZaA x_23 1).bind fun x_24=>(idx r_2.1.Body x_24).bind fun x_25=>(orI x_22 (x_25.toNat:Int)).bind fun x_26=>(Zfk 8 ((l_18.length+([x_26]:List Int).length:Nat):Int)).bind fun u_28=>(some ((l_18++([x_26]:List Int)):(List Int))).bind fun l_29=>(ZaA x_16 1).bind fun x_30=>some (.inl (x_30,l_29))) else (some (.inr l_18))
def ZgP (b0:(List UInt8)):Option (Roots×Int):=
 (ZdC b0).bind fun r_2=>bif (decide (r_2.2≠(0:Int))) then ((some ((⟨0,[]⟩:Roots):Roots)).bind fun k_4=>some (k_4,r_2.2)) else (bif (decide (r_2.1.Kind=(0:Int))) then ((some ((⟨0,[]⟩:Roots):Roots)).bind fun k_5=>some (k_5,(6:Int))) else ((ZkX (r_2.1.Body.length:Int) (2:Int)).bind fun x_6=>(gb (!(decide (r_2.1.Kind≠(2:Int)))) (remI (r_2.1.Body.length:Int) (2:Int))).bind fun x_7=>(gb (!((decide (r_2.1.Kind≠(2:Int)))||(decide (x_7≠(0:Int))))) (Zgf x_6 1)).bind fun x_8=>bif (((decide (r_2.1.Kind≠(2:Int)))||(decide (x_7≠(0:Int))))||(decide (r_2.1.Id≠(max (0:Int) x_8)))) then ((some ((⟨0,[]⟩:Roots):Roots)).bind fun k_9=>some (k_9,(2:Int))) else ((some ((⟨r_2.1.Gen,[]⟩:Roots):Roots)).bind fun r_11=>(some (([]:List Int):(List Int))).bind fun l_12=>(ZR (fun s=>Ze9 r_2 x_6 s.1 s.2) ((0:Int),l_12)).bind fun l_14=>(some ((⟨r_11.Gen,l_14⟩:Roots):Roots)).bind fun k_31=>some (k_31,(0:Int)))))
instance root_Read_c:Fd1 161 ZgP fun r=>Tup [D r.1,D r.2]:=en1 Tryz.func161 rfl Tryz.ntmps161 fun A w hA b0 r H=>by
 unfold ZgP at H;refine zg ?_;refine TS.alloc (α:=Roots) rfl fun b2_0=>zg ?_
 refine zb H fun r_2 _ H=>?_
 refine TS.alloc (α:=Page) rfl fun b4_2=>zg ?_
 refine zc H (fun hc H=>?_) fun hc H=>?_
 ·refine zg ?_;refine TSx (Zk (⟨0,[]⟩:Roots) rfl ⟨_,Tryz.underlying193,by kernel_rfl⟩ rfl rfl) ?_;exact zY H
 ·refine zg ?_;refine zc H (fun hc H=>?_) fun hc H=>?_
  ·refine zg ?_;refine TSx (Zk (⟨0,[]⟩:Roots) rfl ⟨_,Tryz.underlying193,by kernel_rfl⟩ rfl rfl) ?_;exact zY H
  ·refine zg ?_;refine zb H fun x_6 _ H=>?_
   refine zd H fun _ _ H=>?_
   refine zd H fun _ _ H=>?_
   refine zc H (fun hc H=>?_) fun hc H=>?_
   ·refine zg ?_;refine TSx (Zk (⟨0,[]⟩:Roots) rfl ⟨_,Tryz.underlying193,by kernel_rfl⟩ rfl rfl) ?_;exact zY H
   ·refine zg ?_;refine TS.nilE 0 Int ?_;refine TSx (OpY.buildZ (ps:=_) rfl ⟨_,Tryz.underlying193,by kernel_rfl⟩ (ZeroC.mix (α:=Roots) (o:=1) (b:=0) (ZeroC.one (α:=Roots)) rfl) (PartsC.d (((Pl.mix (PF 0 Roots UInt64 Zv) (by first | decide | omega))).st _) inferInstance)) ?_;refine TS.alloc (α:=Roots) rfl fun b7_9=>?_
    refine Za0 (ZP trivial rfl CtSc.h) ?_;refine zC ?_;refine zn H fun r_11 er_11 H=>?_
    refine ZB b7_9 (ZcE (ZZ er_11.h)) ?_;refine zn H fun _ el_12 H=>?_
    refine ZB 0 (Zaa el_12.h)<|ZB b7_9 (Zfb (ZdY el_12.h (by simp))) ?_;refine zC ?_;refine zh H fun o_15 H15 H=>?_
    refine Zo (fun s:(List Int)=>o_15=s) (fun (l_14:(List Int)) (⟨b_12,p_12,c_12⟩:Nat×Prop×Nat)=>(Env.set (Env.set Env.nil 2 (Pt b2_0 0)) 7 (Pt b7_9 0))) (fun (l_14:(List Int)) (⟨b_12,p_12,c_12⟩:Nat×Prop×Nat)=>[⟨b_12,p_12,(Row (l_14:List Int) c_12)⟩,⟨b2_0,True,(One ((Dat.z:Roots):Roots))⟩,⟨b7_9,True,(Ct.mix (One r_11) 1 (Sl b_12 p_12 0 l_14.length c_12))⟩]) ?_ ?_
    ·skip;refine Zp<|Zt H15 (fun ⟨x_16,l_18⟩ (⟨b_16,p_16,c_16⟩:Nat×Prop×Nat)=>(Env.set (Env.set (Env.set (Env.set (Env.set Env.nil 2 (Pt b2_0 0)) 4 (Pt b4_2 0)) 7 (Pt b7_9 0)) 48 (D x_6)) 49 (D x_16))) (fun ⟨x_16,l_18⟩ (⟨b_16,p_16,c_16⟩:Nat×Prop×Nat)=>[⟨b_16,p_16,(Row (l_18:List Int) c_16)⟩,⟨b2_0,True,(One ((Dat.z:Roots):Roots))⟩,⟨b4_2,True,(One r_2.1)⟩,⟨b7_9,True,(Ct.mix (One r_11) 1 (Sl b_16 p_16 0 l_18.length c_16))⟩]) ⟨0,False,0⟩ (Za (Za (Za (Za (Za (Zc _)))))) (Zb rfl (Zb rfl (Zb rfl (Zb rfl (Zd _))))) ?_;rintro ⟨x_16,l_18⟩ ⟨b_16,p_16,c_16⟩ x_19 H19 he19;replace H19:Ze9 r_2 x_6 x_16 l_18=some x_19:=H19;unfold Ze9 at H19;refine zg ?_;refine zc H19 (fun hc H19=>?_) fun hc H19=>?_
     ·refine zC ?_;refine zX (Zf8 [1,20,22] [b7_9,b_16] mix (by kernel_rfl) (by kernel_rfl)) ?_;refine zX (Zes (fun g=>Zeu rfl (ZI ZL)) rfl) ?_;refine zb H19 fun _ _ H19=>?_
      refine zb H19 fun _ _ H19=>?_
      refine zb H19 fun _ _ H19=>?_
      refine zb H19 fun _ _ H19=>?_
      refine zb H19 fun _ _ H19=>?_
      refine zb H19 fun _ _ H19=>?_
      refine zb H19 fun x_26 _ H19=>?_
      refine TRx (OpY.buildSlice [.tmp 70] rfl rfl (by decide)) ?_;refine zn H19 fun _ eu_28 H19=>?_
      refine zX (Zes (fun g=>OpT.appR (ys:=([x_26]:List Int)) inferInstance eu_28.h rfl rfl) rfl) ?_;refine ZcX (fun g=>(Zax CtH.same)) rfl ?_;refine zC ?_;rintro ⟨⟨⟨_,_⟩,⟨b72_26,p72_26,c72_26⟩⟩,_⟩;dsimp only [Fam.nextS,Fam.nextN,Fam.one,List.cons_append,List.nil_append];refine zn H19 fun l_29 el_29 H19=>?_
      refine Zah b72_26 (Zaa el_29.h) ?_;refine zX (Zah b7_9 (Zfb (ZdY el_29.h rfl))) ?_;refine zb H19 fun x_30 _ H19=>?_
      exact Zq ⟨x_30,l_29⟩ ⟨b72_26,p72_26,c72_26⟩ (ZZs H19) (Za (Za (Za (Za (Za (Zc _)))))) (Zb rfl (Zb rfl (Zb rfl (Zb rfl (Zd _)))))
     ·refine zg ?_;exact Zi l_18 ⟨b_16,p_16,c_16⟩ (he19 _ (ZZs H19)).symm (Za (Za (Zc _))) (Zb rfl (Zb rfl (Zb rfl (Zd _))))
    rintro l_14 ⟨b_12,p_12,c_12⟩ hp;replace hp:=hp.symm;subst hp;refine zg ?_;refine TS.coll b7_9 b_12 (o:=1) (((PF 1 Roots (List Int) Zv)).st (l_14:List Int)) (ZE PlS.all rfl) ?_;exact zY H
def ZdA (l0:(List (List UInt8))) (at_9:Int) (found_10:Bool) (blank_11:Bool) (x_12:Int) (newest_13:Roots):Option ((Int×Bool×Bool×Int×Roots)⊕(Int×Bool×Bool×Roots)):=
 bif (decide (x_12<(l0.length:Int))) then (((idx l0 x_12).bind fun x_20=>(gb blank_11 (ZfK x_20)).bind fun x_21=>(ZgP x_20).bind fun r_22=>bif ((decide (r_22.2=(0:Int)))&&((!found_10)||(decide (newest_13.Gen≤r_22.1.Gen)))) then (some (x_12,true,(blank_11&&x_21),r_22.1)) else (some (at_9,found_10,(blank_11&&x_21),newest_13))).bind fun o_19=>el4 o_19 (fun at_15 found_16 blank_17 newest_18=>(ZaA x_12 1).bind fun x_24=>some (.inl (at_15,found_16,blank_17,x_24,newest_18)))) else (some (.inr (at_9,found_10,blank_11,newest_13)))
def ZeD (l0:(List (List UInt8))):Option (Int×Roots×Int):=
 (some ((⟨0,[]⟩:Roots):Roots)).bind fun newest_3=>(ZR (fun s=>ZdA l0 s.1 s.2.1 s.2.2.1 s.2.2.2.1 s.2.2.2.2) ((0:Int),false,true,(0:Int),newest_3)).bind fun o_8=>el4 o_8 (fun at_4 found_5 blank_6 newest_7=>bif found_5 then (some (at_4,newest_7,(0:Int))) else (bif blank_6 then ((some ((⟨0,[]⟩:Roots):Roots)).bind fun k_25=>some ((0:Int),k_25,(6:Int))) else ((some ((⟨0,[]⟩:Roots):Roots)).bind fun k_26=>some ((0:Int),k_26,(2:Int)))))
instance root_Newest_c:Fd1 144 ZeD fun r=>Tup [D r.1,D r.2.1,D r.2.2]:=en1 Tryz.func144 rfl Tryz.ntmps144 fun A w hA l0 r H=>by
 unfold ZeD at H;refine zg ?_;refine TS.alloc (α:=Roots) rfl fun b3_0=>zg ?_
 refine TSx (Zk (⟨0,[]⟩:Roots) rfl ⟨_,Tryz.underlying193,by kernel_rfl⟩ rfl rfl) ?_;refine TS.alloc (α:=Roots) rfl fun b6_1=>?_
 refine zC ?_;refine zn H fun _ enewest_3 H=>?_
 refine ZB b6_1 (ZZ enewest_3.h) ?_;refine zC ?_;refine zh H fun o_8 H8 H=>?_
 refine Zo (fun s:(Int×Bool×Bool×Roots)=>o_8=s) (fun ⟨at_4,found_5,blank_6,newest_7⟩ (_:Unit)=>(Env.set (Env.set (Env.set (Env.set (Env.set Env.nil 3 (Pt b3_0 0)) 5 (D at_4)) 6 (Pt b6_1 0)) 7 (D found_5)) 8 (D blank_6))) (fun ⟨at_4,found_5,blank_6,newest_7⟩ (_:Unit)=>[⟨b3_0,True,(One ((Dat.z:Roots):Roots))⟩,⟨b6_1,True,(One newest_7)⟩]) ?_ ?_
 ·skip;refine Zp<|Zt H8 (fun ⟨at_9,found_10,blank_11,x_12,newest_13⟩ (_:Unit)=>(Env.set (Env.set (Env.set (Env.set (Env.set (Env.set (Env.set (Env.set Env.nil 3 (Pt b3_0 0)) 5 (D at_9)) 6 (Pt b6_1 0)) 7 (D found_10)) 8 (D blank_11)) 14 (D l0)) 15 (D ((l0.length:Int):Int))) 16 (D x_12))) (fun ⟨at_9,found_10,blank_11,x_12,newest_13⟩ (_:Unit)=>[⟨b3_0,True,(One ((Dat.z:Roots):Roots))⟩,⟨b6_1,True,(One newest_13)⟩]) () (Za (Za (Za (Za (Za (Za (Za (Za (Zc _))))))))) (Zb rfl (Zb rfl (Zd _))) ?_;rintro ⟨at_9,found_10,blank_11,x_12,newest_13⟩ ⟨⟩ x_14 H14 he14;replace H14:ZdA l0 at_9 found_10 blank_11 x_12 newest_13=some x_14:=H14;unfold ZdA at H14;refine zg ?_;refine zc H14 (fun hc H14=>?_) fun hc H14=>?_
  ·refine Zat<|Zae<|Zas ?_;refine zh H14 fun o_19 H19 H14=>?_
   refine Zo (fun s:(Int×Bool×Bool×Roots)=>o_19=s) (fun ⟨at_15,found_16,blank_17,newest_18⟩ (_:Unit)=>(Env.set (Env.set (Env.set (Env.set (Env.set (Env.set (Env.set (Env.set Env.nil 3 (Pt b3_0 0)) 5 (D at_15)) 6 (Pt b6_1 0)) 7 (D found_16)) 8 (D blank_17)) 14 (D l0)) 15 (D ((l0.length:Int):Int))) 16 (D x_12))) (fun ⟨at_15,found_16,blank_17,newest_18⟩ (_:Unit)=>[⟨b3_0,True,(One ((Dat.z:Roots):Roots))⟩,⟨b6_1,True,(One newest_18)⟩]) ?_ ?_
   ·skip;refine zg ?_;refine zb H19 fun _ _ H19=>?_
    refine zd H19 fun x_21 _ H19=>?_
    refine zb H19 fun r_22 _ H19=>?_
    refine TS.alloc (α:=Roots) rfl fun b11_22=>zg ?_
    refine zX (Zmx 36 rfl (fun hp hg=>Zkf) rfl) ?_;refine zc H19 (fun hc H19=>?_) fun hc H19=>?_
    ·refine zX (Zf8 [3] [b6_1] mix (by kernel_rfl) (by kernel_rfl)) ?_;refine ZcX (fun g=>(Zy (y:=(r_22.1:Roots)) Zv)) rfl ?_;refine zC ?_;rintro ⟨_,_⟩;dsimp only [Fam.nextS,Fam.nextN,Fam.one,List.cons_append,List.nil_append];refine zg ?_;exact Zi ⟨x_12,true,(blank_11&&x_21),r_22.1⟩ () (ZZs H19) (Za (Za (Za (Za (Za (Za (Za (Za (Zc _))))))))) (Zb rfl (Zb rfl (Zd _)))
    ·refine zg ?_;exact Zi ⟨at_9,found_10,(blank_11&&x_21),newest_13⟩ () (ZZs H19) (Za (Za (Za (Za (Za (Za (Za (Za (Zc _))))))))) (Zb rfl (Zb rfl (Zd _)))
   rintro ⟨at_15,found_16,blank_17,newest_18⟩ ⟨⟩ hp;replace hp:=hp.symm;subst hp;replace H14:=el4_mk H14;refine zg ?_;refine zb H14 fun x_24 _ H14=>?_
   exact Zq ⟨at_15,found_16,blank_17,x_24,newest_18⟩ () (ZZs H14) (Za (Za (Za (Za (Za (Za (Za (Za (Zc _))))))))) (Zb rfl (Zb rfl (Zd _)))
  ·refine zg ?_;exact Zi ⟨at_9,found_10,blank_11,newest_13⟩ () (he14 _ (ZZs H14)).symm (Za (Za (Za (Za (Za (Zc _)))))) (Zb rfl (Zb rfl (Zd _)))
 rintro ⟨at_4,found_5,blank_6,newest_7⟩ ⟨⟩ hp;replace hp:=hp.symm;subst hp;replace H:=el4_mk H;refine zg ?_;refine zc H (fun hc H=>?_) fun hc H=>?_
 ·refine zX (ZaM [3] [b3_0] mix (by kernel_rfl) (by kernel_rfl)) ?_;refine ZcX (fun g=>(Zy (y:=(newest_7:Roots)) Zv)) rfl ?_;refine zC ?_;rintro ⟨_,_⟩;dsimp only [Fam.nextS,Fam.nextN,Fam.one,List.cons_append,List.nil_append];exact zY H
 ·refine zg ?_;refine zc H (fun hc H=>?_) fun hc H=>?_
  ·refine zg ?_;refine TSx (Zk (⟨0,[]⟩:Roots) rfl ⟨_,Tryz.underlying193,by kernel_rfl⟩ rfl rfl) ?_;exact zY H
  ·refine zg ?_;refine TSx (Zk (⟨0,[]⟩:Roots) rfl ⟨_,Tryz.underlying193,by kernel_rfl⟩ rfl rfl) ?_;exact zY H
end Go.Proofs.YtkmojgfenlgchaaGreatDoor.Tr
namespace Go.Proofs.YtkmojgfenlgchaaGreatDoor.Tr
open Go
def crcPoly:UInt32:=0xEDB88320
def crcBit (n:UInt32):UInt32:=UInt32.ofNat (n.toNat/2 ^ (1:Int).toNat) ^^^ crcPoly*(n &&& 1)
def crcBits:Nat→UInt32→UInt32
 | 0,n=>n
 | k+1,n=>crcBit (crcBits k n)
def Zgr (n:UInt32) (xs:List UInt8):UInt32:=xs.foldl (fun n x=>crcBits 8 (n ^^^ x.toUInt32)) n
def crcOn (s:UInt32) (xs:List UInt8):UInt32:= ~~~Zgr (~~~s) xs
def ZdE (xs:List UInt8):UInt64:=xs.foldl (fun n x=>UInt64.ofNat (n.toNat*2 ^ (8:Int).toNat) ||| x.toUInt64) 0
def byteAt (n:UInt64) (k:Nat):UInt8:=(UInt64.ofNat (n.toNat/2 ^ (8*(k:Int)).toNat)).toUInt8
def Zbw (n:UInt64):Nat→List UInt8
 | 0=>[]
 | k+1=>byteAt n k::Zbw n k
def ZjT (n:UInt64) (m:Int):List UInt8:=if 1≤m∧m≤8 then Zbw n m.toNat else []
theorem Zea {α:Type} {xs:List α} {k:Nat} (hk:k<xs.length):xs.take (k+1)=xs.take k++[xs[k]]:=by
 rw [List.take_succ_eq_append_getElem hk]
theorem crc_step8 {n:UInt32} {xs:List UInt8} {k j:Nat} (hk:k<xs.length) (hj:j=8):crcBits j (Zgr n (xs.take k) ^^^ xs[k].toUInt32)=Zgr n (xs.take (k+1)):=by
 subst hj;rw [Zea hk];unfold Zgr;rw [List.foldl_append];rfl
theorem getNum_step {xs:List UInt8} {k:Nat} (hk:k<xs.length):UInt64.ofNat ((ZdE (xs.take k)).toNat*2 ^ (8:Int).toNat) ||| xs[k].toUInt64=ZdE (xs.take (k+1)):=by
 rw [Zea hk];unfold ZdE;rw [List.foldl_append];rfl
theorem or_add (n:UInt64) (x:UInt8):UInt64.ofNat (n.toNat*2 ^ (8:Int).toNat) ||| x.toUInt64=n*256+x.toUInt64:=by
 rw [← UInt64.toNat_inj,UInt64.toNat_or,UInt64.toNat_add,UInt64.toNat_mul,UInt64.toNat_ofNat',UInt8.toNat_toUInt64];have hx:=x.toNat_lt;have h1:(256:UInt64).toNat=256:=rfl;have h2:2 ^ (8:Int).toNat=256:=rfl;rw [h1,h2];have h3:n.toNat*256 % 2 ^ 64=(n.toNat % 2 ^ 56) <<< 8:=by
  rw [Nat.shiftLeft_eq];omega
 rw [h3,← Nat.shiftLeft_add_eq_or_of_lt (by omega),Nat.shiftLeft_eq];omega
theorem Zaz (n:UInt64) (k:Nat):(Zbw n k).length=k:=by
 induction k with
 | zero=>rfl
 | succ k ih=>simp [Zbw,ih]
theorem putOf_none {n:UInt64} {m:Int} (h:m<1∨8<m):ZjT n m=[]:=by
 unfold ZjT;rw [if_neg (by omega)]
theorem put_step {n:UInt64} {m:Int} {k:Nat} (hk:k<m.toNat) (h:0≤m) :
  (List.replicate (m.toNat-k) 0++Zbw n k).set (m-1-(k:Int)).toNat (byteAt n k)=List.replicate (m.toNat-(k+1)) 0++Zbw n (k+1):=by
 have e1:(m-1-(k:Int)).toNat=m.toNat-(k+1):=by omega
 have e2:m.toNat-k=(m.toNat-(k+1))+1:=by omega
 rw [e1,e2,List.replicate_succ',List.append_assoc,List.set_append_right _ _ (by simp)];simp [Zbw]
theorem put_end {n:UInt64} {m:Int} {k:Nat} (hk:k=m.toNat) (h1:1≤m) (h2:m≤8):List.replicate (m.toNat-k) 0++Zbw n k=ZjT n m:=by
 subst hk;unfold ZjT;rw [if_pos ⟨h1,h2⟩];simp
theorem ZiB {n:UInt64} {m:Int} (h1:1≤m) (h2:m≤8):ZjT n m=Zbw n m.toNat:=by unfold ZjT;rw [if_pos ⟨h1,h2⟩]
theorem putOf_le (n:UInt64) (m:Int):(ZjT n m).length≤8:=by
 unfold ZjT;split
 ·rw [Zaz];omega
 ·simp
theorem Zmj {α:Type} {xss:List (List α)} {k:Nat} (hk:k<xss.length):(xss.take (k+1)).flatten=(xss.take k).flatten++xss[k]:=by
 rw [Zea hk,List.flatten_append];simp
theorem Zk3 {α:Type} (xss:List (List α)) (k:Nat):(xss.take k).flatten.length≤xss.flatten.length:=by
 have h:=List.take_append_drop k xss;have h2:(xss.take k).flatten++(xss.drop k).flatten=xss.flatten:=by rw [← List.flatten_append,h]
 rw [← h2,List.length_append];omega
def ZbK (xs:List UInt8):List UInt8:=xs++ZjT (crcOn 0 xs).toUInt64 4
theorem Zk6 (n:UInt64) (k:Nat):(byteAt n k).toNat=n.toNat/256 ^ k % 256:=by
 unfold byteAt;have h1:n.toNat/2 ^ (8*(k:Int)).toNat<2 ^ 64:=Nat.lt_of_le_of_lt (Nat.div_le_self _ _) n.toNat_lt;rw [UInt64.toNat_toUInt8,UInt64.toNat_ofNat_of_lt' h1];rw [show (8*(k:Int)).toNat=8*k by omega,Nat.pow_mul]
def ZhN (xs:List UInt8):Nat:=xs.foldl (fun n x=>n*256+x.toNat) 0
theorem natNum_from (xs:List UInt8) (a:Nat):xs.foldl (fun n x=>n*256+x.toNat) a=a*256 ^ xs.length+ZhN xs:=by
 unfold ZhN
 induction xs generalizing a with
 | nil=>simp
 | cons x xs ih=>
  simp only [List.foldl_cons,List.length_cons];rw [ih,ih (0*256+x.toNat),Nat.pow_succ,Nat.zero_mul,Nat.zero_add,Nat.add_mul,Nat.mul_comm (256 ^ xs.length) 256,← Nat.mul_assoc];omega
theorem Zjr (x:UInt8) (xs:List UInt8):ZhN (x::xs)=x.toNat*256 ^ xs.length+ZhN xs:=by
 show (xs.foldl _ (0*256+x.toNat))=_;rw [natNum_from];simp
theorem Zj0 (xs:List UInt8):ZhN xs<256 ^ xs.length:=by
 induction xs with
 | nil=>simp [ZhN]
 | cons x xs ih=>
  rw [Zjr,List.length_cons,Nat.pow_succ];have:=x.toNat_lt;have h:x.toNat*256 ^ xs.length≤255*256 ^ xs.length:=Nat.mul_le_mul_right _ (by omega);omega
theorem natNum_put (n:UInt64) (k:Nat):ZhN (Zbw n k)=n.toNat % 256 ^ k:=by
 induction k with
 | zero=>simp [Zbw,ZhN,Nat.mod_one]
 | succ k ih=>
  rw [Zbw,Zjr,ih,Zaz,Zk6,Nat.pow_succ,Nat.mod_mul];rw [Nat.mul_comm (256 ^ k)];omega
theorem ZiG (xs:List UInt8):(ZdE xs).toNat=ZhN xs % 2 ^ 64:=by
 have h:∀ (xs:List UInt8) (a:UInt64) (b:Nat),a.toNat=b % 2 ^ 64→(xs.foldl (fun n x=>UInt64.ofNat (n.toNat*2 ^ (8:Int).toNat) ||| x.toUInt64) a).toNat=(xs.foldl (fun n x=>n*256+x.toNat) b) % 2 ^ 64:=by
  intro xs
  induction xs with
  | nil=>intro a b h;simpa using h
  | cons x xs ih=>
   intro a b h;simp only [List.foldl_cons];refine ih _ _ ?_;rw [or_add,UInt64.toNat_add,UInt64.toNat_mul,UInt8.toNat_toUInt64,h];show (b % 2 ^ 64*256 % 2 ^ 64+x.toNat) % 2 ^ 64=_;omega
 exact h xs 0 0 rfl
theorem get_put (n:UInt64) {k:Nat} (hk:k≤8):(ZdE (Zbw n k)).toNat=n.toNat % 256 ^ k:=by
 rw [ZiG,natNum_put];have:256 ^ k≤2 ^ 64:=Nat.le_trans (Nat.pow_le_pow_right (by decide) hk) (by decide);have h2:n.toNat % 256 ^ k<256 ^ k:=Nat.mod_lt _ (Nat.pow_pos (by decide));omega
theorem put_get (xs:List UInt8) (h:xs.length≤8):Zbw (ZdE xs) xs.length=xs:=by
 have hval:(ZdE xs).toNat=ZhN xs:=by
  rw [ZiG];have h1:=Zj0 xs;have:256 ^ xs.length≤2 ^ 64:=Nat.le_trans (Nat.pow_le_pow_right (by decide) h) (by decide);omega
 have key:∀ (ys:List UInt8) (n:UInt64),(∃ c,n.toNat=c*256 ^ ys.length+ZhN ys)→Zbw n ys.length=ys:=by
  intro ys
  induction ys with
  | nil=>intro n _;rfl
  | cons y ys ih=>
   intro n ⟨c,hc⟩;rw [Zjr,List.length_cons,Nat.pow_succ] at hc;have hlt:=Zj0 ys;have hy:=y.toNat_lt;have hp:0<256 ^ ys.length:=Nat.pow_pos (by decide);have hc2:n.toNat=(c*256+y.toNat)*256 ^ ys.length+ZhN ys:=by rw [hc,Nat.add_mul,Nat.mul_assoc,Nat.mul_comm 256];omega
   show byteAt n ys.length::Zbw n ys.length=y::ys;rw [ih n ⟨_,hc2⟩];congr 1;rw [← UInt8.toNat_inj,Zk6,hc2,Nat.mul_comm (c*256+y.toNat),Nat.mul_add_div hp,Nat.div_eq_of_lt hlt];omega
 exact key xs _ ⟨0,by rw [hval];simp⟩
theorem sum_bytes {s:UInt32} {ys:List UInt8} (hy:ys.length=4):s.toUInt64=ZdE ys↔ZjT s.toUInt64 4=ys:=by
 rw [ZiB (by decide) (by decide)]
 constructor
 ·intro h;rw [h];have:=put_get ys (by omega);rw [hy] at this;exact this
 ·intro h;have h1:=get_put s.toUInt64 (k:=(4:Int).toNat) (by decide);rw [h] at h1;rw [← UInt64.toNat_inj,h1];have h2:s.toUInt64.toNat=s.toNat:=by simp
  have:=s.toNat_lt;rw [h2];show s.toNat=s.toNat % 256 ^ 4;omega
theorem sealed_iff {xs:List UInt8} (h:¬ xs.length<4):ZbK (xs.take (xs.length-4))=xs↔(crcOn 0 (xs.take (xs.length-4))).toUInt64=ZdE (xs.drop (xs.length-4)):=by
 have e:=List.take_append_drop (xs.length-4) xs;have hl:(xs.drop (xs.length-4)).length=4:=by simp;omega
 rw [sum_bytes hl];unfold ZbK
 constructor
 ·intro h1;rw [← List.append_cancel_left_eq (xs.take (xs.length-4)),h1,e]
 ·intro h1;rw [h1,e]
def stOf (d:List UInt8) (c:UInt32):List UInt8:=d++Zbw c.toUInt64 4
theorem stOf_length (d:List UInt8) (c:UInt32):(stOf d c).length=d.length+4:=by simp [stOf,Zaz]
theorem ZjP (d:List UInt8):ZbK d=stOf d (crcOn 0 d):=by
 unfold ZbK stOf;rw [ZiB (by decide) (by decide)];rfl
theorem Zhj (b:List UInt8):(ZbK b).length=b.length+4:=by rw [ZjP,stOf_length]
theorem sum_On_eq (s:UInt32) (b:List UInt8) (hb:b.length≤1000000):sum_On s b=some (crcOn s b):=by
 unfold sum_On;refine (Zbs (Zap (fun i=>(Zgr (~~~s) (b.take i),(i:Int))) b.length (e:=Zgr (~~~s) b) (by omega) (fun i hi=>?_) ?_ rfl)).trans ?_
 rotate_right
 ·rfl
 ·unfold ZhZ;dsimp only;rw [ZgU hi,Zx,ZQ hi,Ze];refine (Zbs (Zap (fun k=>(crcBits k (Zgr (~~~s) (b.take i) ^^^ b[i].toUInt32),(k:Int))) 8 (e:=Zgr (~~~s) (b.take (i+1))) (by omega) (fun k hk=>?_) ?_ rfl)).trans ?_
  rotate_right
  ·rw [Zao (by omega),Ze]
  ·unfold ZhY;dsimp only;rw [show decide ((k:Int)<(8:Int))=true by simp;omega,Zx,Ze,Ze,Zao (by omega),Ze];rfl
  ·unfold ZhY;dsimp only;rw [show decide (((8:Nat):Int)<(8:Int))=false by decide,Zw,crc_step8 hi rfl]
 ·unfold ZhZ;dsimp only;rw [Zmg,Zw,List.take_length]
theorem sum_Of_eq (b:List UInt8) (hb:b.length≤1000000):sum_Of b=some (crcOn 0 b):=by
 unfold sum_Of;rw [show (UInt32.ofNat 0)=0 from rfl,sum_On_eq 0 b hb,Ze]
theorem Zkr (b:List UInt8) (hb:b.length≤1000000):Zjg b=some (ZdE b):=by
 unfold Zjg;refine (Zbs (Zap (fun i=>(ZdE (b.take i),(i:Int))) b.length (e:=ZdE b) (by omega) (fun i hi=>?_) ?_ rfl)).trans ?_
 rotate_right
 ·rfl
 ·unfold ZgL;dsimp only;rw [ZgU hi,Zx,ZQ hi,Ze,Ze,Zao (by omega),Ze,← getNum_step hi];rfl
 ·unfold ZgL;dsimp only;rw [Zmg,Zw,List.take_length]
theorem Zkq (n:UInt64) (m:Int):Zjf n m=some (ZjT n m):=by
 unfold Zjf
 by_cases h:1≤m∧m≤8
 ·obtain ⟨k,rfl⟩:=Int.eq_ofNat_of_zero_le (show 0≤m by omega);have hk:1≤k∧k≤8:=by omega
  rw [Zh (by simp;omega),Zbf (by omega) (by omega) (by omega),Ze,Ze];refine (Zbs (Zap (fun i=>((i:Int),(List.replicate (k-i) (Dat.z:UInt8)++Zbw n i))) k (e:=ZjT n k) (by omega) (fun i hi=>?_) ?_ (by simp [Zbw]))).trans ?_
  rotate_right
  ·rfl
  ·unfold ZgK;dsimp only;rw [List.length_replicate,Int.toNat_natCast,ZgU hi,Zx,Za6 (by omega) (by omega),Ze,Za6 (by omega) (by omega),Ze,Zme (by omega) (by omega),Ze];rw [show cnt (8*(i:Int))=some (8*i) by unfold cnt;rw [if_pos (by omega)];congr 1,Ze];rw [idx_of (by omega) (by simp [Zaz];omega),Ze,Ze,Zao (by omega),Ze];have h1:=put_step (n:=n) (m:=k) (k:=i) (by simpa using hi) (by omega);rw [Int.toNat_natCast] at h1;exact congrArg (fun z:List UInt8=>some (Sum.inl (((i+1:Nat):Int),z))) h1
  ·unfold ZgK;dsimp only;rw [List.length_replicate,Int.toNat_natCast,Zmg,Zw];have h1:=put_end (n:=n) (m:=k) (k:=k) rfl (by omega) (by omega);rw [Int.toNat_natCast] at h1;exact congrArg (fun z:List UInt8=>some (Sum.inr z)) h1
 ·rw [Zl (by simp;omega),putOf_none (by omega)]
theorem concat2_eq (a b:List UInt8) (ha:a.length≤1000000) (hb:b.length≤1000000):Zb8 [a,b]=some (a++b):=by
 unfold Zb8;refine (Zbs (Zap (fun i=>((([a,b].take i).flatten.length:Int),(i:Int))) 2 (e:=((a++b).length:Int)) (by omega) (fun i hi=>?_) ?_ rfl)).trans ?_
 rotate_right
 ·unfold ZdJ;rw [Zh (by simp;omega),Za6 (by omega) (by omega),Ze,Za6 (by simp;omega) (by simp;omega),Ze];have e:∀ x:List UInt8,x=[]→(some x).bind (fun s_2=>some s_2)=some ([]:List UInt8):=fun x h=>by rw [h,Ze]
  have e9:(bif decide ((((a++b).length:Int))-((0:Int)-0)>(0:Int)) then ((Zfk 1 ((((a++b).length:Int))-((0:Int)-0))).bind fun u_6=>(posI ((((a++b).length:Int))-((0:Int)-0))).bind fun u_7=>(cut (List.replicate (Int.toNat ((((a++b).length:Int))-((0:Int)-0))) (Dat.z:UInt8)).length 0 (0:Int)).bind fun u_9=>(some (((List.replicate (Int.toNat ((((a++b).length:Int))-((0:Int)-0))) (Dat.z:UInt8)).take (Int.toNat (0:Int))):(List UInt8))).bind fun l_10=>some l_10) else (some []))=some ([]:List UInt8):=by
   by_cases h0:0<(a++b).length
   ·rw [Zl (by simp at h0 ⊢;omega),Zbf (by simp;omega) (by simp;omega) (by simp;omega),Ze,posI_ok (by simp at h0 ⊢;omega),Ze,ZhO (by omega) (by omega) (by simp;omega),Ze,Ze];simp
   ·rw [Zh (by simp at h0 ⊢;simp [h0])]
  rw [Zbs e9,Ze];refine (Zbs (Zap (fun i=>((i:Int),([a,b].take i).flatten)) 2 (e:=a++b) (by omega) (fun i hi=>?_) ?_ rfl)).trans ?_
  rotate_right
  ·rfl
  ·unfold Zbl;dsimp only;rw [show decide ((i:Int)<(([a,b].length:Nat):Int))=true by simp;omega,Zx,ZQ (show i < [a,b].length by simpa using hi),Ze];have h1:=Zmj (xss:=[a,b]) (k:=i) (by simpa using hi);have h2:([a,b].take i).flatten.length+([a,b][i]'(by simpa using hi)).length≤2000000:=by
    rw [← List.length_append,← h1];have:=Zk3 [a,b] (i+1);have e3:[a,b].flatten.length=a.length+b.length:=by simp
    omega
   rw [Zbf (by omega) (by omega) (by omega),Ze,Ze,Zao (by omega),Ze,← h1]
  ·unfold Zbl;dsimp only;rw [show decide (((2:Nat):Int)<(([a,b].length:Nat):Int))=false by simp,Zw];simp
 ·unfold Zbm;dsimp only;rw [show decide ((i:Int)<(([a,b].length:Nat):Int))=true by simp;omega,Zx,ZQ (show i < [a,b].length by simpa using hi),Ze];have h1:=Zmj (xss:=[a,b]) (k:=i) (by simpa using hi);have h2:([a,b].take i).flatten.length+([a,b][i]'(by simpa using hi)).length≤2000000:=by
   rw [← List.length_append,← h1];have:=Zk3 [a,b] (i+1);have e3:[a,b].flatten.length=a.length+b.length:=by simp
   omega
  rw [Zad (by omega) (by omega),Ze,Zh (by simp;omega),Zao (by omega),Ze,h1,List.length_append];rfl
 ·unfold Zbm;dsimp only;rw [show decide (((2:Nat):Int)<(([a,b].length:Nat):Int))=false by simp,Zw];simp
def Zf9 (s:Int):Prop:=24≤s∧s≤256
instance {s:Int}:Decidable (Zf9 s):=by unfold Zf9;exact inferInstance
def PMay (p:Page) (s:Int):Prop:=Zf9 s∧(p.Kind=1∨p.Kind=2)∧0≤p.Id∧p.Id<64∧p.Gen<UInt64.ofNat 281474976710656∧(p.Body.length:Int)≤s-16
instance {p:Page} {s:Int}:Decidable (PMay p s):=by unfold PMay;exact inferInstance
theorem Zgo (s:Int):ZfY s=some (decide (Zf9 s)):=by
 unfold ZfY;congr 1;rw [Bool.eq_iff_iff];simp only [Bool.and_eq_true,decide_eq_true_eq,ge_iff_le];rfl
theorem and_gb {c:Bool} {r d:Int} {P:Int→Bool}:(c&&P (bif c then r else d))=(c&&P r):=by cases c <;> rfl
def Zfh (s:Int):Int:=if Zf9 s then s-16 else 0
theorem Zfa (s:Int):Zdb s=some (Zfh s):=by
 unfold Zdb Zfh;rw [Zgo,Ze]
 by_cases h:Zf9 s
 ·have h2:=h;unfold Zf9 at h2;rw [Zh (by simp [h]),Za6 (by omega) (by omega),Ze,if_pos h]
 ·rw [Zl (by simp [h]),if_neg h]
theorem Zl8 (p:Page) (s:Int):ZiC p s=some (decide (PMay p s)):=by
 unfold ZiC;rw [Zgo,Ze,Zh9 (Zfa s),Ze,and_gb (P:=fun r=>decide ((p.Body.length:Int)≤r))];congr 1;rw [Bool.eq_iff_iff];simp only [Bool.and_eq_true,Bool.or_eq_true,decide_eq_true_eq];unfold PMay Zfh
 constructor
 ·rintro ⟨⟨⟨⟨⟨h1,h2⟩,h3⟩,h4⟩,h5⟩,h6⟩;rw [if_pos h1] at h6;exact ⟨h1,h2,h3,h4,h5,h6⟩
 ·rintro ⟨h1,h2,h3,h4,h5,h6⟩;rw [if_pos h1];exact ⟨⟨⟨⟨⟨h1,h2⟩,h3⟩,h4⟩,h5⟩,h6⟩
theorem blank_loop {f:Int→Option (Int⊕(Unit⊕Bool))} {b:List UInt8} (hb:b.length≤1000000000000000)
  (h1:∀ i,(hi:i<b.length)→b[i]≠255→f (i:Int)=some (.inr (.inr false))) (h2:∀ i,(hi:i<b.length)→b[i]=255→f (i:Int)=some (.inl ((i+1:Nat):Int))) (h3:f (b.length:Int)=some (.inr (.inl ()))) :
  ((ZR f (0:Int)).bind fun o=>elS o (fun _=>some true) (fun q=>some q))=some (decide (∀ x∈b,x=255)):=by
 rcases ZfL (f:=f) (fun i=>(i:Int)) b.length (fun i=>decide (b.getD i 255≠255)) (fun _=>.inr false) (y:=.inl ()) (by omega)
  (fun i hi hp=>h2 i hi (by simpa [List.getD_eq_getElem?_getD,List.getElem?_eq_getElem hi] using hp))
  (fun i hi hp=>h1 i hi (by simpa [List.getD_eq_getElem?_getD,List.getElem?_eq_getElem hi] using hp)) h3 (s:=(0:Int)) rfl with ⟨i,hi,hp,-,e⟩ | ⟨hall,e⟩
 ·rw [e,Ze,ZbI];congr 1
  symm
  simp only [decide_eq_false_iff_not];intro h;have:=h _ (List.getElem_mem hi);simp [List.getD_eq_getElem?_getD,List.getElem?_eq_getElem hi,this] at hp
 ·rw [e,Ze,ZaV];congr 1
  symm
  simp only [decide_eq_true_eq];intro x hx;obtain ⟨j,hj,rfl⟩:=List.getElem_of_mem hx;have:=hall j hj;simpa [List.getD_eq_getElem?_getD,List.getElem?_eq_getElem hj] using this
theorem ZjU (b:List UInt8) (hb:b.length≤1000000000000000):ZfK b=some (decide (∀ x∈b,x=255)):=by
 unfold ZfK;refine blank_loop hb (fun i hi hx=>?_) (fun i hi hx=>?_) ?_ <;> unfold ZfB
 ·rw [ZgU hi,Zx,ZQ hi,Ze,Zl (by simpa using hx)]
 ·rw [ZgU hi,Zx,ZQ hi,Ze,Zh (by simpa using hx),Zao (by omega),Ze]
 ·rw [Zmg,Zw]
def Zh4 (p:Page):List UInt8:=[UInt8.ofInt p.Kind,UInt8.ofInt p.Id]++Zbw p.Gen 6++Zbw (UInt64.ofNat p.Body.length) 2
def ZbL (p:Page) (n:Nat):List UInt8:=Zh4 p++p.Body++List.replicate (n-14-p.Body.length) 0
def PutV (p:Page) (s:Int):List UInt8×Int:=if PMay p s then (ZbK (ZbL p s.toNat),0) else ([],1)
theorem Zgp (p:Page):(Zh4 p).length=10:=by simp [Zh4,Zaz]
theorem ZjY {p:Page} {s:Int} (h:PMay p s):(ZbL p s.toNat).length=s.toNat-4:=by
 obtain ⟨⟨h1,h2⟩,-,-,-,-,h3⟩:=h;simp [ZbL,Zgp];omega
theorem ZlY {a b ys:List UInt8} {k m:Nat} (hk:k=a.length) (hm:m≤b.length) (hy:ys.length≤m):splice (a++b) k (over (((a++b).drop k).take m) ys)=a++ys++b.drop ys.length:=by
 subst hk;unfold splice over;rw [List.drop_left,List.take_left];have e1:(b.take m).length=m:=by simp;omega
 rw [e1,List.take_of_length_le hy];have e2:(ys++(b.take m).drop ys.length).length=m:=by simp;omega
 rw [e2,← List.drop_drop,List.drop_left,List.append_assoc,List.append_assoc,List.append_assoc];congr 2;have:b.drop ys.length=(b.take m).drop ys.length++b.drop m:=by
  have h:=congrArg (List.drop ys.length) (List.take_append_drop m b);rw [List.drop_append_of_le_length (by omega)] at h;exact h.symm
 rw [this]
theorem Zhn (p:Page) (s:Int):ZfA p s=some (PutV p s):=by
 unfold ZfA PutV;rw [Zl8,Ze]
 by_cases h:PMay p s
 ·rw [Zh (by simp [h]),if_pos h];have hm:=h;obtain ⟨⟨h1,h2⟩,h3,h4,h5,h6,h7⟩:=h;obtain ⟨n,rfl⟩:=Int.eq_ofNat_of_zero_le (show 0≤s by omega);rw [Za6 (by omega) (by omega),Ze,Zbf (by omega) (by omega) (by omega),Ze,Ze];have e0:List.replicate (Int.toNat ((n:Int)-4)) (Dat.z:UInt8)=[0,0]++List.replicate (n-6) 0:=by
   rw [show ((n:Int)-4).toNat=(n-6)+1+1 by omega,List.replicate_succ,List.replicate_succ];rfl
  rw [e0,idx_of (by omega) (by simp;omega),Ze];rw [idx_of (by omega) (by simp;omega),Ze,Ze];have e1:(([0,0]++List.replicate (n-6) (0:UInt8)).set (Int.toNat (0:Int)) (UInt8.ofInt p.Kind)).set (Int.toNat (1:Int)) (UInt8.ofInt p.Id)=[UInt8.ofInt p.Kind,UInt8.ofInt p.Id]++List.replicate (n-6) (0:UInt8):=rfl;rw [e1,ZhO (by omega) (by omega) (by simp;omega),Ze,Zkq,Ze,Ze];have e2:splice ([UInt8.ofInt p.Kind,UInt8.ofInt p.Id]++List.replicate (n-6) (0:UInt8)) (Int.toNat 2) (over ((([UInt8.ofInt p.Kind,UInt8.ofInt p.Id]++List.replicate (n-6) (0:UInt8)).drop (Int.toNat 2)).take ((8:Int)-2).toNat) (ZjT p.Gen 6))=([UInt8.ofInt p.Kind,UInt8.ofInt p.Id]++Zbw p.Gen 6)++List.replicate (n-12) (0:UInt8):=by
   rw [ZiB (by omega) (by omega),ZlY (k:=Int.toNat 2) rfl (by simp;omega) (by simp [Zaz]),Zaz,List.drop_replicate];congr 2
  rw [e2,ZhO (by omega) (by omega) (by simp [Zaz];omega),Ze,Zkq,Ze,Ze];have e3:splice (([UInt8.ofInt p.Kind,UInt8.ofInt p.Id]++Zbw p.Gen 6)++List.replicate (n-12) (0:UInt8)) (Int.toNat 8) (over (((([UInt8.ofInt p.Kind,UInt8.ofInt p.Id]++Zbw p.Gen 6)++List.replicate (n-12) (0:UInt8)).drop (Int.toNat 8)).take ((10:Int)-8).toNat) (ZjT (UInt64.ofInt (p.Body.length:Int)) 2))=Zh4 p++List.replicate (n-14) (0:UInt8):=by
   rw [ZiB (by omega) (by omega),ZlY (by simp [Zaz]) (by simp;omega) (by simp [Zaz]),Zaz,List.drop_replicate];unfold Zh4;have e9:UInt64.ofInt (p.Body.length:Int)=UInt64.ofNat p.Body.length:=by
    unfold UInt64.ofInt;rw [← UInt64.toNat_inj,UInt64.toNat_ofNat',UInt64.toNat_ofNat'];omega
   rw [e9];congr 2
  rw [e3];have hl:(Zh4 p++List.replicate (n-14) (0:UInt8)).length=n-4:=by simp [Zgp];omega
  rw [ZhO (by omega) (by omega) (by omega),Ze,Ze];have e4:splice (Zh4 p++List.replicate (n-14) (0:UInt8)) (Int.toNat 10) (over (((Zh4 p++List.replicate (n-14) (0:UInt8)).drop (Int.toNat 10)).take (((Zh4 p++List.replicate (n-14) (0:UInt8)).length:Nat)-(10:Int):Int).toNat) p.Body)=ZbL p n:=by
   rw [ZlY (by rw [Zgp];rfl) (by rw [hl];simp;omega) (by rw [hl];omega),List.drop_replicate];rfl
  rw [e4];have hi:=ZjY hm;rw [Int.toNat_natCast] at hi;rw [sum_Of_eq _ (by omega),Ze,Zkq,Ze,concat2_eq _ _ (by omega) (by have:=putOf_le (crcOn 0 (ZbL p n)).toUInt64 4;omega),Ze,Int.toNat_natCast];rfl
 ·rw [Zl (by simp [h]),if_neg h]
def Page0:Page:=⟨0,0,0,[]⟩
def ZdD (b:List UInt8):Nat:=(ZdE ((b.take 10).drop 8)).toNat
def pOf (b:List UInt8):Page:=⟨((b.getD 0 0).toNat:Int),((b.getD 1 0).toNat:Int),ZdE ((b.take 8).drop 2),(b.take (10+ZdD b)).drop 10⟩
def PForm (b:List UInt8):Prop:=(b.getD 0 0=1∨b.getD 0 0=2)∧(b.getD 1 0).toNat<64∧16+ZdD b≤b.length∧∀ x∈(b.take (b.length-4)).drop (10+ZdD b),x=0
instance {b:List UInt8}:Decidable (PForm b):=by unfold PForm;exact inferInstance
def PSum (b:List UInt8):Prop:=ZdE (b.drop (b.length-4))=(crcOn 0 (b.take (b.length-4))).toUInt64
instance {b:List UInt8}:Decidable (PSum b):=by unfold PSum;exact inferInstance
def Zdz (b:List UInt8):Page×Int:=
 if ¬ Zf9 b.length then (Page0,3) else if ∀ x∈b,x=255 then (Page0,0) else if ¬ PSum b then (Page0,4) else if ¬ PForm b then (Page0,2) else (pOf b,0)
theorem pMany_lt (b:List UInt8):ZdD b<65536:=by
 unfold ZdD;rw [ZiG];have h:=Zj0 ((b.take 10).drop 8);have h2:((b.take 10).drop 8).length≤2:=by simp;omega
 have h3:256 ^ ((b.take 10).drop 8).length≤256 ^ 2:=Nat.pow_le_pow_right (by omega) h2;omega
theorem gen_lt (b:List UInt8):ZdE ((b.take 8).drop 2)<UInt64.ofNat 281474976710656:=by
 rw [UInt64.lt_iff_toNat_lt,ZiG];have h:=Zj0 ((b.take 8).drop 2);have h2:((b.take 8).drop 2).length≤6:=by simp;omega
 have h3:256 ^ ((b.take 8).drop 2).length≤256 ^ 6:=Nat.pow_le_pow_right (by omega) h2;have h4:(UInt64.ofNat 281474976710656).toNat=281474976710656:=by decide
 omega
theorem zeros_loop {f:Int→Option (Int⊕(Unit⊕(Page×Int)))} {c:List UInt8} {k:Nat} {y:Page×Int} (hc:c.length≤1000000)
  (h1:∀ i,(hi:i<c.length)→c[i]≠0→f ((k+i:Nat):Int)=some (.inr (.inr y))) (h2:∀ i,(hi:i<c.length)→c[i]=0→f ((k+i:Nat):Int)=some (.inl ((k+(i+1):Nat):Int))) (h3:f ((k+c.length:Nat):Int)=some (.inr (.inl ()))) :
  ((∀ x∈c,x=0)∧ZR f (k:Int)=some (.inl ()))∨((¬ ∀ x∈c,x=0)∧ZR f (k:Int)=some (.inr y)):=by
 rcases ZfL (f:=f) (fun i=>((k+i:Nat):Int)) c.length (fun i=>decide (c.getD i 0≠0)) (fun _=>.inr y) (y:=.inl ()) (by omega)
  (fun i hi hp=>h2 i hi (by simpa [List.getD_eq_getElem?_getD,List.getElem?_eq_getElem hi] using hp))
  (fun i hi hp=>h1 i hi (by simpa [List.getD_eq_getElem?_getD,List.getElem?_eq_getElem hi] using hp)) h3 (s:=(k:Int)) rfl with ⟨i,hi,hp,-,e⟩ | ⟨hall,e⟩
 ·refine .inr ⟨fun h=>?_,e⟩;have:=h _ (List.getElem_mem hi);simp [List.getD_eq_getElem?_getD,List.getElem?_eq_getElem hi,this] at hp
 ·refine .inl ⟨fun x hx=>?_,e⟩;obtain ⟨j,hj,rfl⟩:=List.getElem_of_mem hx;have:=hall j hj;simpa [List.getD_eq_getElem?_getD,List.getElem?_eq_getElem hj] using this
theorem getD_of {b:List UInt8} {i:Nat} (h:i<b.length):b.getD i 0=b[i]:=by rw [List.getD_eq_getElem?_getD,List.getElem?_eq_getElem h];rfl
theorem idx_D {b:List UInt8} {i:Nat} {k:Int} (hk:k=i) (h:i<b.length):idx b k=some (b.getD i 0):=by subst hk;rw [ZQ h,getD_of h]
theorem Zkm (x:UInt8):((x.toNat:Int)=1↔x=1)∧((x.toNat:Int)=2↔x=2):=by
 constructor
 ·rw [← UInt8.toNat_inj];show _↔x.toNat=1;omega
 ·rw [← UInt8.toNat_inj];show _↔x.toNat=2;omega
theorem page_Read_eq (b:List UInt8) (hb:b.length≤1000000):ZdC b=some (Zdz b):=by
 unfold ZdC Zdz;rw [Zgo,Ze]
 by_cases h1:Zf9 b.length
 ·have h1':=h1;unfold Zf9 at h1';rw [Zh (by simp [h1]),if_neg (by simp [h1]),ZjU b (by omega),Ze]
  by_cases h2:∀ x∈b,x=255
  ·rw [Zl (by simpa using h2),if_pos h2,Ze];rfl
  ·rw [Zh (by simpa using h2),if_neg h2,Za6 (by omega) (by omega),Ze,ZhO (by omega) (by omega) (by omega),Ze,Ze,ZhO (by omega) (by omega) (by omega),Ze,Ze,Ze,
    Zkr _ (by simp;omega),Ze,sum_Of_eq _ (by simp;omega),Ze]
   rw [show ((b.length:Int)-4).toNat=b.length-4 by omega]
   by_cases h3:PSum b
   ·rw [Zh (by unfold PSum at h3;simpa using h3),if_neg (by simp [h3]),idx_D (b:=b) (i:=0) (k:=0) rfl (by omega),Ze,idx_D (b:=b) (i:=1) (k:=1) rfl (by omega),Ze,ZhO (by omega) (by omega) (by omega),Ze,Zkr _ (by simp;omega),Ze,Ze,
     ZhO (by omega) (by omega) (by omega),Ze,Zkr _ (by simp;omega),Ze]
    have hm:=pMany_lt b;have e0:((ZdE ((b.take (Int.toNat 10)).drop (Int.toNat 8))).toNat:Int)=(ZdD b:Int):=rfl;rw [e0,ok64_ok (by omega) (by omega),Ze,Zfa,Ze,Zh9 (Zl8 _ _),Ze];have hr:Zfh b.length=b.length-16:=by unfold Zfh;rw [if_pos h1]
    rw [hr]
    by_cases h4:(b.getD 0 0=1∨b.getD 0 0=2)∧(b.getD 1 0).toNat<64∧16+ZdD b≤b.length
    ·obtain ⟨g1,g2,g3⟩:=h4;have hmay:PMay ⟨((b.getD 0 0).toNat:Int),((b.getD 1 0).toNat:Int),ZdE ((b.take (Int.toNat 8)).drop (Int.toNat 2)),[]⟩ b.length:=by
      refine ⟨h1,?_,by dsimp only;omega,by dsimp only;omega,gen_lt b,by simp;omega⟩;rcases g1 with g | g
      ·exact .inl ((Zkm _).1.2 g)
      ·exact .inr ((Zkm _).2.2 g)
     have d0:decide ((ZdD b:Int)>(b.length:Int)-16)=false:=by simp;omega
     rw [d0,decide_eq_true hmay];rw [show ((false || !bif !false then true else default):Bool)=false from rfl,Zw,Zad (by omega) (by omega),Ze,ZhO (by omega) (by simp;omega) (by simp),Ze];have hz:=zeros_loop (f:=fun s=>Zdc (b.take (b.length-4)) (10+(ZdD b:Int)) s) (c:=(b.take (b.length-4)).drop (10+ZdD b)) (k:=0) (y:=(Page0,2)) (by simp;omega) (fun i hi hx=>by
       unfold Zdc;rw [show (10+(ZdD b:Int)).toNat=10+ZdD b by omega,Nat.zero_add,ZgU hi,Zx,ZQ hi,Ze,Zl (by simpa using hx),Ze];rfl) (fun i hi hx=>by
       unfold Zdc;rw [show (10+(ZdD b:Int)).toNat=10+ZdD b by omega,Nat.zero_add,Nat.zero_add,ZgU hi,Zx,ZQ hi,Ze,Zh (by simpa using hx),Zao (by simp at hi;omega),Ze]) (by
       unfold Zdc;rw [show (10+(ZdD b:Int)).toNat=10+ZdD b by omega,Nat.zero_add,Zmg,Zw])
     rcases hz with ⟨z1,z2⟩ | ⟨z1,z2⟩
     ·rw [show ((0:Int))=((0:Nat):Int) from rfl,z2,Ze,ZaV,if_neg (by rw [Decidable.not_not];exact ⟨g1,g2,g3,z1⟩)]
      by_cases hp:ZdD b=0
      ·rw [Zh (by simp [hp]),Ze];congr 2;unfold pOf;rw [hp];simp
      ·rw [Zl (by simp;omega),Ze,ZhO (by omega) (by omega) (by omega),Ze];unfold ZcB;rw [Zbf (by omega) (by simp;omega) (by simp;omega),Ze,Ze,Ze,Ze];rw [show (10+(ZdD b:Int)).toNat=10+ZdD b by omega];rfl
     ·rw [show ((0:Int))=((0:Nat):Int) from rfl,z2,Ze,ZbI,if_pos (fun h=>z1 h.2.2.2)]
    ·have hnm:(decide ((ZdD b:Int)>(b.length:Int)-16) || !(bif !(decide ((ZdD b:Int)>(b.length:Int)-16)) then decide (PMay ⟨((b.getD 0 0).toNat:Int),((b.getD 1 0).toNat:Int),ZdE ((b.take (Int.toNat 8)).drop (Int.toNat 2)),[]⟩ b.length) else default))=true:=by
      by_cases g3:(ZdD b:Int)>(b.length:Int)-16
      ·simp [g3]
      ·rw [decide_eq_false g3];have:¬ PMay ⟨((b.getD 0 0).toNat:Int),((b.getD 1 0).toNat:Int),ZdE ((b.take (Int.toNat 8)).drop (Int.toNat 2)),[]⟩ b.length:=fun hp=>h4 (by
        obtain ⟨q1,q2,q3,q4,q5,q6⟩:=hp;dsimp only at q2 q3 q4;refine ⟨?_,by omega,by omega⟩;rcases q2 with q | q
        ·exact .inl ((Zkm _).1.1 q)
        ·exact .inr ((Zkm _).2.1 q))
       rw [decide_eq_false this];rfl
     rw [hnm,Zx,Ze,if_pos (fun h=>h4 ⟨h.1,h.2.1,h.2.2.1⟩)];rfl
   ·rw [Zl (by unfold PSum at h3;simpa using h3),Ze,if_pos h3];rfl
 ·rw [Zl (by simp [h1]),if_pos h1,Ze];rfl
theorem ZkC {n:UInt64} {k:Nat} (hk:k≤8) (h:n.toNat<256 ^ k):ZdE (Zbw n k)=n:=by
 rw [← UInt64.toNat_inj,get_put n hk,Nat.mod_eq_of_lt h]
theorem Ziy {z:Int} (h0:0≤z) (h:z<256):((UInt8.ofInt z).toNat:Int)=z:=by rw [ofIntU8];omega
theorem Zl0 (xs:List UInt8):(ZbK xs).take ((ZbK xs).length-4)=xs:=by
 rw [Zhj,ZjP];unfold stOf;simp
theorem sealed_drop (xs:List UInt8):(ZbK xs).drop ((ZbK xs).length-4)=Zbw (crcOn 0 xs).toUInt64 4:=by
 rw [Zhj,ZjP];unfold stOf;simp
theorem sealed_sum (xs:List UInt8):PSum (ZbK xs):=by
 unfold PSum;rw [Zl0,sealed_drop,ZkC (by omega)];have:=(crcOn 0 xs).toNat_lt;rw [UInt32.toNat_toUInt64];omega
theorem ZiA {p:Page} {n:Nat} (h:PMay p n) {x:List UInt8} (hx:x=ZbK (ZbL p n)) :
  x.length=n∧x.getD 0 0=UInt8.ofInt p.Kind∧x.getD 1 0=UInt8.ofInt p.Id∧(x.take 8).drop 2=Zbw p.Gen 6∧(x.take 10).drop 8=Zbw (UInt64.ofNat p.Body.length) 2∧(x.take (10+p.Body.length)).drop 10=p.Body∧(x.take (x.length-4)).drop (10+p.Body.length)=List.replicate (n-14-p.Body.length) 0:=by
 have hl:=ZjY h;rw [Int.toNat_natCast] at hl;obtain ⟨⟨h1,h2⟩,h3,h4,h5,h6,h7⟩:=h;have hn:x.length=n:=by rw [hx,Zhj];omega
 have e0:x=Zh4 p++(p.Body++(List.replicate (n-14-p.Body.length) 0++Zbw (crcOn 0 (ZbL p n)).toUInt64 4)):=by
  rw [hx,ZjP];unfold stOf ZbL;simp only [List.append_assoc]
 have eh:Zh4 p=[UInt8.ofInt p.Kind,UInt8.ofInt p.Id]++(Zbw p.Gen 6++Zbw (UInt64.ofNat p.Body.length) 2):=by unfold Zh4;rw [List.append_assoc]
 have hh:=Zgp p;have t8:x.take 8=[UInt8.ofInt p.Kind,UInt8.ofInt p.Id]++Zbw p.Gen 6:=by
  rw [e0,List.take_append_of_le_length (by omega),eh,← List.append_assoc,List.take_append_of_le_length (by simp [Zaz]),List.take_of_length_le (by simp [Zaz])]
 have t10:x.take 10=Zh4 p:=by
  rw [e0,List.take_append_of_le_length (by omega),List.take_of_length_le (by omega)]
 have tb:x.take (10+p.Body.length)=Zh4 p++p.Body:=by
  rw [e0,← List.append_assoc,List.take_append_of_le_length (by simp [hh]),List.take_of_length_le (by simp [hh])]
 refine ⟨hn,?_,?_,?_,?_,?_,?_⟩
 ·rw [e0,eh];rfl
 ·rw [e0,eh];rfl
 ·rw [t8];rfl
 ·rw [t10];unfold Zh4;exact List.drop_left' (by simp [Zaz])
 ·rw [tb];exact List.drop_left' hh
 ·have e1:x.take (x.length-4)=ZbL p n:=by rw [hx,Zl0]
  rw [e1];unfold ZbL;exact List.drop_left' (by simp [hh])
theorem read_put {p:Page} {n:Nat} (h:PMay p n):Zdz (ZbK (ZbL p n))=(p,0):=by
 generalize hx:ZbK (ZbL p n)=x;obtain ⟨g1,g2,g3,g4,g5,g6,g7⟩:=ZiA h hx.symm;obtain ⟨⟨h1,h2⟩,h3,h4,h5,h6,h7⟩:=h;have hk:p.Kind=1∨p.Kind=2:=h3;have hm:ZdD x=p.Body.length:=by
  unfold ZdD;have hb:(UInt64.ofNat p.Body.length).toNat=p.Body.length:=UInt64.toNat_ofNat_of_lt' (show p.Body.length<18446744073709551616 by omega);rw [g5,ZkC (k:=2) (by omega) (by rw [hb];omega),hb]
 have hid:((UInt8.ofInt p.Id).toNat:Int)=p.Id:=Ziy (by omega) (by omega);have hkd:((UInt8.ofInt p.Kind).toNat:Int)=p.Kind:=Ziy (by omega) (by omega);have k1:UInt8.ofInt p.Kind=1∨UInt8.ofInt p.Kind=2:=by
  rcases hk with e | e
  ·left;rw [e];rfl
  ·right;rw [e];rfl
 unfold Zdz;rw [if_neg (by rw [Decidable.not_not];unfold Zf9;omega),if_neg (fun hall=>by
  have h0:x.getD 0 0=255:=by rw [getD_of (by omega)];exact hall _ (List.getElem_mem _)
  rw [g2] at h0;rcases k1 with e | e <;> rw [e] at h0 <;> exact absurd h0 (by decide)),if_neg (by rw [Decidable.not_not,← hx];exact sealed_sum _),if_neg (by
  rw [Decidable.not_not];refine ⟨by rw [g2];exact k1,by rw [g3];omega,by rw [hm];omega,fun y hy=>?_⟩;rw [hm,g7] at hy;exact List.eq_of_mem_replicate hy)]
 congr 1;unfold pOf;rw [hm,g2,g3,g4,g6,hid,hkd,ZkC (by omega) (by
  rw [UInt64.lt_iff_toNat_lt] at h6;have:(UInt64.ofNat 281474976710656).toNat=281474976710656:=by decide
  omega)]
theorem read_ok {b:List UInt8} (h:(Zdz b).2=0) (hk:(Zdz b).1.Kind≠0):PMay (Zdz b).1 b.length∧ZbK (ZbL (Zdz b).1 b.length)=b:=by
 unfold Zdz at *
 by_cases h1:Zf9 b.length
 ·rw [if_neg (by simp [h1])] at *
  by_cases h2:∀ x∈b,x=255
  ·rw [if_pos h2] at hk;exact absurd rfl hk
  ·rw [if_neg h2] at *
   by_cases h3:PSum b
   ·rw [if_neg (by simp [h3])] at *
    by_cases h4:PForm b
    ·rw [if_neg (by simp [h4])] at *;dsimp only;obtain ⟨g1,g2,g3,g4⟩:=h4;have h1':=h1;unfold Zf9 at h1';have hbl:(pOf b).Body.length=ZdD b:=by unfold pOf;simp;omega
     have hmay:PMay (pOf b) b.length:=by
      refine ⟨h1,?_,by unfold pOf;dsimp only;omega,by unfold pOf;dsimp only;omega,gen_lt b,by rw [hbl];omega⟩;rcases g1 with g | g
      ·exact .inl ((Zkm _).1.2 g)
      ·exact .inr ((Zkm _).2.2 g)
     refine ⟨hmay,?_⟩;have key:ZbL (pOf b) b.length=b.take (b.length-4):=by
      unfold ZbL;rw [hbl];have e0:Zh4 (pOf b)=b.take 10:=by
       unfold Zh4;rw [hbl];have a1:UInt8.ofInt (pOf b).Kind=b.getD 0 0:=by
        rw [← UInt8.toNat_inj];have:((UInt8.ofInt (pOf b).Kind).toNat:Int)=(b.getD 0 0).toNat:=by
         have q:=(b.getD 0 0).toNat_lt;exact Ziy (by unfold pOf;dsimp only;omega) (by unfold pOf;dsimp only;omega)
        omega
       have a2:UInt8.ofInt (pOf b).Id=b.getD 1 0:=by
        rw [← UInt8.toNat_inj];have:((UInt8.ofInt (pOf b).Id).toNat:Int)=(b.getD 1 0).toNat:=by
         have q:=(b.getD 1 0).toNat_lt;exact Ziy (by unfold pOf;dsimp only;omega) (by unfold pOf;dsimp only;omega)
        omega
       have a3:Zbw (pOf b).Gen 6=(b.take 8).drop 2:=by
        have l6:((b.take 8).drop 2).length=6:=by simp;omega
        have:=put_get ((b.take 8).drop 2) (by omega);rw [l6] at this;exact this
       have a4:Zbw (UInt64.ofNat (ZdD b)) 2=(b.take 10).drop 8:=by
        have l2:((b.take 10).drop 8).length=2:=by simp;omega
        have:=put_get ((b.take 10).drop 8) (by omega);rw [l2] at this;rw [← this];congr 1;unfold ZdD;exact UInt64.ofNat_toNat
       rw [a1,a2,a3,a4];have a5:[b.getD 0 0,b.getD 1 0]=b.take 2:=by
        apply List.ext_getElem
        ·simp;omega
        ·intro j q1 q2;simp at q1;rcases (by omega:j=0∨j=1) with rfl | rfl
         ·show b.getD 0 0=_;rw [getD_of (by omega),List.getElem_take]
         ·show b.getD 1 0=_;rw [getD_of (by omega),List.getElem_take]
       rw [a5];have a6:b.take 2++(b.take 8).drop 2=b.take 8:=by
        have:=List.take_append_drop 2 (b.take 8);rw [List.take_take] at this;exact this
       have a7:b.take 8++(b.take 10).drop 8=b.take 10:=by
        have:=List.take_append_drop 8 (b.take 10);rw [List.take_take] at this;exact this
       rw [a6,a7]
      have e1:b.take 10++(pOf b).Body=b.take (10+ZdD b):=by
       have:=List.take_append_drop 10 (b.take (10+ZdD b));rw [List.take_take,Nat.min_eq_left (by omega)] at this;exact this
      have e2:List.replicate (b.length-14-ZdD b) (0:UInt8)=(b.take (b.length-4)).drop (10+ZdD b):=by
       symm
       rw [List.eq_replicate_iff];exact ⟨by simp;omega,g4⟩
      rw [e0,e1,e2];have:=List.take_append_drop (10+ZdD b) (b.take (b.length-4));rw [List.take_take,Nat.min_eq_left (by omega)] at this;exact this
     rw [key];exact (sealed_iff (by omega)).2 h3.symm
    ·rw [if_pos h4] at h;exact absurd h (by decide)
   ·rw [if_pos h3] at h;exact absurd h (by decide)
 ·rw [if_pos h1] at h;exact absurd h (by decide)
theorem read_none {b:List UInt8} (h:(Zdz b).2≠0∨(Zdz b).1.Kind=0):(Zdz b).1=Page0:=by
 unfold Zdz at *
 by_cases h1:Zf9 b.length
 ·rw [if_neg (by simp [h1])] at *
  by_cases h2:∀ x∈b,x=255
  ·rw [if_pos h2]
  ·rw [if_neg h2] at *
   by_cases h3:PSum b
   ·rw [if_neg (by simp [h3])] at *
    by_cases h4:PForm b
    ·rw [if_neg (by simp [h4])] at *
     exfalso
     rcases h with h | h
     ·exact h rfl
     ·have e:((b.getD 0 0).toNat:Int)=0:=h;rcases h4.1 with g | g <;> rw [g] at e <;> exact absurd e (by decide)
    ·rw [if_pos h4]
   ·rw [if_pos h3]
 ·rw [if_pos h1]
end Go.Proofs.YtkmojgfenlgchaaGreatDoor.Tr
namespace Go.Proofs.YtkmojgfenlgchaaGreatDoor.Tr
open Go Go.RowKit
set_option maxRecDepth 100000
set_option synthInstance.maxHeartbeats 400000
set_option synthInstance.maxSize 4096
def ZfN (blocks0:Int) (pages0:Int) (size0:Int):Option Bool:=
 some ((((((decide (blocks0≥(1:Int)))&&(decide (blocks0≤(32:Int))))&&(decide (pages0≥(1:Int))))&&(decide (pages0≤(16:Int))))&&(decide (size0≥(1:Int))))&&(decide (size0≤(256:Int))))
instance chip_sound_c:Fd3 41 ZfN fun r=>D r:=en3 Tryz.func41 rfl Tryz.ntmps41 fun _ _ _ _ _ _ _ H=>by
 unfold ZfN at H;exact zY H
def Zbr (b0x:(List UInt8)) (x_3:Int) (bx_4:(List UInt8)):Option ((Int×(List UInt8))⊕(List UInt8)):=
 bif (decide (x_3<(b0x.length:Int))) then ((idx bx_4 x_3).bind fun x_6=>(some ((bx_4.set (Int.toNat x_3) (UInt8.ofNat 255)):(List UInt8))).bind fun l_7=>(ZaA x_3 1).bind fun x_8=>some (.inl (x_8,l_7))) else (some (.inr bx_4))
def ZdF (b0x:(List UInt8)):Option (List UInt8):=
 (ZR (fun s=>Zbr b0x s.1 s.2) ((0:Int),b0x)).bind fun bx_1=>some bx_1
theorem chip_fill_o {A:Nat→Prop} {b0x:(List UInt8)} {b0 c0:Nat} {p0:Prop} {r:(List UInt8)} (w:World) (v0:Value) (hA:∀ k,w.heap.size≤k→A k) (hO:OwnIn A [⟨b0,p0,Row (b0x:List UInt8) c0⟩]) (hap:ZaY [⟨b0,p0,Row (b0x:List UInt8) c0⟩]) (hks:Pks (Pub A [⟨b0,p0,Row (b0x:List UInt8) c0⟩]) [⟨b0,p0,Row (b0x:List UInt8) c0⟩] w) (h0:(Sl b0 p0 0 b0x.length c0).p (Pub A [⟨b0,p0,Row (b0x:List UInt8) c0⟩]) w v0) (H:ZdF b0x=some r) :
    Calls Tryz.prog 42 #[v0] w (Zd6 A w [⟨b0,p0,Row (b0x:List UInt8) c0⟩] (fun g:Unit=>Tup []) fun g=>[⟨b0,p0,Row (r:List UInt8) c0⟩]):=by
 unfold ZdF at H;refine zX (Zc3 hA hap hks Tryz.func42 rfl Tryz.ntmps42 rfl h0) ?_;refine TSx (Zai (n:=b0x.length) rfl) ?_;refine zC ?_;refine zh H fun o_2 H2 H=>?_
 refine Zo (fun s:(List UInt8)=>o_2=s) (fun (bx_1:(List UInt8)) (_:Unit)=>Env.nil) (fun (bx_1:(List UInt8)) (_:Unit)=>[⟨b0,p0,(Row (bx_1:List UInt8) c0)⟩]) ?_ ?_
 ·skip;refine Zp<|Zt H2 (fun ⟨x_3,bx_4⟩ (_:Unit)=>(Env.set (Env.set (Env.set Env.nil 0 (Sl b0 p0 0 bx_4.length c0)) 4 (D ((b0x.length:Int):Int))) 5 (D x_3))) (fun ⟨x_3,bx_4⟩ (_:Unit)=>[⟨b0,p0,(Row (bx_4:List UInt8) c0)⟩]) () (Za (Za (Zj (ZD rfl) (Zc _)))) (Zb rfl (Zd _)) ?_;rintro ⟨x_3,bx_4⟩ ⟨⟩ x_5 H5 he5;replace H5:Zbr b0x x_3 bx_4=some x_5:=H5;unfold Zbr at H5;refine zg ?_;refine zc H5 (fun hc H5=>?_) fun hc H5=>?_
  ·refine zg ?_;refine zn H5 fun _ ex_6 H5=>?_
   refine TSx (Zn (ZH ex_6.h rfl)) ?_;refine zE ?_;refine zn H5 fun l_7 el_7 H5=>?_
   refine Zah b0 (Zaa el_7.h) ?_;refine zX (ZcJ 0 _ (ZaT el_7.h (by simp))) ?_;refine zb H5 fun x_8 _ H5=>?_
   exact Zq ⟨x_8,l_7⟩ () (ZZs H5) (Za (Za (Zj (ZD rfl) (Zc _)))) (Zb rfl (Zd _))
  ·refine zg ?_;exact Zi bx_4 () (he5 _ (ZZs H5)).symm (Zc _) (Zb rfl (Zd _))
 rintro bx_1 ⟨⟩ hp;replace hp:=hp.symm;subst hp;obtain rfl:=ZZi H;exact ZlG rfl rfl () .nil (Zb rfl (Zd _))
theorem Zj8 {b r:List UInt8} (H:ZdF b=some r):r.length=b.length:=by
 unfold ZdF at H;refine zn H fun _ hx H=>?_
 obtain rfl:=ZZi H;refine ZkA (fun s:Int×List UInt8=>s.2.length=b.length) (fun r=>r.length=b.length) ?_ ?_ rfl hx.h
 ·rintro ⟨i,l⟩ ⟨i',l'⟩ h1 hf;dsimp only at h1 hf ⊢;unfold Zbr at hf;cases hc:decide (i<(b.length:Int)) with
  | false=>replace hf:=cF hf hc;cases ZZi hf
  | true=>
    replace hf:=cT hf hc;obtain ⟨_,_,hf⟩:=bnd hf;obtain ⟨l2,e2,hf⟩:=bnd hf;obtain ⟨_,_,hf⟩:=bnd hf;have h2:=ZZi hf;injection h2 with h2;injection h2 with e3 e4;subst e4;rw [← ZZi e2];simpa using h1
 ·rintro ⟨i,l⟩ e h1 hf;dsimp only at h1 hf ⊢;unfold Zbr at hf;cases hc:decide (i<(b.length:Int)) with
  | true=>
    replace hf:=cT hf hc;obtain ⟨_,_,hf⟩:=bnd hf;obtain ⟨l2,e2,hf⟩:=bnd hf;obtain ⟨_,_,hf⟩:=bnd hf;cases ZZi hf
  | false=>
    replace hf:=cF hf hc;have h2:=ZZi hf;injection h2 with h2;subst h2;exact h1
theorem chip_fill_step {b l l':List UInt8} {i i':Int} (hf:Zbr b i l=some (.inl (i',l'))):l'.length=l.length:=by
 unfold Zbr at hf;cases hc:decide (i<(b.length:Int)) with
 | false=>replace hf:=cF hf hc;cases ZZi hf
 | true=>
   replace hf:=cT hf hc;obtain ⟨_,_,hf⟩:=bnd hf;obtain ⟨l2,e2,hf⟩:=bnd hf;obtain ⟨_,_,hf⟩:=bnd hf;have h2:=ZZi hf;injection h2 with h2;injection h2 with e3 e4;subst e4;rw [← ZZi e2];simp
theorem chip_fill_p {A:Nat→Prop} {b0x:(List UInt8)} {b0 o:Nat} {p0:Prop} {C0:Ct} {Cf:List UInt8→Ct} {r:(List UInt8)} (hC:C0=Cf b0x) (hf:∀ ys,ys.length=b0x.length→PlS (Cf ys) o UInt8 inferInstance ys Cf) (w:World) (v0:Value) (hA:∀ k,w.heap.size≤k→A k) (hO:OwnIn A [⟨b0,p0,C0⟩]) (hap:ZaY [⟨b0,p0,C0⟩]) (hks:Pks (Pub A [⟨b0,p0,C0⟩]) [⟨b0,p0,C0⟩] w) (h0:(Sv b0 p0 o b0x.length).p (Pub A [⟨b0,p0,C0⟩]) w v0) (H:ZdF b0x=some r) :
    Calls Tryz.prog 42 #[v0] w (Zd6 A w [⟨b0,p0,C0⟩] (fun g:Unit=>Tup []) fun g=>[⟨b0,p0,Cf r⟩]):=by
 subst hC;unfold ZdF at H;refine zX (Zc3 hA hap hks Tryz.func42 rfl Tryz.ntmps42 rfl h0) ?_;refine TSx (Zai (n:=b0x.length) rfl) ?_;refine zC ?_;refine zh H fun o_2 H2 H=>?_
 refine Zo (fun s:(List UInt8)=>o_2=s) (fun (b_1:(List UInt8)) (_:Unit)=>Env.nil) (fun (b_1:(List UInt8)) (_:Unit)=>[⟨b0,p0,Cf b_1⟩]) ?_ ?_
 ·skip;refine Zp<|TC.loopPI H2 (fun s:Int×List UInt8=>s.2.length=b0x.length) rfl (fun ⟨_,_⟩ ⟨_,_⟩ h1 hf=>(chip_fill_step hf).trans h1) (fun ⟨x_3,b_4⟩ (_:Unit)=>(Env.set (Env.set (Env.set Env.nil 0 (Sv b0 p0 o b0x.length)) 4 (D ((b0x.length:Int):Int))) 5 (D x_3))) (fun ⟨x_3,b_4⟩ (_:Unit)=>[⟨b0,p0,Cf b_4⟩]) () (Za (Za (Zj (Ty.le.refl _) (Zc _)))) (Zb rfl (Zd _)) ?_;rintro ⟨x_3,b_4⟩ ⟨⟩ x_5 hI H5 he5;replace hI:b_4.length=b0x.length:=hI;replace H5:Zbr b0x x_3 b_4=some x_5:=H5;unfold Zbr at H5;refine zg ?_;refine zc H5 (fun hc H5=>?_) fun hc H5=>?_
  ·refine zg ?_;refine zn H5 fun _ ex_6 H5=>?_
   refine TSx (Zn (ZH ex_6.h hI.symm))<|Za0 (Zy (y:=((UInt8.ofNat 255):UInt8)) (Pl.partI (hf b_4 hI) ex_6.h)) ?_;refine zE ?_;refine zn H5 fun l_7 el_7 H5=>?_
   refine zX (Zah b0 (congrArg Cf (ZZi el_7.h))) ?_;refine zb H5 fun x_8 _ H5=>?_
   exact Zq ⟨x_8,l_7⟩ () (ZZs H5) (Za (Za (Zj (Ty.le.refl _) (Zc _)))) (Zb rfl (Zd _))
  ·refine zg ?_;exact Zi b_4 () (he5 _ (ZZs H5)).symm (Zc _) (Zb rfl (Zd _))
 rintro b_1 ⟨⟩ hp;replace hp:=hp.symm;subst hp;obtain rfl:=ZZi H;exact ZlG rfl rfl () .nil (Zb rfl (Zd _))
def Zf4 (pages0:Int) (size0:Int) (x_11:Int) (l_12:(List Block)) (x_20:Int) (l_21:(List (List UInt8))):Option ((Int×(List (List UInt8)))⊕(List (List UInt8))):=
 bif (decide (x_20<pages0)) then ((idx l_12 x_11).bind fun x_23=>(Zfk 1 size0).bind fun u_24=>(idx l_21 x_20).bind fun x_26=>(some ((List.replicate (Int.toNat size0) (Dat.z:UInt8)):(List UInt8))).bind fun l_27=>(idx l_12 x_11).bind fun x_28=>(idx l_21 x_20).bind fun x_29=>(ZdF l_27).bind fun x_30=>(ZaA x_20 1).bind fun x_32=>some (.inl (x_32,(l_21.set (Int.toNat x_20) x_30)))) else (some (.inr l_21))
def Zf5 (blocks0:Int) (pages0:Int) (size0:Int) (x_11:Int) (l_12:(List Block)):Option ((Int×(List Block))⊕(List Block)):=
 bif (decide (x_11<blocks0)) then ((Zfk 24 pages0).bind fun u_14=>(idx l_12 x_11).bind fun x_16=>(some ((List.replicate (Int.toNat pages0) (Dat.z:(List UInt8))):(List (List UInt8)))).bind fun l_17=>(ZR (fun s=>Zf4 pages0 size0 x_11 l_12 s.1 s.2) ((0:Int),l_17)).bind fun l_18=>(ZaA x_11 1).bind fun x_33=>some (.inl (x_33,(l_12.set (Int.toNat x_11) (⟨l_18,x_16.Used,x_16.Worn,x_16.Bad⟩:Block))))) else (some (.inr l_12))
def ZhC (blocks0:Int) (pages0:Int) (size0:Int):Option (Chip×Int):=
 (ZfN blocks0 pages0 size0).bind fun x_2=>bif (!x_2) then ((some ((⟨0,0,[],0,false,[]⟩:Chip):Chip)).bind fun k_3=>some (k_3,(1:Int))) else ((Zfk 48 blocks0).bind fun u_4=>(some ((⟨pages0,size0,[],0,false,[]⟩:Chip):Chip)).bind fun cx_7=>(some ((List.replicate (Int.toNat blocks0) (Dat.z:Block)):(List Block))).bind fun l_8=>(ZR (fun s=>Zf5 blocks0 pages0 size0 s.1 s.2) ((0:Int),l_8)).bind fun l_9=>some ((⟨cx_7.Pages,cx_7.Size,l_9,cx_7.Ops,cx_7.Off,cx_7.Faults⟩:Chip),(0:Int)))
instance chip_New_c:Fd3 9 ZhC fun r=>Tup [D r.1,D r.2]:=en3 Tryz.func9 rfl Tryz.ntmps9 fun A w hA blocks0 pages0 size0 r H=>by
 unfold ZhC at H;refine zg ?_;refine TS.alloc (α:=Chip) rfl fun b6_0=>zg ?_
 refine zb H fun _ _ H=>?_
 refine zc H (fun hc H=>?_) fun hc H=>?_
 ·refine zg ?_;refine TSx (Zk (⟨0,0,[],0,false,[]⟩:Chip) rfl ⟨_,Tryz.underlying28,by kernel_rfl⟩ rfl rfl) ?_;exact zY H
 ·refine zg ?_;refine zn H fun _ eu_4 H=>?_
  refine Zf7 eu_4.h ⟨(Za9 eu_4.h).1,Int.le_refl _⟩ rfl fun b20_4=>?_
  refine TSx (ZkQ (ps:=_) rfl ⟨_,Tryz.underlying28,by kernel_rfl⟩ ((PartsC.d (((PF 0 Chip Int Zv)).st _) (PartsC.d (((PF 1 Chip Int Zv)).st _) (Zmz (CtH.new (by decide)) inferInstance))))) ?_;refine TS.alloc (α:=Chip) rfl fun b8_5=>?_
  refine Za0 (ZP trivial rfl CtSc.h) ?_;refine zC ?_;refine zn H fun cx_7 ecx_7 H=>?_
  refine ZB b8_5 (ZcE (ZZ ecx_7.h)) ?_;refine zn H fun _ el_8 H=>?_
  refine ZB b20_4 (Zaa el_8.h)<|ZB b8_5 (Zfb (ZdY el_8.h (by simp))) ?_;refine zC ?_;refine zh H fun o_10 H10 H=>?_
  refine Zo (fun s:(List Block)=>o_10=s) (fun (l_9:(List Block)) (_:Unit)=>(Env.set (Env.set Env.nil 6 (Pt b6_0 0)) 8 (Pt b8_5 0))) (fun (l_9:(List Block)) (_:Unit)=>[⟨b20_4,True,(Row (l_9:List Block) (Int.toNat blocks0))⟩,⟨b6_0,True,(One ((Dat.z:Chip):Chip))⟩,⟨b8_5,True,(Ct.mix (One cx_7) 2 (Sl b20_4 True 0 l_9.length (Int.toNat blocks0)))⟩]) ?_ ?_
  ·skip;refine Zp<|Zt H10 (fun ⟨x_11,l_12⟩ (_:Unit)=>(Env.set (Env.set (Env.set (Env.set (Env.set (Env.set Env.nil 1 (D pages0)) 2 (D size0)) 6 (Pt b6_0 0)) 8 (Pt b8_5 0)) 22 (D blocks0)) 23 (D x_11))) (fun ⟨x_11,l_12⟩ (_:Unit)=>[⟨b20_4,True,(Row (l_12:List Block) (Int.toNat blocks0))⟩,⟨b6_0,True,(One ((Dat.z:Chip):Chip))⟩,⟨b8_5,True,(Ct.mix (One cx_7) 2 (Sl b20_4 True 0 l_12.length (Int.toNat blocks0)))⟩]) () (Za (Za (Za (Za (Za (Za (Zc _))))))) (Zb rfl (Zb rfl (Zb rfl (Zd _)))) ?_;rintro ⟨x_11,l_12⟩ ⟨⟩ x_13 H13 he13;replace H13:Zf5 blocks0 pages0 size0 x_11 l_12=some x_13:=H13;unfold Zf5 at H13;refine zg ?_;refine zc H13 (fun hc H13=>?_) fun hc H13=>?_
   ·refine zC ?_;refine zX (ZaM [4,7] [b20_4] mix (by kernel_rfl) (by kernel_rfl)) ?_;refine zX (Ze4 (ZI ZL) rfl) ?_;refine zn H13 fun _ eu_14 H13=>?_
    refine Zes (fun g=>OpT.makeSlice (Za9 eu_14.h).1 (Int.le_refl _) (ZdB eu_14.h).2.1 (ZdB eu_14.h).2.2) rfl ?_;refine zn H13 fun x_16 ex_16 H13=>?_
    refine zX (Ze4 (Zn (ZH ex_16.h rfl)) rfl) ?_;refine ZcX (fun g=>(Zax (Zki ex_16.h (off:=0) (by omega) (by decide)))) rfl ?_;refine zC ?_;rintro ⟨⟨_,⟨b30_14,_⟩⟩,_⟩;dsimp only [Fam.nextS,Fam.nextN,Fam.one,List.cons_append,List.nil_append];refine zn H13 fun _ el_17 H13=>?_
    refine ZB b30_14 (Zaa el_17.h)<|ZB b20_4 (Zfb (ZdY el_17.h (by simp))) ?_;refine zC ?_;refine zh H13 fun o_19 H19 H13=>?_
    refine Zo (fun s:(List (List UInt8))=>o_19=s) (fun (l_18:(List (List UInt8))) (_:Unit)=>(Env.set (Env.set (Env.set (Env.set (Env.set (Env.set Env.nil 1 (D pages0)) 2 (D size0)) 6 (Pt b6_0 0)) 8 (Pt b8_5 0)) 22 (D blocks0)) 23 (D x_11))) (fun (l_18:(List (List UInt8))) (_:Unit)=>[⟨b20_4,True,(Ct.mix (Row (l_12:List Block) (Int.toNat blocks0)) ((0+Int.toNat x_11*Dat.sz Block)+0) (Sl b30_14 True 0 l_18.length (Int.toNat pages0)))⟩,⟨b30_14,True,(Row (l_18:List (List UInt8)) (Int.toNat pages0))⟩,⟨b6_0,True,(One ((Dat.z:Chip):Chip))⟩,⟨b8_5,True,(Ct.mix (One cx_7) 2 (Sl b20_4 True 0 l_12.length (Int.toNat blocks0)))⟩]) ?_ ?_
    ·skip;refine Zp<|Zt H19 (fun ⟨x_20,l_21⟩ (_:Unit)=>(Env.set (Env.set (Env.set (Env.set (Env.set (Env.set (Env.set (Env.set (Env.set Env.nil 1 (D pages0)) 2 (D size0)) 6 (Pt b6_0 0)) 8 (Pt b8_5 0)) 9 (D x_11)) 22 (D blocks0)) 23 (D x_11)) 33 (D pages0)) 34 (D x_20))) (fun ⟨x_20,l_21⟩ (_:Unit)=>[⟨b20_4,True,(Ct.mix (Row (l_12:List Block) (Int.toNat blocks0)) ((0+Int.toNat x_11*Dat.sz Block)+0) (Sl b30_14 True 0 l_21.length (Int.toNat pages0)))⟩,⟨b30_14,True,(Row (l_21:List (List UInt8)) (Int.toNat pages0))⟩,⟨b6_0,True,(One ((Dat.z:Chip):Chip))⟩,⟨b8_5,True,(Ct.mix (One cx_7) 2 (Sl b20_4 True 0 l_12.length (Int.toNat blocks0)))⟩]) () (Za (Za (Za (Za (Za (Za (Za (Za (Za (Zc _)))))))))) (Zb rfl (Zb rfl (Zb rfl (Zb rfl (Zd _))))) ?_;rintro ⟨x_20,l_21⟩ ⟨⟩ x_22 H22 he22;replace H22:Zf4 pages0 size0 x_11 l_12 x_20 l_21=some x_22:=H22;unfold Zf4 at H22;refine zg ?_;refine zc H22 (fun hc H22=>?_) fun hc H22=>?_
     ·refine zC ?_;refine zX (ZaM [8,10] [b30_14] mix (by kernel_rfl) (by kernel_rfl)) ?_;refine zX (Ze4 (ZI ZL) rfl) ?_;refine zn H22 fun _ ex_23 H22=>?_
      refine zX (Ze4 (Zn (ZH ex_23.h rfl)) rfl) ?_;refine zX (Ze4 (ZI ZL) rfl) ?_;refine zn H22 fun _ eu_24 H22=>?_
      refine Zes (fun g=>OpT.makeSlice (Za9 eu_24.h).1 (Int.le_refl _) (ZdB eu_24.h).2.1 (ZdB eu_24.h).2.2) rfl ?_;refine zn H22 fun _ ex_26 H22=>?_
      refine TRx (Zn (ZH ex_26.h rfl))<|ZcX (fun g=>(Zax (Zki ex_26.h (off:=0) (by omega) (by decide)))) rfl ?_;refine zC ?_;rintro ⟨⟨_,⟨b45_24,_⟩⟩,_⟩;dsimp only [Fam.nextS,Fam.nextN,Fam.one,List.cons_append,List.nil_append];refine zn H22 fun _ el_27 H22=>?_
      refine ZB b45_24 (Zaa el_27.h) ?_;refine zX (ZB b30_14 (Zfb (ZdY el_27.h (by simp)))) ?_;refine zX (ZaH (ZI ZL) rfl) ?_;refine zn H22 fun _ ex_28 H22=>?_
      refine zX (ZaH (Zn (ZH ex_28.h rfl)) rfl) ?_;refine zX (ZaH (ZI ZL) rfl) ?_;refine zn H22 fun _ ex_29 H22=>?_
      refine TSx (Zn (ZH ex_29.h rfl))<|TSx (ZI ZL) ?_;refine zn H22 fun x_30 ex_30 H22=>?_
      refine Zc8 (Zag [b45_24] fun w v0 hA hO hap hks h0=>chip_fill_o w v0 hA hO hap hks (slD rfl h0) ex_30.h) rfl fun _=>?_
      dsimp only [List.cons_append,List.nil_append];refine zg ?_;refine zo H22 fun x_32 _ H22=>?_
      refine zE ?_;refine TE.coll b30_14 b45_24 (o:=(0+Int.toNat x_20*Dat.sz (List UInt8))) (((ZaJ ex_26.h)).st (x_30:List UInt8)) (ZE PlS.all (Zj8 ex_30.h).symm) ?_;exact Zah b20_4 (Zfb (m:=l_21.length) (n:=(l_21.set (Int.toNat x_20) x_30).length) (by simp))<|Zq ⟨x_32,(l_21.set (Int.toNat x_20) x_30)⟩ () (ZZs H22) (Za (Za (Za (Za (Za (Za (Za (Za (Za (Zc _)))))))))) (Zb rfl (Zb rfl (Zb rfl (Zb rfl (Zd _)))))
     ·refine zg ?_;exact Zi l_21 () (he22 _ (ZZs H22)).symm (Za (Za (Za (Za (Za (Za (Zc _))))))) (Zb rfl (Zb rfl (Zb rfl (Zb rfl (Zd _)))))
    rintro l_18 ⟨⟩ hp;replace hp:=hp.symm;subst hp;refine zg ?_;refine zo H13 fun x_33 _ H13=>?_
    refine zE ?_;refine TE.coll b20_4 b30_14 (o:=((0+Int.toNat x_11*Dat.sz Block)+0)) (((PF 0 Block (List (List UInt8)) (ZaJ ex_16.h))).st (l_18:List (List UInt8))) (ZE PlS.all rfl) ?_;exact Zah b8_5 (Zfb (m:=l_12.length) (n:=(l_12.set (Int.toNat x_11) (⟨l_18,x_16.Used,x_16.Worn,x_16.Bad⟩:Block)).length) (by simp))<|Zq ⟨x_33,(l_12.set (Int.toNat x_11) (⟨l_18,x_16.Used,x_16.Worn,x_16.Bad⟩:Block))⟩ () (ZZs H13) (Za (Za (Za (Za (Za (Za (Zc _))))))) (Zb rfl (Zb rfl (Zb rfl (Zd _))))
   ·refine zg ?_;exact Zi l_12 () (he13 _ (ZZs H13)).symm (Za (Za (Zc _))) (Zb rfl (Zb rfl (Zb rfl (Zd _))))
  rintro l_9 ⟨⟩ hp;replace hp:=hp.symm;subst hp;refine zg ?_;refine TSx (Zdp trivial rfl rfl)<|Za0 (ZP trivial rfl CtSc.h) ?_;refine zC ?_;refine ZM<|TE.coll b6_0 b20_4 (o:=2) (((PF 2 Chip (List Block) Zv)).st (l_9:List Block)) (ZE PlS.all rfl) ?_;exact zY H
def Zaw (s0:(List Block)):Option (List Block):=
 (Zfk 48 ((0+s0.length:Nat):Int)).bind fun _=>some s0
theorem ZcC {A:Nat→Prop} {s0:(List Block)}  {r:(List Block)} (w:World) (v0:Value) (hA:∀ k,w.heap.size≤k→A k) (hO:OwnIn A []) (hap:ZaY []) (hks:Pks (Pub A []) [] w) (h0:(D s0).p (Pub A []) w v0) (H:Zaw s0=some r) :
    Calls Tryz.prog 92 #[v0] w (Zd6 A w [] (fun g:Nat×Prop×Nat=>Sl g.1 g.2.1 0 (List.length r) g.2.2) fun g=>[⟨g.1,g.2.1,Row (r:List Block) g.2.2⟩]):=by
 unfold Zaw at H;refine Zc3 hA hap hks Tryz.func92 rfl Tryz.ntmps92 rfl h0 ?_;refine zn H fun _ eu H=>?_
 obtain rfl:=ZZi H;refine zg ?_;refine TSx Zbk ?_;refine zC ?_;refine Ze5 (fun hc=>?_) (fun hc=>?_)
 ·obtain rfl:=hc rfl;refine zg ?_;exact ZA rfl ⟨0,False,0⟩ ZcU (Zbi (Zd _))
 ·refine zg ?_;refine TS.build [] rfl rfl (by decide) rfl fun b=>zg ?_
  refine TS.app (ys:=s0) inferInstance eu.h rfl rfl rfl fun b1 p1 c1=>zg ?_
  exact ZA rfl ⟨b1,p1,c1⟩ (ZD (by simp)) (Zb rfl (Zd _))
def ZbM (p0:(List (List UInt8))) (x_1:Int) (x_2:Int):Option ((Int×Int)⊕Int):=
 bif (decide (x_1<(p0.length:Int))) then ((idx p0 x_1).bind fun x_3=>(ZaA x_2 (x_3.length:Int)).bind fun x_4=>(ZaA x_1 1).bind fun x_5=>some (.inl (x_5,x_4))) else (some (.inr x_2))
def ZdG (p0:(List (List UInt8))) (x_1:Int):Option (Int⊕Unit):=
 bif (decide (x_1<(p0.length:Int))) then ((idx p0 x_1).bind fun x_3=>(ZaA x_1 1).bind fun x_5=>some (.inl x_5)) else (some (.inr ()))
def Zdg (p0:(List (List UInt8))):Option (List (List UInt8)):=
 (ZR (fun s=>ZbM p0 s.1 s.2) ((0:Int),(0:Int))).bind fun x_1=>(Zfk 1 x_1).bind fun _=>(Zfk 24 (p0.length:Int)).bind fun _=>(ZR (fun s=>ZdG p0 s) (0:Int)).bind fun _=>some p0
theorem Zln {p0:List (List UInt8)} {m:Int} (h:ZR (fun s=>ZbM p0 s.1 s.2) ((0:Int),(0:Int))=some m):m=(p0.flatten.length:Int):=by
 refine ZkA (fun s:Int×Int=>0≤s.1∧s.1≤(p0.length:Int)∧s.2=((p0.take s.1.toNat).flatten.length:Int)) (fun m=>m=(p0.flatten.length:Int)) ?_ ?_ ⟨Int.le_refl _,by simp,by simp⟩ h
 ·rintro ⟨x,y⟩ ⟨x',y'⟩ ⟨h1,h2,h3⟩ hf;dsimp only at h1 h2 h3 hf ⊢;unfold ZbM at hf;cases hc:decide (x<(p0.length:Int)) with
  | false=>rw [hc] at hf;cases hf
  | true=>
    replace hf:=cT hf hc;obtain ⟨q,eq,hf⟩:=bnd hf;obtain ⟨m2,em,hf⟩:=bnd hf;obtain ⟨y2,ey,hf⟩:=bnd hf;have hf:=ZZi hf;injection hf with hf;injection hf with e1 e2;subst e1;subst e2;have h4:=Zh8 eq;obtain ⟨-,h5⟩:=Za2 eq;obtain ⟨h6,h7⟩:=List.getElem?_eq_some_iff.1 h5;obtain ⟨e3,-⟩:=ZcD ey;obtain ⟨e4,-⟩:=ZcD em;have e5:y2.toNat=x.toNat+1:=by omega
    refine ⟨by omega,by omega,?_⟩;rw [e5,List.take_succ_eq_append_getElem h6,List.flatten_append,List.length_append,h7,← e4,h3];simp
 ·rintro ⟨x,y⟩ e ⟨h1,h2,h3⟩ hf;dsimp only at h1 h2 h3 hf ⊢;unfold ZbM at hf;cases hc:decide (x<(p0.length:Int)) with
  | true=>
    replace hf:=cT hf hc;obtain ⟨q,eq,hf⟩:=bnd hf;obtain ⟨m2,em,hf⟩:=bnd hf;obtain ⟨y2,ey,hf⟩:=bnd hf;have hf:=ZZi hf;cases hf
  | false=>
    replace hf:=cF hf hc;have hf:=ZZi hf;injection hf with hf;subst hf;rw [h3,List.take_of_length_le (by have:=of_decide_eq_false hc;omega)]
theorem Zlm {p:List (List UInt8)} {i:Nat} {q:List UInt8} (hi:i<p.length) (hq:p[i]=q) :
    splice ((p.take i).flatten++List.replicate (p.flatten.length-(p.take i).flatten.length) (Dat.z:UInt8)) (p.take i).flatten.length q=(p.take (i+1)).flatten++List.replicate (p.flatten.length-(p.take (i+1)).flatten.length) (Dat.z:UInt8):=by
 have e1:(p.take (i+1)).flatten=(p.take i).flatten++q:=by
   rw [List.take_succ_eq_append_getElem hi,List.flatten_append,hq];simp
 unfold splice;rw [e1,List.take_left,List.append_assoc,List.append_assoc,← List.drop_drop,List.drop_left,List.drop_replicate,List.length_append];congr 3;omega
theorem Zie {p:List (List UInt8)} {i:Nat} {q:List UInt8} (hi:i<p.length) (hq:p[i]=q):(p.take i).flatten.length+q.length≤p.flatten.length:=by
 have:=flat_fit hi;rw [← ZlD,hq] at this;exact this
theorem Zj9 {A:Nat→Prop} {p0 r:(List (List UInt8))} (w:World) (v0:Value) (hA:∀ k,w.heap.size≤k→A k) (hO:OwnIn A []) (hap:ZaY []) (hks:Pks (Pub A []) [] w) (h0:(D p0).p (Pub A []) w v0) (H:Zdg p0=some r) :
    Calls Tryz.prog 96 #[v0] w (Zd6 A w [] (fun g:Nat×Nat×Prop×Nat×Nat=>Sl g.1 g.2.2.1 0 (List.length r) g.2.2.2.1) fun g=>[⟨g.1,g.2.2.1,ZjI g.2.1 g.2.2.1 1 (r.map List.length) (List.length r)⟩,⟨g.2.1,g.2.2.1,Row (r.flatten:List UInt8) g.2.2.2.2⟩]):=by
 unfold Zdg at H;refine Zc3 hA hap hks Tryz.func96 rfl Tryz.ntmps96 rfl h0 ?_;refine zn H fun many hmany H=>?_
 refine zn H fun _ eu1 H=>?_
 refine zn H fun _ eu2 H=>?_
 refine zn H fun _ eu3 H=>?_
 obtain rfl:=ZZi H;have hlen:=Zln hmany.h;refine zg ?_;refine TSx Zbk ?_;refine zC ?_;refine Ze5 (fun hc=>?_) (fun hc=>?_)
 ·obtain rfl:=hc rfl;refine zg ?_;exact ZA rfl ⟨0,0,False,0,0⟩ ZcU ((Ziw fun h=>h).trans (Ziw fun h=>h))
 ·refine zC ?_;refine zC ?_;refine Zo (fun s:Int=>many=s) (fun (m:Int) (_:Unit)=>(Env.set (Env.set Env.nil 0 (D p0)) 3 (D m))) (fun (m:Int) (_:Unit)=>[]) ?_ ?_
  ·skip;refine Zp<|Zt hmany.h (fun ⟨x,m⟩ (_:Unit)=>(Env.set (Env.set (Env.set (Env.set (Env.set Env.nil 0 (D p0)) 3 (D m)) 13 (D p0)) 14 (D ((p0.length:Int):Int))) 15 (D x))) (fun ⟨x,m⟩ (_:Unit)=>[]) () (Za (Za (Za (Za (Za (Zc _)))))) (Zd _) ?_;rintro ⟨x,m⟩ ⟨⟩ y Hy hey;replace Hy:ZbM p0 x m=some y:=Hy;unfold ZbM at Hy;refine zg ?_;refine zc Hy (fun hc Hy=>?_) fun hc Hy=>?_
   ·refine zg ?_;refine zb Hy fun _ _ Hy=>?_
    refine zb Hy fun m2 _ Hy=>?_
    refine zb Hy fun y2 _ Hy=>?_
    exact Zq ⟨y2,m2⟩ () (ZZs Hy) (Za (Za (Za (Za (Za (Zc _)))))) (Zd _)
   ·refine zg ?_;exact Zi m () (hey _ (ZZs Hy)).symm (Za (Za (Zc _))) (Zd _)
  rintro m ⟨⟩ hp;replace hp:=hp.symm;subst hp;refine zg ?_;refine Zf7 eu1.h ⟨Int.le_refl _,(Za9 eu1.h).1⟩ rfl fun br=>zg ?_
  refine Zf7 eu2.h ⟨(Za9 eu2.h).1,Int.le_refl _⟩ rfl fun bo=>?_
  refine zC ?_;refine TC.re bo (C':=ZjI br True 1 [] p0.length) (fun A w cs _ h=>ZjI.nil (by simp) A w cs h) ?_;have hmt:Int.toNat m=p0.flatten.length:=by rw [hlen];rfl
  rw [hmt];refine zC ?_;refine Zo (fun s:Unit=>True) (fun (_:Unit) (_:Unit)=>(Env.set Env.nil 7 (Sl bo True 0 p0.length p0.length))) (fun (_:Unit) (_:Unit)=>[⟨br,True,Row (p0.flatten:List UInt8) p0.flatten.length⟩,⟨bo,True,ZjI br True 1 (p0.map List.length) p0.length⟩]) ?_ ?_
  ·skip;refine Zp ?_;refine Zt eu3.h (fun (x:Int) (_:Unit)=>(Env.set (Env.set (Env.set (Env.set (Env.set Env.nil 6 (Sl br True 0 (p0.take x.toNat).flatten.length p0.flatten.length)) 7 (Sl bo True 0 p0.length p0.length)) 29 (D p0)) 30 (D ((p0.length:Int):Int))) 31 (D x)))
     (fun (x:Int) (_:Unit)=>[⟨br,True,Row ((p0.take x.toNat).flatten++List.replicate (p0.flatten.length-(p0.take x.toNat).flatten.length) (Dat.z:UInt8)) p0.flatten.length⟩,⟨bo,True,ZjI br True 1 ((p0.take x.toNat).map List.length) p0.length⟩]) () (Za (Za (Za (Zj (ZD rfl) (Zj (ZD rfl) (Zc _)))))) (Zb rfl (Zb rfl (Zd _))) ?_
   rintro x ⟨⟩ y Hy hey;replace Hy:ZdG p0 x=some y:=Hy;unfold ZdG at Hy;refine zg ?_;refine zc Hy (fun hc Hy=>?_) fun hc Hy=>?_
   ·refine zn Hy fun q eq Hy=>?_
    refine zn Hy fun y2 ey Hy=>?_
    have h4:=Zh8 eq.h;obtain ⟨-,h5⟩:=Za2 eq.h;obtain ⟨h6,h7⟩:=List.getElem?_eq_some_iff.1 h5;obtain ⟨e3,-⟩:=ZcD ey.h;have e5:y2.toNat=x.toNat+1:=by omega
    have hfit:=Zie h6 h7;have hll:((p0.take x.toNat).map List.length).length=x.toNat:=by simp;omega
    refine zg ?_;refine zX (ZaH (OpD.index eq.h) rfl) ?_;refine zX (ZaH (Zai (n:=(p0.take x.toNat).flatten.length) rfl) rfl) ?_;refine zX (TS.u (ZmG (ys:=q) inferInstance trivial rfl (by rw [List.length_append,List.length_replicate];omega)) rfl) ?_;refine zX (ZaH (Zai (n:=(p0.take x.toNat).flatten.length+q.length) rfl) rfl) ?_;refine TSx (Zai (n:=(p0.take x.toNat).flatten.length+q.length) rfl)<|TSx (OpY.slice3Sl (by omega) (by omega) (by omega) (by omega))<|TSx (Zn h4)<|Za0 (Zax (ZjI.put (by rw [hll];show 0+x.toNat*1=_;omega) (by rw [hll];omega) (by rw [← Zmb,hll,offS];show 0+_*1=_;rw [← List.map_take,List.take_take,Nat.min_self,← List.length_flatten];simp))) ?_;refine zE ?_;refine Zah br (C':=Row ((p0.take y2.toNat).flatten++List.replicate (p0.flatten.length-(p0.take y2.toNat).flatten.length) (Dat.z:UInt8)) p0.flatten.length) (by rw [Zlm h6 h7,e5]) ?_;refine Zah bo (C':=ZjI br True 1 ((p0.take y2.toNat).map List.length) p0.length) (by
      rw [e5,List.take_succ_eq_append_getElem h6,List.map_append,h7];congr 2;simp;omega) ?_
    refine zX (ZcJ 6 (Sl br True 0 (p0.take y2.toNat).flatten.length p0.flatten.length) (ZD (by rw [e5,List.take_succ_eq_append_getElem h6,List.flatten_append,h7];simp))) ?_;refine zX (ZaH (Zgb ey.h) rfl) ?_;exact Zq y2 () (ZZs Hy) (Za (Za (Za (Zj (ZD rfl) (Zj (ZD rfl) (Zc _)))))) (Zb rfl (Zb rfl (Zd _)))
   ·have hge:p0.take x.toNat=p0:=List.take_of_length_le (by have:=of_decide_eq_false hc;omega);rw [hge];refine zg ?_;exact Zi () () trivial (Zj (ZD rfl) (Zc _)) (Zb (by rw [Nat.sub_self];simp) (Zb rfl (Zd _)))
  rintro ⟨⟩ ⟨⟩ hp;refine zg ?_;exact ZA rfl ⟨bo,br,True,p0.length,p0.flatten.length⟩ (ZD rfl) (Zb rfl (Zb rfl (Zd _)))
theorem Zhz {A:Nat→Prop} {p0 r:(List (List UInt8))} (w:World) (v0:Value) (hA:∀ k,w.heap.size≤k→A k) (h0:(D p0).p A w v0) (H:Zdg p0=some r) :
  Calls Tryz.prog 96 #[v0] w (Ret A w (D r)):=(Zj9 w v0 hA ⟨fun k ⟨e,he,_⟩=>absurd he (by simp)⟩ List.Pairwise.nil (fun e he=>absurd he (by simp)) (Ty.enter h0) H).mono fun e w' h=>Zd6.pub hA (fun g A w v hb h=>rowS_data (hb _ (List.mem_cons_self ..)) (hb _ (List.mem_cons_of_mem _ (List.mem_cons_self ..))) h) h
def ZT (s0:(List Fault)):Option (List Fault):=
 (Zfk 16 ((0+s0.length:Nat):Int)).bind fun _=>some s0
theorem ZgN {A:Nat→Prop} {s0:(List Fault)}  {r:(List Fault)} (w:World) (v0:Value) (hA:∀ k,w.heap.size≤k→A k) (hO:OwnIn A []) (hap:ZaY []) (hks:Pks (Pub A []) [] w) (h0:(D s0).p (Pub A []) w v0) (H:ZT s0=some r) :
    Calls Tryz.prog 50 #[v0] w (Zd6 A w [] (fun g:Nat×Prop×Nat=>Sl g.1 g.2.1 0 (List.length r) g.2.2) fun g=>[⟨g.1,g.2.1,Row (r:List Fault) g.2.2⟩]):=by
 unfold ZT at H;refine Zc3 hA hap hks Tryz.func50 rfl Tryz.ntmps50 rfl h0 ?_;refine zn H fun _ eu H=>?_
 obtain rfl:=ZZi H;refine zg ?_;refine TSx Zbk ?_;refine zC ?_;refine Ze5 (fun hc=>?_) (fun hc=>?_)
 ·obtain rfl:=hc rfl;refine zg ?_;exact ZA rfl ⟨0,False,0⟩ ZcU (Zbi (Zd _))
 ·refine zg ?_;refine TS.build [] rfl rfl (by decide) rfl fun b=>zg ?_
  refine TS.app (ys:=s0) inferInstance eu.h rfl rfl rfl fun b1 p1 c1=>zg ?_
  exact ZA rfl ⟨b1,p1,c1⟩ (ZD (by simp)) (Zb rfl (Zd _))
theorem Zbv {A:Nat→Prop} {s0:(List Fault)} {r:(List Fault)} (w:World) (v0:Value) (hA:∀ k,w.heap.size≤k→A k) (h0:(D s0).p A w v0) (H:ZT s0=some r) :
  Calls Tryz.prog 50 #[v0] w (Ret A w (D r)):=(ZgN w v0 hA ⟨fun k ⟨e,he,_⟩=>absurd he (by simp)⟩ List.Pairwise.nil (fun e he=>absurd he (by simp)) (Ty.enter h0) H).mono fun e w' h=>Zg4 hA h
def ZaS (x_3:(List Block)) (x_7:Int) (l_8:(List Block)):Option ((Int×(List Block))⊕(List Block)):=
 bif (decide (x_7<(x_3.length:Int))) then ((idx l_8 x_7).bind fun x_10=>(Zdg x_10.Pages).bind fun x_11=>(idx l_8 x_7).bind fun x_12=>(some ((l_8.set (Int.toNat x_7) (⟨x_11,x_12.Used,x_12.Worn,x_12.Bad⟩:Block)):(List Block))).bind fun l_13=>(ZaA x_7 1).bind fun x_14=>some (.inl (x_14,l_13))) else (some (.inr l_8))
def Zbz (c0:Chip):Option Chip:=
 (Zaw c0.Blocks).bind fun x_3=>(ZR (fun s=>ZaS x_3 s.1 s.2) ((0:Int),x_3)).bind fun l_5=>(ZT c0.Faults).bind fun x_15=>(some ((⟨c0.Pages,c0.Size,c0.Blocks,c0.Ops,c0.Off,x_15⟩:Chip):Chip)).bind fun cx_16=>some (⟨cx_16.Pages,cx_16.Size,l_5,cx_16.Ops,cx_16.Off,cx_16.Faults⟩:Chip)
theorem Zgs {A:Nat→Prop} {c0:Chip}  {r:Chip} (w:World) (v0:Value) (hA:∀ k,w.heap.size≤k→A k) (hO:OwnIn A []) (hap:ZaY []) (hks:Pks (Pub A []) [] w) (h0:(D c0).p (Pub A []) w v0) (H:Zbz c0=some r) :
    Calls Tryz.prog 48 #[v0] w (Zd6 A w [] (fun g:Nat×Prop×Nat=>VC (Ct.mix (One ((⟨r.Pages,r.Size,[],r.Ops,r.Off,r.Faults⟩:Chip):Chip)) 2 (Sl g.1 g.2.1 0 (List.length r.Blocks) g.2.2))) fun g=>[⟨g.1,g.2.1,Row (r.Blocks:List Block) g.2.2⟩]):=by
 unfold Zbz at H;refine zX (Zc3 hA hap hks Tryz.func48 rfl Tryz.ntmps48 rfl h0) ?_;refine TS.box rfl fun b1_0=>?_
 refine TS.alloc (α:=Chip) rfl fun b2_1=>zg ?_
 refine zn H fun x_3 ex_3 H=>?_
 refine Zc8 (Zag [] fun w v0 hA hO hap hks h0=>ZcC w v0 hA hO hap hks (toD h0) ex_3.h) rfl fun ⟨b6_3,p6_3,c6_3⟩=>?_
 dsimp only [List.cons_append,List.nil_append];refine zg ?_;refine zX (Za0 (Zax (CtH.new (by decide)))) ?_;refine TSx (ZI ZL)<|TSx (Zai (n:=x_3.length) rfl) ?_;refine zC ?_;refine zh H fun o_6 H6 H=>?_
 refine Zo (fun s:(List Block)=>o_6=s) (fun (l_5:(List Block)) (_:Unit)=>(Env.set (Env.set Env.nil 1 (Pt b1_0 0)) 2 (Pt b2_1 0))) (fun (l_5:(List Block)) (_:Unit)=>[⟨b6_3,p6_3,(Row (l_5:List Block) c6_3)⟩,⟨b1_0,True,(Ct.mix (One c0) 2 (Sl b6_3 p6_3 0 l_5.length c6_3))⟩,⟨b2_1,True,(One ((Dat.z:Chip):Chip))⟩]) ?_ ?_
 ·skip;refine Zp<|Zt H6 (fun ⟨x_7,l_8⟩ (_:Unit)=>(Env.set (Env.set (Env.set (Env.set Env.nil 1 (Pt b1_0 0)) 2 (Pt b2_1 0)) 10 (D ((x_3.length:Int):Int))) 11 (D x_7))) (fun ⟨x_7,l_8⟩ (_:Unit)=>[⟨b6_3,p6_3,(Row (l_8:List Block) c6_3)⟩,⟨b1_0,True,(Ct.mix (One c0) 2 (Sl b6_3 p6_3 0 l_8.length c6_3))⟩,⟨b2_1,True,(One ((Dat.z:Chip):Chip))⟩]) () (Za (Za (Za (Za (Zc _))))) (Zb rfl (Zb rfl (Zb rfl (Zd _)))) ?_;rintro ⟨x_7,l_8⟩ ⟨⟩ x_9 H9 he9;replace H9:ZaS x_3 x_7 l_8=some x_9:=H9;unfold ZaS at H9;refine zg ?_;refine zc H9 (fun hc H9=>?_) fun hc H9=>?_
  ·refine zC ?_;refine zX (Zf8 [8,9,12] [b6_3] mix (by kernel_rfl) (by kernel_rfl)) ?_;refine zX (Ze4 (ZI ZL) rfl) ?_;refine zX (Ze4 (ZI ZL) rfl) ?_;refine zn H9 fun _ ex_10 H9=>?_
   refine zX (Ze4 (Zn (ZH ex_10.h rfl)) rfl) ?_;refine Zes (fun g=>Zeu rfl (ZaE (PF 0 Block (List (List UInt8)) (ZaJ ex_10.h)))) rfl ?_;refine zn H9 fun x_11 ex_11 H9=>?_
   refine Zes (fun g=>Zeu rfl (ZaK fun w v0 hA h0=>Zhz w v0 hA (toD h0) ex_11.h)) rfl ?_;refine zn H9 fun _ ex_12 H9=>?_
   refine zX (Ze4 (Zn (ZH ex_12.h rfl)) rfl) ?_;refine ZcX (fun g=>(Zy (y:=(x_11:(List (List UInt8)))) (PF 0 Block (List (List UInt8)) (ZaJ ex_12.h)))) rfl ?_;refine zC ?_;rintro ⟨⟨⟨_,_⟩,_⟩,_⟩;dsimp only [Fam.nextS,Fam.nextN,Fam.one,List.cons_append,List.nil_append];refine zn H9 fun l_13 el_13 H9=>?_
   refine Zah b6_3 (Zaa el_13.h) ?_;refine zX (Zah b1_0 (Zfb (ZdY el_13.h (by simp)))) ?_;refine zb H9 fun x_14 _ H9=>?_
   exact Zq ⟨x_14,l_13⟩ () (ZZs H9) (Za (Za (Za (Za (Zc _))))) (Zb rfl (Zb rfl (Zb rfl (Zd _))))
  ·refine zg ?_;exact Zi l_8 () (he9 _ (ZZs H9)).symm (Za (Za (Zc _))) (Zb rfl (Zb rfl (Zb rfl (Zd _))))
 rintro l_5 ⟨⟩ hp;replace hp:=hp.symm;subst hp;refine zg ?_;refine TSx (ZaE (Pl.mix (PF 5 Chip (List Fault) Zv) (by first | decide | omega))) ?_;refine zn H fun x_15 ex_15 H=>?_
 refine zX (ZaH (ZaK fun w v0 hA h0=>Zbv w v0 hA (toD h0) ex_15.h) rfl) ?_;refine Za0 (Zy (y:=(x_15:(List Fault))) (Pl.mix (PF 5 Chip (List Fault) Zv) (by first | decide | omega))) ?_;refine zC ?_;refine zn H fun cx_16 ecx_16 H=>?_
 refine zX (ZB b1_0 (ZcE (ZZ ecx_16.h))) ?_;refine TSx (Zdp trivial rfl rfl) ?_;refine zX (Za0 (ZP trivial rfl CtSc.h)) ?_;obtain rfl:=ZZi H;exact ZA rfl ⟨b6_3,p6_3,c6_3⟩ (VC_le (ZgF (α:=Block) (by have h:=((PF 2 Chip (List Block) (Zv (α:=Chip) (i:=Chip_dat) (x:=cx_16)))).st ([]:(List Block));exact h) rfl)) (Zb rfl (Zd _))
theorem chip_clone_c {A:Nat→Prop} {c0:Chip} {r:Chip} (w:World) (v0:Value) (hA:∀ k,w.heap.size≤k→A k) (h0:(D c0).p A w v0) (H:Zbz c0=some r) :
  Calls Tryz.prog 48 #[v0] w (Ret A w (D r)):=(Zgs w v0 hA ⟨fun k ⟨e,he,_⟩=>absurd he (by simp)⟩ List.Pairwise.nil (fun e he=>absurd he (by simp)) (Ty.enter h0) H).mono fun e w' h=>Zd6.pub hA (by exact fun g A w v hb h=>(fun v h=>VC.pub (((PF 2 Chip (List Block) Zv)).st (r.Blocks:(List Block))) rfl (fun u h=>ZE (C:=Row r.Blocks g.2.2) PlS.all rfl A w u (fun hp=>hb _ (List.mem_singleton.2 rfl) hp) h) h) v h) h
theorem ZdH {p r:List (List UInt8)} (H:Zdg p=some r):r=p:=by
 unfold Zdg at H;refine zn H fun _ _ H=>?_
 refine zn H fun _ _ H=>?_
 refine zn H fun _ _ H=>?_
 refine zn H fun _ _ H=>?_
 exact (ZZs H)
theorem Zif {l:List Block} {x x':Int} {l' x3:List Block} (h:ZaS x3 x l=some (.inl (x',l'))):l'=l:=by
 unfold ZaS at h;cases hc:decide (x<(x3.length:Int)) with
 | false=>replace h:=cF h hc;cases ZZi h
 | true=>
   replace h:=cT h hc;obtain ⟨y,ey,h⟩:=bnd h;obtain ⟨p,ep,h⟩:=bnd h;obtain ⟨z,ez,h⟩:=bnd h;obtain ⟨l2,el,h⟩:=bnd h;obtain ⟨_,_,h⟩:=bnd h;have h:=ZZi h;injection h with h;injection h with h1 h2;subst h2;rw [ey] at ez;obtain rfl:=ZZi ez;obtain rfl:=ZdH ep;obtain ⟨-,h5⟩:=Za2 ey;obtain ⟨h6,h7⟩:=List.getElem?_eq_some_iff.1 h5;rw [← ZZi el,← h7,List.set_getElem_self]
theorem Zi8 {l:List Block} {x:Int} {l' x3:List Block} (h:ZaS x3 x l=some (.inr l')):l'=l:=by
 unfold ZaS at h;cases hc:decide (x<(x3.length:Int)) with
 | true=>
   replace h:=cT h hc;obtain ⟨y,ey,h⟩:=bnd h;obtain ⟨p,ep,h⟩:=bnd h;obtain ⟨z,ez,h⟩:=bnd h;obtain ⟨l2,el,h⟩:=bnd h;obtain ⟨_,_,h⟩:=bnd h;cases ZZi h
 | false=>replace h:=cF h hc;injection ZZi h with h;exact h.symm
theorem Zig {x3 l:List Block} (h:ZR (fun s=>ZaS x3 s.1 s.2) ((0:Int),x3)=some l):l=x3:=
 ZkA (fun s:Int×List Block=>s.2=x3) (fun l=>l=x3) (fun ⟨_,_⟩ ⟨_,_⟩ h1 hf=>(Zif hf).trans h1) (fun ⟨_,_⟩ _ h1 hf=>(Zi8 hf).trans h1) rfl h
theorem Zi7 {s r:List Block} (h:Zaw s=some r):r=s:=by
 unfold Zaw at h;obtain ⟨_,_,h⟩:=bnd h;exact (ZZs h)
theorem clone_Fault_eq {s r:List Fault} (h:ZT s=some r):r=s:=by
 unfold ZT at h;obtain ⟨_,_,h⟩:=bnd h;exact (ZZs h)
theorem ZhA {c r:Chip} (H:Zbz c=some r):r=c:=by
 unfold Zbz at H;refine zn H fun _ e1 H=>?_
 refine zn H fun _ e2 H=>?_
 refine zn H fun _ e3 H=>?_
 refine zn H fun _ e4 H=>?_
 obtain rfl:=Zi7 e1.h;obtain rfl:=Zig e2.h;obtain rfl:=clone_Fault_eq e3.h;have h:=ZZi H;have h4:=ZZi e4.h;subst h4;exact h.symm
def cloJ (b6_3:Nat) (p6_3:Prop) (c6_3 b1_0 b2_1:Nat) (c0:Chip) (P:List (List UInt8)) (β x:Int) (l:List Block) (m:Nat×Nat×Prop×Nat×Nat):List Pe:=
 if x≤β then [⟨b6_3,p6_3,(Row (l:List Block) c6_3)⟩,⟨b1_0,True,(Ct.mix (One c0) 2 (Sl b6_3 p6_3 0 l.length c6_3))⟩,⟨b2_1,True,(One (Dat.z:Chip))⟩]
 else [⟨b6_3,p6_3,(Ct.mix (Row (l:List Block) c6_3) ((0+Int.toNat β*Dat.sz Block)+0) (Sl m.1 m.2.2.1 0 P.length m.2.2.2.1))⟩,⟨b1_0,True,(Ct.mix (One c0) 2 (Sl b6_3 p6_3 0 l.length c6_3))⟩,⟨b2_1,True,(One (Dat.z:Chip))⟩,
  ⟨m.1,m.2.2.1,ZjI m.2.1 m.2.2.1 1 (P.map List.length) P.length⟩,⟨m.2.1,m.2.2.1,Row (P.flatten:List UInt8) m.2.2.2.2⟩]
theorem cloJ_lo {b6_3:Nat} {p6_3:Prop} {c6_3 b1_0 b2_1:Nat} {c0:Chip} {P:List (List UInt8)} {β x:Int} {l:List Block} {m:Nat×Nat×Prop×Nat×Nat} (h:x≤β):cloJ b6_3 p6_3 c6_3 b1_0 b2_1 c0 P β x l m =
  [⟨b6_3,p6_3,(Row (l:List Block) c6_3)⟩,⟨b1_0,True,(Ct.mix (One c0) 2 (Sl b6_3 p6_3 0 l.length c6_3))⟩,⟨b2_1,True,(One (Dat.z:Chip))⟩]:=if_pos h
theorem cloJ_hi {b6_3:Nat} {p6_3:Prop} {c6_3 b1_0 b2_1:Nat} {c0:Chip} {P:List (List UInt8)} {β x:Int} {l:List Block} {bo br:Nat} {po:Prop} {co cr:Nat} (h:β<x):cloJ b6_3 p6_3 c6_3 b1_0 b2_1 c0 P β x l ⟨bo,br,po,co,cr⟩ =
  [⟨b6_3,p6_3,(Ct.mix (Row (l:List Block) c6_3) ((0+Int.toNat β*Dat.sz Block)+0) (Sl bo po 0 P.length co))⟩,⟨b1_0,True,(Ct.mix (One c0) 2 (Sl b6_3 p6_3 0 l.length c6_3))⟩,⟨b2_1,True,(One (Dat.z:Chip))⟩,
   ⟨bo,po,ZjI br po 1 (P.map List.length) P.length⟩,⟨br,po,Row (P.flatten:List UInt8) cr⟩]:=if_neg (by omega)
theorem Zk5 {A:Nat→Prop} {c0 r:Chip} {β:Int} {y:Block} (w:World) (v0:Value) (hA:∀ k,w.heap.size≤k→A k) (hO:OwnIn A []) (hap:ZaY []) (hks:Pks (Pub A []) [] w) (h0:(D c0).p (Pub A []) w v0) (H:Zbz c0=some r) (hβ:idx r.Blocks β=some y) :
    Calls Tryz.prog 48 #[v0] w (Zd6 A w [] (fun g:Nat×Prop×Nat×Nat×Nat×Prop×Nat×Nat=>VC (Ct.mix (One ((⟨r.Pages,r.Size,[],r.Ops,r.Off,r.Faults⟩:Chip):Chip)) 2 (Sl g.1 g.2.1 0 (List.length r.Blocks) g.2.2.1)))
      fun g=>[⟨g.1,g.2.1,Ct.mix (Row (r.Blocks:List Block) g.2.2.1) ((0+Int.toNat β*Dat.sz Block)+0) (Sl g.2.2.2.1 g.2.2.2.2.2.1 0 y.Pages.length g.2.2.2.2.2.2.1)⟩,⟨g.2.2.2.1,g.2.2.2.2.2.1,ZjI g.2.2.2.2.1 g.2.2.2.2.2.1 1 (y.Pages.map List.length) y.Pages.length⟩,⟨g.2.2.2.2.1,g.2.2.2.2.2.1,Row (y.Pages.flatten:List UInt8) g.2.2.2.2.2.2.2⟩]):=by
 have hr:=ZhA H;unfold Zbz at H;refine zX (Zc3 hA hap hks Tryz.func48 rfl Tryz.ntmps48 rfl h0) ?_;refine TS.box rfl fun b1_0=>?_
 refine TS.alloc (α:=Chip) rfl fun b2_1=>zg ?_
 refine zn H fun x_3 ex_3 H=>?_
 have hx3:=Zi7 ex_3.h;refine Zc8 (Zag [] fun w v0 hA hO hap hks h0=>ZcC w v0 hA hO hap hks (toD h0) ex_3.h) rfl fun ⟨b6_3,p6_3,c6_3⟩=>?_
 dsimp only [List.cons_append,List.nil_append];refine zg ?_;refine zX (Za0 (Zax (CtH.new (by decide)))) ?_;refine TSx (ZI ZL)<|TSx (Zai (n:=x_3.length) rfl) ?_;refine zC ?_;refine zh H fun o_6 H6 H=>?_
 have ho6:=Zig H6;have hβ':idx x_3 β=some y:=by rw [hx3,← hr];exact hβ
 have hβ2:=Zh8 hβ';refine Zo (fun s:(List Block)=>o_6=s) (fun (l_5:(List Block)) (_:Nat×Nat×Prop×Nat×Nat)=>(Env.set (Env.set Env.nil 1 (Pt b1_0 0)) 2 (Pt b2_1 0))) (fun (l_5:(List Block)) (m:Nat×Nat×Prop×Nat×Nat)=>[⟨b6_3,p6_3,(Ct.mix (Row (l_5:List Block) c6_3) ((0+Int.toNat β*Dat.sz Block)+0) (Sl m.1 m.2.2.1 0 y.Pages.length m.2.2.2.1))⟩,⟨b1_0,True,(Ct.mix (One c0) 2 (Sl b6_3 p6_3 0 l_5.length c6_3))⟩,⟨b2_1,True,(One (Dat.z:Chip))⟩,
   ⟨m.1,m.2.2.1,ZjI m.2.1 m.2.2.1 1 (y.Pages.map List.length) y.Pages.length⟩,⟨m.2.1,m.2.2.1,Row (y.Pages.flatten:List UInt8) m.2.2.2.2⟩]) ?_ ?_
 ·skip;refine Zp ?_;refine TC.loopPI H6 (fun s:Int×List Block=>s.2=x_3) rfl (fun ⟨_,_⟩ ⟨_,_⟩ h1 hf=>(Zif hf).trans h1) (fun ⟨x_7,l_8⟩ (_:Nat×Nat×Prop×Nat×Nat)=>(Env.set (Env.set (Env.set (Env.set Env.nil 1 (Pt b1_0 0)) 2 (Pt b2_1 0)) 10 (D ((x_3.length:Int):Int))) 11 (D x_7))) (fun ⟨x_7,l_8⟩ m=>cloJ b6_3 p6_3 c6_3 b1_0 b2_1 c0 y.Pages β x_7 l_8 m) ⟨0,0,True,0,0⟩ (Za (Za (Za (Za (Zc _))))) (by
    show Less _ (cloJ b6_3 p6_3 c6_3 b1_0 b2_1 c0 y.Pages β 0 x_3 _);rw [cloJ_lo (by omega)];exact (Zb rfl (Zb rfl (Zb rfl (Zd _))))) ?_
  rintro ⟨x_7,l_8⟩ m x_9 hl8 H9 he9;replace H9:ZaS x_3 x_7 l_8=some x_9:=H9;obtain rfl:l_8=x_3:=hl8;have hend:=@Zi8 l_8 x_7;unfold ZaS at H9;show TC _ _ _ _ (cloJ b6_3 p6_3 c6_3 b1_0 b2_1 c0 y.Pages β x_7 l_8 m) _ _;rcases Int.lt_trichotomy x_7 β with hx | hx | hx
  ·rw [cloJ_lo (by omega)];refine zg ?_;refine Zfu (fun hc=>?_) (fun hc=>?_)
   ·replace H9:=cT H9 hc;refine zn H9 fun x_10 ex_10 H9=>?_
    refine zn H9 fun x_11 ex_11 H9=>?_
    refine zn H9 fun x_12 ex_12 H9=>?_
    replace ex_12:=ex_12.h;refine zn H9 fun l_13 el_13 H9=>?_
    refine zn H9 fun x_14 ex_14 H9=>?_
    have e14:=(ZcD ex_14.h).1;have hset:(l_8.set (Int.toNat x_7) (⟨x_11,x_12.Used,x_12.Worn,x_12.Bad⟩:Block))=l_8:=by
      have h12:x_12=x_10:=by rw [ex_10.h] at ex_12;exact (ZZs ex_12)
      obtain ⟨-,h5⟩:=Za2 ex_10.h;obtain ⟨h6,h7⟩:=List.getElem?_eq_some_iff.1 h5;rw [ZdH ex_11.h,h12];show l_8.set (Int.toNat x_7) x_10=l_8;rw [← h7,List.set_getElem_self]
    rw [show l_13=l_8 from (ZZi el_13.h).symm.trans hset] at H9;refine zC ?_;refine zX (Zf8 [8,9,12] [b6_3] mix (by kernel_rfl) (by kernel_rfl)) ?_;refine zX (Ze4 (ZI ZL) rfl) ?_;refine zX (Ze4 (ZI ZL) rfl) ?_;refine zX (Ze4 (Zn (ZH ex_10.h rfl)) rfl) ?_;refine Zes (fun g=>Zeu rfl (ZaE (PF 0 Block (List (List UInt8)) (ZaJ ex_10.h)))) rfl<|Zes (fun g=>Zeu rfl (ZaK fun w v0 hA h0=>Zhz w v0 hA (toD h0) ex_11.h)) rfl ?_;refine zX (Ze4 (Zn (ZH ex_12 rfl)) rfl) ?_;refine ZcX (fun g=>(Zy (y:=(x_11:(List (List UInt8)))) (PF 0 Block (List (List UInt8)) (ZaJ ex_12)))) rfl ?_;refine zC ?_;rintro ⟨⟨⟨_,_⟩,_⟩,_⟩;dsimp only [Fam.nextS,Fam.nextN,Fam.one,List.cons_append,List.nil_append];refine zX (Zah b6_3 (by rw [hset])) ?_;refine zX (ZaH (Zgb ex_14.h) rfl) ?_;exact Zq ⟨x_14,l_8⟩ m (ZZs H9) (Za (Za (Za (Za (Zc _))))) (by rw [cloJ_lo (by omega)];exact (Zb rfl (Zb rfl (Zb rfl (Zd _)))))
   ·have:=of_decide_eq_false hc;omega
  ·subst hx;rw [cloJ_lo (by omega)];refine zg ?_;refine Zfu (fun hc=>?_) (fun hc=>?_)
   ·replace H9:=cT H9 hc;refine zn H9 fun x_10 ex_10 H9=>?_
    replace ex_10:=ex_10.h;refine zn H9 fun x_11 ex_11 H9=>?_
    refine zn H9 fun x_12 ex_12 H9=>?_
    replace ex_12:=ex_12.h;refine zn H9 fun l_13 el_13 H9=>?_
    refine zn H9 fun x_14 ex_14 H9=>?_
    have e14:=(ZcD ex_14.h).1;have hset:(l_8.set (Int.toNat x_7) (⟨x_11,x_12.Used,x_12.Worn,x_12.Bad⟩:Block))=l_8:=by
      have h12:x_12=x_10:=by rw [ex_10] at ex_12;exact (ZZs ex_12)
      obtain ⟨-,h5⟩:=Za2 ex_10;obtain ⟨h6,h7⟩:=List.getElem?_eq_some_iff.1 h5;rw [ZdH ex_11.h,h12];show l_8.set (Int.toNat x_7) x_10=l_8;rw [← h7,List.set_getElem_self]
    rw [show l_13=l_8 from (ZZi el_13.h).symm.trans hset] at H9;have K9:=H9;rw [hβ'] at ex_10;obtain rfl:=ZZi ex_10;replace ex_10:=hβ';obtain rfl:=ZdH ex_11.h;refine zC ?_;refine zX (Zf8 [8,9,12] [b6_3] mix (by kernel_rfl) (by kernel_rfl)) ?_;refine zX (Ze4 (ZI ZL) rfl) ?_;refine zX (Ze4 (ZI ZL) rfl) ?_;refine zX (Ze4 (Zn (ZH ex_10 rfl)) rfl) ?_;refine Zes (fun g=>Zeu rfl (ZaE (PF 0 Block (List (List UInt8)) (ZaJ ex_10)))) rfl<|Zes (fun g=>Zag [] fun w v0 hA hO hap hks h0=>Zj9 w v0 hA hO hap hks (toD h0) ex_11.h) rfl ?_;refine zX (Ze4 (Zn (ZH ex_12 rfl)) rfl) ?_;refine ZcX (fun g=>(Zax (Zki ex_12 (off:=0) (by omega) (by decide)))) rfl ?_;refine zC ?_;rintro ⟨⟨⟨_,_⟩,⟨bo,br,po,co,cr⟩⟩,_⟩;dsimp only [Fam.nextS,Fam.nextN,Fam.one,List.cons_append,List.nil_append];skip;refine zg ?_;refine zX (ZaH (Zgb ex_14.h) rfl) ?_;exact Zq ⟨x_14,l_8⟩ ⟨bo,br,po,co,cr⟩ (ZZs K9) (Za (Za (Za (Za (Zc _))))) (by rw [cloJ_hi (by omega)];exact (Zb rfl (Zb rfl (Zb rfl (Zb rfl (Zb rfl (Zd _)))))))
   ·have:=of_decide_eq_false hc;omega
  ·obtain ⟨bo,br,po,co,cr⟩:=m;rw [cloJ_hi hx];refine zg ?_;refine zc H9 (fun hc H9=>?_) fun hc H9=>?_
   ·refine zn H9 fun x_10 ex_10 H9=>?_
    refine zn H9 fun x_11 ex_11 H9=>?_
    refine zn H9 fun x_12 ex_12 H9=>?_
    replace ex_12:=ex_12.h;refine zn H9 fun l_13 el_13 H9=>?_
    refine zn H9 fun x_14 ex_14 H9=>?_
    have e14:=(ZcD ex_14.h).1;have hset:(l_8.set (Int.toNat x_7) (⟨x_11,x_12.Used,x_12.Worn,x_12.Bad⟩:Block))=l_8:=by
      have h12:x_12=x_10:=by rw [ex_10.h] at ex_12;exact (ZZs ex_12)
      obtain ⟨-,h5⟩:=Za2 ex_10.h;obtain ⟨h6,h7⟩:=List.getElem?_eq_some_iff.1 h5;rw [ZdH ex_11.h,h12];show l_8.set (Int.toNat x_7) x_10=l_8;rw [← h7,List.set_getElem_self]
    rw [show l_13=l_8 from (ZZi el_13.h).symm.trans hset] at H9;have hxn:Int.toNat x_7≠Int.toNat β:=by have:=Zh8 ex_10.h;omega
    refine zC ?_;refine zX (Zf8 [8,9,12] [b6_3] mix (by kernel_rfl) (by kernel_rfl)) ?_;refine zX (Ze4 (ZI ZL) rfl) ?_;refine zX (Ze4 (ZI ZL) rfl) ?_;refine zX (Ze4 (Zn (ZH ex_10.h rfl)) rfl) ?_;refine Zes (fun g=>Zeu rfl (ZaE (Pl.mix (PF 0 Block (List (List UInt8)) (ZaJ ex_10.h)) (by simp only [show Dat.sz Block=4 from rfl,show Dat.sz (List (List UInt8))=1 from rfl];omega)))) rfl<|Zes (fun g=>Zeu rfl (ZaK fun w v0 hA h0=>Zhz w v0 hA (toD h0) ex_11.h)) rfl ?_;refine zX (Ze4 (Zn (ZH ex_12 rfl)) rfl) ?_;refine ZcX (fun g=>(Zy (y:=(x_11:(List (List UInt8)))) (Pl.mix (PF 0 Block (List (List UInt8)) (ZaJ ex_12)) (by simp only [show Dat.sz Block=4 from rfl,show Dat.sz (List (List UInt8))=1 from rfl];omega)))) rfl ?_;refine zC ?_;rintro ⟨⟨⟨_,_⟩,_⟩,_⟩;dsimp only [Fam.nextS,Fam.nextN,Fam.one,List.cons_append,List.nil_append];refine zX (Zah b6_3 (ZcE (by rw [hset]))) ?_;refine zX (ZaH (Zgb ex_14.h) rfl) ?_;exact Zq ⟨x_14,l_8⟩ ⟨bo,br,po,co,cr⟩ (ZZs H9) (Za (Za (Za (Za (Zc _))))) (by rw [cloJ_hi (by omega)];exact (Zb rfl (Zb rfl (Zb rfl (Zb rfl (Zb rfl (Zd _)))))))
   ·refine zg ?_;exact Zi l_8 ⟨bo,br,po,co,cr⟩ (he9 _ (ZZs H9)).symm (Za (Za (Zc _))) (Zb rfl (Zb rfl (Zb rfl (Zb rfl (Zb rfl (Zd _))))))
 rintro l_5 ⟨bo,br,po,co,cr⟩ hp;replace hp:=hp.symm;subst hp;dsimp only;refine zg ?_;refine TSx (ZaE (Pl.mix (PF 5 Chip (List Fault) Zv) (by first | decide | omega))) ?_;refine zn H fun x_15 ex_15 H=>?_
 refine zX (ZaH (ZaK fun w v0 hA h0=>Zbv w v0 hA (toD h0) ex_15.h) rfl) ?_;refine Za0 (Zy (y:=(x_15:(List Fault))) (Pl.mix (PF 5 Chip (List Fault) Zv) (by first | decide | omega))) ?_;refine zC ?_;refine zn H fun c_16 ec_16 H=>?_
 refine zX (ZB b1_0 (ZcE (ZZ ec_16.h))) ?_;refine TSx (Zdp trivial rfl rfl) ?_;refine zX (Za0 (ZP trivial rfl CtSc.h)) ?_;obtain rfl:=ZZi H;exact ZA rfl ⟨b6_3,p6_3,c6_3,bo,br,po,co,cr⟩ (VC_le (ZgF (α:=Block) (by have h:=((PF 2 Chip (List Block) (Zv (α:=Chip) (i:=Chip_dat) (x:=c_16)))).st ([]:(List Block));exact h) rfl)) (Zb rfl (Zb rfl (Zb rfl (Zd _))))
def Zdv (c0:Chip) (x_6:Block) (x_10:Int):Option (Int⊕(Unit⊕Bool)):=
 bif (decide (x_10<(x_6.Pages.length:Int))) then ((idx x_6.Pages x_10).bind fun x_12=>bif (decide ((x_12.length:Int)≠c0.Size)) then (some (.inr (.inr false))) else ((ZaA x_10 1).bind fun x_15=>some (.inl x_15))) else (some (.inr (.inl ())))
def Zdw (c0:Chip) (x_4:Int):Option (Int⊕(Unit⊕Bool)):=
 bif (decide (x_4<(c0.Blocks.length:Int))) then ((idx c0.Blocks x_4).bind fun x_6=>bif (((((decide ((x_6.Pages.length:Int)≠c0.Pages))||(decide (x_6.Used<(0:Int))))||(decide (x_6.Used>c0.Pages)))||(decide (x_6.Worn<(0:Int))))||(decide (x_6.Worn>(1099511627776:Int)))) then (some (.inr (.inr false))) else ((ZR (fun s=>Zdv c0 x_6 s) (0:Int)).bind fun o_9=>elS o_9 (fun _=>(ZaA x_4 1).bind fun x_16=>some (.inl x_16)) (fun q=>some (.inr (.inr q))))) else (some (.inr (.inl ())))
def ZeP (c0:Chip):Option Bool:=
 (ZfN (c0.Blocks.length:Int) c0.Pages c0.Size).bind fun x_2=>bif ((((!x_2)||(decide (c0.Ops<(0:Int))))||(decide (c0.Ops>(1099511627776:Int))))||(decide ((c0.Faults.length:Int)>(64:Int)))) then (some false) else ((ZR (fun s=>Zdw c0 s) (0:Int)).bind fun o_3=>elS o_3 (fun _=>some true) (fun q=>some q))
instance chip_Right_c:Fd1 49 ZeP fun r=>D r:=en1 Tryz.func49 rfl Tryz.ntmps49 fun A w hA c0 r H=>by
 unfold ZeP at H;refine zg ?_;refine TS.box rfl fun b1_0=>zg ?_
 refine zb H fun _ _ H=>?_
 refine zc H (fun hc H=>?_) fun hc H=>?_
 ·exact zY H
 ·refine zC ?_;refine zh H fun o_3 H3 H=>?_
  refine Zo (fun s:Unit=>o_3=.inl s) (fun (_:Unit) (_:Unit)=>Env.nil) (fun (_:Unit) (_:Unit)=>[]) ?_ ?_
  ·skip;refine Zp<|Zt H3 (fun (x_4:Int) (_:Unit)=>(Env.set (Env.set (Env.set (Env.set Env.nil 1 (Pt b1_0 0)) 33 (D c0.Blocks)) 34 (D ((c0.Blocks.length:Int):Int))) 35 (D x_4))) (fun (x_4:Int) (_:Unit)=>[⟨b1_0,True,(One c0)⟩]) () (Za (Za (Za (Za (Zc _))))) (Zb rfl (Zd _)) ?_;rintro x_4 ⟨⟩ x_5 H5 he5;replace H5:Zdw c0 x_4=some x_5:=H5;unfold Zdw at H5;refine zg ?_;refine zc H5 (fun hc H5=>?_) fun hc H5=>?_
   ·refine zg ?_;refine zb H5 fun x_6 _ H5=>?_
    refine TS.alloc (α:=Block) rfl fun b4_6=>zg ?_
    refine zc H5 (fun hc H5=>?_) fun hc H5=>?_
    ·refine zC ?_;refine ZM<|Zg<|Zf<|Zg<|Zg<|Zf<|Zs ?_;have R7:=ZaZ (he5 _ (ZZs H5)) H;refine zg ?_;obtain rfl:=ZZi R7;exact ZbJ rfl Cv.le
    ·refine zC ?_;refine zh H5 fun o_9 H9 H5=>?_
     refine Zo (fun s:Unit=>o_9=.inl s) (fun (_:Unit) (_:Unit)=>(Env.set (Env.set (Env.set (Env.set Env.nil 1 (Pt b1_0 0)) 33 (D c0.Blocks)) 34 (D ((c0.Blocks.length:Int):Int))) 35 (D x_4))) (fun (_:Unit) (_:Unit)=>[⟨b1_0,True,(One c0)⟩]) ?_ ?_
     ·skip;refine Zp<|Zt H9 (fun (x_10:Int) (_:Unit)=>(Env.set (Env.set (Env.set (Env.set (Env.set (Env.set (Env.set Env.nil 1 (Pt b1_0 0)) 33 (D c0.Blocks)) 34 (D ((c0.Blocks.length:Int):Int))) 35 (D x_4)) 68 (D x_6.Pages)) 69 (D ((x_6.Pages.length:Int):Int))) 70 (D x_10))) (fun (x_10:Int) (_:Unit)=>[⟨b1_0,True,(One c0)⟩]) () (Za (Za (Za (Za (Za (Za (Za (Zc _)))))))) (Zb rfl (Zd _)) ?_;rintro x_10 ⟨⟩ x_11 H11 he11;replace H11:Zdv c0 x_6 x_10=some x_11:=H11;unfold Zdv at H11;refine zg ?_;refine zc H11 (fun hc H11=>?_) fun hc H11=>?_
      ·refine zg ?_;refine zb H11 fun _ _ H11=>?_
       refine zc H11 (fun hc H11=>?_) fun hc H11=>?_
       ·refine zC ?_;refine ZM<|Zf<|Zg<|Zg<|Zf<|Zs ?_;have R12:=ZaZ (he11 _ (ZZs H11)) H5;refine Zf<|Zg<|Zg<|Zf<|Zs ?_;have R13:=ZaZ (he5 _ (ZZs R12)) H;refine zg ?_;obtain rfl:=ZZi R13;exact ZbJ rfl Cv.le
       ·refine zg ?_;refine zb H11 fun x_15 _ H11=>?_
        exact Zq x_15 () (ZZs H11) (Za (Za (Za (Za (Za (Za (Za (Zc _)))))))) (Zb rfl (Zd _))
      ·refine zg ?_;exact Zi () () (he11 _ (ZZs H11)).symm (Za (Za (Za (Za (Zc _))))) (Zb rfl (Zd _))
     rintro ⟨⟩ ⟨⟩ hp;replace H5:=Zco hp H5;refine zg ?_;refine zb H5 fun x_16 _ H5=>?_
     exact Zq x_16 () (ZZs H5) (Za (Za (Za (Za (Zc _))))) (Zb rfl (Zd _))
   ·refine zg ?_;exact Zi () () (he5 _ (ZZs H5)).symm (Zc _) (Zd _)
  rintro ⟨⟩ ⟨⟩ hp;replace H:=Zco hp H;exact zY H
def Zms (c0:Chip) (faults0:(List Fault)):Option (Chip×Int):=
 (Zbz c0).bind fun x_3=>(ZeP c0).bind fun x_5=>bif ((!x_5)||(decide ((faults0.length:Int)>(64:Int)))) then (some (x_3,(1:Int))) else ((some ((⟨x_3.Pages,x_3.Size,x_3.Blocks,x_3.Ops,false,x_3.Faults⟩:Chip):Chip)).bind fun d_6=>(ZT faults0).bind fun x_7=>(some ((⟨d_6.Pages,d_6.Size,d_6.Blocks,d_6.Ops,d_6.Off,x_7⟩:Chip):Chip)).bind fun d_8=>some (d_8,(0:Int)))
instance chip_On_c:Fd2 12 Zms fun r=>Tup [D r.1,D r.2]:=en2 Tryz.func12 rfl Tryz.ntmps12 fun A w hA c0 faults0 r H=>by
 unfold Zms at H;refine zg ?_;refine TS.box rfl fun b2_0=>?_
 refine TS.alloc (α:=Chip) rfl fun b4_1=>zg ?_
 refine zn H fun _ ex_3 H=>?_
 refine TSx (ZaK fun w v0 hA h0=>chip_clone_c w v0 hA (toD h0) ex_3.h) ?_;refine TS.alloc (α:=Chip) rfl fun b6_3=>zg ?_
 refine zb H fun _ _ H=>?_
 refine zc H (fun hc H=>?_) fun hc H=>?_
 ·exact zY H
 ·refine zC ?_;refine zn H fun _ ed_6 H=>?_
  refine zX (ZB b6_3 (ZZ ed_6.h)) ?_;refine zn H fun _ ex_7 H=>?_
  refine TSx (ZaK fun w v0 hA h0=>Zbv w v0 hA (toD h0) ex_7.h) ?_;exact zY H
def Ze2 (c0:Chip) (block0:Int):Option Bool:=
 (ZeP c0).bind fun x_2=>some ((x_2&&(decide (block0≥(0:Int))))&&(decide (block0<(c0.Blocks.length:Int))))
instance chip_has_c:Fd2 162 Ze2 fun r=>D r:=en2 Tryz.func162 rfl Tryz.ntmps162 fun _ _ _ _ _ _ H=>by
 unfold Ze2 at H;exact zY H
theorem Zj7 {c:Chip} {n:Int} {x:Bool} (H:Ze2 c n=some x) (h:idx c.Blocks n=none):x=false:=by
 unfold Ze2 at H;refine zn H fun _ _ H=>?_
 rw [← ZZi H];unfold idx at h
 split at h
 ·have h2:=List.getElem?_eq_none_iff.1 h;have h3:decide (n<(c.Blocks.length:Int))=false:=by simp;omega
  rw [h3,Bool.and_false]
 ·have h3:decide (n≥(0:Int))=false:=by simp;omega
  rw [h3,Bool.and_false,Bool.false_and]
theorem block_same {xs:List Block} {k:Int} {y:Block} (e:idx xs k=some y):xs.set k.toNat (⟨y.Pages,y.Used,y.Worn,y.Bad⟩:Block)=xs:=by
 obtain ⟨-,h5⟩:=Za2 e;obtain ⟨h6,h7⟩:=List.getElem?_eq_some_iff.1 h5;show xs.set k.toNat y=xs;rw [← h7,List.set_getElem_self]
theorem ZfO {xs:List Block} {c:Nat} {k:Int} {y:Block} (e:idx xs k=some y):CtSet (Row xs c) ((0+Int.toNat k*Dat.sz Block)+0) (List (List UInt8)) instList y.Pages (Row xs c):=by
 have h:=((Pl.fld (off:=0) (α:=Block) (i:=Block_dat) (β:=(List (List UInt8))) (j:=instList) (ZaJ (i:=Block_dat) (c:=c) e))).st y.Pages;rw [block_same e] at h;exact h
def Zih (c0:Chip) (block0:Int):Option (Chip×Int):=
 (Zbz c0).bind fun x_3=>(some ((⟨x_3.Pages,x_3.Size,[],x_3.Ops,x_3.Off,x_3.Faults⟩:Chip):Chip)).bind fun d_6=>(Ze2 c0 block0).bind fun x_7=>bif (!x_7) then ((some ((⟨d_6.Pages,d_6.Size,x_3.Blocks,d_6.Ops,d_6.Off,d_6.Faults⟩:Chip):Chip)).bind fun k_8=>some (k_8,(1:Int))) else (bif c0.Off then ((some ((⟨d_6.Pages,d_6.Size,x_3.Blocks,d_6.Ops,d_6.Off,d_6.Faults⟩:Chip):Chip)).bind fun k_9=>some (k_9,(7:Int))) else ((idx x_3.Blocks block0).bind fun x_10=>(some ((x_3.Blocks.set (Int.toNat block0) (⟨x_10.Pages,x_10.Used,x_10.Worn,true⟩:Block)):(List Block))).bind fun l_11=>(some ((⟨d_6.Pages,d_6.Size,l_11,d_6.Ops,d_6.Off,d_6.Faults⟩:Chip):Chip)).bind fun k_12=>some (k_12,(0:Int))))
instance chip_Mark_c:Fd2 165 Zih fun r=>Tup [D r.1,D r.2]:=en2 Tryz.func165 rfl Tryz.ntmps165 fun A w hA c0 block0 r H=>by
 unfold Zih at H;refine zg ?_;refine TS.box rfl fun b2_0=>?_
 refine TS.alloc (α:=Chip) rfl fun b4_1=>zg ?_
 refine zn H fun x_3 ex_3 H=>?_
 refine Zc8 (Zag [] fun w v0 hA hO hap hks h0=>Zgs w v0 hA hO hap hks (toD h0) ex_3.h) rfl fun ⟨b8_3,p8_3,c8_3⟩=>?_
 dsimp only [List.cons_append,List.nil_append];refine TS.alloc (α:=Chip) rfl fun b6_4=>?_
 refine Za0 (ZP trivial rfl CtSc.h) ?_;refine zC ?_;refine zn H fun _ ed_6 H=>?_
 refine zX (ZB b6_4 (ZcE (ZZ ed_6.h))) ?_;refine zb H fun _ _ H=>?_
 refine zc H (fun hc H=>?_) fun hc H=>?_
 ·refine zg ?_;refine TS.coll b6_4 b8_3 (o:=2) (((PF 2 Chip (List Block) Zv)).st (x_3.Blocks:List Block)) (ZE PlS.all rfl) ?_;exact zY H
 ·refine zg ?_;refine zc H (fun hc H=>?_) fun hc H=>?_
  ·refine zg ?_;refine TS.coll b6_4 b8_3 (o:=2) (((PF 2 Chip (List Block) Zv)).st (x_3.Blocks:List Block)) (ZE PlS.all rfl) ?_;exact zY H
  ·refine zg ?_;refine zX (ZaH (ZI ZL) rfl) ?_;refine zn H fun _ ex_10 H=>?_
   refine TSx (Zn (ZH ex_10.h rfl)) ?_;refine zC ?_;refine zn H fun l_11 el_11 H=>?_
   refine ZB b8_3 (Zaa el_11.h) ?_;refine zX (ZB b6_4 (Zfb (ZdY el_11.h (by simp)))) ?_;refine TS.coll b6_4 b8_3 (o:=2) (((PF 2 Chip (List Block) Zv)).st (l_11:List Block)) (ZE PlS.all rfl) ?_;exact zY H
end Go.Proofs.YtkmojgfenlgchaaGreatDoor.Tr
namespace Go.Proofs.YtkmojgfenlgchaaGreatDoor.Tr
open Go Go.RowKit
set_option maxRecDepth 100000
set_option synthInstance.maxHeartbeats 400000
set_option synthInstance.maxSize 4096
def ZbY (c0:Chip) (x_4:Int):Option (Int⊕(Unit⊕(Fault×Bool))):=
 bif (decide (x_4<(c0.Faults.length:Int))) then ((idx c0.Faults x_4).bind fun x_6=>bif (decide (x_6.Op=c0.Ops)) then (some (.inr (.inr (x_6,(x_6.Cut||x_6.Fail))))) else ((ZaA x_4 1).bind fun x_9=>some (.inl x_9))) else (some (.inr (.inl ())))
def Zd2 (c0:Chip):Option (Fault×Bool):=
 (ZR (fun s=>ZbY c0 s) (0:Int)).bind fun o_3=>elS o_3 (fun _=>(some ((⟨0,false,false,0⟩:Fault):Fault)).bind fun k_10=>some (k_10,false)) (fun q=>some q)
instance chip_strikes_c:Fd1 163 Zd2 fun r=>Tup [D r.1,D r.2]:=en1 Tryz.func163 rfl Tryz.ntmps163 fun A w hA c0 r H=>by
 unfold Zd2 at H;refine zg ?_;refine TS.box rfl fun b1_0=>?_
 refine TS.alloc (α:=Fault) rfl fun b2_1=>?_
 refine zC ?_;refine zC ?_;refine zh H fun o_3 H3 H=>?_
 refine Zo (fun s:Unit=>o_3=.inl s) (fun (_:Unit) (_:Unit)=>(Env.set Env.nil 2 (Pt b2_1 0))) (fun (_:Unit) (_:Unit)=>[⟨b2_1,True,(One ((Dat.z:Fault):Fault))⟩]) ?_ ?_
 ·skip;refine Zp<|Zt H3 (fun (x_4:Int) (_:Unit)=>(Env.set (Env.set (Env.set (Env.set (Env.set Env.nil 1 (Pt b1_0 0)) 2 (Pt b2_1 0)) 7 (D c0.Faults)) 8 (D ((c0.Faults.length:Int):Int))) 9 (D x_4))) (fun (x_4:Int) (_:Unit)=>[⟨b1_0,True,(One c0)⟩,⟨b2_1,True,(One ((Dat.z:Fault):Fault))⟩]) () (Za (Za (Za (Za (Za (Zc _)))))) (Zb rfl (Zb rfl (Zd _))) ?_;rintro x_4 ⟨⟩ x_5 H5 he5;replace H5:ZbY c0 x_4=some x_5:=H5;unfold ZbY at H5;refine zg ?_;refine zc H5 (fun hc H5=>?_) fun hc H5=>?_
  ·refine zg ?_;refine zb H5 fun x_6 _ H5=>?_
   refine TS.alloc (α:=Fault) rfl fun b5_6=>zg ?_
   refine zc H5 (fun hc H5=>?_) fun hc H5=>?_
   ·refine zX (ZaM [7] [b2_1] mix (by kernel_rfl) (by kernel_rfl)) ?_;refine ZcX (fun g=>(Zy (y:=(x_6:Fault)) Zv)) rfl ?_;refine zC ?_;rintro ⟨_,_⟩;dsimp only [Fam.nextS,Fam.nextN,Fam.one,List.cons_append,List.nil_append];refine ZM<|Zf<|Zg<|Zg<|Zf<|Zs ?_;have R7:=ZaZ (he5 _ (ZZs H5)) H;refine zg ?_;obtain rfl:=ZZi R7;exact ZeR rfl rfl (.cons Cv.le (.cons Cv.le .nil))
   ·refine zg ?_;refine zb H5 fun x_9 _ H5=>?_
    exact Zq x_9 () (ZZs H5) (Za (Za (Za (Za (Za (Zc _)))))) (Zb rfl (Zb rfl (Zd _)))
  ·refine zg ?_;exact Zi () () (he5 _ (ZZs H5)).symm (Za (Zc _)) (Zb rfl (Zd _))
 rintro ⟨⟩ ⟨⟩ hp;replace H:=Zco hp H;refine zg ?_;refine TSx (Zk (⟨0,false,false,0⟩:Fault) rfl ⟨_,Tryz.underlying120,by kernel_rfl⟩ rfl rfl) ?_;exact zY H
def ZeO (f0:Fault):Option (Bool×Int):=
 bif f0.Cut then (some (true,(7:Int))) else (some (false,(9:Int)))
instance chip_struck_c:Fd1 164 ZeO fun r=>Tup [D r.1,D r.2]:=en1 Tryz.func164 rfl Tryz.ntmps164 fun _ _ _ _ _ H=>by
 unfold ZeO at H;exact zY H
def Zdh (c0:Chip) (page0:Int) (x_8:Block) (r_9:(Fault×Bool)) (x_21:Int) (q_22:(List (List UInt8))):Option ((Int×(List (List UInt8)))⊕(List (List UInt8))):=
 bif (decide (x_21<c0.Size)) then ((lenI q_22.length x_8.Pages.length).bind fun u_24=>(idx q_22 page0).bind fun x_25=>(idx x_25 x_21).bind fun x_26=>(idx x_25 x_21).bind fun x_27=>(some ((q_22.set (Int.toNat page0) (x_25.set (Int.toNat x_21) (x_26 ||| (~~~r_9.1.Mask)))):(List (List UInt8)))).bind fun q_28=>(ZaA x_21 1).bind fun x_29=>some (.inl (x_29,q_28))) else (some (.inr q_22))
def Zfg (c0:Chip) (block0:Int) (page0:Int) (p0:(List UInt8)):Option (Chip×Int):=
 (Zbz c0).bind fun x_3=>(some ((⟨x_3.Pages,x_3.Size,[],x_3.Ops,x_3.Off,x_3.Faults⟩:Chip):Chip)).bind fun d_6=>(Ze2 c0 block0).bind fun x_7=>bif (((((!x_7)||(decide (page0<(0:Int))))||(decide (page0≥c0.Pages)))||(decide ((p0.length:Int)≠c0.Size)))||(decide (c0.Ops≥(1099511627776:Int)))) then (some ((⟨d_6.Pages,d_6.Size,x_3.Blocks,d_6.Ops,d_6.Off,d_6.Faults⟩:Chip),(1:Int))) else (bif c0.Off then (some ((⟨d_6.Pages,d_6.Size,x_3.Blocks,d_6.Ops,d_6.Off,d_6.Faults⟩:Chip),(7:Int))) else ((idx x_3.Blocks block0).bind fun x_8=>bif (x_8.Bad||(decide (page0≠x_8.Used))) then (some ((⟨d_6.Pages,d_6.Size,x_3.Blocks,d_6.Ops,d_6.Off,d_6.Faults⟩:Chip),(9:Int))) else ((Zd2 c0).bind fun r_9=>(ZaA d_6.Ops 1).bind fun x_11=>(some ((⟨d_6.Pages,d_6.Size,d_6.Blocks,x_11,d_6.Off,d_6.Faults⟩:Chip):Chip)).bind fun d_12=>(ZaA x_8.Used 1).bind fun x_13=>(some ((x_3.Blocks.set (Int.toNat block0) (⟨x_8.Pages,x_13,x_8.Worn,x_8.Bad⟩:Block)):(List Block))).bind fun l_14=>(idx x_8.Pages page0).bind fun x_15=>(some ((x_8.Pages.set (Int.toNat page0) (over x_15 p0)):(List (List UInt8)))).bind fun q_16=>bif (!r_9.2) then ((lenI q_16.length x_8.Pages.length).bind fun u_17=>(idx l_14 block0).bind fun x_18=>some ((⟨d_12.Pages,d_12.Size,(l_14.set (Int.toNat block0) (⟨q_16,x_18.Used,x_18.Worn,x_18.Bad⟩:Block)),d_12.Ops,d_12.Off,d_12.Faults⟩:Chip),(0:Int))) else ((ZR (fun s=>Zdh c0 page0 x_8 r_9 s.1 s.2) ((0:Int),q_16)).bind fun q_19=>(ZeO r_9.1).bind fun r_30=>(some ((⟨d_12.Pages,d_12.Size,d_12.Blocks,d_12.Ops,r_30.1,d_12.Faults⟩:Chip):Chip)).bind fun d_31=>(lenI q_19.length x_8.Pages.length).bind fun u_32=>(idx l_14 block0).bind fun x_33=>some ((⟨d_31.Pages,d_31.Size,(l_14.set (Int.toNat block0) (⟨q_19,x_33.Used,x_33.Worn,x_33.Bad⟩:Block)),d_31.Ops,d_31.Off,d_31.Faults⟩:Chip),r_30.2)))))
instance chip_Program_c:Fd4 143 Zfg fun r=>Tup [D r.1,D r.2]:=en4 Tryz.func143 rfl Tryz.ntmps143 fun A w hA c0 block0 page0 p0 r H=>by
 unfold Zfg at H;rcases hgh:idx c0.Blocks block0 with _ | yg
 ·skip;refine zg ?_;refine TS.box rfl fun b4_0=>?_
  refine TS.alloc (α:=Chip) rfl fun b8_1=>zg ?_
  refine zn H fun x_3 ex_3 H=>?_
  refine Zc8 (Zag [] fun w v0 hA hO hap hks h0=>Zgs w v0 hA hO hap hks (toD h0) ex_3.h) rfl fun ⟨b18_3,p18_3,c18_3⟩=>?_
  dsimp only [List.cons_append,List.nil_append];refine TS.alloc (α:=Chip) rfl fun b10_4=>?_
  refine Za0 (ZP trivial rfl CtSc.h) ?_;refine zC ?_;refine zn H fun _ ed_6 H=>?_
  refine zX (ZB b10_4 (ZcE (ZZ ed_6.h))) ?_;refine zb H fun _ ex_7 H=>?_
  refine Zfu (fun hc=>?_) (fun hc=>?_)
  ·replace H:=cT H hc;refine zg ?_;refine TSx (Zdp trivial rfl rfl)<|Za0 (ZP trivial rfl CtSc.h) ?_;refine zC ?_;refine ZM<|Zg<|TE.coll b8_1 b18_3 (o:=2) (((PF 2 Chip (List Block) Zv)).st (x_3.Blocks:List Block)) (ZE PlS.all rfl) ?_;exact zY H
  ·exact absurd hc (by simp [Zj7 ex_7.h hgh])
 ·skip;refine zg ?_;refine TS.box rfl fun b4_0=>?_
  refine TS.alloc (α:=Chip) rfl fun b8_1=>zg ?_
  refine zn H fun x_3 ex_3 H=>?_
  have hgz:idx x_3.Blocks block0=some yg:=(congrArg (fun c:Chip=>idx c.Blocks block0) (ZhA ex_3.h)).trans hgh;refine Zc8 (Zag [] fun w v0 hA hO hap hks h0=>Zk5 w v0 hA hO hap hks (toD h0) ex_3.h hgz) rfl fun ⟨b18_3,p18_3,c18_3,bo18_3,br18_3,po18_3,co18_3,cr18_3⟩=>?_
  dsimp only [List.cons_append,List.nil_append];refine TS.alloc (α:=Chip) rfl fun b10_4=>?_
  refine Za0 (ZP trivial rfl CtSc.h) ?_;refine zC ?_;refine zn H fun _ ed_6 H=>?_
  refine zX (ZB b10_4 (ZcE (ZZ ed_6.h))) ?_;refine zb H fun _ _ H=>?_
  refine zc H (fun hc H=>?_) fun hc H=>?_
  ·refine zg ?_;refine TSx (Zdp trivial rfl rfl)<|Za0 (ZP trivial rfl CtSc.h) ?_;refine zC ?_;refine ZM<|Zg<|TE.collS bo18_3 br18_3 rfl rfl ?_;refine TE.coll b18_3 bo18_3 (o:=((0+Int.toNat block0*Dat.sz Block)+0)) (ZfO hgz) (ZE PlS.all rfl) ?_;refine TE.coll b8_1 b18_3 (o:=2) (((PF 2 Chip (List Block) Zv)).st (x_3.Blocks:List Block)) (ZE PlS.all (by simp)) ?_;exact zY H
  ·refine zg ?_;refine zc H (fun hc H=>?_) fun hc H=>?_
   ·refine zg ?_;refine TSx (Zdp trivial rfl rfl)<|Za0 (ZP trivial rfl CtSc.h) ?_;refine zC ?_;refine ZM<|Zg<|TE.collS bo18_3 br18_3 rfl rfl ?_;refine TE.coll b18_3 bo18_3 (o:=((0+Int.toNat block0*Dat.sz Block)+0)) (ZfO hgz) (ZE PlS.all rfl) ?_;refine TE.coll b8_1 b18_3 (o:=2) (((PF 2 Chip (List Block) Zv)).st (x_3.Blocks:List Block)) (ZE PlS.all (by simp)) ?_;exact zY H
   ·refine zg ?_;refine zX (ZaH (ZI ZL) rfl) ?_;refine zn H fun x_8 ex_8 H=>?_
    obtain rfl:x_8=yg:=ZZi (ex_8.h.symm.trans hgz);refine zX (ZaH (Zn (ZH ex_8.h (by simp))) rfl) ?_;refine zX (ZaH (ZaE (Pl.mix (PF 3 Block Bool (ZaJ ex_8.h)) (by first | decide | omega))) rfl) ?_;refine zX (Zmy 57 rfl (fun hg=>(ZaE (Pl.mix (PF 1 Block Int (ZaJ ex_8.h)) (by first | decide | omega)))) rfl) ?_;refine zc H (fun hc H=>?_) fun hc H=>?_
    ·refine zg ?_;refine TSx (Zdp trivial rfl rfl)<|Za0 (ZP trivial rfl CtSc.h) ?_;refine zC ?_;refine ZM<|Zg<|TE.collS bo18_3 br18_3 rfl rfl ?_;refine TE.coll b18_3 bo18_3 (o:=((0+Int.toNat block0*Dat.sz Block)+0)) (ZfO hgz) (ZE PlS.all rfl) ?_;refine TE.coll b8_1 b18_3 (o:=2) (((PF 2 Chip (List Block) Zv)).st (x_3.Blocks:List Block)) (ZE PlS.all (by simp)) ?_;exact zY H
    ·refine zg ?_;refine zb H fun r_9 _ H=>?_
     refine TS.alloc (α:=Fault) rfl fun b12_9=>zg ?_
     refine TSx (ZaE (Pl.mix (PF 3 Chip Int Zv) (by first | decide | omega))) ?_;refine zb H fun x_11 _ H=>?_
     refine Za0 (Zy (y:=(x_11:Int)) (Pl.mix (PF 3 Chip Int Zv) (by first | decide | omega))) ?_;refine zC ?_;refine zn H fun d_12 ed_12 H=>?_
     refine zX (ZB b10_4 (ZcE (ZZ ed_12.h))) ?_;refine TSx (ZaE (Pl.mix (PF 1 Block Int (ZaJ ex_8.h)) (by first | decide | omega))) ?_;refine zb H fun x_13 _ H=>?_
     refine Za0 (Zy (y:=(x_13:Int)) (Pl.mix (PF 1 Block Int (ZaJ ex_8.h)) (by first | decide | omega))) ?_;refine zC ?_;refine zn H fun l_14 el_14 H=>?_
     refine ZB b18_3 (ZcE (Zaa el_14.h)) ?_;refine zX (ZB b10_4 (Zfb (ZdY el_14.h (by simp)))) ?_;refine zX (ZaH (ZI ZL) rfl) ?_;refine zn H fun x_15 ex_15 H=>?_
     refine TSx (Zn (ZH ex_15.h rfl)) ?_;refine zX (ZaH (ZI (ZlK ex_15.h (by show 0+_*1=_;omega))) rfl) ?_;refine TS.u (Zc0 (ys:=p0) inferInstance (PlS.page ex_15.h) rfl (fun _ h=>rowF_nil ex_15.h h)) rfl ?_;refine zC ?_;refine ZB bo18_3 (Zlw (ys:=(over x_15 p0)) ex_15.h over_len) ?_;refine zn H fun q_16 eq_16 H=>?_
     refine ZB br18_3 (rowF_nm eq_16.h) ?_;refine zX (ZB bo18_3 (rowS_nm eq_16.h)) ?_;refine zc H (fun hc H=>?_) fun hc H=>?_
     ·refine zg ?_;refine TSx (Zdp trivial rfl rfl)<|Za0 (ZP trivial rfl CtSc.h) ?_;refine zC ?_;refine ZM<|Zg ?_;refine zn H fun _ eu_17 H=>?_
      refine TE.collS bo18_3 br18_3 rfl (Zfq eu_17.h) ?_;refine zn H fun x_18 ex_18 H=>?_
      refine TE.coll b18_3 bo18_3 (o:=((0+Int.toNat block0*Dat.sz Block)+0)) (((PF 0 Block (List (List UInt8)) (ZaJ ex_18.h))).st (q_16:List (List UInt8))) (ZE PlS.all (Zfq eu_17.h)) ?_;refine Zah b8_1 (Zfb (m:=l_14.length) (n:=(l_14.set (Int.toNat block0) (⟨q_16,x_18.Used,x_18.Worn,x_18.Bad⟩:Block)).length) (by simp))<|TE.coll b8_1 b18_3 (o:=2) (((PF 2 Chip (List Block) Zv)).st ((l_14.set (Int.toNat block0) (⟨q_16,x_18.Used,x_18.Worn,x_18.Bad⟩:Block)):List Block)) (ZE PlS.all (by simp)) ?_;exact zY H
     ·refine zC ?_;refine zh H fun o_20 H20 H=>?_
      refine Zo (fun s:(List (List UInt8))=>o_20=s) (fun (q_19:(List (List UInt8))) (_:Unit)=>(Env.set (Env.set (Env.set Env.nil 8 (Pt b8_1 0)) 10 (Pt b10_4 0)) 12 (Pt b12_9 0))) (fun (q_19:(List (List UInt8))) (_:Unit)=>[⟨b18_3,p18_3,(Ct.mix (Row (l_14:List Block) c18_3) ((0+Int.toNat block0*Dat.sz Block)+0) (Sl bo18_3 po18_3 0 x_8.Pages.length co18_3))⟩,⟨bo18_3,po18_3,ZjI br18_3 po18_3 1 (List.map List.length q_19) x_8.Pages.length⟩,⟨br18_3,po18_3,(Row (List.flatten q_19:List UInt8) cr18_3)⟩,⟨b8_1,True,(One ((Dat.z:Chip):Chip))⟩,⟨b10_4,True,(Ct.mix (One d_12) 2 (Sl b18_3 p18_3 0 l_14.length c18_3))⟩,⟨b12_9,True,(One r_9.1)⟩]) ?_ ?_
      ·skip;refine Zp<|Zt H20 (fun ⟨x_21,q_22⟩ (_:Unit)=>(Env.set (Env.set (Env.set (Env.set (Env.set (Env.set (Env.set Env.nil 2 (D page0)) 8 (Pt b8_1 0)) 10 (Pt b10_4 0)) 11 (Pq b18_3 (0+Int.toNat block0*Dat.sz Block) p18_3)) 12 (Pt b12_9 0)) 95 (D c0.Size)) 96 (D x_21))) (fun ⟨x_21,q_22⟩ (_:Unit)=>[⟨b18_3,p18_3,(Ct.mix (Row (l_14:List Block) c18_3) ((0+Int.toNat block0*Dat.sz Block)+0) (Sl bo18_3 po18_3 0 x_8.Pages.length co18_3))⟩,⟨bo18_3,po18_3,ZjI br18_3 po18_3 1 (List.map List.length q_22) x_8.Pages.length⟩,⟨br18_3,po18_3,(Row (List.flatten q_22:List UInt8) cr18_3)⟩,⟨b8_1,True,(One ((Dat.z:Chip):Chip))⟩,⟨b10_4,True,(Ct.mix (One d_12) 2 (Sl b18_3 p18_3 0 l_14.length c18_3))⟩,⟨b12_9,True,(One r_9.1)⟩]) () (Za (Za (Za (Za (Za (Za (Za (Zc _)))))))) (Zb rfl (Zb rfl (Zb rfl (Zb rfl (Zb rfl (Zb rfl (Zd _))))))) ?_;rintro ⟨x_21,q_22⟩ ⟨⟩ x_23 H23 he23;replace H23:Zdh c0 page0 x_8 r_9 x_21 q_22=some x_23:=H23;unfold Zdh at H23;refine zg ?_;refine zc H23 (fun hc H23=>?_) fun hc H23=>?_
       ·refine zC ?_;refine zX (Zf8 [6,8,9,13,14,15] [bo18_3,br18_3] mix (by kernel_rfl) (by kernel_rfl)) ?_;refine zX (Ze4 (ZI ZL) rfl) ?_;refine zn H23 fun _ eu_24 H23=>?_
        refine zn H23 fun x_25 ex_25 H23=>?_
        refine TRx (Zn (ZH ex_25.h (Zfq eu_24.h))) ?_;refine zX (Zes (fun g=>Zeu rfl (ZI (ZlK ex_25.h (by show 0+_*1=_;omega)))) rfl) ?_;refine zn H23 fun x_26 ex_26 H23=>?_
        refine Zes (fun g=>Zeu rfl (Zn (ZH ex_26.h rfl))) rfl ?_;refine zX (Zes (fun g=>Zeu rfl (ZaE (Pl.page ex_25.h ex_26.h))) rfl) ?_;refine TRx OpY.not8<|Zes (fun g=>Zeu rfl OpY.or8) rfl ?_;refine zn H23 fun _ ex_27 H23=>?_
        refine Zes (fun g=>Zeu rfl (Zn (ZH ex_27.h rfl))) rfl<|ZcX (fun g=>(Zy (y:=((x_26 ||| (~~~r_9.1.Mask)):UInt8)) (Pl.page ex_25.h ex_27.h))) rfl ?_;refine zC ?_;rintro ⟨⟨⟨⟨⟨⟨_,_⟩,_⟩,_⟩,_⟩,_⟩,_⟩;dsimp only [Fam.nextS,Fam.nextN,Fam.one,List.cons_append,List.nil_append];refine Zah bo18_3 (Zlw (ys:=(x_25.set (Int.toNat x_21) (x_26 ||| (~~~r_9.1.Mask)))) ex_25.h (by simp)) ?_;refine zn H23 fun q_28 eq_28 H23=>?_
        refine Zah br18_3 (rowF_nm eq_28.h) ?_;refine zX (Zah bo18_3 (rowS_nm eq_28.h)) ?_;refine zb H23 fun x_29 _ H23=>?_
        exact Zq ⟨x_29,q_28⟩ () (ZZs H23) (Za (Za (Za (Za (Za (Za (Za (Zc _)))))))) (Zb rfl (Zb rfl (Zb rfl (Zb rfl (Zb rfl (Zb rfl (Zd _)))))))
       ·refine zg ?_;exact Zi q_22 () (he23 _ (ZZs H23)).symm (Za (Za (Za (Zc _)))) (Zb rfl (Zb rfl (Zb rfl (Zb rfl (Zb rfl (Zb rfl (Zd _)))))))
      rintro q_19 ⟨⟩ hp;replace hp:=hp.symm;subst hp;refine zg ?_;refine zb H fun r_30 _ H=>?_
      refine Za0 (Zy (y:=(r_30.1:Bool)) (Pl.mix (PF 4 Chip Bool Zv) (by first | decide | omega))) ?_;refine zC ?_;refine zn H fun _ ed_31 H=>?_
      refine zX (ZB b10_4 (ZcE (ZZ ed_31.h))) ?_;refine zX (ZaH (Zdp trivial rfl rfl) rfl) ?_;refine Za0 (ZP trivial rfl CtSc.h) ?_;refine zC ?_;refine ZM ?_;refine zn H fun _ eu_32 H=>?_
      refine TE.collS bo18_3 br18_3 rfl (Zfq eu_32.h) ?_;refine zn H fun x_33 ex_33 H=>?_
      refine TE.coll b18_3 bo18_3 (o:=((0+Int.toNat block0*Dat.sz Block)+0)) (((PF 0 Block (List (List UInt8)) (ZaJ ex_33.h))).st (q_19:List (List UInt8))) (ZE PlS.all (Zfq eu_32.h)) ?_;refine Zah b8_1 (Zfb (m:=l_14.length) (n:=(l_14.set (Int.toNat block0) (⟨q_19,x_33.Used,x_33.Worn,x_33.Bad⟩:Block)).length) (by simp))<|TE.coll b8_1 b18_3 (o:=2) (((PF 2 Chip (List Block) Zv)).st ((l_14.set (Int.toNat block0) (⟨q_19,x_33.Used,x_33.Worn,x_33.Bad⟩:Block)):List Block)) (ZE PlS.all (by simp)) ?_;exact zY H
def Zem (c0:Chip) (x_9:Block) (x_20:Int) (q_21:(List (List UInt8))):Option ((Int×(List (List UInt8)))⊕(List (List UInt8))):=
 bif (decide (x_20<c0.Pages)) then ((lenI q_21.length x_9.Pages.length).bind fun u_23=>(idx q_21 x_20).bind fun x_24=>(ZdF x_24).bind fun x_25=>(some ((q_21.set (Int.toNat x_20) x_25):(List (List UInt8)))).bind fun q_26=>(ZaA x_20 1).bind fun x_27=>some (.inl (x_27,q_26))) else (some (.inr q_21))
def Zek (c0:Chip) (x_9:Block) (r_10:(Fault×Bool)) (x_34:Int) (x_39:Int) (q_40:(List (List UInt8))):Option ((Int×(List (List UInt8)))⊕(List (List UInt8))):=
 bif (decide (x_39<c0.Size)) then ((lenI q_40.length x_9.Pages.length).bind fun u_42=>(idx q_40 x_34).bind fun x_43=>(idx x_43 x_39).bind fun x_44=>(idx x_43 x_39).bind fun x_45=>(some ((q_40.set (Int.toNat x_34) (x_43.set (Int.toNat x_39) (x_44 ||| r_10.1.Mask))):(List (List UInt8)))).bind fun q_46=>(ZaA x_39 1).bind fun x_47=>some (.inl (x_47,q_46))) else (some (.inr q_40))
def Zel (c0:Chip) (x_9:Block) (r_10:(Fault×Bool)) (x_34:Int) (q_35:(List (List UInt8))):Option ((Int×(List (List UInt8)))⊕(List (List UInt8))):=
 bif (decide (x_34<c0.Pages)) then ((ZR (fun s=>Zek c0 x_9 r_10 x_34 s.1 s.2) ((0:Int),q_35)).bind fun q_37=>(ZaA x_34 1).bind fun x_48=>some (.inl (x_48,q_37))) else (some (.inr q_35))
def Zg0 (c0:Chip) (block0:Int):Option (Chip×Int):=
 (Zbz c0).bind fun x_3=>(some ((⟨x_3.Pages,x_3.Size,[],x_3.Ops,x_3.Off,x_3.Faults⟩:Chip):Chip)).bind fun d_6=>(Ze2 c0 block0).bind fun x_7=>(gb (!((!x_7)||(decide (c0.Ops≥(1099511627776:Int))))) (idx c0.Blocks block0)).bind fun x_8=>bif (((!x_7)||(decide (c0.Ops≥(1099511627776:Int))))||(decide (x_8.Worn≥(1099511627776:Int)))) then (some ((⟨d_6.Pages,d_6.Size,x_3.Blocks,d_6.Ops,d_6.Off,d_6.Faults⟩:Chip),(1:Int))) else (bif c0.Off then (some ((⟨d_6.Pages,d_6.Size,x_3.Blocks,d_6.Ops,d_6.Off,d_6.Faults⟩:Chip),(7:Int))) else ((idx x_3.Blocks block0).bind fun x_9=>bif x_9.Bad then (some ((⟨d_6.Pages,d_6.Size,x_3.Blocks,d_6.Ops,d_6.Off,d_6.Faults⟩:Chip),(9:Int))) else ((Zd2 c0).bind fun r_10=>(ZaA d_6.Ops 1).bind fun x_12=>(some ((⟨d_6.Pages,d_6.Size,d_6.Blocks,x_12,d_6.Off,d_6.Faults⟩:Chip):Chip)).bind fun d_13=>(ZaA x_9.Worn 1).bind fun x_14=>(some ((x_3.Blocks.set (Int.toNat block0) (⟨x_9.Pages,x_9.Used,x_14,x_9.Bad⟩:Block)):(List Block))).bind fun l_15=>bif (!r_10.2) then ((idx l_15 block0).bind fun x_16=>(some ((l_15.set (Int.toNat block0) (⟨x_16.Pages,(0:Int),x_16.Worn,x_16.Bad⟩:Block)):(List Block))).bind fun l_17=>(ZR (fun s=>Zem c0 x_9 s.1 s.2) ((0:Int),x_9.Pages)).bind fun q_18=>(lenI q_18.length x_9.Pages.length).bind fun u_28=>(idx l_17 block0).bind fun x_29=>some ((⟨d_13.Pages,d_13.Size,(l_17.set (Int.toNat block0) (⟨q_18,x_29.Used,x_29.Worn,x_29.Bad⟩:Block)),d_13.Ops,d_13.Off,d_13.Faults⟩:Chip),(0:Int))) else ((idx l_15 block0).bind fun x_30=>(some ((l_15.set (Int.toNat block0) (⟨x_30.Pages,c0.Pages,x_30.Worn,x_30.Bad⟩:Block)):(List Block))).bind fun l_31=>(ZR (fun s=>Zel c0 x_9 r_10 s.1 s.2) ((0:Int),x_9.Pages)).bind fun q_32=>(ZeO r_10.1).bind fun r_49=>(some ((⟨d_13.Pages,d_13.Size,d_13.Blocks,d_13.Ops,r_49.1,d_13.Faults⟩:Chip):Chip)).bind fun d_50=>(lenI q_32.length x_9.Pages.length).bind fun u_51=>(idx l_31 block0).bind fun x_52=>some ((⟨d_50.Pages,d_50.Size,(l_31.set (Int.toNat block0) (⟨q_32,x_52.Used,x_52.Worn,x_52.Bad⟩:Block)),d_50.Ops,d_50.Off,d_50.Faults⟩:Chip),r_49.2)))))
instance chip_Erase_c:Fd2 139 Zg0 fun r=>Tup [D r.1,D r.2]:=en2 Tryz.func139 rfl Tryz.ntmps139 fun A w hA c0 block0 r H=>by
 unfold Zg0 at H;rcases hgh:idx c0.Blocks block0 with _ | yg
 ·skip;refine zg ?_;refine TS.box rfl fun b2_0=>?_
  refine TS.alloc (α:=Chip) rfl fun b4_1=>zg ?_
  refine zn H fun x_3 ex_3 H=>?_
  refine Zc8 (Zag [] fun w v0 hA hO hap hks h0=>Zgs w v0 hA hO hap hks (toD h0) ex_3.h) rfl fun ⟨b16_3,p16_3,c16_3⟩=>?_
  dsimp only [List.cons_append,List.nil_append];refine TS.alloc (α:=Chip) rfl fun b6_4=>?_
  refine Za0 (ZP trivial rfl CtSc.h) ?_;refine zC ?_;refine zn H fun _ ed_6 H=>?_
  refine zX (ZB b6_4 (ZcE (ZZ ed_6.h))) ?_;refine zb H fun _ ex_7 H=>?_
  refine zd H fun _ _ H=>?_
  refine Zfu (fun hc=>?_) (fun hc=>?_)
  ·replace H:=cT H hc;refine zg ?_;refine TSx (Zdp trivial rfl rfl)<|Za0 (ZP trivial rfl CtSc.h) ?_;refine zC ?_;refine ZM<|Zg<|TE.coll b4_1 b16_3 (o:=2) (((PF 2 Chip (List Block) Zv)).st (x_3.Blocks:List Block)) (ZE PlS.all rfl) ?_;exact zY H
  ·exact absurd hc (by simp [Zj7 ex_7.h hgh])
 ·skip;refine zg ?_;refine TS.box rfl fun b2_0=>?_
  refine TS.alloc (α:=Chip) rfl fun b4_1=>zg ?_
  refine zn H fun x_3 ex_3 H=>?_
  have hgz:idx x_3.Blocks block0=some yg:=(congrArg (fun c:Chip=>idx c.Blocks block0) (ZhA ex_3.h)).trans hgh;refine Zc8 (Zag [] fun w v0 hA hO hap hks h0=>Zk5 w v0 hA hO hap hks (toD h0) ex_3.h hgz) rfl fun ⟨b16_3,p16_3,c16_3,bo16_3,br16_3,po16_3,co16_3,cr16_3⟩=>?_
  dsimp only [List.cons_append,List.nil_append];refine TS.alloc (α:=Chip) rfl fun b6_4=>?_
  refine Za0 (ZP trivial rfl CtSc.h) ?_;refine zC ?_;refine zn H fun _ ed_6 H=>?_
  refine zX (ZB b6_4 (ZcE (ZZ ed_6.h))) ?_;refine zb H fun _ _ H=>?_
  refine zd H fun _ _ H=>?_
  refine zc H (fun hc H=>?_) fun hc H=>?_
  ·refine zg ?_;refine TSx (Zdp trivial rfl rfl)<|Za0 (ZP trivial rfl CtSc.h) ?_;refine zC ?_;refine ZM<|Zg<|TE.collS bo16_3 br16_3 rfl rfl ?_;refine TE.coll b16_3 bo16_3 (o:=((0+Int.toNat block0*Dat.sz Block)+0)) (ZfO hgz) (ZE PlS.all rfl) ?_;refine TE.coll b4_1 b16_3 (o:=2) (((PF 2 Chip (List Block) Zv)).st (x_3.Blocks:List Block)) (ZE PlS.all (by simp)) ?_;exact zY H
  ·refine zg ?_;refine zc H (fun hc H=>?_) fun hc H=>?_
   ·refine zg ?_;refine TSx (Zdp trivial rfl rfl)<|Za0 (ZP trivial rfl CtSc.h) ?_;refine zC ?_;refine ZM<|Zg<|TE.collS bo16_3 br16_3 rfl rfl ?_;refine TE.coll b16_3 bo16_3 (o:=((0+Int.toNat block0*Dat.sz Block)+0)) (ZfO hgz) (ZE PlS.all rfl) ?_;refine TE.coll b4_1 b16_3 (o:=2) (((PF 2 Chip (List Block) Zv)).st (x_3.Blocks:List Block)) (ZE PlS.all (by simp)) ?_;exact zY H
   ·refine zg ?_;refine zX (ZaH (ZI ZL) rfl) ?_;refine zn H fun x_9 ex_9 H=>?_
    obtain rfl:x_9=yg:=ZZi (ex_9.h.symm.trans hgz);refine zX (ZaH (Zn (ZH ex_9.h (by simp))) rfl) ?_;refine zX (ZaH (ZaE (Pl.mix (PF 3 Block Bool (ZaJ ex_9.h)) (by first | decide | omega))) rfl) ?_;refine zc H (fun hc H=>?_) fun hc H=>?_
    ·refine zg ?_;refine TSx (Zdp trivial rfl rfl)<|Za0 (ZP trivial rfl CtSc.h) ?_;refine zC ?_;refine ZM<|Zg<|TE.collS bo16_3 br16_3 rfl rfl ?_;refine TE.coll b16_3 bo16_3 (o:=((0+Int.toNat block0*Dat.sz Block)+0)) (ZfO hgz) (ZE PlS.all rfl) ?_;refine TE.coll b4_1 b16_3 (o:=2) (((PF 2 Chip (List Block) Zv)).st (x_3.Blocks:List Block)) (ZE PlS.all (by simp)) ?_;exact zY H
    ·refine zg ?_;refine zb H fun r_10 _ H=>?_
     refine TS.alloc (α:=Fault) rfl fun b8_10=>zg ?_
     refine TSx (ZaE (Pl.mix (PF 3 Chip Int Zv) (by first | decide | omega))) ?_;refine zb H fun x_12 _ H=>?_
     refine Za0 (Zy (y:=(x_12:Int)) (Pl.mix (PF 3 Chip Int Zv) (by first | decide | omega))) ?_;refine zC ?_;refine zn H fun d_13 ed_13 H=>?_
     refine zX (ZB b6_4 (ZcE (ZZ ed_13.h))) ?_;refine TSx (ZaE (Pl.mix (PF 2 Block Int (ZaJ ex_9.h)) (by first | decide | omega))) ?_;refine zb H fun x_14 _ H=>?_
     refine Za0 (Zy (y:=(x_14:Int)) (Pl.mix (PF 2 Block Int (ZaJ ex_9.h)) (by first | decide | omega))) ?_;refine zC ?_;refine zn H fun _ el_15 H=>?_
     refine ZB b16_3 (ZcE (Zaa el_15.h)) ?_;refine zX (ZB b6_4 (Zfb (ZdY el_15.h (by simp)))) ?_;refine zc H (fun hc H=>?_) fun hc H=>?_
     ·refine zg ?_;refine zn H fun _ ex_16 H=>?_
      refine Za0 (Zy (y:=((0:Int):Int)) (Pl.mix (PF 1 Block Int (ZaJ ex_16.h)) (by first | decide | omega))) ?_;refine zC ?_;refine zn H fun l_17 el_17 H=>?_
      refine ZB b16_3 (ZcE (Zaa el_17.h))<|ZB b6_4 (Zfb (ZdY el_17.h (by simp))) ?_;refine zC ?_;refine zh H fun o_19 H19 H=>?_
      refine Zo (fun s:(List (List UInt8))=>o_19=s) (fun (q_18:(List (List UInt8))) (_:Unit)=>(Env.set (Env.set Env.nil 4 (Pt b4_1 0)) 6 (Pt b6_4 0))) (fun (q_18:(List (List UInt8))) (_:Unit)=>[⟨b16_3,p16_3,(Ct.mix (Row (l_17:List Block) c16_3) ((0+Int.toNat block0*Dat.sz Block)+0) (Sl bo16_3 po16_3 0 x_9.Pages.length co16_3))⟩,⟨bo16_3,po16_3,ZjI br16_3 po16_3 1 (List.map List.length q_18) x_9.Pages.length⟩,⟨br16_3,po16_3,(Row (List.flatten q_18:List UInt8) cr16_3)⟩,⟨b4_1,True,(One ((Dat.z:Chip):Chip))⟩,⟨b6_4,True,(Ct.mix (One d_13) 2 (Sl b16_3 p16_3 0 l_17.length c16_3))⟩]) ?_ ?_
      ·skip;refine Zp<|Zt H19 (fun ⟨x_20,q_21⟩ (_:Unit)=>(Env.set (Env.set (Env.set (Env.set (Env.set Env.nil 4 (Pt b4_1 0)) 6 (Pt b6_4 0)) 7 (Pq b16_3 (0+Int.toNat block0*Dat.sz Block) p16_3)) 70 (D c0.Pages)) 71 (D x_20))) (fun ⟨x_20,q_21⟩ (_:Unit)=>[⟨b16_3,p16_3,(Ct.mix (Row (l_17:List Block) c16_3) ((0+Int.toNat block0*Dat.sz Block)+0) (Sl bo16_3 po16_3 0 x_9.Pages.length co16_3))⟩,⟨bo16_3,po16_3,ZjI br16_3 po16_3 1 (List.map List.length q_21) x_9.Pages.length⟩,⟨br16_3,po16_3,(Row (List.flatten q_21:List UInt8) cr16_3)⟩,⟨b4_1,True,(One ((Dat.z:Chip):Chip))⟩,⟨b6_4,True,(Ct.mix (One d_13) 2 (Sl b16_3 p16_3 0 l_17.length c16_3))⟩]) () (Za (Za (Za (Za (Za (Zc _)))))) (Zb rfl (Zb rfl (Zb rfl (Zb rfl (Zb rfl (Zd _)))))) ?_;rintro ⟨x_20,q_21⟩ ⟨⟩ x_22 H22 he22;replace H22:Zem c0 x_9 x_20 q_21=some x_22:=H22;unfold Zem at H22;refine zg ?_;refine zc H22 (fun hc H22=>?_) fun hc H22=>?_
       ·refine zg ?_;refine zX (ZaH (ZI ZL) rfl) ?_;refine zn H22 fun _ eu_23 H22=>?_
        refine zn H22 fun _ ex_24 H22=>?_
        refine TSx (Zn (ZH ex_24.h (Zfq eu_23.h)))<|TSx (ZI (ZlK ex_24.h (by show 0+_*1=_;omega))) ?_;refine zn H22 fun x_25 ex_25 H22=>?_
        refine Zc8 (Zag [br16_3] fun w v0 hA hO hap hks h0=>chip_fill_p (Cf:=fun ys=>Row (List.flatten (q_21.set (Int.toNat x_20) ys)) cr16_3) (rowF_keep ex_24.h) (fun ys hy=>PlS.pageF ex_24.h hy) w v0 hA hO hap hks h0 ex_25.h) rfl fun _=>?_
        dsimp only [List.cons_append,List.nil_append];refine zE ?_;refine Zah bo16_3 (Zlw (ys:=x_25) ex_24.h (Zj8 ex_25.h)) ?_;refine zn H22 fun q_26 eq_26 H22=>?_
        refine Zah br16_3 (rowF_nm eq_26.h) ?_;refine zX (Zah bo16_3 (rowS_nm eq_26.h)) ?_;refine zb H22 fun x_27 _ H22=>?_
        exact Zq ⟨x_27,q_26⟩ () (ZZs H22) (Za (Za (Za (Za (Za (Zc _)))))) (Zb rfl (Zb rfl (Zb rfl (Zb rfl (Zb rfl (Zd _))))))
       ·refine zg ?_;exact Zi q_21 () (he22 _ (ZZs H22)).symm (Za (Za (Zc _))) (Zb rfl (Zb rfl (Zb rfl (Zb rfl (Zb rfl (Zd _))))))
      rintro q_18 ⟨⟩ hp;replace hp:=hp.symm;subst hp;refine zg ?_;refine TSx (Zdp trivial rfl rfl)<|Za0 (ZP trivial rfl CtSc.h) ?_;refine zC ?_;refine ZM<|Zg ?_;refine zn H fun _ eu_28 H=>?_
      refine TE.collS bo16_3 br16_3 rfl (Zfq eu_28.h) ?_;refine zn H fun x_29 ex_29 H=>?_
      refine TE.coll b16_3 bo16_3 (o:=((0+Int.toNat block0*Dat.sz Block)+0)) (((PF 0 Block (List (List UInt8)) (ZaJ ex_29.h))).st (q_18:List (List UInt8))) (ZE PlS.all (Zfq eu_28.h)) ?_;refine Zah b4_1 (Zfb (m:=l_17.length) (n:=(l_17.set (Int.toNat block0) (⟨q_18,x_29.Used,x_29.Worn,x_29.Bad⟩:Block)).length) (by simp))<|TE.coll b4_1 b16_3 (o:=2) (((PF 2 Chip (List Block) Zv)).st ((l_17.set (Int.toNat block0) (⟨q_18,x_29.Used,x_29.Worn,x_29.Bad⟩:Block)):List Block)) (ZE PlS.all (by simp)) ?_;exact zY H
     ·refine zg ?_;refine zn H fun _ ex_30 H=>?_
      refine Za0 (Zy (y:=(c0.Pages:Int)) (Pl.mix (PF 1 Block Int (ZaJ ex_30.h)) (by first | decide | omega))) ?_;refine zC ?_;refine zn H fun l_31 el_31 H=>?_
      refine ZB b16_3 (ZcE (Zaa el_31.h))<|ZB b6_4 (Zfb (ZdY el_31.h (by simp))) ?_;refine zC ?_;refine zh H fun o_33 H33 H=>?_
      refine Zo (fun s:(List (List UInt8))=>o_33=s) (fun (q_32:(List (List UInt8))) (_:Unit)=>(Env.set (Env.set (Env.set Env.nil 4 (Pt b4_1 0)) 6 (Pt b6_4 0)) 8 (Pt b8_10 0))) (fun (q_32:(List (List UInt8))) (_:Unit)=>[⟨b16_3,p16_3,(Ct.mix (Row (l_31:List Block) c16_3) ((0+Int.toNat block0*Dat.sz Block)+0) (Sl bo16_3 po16_3 0 x_9.Pages.length co16_3))⟩,⟨bo16_3,po16_3,ZjI br16_3 po16_3 1 (List.map List.length q_32) x_9.Pages.length⟩,⟨br16_3,po16_3,(Row (List.flatten q_32:List UInt8) cr16_3)⟩,⟨b4_1,True,(One ((Dat.z:Chip):Chip))⟩,⟨b6_4,True,(Ct.mix (One d_13) 2 (Sl b16_3 p16_3 0 l_31.length c16_3))⟩,⟨b8_10,True,(One r_10.1)⟩]) ?_ ?_
      ·skip;refine Zp<|Zt H33 (fun ⟨x_34,q_35⟩ (_:Unit)=>(Env.set (Env.set (Env.set (Env.set (Env.set (Env.set (Env.set Env.nil 2 (Pt b2_0 0)) 4 (Pt b4_1 0)) 6 (Pt b6_4 0)) 7 (Pq b16_3 (0+Int.toNat block0*Dat.sz Block) p16_3)) 8 (Pt b8_10 0)) 90 (D c0.Pages)) 91 (D x_34))) (fun ⟨x_34,q_35⟩ (_:Unit)=>[⟨b16_3,p16_3,(Ct.mix (Row (l_31:List Block) c16_3) ((0+Int.toNat block0*Dat.sz Block)+0) (Sl bo16_3 po16_3 0 x_9.Pages.length co16_3))⟩,⟨bo16_3,po16_3,ZjI br16_3 po16_3 1 (List.map List.length q_35) x_9.Pages.length⟩,⟨br16_3,po16_3,(Row (List.flatten q_35:List UInt8) cr16_3)⟩,⟨b2_0,True,(One c0)⟩,⟨b4_1,True,(One ((Dat.z:Chip):Chip))⟩,⟨b6_4,True,(Ct.mix (One d_13) 2 (Sl b16_3 p16_3 0 l_31.length c16_3))⟩,⟨b8_10,True,(One r_10.1)⟩]) () (Za (Za (Za (Za (Za (Za (Za (Zc _)))))))) (Zb rfl (Zb rfl (Zb rfl (Zb rfl (Zb rfl (Zb rfl (Zb rfl (Zd _)))))))) ?_;rintro ⟨x_34,q_35⟩ ⟨⟩ x_36 H36 he36;replace H36:Zel c0 x_9 r_10 x_34 q_35=some x_36:=H36;unfold Zel at H36;refine zg ?_;refine zc H36 (fun hc H36=>?_) fun hc H36=>?_
       ·refine zC ?_;refine zC ?_;refine zh H36 fun o_38 H38 H36=>?_
        refine Zo (fun s:(List (List UInt8))=>o_38=s) (fun (q_37:(List (List UInt8))) (_:Unit)=>(Env.set (Env.set (Env.set (Env.set (Env.set (Env.set (Env.set Env.nil 2 (Pt b2_0 0)) 4 (Pt b4_1 0)) 6 (Pt b6_4 0)) 7 (Pq b16_3 (0+Int.toNat block0*Dat.sz Block) p16_3)) 8 (Pt b8_10 0)) 90 (D c0.Pages)) 91 (D x_34))) (fun (q_37:(List (List UInt8))) (_:Unit)=>[⟨b16_3,p16_3,(Ct.mix (Row (l_31:List Block) c16_3) ((0+Int.toNat block0*Dat.sz Block)+0) (Sl bo16_3 po16_3 0 x_9.Pages.length co16_3))⟩,⟨bo16_3,po16_3,ZjI br16_3 po16_3 1 (List.map List.length q_37) x_9.Pages.length⟩,⟨br16_3,po16_3,(Row (List.flatten q_37:List UInt8) cr16_3)⟩,⟨b2_0,True,(One c0)⟩,⟨b4_1,True,(One ((Dat.z:Chip):Chip))⟩,⟨b6_4,True,(Ct.mix (One d_13) 2 (Sl b16_3 p16_3 0 l_31.length c16_3))⟩,⟨b8_10,True,(One r_10.1)⟩]) ?_ ?_
        ·skip;refine Zp<|Zt H38 (fun ⟨x_39,q_40⟩ (_:Unit)=>(Env.set (Env.set (Env.set (Env.set (Env.set (Env.set (Env.set (Env.set (Env.set (Env.set Env.nil 2 (Pt b2_0 0)) 4 (Pt b4_1 0)) 6 (Pt b6_4 0)) 7 (Pq b16_3 (0+Int.toNat block0*Dat.sz Block) p16_3)) 8 (Pt b8_10 0)) 11 (D x_34)) 90 (D c0.Pages)) 91 (D x_34)) 95 (D c0.Size)) 96 (D x_39))) (fun ⟨x_39,q_40⟩ (_:Unit)=>[⟨b16_3,p16_3,(Ct.mix (Row (l_31:List Block) c16_3) ((0+Int.toNat block0*Dat.sz Block)+0) (Sl bo16_3 po16_3 0 x_9.Pages.length co16_3))⟩,⟨bo16_3,po16_3,ZjI br16_3 po16_3 1 (List.map List.length q_40) x_9.Pages.length⟩,⟨br16_3,po16_3,(Row (List.flatten q_40:List UInt8) cr16_3)⟩,⟨b2_0,True,(One c0)⟩,⟨b4_1,True,(One ((Dat.z:Chip):Chip))⟩,⟨b6_4,True,(Ct.mix (One d_13) 2 (Sl b16_3 p16_3 0 l_31.length c16_3))⟩,⟨b8_10,True,(One r_10.1)⟩]) () (Za (Za (Za (Za (Za (Za (Za (Za (Za (Za (Zc _))))))))))) (Zb rfl (Zb rfl (Zb rfl (Zb rfl (Zb rfl (Zb rfl (Zb rfl (Zd _)))))))) ?_;rintro ⟨x_39,q_40⟩ ⟨⟩ x_41 H41 he41;replace H41:Zek c0 x_9 r_10 x_34 x_39 q_40=some x_41:=H41;unfold Zek at H41;refine zg ?_;refine zc H41 (fun hc H41=>?_) fun hc H41=>?_
         ·refine zC ?_;refine zX (Zf8 [6,8,9,12,13,14] [bo16_3,br16_3] mix (by kernel_rfl) (by kernel_rfl)) ?_;refine zX (Ze4 (ZI ZL) rfl) ?_;refine zn H41 fun _ eu_42 H41=>?_
          refine zn H41 fun x_43 ex_43 H41=>?_
          refine TRx (Zn (ZH ex_43.h (Zfq eu_42.h))) ?_;refine zX (Zes (fun g=>Zeu rfl (ZI (ZlK ex_43.h (by show 0+_*1=_;omega)))) rfl) ?_;refine zn H41 fun x_44 ex_44 H41=>?_
          refine Zes (fun g=>Zeu rfl (Zn (ZH ex_44.h rfl))) rfl ?_;refine zX (Zes (fun g=>Zeu rfl (ZaE (Pl.page ex_43.h ex_44.h))) rfl) ?_;refine Zes (fun g=>Zeu rfl OpY.or8) rfl ?_;refine zn H41 fun _ ex_45 H41=>?_
          refine Zes (fun g=>Zeu rfl (Zn (ZH ex_45.h rfl))) rfl<|ZcX (fun g=>(Zy (y:=((x_44 ||| r_10.1.Mask):UInt8)) (Pl.page ex_43.h ex_45.h))) rfl ?_;refine zC ?_;rintro ⟨⟨⟨⟨⟨⟨_,_⟩,_⟩,_⟩,_⟩,_⟩,_⟩;dsimp only [Fam.nextS,Fam.nextN,Fam.one,List.cons_append,List.nil_append];refine Zah bo16_3 (Zlw (ys:=(x_43.set (Int.toNat x_39) (x_44 ||| r_10.1.Mask))) ex_43.h (by simp)) ?_;refine zn H41 fun q_46 eq_46 H41=>?_
          refine Zah br16_3 (rowF_nm eq_46.h) ?_;refine zX (Zah bo16_3 (rowS_nm eq_46.h)) ?_;refine zb H41 fun x_47 _ H41=>?_
          exact Zq ⟨x_47,q_46⟩ () (ZZs H41) (Za (Za (Za (Za (Za (Za (Za (Za (Za (Za (Zc _))))))))))) (Zb rfl (Zb rfl (Zb rfl (Zb rfl (Zb rfl (Zb rfl (Zb rfl (Zd _))))))))
         ·refine zg ?_;exact Zi q_40 () (he41 _ (ZZs H41)).symm (Za (Za (Za (Za (Za (Za (Za (Zc _)))))))) (Zb rfl (Zb rfl (Zb rfl (Zb rfl (Zb rfl (Zb rfl (Zb rfl (Zd _))))))))
        rintro q_37 ⟨⟩ hp;replace hp:=hp.symm;subst hp;refine zg ?_;refine zb H36 fun x_48 _ H36=>?_
        exact Zq ⟨x_48,q_37⟩ () (ZZs H36) (Za (Za (Za (Za (Za (Za (Za (Zc _)))))))) (Zb rfl (Zb rfl (Zb rfl (Zb rfl (Zb rfl (Zb rfl (Zb rfl (Zd _))))))))
       ·refine zg ?_;exact Zi q_35 () (he36 _ (ZZs H36)).symm (Za (Za (Za (Zc _)))) (Zb rfl (Zb rfl (Zb rfl (Zb rfl (Zb rfl (Zb rfl (Zd _)))))))
      rintro q_32 ⟨⟩ hp;replace hp:=hp.symm;subst hp;refine zg ?_;refine zb H fun r_49 _ H=>?_
      refine Za0 (Zy (y:=(r_49.1:Bool)) (Pl.mix (PF 4 Chip Bool Zv) (by first | decide | omega))) ?_;refine zC ?_;refine zn H fun _ ed_50 H=>?_
      refine zX (ZB b6_4 (ZcE (ZZ ed_50.h))) ?_;refine zX (ZaH (Zdp trivial rfl rfl) rfl) ?_;refine Za0 (ZP trivial rfl CtSc.h) ?_;refine zC ?_;refine ZM ?_;refine zn H fun _ eu_51 H=>?_
      refine TE.collS bo16_3 br16_3 rfl (Zfq eu_51.h) ?_;refine zn H fun x_52 ex_52 H=>?_
      refine TE.coll b16_3 bo16_3 (o:=((0+Int.toNat block0*Dat.sz Block)+0)) (((PF 0 Block (List (List UInt8)) (ZaJ ex_52.h))).st (q_32:List (List UInt8))) (ZE PlS.all (Zfq eu_51.h)) ?_;refine Zah b4_1 (Zfb (m:=l_31.length) (n:=(l_31.set (Int.toNat block0) (⟨q_32,x_52.Used,x_52.Worn,x_52.Bad⟩:Block)).length) (by simp))<|TE.coll b4_1 b16_3 (o:=2) (((PF 2 Chip (List Block) Zv)).st ((l_31.set (Int.toNat block0) (⟨q_32,x_52.Used,x_52.Worn,x_52.Bad⟩:Block)):List Block)) (ZE PlS.all (by simp)) ?_;exact zY H
end Go.Proofs.YtkmojgfenlgchaaGreatDoor.Tr
namespace Go.Proofs.YtkmojgfenlgchaaGreatDoor.Tr
open Go Go.RowKit
set_option maxRecDepth 100000
set_option synthInstance.maxHeartbeats 400000
set_option synthInstance.maxSize 4096
def Zej (x0:Int):Option Bool:=
 some (decide (x0≠x0))
instance cmp_isNaN_int_c:Fd1 217 Zej fun r=>D r:=en1 Tryz.func217 rfl Tryz.ntmps217 fun _ _ _ _ _ H=>by
 unfold Zej at H;exact zY H
def ZbX (x0:Int) (y0:Int):Option Int:=
 (Zej x0).bind fun x_1=>(Zej y0).bind fun x_2=>bif x_1 then (bif x_2 then (some (0:Int)) else (some (-1:Int))) else (bif x_2 then (some (1:Int)) else (bif (decide (x0<y0)) then (some (-1:Int)) else (bif (decide (x0>y0)) then (some (1:Int)) else (some (0:Int)))))
instance cmp_Compare_int_c:Fd2 213 ZbX fun r=>D r:=en2 Tryz.func213 rfl Tryz.ntmps213 fun _ _ _ _ _ _ H=>by
 unfold ZbX at H;exact zY H
def Zbe (b0:wear_block) (c0:wear_block):Option Int:=
 (ZbX c0.Wear.Used b0.Wear.Used).bind fun x_3=>some x_3
instance wear_block_fuller_c:Fd2 201 Zbe fun r=>D r:=en2 Tryz.func201 rfl Tryz.ntmps201 fun _ _ _ _ _ _ H=>by
 unfold Zbe at H;exact zY H
instance {Γ:Env}:Has Γ (.func 201) (D (⟨Zbe⟩:F2 Tryz.prog wear_block wear_block Int)):=⟨fun a A w _=>F2.const (P:=Tryz.prog) (f:=201) fun w v0 v1 hA h0 h1 e=>wear_block_fuller_c.h w v0 v1 hA h0 h1 e⟩
def ZJ (b0:wear_block) (c0:wear_block):Option Int:=
 (ZbX b0.Wear.Worn c0.Wear.Worn).bind fun x_3=>some x_3
instance wear_block_fresher_c:Fd2 199 ZJ fun r=>D r:=en2 Tryz.func199 rfl Tryz.ntmps199 fun _ _ _ _ _ _ H=>by
 unfold ZJ at H;exact zY H
instance {Γ:Env}:Has Γ (.func 199) (D (⟨ZJ⟩:F2 Tryz.prog wear_block wear_block Int)):=⟨fun a A w _=>F2.const (P:=Tryz.prog) (f:=199) fun w v0 v1 hA h0 h1 e=>wear_block_fresher_c.h w v0 v1 hA h0 h1 e⟩
def Zd8 (l0:(List Wear)) (pages0:Int) (x_2:Int):Option (Int⊕(Unit⊕Bool)):=
 bif (decide (x_2<(l0.length:Int))) then ((idx l0 x_2).bind fun x_4=>bif (((((decide (x_4.Live<(0:Int)))||(decide (x_4.Live>x_4.Used)))||(decide (x_4.Used>pages0)))||(decide (x_4.Worn<(0:Int))))||(decide (x_4.Worn>(1099511627776:Int)))) then (some (.inr (.inr false))) else ((ZaA x_2 1).bind fun x_7=>some (.inl x_7))) else (some (.inr (.inl ())))
def ZfJ (l0:(List Wear)) (pages0:Int):Option Bool:=
 bif ((((decide ((l0.length:Int)<(1:Int)))||(decide ((l0.length:Int)>(32:Int))))||(decide (pages0<(1:Int))))||(decide (pages0>(16:Int)))) then (some false) else ((ZR (fun s=>Zd8 l0 pages0 s) (0:Int)).bind fun o_1=>elS o_1 (fun _=>some true) (fun q=>some q))
instance wear_Right_c:Fd2 211 ZfJ fun r=>D r:=en2 Tryz.func211 rfl Tryz.ntmps211 fun A w hA l0 pages0 r H=>by
 unfold ZfJ at H;refine zg ?_;refine zc H (fun hc H=>?_) fun hc H=>?_
 ·exact zY H
 ·refine zC ?_;refine zh H fun o_1 H1 H=>?_
  refine Zo (fun s:Unit=>o_1=.inl s) (fun (_:Unit) (_:Unit)=>Env.nil) (fun (_:Unit) (_:Unit)=>[]) ?_ ?_
  ·skip;refine Zp<|Zt H1 (fun (x_2:Int) (_:Unit)=>(Env.set (Env.set (Env.set (Env.set Env.nil 1 (D pages0)) 23 (D l0)) 24 (D ((l0.length:Int):Int))) 25 (D x_2))) (fun (x_2:Int) (_:Unit)=>[]) () (Za (Za (Za (Za (Zc _))))) (Zd _) ?_;rintro x_2 ⟨⟩ x_3 H3 he3;replace H3:Zd8 l0 pages0 x_2=some x_3:=H3;unfold Zd8 at H3;refine zg ?_;refine zc H3 (fun hc H3=>?_) fun hc H3=>?_
   ·refine zg ?_;refine zb H3 fun _ _ H3=>?_
    refine TS.alloc (α:=Wear) rfl fun b6_4=>zg ?_
    refine zc H3 (fun hc H3=>?_) fun hc H3=>?_
    ·refine zC ?_;refine ZM<|Zf<|Zg<|Zg<|Zf<|Zs ?_;have R5:=ZaZ (he3 _ (ZZs H3)) H;refine zg ?_;obtain rfl:=ZZi R5;exact ZbJ rfl Cv.le
    ·refine zg ?_;refine zb H3 fun x_7 _ H3=>?_
     exact Zq x_7 () (ZZs H3) (Za (Za (Za (Za (Zc _))))) (Zd _)
   ·refine zg ?_;exact Zi () () (he3 _ (ZZs H3)).symm (Zc _) (Zd _)
  rintro ⟨⟩ ⟨⟩ hp;replace H:=Zco hp H;exact zY H
def Zd7 (a0:wear_block) (b0:wear_block) (orders0:(List (F2 Tryz.prog wear_block wear_block Int))) (x_4:Int):Option (Int⊕(Unit⊕Bool)):=
 bif (decide (x_4<(orders0.length:Int))) then ((idx orders0 x_4).bind fun x_6=>((x_6).f a0 b0).bind fun x_7=>bif (decide (x_7≠(0:Int))) then (some (.inr (.inr (decide (x_7<(0:Int)))))) else ((ZaA x_4 1).bind fun x_9=>some (.inl x_9))) else (some (.inr (.inl ())))
def Zew (a0:wear_block) (b0:wear_block) (orders0:(List (F2 Tryz.prog wear_block wear_block Int))):Option Bool:=
 (ZR (fun s=>Zd7 a0 b0 orders0 s) (0:Int)).bind fun o_3=>elS o_3 (fun _=>some false) (fun q=>some q)
instance wear_ahead_c:Fd3 212 Zew fun r=>D r:=en3 Tryz.func212 rfl Tryz.ntmps212 fun A w hA a0 b0 orders0 r H=>by
 unfold Zew at H;refine zg ?_;refine TS.box rfl fun b3_0=>?_
 refine TS.box rfl fun b4_1=>?_
 refine zC ?_;refine zC ?_;refine zh H fun o_3 H3 H=>?_
 refine Zo (fun s:Unit=>o_3=.inl s) (fun (_:Unit) (_:Unit)=>Env.nil) (fun (_:Unit) (_:Unit)=>[]) ?_ ?_
 ·skip;refine Zp<|Zt H3 (fun (x_4:Int) (_:Unit)=>(Env.set (Env.set (Env.set (Env.set (Env.set Env.nil 3 (Pt b3_0 0)) 4 (Pt b4_1 0)) 10 (D orders0)) 11 (D ((orders0.length:Int):Int))) 12 (D x_4))) (fun (x_4:Int) (_:Unit)=>[⟨b3_0,True,(One a0)⟩,⟨b4_1,True,(One b0)⟩]) () (Za (Za (Za (Za (Za (Zc _)))))) (Zb rfl (Zb rfl (Zd _))) ?_;rintro x_4 ⟨⟩ x_5 H5 he5;replace H5:Zd7 a0 b0 orders0 x_4=some x_5:=H5;unfold Zd7 at H5;refine zg ?_;refine zc H5 (fun hc H5=>?_) fun hc H5=>?_
  ·refine zg ?_;refine zb H5 fun _ _ H5=>?_
   refine zn H5 fun _ ex_7 H5=>?_
   refine zX (ZaH (OpY.callV2 ex_7.h) rfl) ?_;refine zc H5 (fun hc H5=>?_) fun hc H5=>?_
   ·refine zC ?_;refine ZM<|Zf<|Zg<|Zg<|Zf<|Zs ?_;have R7:=ZaZ (he5 _ (ZZs H5)) H;refine zg ?_;obtain rfl:=ZZi R7;exact ZbJ rfl Cv.le
   ·refine zg ?_;refine zb H5 fun x_9 _ H5=>?_
    exact Zq x_9 () (ZZs H5) (Za (Za (Za (Za (Za (Zc _)))))) (Zb rfl (Zb rfl (Zd _)))
  ·refine zg ?_;exact Zi () () (he5 _ (ZZs H5)).symm (Zc _) (Zd _)
 rintro ⟨⟩ ⟨⟩ hp;replace H:=Zco hp H;exact zY H
def ZcK (l0:(List Wear)) (pages0:Int) (rule0:(F1 Tryz.prog wear_block Bool)) (orders0:(List (F2 Tryz.prog wear_block wear_block Int))) (at_5:Int) (found_6:Bool) (x_7:Int):Option ((Int×Bool×Int)⊕(Int×Bool)):=
 bif (decide (x_7<(l0.length:Int))) then (((idx l0 x_7).bind fun x_12=>(some ((⟨x_12,pages0⟩:wear_block):wear_block)).bind fun bx_15=>((rule0).f bx_15).bind fun x_16=>bif (!x_16) then (some (at_5,found_6)) else ((gb (!(!found_6)) (idx l0 at_5)).bind fun x_17=>(gb (!(!found_6)) (Zew bx_15 (⟨x_17,pages0⟩:wear_block) orders0)).bind fun x_18=>bif ((!found_6)||x_18) then (some (x_7,true)) else (some (at_5,found_6)))).bind fun o_11=>el2 o_11 (fun at_9 found_10=>(ZaA x_7 1).bind fun x_19=>some (.inl (at_9,found_10,x_19)))) else (some (.inr (at_5,found_6)))
def Zev (l0:(List Wear)) (pages0:Int) (rule0:(F1 Tryz.prog wear_block Bool)) (orders0:(List (F2 Tryz.prog wear_block wear_block Int))):Option (Int×Bool):=
 (ZfJ l0 pages0).bind fun x_1=>bif (!x_1) then (some ((0:Int),false)) else ((ZR (fun s=>ZcK l0 pages0 rule0 orders0 s.1 s.2.1 s.2.2) ((0:Int),false,(0:Int))).bind fun o_4=>el2 o_4 (fun at_2 found_3=>some (at_2,found_3)))
instance wear_first_c:Fd4 197 Zev fun r=>Tup [D r.1,D r.2]:=en4 Tryz.func197 rfl Tryz.ntmps197 fun A w hA l0 pages0 rule0 orders0 r H=>by
 unfold Zev at H;refine zg ?_;refine zb H fun _ _ H=>?_
 refine zc H (fun hc H=>?_) fun hc H=>?_
 ·exact zY H
 ·refine zC ?_;refine zC ?_;refine zh H fun o_4 H4 H=>?_
  refine Zo (fun s:(Int×Bool)=>o_4=s) (fun ⟨at_2,found_3⟩ (_:Unit)=>(Env.set (Env.set Env.nil 10 (D at_2)) 11 (D found_3))) (fun ⟨at_2,found_3⟩ (_:Unit)=>[]) ?_ ?_
  ·skip;refine Zp<|Zt H4 (fun ⟨at_5,found_6,x_7⟩ (_:Unit)=>(Env.set (Env.set (Env.set (Env.set (Env.set (Env.set (Env.set (Env.set (Env.set Env.nil 0 (D l0)) 1 (D pages0)) 2 (D rule0)) 3 (D orders0)) 10 (D at_5)) 11 (D found_6)) 19 (D l0)) 20 (D ((l0.length:Int):Int))) 21 (D x_7))) (fun ⟨at_5,found_6,x_7⟩ (_:Unit)=>[]) () (Za (Za (Za (Za (Za (Za (Za (Za (Za (Zc _)))))))))) (Zd _) ?_;rintro ⟨at_5,found_6,x_7⟩ ⟨⟩ x_8 H8 he8;replace H8:ZcK l0 pages0 rule0 orders0 at_5 found_6 x_7=some x_8:=H8;unfold ZcK at H8;refine zg ?_;refine zc H8 (fun hc H8=>?_) fun hc H8=>?_
   ·refine Zat<|Zae<|Zas ?_;refine zh H8 fun o_11 H11 H8=>?_
    refine Zo (fun s:(Int×Bool)=>o_11=s) (fun ⟨at_9,found_10⟩ (_:Unit)=>(Env.set (Env.set (Env.set (Env.set (Env.set (Env.set (Env.set (Env.set (Env.set Env.nil 0 (D l0)) 1 (D pages0)) 2 (D rule0)) 3 (D orders0)) 10 (D at_9)) 11 (D found_10)) 19 (D l0)) 20 (D ((l0.length:Int):Int))) 21 (D x_7))) (fun ⟨at_9,found_10⟩ (_:Unit)=>[]) ?_ ?_
    ·skip;refine zg ?_;refine zb H11 fun x_12 _ H11=>?_
     refine TS.alloc (α:=Wear) rfl fun b13_12=>zg ?_
     refine TSx (Zk (⟨x_12,pages0⟩:wear_block) rfl ⟨_,Tryz.underlying282,by kernel_rfl⟩ rfl rfl) ?_;refine TS.alloc (α:=wear_block) rfl fun b14_13=>?_
     refine zC ?_;refine zn H11 fun _ ebx_15 H11=>?_
     refine zX (ZB b14_13 (ZZ ebx_15.h)) ?_;refine zn H11 fun _ ex_16 H11=>?_
     refine zX (ZaH (ZiP ex_16.h) rfl) ?_;refine zc H11 (fun hc H11=>?_) fun hc H11=>?_
     ·refine zg ?_;exact Zi ⟨at_5,found_6⟩ () (ZZs H11) (Za (Za (Za (Za (Za (Za (Za (Za (Za (Zc _)))))))))) (Zd _)
     ·refine zg ?_;refine zd H11 fun x_17 _ H11=>?_
      refine zX (TR.g 35 rfl (fun hg=>(Zk (⟨x_17,pages0⟩:wear_block) rfl ⟨_,Tryz.underlying282,by kernel_rfl⟩ rfl rfl)) rfl) ?_;refine zd H11 fun _ _ H11=>?_
      refine zc H11 (fun hc H11=>?_) fun hc H11=>?_
      ·refine zg ?_;exact Zi ⟨x_7,true⟩ () (ZZs H11) (Za (Za (Za (Za (Za (Za (Za (Za (Za (Zc _)))))))))) (Zd _)
      ·refine zg ?_;exact Zi ⟨at_5,found_6⟩ () (ZZs H11) (Za (Za (Za (Za (Za (Za (Za (Za (Za (Zc _)))))))))) (Zd _)
    rintro ⟨at_9,found_10⟩ ⟨⟩ hp;replace hp:=hp.symm;subst hp;replace H8:=Zeh H8;refine zg ?_;refine zb H8 fun x_19 _ H8=>?_
    exact Zq ⟨at_9,found_10,x_19⟩ () (ZZs H8) (Za (Za (Za (Za (Za (Za (Za (Za (Za (Zc _)))))))))) (Zd _)
   ·refine zg ?_;exact Zi ⟨at_5,found_6⟩ () (he8 _ (ZZs H8)).symm (Za (Za (Zc _))) (Zd _)
  rintro ⟨at_2,found_3⟩ ⟨⟩ hp;replace hp:=hp.symm;subst hp;replace H:=Zeh H;exact zY H
def ZbP (b0:wear_block):Option Bool:=
 some ((!b0.Wear.Bad)&&(decide (b0.Wear.Used<b0.pages)))
instance wear_block_free_c:Fd1 200 ZbP fun r=>D r:=en1 Tryz.func200 rfl Tryz.ntmps200 fun _ _ _ _ _ H=>by
 unfold ZbP at H;exact zY H
instance {Γ:Env}:Has Γ (.func 200) (D (⟨ZbP⟩:F1 Tryz.prog wear_block Bool)):=⟨fun a A w _=>F1.const (P:=Tryz.prog) (f:=200) fun w v0 hA h0 e=>wear_block_free_c.h w v0 hA h0 e⟩
def ZdV (l0:(List Wear)) (pages0:Int):Option (Int×Bool):=
 (Zev l0 pages0 (⟨ZbP⟩:(F1 Tryz.prog wear_block Bool)) ([(⟨Zbe⟩:(F2 Tryz.prog wear_block wear_block Int)),(⟨ZJ⟩:(F2 Tryz.prog wear_block wear_block Int))]:List (F2 Tryz.prog wear_block wear_block Int))).bind fun r_1=>some (r_1.1,r_1.2)
instance wear_Front_c:Fd2 179 ZdV fun r=>Tup [D r.1,D r.2]:=en2 Tryz.func179 rfl Tryz.ntmps179 fun A w hA l0 pages0 r H=>by
 unfold ZdV at H;refine zg ?_;refine TSx (OpY.buildSlice [.func 201,.func 199] rfl rfl (by decide)) ?_;exact zY H
def ZbQ (b0:wear_block):Option Bool:=
 some (((!b0.Wear.Bad)&&(decide (b0.Wear.Live=(0:Int))))&&(decide (b0.Wear.Used>(0:Int))))
instance wear_block_dead_c:Fd1 198 ZbQ fun r=>D r:=en1 Tryz.func198 rfl Tryz.ntmps198 fun _ _ _ _ _ H=>by
 unfold ZbQ at H;exact zY H
instance {Γ:Env}:Has Γ (.func 198) (D (⟨ZbQ⟩:F1 Tryz.prog wear_block Bool)):=⟨fun a A w _=>F1.const (P:=Tryz.prog) (f:=198) fun w v0 hA h0 e=>wear_block_dead_c.h w v0 hA h0 e⟩
def Zd9 (l0:(List Wear)) (pages0:Int):Option (Int×Bool):=
 (Zev l0 pages0 (⟨ZbQ⟩:(F1 Tryz.prog wear_block Bool)) ([(⟨ZJ⟩:(F2 Tryz.prog wear_block wear_block Int))]:List (F2 Tryz.prog wear_block wear_block Int))).bind fun r_1=>some (r_1.1,r_1.2)
instance wear_Dead_c:Fd2 176 Zd9 fun r=>Tup [D r.1,D r.2]:=en2 Tryz.func176 rfl Tryz.ntmps176 fun A w hA l0 pages0 r H=>by
 unfold Zd9 at H;refine zg ?_;refine TSx (OpY.buildSlice [.func 199] rfl rfl (by decide)) ?_;exact zY H
def ZbC (b0:wear_block) (c0:wear_block):Option Int:=
 bif (decide (b0.Wear.Bad=c0.Wear.Bad)) then (some (0:Int)) else (bif b0.Wear.Bad then (some (-1:Int)) else (some (1:Int)))
instance wear_block_worse_c:Fd2 206 ZbC fun r=>D r:=en2 Tryz.func206 rfl Tryz.ntmps206 fun A w hA b0 c0 r H=>by
 unfold ZbC at H;refine zg ?_;refine TS.box rfl fun b2_0=>?_
 refine TS.box rfl fun b3_1=>zg ?_
 refine TSx (OpY.eql_bool Tryz.underlying4) ?_;exact zY H
instance {Γ:Env}:Has Γ (.func 206) (D (⟨ZbC⟩:F2 Tryz.prog wear_block wear_block Int)):=⟨fun a A w _=>F2.const (P:=Tryz.prog) (f:=206) fun w v0 v1 hA h0 h1 e=>wear_block_worse_c.h w v0 v1 hA h0 h1 e⟩
def Za1 (b0:wear_block) (c0:wear_block):Option Int:=
 (ZbX b0.Wear.Live c0.Wear.Live).bind fun x_3=>some x_3
instance wear_block_emptier_c:Fd2 207 Za1 fun r=>D r:=en2 Tryz.func207 rfl Tryz.ntmps207 fun _ _ _ _ _ _ H=>by
 unfold Za1 at H;exact zY H
instance {Γ:Env}:Has Γ (.func 207) (D (⟨Za1⟩:F2 Tryz.prog wear_block wear_block Int)):=⟨fun a A w _=>F2.const (P:=Tryz.prog) (f:=207) fun w v0 v1 hA h0 h1 e=>wear_block_emptier_c.h w v0 v1 hA h0 h1 e⟩
def ZbD (b0:wear_block):Option Bool:=
 bif b0.Wear.Bad then (some (decide (b0.Wear.Live>(0:Int)))) else (some (((decide (b0.Wear.Used=b0.pages))&&(decide (b0.Wear.Live>(0:Int))))&&(decide (b0.Wear.Live<b0.pages))))
instance wear_block_mixed_c:Fd1 205 ZbD fun r=>D r:=en1 Tryz.func205 rfl Tryz.ntmps205 fun _ _ _ _ _ H=>by
 unfold ZbD at H;exact zY H
instance {Γ:Env}:Has Γ (.func 205) (D (⟨ZbD⟩:F1 Tryz.prog wear_block Bool)):=⟨fun a A w _=>F1.const (P:=Tryz.prog) (f:=205) fun w v0 hA h0 e=>wear_block_mixed_c.h w v0 hA h0 e⟩
def ZfR (l0:(List Wear)) (pages0:Int):Option (Int×Bool):=
 (Zev l0 pages0 (⟨ZbD⟩:(F1 Tryz.prog wear_block Bool)) ([(⟨ZbC⟩:(F2 Tryz.prog wear_block wear_block Int)),(⟨Za1⟩:(F2 Tryz.prog wear_block wear_block Int)),(⟨ZJ⟩:(F2 Tryz.prog wear_block wear_block Int))]:List (F2 Tryz.prog wear_block wear_block Int))).bind fun r_1=>some (r_1.1,r_1.2)
instance wear_Victim_c:Fd2 192 ZfR fun r=>Tup [D r.1,D r.2]:=en2 Tryz.func192 rfl Tryz.ntmps192 fun A w hA l0 pages0 r H=>by
 unfold ZfR at H;refine zg ?_;refine TSx (OpY.buildSlice [.func 206,.func 207,.func 199] rfl rfl (by decide)) ?_;exact zY H
def Ze7 (l0:(List Wear)) (pages0:Int) (room_4:Int) (x_5:Int):Option ((Int×Int)⊕Int):=
 bif (decide (x_5<(l0.length:Int))) then (((idx l0 x_5).bind fun x_9=>(some ((⟨x_9,pages0⟩:wear_block):wear_block)).bind fun bx_12=>(ZbQ bx_12).bind fun x_13=>bif x_13 then ((ZaA room_4 pages0).bind fun x_14=>some x_14) else ((ZbP bx_12).bind fun x_15=>bif x_15 then ((Zgf pages0 bx_12.Wear.Used).bind fun x_16=>(ZaA room_4 x_16).bind fun x_17=>some x_17) else (some room_4))).bind fun room_7=>(ZaA x_5 1).bind fun x_18=>some (.inl (room_7,x_18))) else (some (.inr room_4))
def ZgJ (l0:(List Wear)) (pages0:Int):Option Int:=
 (ZfJ l0 pages0).bind fun x_1=>bif (!x_1) then (some (0:Int)) else ((ZR (fun s=>Ze7 l0 pages0 s.1 s.2) ((0:Int),(0:Int))).bind fun room_2=>some room_2)
instance wear_Room_c:Fd2 195 ZgJ fun r=>D r:=en2 Tryz.func195 rfl Tryz.ntmps195 fun A w hA l0 pages0 r H=>by
 unfold ZgJ at H;refine zg ?_;refine zb H fun _ _ H=>?_
 refine zc H (fun hc H=>?_) fun hc H=>?_
 ·exact zY H
 ·refine zC ?_;refine zC ?_;refine zh H fun o_3 H3 H=>?_
  refine Zo (fun s:Int=>o_3=s) (fun (room_2:Int) (_:Unit)=>(Env.set Env.nil 5 (D room_2))) (fun (room_2:Int) (_:Unit)=>[]) ?_ ?_
  ·skip;refine Zp<|Zt H3 (fun ⟨room_4,x_5⟩ (_:Unit)=>(Env.set (Env.set (Env.set (Env.set (Env.set Env.nil 1 (D pages0)) 5 (D room_4)) 13 (D l0)) 14 (D ((l0.length:Int):Int))) 15 (D x_5))) (fun ⟨room_4,x_5⟩ (_:Unit)=>[]) () (Za (Za (Za (Za (Za (Zc _)))))) (Zd _) ?_;rintro ⟨room_4,x_5⟩ ⟨⟩ x_6 H6 he6;replace H6:Ze7 l0 pages0 room_4 x_5=some x_6:=H6;unfold Ze7 at H6;refine zg ?_;refine zc H6 (fun hc H6=>?_) fun hc H6=>?_
   ·refine Zat<|Zae<|Zas ?_;refine zh H6 fun o_8 H8 H6=>?_
    refine Zo (fun s:Int=>o_8=s) (fun (room_7:Int) (_:Unit)=>(Env.set (Env.set (Env.set (Env.set (Env.set Env.nil 1 (D pages0)) 5 (D room_7)) 13 (D l0)) 14 (D ((l0.length:Int):Int))) 15 (D x_5))) (fun (room_7:Int) (_:Unit)=>[]) ?_ ?_
    ·skip;refine zg ?_;refine zb H8 fun x_9 _ H8=>?_
     refine TS.alloc (α:=Wear) rfl fun b7_9=>zg ?_
     refine TSx (Zk (⟨x_9,pages0⟩:wear_block) rfl ⟨_,Tryz.underlying282,by kernel_rfl⟩ rfl rfl) ?_;refine TS.alloc (α:=wear_block) rfl fun b8_10=>?_
     refine zC ?_;refine zn H8 fun _ ebx_12 H8=>?_
     refine zX (ZB b8_10 (ZZ ebx_12.h)) ?_;refine zb H8 fun _ _ H8=>?_
     refine zc H8 (fun hc H8=>?_) fun hc H8=>?_
     ·refine zg ?_;refine zb H8 fun x_14 _ H8=>?_
      exact Zi x_14 () (ZZs H8) (Za (Za (Za (Za (Za (Zc _)))))) (Zd _)
     ·refine zg ?_;refine zb H8 fun _ _ H8=>?_
      refine zc H8 (fun hc H8=>?_) fun hc H8=>?_
      ·refine zg ?_;refine zb H8 fun _ _ H8=>?_
       refine zb H8 fun x_17 _ H8=>?_
       exact Zi x_17 () (ZZs H8) (Za (Za (Za (Za (Za (Zc _)))))) (Zd _)
      ·refine zg ?_;exact Zi room_4 () (ZZs H8) (Za (Za (Za (Za (Za (Zc _)))))) (Zd _)
    rintro room_7 ⟨⟩ hp;replace hp:=hp.symm;subst hp;refine zg ?_;refine zb H6 fun x_18 _ H6=>?_
    exact Zq ⟨room_7,x_18⟩ () (ZZs H6) (Za (Za (Za (Za (Za (Zc _)))))) (Zd _)
   ·refine zg ?_;exact Zi room_4 () (he6 _ (ZZs H6)).symm (Za (Zc _)) (Zd _)
  rintro room_2 ⟨⟩ hp;replace hp:=hp.symm;subst hp;exact zY H
end Go.Proofs.YtkmojgfenlgchaaGreatDoor.Tr
namespace Go.Proofs.YtkmojgfenlgchaaGreatDoor.Tr
open Go Go.RowKit
set_option maxRecDepth 100000
set_option synthInstance.maxHeartbeats 400000
set_option synthInstance.maxSize 4096
def Zij (most0:Int):Option (Kept×Int):=
 bif ((decide (most0<(1:Int)))||(decide (most0>(64:Int)))) then ((some ((⟨0,[]⟩:Kept):Kept)).bind fun k_2=>some (k_2,(1:Int))) else ((some ((⟨most0,[]⟩:Kept):Kept)).bind fun k_3=>some (k_3,(0:Int)))
instance cache_New_c:Fd1 24 Zij fun r=>Tup [D r.1,D r.2]:=en1 Tryz.func24 rfl Tryz.ntmps24 fun A w hA most0 r H=>by
 unfold Zij at H;refine zg ?_;refine TS.alloc (α:=Kept) rfl fun b2_0=>zg ?_
 refine zc H (fun hc H=>?_) fun hc H=>?_
 ·refine zg ?_;refine TSx (Zk (⟨0,[]⟩:Kept) rfl ⟨_,Tryz.underlying65,by kernel_rfl⟩ rfl rfl) ?_;exact zY H
 ·refine zg ?_;refine TSx (Zk (⟨most0,[]⟩:Kept) rfl ⟨_,Tryz.underlying65,by kernel_rfl⟩ rfl rfl) ?_;exact zY H
def ZcR (x0:Item) (cap1:Int):Option Bool:=
 some (decide (x0.Id=cap1))
theorem Zmu {A:Nat→Prop} {x0:Item} {cap1:Int}  {r:Bool} (w:World) (v0 v1:Value) (hA:∀ k,w.heap.size≤k→A k)  (h0:(D x0).p A w v0) (h1:(Zk9 cap1).p A w v1) (H:ZcR x0 cap1=some r) :
    Calls Tryz.prog 125 #[v0,v1] w (Ret A w (D r)):=by
 unfold ZcR at H;refine enter2 hA Tryz.func125 rfl Tryz.ntmps125 rfl h0 h1 ?_;exact zY H
def Zay (s0:(List Item)) (f0:(F1 Tryz.prog Item Bool)) (x_2:Int):Option (Int⊕(Unit⊕Int)):=
 bif (decide (x_2<(s0.length:Int))) then ((idx s0 x_2).bind fun x_4=>((f0).f x_4).bind fun x_5=>bif x_5 then (some (.inr (.inr x_2))) else ((ZaA x_2 1).bind fun x_7=>some (.inl x_7))) else (some (.inr (.inl ())))
def Zbj (s0:(List Item)) (f0:(F1 Tryz.prog Item Bool)):Option Int:=
 (ZR (fun s=>Zay s0 f0 s) (0:Int)).bind fun o_1=>elS o_1 (fun _=>some (-1:Int)) (fun q=>some q)
instance slices_IndexFunc_api_Item_c:Fd2 124 Zbj fun r=>D r:=en2 Tryz.func124 rfl Tryz.ntmps124 fun A w hA s0 f0 r H=>by
 unfold Zbj at H;refine zC ?_;refine zC ?_;refine zh H fun o_1 H1 H=>?_
 refine Zo (fun s:Unit=>o_1=.inl s) (fun (_:Unit) (_:Unit)=>Env.nil) (fun (_:Unit) (_:Unit)=>[]) ?_ ?_
 ·skip;refine Zp<|Zt H1 (fun (x_2:Int) (_:Unit)=>(Env.set (Env.set (Env.set (Env.set Env.nil 0 (D s0)) 1 (D f0)) 7 (D ((s0.length:Int):Int))) 8 (D x_2))) (fun (x_2:Int) (_:Unit)=>[]) () (Za (Za (Za (Za (Zc _))))) (Zd _) ?_;rintro x_2 ⟨⟩ x_3 H3 he3;replace H3:Zay s0 f0 x_2=some x_3:=H3;unfold Zay at H3;refine zg ?_;refine zc H3 (fun hc H3=>?_) fun hc H3=>?_
  ·refine zg ?_;refine zb H3 fun _ _ H3=>?_
   refine zn H3 fun _ ex_5 H3=>?_
   refine zX (ZaH (ZiP ex_5.h) rfl) ?_;refine zc H3 (fun hc H3=>?_) fun hc H3=>?_
   ·refine zC ?_;refine ZM<|Zf<|Zg<|Zg<|Zf<|Zs ?_;have R5:=ZaZ (he3 _ (ZZs H3)) H;refine zg ?_;obtain rfl:=ZZi R5;exact ZbJ rfl Cv.le
   ·refine zg ?_;refine zb H3 fun x_7 _ H3=>?_
    exact Zq x_7 () (ZZs H3) (Za (Za (Za (Za (Zc _))))) (Zd _)
  ·refine zg ?_;exact Zi () () (he3 _ (ZZs H3)).symm (Zc _) (Zd _)
 rintro ⟨⟩ ⟨⟩ hp;replace H:=Zco hp H;exact zY H
def Zdj (l0:(List Item)) (id0:Int):Option Int:=
 (Zbj l0 (⟨fun x0=>ZcR x0 id0⟩:(F1 Tryz.prog Item Bool))).bind fun x_2=>some x_2
instance cache_place_c:Fd2 74 Zdj fun r=>D r:=en2 Tryz.func74 rfl Tryz.ntmps74 fun A w hA l0 id0 r H=>by
 unfold Zdj at H;refine zg ?_;refine TS.box rfl fun b3_0=>zg ?_
 refine TS.pub b3_0 (PubE.set 3 (PubC.pq Zv) PubE.refl) ?_;refine TSx (OpY.mk1_1 fun w v0 v1 hA h0 h1 e=>Zmu w v0 v1 hA h0 h1 e) ?_;exact zY H
def ZcZ (k0:Kept) (x_3:Int):Option (Int⊕(Unit⊕Bool)):=
 bif (decide (x_3<(k0.Items.length:Int))) then ((idx k0.Items x_3).bind fun x_5=>(gb (!(decide (x_5.Id<(0:Int)))) (Zdj k0.Items x_5.Id)).bind fun x_7=>bif ((decide (x_5.Id<(0:Int)))||(decide (x_7≠x_3))) then (some (.inr (.inr false))) else ((ZaA x_3 1).bind fun x_9=>some (.inl x_9))) else (some (.inr (.inl ())))
def Zdm (k0:Kept):Option Bool:=
 bif (((decide (k0.Most<(1:Int)))||(decide (k0.Most>(64:Int))))||(decide ((k0.Items.length:Int)>k0.Most))) then (some false) else ((ZR (fun s=>ZcZ k0 s) (0:Int)).bind fun o_2=>elS o_2 (fun _=>some true) (fun q=>some q))
instance cache_Right_c:Fd1 30 Zdm fun r=>D r:=en1 Tryz.func30 rfl Tryz.ntmps30 fun A w hA k0 r H=>by
 unfold Zdm at H;refine zg ?_;refine TS.box rfl fun b1_0=>zg ?_
 refine zc H (fun hc H=>?_) fun hc H=>?_
 ·exact zY H
 ·refine zC ?_;refine zh H fun o_2 H2 H=>?_
  refine Zo (fun s:Unit=>o_2=.inl s) (fun (_:Unit) (_:Unit)=>Env.nil) (fun (_:Unit) (_:Unit)=>[]) ?_ ?_
  ·skip;refine Zp<|Zt H2 (fun (x_3:Int) (_:Unit)=>(Env.set (Env.set (Env.set (Env.set Env.nil 1 (Pt b1_0 0)) 22 (D k0.Items)) 23 (D ((k0.Items.length:Int):Int))) 24 (D x_3))) (fun (x_3:Int) (_:Unit)=>[⟨b1_0,True,(One k0)⟩]) () (Za (Za (Za (Za (Zc _))))) (Zb rfl (Zd _)) ?_;rintro x_3 ⟨⟩ x_4 H4 he4;replace H4:ZcZ k0 x_3=some x_4:=H4;unfold ZcZ at H4;refine zg ?_;refine zc H4 (fun hc H4=>?_) fun hc H4=>?_
   ·refine zg ?_;refine zb H4 fun _ _ H4=>?_
    refine TS.alloc (α:=Item) rfl fun b4_5=>zg ?_
    refine zd H4 fun _ _ H4=>?_
    refine zc H4 (fun hc H4=>?_) fun hc H4=>?_
    ·refine zC ?_;refine ZM<|Zf<|Zg<|Zg<|Zf<|Zs ?_;have R7:=ZaZ (he4 _ (ZZs H4)) H;refine zg ?_;obtain rfl:=ZZi R7;exact ZbJ rfl Cv.le
    ·refine zg ?_;refine zb H4 fun x_9 _ H4=>?_
     exact Zq x_9 () (ZZs H4) (Za (Za (Za (Za (Zc _))))) (Zb rfl (Zd _))
   ·refine zg ?_;exact Zi () () (he4 _ (ZZs H4)).symm (Zc _) (Zd _)
  rintro ⟨⟩ ⟨⟩ hp;replace H:=Zco hp H;exact zY H
def Zb9 (s0:(List Item)):Option (List Item):=
 (Zfk 32 ((0+s0.length:Nat):Int)).bind fun _=>some s0
theorem Zhi {A:Nat→Prop} {s0:(List Item)}  {r:(List Item)} (w:World) (v0:Value) (hA:∀ k,w.heap.size≤k→A k) (hO:OwnIn A []) (hap:ZaY []) (hks:Pks (Pub A []) [] w) (h0:(D s0).p (Pub A []) w v0) (H:Zb9 s0=some r) :
    Calls Tryz.prog 123 #[v0] w (Zd6 A w [] (fun g:Nat×Prop×Nat=>Sl g.1 g.2.1 0 (List.length r) g.2.2) fun g=>[⟨g.1,g.2.1,Row (r:List Item) g.2.2⟩]):=by
 unfold Zb9 at H;refine Zc3 hA hap hks Tryz.func123 rfl Tryz.ntmps123 rfl h0 ?_;refine zn H fun _ eu H=>?_
 obtain rfl:=ZZi H;refine zg ?_;refine TSx Zbk ?_;refine zC ?_;refine Ze5 (fun hc=>?_) (fun hc=>?_)
 ·obtain rfl:=hc rfl;refine zg ?_;exact ZA rfl ⟨0,False,0⟩ ZcU (Zbi (Zd _))
 ·refine zg ?_;refine TS.build [] rfl rfl (by decide) rfl fun b=>zg ?_
  refine TS.app (ys:=s0) inferInstance eu.h rfl rfl rfl fun b1 p1 c1=>zg ?_
  exact ZA rfl ⟨b1,p1,c1⟩ (ZD (by simp)) (Zb rfl (Zd _))
def Zcs (b0:(List UInt8)):Option (List UInt8):=
 (Zfk 1 ((0+b0.length:Nat):Int)).bind fun _=>some b0
theorem bytes_Clone_o {A:Nat→Prop} {b0:(List UInt8)}  {r:(List UInt8)} (w:World) (v0:Value) (hA:∀ k,w.heap.size≤k→A k) (hO:OwnIn A []) (hap:ZaY []) (hks:Pks (Pub A []) [] w) (h0:(D b0).p (Pub A []) w v0) (H:Zcs b0=some r) :
    Calls Tryz.prog 77 #[v0] w (Zd6 A w [] (fun g:Nat×Prop×Nat=>Sl g.1 g.2.1 0 (List.length r) g.2.2) fun g=>[⟨g.1,g.2.1,Row (r:List UInt8) g.2.2⟩]):=by
 unfold Zcs at H;refine Zc3 hA hap hks Tryz.func77 rfl Tryz.ntmps77 rfl h0 ?_;refine zn H fun _ eu H=>?_
 obtain rfl:=ZZi H;refine zg ?_;refine TSx Zbk ?_;refine zC ?_;refine Ze5 (fun hc=>?_) (fun hc=>?_)
 ·obtain rfl:=hc rfl;refine zg ?_;exact ZA rfl ⟨0,False,0⟩ ZcU (Zbi (Zd _))
 ·refine zg ?_;refine TS.build [] rfl rfl (by decide) rfl fun b=>zg ?_
  refine TS.app (ys:=b0) inferInstance eu.h rfl rfl rfl fun b1 p1 c1=>zg ?_
  exact ZA rfl ⟨b1,p1,c1⟩ (ZD (by simp)) (Zb rfl (Zd _))
theorem Zen {A:Nat→Prop} {b0:(List UInt8)} {r:(List UInt8)} (w:World) (v0:Value) (hA:∀ k,w.heap.size≤k→A k) (h0:(D b0).p A w v0) (H:Zcs b0=some r) :
  Calls Tryz.prog 77 #[v0] w (Ret A w (D r)):=(bytes_Clone_o w v0 hA ⟨fun k ⟨e,he,_⟩=>absurd he (by simp)⟩ List.Pairwise.nil (fun e he=>absurd he (by simp)) (Ty.enter h0) H).mono fun e w' h=>Zg4 hA h
def Zdk (x_3:(List Item)) (x_7:Int) (l_8:(List Item)):Option ((Int×(List Item))⊕(List Item)):=
 bif (decide (x_7<(x_3.length:Int))) then ((idx l_8 x_7).bind fun x_10=>(Zcs x_10.Body).bind fun x_11=>(idx l_8 x_7).bind fun x_12=>(some ((l_8.set (Int.toNat x_7) (⟨x_12.Id,x_11⟩:Item)):(List Item))).bind fun l_13=>(ZaA x_7 1).bind fun x_14=>some (.inl (x_14,l_13))) else (some (.inr l_8))
def Zdl (k0:Kept):Option Kept:=
 (Zb9 k0.Items).bind fun x_3=>(ZR (fun s=>Zdk x_3 s.1 s.2) ((0:Int),x_3)).bind fun l_5=>(some ((⟨k0.Most,[]⟩:Kept):Kept)).bind fun k_15=>some (⟨k_15.Most,l_5⟩:Kept)
theorem ZgH {A:Nat→Prop} {k0:Kept}  {r:Kept} (w:World) (v0:Value) (hA:∀ k,w.heap.size≤k→A k) (hO:OwnIn A []) (hap:ZaY []) (hks:Pks (Pub A []) [] w) (h0:(D k0).p (Pub A []) w v0) (H:Zdl k0=some r) :
    Calls Tryz.prog 73 #[v0] w (Zd6 A w [] (fun g:Nat×Prop×Nat=>VC (Ct.mix (One ((⟨r.Most,[]⟩:Kept):Kept)) 1 (Sl g.1 g.2.1 0 (List.length r.Items) g.2.2))) fun g=>[⟨g.1,g.2.1,Row (r.Items:List Item) g.2.2⟩]):=by
 unfold Zdl at H;refine zX (Zc3 hA hap hks Tryz.func73 rfl Tryz.ntmps73 rfl h0) ?_;refine TS.box rfl fun b1_0=>?_
 refine TS.alloc (α:=Kept) rfl fun b2_1=>zg ?_
 refine zn H fun x_3 ex_3 H=>?_
 refine Zc8 (Zag [] fun w v0 hA hO hap hks h0=>Zhi w v0 hA hO hap hks (toD h0) ex_3.h) rfl fun ⟨b7_3,p7_3,c7_3⟩=>?_
 dsimp only [List.cons_append,List.nil_append];refine zg ?_;refine TSx (Zai (n:=x_3.length) rfl) ?_;refine zC ?_;refine zh H fun o_6 H6 H=>?_
 refine Zo (fun s:(List Item)=>o_6=s) (fun (l_5:(List Item)) (_:Unit)=>(Env.set (Env.set (Env.set Env.nil 1 (Pt b1_0 0)) 2 (Pt b2_1 0)) 3 (Sl b7_3 p7_3 0 l_5.length c7_3))) (fun (l_5:(List Item)) (_:Unit)=>[⟨b7_3,p7_3,(Row (l_5:List Item) c7_3)⟩,⟨b1_0,True,(One k0)⟩,⟨b2_1,True,(One ((Dat.z:Kept):Kept))⟩]) ?_ ?_
 ·skip;refine Zp<|Zt H6 (fun ⟨x_7,l_8⟩ (_:Unit)=>(Env.set (Env.set (Env.set (Env.set (Env.set Env.nil 1 (Pt b1_0 0)) 2 (Pt b2_1 0)) 3 (Sl b7_3 p7_3 0 l_8.length c7_3)) 9 (D ((x_3.length:Int):Int))) 10 (D x_7))) (fun ⟨x_7,l_8⟩ (_:Unit)=>[⟨b7_3,p7_3,(Row (l_8:List Item) c7_3)⟩,⟨b1_0,True,(One k0)⟩,⟨b2_1,True,(One ((Dat.z:Kept):Kept))⟩]) () (Za (Za (Zj (ZD rfl) (Za (Za (Zc _)))))) (Zb rfl (Zb rfl (Zb rfl (Zd _)))) ?_;rintro ⟨x_7,l_8⟩ ⟨⟩ x_9 H9 he9;replace H9:Zdk x_3 x_7 l_8=some x_9:=H9;unfold Zdk at H9;refine zg ?_;refine zc H9 (fun hc H9=>?_) fun hc H9=>?_
  ·refine zg ?_;refine zn H9 fun _ ex_10 H9=>?_
   refine zX (ZaH (Zn (ZH ex_10.h rfl)) rfl) ?_;refine zn H9 fun _ ex_11 H9=>?_
   refine TSx (ZaK fun w v0 hA h0=>Zen w v0 hA (toD h0) ex_11.h) ?_;refine zn H9 fun _ ex_12 H9=>?_
   refine TSx (Zn (ZH ex_12.h rfl)) ?_;refine zE ?_;refine zn H9 fun l_13 el_13 H9=>?_
   refine Zah b7_3 (Zaa el_13.h) ?_;refine zX (ZcJ 3 _ (ZaT el_13.h (by simp))) ?_;refine zb H9 fun x_14 _ H9=>?_
   exact Zq ⟨x_14,l_13⟩ () (ZZs H9) (Za (Za (Zj (ZD rfl) (Za (Za (Zc _)))))) (Zb rfl (Zb rfl (Zb rfl (Zd _))))
  ·refine zg ?_;exact Zi l_8 () (he9 _ (ZZs H9)).symm (Zj (ZD rfl) (Za (Za (Zc _)))) (Zb rfl (Zb rfl (Zb rfl (Zd _))))
 rintro l_5 ⟨⟩ hp;replace hp:=hp.symm;subst hp;refine zg ?_;refine TSx (ZkQ (ps:=_) rfl ⟨_,Tryz.underlying65,by kernel_rfl⟩ ((PartsC.d (((PF 0 Kept Int Zv)).st _) (Zmz (CtH.new (by decide)) inferInstance))))<|Za0 (ZP trivial rfl CtSc.h) ?_;refine zC ?_;refine zn H fun k_15 ek_15 H=>?_
 refine zX (ZB b2_1 (ZcE (ZZ ek_15.h))) ?_;obtain rfl:=ZZi H;exact ZA rfl ⟨b7_3,p7_3,c7_3⟩ (VC_le (ZgF (α:=Item) (by have h:=((PF 1 Kept (List Item) (Zv (α:=Kept) (i:=Kept_dat) (x:=k_15)))).st ([]:(List Item));exact h) rfl)) (Zb rfl (Zd _))
def ZS (s0:(List Item)) (i0:Int) (j0:Int):Option (List Item):=
 (cut s0.length i0 j0).bind fun _=>some (s0.take (Int.toNat i0)++s0.drop (Int.toNat j0))
theorem Zbt {A:Nat→Prop} {s0:(List Item)} {i0:Int} {j0:Int} {b0 c0:Nat} {p0:Prop} {r:(List Item)} (w:World) (v0 v1 v2:Value) (hA:∀ k,w.heap.size≤k→A k) (hO:OwnIn A [⟨b0,p0,Row (s0:List Item) c0⟩]) (hap:ZaY [⟨b0,p0,Row (s0:List Item) c0⟩]) (hks:Pks (Pub A [⟨b0,p0,Row (s0:List Item) c0⟩]) [⟨b0,p0,Row (s0:List Item) c0⟩] w) (h0:(Sl b0 p0 0 s0.length c0).p (Pub A [⟨b0,p0,Row (s0:List Item) c0⟩]) w v0) (h1:(D i0).p (Pub A [⟨b0,p0,Row (s0:List Item) c0⟩]) w v1) (h2:(D j0).p (Pub A [⟨b0,p0,Row (s0:List Item) c0⟩]) w v2) (H:ZS s0 i0 j0=some r) :
    Calls Tryz.prog 75 #[v0,v1,v2] w (Zd6 A w [⟨b0,p0,Row (s0:List Item) c0⟩] (fun g:Nat×Prop×Nat=>Sl g.1 g.2.1 0 (List.length r) g.2.2) fun g=>[⟨g.1,g.2.1,Row (r:List Item) g.2.2⟩]):=by
 unfold ZS at H;refine Zhw hA hap hks Tryz.func75 rfl Tryz.ntmps75 rfl h0 h1 h2 ?_;refine zn H fun _ eu_1 H=>?_
 obtain rfl:=ZZi H;have e0:=ZU eu_1.h;refine zg ?_;refine TSx (Zai (n:=s0.length) rfl) ?_;refine zX (ZaH (Zlc (u:=()) (v:=()) (cut_of (by omega) (by omega) (by simp;omega)) (cut_of (by omega) (by omega) (by omega))) rfl) ?_;refine Zfu (fun hc=>?_) (fun hc=>?_)
 ·obtain rfl:i0=j0:=by simpa using hc
  refine zg ?_;rw [List.take_append_drop];exact ZA rfl ⟨b0,p0,c0⟩ (ZD rfl) (Zb rfl (Zd _))
 ·have hne:i0≠j0:=by simpa using hc
  have hp:p0:=by
    rcases h0 with ⟨h,-⟩ | ⟨-,h,-⟩
    · exact h
    · exfalso;omega
  have hz:(s0.drop (Int.toNat j0)).length=s0.length-Int.toNat j0:=List.length_drop ..;refine zg ?_;refine TSx (Zai (n:=s0.length) rfl) ?_;refine zC ?_;refine zX (ZaM [6,7] [b0] mix (by kernel_rfl) (by kernel_rfl)) ?_;refine zX (Ze4 (Zdx (by omega) (by omega)) rfl) ?_;refine TRx (ZaD (by omega) (by omega))<|Zes (fun g=>ZmG (ys:=s0.drop (Int.toNat j0)) (ZiN (ZjD (by omega)) (by rw [hz];omega)) hp rfl (by omega)) rfl<|Zes (fun g=>Zeu rfl Zd5) rfl ?_;refine zC ?_;rintro ⟨⟨_,_⟩,_⟩;dsimp only [Fam.nextS,Fam.nextN,Fam.one,List.cons_append,List.nil_append];refine zg ?_;refine zX (ZaH (Zai (n:=Int.toNat i0+(s0.drop (Int.toNat j0)).length) rfl) rfl) ?_;have hsl:(splice s0 (Int.toNat i0) (s0.drop (Int.toNat j0))).length=s0.length:=by simp [splice];omega
  refine TSx (Ziq (xs:=splice s0 (Int.toNat i0) (s0.drop (Int.toNat j0))) hp (by omega) (by omega) (by omega))<|Za0 (ZmF (xs:=((splice s0 (Int.toNat i0) (s0.drop (Int.toNat j0))).drop (Int.toNat ((Int.toNat i0+(s0.drop (Int.toNat j0)).length:Nat):Int))).take ((s0.length:Int)-((Int.toNat i0+(s0.drop (Int.toNat j0)).length:Nat):Int)).toNat) (ZfF (by omega)) (by simp [hsl];omega) (fun _ h=>by simp [h,splice])) ?_;refine zC ?_;refine zC ?_;refine ZM ?_;have hk:Int.toNat i0≤s0.length:=by omega
  refine ZA rfl ⟨b0,p0,c0⟩ (ZD (by simp;omega)) (ZhJ (Int.toNat i0+(s0.drop (Int.toNat j0)).length) (by simp [splice];omega) ?_ (Zd _));exact del_take hk rfl
def Zg1 (k0:Kept) (id0:Int):Option (Kept×(List UInt8)×Bool):=
 (Zdm k0).bind fun x_3=>(Zdl k0).bind fun x_4=>(some ((⟨x_4.Most,[]⟩:Kept):Kept)).bind fun k_6=>(Zdj x_4.Items id0).bind fun x_7=>bif ((!x_3)||(decide (x_7<(0:Int)))) then ((some ((⟨k_6.Most,x_4.Items⟩:Kept):Kept)).bind fun k_8=>some (k_8,([]:List UInt8),false)) else ((idx x_4.Items x_7).bind fun x_9=>(ZaA x_7 1).bind fun x_11=>(ZS x_4.Items x_7 x_11).bind fun x_12=>(Zfk 32 ((x_12.length+([x_9]:List Item).length:Nat):Int)).bind fun u_15=>(some ((x_12++([x_9]:List Item)):(List Item))).bind fun l_16=>(Zcs x_9.Body).bind fun x_17=>some ((⟨k_6.Most,l_16⟩:Kept),x_17,true))
instance cache_Look_c:Fd2 28 Zg1 fun r=>Tup [D r.1,D r.2.1,D r.2.2]:=en2 Tryz.func28 rfl Tryz.ntmps28 fun A w hA k0 id0 r H=>by
 unfold Zg1 at H;refine zg ?_;refine TS.box rfl fun b2_0=>?_
 refine TS.alloc (α:=Kept) rfl fun b4_1=>zg ?_
 refine zb H fun _ _ H=>?_
 refine zn H fun x_4 ex_4 H=>?_
 refine Zc8 (Zag [] fun w v0 hA hO hap hks h0=>ZgH w v0 hA hO hap hks (toD h0) ex_4.h) rfl fun ⟨b13_4,p13_4,c13_4⟩=>?_
 dsimp only [List.cons_append,List.nil_append];refine Za0 (ZP trivial rfl CtSc.h) ?_;refine zC ?_;refine zn H fun _ ek_6 H=>?_
 refine zX (ZB b2_0 (ZcE (ZZ ek_6.h))) ?_;refine zX (ZaH (ZI ZL) rfl) ?_;refine zn H fun _ ex_7 H=>?_
 refine zX (ZaH (ZbO [b13_4] (Zge PlS.all rfl (by simp)) ArgB.d fun w v0 v1 hA h0 h1=>cache_place_c.h w v0 v1 hA (toD h0) (toD h1) ex_7.h) rfl) ?_;refine zc H (fun hc H=>?_) fun hc H=>?_
 ·refine zg ?_;refine TS.coll b2_0 b13_4 (o:=1) (((PF 1 Kept (List Item) Zv)).st (x_4.Items:List Item)) (ZE PlS.all rfl) ?_;exact zY H
 ·refine zg ?_;refine zX (ZaH (ZI ZL) rfl) ?_;refine zn H fun x_9 ex_9 H=>?_
  refine zX (ZaH (Zn (ZH ex_9.h rfl)) rfl) ?_;refine TS.alloc (α:=Item) rfl fun b9_9=>?_
  refine zC ?_;refine zX (ZaM [1,5,8,10] [b2_0,b13_4] mix (by kernel_rfl) (by kernel_rfl)) ?_;refine zX (Zes (fun g=>Zeu rfl (ZI ZL)) rfl) ?_;refine zb H fun _ _ H=>?_
  refine zn H fun _ ex_12 H=>?_
  refine zX (Zes (fun g=>(Za5 [b13_4] fun w v0 v1 v2 hA hO hap hks h0 h1 h2=>Zbt w v0 v1 v2 hA hO hap hks (slD rfl h0) (toD h1) (toD h2) ex_12.h)) rfl) ?_;refine TRx (OpY.buildSlice [.tmp 36] rfl rfl (by decide)) ?_;refine zn H fun _ eu_15 H=>?_
  refine zX (Zes (fun g=>OpT.appR (ys:=([x_9]:List Item)) inferInstance eu_15.h rfl rfl) rfl) ?_;refine ZcX (fun g=>(Zax CtH.same)) rfl ?_;refine zC ?_;rintro ⟨⟨⟨⟨_,_⟩,⟨b35_12,p35_12,c35_12⟩⟩,⟨b38_13,p38_13,c38_13⟩⟩,_⟩;dsimp only [Fam.nextS,Fam.nextN,Fam.one,List.cons_append,List.nil_append];refine zn H fun l_16 el_16 H=>?_
  refine ZB b38_13 (Zaa el_16.h)<|ZB b2_0 (Zfb (ZdY el_16.h rfl))<|ZaM [4] [b4_1] mix (by kernel_rfl) (by kernel_rfl) ?_;refine zX (Ze4 (Zdp trivial rfl rfl) rfl) ?_;refine zn H fun _ ex_17 H=>?_
  refine TRx (ZaK fun w v0 hA h0=>Zen w v0 hA (toD h0) ex_17.h)<|ZcX (fun g=>(ZP trivial rfl CtSc.h)) rfl ?_;refine zC ?_;rintro ⟨_,_⟩;dsimp only [Fam.nextS,Fam.nextN,Fam.one,List.cons_append,List.nil_append];refine ZM<|TE.coll b4_1 b38_13 (o:=1) (((PF 1 Kept (List Item) Zv)).st (l_16:List Item)) (ZE PlS.all rfl) ?_;exact zY H
def Zg2 (k0:Kept) (x0:Item):Option (Kept×Int):=
 (Zdm k0).bind fun x_4=>(Zdl k0).bind fun x_5=>(some ((⟨x_5.Most,[]⟩:Kept):Kept)).bind fun k_7=>bif ((!x_4)||(decide (x0.Id<(0:Int)))) then ((some ((⟨k_7.Most,x_5.Items⟩:Kept):Kept)).bind fun k_8=>some (k_8,(1:Int))) else (((Zdj x_5.Items x0.Id).bind fun x_12=>bif (decide (x_12≥(0:Int))) then ((ZaA x_12 1).bind fun x_13=>(ZS x_5.Items x_12 x_13).bind fun x_14=>some x_14) else (bif (decide ((x_5.Items.length:Int)=k_7.Most)) then ((ZS x_5.Items (0:Int) (1:Int)).bind fun x_16=>some x_16) else (some x_5.Items))).bind fun l_10=>(Zcs x0.Body).bind fun x_18=>(Zfk 32 ((l_10.length+([(⟨x0.Id,x_18⟩:Item)]:List Item).length:Nat):Int)).bind fun u_20=>(some ((l_10++([(⟨x0.Id,x_18⟩:Item)]:List Item)):(List Item))).bind fun l_21=>(some ((⟨k_7.Most,l_21⟩:Kept):Kept)).bind fun k_22=>some (k_22,(0:Int)))
instance cache_Keep_c:Fd2 29 Zg2 fun r=>Tup [D r.1,D r.2]:=en2 Tryz.func29 rfl Tryz.ntmps29 fun A w hA k0 x0 r H=>by
 unfold Zg2 at H;refine zg ?_;refine TS.box rfl fun b2_0=>?_
 refine TS.box rfl fun b3_1=>?_
 refine TS.alloc (α:=Kept) rfl fun b4_2=>zg ?_
 refine zb H fun _ _ H=>?_
 refine zn H fun x_5 ex_5 H=>?_
 refine Zc8 (Zag [] fun w v0 hA hO hap hks h0=>ZgH w v0 hA hO hap hks (toD h0) ex_5.h) rfl fun ⟨b11_5,p11_5,c11_5⟩=>?_
 dsimp only [List.cons_append,List.nil_append];refine Za0 (ZP trivial rfl CtSc.h) ?_;refine zC ?_;refine zn H fun k_7 ek_7 H=>?_
 refine zX (ZB b2_0 (ZcE (ZZ ek_7.h))) ?_;refine zc H (fun hc H=>?_) fun hc H=>?_
 ·refine zg ?_;refine TS.coll b2_0 b11_5 (o:=1) (((PF 1 Kept (List Item) Zv)).st (x_5.Items:List Item)) (ZE PlS.all rfl) ?_;exact zY H
 ·refine Zat<|Zae<|Zas ?_;refine zh H fun o_11 H11 H=>?_
  refine Zo (fun s:(List Item)=>o_11=s) (fun (l_10:(List Item)) (⟨b_8,p_8,c_8⟩:Nat×Prop×Nat)=>(Env.set (Env.set (Env.set Env.nil 2 (Pt b2_0 0)) 3 (Pt b3_1 0)) 4 (Pt b4_2 0))) (fun (l_10:(List Item)) (⟨b_8,p_8,c_8⟩:Nat×Prop×Nat)=>[⟨b_8,p_8,(Row (l_10:List Item) c_8)⟩,⟨b2_0,True,(Ct.mix (One k_7) 1 (Sl b_8 p_8 0 l_10.length c_8))⟩,⟨b3_1,True,(One x0)⟩,⟨b4_2,True,(One ((Dat.z:Kept):Kept))⟩]) ?_ ?_
  ·skip;refine zg ?_;refine zX (ZaH (ZI ZL) rfl) ?_;refine zn H11 fun _ ex_12 H11=>?_
   refine zX (ZaH (ZbO [b11_5] (Zge PlS.all rfl (by simp)) ArgB.d fun w v0 v1 hA h0 h1=>cache_place_c.h w v0 v1 hA (toD h0) (toD h1) ex_12.h) rfl) ?_;refine zc H11 (fun hc H11=>?_) fun hc H11=>?_
   ·refine zg ?_;refine zX (ZaH (ZI ZL) rfl) ?_;refine zb H11 fun _ _ H11=>?_
    refine zn H11 fun x_14 ex_14 H11=>?_
    refine Zc8 (Za5 [b11_5] fun w v0 v1 v2 hA hO hap hks h0 h1 h2=>Zbt w v0 v1 v2 hA hO hap hks (slD rfl h0) (toD h1) (toD h2) ex_14.h) rfl fun ⟨b32_14,p32_14,c32_14⟩=>?_
    dsimp only [List.cons_append,List.nil_append];refine zg ?_;refine zX (Za0 (Zax CtH.same)) ?_;exact Zi x_14 ⟨b32_14,p32_14,c32_14⟩ (ZZs H11) (Za (Za (Za (Zc _)))) (Zb rfl (Zb rfl (Zb rfl (Zb rfl (Zd _)))))
   ·refine zg ?_;refine TSx (ZI ZL) ?_;refine zX (ZaH (Zai (n:=x_5.Items.length) rfl) rfl) ?_;refine zX (ZaH (ZaE (Pl.mix (PF 0 Kept Int Zv) (by first | decide | omega))) rfl) ?_;refine zc H11 (fun hc H11=>?_) fun hc H11=>?_
    ·refine zg ?_;refine TSx (ZI ZL) ?_;refine zn H11 fun x_16 ex_16 H11=>?_
     refine Zc8 (Za5 [b11_5] fun w v0 v1 v2 hA hO hap hks h0 h1 h2=>Zbt w v0 v1 v2 hA hO hap hks (slD rfl h0) (toD h1) (toD h2) ex_16.h) rfl fun ⟨b42_16,p42_16,c42_16⟩=>?_
     dsimp only [List.cons_append,List.nil_append];refine zg ?_;refine zX (Za0 (Zax CtH.same)) ?_;exact Zi x_16 ⟨b42_16,p42_16,c42_16⟩ (ZZs H11) (Za (Za (Za (Zc _)))) (Zb rfl (Zb rfl (Zb rfl (Zb rfl (Zd _)))))
    ·refine zg ?_;exact Zi x_5.Items ⟨b11_5,p11_5,c11_5⟩ (ZZs H11) (Za (Za (Za (Zc _)))) (Zb rfl (Zb rfl (Zb rfl (Zb rfl (Zd _)))))
  rintro l_10 ⟨b_8,p_8,c_8⟩ hp;replace hp:=hp.symm;subst hp;refine Zae ?_;refine zX (ZaM [1,9,11] [b2_0,b_8] mix (by kernel_rfl) (by kernel_rfl)) ?_;refine zX (Zes (fun g=>Zeu rfl (ZI ZL)) rfl) ?_;refine zn H fun x_18 ex_18 H=>?_
  refine TRx (ZaK fun w v0 hA h0=>Zen w v0 hA (toD h0) ex_18.h) ?_;refine TRx (Zk (⟨x0.Id,x_18⟩:Item) rfl ⟨_,Tryz.underlying72,by kernel_rfl⟩ rfl rfl) ?_;refine TRx (OpY.buildSlice [.tmp 51] rfl rfl (by decide)) ?_;refine zn H fun _ eu_20 H=>?_
  refine zX (Zes (fun g=>OpT.appR (ys:=([(⟨x0.Id,x_18⟩:Item)]:List Item)) inferInstance eu_20.h rfl rfl) rfl) ?_;refine ZcX (fun g=>(Zax CtH.same)) rfl ?_;refine zC ?_;rintro ⟨⟨⟨_,_⟩,⟨b53_18,p53_18,c53_18⟩⟩,_⟩;dsimp only [Fam.nextS,Fam.nextN,Fam.one,List.cons_append,List.nil_append];refine zn H fun l_21 el_21 H=>?_
  refine ZB b53_18 (Zaa el_21.h) ?_;refine zX (ZB b2_0 (Zfb (ZdY el_21.h rfl))) ?_;refine TS.coll b2_0 b53_18 (o:=1) (((PF 1 Kept (List Item) Zv)).st (l_21:List Item)) (ZE PlS.all rfl) ?_;exact zY H
def Zd3 (k0:Kept) (id0:Int):Option Kept:=
 (Zdm k0).bind fun x_3=>(Zdl k0).bind fun x_4=>(some ((⟨x_4.Most,[]⟩:Kept):Kept)).bind fun k_6=>((Zdj x_4.Items id0).bind fun x_10=>bif (x_3&&(decide (x_10≥(0:Int)))) then ((ZaA x_10 1).bind fun x_11=>(ZS x_4.Items x_10 x_11).bind fun x_12=>some x_12) else (some x_4.Items)).bind fun l_8=>(some ((⟨k_6.Most,l_8⟩:Kept):Kept)).bind fun k_14=>some k_14
instance cache_Forget_c:Fd2 26 Zd3 fun r=>D r:=en2 Tryz.func26 rfl Tryz.ntmps26 fun A w hA k0 id0 r H=>by
 unfold Zd3 at H;refine zg ?_;refine TS.box rfl fun b2_0=>?_
 refine TS.alloc (α:=Kept) rfl fun b4_1=>zg ?_
 refine zb H fun _ _ H=>?_
 refine zn H fun x_4 ex_4 H=>?_
 refine Zc8 (Zag [] fun w v0 hA hO hap hks h0=>ZgH w v0 hA hO hap hks (toD h0) ex_4.h) rfl fun ⟨b10_4,p10_4,c10_4⟩=>?_
 dsimp only [List.cons_append,List.nil_append];refine Za0 (ZP trivial rfl CtSc.h) ?_;refine zC ?_;refine zn H fun k_6 ek_6 H=>?_
 refine ZB b2_0 (ZcE (ZZ ek_6.h))<|Zas ?_;refine zh H fun o_9 H9 H=>?_
 refine Zo (fun s:(List Item)=>o_9=s) (fun (l_8:(List Item)) (⟨b_6,p_6,c_6⟩:Nat×Prop×Nat)=>(Env.set (Env.set Env.nil 2 (Pt b2_0 0)) 4 (Pt b4_1 0))) (fun (l_8:(List Item)) (⟨b_6,p_6,c_6⟩:Nat×Prop×Nat)=>[⟨b_6,p_6,(Row (l_8:List Item) c_6)⟩,⟨b2_0,True,(Ct.mix (One k_6) 1 (Sl b_6 p_6 0 l_8.length c_6))⟩,⟨b4_1,True,(One ((Dat.z:Kept):Kept))⟩]) ?_ ?_
 ·skip;refine zg ?_;refine zX (ZaH (ZI ZL) rfl) ?_;refine zn H9 fun _ ex_10 H9=>?_
  refine zX (ZaH (ZbO [b10_4] (Zge PlS.all rfl (by simp)) ArgB.d fun w v0 v1 hA h0 h1=>cache_place_c.h w v0 v1 hA (toD h0) (toD h1) ex_10.h) rfl) ?_;refine zc H9 (fun hc H9=>?_) fun hc H9=>?_
  ·refine zg ?_;refine zX (ZaH (ZI ZL) rfl) ?_;refine zb H9 fun _ _ H9=>?_
   refine zn H9 fun x_12 ex_12 H9=>?_
   refine Zc8 (Za5 [b10_4] fun w v0 v1 v2 hA hO hap hks h0 h1 h2=>Zbt w v0 v1 v2 hA hO hap hks (slD rfl h0) (toD h1) (toD h2) ex_12.h) rfl fun ⟨b25_12,p25_12,c25_12⟩=>?_
   dsimp only [List.cons_append,List.nil_append];refine zg ?_;refine zX (Za0 (Zax CtH.same)) ?_;exact Zi x_12 ⟨b25_12,p25_12,c25_12⟩ (ZZs H9) (Za (Za (Zc _))) (Zb rfl (Zb rfl (Zb rfl (Zd _))))
  ·refine zg ?_;exact Zi x_4.Items ⟨b10_4,p10_4,c10_4⟩ (ZZs H9) (Za (Za (Zc _))) (Zb rfl (Zb rfl (Zb rfl (Zd _))))
 rintro l_8 ⟨b_6,p_6,c_6⟩ hp;replace hp:=hp.symm;subst hp;refine zg ?_;refine TS.coll b2_0 b_6 (o:=1) (((PF 1 Kept (List Item) Zv)).st (l_8:List Item)) (ZE PlS.all rfl) ?_;exact zY H
end Go.Proofs.YtkmojgfenlgchaaGreatDoor.Tr
