/- What the program says of its types and functions, as instances. Conditions: none. -/
import Derived.Test.YtkohjmiipameeaaChecked
import Derived.Test.YtkohjmiipameeaaOwn5
namespace Go.Proofs.Ytkohjmiipameeaa.Tr
open Go
theorem mix : Try.prog.follows .mixedOrders = true := by kernel_rfl
instance : TIn Try.prog 2 .i64 := ⟨Try.underlying2⟩
instance : TEl Try.prog 2 Int inferInstance 8 := ⟨⟨Try.isAgg2, Try.sizeOf2⟩, Try.t2, _, Try.type2, rfl, rfl, rfl, rfl⟩
instance : TIn Try.prog 3 .i64 := ⟨Try.underlying3⟩
instance : TEl Try.prog 3 Int inferInstance 8 := ⟨⟨Try.isAgg3, Try.sizeOf3⟩, Try.t3, _, Try.type3, rfl, rfl, rfl, rfl⟩
instance : TEl Try.prog 4 Bool inferInstance 1 := ⟨⟨Try.isAgg4, Try.sizeOf4⟩, Try.t4, _, Try.type4, rfl, rfl, rfl, rfl⟩
instance : TIn Try.prog 5 .u8 := ⟨Try.underlying5⟩
instance : TEl Try.prog 5 UInt8 inferInstance 1 := ⟨⟨Try.isAgg5, Try.sizeOf5⟩, Try.t5, _, Try.type5, rfl, rfl, rfl, rfl⟩
instance : TIn Try.prog 6 .u8 := ⟨Try.underlying6⟩
instance : TEl Try.prog 6 UInt8 inferInstance 1 := ⟨⟨Try.isAgg6, Try.sizeOf6⟩, Try.t6, _, Try.type6, rfl, rfl, rfl, rfl⟩
instance : TStr Try.prog 9 := ⟨Try.underlying9⟩
instance : TStr Try.prog 10 := ⟨Try.underlying10⟩
instance : TStr Try.prog 11 := ⟨Try.underlying11⟩
instance : TIn Try.prog 12 .u64 := ⟨Try.underlying12⟩
instance : TEl Try.prog 12 UInt64 inferInstance 8 := ⟨⟨Try.isAgg12, Try.sizeOf12⟩, Try.t12, _, Try.type12, rfl, rfl, rfl, rfl⟩
instance : TIn Try.prog 21 .i32 := ⟨Try.underlying21⟩
instance : TSl Try.prog 22 5 := ⟨Try.underlying22⟩
instance : TEl Try.prog 22 (List UInt8) inferInstance 24 := ⟨⟨Try.isAgg22, Try.sizeOf22⟩, Try.t22, _, Try.type22, rfl, rfl, rfl, rfl⟩
instance : TIn Try.prog 23 .u64 := ⟨Try.underlying23⟩
instance : TEl Try.prog 23 UInt64 inferInstance 8 := ⟨⟨Try.isAgg23, Try.sizeOf23⟩, Try.t23, _, Try.type23, rfl, rfl, rfl, rfl⟩
instance : TIn Try.prog 25 .i64 := ⟨Try.underlying25⟩
instance : TEl Try.prog 25 Int inferInstance 8 := ⟨⟨Try.isAgg25, Try.sizeOf25⟩, Try.t25, _, Try.type25, rfl, rfl, rfl, rfl⟩
instance : TIn Try.prog 30 .u32 := ⟨Try.underlying30⟩
instance : TEl Try.prog 30 UInt32 inferInstance 4 := ⟨⟨Try.isAgg30, Try.sizeOf30⟩, Try.t30, _, Try.type30, rfl, rfl, rfl, rfl⟩
instance : TIn Try.prog 37 .u16 := ⟨Try.underlying37⟩
instance : TEl Try.prog 37 UInt16 inferInstance 2 := ⟨⟨Try.isAgg37, Try.sizeOf37⟩, Try.t37, _, Try.type37, rfl, rfl, rfl, rfl⟩
instance : TIn Try.prog 38 .u64 := ⟨Try.underlying38⟩
instance : TEl Try.prog 38 UInt64 inferInstance 8 := ⟨⟨Try.isAgg38, Try.sizeOf38⟩, Try.t38, _, Try.type38, rfl, rfl, rfl, rfl⟩
instance : TSl Try.prog 43 22 := ⟨Try.underlying43⟩
instance : TEl Try.prog 43 (List (List UInt8)) inferInstance 24 := ⟨⟨Try.isAgg43, Try.sizeOf43⟩, Try.t43, _, Try.type43, rfl, rfl, rfl, rfl⟩
instance : TIn Try.prog 52 .u8 := ⟨Try.underlying52⟩
instance : TEl Try.prog 52 UInt8 inferInstance 1 := ⟨⟨Try.isAgg52, Try.sizeOf52⟩, Try.t52, _, Try.type52, rfl, rfl, rfl, rfl⟩
instance : TIn Try.prog 53 .u8 := ⟨Try.underlying53⟩
instance : TEl Try.prog 53 UInt8 inferInstance 1 := ⟨⟨Try.isAgg53, Try.sizeOf53⟩, Try.t53, _, Try.type53, rfl, rfl, rfl, rfl⟩
instance : TIn Try.prog 56 .i32 := ⟨Try.underlying56⟩
instance : TIn Try.prog 57 .i32 := ⟨Try.underlying57⟩
instance : Fun Try.prog 3 := ⟨Try.call3⟩
instance : Fun Try.prog 4 := ⟨Try.call4⟩
instance : Fun Try.prog 5 := ⟨Try.call5⟩
instance : Fun Try.prog 6 := ⟨Try.call6⟩
instance : Fun Try.prog 7 := ⟨Try.call7⟩
instance : Fun Try.prog 8 := ⟨Try.call8⟩
instance : Fun Try.prog 9 := ⟨Try.call9⟩
instance : Fun Try.prog 10 := ⟨Try.call10⟩
instance : Fun Try.prog 11 := ⟨Try.call11⟩
instance : Fun Try.prog 12 := ⟨Try.call12⟩
instance : Fun Try.prog 13 := ⟨Try.call13⟩
instance : Fun Try.prog 14 := ⟨Try.call14⟩
instance : Fun Try.prog 15 := ⟨Try.call15⟩
instance : Fun Try.prog 16 := ⟨Try.call16⟩
instance : Fun Try.prog 17 := ⟨Try.call17⟩
instance : Fun Try.prog 18 := ⟨Try.call18⟩
instance : Fun Try.prog 19 := ⟨Try.call19⟩
instance : Fun Try.prog 20 := ⟨Try.call20⟩
instance : Fun Try.prog 21 := ⟨Try.call21⟩
end Go.Proofs.Ytkohjmiipameeaa.Tr
