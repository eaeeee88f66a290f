/- What the program says of its types and functions, as instances. Conditions: none. -/
import Derived.Test.YtfdmajkeihdhnaaChecked
import Derived.Test.YtfdmajkeihdhnaaApi
namespace Go.Proofs.Ytfdmajkeihdhnaa.Tr
open Go
set_option maxRecDepth 100000
set_option linter.unusedVariables false
theorem mix : Try.prog.follows .mixedOrders = true := by kernel_rfl
instance : TIn Try.prog 2 .i64 := ⟨Try.underlying2⟩
instance : TEl Try.prog 2 Int inferInstance 8 := ⟨⟨Try.isAgg2, Try.sizeOf2⟩, Try.t2, _, Try.type2, rfl, rfl, rfl, rfl⟩
instance : TIn Try.prog 3 .i64 := ⟨Try.underlying3⟩
instance : TEl Try.prog 3 Int inferInstance 8 := ⟨⟨Try.isAgg3, Try.sizeOf3⟩, Try.t3, _, Try.type3, rfl, rfl, rfl, rfl⟩
instance : TEl Try.prog 4 Bool inferInstance 1 := ⟨⟨Try.isAgg4, Try.sizeOf4⟩, Try.t4, _, Try.type4, rfl, rfl, rfl, rfl⟩
instance : TIn Try.prog 5 .u8 := ⟨Try.underlying5⟩
instance : TEl Try.prog 5 UInt8 inferInstance 1 := ⟨⟨Try.isAgg5, Try.sizeOf5⟩, Try.t5, _, Try.type5, rfl, rfl, rfl, rfl⟩
instance : TIn Try.prog 6 .u8 := ⟨Try.underlying6⟩
instance : TEl Try.prog 6 UInt8 inferInstance 1 := ⟨⟨Try.isAgg6, Try.sizeOf6⟩, Try.t6, _, Try.type6, rfl, rfl, rfl, rfl⟩
instance : TStr Try.prog 9 := ⟨Try.underlying9⟩
instance : TStr Try.prog 10 := ⟨Try.underlying10⟩
instance : TStr Try.prog 11 := ⟨Try.underlying11⟩
instance : TIn Try.prog 12 .u64 := ⟨Try.underlying12⟩
instance : TEl Try.prog 12 UInt64 inferInstance 8 := ⟨⟨Try.isAgg12, Try.sizeOf12⟩, Try.t12, _, Try.type12, rfl, rfl, rfl, rfl⟩
instance : TIn Try.prog 21 .i32 := ⟨Try.underlying21⟩
instance : TIn Try.prog 22 .u64 := ⟨Try.underlying22⟩
instance : TEl Try.prog 22 UInt64 inferInstance 8 := ⟨⟨Try.isAgg22, Try.sizeOf22⟩, Try.t22, _, Try.type22, rfl, rfl, rfl, rfl⟩
instance : TSl Try.prog 23 5 := ⟨Try.underlying23⟩
instance : TEl Try.prog 23 (List UInt8) inferInstance 24 := ⟨⟨Try.isAgg23, Try.sizeOf23⟩, Try.t23, _, Try.type23, rfl, rfl, rfl, rfl⟩
instance : TFld Try.prog 25 0 3 0 := ⟨_, _, Try.underlying25, rfl, rfl, rfl⟩
instance : TFld Try.prog 25 1 3 1 := ⟨_, _, Try.underlying25, rfl, rfl, rfl⟩
instance : TFld Try.prog 25 2 22 2 := ⟨_, _, Try.underlying25, rfl, rfl, rfl⟩
instance : TFld Try.prog 25 3 23 3 := ⟨_, _, Try.underlying25, rfl, rfl, rfl⟩
instance : TEl Try.prog 25 Page inferInstance 48 := ⟨⟨Try.isAgg25, Try.sizeOf25⟩, Try.t25, _, Try.type25, rfl, rfl, rfl, rfl⟩
instance : TIn Try.prog 27 .i64 := ⟨Try.underlying27⟩
instance : TEl Try.prog 27 Int inferInstance 8 := ⟨⟨Try.isAgg27, Try.sizeOf27⟩, Try.t27, _, Try.type27, rfl, rfl, rfl, rfl⟩
instance : TEl Try.prog 36 (F2 Try.prog Page Page Bool) inferInstance 8 := ⟨⟨Try.isAgg36, Try.sizeOf36⟩, Try.t36, _, Try.type36, rfl, rfl, rfl, rfl⟩
instance : TEl Try.prog 37 (F2 Try.prog Page Int Bool) inferInstance 8 := ⟨⟨Try.isAgg37, Try.sizeOf37⟩, Try.t37, _, Try.type37, rfl, rfl, rfl, rfl⟩
instance : TEl Try.prog 38 (F1 Try.prog Int Int) inferInstance 8 := ⟨⟨Try.isAgg38, Try.sizeOf38⟩, Try.t38, _, Try.type38, rfl, rfl, rfl, rfl⟩
instance : TEl Try.prog 39 (F1 Try.prog (List UInt8) Bool) inferInstance 8 := ⟨⟨Try.isAgg39, Try.sizeOf39⟩, Try.t39, _, Try.type39, rfl, rfl, rfl, rfl⟩
instance : TIn Try.prog 41 .u16 := ⟨Try.underlying41⟩
instance : TEl Try.prog 41 UInt16 inferInstance 2 := ⟨⟨Try.isAgg41, Try.sizeOf41⟩, Try.t41, _, Try.type41, rfl, rfl, rfl, rfl⟩
instance : TIn Try.prog 42 .u64 := ⟨Try.underlying42⟩
instance : TEl Try.prog 42 UInt64 inferInstance 8 := ⟨⟨Try.isAgg42, Try.sizeOf42⟩, Try.t42, _, Try.type42, rfl, rfl, rfl, rfl⟩
instance : TSl Try.prog 45 3 := ⟨Try.underlying45⟩
instance : TEl Try.prog 45 (List Int) inferInstance 24 := ⟨⟨Try.isAgg45, Try.sizeOf45⟩, Try.t45, _, Try.type45, rfl, rfl, rfl, rfl⟩
instance : TFld Try.prog 47 0 45 0 := ⟨_, _, Try.underlying47, rfl, rfl, rfl⟩
instance : TFld Try.prog 47 1 45 1 := ⟨_, _, Try.underlying47, rfl, rfl, rfl⟩
instance : TEl Try.prog 47 Reserve inferInstance 48 := ⟨⟨Try.isAgg47, Try.sizeOf47⟩, Try.t47, _, Try.type47, rfl, rfl, rfl, rfl⟩
instance : TSl Try.prog 54 106 := ⟨Try.underlying54⟩
instance : TEl Try.prog 54 (List Fault) inferInstance 24 := ⟨⟨Try.isAgg54, Try.sizeOf54⟩, Try.t54, _, Try.type54, rfl, rfl, rfl, rfl⟩
instance : TSl Try.prog 55 67 := ⟨Try.underlying55⟩
instance : TEl Try.prog 55 (List bywaylaw06_Do) inferInstance 24 := ⟨⟨Try.isAgg55, Try.sizeOf55⟩, Try.t55, _, Try.type55, rfl, rfl, rfl, rfl⟩
instance : TSl Try.prog 56 70 := ⟨Try.underlying56⟩
instance : TEl Try.prog 56 (List Block) inferInstance 24 := ⟨⟨Try.isAgg56, Try.sizeOf56⟩, Try.t56, _, Try.type56, rfl, rfl, rfl, rfl⟩
instance : TFld Try.prog 58 0 3 0 := ⟨_, _, Try.underlying58, rfl, rfl, rfl⟩
instance : TFld Try.prog 58 1 3 1 := ⟨_, _, Try.underlying58, rfl, rfl, rfl⟩
instance : TFld Try.prog 58 2 56 2 := ⟨_, _, Try.underlying58, rfl, rfl, rfl⟩
instance : TFld Try.prog 58 3 3 3 := ⟨_, _, Try.underlying58, rfl, rfl, rfl⟩
instance : TFld Try.prog 58 4 4 4 := ⟨_, _, Try.underlying58, rfl, rfl, rfl⟩
instance : TFld Try.prog 58 5 54 5 := ⟨_, _, Try.underlying58, rfl, rfl, rfl⟩
instance : TEl Try.prog 58 Chip inferInstance 80 := ⟨⟨Try.isAgg58, Try.sizeOf58⟩, Try.t58, _, Try.type58, rfl, rfl, rfl, rfl⟩
instance : TAr Try.prog 62 4 4 := ⟨Try.underlying62⟩
instance : TEl Try.prog 62 (Vec Bool 4) inferInstance 4 := ⟨⟨Try.isAgg62, Try.sizeOf62⟩, Try.t62, _, Try.type62, rfl, rfl, rfl, rfl⟩
instance : TAr Try.prog 63 3 62 := ⟨Try.underlying63⟩
instance : TEl Try.prog 63 (Vec (Vec Bool 4) 3) inferInstance 12 := ⟨⟨Try.isAgg63, Try.sizeOf63⟩, Try.t63, _, Try.type63, rfl, rfl, rfl, rfl⟩
instance : TAr Try.prog 64 4 5 := ⟨Try.underlying64⟩
instance : TEl Try.prog 64 (Vec UInt8 4) inferInstance 4 := ⟨⟨Try.isAgg64, Try.sizeOf64⟩, Try.t64, _, Try.type64, rfl, rfl, rfl, rfl⟩
instance : TAr Try.prog 65 3 64 := ⟨Try.underlying65⟩
instance : TEl Try.prog 65 (Vec (Vec UInt8 4) 3) inferInstance 12 := ⟨⟨Try.isAgg65, Try.sizeOf65⟩, Try.t65, _, Try.type65, rfl, rfl, rfl, rfl⟩
instance : TFld Try.prog 67 0 5 0 := ⟨_, _, Try.underlying67, rfl, rfl, rfl⟩
instance : TFld Try.prog 67 1 5 1 := ⟨_, _, Try.underlying67, rfl, rfl, rfl⟩
instance : TFld Try.prog 67 2 5 2 := ⟨_, _, Try.underlying67, rfl, rfl, rfl⟩
instance : TEl Try.prog 67 bywaylaw06_Do inferInstance 3 := ⟨⟨Try.isAgg67, Try.sizeOf67⟩, Try.t67, _, Try.type67, rfl, rfl, rfl, rfl⟩
instance : TSl Try.prog 68 23 := ⟨Try.underlying68⟩
instance : TEl Try.prog 68 (List (List UInt8)) inferInstance 24 := ⟨⟨Try.isAgg68, Try.sizeOf68⟩, Try.t68, _, Try.type68, rfl, rfl, rfl, rfl⟩
instance : TFld Try.prog 70 0 68 0 := ⟨_, _, Try.underlying70, rfl, rfl, rfl⟩
instance : TFld Try.prog 70 1 3 1 := ⟨_, _, Try.underlying70, rfl, rfl, rfl⟩
instance : TFld Try.prog 70 2 3 2 := ⟨_, _, Try.underlying70, rfl, rfl, rfl⟩
instance : TFld Try.prog 70 3 4 3 := ⟨_, _, Try.underlying70, rfl, rfl, rfl⟩
instance : TEl Try.prog 70 Block inferInstance 48 := ⟨⟨Try.isAgg70, Try.sizeOf70⟩, Try.t70, _, Try.type70, rfl, rfl, rfl, rfl⟩
instance : TEl Try.prog 73 (F2 Try.prog Chip Chip Bool) inferInstance 8 := ⟨⟨Try.isAgg73, Try.sizeOf73⟩, Try.t73, _, Try.type73, rfl, rfl, rfl, rfl⟩
instance : TEl Try.prog 75 (F1 Try.prog Chip Bool) inferInstance 8 := ⟨⟨Try.isAgg75, Try.sizeOf75⟩, Try.t75, _, Try.type75, rfl, rfl, rfl, rfl⟩
instance : TEl Try.prog 76 (F2 Try.prog (List Fault) (List bywaylaw06_Do) Bool) inferInstance 8 := ⟨⟨Try.isAgg76, Try.sizeOf76⟩, Try.t76, _, Try.type76, rfl, rfl, rfl, rfl⟩
instance : TEl Try.prog 77 (F2 Try.prog Block Block Bool) inferInstance 8 := ⟨⟨Try.isAgg77, Try.sizeOf77⟩, Try.t77, _, Try.type77, rfl, rfl, rfl, rfl⟩
instance : TFld Try.prog 80 0 22 0 := ⟨_, _, Try.underlying80, rfl, rfl, rfl⟩
instance : TFld Try.prog 80 1 45 1 := ⟨_, _, Try.underlying80, rfl, rfl, rfl⟩
instance : TEl Try.prog 80 Roots inferInstance 32 := ⟨⟨Try.isAgg80, Try.sizeOf80⟩, Try.t80, _, Try.type80, rfl, rfl, rfl, rfl⟩
instance : TEl Try.prog 82 (F2 Try.prog Roots Int Bool) inferInstance 8 := ⟨⟨Try.isAgg82, Try.sizeOf82⟩, Try.t82, _, Try.type82, rfl, rfl, rfl, rfl⟩
instance : TEl Try.prog 85 (F2 Try.prog Roots Roots Bool) inferInstance 8 := ⟨⟨Try.isAgg85, Try.sizeOf85⟩, Try.t85, _, Try.type85, rfl, rfl, rfl, rfl⟩
instance : TFld Try.prog 91 0 3 0 := ⟨_, _, Try.underlying91, rfl, rfl, rfl⟩
instance : TFld Try.prog 91 1 3 1 := ⟨_, _, Try.underlying91, rfl, rfl, rfl⟩
instance : TFld Try.prog 91 2 3 2 := ⟨_, _, Try.underlying91, rfl, rfl, rfl⟩
instance : TFld Try.prog 91 3 3 3 := ⟨_, _, Try.underlying91, rfl, rfl, rfl⟩
instance : TFld Try.prog 91 4 3 4 := ⟨_, _, Try.underlying91, rfl, rfl, rfl⟩
instance : TEl Try.prog 91 Tally inferInstance 40 := ⟨⟨Try.isAgg91, Try.sizeOf91⟩, Try.t91, _, Try.type91, rfl, rfl, rfl, rfl⟩
instance : TEl Try.prog 95 (F2 Try.prog Chip (List Int) (List Int)) inferInstance 8 := ⟨⟨Try.isAgg95, Try.sizeOf95⟩, Try.t95, _, Try.type95, rfl, rfl, rfl, rfl⟩
instance : TSl Try.prog 96 22 := ⟨Try.underlying96⟩
instance : TEl Try.prog 96 (List UInt64) inferInstance 24 := ⟨⟨Try.isAgg96, Try.sizeOf96⟩, Try.t96, _, Try.type96, rfl, rfl, rfl, rfl⟩
instance : TEl Try.prog 97 (F1 Try.prog Chip (List UInt64)) inferInstance 8 := ⟨⟨Try.isAgg97, Try.sizeOf97⟩, Try.t97, _, Try.type97, rfl, rfl, rfl, rfl⟩
instance : TEl Try.prog 100 (F1 Try.prog Chip Tally) inferInstance 8 := ⟨⟨Try.isAgg100, Try.sizeOf100⟩, Try.t100, _, Try.type100, rfl, rfl, rfl, rfl⟩
instance : TEl Try.prog 101 (F2 Try.prog (List Int) (List Int) Bool) inferInstance 8 := ⟨⟨Try.isAgg101, Try.sizeOf101⟩, Try.t101, _, Try.type101, rfl, rfl, rfl, rfl⟩
instance : TEl Try.prog 103 (F2 Try.prog (List Int) Int Bool) inferInstance 8 := ⟨⟨Try.isAgg103, Try.sizeOf103⟩, Try.t103, _, Try.type103, rfl, rfl, rfl, rfl⟩
instance : TEl Try.prog 104 (F2 Try.prog Chip Int Bool) inferInstance 8 := ⟨⟨Try.isAgg104, Try.sizeOf104⟩, Try.t104, _, Try.type104, rfl, rfl, rfl, rfl⟩
instance : TFld Try.prog 106 0 3 0 := ⟨_, _, Try.underlying106, rfl, rfl, rfl⟩
instance : TFld Try.prog 106 1 4 1 := ⟨_, _, Try.underlying106, rfl, rfl, rfl⟩
instance : TFld Try.prog 106 2 4 2 := ⟨_, _, Try.underlying106, rfl, rfl, rfl⟩
instance : TFld Try.prog 106 3 5 3 := ⟨_, _, Try.underlying106, rfl, rfl, rfl⟩
instance : TEl Try.prog 106 Fault inferInstance 16 := ⟨⟨Try.isAgg106, Try.sizeOf106⟩, Try.t106, _, Try.type106, rfl, rfl, rfl, rfl⟩
instance : TEl Try.prog 107 (F2 Try.prog (List UInt8) Bool Bool) inferInstance 8 := ⟨⟨Try.isAgg107, Try.sizeOf107⟩, Try.t107, _, Try.type107, rfl, rfl, rfl, rfl⟩
instance : TEl Try.prog 108 (F2 Try.prog UInt64 Int (List UInt8)) inferInstance 8 := ⟨⟨Try.isAgg108, Try.sizeOf108⟩, Try.t108, _, Try.type108, rfl, rfl, rfl, rfl⟩
instance : TEl Try.prog 109 (F1 Try.prog (List (List UInt8)) (List UInt8)) inferInstance 8 := ⟨⟨Try.isAgg109, Try.sizeOf109⟩, Try.t109, _, Try.type109, rfl, rfl, rfl, rfl⟩
instance : TIn Try.prog 110 .u32 := ⟨Try.underlying110⟩
instance : TEl Try.prog 110 UInt32 inferInstance 4 := ⟨⟨Try.isAgg110, Try.sizeOf110⟩, Try.t110, _, Try.type110, rfl, rfl, rfl, rfl⟩
instance : TEl Try.prog 111 (F1 Try.prog (List UInt8) UInt32) inferInstance 8 := ⟨⟨Try.isAgg111, Try.sizeOf111⟩, Try.t111, _, Try.type111, rfl, rfl, rfl, rfl⟩
instance : TEl Try.prog 112 (F1 Try.prog (List UInt8) (List UInt8)) inferInstance 8 := ⟨⟨Try.isAgg112, Try.sizeOf112⟩, Try.t112, _, Try.type112, rfl, rfl, rfl, rfl⟩
instance : TEl Try.prog 113 (F1 Try.prog Int Bool) inferInstance 8 := ⟨⟨Try.isAgg113, Try.sizeOf113⟩, Try.t113, _, Try.type113, rfl, rfl, rfl, rfl⟩
instance : TEl Try.prog 114 (F1 Try.prog (List UInt8) UInt64) inferInstance 8 := ⟨⟨Try.isAgg114, Try.sizeOf114⟩, Try.t114, _, Try.type114, rfl, rfl, rfl, rfl⟩
instance : TEl Try.prog 118 (F2 Try.prog Reserve Reserve Bool) inferInstance 8 := ⟨⟨Try.isAgg118, Try.sizeOf118⟩, Try.t118, _, Try.type118, rfl, rfl, rfl, rfl⟩
instance : TEl Try.prog 119 (F1 Try.prog Reserve Bool) inferInstance 8 := ⟨⟨Try.isAgg119, Try.sizeOf119⟩, Try.t119, _, Try.type119, rfl, rfl, rfl, rfl⟩
instance : TMap Try.prog 120 3 121 := ⟨Try.underlying120, Try.underlying3, ⟨Try.t121, _, Try.type121, rfl, rfl⟩⟩
instance : TEmp Try.prog 121 := ⟨by kernel_rfl, ⟨Try.t121, _, Try.type121, rfl, rfl, rfl⟩⟩
instance : TEl Try.prog 123 (F1 Try.prog (List Int) (List Int)) inferInstance 8 := ⟨⟨Try.isAgg123, Try.sizeOf123⟩, Try.t123, _, Try.type123, rfl, rfl, rfl, rfl⟩
instance : TEl Try.prog 124 (F2 Try.prog Reserve Int Bool) inferInstance 8 := ⟨⟨Try.isAgg124, Try.sizeOf124⟩, Try.t124, _, Try.type124, rfl, rfl, rfl, rfl⟩
instance : TEl Try.prog 127 (F1 Try.prog Chip Chip) inferInstance 8 := ⟨⟨Try.isAgg127, Try.sizeOf127⟩, Try.t127, _, Try.type127, rfl, rfl, rfl, rfl⟩
instance : TEl Try.prog 128 (F1 Try.prog (List Fault) (List Fault)) inferInstance 8 := ⟨⟨Try.isAgg128, Try.sizeOf128⟩, Try.t128, _, Try.type128, rfl, rfl, rfl, rfl⟩
instance : TFld Try.prog 138 0 3 0 := ⟨_, _, Try.underlying138, rfl, rfl, rfl⟩
instance : TFld Try.prog 138 1 3 1 := ⟨_, _, Try.underlying138, rfl, rfl, rfl⟩
instance : TFld Try.prog 138 2 22 2 := ⟨_, _, Try.underlying138, rfl, rfl, rfl⟩
instance : TEl Try.prog 138 image_sheet inferInstance 24 := ⟨⟨Try.isAgg138, Try.sizeOf138⟩, Try.t138, _, Try.type138, rfl, rfl, rfl, rfl⟩
instance : TEl Try.prog 140 (F1 Try.prog (List UInt64) (List UInt64)) inferInstance 8 := ⟨⟨Try.isAgg140, Try.sizeOf140⟩, Try.t140, _, Try.type140, rfl, rfl, rfl, rfl⟩
instance : TEl Try.prog 145 (F1 Try.prog (List UInt8) Int) inferInstance 8 := ⟨⟨Try.isAgg145, Try.sizeOf145⟩, Try.t145, _, Try.type145, rfl, rfl, rfl, rfl⟩
instance : TEl Try.prog 146 (F2 Try.prog (List UInt8) Int (List UInt8)) inferInstance 8 := ⟨⟨Try.isAgg146, Try.sizeOf146⟩, Try.t146, _, Try.type146, rfl, rfl, rfl, rfl⟩
instance : TEl Try.prog 147 (F2 Try.prog UInt32 (List UInt8) UInt32) inferInstance 8 := ⟨⟨Try.isAgg147, Try.sizeOf147⟩, Try.t147, _, Try.type147, rfl, rfl, rfl, rfl⟩
instance : TEl Try.prog 148 (F1 Try.prog (List (List Int)) (List Int)) inferInstance 8 := ⟨⟨Try.isAgg148, Try.sizeOf148⟩, Try.t148, _, Try.type148, rfl, rfl, rfl, rfl⟩
instance : TEl Try.prog 150 (F1 Try.prog (List UInt8) (List Int)) inferInstance 8 := ⟨⟨Try.isAgg150, Try.sizeOf150⟩, Try.t150, _, Try.type150, rfl, rfl, rfl, rfl⟩
instance : TEl Try.prog 151 (F1 Try.prog (List Block) (List Block)) inferInstance 8 := ⟨⟨Try.isAgg151, Try.sizeOf151⟩, Try.t151, _, Try.type151, rfl, rfl, rfl, rfl⟩
instance : TEl Try.prog 152 (F1 Try.prog (List (List UInt8)) (List (List UInt8))) inferInstance 8 := ⟨⟨Try.isAgg152, Try.sizeOf152⟩, Try.t152, _, Try.type152, rfl, rfl, rfl, rfl⟩
instance : TEl Try.prog 153 (F2 Try.prog Int image_sheet Bool) inferInstance 8 := ⟨⟨Try.isAgg153, Try.sizeOf153⟩, Try.t153, _, Try.type153, rfl, rfl, rfl, rfl⟩
instance : TEl Try.prog 154 (F2 Try.prog (List UInt8) Bool image_sheet) inferInstance 8 := ⟨⟨Try.isAgg154, Try.sizeOf154⟩, Try.t154, _, Try.type154, rfl, rfl, rfl, rfl⟩
instance : TEl Try.prog 155 (F2 Try.prog (List Int) Int Int) inferInstance 8 := ⟨⟨Try.isAgg155, Try.sizeOf155⟩, Try.t155, _, Try.type155, rfl, rfl, rfl, rfl⟩
instance : TEl Try.prog 157 (F1 Try.prog UInt64 Int) inferInstance 8 := ⟨⟨Try.isAgg157, Try.sizeOf157⟩, Try.t157, _, Try.type157, rfl, rfl, rfl, rfl⟩
instance : TSl Try.prog 158 45 := ⟨Try.underlying158⟩
instance : TEl Try.prog 158 (List (List Int)) inferInstance 24 := ⟨⟨Try.isAgg158, Try.sizeOf158⟩, Try.t158, _, Try.type158, rfl, rfl, rfl, rfl⟩
instance : TEl Try.prog 159 (F2 Try.prog (List Int) Int (List Int)) inferInstance 8 := ⟨⟨Try.isAgg159, Try.sizeOf159⟩, Try.t159, _, Try.type159, rfl, rfl, rfl, rfl⟩
instance : TIn Try.prog 161 .i64 := ⟨Try.underlying161⟩
instance : TEl Try.prog 161 Int inferInstance 8 := ⟨⟨Try.isAgg161, Try.sizeOf161⟩, Try.t161, _, Try.type161, rfl, rfl, rfl, rfl⟩
instance : TEl Try.prog 165 (F2 Try.prog UInt64 UInt64 Bool) inferInstance 8 := ⟨⟨Try.isAgg165, Try.sizeOf165⟩, Try.t165, _, Try.type165, rfl, rfl, rfl, rfl⟩
instance : TEl Try.prog 169 (F1 Try.prog UInt32 Int) inferInstance 8 := ⟨⟨Try.isAgg169, Try.sizeOf169⟩, Try.t169, _, Try.type169, rfl, rfl, rfl, rfl⟩
instance : TEl Try.prog 170 (F1 Try.prog UInt64 Int) inferInstance 8 := ⟨⟨Try.isAgg170, Try.sizeOf170⟩, Try.t170, _, Try.type170, rfl, rfl, rfl, rfl⟩
instance : TIn Try.prog 171 .u64 := ⟨Try.underlying171⟩
instance : TEl Try.prog 171 UInt64 inferInstance 8 := ⟨⟨Try.isAgg171, Try.sizeOf171⟩, Try.t171, _, Try.type171, rfl, rfl, rfl, rfl⟩
instance : TEl Try.prog 172 (F1 Try.prog Int UInt64) inferInstance 8 := ⟨⟨Try.isAgg172, Try.sizeOf172⟩, Try.t172, _, Try.type172, rfl, rfl, rfl, rfl⟩
instance : TEl Try.prog 177 (F1 Try.prog UInt64 Bool) inferInstance 8 := ⟨⟨Try.isAgg177, Try.sizeOf177⟩, Try.t177, _, Try.type177, rfl, rfl, rfl, rfl⟩
instance : TIn Try.prog 187 .u8 := ⟨Try.underlying187⟩
instance : TEl Try.prog 187 UInt8 inferInstance 1 := ⟨⟨Try.isAgg187, Try.sizeOf187⟩, Try.t187, _, Try.type187, rfl, rfl, rfl, rfl⟩
instance : TIn Try.prog 188 .u8 := ⟨Try.underlying188⟩
instance : TEl Try.prog 188 UInt8 inferInstance 1 := ⟨⟨Try.isAgg188, Try.sizeOf188⟩, Try.t188, _, Try.type188, rfl, rfl, rfl, rfl⟩
instance : TIn Try.prog 191 .i32 := ⟨Try.underlying191⟩
instance : TIn Try.prog 192 .i32 := ⟨Try.underlying192⟩
theorem EqV_67 : EqN Try.prog 67 bywaylaw06_Do inferInstance 1 := EqN.struct Try.underlying67 (by decide +kernel) rfl fun {A} w d {cs ds x y} hx hy => by
  have h1 : cs.length = Dat.sz bywaylaw06_Do := Dat.len hx
  have h2 : ds.length = Dat.sz bywaylaw06_Do := Dat.len hy
  refine Eq.trans (b := .ok (decide (x.Kind = y.Kind) && (decide (x.Block = y.Block) && (decide (x.Byte = y.Byte) && true))) w) ?_ ?_
  · exact (eqF_cons (n := 0) (A := A) (off := 0) (β := UInt8) (a := x.Kind) (b := y.Kind) (by decide) rfl rfl (EqN.u8 Try.underlying5) (by rw [h1]; decide) (by rw [h2]; decide) (Fld.rd (α := bywaylaw06_Do) (off := 0) hx) (Fld.rd (α := bywaylaw06_Do) (off := 0) hy) (eqF_cons (n := 0) (A := A) (off := 1) (β := UInt8) (a := x.Block) (b := y.Block) (by decide) rfl rfl (EqN.u8 Try.underlying5) (by rw [h1]; decide) (by rw [h2]; decide) (Fld.rd (α := bywaylaw06_Do) (off := 1) hx) (Fld.rd (α := bywaylaw06_Do) (off := 1) hy) (eqF_cons (n := 0) (A := A) (off := 2) (β := UInt8) (a := x.Byte) (b := y.Byte) (by decide) rfl rfl (EqN.u8 Try.underlying5) (by rw [h1]; decide) (by rw [h2]; decide) (Fld.rd (α := bywaylaw06_Do) (off := 2) hx) (Fld.rd (α := bywaylaw06_Do) (off := 2) hy) eqF_nil)))
  congr 1
  cases x; cases y
  rw [Bool.eq_iff_iff]; simp
theorem EqG_67 : Try.prog.eqGuardType Try.prog.depth 67 = false := by decide +kernel
theorem EqV_91 : EqN Try.prog 91 Tally inferInstance 1 := EqN.struct Try.underlying91 (by decide +kernel) rfl fun {A} w d {cs ds x y} hx hy => by
  have h1 : cs.length = Dat.sz Tally := Dat.len hx
  have h2 : ds.length = Dat.sz Tally := Dat.len hy
  refine Eq.trans (b := .ok (decide (x.Blank = y.Blank) && (decide (x.Data = y.Data) && (decide (x.Roots = y.Roots) && (decide (x.Torn = y.Torn) && (decide (x.Lost = y.Lost) && true))))) w) ?_ ?_
  · exact (eqF_cons (n := 0) (A := A) (off := 0) (β := Int) (a := x.Blank) (b := y.Blank) (by decide) rfl rfl (EqN.i64 Try.underlying3) (by rw [h1]; decide) (by rw [h2]; decide) (Fld.rd (α := Tally) (off := 0) hx) (Fld.rd (α := Tally) (off := 0) hy) (eqF_cons (n := 0) (A := A) (off := 1) (β := Int) (a := x.Data) (b := y.Data) (by decide) rfl rfl (EqN.i64 Try.underlying3) (by rw [h1]; decide) (by rw [h2]; decide) (Fld.rd (α := Tally) (off := 1) hx) (Fld.rd (α := Tally) (off := 1) hy) (eqF_cons (n := 0) (A := A) (off := 2) (β := Int) (a := x.Roots) (b := y.Roots) (by decide) rfl rfl (EqN.i64 Try.underlying3) (by rw [h1]; decide) (by rw [h2]; decide) (Fld.rd (α := Tally) (off := 2) hx) (Fld.rd (α := Tally) (off := 2) hy) (eqF_cons (n := 0) (A := A) (off := 3) (β := Int) (a := x.Torn) (b := y.Torn) (by decide) rfl rfl (EqN.i64 Try.underlying3) (by rw [h1]; decide) (by rw [h2]; decide) (Fld.rd (α := Tally) (off := 3) hx) (Fld.rd (α := Tally) (off := 3) hy) (eqF_cons (n := 0) (A := A) (off := 4) (β := Int) (a := x.Lost) (b := y.Lost) (by decide) rfl rfl (EqN.i64 Try.underlying3) (by rw [h1]; decide) (by rw [h2]; decide) (Fld.rd (α := Tally) (off := 4) hx) (Fld.rd (α := Tally) (off := 4) hy) eqF_nil)))))
  congr 1
  cases x; cases y
  rw [Bool.eq_iff_iff]; simp
theorem EqG_91 : Try.prog.eqGuardType Try.prog.depth 91 = false := by decide +kernel
theorem EqV_106 : EqN Try.prog 106 Fault inferInstance 1 := EqN.struct Try.underlying106 (by decide +kernel) rfl fun {A} w d {cs ds x y} hx hy => by
  have h1 : cs.length = Dat.sz Fault := Dat.len hx
  have h2 : ds.length = Dat.sz Fault := Dat.len hy
  refine Eq.trans (b := .ok (decide (x.Op = y.Op) && (decide (x.Fail = y.Fail) && (decide (x.Cut = y.Cut) && (decide (x.Mask = y.Mask) && true)))) w) ?_ ?_
  · exact (eqF_cons (n := 0) (A := A) (off := 0) (β := Int) (a := x.Op) (b := y.Op) (by decide) rfl rfl (EqN.i64 Try.underlying3) (by rw [h1]; decide) (by rw [h2]; decide) (Fld.rd (α := Fault) (off := 0) hx) (Fld.rd (α := Fault) (off := 0) hy) (eqF_cons (n := 0) (A := A) (off := 1) (β := Bool) (a := x.Fail) (b := y.Fail) (by decide) rfl rfl (EqN.bool Try.underlying4) (by rw [h1]; decide) (by rw [h2]; decide) (Fld.rd (α := Fault) (off := 1) hx) (Fld.rd (α := Fault) (off := 1) hy) (eqF_cons (n := 0) (A := A) (off := 2) (β := Bool) (a := x.Cut) (b := y.Cut) (by decide) rfl rfl (EqN.bool Try.underlying4) (by rw [h1]; decide) (by rw [h2]; decide) (Fld.rd (α := Fault) (off := 2) hx) (Fld.rd (α := Fault) (off := 2) hy) (eqF_cons (n := 0) (A := A) (off := 3) (β := UInt8) (a := x.Mask) (b := y.Mask) (by decide) rfl rfl (EqN.u8 Try.underlying5) (by rw [h1]; decide) (by rw [h2]; decide) (Fld.rd (α := Fault) (off := 3) hx) (Fld.rd (α := Fault) (off := 3) hy) eqF_nil))))
  congr 1
  cases x; cases y
  rw [Bool.eq_iff_iff]; simp
theorem EqG_106 : Try.prog.eqGuardType Try.prog.depth 106 = false := by decide +kernel
instance : Fun Try.prog 3 := ⟨Try.call3⟩
instance : Fun Try.prog 4 := ⟨Try.call4⟩
instance : Fun Try.prog 5 := ⟨Try.call5⟩
instance : Fun Try.prog 6 := ⟨Try.call6⟩
instance : Fun Try.prog 7 := ⟨Try.call7⟩
instance : Fun Try.prog 8 := ⟨Try.call8⟩
instance : Fun Try.prog 9 := ⟨Try.call9⟩
instance : Fun Try.prog 10 := ⟨Try.call10⟩
instance : Fun Try.prog 11 := ⟨Try.call11⟩
instance : Fun Try.prog 12 := ⟨Try.call12⟩
instance : Fun Try.prog 13 := ⟨Try.call13⟩
instance : Fun Try.prog 14 := ⟨Try.call14⟩
instance : Fun Try.prog 15 := ⟨Try.call15⟩
instance : Fun Try.prog 16 := ⟨Try.call16⟩
instance : Fun Try.prog 17 := ⟨Try.call17⟩
instance : Fun Try.prog 18 := ⟨Try.call18⟩
instance : Fun Try.prog 19 := ⟨Try.call19⟩
instance : Fun Try.prog 20 := ⟨Try.call20⟩
instance : Fun Try.prog 21 := ⟨Try.call21⟩
instance : Fun Try.prog 22 := ⟨Try.call22⟩
instance : Fun Try.prog 23 := ⟨Try.call23⟩
instance : Fun Try.prog 24 := ⟨Try.call24⟩
instance : Fun Try.prog 25 := ⟨Try.call25⟩
instance : Fun Try.prog 26 := ⟨Try.call26⟩
instance : Fun Try.prog 27 := ⟨Try.call27⟩
instance : Fun Try.prog 28 := ⟨Try.call28⟩
instance : Fun Try.prog 29 := ⟨Try.call29⟩
instance : Fun Try.prog 30 := ⟨Try.call30⟩
instance : Fun Try.prog 31 := ⟨Try.call31⟩
instance : Fun Try.prog 32 := ⟨Try.call32⟩
instance : Fun Try.prog 33 := ⟨Try.call33⟩
instance : Fun Try.prog 34 := ⟨Try.call34⟩
instance : Fun Try.prog 35 := ⟨Try.call35⟩
instance : Fun Try.prog 36 := ⟨Try.call36⟩
instance : Fun Try.prog 37 := ⟨Try.call37⟩
instance : Fun Try.prog 38 := ⟨Try.call38⟩
instance : Fun Try.prog 39 := ⟨Try.call39⟩
instance : Fun Try.prog 40 := ⟨Try.call40⟩
instance : Fun Try.prog 41 := ⟨Try.call41⟩
instance : Fun Try.prog 42 := ⟨Try.call42⟩
instance : Fun Try.prog 43 := ⟨Try.call43⟩
instance : Fun Try.prog 44 := ⟨Try.call44⟩
instance : Fun Try.prog 45 := ⟨Try.call45⟩
instance : Fun Try.prog 46 := ⟨Try.call46⟩
instance : Fun Try.prog 47 := ⟨Try.call47⟩
instance : Fun Try.prog 48 := ⟨Try.call48⟩
instance : Fun Try.prog 49 := ⟨Try.call49⟩
instance : Fun Try.prog 50 := ⟨Try.call50⟩
instance : Fun Try.prog 51 := ⟨Try.call51⟩
instance : Fun Try.prog 52 := ⟨Try.call52⟩
instance : Fun Try.prog 53 := ⟨Try.call53⟩
instance : Fun Try.prog 54 := ⟨Try.call54⟩
instance : Fun Try.prog 55 := ⟨Try.call55⟩
instance : Fun Try.prog 56 := ⟨Try.call56⟩
instance : Fun Try.prog 57 := ⟨Try.call57⟩
instance : Fun Try.prog 58 := ⟨Try.call58⟩
instance : Fun Try.prog 59 := ⟨Try.call59⟩
instance : Fun Try.prog 60 := ⟨Try.call60⟩
instance : Fun Try.prog 61 := ⟨Try.call61⟩
instance : Fun Try.prog 62 := ⟨Try.call62⟩
instance : Fun Try.prog 63 := ⟨Try.call63⟩
instance : Fun Try.prog 64 := ⟨Try.call64⟩
instance : Fun Try.prog 65 := ⟨Try.call65⟩
instance : Fun Try.prog 66 := ⟨Try.call66⟩
instance : Fun Try.prog 67 := ⟨Try.call67⟩
instance : Fun Try.prog 68 := ⟨Try.call68⟩
instance : Fun Try.prog 69 := ⟨Try.call69⟩
instance : Fun Try.prog 70 := ⟨Try.call70⟩
instance : Fun Try.prog 71 := ⟨Try.call71⟩
instance : Fun Try.prog 72 := ⟨Try.call72⟩
instance : Fun Try.prog 73 := ⟨Try.call73⟩
instance : Fun Try.prog 74 := ⟨Try.call74⟩
instance : Fun Try.prog 75 := ⟨Try.call75⟩
instance : Fun Try.prog 76 := ⟨Try.call76⟩
instance : Fun Try.prog 77 := ⟨Try.call77⟩
instance : Fun Try.prog 78 := ⟨Try.call78⟩
instance : Fun Try.prog 79 := ⟨Try.call79⟩
instance : Fun Try.prog 80 := ⟨Try.call80⟩
instance : Fun Try.prog 81 := ⟨Try.call81⟩
instance : Fun Try.prog 82 := ⟨Try.call82⟩
instance : Fun Try.prog 83 := ⟨Try.call83⟩
instance : Fun Try.prog 84 := ⟨Try.call84⟩
instance : Fun Try.prog 85 := ⟨Try.call85⟩
instance : Fun Try.prog 86 := ⟨Try.call86⟩
instance : Fun Try.prog 87 := ⟨Try.call87⟩
instance : Fun Try.prog 88 := ⟨Try.call88⟩
instance : Fun Try.prog 89 := ⟨Try.call89⟩
instance : Fun Try.prog 90 := ⟨Try.call90⟩
instance : Fun Try.prog 91 := ⟨Try.call91⟩
instance : Fun Try.prog 92 := ⟨Try.call92⟩
instance : Fun Try.prog 93 := ⟨Try.call93⟩
instance : Fun Try.prog 94 := ⟨Try.call94⟩
instance : Fun Try.prog 95 := ⟨Try.call95⟩
instance : Fun Try.prog 96 := ⟨Try.call96⟩
instance : Fun Try.prog 97 := ⟨Try.call97⟩
instance : Fun Try.prog 98 := ⟨Try.call98⟩
instance : Fun Try.prog 99 := ⟨Try.call99⟩
instance : Fun Try.prog 100 := ⟨Try.call100⟩
instance : Fun Try.prog 101 := ⟨Try.call101⟩
instance : Fun Try.prog 102 := ⟨Try.call102⟩
instance : Fun Try.prog 103 := ⟨Try.call103⟩
instance : Fun Try.prog 104 := ⟨Try.call104⟩
instance : Fun Try.prog 105 := ⟨Try.call105⟩
instance : Fun Try.prog 106 := ⟨Try.call106⟩
instance : Fun Try.prog 107 := ⟨Try.call107⟩
instance : Fun Try.prog 108 := ⟨Try.call108⟩
instance : Fun Try.prog 109 := ⟨Try.call109⟩
instance : Fun Try.prog 110 := ⟨Try.call110⟩
instance : Fun Try.prog 111 := ⟨Try.call111⟩
instance : Fun Try.prog 112 := ⟨Try.call112⟩
instance : Fun Try.prog 113 := ⟨Try.call113⟩
instance : Fun Try.prog 114 := ⟨Try.call114⟩
instance : Fun Try.prog 115 := ⟨Try.call115⟩
instance : Fun Try.prog 116 := ⟨Try.call116⟩
instance : Fun Try.prog 117 := ⟨Try.call117⟩
instance : Fun Try.prog 118 := ⟨Try.call118⟩
instance : Fun Try.prog 119 := ⟨Try.call119⟩
instance : Fun Try.prog 120 := ⟨Try.call120⟩
instance : Fun Try.prog 121 := ⟨Try.call121⟩
instance : Fun Try.prog 122 := ⟨Try.call122⟩
instance : Fun Try.prog 123 := ⟨Try.call123⟩
instance : Fun Try.prog 124 := ⟨Try.call124⟩
end Go.Proofs.Ytfdmajkeihdhnaa.Tr
