/- Part 2 of what the proof rests on: VcKeep, Mem, Kit, Data, VcCode, VcSlices. No condition. -/
import Derived.Deep.AppendSrc
import Derived.Deep.Upon
import Derived.Laws.CopyRow
import Derived.Laws.MakeOwn
import Derived.IntWalk
import Derived.Test.YtbedadcbbnmpkaaGreatDoorAa
set_option linter.unusedSimpArgs false
set_option linter.unusedVariables false
namespace Go.Proofs.YtbedadcbbnmpkaaGreatDoor
open Go Vc
section
variable {w : World} {R : Ending -> World -> Prop}
def vZ1 (t : Nat) (w : World) (R : Value -> World -> Prop) : Prop :=
 newB w #[.slice none 0 0,.slice none 0 0,.slice none 0 0,.slice none 0 0,.int .i64 0] T.api_Unit fun b u =>
 Calls P F.Ze #[] u fun en u1 => ∃ px nx cx,en = .returned (.slice px nx cx) /\
 newB u1 #[.slice none 0 0,.slice none 0 0,.slice none 0 0,.slice none 0 0,.int .i64 0] T.api_Unit fun b1 u2 =>
 stores u2 b1 0 [.slice px nx cx,.slice none 0 0,.slice none 0 0,.slice none 0 0,.int .i64 6] fun u3 =>
 newB u3 #[.string (⟨#[66,108,111,99,107]⟩ : ByteArray),.int .i64 (-1),.int .i64 4,.slice none 0 0,.string (⟨#[65,114,114,97,121]⟩ : ByteArray),.int .i64 (-1),.int .i64 0,.slice none 0 0] T.api_Class fun b2 u4 =>
 stores u4 b1 1 [.slice (some ⟨b2,0,none⟩) 2 2] fun u5 =>
 ∃ (I : Int -> World -> Prop) (μ : Int -> World -> Nat),I 0 u5 /\
 ∀ (t1 : Int) (u6 : World),I t1 u6 ->
 Calls P F.Zf #[.pointer (some ⟨t,0,none⟩),.int .i64 3] u6 fun en u7 => ∃ x,en = .returned (.int .i64 x) /\
 br (decide (t1 <= x)) (
 chk (decide ((⟨#[67]⟩ : ByteArray).size + (Utf8.encode (IntKind.wrap .i32 (IntKind.wrap .i64 (48 + t1)))).size <= 9223372036854775807)) (
 Calls P F.Zf #[.pointer (some ⟨t,0,none⟩),.int .i64 4] u7 fun en u8 => ∃ x1,en = .returned (.int .i64 x1) /\
 newB u8 #[.string (⟨#[]⟩ : ByteArray),.int .i64 0,.int .i64 0,.slice none 0 0] T.api_Class fun b3 u9 =>
 stores u9 b3 0 [.string ((⟨#[67]⟩ : ByteArray) ++ (Utf8.encode (IntKind.wrap .i32 (IntKind.wrap .i64 (48 + t1))))),.int .i64 (-1),.int .i64 x1,.slice none 0 0] fun u10 =>
 join (fun (t2 : Unit) (u11 : World) =>
 ∃ px1 nx1 cx1,u11.cell? ⟨b1,1,none⟩ = some (.slice px1 nx1 cx1) /\
 ∃ x0 x11 x2 px3 nx3 cx3,holds u11 b3 0 [.string x0,.int .i64 x11,.int .i64 x2,.slice px3 nx3 cx3] /\
 newB u11 #[.string x0,.int .i64 x11,.int .i64 x2,.slice px3 nx3 cx3] T.api_Class fun b4 u12 =>
 ∃ px2 nx2 cx2 u13,(Builtin.append_ #[T.sl_api_Class,T.sl_api_Class] T.sl_api_Class #[.slice px1 nx1 cx1,.slice (some ⟨b4,0,none⟩) 1 1]).run P u12 = .ok (.slice px2 nx2 cx2) u13 /\ Aft u12 u13 /\
 stores u13 b1 1 [.slice px2 nx2 cx2] fun u14 =>
 I (IntKind.wrap .i64 (t1 + 1)) u14 /\ μ (IntKind.wrap .i64 (t1 + 1)) u14 < μ t1 u6) fun J10 =>
 br (decide (0 < t1)) (
 Calls P F.Zf #[.pointer (some ⟨t,0,none⟩),.int .i64 2] u10 fun en u15 => ∃ x3,en = .returned (.int .i64 x3) /\
 br (decide (x3 = 0)) (
 Calls P F.Zf #[.pointer (some ⟨t,0,none⟩),.int .i64 t1] u15 fun en u16 => ∃ x4,en = .returned (.int .i64 x4) /\
 stores u16 b3 1 [.int .i64 (IntKind.wrap .i64 (2 + x4))] fun u17 =>
 wv u17.drew fun u18 =>
 ∃ px4 nx4 cx4,u18.cell? ⟨b1,1,none⟩ = some (.slice px4 nx4 cx4) /\
 ∃ x5,u18.cell? ⟨b3,1,none⟩ = some (.int .i64 x5) /\
 chk (decide (0 <= x5) && decide (x5 < (nx4 : Int))) (
 onPtr px4 fun g o =>
 ∃ x6,u18.cell? ⟨g,o + x5.toNat * 4 + 2,none⟩ = some (.int .i64 x6) /\
 Calls P F.Zf #[.pointer (some ⟨t,0,none⟩),.int .i64 3] u18 fun en u19 => ∃ x7,en = .returned (.int .i64 x7) /\
 ((u19.cell? ⟨g,o + x5.toNat * 4 + 2,none⟩ = some (.int .i64 x6)) /\ (u19.cell? ⟨b3,1,none⟩ = some (.int .i64 x5)) /\ (u19.cell? ⟨b1,1,none⟩ = some (.slice px4 nx4 cx4)) /\ True) /\
 stores u19 b3 2 [.int .i64 (IntKind.wrap .i64 (x6 + x7))] fun u20 =>
 True /\
 J10 () u20)) (
 J10 () u15)) (
 J10 () u10))) (
 Calls P F.Ze #[] u7 fun en u21 => ∃ px5 nx5 cx5,en = .returned (.slice px5 nx5 cx5) /\
 ∃ (I1 : Int -> World -> Prop) (μ1 : Int -> World -> Nat),I1 0 u21 /\
 ∀ (t3 : Int) (u22 : World),I1 t3 u22 ->
 br (decide (t3 < (nx5 : Int))) (
 wv u22.drew fun u23 =>
 ∃ px6 nx6 cx6,u23.cell? ⟨b1,2,none⟩ = some (.slice px6 nx6 cx6) /\
 ∃ px7 nx7 cx7,u23.cell? ⟨b1,1,none⟩ = some (.slice px7 nx7 cx7) /\
 Calls P F.Zh #[.int .i64 t3] u23 fun en u24 => ∃ x8,en = .returned (.int .i64 x8) /\
 ((u24.cell? ⟨b1,1,none⟩ = some (.slice px7 nx7 cx7)) /\ (u24.cell? ⟨b1,2,none⟩ = some (.slice px6 nx6 cx6)) /\ True) /\
 Calls P F.Zg #[.pointer (some ⟨t,0,none⟩),.int .i64 x8,.int .i64 (nx7 : Int),.bool false] u24 fun en u25 => ∃ x01 x12 px21 nx21 cx21 px31 nx31 cx31,en = .returned (.agg #[.int .i64 x01,.int .i64 x12,.slice px21 nx21 cx21,.slice px31 nx31 cx31]) /\
 ((u25.cell? ⟨b1,1,none⟩ = some (.slice px7 nx7 cx7)) /\ (u25.cell? ⟨b1,2,none⟩ = some (.slice px6 nx6 cx6)) /\ True) /\
 newB u25 #[.int .i64 x01,.int .i64 x12,.slice px21 nx21 cx21,.slice px31 nx31 cx31] T.api_Method fun b5 u26 =>
 ((u26.cell? ⟨b1,1,none⟩ = some (.slice px7 nx7 cx7)) /\ (u26.cell? ⟨b1,2,none⟩ = some (.slice px6 nx6 cx6)) /\ True) /\
 ∃ px8 nx8 cx8 u27,(Builtin.append_ #[T.sl_api_Method,T.sl_api_Method] T.sl_api_Method #[.slice px6 nx6 cx6,.slice (some ⟨b5,0,none⟩) 1 1]).run P u26 = .ok (.slice px8 nx8 cx8) u27 /\ Aft u26 u27 /\
 ((u27.cell? ⟨b1,1,none⟩ = some (.slice px7 nx7 cx7)) /\ True) /\
 stores u27 b1 2 [.slice px8 nx8 cx8] fun u28 =>
 True /\
 I1 (IntKind.wrap .i64 (t3 + 1)) u28 /\ μ1 (IntKind.wrap .i64 (t3 + 1)) u28 < μ1 t3 u22) (
 wv u22.drew fun u29 =>
 ∃ px9 nx9 cx9,u29.cell? ⟨b1,2,none⟩ = some (.slice px9 nx9 cx9) /\
 ∃ px10 nx10 cx10,u29.cell? ⟨b1,1,none⟩ = some (.slice px10 nx10 cx10) /\
 ∃ px11 nx11 cx11,u29.cell? ⟨b1,1,none⟩ = some (.slice px11 nx11 cx11) /\
 ∃ px12 nx12 cx12,u29.cell? ⟨b1,1,none⟩ = some (.slice px12 nx12 cx12) /\
 Calls P F.Zg #[.pointer (some ⟨t,0,none⟩),.int .i64 0,.int .i64 (nx10 : Int),.bool false] u29 fun en u30 => ∃ x02 x13 px22 nx22 cx22 px32 nx32 cx32,en = .returned (.agg #[.int .i64 x02,.int .i64 x13,.slice px22 nx22 cx22,.slice px32 nx32 cx32]) /\
 ((u30.cell? ⟨b1,1,none⟩ = some (.slice px12 nx12 cx12)) /\ (u30.cell? ⟨b1,1,none⟩ = some (.slice px11 nx11 cx11)) /\ (u30.cell? ⟨b1,1,none⟩ = some (.slice px10 nx10 cx10)) /\ (u30.cell? ⟨b1,2,none⟩ = some (.slice px9 nx9 cx9)) /\ True) /\
 Calls P F.Zg #[.pointer (some ⟨t,0,none⟩),.int .i64 0,.int .i64 (nx11 : Int),.bool true] u30 fun en u31 => ∃ x03 x14 px23 nx23 cx23 px33 nx33 cx33,en = .returned (.agg #[.int .i64 x03,.int .i64 x14,.slice px23 nx23 cx23,.slice px33 nx33 cx33]) /\
 ((u31.cell? ⟨b1,1,none⟩ = some (.slice px12 nx12 cx12)) /\ (u31.cell? ⟨b1,1,none⟩ = some (.slice px11 nx11 cx11)) /\ (u31.cell? ⟨b1,1,none⟩ = some (.slice px10 nx10 cx10)) /\ (u31.cell? ⟨b1,2,none⟩ = some (.slice px9 nx9 cx9)) /\ True) /\
 Calls P F.Zg #[.pointer (some ⟨t,0,none⟩),.int .i64 1,.int .i64 (nx12 : Int),.bool true] u31 fun en u32 => ∃ x04 x15 px24 nx24 cx24 px34 nx34 cx34,en = .returned (.agg #[.int .i64 x04,.int .i64 x15,.slice px24 nx24 cx24,.slice px34 nx34 cx34]) /\
 ((u32.cell? ⟨b1,1,none⟩ = some (.slice px12 nx12 cx12)) /\ (u32.cell? ⟨b1,1,none⟩ = some (.slice px11 nx11 cx11)) /\ (u32.cell? ⟨b1,1,none⟩ = some (.slice px10 nx10 cx10)) /\ (u32.cell? ⟨b1,2,none⟩ = some (.slice px9 nx9 cx9)) /\ True) /\
 newB u32 #[.int .i64 x02,.int .i64 x13,.slice px22 nx22 cx22,.slice px32 nx32 cx32,.int .i64 x03,.int .i64 x14,.slice px23 nx23 cx23,.slice px33 nx33 cx33,.int .i64 x04,.int .i64 x15,.slice px24 nx24 cx24,.slice px34 nx34 cx34] T.api_Method fun b6 u33 =>
 ((u33.cell? ⟨b1,1,none⟩ = some (.slice px12 nx12 cx12)) /\ (u33.cell? ⟨b1,1,none⟩ = some (.slice px11 nx11 cx11)) /\ (u33.cell? ⟨b1,1,none⟩ = some (.slice px10 nx10 cx10)) /\ (u33.cell? ⟨b1,2,none⟩ = some (.slice px9 nx9 cx9)) /\ True) /\
 ∃ px13 nx13 cx13 u34,(Builtin.append_ #[T.sl_api_Method,T.sl_api_Method] T.sl_api_Method #[.slice px9 nx9 cx9,.slice (some ⟨b6,0,none⟩) 3 3]).run P u33 = .ok (.slice px13 nx13 cx13) u34 /\ Aft u33 u34 /\
 ((u34.cell? ⟨b1,1,none⟩ = some (.slice px12 nx12 cx12)) /\ (u34.cell? ⟨b1,1,none⟩ = some (.slice px11 nx11 cx11)) /\ (u34.cell? ⟨b1,1,none⟩ = some (.slice px10 nx10 cx10)) /\ True) /\
 stores u34 b1 2 [.slice px13 nx13 cx13] fun u35 =>
 True /\
 ∃ (I2 : Int -> World -> Prop) (μ2 : Int -> World -> Nat),I2 1 u35 /\
 ∀ (t4 : Int) (u36 : World),I2 t4 u36 ->
 ∃ px14 nx14 cx14,u36.cell? ⟨b1,1,none⟩ = some (.slice px14 nx14 cx14) /\
 br (decide (t4 < (nx14 : Int))) (
 Calls P F.Ze #[] u36 fun en u37 => ∃ px15 nx15 cx15,en = .returned (.slice px15 nx15 cx15) /\
 ∃ (I3 : Int -> World -> Prop) (μ3 : Int -> World -> Nat),I3 0 u37 /\
 ∀ (t5 : Int) (u38 : World),I3 t5 u38 ->
 br (decide (t5 < (nx15 : Int))) (
 Calls P F.Zf #[.pointer (some ⟨t,0,none⟩),.int .i64 3] u38 fun en u39 => ∃ x9,en = .returned (.int .i64 x9) /\
 br (decide (0 < x9)) (
 wv u39.drew fun u40 =>
 ∃ px16 nx16 cx16,u40.cell? ⟨b1,1,none⟩ = some (.slice px16 nx16 cx16) /\
 ∃ px17 nx17 cx17,u40.cell? ⟨b1,1,none⟩ = some (.slice px17 nx17 cx17) /\
 chk (decide (0 <= t4) && decide (t4 < (nx17 : Int))) (
 onPtr px17 fun g1 o1 =>
 ∃ px18 nx18 cx18,u40.cell? ⟨g1,o1 + t4.toNat * 4 + 3,none⟩ = some (.slice px18 nx18 cx18) /\
 newB u40 #[.int .i64 t5,.int .i64 t5] T.api_Bind fun b7 u41 =>
 ((u41.cell? ⟨g1,o1 + t4.toNat * 4 + 3,none⟩ = some (.slice px18 nx18 cx18)) /\ (u41.cell? ⟨b1,1,none⟩ = some (.slice px17 nx17 cx17)) /\ (u41.cell? ⟨b1,1,none⟩ = some (.slice px16 nx16 cx16)) /\ True) /\
 ∃ px19 nx19 cx19 u42,(Builtin.append_ #[T.sl_api_Bind,T.sl_api_Bind] T.sl_api_Bind #[.slice px18 nx18 cx18,.slice (some ⟨b7,0,none⟩) 1 1]).run P u41 = .ok (.slice px19 nx19 cx19) u42 /\ Aft u41 u42 /\
 ((u42.cell? ⟨b1,1,none⟩ = some (.slice px17 nx17 cx17)) /\ (u42.cell? ⟨b1,1,none⟩ = some (.slice px16 nx16 cx16)) /\ True) /\
 chk (decide (0 <= t4) && decide (t4 < (nx16 : Int))) (
 onPtr px16 fun g2 o2 =>
 stores u42 g2 (o2 + t4.toNat * 4 + 3) [.slice px19 nx19 cx19] fun u43 =>
 True /\
 I3 (IntKind.wrap .i64 (t5 + 1)) u43 /\ μ3 (IntKind.wrap .i64 (t5 + 1)) u43 < μ3 t5 u38))) (
 I3 (IntKind.wrap .i64 (t5 + 1)) u39 /\ μ3 (IntKind.wrap .i64 (t5 + 1)) u39 < μ3 t5 u38)) (
 I2 (IntKind.wrap .i64 (t4 + 1)) u38 /\ μ2 (IntKind.wrap .i64 (t4 + 1)) u38 < μ2 t4 u36)) (
 Calls P F.Zf #[.pointer (some ⟨t,0,none⟩),.int .i64 5] u36 fun en u44 => ∃ x10,en = .returned (.int .i64 x10) /\
 ∃ (I4 : Int -> World -> Prop) (μ4 : Int -> World -> Nat),I4 0 u44 /\
 ∀ (t6 : Int) (u45 : World),I4 t6 u45 ->
 br (decide (t6 < IntKind.wrap .i64 (1 + x10))) (
 ∃ px20 nx20 cx20,u45.cell? ⟨b1,1,none⟩ = some (.slice px20 nx20 cx20) /\
 Calls P F.Zf #[.pointer (some ⟨t,0,none⟩),.int .i64 (IntKind.wrap .i64 ((nx20 : Int) - 2))] u45 fun en u46 => ∃ x16,en = .returned (.int .i64 x16) /\
 newB u46 #[.int .i64 0,.slice none 0 0] T.api_Obj fun b8 u47 =>
 stores u47 b8 0 [.int .i64 (IntKind.wrap .i64 (2 + x16)),.slice none 0 0] fun u48 =>
 ∃ px25 nx25 cx25,u48.cell? ⟨b1,1,none⟩ = some (.slice px25 nx25 cx25) /\
 ∃ x17,u48.cell? ⟨b8,0,none⟩ = some (.int .i64 x17) /\
 chk (decide (0 <= x17) && decide (x17 < (nx25 : Int))) (
 onPtr px25 fun g3 o3 =>
 ∃ x18,u48.cell? ⟨g3,o3 + x17.toNat * 4 + 2,none⟩ = some (.int .i64 x18) /\
 join (fun (t7 : Int) (u49 : World) =>
 ∃ (I5 : Int -> World -> Prop) (μ5 : Int -> World -> Nat),I5 t7 u49 /\
 ∀ (t8 : Int) (u50 : World),I5 t8 u50 ->
 br (decide (0 < t8)) (
 wv u50.drew fun u51 =>
 ∃ px26 nx26 cx26,u51.cell? ⟨b8,1,none⟩ = some (.slice px26 nx26 cx26) /\
 Calls P F.Zf #[.pointer (some ⟨t,0,none⟩),.int .i64 900] u51 fun en u52 => ∃ x19,en = .returned (.int .i64 x19) /\
 ((u52.cell? ⟨b8,1,none⟩ = some (.slice px26 nx26 cx26)) /\ True) /\
 Calls P F.Zf #[.pointer (some ⟨t,0,none⟩),.int .i64 (IntKind.wrap .i64 (1 + x10))] u52 fun en u53 => ∃ x20,en = .returned (.int .i64 x20) /\
 ((u53.cell? ⟨b8,1,none⟩ = some (.slice px26 nx26 cx26)) /\ True) /\
 (newB u53 #[.int .i64 0,.int .i64 0,.int .i64 1,.int .i64 0,.int .i64 2,.int .i64 0,.int .i64 3,.int .i64 (IntKind.wrap .i64 (x19 - 400)),.int .i64 4,.int .i64 x20] T.api_Val fun b9 u54 =>
 ((u54.cell? ⟨b8,1,none⟩ = some (.slice px26 nx26 cx26)) /\ True) /\
 Calls P F.Zf #[.pointer (some ⟨t,0,none⟩),.int .i64 5] u54 fun en u55 => ∃ x21,en = .returned (.int .i64 x21) /\
 ((u55.cell? ⟨b8,1,none⟩ = some (.slice px26 nx26 cx26)) /\ True) /\
 chk (decide (0 <= x21) && decide (x21 < 5)) (
 ∃ x05 x110,holds u55 b9 (0 + x21.toNat * 2) [.int .i64 x05,.int .i64 x110] /\
 newB u55 #[.int .i64 x05,.int .i64 x110] T.api_Val fun b10 u56 =>
 ((u56.cell? ⟨b8,1,none⟩ = some (.slice px26 nx26 cx26)) /\ True) /\
 ∃ px27 nx27 cx27 u57,(Builtin.append_ #[T.sl_api_Val,T.sl_api_Val] T.sl_api_Val #[.slice px26 nx26 cx26,.slice (some ⟨b10,0,none⟩) 1 1]).run P u56 = .ok (.slice px27 nx27 cx27) u57 /\ Aft u56 u57 /\
 True /\
 stores u57 b8 1 [.slice px27 nx27 cx27] fun u58 =>
 True /\
 I5 (IntKind.wrap .i64 (t8 - 1)) u58 /\ μ5 (IntKind.wrap .i64 (t8 - 1)) u58 < μ5 t8 u50)) /\ (Calls P F.Zf #[.pointer (some ⟨t,0,none⟩),.int .i64 5] u53 fun en u59 => ∃ x22,en = .returned (.int .i64 x22) /\
 ((u59.cell? ⟨b8,1,none⟩ = some (.slice px26 nx26 cx26)) /\ True) /\
 newB u59 #[.int .i64 0,.int .i64 0,.int .i64 1,.int .i64 0,.int .i64 2,.int .i64 0,.int .i64 3,.int .i64 (IntKind.wrap .i64 (x19 - 400)),.int .i64 4,.int .i64 x20] T.api_Val fun b11 u60 =>
 ((u60.cell? ⟨b8,1,none⟩ = some (.slice px26 nx26 cx26)) /\ True) /\
 chk (decide (0 <= x22) && decide (x22 < 5)) (
 ∃ x06 x111,holds u60 b11 (0 + x22.toNat * 2) [.int .i64 x06,.int .i64 x111] /\
 newB u60 #[.int .i64 x06,.int .i64 x111] T.api_Val fun b12 u61 =>
 ((u61.cell? ⟨b8,1,none⟩ = some (.slice px26 nx26 cx26)) /\ True) /\
 ∃ px28 nx28 cx28 u62,(Builtin.append_ #[T.sl_api_Val,T.sl_api_Val] T.sl_api_Val #[.slice px26 nx26 cx26,.slice (some ⟨b12,0,none⟩) 1 1]).run P u61 = .ok (.slice px28 nx28 cx28) u62 /\ Aft u61 u62 /\
 True /\
 stores u62 b8 1 [.slice px28 nx28 cx28] fun u63 =>
 True /\
 I5 (IntKind.wrap .i64 (t8 - 1)) u63 /\ μ5 (IntKind.wrap .i64 (t8 - 1)) u63 < μ5 t8 u50))) (
 ∃ px29 nx29 cx29,u50.cell? ⟨b1,3,none⟩ = some (.slice px29 nx29 cx29) /\
 ∃ x07 px110 nx110 cx110,holds u50 b8 0 [.int .i64 x07,.slice px110 nx110 cx110] /\
 newB u50 #[.int .i64 x07,.slice px110 nx110 cx110] T.api_Obj fun b13 u64 =>
 ∃ px30 nx30 cx30 u65,(Builtin.append_ #[T.sl_api_Obj,T.sl_api_Obj] T.sl_api_Obj #[.slice px29 nx29 cx29,.slice (some ⟨b13,0,none⟩) 1 1]).run P u64 = .ok (.slice px30 nx30 cx30) u65 /\ Aft u64 u65 /\
 stores u65 b1 3 [.slice px30 nx30 cx30] fun u66 =>
 I4 (IntKind.wrap .i64 (t6 + 1)) u66 /\ μ4 (IntKind.wrap .i64 (t6 + 1)) u66 < μ4 t6 u45)) fun J34 =>
 br (decide (0 < t6)) (
 Calls P F.Zf #[.pointer (some ⟨t,0,none⟩),.int .i64 3] u48 fun en u67 => ∃ x23,en = .returned (.int .i64 x23) /\
 br (decide (x23 = 0)) (
 Calls P F.Zf #[.pointer (some ⟨t,0,none⟩),.int .i64 9] u67 fun en u68 => ∃ x24,en = .returned (.int .i64 x24) /\
 stores u68 b8 0 [.int .i64 1] fun u69 =>
 J34 x24 u69) (
 J34 x18 u67)) (
 J34 x18 u48))) (
 ∃ px0 nx0 cx0 px111 nx111 cx111 px210 nx210 cx210 px35 nx35 cx35 x41,holds u45 b1 0 [.slice px0 nx0 cx0,.slice px111 nx111 cx111,.slice px210 nx210 cx210,.slice px35 nx35 cx35,.int .i64 x41] /\
 stores u45 b 0 [.slice px0 nx0 cx0,.slice px111 nx111 cx111,.slice px210 nx210 cx210,.slice px35 nx35 cx35,.int .i64 x41] fun u70 =>
 ∃ pr0 nr0 cr0 pr1 nr1 cr1 pr2 nr2 cr2 pr3 nr3 cr3 r4,holds u70 b 0 [.slice pr0 nr0 cr0,.slice pr1 nr1 cr1,.slice pr2 nr2 cr2,.slice pr3 nr3 cr3,.int .i64 r4] /\
 R (.agg #[.slice pr0 nr0 cr0,.slice pr1 nr1 cr1,.slice pr2 nr2 cr2,.slice pr3 nr3 cr3,.int .i64 r4]) u70))))
theorem oZ1 {t : Nat} (h : vZ1 t w fun v w' => R (.returned v) w') : Calls P F.Z1 #[.pointer (some ⟨t,0,none⟩)] w R :=
 calls_of_eq (A := ⟨[(4,[(4,(.int .i64))]),(12,[(64,(.int .i64))]),(18,[(7,(.int .i64))]),(21,[(109,(.int .i64))]),(28,[(10,(.int .i64))]),(34,[(12,(.int .i64))])],[(10,[]),(34,[(12,(.int .i64))])]⟩) mixed Tryz.func4 (by kernel_rfl) (by kernel_rfl) h
def vZe  (w : World) (R : Value -> World -> Prop) : Prop :=
 newB w #[.string (⟨#[103,111]⟩ : ByteArray),.string (⟨#[100,111,58]⟩ : ByteArray),.string (⟨#[43]⟩ : ByteArray),.string (⟨#[97,116,58,112,117,116,58]⟩ : ByteArray),.string (⟨#[120]⟩ : ByteArray),.string (⟨#[121,57]⟩ : ByteArray)] T.string fun b u =>
 R (.slice (some ⟨b,0,none⟩) 6 6) u
theorem oZe  (h : vZe  w fun v w' => R (.returned v) w') : Calls P F.Ze #[] w R :=
 calls_of_eq (A := ⟨[],[]⟩) mixed Tryz.func17 (by kernel_rfl) (by kernel_rfl) h
def vZf (t : Nat) (n : Int) (w : World) (R : Value -> World -> Prop) : Prop :=
 join (fun (t1 : Unit) (u : World) =>
 ∃ x,u.cell? ⟨t,1,none⟩ = some (.int .i64 x) /\
 stores u t 1 [.int .i64 (IntKind.wrap .i64 (x + 1))] fun u1 =>
 wv u1.drew fun u2 =>
 ∃ px nx cx,u2.cell? ⟨t,0,none⟩ = some (.slice px nx cx) /\
 ∃ x1,u2.cell? ⟨t,1,none⟩ = some (.int .i64 x1) /\
 chk (decide (0 <= IntKind.wrap .i64 (x1 - 1)) && decide (IntKind.wrap .i64 (x1 - 1) < (nx : Int))) (
 onPtr px fun g o =>
 ∃ x2,u2.cell? ⟨g,o + (IntKind.wrap .i64 (x1 - 1)).toNat * 1,none⟩ = some (.int .i64 x2) /\
 Calls P F.Z13 #[.int .i64 x2,.int .i64 0,.int .i64 1073741824] u2 fun en u3 => ∃ x3,en = .returned (.int .i64 x3) /\
 ((u3.cell? ⟨t,1,none⟩ = some (.int .i64 x1)) /\ (u3.cell? ⟨t,0,none⟩ = some (.slice px nx cx)) /\ True) /\
 chk (!(decide (n = 0))) (
 R (.int .i64 (Int.tmod x3 n)) u3))) fun J3 =>
 wv w.drew fun u4 =>
 ∃ x4,u4.cell? ⟨t,1,none⟩ = some (.int .i64 x4) /\
 ∃ px1 nx1 cx1,u4.cell? ⟨t,0,none⟩ = some (.slice px1 nx1 cx1) /\
 br (decide ((nx1 : Int) <= x4)) (
 R (.int .i64 0) u4) (
 br (decide (n < 1)) (
 R (.int .i64 0) u4) (
 J3 () u4))
theorem oZf {t : Nat} {n : Int} (h : vZf t n w fun v w' => R (.returned v) w') : Calls P F.Zf #[.pointer (some ⟨t,0,none⟩),.int .i64 n] w R :=
 calls_of_eq (A := ⟨[],[(3,[])]⟩) mixed Tryz.func18 (by kernel_rfl) (by kernel_rfl) h
def vZg (t : Nat) (args : Int) (classes : Int) (block : Bool) (w : World) (R : Value -> World -> Prop) : Prop :=
 newB w #[.int .i64 0,.int .i64 0,.slice none 0 0,.slice none 0 0] T.api_Method fun b u =>
 Calls P F.Z14 #[.pointer (some ⟨t,0,none⟩),.int .i64 classes] u fun en u1 => ∃ px nx cx,en = .returned (.slice px nx cx) /\
 newB u1 #[.int .i64 0,.int .i64 0,.slice none 0 0,.slice none 0 0] T.api_Method fun b1 u2 =>
 stores u2 b1 0 [.int .i64 args,.int .i64 2,.slice px nx cx,.slice none 0 0] fun u3 =>
 Calls P F.Zf #[.pointer (some ⟨t,0,none⟩),.int .i64 5] u3 fun en u4 => ∃ x,en = .returned (.int .i64 x) /\
 ∃ (I : Int -> World -> Prop) (μ : Int -> World -> Nat),I (IntKind.wrap .i64 (1 + x)) u4 /\
 ∀ (t1 : Int) (u5 : World),I t1 u5 ->
 br (decide (0 < t1)) (
 ∃ px1 nx1 cx1,u5.cell? ⟨b1,3,none⟩ = some (.slice px1 nx1 cx1) /\
 Calls P F.Z15 #[.pointer (some ⟨t,0,none⟩),.slice px1 nx1 cx1] u5 fun en u6 => ∃ px2 nx2 cx2,en = .returned (.slice px2 nx2 cx2) /\
 stores u6 b1 3 [.slice px2 nx2 cx2] fun u7 =>
 I (IntKind.wrap .i64 (t1 - 1)) u7 /\ μ (IntKind.wrap .i64 (t1 - 1)) u7 < μ t1 u5) (
 join (fun (t2 : Unit) (u8 : World) =>
 wv u8.drew fun u9 =>
 ∃ px3 nx3 cx3,u9.cell? ⟨b1,3,none⟩ = some (.slice px3 nx3 cx3) /\
 (newB u9 #[.int .i64 7,.int .i64 3,.int .i64 4,.int .i64 0] T.int fun b2 u10 =>
 ((u10.cell? ⟨b1,3,none⟩ = some (.slice px3 nx3 cx3)) /\ True) /\
 Calls P F.Zf #[.pointer (some ⟨t,0,none⟩),.int .i64 4] u10 fun en u11 => ∃ x1,en = .returned (.int .i64 x1) /\
 ((u11.cell? ⟨b1,3,none⟩ = some (.slice px3 nx3 cx3)) /\ True) /\
 chk (decide (0 <= x1) && decide (x1 < 4)) (
 ∃ x2,u11.cell? ⟨b2,0 + x1.toNat * 1,none⟩ = some (.int .i64 x2) /\
 Calls P F.Zf #[.pointer (some ⟨t,0,none⟩),.int .i64 2] u11 fun en u12 => ∃ x3,en = .returned (.int .i64 x3) /\
 ((u12.cell? ⟨b2,0 + x1.toNat * 1,none⟩ = some (.int .i64 x2)) /\ (u12.cell? ⟨b1,3,none⟩ = some (.slice px3 nx3 cx3)) /\ True) /\
 Calls P F.Z16 #[.slice px3 nx3 cx3,.int .i64 x2,.int .i64 x3] u12 fun en u13 => ∃ px4 nx4 cx4,en = .returned (.slice px4 nx4 cx4) /\
 True /\
 stores u13 b1 3 [.slice px4 nx4 cx4] fun u14 =>
 True /\
 join (fun (t3 : Int) (u15 : World) =>
 ∃ px5 nx5 cx5,u15.cell? ⟨b1,3,none⟩ = some (.slice px5 nx5 cx5) /\
 Calls P F.Z16 #[.slice px5 nx5 cx5,.int .i64 t3,.int .i64 0] u15 fun en u16 => ∃ px6 nx6 cx6,en = .returned (.slice px6 nx6 cx6) /\
 stores u16 b1 3 [.slice px6 nx6 cx6] fun u17 =>
 ∃ x0 x11 px21 nx21 cx21 px31 nx31 cx31,holds u17 b1 0 [.int .i64 x0,.int .i64 x11,.slice px21 nx21 cx21,.slice px31 nx31 cx31] /\
 stores u17 b 0 [.int .i64 x0,.int .i64 x11,.slice px21 nx21 cx21,.slice px31 nx31 cx31] fun u18 =>
 ∃ r0 r1 pr2 nr2 cr2 pr3 nr3 cr3,holds u18 b 0 [.int .i64 r0,.int .i64 r1,.slice pr2 nr2 cr2,.slice pr3 nr3 cr3] /\
 R (.agg #[.int .i64 r0,.int .i64 r1,.slice pr2 nr2 cr2,.slice pr3 nr3 cr3]) u18) fun J12 =>
 br block (
 Calls P F.Zf #[.pointer (some ⟨t,0,none⟩),.int .i64 3] u14 fun en u19 => ∃ x4,en = .returned (.int .i64 x4) /\
 br (decide (x4 = 0)) (
 J12 19 u19) (
 J12 14 u19)) (
 J12 14 u14))) /\ (Calls P F.Zf #[.pointer (some ⟨t,0,none⟩),.int .i64 4] u9 fun en u20 => ∃ x5,en = .returned (.int .i64 x5) /\
 ((u20.cell? ⟨b1,3,none⟩ = some (.slice px3 nx3 cx3)) /\ True) /\
 (newB u20 #[.int .i64 7,.int .i64 3,.int .i64 4,.int .i64 0] T.int fun b3 u21 =>
 ((u21.cell? ⟨b1,3,none⟩ = some (.slice px3 nx3 cx3)) /\ True) /\
 chk (decide (0 <= x5) && decide (x5 < 4)) (
 ∃ x6,u21.cell? ⟨b3,0 + x5.toNat * 1,none⟩ = some (.int .i64 x6) /\
 Calls P F.Zf #[.pointer (some ⟨t,0,none⟩),.int .i64 2] u21 fun en u22 => ∃ x7,en = .returned (.int .i64 x7) /\
 ((u22.cell? ⟨b3,0 + x5.toNat * 1,none⟩ = some (.int .i64 x6)) /\ (u22.cell? ⟨b1,3,none⟩ = some (.slice px3 nx3 cx3)) /\ True) /\
 Calls P F.Z16 #[.slice px3 nx3 cx3,.int .i64 x6,.int .i64 x7] u22 fun en u23 => ∃ px7 nx7 cx7,en = .returned (.slice px7 nx7 cx7) /\
 True /\
 stores u23 b1 3 [.slice px7 nx7 cx7] fun u24 =>
 True /\
 join (fun (t4 : Int) (u25 : World) =>
 ∃ px8 nx8 cx8,u25.cell? ⟨b1,3,none⟩ = some (.slice px8 nx8 cx8) /\
 Calls P F.Z16 #[.slice px8 nx8 cx8,.int .i64 t4,.int .i64 0] u25 fun en u26 => ∃ px9 nx9 cx9,en = .returned (.slice px9 nx9 cx9) /\
 stores u26 b1 3 [.slice px9 nx9 cx9] fun u27 =>
 ∃ x01 x12 px22 nx22 cx22 px32 nx32 cx32,holds u27 b1 0 [.int .i64 x01,.int .i64 x12,.slice px22 nx22 cx22,.slice px32 nx32 cx32] /\
 stores u27 b 0 [.int .i64 x01,.int .i64 x12,.slice px22 nx22 cx22,.slice px32 nx32 cx32] fun u28 =>
 ∃ r01 r11 pr21 nr21 cr21 pr31 nr31 cr31,holds u28 b 0 [.int .i64 r01,.int .i64 r11,.slice pr21 nr21 cr21,.slice pr31 nr31 cr31] /\
 R (.agg #[.int .i64 r01,.int .i64 r11,.slice pr21 nr21 cr21,.slice pr31 nr31 cr31]) u28) fun J12 =>
 br block (
 Calls P F.Zf #[.pointer (some ⟨t,0,none⟩),.int .i64 3] u24 fun en u29 => ∃ x8,en = .returned (.int .i64 x8) /\
 br (decide (x8 = 0)) (
 J12 19 u29) (
 J12 14 u29)) (
 J12 14 u24))) /\ (Calls P F.Zf #[.pointer (some ⟨t,0,none⟩),.int .i64 2] u20 fun en u30 => ∃ x9,en = .returned (.int .i64 x9) /\
 ((u30.cell? ⟨b1,3,none⟩ = some (.slice px3 nx3 cx3)) /\ True) /\
 newB u30 #[.int .i64 7,.int .i64 3,.int .i64 4,.int .i64 0] T.int fun b4 u31 =>
 ((u31.cell? ⟨b1,3,none⟩ = some (.slice px3 nx3 cx3)) /\ True) /\
 chk (decide (0 <= x5) && decide (x5 < 4)) (
 ∃ x10,u31.cell? ⟨b4,0 + x5.toNat * 1,none⟩ = some (.int .i64 x10) /\
 Calls P F.Z16 #[.slice px3 nx3 cx3,.int .i64 x10,.int .i64 x9] u31 fun en u32 => ∃ px10 nx10 cx10,en = .returned (.slice px10 nx10 cx10) /\
 True /\
 stores u32 b1 3 [.slice px10 nx10 cx10] fun u33 =>
 True /\
 join (fun (t5 : Int) (u34 : World) =>
 ∃ px11 nx11 cx11,u34.cell? ⟨b1,3,none⟩ = some (.slice px11 nx11 cx11) /\
 Calls P F.Z16 #[.slice px11 nx11 cx11,.int .i64 t5,.int .i64 0] u34 fun en u35 => ∃ px12 nx12 cx12,en = .returned (.slice px12 nx12 cx12) /\
 stores u35 b1 3 [.slice px12 nx12 cx12] fun u36 =>
 ∃ x02 x13 px23 nx23 cx23 px33 nx33 cx33,holds u36 b1 0 [.int .i64 x02,.int .i64 x13,.slice px23 nx23 cx23,.slice px33 nx33 cx33] /\
 stores u36 b 0 [.int .i64 x02,.int .i64 x13,.slice px23 nx23 cx23,.slice px33 nx33 cx33] fun u37 =>
 ∃ r02 r12 pr22 nr22 cr22 pr32 nr32 cr32,holds u37 b 0 [.int .i64 r02,.int .i64 r12,.slice pr22 nr22 cr22,.slice pr32 nr32 cr32] /\
 R (.agg #[.int .i64 r02,.int .i64 r12,.slice pr22 nr22 cr22,.slice pr32 nr32 cr32]) u37) fun J12 =>
 br block (
 Calls P F.Zf #[.pointer (some ⟨t,0,none⟩),.int .i64 3] u33 fun en u38 => ∃ x14,en = .returned (.int .i64 x14) /\
 br (decide (x14 = 0)) (
 J12 19 u38) (
 J12 14 u38)) (
 J12 14 u33))))) fun J8 =>
 Calls P F.Zf #[.pointer (some ⟨t,0,none⟩),.int .i64 6] u5 fun en u39 => ∃ x15,en = .returned (.int .i64 x15) /\
 br (decide (x15 = 0)) (
 ∃ px13 nx13 cx13,u39.cell? ⟨b1,3,none⟩ = some (.slice px13 nx13 cx13) /\
 Calls P F.Z16 #[.slice px13 nx13 cx13,.int .i64 3,.int .i64 0] u39 fun en u40 => ∃ px14 nx14 cx14,en = .returned (.slice px14 nx14 cx14) /\
 Calls P F.Z16 #[.slice px14 nx14 cx14,.int .i64 13,.int .i64 4] u40 fun en u41 => ∃ px15 nx15 cx15,en = .returned (.slice px15 nx15 cx15) /\
 stores u41 b1 3 [.slice px15 nx15 cx15] fun u42 =>
 J8 () u42) (
 J8 () u39))
theorem oZg {t : Nat} {args : Int} {classes : Int} {block : Bool} (h : vZg t args classes block w fun v w' => R (.returned v) w') : Calls P F.Zg #[.pointer (some ⟨t,0,none⟩),.int .i64 args,.int .i64 classes,.bool block] w R :=
 calls_of_eq (A := ⟨[(3,[(10,(.int .i64))])],[(8,[]),(12,[(11,(.int .i64))])]⟩) mixed Tryz.func19 (by kernel_rfl) (by kernel_rfl) h
def vZh (sel : Int) (w : World) (R : Value -> World -> Prop) : Prop :=
 newB w #[.int .i64 0,.int .i64 1,.int .i64 1,.int .i64 2,.int .i64 0,.int .i64 0] T.int fun b u =>
 chk (decide (0 <= sel) && decide (sel < 6)) (
 ∃ x,u.cell? ⟨b,0 + sel.toNat * 1,none⟩ = some (.int .i64 x) /\
 R (.int .i64 x) u)
theorem oZh {sel : Int} (h : vZh sel w fun v w' => R (.returned v) w') : Calls P F.Zh #[.int .i64 sel] w R :=
 calls_of_eq (A := ⟨[],[]⟩) mixed Tryz.func20 (by kernel_rfl) (by kernel_rfl) h
def vZ14 (t : Nat) (classes : Int) (w : World) (R : Value -> World -> Prop) : Prop :=
 ∃ (I : (Option Addr × Nat × Nat) × Int -> World -> Prop) (μ : (Option Addr × Nat × Nat) × Int -> World -> Nat),I ((none,0,0),0) w /\
 ∀ (t1 : (Option Addr × Nat × Nat) × Int) (u : World),I t1 u ->
 br (decide (t1.2 < 4)) (
 newB u #[.int .i64 0,.int .i64 7,.int .i64 1073741823,.int .i64 (-1073741824),.int .i64 100000] T.int fun b u1 =>
 Calls P F.Zf #[.pointer (some ⟨t,0,none⟩),.int .i64 5] u1 fun en u2 => ∃ x,en = .returned (.int .i64 x) /\
 chk (decide (0 <= x) && decide (x < 5)) (
 ∃ x1,u2.cell? ⟨b,0 + x.toNat * 1,none⟩ = some (.int .i64 x1) /\
 newB u2 #[.int .i64 3,.int .i64 x1] T.api_Val fun b1 u3 =>
 ∃ px nx cx u4,(Builtin.append_ #[T.sl_api_Val,T.sl_api_Val] T.sl_api_Val #[.slice t1.1.1 t1.1.2.1 t1.1.2.2,.slice (some ⟨b1,0,none⟩) 1 1]).run P u3 = .ok (.slice px nx cx) u4 /\ Aft u3 u4 /\
 I ((px,nx,cx),IntKind.wrap .i64 (t1.2 + 1)) u4 /\ μ ((px,nx,cx),IntKind.wrap .i64 (t1.2 + 1)) u4 < μ t1 u)) (
 Calls P F.Ze #[] u fun en u5 => ∃ px1 nx1 cx1,en = .returned (.slice px1 nx1 cx1) /\
 ∃ (I1 : (Option Addr × Nat × Nat) × Int -> World -> Prop) (μ1 : (Option Addr × Nat × Nat) × Int -> World -> Nat),I1 ((t1.1.1,t1.1.2.1,t1.1.2.2),0) u5 /\
 ∀ (t2 : (Option Addr × Nat × Nat) × Int) (u6 : World),I1 t2 u6 ->
 br (decide (t2.2 < (nx1 : Int))) (
 newB u6 #[.int .i64 5,.int .i64 t2.2] T.api_Val fun b2 u7 =>
 ∃ px2 nx2 cx2 u8,(Builtin.append_ #[T.sl_api_Val,T.sl_api_Val] T.sl_api_Val #[.slice t2.1.1 t2.1.2.1 t2.1.2.2,.slice (some ⟨b2,0,none⟩) 1 1]).run P u7 = .ok (.slice px2 nx2 cx2) u8 /\ Aft u7 u8 /\
 I1 ((px2,nx2,cx2),IntKind.wrap .i64 (t2.2 + 1)) u8 /\ μ1 ((px2,nx2,cx2),IntKind.wrap .i64 (t2.2 + 1)) u8 < μ1 t2 u6) (
 ∃ (I2 : (Option Addr × Nat × Nat) × Int -> World -> Prop) (μ2 : (Option Addr × Nat × Nat) × Int -> World -> Nat),I2 ((t2.1.1,t2.1.2.1,t2.1.2.2),0) u6 /\
 ∀ (t3 : (Option Addr × Nat × Nat) × Int) (u9 : World),I2 t3 u9 ->
 br (decide (t3.2 < 2)) (
 Calls P F.Zf #[.pointer (some ⟨t,0,none⟩),.int .i64 (IntKind.wrap .i64 (classes - 2))] u9 fun en u10 => ∃ x2,en = .returned (.int .i64 x2) /\
 newB u10 #[.int .i64 6,.int .i64 (IntKind.wrap .i64 (2 + x2))] T.api_Val fun b3 u11 =>
 ∃ px3 nx3 cx3 u12,(Builtin.append_ #[T.sl_api_Val,T.sl_api_Val] T.sl_api_Val #[.slice t3.1.1 t3.1.2.1 t3.1.2.2,.slice (some ⟨b3,0,none⟩) 1 1]).run P u11 = .ok (.slice px3 nx3 cx3) u12 /\ Aft u11 u12 /\
 I2 ((px3,nx3,cx3),IntKind.wrap .i64 (t3.2 + 1)) u12 /\ μ2 ((px3,nx3,cx3),IntKind.wrap .i64 (t3.2 + 1)) u12 < μ2 t3 u9) (
 newB u9 #[.int .i64 7,.int .i64 7,.int .i64 7,.int .i64 8] T.api_Val fun b4 u13 =>
 ∃ px4 nx4 cx4 u14,(Builtin.append_ #[T.sl_api_Val,T.sl_api_Val] T.sl_api_Val #[.slice t3.1.1 t3.1.2.1 t3.1.2.2,.slice (some ⟨b4,0,none⟩) 2 2]).run P u13 = .ok (.slice px4 nx4 cx4) u14 /\ Aft u13 u14 /\
 R (.slice px4 nx4 cx4) u14)))
theorem oZ14 {t : Nat} {classes : Int} (h : vZ14 t classes w fun v w' => R (.returned v) w') : Calls P F.Z14 #[.pointer (some ⟨t,0,none⟩),.int .i64 classes] w R :=
 calls_of_eq (A := ⟨[(3,[(5,.slice),(6,(.int .i64))]),(7,[(5,.slice),(24,(.int .i64))]),(12,[(5,.slice),(8,(.int .i64))])],[]⟩) mixed Tryz.func43 (by kernel_rfl) (by kernel_rfl) h
def vZ15 (t : Nat) (pc : Option Addr) (nc cc : Nat) (w : World) (R : Value -> World -> Prop) : Prop :=
 Calls P F.Zf #[.pointer (some ⟨t,0,none⟩),.int .i64 20] w fun en u => ∃ x,en = .returned (.int .i64 x) /\
 join (fun (t1 : Unit) (u1 : World) =>
 Calls P F.Zf #[.pointer (some ⟨t,0,none⟩),.int .i64 2] u1 fun en u2 => ∃ x1,en = .returned (.int .i64 x1) /\
 Calls P F.Z16 #[.slice pc nc cc,.int .i64 0,.int .i64 x1] u2 fun en u3 => ∃ px nx cx,en = .returned (.slice px nx cx) /\
 Calls P F.Zf #[.pointer (some ⟨t,0,none⟩),.int .i64 4] u3 fun en u4 => ∃ x2,en = .returned (.int .i64 x2) /\
 Calls P F.Z16 #[.slice px nx cx,.int .i64 11,.int .i64 x2] u4 fun en u5 => ∃ px1 nx1 cx1,en = .returned (.slice px1 nx1 cx1) /\
 R (.slice px1 nx1 cx1) u5) fun J41 =>
 Calls P F.Zf #[.pointer (some ⟨t,0,none⟩),.int .i64 22] u fun en u6 => ∃ x3,en = .returned (.int .i64 x3) /\
 join (fun (t2 : Bool) (u7 : World) =>
 br t2 (
 Calls P F.Z16 #[.slice pc nc cc,.int .i64 7,.int .i64 x] u7 fun en u8 => ∃ px2 nx2 cx2,en = .returned (.slice px2 nx2 cx2) /\
 Calls P F.Z16 #[.slice px2 nx2 cx2,.int .i64 21,.int .i64 10] u8 fun en u9 => ∃ px3 nx3 cx3,en = .returned (.slice px3 nx3 cx3) /\
 Calls P F.Z16 #[.slice px3 nx3 cx3,.int .i64 8,.int .i64 0] u9 fun en u10 => ∃ px4 nx4 cx4,en = .returned (.slice px4 nx4 cx4) /\
 R (.slice px4 nx4 cx4) u10) (
 br (decide (x3 = 2)) (
 Calls P F.Z16 #[.slice pc nc cc,.int .i64 3,.int .i64 0] u7 fun en u11 => ∃ px5 nx5 cx5,en = .returned (.slice px5 nx5 cx5) /\
 newB u11 #[.int .i64 4,.int .i64 8,.int .i64 9] T.int fun b u12 =>
 Calls P F.Zf #[.pointer (some ⟨t,0,none⟩),.int .i64 3] u12 fun en u13 => ∃ x4,en = .returned (.int .i64 x4) /\
 chk (decide (0 <= x4) && decide (x4 < 3)) (
 ∃ x5,u13.cell? ⟨b,0 + x4.toNat * 1,none⟩ = some (.int .i64 x5) /\
 Calls P F.Z16 #[.slice px5 nx5 cx5,.int .i64 12,.int .i64 x5] u13 fun en u14 => ∃ px6 nx6 cx6,en = .returned (.slice px6 nx6 cx6) /\
 Calls P F.Z16 #[.slice px6 nx6 cx6,.int .i64 8,.int .i64 0] u14 fun en u15 => ∃ px7 nx7 cx7,en = .returned (.slice px7 nx7 cx7) /\
 R (.slice px7 nx7 cx7) u15)) (
 br (decide (x3 = 3)) (
 Calls P F.Z16 #[.slice pc nc cc,.int .i64 3,.int .i64 0] u7 fun en u16 => ∃ px8 nx8 cx8,en = .returned (.slice px8 nx8 cx8) /\
 Calls P F.Z16 #[.slice px8 nx8 cx8,.int .i64 7,.int .i64 x] u16 fun en u17 => ∃ px9 nx9 cx9,en = .returned (.slice px9 nx9 cx9) /\
 Calls P F.Zf #[.pointer (some ⟨t,0,none⟩),.int .i64 2] u17 fun en u18 => ∃ x6,en = .returned (.int .i64 x6) /\
 Calls P F.Z16 #[.slice px9 nx9 cx9,.int .i64 12,.int .i64 (IntKind.wrap .i64 (5 + x6))] u18 fun en u19 => ∃ px10 nx10 cx10,en = .returned (.slice px10 nx10 cx10) /\
 Calls P F.Z16 #[.slice px10 nx10 cx10,.int .i64 21,.int .i64 10] u19 fun en u20 => ∃ px11 nx11 cx11,en = .returned (.slice px11 nx11 cx11) /\
 Calls P F.Z16 #[.slice px11 nx11 cx11,.int .i64 8,.int .i64 0] u20 fun en u21 => ∃ px12 nx12 cx12,en = .returned (.slice px12 nx12 cx12) /\
 R (.slice px12 nx12 cx12) u21) (
 br (decide (x3 = 4)) (
 Calls P F.Zf #[.pointer (some ⟨t,0,none⟩),.int .i64 4] u7 fun en u22 => ∃ x7,en = .returned (.int .i64 x7) /\
 Calls P F.Z16 #[.slice pc nc cc,.int .i64 2,.int .i64 x7] u22 fun en u23 => ∃ px13 nx13 cx13,en = .returned (.slice px13 nx13 cx13) /\
 Calls P F.Z16 #[.slice px13 nx13 cx13,.int .i64 7,.int .i64 (IntKind.wrap .i64 (x - 9))] u23 fun en u24 => ∃ px14 nx14 cx14,en = .returned (.slice px14 nx14 cx14) /\
 Calls P F.Zf #[.pointer (some ⟨t,0,none⟩),.int .i64 6] u24 fun en u25 => ∃ x8,en = .returned (.int .i64 x8) /\
 Calls P F.Z16 #[.slice px14 nx14 cx14,.int .i64 21,.int .i64 x8] u25 fun en u26 => ∃ px15 nx15 cx15,en = .returned (.slice px15 nx15 cx15) /\
 Calls P F.Z16 #[.slice px15 nx15 cx15,.int .i64 21,.int .i64 10] u26 fun en u27 => ∃ px16 nx16 cx16,en = .returned (.slice px16 nx16 cx16) /\
 Calls P F.Z16 #[.slice px16 nx16 cx16,.int .i64 8,.int .i64 0] u27 fun en u28 => ∃ px17 nx17 cx17,en = .returned (.slice px17 nx17 cx17) /\
 R (.slice px17 nx17 cx17) u28) (
 join (fun (t3 : Bool) (u29 : World) =>
 br t3 (
 Calls P F.Zf #[.pointer (some ⟨t,0,none⟩),.int .i64 2] u29 fun en u30 => ∃ x9,en = .returned (.int .i64 x9) /\
 Calls P F.Z16 #[.slice pc nc cc,.int .i64 20,.int .i64 (IntKind.wrap .i64 (10 + x9))] u30 fun en u31 => ∃ px18 nx18 cx18,en = .returned (.slice px18 nx18 cx18) /\
 Calls P F.Zf #[.pointer (some ⟨t,0,none⟩),.int .i64 2] u31 fun en u32 => ∃ x10,en = .returned (.int .i64 x10) /\
 Calls P F.Z16 #[.slice px18 nx18 cx18,.int .i64 10,.int .i64 x10] u32 fun en u33 => ∃ px19 nx19 cx19,en = .returned (.slice px19 nx19 cx19) /\
 Calls P F.Z16 #[.slice px19 nx19 cx19,.int .i64 8,.int .i64 0] u33 fun en u34 => ∃ px20 nx20 cx20,en = .returned (.slice px20 nx20 cx20) /\
 R (.slice px20 nx20 cx20) u34) (
 join (fun (t4 : Bool) (u35 : World) =>
 br t4 (
 Calls P F.Z16 #[.slice pc nc cc,.int .i64 7,.int .i64 x] u35 fun en u36 => ∃ px21 nx21 cx21,en = .returned (.slice px21 nx21 cx21) /\
 Calls P F.Z16 #[.slice px21 nx21 cx21,.int .i64 21,.int .i64 18] u36 fun en u37 => ∃ px22 nx22 cx22,en = .returned (.slice px22 nx22 cx22) /\
 Calls P F.Zf #[.pointer (some ⟨t,0,none⟩),.int .i64 2] u37 fun en u38 => ∃ x11,en = .returned (.int .i64 x11) /\
 Calls P F.Z16 #[.slice px22 nx22 cx22,.int .i64 10,.int .i64 x11] u38 fun en u39 => ∃ px23 nx23 cx23,en = .returned (.slice px23 nx23 cx23) /\
 Calls P F.Z16 #[.slice px23 nx23 cx23,.int .i64 8,.int .i64 0] u39 fun en u40 => ∃ px24 nx24 cx24,en = .returned (.slice px24 nx24 cx24) /\
 R (.slice px24 nx24 cx24) u40) (
 join (fun (t5 : Bool) (u41 : World) =>
 br t5 (
 wv u41.drew fun u42 =>
 (Calls P F.Zf #[.pointer (some ⟨t,0,none⟩),.int .i64 2] u42 fun en u43 => ∃ x12,en = .returned (.int .i64 x12) /\
 True /\
 (Calls P F.Z16 #[.slice pc nc cc,.int .i64 0,.int .i64 x12] u43 fun en u44 => ∃ px25 nx25 cx25,en = .returned (.slice px25 nx25 cx25) /\
 True /\
 (Calls P F.Zf #[.pointer (some ⟨t,0,none⟩),.int .i64 5] u44 fun en u45 => ∃ x13,en = .returned (.int .i64 x13) /\
 True /\
 (Calls P F.Z16 #[.slice px25 nx25 cx25,.int .i64 7,.int .i64 x13] u45 fun en u46 => ∃ px26 nx26 cx26,en = .returned (.slice px26 nx26 cx26) /\
 True /\
 (newB u46 #[.int .i64 7,.int .i64 0] T.int fun b1 u47 =>
 True /\
 Calls P F.Zf #[.pointer (some ⟨t,0,none⟩),.int .i64 2] u47 fun en u48 => ∃ x14,en = .returned (.int .i64 x14) /\
 True /\
 chk (decide (0 <= x14) && decide (x14 < 2)) (
 ∃ x15,u48.cell? ⟨b1,0 + x14.toNat * 1,none⟩ = some (.int .i64 x15) /\
 Calls P F.Zf #[.pointer (some ⟨t,0,none⟩),.int .i64 2] u48 fun en u49 => ∃ x16,en = .returned (.int .i64 x16) /\
 ((u49.cell? ⟨b1,0 + x14.toNat * 1,none⟩ = some (.int .i64 x15)) /\ True) /\
 Calls P F.Z16 #[.slice px26 nx26 cx26,.int .i64 x15,.int .i64 x16] u49 fun en u50 => ∃ px27 nx27 cx27,en = .returned (.slice px27 nx27 cx27) /\
 True /\
 Calls P F.Z16 #[.slice px27 nx27 cx27,.int .i64 21,.int .i64 9] u50 fun en u51 => ∃ px28 nx28 cx28,en = .returned (.slice px28 nx28 cx28) /\
 True /\
 Calls P F.Z16 #[.slice px28 nx28 cx28,.int .i64 8,.int .i64 0] u51 fun en u52 => ∃ px29 nx29 cx29,en = .returned (.slice px29 nx29 cx29) /\
 True /\
 R (.slice px29 nx29 cx29) u52)) /\ (Calls P F.Zf #[.pointer (some ⟨t,0,none⟩),.int .i64 2] u46 fun en u53 => ∃ x17,en = .returned (.int .i64 x17) /\
 True /\
 (newB u53 #[.int .i64 7,.int .i64 0] T.int fun b2 u54 =>
 True /\
 chk (decide (0 <= x17) && decide (x17 < 2)) (
 ∃ x18,u54.cell? ⟨b2,0 + x17.toNat * 1,none⟩ = some (.int .i64 x18) /\
 Calls P F.Zf #[.pointer (some ⟨t,0,none⟩),.int .i64 2] u54 fun en u55 => ∃ x19,en = .returned (.int .i64 x19) /\
 ((u55.cell? ⟨b2,0 + x17.toNat * 1,none⟩ = some (.int .i64 x18)) /\ True) /\
 Calls P F.Z16 #[.slice px26 nx26 cx26,.int .i64 x18,.int .i64 x19] u55 fun en u56 => ∃ px30 nx30 cx30,en = .returned (.slice px30 nx30 cx30) /\
 True /\
 Calls P F.Z16 #[.slice px30 nx30 cx30,.int .i64 21,.int .i64 9] u56 fun en u57 => ∃ px31 nx31 cx31,en = .returned (.slice px31 nx31 cx31) /\
 True /\
 Calls P F.Z16 #[.slice px31 nx31 cx31,.int .i64 8,.int .i64 0] u57 fun en u58 => ∃ px32 nx32 cx32,en = .returned (.slice px32 nx32 cx32) /\
 True /\
 R (.slice px32 nx32 cx32) u58)) /\ (Calls P F.Zf #[.pointer (some ⟨t,0,none⟩),.int .i64 2] u53 fun en u59 => ∃ x20,en = .returned (.int .i64 x20) /\
 True /\
 newB u59 #[.int .i64 7,.int .i64 0] T.int fun b3 u60 =>
 True /\
 chk (decide (0 <= x17) && decide (x17 < 2)) (
 ∃ x21,u60.cell? ⟨b3,0 + x17.toNat * 1,none⟩ = some (.int .i64 x21) /\
 Calls P F.Z16 #[.slice px26 nx26 cx26,.int .i64 x21,.int .i64 x20] u60 fun en u61 => ∃ px33 nx33 cx33,en = .returned (.slice px33 nx33 cx33) /\
 True /\
 Calls P F.Z16 #[.slice px33 nx33 cx33,.int .i64 21,.int .i64 9] u61 fun en u62 => ∃ px34 nx34 cx34,en = .returned (.slice px34 nx34 cx34) /\
 True /\
 Calls P F.Z16 #[.slice px34 nx34 cx34,.int .i64 8,.int .i64 0] u62 fun en u63 => ∃ px35 nx35 cx35,en = .returned (.slice px35 nx35 cx35) /\
 True /\
 R (.slice px35 nx35 cx35) u63)))) /\ (newB u45 #[.int .i64 7,.int .i64 0] T.int fun b4 u64 =>
 True /\
 Calls P F.Z16 #[.slice px25 nx25 cx25,.int .i64 7,.int .i64 x13] u64 fun en u65 => ∃ px36 nx36 cx36,en = .returned (.slice px36 nx36 cx36) /\
 True /\
 Calls P F.Zf #[.pointer (some ⟨t,0,none⟩),.int .i64 2] u65 fun en u66 => ∃ x22,en = .returned (.int .i64 x22) /\
 True /\
 chk (decide (0 <= x22) && decide (x22 < 2)) (
 ∃ x23,u66.cell? ⟨b4,0 + x22.toNat * 1,none⟩ = some (.int .i64 x23) /\
 Calls P F.Zf #[.pointer (some ⟨t,0,none⟩),.int .i64 2] u66 fun en u67 => ∃ x24,en = .returned (.int .i64 x24) /\
 ((u67.cell? ⟨b4,0 + x22.toNat * 1,none⟩ = some (.int .i64 x23)) /\ True) /\
 Calls P F.Z16 #[.slice px36 nx36 cx36,.int .i64 x23,.int .i64 x24] u67 fun en u68 => ∃ px37 nx37 cx37,en = .returned (.slice px37 nx37 cx37) /\
 True /\
 Calls P F.Z16 #[.slice px37 nx37 cx37,.int .i64 21,.int .i64 9] u68 fun en u69 => ∃ px38 nx38 cx38,en = .returned (.slice px38 nx38 cx38) /\
 True /\
 Calls P F.Z16 #[.slice px38 nx38 cx38,.int .i64 8,.int .i64 0] u69 fun en u70 => ∃ px39 nx39 cx39,en = .returned (.slice px39 nx39 cx39) /\
 True /\
 R (.slice px39 nx39 cx39) u70))) /\ (newB u44 #[.int .i64 7,.int .i64 0] T.int fun b5 u71 =>
 True /\
 Calls P F.Zf #[.pointer (some ⟨t,0,none⟩),.int .i64 5] u71 fun en u72 => ∃ x25,en = .returned (.int .i64 x25) /\
 True /\
 Calls P F.Z16 #[.slice px25 nx25 cx25,.int .i64 7,.int .i64 x25] u72 fun en u73 => ∃ px40 nx40 cx40,en = .returned (.slice px40 nx40 cx40) /\
 True /\
 Calls P F.Zf #[.pointer (some ⟨t,0,none⟩),.int .i64 2] u73 fun en u74 => ∃ x26,en = .returned (.int .i64 x26) /\
 True /\
 chk (decide (0 <= x26) && decide (x26 < 2)) (
 ∃ x27,u74.cell? ⟨b5,0 + x26.toNat * 1,none⟩ = some (.int .i64 x27) /\
 Calls P F.Zf #[.pointer (some ⟨t,0,none⟩),.int .i64 2] u74 fun en u75 => ∃ x28,en = .returned (.int .i64 x28) /\
 ((u75.cell? ⟨b5,0 + x26.toNat * 1,none⟩ = some (.int .i64 x27)) /\ True) /\
 Calls P F.Z16 #[.slice px40 nx40 cx40,.int .i64 x27,.int .i64 x28] u75 fun en u76 => ∃ px41 nx41 cx41,en = .returned (.slice px41 nx41 cx41) /\
 True /\
 Calls P F.Z16 #[.slice px41 nx41 cx41,.int .i64 21,.int .i64 9] u76 fun en u77 => ∃ px42 nx42 cx42,en = .returned (.slice px42 nx42 cx42) /\
 True /\
 Calls P F.Z16 #[.slice px42 nx42 cx42,.int .i64 8,.int .i64 0] u77 fun en u78 => ∃ px43 nx43 cx43,en = .returned (.slice px43 nx43 cx43) /\
 True /\
 R (.slice px43 nx43 cx43) u78))) /\ (newB u43 #[.int .i64 7,.int .i64 0] T.int fun b6 u79 =>
 True /\
 Calls P F.Z16 #[.slice pc nc cc,.int .i64 0,.int .i64 x12] u79 fun en u80 => ∃ px44 nx44 cx44,en = .returned (.slice px44 nx44 cx44) /\
 True /\
 Calls P F.Zf #[.pointer (some ⟨t,0,none⟩),.int .i64 5] u80 fun en u81 => ∃ x29,en = .returned (.int .i64 x29) /\
 True /\
 Calls P F.Z16 #[.slice px44 nx44 cx44,.int .i64 7,.int .i64 x29] u81 fun en u82 => ∃ px45 nx45 cx45,en = .returned (.slice px45 nx45 cx45) /\
 True /\
 Calls P F.Zf #[.pointer (some ⟨t,0,none⟩),.int .i64 2] u82 fun en u83 => ∃ x30,en = .returned (.int .i64 x30) /\
 True /\
 chk (decide (0 <= x30) && decide (x30 < 2)) (
 ∃ x31,u83.cell? ⟨b6,0 + x30.toNat * 1,none⟩ = some (.int .i64 x31) /\
 Calls P F.Zf #[.pointer (some ⟨t,0,none⟩),.int .i64 2] u83 fun en u84 => ∃ x32,en = .returned (.int .i64 x32) /\
 ((u84.cell? ⟨b6,0 + x30.toNat * 1,none⟩ = some (.int .i64 x31)) /\ True) /\
 Calls P F.Z16 #[.slice px45 nx45 cx45,.int .i64 x31,.int .i64 x32] u84 fun en u85 => ∃ px46 nx46 cx46,en = .returned (.slice px46 nx46 cx46) /\
 True /\
 Calls P F.Z16 #[.slice px46 nx46 cx46,.int .i64 21,.int .i64 9] u85 fun en u86 => ∃ px47 nx47 cx47,en = .returned (.slice px47 nx47 cx47) /\
 True /\
 Calls P F.Z16 #[.slice px47 nx47 cx47,.int .i64 8,.int .i64 0] u86 fun en u87 => ∃ px48 nx48 cx48,en = .returned (.slice px48 nx48 cx48) /\
 True /\
 R (.slice px48 nx48 cx48) u87))) /\ (newB u42 #[.int .i64 7,.int .i64 0] T.int fun b7 u88 =>
 True /\
 Calls P F.Zf #[.pointer (some ⟨t,0,none⟩),.int .i64 2] u88 fun en u89 => ∃ x33,en = .returned (.int .i64 x33) /\
 True /\
 Calls P F.Z16 #[.slice pc nc cc,.int .i64 0,.int .i64 x33] u89 fun en u90 => ∃ px49 nx49 cx49,en = .returned (.slice px49 nx49 cx49) /\
 True /\
 Calls P F.Zf #[.pointer (some ⟨t,0,none⟩),.int .i64 5] u90 fun en u91 => ∃ x34,en = .returned (.int .i64 x34) /\
 True /\
 Calls P F.Z16 #[.slice px49 nx49 cx49,.int .i64 7,.int .i64 x34] u91 fun en u92 => ∃ px50 nx50 cx50,en = .returned (.slice px50 nx50 cx50) /\
 True /\
 Calls P F.Zf #[.pointer (some ⟨t,0,none⟩),.int .i64 2] u92 fun en u93 => ∃ x35,en = .returned (.int .i64 x35) /\
 True /\
 chk (decide (0 <= x35) && decide (x35 < 2)) (
 ∃ x36,u93.cell? ⟨b7,0 + x35.toNat * 1,none⟩ = some (.int .i64 x36) /\
 Calls P F.Zf #[.pointer (some ⟨t,0,none⟩),.int .i64 2] u93 fun en u94 => ∃ x37,en = .returned (.int .i64 x37) /\
 ((u94.cell? ⟨b7,0 + x35.toNat * 1,none⟩ = some (.int .i64 x36)) /\ True) /\
 Calls P F.Z16 #[.slice px50 nx50 cx50,.int .i64 x36,.int .i64 x37] u94 fun en u95 => ∃ px51 nx51 cx51,en = .returned (.slice px51 nx51 cx51) /\
 True /\
 Calls P F.Z16 #[.slice px51 nx51 cx51,.int .i64 21,.int .i64 9] u95 fun en u96 => ∃ px52 nx52 cx52,en = .returned (.slice px52 nx52 cx52) /\
 True /\
 Calls P F.Z16 #[.slice px52 nx52 cx52,.int .i64 8,.int .i64 0] u96 fun en u97 => ∃ px53 nx53 cx53,en = .returned (.slice px53 nx53 cx53) /\
 True /\
 R (.slice px53 nx53 cx53) u97))) (
 br (decide (x3 = 11)) (
 Calls P F.Zf #[.pointer (some ⟨t,0,none⟩),.int .i64 2] u41 fun en u98 => ∃ x38,en = .returned (.int .i64 x38) /\
 Calls P F.Z16 #[.slice pc nc cc,.int .i64 0,.int .i64 x38] u98 fun en u99 => ∃ px54 nx54 cx54,en = .returned (.slice px54 nx54 cx54) /\
 Calls P F.Zf #[.pointer (some ⟨t,0,none⟩),.int .i64 4] u99 fun en u100 => ∃ x39,en = .returned (.int .i64 x39) /\
 Calls P F.Z16 #[.slice px54 nx54 cx54,.int .i64 7,.int .i64 x39] u100 fun en u101 => ∃ px55 nx55 cx55,en = .returned (.slice px55 nx55 cx55) /\
 Calls P F.Z16 #[.slice px55 nx55 cx55,.int .i64 21,.int .i64 8] u101 fun en u102 => ∃ px56 nx56 cx56,en = .returned (.slice px56 nx56 cx56) /\
 Calls P F.Z16 #[.slice px56 nx56 cx56,.int .i64 21,.int .i64 10] u102 fun en u103 => ∃ px57 nx57 cx57,en = .returned (.slice px57 nx57 cx57) /\
 R (.slice px57 nx57 cx57) u103) (
 br (decide (x3 = 12)) (
 Calls P F.Z16 #[.slice pc nc cc,.int .i64 18,.int .i64 12] u41 fun en u104 => ∃ px58 nx58 cx58,en = .returned (.slice px58 nx58 cx58) /\
 Calls P F.Z16 #[.slice px58 nx58 cx58,.int .i64 21,.int .i64 11] u104 fun en u105 => ∃ px59 nx59 cx59,en = .returned (.slice px59 nx59 cx59) /\
 Calls P F.Z16 #[.slice px59 nx59 cx59,.int .i64 8,.int .i64 0] u105 fun en u106 => ∃ px60 nx60 cx60,en = .returned (.slice px60 nx60 cx60) /\
 R (.slice px60 nx60 cx60) u106) (
 br (decide (x3 = 13)) (
 Calls P F.Z16 #[.slice pc nc cc,.int .i64 18,.int .i64 13] u41 fun en u107 => ∃ px61 nx61 cx61,en = .returned (.slice px61 nx61 cx61) /\
 Calls P F.Z16 #[.slice px61 nx61 cx61,.int .i64 7,.int .i64 x] u107 fun en u108 => ∃ px62 nx62 cx62,en = .returned (.slice px62 nx62 cx62) /\
 Calls P F.Z16 #[.slice px62 nx62 cx62,.int .i64 21,.int .i64 12] u108 fun en u109 => ∃ px63 nx63 cx63,en = .returned (.slice px63 nx63 cx63) /\
 Calls P F.Z16 #[.slice px63 nx63 cx63,.int .i64 8,.int .i64 0] u109 fun en u110 => ∃ px64 nx64 cx64,en = .returned (.slice px64 nx64 cx64) /\
 R (.slice px64 nx64 cx64) u110) (
 br (decide (x3 = 14)) (
 Calls P F.Z16 #[.slice pc nc cc,.int .i64 18,.int .i64 12] u41 fun en u111 => ∃ px65 nx65 cx65,en = .returned (.slice px65 nx65 cx65) /\
 Calls P F.Zf #[.pointer (some ⟨t,0,none⟩),.int .i64 4] u111 fun en u112 => ∃ x40,en = .returned (.int .i64 x40) /\
 Calls P F.Z16 #[.slice px65 nx65 cx65,.int .i64 7,.int .i64 x40] u112 fun en u113 => ∃ px66 nx66 cx66,en = .returned (.slice px66 nx66 cx66) /\
 Calls P F.Z16 #[.slice px66 nx66 cx66,.int .i64 21,.int .i64 13] u113 fun en u114 => ∃ px67 nx67 cx67,en = .returned (.slice px67 nx67 cx67) /\
 Calls P F.Z16 #[.slice px67 nx67 cx67,.int .i64 8,.int .i64 0] u114 fun en u115 => ∃ px68 nx68 cx68,en = .returned (.slice px68 nx68 cx68) /\
 R (.slice px68 nx68 cx68) u115) (
 br (decide (x3 = 15)) (
 Calls P F.Zf #[.pointer (some ⟨t,0,none⟩),.int .i64 4] u41 fun en u116 => ∃ x41,en = .returned (.int .i64 x41) /\
 Calls P F.Z16 #[.slice pc nc cc,.int .i64 7,.int .i64 x41] u116 fun en u117 => ∃ px69 nx69 cx69,en = .returned (.slice px69 nx69 cx69) /\
 Calls P F.Zf #[.pointer (some ⟨t,0,none⟩),.int .i64 2] u117 fun en u118 => ∃ x42,en = .returned (.int .i64 x42) /\
 Calls P F.Z16 #[.slice px69 nx69 cx69,.int .i64 21,.int .i64 (IntKind.wrap .i64 (15 + x42))] u118 fun en u119 => ∃ px70 nx70 cx70,en = .returned (.slice px70 nx70 cx70) /\
 Calls P F.Z16 #[.slice px70 nx70 cx70,.int .i64 8,.int .i64 0] u119 fun en u120 => ∃ px71 nx71 cx71,en = .returned (.slice px71 nx71 cx71) /\
 R (.slice px71 nx71 cx71) u120) (
 br (decide (x3 = 16)) (
 newB u41 #[.int .i64 14,.int .i64 21,.int .i64 23] T.int fun b8 u121 =>
 Calls P F.Zf #[.pointer (some ⟨t,0,none⟩),.int .i64 3] u121 fun en u122 => ∃ x43,en = .returned (.int .i64 x43) /\
 chk (decide (0 <= x43) && decide (x43 < 3)) (
 ∃ x44,u122.cell? ⟨b8,0 + x43.toNat * 1,none⟩ = some (.int .i64 x44) /\
 Calls P F.Z16 #[.slice pc nc cc,.int .i64 21,.int .i64 x44] u122 fun en u123 => ∃ px72 nx72 cx72,en = .returned (.slice px72 nx72 cx72) /\
 Calls P F.Z16 #[.slice px72 nx72 cx72,.int .i64 8,.int .i64 0] u123 fun en u124 => ∃ px73 nx73 cx73,en = .returned (.slice px73 nx73 cx73) /\
 R (.slice px73 nx73 cx73) u124)) (
 br (decide (x3 = 17)) (
 Calls P F.Zf #[.pointer (some ⟨t,0,none⟩),.int .i64 2] u41 fun en u125 => ∃ x45,en = .returned (.int .i64 x45) /\
 Calls P F.Z16 #[.slice pc nc cc,.int .i64 (IntKind.wrap .i64 (5 + x45)),.int .i64 0] u125 fun en u126 => ∃ px74 nx74 cx74,en = .returned (.slice px74 nx74 cx74) /\
 Calls P F.Z16 #[.slice px74 nx74 cx74,.int .i64 17,.int .i64 1] u126 fun en u127 => ∃ px75 nx75 cx75,en = .returned (.slice px75 nx75 cx75) /\
 Calls P F.Z16 #[.slice px75 nx75 cx75,.int .i64 7,.int .i64 x] u127 fun en u128 => ∃ px76 nx76 cx76,en = .returned (.slice px76 nx76 cx76) /\
 Calls P F.Z16 #[.slice px76 nx76 cx76,.int .i64 8,.int .i64 0] u128 fun en u129 => ∃ px77 nx77 cx77,en = .returned (.slice px77 nx77 cx77) /\
 R (.slice px77 nx77 cx77) u129) (
 br (decide (x3 = 18)) (
 Calls P F.Z16 #[.slice pc nc cc,.int .i64 0,.int .i64 0] u41 fun en u130 => ∃ px78 nx78 cx78,en = .returned (.slice px78 nx78 cx78) /\
 Calls P F.Z16 #[.slice px78 nx78 cx78,.int .i64 0,.int .i64 1] u130 fun en u131 => ∃ px79 nx79 cx79,en = .returned (.slice px79 nx79 cx79) /\
 Calls P F.Zf #[.pointer (some ⟨t,0,none⟩),.int .i64 9] u131 fun en u132 => ∃ x46,en = .returned (.int .i64 x46) /\
 Calls P F.Z16 #[.slice px79 nx79 cx79,.int .i64 7,.int .i64 x46] u132 fun en u133 => ∃ px80 nx80 cx80,en = .returned (.slice px80 nx80 cx80) /\
 Calls P F.Z16 #[.slice px80 nx80 cx80,.int .i64 21,.int .i64 19] u133 fun en u134 => ∃ px81 nx81 cx81,en = .returned (.slice px81 nx81 cx81) /\
 Calls P F.Z16 #[.slice px81 nx81 cx81,.int .i64 8,.int .i64 0] u134 fun en u135 => ∃ px82 nx82 cx82,en = .returned (.slice px82 nx82 cx82) /\
 R (.slice px82 nx82 cx82) u135) (
 br (decide (x3 = 19)) (
 Calls P F.Z16 #[.slice pc nc cc,.int .i64 0,.int .i64 0] u41 fun en u136 => ∃ px83 nx83 cx83,en = .returned (.slice px83 nx83 cx83) /\
 Calls P F.Z16 #[.slice px83 nx83 cx83,.int .i64 0,.int .i64 1] u136 fun en u137 => ∃ px84 nx84 cx84,en = .returned (.slice px84 nx84 cx84) /\
 newB u137 #[.int .i64 20,.int .i64 5] T.int fun b9 u138 =>
 Calls P F.Zf #[.pointer (some ⟨t,0,none⟩),.int .i64 2] u138 fun en u139 => ∃ x47,en = .returned (.int .i64 x47) /\
 chk (decide (0 <= x47) && decide (x47 < 2)) (
 ∃ x48,u139.cell? ⟨b9,0 + x47.toNat * 1,none⟩ = some (.int .i64 x48) /\
 Calls P F.Z16 #[.slice px84 nx84 cx84,.int .i64 21,.int .i64 x48] u139 fun en u140 => ∃ px85 nx85 cx85,en = .returned (.slice px85 nx85 cx85) /\
 Calls P F.Z16 #[.slice px85 nx85 cx85,.int .i64 8,.int .i64 0] u140 fun en u141 => ∃ px86 nx86 cx86,en = .returned (.slice px86 nx86 cx86) /\
 R (.slice px86 nx86 cx86) u141)) (
 br (decide (x3 = 20)) (
 Calls P F.Zf #[.pointer (some ⟨t,0,none⟩),.int .i64 3] u41 fun en u142 => ∃ x49,en = .returned (.int .i64 x49) /\
 Calls P F.Z16 #[.slice pc nc cc,.int .i64 1,.int .i64 x49] u142 fun en u143 => ∃ px87 nx87 cx87,en = .returned (.slice px87 nx87 cx87) /\
 Calls P F.Zf #[.pointer (some ⟨t,0,none⟩),.int .i64 3] u143 fun en u144 => ∃ x50,en = .returned (.int .i64 x50) /\
 Calls P F.Z16 #[.slice px87 nx87 cx87,.int .i64 11,.int .i64 x50] u144 fun en u145 => ∃ px88 nx88 cx88,en = .returned (.slice px88 nx88 cx88) /\
 Calls P F.Z16 #[.slice px88 nx88 cx88,.int .i64 8,.int .i64 0] u145 fun en u146 => ∃ px89 nx89 cx89,en = .returned (.slice px89 nx89 cx89) /\
 R (.slice px89 nx89 cx89) u146) (
 J41 () u41)))))))))))) fun J20 =>
 br (decide (x3 = 9)) (
 J20 (decide (x3 = 9)) u35) (
 J20 (decide (x3 = 10)) u35))) fun J17 =>
 br (decide (x3 = 7)) (
 J17 (decide (x3 = 7)) u29) (
 J17 (decide (x3 = 8)) u29))) fun J14 =>
 br (decide (x3 = 5)) (
 J14 (decide (x3 = 5)) u7) (
 J14 (decide (x3 = 6)) u7)))))) fun J5 =>
 br (decide (x3 = 0)) (
 J5 (decide (x3 = 0)) u6) (
 J5 (decide (x3 = 1)) u6)
theorem oZ15 {t : Nat} {pc : Option Addr} {nc cc : Nat} (h : vZ15 t pc nc cc w fun v w' => R (.returned v) w') : Calls P F.Z15 #[.pointer (some ⟨t,0,none⟩),.slice pc nc cc] w R :=
 calls_of_eq (A := ⟨[],[(5,[(10,.bool)]),(14,[(55,.bool)]),(17,[(67,.bool)]),(20,[(78,.bool)]),(41,[])]⟩) mixed Tryz.func44 (by kernel_rfl) (by kernel_rfl) h
def vZ16 (pcode : Option Addr) (ncode ccode : Nat) (o : Int) (arg : Int) (w : World) (R : Value -> World -> Prop) : Prop :=
 newB w #[.int .u8 (IntKind.wrap .u8 o),.int .u8 (IntKind.wrap .u8 arg)] T.uint8 fun b u =>
 ∃ px nx cx u1,(Builtin.append_ #[T.sl_uint8,T.sl_uint8] T.sl_uint8 #[.slice pcode ncode ccode,.slice (some ⟨b,0,none⟩) 2 2]).run P u = .ok (.slice px nx cx) u1 /\ Aft u u1 /\
 R (.slice px nx cx) u1
theorem oZ16 {pcode : Option Addr} {ncode ccode : Nat} {o : Int} {arg : Int} (h : vZ16 pcode ncode ccode o arg w fun v w' => R (.returned v) w') : Calls P F.Z16 #[.slice pcode ncode ccode,.int .i64 o,.int .i64 arg] w R :=
 calls_of_eq (A := ⟨[],[]⟩) mixed Tryz.func45 (by kernel_rfl) (by kernel_rfl) h
def vZ7 (pa : Option Addr) (na ca : Nat) (pb : Option Addr) (nb cb : Nat) (w : World) (R : Value -> World -> Prop) : Prop :=
 br (!(decide ((na : Int) = (nb : Int)))) (
 R (.bool false) w) (
 ∃ (I : Int -> World -> Prop) (μ : Int -> World -> Nat),I 0 w /\
 ∀ (t : Int) (u : World),I t u ->
 br (decide (t < (na : Int))) (
 wv u.drew fun u1 =>
 chk (decide (0 <= t) && decide (t < (na : Int))) (
 onPtr pa fun g o =>
 ∃ x,u1.cell? ⟨g,o + t.toNat * 1,none⟩ = some (.int .u32 x) /\
 chk (decide (0 <= t) && decide (t < (nb : Int))) (
 onPtr pb fun g1 o1 =>
 ∃ x1,u1.cell? ⟨g1,o1 + t.toNat * 1,none⟩ = some (.int .u32 x1) /\
 br (!(decide (x = x1))) (
 R (.bool false) u1) (
 I (IntKind.wrap .i64 (t + 1)) u1 /\ μ (IntKind.wrap .i64 (t + 1)) u1 < μ t u)))) (
 R (.bool true) u))
theorem oZ7 {pa : Option Addr} {na ca : Nat} {pb : Option Addr} {nb cb : Nat} (h : vZ7 pa na ca pb nb cb w fun v w' => R (.returned v) w') : Calls P F.Z7 #[.slice pa na ca,.slice pb nb cb] w R :=
 calls_of_eq (A := ⟨[(4,[(5,(.int .i64))])],[]⟩) mixed Tryz.func10 (by kernel_rfl) (by kernel_rfl) h
def vZ13 (n : Int) (lo : Int) (hi : Int) (w : World) (R : Value -> World -> Prop) : Prop :=
 join (fun (t : Unit) (u : World) =>
 chk (!(decide (IntKind.wrap .i64 ((IntKind.wrap .i64 (hi - lo)) + 1) = 0))) (
 br (decide (Int.tmod n (IntKind.wrap .i64 ((IntKind.wrap .i64 (hi - lo)) + 1)) < 0)) (
 R (.int .i64 (IntKind.wrap .i64 (lo + (IntKind.wrap .i64 ((IntKind.wrap .i64 ((IntKind.wrap .i64 ((Int.tmod n (IntKind.wrap .i64 ((IntKind.wrap .i64 (hi - lo)) + 1))) + hi)) - lo)) + 1))))) u) (
 R (.int .i64 (IntKind.wrap .i64 (lo + (Int.tmod n (IntKind.wrap .i64 ((IntKind.wrap .i64 (hi - lo)) + 1)))))) u))) fun J3 =>
 br (decide (lo <= n)) (
 br (decide (n <= hi)) (
 R (.int .i64 n) w) (
 J3 () w)) (
 J3 () w)
theorem oZ13 {n : Int} {lo : Int} {hi : Int} (h : vZ13 n lo hi w fun v w' => R (.returned v) w') : Calls P F.Z13 #[.int .i64 n,.int .i64 lo,.int .i64 hi] w R :=
 calls_of_eq (A := ⟨[],[(3,[])]⟩) mixed Tryz.func42 (by kernel_rfl) (by kernel_rfl) h
end
section
abbrev Hp := Array Obj
def Bk (h : Hp) (b : Nat) (cs : List Value) : Prop := ∃ ty,h[b]? = some (.cells cs.toArray ty (0,0))
structure Fr (S : Nat -> Prop) (h h' : Hp) : Prop where
 le : h.size <= h'.size
 eq : ∀ b,b < h.size -> ¬ S b -> h'[b]? = h[b]?
abbrev Nw (h h' : Hp) : Prop := Fr (fun _ => False) h h'
theorem Fr.refl (S : Nat -> Prop) (h : Hp) : Fr S h h := ⟨Nat.le_refl _,fun _ _ _ => rfl⟩
theorem Fr.trans {S S' T : Nat -> Prop} {h h1 h2 : Hp} (a : Fr S h h1) (b : Fr S' h1 h2) (hS : ∀ x,x < h.size -> S x -> T x) (hS' : ∀ x,x < h.size -> S' x -> T x) : Fr T h h2 :=
 ⟨Nat.le_trans a.le b.le,fun x hx hn => by rw [b.eq x (Nat.lt_of_lt_of_le hx a.le) (fun hs => hn (hS' x hx hs)),a.eq x hx (fun hs => hn (hS x hx hs))]⟩
theorem Fr.trans' {S : Nat -> Prop} {h h1 h2 : Hp} (a : Fr S h h1) (b : Fr S h1 h2) : Fr S h h2 := a.trans b (fun _ _ h => h) (fun _ _ h => h)
theorem Fr.mono {S T : Nat -> Prop} {h h1 : Hp} (a : Fr S h h1) (hS : ∀ x,x < h.size -> S x -> T x) : Fr T h h1 := ⟨a.le,fun x hx hn => a.eq x hx fun hs => hn (hS x hx hs)⟩
theorem Nw.fr {S : Nat -> Prop} {h h1 : Hp} (a : Nw h h1) : Fr S h h1 := a.mono fun _ _ h => h.elim
theorem Fr.new {S : Nat -> Prop} {h h1 : Hp} (a : Fr S h h1) (hS : ∀ x,x < h.size -> ¬ S x) : Nw h h1 := a.mono fun x hx hs => hS x hx hs
theorem Bk.lt {h : Hp} {b : Nat} {cs : List Value} (hb : Bk h b cs) : b < h.size := by
 obtain ⟨ty,hb⟩ := hb
 exact (Array.getElem?_eq_some_iff.1 hb).1
theorem Bk.fr {S : Nat -> Prop} {h h' : Hp} {b : Nat} {cs : List Value} (hb : Bk h b cs) (hf : Fr S h h') (hn : ¬ S b) : Bk h' b cs := by
 have := hf.eq b hb.lt hn
 obtain ⟨ty,hb⟩ := hb
 exact ⟨ty,this.trans hb⟩
theorem Bk.nw {h h' : Hp} {b : Nat} {cs : List Value} (hb : Bk h b cs) (hf : Nw h h') : Bk h' b cs := hb.fr hf fun h => h
theorem Bk.cell {w : World} {b : Nat} {cs : List Value} (hb : Bk w.heap b cs) (o : Nat) : w.cell? ⟨b,o,none⟩ = cs[o]? := by
 obtain ⟨ty,hb⟩ := hb
 simp [World.cell?,hb]
theorem Bk.inj {h : Hp} {b : Nat} {cs ds : List Value} (h1 : Bk h b cs) (h2 : Bk h b ds) : cs = ds := by
 obtain ⟨t1,h1⟩ := h1
 obtain ⟨t2,h2⟩ := h2
 rw [h1] at h2
 simp only [Option.some.injEq,Obj.cells.injEq] at h2
 have := congrArg Array.toList h2.1
 simpa using this
theorem Bk.wr {w : World} {b : Nat} {cs : List Value} (hb : Bk w.heap b cs) {o : Nat} (ho : o < cs.length) : wr w b o := by
 refine ⟨⟨cs[o],by rw [hb.cell]; simp [ho]⟩,?_⟩
 obtain ⟨ty,hb⟩ := hb
 simp [World.frozen?,hb]
theorem alloc_heap (w : World) (o : Obj) : (w.alloc o).heap = w.heap.push o := rfl
theorem newB_i {w : World} {cs : Array Value} {t : TypeId} {k : Nat -> World -> Prop}
  (H : ∀ b w2,b = w.heap.size -> Bk w2.heap b cs.toList -> Nw w.heap w2.heap -> w2.heap.size = b + 1 -> k b w2) : newB w cs t k := by
 refine H _ _ rfl ⟨t,?_⟩ ⟨?_,fun b hb _ => ?_⟩ ?_
 ·simp [alloc_heap]
 ·simp [alloc_heap]
 ·simp only [alloc_heap]; rw [Array.getElem?_push_lt hb,Array.getElem?_eq_getElem hb]
 ·simp [alloc_heap]
def sets : List Value -> Nat -> List Value -> List Value
 | cs,_,[] => cs
 | cs,o,v :: r => sets (cs.set o v) (o + 1) r
theorem sets_length : ∀ (vs cs : List Value) (o : Nat),(sets cs o vs).length = cs.length
 | [],_,_ => rfl
 | v :: r,cs,o => by simp [sets,sets_length r]
theorem sets_eq : ∀ (vs cs : List Value) (o : Nat),o + vs.length <= cs.length -> sets cs o vs = cs.take o ++ vs ++ cs.drop (o + vs.length)
 | [],cs,o,_ => by simp [sets]
 | v :: r,cs,o,h => by
  simp only [List.length_cons] at h
  rw [sets,sets_eq r _ _ (by simp; omega)]
  have ho : o < cs.length := by omega
  rw [List.take_succ_eq_append_getElem (by simpa using ho)]
  simp [List.take_set_of_le,List.drop_set_of_lt,show o < o + 1 + r.length by omega,Nat.add_assoc,Nat.add_comm 1]
theorem setCell_heap {w : World} {b : Nat} {cs : List Value} {ty : TypeId} (hb : w.heap[b]? = some (.cells cs.toArray ty (0,0))) (o : Nat) (v : Value) :
  (w.setCell ⟨b,o,none⟩ v).heap[b]? = some (.cells (cs.set o v).toArray ty (0,0)) := by
 simp only [World.setCell,Array.getElem?_modify,if_true,hb,Option.map_some]
 simp
theorem setCell_other {w : World} {b b' : Nat} (hne : b' ≠ b) (o : Nat) (v : Value) : (w.setCell ⟨b,o,none⟩ v).heap[b']? = w.heap[b']? := by
 simp [World.setCell,Array.getElem?_modify,Ne.symm hne]
theorem setCell_size (w : World) (p : Addr) (v : Value) : (w.setCell p v).heap.size = w.heap.size := by simp [World.setCell]
theorem setRow_ok {b : Nat} {ty : TypeId} : ∀ (vs : List Value) (o : Nat) (w : World) (cs : List Value),w.heap[b]? = some (.cells cs.toArray ty (0,0)) ->
  (setRow w b o vs).heap[b]? = some (.cells (sets cs o vs).toArray ty (0,0)) /\ (∀ b',b' ≠ b -> (setRow w b o vs).heap[b']? = w.heap[b']?) /\ (setRow w b o vs).heap.size = w.heap.size
 | [],_,_,_,h => ⟨h,fun _ _ => rfl,rfl⟩
 | v :: r,o,w,cs,h => by
  obtain ⟨h1,h2,h3⟩ := setRow_ok r (o + 1) _ _ (setCell_heap h o v)
  exact ⟨h1,fun b' hb => (h2 b' hb).trans (setCell_other hb o v),h3.trans (setCell_size _ _ _)⟩
theorem stores_i {w : World} {g o : Nat} {vs cs : List Value} {k : World -> Prop} (hB : Bk w.heap g cs) (hl : o + vs.length <= cs.length)
  (H : ∀ w2,Bk w2.heap g (sets cs o vs) -> Fr (· = g) w.heap w2.heap -> w2.heap.size = w.heap.size -> k w2) : stores w g o vs k := by
 refine ⟨(wrRow_iff _ _).2 fun j hj => hB.wr (by omega),?_⟩
 obtain ⟨ty,hB⟩ := hB
 obtain ⟨h1,h2,h3⟩ := setRow_ok vs o w cs hB
 exact H _ ⟨ty,h1⟩ ⟨by rw [h3]; exact Nat.le_refl _,fun b _ hb => h2 b hb⟩ h3
theorem holds_i {w : World} {g o : Nat} {vs cs : List Value} (hB : Bk w.heap g cs) (h : ∀ j,j < vs.length -> cs[o + j]? = vs[j]?) : holds w g o vs := by
 rw [holds_iff]
 intro j v hj
 rw [hB.cell,h j (List.getElem?_eq_some_iff.1 hj).1,hj]
theorem holdsRow_i {w : World} {g o m : Nat} {cs : List Value} {row : Array Value} (hB : Bk w.heap g cs) (hs : row.size = m) (h : ∀ j,j < m -> cs[o + j]? = row[j]?) : holdsRow w g o m row :=
 ⟨hs,fun i hi => by rw [hB.cell,h i hi]⟩
structure Enc (α : Type) where
 f : α -> List Value
 sz : Nat
 len : ∀ x,(f x).length = sz
 one : ∀ x v,v ∈ f x -> v.oneCell' = true
 pos : 0 < sz
def recs {α : Type} (E : Enc α) (l : List α) : List Value := l.flatMap E.f
section
variable {α : Type} {E : Enc α}
theorem recs_nil : recs E [] = [] := rfl
theorem recs_cons (x : α) (l : List α) : recs E (x :: l) = E.f x ++ recs E l := by simp [recs]
theorem recs_append (l m : List α) : recs E (l ++ m) = recs E l ++ recs E m := by simp [recs]
theorem recs_length : ∀ (l : List α),(recs E l).length = l.length * E.sz
 | [] => by simp [recs]
 | x :: l => by rw [recs_cons,List.length_append,E.len,recs_length l,List.length_cons,Nat.succ_mul,Nat.add_comm]
theorem recs_one (l : List α) : ∀ v ∈ recs E l,v.oneCell' = true := by
 intro v hv
 obtain ⟨x,_,hx⟩ := List.mem_flatMap.1 hv
 exact E.one x v hx
theorem recs_split {l : List α} {i : Nat} {x : α} (h : l[i]? = some x) : recs E l = recs E (l.take i) ++ E.f x ++ recs E (l.drop (i + 1)) := by
 obtain ⟨hi,rfl⟩ := List.getElem?_eq_some_iff.1 h
 conv => lhs; rw [<- List.take_append_drop i l,List.drop_eq_getElem_cons hi]
 rw [recs_append,recs_cons,List.append_assoc]
theorem recs_get {l : List α} {i : Nat} {x : α} (h : l[i]? = some x) {j : Nat} (hj : j < E.sz) : (recs E l)[i * E.sz + j]? = (E.f x)[j]? := by
 have hi := (List.getElem?_eq_some_iff.1 h).1
 have hl : (recs E (l.take i)).length = i * E.sz := by rw [recs_length,List.length_take,Nat.min_eq_left (Nat.le_of_lt hi)]
 rw [recs_split h,List.append_assoc,List.getElem?_append_right (by omega),hl,show i * E.sz + j - i * E.sz = j by omega,List.getElem?_append_left (by rw [E.len]; exact hj)]
theorem recs_take : ∀ (l : List α) (i : Nat),(recs E l).take (i * E.sz) = recs E (l.take i)
 | l,0 => by simp [recs_nil]
 | [],i + 1 => by simp [recs_nil]
 | x :: l,i + 1 => by
  rw [recs_cons,List.take_succ_cons,recs_cons,<- recs_take l i,Nat.succ_mul,Nat.add_comm,<- E.len x,List.take_length_add_append]
theorem recs_drop : ∀ (l : List α) (i : Nat),(recs E l).drop (i * E.sz) = recs E (l.drop i)
 | l,0 => by simp
 | [],i + 1 => by simp [recs_nil]
 | x :: l,i + 1 => by
  rw [recs_cons,List.drop_succ_cons,<- recs_drop l i,Nat.succ_mul,Nat.add_comm,<- E.len x,List.drop_length_add_append]
theorem recs_set {l : List α} {i : Nat} (hi : i < l.length) (x : α) : recs E (l.set i x) = sets (recs E l) (i * E.sz) (E.f x) := by
 have hlen := recs_length (E := E) l
 have hle : (i + 1) * E.sz <= l.length * E.sz := Nat.mul_le_mul_right _ hi
 have h1 : (l.set i x)[i]? = some x := by simp [hi]
 rw [sets_eq _ _ _ (by rw [E.len,hlen,<- Nat.succ_mul]; exact hle),E.len,<- Nat.succ_mul,recs_take,recs_drop,recs_split h1,List.take_set_of_le (Nat.le_refl i),List.drop_set_of_lt (by omega)]
end
abbrev E1 {α : Type} (v : α -> Value) (h : ∀ x,(v x).oneCell' = true) : Enc α := ⟨fun x => [v x],1,fun _ => rfl,fun x u hu => by simp at hu; subst hu; exact h x,Nat.one_pos⟩
abbrev eI64 : Enc Int := E1 (Value.int .i64) fun _ => rfl
abbrev eU32 : Enc Int := E1 (Value.int .u32) fun _ => rfl
abbrev eU8 : Enc Int := E1 (Value.int .u8) fun _ => rfl
abbrev eBool : Enc Bool := E1 Value.bool fun _ => rfl
abbrev eStr : Enc ByteArray := E1 Value.string fun _ => rfl
theorem recs_E1 {α : Type} {v : α -> Value} {h : ∀ x,(v x).oneCell' = true} (l : List α) : recs (E1 v h) l = l.map v := by
 induction l with
 | nil => rfl
 | cons x l ih => rw [recs_cons,ih]; rfl
theorem recs_u32 (l : List Int) : recs eU32 l = l.map (Value.int .u32) := recs_E1 l
theorem recs_i64 (l : List Int) : recs eI64 l = l.map (Value.int .i64) := recs_E1 l
theorem recs_u8 (l : List Int) : recs eU8 l = l.map (Value.int .u8) := recs_E1 l
theorem recs_bool (l : List Bool) : recs eBool l = l.map Value.bool := recs_E1 l
structure Sl (h : Hp) (ok : Nat -> Prop) {α : Type} (E : Enc α) (p : Option Addr) (n c : Nat) (l : List α) : Prop where
 len : l.length = n
 cap : n <= c
 nul : p = none -> c = 0
 blk : c ≠ 0 -> ∃ (b : Nat) (pre post : List Value),p = some ⟨b,pre.length,none⟩ /\ ok b /\ (c - n) * E.sz <= post.length /\ Bk h b (pre ++ recs E l ++ post)
 small : n <= 1125899906842624
section
variable {α : Type} {E : Enc α} {h h' : Hp} {ok ok' S : Nat -> Prop} {p : Option Addr} {n c : Nat} {l : List α}
theorem Sl.nil : Sl h ok E none 0 0 [] := ⟨rfl,Nat.le_refl _,fun _ => rfl,fun h => absurd rfl h,by omega⟩
theorem Sl.fr (hs : Sl h ok E p n c l) (hf : Fr S h h') (hd : ∀ b,b < h.size -> ok b -> ¬ S b) (hok : ∀ b,b < h.size -> ok b -> ok' b) : Sl h' ok' E p n c l :=
 ⟨hs.len,hs.cap,hs.nul,fun hc => by
  obtain ⟨b,pre,post,hp,hb,hl,hB⟩ := hs.blk hc
  exact ⟨b,pre,post,hp,hok b hB.lt hb,hl,hB.fr hf (hd b hB.lt hb)⟩,hs.small⟩
theorem Sl.nw (hs : Sl h ok E p n c l) (hf : Nw h h') : Sl h' ok E p n c l := hs.fr hf (fun _ _ _ h => h) fun _ _ h => h
theorem Sl.mono (hs : Sl h ok E p n c l) (hok : ∀ b,b < h.size -> ok b -> ok' b) : Sl h ok' E p n c l := hs.fr (Fr.refl (fun _ => False) h) (fun _ _ _ h => h) hok
theorem Sl.addr (hs : Sl h ok E p n c l) {i : Nat} (hi : i < n) : ∃ (b : Nat) (pre post : List Value),p = some ⟨b,pre.length,none⟩ /\ ok b /\ (c - n) * E.sz <= post.length /\ Bk h b (pre ++ recs E l ++ post) :=
 hs.blk (by have := hs.cap; omega)
theorem mid_get {pre post r : List Value} {j : Nat} (hj : j < r.length) : (pre ++ r ++ post)[pre.length + j]? = r[j]? := by
 rw [List.append_assoc,List.getElem?_append_right (by omega),Nat.add_sub_cancel_left,List.getElem?_append_left hj]
theorem rec_lt {i k m : Nat} (hi : i < n) (hk : k < m) : i * m + k < n * m := by
 have : (i + 1) * m <= n * m := Nat.mul_le_mul_right _ hi
 rw [Nat.succ_mul] at this
 omega
theorem Sl.idx {w : World} {K : Nat -> Nat -> Prop} (hs : Sl w.heap ok E p n c l) {i : Nat} {x : α} (hx : l[i]? = some x)
  (H : ∀ g o,ok g -> holds w g (o + i * E.sz) (E.f x) -> K g o) : onPtr p K := by
 have hi := (List.getElem?_eq_some_iff.1 hx).1
 rw [hs.len] at hi
 obtain ⟨b,pre,post,rfl,hb,_,hB⟩ := hs.addr hi
 refine H b pre.length hb (holds_i hB fun j hj => ?_)
 rw [E.len] at hj
 rw [Nat.add_assoc,mid_get (by rw [recs_length,hs.len]; exact rec_lt hi hj),recs_get hx hj]
theorem Sl.idx1 {v : α -> Value} {h1 : ∀ x,(v x).oneCell' = true} {w : World} {K : Nat -> Nat -> Prop} (hs : Sl w.heap ok (E1 v h1) p n c l) {i : Nat} {x : α} (hx : l[i]? = some x)
  (H : ∀ g o,ok g -> w.cell? ⟨g,o + i * 1,none⟩ = some (v x) -> K g o) : onPtr p K := hs.idx hx H
theorem sets_mid (pre r post vs : List Value) (j : Nat) (hj : j + vs.length <= r.length) : sets (pre ++ r ++ post) (pre.length + j) vs = pre ++ sets r j vs ++ post := by
 rw [sets_eq _ _ _ (by simp; omega),sets_eq _ _ _ hj,List.append_assoc pre r post,List.take_length_add_append,show pre.length + j + vs.length = pre.length + (j + vs.length) by omega,List.drop_length_add_append,
  List.take_append_of_le_length (by omega),List.drop_append_of_le_length (by omega)]
 simp
theorem Sl.st {w : World} {K : Nat -> Nat -> Prop} (hs : Sl w.heap ok E p n c l) {i : Nat} (hi : i < n) (x : α)
  (H : ∀ g o,ok g -> (∀ k,(∀ w2,Sl w2.heap ok E p n c (l.set i x) -> Fr (· = g) w.heap w2.heap -> w2.heap.size = w.heap.size -> k w2) -> stores w g (o + i * E.sz) (E.f x) k) -> K g o) : onPtr p K := by
 obtain ⟨b,pre,post,rfl,hb,hl,hB⟩ := hs.addr hi
 have hle : i * E.sz + E.sz <= n * E.sz := by rw [<- Nat.succ_mul]; exact Nat.mul_le_mul_right _ hi
 refine H b pre.length hb fun k hk => stores_i hB (by rw [E.len]; simp [recs_length,hs.len]; omega) fun w2 h2 hf hz => hk w2 ⟨by simp [hs.len],hs.cap,hs.nul,fun _ => ⟨b,pre,post,rfl,hb,hl,?_⟩,hs.small⟩ hf hz
 rw [recs_set (by rw [hs.len]; exact hi),<- sets_mid _ _ _ _ _ (by rw [E.len,recs_length,hs.len]; exact hle)]
 exact h2
theorem Sl.cut (hs : Sl h ok E p n c l) {lo hi mx : Nat} (h1 : lo <= hi) (h2 : hi <= n) (h3 : hi <= mx) (h4 : mx <= c) : Sl h ok E (cutAt p mx lo E.sz) (hi - lo) (mx - lo) ((l.drop lo).take (hi - lo)) := by
 refine ⟨by rw [List.length_take,List.length_drop,hs.len]; omega,by omega,fun hp => ?_,fun hc => ?_,by have := hs.small; omega⟩
 ·unfold cutAt at hp
  by_cases hm : mx = lo
  ·omega
  ·rw [if_neg hm] at hp
   cases p with
   | none => have := hs.nul rfl; omega
   | some a => cases hp
 ·obtain ⟨b,pre,post,rfl,hb,hl,hB⟩ := hs.blk (by omega)
  refine ⟨b,pre ++ recs E (l.take lo),recs E (l.drop hi) ++ post,?_,hb,?_,?_⟩
  ·unfold cutAt
   rw [if_neg (by omega)]
   simp only [Option.map_some,addr_add,List.length_append,recs_length,List.length_take,hs.len]
   rw [Nat.min_eq_left (by omega)]
  ·simp only [List.length_append,recs_length,List.length_drop,hs.len]
   have e1 : (mx - lo - (hi - lo)) * E.sz <= ((n - hi) + (c - n)) * E.sz := Nat.mul_le_mul_right _ (by omega)
   rw [Nat.add_mul] at e1
   omega
  ·have e : recs E (l.take lo) ++ recs E ((l.drop lo).take (hi - lo)) ++ recs E (l.drop hi) = recs E l := by
    rw [<- recs_append,<- recs_append]
    congr 1
    have : l.drop hi = (l.drop lo).drop (hi - lo) := by rw [List.drop_drop]; congr 1; omega
    rw [this,List.append_assoc,List.take_append_drop,List.take_append_drop]
   have : pre ++ recs E (l.take lo) ++ recs E ((l.drop lo).take (hi - lo)) ++ (recs E (l.drop hi) ++ post) = pre ++ recs E l ++ post := by rw [<- e]; simp
   rw [this]
   exact hB
end
structure SlTy {α : Type} (P : Program) (T el : TypeId) (E : Enc α) : Prop where
 und : P.underlying T = some (.slice el)
 info : ∃ i z,P.info? el = some i /\ i.zero = some z /\ i.size = E.sz /\ i.bytes <= 1024 /\ z.cells.size = E.sz
theorem SlTy.mk' {α : Type} {P : Program} {T el : TypeId} {E : Enc α} {z : Value} {s b : Nat} (hu : P.underlying T = some (.slice el)) (hi : (P.info? el).map (fun i => (i.zero,i.size,i.bytes)) = some (some z,s,b))
  (hs : s = E.sz) (hb : b <= 1024) (hz : z.cells.size = E.sz) : SlTy P T el E := by
 obtain ⟨i,h1,h2,h3,h4⟩ := info_parts hi
 exact ⟨hu,i,z,h1,h2,h3.trans hs,by omega,hz⟩
theorem nextcap_le (m c : Nat) (h : c < m) : Builtin.nextslicecap m c <= 2 * m + 1000 := by
 have g : ∀ (r x : Nat),x <= 2 * m + 1000 -> Builtin.growBy m r x <= 2 * m + 1000 := by
  intro r
  induction r with
  | zero => intro x hx; exact hx
  | succ r ih =>
   intro x hx
   simp only [Builtin.growBy]
   split
   ·exact hx
   ·exact ih _ (by omega)
 unfold Builtin.nextslicecap
 split
 ·omega
 ·split
  ·omega
  ·exact g 4 c (by omega)
theorem zeroCells_size (z : Array Value) (n : Nat) : (Builtin.zeroCells z n).size = n * z.size := by simp [Builtin.zeroCells]
theorem slice_cells {α : Type} {E : Enc α} {w : World} {ok : Nat -> Prop} {p : Option Addr} {n c : Nat} {l : List α} (hs : Sl w.heap ok E p n c l) (P : Program) :
  (Builtin.firstCells E.sz n (.slice p n c)).run P w = .ok (recs E l).toArray w := by
 by_cases hc : c = 0
 ·have hn : n = 0 := by have := hs.cap; omega
  have hl : l = [] := List.eq_nil_of_length_eq_zero (by rw [hs.len,hn])
  subst hc hn hl
  cases p with
  | none => simp [Builtin.firstCells,recs_nil]
  | some a => exact run_firstCells_some w E.sz 0 a 0 0 [] (by simp) (fun j v hj => by simp at hj)
 ·obtain ⟨b,pre,post,rfl,hb,hl,hB⟩ := hs.blk hc
  refine run_firstCells_some w E.sz n _ n c (recs E l) (by rw [recs_length,hs.len]) fun j v hj => ?_
  rw [addr_add,hB.cell,mid_get (List.getElem?_eq_some_iff.1 hj).1,hj]
theorem slice_src {α : Type} {E : Enc α} {w : World} {ok : Nat -> Prop} {p : Option Addr} {n c : Nat} {l : List α} (hs : Sl w.heap ok E p n c l) {P : Program} {T el : TypeId} (hT : P.underlying T = some (.slice el)) :
  Src P E.sz T (.slice p n c) n (recs E l) w :=
 ⟨.inl ⟨el,hT⟩,fun _ => rfl,slice_cells hs P,slice_cells (w := w.drew) hs P,by rw [recs_length,hs.len],recs_one l⟩
def Old (S : Nat -> Prop) (h : Hp) : Nat -> Prop := fun b => S b \/ h.size <= b
theorem append_src {α : Type} {E : Enc α} {P : Program} {T Tx ty el : TypeId} (tf : SlTy P T el E) {w : World} {ok : Nat -> Prop} {p : Option Addr} {n c : Nat} {l l2 : List α} {x : Value} {n2 : Nat}
  (h1 : Sl w.heap ok E p n c l) (h2 : Src P E.sz Tx x n2 (recs E l2) w) (hb : n + n2 <= 1073741824) {K : Option Addr -> Nat -> Nat -> World -> Prop}
  (H : ∀ p' c' w',Sl w'.heap (Old ok w.heap) E p' (n + n2) c' (l ++ l2) -> Fr ok w.heap w'.heap -> K p' (n + n2) c' w') :
  ∃ (px : Option Addr) (nx cx : Nat),∃ w1,(Builtin.append_ #[T,Tx] ty #[.slice p n c,x]).run P w = .ok (.slice px nx cx) w1 /\ Aft w w1 /\ K px nx cx w1 := by
 obtain ⟨hu,i,z,hi,hz,hsz,hbytes,hzs⟩ := tf
 have hl2 : l2.length = n2 := by
  have := h2.newsLen
  rw [recs_length] at this
  exact Nat.eq_of_mul_eq_mul_right E.pos this
 by_cases hr : n + n2 <= c
 ·by_cases h0 : n2 = 0
  ·have hn : l2 = [] := List.eq_nil_of_length_eq_zero (by omega)
   subst h0 hn
   have hrun := run_append_nothing (P := P) w T Tx ty el i hu hi p n c h1.cap x (by rw [hsz]; exact h2)
   refine ⟨p,n,c,w,hrun,Aft.refl w,?_⟩
   exact H p c w (by rw [List.append_nil,Nat.add_zero]; exact h1.mono fun _ _ h => .inl h) (Fr.refl _ _)
  ·obtain ⟨b,pre,post,rfl,hbk,hl,hB⟩ := h1.blk (by omega)
   have hcs : (n + n2) * E.sz <= c * E.sz := Nat.mul_le_mul_right _ hr
   have hn : (recs E l).length = n * E.sz := by rw [recs_length,h1.len]
   have hn2 : (recs E l2).length = n2 * E.sz := by rw [recs_length,hl2]
   have hpost : n2 * E.sz <= post.length := by
    refine Nat.le_trans ?_ hl
    exact Nat.mul_le_mul_right _ (by omega)
   have hin : pre.length + n * E.sz + (recs E l2).length <= (pre ++ recs E l ++ post).length := by simp only [List.length_append,hn,hn2]; omega
   have hrun := run_append_room_src (P := P) w T Tx ty el i hu hi b pre.length n c x n2 (recs E l2) (by rw [hsz]; exact h2) hr
    (fun j hj => by obtain ⟨u,hu⟩ := (hB.wr (o := pre.length + n * i.size + j) (by rw [hsz]; omega)).1; rw [hu]; rfl)
    (fun j hj => (hB.wr (o := pre.length + n * i.size + j) (by rw [hsz]; omega)).2)
   obtain ⟨t,hB⟩ := hB
   have hset : ∀ (vs : List Value) (o : Nat) (w : World),w.setCells b o vs = setRow w b o vs := by
    intro vs
    induction vs with
    | nil => intro o w; rfl
    | cons v r ih => intro o w; simp only [World.setCells,setRow,ih]
   rw [hset] at hrun
   obtain ⟨g1,g2,g3⟩ := setRow_ok (recs E l2) (pre.length + n * i.size) w _ hB
   refine ⟨_,_,_,_,hrun,aft_setRow _ _ _,H _ _ _ ⟨by simp [h1.len,hl2],hr,(by intro h; cases h),fun hc => ⟨b,pre,post.drop (n2 * E.sz),rfl,.inl hbk,?_,t,?_⟩,by omega⟩ ⟨by rw [g3]; exact Nat.le_refl _,fun b' _ hne => g2 b' fun he => hne (he ▸ hbk)⟩⟩
   ·rw [List.length_drop,show c - (n + n2) = (c - n) - n2 by omega,Nat.sub_mul]; omega
   ·rw [g1,hsz,sets_eq _ _ _ hin,<- hn,List.append_assoc pre,List.take_length_add_append,show pre.length + (recs E l).length + (recs E l2).length = pre.length + ((recs E l).length + (recs E l2).length) by omega,
     List.drop_length_add_append,List.take_left,List.drop_length_add_append,hn2,recs_append]
    simp only [List.append_assoc]
 ·have hcap := nextcap_le (n + n2) c (by omega)
  have hfit : Builtin.nextslicecap (n + n2) c * i.bytes <= 281474976710656 := by
   refine Nat.le_trans (Nat.mul_le_mul hcap hbytes) ?_
   omega
  have hrun := run_append_grow_src (P := P) w T Tx ty el i z hu hi hz p n c (recs E l) (by rw [hsz]; exact slice_cells (w := w.drew) h1 P) x n2 (recs E l2) (by rw [hsz]; exact h2) (by omega) (by omega) hfit
  have hg : n + n2 <= grownCap w (n + n2) c el := Nat.le_add_right _ _
  refine ⟨_,_,_,_,hrun,⟨rfl,rfl⟩,H _ _ _ ⟨by simp [h1.len,hl2],hg,(by intro h; cases h),fun _ => ⟨w.heap.size,[],(Builtin.zeroCells z.cells (grownCap w (n + n2) c el - (n + n2))).toList,rfl,.inr (Nat.le_refl _),?_,el,?_⟩,by omega⟩ ?_⟩
  ·rw [Array.length_toList,zeroCells_size,hzs]; exact Nat.le_refl _
  ·simp only [alloc_heap]
   rw [show w.drew.heap = w.heap from rfl,Array.getElem?_push_size]
   congr 2
   apply Array.ext'
   simp [recs_append]
  ·refine ⟨by rw [alloc_heap,show w.drew.heap = w.heap from rfl]; simp,fun b hb _ => ?_⟩
   simp only [alloc_heap]
   rw [show w.drew.heap = w.heap from rfl,Array.getElem?_push_lt hb,Array.getElem?_eq_getElem hb]
theorem append_r {α : Type} {E : Enc α} {P : Program} {T ty el : TypeId} (tf : SlTy P T el E) {w : World} {ok ok2 : Nat -> Prop} {p p2 : Option Addr} {n c n2 c2 : Nat} {l l2 : List α}
  (h1 : Sl w.heap ok E p n c l) (h2 : Sl w.heap ok2 E p2 n2 c2 l2) (hb : n + n2 <= 1073741824) {K : Option Addr -> Nat -> Nat -> World -> Prop}
  (H : ∀ p' c' w',Sl w'.heap (Old ok w.heap) E p' (n + n2) c' (l ++ l2) -> Fr ok w.heap w'.heap -> K p' (n + n2) c' w') :
  ∃ (px : Option Addr) (nx cx : Nat),∃ w1,(Builtin.append_ #[T,T] ty #[.slice p n c,.slice p2 n2 c2]).run P w = .ok (.slice px nx cx) w1 /\ Aft w w1 /\ K px nx cx w1 :=
 append_src tf h1 (slice_src h2 tf.und) hb H
theorem Sl.of_blk {α : Type} {E : Enc α} {h : Hp} {ok : Nat -> Prop} {b : Nat} {l : List α} (hB : Bk h b (recs E l)) (hb : ok b) {n : Nat} (hn : l.length = n) (hs : n <= 1125899906842624) : Sl h ok E (some ⟨b,0,none⟩) n n l :=
 ⟨hn,Nat.le_refl _,(by intro h; cases h),fun _ => ⟨b,[],[],rfl,hb,by simp,by simpa using hB⟩,hs⟩
theorem madeCells_recs {α : Type} {E : Enc α} {z : Array Value} {x : α} (hz : z.toList = E.f x) (m : Nat) : (madeCells z (m * E.sz)).toList = recs E (List.replicate m x) := by
 have hzs : z.size = E.sz := by rw [<- Array.length_toList,hz,E.len]
 apply List.ext_getElem?
 intro j
 unfold madeCells
 by_cases hj : j < m * E.sz
 ·have hp := E.pos
  have hd : j = j / E.sz * E.sz + j % E.sz := by rw [Nat.mul_comm]; exact (Nat.div_add_mod j E.sz).symm
  have hq : j / E.sz < m := (Nat.div_lt_iff_lt_mul hp).2 hj
  have hr := Nat.mod_lt j hp
  have hjz : j % E.sz < z.size := by rw [hzs]; exact hr
  have e1 : (recs E (List.replicate m x))[j]? = (E.f x)[j % E.sz]? := by
   conv => lhs; rw [hd]
   exact recs_get (x := x) (by simp [hq]) hr
  rw [e1,<- hz]
  simp only [Array.toList_map,Array.toList_range,List.getElem?_map,List.getElem?_range hj,Option.map_some,hzs,Array.getElem?_toList]
  rw [getElem!_pos z _ hjz,Array.getElem?_eq_getElem hjz]
 ·rw [List.getElem?_eq_none (by simpa using hj),List.getElem?_eq_none (by rw [recs_length,List.length_replicate]; omega)]
theorem make_r {α : Type} {E : Enc α} {P : Program} {T el : TypeId} {w : World} {x : α} {kl kc : IntKind} {m : Nat} (hu : P.underlying T = some (.slice el)) {z : Value} {s bytes : Nat}
  (hi : (P.info? el).map (fun i => (i.zero,i.size,i.bytes)) = some (some z,s,bytes)) (hs : s = E.sz) (hby : bytes <= 1024) (hz : z.cells.toList = E.f x) (hm : m <= 1073741824) {K : Option Addr -> Nat -> Nat -> World -> Prop}
  (H : ∀ b w',w.heap.size <= b -> Sl w'.heap (fun b => w.heap.size <= b) E (some ⟨b,0,none⟩) m m (List.replicate m x) -> Nw w.heap w'.heap -> K (some ⟨b,0,none⟩) m m w') :
  ∃ (px : Option Addr) (nx cx : Nat),∃ w1,(Instr.makeSlice T (.int kl (m : Int)) (.int kc (m : Int))).run P w = .ok (.slice px nx cx) w1 /\ Aft w w1 /\ K px nx cx w1 := by
 obtain ⟨i,h1,h2,h3,h4⟩ := info_parts hi
 have hb : (i.bytes : Int) * (m : Int) <= 281474976710656 := by
  have : i.bytes * m <= 1024 * 1073741824 := Nat.mul_le_mul (by omega) hm
  have h' : ((i.bytes * m : Nat) : Int) <= 281474976710656 := by omega
  rwa [Int.natCast_mul] at h'
 have hrun := run_make (P := P) w T el i z hu h1 h2 kl kc m m (by omega) (Int.le_refl _) hb (by omega)
 simp only [Int.toNat_natCast] at hrun
 refine ⟨_,_,_,_,hrun,⟨rfl,rfl⟩,H _ _ (Nat.le_refl _) (Sl.of_blk ⟨el,?_⟩ (Nat.le_refl _) (by simp) (by omega)) ⟨?_,fun b hb _ => ?_⟩⟩
 ·have : i.size = E.sz := by omega
  rw [alloc_heap,Array.getElem?_push_size,this]
  congr 2
  rw [<- madeCells_recs hz]
 ·simp [alloc_heap]
 ·rw [alloc_heap,Array.getElem?_push_lt hb,Array.getElem?_eq_getElem hb]
end
section
def dr (w : World) (n : Nat) : World := { w with drawn := w.drawn + n }
@[simp] theorem dr_heap (w : World) (n : Nat) : (dr w n).heap = w.heap := rfl
@[simp] theorem dr_cell (w : World) (n : Nat) (a : Addr) : (dr w n).cell? a = w.cell? a := rfl
theorem drew_dr (w : World) : w.drew = dr w 1 := rfl
theorem dr_dr (w : World) (n m : Nat) : dr (dr w n) m = dr w (n + m) := by simp [dr,Nat.add_assoc]
@[simp] theorem drew_heap' (w : World) : w.drew.heap = w.heap := rfl
def Is (v : Value) (w : World) : Ending -> World -> Prop := fun en w' => en = .returned v /\ ∃ n,w' = dr w n
def Mk (v : Value) (w : World) : Ending -> World -> Prop := fun en w' => en = .returned v /\ Nw w.heap w'.heap
theorem Is.mk (v : Value) (w : World) : Is v w (.returned v) w := ⟨rfl,0,rfl⟩
theorem Is.dr (v : Value) (w : World) (n : Nat) : Is v w (.returned v) (dr w n) := ⟨rfl,n,rfl⟩
theorem Nw.rfl' {h : Hp} : Nw h h := Fr.refl _ _
theorem Nw.tr {a b c : Hp} (h1 : Nw a b) (h2 : Nw b c) : Nw a c := h1.trans' h2
theorem Nw.tr' {S : Nat -> Prop} {a b c : Hp} (h1 : Nw a b) (h2 : Fr S b c) (hS : ∀ x,S x -> a.size <= x) : Nw a c :=
 h1.trans h2 (fun _ _ h => h) fun x hx hs => absurd (hS x hs) (by omega)
theorem Nw.st {a b c : Hp} {x : Nat} (h1 : Nw a b) (h2 : Fr (· = x) b c) (hx : a.size <= x) : Nw a c := h1.tr' h2 fun y hy => by rw [hy]; exact hx
theorem Nw.dr {h : Hp} {w : World} (n : Nat) (h1 : Nw h w.heap) : Nw h (dr w n).heap := h1
@[simp] theorem br_true {p q : Prop} : br true p q = p := rfl
@[simp] theorem br_false {p q : Prop} : br false p q = q := rfl
@[simp] theorem chk_true {p : Prop} : chk true p = p := rfl
theorem br_ite {b : Bool} {p q : Prop} : br b p q ↔ if b = true then p else q := by cases b <;> simp [br]
theorem br_or {b c : Bool} {w : World} {J : Bool -> World -> Prop} : br b (J b w) (J c w) = J (b || c) w := by cases b <;> rfl
theorem onPtr_some {g o : Nat} {k : Nat -> Nat -> Prop} : onPtr (some ⟨g,o,none⟩) k = k g o := rfl
theorem onIface_some {t : TypeId} {v : Value} {k : TypeId -> Value -> Prop} : onIface (.iface t v) k = k t v := rfl
theorem onFunc_some {g : FuncId} {a b : Array Value} {k : FuncId -> Array Value -> Array Value -> Prop} : onFunc (.func (.func g) a b) k = k g a b := rfl
theorem nilVC_iface {P : Program} {t : TypeId} {v : Value} {K : Value -> Prop} : nilVC P (.iface t v) K = K (.iface t v) := rfl
theorem wv_eq {x : World} {k : World -> Prop} : wv x k = k x := rfl
theorem join_eq {α : Type} {j : α} {k : α -> Prop} : join j k = k j := rfl
theorem List.toArray_eq_iff' {α : Type} {l m : List α} : l.toArray = m.toArray ↔ l = m := ⟨fun h => by have := congrArg Array.toList h; simpa using this,fun h => by rw [h]⟩
theorem wrap_id {x : Int} (h1 : -9223372036854775808 <= x) (h2 : x <= 9223372036854775807) : IntKind.wrap .i64 x = x := by rw [IntKind.wrap_i64]; omega
theorem wrap_i64 (x : Int) : IntKind.wrap .i64 x = (x + 9223372036854775808) % 18446744073709551616 - 9223372036854775808 := by rw [IntKind.wrap_i64]
abbrev Z1 := @List.getElem?_cons_succ
abbrev Z2 := @List.getElem?_cons_zero
abbrev Z3 := @Option.some.injEq
abbrev Z4 := @Ending.returned.injEq
abbrev Z5 := @Value.int.injEq
abbrev Z6 := @Value.bool.injEq
abbrev Z7 := @Value.slice.injEq
abbrev Z8 := @Value.pointer.injEq
abbrev Z9 := @Value.map.injEq
abbrev ZA := @Value.string.injEq
abbrev ZB := @Value.iface.injEq
abbrev ZC := @Value.tuple.injEq
abbrev ZD := @Value.agg.injEq
abbrev ZE := @List.toArray_eq_iff'
abbrev ZF := @List.cons.injEq
abbrev ZG := @Addr.mk.injEq
abbrev ZH := @List.set_cons_succ
abbrev ZI := @List.set_cons_zero
abbrev ZJ := @decide_eq_true_eq
abbrev ZK := @decide_eq_false_iff_not
abbrev ZL := @Bool.not_eq_true'
abbrev ZM := @Bool.not_eq_false'
abbrev ZN := @Bool.not_eq_true
abbrev ZO := @Bool.not_eq_false
abbrev ZP := @Classical.not_not
abbrev ZQ := @Int.not_lt
abbrev ZR := @Int.not_le
abbrev ZS := @exists_and_left
abbrev ZT := @exists_eq_left'
abbrev ZU := @World.cell?_drew
end
section
structure TVal where
 kind : Int
 n : Int
 deriving DecidableEq,Repr,Inhabited
structure TBind where
 sel : Int
 method : Int
 deriving DecidableEq,Repr,Inhabited
structure TClass where
 name : ByteArray
 super : Int
 fields : Int
 binds : List TBind
 deriving DecidableEq,Inhabited
structure TMethod where
 args : Int
 temps : Int
 lits : List TVal
 code : List Int
 deriving DecidableEq,Repr,Inhabited
structure TObj where
 cls : Int
 fields : List TVal
 deriving DecidableEq,Repr,Inhabited
structure TUnit where
 names : List ByteArray
 classes : List TClass
 methods : List TMethod
 objects : List TObj
 main : Int
 deriving DecidableEq,Inhabited
structure TEvent where
 kind : Int
 proc : Int
 val : TVal
 deriving DecidableEq,Repr,Inhabited
structure Hd where
 p : Option Addr
 n : Nat
 c : Nat
structure CClass where
 name : ByteArray
 super : Int
 fields : Int
 binds : Hd
structure CMethod where
 args : Int
 temps : Int
 lits : Hd
 code : Hd
structure CObj where
 cls : Int
 fields : Hd
structure CUnit where
 names : Hd
 classes : Hd
 methods : Hd
 objects : Hd
 main : Int
abbrev Hd.v (h : Hd) : Value := .slice h.p h.n h.c
abbrev eVal : Enc TVal := ⟨fun v => [.int .i64 v.kind,.int .i64 v.n],2,fun _ => rfl,fun x u hu => by simp at hu; rcases hu with rfl | rfl <;> rfl,by omega⟩
abbrev eBind : Enc TBind := ⟨fun v => [.int .i64 v.sel,.int .i64 v.method],2,fun _ => rfl,fun x u hu => by simp at hu; rcases hu with rfl | rfl <;> rfl,by omega⟩
abbrev eEvent : Enc TEvent := ⟨fun v => [.int .i64 v.kind,.int .i64 v.proc,.int .i64 v.val.kind,.int .i64 v.val.n],4,fun _ => rfl,fun x u hu => by simp at hu; rcases hu with rfl | rfl | rfl | rfl <;> rfl,by omega⟩
abbrev CClass.vs (v : CClass) : List Value := [.string v.name,.int .i64 v.super,.int .i64 v.fields,.slice v.binds.p v.binds.n v.binds.c]
abbrev CMethod.vs (v : CMethod) : List Value := [.int .i64 v.args,.int .i64 v.temps,.slice v.lits.p v.lits.n v.lits.c,.slice v.code.p v.code.n v.code.c]
abbrev CObj.vs (v : CObj) : List Value := [.int .i64 v.cls,.slice v.fields.p v.fields.n v.fields.c]
abbrev CUnit.vs (u : CUnit) : List Value := [.slice u.names.p u.names.n u.names.c,.slice u.classes.p u.classes.n u.classes.c,.slice u.methods.p u.methods.n u.methods.c,.slice u.objects.p u.objects.n u.objects.c,.int .i64 u.main]
abbrev eClass : Enc CClass := ⟨CClass.vs,4,fun _ => rfl,fun x u hu => by simp at hu; rcases hu with rfl | rfl | rfl | rfl <;> rfl,by omega⟩
abbrev eMethod : Enc CMethod := ⟨CMethod.vs,4,fun _ => rfl,fun x u hu => by simp at hu; rcases hu with rfl | rfl | rfl | rfl <;> rfl,by omega⟩
abbrev eObj : Enc CObj := ⟨CObj.vs,2,fun _ => rfl,fun x u hu => by simp at hu; rcases hu with rfl | rfl <;> rfl,by omega⟩
theorem getD_some {α : Type} {l : List α} {i : Nat} {d : α} (h : i < l.length) : l[i]? = some (l.getD i d) := by simp [List.getD_eq_getElem?_getD,h]
structure All2 {α β : Type} (R : α -> β -> Prop) (l : List α) (m : List β) : Prop where
 len : l.length = m.length
 at_ : ∀ (i : Nat) (x : α) (y : β),l[i]? = some x -> m[i]? = some y -> R x y
theorem All2.nil {α β : Type} {R : α -> β -> Prop} : All2 R [] [] := ⟨rfl,fun i x y h => by simp at h⟩
theorem All2.mono {α β : Type} {R R' : α -> β -> Prop} {l : List α} {m : List β} (h : All2 R l m) (hr : ∀ x y,R x y -> R' x y) : All2 R' l m := ⟨h.len,fun i x y hx hy => hr x y (h.at_ i x y hx hy)⟩
theorem All2.get {α β : Type} {R : α -> β -> Prop} {l : List α} {m : List β} (h : All2 R l m) {i : Nat} {y : β} (hy : m[i]? = some y) : ∃ x,l[i]? = some x /\ R x y := by
 have hi : i < l.length := by rw [h.len]; exact (List.getElem?_eq_some_iff.1 hy).1
 exact ⟨l[i],by simp [hi],h.at_ i _ y (by simp [hi]) hy⟩
theorem All2.cons {α β : Type} {R : α -> β -> Prop} {l : List α} {m : List β} {x : α} {y : β} (h0 : R x y) (h : All2 R l m) : All2 R (x :: l) (y :: m) :=
 ⟨by simp [h.len],fun i a b ha hb => by
  cases i with
  | zero => simp at ha hb; subst ha hb; exact h0
  | succ i => exact h.at_ i a b (by simpa using ha) (by simpa using hb)⟩
theorem All2.append {α β : Type} {R : α -> β -> Prop} {l l' : List α} {m m' : List β} (h : All2 R l m) (h' : All2 R l' m') : All2 R (l ++ l') (m ++ m') := by
 refine ⟨by simp [h.len,h'.len],fun i a b ha hb => ?_⟩
 by_cases hi : i < l.length
 ·rw [List.getElem?_append_left hi] at ha
  rw [List.getElem?_append_left (h.len ▸ hi)] at hb
  exact h.at_ i a b ha hb
 ·rw [List.getElem?_append_right (by omega)] at ha
  rw [List.getElem?_append_right (by have := h.len; omega)] at hb
  rw [<- h.len] at hb
  exact h'.at_ _ a b ha hb
section
variable (h : Hp) (ok : Nat -> Prop)
abbrev SlH {α : Type} (E : Enc α) (d : Hd) (l : List α) : Prop := Sl h ok E d.p d.n d.c l
structure IsClass (c : CClass) (x : TClass) : Prop where
 name : c.name = x.name
 super : c.super = x.super
 fields : c.fields = x.fields
 binds : SlH h ok eBind c.binds x.binds
def Bytes (l : List Int) : Prop := ∀ x ∈ l,0 <= x /\ x < 256
structure IsMethod (c : CMethod) (x : TMethod) : Prop where
 args : c.args = x.args
 temps : c.temps = x.temps
 lits : SlH h ok eVal c.lits x.lits
 code : SlH h ok eU8 c.code x.code
 bytes : Bytes x.code
structure IsObj (c : CObj) (x : TObj) : Prop where
 cls : c.cls = x.cls
 fields : SlH h ok eVal c.fields x.fields
structure IsUnit (c : CUnit) (x : TUnit) : Prop where
 names : SlH h ok eStr c.names x.names
 classes : ∃ l,SlH h ok eClass c.classes l /\ All2 (IsClass h ok) l x.classes
 methods : ∃ l,SlH h ok eMethod c.methods l /\ All2 (IsMethod h ok) l x.methods
 objects : ∃ l,SlH h ok eObj c.objects l /\ All2 (IsObj h ok) l x.objects
 main : c.main = x.main
end
section
variable {h h' : Hp} {ok ok' S : Nat -> Prop}
theorem IsClass.fr {c : CClass} {x : TClass} (hc : IsClass h ok c x) (hf : Fr S h h') (hd : ∀ b,b < h.size -> ok b -> ¬ S b) (hok : ∀ b,b < h.size -> ok b -> ok' b) : IsClass h' ok' c x :=
 ⟨hc.name,hc.super,hc.fields,hc.binds.fr hf hd hok⟩
theorem IsMethod.fr {c : CMethod} {x : TMethod} (hc : IsMethod h ok c x) (hf : Fr S h h') (hd : ∀ b,b < h.size -> ok b -> ¬ S b) (hok : ∀ b,b < h.size -> ok b -> ok' b) : IsMethod h' ok' c x :=
 ⟨hc.args,hc.temps,hc.lits.fr hf hd hok,hc.code.fr hf hd hok,hc.bytes⟩
theorem IsObj.fr {c : CObj} {x : TObj} (hc : IsObj h ok c x) (hf : Fr S h h') (hd : ∀ b,b < h.size -> ok b -> ¬ S b) (hok : ∀ b,b < h.size -> ok b -> ok' b) : IsObj h' ok' c x :=
 ⟨hc.cls,hc.fields.fr hf hd hok⟩
theorem IsUnit.fr {c : CUnit} {x : TUnit} (hc : IsUnit h ok c x) (hf : Fr S h h') (hd : ∀ b,b < h.size -> ok b -> ¬ S b) (hok : ∀ b,b < h.size -> ok b -> ok' b) : IsUnit h' ok' c x := by
 obtain ⟨l1,a1,b1⟩ := hc.classes
 obtain ⟨l2,a2,b2⟩ := hc.methods
 obtain ⟨l3,a3,b3⟩ := hc.objects
 exact ⟨hc.names.fr hf hd hok,⟨l1,a1.fr hf hd hok,b1.mono fun _ _ h => h.fr hf hd hok⟩,⟨l2,a2.fr hf hd hok,b2.mono fun _ _ h => h.fr hf hd hok⟩,⟨l3,a3.fr hf hd hok,b3.mono fun _ _ h => h.fr hf hd hok⟩,hc.main⟩
theorem IsClass.nw {c : CClass} {x : TClass} (hc : IsClass h ok c x) (hf : Nw h h') : IsClass h' ok c x := hc.fr hf (fun _ _ _ h => h) fun _ _ h => h
theorem IsMethod.nw {c : CMethod} {x : TMethod} (hc : IsMethod h ok c x) (hf : Nw h h') : IsMethod h' ok c x := hc.fr hf (fun _ _ _ h => h) fun _ _ h => h
theorem IsObj.nw {c : CObj} {x : TObj} (hc : IsObj h ok c x) (hf : Nw h h') : IsObj h' ok c x := hc.fr hf (fun _ _ _ h => h) fun _ _ h => h
theorem IsUnit.nw {c : CUnit} {x : TUnit} (hc : IsUnit h ok c x) (hf : Nw h h') : IsUnit h' ok c x := hc.fr hf (fun _ _ _ h => h) fun _ _ h => h
end
theorem ty_int : SlTy P T.sl_int T.int eI64 := .mk' (z := .int .i64 0) (s := 1) (b := 8) (by kernel_rfl) (by kernel_rfl) rfl (by omega) rfl
theorem ty_u32 : SlTy P T.sl_uint32 T.uint32 eU32 := .mk' (z := .int .u32 0) (s := 1) (b := 4) (by kernel_rfl) (by kernel_rfl) rfl (by omega) rfl
theorem ty_u8 : SlTy P T.sl_uint8 T.uint8 eU8 := .mk' (z := .int .u8 0) (s := 1) (b := 1) (by kernel_rfl) (by kernel_rfl) rfl (by omega) rfl
theorem ty_str : SlTy P T.sl_string T.string eStr := .mk' (z := .string ⟨#[]⟩) (s := 1) (b := 16) (by kernel_rfl) (by kernel_rfl) rfl (by omega) rfl
theorem ty_val : SlTy P T.sl_api_Val T.api_Val eVal := .mk' (z := .agg #[.int .i64 0,.int .i64 0]) (s := 2) (b := 16) (by kernel_rfl) (by kernel_rfl) rfl (by omega) rfl
theorem ty_bind : SlTy P T.sl_api_Bind T.api_Bind eBind := .mk' (z := .agg #[.int .i64 0,.int .i64 0]) (s := 2) (b := 16) (by kernel_rfl) (by kernel_rfl) rfl (by omega) rfl
theorem ty_event : SlTy P T.sl_api_Event T.api_Event eEvent := .mk' (z := .agg #[.int .i64 0,.int .i64 0,.int .i64 0,.int .i64 0]) (s := 4) (b := 32) (by kernel_rfl) (by kernel_rfl) rfl (by omega) rfl
theorem ty_class : SlTy P T.sl_api_Class T.api_Class eClass := .mk' (z := .agg #[.string ⟨#[]⟩,.int .i64 0,.int .i64 0,.slice none 0 0]) (s := 4) (b := 56) (by kernel_rfl) (by kernel_rfl) rfl (by omega) rfl
theorem ty_method : SlTy P T.sl_api_Method T.api_Method eMethod := .mk' (z := .agg #[.int .i64 0,.int .i64 0,.slice none 0 0,.slice none 0 0]) (s := 4) (b := 64) (by kernel_rfl) (by kernel_rfl) rfl (by omega) rfl
theorem ty_obj : SlTy P T.sl_api_Obj T.api_Obj eObj := .mk' (z := .agg #[.int .i64 0,.slice none 0 0]) (s := 2) (b := 32) (by kernel_rfl) (by kernel_rfl) rfl (by omega) rfl
end
section
variable {w : World} {R : Ending -> World -> Prop}
def vZt (m0 : Int) (m1 : Int) (pm2 : Option Addr) (nm2 cm2 : Nat) (pm3 : Option Addr) (nm3 cm3 : Nat) (pc : Int) (w : World) (R : Value -> World -> Prop) : Prop :=
 newB w #[.int .i64 m0,.int .i64 m1,.slice pm2 nm2 cm2,.slice pm3 nm3 cm3] T.api_Method fun b q =>
 newB q #[.int .i64 0,.int .i64 0] T.code_Inst fun b1 q1 =>
 join (fun (t : Unit) (q2 : World) =>
 wv q2.drew fun q3 =>
 ∃ px nx cx,q3.cell? ⟨b,3,none⟩ = some (.slice px nx cx) /\
 chk (decide (0 <= pc) && decide (pc < (nx : Int))) (
 onPtr px fun g o =>
 ∃ x,q3.cell? ⟨g,o + pc.toNat * 1,none⟩ = some (.int .u8 x) /\
 ∃ px1 nx1 cx1,q3.cell? ⟨b,3,none⟩ = some (.slice px1 nx1 cx1) /\
 chk (decide (0 <= IntKind.wrap .i64 (pc + 1)) && decide (IntKind.wrap .i64 (pc + 1) < (nx1 : Int))) (
 onPtr px1 fun g1 o1 =>
 ∃ x1,q3.cell? ⟨g1,o1 + (IntKind.wrap .i64 (pc + 1)).toNat * 1,none⟩ = some (.int .u8 x1) /\
 stores q3 b1 0 [.int .i64 (IntKind.wrap .i64 x),.int .i64 (IntKind.wrap .i64 x1)] fun q4 =>
 True /\
 ∃ r0 r1,holds q4 b1 0 [.int .i64 r0,.int .i64 r1] /\
 R (.tuple #[.agg #[.int .i64 r0,.int .i64 r1],.bool true]) q4))) fun J3 =>
 br (decide (pc < 0)) (
 stores q1 b1 0 [.int .i64 0,.int .i64 0] fun q5 =>
 ∃ r01 r11,holds q5 b1 0 [.int .i64 r01,.int .i64 r11] /\
 R (.tuple #[.agg #[.int .i64 r01,.int .i64 r11],.bool false]) q5) (
 br (!(decide (Int.tmod pc 2 = 0))) (
 stores q1 b1 0 [.int .i64 0,.int .i64 0] fun q6 =>
 ∃ r02 r12,holds q6 b1 0 [.int .i64 r02,.int .i64 r12] /\
 R (.tuple #[.agg #[.int .i64 r02,.int .i64 r12],.bool false]) q6) (
 ∃ px2 nx2 cx2,q1.cell? ⟨b,3,none⟩ = some (.slice px2 nx2 cx2) /\
 br (decide (IntKind.wrap .i64 ((nx2 : Int) - 1) <= pc)) (
 stores q1 b1 0 [.int .i64 0,.int .i64 0] fun q7 =>
 ∃ r03 r13,holds q7 b1 0 [.int .i64 r03,.int .i64 r13] /\
 R (.tuple #[.agg #[.int .i64 r03,.int .i64 r13],.bool false]) q7) (
 J3 () q1)))
theorem oZt {m0 : Int} {m1 : Int} {pm2 : Option Addr} {nm2 cm2 : Nat} {pm3 : Option Addr} {nm3 cm3 : Nat} {pc : Int} (h : vZt m0 m1 pm2 nm2 cm2 pm3 nm3 cm3 pc w fun v w' => R (.returned v) w') : Calls P F.Zt #[.agg #[.int .i64 m0,.int .i64 m1,.slice pm2 nm2 cm2,.slice pm3 nm3 cm3],.int .i64 pc] w R :=
 calls_of_eq (A := ⟨[],[(3,[])]⟩) mixed Tryz.func32 (by kernel_rfl) (by kernel_rfl) h
def vZ2k (prim : Int) (w : World) (R : Value -> World -> Prop) : Prop :=
 join (fun (t : Bool) (q : World) =>
 br t (
 R (.int .i64 0) q) (
 join (fun (t1 : Bool) (q1 : World) =>
 br t1 (
 R (.int .i64 1) q1) (
 join (fun (t2 : Bool) (q2 : World) =>
 br t2 (
 R (.int .i64 2) q2) (
 br (decide (prim = 9)) (
 br (decide (prim = 9)) (
 R (.int .i64 3) q2) (
 R (.int .i64 (-1)) q2)) (
 br (decide (prim = 19)) (
 R (.int .i64 3) q2) (
 R (.int .i64 (-1)) q2)))) fun J26 =>
 br (decide (prim = 0)) (
 J26 (decide (prim = 0)) q1) (
 br (decide (prim = 1)) (
 J26 (decide (prim = 1)) q1) (
 br (decide (prim = 2)) (
 J26 (decide (prim = 2)) q1) (
 br (decide (prim = 3)) (
 J26 (decide (prim = 3)) q1) (
 br (decide (prim = 4)) (
 J26 (decide (prim = 4)) q1) (
 br (decide (prim = 5)) (
 J26 (decide (prim = 5)) q1) (
 br (decide (prim = 8)) (
 J26 (decide (prim = 8)) q1) (
 br (decide (prim = 12)) (
 J26 (decide (prim = 12)) q1) (
 br (decide (prim = 13)) (
 J26 (decide (prim = 13)) q1) (
 J26 (decide (prim = 20)) q1))))))))))) fun J15 =>
 br (decide (prim = 6)) (
 J15 (decide (prim = 6)) q) (
 br (decide (prim = 7)) (
 J15 (decide (prim = 7)) q) (
 br (decide (prim = 10)) (
 J15 (decide (prim = 10)) q) (
 br (decide (prim = 11)) (
 J15 (decide (prim = 11)) q) (
 br (decide (prim = 15)) (
 J15 (decide (prim = 15)) q) (
 br (decide (prim = 16)) (
 J15 (decide (prim = 16)) q) (
 br (decide (prim = 18)) (
 J15 (decide (prim = 18)) q) (
 J15 (decide (prim = 22)) q))))))))) fun J6 =>
 br (decide (prim = 14)) (
 J6 (decide (prim = 14)) w) (
 br (decide (prim = 17)) (
 J6 (decide (prim = 17)) w) (
 br (decide (prim = 21)) (
 J6 (decide (prim = 21)) w) (
 J6 (decide (prim = 23)) w)))
theorem oZ2k {prim : Int} (h : vZ2k prim w fun v w' => R (.returned v) w') : Calls P F.Z2k #[.int .i64 prim] w R :=
 calls_of_eq (A := ⟨[],[(6,[(4,.bool)]),(15,[(9,.bool)]),(26,[(18,.bool)])]⟩) mixed Tryz.func95 (by kernel_rfl) (by kernel_rfl) h
def vZ3b (m0 : Int) (m1 : Int) (pm2 : Option Addr) (nm2 cm2 : Nat) (pm3 : Option Addr) (nm3 cm3 : Nat) (pu0 : Option Addr) (nu0 cu0 : Nat) (pu1 : Option Addr) (nu1 cu1 : Nat) (pu2 : Option Addr) (nu2 cu2 : Nat) (pu3 : Option Addr) (nu3 cu3 : Nat) (u4 : Int) (w : World) (R : Value -> World -> Prop) : Prop :=
 newB w #[.int .i64 m0,.int .i64 m1,.slice pm2 nm2 cm2,.slice pm3 nm3 cm3] T.api_Method fun b q =>
 newB q #[.slice pu0 nu0 cu0,.slice pu1 nu1 cu1,.slice pu2 nu2 cu2,.slice pu3 nu3 cu3,.int .i64 u4] T.api_Unit fun b1 q1 =>
 ∃ x0 x1 px2 nx2 cx2 px3 nx3 cx3,holds q1 b 0 [.int .i64 x0,.int .i64 x1,.slice px2 nx2 cx2,.slice px3 nx3 cx3] /\
 Calls P F.Z46 #[.agg #[.int .i64 x0,.int .i64 x1,.slice px2 nx2 cx2,.slice px3 nx3 cx3]] q1 fun en q2 => ∃ x,en = .returned (.bool x) /\
 br (!x) (
 R (.int .i64 3) q2) (
 ∃ x01 x11 px21 nx21 cx21 px31 nx31 cx31,holds q2 b 0 [.int .i64 x01,.int .i64 x11,.slice px21 nx21 cx21,.slice px31 nx31 cx31] /\
 Calls P F.Z47 #[.agg #[.int .i64 x01,.int .i64 x11,.slice px21 nx21 cx21,.slice px31 nx31 cx31]] q2 fun en q3 => ∃ x2,en = .returned (.bool x2) /\
 br (!x2) (
 R (.int .i64 12) q3) (
 ∃ px nx cx,q3.cell? ⟨b,2,none⟩ = some (.slice px nx cx) /\
 Calls P F.Z3e #[.slice px nx cx,.func (.func F.Z48) #[] #[.pointer (some ⟨b1,0,none⟩)]] q3 fun en q4 => ∃ x3,en = .returned (.bool x3) /\
 br x3 (
 R (.int .i64 12) q4) (
 ∃ (I : Int -> World -> Prop) (μ : Int -> World -> Nat),I 0 q4 /\
 ∀ (t : Int) (q5 : World),I t q5 ->
 ∃ px1 nx1 cx1,q5.cell? ⟨b,3,none⟩ = some (.slice px1 nx1 cx1) /\
 br (decide (t < (nx1 : Int))) (
 ∃ x02 x12 px22 nx22 cx22 px32 nx32 cx32,holds q5 b 0 [.int .i64 x02,.int .i64 x12,.slice px22 nx22 cx22,.slice px32 nx32 cx32] /\
 Calls P F.Zt #[.agg #[.int .i64 x02,.int .i64 x12,.slice px22 nx22 cx22,.slice px32 nx32 cx32],.int .i64 t] q5 fun en q6 => ∃ x00 x011 x13,en = .returned (.tuple #[.agg #[.int .i64 x00,.int .i64 x011],.bool x13]) /\
 newB q6 #[.int .i64 0,.int .i64 0] T.code_Inst fun b2 q7 =>
 stores q7 b2 0 [.int .i64 x00,.int .i64 x011] fun q8 =>
 br (!x13) (
 R (.int .i64 12) q8) (
 ∃ x03 x14 px23 nx23 cx23 px33 nx33 cx33,holds q8 b 0 [.int .i64 x03,.int .i64 x14,.slice px23 nx23 cx23,.slice px33 nx33 cx33] /\
 ∃ x04 x15,holds q8 b2 0 [.int .i64 x04,.int .i64 x15] /\
 Calls P F.Z4a #[.agg #[.int .i64 x03,.int .i64 x14,.slice px23 nx23 cx23,.slice px33 nx33 cx33],.agg #[.int .i64 x04,.int .i64 x15],.int .i64 t] q8 fun en q9 => ∃ x4,en = .returned (.bool x4) /\
 br (!x4) (
 R (.int .i64 12) q9) (
 I (IntKind.wrap .i64 (t + 2)) q9 /\ μ (IntKind.wrap .i64 (t + 2)) q9 < μ t q5))) (
 R (.int .i64 0) q5))))
theorem oZ3b {m0 : Int} {m1 : Int} {pm2 : Option Addr} {nm2 cm2 : Nat} {pm3 : Option Addr} {nm3 cm3 : Nat} {pu0 : Option Addr} {nu0 cu0 : Nat} {pu1 : Option Addr} {nu1 cu1 : Nat} {pu2 : Option Addr} {nu2 cu2 : Nat} {pu3 : Option Addr} {nu3 cu3 : Nat} {u4 : Int} (h : vZ3b m0 m1 pm2 nm2 cm2 pm3 nm3 cm3 pu0 nu0 cu0 pu1 nu1 cu1 pu2 nu2 cu2 pu3 nu3 cu3 u4 w fun v w' => R (.returned v) w') : Calls P F.Z3b #[.agg #[.int .i64 m0,.int .i64 m1,.slice pm2 nm2 cm2,.slice pm3 nm3 cm3],.agg #[.slice pu0 nu0 cu0,.slice pu1 nu1 cu1,.slice pu2 nu2 cu2,.slice pu3 nu3 cu3,.int .i64 u4]] w R :=
 calls_of_eq (A := ⟨[(6,[(5,(.int .i64))])],[]⟩) mixed Tryz.func122 (by kernel_rfl) (by kernel_rfl) h
def vZ46 (m0 : Int) (m1 : Int) (pm2 : Option Addr) (nm2 cm2 : Nat) (pm3 : Option Addr) (nm3 cm3 : Nat) (w : World) (R : Value -> World -> Prop) : Prop :=
 newB w #[.int .i64 m0,.int .i64 m1,.slice pm2 nm2 cm2,.slice pm3 nm3 cm3] T.api_Method fun b q =>
 ∃ px nx cx,q.cell? ⟨b,3,none⟩ = some (.slice px nx cx) /\
 br (decide ((nx : Int) <= 128)) (
 ∃ px1 nx1 cx1,q.cell? ⟨b,2,none⟩ = some (.slice px1 nx1 cx1) /\
 br (decide ((nx1 : Int) <= 16)) (
 ∃ x,q.cell? ⟨b,0,none⟩ = some (.int .i64 x) /\
 br (decide (0 <= x)) (
 ∃ x1,q.cell? ⟨b,1,none⟩ = some (.int .i64 x1) /\
 br (decide (0 <= x1)) (
 ∃ x2,q.cell? ⟨b,0,none⟩ = some (.int .i64 x2) /\
 br (decide (x2 <= 8)) (
 ∃ x3,q.cell? ⟨b,1,none⟩ = some (.int .i64 x3) /\
 ∃ x4,q.cell? ⟨b,0,none⟩ = some (.int .i64 x4) /\
 R (.bool (decide (x3 <= IntKind.wrap .i64 (8 - x4)))) q) (
 R (.bool false) q)) (
 R (.bool false) q)) (
 R (.bool false) q)) (
 R (.bool false) q)) (
 R (.bool false) q)
theorem oZ46 {m0 : Int} {m1 : Int} {pm2 : Option Addr} {nm2 cm2 : Nat} {pm3 : Option Addr} {nm3 cm3 : Nat} (h : vZ46 m0 m1 pm2 nm2 cm2 pm3 nm3 cm3 w fun v w' => R (.returned v) w') : Calls P F.Z46 #[.agg #[.int .i64 m0,.int .i64 m1,.slice pm2 nm2 cm2,.slice pm3 nm3 cm3]] w R :=
 calls_of_eq (A := ⟨[],[]⟩) mixed Tryz.func154 (by kernel_rfl) (by kernel_rfl) h
def vZ47 (m0 : Int) (m1 : Int) (pm2 : Option Addr) (nm2 cm2 : Nat) (pm3 : Option Addr) (nm3 cm3 : Nat) (w : World) (R : Value -> World -> Prop) : Prop :=
 newB w #[.int .i64 m0,.int .i64 m1,.slice pm2 nm2 cm2,.slice pm3 nm3 cm3] T.api_Method fun b q =>
 ∃ px nx cx,q.cell? ⟨b,3,none⟩ = some (.slice px nx cx) /\
 join (fun (t : Unit) (q1 : World) =>
 ∃ px1 nx1 cx1,q1.cell? ⟨b,3,none⟩ = some (.slice px1 nx1 cx1) /\
 chk (decide (0 <= IntKind.wrap .i64 ((nx : Int) - 2)) && decide (IntKind.wrap .i64 ((nx : Int) - 2) < (nx1 : Int))) (
 onPtr px1 fun g o =>
 ∃ x,q1.cell? ⟨g,o + (IntKind.wrap .i64 ((nx : Int) - 2)).toNat * 1,none⟩ = some (.int .u8 x) /\
 br (decide (IntKind.wrap .i64 x = 14)) (
 R (.bool true) q1) (
 br (decide (IntKind.wrap .i64 x = 19)) (
 R (.bool true) q1) (
 R (.bool (decide (IntKind.wrap .i64 x = 16))) q1)))) fun J4 =>
 br (decide ((nx : Int) < 2)) (
 R (.bool false) q) (
 br (!(decide (Int.tmod (nx : Int) 2 = 0))) (
 R (.bool false) q) (
 J4 () q))
theorem oZ47 {m0 : Int} {m1 : Int} {pm2 : Option Addr} {nm2 cm2 : Nat} {pm3 : Option Addr} {nm3 cm3 : Nat} (h : vZ47 m0 m1 pm2 nm2 cm2 pm3 nm3 cm3 w fun v w' => R (.returned v) w') : Calls P F.Z47 #[.agg #[.int .i64 m0,.int .i64 m1,.slice pm2 nm2 cm2,.slice pm3 nm3 cm3]] w R :=
 calls_of_eq (A := ⟨[],[(4,[])]⟩) mixed Tryz.func155 (by kernel_rfl) (by kernel_rfl) h
def vZ48 (v0 : Int) (v1 : Int) (cap0 : Nat) (w : World) (R : Value -> World -> Prop) : Prop :=
 newB w #[.int .i64 v0,.int .i64 v1] T.api_Val fun b q =>
 ∃ x0 x1,holds q b 0 [.int .i64 x0,.int .i64 x1] /\
 ∃ px0 nx0 cx0 px1 nx1 cx1 px2 nx2 cx2 px3 nx3 cx3 x4,holds q cap0 0 [.slice px0 nx0 cx0,.slice px1 nx1 cx1,.slice px2 nx2 cx2,.slice px3 nx3 cx3,.int .i64 x4] /\
 Calls P F.Z49 #[.agg #[.int .i64 x0,.int .i64 x1],.agg #[.slice px0 nx0 cx0,.slice px1 nx1 cx1,.slice px2 nx2 cx2,.slice px3 nx3 cx3,.int .i64 x4]] q fun en q1 => ∃ x,en = .returned (.bool x) /\
 R (.bool (!x)) q1
theorem oZ48 {v0 : Int} {v1 : Int} {cap0 : Nat} (h : vZ48 v0 v1 cap0 w fun v w' => R (.returned v) w') : Calls P F.Z48 #[.agg #[.int .i64 v0,.int .i64 v1],.pointer (some ⟨cap0,0,none⟩)] w R :=
 calls_of_eq (A := ⟨[],[]⟩) mixed Tryz.func156 (by kernel_rfl) (by kernel_rfl) h
def vZ49 (v0 : Int) (v1 : Int) (pu0 : Option Addr) (nu0 cu0 : Nat) (pu1 : Option Addr) (nu1 cu1 : Nat) (pu2 : Option Addr) (nu2 cu2 : Nat) (pu3 : Option Addr) (nu3 cu3 : Nat) (u4 : Int) (w : World) (R : Value -> World -> Prop) : Prop :=
 newB w #[.int .i64 v0,.int .i64 v1] T.api_Val fun b q =>
 newB q #[.slice pu0 nu0 cu0,.slice pu1 nu1 cu1,.slice pu2 nu2 cu2,.slice pu3 nu3 cu3,.int .i64 u4] T.api_Unit fun b1 q1 =>
 ∃ x,q1.cell? ⟨b,0,none⟩ = some (.int .i64 x) /\
 br (decide (x = 3)) (
 ∃ x1,q1.cell? ⟨b,1,none⟩ = some (.int .i64 x1) /\
 br (decide ((-1073741824) <= x1)) (
 ∃ x2,q1.cell? ⟨b,1,none⟩ = some (.int .i64 x2) /\
 R (.bool (decide (x2 <= 1073741823))) q1) (
 R (.bool false) q1)) (
 br (decide (x = 5)) (
 ∃ x3,q1.cell? ⟨b,1,none⟩ = some (.int .i64 x3) /\
 br (decide (0 <= x3)) (
 ∃ x4,q1.cell? ⟨b,1,none⟩ = some (.int .i64 x4) /\
 ∃ px nx cx,q1.cell? ⟨b1,0,none⟩ = some (.slice px nx cx) /\
 R (.bool (decide (x4 < (nx : Int)))) q1) (
 R (.bool false) q1)) (
 br (decide (x = 6)) (
 ∃ x5,q1.cell? ⟨b,1,none⟩ = some (.int .i64 x5) /\
 br (decide (0 <= x5)) (
 ∃ x6,q1.cell? ⟨b,1,none⟩ = some (.int .i64 x6) /\
 ∃ px1 nx1 cx1,q1.cell? ⟨b1,1,none⟩ = some (.slice px1 nx1 cx1) /\
 R (.bool (decide (x6 < (nx1 : Int)))) q1) (
 R (.bool false) q1)) (
 br (decide (x = 7)) (
 ∃ x7,q1.cell? ⟨b,1,none⟩ = some (.int .i64 x7) /\
 br (decide (0 <= x7)) (
 ∃ x8,q1.cell? ⟨b,1,none⟩ = some (.int .i64 x8) /\
 ∃ px2 nx2 cx2,q1.cell? ⟨b1,2,none⟩ = some (.slice px2 nx2 cx2) /\
 R (.bool (decide (x8 < (nx2 : Int)))) q1) (
 R (.bool false) q1)) (
 R (.bool false) q1))))
theorem oZ49 {v0 : Int} {v1 : Int} {pu0 : Option Addr} {nu0 cu0 : Nat} {pu1 : Option Addr} {nu1 cu1 : Nat} {pu2 : Option Addr} {nu2 cu2 : Nat} {pu3 : Option Addr} {nu3 cu3 : Nat} {u4 : Int} (h : vZ49 v0 v1 pu0 nu0 cu0 pu1 nu1 cu1 pu2 nu2 cu2 pu3 nu3 cu3 u4 w fun v w' => R (.returned v) w') : Calls P F.Z49 #[.agg #[.int .i64 v0,.int .i64 v1],.agg #[.slice pu0 nu0 cu0,.slice pu1 nu1 cu1,.slice pu2 nu2 cu2,.slice pu3 nu3 cu3,.int .i64 u4]] w R :=
 calls_of_eq (A := ⟨[],[]⟩) mixed Tryz.func157 (by kernel_rfl) (by kernel_rfl) h
def vZ4a (m0 : Int) (m1 : Int) (pm2 : Option Addr) (nm2 cm2 : Nat) (pm3 : Option Addr) (nm3 cm3 : Nat) (x0 : Int) (x1 : Int) (pc : Int) (w : World) (R : Value -> World -> Prop) : Prop :=
 newB w #[.int .i64 m0,.int .i64 m1,.slice pm2 nm2 cm2,.slice pm3 nm3 cm3] T.api_Method fun b q =>
 newB q #[.int .i64 x0,.int .i64 x1] T.code_Inst fun b1 q1 =>
 ∃ x2,q1.cell? ⟨b1,0,none⟩ = some (.int .i64 x2) /\
 join (fun (t : Bool) (q2 : World) =>
 br t (
 ∃ x3,q2.cell? ⟨b1,1,none⟩ = some (.int .i64 x3) /\
 ∃ x4,q2.cell? ⟨b,0,none⟩ = some (.int .i64 x4) /\
 ∃ x5,q2.cell? ⟨b,1,none⟩ = some (.int .i64 x5) /\
 R (.bool (decide (x3 < IntKind.wrap .i64 (x4 + x5)))) q2) (
 join (fun (t1 : Bool) (q3 : World) =>
 br t1 (
 ∃ x6,q3.cell? ⟨b1,1,none⟩ = some (.int .i64 x6) /\
 R (.bool (decide (x6 < 62))) q3) (
 br (decide (x2 = 2)) (
 ∃ x01 x11 px2 nx2 cx2 px3 nx3 cx3,holds q3 b 0 [.int .i64 x01,.int .i64 x11,.slice px2 nx2 cx2,.slice px3 nx3 cx3] /\
 ∃ x7,q3.cell? ⟨b1,1,none⟩ = some (.int .i64 x7) /\
 Calls P F.Z4m #[.agg #[.int .i64 x01,.int .i64 x11,.slice px2 nx2 cx2,.slice px3 nx3 cx3],.int .i64 x7,.int .i64 3] q3 fun en q4 => ∃ x8,en = .returned (.bool x8) /\
 R (.bool x8) q4) (
 join (fun (t2 : Bool) (q5 : World) =>
 br t2 (
 ∃ x02 x12 px21 nx21 cx21 px31 nx31 cx31,holds q5 b 0 [.int .i64 x02,.int .i64 x12,.slice px21 nx21 cx21,.slice px31 nx31 cx31] /\
 ∃ x9,q5.cell? ⟨b1,1,none⟩ = some (.int .i64 x9) /\
 Calls P F.Z4m #[.agg #[.int .i64 x02,.int .i64 x12,.slice px21 nx21 cx21,.slice px31 nx31 cx31],.int .i64 x9,.int .i64 5] q5 fun en q6 => ∃ x10,en = .returned (.bool x10) /\
 R (.bool x10) q6) (
 br (decide (x2 = 20)) (
 ∃ x03 x13 px22 nx22 cx22 px32 nx32 cx32,holds q5 b 0 [.int .i64 x03,.int .i64 x13,.slice px22 nx22 cx22,.slice px32 nx32 cx32] /\
 ∃ x14,q5.cell? ⟨b1,1,none⟩ = some (.int .i64 x14) /\
 Calls P F.Z4m #[.agg #[.int .i64 x03,.int .i64 x13,.slice px22 nx22 cx22,.slice px32 nx32 cx32],.int .i64 x14,.int .i64 6] q5 fun en q7 => ∃ x15,en = .returned (.bool x15) /\
 br x15 (
 ∃ px nx cx,q7.cell? ⟨b,2,none⟩ = some (.slice px nx cx) /\
 ∃ x16,q7.cell? ⟨b1,1,none⟩ = some (.int .i64 x16) /\
 chk (decide (0 <= x16) && decide (x16 < (nx : Int))) (
 onPtr px fun g o =>
 ∃ x17,q7.cell? ⟨g,o + x16.toNat * 2 + 1,none⟩ = some (.int .i64 x17) /\
 R (.bool (decide (2 <= x17))) q7)) (
 R (.bool false) q7)) (
 br (decide (x2 = 18)) (
 ∃ x04 x18 px23 nx23 cx23 px33 nx33 cx33,holds q5 b 0 [.int .i64 x04,.int .i64 x18,.slice px23 nx23 cx23,.slice px33 nx33 cx33] /\
 ∃ x19,q5.cell? ⟨b1,1,none⟩ = some (.int .i64 x19) /\
 Calls P F.Z4m #[.agg #[.int .i64 x04,.int .i64 x18,.slice px23 nx23 cx23,.slice px33 nx33 cx33],.int .i64 x19,.int .i64 7] q5 fun en q8 => ∃ x20,en = .returned (.bool x20) /\
 R (.bool x20) q8) (
 join (fun (t3 : Bool) (q9 : World) =>
 br t3 (
 ∃ x21,q9.cell? ⟨b1,1,none⟩ = some (.int .i64 x21) /\
 ∃ px1 nx1 cx1,q9.cell? ⟨b,3,none⟩ = some (.slice px1 nx1 cx1) /\
 R (.bool (decide (IntKind.wrap .i64 ((IntKind.wrap .i64 (pc + 2)) + (IntKind.wrap .i64 (2 * x21))) < (nx1 : Int)))) q9) (
 br (decide (x2 = 16)) (
 ∃ x22,q9.cell? ⟨b1,1,none⟩ = some (.int .i64 x22) /\
 R (.bool (decide (IntKind.wrap .i64 (2 * x22) <= pc))) q9) (
 br (decide (x2 = 21)) (
 ∃ x23,q9.cell? ⟨b1,1,none⟩ = some (.int .i64 x23) /\
 Calls P F.Z2k #[.int .i64 x23] q9 fun en q10 => ∃ x24,en = .returned (.int .i64 x24) /\
 R (.bool (decide (0 <= x24))) q10) (
 ∃ x25,q9.cell? ⟨b1,0,none⟩ = some (.int .i64 x25) /\
 R (.bool (decide (x25 <= 21))) q9)))) fun J19 =>
 br (decide (x2 = 15)) (
 J19 (decide (x2 = 15)) q5) (
 J19 (decide (x2 = 17)) q5))))) fun J12 =>
 br (decide (x2 = 12)) (
 J12 (decide (x2 = 12)) q3) (
 J12 (decide (x2 = 13)) q3)))) fun J7 =>
 br (decide (x2 = 1)) (
 J7 (decide (x2 = 1)) q2) (
 J7 (decide (x2 = 11)) q2))) fun J4 =>
 br (decide (x2 = 0)) (
 J4 (decide (x2 = 0)) q1) (
 J4 (decide (x2 = 10)) q1)
theorem oZ4a {m0 : Int} {m1 : Int} {pm2 : Option Addr} {nm2 cm2 : Nat} {pm3 : Option Addr} {nm3 cm3 : Nat} {x0 : Int} {x1 : Int} {pc : Int} (h : vZ4a m0 m1 pm2 nm2 cm2 pm3 nm3 cm3 x0 x1 pc w fun v w' => R (.returned v) w') : Calls P F.Z4a #[.agg #[.int .i64 m0,.int .i64 m1,.slice pm2 nm2 cm2,.slice pm3 nm3 cm3],.agg #[.int .i64 x0,.int .i64 x1],.int .i64 pc] w R :=
 calls_of_eq (A := ⟨[],[(4,[(9,.bool)]),(7,[(20,.bool)]),(12,[(32,.bool)]),(19,[(61,.bool)])]⟩) mixed Tryz.func158 (by kernel_rfl) (by kernel_rfl) h
def vZ4m (m0 : Int) (m1 : Int) (pm2 : Option Addr) (nm2 cm2 : Nat) (pm3 : Option Addr) (nm3 cm3 : Nat) (i : Int) (kind : Int) (w : World) (R : Value -> World -> Prop) : Prop :=
 newB w #[.int .i64 m0,.int .i64 m1,.slice pm2 nm2 cm2,.slice pm3 nm3 cm3] T.api_Method fun b q =>
 ∃ px nx cx,q.cell? ⟨b,2,none⟩ = some (.slice px nx cx) /\
 br (decide (i < (nx : Int))) (
 ∃ px1 nx1 cx1,q.cell? ⟨b,2,none⟩ = some (.slice px1 nx1 cx1) /\
 chk (decide (0 <= i) && decide (i < (nx1 : Int))) (
 onPtr px1 fun g o =>
 ∃ x,q.cell? ⟨g,o + i.toNat * 2,none⟩ = some (.int .i64 x) /\
 R (.bool (decide (x = kind))) q)) (
 R (.bool false) q)
theorem oZ4m {m0 : Int} {m1 : Int} {pm2 : Option Addr} {nm2 cm2 : Nat} {pm3 : Option Addr} {nm3 cm3 : Nat} {i : Int} {kind : Int} (h : vZ4m m0 m1 pm2 nm2 cm2 pm3 nm3 cm3 i kind w fun v w' => R (.returned v) w') : Calls P F.Z4m #[.agg #[.int .i64 m0,.int .i64 m1,.slice pm2 nm2 cm2,.slice pm3 nm3 cm3],.int .i64 i,.int .i64 kind] w R :=
 calls_of_eq (A := ⟨[],[]⟩) mixed Tryz.func170 (by kernel_rfl) (by kernel_rfl) h
end
section
variable {w : World} {R : Ending -> World -> Prop}
def vZz (ps : Option Addr) (ns cs : Nat) (w : World) (R : Value -> World -> Prop) : Prop :=
 chk (decide (0 <= 0) && decide (0 <= (ns : Int)) && decide ((ns : Int) <= (ns : Int)) && decide ((ns : Int) <= (cs : Int))) (
 R (.slice (cutAt ps (Int.toNat (ns : Int)) (Int.toNat 0) 4) (Int.toNat (ns : Int) - Int.toNat 0) (Int.toNat (ns : Int) - Int.toNat 0)) w)
theorem oZz {ps : Option Addr} {ns cs : Nat} (h : vZz ps ns cs w fun v w' => R (.returned v) w') : Calls P F.Zz #[.slice ps ns cs] w R :=
 calls_of_eq (A := ⟨[],[]⟩) mixed Tryz.func38 (by kernel_rfl) (by kernel_rfl) h
def vZ10 (ps : Option Addr) (ns cs : Nat) (w : World) (R : Value -> World -> Prop) : Prop :=
 br (Option.isNone ps) (
 R (.slice none 0 0) w) (
 newB w #[] T.api_Event fun b u =>
 ∃ px nx cx u1,(Builtin.append_ #[T.sl_api_Event,T.sl_api_Event] T.sl_api_Event #[.slice (some ⟨b,0,none⟩) 0 0,.slice ps ns cs]).run P u = .ok (.slice px nx cx) u1 /\ Aft u u1 /\
 R (.slice px nx cx) u1)
theorem oZ10 {ps : Option Addr} {ns cs : Nat} (h : vZ10 ps ns cs w fun v w' => R (.returned v) w') : Calls P F.Z10 #[.slice ps ns cs] w R :=
 calls_of_eq (A := ⟨[],[]⟩) mixed Tryz.func39 (by kernel_rfl) (by kernel_rfl) h
def vZ19 (ps : Option Addr) (ns cs : Nat) (w : World) (R : Value -> World -> Prop) : Prop :=
 chk (decide (0 <= 0) && decide (0 <= (ns : Int)) && decide ((ns : Int) <= (ns : Int)) && decide ((ns : Int) <= (cs : Int))) (
 R (.slice (cutAt ps (Int.toNat (ns : Int)) (Int.toNat 0) 1) (Int.toNat (ns : Int) - Int.toNat 0) (Int.toNat (ns : Int) - Int.toNat 0)) w)
theorem oZ19 {ps : Option Addr} {ns cs : Nat} (h : vZ19 ps ns cs w fun v w' => R (.returned v) w') : Calls P F.Z19 #[.slice ps ns cs] w R :=
 calls_of_eq (A := ⟨[],[]⟩) mixed Tryz.func48 (by kernel_rfl) (by kernel_rfl) h
def vZ1a (ps : Option Addr) (ns cs : Nat) (w : World) (R : Value -> World -> Prop) : Prop :=
 chk (decide (0 <= 0) && decide (0 <= (ns : Int)) && decide ((ns : Int) <= (ns : Int)) && decide ((ns : Int) <= (cs : Int))) (
 R (.slice (cutAt ps (Int.toNat (ns : Int)) (Int.toNat 0) 1) (Int.toNat (ns : Int) - Int.toNat 0) (Int.toNat (ns : Int) - Int.toNat 0)) w)
theorem oZ1a {ps : Option Addr} {ns cs : Nat} (h : vZ1a ps ns cs w fun v w' => R (.returned v) w') : Calls P F.Z1a #[.slice ps ns cs] w R :=
 calls_of_eq (A := ⟨[],[]⟩) mixed Tryz.func49 (by kernel_rfl) (by kernel_rfl) h
def vZ1b (ps : Option Addr) (ns cs : Nat) (w : World) (R : Value -> World -> Prop) : Prop :=
 br (Option.isNone ps) (
 R (.slice none 0 0) w) (
 newB w #[] T.string fun b u =>
 ∃ px nx cx u1,(Builtin.append_ #[T.sl_string,T.sl_string] T.sl_string #[.slice (some ⟨b,0,none⟩) 0 0,.slice ps ns cs]).run P u = .ok (.slice px nx cx) u1 /\ Aft u u1 /\
 R (.slice px nx cx) u1)
theorem oZ1b {ps : Option Addr} {ns cs : Nat} (h : vZ1b ps ns cs w fun v w' => R (.returned v) w') : Calls P F.Z1b #[.slice ps ns cs] w R :=
 calls_of_eq (A := ⟨[],[]⟩) mixed Tryz.func50 (by kernel_rfl) (by kernel_rfl) h
def vZ1c (ps : Option Addr) (ns cs : Nat) (w : World) (R : Value -> World -> Prop) : Prop :=
 chk (decide (0 <= 0) && decide (0 <= (ns : Int)) && decide ((ns : Int) <= (ns : Int)) && decide ((ns : Int) <= (cs : Int))) (
 R (.slice (cutAt ps (Int.toNat (ns : Int)) (Int.toNat 0) 2) (Int.toNat (ns : Int) - Int.toNat 0) (Int.toNat (ns : Int) - Int.toNat 0)) w)
theorem oZ1c {ps : Option Addr} {ns cs : Nat} (h : vZ1c ps ns cs w fun v w' => R (.returned v) w') : Calls P F.Z1c #[.slice ps ns cs] w R :=
 calls_of_eq (A := ⟨[],[]⟩) mixed Tryz.func51 (by kernel_rfl) (by kernel_rfl) h
def vZ1d (ps : Option Addr) (ns cs : Nat) (w : World) (R : Value -> World -> Prop) : Prop :=
 br (Option.isNone ps) (
 R (.slice none 0 0) w) (
 newB w #[] T.api_Bind fun b u =>
 ∃ px nx cx u1,(Builtin.append_ #[T.sl_api_Bind,T.sl_api_Bind] T.sl_api_Bind #[.slice (some ⟨b,0,none⟩) 0 0,.slice ps ns cs]).run P u = .ok (.slice px nx cx) u1 /\ Aft u u1 /\
 R (.slice px nx cx) u1)
theorem oZ1d {ps : Option Addr} {ns cs : Nat} (h : vZ1d ps ns cs w fun v w' => R (.returned v) w') : Calls P F.Z1d #[.slice ps ns cs] w R :=
 calls_of_eq (A := ⟨[],[]⟩) mixed Tryz.func52 (by kernel_rfl) (by kernel_rfl) h
def vZ1e (ps : Option Addr) (ns cs : Nat) (w : World) (R : Value -> World -> Prop) : Prop :=
 chk (decide (0 <= 0) && decide (0 <= (ns : Int)) && decide ((ns : Int) <= (ns : Int)) && decide ((ns : Int) <= (cs : Int))) (
 R (.slice (cutAt ps (Int.toNat (ns : Int)) (Int.toNat 0) 2) (Int.toNat (ns : Int) - Int.toNat 0) (Int.toNat (ns : Int) - Int.toNat 0)) w)
theorem oZ1e {ps : Option Addr} {ns cs : Nat} (h : vZ1e ps ns cs w fun v w' => R (.returned v) w') : Calls P F.Z1e #[.slice ps ns cs] w R :=
 calls_of_eq (A := ⟨[],[]⟩) mixed Tryz.func53 (by kernel_rfl) (by kernel_rfl) h
def vZ1f (ps : Option Addr) (ns cs : Nat) (w : World) (R : Value -> World -> Prop) : Prop :=
 br (Option.isNone ps) (
 R (.slice none 0 0) w) (
 newB w #[] T.api_Val fun b u =>
 ∃ px nx cx u1,(Builtin.append_ #[T.sl_api_Val,T.sl_api_Val] T.sl_api_Val #[.slice (some ⟨b,0,none⟩) 0 0,.slice ps ns cs]).run P u = .ok (.slice px nx cx) u1 /\ Aft u u1 /\
 R (.slice px nx cx) u1)
theorem oZ1f {ps : Option Addr} {ns cs : Nat} (h : vZ1f ps ns cs w fun v w' => R (.returned v) w') : Calls P F.Z1f #[.slice ps ns cs] w R :=
 calls_of_eq (A := ⟨[],[]⟩) mixed Tryz.func54 (by kernel_rfl) (by kernel_rfl) h
def vZ1g (ps : Option Addr) (ns cs : Nat) (w : World) (R : Value -> World -> Prop) : Prop :=
 chk (decide (0 <= 0) && decide (0 <= (ns : Int)) && decide ((ns : Int) <= (ns : Int)) && decide ((ns : Int) <= (cs : Int))) (
 R (.slice (cutAt ps (Int.toNat (ns : Int)) (Int.toNat 0) 1) (Int.toNat (ns : Int) - Int.toNat 0) (Int.toNat (ns : Int) - Int.toNat 0)) w)
theorem oZ1g {ps : Option Addr} {ns cs : Nat} (h : vZ1g ps ns cs w fun v w' => R (.returned v) w') : Calls P F.Z1g #[.slice ps ns cs] w R :=
 calls_of_eq (A := ⟨[],[]⟩) mixed Tryz.func55 (by kernel_rfl) (by kernel_rfl) h
def vZ1h (ps : Option Addr) (ns cs : Nat) (w : World) (R : Value -> World -> Prop) : Prop :=
 br (Option.isNone ps) (
 R (.slice none 0 0) w) (
 newB w #[] T.uint8 fun b u =>
 ∃ px nx cx u1,(Builtin.append_ #[T.sl_uint8,T.sl_uint8] T.sl_uint8 #[.slice (some ⟨b,0,none⟩) 0 0,.slice ps ns cs]).run P u = .ok (.slice px nx cx) u1 /\ Aft u u1 /\
 R (.slice px nx cx) u1)
theorem oZ1h {ps : Option Addr} {ns cs : Nat} (h : vZ1h ps ns cs w fun v w' => R (.returned v) w') : Calls P F.Z1h #[.slice ps ns cs] w R :=
 calls_of_eq (A := ⟨[],[]⟩) mixed Tryz.func56 (by kernel_rfl) (by kernel_rfl) h
def vZ1k (pslices : Option Addr) (nslices cslices : Nat) (w : World) (R : Value -> World -> Prop) : Prop :=
 ∃ (I : Int × Int -> World -> Prop) (μ : Int × Int -> World -> Nat),I (0,0) w /\
 ∀ (t : Int × Int) (u : World),I t u ->
 br (decide (t.2 < (nslices : Int))) (
 chk (decide (0 <= t.2) && decide (t.2 < (nslices : Int))) (
 onPtr pslices fun g o =>
 ∃ px nx cx,u.cell? ⟨g,o + t.2.toNat * 1,none⟩ = some (.slice px nx cx) /\
 br (decide (IntKind.wrap .i64 (t.1 + (nx : Int)) < 0)) (
 False) (
 I (IntKind.wrap .i64 (t.1 + (nx : Int)),IntKind.wrap .i64 (t.2 + 1)) u /\ μ (IntKind.wrap .i64 (t.1 + (nx : Int)),IntKind.wrap .i64 (t.2 + 1)) u < μ t u))) (
 Calls P F.Z2b #[.slice none 0 0,.int .i64 t.1] u fun en u1 => ∃ px1 nx1 cx1,en = .returned (.slice px1 nx1 cx1) /\
 ∃ (I1 : (Option Addr × Nat × Nat) × Int -> World -> Prop) (μ1 : (Option Addr × Nat × Nat) × Int -> World -> Nat),I1 ((px1,nx1,cx1),0) u1 /\
 ∀ (t1 : (Option Addr × Nat × Nat) × Int) (u2 : World),I1 t1 u2 ->
 br (decide (t1.2 < (nslices : Int))) (
 chk (decide (0 <= t1.2) && decide (t1.2 < (nslices : Int))) (
 onPtr pslices fun g1 o1 =>
 ∃ px2 nx2 cx2,u2.cell? ⟨g1,o1 + t1.2.toNat * 1,none⟩ = some (.slice px2 nx2 cx2) /\
 ∃ px3 nx3 cx3 u3,(Builtin.append_ #[T.sl_uint32,T.sl_uint32] T.sl_uint32 #[.slice t1.1.1 t1.1.2.1 t1.1.2.2,.slice px2 nx2 cx2]).run P u2 = .ok (.slice px3 nx3 cx3) u3 /\ Aft u2 u3 /\
 I1 ((px3,nx3,cx3),IntKind.wrap .i64 (t1.2 + 1)) u3 /\ μ1 ((px3,nx3,cx3),IntKind.wrap .i64 (t1.2 + 1)) u3 < μ1 t1 u2)) (
 R (.slice t1.1.1 t1.1.2.1 t1.1.2.2) u2))
theorem oZ1k {pslices : Option Addr} {nslices cslices : Nat} (h : vZ1k pslices nslices cslices w fun v w' => R (.returned v) w') : Calls P F.Z1k #[.slice pslices nslices cslices] w R :=
 calls_of_eq (A := ⟨[(3,[(3,(.int .i64)),(11,(.int .i64))]),(11,[(6,.slice),(27,(.int .i64))])],[]⟩) mixed Tryz.func59 (by kernel_rfl) (by kernel_rfl) h
def vZ1l (px : Option Addr) (nx cx : Nat) (count : Int) (w : World) (R : Value -> World -> Prop) : Prop :=
 join (fun (t : Unit) (u : World) =>
 Calls P F.Z2c #[.int .u64 (IntKind.wrap .u64 (nx : Int)),.int .u64 (IntKind.wrap .u64 count)] u fun en u1 => ∃ x0 x1,en = .returned (.tuple #[.int .u64 x0,.int .u64 x1]) /\
 join (fun (t1 : Unit) (u2 : World) =>
 ∃ px1 nx1 cx1 u3,(Instr.makeSlice T.sl_uint32 (.int .i64 (IntKind.wrap .i64 x1)) (.int .i64 (IntKind.wrap .i64 x1))).run P u2 = .ok (.slice px1 nx1 cx1) u3 /\ Aft u2 u3 /\
 ∃ x2 u4,(Builtin.copy_ #[T.sl_uint32,T.sl_uint32] T.int #[.slice px1 nx1 cx1,.slice px nx cx]).run P u3 = .ok (.int .i64 x2) u4 /\ Aft u3 u4 /\
 ∃ (I : Int -> World -> Prop) (μ : Int -> World -> Nat),I x2 u4 /\
 ∀ (t2 : Int) (u5 : World),I t2 u5 ->
 br (decide (t2 < (nx1 : Int))) (
 wv u5.drew fun u6 =>
 chk (decide (0 <= t2) && decide (t2 <= (nx1 : Int)) && decide ((nx1 : Int) <= (cx1 : Int)) && decide ((cx1 : Int) <= (cx1 : Int))) (
 chk (decide (0 <= 0) && decide (0 <= t2) && decide (t2 <= (cx1 : Int)) && decide ((cx1 : Int) <= (cx1 : Int))) (
 ∃ x3 u7,(Builtin.copy_ #[T.sl_uint32,T.sl_uint32] T.int #[.slice (cutAt px1 (Int.toNat (cx1 : Int)) (Int.toNat t2) 1) (Int.toNat (nx1 : Int) - Int.toNat t2) (Int.toNat (cx1 : Int) - Int.toNat t2),.slice (cutAt px1 (Int.toNat (cx1 : Int)) (Int.toNat 0) 1) (Int.toNat t2 - Int.toNat 0) (Int.toNat (cx1 : Int) - Int.toNat 0)]).run P u6 = .ok (.int .i64 x3) u7 /\ Aft u6 u7 /\
 True /\
 I (IntKind.wrap .i64 (t2 + x3)) u7 /\ μ (IntKind.wrap .i64 (t2 + x3)) u7 < μ t2 u5))) (
 R (.slice px1 nx1 cx1) u5)) fun J6 =>
 br (decide (0 < x0)) (
 False) (
 br (decide (9223372036854775807 < x1)) (
 False) (
 J6 () u1))) fun J3 =>
 br (decide (count < 0)) (
 False) (
 J3 () w)
theorem oZ1l {px : Option Addr} {nx cx : Nat} {count : Int} (h : vZ1l px nx cx count w fun v w' => R (.returned v) w') : Calls P F.Z1l #[.slice px nx cx,.int .i64 count] w R :=
 calls_of_eq (A := ⟨[(8,[(8,(.int .i64))])],[(3,[]),(6,[])]⟩) mixed Tryz.func60 (by kernel_rfl) (by kernel_rfl) h
def vZ1q (ps : Option Addr) (ns cs : Nat) (w : World) (R : Value -> World -> Prop) : Prop :=
 chk (decide (0 <= 0) && decide (0 <= (ns : Int)) && decide ((ns : Int) <= (ns : Int)) && decide ((ns : Int) <= (cs : Int))) (
 R (.slice (cutAt ps (Int.toNat (ns : Int)) (Int.toNat 0) 1) (Int.toNat (ns : Int) - Int.toNat 0) (Int.toNat (ns : Int) - Int.toNat 0)) w)
theorem oZ1q {ps : Option Addr} {ns cs : Nat} (h : vZ1q ps ns cs w fun v w' => R (.returned v) w') : Calls P F.Z1q #[.slice ps ns cs] w R :=
 calls_of_eq (A := ⟨[],[]⟩) mixed Tryz.func65 (by kernel_rfl) (by kernel_rfl) h
def vZ1r (ps : Option Addr) (ns cs : Nat) (w : World) (R : Value -> World -> Prop) : Prop :=
 br (Option.isNone ps) (
 R (.slice none 0 0) w) (
 newB w #[] T.uint32 fun b u =>
 ∃ px nx cx u1,(Builtin.append_ #[T.sl_uint32,T.sl_uint32] T.sl_uint32 #[.slice (some ⟨b,0,none⟩) 0 0,.slice ps ns cs]).run P u = .ok (.slice px nx cx) u1 /\ Aft u u1 /\
 R (.slice px nx cx) u1)
theorem oZ1r {ps : Option Addr} {ns cs : Nat} (h : vZ1r ps ns cs w fun v w' => R (.returned v) w') : Calls P F.Z1r #[.slice ps ns cs] w R :=
 calls_of_eq (A := ⟨[],[]⟩) mixed Tryz.func66 (by kernel_rfl) (by kernel_rfl) h
def vZ23 (ps : Option Addr) (ns cs : Nat) (w : World) (R : Value -> World -> Prop) : Prop :=
 br (Option.isNone ps) (
 R (.slice none 0 0) w) (
 newB w #[] T.int fun b u =>
 ∃ px nx cx u1,(Builtin.append_ #[T.sl_int,T.sl_int] T.sl_int #[.slice (some ⟨b,0,none⟩) 0 0,.slice ps ns cs]).run P u = .ok (.slice px nx cx) u1 /\ Aft u u1 /\
 R (.slice px nx cx) u1)
theorem oZ23 {ps : Option Addr} {ns cs : Nat} (h : vZ23 ps ns cs w fun v w' => R (.returned v) w') : Calls P F.Z23 #[.slice ps ns cs] w R :=
 calls_of_eq (A := ⟨[],[]⟩) mixed Tryz.func78 (by kernel_rfl) (by kernel_rfl) h
def vZ27 (ps : Option Addr) (ns cs : Nat) (f : Value) (w : World) (R : Value -> World -> Prop) : Prop :=
 Calls P F.Z3d #[.slice ps ns cs,f] w fun en u => ∃ x,en = .returned (.int .i64 x) /\
 R (.bool (decide (0 <= x))) u
theorem oZ27 {ps : Option Addr} {ns cs : Nat} {f : Value} (h : vZ27 ps ns cs f w fun v w' => R (.returned v) w') : Calls P F.Z27 #[.slice ps ns cs,f] w R :=
 calls_of_eq (A := ⟨[],[]⟩) mixed Tryz.func82 (by kernel_rfl) (by kernel_rfl) h
def vZ2b (ps : Option Addr) (ns cs : Nat) (n : Int) (w : World) (R : Value -> World -> Prop) : Prop :=
 join (fun (t : Unit) (u : World) =>
 br (decide (0 < IntKind.wrap .i64 (n - (IntKind.wrap .i64 ((cs : Int) - (ns : Int)))))) (
 chk (decide (0 <= 0) && decide (0 <= (cs : Int)) && decide ((cs : Int) <= (cs : Int)) && decide ((cs : Int) <= (cs : Int))) (
 ∃ px nx cx u1,(Builtin.append_ #[T.sl_uint32,T.int] T.sl_uint32 #[.slice (cutAt ps (Int.toNat (cs : Int)) (Int.toNat 0) 1) (Int.toNat (cs : Int) - Int.toNat 0) (Int.toNat (cs : Int) - Int.toNat 0),.int .i64 (IntKind.wrap .i64 (n - (IntKind.wrap .i64 ((cs : Int) - (ns : Int)))))]).run P u = .ok (.slice px nx cx) u1 /\ Aft u u1 /\
 chk (decide (0 <= 0) && decide (0 <= (ns : Int)) && decide ((ns : Int) <= (cx : Int)) && decide ((cx : Int) <= (cx : Int))) (
 R (.slice (cutAt px (Int.toNat (cx : Int)) (Int.toNat 0) 1) (Int.toNat (ns : Int) - Int.toNat 0) (Int.toNat (cx : Int) - Int.toNat 0)) u1))) (
 R (.slice ps ns cs) u)) fun J3 =>
 br (decide (n < 0)) (
 False) (
 J3 () w)
theorem oZ2b {ps : Option Addr} {ns cs : Nat} {n : Int} (h : vZ2b ps ns cs n w fun v w' => R (.returned v) w') : Calls P F.Z2b #[.slice ps ns cs,.int .i64 n] w R :=
 calls_of_eq (A := ⟨[],[(3,[])]⟩) mixed Tryz.func86 (by kernel_rfl) (by kernel_rfl) h
def vZ2d (ps : Option Addr) (ns cs : Nat) (v : Bool) (w : World) (R : Value -> World -> Prop) : Prop :=
 ∃ (I : Int -> World -> Prop) (μ : Int -> World -> Nat),I 0 w /\
 ∀ (t : Int) (u : World),I t u ->
 br (decide (t < (ns : Int))) (
 chk (decide (0 <= t) && decide (t < (ns : Int))) (
 onPtr ps fun g o =>
 ∃ x,u.cell? ⟨g,o + t.toNat * 1,none⟩ = some (.bool x) /\
 br (v == x) (
 R (.int .i64 t) u) (
 I (IntKind.wrap .i64 (t + 1)) u /\ μ (IntKind.wrap .i64 (t + 1)) u < μ t u))) (
 R (.int .i64 (-1)) u)
theorem oZ2d {ps : Option Addr} {ns cs : Nat} {v : Bool} (h : vZ2d ps ns cs v w fun v w' => R (.returned v) w') : Calls P F.Z2d #[.slice ps ns cs,.bool v] w R :=
 calls_of_eq (A := ⟨[(2,[(8,(.int .i64))])],[]⟩) mixed Tryz.func88 (by kernel_rfl) (by kernel_rfl) h
def vZ34 (px : Option Addr) (nx cx : Nat) (w : World) (R : Value -> World -> Prop) : Prop :=
 join (fun (t : Unit) (u : World) =>
 chk (decide (0 <= 0) && decide (0 < (nx : Int))) (
 onPtr px fun g o =>
 ∃ x1,u.cell? ⟨g,o,none⟩ = some (.int .i64 x1) /\
 ∃ (I : Int × Int -> World -> Prop) (μ : Int × Int -> World -> Nat),I (x1,1) u /\
 ∀ (t1 : Int × Int) (u1 : World),I t1 u1 ->
 br (decide (t1.2 < (nx : Int))) (
 chk (decide (0 <= t1.2) && decide (t1.2 < (nx : Int))) (
 onPtr px fun g1 o1 =>
 ∃ x2,u1.cell? ⟨g1,o1 + t1.2.toNat * 1,none⟩ = some (.int .i64 x2) /\
 I ((if x2 > t1.1 then x2 else t1.1),IntKind.wrap .i64 (t1.2 + 1)) u1 /\ μ ((if x2 > t1.1 then x2 else t1.1),IntKind.wrap .i64 (t1.2 + 1)) u1 < μ t1 u1)) (
 R (.int .i64 t1.1) u1))) fun J3 =>
 br (decide ((nx : Int) < 1)) (
 False) (
 J3 () w)
theorem oZ34 {px : Option Addr} {nx cx : Nat} (h : vZ34 px nx cx w fun v w' => R (.returned v) w') : Calls P F.Z34 #[.slice px nx cx] w R :=
 calls_of_eq (A := ⟨[(5,[(3,(.int .i64)),(4,(.int .i64))])],[(3,[])]⟩) mixed Tryz.func115 (by kernel_rfl) (by kernel_rfl) h
def vZ37 (ps : Option Addr) (ns cs : Nat) (f : Value) (w : World) (R : Value -> World -> Prop) : Prop :=
 Calls P F.Z42 #[.slice ps ns cs,f] w fun en u => ∃ x,en = .returned (.int .i64 x) /\
 R (.bool (decide (0 <= x))) u
theorem oZ37 {ps : Option Addr} {ns cs : Nat} {f : Value} (h : vZ37 ps ns cs f w fun v w' => R (.returned v) w') : Calls P F.Z37 #[.slice ps ns cs,f] w R :=
 calls_of_eq (A := ⟨[],[]⟩) mixed Tryz.func118 (by kernel_rfl) (by kernel_rfl) h
def vZ3d (ps : Option Addr) (ns cs : Nat) (f : Value) (w : World) (R : Value -> World -> Prop) : Prop :=
 ∃ (I : Int -> World -> Prop) (μ : Int -> World -> Nat),I 0 w /\
 ∀ (t : Int) (u : World),I t u ->
 br (decide (t < (ns : Int))) (
 chk (decide (0 <= t) && decide (t < (ns : Int))) (
 onPtr ps fun g o =>
 ∃ x0 px1 nx1 cx1,holds u g (o + t.toNat * 2) [.int .i64 x0,.slice px1 nx1 cx1] /\
 onFunc f fun fn fa fb => chk (callable P fn) (Calls P fn (fa ++ #[.agg #[.int .i64 x0,.slice px1 nx1 cx1]] ++ fb) u fun en u1 => ∃ x,en = .returned (.bool x) /\
 br x (
 R (.int .i64 t) u1) (
 I (IntKind.wrap .i64 (t + 1)) u1 /\ μ (IntKind.wrap .i64 (t + 1)) u1 < μ t u)))) (
 R (.int .i64 (-1)) u)
theorem oZ3d {ps : Option Addr} {ns cs : Nat} {f : Value} (h : vZ3d ps ns cs f w fun v w' => R (.returned v) w') : Calls P F.Z3d #[.slice ps ns cs,f] w R :=
 calls_of_eq (A := ⟨[(2,[(8,(.int .i64))])],[]⟩) mixed Tryz.func124 (by kernel_rfl) (by kernel_rfl) h
def vZ3e (ps : Option Addr) (ns cs : Nat) (f : Value) (w : World) (R : Value -> World -> Prop) : Prop :=
 Calls P F.Z4e #[.slice ps ns cs,f] w fun en u => ∃ x,en = .returned (.int .i64 x) /\
 R (.bool (decide (0 <= x))) u
theorem oZ3e {ps : Option Addr} {ns cs : Nat} {f : Value} (h : vZ3e ps ns cs f w fun v w' => R (.returned v) w') : Calls P F.Z3e #[.slice ps ns cs,f] w R :=
 calls_of_eq (A := ⟨[],[]⟩) mixed Tryz.func125 (by kernel_rfl) (by kernel_rfl) h
def vZ42 (ps : Option Addr) (ns cs : Nat) (f : Value) (w : World) (R : Value -> World -> Prop) : Prop :=
 ∃ (I : Int -> World -> Prop) (μ : Int -> World -> Nat),I 0 w /\
 ∀ (t : Int) (u : World),I t u ->
 br (decide (t < (ns : Int))) (
 chk (decide (0 <= t) && decide (t < (ns : Int))) (
 onPtr ps fun g o =>
 ∃ x0 x1 x2 px3 nx3 cx3,holds u g (o + t.toNat * 4) [.string x0,.int .i64 x1,.int .i64 x2,.slice px3 nx3 cx3] /\
 onFunc f fun fn fa fb => chk (callable P fn) (Calls P fn (fa ++ #[.agg #[.string x0,.int .i64 x1,.int .i64 x2,.slice px3 nx3 cx3]] ++ fb) u fun en u1 => ∃ x,en = .returned (.bool x) /\
 br x (
 R (.int .i64 t) u1) (
 I (IntKind.wrap .i64 (t + 1)) u1 /\ μ (IntKind.wrap .i64 (t + 1)) u1 < μ t u)))) (
 R (.int .i64 (-1)) u)
theorem oZ42 {ps : Option Addr} {ns cs : Nat} {f : Value} (h : vZ42 ps ns cs f w fun v w' => R (.returned v) w') : Calls P F.Z42 #[.slice ps ns cs,f] w R :=
 calls_of_eq (A := ⟨[(2,[(8,(.int .i64))])],[]⟩) mixed Tryz.func150 (by kernel_rfl) (by kernel_rfl) h
def vZ44 (ps : Option Addr) (ns cs : Nat) (f : Value) (w : World) (R : Value -> World -> Prop) : Prop :=
 Calls P F.Z4l #[.slice ps ns cs,f] w fun en u => ∃ x,en = .returned (.int .i64 x) /\
 R (.bool (decide (0 <= x))) u
theorem oZ44 {ps : Option Addr} {ns cs : Nat} {f : Value} (h : vZ44 ps ns cs f w fun v w' => R (.returned v) w') : Calls P F.Z44 #[.slice ps ns cs,f] w R :=
 calls_of_eq (A := ⟨[],[]⟩) mixed Tryz.func152 (by kernel_rfl) (by kernel_rfl) h
def vZ4e (ps : Option Addr) (ns cs : Nat) (f : Value) (w : World) (R : Value -> World -> Prop) : Prop :=
 ∃ (I : Int -> World -> Prop) (μ : Int -> World -> Nat),I 0 w /\
 ∀ (t : Int) (u : World),I t u ->
 br (decide (t < (ns : Int))) (
 chk (decide (0 <= t) && decide (t < (ns : Int))) (
 onPtr ps fun g o =>
 ∃ x0 x1,holds u g (o + t.toNat * 2) [.int .i64 x0,.int .i64 x1] /\
 onFunc f fun fn fa fb => chk (callable P fn) (Calls P fn (fa ++ #[.agg #[.int .i64 x0,.int .i64 x1]] ++ fb) u fun en u1 => ∃ x,en = .returned (.bool x) /\
 br x (
 R (.int .i64 t) u1) (
 I (IntKind.wrap .i64 (t + 1)) u1 /\ μ (IntKind.wrap .i64 (t + 1)) u1 < μ t u)))) (
 R (.int .i64 (-1)) u)
theorem oZ4e {ps : Option Addr} {ns cs : Nat} {f : Value} (h : vZ4e ps ns cs f w fun v w' => R (.returned v) w') : Calls P F.Z4e #[.slice ps ns cs,f] w R :=
 calls_of_eq (A := ⟨[(2,[(8,(.int .i64))])],[]⟩) mixed Tryz.func162 (by kernel_rfl) (by kernel_rfl) h
def vZ4l (ps : Option Addr) (ns cs : Nat) (f : Value) (w : World) (R : Value -> World -> Prop) : Prop :=
 ∃ (I : Int -> World -> Prop) (μ : Int -> World -> Nat),I 0 w /\
 ∀ (t : Int) (u : World),I t u ->
 br (decide (t < (ns : Int))) (
 chk (decide (0 <= t) && decide (t < (ns : Int))) (
 onPtr ps fun g o =>
 ∃ x0 x1,holds u g (o + t.toNat * 2) [.int .i64 x0,.int .i64 x1] /\
 onFunc f fun fn fa fb => chk (callable P fn) (Calls P fn (fa ++ #[.agg #[.int .i64 x0,.int .i64 x1]] ++ fb) u fun en u1 => ∃ x,en = .returned (.bool x) /\
 br x (
 R (.int .i64 t) u1) (
 I (IntKind.wrap .i64 (t + 1)) u1 /\ μ (IntKind.wrap .i64 (t + 1)) u1 < μ t u)))) (
 R (.int .i64 (-1)) u)
theorem oZ4l {ps : Option Addr} {ns cs : Nat} {f : Value} (h : vZ4l ps ns cs f w fun v w' => R (.returned v) w') : Calls P F.Z4l #[.slice ps ns cs,f] w R :=
 calls_of_eq (A := ⟨[(2,[(8,(.int .i64))])],[]⟩) mixed Tryz.func169 (by kernel_rfl) (by kernel_rfl) h
def vZ2c (x : Int) (y : Int) (w : World) (R : Value -> World -> Prop) : Prop :=
 Calls P F.Z3h #[.int .u64 x,.int .u64 y] w fun en u => ∃ x0 x1,en = .returned (.tuple #[.int .u64 x0,.int .u64 x1]) /\
 R (.tuple #[.int .u64 x0,.int .u64 x1]) u
theorem oZ2c {x : Int} {y : Int} (h : vZ2c x y w fun v w' => R (.returned v) w') : Calls P F.Z2c #[.int .u64 x,.int .u64 y] w R :=
 calls_of_eq (A := ⟨[],[]⟩) mixed Tryz.func87 (by kernel_rfl) (by kernel_rfl) h
def vZ3h (x : Int) (y : Int) (w : World) (R : Value -> World -> Prop) : Prop :=
 R (.tuple #[.int .u64 (IntKind.wrap .u64 ((IntKind.wrap .u64 ((IntKind.wrap .u64 ((Int.fdiv x (2 ^ (min (Int.toNat 32) (IntKind.bits .u64)))) * (Int.fdiv y (2 ^ (min (Int.toNat 32) (IntKind.bits .u64)))))) + (Int.fdiv (IntKind.wrap .u64 ((IntKind.wrap .u64 ((Int.fdiv x (2 ^ (min (Int.toNat 32) (IntKind.bits .u64)))) * (IntKind.wrap .u64 ((BitVec.toNat (BitVec.ofInt (IntKind.bits .u64) y &&& BitVec.ofInt (IntKind.bits .u64) 4294967295) : Int))))) + (Int.fdiv (IntKind.wrap .u64 ((IntKind.wrap .u64 ((BitVec.toNat (BitVec.ofInt (IntKind.bits .u64) x &&& BitVec.ofInt (IntKind.bits .u64) 4294967295) : Int))) * (IntKind.wrap .u64 ((BitVec.toNat (BitVec.ofInt (IntKind.bits .u64) y &&& BitVec.ofInt (IntKind.bits .u64) 4294967295) : Int))))) (2 ^ (min (Int.toNat 32) (IntKind.bits .u64)))))) (2 ^ (min (Int.toNat 32) (IntKind.bits .u64)))))) + (Int.fdiv (IntKind.wrap .u64 ((IntKind.wrap .u64 ((BitVec.toNat (BitVec.ofInt (IntKind.bits .u64) (IntKind.wrap .u64 ((IntKind.wrap .u64 ((Int.fdiv x (2 ^ (min (Int.toNat 32) (IntKind.bits .u64)))) * (IntKind.wrap .u64 ((BitVec.toNat (BitVec.ofInt (IntKind.bits .u64) y &&& BitVec.ofInt (IntKind.bits .u64) 4294967295) : Int))))) + (Int.fdiv (IntKind.wrap .u64 ((IntKind.wrap .u64 ((BitVec.toNat (BitVec.ofInt (IntKind.bits .u64) x &&& BitVec.ofInt (IntKind.bits .u64) 4294967295) : Int))) * (IntKind.wrap .u64 ((BitVec.toNat (BitVec.ofInt (IntKind.bits .u64) y &&& BitVec.ofInt (IntKind.bits .u64) 4294967295) : Int))))) (2 ^ (min (Int.toNat 32) (IntKind.bits .u64)))))) &&& BitVec.ofInt (IntKind.bits .u64) 4294967295) : Int))) + (IntKind.wrap .u64 ((IntKind.wrap .u64 ((BitVec.toNat (BitVec.ofInt (IntKind.bits .u64) x &&& BitVec.ofInt (IntKind.bits .u64) 4294967295) : Int))) * (Int.fdiv y (2 ^ (min (Int.toNat 32) (IntKind.bits .u64)))))))) (2 ^ (min (Int.toNat 32) (IntKind.bits .u64)))))),.int .u64 (IntKind.wrap .u64 (x * y))]) w
theorem oZ3h {x : Int} {y : Int} (h : vZ3h x y w fun v w' => R (.returned v) w') : Calls P F.Z3h #[.int .u64 x,.int .u64 y] w R :=
 calls_of_eq (A := ⟨[],[]⟩) mixed Tryz.func129 (by kernel_rfl) (by kernel_rfl) h
end
end Go.Proofs.YtbedadcbbnmpkaaGreatDoor
