/- Part 7 of what the proof rests on: VcAct. No condition. -/
import Derived.Test.YtbedadcbbnmpkaaGreatDoorAf
set_option linter.unusedSimpArgs false
set_option linter.unusedVariables false
namespace Go.Proofs.YtbedadcbbnmpkaaGreatDoor
open Go Vc
section
variable {w : World} {R : Ending -> World -> Prop}
def vZ2 (pu0 : Option Addr) (nu0 cu0 : Nat) (pu1 : Option Addr) (nu1 cu1 : Nat) (pu2 : Option Addr) (nu2 cu2 : Nat) (pu3 : Option Addr) (nu3 cu3 : Nat) (u4 : Int) (s_t : TypeId) (s_v : Value) (w : World) (R : Value -> World -> Prop) : Prop :=
 newB w #[.slice pu0 nu0 cu0,.slice pu1 nu1 cu1,.slice pu2 nu2 cu2,.slice pu3 nu3 cu3,.int .i64 u4] T.api_Unit fun b q =>
 ∃ px0 nx0 cx0 px1 nx1 cx1 px2 nx2 cx2 px3 nx3 cx3 x4,holds q b 0 [.slice px0 nx0 cx0,.slice px1 nx1 cx1,.slice px2 nx2 cx2,.slice px3 nx3 cx3,.int .i64 x4] /\
 Calls P F.Zi #[.iface s_t s_v,.agg #[.slice px0 nx0 cx0,.slice px1 nx1 cx1,.slice px2 nx2 cx2,.slice px3 nx3 cx3,.int .i64 x4]] q fun en q1 => ∃ px01 nx01 cx01 x1,en = .returned (.tuple #[.slice px01 nx01 cx01,.bool x1]) /\
 br (!x1) (
 R (.pointer none) q1) (
 ∃ px02 nx02 cx02 px11 nx11 cx11 px21 nx21 cx21 px31 nx31 cx31 x41,holds q1 b 0 [.slice px02 nx02 cx02,.slice px11 nx11 cx11,.slice px21 nx21 cx21,.slice px31 nx31 cx31,.int .i64 x41] /\
 Calls P F.Zj #[.agg #[.slice px02 nx02 cx02,.slice px11 nx11 cx11,.slice px21 nx21 cx21,.slice px31 nx31 cx31,.int .i64 x41]] q1 fun en q2 => ∃ px03 nx03 cx03 px12 nx12 cx12 px22 nx22 cx22 px32 nx32 cx32 x42,en = .returned (.agg #[.slice px03 nx03 cx03,.slice px12 nx12 cx12,.slice px22 nx22 cx22,.slice px32 nx32 cx32,.int .i64 x42]) /\
 Calls P F.Zk #[] q2 fun en q3 => ∃ x,en = .returned (.pointer x) /\
 Calls P F.Zl #[] q3 fun en q4 => ∃ x2,en = .returned (.pointer x2) /\
 Calls P F.Zm #[] q4 fun en q5 => ∃ x3,en = .returned (.pointer x3) /\
 newB q5 #[.slice px03 nx03 cx03,.slice px12 nx12 cx12,.slice px22 nx22 cx22,.slice px32 nx32 cx32,.int .i64 x42,.iface s_t s_v,.pointer x,.pointer x2,.pointer x3,.slice none 0 0,.int .i64 0,.int .i64 0,.int .i64 0,.int .i64 0,.int .i64 0,.int .i64 0,.int .i64 0,.int .i64 0,.int .i64 0,.int .i64 0,.int .i64 0,.int .i64 0,.int .i64 0,.int .i64 0,.int .i64 0,.int .i64 0,.int .i64 0,.int .i64 0,.int .i64 0,.int .i64 0,.int .i64 0,.int .i64 0,.int .i64 0,.int .i64 0,.int .i64 0,.int .i64 0,.int .i64 0,.int .i64 0,.int .i64 0,.int .i64 0,.int .i64 0,.int .i64 0,.int .i64 0,.int .i64 0,.int .i64 0,.int .i64 0,.int .i64 0,.int .i64 0,.int .i64 0,.int .i64 0,.int .i64 0,.int .i64 0,.int .i64 0,.int .i64 0,.int .i64 0,.int .i64 0,.int .i64 0,.int .i64 0,.int .i64 0,.int .i64 0,.int .i64 0,.int .i64 0,.int .i64 0,.int .i64 0,.slice none 0 0,.slice none 0 0,.bool false,.int .i64 0,.int .i64 0,.int .i64 0] T.act_Machine fun b1 q6 =>
 ∃ px nx cx,q6.cell? ⟨b,1,none⟩ = some (.slice px nx cx) /\
 ∃ (I : Int -> World -> Prop) (μ : Int -> World -> Nat),I 0 q6 /\
 ∀ (t : Int) (q7 : World),I t q7 ->
 br (decide (t < (nx : Int))) (
 chk (decide (0 <= t) && decide (t < (nx : Int))) (
 onPtr px fun g o =>
 ∃ x0 x11 x21 px33 nx33 cx33,holds q7 g (o + t.toNat * 4) [.string x0,.int .i64 x11,.int .i64 x21,.slice px33 nx33 cx33] /\
 newB q7 #[.string (⟨#[]⟩ : ByteArray),.int .i64 0,.int .i64 0,.slice none 0 0] T.api_Class fun b2 q8 =>
 stores q8 b2 0 [.string x0,.int .i64 x11,.int .i64 x21,.slice px33 nx33 cx33] fun q9 =>
 ∃ px4 nx4 cx4,q9.cell? ⟨b2,3,none⟩ = some (.slice px4 nx4 cx4) /\
 Calls P F.Zn #[.slice px4 nx4 cx4] q9 fun en q10 => ∃ x01 x12,en = .returned (.tuple #[.pointer x01,.bool x12]) /\
 ∃ px5 nx5 cx5,q10.cell? ⟨b1,9,none⟩ = some (.slice px5 nx5 cx5) /\
 newB q10 #[.pointer x01] T.p_dict_Dict fun b3 q11 =>
 ∃ px6 nx6 cx6 q12,(Builtin.append_ #[T.sl_p_dict_Dict,T.sl_p_dict_Dict] T.sl_p_dict_Dict #[.slice px5 nx5 cx5,.slice (some ⟨b3,0,none⟩) 1 1]).run P q11 = .ok (.slice px6 nx6 cx6) q12 /\ Aft q11 q12 /\
 stores q12 b1 9 [.slice px6 nx6 cx6] fun q13 =>
 I (IntKind.wrap .i64 (t + 1)) q13 /\ μ (IntKind.wrap .i64 (t + 1)) q13 < μ t q7)) (
 ∃ (I1 : Int -> World -> Prop) (μ1 : Int -> World -> Nat),I1 0 q7 /\
 ∀ (t1 : Int) (q14 : World),I1 t1 q14 ->
 br (decide (t1 < 6)) (
 chk (decide (0 <= t1) && decide (t1 < 6)) (
 stores q14 b1 (10 + t1.toNat * 1) [.int .i64 (-1)] fun q15 =>
 I1 (IntKind.wrap .i64 (t1 + 1)) q15 /\ μ1 (IntKind.wrap .i64 (t1 + 1)) q15 < μ1 t1 q14)) (
 wv q14.drew fun q16 =>
 ∃ x5,q16.cell? ⟨b,4,none⟩ = some (.int .i64 x5) /\
 chk (decide (0 <= 0) && decide (0 < (nx01 : Int))) (
 onPtr px01 fun g1 o1 =>
 ∃ x6,q16.cell? ⟨g1,o1,none⟩ = some (.int .i64 x6) /\
 Calls P F.Zp #[.int .i64 x6] q16 fun en q17 => ∃ x7,en = .returned (.int .u32 x7) /\
 ((q17.cell? ⟨b,4,none⟩ = some (.int .i64 x5)) /\ True) /\
 Calls P F.Zo #[.pointer (some ⟨b1,0,none⟩),.int .i64 x5,.int .u32 x7,.slice none 0 0,.int .i64 (-1),.int .i64 (-1),.int .i64 0] q17 fun en q18 => ∃ x8,en = .returned (.int .i64 x8) /\
 True /\
 stores q18 b1 10 [.int .i64 x8] fun q19 =>
 True /\
 ∃ x9,q19.cell? ⟨b1,7,none⟩ = some (.pointer x9) /\
 Calls P F.Zq #[.pointer x9,.int .i64 0,.int .i64 1] q19 fun en q20 => ∃ x10,en = .returned (.bool x10) /\
 R (.pointer (some ⟨b1,0,none⟩)) q20))))
theorem oZ2 {pu0 : Option Addr} {nu0 cu0 : Nat} {pu1 : Option Addr} {nu1 cu1 : Nat} {pu2 : Option Addr} {nu2 cu2 : Nat} {pu3 : Option Addr} {nu3 cu3 : Nat} {u4 : Int} {s_t : TypeId} {s_v : Value} (h : vZ2 pu0 nu0 cu0 pu1 nu1 cu1 pu2 nu2 cu2 pu3 nu3 cu3 u4 s_t s_v w fun v w' => R (.returned v) w') : Calls P F.Z2 #[.agg #[.slice pu0 nu0 cu0,.slice pu1 nu1 cu1,.slice pu2 nu2 cu2,.slice pu3 nu3 cu3,.int .i64 u4],.iface s_t s_v] w R :=
 calls_of_eq (A := ⟨[(6,[(32,(.int .i64))]),(12,[(53,(.int .i64))])],[]⟩) mixed Tryz.func5 (by kernel_rfl) (by kernel_rfl) h
def vZ4y (pu0 : Option Addr) (nu0 cu0 : Nat) (pu1 : Option Addr) (nu1 cu1 : Nat) (pu2 : Option Addr) (nu2 cu2 : Nat) (pu3 : Option Addr) (nu3 cu3 : Nat) (u4 : Int) (w : World) (R : Value -> World -> Prop) : Prop :=
 newB w #[.slice pu0 nu0 cu0,.slice pu1 nu1 cu1,.slice pu2 nu2 cu2,.slice pu3 nu3 cu3,.int .i64 u4] T.api_Unit fun b q =>
 ∃ px0 nx0 cx0 px1 nx1 cx1 px2 nx2 cx2 px3 nx3 cx3 x4,holds q b 0 [.slice px0 nx0 cx0,.slice px1 nx1 cx1,.slice px2 nx2 cx2,.slice px3 nx3 cx3,.int .i64 x4] /\
 Calls P F.Zi #[.nilIface,.agg #[.slice px0 nx0 cx0,.slice px1 nx1 cx1,.slice px2 nx2 cx2,.slice px3 nx3 cx3,.int .i64 x4]] q fun en q1 => ∃ px01 nx01 cx01 x1,en = .returned (.tuple #[.slice px01 nx01 cx01,.bool x1]) /\
 br (!x1) (
 R (.pointer none) q1) (
 ∃ px02 nx02 cx02 px11 nx11 cx11 px21 nx21 cx21 px31 nx31 cx31 x41,holds q1 b 0 [.slice px02 nx02 cx02,.slice px11 nx11 cx11,.slice px21 nx21 cx21,.slice px31 nx31 cx31,.int .i64 x41] /\
 Calls P F.Zj #[.agg #[.slice px02 nx02 cx02,.slice px11 nx11 cx11,.slice px21 nx21 cx21,.slice px31 nx31 cx31,.int .i64 x41]] q1 fun en q2 => ∃ px03 nx03 cx03 px12 nx12 cx12 px22 nx22 cx22 px32 nx32 cx32 x42,en = .returned (.agg #[.slice px03 nx03 cx03,.slice px12 nx12 cx12,.slice px22 nx22 cx22,.slice px32 nx32 cx32,.int .i64 x42]) /\
 Calls P F.Zk #[] q2 fun en q3 => ∃ x,en = .returned (.pointer x) /\
 Calls P F.Zl #[] q3 fun en q4 => ∃ x2,en = .returned (.pointer x2) /\
 Calls P F.Zm #[] q4 fun en q5 => ∃ x3,en = .returned (.pointer x3) /\
 newB q5 #[.slice px03 nx03 cx03,.slice px12 nx12 cx12,.slice px22 nx22 cx22,.slice px32 nx32 cx32,.int .i64 x42,.nilIface,.pointer x,.pointer x2,.pointer x3,.slice none 0 0,.int .i64 0,.int .i64 0,.int .i64 0,.int .i64 0,.int .i64 0,.int .i64 0,.int .i64 0,.int .i64 0,.int .i64 0,.int .i64 0,.int .i64 0,.int .i64 0,.int .i64 0,.int .i64 0,.int .i64 0,.int .i64 0,.int .i64 0,.int .i64 0,.int .i64 0,.int .i64 0,.int .i64 0,.int .i64 0,.int .i64 0,.int .i64 0,.int .i64 0,.int .i64 0,.int .i64 0,.int .i64 0,.int .i64 0,.int .i64 0,.int .i64 0,.int .i64 0,.int .i64 0,.int .i64 0,.int .i64 0,.int .i64 0,.int .i64 0,.int .i64 0,.int .i64 0,.int .i64 0,.int .i64 0,.int .i64 0,.int .i64 0,.int .i64 0,.int .i64 0,.int .i64 0,.int .i64 0,.int .i64 0,.int .i64 0,.int .i64 0,.int .i64 0,.int .i64 0,.int .i64 0,.int .i64 0,.slice none 0 0,.slice none 0 0,.bool false,.int .i64 0,.int .i64 0,.int .i64 0] T.act_Machine fun b1 q6 =>
 ∃ px nx cx,q6.cell? ⟨b,1,none⟩ = some (.slice px nx cx) /\
 ∃ (I : Int -> World -> Prop) (μ : Int -> World -> Nat),I 0 q6 /\
 ∀ (t : Int) (q7 : World),I t q7 ->
 br (decide (t < (nx : Int))) (
 chk (decide (0 <= t) && decide (t < (nx : Int))) (
 onPtr px fun g o =>
 ∃ x0 x11 x21 px33 nx33 cx33,holds q7 g (o + t.toNat * 4) [.string x0,.int .i64 x11,.int .i64 x21,.slice px33 nx33 cx33] /\
 newB q7 #[.string (⟨#[]⟩ : ByteArray),.int .i64 0,.int .i64 0,.slice none 0 0] T.api_Class fun b2 q8 =>
 stores q8 b2 0 [.string x0,.int .i64 x11,.int .i64 x21,.slice px33 nx33 cx33] fun q9 =>
 ∃ px4 nx4 cx4,q9.cell? ⟨b2,3,none⟩ = some (.slice px4 nx4 cx4) /\
 Calls P F.Zn #[.slice px4 nx4 cx4] q9 fun en q10 => ∃ x01 x12,en = .returned (.tuple #[.pointer x01,.bool x12]) /\
 ∃ px5 nx5 cx5,q10.cell? ⟨b1,9,none⟩ = some (.slice px5 nx5 cx5) /\
 newB q10 #[.pointer x01] T.p_dict_Dict fun b3 q11 =>
 ∃ px6 nx6 cx6 q12,(Builtin.append_ #[T.sl_p_dict_Dict,T.sl_p_dict_Dict] T.sl_p_dict_Dict #[.slice px5 nx5 cx5,.slice (some ⟨b3,0,none⟩) 1 1]).run P q11 = .ok (.slice px6 nx6 cx6) q12 /\ Aft q11 q12 /\
 stores q12 b1 9 [.slice px6 nx6 cx6] fun q13 =>
 I (IntKind.wrap .i64 (t + 1)) q13 /\ μ (IntKind.wrap .i64 (t + 1)) q13 < μ t q7)) (
 ∃ (I1 : Int -> World -> Prop) (μ1 : Int -> World -> Nat),I1 0 q7 /\
 ∀ (t1 : Int) (q14 : World),I1 t1 q14 ->
 br (decide (t1 < 6)) (
 chk (decide (0 <= t1) && decide (t1 < 6)) (
 stores q14 b1 (10 + t1.toNat * 1) [.int .i64 (-1)] fun q15 =>
 I1 (IntKind.wrap .i64 (t1 + 1)) q15 /\ μ1 (IntKind.wrap .i64 (t1 + 1)) q15 < μ1 t1 q14)) (
 wv q14.drew fun q16 =>
 ∃ x5,q16.cell? ⟨b,4,none⟩ = some (.int .i64 x5) /\
 chk (decide (0 <= 0) && decide (0 < (nx01 : Int))) (
 onPtr px01 fun g1 o1 =>
 ∃ x6,q16.cell? ⟨g1,o1,none⟩ = some (.int .i64 x6) /\
 Calls P F.Zp #[.int .i64 x6] q16 fun en q17 => ∃ x7,en = .returned (.int .u32 x7) /\
 ((q17.cell? ⟨b,4,none⟩ = some (.int .i64 x5)) /\ True) /\
 Calls P F.Zo #[.pointer (some ⟨b1,0,none⟩),.int .i64 x5,.int .u32 x7,.slice none 0 0,.int .i64 (-1),.int .i64 (-1),.int .i64 0] q17 fun en q18 => ∃ x8,en = .returned (.int .i64 x8) /\
 True /\
 stores q18 b1 10 [.int .i64 x8] fun q19 =>
 True /\
 ∃ x9,q19.cell? ⟨b1,7,none⟩ = some (.pointer x9) /\
 Calls P F.Zq #[.pointer x9,.int .i64 0,.int .i64 1] q19 fun en q20 => ∃ x10,en = .returned (.bool x10) /\
 R (.pointer (some ⟨b1,0,none⟩)) q20))))
theorem oZ4y {pu0 : Option Addr} {nu0 cu0 : Nat} {pu1 : Option Addr} {nu1 cu1 : Nat} {pu2 : Option Addr} {nu2 cu2 : Nat} {pu3 : Option Addr} {nu3 cu3 : Nat} {u4 : Int} (h : vZ4y pu0 nu0 cu0 pu1 nu1 cu1 pu2 nu2 cu2 pu3 nu3 cu3 u4 w fun v w' => R (.returned v) w') : Calls P F.Z2 #[.agg #[.slice pu0 nu0 cu0,.slice pu1 nu1 cu1,.slice pu2 nu2 cu2,.slice pu3 nu3 cu3,.int .i64 u4],.nilIface] w R :=
 calls_of_eq (A := ⟨[(6,[(32,(.int .i64))]),(12,[(53,(.int .i64))])],[]⟩) mixed Tryz.func5 (by kernel_rfl) (by kernel_rfl) h
def vZ4 (m : Nat) (w : World) (R : Value -> World -> Prop) : Prop :=
 ∃ x,w.cell? ⟨m,7,none⟩ = some (.pointer x) /\
 Calls P F.Zr #[.pointer x] w fun en q => ∃ x1,en = .returned (.int .i64 x1) /\
 join (fun (t : Unit) (q1 : World) =>
 stores q1 m 68 [.int .i64 0] fun q2 =>
 stores q2 m 69 [.int .i64 0] fun q3 =>
 chk (decide (0 <= x1) && decide (x1 < 6)) (
 ∃ x2,q3.cell? ⟨m,10 + x1.toNat * 1,none⟩ = some (.int .i64 x2) /\
 ∃ x3,q3.cell? ⟨m,6,none⟩ = some (.pointer x3) /\
 Calls P F.Zs #[.pointer x3,.int .i64 x2] q3 fun en q4 => ∃ x00 x01 x02 x03 x04 x05 px06 nx06 cx06 px07 nx07 cx07 x11,en = .returned (.tuple #[.agg #[.int .i64 x00,.int .i64 x01,.int .i64 x02,.int .i64 x03,.int .i64 x04,.int .u32 x05,.slice px06 nx06 cx06,.slice px07 nx07 cx07],.bool x11]) /\
 newB q4 #[.int .i64 0,.int .i64 0,.int .i64 0,.int .i64 0,.int .i64 0,.int .u32 0,.slice none 0 0,.slice none 0 0] T.frame_Frame fun b q5 =>
 stores q5 b 0 [.int .i64 x00,.int .i64 x01,.int .i64 x02,.int .i64 x03,.int .i64 x04,.int .u32 x05,.slice px06 nx06 cx06,.slice px07 nx07 cx07] fun q6 =>
 wv q6.drew fun q7 =>
 ∃ px nx cx,q7.cell? ⟨m,2,none⟩ = some (.slice px nx cx) /\
 ∃ x4,q7.cell? ⟨b,0,none⟩ = some (.int .i64 x4) /\
 chk (decide (0 <= x4) && decide (x4 < (nx : Int))) (
 onPtr px fun g o =>
 ∃ x0 x12 px2 nx2 cx2 px3 nx3 cx3,holds q7 g (o + x4.toNat * 4) [.int .i64 x0,.int .i64 x12,.slice px2 nx2 cx2,.slice px3 nx3 cx3] /\
 ∃ x5,q7.cell? ⟨b,1,none⟩ = some (.int .i64 x5) /\
 (Calls P F.Zt #[.agg #[.int .i64 x0,.int .i64 x12,.slice px2 nx2 cx2,.slice px3 nx3 cx3],.int .i64 x5] q7 fun en q8 => ∃ x001 x011 x13,en = .returned (.tuple #[.agg #[.int .i64 x001,.int .i64 x011],.bool x13]) /\
 ((q8.cell? ⟨b,0,none⟩ = some (.int .i64 x4)) /\ (q8.cell? ⟨m,2,none⟩ = some (.slice px nx cx)) /\ True) /\
 newB q8 #[.int .i64 0,.int .i64 0] T.code_Inst fun b1 q9 =>
 ((q9.cell? ⟨b,0,none⟩ = some (.int .i64 x4)) /\ (q9.cell? ⟨m,2,none⟩ = some (.slice px nx cx)) /\ True) /\
 stores q9 b1 0 [.int .i64 x001,.int .i64 x011] fun q10 =>
 True /\
 ∃ x06 x14 x21 x31 x41 x51 px6 nx6 cx6 px7 nx7 cx7,holds q10 b 0 [.int .i64 x06,.int .i64 x14,.int .i64 x21,.int .i64 x31,.int .i64 x41,.int .u32 x51,.slice px6 nx6 cx6,.slice px7 nx7 cx7] /\
 ∃ x6,q10.cell? ⟨b1,1,none⟩ = some (.int .i64 x6) /\
 newB q10 #[.pointer (some ⟨m,0,none⟩),.int .i64 x1,.int .i64 x2,.int .i64 x06,.int .i64 x14,.int .i64 x21,.int .i64 x31,.int .i64 x41,.int .u32 x51,.slice px6 nx6 cx6,.slice px7 nx7 cx7,.int .i64 x6] T.act_doing fun b2 q11 =>
 wv q11.drew fun q12 =>
 ∃ x7,q12.cell? ⟨m,6,none⟩ = some (.pointer x7) /\
 ∃ x8,q12.cell? ⟨b,1,none⟩ = some (.int .i64 x8) /\
 Calls P F.Zu #[.pointer x7,.int .i64 x2,.int .i64 (IntKind.wrap .i64 (x8 + 2))] q12 fun en q13 => ∃ x9,en = .returned (.bool x9) /\
 ((q13.cell? ⟨b,1,none⟩ = some (.int .i64 x8)) /\ True) /\
 ∃ x10,q13.cell? ⟨b1,0,none⟩ = some (.int .i64 x10) /\
 Calls P F.Zv #[.pointer (some ⟨b2,0,none⟩),.int .i64 x10] q13 fun en q14 => ∃ x15,en = .returned (.int .i64 x15) /\
 br (decide (x15 = (-1))) (
 stores q14 m 66 [.bool true] fun q15 =>
 Calls P F.Zw #[.pointer (some ⟨m,0,none⟩),.int .i64 5,.int .i64 0,.agg #[.int .i64 0,.int .i64 0]] q15 fun en q16 => en = .returned (.tuple #[]) /\
 R (.bool true) q16) (
 br (!(decide (x15 = 0))) (
 Calls P F.Zx #[.pointer (some ⟨m,0,none⟩),.int .i64 x1,.int .i64 x15] q14 fun en q17 => en = .returned (.tuple #[]) /\
 R (.bool true) q17) (
 R (.bool true) q14))) /\ (newB q7 #[.int .i64 0,.int .i64 0] T.code_Inst fun b3 q18 =>
 ((q18.cell? ⟨b,1,none⟩ = some (.int .i64 x5)) /\ (holds q18 g (o + x4.toNat * 4) [.int .i64 x0,.int .i64 x12,.slice px2 nx2 cx2,.slice px3 nx3 cx3]) /\ (q18.cell? ⟨b,0,none⟩ = some (.int .i64 x4)) /\ (q18.cell? ⟨m,2,none⟩ = some (.slice px nx cx)) /\ True) /\
 Calls P F.Zt #[.agg #[.int .i64 x0,.int .i64 x12,.slice px2 nx2 cx2,.slice px3 nx3 cx3],.int .i64 x5] q18 fun en q19 => ∃ x002 x012 x16,en = .returned (.tuple #[.agg #[.int .i64 x002,.int .i64 x012],.bool x16]) /\
 ((q19.cell? ⟨b,0,none⟩ = some (.int .i64 x4)) /\ (q19.cell? ⟨m,2,none⟩ = some (.slice px nx cx)) /\ True) /\
 stores q19 b3 0 [.int .i64 x002,.int .i64 x012] fun q20 =>
 True /\
 ∃ x07 x17 x22 x32 x42 x52 px61 nx61 cx61 px71 nx71 cx71,holds q20 b 0 [.int .i64 x07,.int .i64 x17,.int .i64 x22,.int .i64 x32,.int .i64 x42,.int .u32 x52,.slice px61 nx61 cx61,.slice px71 nx71 cx71] /\
 ∃ x18,q20.cell? ⟨b3,1,none⟩ = some (.int .i64 x18) /\
 newB q20 #[.pointer (some ⟨m,0,none⟩),.int .i64 x1,.int .i64 x2,.int .i64 x07,.int .i64 x17,.int .i64 x22,.int .i64 x32,.int .i64 x42,.int .u32 x52,.slice px61 nx61 cx61,.slice px71 nx71 cx71,.int .i64 x18] T.act_doing fun b4 q21 =>
 wv q21.drew fun q22 =>
 ∃ x19,q22.cell? ⟨m,6,none⟩ = some (.pointer x19) /\
 ∃ x20,q22.cell? ⟨b,1,none⟩ = some (.int .i64 x20) /\
 Calls P F.Zu #[.pointer x19,.int .i64 x2,.int .i64 (IntKind.wrap .i64 (x20 + 2))] q22 fun en q23 => ∃ x23,en = .returned (.bool x23) /\
 ((q23.cell? ⟨b,1,none⟩ = some (.int .i64 x20)) /\ True) /\
 ∃ x24,q23.cell? ⟨b3,0,none⟩ = some (.int .i64 x24) /\
 Calls P F.Zv #[.pointer (some ⟨b4,0,none⟩),.int .i64 x24] q23 fun en q24 => ∃ x25,en = .returned (.int .i64 x25) /\
 br (decide (x25 = (-1))) (
 stores q24 m 66 [.bool true] fun q25 =>
 Calls P F.Zw #[.pointer (some ⟨m,0,none⟩),.int .i64 5,.int .i64 0,.agg #[.int .i64 0,.int .i64 0]] q25 fun en q26 => en = .returned (.tuple #[]) /\
 R (.bool true) q26) (
 br (!(decide (x25 = 0))) (
 Calls P F.Zx #[.pointer (some ⟨m,0,none⟩),.int .i64 x1,.int .i64 x25] q24 fun en q27 => en = .returned (.tuple #[]) /\
 R (.bool true) q27) (
 R (.bool true) q24)))))) fun J4 =>
 ∃ x26,q.cell? ⟨m,66,none⟩ = some (.bool x26) /\
 br x26 (
 R (.bool false) q) (
 br (decide (x1 < 0)) (
 R (.bool false) q) (
 J4 () q))
theorem oZ4 {m : Nat} (h : vZ4 m w fun v w' => R (.returned v) w') : Calls P F.Z4 #[.pointer (some ⟨m,0,none⟩)] w R :=
 calls_of_eq (A := ⟨[],[(4,[])]⟩) mixed Tryz.func7 (by kernel_rfl) (by kernel_rfl) h
def vZ5 (m : Nat) (w : World) (R : Value -> World -> Prop) : Prop :=
 ∃ x,w.cell? ⟨m,66,none⟩ = some (.bool x) /\
 R (.bool x) w
theorem oZ5 {m : Nat} (h : vZ5 m w fun v w' => R (.returned v) w') : Calls P F.Z5 #[.pointer (some ⟨m,0,none⟩)] w R :=
 calls_of_eq (A := ⟨[],[]⟩) mixed Tryz.func8 (by kernel_rfl) (by kernel_rfl) h
def vZ6 (m : Nat) (w : World) (R : Value -> World -> Prop) : Prop :=
 ∃ x,w.cell? ⟨m,69,none⟩ = some (.int .i64 x) /\
 R (.int .i64 x) w
theorem oZ6 {m : Nat} (h : vZ6 m w fun v w' => R (.returned v) w') : Calls P F.Z6 #[.pointer (some ⟨m,0,none⟩)] w R :=
 calls_of_eq (A := ⟨[],[]⟩) mixed Tryz.func9 (by kernel_rfl) (by kernel_rfl) h
def vZ8 (m : Nat) (w : World) (R : Value -> World -> Prop) : Prop :=
 ∃ x,w.cell? ⟨m,6,none⟩ = some (.pointer x) /\
 Calls P F.Zy #[.pointer x] w fun en q => ∃ px nx cx,en = .returned (.slice px nx cx) /\
 R (.slice px nx cx) q
theorem oZ8 {m : Nat} (h : vZ8 m w fun v w' => R (.returned v) w') : Calls P F.Z8 #[.pointer (some ⟨m,0,none⟩)] w R :=
 calls_of_eq (A := ⟨[],[]⟩) mixed Tryz.func11 (by kernel_rfl) (by kernel_rfl) h
def vZ9 (m : Nat) (w : World) (R : Value -> World -> Prop) : Prop :=
 ∃ px nx cx,w.cell? ⟨m,64,none⟩ = some (.slice px nx cx) /\
 Calls P F.Z10 #[.slice px nx cx] w fun en q => ∃ px1 nx1 cx1,en = .returned (.slice px1 nx1 cx1) /\
 Calls P F.Zz #[.slice px1 nx1 cx1] q fun en q1 => ∃ px2 nx2 cx2,en = .returned (.slice px2 nx2 cx2) /\
 R (.slice px2 nx2 cx2) q1
theorem oZ9 {m : Nat} (h : vZ9 m w fun v w' => R (.returned v) w') : Calls P F.Z9 #[.pointer (some ⟨m,0,none⟩)] w R :=
 calls_of_eq (A := ⟨[],[]⟩) mixed Tryz.func12 (by kernel_rfl) (by kernel_rfl) h
def vZa (m : Nat) (sem : Int) (w : World) (R : Value -> World -> Prop) : Prop :=
 ∃ x,w.cell? ⟨m,7,none⟩ = some (.pointer x) /\
 Calls P F.Z11 #[.pointer x,.int .i64 sem] w fun en q => ∃ x1,en = .returned (.int .i64 x1) /\
 R (.tuple #[]) q
theorem oZa {m : Nat} {sem : Int} (h : vZa m sem w fun v w' => R (.returned v) w') : Calls P F.Za #[.pointer (some ⟨m,0,none⟩),.int .i64 sem] w R :=
 calls_of_eq (A := ⟨[],[]⟩) mixed Tryz.func13 (by kernel_rfl) (by kernel_rfl) h
def vZb (m : Nat) (n : Int) (w : World) (R : Value -> World -> Prop) : Prop :=
 Calls P F.Z12 #[.int .i64 n] w fun en q => ∃ x0 x1,en = .returned (.tuple #[.int .u32 x0,.bool x1]) /\
 br x1 (
 ∃ px nx cx,q.cell? ⟨m,65,none⟩ = some (.slice px nx cx) /\
 br (decide ((nx : Int) < 32)) (
 ∃ px1 nx1 cx1,q.cell? ⟨m,65,none⟩ = some (.slice px1 nx1 cx1) /\
 newB q #[.int .u32 x0] T.uint32 fun b q1 =>
 ∃ px2 nx2 cx2 q2,(Builtin.append_ #[T.sl_uint32,T.sl_uint32] T.sl_uint32 #[.slice px1 nx1 cx1,.slice (some ⟨b,0,none⟩) 1 1]).run P q1 = .ok (.slice px2 nx2 cx2) q2 /\ Aft q1 q2 /\
 stores q2 m 65 [.slice px2 nx2 cx2] fun q3 =>
 R (.tuple #[]) q3) (
 R (.tuple #[]) q)) (
 R (.tuple #[]) q)
theorem oZb {m : Nat} {n : Int} (h : vZb m n w fun v w' => R (.returned v) w') : Calls P F.Zb #[.pointer (some ⟨m,0,none⟩),.int .i64 n] w R :=
 calls_of_eq (A := ⟨[],[]⟩) mixed Tryz.func14 (by kernel_rfl) (by kernel_rfl) h
def vZo (m : Nat) (method : Int) (self : Int) (pargs : Option Addr) (nargs cargs : Nat) (sender : Int) (home : Int) (serial : Int) (w : World) (R : Value -> World -> Prop) : Prop :=
 newB w #[.int .u32 2] T.uint32 fun b q =>
 ∃ px nx cx,q.cell? ⟨m,2,none⟩ = some (.slice px nx cx) /\
 chk (decide (0 <= method) && decide (method < (nx : Int))) (
 onPtr px fun g o =>
 ∃ x,q.cell? ⟨g,o + method.toNat * 4 + 1,none⟩ = some (.int .i64 x) /\
 Calls P F.Z1l #[.slice (some ⟨b,0,none⟩) 1 1,.int .i64 x] q fun en q1 => ∃ px1 nx1 cx1,en = .returned (.slice px1 nx1 cx1) /\
 newB q1 #[.slice pargs nargs cargs,.slice px1 nx1 cx1] T.sl_uint32 fun b1 q2 =>
 Calls P F.Z1k #[.slice (some ⟨b1,0,none⟩) 2 2] q2 fun en q3 => ∃ px2 nx2 cx2,en = .returned (.slice px2 nx2 cx2) /\
 ∃ x1,q3.cell? ⟨m,6,none⟩ = some (.pointer x1) /\
 Calls P F.Z1m #[.pointer x1,.int .i64 method,.int .u32 self,.slice px2 nx2 cx2,.int .i64 sender,.int .i64 home] q3 fun en q4 => ∃ x2,en = .returned (.int .i64 x2) /\
 br (decide (x2 < 0)) (
 R (.int .i64 (-1)) q4) (
 ∃ x3,q4.cell? ⟨m,6,none⟩ = some (.pointer x3) /\
 Calls P F.Zs #[.pointer x3,.int .i64 x2] q4 fun en q5 => ∃ x00 x01 x02 x03 x04 x05 px06 nx06 cx06 px07 nx07 cx07 x11,en = .returned (.tuple #[.agg #[.int .i64 x00,.int .i64 x01,.int .i64 x02,.int .i64 x03,.int .i64 x04,.int .u32 x05,.slice px06 nx06 cx06,.slice px07 nx07 cx07],.bool x11]) /\
 newB q5 #[.int .i64 0,.int .i64 0,.int .i64 0,.int .i64 0,.int .i64 0,.int .u32 0,.slice none 0 0,.slice none 0 0] T.frame_Frame fun b2 q6 =>
 stores q6 b2 0 [.int .i64 x00,.int .i64 x01,.int .i64 x02,.int .i64 x03,.int .i64 x04,.int .u32 x05,.slice px06 nx06 cx06,.slice px07 nx07 cx07] fun q7 =>
 wv q7.drew fun q8 =>
 chk (decide (0 <= x2) && decide (x2 < 24)) (
 stores q8 m (16 + x2.toNat * 1) [.int .i64 serial] fun q9 =>
 True /\
 chk (decide (0 <= x2) && decide (x2 < 24)) (
 stores q9 m (40 + x2.toNat * 1) [.int .i64 0] fun q10 =>
 True /\
 br (decide (serial = 0)) (
 wv q10.drew fun q11 =>
 ∃ x4,q11.cell? ⟨b2,4,none⟩ = some (.int .i64 x4) /\
 chk (decide (0 <= x2) && decide (x2 < 24)) (
 stores q11 m (16 + x2.toNat * 1) [.int .i64 x4] fun q12 =>
 True /\
 R (.int .i64 x2) q12)) (
 R (.int .i64 x2) q10)))))
theorem oZo {m : Nat} {method : Int} {self : Int} {pargs : Option Addr} {nargs cargs : Nat} {sender : Int} {home : Int} {serial : Int} (h : vZo m method self pargs nargs cargs sender home serial w fun v w' => R (.returned v) w') : Calls P F.Zo #[.pointer (some ⟨m,0,none⟩),.int .i64 method,.int .u32 self,.slice pargs nargs cargs,.int .i64 sender,.int .i64 home,.int .i64 serial] w R :=
 calls_of_eq (A := ⟨[],[]⟩) mixed Tryz.func27 (by kernel_rfl) (by kernel_rfl) h
def vZv (d : Nat) (op : Int) (w : World) (R : Value -> World -> Prop) : Prop :=
 join (fun (t : Unit) (q : World) =>
 Calls P F.Z1y #[.pointer (some ⟨d,0,none⟩),.int .i64 1] q fun en q1 => ∃ x,en = .returned (.bool x) /\
 br (!x) (
 R (.int .i64 1) q1) (
 Calls P F.Z1z #[.pointer (some ⟨d,0,none⟩),.int .i64 op] q1 fun en q2 => ∃ x1,en = .returned (.int .i64 x1) /\
 R (.int .i64 x1) q2)) fun J32 =>
 br (decide (op = 0)) (
 wv w.drew fun q3 =>
 ∃ px nx cx,q3.cell? ⟨d,9,none⟩ = some (.slice px nx cx) /\
 ∃ x2,q3.cell? ⟨d,11,none⟩ = some (.int .i64 x2) /\
 chk (decide (0 <= x2) && decide (x2 < (nx : Int))) (
 onPtr px fun g o =>
 ∃ x3,q3.cell? ⟨g,o + x2.toNat * 1,none⟩ = some (.int .u32 x3) /\
 Calls P F.Z1s #[.pointer (some ⟨d,0,none⟩),.int .u32 x3] q3 fun en q4 => ∃ x4,en = .returned (.int .i64 x4) /\
 ((q4.cell? ⟨d,11,none⟩ = some (.int .i64 x2)) /\ (q4.cell? ⟨d,9,none⟩ = some (.slice px nx cx)) /\ True) /\
 R (.int .i64 x4) q4)) (
 join (fun (t1 : Bool) (q5 : World) =>
 br t1 (
 Calls P F.Z1t #[.pointer (some ⟨d,0,none⟩),.int .i64 op] q5 fun en q6 => ∃ x5,en = .returned (.int .i64 x5) /\
 R (.int .i64 x5) q6) (
 br (decide (op = 2)) (
 wv q5.drew fun q7 =>
 ∃ x6,q7.cell? ⟨d,0,none⟩ = some (.pointer x6) /\
 onPtr x6 fun g1 o1 =>
 ∃ px1 nx1 cx1,q7.cell? ⟨g1,o1 + 2,none⟩ = some (.slice px1 nx1 cx1) /\
 ∃ x7,q7.cell? ⟨d,3,none⟩ = some (.int .i64 x7) /\
 chk (decide (0 <= x7) && decide (x7 < (nx1 : Int))) (
 onPtr px1 fun g2 o2 =>
 ∃ px2 nx2 cx2,q7.cell? ⟨g2,o2 + x7.toNat * 4 + 2,none⟩ = some (.slice px2 nx2 cx2) /\
 ∃ x8,q7.cell? ⟨d,11,none⟩ = some (.int .i64 x8) /\
 chk (decide (0 <= x8) && decide (x8 < (nx2 : Int))) (
 onPtr px2 fun g3 o3 =>
 ∃ x9,q7.cell? ⟨g3,o3 + x8.toNat * 2 + 1,none⟩ = some (.int .i64 x9) /\
 Calls P F.Z12 #[.int .i64 x9] q7 fun en q8 => ∃ x0 x11,en = .returned (.tuple #[.int .u32 x0,.bool x11]) /\
 ((q8.cell? ⟨d,11,none⟩ = some (.int .i64 x8)) /\ (q8.cell? ⟨g2,o2 + x7.toNat * 4 + 2,none⟩ = some (.slice px2 nx2 cx2)) /\ (q8.cell? ⟨d,3,none⟩ = some (.int .i64 x7)) /\ (q8.cell? ⟨g1,o1 + 2,none⟩ = some (.slice px1 nx1 cx1)) /\ (q8.cell? ⟨d,0,none⟩ = some (.pointer x6)) /\ True) /\
 Calls P F.Z1s #[.pointer (some ⟨d,0,none⟩),.int .u32 x0] q8 fun en q9 => ∃ x10,en = .returned (.int .i64 x10) /\
 R (.int .i64 x10) q9))) (
 br (decide (op = 3)) (
 ∃ x12,q5.cell? ⟨d,8,none⟩ = some (.int .u32 x12) /\
 Calls P F.Z1s #[.pointer (some ⟨d,0,none⟩),.int .u32 x12] q5 fun en q10 => ∃ x13,en = .returned (.int .i64 x13) /\
 R (.int .i64 x13) q10) (
 br (decide (op = 4)) (
 Calls P F.Z1s #[.pointer (some ⟨d,0,none⟩),.int .u32 2] q5 fun en q11 => ∃ x14,en = .returned (.int .i64 x14) /\
 R (.int .i64 x14) q11) (
 br (decide (op = 5)) (
 Calls P F.Z1s #[.pointer (some ⟨d,0,none⟩),.int .u32 6] q5 fun en q12 => ∃ x15,en = .returned (.int .i64 x15) /\
 R (.int .i64 x15) q12) (
 br (decide (op = 6)) (
 Calls P F.Z1s #[.pointer (some ⟨d,0,none⟩),.int .u32 4] q5 fun en q13 => ∃ x16,en = .returned (.int .i64 x16) /\
 R (.int .i64 x16) q13) (
 br (decide (op = 7)) (
 Calls P F.Z1u #[.pointer (some ⟨d,0,none⟩)] q5 fun en q14 => ∃ x17,en = .returned (.int .i64 x17) /\
 R (.int .i64 x17) q14) (
 br (decide (op = 15)) (
 Calls P F.Z1v #[.pointer (some ⟨d,0,none⟩)] q5 fun en q15 => en = .returned (.tuple #[]) /\
 R (.int .i64 0) q15) (
 br (decide (op = 16)) (
 wv q5.drew fun q16 =>
 ∃ x18,q16.cell? ⟨d,0,none⟩ = some (.pointer x18) /\
 onPtr x18 fun g4 o4 =>
 ∃ x19,q16.cell? ⟨g4,o4 + 6,none⟩ = some (.pointer x19) /\
 ∃ x20,q16.cell? ⟨d,2,none⟩ = some (.int .i64 x20) /\
 ∃ x21,q16.cell? ⟨d,4,none⟩ = some (.int .i64 x21) /\
 ∃ x22,q16.cell? ⟨d,11,none⟩ = some (.int .i64 x22) /\
 Calls P F.Zu #[.pointer x19,.int .i64 x20,.int .i64 (IntKind.wrap .i64 (x21 - (IntKind.wrap .i64 (2 * x22))))] q16 fun en q17 => ∃ x23,en = .returned (.bool x23) /\
 ((q17.cell? ⟨d,11,none⟩ = some (.int .i64 x22)) /\ (q17.cell? ⟨d,4,none⟩ = some (.int .i64 x21)) /\ (q17.cell? ⟨d,0,none⟩ = some (.pointer x18)) /\ True) /\
 R (.int .i64 0) q17) (
 join (fun (t2 : Bool) (q18 : World) =>
 br t2 (
 Calls P F.Z1w #[.pointer (some ⟨d,0,none⟩),.int .i64 op] q18 fun en q19 => ∃ x24,en = .returned (.int .i64 x24) /\
 R (.int .i64 x24) q19) (
 br (decide (op = 21)) (
 Calls P F.Z1x #[.pointer (some ⟨d,0,none⟩)] q18 fun en q20 => ∃ x25,en = .returned (.int .i64 x25) /\
 R (.int .i64 x25) q20) (
 J32 () q18))) fun J29 =>
 br (decide (op = 20)) (
 J29 (decide (op = 20)) q5) (
 J29 (decide (op = 18)) q5))))))))))) fun J7 =>
 br (decide (op = 1)) (
 J7 (decide (op = 1)) w) (
 br (decide (op = 11)) (
 J7 (decide (op = 11)) w) (
 J7 (decide (op = 10)) w)))
theorem oZv {d : Nat} {op : Int} (h : vZv d op w fun v w' => R (.returned v) w') : Calls P F.Zv #[.pointer (some ⟨d,0,none⟩),.int .i64 op] w R :=
 calls_of_eq (A := ⟨[],[(7,[(23,.bool)]),(29,[(116,.bool)]),(32,[])]⟩) mixed Tryz.func34 (by kernel_rfl) (by kernel_rfl) h
def vZw (m : Nat) (kind : Int) (proc : Int) (v0 : Int) (v1 : Int) (w : World) (R : Value -> World -> Prop) : Prop :=
 newB w #[.int .i64 v0,.int .i64 v1] T.api_Val fun b q =>
 wv q.drew fun q1 =>
 ∃ px nx cx,q1.cell? ⟨m,64,none⟩ = some (.slice px nx cx) /\
 ∃ x0 x1,holds q1 b 0 [.int .i64 x0,.int .i64 x1] /\
 newB q1 #[.int .i64 kind,.int .i64 proc,.int .i64 x0,.int .i64 x1] T.api_Event fun b1 q2 =>
 ((holds q2 b 0 [.int .i64 x0,.int .i64 x1]) /\ (q2.cell? ⟨m,64,none⟩ = some (.slice px nx cx)) /\ True) /\
 ∃ px1 nx1 cx1 q3,(Builtin.append_ #[T.sl_api_Event,T.sl_api_Event] T.sl_api_Event #[.slice px nx cx,.slice (some ⟨b1,0,none⟩) 1 1]).run P q2 = .ok (.slice px1 nx1 cx1) q3 /\ Aft q2 q3 /\
 ((holds q3 b 0 [.int .i64 x0,.int .i64 x1]) /\ True) /\
 stores q3 m 64 [.slice px1 nx1 cx1] fun q4 =>
 True /\
 R (.tuple #[]) q4
theorem oZw {m : Nat} {kind : Int} {proc : Int} {v0 : Int} {v1 : Int} (h : vZw m kind proc v0 v1 w fun v w' => R (.returned v) w') : Calls P F.Zw #[.pointer (some ⟨m,0,none⟩),.int .i64 kind,.int .i64 proc,.agg #[.int .i64 v0,.int .i64 v1]] w R :=
 calls_of_eq (A := ⟨[],[]⟩) mixed Tryz.func35 (by kernel_rfl) (by kernel_rfl) h
def vZx (m : Nat) (p : Int) (fault : Int) (w : World) (R : Value -> World -> Prop) : Prop :=
 chk (decide (0 <= p) && decide (p < 6)) (
 ∃ x,w.cell? ⟨m,10 + p.toNat * 1,none⟩ = some (.int .i64 x) /\
 ∃ (I : Int -> World -> Prop) (μ : Int -> World -> Nat),I x w /\
 ∀ (t : Int) (q : World),I t q ->
 br (decide (0 <= t)) (
 ∃ x1,q.cell? ⟨m,6,none⟩ = some (.pointer x1) /\
 Calls P F.Zs #[.pointer x1,.int .i64 t] q fun en q1 => ∃ x00 x01 x02 x03 x04 x05 px06 nx06 cx06 px07 nx07 cx07 x11,en = .returned (.tuple #[.agg #[.int .i64 x00,.int .i64 x01,.int .i64 x02,.int .i64 x03,.int .i64 x04,.int .u32 x05,.slice px06 nx06 cx06,.slice px07 nx07 cx07],.bool x11]) /\
 newB q1 #[.int .i64 0,.int .i64 0,.int .i64 0,.int .i64 0,.int .i64 0,.int .u32 0,.slice none 0 0,.slice none 0 0] T.frame_Frame fun b q2 =>
 stores q2 b 0 [.int .i64 x00,.int .i64 x01,.int .i64 x02,.int .i64 x03,.int .i64 x04,.int .u32 x05,.slice px06 nx06 cx06,.slice px07 nx07 cx07] fun q3 =>
 ∃ x2,q3.cell? ⟨m,6,none⟩ = some (.pointer x2) /\
 Calls P F.Z20 #[.pointer x2,.int .i64 t] q3 fun en q4 => ∃ x3,en = .returned (.bool x3) /\
 ∃ x4,q4.cell? ⟨b,2,none⟩ = some (.int .i64 x4) /\
 I x4 q4 /\ μ x4 q4 < μ t q) (
 ∃ x5,q.cell? ⟨m,7,none⟩ = some (.pointer x5) /\
 Calls P F.Z21 #[.pointer x5] q fun en q5 => ∃ x6,en = .returned (.int .i64 x6) /\
 chk (decide (0 <= p) && decide (p < 6)) (
 stores q5 m (10 + p.toNat * 1) [.int .i64 (-1)] fun q6 =>
 Calls P F.Zw #[.pointer (some ⟨m,0,none⟩),.int .i64 3,.int .i64 p,.agg #[.int .i64 3,.int .i64 fault]] q6 fun en q7 => en = .returned (.tuple #[]) /\
 Calls P F.Z22 #[.pointer (some ⟨m,0,none⟩)] q7 fun en q8 => en = .returned (.tuple #[]) /\
 R (.tuple #[]) q8)))
theorem oZx {m : Nat} {p : Int} {fault : Int} (h : vZx m p fault w fun v w' => R (.returned v) w') : Calls P F.Zx #[.pointer (some ⟨m,0,none⟩),.int .i64 p,.int .i64 fault] w R :=
 calls_of_eq (A := ⟨[(1,[(6,(.int .i64))])],[]⟩) mixed Tryz.func36 (by kernel_rfl) (by kernel_rfl) h
def vZ1s (d : Nat) (q : Int) (w : World) (R : Value -> World -> Prop) : Prop :=
 Calls P F.Z2e #[.pointer (some ⟨d,0,none⟩)] w fun en q1 => ∃ x,en = .returned (.bool x) /\
 br (!x) (
 R (.int .i64 1) q1) (
 wv q1.drew fun q2 =>
 ∃ x1,q2.cell? ⟨d,0,none⟩ = some (.pointer x1) /\
 onPtr x1 fun g o =>
 ∃ x2,q2.cell? ⟨g,o + 6,none⟩ = some (.pointer x2) /\
 ∃ x3,q2.cell? ⟨d,2,none⟩ = some (.int .i64 x3) /\
 Calls P F.Z2f #[.pointer x2,.int .i64 x3,.int .u32 q] q2 fun en q3 => ∃ x4,en = .returned (.bool x4) /\
 ((q3.cell? ⟨d,0,none⟩ = some (.pointer x1)) /\ True) /\
 R (.int .i64 0) q3)
theorem oZ1s {d : Nat} {q : Int} (h : vZ1s d q w fun v w' => R (.returned v) w') : Calls P F.Z1s #[.pointer (some ⟨d,0,none⟩),.int .u32 q] w R :=
 calls_of_eq (A := ⟨[],[]⟩) mixed Tryz.func67 (by kernel_rfl) (by kernel_rfl) h
def vZ1t (d : Nat) (op : Int) (w : World) (R : Value -> World -> Prop) : Prop :=
 ∃ x,w.cell? ⟨d,8,none⟩ = some (.int .u32 x) /\
 Calls P F.Z2g #[.int .u32 x] w fun en q => ∃ x0 x1,en = .returned (.tuple #[.int .i64 x0,.bool x1]) /\
 br (decide (op = 1)) (
 wv q.drew fun q1 =>
 ∃ x2,q1.cell? ⟨d,0,none⟩ = some (.pointer x2) /\
 onPtr x2 fun g o =>
 ∃ x3 : Value,q1.cell? ⟨g,o + 5,none⟩ = some (x3) /\
 ∃ x4,q1.cell? ⟨d,11,none⟩ = some (.int .i64 x4) /\
 nilVC P x3 fun v =>
 onIface x3 fun u y =>
 ∃ (fn : FuncId) (rc : Value),(method (P.types.size + Made.depth) u y "Get").run P q1 = .ok (fn,rc) q1 /\ chk (callable P fn) (Calls P fn (#[rc] ++ #[.int .i64 x0,.int .i64 x4]) q1 fun en q2 => ∃ x01 x11,en = .returned (.tuple #[.int .u32 x01,.bool x11]) /\
 ((q2.cell? ⟨g,o + 5,none⟩ = some (x3)) /\ (q2.cell? ⟨d,0,none⟩ = some (.pointer x2)) /\ True) /\
 Calls P F.Z2e #[.pointer (some ⟨d,0,none⟩)] q2 fun en q3 => ∃ x5,en = .returned (.bool x5) /\
 br (!x5) (
 R (.int .i64 1) q3) (
 br (!x11) (
 R (.int .i64 3) q3) (
 Calls P F.Z1s #[.pointer (some ⟨d,0,none⟩),.int .u32 x01] q3 fun en q4 => ∃ x6,en = .returned (.int .i64 x6) /\
 R (.int .i64 x6) q4)))) (
 Calls P F.Z1y #[.pointer (some ⟨d,0,none⟩),.int .i64 1] q fun en q5 => ∃ x7,en = .returned (.bool x7) /\
 br (!x7) (
 R (.int .i64 1) q5) (
 br (decide (op = 10)) (
 wv q5.drew fun q6 =>
 ∃ x8,q6.cell? ⟨d,0,none⟩ = some (.pointer x8) /\
 onPtr x8 fun g1 o1 =>
 ∃ x9,q6.cell? ⟨g1,o1 + 6,none⟩ = some (.pointer x9) /\
 ∃ x10,q6.cell? ⟨d,2,none⟩ = some (.int .i64 x10) /\
 ∃ x12,q6.cell? ⟨d,11,none⟩ = some (.int .i64 x12) /\
 Calls P F.Z2i #[.pointer (some ⟨d,0,none⟩),.int .i64 0] q6 fun en q7 => ∃ x13,en = .returned (.int .u32 x13) /\
 ((q7.cell? ⟨d,11,none⟩ = some (.int .i64 x12)) /\ (q7.cell? ⟨d,2,none⟩ = some (.int .i64 x10)) /\ (q7.cell? ⟨g1,o1 + 6,none⟩ = some (.pointer x9)) /\ (q7.cell? ⟨d,0,none⟩ = some (.pointer x8)) /\ True) /\
 Calls P F.Z2h #[.pointer x9,.int .i64 x10,.int .i64 x12,.int .u32 x13] q7 fun en q8 => ∃ x14,en = .returned (.bool x14) /\
 ((q8.cell? ⟨d,0,none⟩ = some (.pointer x8)) /\ True) /\
 R (.int .i64 0) q8) (
 ∃ x15,q5.cell? ⟨d,0,none⟩ = some (.pointer x15) /\
 onPtr x15 fun g2 o2 =>
 ∃ x16 : Value,q5.cell? ⟨g2,o2 + 5,none⟩ = some (x16) /\
 onIface x16 fun u1 y1 =>
 ∃ (fn1 : FuncId) (rc1 : Value),(method (P.types.size + Made.depth) u1 y1 "Class").run P q5 = .ok (fn1,rc1) q5 /\ chk (callable P fn1) (Calls P fn1 (#[rc1] ++ #[.int .i64 x0]) q5 fun en q9 => ∃ x17,en = .returned (.int .i64 x17) /\
 br (decide (x17 = 0)) (
 R (.int .i64 2) q9) (
 wv q9.drew fun q10 =>
 ∃ x18,q10.cell? ⟨d,0,none⟩ = some (.pointer x18) /\
 onPtr x18 fun g3 o3 =>
 ∃ x19 : Value,q10.cell? ⟨g3,o3 + 5,none⟩ = some (x19) /\
 ∃ x20,q10.cell? ⟨d,11,none⟩ = some (.int .i64 x20) /\
 nilVC P x19 fun v1 =>
 Calls P F.Z2i #[.pointer (some ⟨d,0,none⟩),.int .i64 0] q10 fun en q11 => ∃ x21,en = .returned (.int .u32 x21) /\
 ((q11.cell? ⟨d,11,none⟩ = some (.int .i64 x20)) /\ (q11.cell? ⟨g3,o3 + 5,none⟩ = some (x19)) /\ (q11.cell? ⟨d,0,none⟩ = some (.pointer x18)) /\ True) /\
 onIface x19 fun u2 y2 =>
 ∃ (fn2 : FuncId) (rc2 : Value),(method (P.types.size + Made.depth) u2 y2 "Put").run P q11 = .ok (fn2,rc2) q11 /\ chk (callable P fn2) (Calls P fn2 (#[rc2] ++ #[.int .i64 x0,.int .i64 x20,.int .u32 x21]) q11 fun en q12 => ∃ x22,en = .returned (.bool x22) /\
 ((q12.cell? ⟨g3,o3 + 5,none⟩ = some (x19)) /\ (q12.cell? ⟨d,0,none⟩ = some (.pointer x18)) /\ True) /\
 br (!x22) (
 R (.int .i64 3) q12) (
 R (.int .i64 0) q12)))))))
theorem oZ1t {d : Nat} {op : Int} (h : vZ1t d op w fun v w' => R (.returned v) w') : Calls P F.Z1t #[.pointer (some ⟨d,0,none⟩),.int .i64 op] w R :=
 calls_of_eq (A := ⟨[],[]⟩) mixed Tryz.func68 (by kernel_rfl) (by kernel_rfl) h
def vZ1u (d : Nat) (w : World) (R : Value -> World -> Prop) : Prop :=
 ∃ x,w.cell? ⟨d,11,none⟩ = some (.int .i64 x) /\
 join (fun (t : Int) (q : World) =>
 Calls P F.Z12 #[.int .i64 t] q fun en q1 => ∃ x0 x1,en = .returned (.tuple #[.int .u32 x0,.bool x1]) /\
 Calls P F.Z1s #[.pointer (some ⟨d,0,none⟩),.int .u32 x0] q1 fun en q2 => ∃ x2,en = .returned (.int .i64 x2) /\
 R (.int .i64 x2) q2) fun J4 =>
 br (decide (128 <= x)) (
 J4 (IntKind.wrap .i64 (x - 256)) w) (
 J4 x w)
theorem oZ1u {d : Nat} (h : vZ1u d w fun v w' => R (.returned v) w') : Calls P F.Z1u #[.pointer (some ⟨d,0,none⟩)] w R :=
 calls_of_eq (A := ⟨[],[(4,[(3,(.int .i64))])]⟩) mixed Tryz.func69 (by kernel_rfl) (by kernel_rfl) h
def vZ1v (d : Nat) (w : World) (R : Value -> World -> Prop) : Prop :=
 wv w.drew fun q =>
 ∃ x,q.cell? ⟨d,0,none⟩ = some (.pointer x) /\
 onPtr x fun g o =>
 ∃ x1,q.cell? ⟨g,o + 6,none⟩ = some (.pointer x1) /\
 ∃ x2,q.cell? ⟨d,2,none⟩ = some (.int .i64 x2) /\
 ∃ x3,q.cell? ⟨d,4,none⟩ = some (.int .i64 x3) /\
 ∃ x4,q.cell? ⟨d,11,none⟩ = some (.int .i64 x4) /\
 Calls P F.Zu #[.pointer x1,.int .i64 x2,.int .i64 (IntKind.wrap .i64 ((IntKind.wrap .i64 (x3 + 2)) + (IntKind.wrap .i64 (2 * x4))))] q fun en q1 => ∃ x5,en = .returned (.bool x5) /\
 ((q1.cell? ⟨d,11,none⟩ = some (.int .i64 x4)) /\ (q1.cell? ⟨d,4,none⟩ = some (.int .i64 x3)) /\ (q1.cell? ⟨d,0,none⟩ = some (.pointer x)) /\ True) /\
 R (.tuple #[]) q1
theorem oZ1v {d : Nat} (h : vZ1v d w fun v w' => R (.returned v) w') : Calls P F.Z1v #[.pointer (some ⟨d,0,none⟩)] w R :=
 calls_of_eq (A := ⟨[],[]⟩) mixed Tryz.func70 (by kernel_rfl) (by kernel_rfl) h
def vZ1w (d : Nat) (op : Int) (w : World) (R : Value -> World -> Prop) : Prop :=
 Calls P F.Z2e #[.pointer (some ⟨d,0,none⟩)] w fun en q => ∃ x,en = .returned (.bool x) /\
 br (!x) (
 R (.int .i64 1) q) (
 wv q.drew fun q1 =>
 ∃ x1,q1.cell? ⟨d,0,none⟩ = some (.pointer x1) /\
 onPtr x1 fun g o =>
 ∃ px nx cx,q1.cell? ⟨g,o + 2,none⟩ = some (.slice px nx cx) /\
 ∃ x2,q1.cell? ⟨d,3,none⟩ = some (.int .i64 x2) /\
 chk (decide (0 <= x2) && decide (x2 < (nx : Int))) (
 onPtr px fun g1 o1 =>
 ∃ px1 nx1 cx1,q1.cell? ⟨g1,o1 + x2.toNat * 4 + 2,none⟩ = some (.slice px1 nx1 cx1) /\
 ∃ x3,q1.cell? ⟨d,11,none⟩ = some (.int .i64 x3) /\
 chk (decide (0 <= x3) && decide (x3 < (nx1 : Int))) (
 onPtr px1 fun g2 o2 =>
 ∃ x4,q1.cell? ⟨g2,o2 + x3.toNat * 2 + 1,none⟩ = some (.int .i64 x4) /\
 join (fun (t : Int × Int) (q2 : World) =>
 Calls P F.Z2j #[.pointer (some ⟨d,0,none⟩),.int .i64 t.1,.int .i64 t.2] q2 fun en q3 => ∃ x5,en = .returned (.int .i64 x5) /\
 br (decide (x5 < 0)) (
 R (.int .i64 (-1)) q3) (
 br (decide (op = 18)) (
 wv q3.drew fun q4 =>
 ∃ x6,q4.cell? ⟨d,6,none⟩ = some (.int .i64 x6) /\
 ∃ x7,q4.cell? ⟨d,0,none⟩ = some (.pointer x7) /\
 ∃ x8,q4.cell? ⟨d,2,none⟩ = some (.int .i64 x8) /\
 onPtr x7 fun g3 o3 =>
 chk (decide (0 <= x8) && decide (x8 < 24)) (
 ∃ x9,q4.cell? ⟨g3,o3 + 16 + x8.toNat * 1,none⟩ = some (.int .i64 x9) /\
 newB q4 #[.int .i64 x4,.int .i64 x6,.int .i64 x9] T.int fun b q5 =>
 ((q5.cell? ⟨d,2,none⟩ = some (.int .i64 x8)) /\ (q5.cell? ⟨d,0,none⟩ = some (.pointer x7)) /\ True) /\
 ∃ (I : Int -> World -> Prop) (μ : Int -> World -> Nat),I 0 q5 /\
 ∀ (t1 : Int) (q6 : World),I t1 q6 ->
 br (decide (t1 < 3)) (
 chk (decide (0 <= t1) && decide (t1 < 3)) (
 ∃ x10,q6.cell? ⟨b,0 + t1.toNat * 1,none⟩ = some (.int .i64 x10) /\
 Calls P F.Z12 #[.int .i64 x10] q6 fun en q7 => ∃ x0 x11,en = .returned (.tuple #[.int .u32 x0,.bool x11]) /\
 ∃ x12,q7.cell? ⟨d,0,none⟩ = some (.pointer x12) /\
 onPtr x12 fun g4 o4 =>
 ∃ x13 : Value,q7.cell? ⟨g4,o4 + 5,none⟩ = some (x13) /\
 onIface x13 fun u y =>
 ∃ (fn : FuncId) (rc : Value),(method (P.types.size + Made.depth) u y "Put").run P q7 = .ok (fn,rc) q7 /\ chk (callable P fn) (Calls P fn (#[rc] ++ #[.int .i64 x5,.int .i64 (IntKind.wrap .i64 (0 + t1)),.int .u32 x0]) q7 fun en q8 => ∃ x14,en = .returned (.bool x14) /\
 I (IntKind.wrap .i64 (t1 + 1)) q8 /\ μ (IntKind.wrap .i64 (t1 + 1)) q8 < μ t1 q6))) (
 wv q6.drew fun q9 =>
 ∃ x15,q9.cell? ⟨d,0,none⟩ = some (.pointer x15) /\
 onPtr x15 fun g5 o5 =>
 ∃ x16 : Value,q9.cell? ⟨g5,o5 + 5,none⟩ = some (x16) /\
 ∃ x17,q9.cell? ⟨d,8,none⟩ = some (.int .u32 x17) /\
 nilVC P x16 fun v =>
 onIface x16 fun u1 y1 =>
 ∃ (fn1 : FuncId) (rc1 : Value),(method (P.types.size + Made.depth) u1 y1 "Put").run P q9 = .ok (fn1,rc1) q9 /\ chk (callable P fn1) (Calls P fn1 (#[rc1] ++ #[.int .i64 x5,.int .i64 3,.int .u32 x17]) q9 fun en q10 => ∃ x18,en = .returned (.bool x18) /\
 ((q10.cell? ⟨g5,o5 + 5,none⟩ = some (x16)) /\ (q10.cell? ⟨d,0,none⟩ = some (.pointer x15)) /\ True) /\
 Calls P F.Zp #[.int .i64 x5] q10 fun en q11 => ∃ x19,en = .returned (.int .u32 x19) /\
 Calls P F.Z1s #[.pointer (some ⟨d,0,none⟩),.int .u32 x19] q11 fun en q12 => ∃ x20,en = .returned (.int .i64 x20) /\
 R (.int .i64 x20) q12)))) (
 Calls P F.Zp #[.int .i64 x5] q3 fun en q13 => ∃ x21,en = .returned (.int .u32 x21) /\
 Calls P F.Z1s #[.pointer (some ⟨d,0,none⟩),.int .u32 x21] q13 fun en q14 => ∃ x22,en = .returned (.int .i64 x22) /\
 R (.int .i64 x22) q14))) fun J7 =>
 br (decide (op = 20)) (
 wv q1.drew fun q15 =>
 ∃ x23,q15.cell? ⟨d,0,none⟩ = some (.pointer x23) /\
 onPtr x23 fun g6 o6 =>
 ∃ px2 nx2 cx2,q15.cell? ⟨g6,o6 + 1,none⟩ = some (.slice px2 nx2 cx2) /\
 chk (decide (0 <= x4) && decide (x4 < (nx2 : Int))) (
 onPtr px2 fun g7 o7 =>
 ∃ x24,q15.cell? ⟨g7,o7 + x4.toNat * 4 + 2,none⟩ = some (.int .i64 x24) /\
 J7 (x4,x24) q15)) (
 J7 (0,4) q1))))
theorem oZ1w {d : Nat} {op : Int} (h : vZ1w d op w fun v w' => R (.returned v) w') : Calls P F.Z1w #[.pointer (some ⟨d,0,none⟩),.int .i64 op] w R :=
 calls_of_eq (A := ⟨[(12,[(82,(.int .i64))])],[(7,[(6,(.int .i64)),(7,(.int .i64))])]⟩) mixed Tryz.func71 (by kernel_rfl) (by kernel_rfl) h
def vZ1x (d : Nat) (w : World) (R : Value -> World -> Prop) : Prop :=
 ∃ x,w.cell? ⟨d,11,none⟩ = some (.int .i64 x) /\
 Calls P F.Z2k #[.int .i64 x] w fun en q => ∃ x1,en = .returned (.int .i64 x1) /\
 join (fun (t : Unit) (q1 : World) =>
 ∃ x2,q1.cell? ⟨d,11,none⟩ = some (.int .i64 x2) /\
 join (fun (t1 : Bool) (q2 : World) =>
 br t1 (
 Calls P F.Z2l #[.pointer (some ⟨d,0,none⟩)] q2 fun en q3 => ∃ x3,en = .returned (.int .i64 x3) /\
 R (.int .i64 x3) q3) (
 br (decide (x2 = 5)) (
 Calls P F.Z2i #[.pointer (some ⟨d,0,none⟩),.int .i64 1] q2 fun en q4 => ∃ x4,en = .returned (.int .u32 x4) /\
 Calls P F.Z2i #[.pointer (some ⟨d,0,none⟩),.int .i64 0] q4 fun en q5 => ∃ x5,en = .returned (.int .u32 x5) /\
 Calls P F.Z2n #[.bool (decide (x4 = x5))] q5 fun en q6 => ∃ x6,en = .returned (.int .u32 x6) /\
 Calls P F.Z2m #[.pointer (some ⟨d,0,none⟩),.int .i64 2,.int .u32 x6] q6 fun en q7 => ∃ x7,en = .returned (.int .i64 x7) /\
 R (.int .i64 x7) q7) (
 br (decide (x2 = 6)) (
 wv q2.drew fun q8 =>
 ∃ x8,q8.cell? ⟨d,0,none⟩ = some (.pointer x8) /\
 Calls P F.Z2i #[.pointer (some ⟨d,0,none⟩),.int .i64 0] q8 fun en q9 => ∃ x9,en = .returned (.int .u32 x9) /\
 ((q9.cell? ⟨d,0,none⟩ = some (.pointer x8)) /\ True) /\
 Calls P F.Z2p #[.pointer x8,.int .u32 x9] q9 fun en q10 => ∃ x10,en = .returned (.int .i64 x10) /\
 True /\
 Calls P F.Z2o #[.int .i64 x10] q10 fun en q11 => ∃ x11,en = .returned (.int .u32 x11) /\
 True /\
 Calls P F.Z2m #[.pointer (some ⟨d,0,none⟩),.int .i64 1,.int .u32 x11] q11 fun en q12 => ∃ x12,en = .returned (.int .i64 x12) /\
 True /\
 R (.int .i64 x12) q12) (
 join (fun (t2 : Bool) (q13 : World) =>
 br t2 (
 Calls P F.Z2q #[.pointer (some ⟨d,0,none⟩)] q13 fun en q14 => ∃ x13,en = .returned (.int .i64 x13) /\
 R (.int .i64 x13) q14) (
 br (decide (x2 = 10)) (
 wv q13.drew fun q15 =>
 ∃ x14,q15.cell? ⟨d,0,none⟩ = some (.pointer x14) /\
 ∃ x15,q15.cell? ⟨d,1,none⟩ = some (.int .i64 x15) /\
 ∃ x16,q15.cell? ⟨d,0,none⟩ = some (.pointer x16) /\
 Calls P F.Z2i #[.pointer (some ⟨d,0,none⟩),.int .i64 0] q15 fun en q16 => ∃ x17,en = .returned (.int .u32 x17) /\
 ((q16.cell? ⟨d,0,none⟩ = some (.pointer x16)) /\ (q16.cell? ⟨d,1,none⟩ = some (.int .i64 x15)) /\ (q16.cell? ⟨d,0,none⟩ = some (.pointer x14)) /\ True) /\
 Calls P F.Z2r #[.pointer x16,.int .u32 x17] q16 fun en q17 => ∃ x0 x18,en = .returned (.agg #[.int .i64 x0,.int .i64 x18]) /\
 ((q17.cell? ⟨d,1,none⟩ = some (.int .i64 x15)) /\ (q17.cell? ⟨d,0,none⟩ = some (.pointer x14)) /\ True) /\
 Calls P F.Zw #[.pointer x14,.int .i64 1,.int .i64 x15,.agg #[.int .i64 x0,.int .i64 x18]] q17 fun en q18 => en = .returned (.tuple #[]) /\
 True /\
 R (.int .i64 0) q18) (
 br (decide (x2 = 11)) (
 Calls P F.Z2s #[.pointer (some ⟨d,0,none⟩),.slice none 0 0] q13 fun en q19 => ∃ x19,en = .returned (.int .i64 x19) /\
 R (.int .i64 x19) q19) (
 br (decide (x2 = 12)) (
 wv q13.drew fun q20 =>
 ∃ px nx cx,q20.cell? ⟨d,10,none⟩ = some (.slice px nx cx) /\
 ∃ px1 nx1 cx1,q20.cell? ⟨d,10,none⟩ = some (.slice px1 nx1 cx1) /\
 chk (decide (0 <= IntKind.wrap .i64 ((nx1 : Int) - 1)) && decide (IntKind.wrap .i64 ((nx1 : Int) - 1) <= (nx : Int)) && decide ((nx : Int) <= (cx : Int)) && decide ((cx : Int) <= (cx : Int))) (
 Calls P F.Z2s #[.pointer (some ⟨d,0,none⟩),.slice (cutAt px (Int.toNat (cx : Int)) (Int.toNat (IntKind.wrap .i64 ((nx1 : Int) - 1))) 1) (Int.toNat (nx : Int) - Int.toNat (IntKind.wrap .i64 ((nx1 : Int) - 1))) (Int.toNat (cx : Int) - Int.toNat (IntKind.wrap .i64 ((nx1 : Int) - 1)))] q20 fun en q21 => ∃ x20,en = .returned (.int .i64 x20) /\
 ((q21.cell? ⟨d,10,none⟩ = some (.slice px1 nx1 cx1)) /\ (q21.cell? ⟨d,10,none⟩ = some (.slice px nx cx)) /\ True) /\
 R (.int .i64 x20) q21)) (
 br (decide (x2 = 13)) (
 Calls P F.Z2t #[.pointer (some ⟨d,0,none⟩)] q13 fun en q22 => ∃ x21,en = .returned (.int .i64 x21) /\
 R (.int .i64 x21) q22) (
 join (fun (t3 : Bool) (q23 : World) =>
 br t3 (
 Calls P F.Z2u #[.pointer (some ⟨d,0,none⟩)] q23 fun en q24 => ∃ x22,en = .returned (.int .i64 x22) /\
 R (.int .i64 x22) q24) (
 join (fun (t4 : Bool) (q25 : World) =>
 br t4 (
 Calls P F.Z2v #[.pointer (some ⟨d,0,none⟩)] q25 fun en q26 => ∃ x23,en = .returned (.int .i64 x23) /\
 R (.int .i64 x23) q26) (
 br (decide (x2 = 19)) (
 Calls P F.Z2w #[.pointer (some ⟨d,0,none⟩)] q25 fun en q27 => ∃ x24,en = .returned (.int .i64 x24) /\
 R (.int .i64 x24) q27) (
 br (decide (x2 = 20)) (
 Calls P F.Z2x #[.pointer (some ⟨d,0,none⟩)] q25 fun en q28 => ∃ x25,en = .returned (.int .i64 x25) /\
 R (.int .i64 x25) q28) (
 R (.int .i64 0) q25)))) fun J36 =>
 br (decide (x2 = 15)) (
 J36 (decide (x2 = 15)) q23) (
 br (decide (x2 = 16)) (
 J36 (decide (x2 = 16)) q23) (
 br (decide (x2 = 18)) (
 J36 (decide (x2 = 18)) q23) (
 J36 (decide (x2 = 22)) q23))))) fun J31 =>
 br (decide (x2 = 14)) (
 J31 (decide (x2 = 14)) q13) (
 br (decide (x2 = 17)) (
 J31 (decide (x2 = 17)) q13) (
 br (decide (x2 = 21)) (
 J31 (decide (x2 = 21)) q13) (
 J31 (decide (x2 = 23)) q13))))))))) fun J18 =>
 br (decide (x2 = 7)) (
 J18 (decide (x2 = 7)) q2) (
 br (decide (x2 = 8)) (
 J18 (decide (x2 = 8)) q2) (
 J18 (decide (x2 = 9)) q2)))))) fun J10 =>
 br (decide (x2 = 0)) (
 J10 (decide (x2 = 0)) q1) (
 br (decide (x2 = 1)) (
 J10 (decide (x2 = 1)) q1) (
 br (decide (x2 = 2)) (
 J10 (decide (x2 = 2)) q1) (
 br (decide (x2 = 3)) (
 J10 (decide (x2 = 3)) q1) (
 J10 (decide (x2 = 4)) q1))))) fun J4 =>
 Calls P F.Z1y #[.pointer (some ⟨d,0,none⟩),.int .i64 x1] q fun en q29 => ∃ x26,en = .returned (.bool x26) /\
 br (!x26) (
 R (.int .i64 1) q29) (
 br (decide (x1 = 0)) (
 Calls P F.Z2e #[.pointer (some ⟨d,0,none⟩)] q29 fun en q30 => ∃ x27,en = .returned (.bool x27) /\
 br (!x27) (
 R (.int .i64 1) q30) (
 J4 () q30)) (
 J4 () q29))
theorem oZ1x {d : Nat} (h : vZ1x d w fun v w' => R (.returned v) w') : Calls P F.Z1x #[.pointer (some ⟨d,0,none⟩)] w R :=
 calls_of_eq (A := ⟨[],[(4,[]),(10,[(26,.bool)]),(18,[(56,.bool)]),(31,[(105,.bool)]),(36,[(112,.bool)])]⟩) mixed Tryz.func72 (by kernel_rfl) (by kernel_rfl) h
def vZ1y (d : Nat) (n : Int) (w : World) (R : Value -> World -> Prop) : Prop :=
 ∃ px nx cx,w.cell? ⟨d,10,none⟩ = some (.slice px nx cx) /\
 R (.bool (decide (n <= (nx : Int)))) w
theorem oZ1y {d : Nat} {n : Int} (h : vZ1y d n w fun v w' => R (.returned v) w') : Calls P F.Z1y #[.pointer (some ⟨d,0,none⟩),.int .i64 n] w R :=
 calls_of_eq (A := ⟨[],[]⟩) mixed Tryz.func73 (by kernel_rfl) (by kernel_rfl) h
def vZ1z (d : Nat) (op : Int) (w : World) (R : Value -> World -> Prop) : Prop :=
 br (decide (op = 8)) (
 Calls P F.Z2y #[.pointer (some ⟨d,0,none⟩),.int .i64 1] w fun en q => en = .returned (.tuple #[]) /\
 R (.int .i64 0) q) (
 br (decide (op = 9)) (
 Calls P F.Z2i #[.pointer (some ⟨d,0,none⟩),.int .i64 0] w fun en q1 => ∃ x,en = .returned (.int .u32 x) /\
 Calls P F.Z1s #[.pointer (some ⟨d,0,none⟩),.int .u32 x] q1 fun en q2 => ∃ x1,en = .returned (.int .i64 x1) /\
 R (.int .i64 x1) q2) (
 br (decide (op = 17)) (
 Calls P F.Z2z #[.pointer (some ⟨d,0,none⟩)] w fun en q3 => ∃ x2,en = .returned (.int .i64 x2) /\
 R (.int .i64 x2) q3) (
 join (fun (t : Bool) (q4 : World) =>
 br t (
 Calls P F.Z30 #[.pointer (some ⟨d,0,none⟩),.int .i64 op] q4 fun en q5 => ∃ x3,en = .returned (.int .i64 x3) /\
 R (.int .i64 x3) q5) (
 br (decide (op = 14)) (
 Calls P F.Z2i #[.pointer (some ⟨d,0,none⟩),.int .i64 0] q4 fun en q6 => ∃ x4,en = .returned (.int .u32 x4) /\
 wv q6.drew fun q7 =>
 ∃ x5,q7.cell? ⟨d,0,none⟩ = some (.pointer x5) /\
 onPtr x5 fun g o =>
 ∃ x6,q7.cell? ⟨g,o + 6,none⟩ = some (.pointer x6) /\
 ∃ x7,q7.cell? ⟨d,2,none⟩ = some (.int .i64 x7) /\
 Calls P F.Z20 #[.pointer x6,.int .i64 x7] q7 fun en q8 => ∃ x8,en = .returned (.bool x8) /\
 ((q8.cell? ⟨d,0,none⟩ = some (.pointer x5)) /\ True) /\
 ∃ x9,q8.cell? ⟨d,5,none⟩ = some (.int .i64 x9) /\
 Calls P F.Z31 #[.pointer (some ⟨d,0,none⟩),.int .i64 x9,.int .u32 x4] q8 fun en q9 => en = .returned (.tuple #[]) /\
 R (.int .i64 0) q9) (
 br (decide (op = 19)) (
 Calls P F.Z32 #[.pointer (some ⟨d,0,none⟩)] q4 fun en q10 => ∃ x10,en = .returned (.int .i64 x10) /\
 R (.int .i64 x10) q10) (
 R (.int .i64 0) q4)))) fun J10 =>
 br (decide (op = 12)) (
 J10 (decide (op = 12)) w) (
 J10 (decide (op = 13)) w))))
theorem oZ1z {d : Nat} {op : Int} (h : vZ1z d op w fun v w' => R (.returned v) w') : Calls P F.Z1z #[.pointer (some ⟨d,0,none⟩),.int .i64 op] w R :=
 calls_of_eq (A := ⟨[],[(10,[(21,.bool)])]⟩) mixed Tryz.func74 (by kernel_rfl) (by kernel_rfl) h
def vZ22 (m : Nat) (w : World) (R : Value -> World -> Prop) : Prop :=
 Calls P F.Z34 #[.slice (some ⟨m,10,none⟩) 6 6] w fun en q => ∃ x,en = .returned (.int .i64 x) /\
 br (decide (x < 0)) (
 stores q m 66 [.bool true] fun q1 =>
 Calls P F.Zw #[.pointer (some ⟨m,0,none⟩),.int .i64 4,.int .i64 0,.agg #[.int .i64 0,.int .i64 0]] q1 fun en q2 => en = .returned (.tuple #[]) /\
 R (.tuple #[]) q2) (
 R (.tuple #[]) q)
theorem oZ22 {m : Nat} (h : vZ22 m w fun v w' => R (.returned v) w') : Calls P F.Z22 #[.pointer (some ⟨m,0,none⟩)] w R :=
 calls_of_eq (A := ⟨[],[]⟩) mixed Tryz.func77 (by kernel_rfl) (by kernel_rfl) h
def vZ2e (d : Nat) (w : World) (R : Value -> World -> Prop) : Prop :=
 ∃ px nx cx,w.cell? ⟨d,10,none⟩ = some (.slice px nx cx) /\
 R (.bool (decide ((nx : Int) < 8))) w
theorem oZ2e {d : Nat} (h : vZ2e d w fun v w' => R (.returned v) w') : Calls P F.Z2e #[.pointer (some ⟨d,0,none⟩)] w R :=
 calls_of_eq (A := ⟨[],[]⟩) mixed Tryz.func89 (by kernel_rfl) (by kernel_rfl) h
def vZ2i (d : Nat) (n : Int) (w : World) (R : Value -> World -> Prop) : Prop :=
 wv w.drew fun q =>
 ∃ px nx cx,q.cell? ⟨d,10,none⟩ = some (.slice px nx cx) /\
 ∃ px1 nx1 cx1,q.cell? ⟨d,10,none⟩ = some (.slice px1 nx1 cx1) /\
 chk (decide (0 <= IntKind.wrap .i64 ((IntKind.wrap .i64 ((nx1 : Int) - 1)) - n)) && decide (IntKind.wrap .i64 ((IntKind.wrap .i64 ((nx1 : Int) - 1)) - n) < (nx : Int))) (
 onPtr px fun g o =>
 ∃ x,q.cell? ⟨g,o + (IntKind.wrap .i64 ((IntKind.wrap .i64 ((nx1 : Int) - 1)) - n)).toNat * 1,none⟩ = some (.int .u32 x) /\
 R (.int .u32 x) q)
theorem oZ2i {d : Nat} {n : Int} (h : vZ2i d n w fun v w' => R (.returned v) w') : Calls P F.Z2i #[.pointer (some ⟨d,0,none⟩),.int .i64 n] w R :=
 calls_of_eq (A := ⟨[],[]⟩) mixed Tryz.func93 (by kernel_rfl) (by kernel_rfl) h
def vZ2j (d : Nat) (class_ : Int) (fields : Int) (w : World) (R : Value -> World -> Prop) : Prop :=
 ∃ x,w.cell? ⟨d,0,none⟩ = some (.pointer x) /\
 onPtr x fun g o =>
 stores w g (o + 69) [.int .i64 1] fun q =>
 ∃ x1,q.cell? ⟨d,0,none⟩ = some (.pointer x1) /\
 onPtr x1 fun g1 o1 =>
 ∃ x2 : Value,q.cell? ⟨g1,o1 + 5,none⟩ = some (x2) /\
 onIface x2 fun u y =>
 ∃ (fn : FuncId) (rc : Value),(method (P.types.size + Made.depth) u y "Alloc").run P q = .ok (fn,rc) q /\ chk (callable P fn) (Calls P fn (#[rc] ++ #[.int .i64 class_,.int .i64 fields]) q fun en q1 => ∃ x3,en = .returned (.int .i64 x3) /\
 R (.int .i64 x3) q1)
theorem oZ2j {d : Nat} {class_ : Int} {fields : Int} (h : vZ2j d class_ fields w fun v w' => R (.returned v) w') : Calls P F.Z2j #[.pointer (some ⟨d,0,none⟩),.int .i64 class_,.int .i64 fields] w R :=
 calls_of_eq (A := ⟨[],[]⟩) mixed Tryz.func94 (by kernel_rfl) (by kernel_rfl) h
def vZ2l (d : Nat) (w : World) (R : Value -> World -> Prop) : Prop :=
 Calls P F.Z2i #[.pointer (some ⟨d,0,none⟩),.int .i64 1] w fun en q => ∃ x,en = .returned (.int .u32 x) /\
 Calls P F.Z2i #[.pointer (some ⟨d,0,none⟩),.int .i64 0] q fun en q1 => ∃ x1,en = .returned (.int .u32 x1) /\
 Calls P F.Z3i #[.int .u32 x,.int .u32 x1] q1 fun en q2 => ∃ x0 x11,en = .returned (.tuple #[.bool x0,.bool x11]) /\
 br (!x11) (
 R (.int .i64 2) q2) (
 Calls P F.Z2n #[.bool x0] q2 fun en q3 => ∃ x2,en = .returned (.int .u32 x2) /\
 join (fun (t : Int × Bool) (q4 : World) =>
 br (!t.2) (
 R (.int .i64 3) q4) (
 Calls P F.Z2m #[.pointer (some ⟨d,0,none⟩),.int .i64 2,.int .u32 t.1] q4 fun en q5 => ∃ x3,en = .returned (.int .i64 x3) /\
 R (.int .i64 x3) q5)) fun J15 =>
 ∃ x4,q3.cell? ⟨d,11,none⟩ = some (.int .i64 x4) /\
 br (decide (x4 = 0)) (
 Calls P F.Z3j #[.int .u32 x,.int .u32 x1] q3 fun en q6 => ∃ x01 x12,en = .returned (.tuple #[.int .u32 x01,.bool x12]) /\
 J15 (x01,x12) q6) (
 br (decide (x4 = 1)) (
 Calls P F.Z3k #[.int .u32 x,.int .u32 x1] q3 fun en q7 => ∃ x02 x13,en = .returned (.tuple #[.int .u32 x02,.bool x13]) /\
 J15 (x02,x13) q7) (
 br (decide (x4 = 2)) (
 Calls P F.Z3l #[.int .u32 x,.int .u32 x1] q3 fun en q8 => ∃ x03 x14,en = .returned (.tuple #[.int .u32 x03,.bool x14]) /\
 J15 (x03,x14) q8) (
 br (decide (x4 = 3)) (
 Calls P F.Z3m #[.int .u32 x,.int .u32 x1] q3 fun en q9 => ∃ x04 x15,en = .returned (.tuple #[.int .u32 x04,.bool x15]) /\
 J15 (x04,x15) q9) (
 J15 (x2,true) q3)))))
theorem oZ2l {d : Nat} (h : vZ2l d w fun v w' => R (.returned v) w') : Calls P F.Z2l #[.pointer (some ⟨d,0,none⟩)] w R :=
 calls_of_eq (A := ⟨[],[(15,[(7,(.int .u32)),(8,.bool)])]⟩) mixed Tryz.func96 (by kernel_rfl) (by kernel_rfl) h
def vZ2m (d : Nat) (n : Int) (q : Int) (w : World) (R : Value -> World -> Prop) : Prop :=
 Calls P F.Z2y #[.pointer (some ⟨d,0,none⟩),.int .i64 n] w fun en q1 => en = .returned (.tuple #[]) /\
 wv q1.drew fun q2 =>
 ∃ x,q2.cell? ⟨d,0,none⟩ = some (.pointer x) /\
 onPtr x fun g o =>
 ∃ x1,q2.cell? ⟨g,o + 6,none⟩ = some (.pointer x1) /\
 ∃ x2,q2.cell? ⟨d,2,none⟩ = some (.int .i64 x2) /\
 Calls P F.Z2f #[.pointer x1,.int .i64 x2,.int .u32 q] q2 fun en q3 => ∃ x3,en = .returned (.bool x3) /\
 ((q3.cell? ⟨d,0,none⟩ = some (.pointer x)) /\ True) /\
 R (.int .i64 0) q3
theorem oZ2m {d : Nat} {n : Int} {q : Int} (h : vZ2m d n q w fun v w' => R (.returned v) w') : Calls P F.Z2m #[.pointer (some ⟨d,0,none⟩),.int .i64 n,.int .u32 q] w R :=
 calls_of_eq (A := ⟨[],[]⟩) mixed Tryz.func97 (by kernel_rfl) (by kernel_rfl) h
def vZ2n (ok : Bool) (w : World) (R : Value -> World -> Prop) : Prop :=
 br ok (
 R (.int .u32 6) w) (
 R (.int .u32 4) w)
theorem oZ2n {ok : Bool} (h : vZ2n ok w fun v w' => R (.returned v) w') : Calls P F.Z2n #[.bool ok] w R :=
 calls_of_eq (A := ⟨[],[]⟩) mixed Tryz.func98 (by kernel_rfl) (by kernel_rfl) h
def vZ2o (n : Int) (w : World) (R : Value -> World -> Prop) : Prop :=
 Calls P F.Z12 #[.int .i64 n] w fun en q => ∃ x0 x1,en = .returned (.tuple #[.int .u32 x0,.bool x1]) /\
 R (.int .u32 x0) q
theorem oZ2o {n : Int} (h : vZ2o n w fun v w' => R (.returned v) w') : Calls P F.Z2o #[.int .i64 n] w R :=
 calls_of_eq (A := ⟨[],[]⟩) mixed Tryz.func99 (by kernel_rfl) (by kernel_rfl) h
def vZ2p (m : Nat) (q : Int) (w : World) (R : Value -> World -> Prop) : Prop :=
 Calls P F.Z3n #[.pointer (some ⟨m,0,none⟩),.int .u32 q] w fun en q1 => ∃ x0 x1,en = .returned (.tuple #[.int .i64 x0,.bool x1]) /\
 br x1 (
 ∃ x : Value,q1.cell? ⟨m,5,none⟩ = some (x) /\
 onIface x fun u y =>
 ∃ (fn : FuncId) (rc : Value),(method (P.types.size + Made.depth) u y "Class").run P q1 = .ok (fn,rc) q1 /\ chk (callable P fn) (Calls P fn (#[rc] ++ #[.int .i64 x0]) q1 fun en q2 => ∃ x2,en = .returned (.int .i64 x2) /\
 R (.int .i64 x2) q2)) (
 R (.int .i64 1) q1)
theorem oZ2p {m : Nat} {q : Int} (h : vZ2p m q w fun v w' => R (.returned v) w') : Calls P F.Z2p #[.pointer (some ⟨m,0,none⟩),.int .u32 q] w R :=
 calls_of_eq (A := ⟨[],[]⟩) mixed Tryz.func100 (by kernel_rfl) (by kernel_rfl) h
def vZ2q (d : Nat) (w : World) (R : Value -> World -> Prop) : Prop :=
 ∃ x,w.cell? ⟨d,11,none⟩ = some (.int .i64 x) /\
 Calls P F.Z2k #[.int .i64 x] w fun en q => ∃ x1,en = .returned (.int .i64 x1) /\
 ∃ x2,q.cell? ⟨d,11,none⟩ = some (.int .i64 x2) /\
 br (decide (x2 = 7)) (
 wv q.drew fun q1 =>
 ∃ x3,q1.cell? ⟨d,0,none⟩ = some (.pointer x3) /\
 Calls P F.Z2i #[.pointer (some ⟨d,0,none⟩),.int .i64 0] q1 fun en q2 => ∃ x4,en = .returned (.int .u32 x4) /\
 ((q2.cell? ⟨d,0,none⟩ = some (.pointer x3)) /\ True) /\
 Calls P F.Z3n #[.pointer x3,.int .u32 x4] q2 fun en q3 => ∃ x0 x11,en = .returned (.tuple #[.int .i64 x0,.bool x11]) /\
 True /\
 br (!x11) (
 R (.int .i64 2) q3) (
 ∃ x5,q3.cell? ⟨d,0,none⟩ = some (.pointer x5) /\
 onPtr x5 fun g o =>
 ∃ x6 : Value,q3.cell? ⟨g,o + 5,none⟩ = some (x6) /\
 onIface x6 fun u y =>
 ∃ (fn : FuncId) (rc : Value),(method (P.types.size + Made.depth) u y "Fields").run P q3 = .ok (fn,rc) q3 /\ chk (callable P fn) (Calls P fn (#[rc] ++ #[.int .i64 x0]) q3 fun en q4 => ∃ x7,en = .returned (.int .i64 x7) /\
 Calls P F.Z2o #[.int .i64 x7] q4 fun en q5 => ∃ x8,en = .returned (.int .u32 x8) /\
 Calls P F.Z2m #[.pointer (some ⟨d,0,none⟩),.int .i64 1,.int .u32 x8] q5 fun en q6 => ∃ x9,en = .returned (.int .i64 x9) /\
 R (.int .i64 x9) q6))) (
 Calls P F.Z2i #[.pointer (some ⟨d,0,none⟩),.int .i64 (IntKind.wrap .i64 (x1 - 1))] q fun en q7 => ∃ x10,en = .returned (.int .u32 x10) /\
 Calls P F.Z3o #[.pointer (some ⟨d,0,none⟩),.int .u32 x10] q7 fun en q8 => ∃ x01 x12,en = .returned (.tuple #[.int .i64 x01,.bool x12]) /\
 Calls P F.Z2i #[.pointer (some ⟨d,0,none⟩),.int .i64 (IntKind.wrap .i64 (x1 - 2))] q8 fun en q9 => ∃ x13,en = .returned (.int .u32 x13) /\
 Calls P F.Z3p #[.int .u32 x13] q9 fun en q10 => ∃ x02 x14,en = .returned (.tuple #[.int .i64 x02,.bool x14]) /\
 join (fun (t : Unit) (q11 : World) =>
 Calls P F.Z2i #[.pointer (some ⟨d,0,none⟩),.int .i64 0] q11 fun en q12 => ∃ x15,en = .returned (.int .u32 x15) /\
 join (fun (t1 : Bool × Int) (q13 : World) =>
 br (!t1.1) (
 R (.int .i64 3) q13) (
 Calls P F.Z2m #[.pointer (some ⟨d,0,none⟩),.int .i64 x1,.int .u32 t1.2] q13 fun en q14 => ∃ x16,en = .returned (.int .i64 x16) /\
 R (.int .i64 x16) q14)) fun J15 =>
 ∃ x17,q12.cell? ⟨d,11,none⟩ = some (.int .i64 x17) /\
 br (decide (x17 = 8)) (
 ∃ x18,q12.cell? ⟨d,0,none⟩ = some (.pointer x18) /\
 onPtr x18 fun g1 o1 =>
 ∃ x19 : Value,q12.cell? ⟨g1,o1 + 5,none⟩ = some (x19) /\
 onIface x19 fun u1 y1 =>
 ∃ (fn1 : FuncId) (rc1 : Value),(method (P.types.size + Made.depth) u1 y1 "Get").run P q12 = .ok (fn1,rc1) q12 /\ chk (callable P fn1) (Calls P fn1 (#[rc1] ++ #[.int .i64 x01,.int .i64 x02]) q12 fun en q15 => ∃ x03 x110,en = .returned (.tuple #[.int .u32 x03,.bool x110]) /\
 J15 (x110,x03) q15)) (
 ∃ x20,q12.cell? ⟨d,0,none⟩ = some (.pointer x20) /\
 onPtr x20 fun g2 o2 =>
 ∃ x21 : Value,q12.cell? ⟨g2,o2 + 5,none⟩ = some (x21) /\
 onIface x21 fun u2 y2 =>
 ∃ (fn2 : FuncId) (rc2 : Value),(method (P.types.size + Made.depth) u2 y2 "Put").run P q12 = .ok (fn2,rc2) q12 /\ chk (callable P fn2) (Calls P fn2 (#[rc2] ++ #[.int .i64 x01,.int .i64 x02,.int .u32 x15]) q12 fun en q16 => ∃ x22,en = .returned (.bool x22) /\
 J15 (x22,x15) q16))) fun J11 =>
 br (!x12) (
 R (.int .i64 2) q10) (
 br (!x14) (
 R (.int .i64 2) q10) (
 J11 () q10)))
theorem oZ2q {d : Nat} (h : vZ2q d w fun v w' => R (.returned v) w') : Calls P F.Z2q #[.pointer (some ⟨d,0,none⟩)] w R :=
 calls_of_eq (A := ⟨[],[(11,[]),(15,[(9,.bool),(10,(.int .u32))])]⟩) mixed Tryz.func101 (by kernel_rfl) (by kernel_rfl) h
def vZ2r (m : Nat) (q : Int) (w : World) (R : Value -> World -> Prop) : Prop :=
 newB w #[.int .i64 0,.int .i64 0] T.api_Val fun b q1 =>
 Calls P F.Z3p #[.int .u32 q] q1 fun en q2 => ∃ x0 x1,en = .returned (.tuple #[.int .i64 x0,.bool x1]) /\
 br x1 (
 stores q2 b 0 [.int .i64 3,.int .i64 x0] fun q3 =>
 ∃ r0 r1,holds q3 b 0 [.int .i64 r0,.int .i64 r1] /\
 R (.agg #[.int .i64 r0,.int .i64 r1]) q3) (
 br (decide (q = 6)) (
 stores q2 b 0 [.int .i64 1,.int .i64 0] fun q4 =>
 ∃ r01 r11,holds q4 b 0 [.int .i64 r01,.int .i64 r11] /\
 R (.agg #[.int .i64 r01,.int .i64 r11]) q4) (
 br (decide (q = 4)) (
 stores q2 b 0 [.int .i64 2,.int .i64 0] fun q5 =>
 ∃ r02 r12,holds q5 b 0 [.int .i64 r02,.int .i64 r12] /\
 R (.agg #[.int .i64 r02,.int .i64 r12]) q5) (
 Calls P F.Z3n #[.pointer (some ⟨m,0,none⟩),.int .u32 q] q2 fun en q6 => ∃ x01 x11,en = .returned (.tuple #[.int .i64 x01,.bool x11]) /\
 br x11 (
 ∃ x : Value,q6.cell? ⟨m,5,none⟩ = some (x) /\
 onIface x fun u y =>
 ∃ (fn : FuncId) (rc : Value),(method (P.types.size + Made.depth) u y "Class").run P q6 = .ok (fn,rc) q6 /\ chk (callable P fn) (Calls P fn (#[rc] ++ #[.int .i64 x01]) q6 fun en q7 => ∃ x2,en = .returned (.int .i64 x2) /\
 stores q7 b 0 [.int .i64 4,.int .i64 x2] fun q8 =>
 ∃ r03 r13,holds q8 b 0 [.int .i64 r03,.int .i64 r13] /\
 R (.agg #[.int .i64 r03,.int .i64 r13]) q8)) (
 stores q6 b 0 [.int .i64 0,.int .i64 0] fun q9 =>
 ∃ r04 r14,holds q9 b 0 [.int .i64 r04,.int .i64 r14] /\
 R (.agg #[.int .i64 r04,.int .i64 r14]) q9))))
theorem oZ2r {m : Nat} {q : Int} (h : vZ2r m q w fun v w' => R (.returned v) w') : Calls P F.Z2r #[.pointer (some ⟨m,0,none⟩),.int .u32 q] w R :=
 calls_of_eq (A := ⟨[],[]⟩) mixed Tryz.func102 (by kernel_rfl) (by kernel_rfl) h
def vZ2s (d : Nat) (pargs : Option Addr) (nargs cargs : Nat) (w : World) (R : Value -> World -> Prop) : Prop :=
 Calls P F.Z2i #[.pointer (some ⟨d,0,none⟩),.int .i64 (nargs : Int)] w fun en q => ∃ x,en = .returned (.int .u32 x) /\
 Calls P F.Z3q #[.pointer (some ⟨d,0,none⟩),.int .u32 x,.int .i64 (nargs : Int)] q fun en q1 => ∃ x00 x01 x02 x03 x1,en = .returned (.tuple #[.agg #[.int .u32 x00,.int .u32 x01,.int .u32 x02,.int .u32 x03],.bool x1]) /\
 newB q1 #[.int .u32 0,.int .u32 0,.int .u32 0,.int .u32 0] T.arr4_uint32 fun b q2 =>
 stores q2 b 0 [.int .u32 x00,.int .u32 x01,.int .u32 x02,.int .u32 x03] fun q3 =>
 br (!x1) (
 R (.int .i64 2) q3) (
 ∃ x2,q3.cell? ⟨d,0,none⟩ = some (.pointer x2) /\
 onPtr x2 fun g o =>
 ∃ x3,q3.cell? ⟨g,o + 6,none⟩ = some (.pointer x3) /\
 Calls P F.Z3r #[.pointer x3] q3 fun en q4 => ∃ x4,en = .returned (.int .i64 x4) /\
 br (decide (x4 = 0)) (
 R (.int .i64 5) q4) (
 Calls P F.Z2y #[.pointer (some ⟨d,0,none⟩),.int .i64 (IntKind.wrap .i64 (1 + (nargs : Int)))] q4 fun en q5 => en = .returned (.tuple #[]) /\
 wv q5.drew fun q6 =>
 ∃ x5,q6.cell? ⟨d,0,none⟩ = some (.pointer x5) /\
 ∃ x6,q6.cell? ⟨d,1,none⟩ = some (.int .i64 x6) /\
 ∃ x0 x11 x21 x31,holds q6 b 0 [.int .u32 x0,.int .u32 x11,.int .u32 x21,.int .u32 x31] /\
 ∃ x7,q6.cell? ⟨d,2,none⟩ = some (.int .i64 x7) /\
 onPtr x5 fun g1 o1 =>
 Calls P F.Z3s #[.pointer (some ⟨d,0,none⟩),.agg #[.int .u32 x0,.int .u32 x11,.int .u32 x21,.int .u32 x31],.slice pargs nargs cargs,.int .i64 x7] q6 fun en q7 => ∃ x8,en = .returned (.int .i64 x8) /\
 ((q7.cell? ⟨d,1,none⟩ = some (.int .i64 x6)) /\ (q7.cell? ⟨d,0,none⟩ = some (.pointer x5)) /\ True) /\
 chk (decide (0 <= x6) && decide (x6 < 6)) (
 stores q7 g1 (o1 + 10 + x6.toNat * 1) [.int .i64 x8] fun q8 =>
 True /\
 R (.int .i64 0) q8)))
theorem oZ2s {d : Nat} {pargs : Option Addr} {nargs cargs : Nat} (h : vZ2s d pargs nargs cargs w fun v w' => R (.returned v) w') : Calls P F.Z2s #[.pointer (some ⟨d,0,none⟩),.slice pargs nargs cargs] w R :=
 calls_of_eq (A := ⟨[],[]⟩) mixed Tryz.func103 (by kernel_rfl) (by kernel_rfl) h
def vZ2t (d : Nat) (w : World) (R : Value -> World -> Prop) : Prop :=
 Calls P F.Z2i #[.pointer (some ⟨d,0,none⟩),.int .i64 1] w fun en q => ∃ x,en = .returned (.int .u32 x) /\
 Calls P F.Z3q #[.pointer (some ⟨d,0,none⟩),.int .u32 x,.int .i64 0] q fun en q1 => ∃ x00 x01 x02 x03 x1,en = .returned (.tuple #[.agg #[.int .u32 x00,.int .u32 x01,.int .u32 x02,.int .u32 x03],.bool x1]) /\
 newB q1 #[.int .u32 0,.int .u32 0,.int .u32 0,.int .u32 0] T.arr4_uint32 fun b q2 =>
 stores q2 b 0 [.int .u32 x00,.int .u32 x01,.int .u32 x02,.int .u32 x03] fun q3 =>
 Calls P F.Z2i #[.pointer (some ⟨d,0,none⟩),.int .i64 0] q3 fun en q4 => ∃ x2,en = .returned (.int .u32 x2) /\
 Calls P F.Z3p #[.int .u32 x2] q4 fun en q5 => ∃ x0 x11,en = .returned (.tuple #[.int .i64 x0,.bool x11]) /\
 ∃ (I : Int -> World -> Prop) (μ : Int -> World -> Nat),I 0 q5 /\
 ∀ (t : Int) (q6 : World),I t q6 ->
 br (decide (t < 6)) (
 ∃ x3,q6.cell? ⟨d,0,none⟩ = some (.pointer x3) /\
 onPtr x3 fun g o =>
 chk (decide (0 <= t) && decide (t < 6)) (
 ∃ x4,q6.cell? ⟨g,o + 10 + t.toNat * 1,none⟩ = some (.int .i64 x4) /\
 br (decide (0 <= x4)) (
 I (IntKind.wrap .i64 (t + 1)) q6 /\ μ (IntKind.wrap .i64 (t + 1)) q6 < μ t q6) (
 br (!x1) (
 R (.int .i64 2) q6) (
 br (!x11) (
 R (.int .i64 2) q6) (
 br (decide (x0 < 0)) (
 R (.int .i64 3) q6) (
 br (decide (4 <= x0)) (
 R (.int .i64 3) q6) (
 br (decide (t = 6)) (
 R (.int .i64 8) q6) (
 ∃ x5,q6.cell? ⟨d,0,none⟩ = some (.pointer x5) /\
 onPtr x5 fun g1 o1 =>
 ∃ x6,q6.cell? ⟨g1,o1 + 6,none⟩ = some (.pointer x6) /\
 Calls P F.Z3r #[.pointer x6] q6 fun en q7 => ∃ x7,en = .returned (.int .i64 x7) /\
 br (decide (x7 = 0)) (
 R (.int .i64 5) q7) (
 wv q7.drew fun q8 =>
 ∃ x8,q8.cell? ⟨d,0,none⟩ = some (.pointer x8) /\
 ∃ x04 x12 x21 x31,holds q8 b 0 [.int .u32 x04,.int .u32 x12,.int .u32 x21,.int .u32 x31] /\
 onPtr x8 fun g2 o2 =>
 Calls P F.Z3s #[.pointer (some ⟨d,0,none⟩),.agg #[.int .u32 x04,.int .u32 x12,.int .u32 x21,.int .u32 x31],.slice none 0 0,.int .i64 (-1)] q8 fun en q9 => ∃ x9,en = .returned (.int .i64 x9) /\
 ((q9.cell? ⟨d,0,none⟩ = some (.pointer x8)) /\ True) /\
 chk (decide (0 <= t) && decide (t < 6)) (
 stores q9 g2 (o2 + 10 + t.toNat * 1) [.int .i64 x9] fun q10 =>
 True /\
 ∃ x10,q10.cell? ⟨d,0,none⟩ = some (.pointer x10) /\
 onPtr x10 fun g3 o3 =>
 ∃ x13,q10.cell? ⟨g3,o3 + 7,none⟩ = some (.pointer x13) /\
 Calls P F.Zq #[.pointer x13,.int .i64 t,.int .i64 x0] q10 fun en q11 => ∃ x14,en = .returned (.bool x14) /\
 Calls P F.Z2o #[.int .i64 t] q11 fun en q12 => ∃ x15,en = .returned (.int .u32 x15) /\
 Calls P F.Z2m #[.pointer (some ⟨d,0,none⟩),.int .i64 2,.int .u32 x15] q12 fun en q13 => ∃ x16,en = .returned (.int .i64 x16) /\
 R (.int .i64 x16) q13)))))))))) (
 br (!x1) (
 R (.int .i64 2) q6) (
 br (!x11) (
 R (.int .i64 2) q6) (
 br (decide (x0 < 0)) (
 R (.int .i64 3) q6) (
 br (decide (4 <= x0)) (
 R (.int .i64 3) q6) (
 br (decide (t = 6)) (
 R (.int .i64 8) q6) (
 ∃ x17,q6.cell? ⟨d,0,none⟩ = some (.pointer x17) /\
 onPtr x17 fun g4 o4 =>
 ∃ x18,q6.cell? ⟨g4,o4 + 6,none⟩ = some (.pointer x18) /\
 Calls P F.Z3r #[.pointer x18] q6 fun en q14 => ∃ x19,en = .returned (.int .i64 x19) /\
 br (decide (x19 = 0)) (
 R (.int .i64 5) q14) (
 wv q14.drew fun q15 =>
 ∃ x20,q15.cell? ⟨d,0,none⟩ = some (.pointer x20) /\
 ∃ x05 x110 x22 x32,holds q15 b 0 [.int .u32 x05,.int .u32 x110,.int .u32 x22,.int .u32 x32] /\
 onPtr x20 fun g5 o5 =>
 Calls P F.Z3s #[.pointer (some ⟨d,0,none⟩),.agg #[.int .u32 x05,.int .u32 x110,.int .u32 x22,.int .u32 x32],.slice none 0 0,.int .i64 (-1)] q15 fun en q16 => ∃ x23,en = .returned (.int .i64 x23) /\
 ((q16.cell? ⟨d,0,none⟩ = some (.pointer x20)) /\ True) /\
 chk (decide (0 <= t) && decide (t < 6)) (
 stores q16 g5 (o5 + 10 + t.toNat * 1) [.int .i64 x23] fun q17 =>
 True /\
 ∃ x24,q17.cell? ⟨d,0,none⟩ = some (.pointer x24) /\
 onPtr x24 fun g6 o6 =>
 ∃ x25,q17.cell? ⟨g6,o6 + 7,none⟩ = some (.pointer x25) /\
 Calls P F.Zq #[.pointer x25,.int .i64 t,.int .i64 x0] q17 fun en q18 => ∃ x26,en = .returned (.bool x26) /\
 Calls P F.Z2o #[.int .i64 t] q18 fun en q19 => ∃ x27,en = .returned (.int .u32 x27) /\
 Calls P F.Z2m #[.pointer (some ⟨d,0,none⟩),.int .i64 2,.int .u32 x27] q19 fun en q20 => ∃ x28,en = .returned (.int .i64 x28) /\
 R (.int .i64 x28) q20))))))))
theorem oZ2t {d : Nat} (h : vZ2t d w fun v w' => R (.returned v) w') : Calls P F.Z2t #[.pointer (some ⟨d,0,none⟩)] w R :=
 calls_of_eq (A := ⟨[(4,[(7,(.int .i64))])],[]⟩) mixed Tryz.func104 (by kernel_rfl) (by kernel_rfl) h
def vZ2u (d : Nat) (w : World) (R : Value -> World -> Prop) : Prop :=
 ∃ x,w.cell? ⟨d,11,none⟩ = some (.int .i64 x) /\
 br (decide (x = 14)) (
 ∃ x1,w.cell? ⟨d,0,none⟩ = some (.pointer x1) /\
 onPtr x1 fun g o =>
 ∃ x2,w.cell? ⟨g,o + 7,none⟩ = some (.pointer x2) /\
 Calls P F.Z3t #[.pointer x2] w fun en q => ∃ x3,en = .returned (.bool x3) /\
 Calls P F.Z2m #[.pointer (some ⟨d,0,none⟩),.int .i64 0,.int .u32 2] q fun en q1 => ∃ x4,en = .returned (.int .i64 x4) /\
 R (.int .i64 x4) q1) (
 br (decide (x = 17)) (
 ∃ x5,w.cell? ⟨d,0,none⟩ = some (.pointer x5) /\
 onPtr x5 fun g1 o1 =>
 stores w g1 (o1 + 66) [.bool true] fun q2 =>
 ∃ x6,q2.cell? ⟨d,0,none⟩ = some (.pointer x6) /\
 Calls P F.Zw #[.pointer x6,.int .i64 4,.int .i64 0,.agg #[.int .i64 0,.int .i64 0]] q2 fun en q3 => en = .returned (.tuple #[]) /\
 Calls P F.Z2m #[.pointer (some ⟨d,0,none⟩),.int .i64 0,.int .u32 2] q3 fun en q4 => ∃ x7,en = .returned (.int .i64 x7) /\
 R (.int .i64 x7) q4) (
 br (decide (x = 21)) (
 ∃ x8,w.cell? ⟨d,0,none⟩ = some (.pointer x8) /\
 onPtr x8 fun g2 o2 =>
 ∃ x9,w.cell? ⟨g2,o2 + 67,none⟩ = some (.int .i64 x9) /\
 Calls P F.Z2o #[.int .i64 (IntKind.wrap .i64 ((BitVec.toNat (BitVec.ofInt (IntKind.bits .i64) x9 &&& BitVec.ofInt (IntKind.bits .i64) 1073741823) : Int)))] w fun en q5 => ∃ x10,en = .returned (.int .u32 x10) /\
 Calls P F.Z2m #[.pointer (some ⟨d,0,none⟩),.int .i64 0,.int .u32 x10] q5 fun en q6 => ∃ x11,en = .returned (.int .i64 x11) /\
 R (.int .i64 x11) q6) (
 br (decide (x = 23)) (
 ∃ x12,w.cell? ⟨d,0,none⟩ = some (.pointer x12) /\
 onPtr x12 fun g3 o3 =>
 ∃ px nx cx,w.cell? ⟨g3,o3 + 65,none⟩ = some (.slice px nx cx) /\
 br (decide (0 < (nx : Int))) (
 wv w.drew fun q7 =>
 ∃ x13,q7.cell? ⟨d,0,none⟩ = some (.pointer x13) /\
 ∃ x14,q7.cell? ⟨d,0,none⟩ = some (.pointer x14) /\
 onPtr x14 fun g4 o4 =>
 ∃ px1 nx1 cx1,q7.cell? ⟨g4,o4 + 65,none⟩ = some (.slice px1 nx1 cx1) /\
 chk (decide (0 <= 0) && decide (0 < (nx1 : Int))) (
 onPtr px1 fun g5 o5 =>
 ∃ x15,q7.cell? ⟨g5,o5,none⟩ = some (.int .u32 x15) /\
 ∃ x16,q7.cell? ⟨d,0,none⟩ = some (.pointer x16) /\
 onPtr x16 fun g6 o6 =>
 ∃ px2 nx2 cx2,q7.cell? ⟨g6,o6 + 65,none⟩ = some (.slice px2 nx2 cx2) /\
 chk (decide (0 <= 1) && decide (1 <= (nx2 : Int)) && decide ((nx2 : Int) <= (cx2 : Int)) && decide ((cx2 : Int) <= (cx2 : Int))) (
 onPtr x13 fun g7 o7 =>
 stores q7 g7 (o7 + 65) [.slice (cutAt px2 (Int.toNat (cx2 : Int)) (Int.toNat 1) 1) (Int.toNat (nx2 : Int) - Int.toNat 1) (Int.toNat (cx2 : Int) - Int.toNat 1)] fun q8 =>
 True /\
 Calls P F.Z2m #[.pointer (some ⟨d,0,none⟩),.int .i64 0,.int .u32 x15] q8 fun en q9 => ∃ x17,en = .returned (.int .i64 x17) /\
 R (.int .i64 x17) q9))) (
 Calls P F.Z2m #[.pointer (some ⟨d,0,none⟩),.int .i64 0,.int .u32 2] w fun en q10 => ∃ x18,en = .returned (.int .i64 x18) /\
 R (.int .i64 x18) q10)) (
 Calls P F.Z2m #[.pointer (some ⟨d,0,none⟩),.int .i64 0,.int .u32 2] w fun en q11 => ∃ x19,en = .returned (.int .i64 x19) /\
 R (.int .i64 x19) q11))))
theorem oZ2u {d : Nat} (h : vZ2u d w fun v w' => R (.returned v) w') : Calls P F.Z2u #[.pointer (some ⟨d,0,none⟩)] w R :=
 calls_of_eq (A := ⟨[],[]⟩) mixed Tryz.func105 (by kernel_rfl) (by kernel_rfl) h
def vZ2v (d : Nat) (w : World) (R : Value -> World -> Prop) : Prop :=
 Calls P F.Z2i #[.pointer (some ⟨d,0,none⟩),.int .i64 0] w fun en q => ∃ x,en = .returned (.int .u32 x) /\
 Calls P F.Z3p #[.int .u32 x] q fun en q1 => ∃ x0 x1,en = .returned (.tuple #[.int .i64 x0,.bool x1]) /\
 join (fun (t : Int) (q2 : World) =>
 br (!x1) (
 R (.int .i64 2) q2) (
 br (decide (x0 < 0)) (
 R (.int .i64 3) q2) (
 br (decide (t < x0)) (
 R (.int .i64 3) q2) (
 ∃ x2,q2.cell? ⟨d,11,none⟩ = some (.int .i64 x2) /\
 br (decide (x2 = 18)) (
 Calls P F.Z2j #[.pointer (some ⟨d,0,none⟩),.int .i64 1,.int .i64 x0] q2 fun en q3 => ∃ x3,en = .returned (.int .i64 x3) /\
 br (decide (x3 < 0)) (
 R (.int .i64 (-1)) q3) (
 Calls P F.Zp #[.int .i64 x3] q3 fun en q4 => ∃ x4,en = .returned (.int .u32 x4) /\
 Calls P F.Z2m #[.pointer (some ⟨d,0,none⟩),.int .i64 1,.int .u32 x4] q4 fun en q5 => ∃ x5,en = .returned (.int .i64 x5) /\
 R (.int .i64 x5) q5)) (
 Calls P F.Z2m #[.pointer (some ⟨d,0,none⟩),.int .i64 1,.int .u32 2] q2 fun en q6 => ∃ x6,en = .returned (.int .i64 x6) /\
 ∃ x7,q6.cell? ⟨d,11,none⟩ = some (.int .i64 x7) /\
 br (decide (x7 = 15)) (
 ∃ x8,q6.cell? ⟨d,0,none⟩ = some (.pointer x8) /\
 onPtr x8 fun g o =>
 ∃ x9,q6.cell? ⟨g,o + 7,none⟩ = some (.pointer x9) /\
 Calls P F.Z3u #[.pointer x9,.int .i64 x0] q6 fun en q7 => ∃ x10,en = .returned (.bool x10) /\
 R (.int .i64 0) q7) (
 br (decide (x7 = 16)) (
 ∃ x11,q6.cell? ⟨d,0,none⟩ = some (.pointer x11) /\
 onPtr x11 fun g1 o1 =>
 ∃ x12,q6.cell? ⟨g1,o1 + 7,none⟩ = some (.pointer x12) /\
 Calls P F.Z11 #[.pointer x12,.int .i64 x0] q6 fun en q8 => ∃ x13,en = .returned (.int .i64 x13) /\
 R (.int .i64 0) q8) (
 wv q6.drew fun q9 =>
 ∃ x14,q9.cell? ⟨d,0,none⟩ = some (.pointer x14) /\
 onPtr x14 fun g2 o2 =>
 ∃ x15,q9.cell? ⟨g2,o2 + 7,none⟩ = some (.pointer x15) /\
 ∃ x16,q9.cell? ⟨d,0,none⟩ = some (.pointer x16) /\
 onPtr x16 fun g3 o3 =>
 ∃ x17,q9.cell? ⟨g3,o3 + 67,none⟩ = some (.int .i64 x17) /\
 Calls P F.Z3v #[.pointer x15,.int .i64 (IntKind.wrap .i64 (x17 + x0))] q9 fun en q10 => ∃ x18,en = .returned (.bool x18) /\
 ((q10.cell? ⟨g3,o3 + 67,none⟩ = some (.int .i64 x17)) /\ (q10.cell? ⟨d,0,none⟩ = some (.pointer x16)) /\ (q10.cell? ⟨d,0,none⟩ = some (.pointer x14)) /\ True) /\
 R (.int .i64 0) q10))))))) fun J9 =>
 ∃ x19,q1.cell? ⟨d,11,none⟩ = some (.int .i64 x19) /\
 join (fun (t1 : Bool) (q11 : World) =>
 br t1 (
 J9 3 q11) (
 br (decide (x19 = 22)) (
 J9 x0 q11) (
 J9 62 q11))) fun J6 =>
 br (decide (x19 = 15)) (
 J6 (decide (x19 = 15)) q1) (
 J6 (decide (x19 = 16)) q1)
theorem oZ2v {d : Nat} (h : vZ2v d w fun v w' => R (.returned v) w') : Calls P F.Z2v #[.pointer (some ⟨d,0,none⟩)] w R :=
 calls_of_eq (A := ⟨[],[(6,[(17,.bool)]),(9,[(5,(.int .i64))])]⟩) mixed Tryz.func106 (by kernel_rfl) (by kernel_rfl) h
def vZ2w (d : Nat) (w : World) (R : Value -> World -> Prop) : Prop :=
 ∃ x,w.cell? ⟨d,0,none⟩ = some (.pointer x) /\
 onPtr x fun g o =>
 stores w g (o + 69) [.int .i64 3] fun q =>
 Calls P F.Z2i #[.pointer (some ⟨d,0,none⟩),.int .i64 2] q fun en q1 => ∃ x1,en = .returned (.int .u32 x1) /\
 Calls P F.Z3o #[.pointer (some ⟨d,0,none⟩),.int .u32 x1] q1 fun en q2 => ∃ x0 x11,en = .returned (.tuple #[.int .i64 x0,.bool x11]) /\
 Calls P F.Z2i #[.pointer (some ⟨d,0,none⟩),.int .i64 1] q2 fun en q3 => ∃ x2,en = .returned (.int .u32 x2) /\
 Calls P F.Z3o #[.pointer (some ⟨d,0,none⟩),.int .u32 x2] q3 fun en q4 => ∃ x01 x12,en = .returned (.tuple #[.int .i64 x01,.bool x12]) /\
 Calls P F.Z2i #[.pointer (some ⟨d,0,none⟩),.int .i64 0] q4 fun en q5 => ∃ x3,en = .returned (.int .u32 x3) /\
 Calls P F.Z3p #[.int .u32 x3] q5 fun en q6 => ∃ x02 x13,en = .returned (.tuple #[.int .i64 x02,.bool x13]) /\
 br (!x11) (
 R (.int .i64 2) q6) (
 br (!x12) (
 R (.int .i64 2) q6) (
 br (!x13) (
 R (.int .i64 2) q6) (
 br (decide (x02 < 0)) (
 R (.int .i64 3) q6) (
 ∃ x4,q6.cell? ⟨d,0,none⟩ = some (.pointer x4) /\
 onPtr x4 fun g1 o1 =>
 ∃ x5 : Value,q6.cell? ⟨g1,o1 + 5,none⟩ = some (x5) /\
 onIface x5 fun u y =>
 ∃ (fn : FuncId) (rc : Value),(method (P.types.size + Made.depth) u y "Fields").run P q6 = .ok (fn,rc) q6 /\ chk (callable P fn) (Calls P fn (#[rc] ++ #[.int .i64 x0]) q6 fun en q7 => ∃ x6,en = .returned (.int .i64 x6) /\
 br (decide (x6 < x02)) (
 R (.int .i64 3) q7) (
 ∃ x7,q7.cell? ⟨d,0,none⟩ = some (.pointer x7) /\
 onPtr x7 fun g2 o2 =>
 ∃ x8 : Value,q7.cell? ⟨g2,o2 + 5,none⟩ = some (x8) /\
 onIface x8 fun u1 y1 =>
 ∃ (fn1 : FuncId) (rc1 : Value),(method (P.types.size + Made.depth) u1 y1 "Fields").run P q7 = .ok (fn1,rc1) q7 /\ chk (callable P fn1) (Calls P fn1 (#[rc1] ++ #[.int .i64 x01]) q7 fun en q8 => ∃ x9,en = .returned (.int .i64 x9) /\
 br (decide (x9 < x02)) (
 R (.int .i64 3) q8) (
 wv q8.drew fun q9 =>
 ∃ x10,q9.cell? ⟨d,0,none⟩ = some (.pointer x10) /\
 ∃ x14,q9.cell? ⟨d,2,none⟩ = some (.int .i64 x14) /\
 onPtr x10 fun g3 o3 =>
 chk (decide (0 <= x14) && decide (x14 < 24)) (
 ∃ x15,q9.cell? ⟨g3,o3 + 40 + x14.toNat * 1,none⟩ = some (.int .i64 x15) /\
 ∃ (I : Int -> World -> Prop) (μ : Int -> World -> Nat),I x15 q9 /\
 ∀ (t : Int) (q10 : World),I t q10 ->
 br (decide (t < (if (IntKind.wrap .i64 (x15 + 4)) < x02 then IntKind.wrap .i64 (x15 + 4) else x02))) (
 ∃ x16,q10.cell? ⟨d,0,none⟩ = some (.pointer x16) /\
 onPtr x16 fun g4 o4 =>
 ∃ x17 : Value,q10.cell? ⟨g4,o4 + 5,none⟩ = some (x17) /\
 onIface x17 fun u2 y2 =>
 ∃ (fn2 : FuncId) (rc2 : Value),(method (P.types.size + Made.depth) u2 y2 "Get").run P q10 = .ok (fn2,rc2) q10 /\ chk (callable P fn2) (Calls P fn2 (#[rc2] ++ #[.int .i64 x0,.int .i64 t]) q10 fun en q11 => ∃ x03 x18,en = .returned (.tuple #[.int .u32 x03,.bool x18]) /\
 ∃ x19,q11.cell? ⟨d,0,none⟩ = some (.pointer x19) /\
 onPtr x19 fun g5 o5 =>
 ∃ x20 : Value,q11.cell? ⟨g5,o5 + 5,none⟩ = some (x20) /\
 onIface x20 fun u3 y3 =>
 ∃ (fn3 : FuncId) (rc3 : Value),(method (P.types.size + Made.depth) u3 y3 "Put").run P q11 = .ok (fn3,rc3) q11 /\ chk (callable P fn3) (Calls P fn3 (#[rc3] ++ #[.int .i64 x01,.int .i64 t,.int .u32 x03]) q11 fun en q12 => ∃ x21,en = .returned (.bool x21) /\
 I (IntKind.wrap .i64 (t + 1)) q12 /\ μ (IntKind.wrap .i64 (t + 1)) q12 < μ t q10))) (
 wv q10.drew fun q13 =>
 ∃ x22,q13.cell? ⟨d,0,none⟩ = some (.pointer x22) /\
 ∃ x23,q13.cell? ⟨d,2,none⟩ = some (.int .i64 x23) /\
 onPtr x22 fun g6 o6 =>
 chk (decide (0 <= x23) && decide (x23 < 24)) (
 stores q13 g6 (o6 + 40 + x23.toNat * 1) [.int .i64 (if (IntKind.wrap .i64 (x15 + 4)) < x02 then IntKind.wrap .i64 (x15 + 4) else x02)] fun q14 =>
 True /\
 br (decide ((if (IntKind.wrap .i64 (x15 + 4)) < x02 then IntKind.wrap .i64 (x15 + 4) else x02) < x02)) (
 wv q14.drew fun q15 =>
 ∃ x24,q15.cell? ⟨d,0,none⟩ = some (.pointer x24) /\
 onPtr x24 fun g7 o7 =>
 ∃ x25,q15.cell? ⟨g7,o7 + 6,none⟩ = some (.pointer x25) /\
 ∃ x26,q15.cell? ⟨d,2,none⟩ = some (.int .i64 x26) /\
 ∃ x27,q15.cell? ⟨d,4,none⟩ = some (.int .i64 x27) /\
 Calls P F.Zu #[.pointer x25,.int .i64 x26,.int .i64 x27] q15 fun en q16 => ∃ x28,en = .returned (.bool x28) /\
 ((q16.cell? ⟨d,0,none⟩ = some (.pointer x24)) /\ True) /\
 R (.int .i64 0) q16) (
 wv q14.drew fun q17 =>
 ∃ x29,q17.cell? ⟨d,0,none⟩ = some (.pointer x29) /\
 ∃ x30,q17.cell? ⟨d,2,none⟩ = some (.int .i64 x30) /\
 onPtr x29 fun g8 o8 =>
 chk (decide (0 <= x30) && decide (x30 < 24)) (
 stores q17 g8 (o8 + 40 + x30.toNat * 1) [.int .i64 0] fun q18 =>
 True /\
 Calls P F.Z2o #[.int .i64 x02] q18 fun en q19 => ∃ x31,en = .returned (.int .u32 x31) /\
 Calls P F.Z2m #[.pointer (some ⟨d,0,none⟩),.int .i64 3,.int .u32 x31] q19 fun en q20 => ∃ x32,en = .returned (.int .i64 x32) /\
 R (.int .i64 x32) q20)))))))))))))
theorem oZ2w {d : Nat} (h : vZ2w d w fun v w' => R (.returned v) w') : Calls P F.Z2w #[.pointer (some ⟨d,0,none⟩)] w R :=
 calls_of_eq (A := ⟨[(12,[(11,(.int .i64))])],[]⟩) mixed Tryz.func107 (by kernel_rfl) (by kernel_rfl) h
def vZ2x (d : Nat) (w : World) (R : Value -> World -> Prop) : Prop :=
 wv w.drew fun q =>
 ∃ x,q.cell? ⟨d,0,none⟩ = some (.pointer x) /\
 Calls P F.Z2i #[.pointer (some ⟨d,0,none⟩),.int .i64 1] q fun en q1 => ∃ x1,en = .returned (.int .u32 x1) /\
 ((q1.cell? ⟨d,0,none⟩ = some (.pointer x)) /\ True) /\
 Calls P F.Z3n #[.pointer x,.int .u32 x1] q1 fun en q2 => ∃ x0 x11,en = .returned (.tuple #[.int .i64 x0,.bool x11]) /\
 True /\
 wv q2.drew fun q3 =>
 ∃ x2,q3.cell? ⟨d,0,none⟩ = some (.pointer x2) /\
 Calls P F.Z2i #[.pointer (some ⟨d,0,none⟩),.int .i64 0] q3 fun en q4 => ∃ x3,en = .returned (.int .u32 x3) /\
 ((q4.cell? ⟨d,0,none⟩ = some (.pointer x2)) /\ True) /\
 Calls P F.Z3n #[.pointer x2,.int .u32 x3] q4 fun en q5 => ∃ x01 x12,en = .returned (.tuple #[.int .i64 x01,.bool x12]) /\
 True /\
 join (fun (t : Unit) (q6 : World) =>
 ∃ x4,q6.cell? ⟨d,0,none⟩ = some (.pointer x4) /\
 onPtr x4 fun g o =>
 ∃ x5 : Value,q6.cell? ⟨g,o + 5,none⟩ = some (x5) /\
 onIface x5 fun u y =>
 ∃ (fn : FuncId) (rc : Value),(method (P.types.size + Made.depth) u y "Swap").run P q6 = .ok (fn,rc) q6 /\ chk (callable P fn) (Calls P fn (#[rc] ++ #[.int .i64 x0,.int .i64 x01]) q6 fun en q7 => ∃ x6,en = .returned (.bool x6) /\
 Calls P F.Z2m #[.pointer (some ⟨d,0,none⟩),.int .i64 2,.int .u32 2] q7 fun en q8 => ∃ x7,en = .returned (.int .i64 x7) /\
 R (.int .i64 x7) q8)) fun J5 =>
 wv q5.drew fun q9 =>
 br (!x11) (
 R (.int .i64 2) q9) (
 br (!x12) (
 R (.int .i64 2) q9) (
 ∃ x8,q9.cell? ⟨d,0,none⟩ = some (.pointer x8) /\
 onPtr x8 fun g1 o1 =>
 ∃ x9 : Value,q9.cell? ⟨g1,o1 + 5,none⟩ = some (x9) /\
 ∃ x10,q9.cell? ⟨d,0,none⟩ = some (.pointer x10) /\
 onPtr x10 fun g2 o2 =>
 ∃ x13 : Value,q9.cell? ⟨g2,o2 + 5,none⟩ = some (x13) /\
 onIface x9 fun u1 y1 =>
 ∃ (fn1 : FuncId) (rc1 : Value),(method (P.types.size + Made.depth) u1 y1 "Class").run P q9 = .ok (fn1,rc1) q9 /\ chk (callable P fn1) (Calls P fn1 (#[rc1] ++ #[.int .i64 x0]) q9 fun en q10 => ∃ x14,en = .returned (.int .i64 x14) /\
 ((q10.cell? ⟨g2,o2 + 5,none⟩ = some (x13)) /\ (q10.cell? ⟨d,0,none⟩ = some (.pointer x10)) /\ (q10.cell? ⟨d,0,none⟩ = some (.pointer x8)) /\ True) /\
 onIface x13 fun u2 y2 =>
 ∃ (fn2 : FuncId) (rc2 : Value),(method (P.types.size + Made.depth) u2 y2 "Class").run P q10 = .ok (fn2,rc2) q10 /\ chk (callable P fn2) (Calls P fn2 (#[rc2] ++ #[.int .i64 x01]) q10 fun en q11 => ∃ x15,en = .returned (.int .i64 x15) /\
 ((q11.cell? ⟨d,0,none⟩ = some (.pointer x10)) /\ (q11.cell? ⟨d,0,none⟩ = some (.pointer x8)) /\ True) /\
 br (!(decide (x14 = x15))) (
 R (.int .i64 2) q11) (
 ∃ x16,q11.cell? ⟨d,0,none⟩ = some (.pointer x16) /\
 onPtr x16 fun g3 o3 =>
 ∃ x17 : Value,q11.cell? ⟨g3,o3 + 5,none⟩ = some (x17) /\
 ∃ x18,q11.cell? ⟨d,0,none⟩ = some (.pointer x18) /\
 onPtr x18 fun g4 o4 =>
 ∃ x19 : Value,q11.cell? ⟨g4,o4 + 5,none⟩ = some (x19) /\
 onIface x17 fun u3 y3 =>
 ∃ (fn3 : FuncId) (rc3 : Value),(method (P.types.size + Made.depth) u3 y3 "Fields").run P q11 = .ok (fn3,rc3) q11 /\ chk (callable P fn3) (Calls P fn3 (#[rc3] ++ #[.int .i64 x0]) q11 fun en q12 => ∃ x20,en = .returned (.int .i64 x20) /\
 ((q12.cell? ⟨g4,o4 + 5,none⟩ = some (x19)) /\ (q12.cell? ⟨d,0,none⟩ = some (.pointer x18)) /\ (q12.cell? ⟨d,0,none⟩ = some (.pointer x16)) /\ (q12.cell? ⟨d,0,none⟩ = some (.pointer x10)) /\ (q12.cell? ⟨d,0,none⟩ = some (.pointer x8)) /\ True) /\
 onIface x19 fun u4 y4 =>
 ∃ (fn4 : FuncId) (rc4 : Value),(method (P.types.size + Made.depth) u4 y4 "Fields").run P q12 = .ok (fn4,rc4) q12 /\ chk (callable P fn4) (Calls P fn4 (#[rc4] ++ #[.int .i64 x01]) q12 fun en q13 => ∃ x21,en = .returned (.int .i64 x21) /\
 ((q13.cell? ⟨d,0,none⟩ = some (.pointer x18)) /\ (q13.cell? ⟨d,0,none⟩ = some (.pointer x16)) /\ (q13.cell? ⟨d,0,none⟩ = some (.pointer x10)) /\ (q13.cell? ⟨d,0,none⟩ = some (.pointer x8)) /\ True) /\
 br (!(decide (x20 = x21))) (
 R (.int .i64 2) q13) (
 J5 () q13))))))))
theorem oZ2x {d : Nat} (h : vZ2x d w fun v w' => R (.returned v) w') : Calls P F.Z2x #[.pointer (some ⟨d,0,none⟩)] w R :=
 calls_of_eq (A := ⟨[],[(5,[])]⟩) mixed Tryz.func108 (by kernel_rfl) (by kernel_rfl) h
def vZ2y (d : Nat) (n : Int) (w : World) (R : Value -> World -> Prop) : Prop :=
 ∃ (I : Int -> World -> Prop) (μ : Int -> World -> Nat),I 0 w /\
 ∀ (t : Int) (q : World),I t q ->
 br (decide (t < n)) (
 wv q.drew fun q1 =>
 ∃ x,q1.cell? ⟨d,0,none⟩ = some (.pointer x) /\
 onPtr x fun g o =>
 ∃ x1,q1.cell? ⟨g,o + 6,none⟩ = some (.pointer x1) /\
 ∃ x2,q1.cell? ⟨d,2,none⟩ = some (.int .i64 x2) /\
 Calls P F.Z3w #[.pointer x1,.int .i64 x2] q1 fun en q2 => ∃ x0 x11,en = .returned (.tuple #[.int .u32 x0,.bool x11]) /\
 ((q2.cell? ⟨d,0,none⟩ = some (.pointer x)) /\ True) /\
 I (IntKind.wrap .i64 (t + 1)) q2 /\ μ (IntKind.wrap .i64 (t + 1)) q2 < μ t q) (
 R (.tuple #[]) q)
theorem oZ2y {d : Nat} {n : Int} (h : vZ2y d n w fun v w' => R (.returned v) w') : Calls P F.Z2y #[.pointer (some ⟨d,0,none⟩),.int .i64 n] w R :=
 calls_of_eq (A := ⟨[(1,[(5,(.int .i64))])],[]⟩) mixed Tryz.func109 (by kernel_rfl) (by kernel_rfl) h
def vZ2z (d : Nat) (w : World) (R : Value -> World -> Prop) : Prop :=
 Calls P F.Z2i #[.pointer (some ⟨d,0,none⟩),.int .i64 0] w fun en q => ∃ x,en = .returned (.int .u32 x) /\
 br (decide (x = 4)) (
 Calls P F.Z1v #[.pointer (some ⟨d,0,none⟩)] q fun en q1 => en = .returned (.tuple #[]) /\
 Calls P F.Z2y #[.pointer (some ⟨d,0,none⟩),.int .i64 1] q1 fun en q2 => en = .returned (.tuple #[]) /\
 R (.int .i64 0) q2) (
 br (decide (x = 6)) (
 Calls P F.Z2y #[.pointer (some ⟨d,0,none⟩),.int .i64 1] q fun en q3 => en = .returned (.tuple #[]) /\
 R (.int .i64 0) q3) (
 R (.int .i64 7) q))
theorem oZ2z {d : Nat} (h : vZ2z d w fun v w' => R (.returned v) w') : Calls P F.Z2z #[.pointer (some ⟨d,0,none⟩)] w R :=
 calls_of_eq (A := ⟨[],[]⟩) mixed Tryz.func110 (by kernel_rfl) (by kernel_rfl) h
def vZ30 (d : Nat) (op : Int) (w : World) (R : Value -> World -> Prop) : Prop :=
 wv w.drew fun q =>
 ∃ x,q.cell? ⟨d,0,none⟩ = some (.pointer x) /\
 ∃ x1,q.cell? ⟨d,3,none⟩ = some (.int .i64 x1) /\
 ∃ x2,q.cell? ⟨d,11,none⟩ = some (.int .i64 x2) /\
 Calls P F.Z3x #[.pointer x,.int .i64 x1,.int .i64 x2] q fun en q1 => ∃ x0 x11,en = .returned (.tuple #[.int .i64 x0,.int .i64 x11]) /\
 True /\
 Calls P F.Z1y #[.pointer (some ⟨d,0,none⟩),.int .i64 (IntKind.wrap .i64 (x0 + 1))] q1 fun en q2 => ∃ x3,en = .returned (.bool x3) /\
 br (!x3) (
 R (.int .i64 1) q2) (
 Calls P F.Z2i #[.pointer (some ⟨d,0,none⟩),.int .i64 x0] q2 fun en q3 => ∃ x4,en = .returned (.int .u32 x4) /\
 join (fun (t : Int × Int) (q4 : World) =>
 br (!(decide (t.2 = 0))) (
 R (.int .i64 t.2) q4) (
 ∃ x5,q4.cell? ⟨d,0,none⟩ = some (.pointer x5) /\
 Calls P F.Z3z #[.pointer x5,.int .i64 t.1,.int .i64 x11] q4 fun en q5 => ∃ x6,en = .returned (.int .i64 x6) /\
 br (decide (x6 < 0)) (
 R (.int .i64 4) q5) (
 ∃ x7,q5.cell? ⟨d,0,none⟩ = some (.pointer x7) /\
 onPtr x7 fun g o =>
 ∃ x8,q5.cell? ⟨g,o + 6,none⟩ = some (.pointer x8) /\
 Calls P F.Z3r #[.pointer x8] q5 fun en q6 => ∃ x9,en = .returned (.int .i64 x9) /\
 br (decide (x9 = 0)) (
 R (.int .i64 5) q6) (
 Calls P F.Z2y #[.pointer (some ⟨d,0,none⟩),.int .i64 (IntKind.wrap .i64 (x0 + 1))] q6 fun en q7 => en = .returned (.tuple #[]) /\
 wv q7.drew fun q8 =>
 ∃ x10,q8.cell? ⟨d,0,none⟩ = some (.pointer x10) /\
 ∃ x12,q8.cell? ⟨d,1,none⟩ = some (.int .i64 x12) /\
 ∃ x13,q8.cell? ⟨d,0,none⟩ = some (.pointer x13) /\
 ∃ px nx cx,q8.cell? ⟨d,10,none⟩ = some (.slice px nx cx) /\
 ∃ px1 nx1 cx1,q8.cell? ⟨d,10,none⟩ = some (.slice px1 nx1 cx1) /\
 chk (decide (0 <= IntKind.wrap .i64 ((nx1 : Int) - x0)) && decide (IntKind.wrap .i64 ((nx1 : Int) - x0) <= (nx : Int)) && decide ((nx : Int) <= (cx : Int)) && decide ((cx : Int) <= (cx : Int))) (
 ∃ x14,q8.cell? ⟨d,2,none⟩ = some (.int .i64 x14) /\
 onPtr x10 fun g1 o1 =>
 Calls P F.Zo #[.pointer x13,.int .i64 x6,.int .u32 x4,.slice (cutAt px (Int.toNat (cx : Int)) (Int.toNat (IntKind.wrap .i64 ((nx1 : Int) - x0))) 1) (Int.toNat (nx : Int) - Int.toNat (IntKind.wrap .i64 ((nx1 : Int) - x0))) (Int.toNat (cx : Int) - Int.toNat (IntKind.wrap .i64 ((nx1 : Int) - x0))),.int .i64 x14,.int .i64 (-1),.int .i64 0] q8 fun en q9 => ∃ x15,en = .returned (.int .i64 x15) /\
 ((q9.cell? ⟨d,10,none⟩ = some (.slice px1 nx1 cx1)) /\ (q9.cell? ⟨d,10,none⟩ = some (.slice px nx cx)) /\ (q9.cell? ⟨d,1,none⟩ = some (.int .i64 x12)) /\ (q9.cell? ⟨d,0,none⟩ = some (.pointer x10)) /\ True) /\
 chk (decide (0 <= x12) && decide (x12 < 6)) (
 stores q9 g1 (o1 + 10 + x12.toNat * 1) [.int .i64 x15] fun q10 =>
 True /\
 R (.int .i64 0) q10)))))) fun J9 =>
 br (decide (op = 13)) (
 Calls P F.Z3y #[.pointer (some ⟨d,0,none⟩)] q3 fun en q11 => ∃ x01 x16,en = .returned (.tuple #[.int .i64 x01,.int .i64 x16]) /\
 J9 (x01,x16) q11) (
 ∃ x17,q3.cell? ⟨d,0,none⟩ = some (.pointer x17) /\
 Calls P F.Z2p #[.pointer x17,.int .u32 x4] q3 fun en q12 => ∃ x18,en = .returned (.int .i64 x18) /\
 J9 (x18,0) q12))
theorem oZ30 {d : Nat} {op : Int} (h : vZ30 d op w fun v w' => R (.returned v) w') : Calls P F.Z30 #[.pointer (some ⟨d,0,none⟩),.int .i64 op] w R :=
 calls_of_eq (A := ⟨[],[(9,[(8,(.int .i64)),(9,(.int .i64))])]⟩) mixed Tryz.func111 (by kernel_rfl) (by kernel_rfl) h
def vZ31 (d : Nat) (sender : Int) (q : Int) (w : World) (R : Value -> World -> Prop) : Prop :=
 br (decide (sender < 0)) (
 wv w.drew fun q1 =>
 ∃ x,q1.cell? ⟨d,0,none⟩ = some (.pointer x) /\
 ∃ x1,q1.cell? ⟨d,1,none⟩ = some (.int .i64 x1) /\
 Calls P F.Z40 #[.pointer x,.int .i64 x1,.int .u32 q] q1 fun en q2 => en = .returned (.tuple #[]) /\
 True /\
 R (.tuple #[]) q2) (
 wv w.drew fun q3 =>
 ∃ x2,q3.cell? ⟨d,0,none⟩ = some (.pointer x2) /\
 ∃ x3,q3.cell? ⟨d,1,none⟩ = some (.int .i64 x3) /\
 onPtr x2 fun g o =>
 chk (decide (0 <= x3) && decide (x3 < 6)) (
 stores q3 g (o + 10 + x3.toNat * 1) [.int .i64 sender] fun q4 =>
 True /\
 ∃ x4,q4.cell? ⟨d,0,none⟩ = some (.pointer x4) /\
 onPtr x4 fun g1 o1 =>
 ∃ x5,q4.cell? ⟨g1,o1 + 6,none⟩ = some (.pointer x5) /\
 Calls P F.Z2f #[.pointer x5,.int .i64 sender,.int .u32 q] q4 fun en q5 => ∃ x6,en = .returned (.bool x6) /\
 R (.tuple #[]) q5))
theorem oZ31 {d : Nat} {sender : Int} {q : Int} (h : vZ31 d sender q w fun v w' => R (.returned v) w') : Calls P F.Z31 #[.pointer (some ⟨d,0,none⟩),.int .i64 sender,.int .u32 q] w R :=
 calls_of_eq (A := ⟨[],[]⟩) mixed Tryz.func112 (by kernel_rfl) (by kernel_rfl) h
def vZ32 (d : Nat) (w : World) (R : Value -> World -> Prop) : Prop :=
 wv w.drew fun q =>
 ∃ x,q.cell? ⟨d,0,none⟩ = some (.pointer x) /\
 onPtr x fun g o =>
 ∃ x1,q.cell? ⟨g,o + 6,none⟩ = some (.pointer x1) /\
 ∃ x2,q.cell? ⟨d,6,none⟩ = some (.int .i64 x2) /\
 (Calls P F.Zs #[.pointer x1,.int .i64 x2] q fun en q1 => ∃ x00 x01 x02 x03 x04 x05 px06 nx06 cx06 px07 nx07 cx07 x11,en = .returned (.tuple #[.agg #[.int .i64 x00,.int .i64 x01,.int .i64 x02,.int .i64 x03,.int .i64 x04,.int .u32 x05,.slice px06 nx06 cx06,.slice px07 nx07 cx07],.bool x11]) /\
 ((q1.cell? ⟨d,0,none⟩ = some (.pointer x)) /\ True) /\
 newB q1 #[.int .i64 0,.int .i64 0,.int .i64 0,.int .i64 0,.int .i64 0,.int .u32 0,.slice none 0 0,.slice none 0 0] T.frame_Frame fun b q2 =>
 ((q2.cell? ⟨d,0,none⟩ = some (.pointer x)) /\ True) /\
 stores q2 b 0 [.int .i64 x00,.int .i64 x01,.int .i64 x02,.int .i64 x03,.int .i64 x04,.int .u32 x05,.slice px06 nx06 cx06,.slice px07 nx07 cx07] fun q3 =>
 True /\
 join (fun (t : Unit) (q4 : World) =>
 ∃ x3,q4.cell? ⟨d,2,none⟩ = some (.int .i64 x3) /\
 newB q4 #[.int .i64 x3] T.int fun b1 q5 =>
 ∃ (I : (Option Addr × Nat × Nat) -> World -> Prop) (μ : (Option Addr × Nat × Nat) -> World -> Nat),I (some ⟨b1,0,none⟩,1,1) q5 /\
 ∀ (t1 : (Option Addr × Nat × Nat)) (q6 : World),I t1 q6 ->
 wv q6.drew fun q7 =>
 chk (decide (0 <= IntKind.wrap .i64 ((t1.2.1 : Int) - 1)) && decide (IntKind.wrap .i64 ((t1.2.1 : Int) - 1) < (t1.2.1 : Int))) (
 onPtr t1.1 fun g1 o1 =>
 ∃ x4,q7.cell? ⟨g1,o1 + (IntKind.wrap .i64 ((t1.2.1 : Int) - 1)).toNat * 1,none⟩ = some (.int .i64 x4) /\
 ∃ x5,q7.cell? ⟨d,6,none⟩ = some (.int .i64 x5) /\
 br (!(decide (x4 = x5))) (
 wv q7.drew fun q8 =>
 ∃ x6,q8.cell? ⟨d,0,none⟩ = some (.pointer x6) /\
 onPtr x6 fun g2 o2 =>
 ∃ x7,q8.cell? ⟨g2,o2 + 6,none⟩ = some (.pointer x7) /\
 chk (decide (0 <= IntKind.wrap .i64 ((t1.2.1 : Int) - 1)) && decide (IntKind.wrap .i64 ((t1.2.1 : Int) - 1) < (t1.2.1 : Int))) (
 onPtr t1.1 fun g3 o3 =>
 ∃ x8,q8.cell? ⟨g3,o3 + (IntKind.wrap .i64 ((t1.2.1 : Int) - 1)).toNat * 1,none⟩ = some (.int .i64 x8) /\
 (Calls P F.Zs #[.pointer x7,.int .i64 x8] q8 fun en q9 => ∃ x001 x011 x021 x031 x041 x051 px061 nx061 cx061 px071 nx071 cx071 x12,en = .returned (.tuple #[.agg #[.int .i64 x001,.int .i64 x011,.int .i64 x021,.int .i64 x031,.int .i64 x041,.int .u32 x051,.slice px061 nx061 cx061,.slice px071 nx071 cx071],.bool x12]) /\
 ((q9.cell? ⟨d,0,none⟩ = some (.pointer x6)) /\ True) /\
 newB q9 #[.int .i64 0,.int .i64 0,.int .i64 0,.int .i64 0,.int .i64 0,.int .u32 0,.slice none 0 0,.slice none 0 0] T.frame_Frame fun b2 q10 =>
 ((q10.cell? ⟨d,0,none⟩ = some (.pointer x6)) /\ True) /\
 stores q10 b2 0 [.int .i64 x001,.int .i64 x011,.int .i64 x021,.int .i64 x031,.int .i64 x041,.int .u32 x051,.slice px061 nx061 cx061,.slice px071 nx071 cx071] fun q11 =>
 True /\
 ∃ x9,q11.cell? ⟨b2,2,none⟩ = some (.int .i64 x9) /\
 br (decide (x9 < 0)) (
 R (.int .i64 6) q11) (
 ∃ x10,q11.cell? ⟨b2,2,none⟩ = some (.int .i64 x10) /\
 newB q11 #[.int .i64 x10] T.int fun b3 q12 =>
 ∃ px nx cx q13,(Builtin.append_ #[T.sl_int,T.sl_int] T.sl_int #[.slice t1.1 t1.2.1 t1.2.2,.slice (some ⟨b3,0,none⟩) 1 1]).run P q12 = .ok (.slice px nx cx) q13 /\ Aft q12 q13 /\
 I (px,nx,cx) q13 /\ μ (px,nx,cx) q13 < μ t1 q6)) /\ (newB q8 #[.int .i64 0,.int .i64 0,.int .i64 0,.int .i64 0,.int .i64 0,.int .u32 0,.slice none 0 0,.slice none 0 0] T.frame_Frame fun b4 q14 =>
 ((q14.cell? ⟨g3,o3 + (IntKind.wrap .i64 ((t1.2.1 : Int) - 1)).toNat * 1,none⟩ = some (.int .i64 x8)) /\ (q14.cell? ⟨g2,o2 + 6,none⟩ = some (.pointer x7)) /\ (q14.cell? ⟨d,0,none⟩ = some (.pointer x6)) /\ True) /\
 Calls P F.Zs #[.pointer x7,.int .i64 x8] q14 fun en q15 => ∃ x002 x012 x022 x032 x042 x052 px062 nx062 cx062 px072 nx072 cx072 x13,en = .returned (.tuple #[.agg #[.int .i64 x002,.int .i64 x012,.int .i64 x022,.int .i64 x032,.int .i64 x042,.int .u32 x052,.slice px062 nx062 cx062,.slice px072 nx072 cx072],.bool x13]) /\
 ((q15.cell? ⟨d,0,none⟩ = some (.pointer x6)) /\ True) /\
 stores q15 b4 0 [.int .i64 x002,.int .i64 x012,.int .i64 x022,.int .i64 x032,.int .i64 x042,.int .u32 x052,.slice px062 nx062 cx062,.slice px072 nx072 cx072] fun q16 =>
 True /\
 ∃ x14,q16.cell? ⟨b4,2,none⟩ = some (.int .i64 x14) /\
 br (decide (x14 < 0)) (
 R (.int .i64 6) q16) (
 ∃ x15,q16.cell? ⟨b4,2,none⟩ = some (.int .i64 x15) /\
 newB q16 #[.int .i64 x15] T.int fun b5 q17 =>
 ∃ px1 nx1 cx1 q18,(Builtin.append_ #[T.sl_int,T.sl_int] T.sl_int #[.slice t1.1 t1.2.1 t1.2.2,.slice (some ⟨b5,0,none⟩) 1 1]).run P q17 = .ok (.slice px1 nx1 cx1) q18 /\ Aft q17 q18 /\
 I (px1,nx1,cx1) q18 /\ μ (px1,nx1,cx1) q18 < μ t1 q6)))) (
 ∃ (I1 : Int -> World -> Prop) (μ1 : Int -> World -> Nat),I1 0 q7 /\
 ∀ (t2 : Int) (q19 : World),I1 t2 q19 ->
 br (decide (t2 < (t1.2.1 : Int))) (
 chk (decide (0 <= t2) && decide (t2 < (t1.2.1 : Int))) (
 onPtr t1.1 fun g4 o4 =>
 ∃ x16,q19.cell? ⟨g4,o4 + t2.toNat * 1,none⟩ = some (.int .i64 x16) /\
 ∃ x17,q19.cell? ⟨d,0,none⟩ = some (.pointer x17) /\
 onPtr x17 fun g5 o5 =>
 ∃ x18,q19.cell? ⟨g5,o5 + 6,none⟩ = some (.pointer x18) /\
 Calls P F.Z20 #[.pointer x18,.int .i64 x16] q19 fun en q20 => ∃ x19,en = .returned (.bool x19) /\
 I1 (IntKind.wrap .i64 (t2 + 1)) q20 /\ μ1 (IntKind.wrap .i64 (t2 + 1)) q20 < μ1 t2 q19)) (
 wv q19.drew fun q21 =>
 ∃ x20,q21.cell? ⟨b,2,none⟩ = some (.int .i64 x20) /\
 Calls P F.Z2i #[.pointer (some ⟨d,0,none⟩),.int .i64 0] q21 fun en q22 => ∃ x21,en = .returned (.int .u32 x21) /\
 ((q22.cell? ⟨b,2,none⟩ = some (.int .i64 x20)) /\ True) /\
 Calls P F.Z31 #[.pointer (some ⟨d,0,none⟩),.int .i64 x20,.int .u32 x21] q22 fun en q23 => en = .returned (.tuple #[]) /\
 True /\
 R (.int .i64 0) q23)))) fun J4 =>
 wv q3.drew fun q24 =>
 br (!x11) (
 R (.int .i64 6) q24) (
 ∃ x22,q24.cell? ⟨b,4,none⟩ = some (.int .i64 x22) /\
 ∃ x23,q24.cell? ⟨d,0,none⟩ = some (.pointer x23) /\
 ∃ x24,q24.cell? ⟨d,2,none⟩ = some (.int .i64 x24) /\
 onPtr x23 fun g6 o6 =>
 chk (decide (0 <= x24) && decide (x24 < 24)) (
 ∃ x25,q24.cell? ⟨g6,o6 + 16 + x24.toNat * 1,none⟩ = some (.int .i64 x25) /\
 br (!(decide (x22 = x25))) (
 R (.int .i64 6) q24) (
 J4 () q24)))) /\ (newB q #[.int .i64 0,.int .i64 0,.int .i64 0,.int .i64 0,.int .i64 0,.int .u32 0,.slice none 0 0,.slice none 0 0] T.frame_Frame fun b6 q25 =>
 ((q25.cell? ⟨d,6,none⟩ = some (.int .i64 x2)) /\ (q25.cell? ⟨g,o + 6,none⟩ = some (.pointer x1)) /\ (q25.cell? ⟨d,0,none⟩ = some (.pointer x)) /\ True) /\
 Calls P F.Zs #[.pointer x1,.int .i64 x2] q25 fun en q26 => ∃ x003 x013 x023 x033 x043 x053 px063 nx063 cx063 px073 nx073 cx073 x110,en = .returned (.tuple #[.agg #[.int .i64 x003,.int .i64 x013,.int .i64 x023,.int .i64 x033,.int .i64 x043,.int .u32 x053,.slice px063 nx063 cx063,.slice px073 nx073 cx073],.bool x110]) /\
 ((q26.cell? ⟨d,0,none⟩ = some (.pointer x)) /\ True) /\
 stores q26 b6 0 [.int .i64 x003,.int .i64 x013,.int .i64 x023,.int .i64 x033,.int .i64 x043,.int .u32 x053,.slice px063 nx063 cx063,.slice px073 nx073 cx073] fun q27 =>
 True /\
 join (fun (t3 : Unit) (q28 : World) =>
 ∃ x26,q28.cell? ⟨d,2,none⟩ = some (.int .i64 x26) /\
 newB q28 #[.int .i64 x26] T.int fun b7 q29 =>
 ∃ (I2 : (Option Addr × Nat × Nat) -> World -> Prop) (μ2 : (Option Addr × Nat × Nat) -> World -> Nat),I2 (some ⟨b7,0,none⟩,1,1) q29 /\
 ∀ (t4 : (Option Addr × Nat × Nat)) (q30 : World),I2 t4 q30 ->
 wv q30.drew fun q31 =>
 chk (decide (0 <= IntKind.wrap .i64 ((t4.2.1 : Int) - 1)) && decide (IntKind.wrap .i64 ((t4.2.1 : Int) - 1) < (t4.2.1 : Int))) (
 onPtr t4.1 fun g7 o7 =>
 ∃ x27,q31.cell? ⟨g7,o7 + (IntKind.wrap .i64 ((t4.2.1 : Int) - 1)).toNat * 1,none⟩ = some (.int .i64 x27) /\
 ∃ x28,q31.cell? ⟨d,6,none⟩ = some (.int .i64 x28) /\
 br (!(decide (x27 = x28))) (
 wv q31.drew fun q32 =>
 ∃ x29,q32.cell? ⟨d,0,none⟩ = some (.pointer x29) /\
 onPtr x29 fun g8 o8 =>
 ∃ x30,q32.cell? ⟨g8,o8 + 6,none⟩ = some (.pointer x30) /\
 chk (decide (0 <= IntKind.wrap .i64 ((t4.2.1 : Int) - 1)) && decide (IntKind.wrap .i64 ((t4.2.1 : Int) - 1) < (t4.2.1 : Int))) (
 onPtr t4.1 fun g9 o9 =>
 ∃ x31,q32.cell? ⟨g9,o9 + (IntKind.wrap .i64 ((t4.2.1 : Int) - 1)).toNat * 1,none⟩ = some (.int .i64 x31) /\
 (Calls P F.Zs #[.pointer x30,.int .i64 x31] q32 fun en q33 => ∃ x004 x014 x024 x034 x044 x054 px064 nx064 cx064 px074 nx074 cx074 x111,en = .returned (.tuple #[.agg #[.int .i64 x004,.int .i64 x014,.int .i64 x024,.int .i64 x034,.int .i64 x044,.int .u32 x054,.slice px064 nx064 cx064,.slice px074 nx074 cx074],.bool x111]) /\
 ((q33.cell? ⟨d,0,none⟩ = some (.pointer x29)) /\ True) /\
 newB q33 #[.int .i64 0,.int .i64 0,.int .i64 0,.int .i64 0,.int .i64 0,.int .u32 0,.slice none 0 0,.slice none 0 0] T.frame_Frame fun b8 q34 =>
 ((q34.cell? ⟨d,0,none⟩ = some (.pointer x29)) /\ True) /\
 stores q34 b8 0 [.int .i64 x004,.int .i64 x014,.int .i64 x024,.int .i64 x034,.int .i64 x044,.int .u32 x054,.slice px064 nx064 cx064,.slice px074 nx074 cx074] fun q35 =>
 True /\
 ∃ x32,q35.cell? ⟨b8,2,none⟩ = some (.int .i64 x32) /\
 br (decide (x32 < 0)) (
 R (.int .i64 6) q35) (
 ∃ x33,q35.cell? ⟨b8,2,none⟩ = some (.int .i64 x33) /\
 newB q35 #[.int .i64 x33] T.int fun b9 q36 =>
 ∃ px2 nx2 cx2 q37,(Builtin.append_ #[T.sl_int,T.sl_int] T.sl_int #[.slice t4.1 t4.2.1 t4.2.2,.slice (some ⟨b9,0,none⟩) 1 1]).run P q36 = .ok (.slice px2 nx2 cx2) q37 /\ Aft q36 q37 /\
 I2 (px2,nx2,cx2) q37 /\ μ2 (px2,nx2,cx2) q37 < μ2 t4 q30)) /\ (newB q32 #[.int .i64 0,.int .i64 0,.int .i64 0,.int .i64 0,.int .i64 0,.int .u32 0,.slice none 0 0,.slice none 0 0] T.frame_Frame fun b10 q38 =>
 ((q38.cell? ⟨g9,o9 + (IntKind.wrap .i64 ((t4.2.1 : Int) - 1)).toNat * 1,none⟩ = some (.int .i64 x31)) /\ (q38.cell? ⟨g8,o8 + 6,none⟩ = some (.pointer x30)) /\ (q38.cell? ⟨d,0,none⟩ = some (.pointer x29)) /\ True) /\
 Calls P F.Zs #[.pointer x30,.int .i64 x31] q38 fun en q39 => ∃ x005 x015 x025 x035 x045 x055 px065 nx065 cx065 px075 nx075 cx075 x112,en = .returned (.tuple #[.agg #[.int .i64 x005,.int .i64 x015,.int .i64 x025,.int .i64 x035,.int .i64 x045,.int .u32 x055,.slice px065 nx065 cx065,.slice px075 nx075 cx075],.bool x112]) /\
 ((q39.cell? ⟨d,0,none⟩ = some (.pointer x29)) /\ True) /\
 stores q39 b10 0 [.int .i64 x005,.int .i64 x015,.int .i64 x025,.int .i64 x035,.int .i64 x045,.int .u32 x055,.slice px065 nx065 cx065,.slice px075 nx075 cx075] fun q40 =>
 True /\
 ∃ x34,q40.cell? ⟨b10,2,none⟩ = some (.int .i64 x34) /\
 br (decide (x34 < 0)) (
 R (.int .i64 6) q40) (
 ∃ x35,q40.cell? ⟨b10,2,none⟩ = some (.int .i64 x35) /\
 newB q40 #[.int .i64 x35] T.int fun b11 q41 =>
 ∃ px3 nx3 cx3 q42,(Builtin.append_ #[T.sl_int,T.sl_int] T.sl_int #[.slice t4.1 t4.2.1 t4.2.2,.slice (some ⟨b11,0,none⟩) 1 1]).run P q41 = .ok (.slice px3 nx3 cx3) q42 /\ Aft q41 q42 /\
 I2 (px3,nx3,cx3) q42 /\ μ2 (px3,nx3,cx3) q42 < μ2 t4 q30)))) (
 ∃ (I3 : Int -> World -> Prop) (μ3 : Int -> World -> Nat),I3 0 q31 /\
 ∀ (t5 : Int) (q43 : World),I3 t5 q43 ->
 br (decide (t5 < (t4.2.1 : Int))) (
 chk (decide (0 <= t5) && decide (t5 < (t4.2.1 : Int))) (
 onPtr t4.1 fun g10 o10 =>
 ∃ x36,q43.cell? ⟨g10,o10 + t5.toNat * 1,none⟩ = some (.int .i64 x36) /\
 ∃ x37,q43.cell? ⟨d,0,none⟩ = some (.pointer x37) /\
 onPtr x37 fun g11 o11 =>
 ∃ x38,q43.cell? ⟨g11,o11 + 6,none⟩ = some (.pointer x38) /\
 Calls P F.Z20 #[.pointer x38,.int .i64 x36] q43 fun en q44 => ∃ x39,en = .returned (.bool x39) /\
 I3 (IntKind.wrap .i64 (t5 + 1)) q44 /\ μ3 (IntKind.wrap .i64 (t5 + 1)) q44 < μ3 t5 q43)) (
 wv q43.drew fun q45 =>
 ∃ x40,q45.cell? ⟨b6,2,none⟩ = some (.int .i64 x40) /\
 Calls P F.Z2i #[.pointer (some ⟨d,0,none⟩),.int .i64 0] q45 fun en q46 => ∃ x41,en = .returned (.int .u32 x41) /\
 ((q46.cell? ⟨b6,2,none⟩ = some (.int .i64 x40)) /\ True) /\
 Calls P F.Z31 #[.pointer (some ⟨d,0,none⟩),.int .i64 x40,.int .u32 x41] q46 fun en q47 => en = .returned (.tuple #[]) /\
 True /\
 R (.int .i64 0) q47)))) fun J4 =>
 wv q27.drew fun q48 =>
 br (!x110) (
 R (.int .i64 6) q48) (
 ∃ x42,q48.cell? ⟨b6,4,none⟩ = some (.int .i64 x42) /\
 ∃ x43,q48.cell? ⟨d,0,none⟩ = some (.pointer x43) /\
 ∃ x44,q48.cell? ⟨d,2,none⟩ = some (.int .i64 x44) /\
 onPtr x43 fun g12 o12 =>
 chk (decide (0 <= x44) && decide (x44 < 24)) (
 ∃ x45,q48.cell? ⟨g12,o12 + 16 + x44.toNat * 1,none⟩ = some (.int .i64 x45) /\
 br (!(decide (x42 = x45))) (
 R (.int .i64 6) q48) (
 J4 () q48))))
theorem oZ32 {d : Nat} (h : vZ32 d w fun v w' => R (.returned v) w') : Calls P F.Z32 #[.pointer (some ⟨d,0,none⟩)] w R :=
 calls_of_eq (A := ⟨[(5,[(5,.slice)]),(11,[(89,(.int .i64))])],[(4,[])]⟩) mixed Tryz.func113 (by kernel_rfl) (by kernel_rfl) h
def vZ3n (m : Nat) (q : Int) (w : World) (R : Value -> World -> Prop) : Prop :=
 Calls P F.Z2g #[.int .u32 q] w fun en q1 => ∃ x0 x1,en = .returned (.tuple #[.int .i64 x0,.bool x1]) /\
 br (!x1) (
 R (.tuple #[.int .i64 0,.bool false]) q1) (
 ∃ x : Value,q1.cell? ⟨m,5,none⟩ = some (x) /\
 onIface x fun u y =>
 ∃ (fn : FuncId) (rc : Value),(method (P.types.size + Made.depth) u y "Class").run P q1 = .ok (fn,rc) q1 /\ chk (callable P fn) (Calls P fn (#[rc] ++ #[.int .i64 x0]) q1 fun en q2 => ∃ x2,en = .returned (.int .i64 x2) /\
 br (decide (x2 < 0)) (
 R (.tuple #[.int .i64 0,.bool false]) q2) (
 R (.tuple #[.int .i64 x0,.bool true]) q2)))
theorem oZ3n {m : Nat} {q : Int} (h : vZ3n m q w fun v w' => R (.returned v) w') : Calls P F.Z3n #[.pointer (some ⟨m,0,none⟩),.int .u32 q] w R :=
 calls_of_eq (A := ⟨[],[]⟩) mixed Tryz.func135 (by kernel_rfl) (by kernel_rfl) h
def vZ3o (d : Nat) (q : Int) (w : World) (R : Value -> World -> Prop) : Prop :=
 ∃ x,w.cell? ⟨d,0,none⟩ = some (.pointer x) /\
 Calls P F.Z3n #[.pointer x,.int .u32 q] w fun en q1 => ∃ x0 x1,en = .returned (.tuple #[.int .i64 x0,.bool x1]) /\
 br (!x1) (
 R (.tuple #[.int .i64 0,.bool false]) q1) (
 ∃ x2,q1.cell? ⟨d,0,none⟩ = some (.pointer x2) /\
 onPtr x2 fun g o =>
 ∃ x3 : Value,q1.cell? ⟨g,o + 5,none⟩ = some (x3) /\
 onIface x3 fun u y =>
 ∃ (fn : FuncId) (rc : Value),(method (P.types.size + Made.depth) u y "Class").run P q1 = .ok (fn,rc) q1 /\ chk (callable P fn) (Calls P fn (#[rc] ++ #[.int .i64 x0]) q1 fun en q2 => ∃ x4,en = .returned (.int .i64 x4) /\
 br (decide (x4 = 0)) (
 R (.tuple #[.int .i64 0,.bool false]) q2) (
 R (.tuple #[.int .i64 x0,.bool true]) q2)))
theorem oZ3o {d : Nat} {q : Int} (h : vZ3o d q w fun v w' => R (.returned v) w') : Calls P F.Z3o #[.pointer (some ⟨d,0,none⟩),.int .u32 q] w R :=
 calls_of_eq (A := ⟨[],[]⟩) mixed Tryz.func136 (by kernel_rfl) (by kernel_rfl) h
def vZ3q (d : Nat) (q : Int) (args : Int) (w : World) (R : Value -> World -> Prop) : Prop :=
 newB w #[.int .u32 0,.int .u32 0,.int .u32 0,.int .u32 0] T.arr4_uint32 fun b q1 =>
 ∃ x,q1.cell? ⟨d,0,none⟩ = some (.pointer x) /\
 Calls P F.Z3n #[.pointer x,.int .u32 q] q1 fun en q2 => ∃ x0 x1,en = .returned (.tuple #[.int .i64 x0,.bool x1]) /\
 join (fun (t : Unit) (q3 : World) =>
 ∃ (I : Int -> World -> Prop) (μ : Int -> World -> Nat),I 0 q3 /\
 ∀ (t1 : Int) (q4 : World),I t1 q4 ->
 br (decide (t1 < 4)) (
 ∃ x2,q4.cell? ⟨d,0,none⟩ = some (.pointer x2) /\
 onPtr x2 fun g o =>
 ∃ x3 : Value,q4.cell? ⟨g,o + 5,none⟩ = some (x3) /\
 onIface x3 fun u y =>
 ∃ (fn : FuncId) (rc : Value),(method (P.types.size + Made.depth) u y "Get").run P q4 = .ok (fn,rc) q4 /\ chk (callable P fn) (Calls P fn (#[rc] ++ #[.int .i64 x0,.int .i64 t1]) q4 fun en q5 => ∃ x01 x11,en = .returned (.tuple #[.int .u32 x01,.bool x11]) /\
 chk (decide (0 <= t1) && decide (t1 < 4)) (
 stores q5 b (0 + t1.toNat * 1) [.int .u32 x01] fun q6 =>
 I (IntKind.wrap .i64 (t1 + 1)) q6 /\ μ (IntKind.wrap .i64 (t1 + 1)) q6 < μ t1 q4))) (
 ∃ x4,q4.cell? ⟨b,0,none⟩ = some (.int .u32 x4) /\
 Calls P F.Z3p #[.int .u32 x4] q4 fun en q7 => ∃ x02 x12,en = .returned (.tuple #[.int .i64 x02,.bool x12]) /\
 wv q7.drew fun q8 =>
 ∃ x03 x13 x21 x31,holds q8 b 0 [.int .u32 x03,.int .u32 x13,.int .u32 x21,.int .u32 x31] /\
 br (decide (0 <= x02)) (
 ∃ x5,q8.cell? ⟨d,0,none⟩ = some (.pointer x5) /\
 onPtr x5 fun g1 o1 =>
 ∃ px nx cx,q8.cell? ⟨g1,o1 + 2,none⟩ = some (.slice px nx cx) /\
 br (decide (x02 < (nx : Int))) (
 ∃ x6,q8.cell? ⟨d,0,none⟩ = some (.pointer x6) /\
 onPtr x6 fun g2 o2 =>
 ∃ px1 nx1 cx1,q8.cell? ⟨g2,o2 + 2,none⟩ = some (.slice px1 nx1 cx1) /\
 chk (decide (0 <= x02) && decide (x02 < (nx1 : Int))) (
 onPtr px1 fun g3 o3 =>
 ∃ x7,q8.cell? ⟨g3,o3 + x02.toNat * 4,none⟩ = some (.int .i64 x7) /\
 stores q8 b 0 [.int .u32 x03,.int .u32 x13,.int .u32 x21,.int .u32 x31] fun q9 =>
 ((q9.cell? ⟨g3,o3 + x02.toNat * 4,none⟩ = some (.int .i64 x7)) /\ (q9.cell? ⟨g2,o2 + 2,none⟩ = some (.slice px1 nx1 cx1)) /\ (q9.cell? ⟨d,0,none⟩ = some (.pointer x6)) /\ (q9.cell? ⟨g1,o1 + 2,none⟩ = some (.slice px nx cx)) /\ (q9.cell? ⟨d,0,none⟩ = some (.pointer x5)) /\ True) /\
 ∃ r0 r1 r2 r3,holds q9 b 0 [.int .u32 r0,.int .u32 r1,.int .u32 r2,.int .u32 r3] /\
 R (.tuple #[.agg #[.int .u32 r0,.int .u32 r1,.int .u32 r2,.int .u32 r3],.bool (decide (x7 = args))]) q9)) (
 stores q8 b 0 [.int .u32 x03,.int .u32 x13,.int .u32 x21,.int .u32 x31] fun q10 =>
 ((q10.cell? ⟨g1,o1 + 2,none⟩ = some (.slice px nx cx)) /\ (q10.cell? ⟨d,0,none⟩ = some (.pointer x5)) /\ True) /\
 ∃ r01 r11 r21 r31,holds q10 b 0 [.int .u32 r01,.int .u32 r11,.int .u32 r21,.int .u32 r31] /\
 R (.tuple #[.agg #[.int .u32 r01,.int .u32 r11,.int .u32 r21,.int .u32 r31],.bool false]) q10)) (
 stores q8 b 0 [.int .u32 x03,.int .u32 x13,.int .u32 x21,.int .u32 x31] fun q11 =>
 True /\
 ∃ r02 r12 r22 r32,holds q11 b 0 [.int .u32 r02,.int .u32 r12,.int .u32 r22,.int .u32 r32] /\
 R (.tuple #[.agg #[.int .u32 r02,.int .u32 r12,.int .u32 r22,.int .u32 r32],.bool false]) q11))) fun J4 =>
 br (!x1) (
 ∃ x04 x14 x22 x32,holds q2 b 0 [.int .u32 x04,.int .u32 x14,.int .u32 x22,.int .u32 x32] /\
 stores q2 b 0 [.int .u32 x04,.int .u32 x14,.int .u32 x22,.int .u32 x32] fun q12 =>
 ∃ r03 r13 r23 r33,holds q12 b 0 [.int .u32 r03,.int .u32 r13,.int .u32 r23,.int .u32 r33] /\
 R (.tuple #[.agg #[.int .u32 r03,.int .u32 r13,.int .u32 r23,.int .u32 r33],.bool false]) q12) (
 ∃ x8,q2.cell? ⟨d,0,none⟩ = some (.pointer x8) /\
 onPtr x8 fun g4 o4 =>
 ∃ x9 : Value,q2.cell? ⟨g4,o4 + 5,none⟩ = some (x9) /\
 onIface x9 fun u1 y1 =>
 ∃ (fn1 : FuncId) (rc1 : Value),(method (P.types.size + Made.depth) u1 y1 "Class").run P q2 = .ok (fn1,rc1) q2 /\ chk (callable P fn1) (Calls P fn1 (#[rc1] ++ #[.int .i64 x0]) q2 fun en q13 => ∃ x10,en = .returned (.int .i64 x10) /\
 br (!(decide (x10 = 0))) (
 ∃ x05 x15 x23 x33,holds q13 b 0 [.int .u32 x05,.int .u32 x15,.int .u32 x23,.int .u32 x33] /\
 stores q13 b 0 [.int .u32 x05,.int .u32 x15,.int .u32 x23,.int .u32 x33] fun q14 =>
 ∃ r04 r14 r24 r34,holds q14 b 0 [.int .u32 r04,.int .u32 r14,.int .u32 r24,.int .u32 r34] /\
 R (.tuple #[.agg #[.int .u32 r04,.int .u32 r14,.int .u32 r24,.int .u32 r34],.bool false]) q14) (
 J4 () q13)))
theorem oZ3q {d : Nat} {q : Int} {args : Int} (h : vZ3q d q args w fun v w' => R (.returned v) w') : Calls P F.Z3q #[.pointer (some ⟨d,0,none⟩),.int .u32 q,.int .i64 args] w R :=
 calls_of_eq (A := ⟨[(5,[(37,(.int .i64))])],[(4,[])]⟩) mixed Tryz.func138 (by kernel_rfl) (by kernel_rfl) h
def vZ3s (d : Nat) (l0 : Int) (l1 : Int) (l2 : Int) (l3 : Int) (pargs : Option Addr) (nargs cargs : Nat) (sender : Int) (w : World) (R : Value -> World -> Prop) : Prop :=
 newB w #[.int .u32 l0,.int .u32 l1,.int .u32 l2,.int .u32 l3] T.arr4_uint32 fun b q =>
 ∃ x,q.cell? ⟨b,0,none⟩ = some (.int .u32 x) /\
 Calls P F.Z3p #[.int .u32 x] q fun en q1 => ∃ x0 x1,en = .returned (.tuple #[.int .i64 x0,.bool x1]) /\
 ∃ x2,q1.cell? ⟨b,1,none⟩ = some (.int .u32 x2) /\
 Calls P F.Z3p #[.int .u32 x2] q1 fun en q2 => ∃ x01 x11,en = .returned (.tuple #[.int .i64 x01,.bool x11]) /\
 ∃ x3,q2.cell? ⟨b,2,none⟩ = some (.int .u32 x3) /\
 Calls P F.Z3p #[.int .u32 x3] q2 fun en q3 => ∃ x02 x12,en = .returned (.tuple #[.int .i64 x02,.bool x12]) /\
 wv q3.drew fun q4 =>
 ∃ x4,q4.cell? ⟨d,0,none⟩ = some (.pointer x4) /\
 ∃ x5,q4.cell? ⟨b,3,none⟩ = some (.int .u32 x5) /\
 Calls P F.Zo #[.pointer x4,.int .i64 x0,.int .u32 x5,.slice pargs nargs cargs,.int .i64 sender,.int .i64 x01,.int .i64 x02] q4 fun en q5 => ∃ x6,en = .returned (.int .i64 x6) /\
 True /\
 R (.int .i64 x6) q5
theorem oZ3s {d : Nat} {l0 : Int} {l1 : Int} {l2 : Int} {l3 : Int} {pargs : Option Addr} {nargs cargs : Nat} {sender : Int} (h : vZ3s d l0 l1 l2 l3 pargs nargs cargs sender w fun v w' => R (.returned v) w') : Calls P F.Z3s #[.pointer (some ⟨d,0,none⟩),.agg #[.int .u32 l0,.int .u32 l1,.int .u32 l2,.int .u32 l3],.slice pargs nargs cargs,.int .i64 sender] w R :=
 calls_of_eq (A := ⟨[],[]⟩) mixed Tryz.func140 (by kernel_rfl) (by kernel_rfl) h
def vZ3x (m : Nat) (method : Int) (lit : Int) (w : World) (R : Value -> World -> Prop) : Prop :=
 ∃ px nx cx,w.cell? ⟨m,2,none⟩ = some (.slice px nx cx) /\
 chk (decide (0 <= method) && decide (method < (nx : Int))) (
 onPtr px fun g o =>
 ∃ px1 nx1 cx1,w.cell? ⟨g,o + method.toNat * 4 + 2,none⟩ = some (.slice px1 nx1 cx1) /\
 chk (decide (0 <= lit) && decide (lit < (nx1 : Int))) (
 onPtr px1 fun g1 o1 =>
 ∃ x,w.cell? ⟨g1,o1 + lit.toNat * 2 + 1,none⟩ = some (.int .i64 x) /\
 ∃ px2 nx2 cx2,w.cell? ⟨m,0,none⟩ = some (.slice px2 nx2 cx2) /\
 chk (decide (0 <= x) && decide (x < (nx2 : Int))) (
 onPtr px2 fun g2 o2 =>
 ∃ x1,w.cell? ⟨g2,o2 + x.toNat * 1,none⟩ = some (.string x1) /\
 Calls P F.Z3c #[.string x1] w fun en q => ∃ x2,en = .returned (.int .i64 x2) /\
 R (.tuple #[.int .i64 x2,.int .i64 x]) q)))
theorem oZ3x {m : Nat} {method : Int} {lit : Int} (h : vZ3x m method lit w fun v w' => R (.returned v) w') : Calls P F.Z3x #[.pointer (some ⟨m,0,none⟩),.int .i64 method,.int .i64 lit] w R :=
 calls_of_eq (A := ⟨[],[]⟩) mixed Tryz.func145 (by kernel_rfl) (by kernel_rfl) h
def vZ3y (d : Nat) (w : World) (R : Value -> World -> Prop) : Prop :=
 wv w.drew fun q =>
 ∃ x,q.cell? ⟨d,0,none⟩ = some (.pointer x) /\
 onPtr x fun g o =>
 ∃ x1,q.cell? ⟨g,o + 6,none⟩ = some (.pointer x1) /\
 ∃ x2,q.cell? ⟨d,6,none⟩ = some (.int .i64 x2) /\
 (Calls P F.Zs #[.pointer x1,.int .i64 x2] q fun en q1 => ∃ x00 x01 x02 x03 x04 x05 px06 nx06 cx06 px07 nx07 cx07 x11,en = .returned (.tuple #[.agg #[.int .i64 x00,.int .i64 x01,.int .i64 x02,.int .i64 x03,.int .i64 x04,.int .u32 x05,.slice px06 nx06 cx06,.slice px07 nx07 cx07],.bool x11]) /\
 ((q1.cell? ⟨d,0,none⟩ = some (.pointer x)) /\ True) /\
 newB q1 #[.int .i64 0,.int .i64 0,.int .i64 0,.int .i64 0,.int .i64 0,.int .u32 0,.slice none 0 0,.slice none 0 0] T.frame_Frame fun b q2 =>
 ((q2.cell? ⟨d,0,none⟩ = some (.pointer x)) /\ True) /\
 stores q2 b 0 [.int .i64 x00,.int .i64 x01,.int .i64 x02,.int .i64 x03,.int .i64 x04,.int .u32 x05,.slice px06 nx06 cx06,.slice px07 nx07 cx07] fun q3 =>
 True /\
 join (fun (t : Unit) (q4 : World) =>
 ∃ x3,q4.cell? ⟨d,0,none⟩ = some (.pointer x3) /\
 onPtr x3 fun g1 o1 =>
 ∃ px nx cx,q4.cell? ⟨g1,o1 + 1,none⟩ = some (.slice px nx cx) /\
 ∃ (I : Int -> World -> Prop) (μ : Int -> World -> Nat),I 0 q4 /\
 ∀ (t1 : Int) (q5 : World),I t1 q5 ->
 br (decide (t1 < (nx : Int))) (
 chk (decide (0 <= t1) && decide (t1 < (nx : Int))) (
 onPtr px fun g2 o2 =>
 ∃ x0 x12 x21 px3 nx3 cx3,holds q5 g2 (o2 + t1.toNat * 4) [.string x0,.int .i64 x12,.int .i64 x21,.slice px3 nx3 cx3] /\
 newB q5 #[.string (⟨#[]⟩ : ByteArray),.int .i64 0,.int .i64 0,.slice none 0 0] T.api_Class fun b1 q6 =>
 stores q6 b1 0 [.string x0,.int .i64 x12,.int .i64 x21,.slice px3 nx3 cx3] fun q7 =>
 ∃ px1 nx1 cx1,q7.cell? ⟨b1,3,none⟩ = some (.slice px1 nx1 cx1) /\
 Calls P F.Z44 #[.slice px1 nx1 cx1,.func (.func F.Z4g) #[] #[.pointer (some ⟨b,0,none⟩)]] q7 fun en q8 => ∃ x4,en = .returned (.bool x4) /\
 br x4 (
 ∃ x5,q8.cell? ⟨b1,1,none⟩ = some (.int .i64 x5) /\
 R (.tuple #[.int .i64 x5,.int .i64 0]) q8) (
 I (IntKind.wrap .i64 (t1 + 1)) q8 /\ μ (IntKind.wrap .i64 (t1 + 1)) q8 < μ t1 q5))) (
 R (.tuple #[.int .i64 (-1),.int .i64 0]) q5)) fun J4 =>
 wv q3.drew fun q9 =>
 br (!x11) (
 R (.tuple #[.int .i64 (-1),.int .i64 6]) q9) (
 ∃ x6,q9.cell? ⟨b,4,none⟩ = some (.int .i64 x6) /\
 ∃ x7,q9.cell? ⟨d,0,none⟩ = some (.pointer x7) /\
 ∃ x8,q9.cell? ⟨d,2,none⟩ = some (.int .i64 x8) /\
 onPtr x7 fun g3 o3 =>
 chk (decide (0 <= x8) && decide (x8 < 24)) (
 ∃ x9,q9.cell? ⟨g3,o3 + 16 + x8.toNat * 1,none⟩ = some (.int .i64 x9) /\
 br (!(decide (x6 = x9))) (
 R (.tuple #[.int .i64 (-1),.int .i64 6]) q9) (
 J4 () q9)))) /\ (newB q #[.int .i64 0,.int .i64 0,.int .i64 0,.int .i64 0,.int .i64 0,.int .u32 0,.slice none 0 0,.slice none 0 0] T.frame_Frame fun b2 q10 =>
 ((q10.cell? ⟨d,6,none⟩ = some (.int .i64 x2)) /\ (q10.cell? ⟨g,o + 6,none⟩ = some (.pointer x1)) /\ (q10.cell? ⟨d,0,none⟩ = some (.pointer x)) /\ True) /\
 Calls P F.Zs #[.pointer x1,.int .i64 x2] q10 fun en q11 => ∃ x001 x011 x021 x031 x041 x051 px061 nx061 cx061 px071 nx071 cx071 x13,en = .returned (.tuple #[.agg #[.int .i64 x001,.int .i64 x011,.int .i64 x021,.int .i64 x031,.int .i64 x041,.int .u32 x051,.slice px061 nx061 cx061,.slice px071 nx071 cx071],.bool x13]) /\
 ((q11.cell? ⟨d,0,none⟩ = some (.pointer x)) /\ True) /\
 stores q11 b2 0 [.int .i64 x001,.int .i64 x011,.int .i64 x021,.int .i64 x031,.int .i64 x041,.int .u32 x051,.slice px061 nx061 cx061,.slice px071 nx071 cx071] fun q12 =>
 True /\
 join (fun (t2 : Unit) (q13 : World) =>
 ∃ x10,q13.cell? ⟨d,0,none⟩ = some (.pointer x10) /\
 onPtr x10 fun g4 o4 =>
 ∃ px2 nx2 cx2,q13.cell? ⟨g4,o4 + 1,none⟩ = some (.slice px2 nx2 cx2) /\
 ∃ (I1 : Int -> World -> Prop) (μ1 : Int -> World -> Nat),I1 0 q13 /\
 ∀ (t3 : Int) (q14 : World),I1 t3 q14 ->
 br (decide (t3 < (nx2 : Int))) (
 chk (decide (0 <= t3) && decide (t3 < (nx2 : Int))) (
 onPtr px2 fun g5 o5 =>
 ∃ x06 x14 x22 px31 nx31 cx31,holds q14 g5 (o5 + t3.toNat * 4) [.string x06,.int .i64 x14,.int .i64 x22,.slice px31 nx31 cx31] /\
 newB q14 #[.string (⟨#[]⟩ : ByteArray),.int .i64 0,.int .i64 0,.slice none 0 0] T.api_Class fun b3 q15 =>
 stores q15 b3 0 [.string x06,.int .i64 x14,.int .i64 x22,.slice px31 nx31 cx31] fun q16 =>
 ∃ px4 nx4 cx4,q16.cell? ⟨b3,3,none⟩ = some (.slice px4 nx4 cx4) /\
 Calls P F.Z44 #[.slice px4 nx4 cx4,.func (.func F.Z4g) #[] #[.pointer (some ⟨b2,0,none⟩)]] q16 fun en q17 => ∃ x15,en = .returned (.bool x15) /\
 br x15 (
 ∃ x16,q17.cell? ⟨b3,1,none⟩ = some (.int .i64 x16) /\
 R (.tuple #[.int .i64 x16,.int .i64 0]) q17) (
 I1 (IntKind.wrap .i64 (t3 + 1)) q17 /\ μ1 (IntKind.wrap .i64 (t3 + 1)) q17 < μ1 t3 q14))) (
 R (.tuple #[.int .i64 (-1),.int .i64 0]) q14)) fun J4 =>
 wv q12.drew fun q18 =>
 br (!x13) (
 R (.tuple #[.int .i64 (-1),.int .i64 6]) q18) (
 ∃ x17,q18.cell? ⟨b2,4,none⟩ = some (.int .i64 x17) /\
 ∃ x18,q18.cell? ⟨d,0,none⟩ = some (.pointer x18) /\
 ∃ x19,q18.cell? ⟨d,2,none⟩ = some (.int .i64 x19) /\
 onPtr x18 fun g6 o6 =>
 chk (decide (0 <= x19) && decide (x19 < 24)) (
 ∃ x20,q18.cell? ⟨g6,o6 + 16 + x19.toNat * 1,none⟩ = some (.int .i64 x20) /\
 br (!(decide (x17 = x20))) (
 R (.tuple #[.int .i64 (-1),.int .i64 6]) q18) (
 J4 () q18))))
theorem oZ3y {d : Nat} (h : vZ3y d w fun v w' => R (.returned v) w') : Calls P F.Z3y #[.pointer (some ⟨d,0,none⟩)] w R :=
 calls_of_eq (A := ⟨[(5,[(52,(.int .i64))])],[(4,[])]⟩) mixed Tryz.func146 (by kernel_rfl) (by kernel_rfl) h
def vZ3z (m : Nat) (class_ : Int) (sel : Int) (w : World) (R : Value -> World -> Prop) : Prop :=
 newB w #[.int .i64 0,.int .i64 0] T.cache_Key fun b q =>
 stores q b 0 [.int .i64 class_,.int .i64 sel] fun q1 =>
 br (decide (class_ < 0)) (
 R (.int .i64 (-1)) q1) (
 wv q1.drew fun q2 =>
 ∃ x,q2.cell? ⟨m,8,none⟩ = some (.pointer x) /\
 ∃ x0 x1,holds q2 b 0 [.int .i64 x0,.int .i64 x1] /\
 Calls P F.Z4h #[.pointer x,.agg #[.int .i64 x0,.int .i64 x1]] q2 fun en q3 => ∃ x01 x11,en = .returned (.tuple #[.int .i64 x01,.bool x11]) /\
 True /\
 br x11 (
 R (.int .i64 x01) q3) (
 stores q3 m 69 [.int .i64 2] fun q4 =>
 ∃ px nx cx,q4.cell? ⟨m,1,none⟩ = some (.slice px nx cx) /\
 Calls P F.Z4i #[.slice px nx cx,.int .i64 class_] q4 fun en q5 => ∃ px1 nx1 cx1,en = .returned (.slice px1 nx1 cx1) /\
 ∃ (I : Int -> World -> Prop) (μ : Int -> World -> Nat),I 0 q5 /\
 ∀ (t : Int) (q6 : World),I t q6 ->
 br (decide (t < (nx1 : Int))) (
 chk (decide (0 <= t) && decide (t < (nx1 : Int))) (
 onPtr px1 fun g o =>
 ∃ x2,q6.cell? ⟨g,o + t.toNat * 1,none⟩ = some (.int .i64 x2) /\
 ∃ px2 nx2 cx2,q6.cell? ⟨m,9,none⟩ = some (.slice px2 nx2 cx2) /\
 chk (decide (0 <= x2) && decide (x2 < (nx2 : Int))) (
 onPtr px2 fun g1 o1 =>
 ∃ x3,q6.cell? ⟨g1,o1 + x2.toNat * 1,none⟩ = some (.pointer x3) /\
 Calls P F.Z4j #[.pointer x3,.int .i64 sel] q6 fun en q7 => ∃ x02 x12,en = .returned (.tuple #[.int .i64 x02,.int .i64 x12]) /\
 ∃ x4,q7.cell? ⟨m,68,none⟩ = some (.int .i64 x4) /\
 stores q7 m 68 [.int .i64 (IntKind.wrap .i64 (x4 + x12))] fun q8 =>
 br (decide (0 <= x02)) (
 wv q8.drew fun q9 =>
 ∃ x5,q9.cell? ⟨m,8,none⟩ = some (.pointer x5) /\
 ∃ x03 x13,holds q9 b 0 [.int .i64 x03,.int .i64 x13] /\
 Calls P F.Z4k #[.pointer x5,.agg #[.int .i64 x03,.int .i64 x13],.int .i64 x02] q9 fun en q10 => en = .returned (.tuple #[]) /\
 True /\
 R (.int .i64 x02) q10) (
 I (IntKind.wrap .i64 (t + 1)) q8 /\ μ (IntKind.wrap .i64 (t + 1)) q8 < μ t q6)))) (
 R (.int .i64 (-1)) q6)))
theorem oZ3z {m : Nat} {class_ : Int} {sel : Int} (h : vZ3z m class_ sel w fun v w' => R (.returned v) w') : Calls P F.Z3z #[.pointer (some ⟨m,0,none⟩),.int .i64 class_,.int .i64 sel] w R :=
 calls_of_eq (A := ⟨[(9,[(41,(.int .i64))])],[]⟩) mixed Tryz.func147 (by kernel_rfl) (by kernel_rfl) h
def vZ40 (m : Nat) (p : Int) (q : Int) (w : World) (R : Value -> World -> Prop) : Prop :=
 ∃ x,w.cell? ⟨m,7,none⟩ = some (.pointer x) /\
 Calls P F.Z21 #[.pointer x] w fun en q1 => ∃ x1,en = .returned (.int .i64 x1) /\
 chk (decide (0 <= p) && decide (p < 6)) (
 stores q1 m (10 + p.toNat * 1) [.int .i64 (-1)] fun q2 =>
 Calls P F.Z2r #[.pointer (some ⟨m,0,none⟩),.int .u32 q] q2 fun en q3 => ∃ x0 x11,en = .returned (.agg #[.int .i64 x0,.int .i64 x11]) /\
 Calls P F.Zw #[.pointer (some ⟨m,0,none⟩),.int .i64 2,.int .i64 p,.agg #[.int .i64 x0,.int .i64 x11]] q3 fun en q4 => en = .returned (.tuple #[]) /\
 Calls P F.Z22 #[.pointer (some ⟨m,0,none⟩)] q4 fun en q5 => en = .returned (.tuple #[]) /\
 R (.tuple #[]) q5)
theorem oZ40 {m : Nat} {p : Int} {q : Int} (h : vZ40 m p q w fun v w' => R (.returned v) w') : Calls P F.Z40 #[.pointer (some ⟨m,0,none⟩),.int .i64 p,.int .u32 q] w R :=
 calls_of_eq (A := ⟨[],[]⟩) mixed Tryz.func148 (by kernel_rfl) (by kernel_rfl) h
def vZ4g (b0 : Int) (b1 : Int) (cap0 : Nat) (w : World) (R : Value -> World -> Prop) : Prop :=
 newB w #[.int .i64 b0,.int .i64 b1] T.api_Bind fun b2 q =>
 ∃ x,q.cell? ⟨b2,1,none⟩ = some (.int .i64 x) /\
 ∃ x1,q.cell? ⟨cap0,0,none⟩ = some (.int .i64 x1) /\
 R (.bool (decide (x = x1))) q
theorem oZ4g {b0 : Int} {b1 : Int} {cap0 : Nat} (h : vZ4g b0 b1 cap0 w fun v w' => R (.returned v) w') : Calls P F.Z4g #[.agg #[.int .i64 b0,.int .i64 b1],.pointer (some ⟨cap0,0,none⟩)] w R :=
 calls_of_eq (A := ⟨[],[]⟩) mixed Tryz.func164 (by kernel_rfl) (by kernel_rfl) h
end
end Go.Proofs.YtbedadcbbnmpkaaGreatDoor
