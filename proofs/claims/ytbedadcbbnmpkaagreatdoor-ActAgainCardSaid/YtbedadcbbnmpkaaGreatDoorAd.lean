/- Part 4 of what the proof rests on: VcUnit, SpNames, VcShape, SpUnit, SpUnit2. No condition. -/
import Derived.Lib.BufferWrite
import Derived.MapKept
import Derived.Test.YtbedadcbbnmpkaaGreatDoorAc
set_option linter.unusedSimpArgs false
set_option linter.unusedVariables false
namespace Go.Proofs.YtbedadcbbnmpkaaGreatDoor
open Go Vc
section
variable {w : World} {R : Ending -> World -> Prop}
def vZj (pu0 : Option Addr) (nu0 cu0 : Nat) (pu1 : Option Addr) (nu1 cu1 : Nat) (pu2 : Option Addr) (nu2 cu2 : Nat) (pu3 : Option Addr) (nu3 cu3 : Nat) (u4 : Int) (w : World) (R : Value -> World -> Prop) : Prop :=
 newB w #[.slice pu0 nu0 cu0,.slice pu1 nu1 cu1,.slice pu2 nu2 cu2,.slice pu3 nu3 cu3,.int .i64 u4] T.api_Unit fun b q =>
 newB q #[.slice none 0 0,.slice none 0 0,.slice none 0 0,.slice none 0 0,.int .i64 0] T.api_Unit fun b1 q1 =>
 wv q1.drew fun q2 =>
 ∃ px nx cx,q2.cell? ⟨b,0,none⟩ = some (.slice px nx cx) /\
 ∃ x,q2.cell? ⟨b,4,none⟩ = some (.int .i64 x) /\
 (Calls P F.Z1b #[.slice px nx cx] q2 fun en q3 => ∃ px1 nx1 cx1,en = .returned (.slice px1 nx1 cx1) /\
 ((q3.cell? ⟨b,4,none⟩ = some (.int .i64 x)) /\ True) /\
 (Calls P F.Z1a #[.slice px1 nx1 cx1] q3 fun en q4 => ∃ px2 nx2 cx2,en = .returned (.slice px2 nx2 cx2) /\
 ((q4.cell? ⟨b,4,none⟩ = some (.int .i64 x)) /\ True) /\
 newB q4 #[.slice none 0 0,.slice none 0 0,.slice none 0 0,.slice none 0 0,.int .i64 0] T.api_Unit fun b2 q5 =>
 ((q5.cell? ⟨b,4,none⟩ = some (.int .i64 x)) /\ True) /\
 stores q5 b2 0 [.slice px2 nx2 cx2,.slice none 0 0,.slice none 0 0,.slice none 0 0,.int .i64 x] fun q6 =>
 True /\
 ∃ px3 nx3 cx3,q6.cell? ⟨b,1,none⟩ = some (.slice px3 nx3 cx3) /\
 ∃ (I : Int -> World -> Prop) (μ : Int -> World -> Nat),I 0 q6 /\
 ∀ (t : Int) (q7 : World),I t q7 ->
 br (decide (t < (nx3 : Int))) (
 chk (decide (0 <= t) && decide (t < (nx3 : Int))) (
 onPtr px3 fun g o =>
 ∃ x0 x1 x2 px31 nx31 cx31,holds q7 g (o + t.toNat * 4) [.string x0,.int .i64 x1,.int .i64 x2,.slice px31 nx31 cx31] /\
 newB q7 #[.string (⟨#[]⟩ : ByteArray),.int .i64 0,.int .i64 0,.slice none 0 0] T.api_Class fun b3 q8 =>
 stores q8 b3 0 [.string x0,.int .i64 x1,.int .i64 x2,.slice px31 nx31 cx31] fun q9 =>
 ∃ px4 nx4 cx4,q9.cell? ⟨b3,3,none⟩ = some (.slice px4 nx4 cx4) /\
 Calls P F.Z1d #[.slice px4 nx4 cx4] q9 fun en q10 => ∃ px5 nx5 cx5,en = .returned (.slice px5 nx5 cx5) /\
 Calls P F.Z1c #[.slice px5 nx5 cx5] q10 fun en q11 => ∃ px6 nx6 cx6,en = .returned (.slice px6 nx6 cx6) /\
 stores q11 b3 3 [.slice px6 nx6 cx6] fun q12 =>
 ∃ px7 nx7 cx7,q12.cell? ⟨b2,1,none⟩ = some (.slice px7 nx7 cx7) /\
 ∃ x01 x11 x21 px32 nx32 cx32,holds q12 b3 0 [.string x01,.int .i64 x11,.int .i64 x21,.slice px32 nx32 cx32] /\
 newB q12 #[.string x01,.int .i64 x11,.int .i64 x21,.slice px32 nx32 cx32] T.api_Class fun b4 q13 =>
 ∃ px8 nx8 cx8 q14,(Builtin.append_ #[T.sl_api_Class,T.sl_api_Class] T.sl_api_Class #[.slice px7 nx7 cx7,.slice (some ⟨b4,0,none⟩) 1 1]).run P q13 = .ok (.slice px8 nx8 cx8) q14 /\ Aft q13 q14 /\
 stores q14 b2 1 [.slice px8 nx8 cx8] fun q15 =>
 I (IntKind.wrap .i64 (t + 1)) q15 /\ μ (IntKind.wrap .i64 (t + 1)) q15 < μ t q7)) (
 ∃ px9 nx9 cx9,q7.cell? ⟨b,2,none⟩ = some (.slice px9 nx9 cx9) /\
 ∃ (I1 : Int -> World -> Prop) (μ1 : Int -> World -> Nat),I1 0 q7 /\
 ∀ (t1 : Int) (q16 : World),I1 t1 q16 ->
 br (decide (t1 < (nx9 : Int))) (
 chk (decide (0 <= t1) && decide (t1 < (nx9 : Int))) (
 onPtr px9 fun g1 o1 =>
 ∃ x02 x12 px21 nx21 cx21 px33 nx33 cx33,holds q16 g1 (o1 + t1.toNat * 4) [.int .i64 x02,.int .i64 x12,.slice px21 nx21 cx21,.slice px33 nx33 cx33] /\
 newB q16 #[.int .i64 0,.int .i64 0,.slice none 0 0,.slice none 0 0] T.api_Method fun b5 q17 =>
 stores q17 b5 0 [.int .i64 x02,.int .i64 x12,.slice px21 nx21 cx21,.slice px33 nx33 cx33] fun q18 =>
 wv q18.drew fun q19 =>
 ∃ px10 nx10 cx10,q19.cell? ⟨b5,2,none⟩ = some (.slice px10 nx10 cx10) /\
 ∃ px11 nx11 cx11,q19.cell? ⟨b5,3,none⟩ = some (.slice px11 nx11 cx11) /\
 Calls P F.Z1f #[.slice px10 nx10 cx10] q19 fun en q20 => ∃ px12 nx12 cx12,en = .returned (.slice px12 nx12 cx12) /\
 ((q20.cell? ⟨b5,3,none⟩ = some (.slice px11 nx11 cx11)) /\ True) /\
 Calls P F.Z1e #[.slice px12 nx12 cx12] q20 fun en q21 => ∃ px13 nx13 cx13,en = .returned (.slice px13 nx13 cx13) /\
 ((q21.cell? ⟨b5,3,none⟩ = some (.slice px11 nx11 cx11)) /\ True) /\
 Calls P F.Z1h #[.slice px11 nx11 cx11] q21 fun en q22 => ∃ px14 nx14 cx14,en = .returned (.slice px14 nx14 cx14) /\
 True /\
 Calls P F.Z1g #[.slice px14 nx14 cx14] q22 fun en q23 => ∃ px15 nx15 cx15,en = .returned (.slice px15 nx15 cx15) /\
 True /\
 stores q23 b5 2 [.slice px13 nx13 cx13] fun q24 =>
 True /\
 stores q24 b5 3 [.slice px15 nx15 cx15] fun q25 =>
 True /\
 ∃ px16 nx16 cx16,q25.cell? ⟨b2,2,none⟩ = some (.slice px16 nx16 cx16) /\
 ∃ x03 x13 px22 nx22 cx22 px34 nx34 cx34,holds q25 b5 0 [.int .i64 x03,.int .i64 x13,.slice px22 nx22 cx22,.slice px34 nx34 cx34] /\
 newB q25 #[.int .i64 x03,.int .i64 x13,.slice px22 nx22 cx22,.slice px34 nx34 cx34] T.api_Method fun b6 q26 =>
 ∃ px17 nx17 cx17 q27,(Builtin.append_ #[T.sl_api_Method,T.sl_api_Method] T.sl_api_Method #[.slice px16 nx16 cx16,.slice (some ⟨b6,0,none⟩) 1 1]).run P q26 = .ok (.slice px17 nx17 cx17) q27 /\ Aft q26 q27 /\
 stores q27 b2 2 [.slice px17 nx17 cx17] fun q28 =>
 I1 (IntKind.wrap .i64 (t1 + 1)) q28 /\ μ1 (IntKind.wrap .i64 (t1 + 1)) q28 < μ1 t1 q16)) (
 ∃ px18 nx18 cx18,q16.cell? ⟨b,3,none⟩ = some (.slice px18 nx18 cx18) /\
 ∃ (I2 : Int -> World -> Prop) (μ2 : Int -> World -> Nat),I2 0 q16 /\
 ∀ (t2 : Int) (q29 : World),I2 t2 q29 ->
 br (decide (t2 < (nx18 : Int))) (
 chk (decide (0 <= t2) && decide (t2 < (nx18 : Int))) (
 onPtr px18 fun g2 o2 =>
 ∃ x04 px19 nx19 cx19,holds q29 g2 (o2 + t2.toNat * 2) [.int .i64 x04,.slice px19 nx19 cx19] /\
 newB q29 #[.int .i64 0,.slice none 0 0] T.api_Obj fun b7 q30 =>
 stores q30 b7 0 [.int .i64 x04,.slice px19 nx19 cx19] fun q31 =>
 ∃ px20 nx20 cx20,q31.cell? ⟨b7,1,none⟩ = some (.slice px20 nx20 cx20) /\
 Calls P F.Z1f #[.slice px20 nx20 cx20] q31 fun en q32 => ∃ px23 nx23 cx23,en = .returned (.slice px23 nx23 cx23) /\
 Calls P F.Z1e #[.slice px23 nx23 cx23] q32 fun en q33 => ∃ px24 nx24 cx24,en = .returned (.slice px24 nx24 cx24) /\
 stores q33 b7 1 [.slice px24 nx24 cx24] fun q34 =>
 ∃ px25 nx25 cx25,q34.cell? ⟨b2,3,none⟩ = some (.slice px25 nx25 cx25) /\
 ∃ x05 px110 nx110 cx110,holds q34 b7 0 [.int .i64 x05,.slice px110 nx110 cx110] /\
 newB q34 #[.int .i64 x05,.slice px110 nx110 cx110] T.api_Obj fun b8 q35 =>
 ∃ px26 nx26 cx26 q36,(Builtin.append_ #[T.sl_api_Obj,T.sl_api_Obj] T.sl_api_Obj #[.slice px25 nx25 cx25,.slice (some ⟨b8,0,none⟩) 1 1]).run P q35 = .ok (.slice px26 nx26 cx26) q36 /\ Aft q35 q36 /\
 stores q36 b2 3 [.slice px26 nx26 cx26] fun q37 =>
 I2 (IntKind.wrap .i64 (t2 + 1)) q37 /\ μ2 (IntKind.wrap .i64 (t2 + 1)) q37 < μ2 t2 q29)) (
 ∃ px0 nx0 cx0 px111 nx111 cx111 px27 nx27 cx27 px35 nx35 cx35 x4,holds q29 b2 0 [.slice px0 nx0 cx0,.slice px111 nx111 cx111,.slice px27 nx27 cx27,.slice px35 nx35 cx35,.int .i64 x4] /\
 stores q29 b1 0 [.slice px0 nx0 cx0,.slice px111 nx111 cx111,.slice px27 nx27 cx27,.slice px35 nx35 cx35,.int .i64 x4] fun q38 =>
 ∃ pr0 nr0 cr0 pr1 nr1 cr1 pr2 nr2 cr2 pr3 nr3 cr3 r4,holds q38 b1 0 [.slice pr0 nr0 cr0,.slice pr1 nr1 cr1,.slice pr2 nr2 cr2,.slice pr3 nr3 cr3,.int .i64 r4] /\
 R (.agg #[.slice pr0 nr0 cr0,.slice pr1 nr1 cr1,.slice pr2 nr2 cr2,.slice pr3 nr3 cr3,.int .i64 r4]) q38)))) /\ (newB q3 #[.slice none 0 0,.slice none 0 0,.slice none 0 0,.slice none 0 0,.int .i64 0] T.api_Unit fun b9 q39 =>
 ((q39.cell? ⟨b,4,none⟩ = some (.int .i64 x)) /\ True) /\
 Calls P F.Z1a #[.slice px1 nx1 cx1] q39 fun en q40 => ∃ px28 nx28 cx28,en = .returned (.slice px28 nx28 cx28) /\
 ((q40.cell? ⟨b,4,none⟩ = some (.int .i64 x)) /\ True) /\
 stores q40 b9 0 [.slice px28 nx28 cx28,.slice none 0 0,.slice none 0 0,.slice none 0 0,.int .i64 x] fun q41 =>
 True /\
 ∃ px29 nx29 cx29,q41.cell? ⟨b,1,none⟩ = some (.slice px29 nx29 cx29) /\
 ∃ (I3 : Int -> World -> Prop) (μ3 : Int -> World -> Nat),I3 0 q41 /\
 ∀ (t3 : Int) (q42 : World),I3 t3 q42 ->
 br (decide (t3 < (nx29 : Int))) (
 chk (decide (0 <= t3) && decide (t3 < (nx29 : Int))) (
 onPtr px29 fun g3 o3 =>
 ∃ x06 x14 x22 px36 nx36 cx36,holds q42 g3 (o3 + t3.toNat * 4) [.string x06,.int .i64 x14,.int .i64 x22,.slice px36 nx36 cx36] /\
 newB q42 #[.string (⟨#[]⟩ : ByteArray),.int .i64 0,.int .i64 0,.slice none 0 0] T.api_Class fun b10 q43 =>
 stores q43 b10 0 [.string x06,.int .i64 x14,.int .i64 x22,.slice px36 nx36 cx36] fun q44 =>
 ∃ px30 nx30 cx30,q44.cell? ⟨b10,3,none⟩ = some (.slice px30 nx30 cx30) /\
 Calls P F.Z1d #[.slice px30 nx30 cx30] q44 fun en q45 => ∃ px37 nx37 cx37,en = .returned (.slice px37 nx37 cx37) /\
 Calls P F.Z1c #[.slice px37 nx37 cx37] q45 fun en q46 => ∃ px38 nx38 cx38,en = .returned (.slice px38 nx38 cx38) /\
 stores q46 b10 3 [.slice px38 nx38 cx38] fun q47 =>
 ∃ px39 nx39 cx39,q47.cell? ⟨b9,1,none⟩ = some (.slice px39 nx39 cx39) /\
 ∃ x07 x15 x23 px310 nx310 cx310,holds q47 b10 0 [.string x07,.int .i64 x15,.int .i64 x23,.slice px310 nx310 cx310] /\
 newB q47 #[.string x07,.int .i64 x15,.int .i64 x23,.slice px310 nx310 cx310] T.api_Class fun b11 q48 =>
 ∃ px40 nx40 cx40 q49,(Builtin.append_ #[T.sl_api_Class,T.sl_api_Class] T.sl_api_Class #[.slice px39 nx39 cx39,.slice (some ⟨b11,0,none⟩) 1 1]).run P q48 = .ok (.slice px40 nx40 cx40) q49 /\ Aft q48 q49 /\
 stores q49 b9 1 [.slice px40 nx40 cx40] fun q50 =>
 I3 (IntKind.wrap .i64 (t3 + 1)) q50 /\ μ3 (IntKind.wrap .i64 (t3 + 1)) q50 < μ3 t3 q42)) (
 ∃ px41 nx41 cx41,q42.cell? ⟨b,2,none⟩ = some (.slice px41 nx41 cx41) /\
 ∃ (I4 : Int -> World -> Prop) (μ4 : Int -> World -> Nat),I4 0 q42 /\
 ∀ (t4 : Int) (q51 : World),I4 t4 q51 ->
 br (decide (t4 < (nx41 : Int))) (
 chk (decide (0 <= t4) && decide (t4 < (nx41 : Int))) (
 onPtr px41 fun g4 o4 =>
 ∃ x08 x16 px210 nx210 cx210 px311 nx311 cx311,holds q51 g4 (o4 + t4.toNat * 4) [.int .i64 x08,.int .i64 x16,.slice px210 nx210 cx210,.slice px311 nx311 cx311] /\
 newB q51 #[.int .i64 0,.int .i64 0,.slice none 0 0,.slice none 0 0] T.api_Method fun b12 q52 =>
 stores q52 b12 0 [.int .i64 x08,.int .i64 x16,.slice px210 nx210 cx210,.slice px311 nx311 cx311] fun q53 =>
 wv q53.drew fun q54 =>
 ∃ px42 nx42 cx42,q54.cell? ⟨b12,2,none⟩ = some (.slice px42 nx42 cx42) /\
 ∃ px43 nx43 cx43,q54.cell? ⟨b12,3,none⟩ = some (.slice px43 nx43 cx43) /\
 Calls P F.Z1f #[.slice px42 nx42 cx42] q54 fun en q55 => ∃ px44 nx44 cx44,en = .returned (.slice px44 nx44 cx44) /\
 ((q55.cell? ⟨b12,3,none⟩ = some (.slice px43 nx43 cx43)) /\ True) /\
 Calls P F.Z1e #[.slice px44 nx44 cx44] q55 fun en q56 => ∃ px45 nx45 cx45,en = .returned (.slice px45 nx45 cx45) /\
 ((q56.cell? ⟨b12,3,none⟩ = some (.slice px43 nx43 cx43)) /\ True) /\
 Calls P F.Z1h #[.slice px43 nx43 cx43] q56 fun en q57 => ∃ px46 nx46 cx46,en = .returned (.slice px46 nx46 cx46) /\
 True /\
 Calls P F.Z1g #[.slice px46 nx46 cx46] q57 fun en q58 => ∃ px47 nx47 cx47,en = .returned (.slice px47 nx47 cx47) /\
 True /\
 stores q58 b12 2 [.slice px45 nx45 cx45] fun q59 =>
 True /\
 stores q59 b12 3 [.slice px47 nx47 cx47] fun q60 =>
 True /\
 ∃ px48 nx48 cx48,q60.cell? ⟨b9,2,none⟩ = some (.slice px48 nx48 cx48) /\
 ∃ x09 x17 px211 nx211 cx211 px312 nx312 cx312,holds q60 b12 0 [.int .i64 x09,.int .i64 x17,.slice px211 nx211 cx211,.slice px312 nx312 cx312] /\
 newB q60 #[.int .i64 x09,.int .i64 x17,.slice px211 nx211 cx211,.slice px312 nx312 cx312] T.api_Method fun b13 q61 =>
 ∃ px49 nx49 cx49 q62,(Builtin.append_ #[T.sl_api_Method,T.sl_api_Method] T.sl_api_Method #[.slice px48 nx48 cx48,.slice (some ⟨b13,0,none⟩) 1 1]).run P q61 = .ok (.slice px49 nx49 cx49) q62 /\ Aft q61 q62 /\
 stores q62 b9 2 [.slice px49 nx49 cx49] fun q63 =>
 I4 (IntKind.wrap .i64 (t4 + 1)) q63 /\ μ4 (IntKind.wrap .i64 (t4 + 1)) q63 < μ4 t4 q51)) (
 ∃ px50 nx50 cx50,q51.cell? ⟨b,3,none⟩ = some (.slice px50 nx50 cx50) /\
 ∃ (I5 : Int -> World -> Prop) (μ5 : Int -> World -> Nat),I5 0 q51 /\
 ∀ (t5 : Int) (q64 : World),I5 t5 q64 ->
 br (decide (t5 < (nx50 : Int))) (
 chk (decide (0 <= t5) && decide (t5 < (nx50 : Int))) (
 onPtr px50 fun g5 o5 =>
 ∃ x010 px112 nx112 cx112,holds q64 g5 (o5 + t5.toNat * 2) [.int .i64 x010,.slice px112 nx112 cx112] /\
 newB q64 #[.int .i64 0,.slice none 0 0] T.api_Obj fun b14 q65 =>
 stores q65 b14 0 [.int .i64 x010,.slice px112 nx112 cx112] fun q66 =>
 ∃ px51 nx51 cx51,q66.cell? ⟨b14,1,none⟩ = some (.slice px51 nx51 cx51) /\
 Calls P F.Z1f #[.slice px51 nx51 cx51] q66 fun en q67 => ∃ px52 nx52 cx52,en = .returned (.slice px52 nx52 cx52) /\
 Calls P F.Z1e #[.slice px52 nx52 cx52] q67 fun en q68 => ∃ px53 nx53 cx53,en = .returned (.slice px53 nx53 cx53) /\
 stores q68 b14 1 [.slice px53 nx53 cx53] fun q69 =>
 ∃ px54 nx54 cx54,q69.cell? ⟨b9,3,none⟩ = some (.slice px54 nx54 cx54) /\
 ∃ x011 px113 nx113 cx113,holds q69 b14 0 [.int .i64 x011,.slice px113 nx113 cx113] /\
 newB q69 #[.int .i64 x011,.slice px113 nx113 cx113] T.api_Obj fun b15 q70 =>
 ∃ px55 nx55 cx55 q71,(Builtin.append_ #[T.sl_api_Obj,T.sl_api_Obj] T.sl_api_Obj #[.slice px54 nx54 cx54,.slice (some ⟨b15,0,none⟩) 1 1]).run P q70 = .ok (.slice px55 nx55 cx55) q71 /\ Aft q70 q71 /\
 stores q71 b9 3 [.slice px55 nx55 cx55] fun q72 =>
 I5 (IntKind.wrap .i64 (t5 + 1)) q72 /\ μ5 (IntKind.wrap .i64 (t5 + 1)) q72 < μ5 t5 q64)) (
 ∃ px01 nx01 cx01 px114 nx114 cx114 px212 nx212 cx212 px313 nx313 cx313 x41,holds q64 b9 0 [.slice px01 nx01 cx01,.slice px114 nx114 cx114,.slice px212 nx212 cx212,.slice px313 nx313 cx313,.int .i64 x41] /\
 stores q64 b1 0 [.slice px01 nx01 cx01,.slice px114 nx114 cx114,.slice px212 nx212 cx212,.slice px313 nx313 cx313,.int .i64 x41] fun q73 =>
 ∃ pr01 nr01 cr01 pr11 nr11 cr11 pr21 nr21 cr21 pr31 nr31 cr31 r41,holds q73 b1 0 [.slice pr01 nr01 cr01,.slice pr11 nr11 cr11,.slice pr21 nr21 cr21,.slice pr31 nr31 cr31,.int .i64 r41] /\
 R (.agg #[.slice pr01 nr01 cr01,.slice pr11 nr11 cr11,.slice pr21 nr21 cr21,.slice pr31 nr31 cr31,.int .i64 r41]) q73))))) /\ (newB q2 #[.slice none 0 0,.slice none 0 0,.slice none 0 0,.slice none 0 0,.int .i64 0] T.api_Unit fun b16 q74 =>
 ((q74.cell? ⟨b,4,none⟩ = some (.int .i64 x)) /\ (q74.cell? ⟨b,0,none⟩ = some (.slice px nx cx)) /\ True) /\
 Calls P F.Z1b #[.slice px nx cx] q74 fun en q75 => ∃ px56 nx56 cx56,en = .returned (.slice px56 nx56 cx56) /\
 ((q75.cell? ⟨b,4,none⟩ = some (.int .i64 x)) /\ True) /\
 Calls P F.Z1a #[.slice px56 nx56 cx56] q75 fun en q76 => ∃ px57 nx57 cx57,en = .returned (.slice px57 nx57 cx57) /\
 ((q76.cell? ⟨b,4,none⟩ = some (.int .i64 x)) /\ True) /\
 stores q76 b16 0 [.slice px57 nx57 cx57,.slice none 0 0,.slice none 0 0,.slice none 0 0,.int .i64 x] fun q77 =>
 True /\
 ∃ px58 nx58 cx58,q77.cell? ⟨b,1,none⟩ = some (.slice px58 nx58 cx58) /\
 ∃ (I6 : Int -> World -> Prop) (μ6 : Int -> World -> Nat),I6 0 q77 /\
 ∀ (t6 : Int) (q78 : World),I6 t6 q78 ->
 br (decide (t6 < (nx58 : Int))) (
 chk (decide (0 <= t6) && decide (t6 < (nx58 : Int))) (
 onPtr px58 fun g6 o6 =>
 ∃ x012 x18 x24 px314 nx314 cx314,holds q78 g6 (o6 + t6.toNat * 4) [.string x012,.int .i64 x18,.int .i64 x24,.slice px314 nx314 cx314] /\
 newB q78 #[.string (⟨#[]⟩ : ByteArray),.int .i64 0,.int .i64 0,.slice none 0 0] T.api_Class fun b17 q79 =>
 stores q79 b17 0 [.string x012,.int .i64 x18,.int .i64 x24,.slice px314 nx314 cx314] fun q80 =>
 ∃ px59 nx59 cx59,q80.cell? ⟨b17,3,none⟩ = some (.slice px59 nx59 cx59) /\
 Calls P F.Z1d #[.slice px59 nx59 cx59] q80 fun en q81 => ∃ px60 nx60 cx60,en = .returned (.slice px60 nx60 cx60) /\
 Calls P F.Z1c #[.slice px60 nx60 cx60] q81 fun en q82 => ∃ px61 nx61 cx61,en = .returned (.slice px61 nx61 cx61) /\
 stores q82 b17 3 [.slice px61 nx61 cx61] fun q83 =>
 ∃ px62 nx62 cx62,q83.cell? ⟨b16,1,none⟩ = some (.slice px62 nx62 cx62) /\
 ∃ x013 x19 x25 px315 nx315 cx315,holds q83 b17 0 [.string x013,.int .i64 x19,.int .i64 x25,.slice px315 nx315 cx315] /\
 newB q83 #[.string x013,.int .i64 x19,.int .i64 x25,.slice px315 nx315 cx315] T.api_Class fun b18 q84 =>
 ∃ px63 nx63 cx63 q85,(Builtin.append_ #[T.sl_api_Class,T.sl_api_Class] T.sl_api_Class #[.slice px62 nx62 cx62,.slice (some ⟨b18,0,none⟩) 1 1]).run P q84 = .ok (.slice px63 nx63 cx63) q85 /\ Aft q84 q85 /\
 stores q85 b16 1 [.slice px63 nx63 cx63] fun q86 =>
 I6 (IntKind.wrap .i64 (t6 + 1)) q86 /\ μ6 (IntKind.wrap .i64 (t6 + 1)) q86 < μ6 t6 q78)) (
 ∃ px64 nx64 cx64,q78.cell? ⟨b,2,none⟩ = some (.slice px64 nx64 cx64) /\
 ∃ (I7 : Int -> World -> Prop) (μ7 : Int -> World -> Nat),I7 0 q78 /\
 ∀ (t7 : Int) (q87 : World),I7 t7 q87 ->
 br (decide (t7 < (nx64 : Int))) (
 chk (decide (0 <= t7) && decide (t7 < (nx64 : Int))) (
 onPtr px64 fun g7 o7 =>
 ∃ x014 x110 px213 nx213 cx213 px316 nx316 cx316,holds q87 g7 (o7 + t7.toNat * 4) [.int .i64 x014,.int .i64 x110,.slice px213 nx213 cx213,.slice px316 nx316 cx316] /\
 newB q87 #[.int .i64 0,.int .i64 0,.slice none 0 0,.slice none 0 0] T.api_Method fun b19 q88 =>
 stores q88 b19 0 [.int .i64 x014,.int .i64 x110,.slice px213 nx213 cx213,.slice px316 nx316 cx316] fun q89 =>
 wv q89.drew fun q90 =>
 ∃ px65 nx65 cx65,q90.cell? ⟨b19,2,none⟩ = some (.slice px65 nx65 cx65) /\
 ∃ px66 nx66 cx66,q90.cell? ⟨b19,3,none⟩ = some (.slice px66 nx66 cx66) /\
 Calls P F.Z1f #[.slice px65 nx65 cx65] q90 fun en q91 => ∃ px67 nx67 cx67,en = .returned (.slice px67 nx67 cx67) /\
 ((q91.cell? ⟨b19,3,none⟩ = some (.slice px66 nx66 cx66)) /\ True) /\
 Calls P F.Z1e #[.slice px67 nx67 cx67] q91 fun en q92 => ∃ px68 nx68 cx68,en = .returned (.slice px68 nx68 cx68) /\
 ((q92.cell? ⟨b19,3,none⟩ = some (.slice px66 nx66 cx66)) /\ True) /\
 Calls P F.Z1h #[.slice px66 nx66 cx66] q92 fun en q93 => ∃ px69 nx69 cx69,en = .returned (.slice px69 nx69 cx69) /\
 True /\
 Calls P F.Z1g #[.slice px69 nx69 cx69] q93 fun en q94 => ∃ px70 nx70 cx70,en = .returned (.slice px70 nx70 cx70) /\
 True /\
 stores q94 b19 2 [.slice px68 nx68 cx68] fun q95 =>
 True /\
 stores q95 b19 3 [.slice px70 nx70 cx70] fun q96 =>
 True /\
 ∃ px71 nx71 cx71,q96.cell? ⟨b16,2,none⟩ = some (.slice px71 nx71 cx71) /\
 ∃ x015 x111 px214 nx214 cx214 px317 nx317 cx317,holds q96 b19 0 [.int .i64 x015,.int .i64 x111,.slice px214 nx214 cx214,.slice px317 nx317 cx317] /\
 newB q96 #[.int .i64 x015,.int .i64 x111,.slice px214 nx214 cx214,.slice px317 nx317 cx317] T.api_Method fun b20 q97 =>
 ∃ px72 nx72 cx72 q98,(Builtin.append_ #[T.sl_api_Method,T.sl_api_Method] T.sl_api_Method #[.slice px71 nx71 cx71,.slice (some ⟨b20,0,none⟩) 1 1]).run P q97 = .ok (.slice px72 nx72 cx72) q98 /\ Aft q97 q98 /\
 stores q98 b16 2 [.slice px72 nx72 cx72] fun q99 =>
 I7 (IntKind.wrap .i64 (t7 + 1)) q99 /\ μ7 (IntKind.wrap .i64 (t7 + 1)) q99 < μ7 t7 q87)) (
 ∃ px73 nx73 cx73,q87.cell? ⟨b,3,none⟩ = some (.slice px73 nx73 cx73) /\
 ∃ (I8 : Int -> World -> Prop) (μ8 : Int -> World -> Nat),I8 0 q87 /\
 ∀ (t8 : Int) (q100 : World),I8 t8 q100 ->
 br (decide (t8 < (nx73 : Int))) (
 chk (decide (0 <= t8) && decide (t8 < (nx73 : Int))) (
 onPtr px73 fun g8 o8 =>
 ∃ x016 px115 nx115 cx115,holds q100 g8 (o8 + t8.toNat * 2) [.int .i64 x016,.slice px115 nx115 cx115] /\
 newB q100 #[.int .i64 0,.slice none 0 0] T.api_Obj fun b21 q101 =>
 stores q101 b21 0 [.int .i64 x016,.slice px115 nx115 cx115] fun q102 =>
 ∃ px74 nx74 cx74,q102.cell? ⟨b21,1,none⟩ = some (.slice px74 nx74 cx74) /\
 Calls P F.Z1f #[.slice px74 nx74 cx74] q102 fun en q103 => ∃ px75 nx75 cx75,en = .returned (.slice px75 nx75 cx75) /\
 Calls P F.Z1e #[.slice px75 nx75 cx75] q103 fun en q104 => ∃ px76 nx76 cx76,en = .returned (.slice px76 nx76 cx76) /\
 stores q104 b21 1 [.slice px76 nx76 cx76] fun q105 =>
 ∃ px77 nx77 cx77,q105.cell? ⟨b16,3,none⟩ = some (.slice px77 nx77 cx77) /\
 ∃ x017 px116 nx116 cx116,holds q105 b21 0 [.int .i64 x017,.slice px116 nx116 cx116] /\
 newB q105 #[.int .i64 x017,.slice px116 nx116 cx116] T.api_Obj fun b22 q106 =>
 ∃ px78 nx78 cx78 q107,(Builtin.append_ #[T.sl_api_Obj,T.sl_api_Obj] T.sl_api_Obj #[.slice px77 nx77 cx77,.slice (some ⟨b22,0,none⟩) 1 1]).run P q106 = .ok (.slice px78 nx78 cx78) q107 /\ Aft q106 q107 /\
 stores q107 b16 3 [.slice px78 nx78 cx78] fun q108 =>
 I8 (IntKind.wrap .i64 (t8 + 1)) q108 /\ μ8 (IntKind.wrap .i64 (t8 + 1)) q108 < μ8 t8 q100)) (
 ∃ px02 nx02 cx02 px117 nx117 cx117 px215 nx215 cx215 px318 nx318 cx318 x42,holds q100 b16 0 [.slice px02 nx02 cx02,.slice px117 nx117 cx117,.slice px215 nx215 cx215,.slice px318 nx318 cx318,.int .i64 x42] /\
 stores q100 b1 0 [.slice px02 nx02 cx02,.slice px117 nx117 cx117,.slice px215 nx215 cx215,.slice px318 nx318 cx318,.int .i64 x42] fun q109 =>
 ∃ pr02 nr02 cr02 pr12 nr12 cr12 pr22 nr22 cr22 pr32 nr32 cr32 r42,holds q109 b1 0 [.slice pr02 nr02 cr02,.slice pr12 nr12 cr12,.slice pr22 nr22 cr22,.slice pr32 nr32 cr32,.int .i64 r42] /\
 R (.agg #[.slice pr02 nr02 cr02,.slice pr12 nr12 cr12,.slice pr22 nr22 cr22,.slice pr32 nr32 cr32,.int .i64 r42]) q109))))
theorem oZj {pu0 : Option Addr} {nu0 cu0 : Nat} {pu1 : Option Addr} {nu1 cu1 : Nat} {pu2 : Option Addr} {nu2 cu2 : Nat} {pu3 : Option Addr} {nu3 cu3 : Nat} {u4 : Int} (h : vZj pu0 nu0 cu0 pu1 nu1 cu1 pu2 nu2 cu2 pu3 nu3 cu3 u4 w fun v w' => R (.returned v) w') : Calls P F.Zj #[.agg #[.slice pu0 nu0 cu0,.slice pu1 nu1 cu1,.slice pu2 nu2 cu2,.slice pu3 nu3 cu3,.int .i64 u4]] w R :=
 calls_of_eq (A := ⟨[(3,[(20,(.int .i64))]),(9,[(39,(.int .i64))]),(15,[(63,(.int .i64))])],[]⟩) mixed Tryz.func22 (by kernel_rfl) (by kernel_rfl) h
def vZ17 (pu0 : Option Addr) (nu0 cu0 : Nat) (pu1 : Option Addr) (nu1 cu1 : Nat) (pu2 : Option Addr) (nu2 cu2 : Nat) (pu3 : Option Addr) (nu3 cu3 : Nat) (u4 : Int) (w : World) (R : Value -> World -> Prop) : Prop :=
 newB w #[.slice pu0 nu0 cu0,.slice pu1 nu1 cu1,.slice pu2 nu2 cu2,.slice pu3 nu3 cu3,.int .i64 u4] T.api_Unit fun b q =>
 join (fun (t : Unit) (q1 : World) =>
 ∃ px nx cx,q1.cell? ⟨b,0,none⟩ = some (.slice px nx cx) /\
 Calls P F.Z24 #[.slice px nx cx] q1 fun en q2 => ∃ x,en = .returned (.int .i64 x) /\
 br (!(decide (x = 0))) (
 R (.int .i64 x) q2) (
 ∃ px1 nx1 cx1,q2.cell? ⟨b,1,none⟩ = some (.slice px1 nx1 cx1) /\
 ∃ px2 nx2 cx2,q2.cell? ⟨b,0,none⟩ = some (.slice px2 nx2 cx2) /\
 ∃ px3 nx3 cx3,q2.cell? ⟨b,2,none⟩ = some (.slice px3 nx3 cx3) /\
 Calls P F.Z25 #[.slice px1 nx1 cx1,.int .i64 (nx2 : Int),.int .i64 (nx3 : Int)] q2 fun en q3 => ∃ x1,en = .returned (.int .i64 x1) /\
 br (!(decide (x1 = 0))) (
 R (.int .i64 x1) q3) (
 ∃ px0 nx0 cx0 px11 nx11 cx11 px21 nx21 cx21 px31 nx31 cx31 x4,holds q3 b 0 [.slice px0 nx0 cx0,.slice px11 nx11 cx11,.slice px21 nx21 cx21,.slice px31 nx31 cx31,.int .i64 x4] /\
 Calls P F.Z26 #[.agg #[.slice px0 nx0 cx0,.slice px11 nx11 cx11,.slice px21 nx21 cx21,.slice px31 nx31 cx31,.int .i64 x4]] q3 fun en q4 => ∃ x2,en = .returned (.int .i64 x2) /\
 br (!(decide (x2 = 0))) (
 R (.int .i64 x2) q4) (
 ∃ px4 nx4 cx4,q4.cell? ⟨b,3,none⟩ = some (.slice px4 nx4 cx4) /\
 Calls P F.Z27 #[.slice px4 nx4 cx4,.func (.func F.Z28) #[] #[.pointer (some ⟨b,0,none⟩)]] q4 fun en q5 => ∃ x3,en = .returned (.bool x3) /\
 br x3 (
 R (.int .i64 16) q5) (
 ∃ x5,q5.cell? ⟨b,4,none⟩ = some (.int .i64 x5) /\
 br (decide (x5 < 0)) (
 R (.int .i64 15) q5) (
 ∃ x6,q5.cell? ⟨b,4,none⟩ = some (.int .i64 x6) /\
 ∃ px5 nx5 cx5,q5.cell? ⟨b,2,none⟩ = some (.slice px5 nx5 cx5) /\
 br (decide ((nx5 : Int) <= x6)) (
 R (.int .i64 15) q5) (
 ∃ px6 nx6 cx6,q5.cell? ⟨b,2,none⟩ = some (.slice px6 nx6 cx6) /\
 ∃ x7,q5.cell? ⟨b,4,none⟩ = some (.int .i64 x7) /\
 chk (decide (0 <= x7) && decide (x7 < (nx6 : Int))) (
 onPtr px6 fun g o =>
 ∃ x8,q5.cell? ⟨g,o + x7.toNat * 4,none⟩ = some (.int .i64 x8) /\
 br (!(decide (x8 = 0))) (
 R (.int .i64 15) q5) (
 R (.int .i64 0) q5))))))))) fun J3 =>
 ∃ px7 nx7 cx7,q.cell? ⟨b,0,none⟩ = some (.slice px7 nx7 cx7) /\
 br (decide (48 < (nx7 : Int))) (
 R (.int .i64 3) q) (
 ∃ px8 nx8 cx8,q.cell? ⟨b,2,none⟩ = some (.slice px8 nx8 cx8) /\
 br (decide ((nx8 : Int) < 1)) (
 R (.int .i64 3) q) (
 ∃ px9 nx9 cx9,q.cell? ⟨b,2,none⟩ = some (.slice px9 nx9 cx9) /\
 br (decide (32 < (nx9 : Int))) (
 R (.int .i64 3) q) (
 ∃ px10 nx10 cx10,q.cell? ⟨b,3,none⟩ = some (.slice px10 nx10 cx10) /\
 br (decide ((nx10 : Int) < 1)) (
 R (.int .i64 3) q) (
 ∃ px12 nx12 cx12,q.cell? ⟨b,3,none⟩ = some (.slice px12 nx12 cx12) /\
 br (decide (40 < (nx12 : Int))) (
 R (.int .i64 3) q) (
 J3 () q)))))
theorem oZ17 {pu0 : Option Addr} {nu0 cu0 : Nat} {pu1 : Option Addr} {nu1 cu1 : Nat} {pu2 : Option Addr} {nu2 cu2 : Nat} {pu3 : Option Addr} {nu3 cu3 : Nat} {u4 : Int} (h : vZ17 pu0 nu0 cu0 pu1 nu1 cu1 pu2 nu2 cu2 pu3 nu3 cu3 u4 w fun v w' => R (.returned v) w') : Calls P F.Z17 #[.agg #[.slice pu0 nu0 cu0,.slice pu1 nu1 cu1,.slice pu2 nu2 cu2,.slice pu3 nu3 cu3,.int .i64 u4]] w R :=
 calls_of_eq (A := ⟨[],[(3,[])]⟩) mixed Tryz.func46 (by kernel_rfl) (by kernel_rfl) h
def vZ24 (pl : Option Addr) (nl cl : Nat) (w : World) (R : Value -> World -> Prop) : Prop :=
 Calls P F.Z35 #[] w fun en q => ∃ x,en = .returned (.pointer x) /\
 ∃ (I : Int -> World -> Prop) (μ : Int -> World -> Nat),I 0 q /\
 ∀ (t : Int) (q1 : World),I t q1 ->
 br (decide (t < (nl : Int))) (
 chk (decide (0 <= t) && decide (t < (nl : Int))) (
 onPtr pl fun g o =>
 ∃ x1,q1.cell? ⟨g,o + t.toNat * 1,none⟩ = some (.string x1) /\
 Calls P F.Z36 #[.pointer x,.string x1] q1 fun en q2 => ∃ x2,en = .returned (.int .i64 x2) /\
 br (!(decide (x2 = t))) (
 R (.int .i64 13) q2) (
 I (IntKind.wrap .i64 (t + 1)) q2 /\ μ (IntKind.wrap .i64 (t + 1)) q2 < μ t q1))) (
 R (.int .i64 0) q1)
theorem oZ24 {pl : Option Addr} {nl cl : Nat} (h : vZ24 pl nl cl w fun v w' => R (.returned v) w') : Calls P F.Z24 #[.slice pl nl cl] w R :=
 calls_of_eq (A := ⟨[(3,[(9,(.int .i64))])],[]⟩) mixed Tryz.func79 (by kernel_rfl) (by kernel_rfl) h
def vZ26 (pu0 : Option Addr) (nu0 cu0 : Nat) (pu1 : Option Addr) (nu1 cu1 : Nat) (pu2 : Option Addr) (nu2 cu2 : Nat) (pu3 : Option Addr) (nu3 cu3 : Nat) (u4 : Int) (w : World) (R : Value -> World -> Prop) : Prop :=
 newB w #[.slice pu0 nu0 cu0,.slice pu1 nu1 cu1,.slice pu2 nu2 cu2,.slice pu3 nu3 cu3,.int .i64 u4] T.api_Unit fun b q =>
 ∃ px nx cx,q.cell? ⟨b,1,none⟩ = some (.slice px nx cx) /\
 ∃ (I : Int -> World -> Prop) (μ : Int -> World -> Nat),I 0 q /\
 ∀ (t : Int) (q1 : World),I t q1 ->
 br (decide (t < (nx : Int))) (
 chk (decide (0 <= t) && decide (t < (nx : Int))) (
 onPtr px fun g o =>
 ∃ x0 x1 x2 px3 nx3 cx3,holds q1 g (o + t.toNat * 4) [.string x0,.int .i64 x1,.int .i64 x2,.slice px3 nx3 cx3] /\
 newB q1 #[.string (⟨#[]⟩ : ByteArray),.int .i64 0,.int .i64 0,.slice none 0 0] T.api_Class fun b1 q2 =>
 stores q2 b1 0 [.string x0,.int .i64 x1,.int .i64 x2,.slice px3 nx3 cx3] fun q3 =>
 ∃ px1 nx1 cx1,q3.cell? ⟨b1,3,none⟩ = some (.slice px1 nx1 cx1) /\
 Calls P F.Zn #[.slice px1 nx1 cx1] q3 fun en q4 => ∃ x01 x11,en = .returned (.tuple #[.pointer x01,.bool x11]) /\
 br (!x11) (
 R (.int .i64 14) q4) (
 I (IntKind.wrap .i64 (t + 1)) q4 /\ μ (IntKind.wrap .i64 (t + 1)) q4 < μ t q1))) (
 ∃ px2 nx2 cx2,q1.cell? ⟨b,2,none⟩ = some (.slice px2 nx2 cx2) /\
 ∃ (I1 : Int -> World -> Prop) (μ1 : Int -> World -> Nat),I1 0 q1 /\
 ∀ (t1 : Int) (q5 : World),I1 t1 q5 ->
 br (decide (t1 < (nx2 : Int))) (
 chk (decide (0 <= t1) && decide (t1 < (nx2 : Int))) (
 onPtr px2 fun g1 o1 =>
 ∃ x02 x12 px21 nx21 cx21 px31 nx31 cx31,holds q5 g1 (o1 + t1.toNat * 4) [.int .i64 x02,.int .i64 x12,.slice px21 nx21 cx21,.slice px31 nx31 cx31] /\
 newB q5 #[.int .i64 0,.int .i64 0,.slice none 0 0,.slice none 0 0] T.api_Method fun b2 q6 =>
 stores q6 b2 0 [.int .i64 x02,.int .i64 x12,.slice px21 nx21 cx21,.slice px31 nx31 cx31] fun q7 =>
 ∃ x03 x13 px22 nx22 cx22 px32 nx32 cx32,holds q7 b2 0 [.int .i64 x03,.int .i64 x13,.slice px22 nx22 cx22,.slice px32 nx32 cx32] /\
 ∃ px0 nx0 cx0 px11 nx11 cx11 px23 nx23 cx23 px33 nx33 cx33 x4,holds q7 b 0 [.slice px0 nx0 cx0,.slice px11 nx11 cx11,.slice px23 nx23 cx23,.slice px33 nx33 cx33,.int .i64 x4] /\
 Calls P F.Z3b #[.agg #[.int .i64 x03,.int .i64 x13,.slice px22 nx22 cx22,.slice px32 nx32 cx32],.agg #[.slice px0 nx0 cx0,.slice px11 nx11 cx11,.slice px23 nx23 cx23,.slice px33 nx33 cx33,.int .i64 x4]] q7 fun en q8 => ∃ x,en = .returned (.int .i64 x) /\
 br (!(decide (x = 0))) (
 R (.int .i64 x) q8) (
 I1 (IntKind.wrap .i64 (t1 + 1)) q8 /\ μ1 (IntKind.wrap .i64 (t1 + 1)) q8 < μ1 t1 q5))) (
 ∃ px4 nx4 cx4,q5.cell? ⟨b,1,none⟩ = some (.slice px4 nx4 cx4) /\
 ∃ (I2 : Int -> World -> Prop) (μ2 : Int -> World -> Nat),I2 0 q5 /\
 ∀ (t2 : Int) (q9 : World),I2 t2 q9 ->
 br (decide (t2 < (nx4 : Int))) (
 chk (decide (0 <= t2) && decide (t2 < (nx4 : Int))) (
 onPtr px4 fun g2 o2 =>
 ∃ x04 x14 x21 px34 nx34 cx34,holds q9 g2 (o2 + t2.toNat * 4) [.string x04,.int .i64 x14,.int .i64 x21,.slice px34 nx34 cx34] /\
 newB q9 #[.string (⟨#[]⟩ : ByteArray),.int .i64 0,.int .i64 0,.slice none 0 0] T.api_Class fun b3 q10 =>
 stores q10 b3 0 [.string x04,.int .i64 x14,.int .i64 x21,.slice px34 nx34 cx34] fun q11 =>
 ∃ px5 nx5 cx5,q11.cell? ⟨b3,3,none⟩ = some (.slice px5 nx5 cx5) /\
 ∃ (I3 : Int -> World -> Prop) (μ3 : Int -> World -> Nat),I3 0 q11 /\
 ∀ (t3 : Int) (q12 : World),I3 t3 q12 ->
 br (decide (t3 < (nx5 : Int))) (
 chk (decide (0 <= t3) && decide (t3 < (nx5 : Int))) (
 onPtr px5 fun g3 o3 =>
 ∃ x05 x15,holds q12 g3 (o3 + t3.toNat * 2) [.int .i64 x05,.int .i64 x15] /\
 newB q12 #[.int .i64 0,.int .i64 0] T.api_Bind fun b4 q13 =>
 stores q13 b4 0 [.int .i64 x05,.int .i64 x15] fun q14 =>
 wv q14.drew fun q15 =>
 ∃ px6 nx6 cx6,q15.cell? ⟨b,0,none⟩ = some (.slice px6 nx6 cx6) /\
 ∃ x3,q15.cell? ⟨b4,0,none⟩ = some (.int .i64 x3) /\
 chk (decide (0 <= x3) && decide (x3 < (nx6 : Int))) (
 onPtr px6 fun g4 o4 =>
 ∃ x5,q15.cell? ⟨g4,o4 + x3.toNat * 1,none⟩ = some (.string x5) /\
 ∃ px7 nx7 cx7,q15.cell? ⟨b,2,none⟩ = some (.slice px7 nx7 cx7) /\
 ∃ x6,q15.cell? ⟨b4,1,none⟩ = some (.int .i64 x6) /\
 chk (decide (0 <= x6) && decide (x6 < (nx7 : Int))) (
 onPtr px7 fun g5 o5 =>
 ∃ x7,q15.cell? ⟨g5,o5 + x6.toNat * 4,none⟩ = some (.int .i64 x7) /\
 Calls P F.Z3c #[.string x5] q15 fun en q16 => ∃ x8,en = .returned (.int .i64 x8) /\
 ((q16.cell? ⟨g5,o5 + x6.toNat * 4,none⟩ = some (.int .i64 x7)) /\ (q16.cell? ⟨b4,1,none⟩ = some (.int .i64 x6)) /\ (q16.cell? ⟨b,2,none⟩ = some (.slice px7 nx7 cx7)) /\ (q16.cell? ⟨b4,0,none⟩ = some (.int .i64 x3)) /\ (q16.cell? ⟨b,0,none⟩ = some (.slice px6 nx6 cx6)) /\ True) /\
 br (!(decide (x8 = x7))) (
 R (.int .i64 15) q16) (
 I3 (IntKind.wrap .i64 (t3 + 1)) q16 /\ μ3 (IntKind.wrap .i64 (t3 + 1)) q16 < μ3 t3 q12))))) (
 I2 (IntKind.wrap .i64 (t2 + 1)) q12 /\ μ2 (IntKind.wrap .i64 (t2 + 1)) q12 < μ2 t2 q9))) (
 R (.int .i64 0) q9)))
theorem oZ26 {pu0 : Option Addr} {nu0 cu0 : Nat} {pu1 : Option Addr} {nu1 cu1 : Nat} {pu2 : Option Addr} {nu2 cu2 : Nat} {pu3 : Option Addr} {nu3 cu3 : Nat} {u4 : Int} (h : vZ26 pu0 nu0 cu0 pu1 nu1 cu1 pu2 nu2 cu2 pu3 nu3 cu3 u4 w fun v w' => R (.returned v) w') : Calls P F.Z26 #[.agg #[.slice pu0 nu0 cu0,.slice pu1 nu1 cu1,.slice pu2 nu2 cu2,.slice pu3 nu3 cu3,.int .i64 u4]] w R :=
 calls_of_eq (A := ⟨[(2,[(17,(.int .i64))]),(9,[(33,(.int .i64))]),(16,[(47,(.int .i64))]),(19,[(54,(.int .i64))])],[]⟩) mixed Tryz.func81 (by kernel_rfl) (by kernel_rfl) h
def vZ28 (o0 : Int) (po1 : Option Addr) (no1 co1 : Nat) (cap0 : Nat) (w : World) (R : Value -> World -> Prop) : Prop :=
 newB w #[.int .i64 o0,.slice po1 no1 co1] T.api_Obj fun b q =>
 ∃ x0 px1 nx1 cx1,holds q b 0 [.int .i64 x0,.slice px1 nx1 cx1] /\
 ∃ px0 nx0 cx0 px11 nx11 cx11 px2 nx2 cx2 px3 nx3 cx3 x4,holds q cap0 0 [.slice px0 nx0 cx0,.slice px11 nx11 cx11,.slice px2 nx2 cx2,.slice px3 nx3 cx3,.int .i64 x4] /\
 Calls P F.Z29 #[.agg #[.int .i64 x0,.slice px1 nx1 cx1],.agg #[.slice px0 nx0 cx0,.slice px11 nx11 cx11,.slice px2 nx2 cx2,.slice px3 nx3 cx3,.int .i64 x4]] q fun en q1 => ∃ x,en = .returned (.bool x) /\
 R (.bool (!x)) q1
theorem oZ28 {o0 : Int} {po1 : Option Addr} {no1 co1 : Nat} {cap0 : Nat} (h : vZ28 o0 po1 no1 co1 cap0 w fun v w' => R (.returned v) w') : Calls P F.Z28 #[.agg #[.int .i64 o0,.slice po1 no1 co1],.pointer (some ⟨cap0,0,none⟩)] w R :=
 calls_of_eq (A := ⟨[],[]⟩) mixed Tryz.func83 (by kernel_rfl) (by kernel_rfl) h
def vZ29 (o0 : Int) (po1 : Option Addr) (no1 co1 : Nat) (pu0 : Option Addr) (nu0 cu0 : Nat) (pu1 : Option Addr) (nu1 cu1 : Nat) (pu2 : Option Addr) (nu2 cu2 : Nat) (pu3 : Option Addr) (nu3 cu3 : Nat) (u4 : Int) (w : World) (R : Value -> World -> Prop) : Prop :=
 newB w #[.int .i64 o0,.slice po1 no1 co1] T.api_Obj fun b q =>
 newB q #[.slice pu0 nu0 cu0,.slice pu1 nu1 cu1,.slice pu2 nu2 cu2,.slice pu3 nu3 cu3,.int .i64 u4] T.api_Unit fun b1 q1 =>
 join (fun (t : Unit) (q2 : World) =>
 wv q2.drew fun q3 =>
 ∃ x,q3.cell? ⟨b,0,none⟩ = some (.int .i64 x) /\
 br (decide (1 < x)) (
 ∃ px nx cx,q3.cell? ⟨b,1,none⟩ = some (.slice px nx cx) /\
 ∃ px1 nx1 cx1,q3.cell? ⟨b1,1,none⟩ = some (.slice px1 nx1 cx1) /\
 ∃ x1,q3.cell? ⟨b,0,none⟩ = some (.int .i64 x1) /\
 chk (decide (0 <= x1) && decide (x1 < (nx1 : Int))) (
 onPtr px1 fun g o1 =>
 ∃ x2,q3.cell? ⟨g,o1 + x1.toNat * 4 + 2,none⟩ = some (.int .i64 x2) /\
 br (!(decide ((nx : Int) = x2))) (
 R (.bool false) q3) (
 ∃ px2 nx2 cx2,q3.cell? ⟨b,1,none⟩ = some (.slice px2 nx2 cx2) /\
 Calls P F.Z3e #[.slice px2 nx2 cx2,.func (.func F.Z3f) #[] #[.pointer (some ⟨b1,0,none⟩)]] q3 fun en q4 => ∃ x3,en = .returned (.bool x3) /\
 R (.bool (!x3)) q4))) (
 ∃ px3 nx3 cx3,q3.cell? ⟨b,1,none⟩ = some (.slice px3 nx3 cx3) /\
 Calls P F.Z3e #[.slice px3 nx3 cx3,.func (.func F.Z3f) #[] #[.pointer (some ⟨b1,0,none⟩)]] q3 fun en q5 => ∃ x4,en = .returned (.bool x4) /\
 R (.bool (!x4)) q5)) fun J3 =>
 ∃ x5,q1.cell? ⟨b,0,none⟩ = some (.int .i64 x5) /\
 br (decide (x5 < 1)) (
 R (.bool false) q1) (
 ∃ x6,q1.cell? ⟨b,0,none⟩ = some (.int .i64 x6) /\
 ∃ px4 nx4 cx4,q1.cell? ⟨b1,1,none⟩ = some (.slice px4 nx4 cx4) /\
 br (decide ((nx4 : Int) <= x6)) (
 R (.bool false) q1) (
 ∃ px5 nx5 cx5,q1.cell? ⟨b,1,none⟩ = some (.slice px5 nx5 cx5) /\
 br (decide (62 < (nx5 : Int))) (
 R (.bool false) q1) (
 J3 () q1)))
theorem oZ29 {o0 : Int} {po1 : Option Addr} {no1 co1 : Nat} {pu0 : Option Addr} {nu0 cu0 : Nat} {pu1 : Option Addr} {nu1 cu1 : Nat} {pu2 : Option Addr} {nu2 cu2 : Nat} {pu3 : Option Addr} {nu3 cu3 : Nat} {u4 : Int} (h : vZ29 o0 po1 no1 co1 pu0 nu0 cu0 pu1 nu1 cu1 pu2 nu2 cu2 pu3 nu3 cu3 u4 w fun v w' => R (.returned v) w') : Calls P F.Z29 #[.agg #[.int .i64 o0,.slice po1 no1 co1],.agg #[.slice pu0 nu0 cu0,.slice pu1 nu1 cu1,.slice pu2 nu2 cu2,.slice pu3 nu3 cu3,.int .i64 u4]] w R :=
 calls_of_eq (A := ⟨[],[(3,[])]⟩) mixed Tryz.func84 (by kernel_rfl) (by kernel_rfl) h
def vZ3f (v0 : Int) (v1 : Int) (cap0 : Nat) (w : World) (R : Value -> World -> Prop) : Prop :=
 newB w #[.int .i64 v0,.int .i64 v1] T.api_Val fun b q =>
 ∃ x0 x1,holds q b 0 [.int .i64 x0,.int .i64 x1] /\
 ∃ px0 nx0 cx0 px1 nx1 cx1 px2 nx2 cx2 px3 nx3 cx3 x4,holds q cap0 0 [.slice px0 nx0 cx0,.slice px1 nx1 cx1,.slice px2 nx2 cx2,.slice px3 nx3 cx3,.int .i64 x4] /\
 Calls P F.Z3g #[.agg #[.int .i64 x0,.int .i64 x1],.agg #[.slice px0 nx0 cx0,.slice px1 nx1 cx1,.slice px2 nx2 cx2,.slice px3 nx3 cx3,.int .i64 x4]] q fun en q1 => ∃ x,en = .returned (.bool x) /\
 R (.bool (!x)) q1
theorem oZ3f {v0 : Int} {v1 : Int} {cap0 : Nat} (h : vZ3f v0 v1 cap0 w fun v w' => R (.returned v) w') : Calls P F.Z3f #[.agg #[.int .i64 v0,.int .i64 v1],.pointer (some ⟨cap0,0,none⟩)] w R :=
 calls_of_eq (A := ⟨[],[]⟩) mixed Tryz.func126 (by kernel_rfl) (by kernel_rfl) h
def vZ3g (v0 : Int) (v1 : Int) (pu0 : Option Addr) (nu0 cu0 : Nat) (pu1 : Option Addr) (nu1 cu1 : Nat) (pu2 : Option Addr) (nu2 cu2 : Nat) (pu3 : Option Addr) (nu3 cu3 : Nat) (u4 : Int) (w : World) (R : Value -> World -> Prop) : Prop :=
 newB w #[.int .i64 v0,.int .i64 v1] T.api_Val fun b q =>
 newB q #[.slice pu0 nu0 cu0,.slice pu1 nu1 cu1,.slice pu2 nu2 cu2,.slice pu3 nu3 cu3,.int .i64 u4] T.api_Unit fun b1 q1 =>
 ∃ x,q1.cell? ⟨b,0,none⟩ = some (.int .i64 x) /\
 join (fun (t : Bool) (q2 : World) =>
 br t (
 ∃ x1,q2.cell? ⟨b,1,none⟩ = some (.int .i64 x1) /\
 R (.bool (decide (x1 = 0))) q2) (
 br (decide (x = 3)) (
 ∃ x2,q2.cell? ⟨b,1,none⟩ = some (.int .i64 x2) /\
 br (decide ((-1073741824) <= x2)) (
 ∃ x3,q2.cell? ⟨b,1,none⟩ = some (.int .i64 x3) /\
 R (.bool (decide (x3 <= 1073741823))) q2) (
 R (.bool false) q2)) (
 br (decide (x = 4)) (
 ∃ x4,q2.cell? ⟨b,1,none⟩ = some (.int .i64 x4) /\
 br (decide (0 <= x4)) (
 ∃ x5,q2.cell? ⟨b,1,none⟩ = some (.int .i64 x5) /\
 ∃ px nx cx,q2.cell? ⟨b1,3,none⟩ = some (.slice px nx cx) /\
 R (.bool (decide (x5 < (nx : Int)))) q2) (
 R (.bool false) q2)) (
 R (.bool false) q2)))) fun J5 =>
 br (decide (x = 0)) (
 J5 (decide (x = 0)) q1) (
 br (decide (x = 1)) (
 J5 (decide (x = 1)) q1) (
 J5 (decide (x = 2)) q1))
theorem oZ3g {v0 : Int} {v1 : Int} {pu0 : Option Addr} {nu0 cu0 : Nat} {pu1 : Option Addr} {nu1 cu1 : Nat} {pu2 : Option Addr} {nu2 cu2 : Nat} {pu3 : Option Addr} {nu3 cu3 : Nat} {u4 : Int} (h : vZ3g v0 v1 pu0 nu0 cu0 pu1 nu1 cu1 pu2 nu2 cu2 pu3 nu3 cu3 u4 w fun v w' => R (.returned v) w') : Calls P F.Z3g #[.agg #[.int .i64 v0,.int .i64 v1],.agg #[.slice pu0 nu0 cu0,.slice pu1 nu1 cu1,.slice pu2 nu2 cu2,.slice pu3 nu3 cu3,.int .i64 u4]] w R :=
 calls_of_eq (A := ⟨[],[(5,[(7,.bool)])]⟩) mixed Tryz.func127 (by kernel_rfl) (by kernel_rfl) h
end
section
def kyL (s : ByteArray) : List Int := ((s.data.toList.map fun (b : UInt8) => (b.toNat : Int)) ++ List.replicate 16 0).take 16
theorem kyL_len (s : ByteArray) : (kyL s).length = 16 := by simp [kyL]
abbrev kyC (s : ByteArray) : List Value := (kyL s).map (Value.int .u8)
abbrev eKey : Enc ByteArray := ⟨kyC,16,fun s => by simp [kyL_len],fun x u hu => by simp at hu; obtain ⟨_,_,rfl⟩ := hu; rfl,by omega⟩
theorem und_key : P.underlying T.name_Key = some (.array 16 T.uint8) := by kernel_rfl
theorem und_u8 : P.underlying T.uint8 = some (.int .u8) := by kernel_rfl
theorem und_map : P.underlying T.map_name_Key_int = some (.map T.name_Key T.int) := by kernel_rfl
theorem cells_u8 : P.cellsOf T.uint8 = 1 := by kernel_rfl
theorem part_u8 (l : List Int) (i : Nat) (hi : i < l.length) (w : World) : (part T.uint8 (l.map (Value.int .u8)).toArray i).run P w = .ok (.int .u8 (l.getD i 0)) w := by
 have : (l.map (Value.int .u8)).toArray[i]? = some (.int .u8 (l.getD i 0)) := by
  have := getD_some (d := (0 : Int)) hi
  simp [hi]
 simp [part,isAgg_run und_u8,aggr,this]
theorem eqItems_u8 (d : Nat) (l m : List Int) (w : World) : ∀ (is : List Nat),(∀ i ∈ is,i < l.length /\ i < m.length) ->
  (Op.eqItems (d + 1) T.uint8 1 (l.map (Value.int .u8)).toArray (m.map (Value.int .u8)).toArray is).run P w = .ok (is.all fun i => decide (l.getD i 0 = m.getD i 0)) w
 | [],_ => by simp [Op.eqItems]
 | i :: is,h => by
  have h1 := h i List.mem_cons_self
  have ih := eqItems_u8 d l m w is fun j hj => h j (List.mem_cons_of_mem _ hj)
  simp only [Op.eqItems,Nat.mul_one,Sem.run_bind,part_u8 l i h1.1,part_u8 m i h1.2,Result.andThen_ok]
  have he : (Op.equalIn (d + 1) T.uint8 (.int .u8 (l.getD i 0)) (.int .u8 (m.getD i 0))).run P w = .ok (decide (l.getD i 0 = m.getD i 0)) w := by
   unfold Op.equalIn
   simp [run_underlying und_u8,Op.intCmp,BEq.beq]
  simp only [he,Result.andThen_ok,List.all_cons]
  cases hb : decide (l.getD i 0 = m.getD i 0)
  ·simp
  ·simp [ih]
theorem key_eq (s t : ByteArray) (w : World) : (Op.equal T.name_Key (.agg (kyC s).toArray) (.agg (kyC t).toArray)).run P w = .ok (decide (kyL s = kyL t)) w := by
 obtain ⟨i,hi,_⟩ := info_parts info_u8
 have h := run_equalIn_array (P := P) w 9999 (kyC s).toArray (kyC t).toArray und_key hi
 have h2 := eqItems_u8 9998 (kyL s) (kyL t) w (List.range 16) (fun i hi => by simp at hi; simp [kyL_len,hi])
 rw [cells_u8,h2] at h
 have : ((List.range 16).all fun i => decide ((kyL s).getD i 0 = (kyL t).getD i 0)) = decide (kyL s = kyL t) := by
  rw [Bool.eq_iff_iff,List.all_eq_true,decide_eq_true_eq]
  constructor
  ·intro hh
   apply List.ext_getElem (by rw [kyL_len,kyL_len])
   intro j hj hj'
   have := hh j (by rw [kyL_len] at hj; simpa using hj)
   simpa [List.getD_eq_getElem?_getD,hj,hj'] using this
  ·intro hh i _
   rw [hh]; simp
 rw [this] at h
 exact h
theorem key_check (e : Bool) (s : ByteArray) (w : World) : (Instr.checkKey e 10000 T.name_Key (.agg (kyC s).toArray)).run P w = .ok () w := by
 have hs : (sizeOf T.uint8).run P w = .ok 1 w := cellsOf_sizeT (P := P) (by kernel_rfl) w
 have hsz : ∀ w,(sizeOf T.uint8).run P w = .ok 1 w := fun w => cellsOf_sizeT (P := P) (by kernel_rfl) w
 have hel : ∀ i,i < 16 -> ∀ w,(Instr.checkKey e 9999 T.uint8 (.int .u8 ((kyL s).getD i 0))).run P w = .ok () w := fun i _ w => by
  unfold Instr.checkKey
  simp [run_underlying und_u8]
 unfold Instr.checkKey
 simp only [Sem.run_bind,run_underlying und_key,Result.andThen_ok]
 simp only [Std.Legacy.Range.forIn_eq_forIn_range',Std.Legacy.Range.size,Nat.sub_zero,Nat.add_one_sub_one,Nat.div_one]
 have key : ∀ (is : List Nat),(∀ i ∈ is,i < 16) -> (forIn is PUnit.unit (fun i (r : PUnit) => do
   let __do_lift <- sizeOf T.uint8
   let __do_lift <- part T.uint8 (kyC s).toArray (i * __do_lift)
   Instr.checkKey e 9999 T.uint8 __do_lift
   pure (ForInStep.yield PUnit.unit)) : Sem PUnit).run P w = .ok PUnit.unit w := by
  intro is
  induction is with
  | nil => intro _; simp
  | cons i is ih =>
   intro h
   have h1 := h i List.mem_cons_self
   simp only [List.forIn_cons,Sem.run_bind,hsz,Result.andThen_ok,Nat.mul_one,part_u8 (kyL s) i (by rw [kyL_len]; exact h1),hel i h1,Sem.run_pure]
   exact ih fun j hj => h j (List.mem_cons_of_mem _ hj)
 have := key (List.range' 0 16) (fun i hi => by simp at hi; omega)
 rw [this]
 rfl
theorem gom {w : World} {r : Nat} {es : Array MapEntry} {clock : Nat} (hb : w.heap[r]? = some (.map es clock)) : (getObj r).run P w = .ok (.map es clock) w := by simp [getObj,Sem.run,hb]
def NEnt (L : List ByteArray) (es : List MapEntry) : Prop := es.map (·.key) = L.map (fun s => Value.agg (kyC s).toArray) /\ es.map (·.val) = (List.range L.length).map fun (i : Nat) => Value.int .i64 (i : Int)
theorem find_key (s : ByteArray) (w : World) : ∀ (es : List MapEntry) (L : List ByteArray) (i : Nat),es.map (·.key) = L.map (fun s => Value.agg (kyC s).toArray) ->
  (Instr.findAsking T.name_Key (.agg (kyC s).toArray) es i).run P w = .ok ((L.findIdx? fun t => decide (kyL s = kyL t)).bind fun j => (es[j]?).map fun e => (i + j,e.val)) w
 | [],L,i,h => by
  cases L with
  | nil => simp [Instr.findAsking]
  | cons _ _ => simp at h
 | e :: es,[],i,h => by simp at h
 | e :: es,t :: L,i,h => by
  simp only [List.map_cons,ZF] at h
  simp only [Instr.findAsking,h.1,Sem.run_bind,key_eq,Result.andThen_ok,List.findIdx?_cons]
  by_cases hk : kyL s = kyL t
  ·simp [hk]
  ·simp only [hk,decide_false,Bool.false_eq_true,if_false]
   rw [find_key s w es L (i + 1) h.2]
   cases L.findIdx? fun t => decide (kyL s = kyL t) with
   | none => rfl
   | some j =>
    simp only [Option.map_some,Option.bind_some,Z1]
    cases es[j]? <;> simp; omega
theorem find_run (s : ByteArray) (w : World) (es : List MapEntry) (L : List ByteArray) (h : es.map (·.key) = L.map (fun s => Value.agg (kyC s).toArray)) :
  (Instr.findKey T.name_Key (.agg (kyC s).toArray) es).run P w = .ok ((L.findIdx? fun t => decide (kyL s = kyL t)).bind fun j => (es[j]?).map fun e => (j,e.val)) w := by
 have hf := find_key s w es L 0 h
 simp only [Nat.zero_add] at hf
 unfold Instr.findKey
 simp only [Sem.run_bind,run_underlying und_key,Result.andThen_ok]
 cases es with
 | nil =>
  cases L with
  | nil => simp [Instr.findNow]
  | cons _ _ => simp at h
 | cons e es => simpa [Instr.findNow,Instr.sameNow] using hf
theorem zero_int : (P.info? T.int).map (fun i => (i.zero,i.size,i.bytes)) = some (some (.int .i64 0),1,8) := by kernel_rfl
theorem lookup_run {w : World} {r : Nat} {es : Array MapEntry} {clock : Nat} {L : List ByteArray} (hr : w.heap[r]? = some (.map es clock)) (hn : NEnt L es.toList) (s : ByteArray) (c : Bool) :
  (Instr.lookup T.map_name_Key_int (.map (some r)) (.agg (kyC s).toArray) c).run P w = .ok (let j := L.findIdx? fun t => decide (kyL s = kyL t)
   let v := Value.int .i64 (match j with | some j => (j : Int) | none => 0)
   if c then .tuple #[v,.bool j.isSome] else v) w := by
 obtain ⟨i,e1,e2,e3,e4⟩ := info_parts zero_int
 have hf := find_run s w es.toList L hn.1
 unfold Instr.lookup
 simp only [Sem.run_bind,run_underlying und_map,Result.andThen_ok,gom hr,key_check,hf,Sem.run_pure]
 cases hj : L.findIdx? fun t => decide (kyL s = kyL t) with
 | none =>
  simp [zeroValue,typeInfo,e1,e2]
 | some j =>
  have hlt : j < L.length := (List.findIdx?_eq_some_iff_findIdx_eq.1 hj).1
  have hv : (es.toList)[j]?.map (·.val) = some (.int .i64 (j : Int)) := by
   have := congrArg (·[j]?) hn.2
   simpa [hlt] using this
  have hlen : es.toList.length = L.length := by simpa using congrArg List.length hn.1
  have hx : es.toList[j]? = some (es.toList[j]'(by omega)) := List.getElem?_eq_getElem (by omega)
  generalize es.toList[j]'(by omega) = x at hx
  rw [hx] at hv
  simp only [Option.map_some,Z3] at hv
  have hx' : es[j]? = some x := by simpa using hx
  simp [hx',hv]
theorem update_run {w : World} {r : Nat} {es : Array MapEntry} {clock : Nat} {L : List ByteArray} (hr : w.heap[r]? = some (.map es clock)) (hn : NEnt L es.toList) (s : ByteArray) (v : Value) (hnew : ∀ t ∈ L,kyL s ≠ kyL t) :
  (Instr.mapUpdate T.map_name_Key_int (.map (some r)) (.agg (kyC s).toArray) v).run P w = .ok () { w with heap := w.heap.setIfInBounds r (.map (es.push ⟨.agg (kyC s).toArray,v,clock⟩) (clock + 1)) } := by
 have hf := find_run s w es.toList L hn.1
 have hnone : (L.findIdx? fun t => decide (kyL s = kyL t)) = none := by
  rw [List.findIdx?_eq_none_iff]
  intro t ht
  simpa using hnew t ht
 rw [hnone] at hf
 unfold Instr.mapUpdate
 simp only [Sem.run_bind,run_underlying und_map,Result.andThen_ok,gom hr,key_check,hf,Option.bind_none]
 simp [setObj,Sem.run,hr]
theorem holdsRow_all {w : World} {b m : Nat} {cs : List Value} (hB : Bk w.heap b cs) (hm : cs.length = m) : holdsRow w b 0 m cs.toArray :=
 holdsRow_i hB (by simpa using hm) fun j hj => by simp
def strB (s : ByteArray) : List Value := s.data.toList.map fun (b : UInt8) => Value.int .u8 (b.toNat : Int)
theorem copy_str {w : World} {T Ts ty el : TypeId} {g o n c : Nat} {s : ByteArray} {cur : List Value} {z : Value} {by_ : Nat} (hu : P.underlying T = some (.slice el)) (hi : (P.info? el).map (fun i => (i.zero,i.size,i.bytes)) = some (some z,1,by_))
  (hB : Bk w.heap g cur) (hn : s.size <= n) (hfit : o + s.size <= cur.length) {K : Int -> World -> Prop}
  (H : ∀ w',Bk w'.heap g (sets cur o (strB s)) -> Fr (· = g) w.heap w'.heap -> w'.heap.size = w.heap.size -> K (s.size : Int) w') :
  ∃ x : Int,∃ w1,(Builtin.copy_ #[T,Ts] ty #[.slice (some ⟨g,o,none⟩) n c,.string s]).run P w = .ok (.int .i64 x) w1 /\ Aft w w1 /\ K x w1 := by
 obtain ⟨t,hB⟩ := hB
 obtain ⟨i,e1,e2,e3,e4⟩ := info_parts hi
 have hsz : (P.info? el).map (·.size) = some 1 := by rw [e1,Option.map_some,e3]
 have hrun := Lib.run_copy_row_string (P := P) w T Ts ty el g o n c s cur.toArray t hu hsz hB hn (by simpa using hfit)
 have hl : (strB s).length = s.size := by rw [strB,List.length_map,<- size_len]
 refine ⟨_,_,hrun,⟨rfl,rfl⟩,H _ ⟨t,?_⟩ ⟨by simp,fun b _ hb => setRow_other w g b _ hb⟩ (by simp)⟩
 rw [setRow_heap w g _ _ t _ hB,sets_eq _ _ _ (by rw [hl]; exact hfit),hl]
 rfl
theorem kyC_eq (s : ByteArray) (hs : s.size <= 16) : sets (List.replicate 16 (Value.int .u8 0)) 0 (strB s) = kyC s := by
 have hl : (strB s).length = s.size := by rw [strB,List.length_map,<- size_len]
 have hl2 := size_len s
 rw [sets_eq _ _ _ (by rw [hl]; simpa using hs),hl]
 simp only [List.take_zero,List.nil_append,Nat.zero_add,List.drop_replicate,kyC,kyL,List.map_take,List.map_append,List.map_map,List.map_replicate]
 rw [List.take_append,List.length_map,List.take_of_length_le (by rw [List.length_map]; omega),List.take_replicate,Nat.min_eq_left (by omega),<- hl2]
 rfl
theorem name_Of_ok (s : ByteArray) (w : World) (hs : s.size <= 16) (hr : nRight s = true) : Calls P F.Z41 #[.string s] w (Mk (.tuple #[.agg (kyC s).toArray,.bool true]) w) := by
 refine oZ41 ?_
 refine newB_i ?_; intro b w1 b_eq hB hN w1_sz; try simp only [drew_heap',dr_heap] at b_eq hN
 refine newB_i ?_; intro b1 w2 b1_eq hB1 hN1 w2_sz; try simp only [drew_heap',dr_heap] at b1_eq hN1
 replace hB := hB.nw hN1
 have hN2 := hN.tr hN1
 refine (name_Right_ok s w2 (by omega)).mono ?_; rintro _ w3 ⟨rfl,hN3⟩
 replace hB := hB.nw hN3; replace hB1 := hB1.nw hN3
 refine ⟨_,rfl,?_⟩
 rw [hr]
 simp only [Bool.not_true,br_false]
 have hB : Bk w3.heap b (List.replicate 16 (Value.int .u8 0)) := hB
 have hB1 : Bk w3.heap b1 (List.replicate 16 (Value.int .u8 0)) := hB1
 have hlen : (kyC s).length = 16 := by simp [kyL_len]
 refine copy_str ty_u8.und info_u8 hB1 hs (by simpa using hs) ?_
 intro w4 hB4 hF4 hz4
 rw [kyC_eq s hs] at hB4
 have hN4 := (hN2.tr hN3).st hF4 (by have := hN.le; omega)
 have hBk := hB.fr hF4 (by omega)
 refine ⟨_,holdsRow_all hB4 hlen,?_⟩
 refine chk_of (by rw [List.size_toArray,hlen]; rfl) (chk_of ?_ ?_)
 ·rw [List.all_eq_true]; intro v hv
  simp at hv; obtain ⟨_,_,rfl⟩ := hv; rfl
 refine stores_i hBk (by simp [kyL_len]) ?_; intro w5 hB5 hF5 hz5
 have e5 : sets (List.replicate 16 (Value.int .u8 0)) 0 (kyC s) = kyC s := by
  rw [sets_eq _ _ _ (by simp [kyL_len])]; simp [kyL_len]
 rw [e5] at hB5
 refine ⟨_,holdsRow_all hB5 hlen,?_⟩
 exact ⟨rfl,hN4.st hF5 (by omega)⟩
structure IsTable (h : Hp) (N t r : Nat) (L : List ByteArray) : Prop where
 blk : ∃ p n c,Bk h t [.slice p n c,.map (some r)] /\ Sl h (fun b => N <= b /\ b ≠ t /\ b ≠ r) eKey p n c L
 map : ∃ es clock,h[r]? = some (.map es clock) /\ NEnt L es.toList
 ht : N <= t
 hr : N <= r
theorem und_keys : P.underlying T.sl_name_Key = some (.slice T.name_Key) := by kernel_rfl
theorem ty_key : SlTy P T.sl_name_Key T.name_Key eKey := .mk' (z := .agg #[.int .u8 0,.int .u8 0,.int .u8 0,.int .u8 0,.int .u8 0,.int .u8 0,.int .u8 0,.int .u8 0,.int .u8 0,.int .u8 0,.int .u8 0,.int .u8 0,.int .u8 0,.int .u8 0,.int .u8 0,.int .u8 0]) (s := 16) (b := 16) und_keys (by kernel_rfl) rfl (by omega) rfl
theorem map_ne {h : Hp} {r b : Nat} {es : Array MapEntry} {c : Nat} {cs : List Value} (hr : h[r]? = some (.map es c)) (hb : Bk h b cs) : b ≠ r := by
 rintro rfl
 obtain ⟨ty,hb⟩ := hb
 rw [hb] at hr; cases hr
theorem map_lt {h : Hp} {r : Nat} {es : Array MapEntry} {c : Nat} (hr : h[r]? = some (.map es c)) : r < h.size := (Array.getElem?_eq_some_iff.1 hr).1
theorem map_fr {h h' : Hp} {S : Nat -> Prop} {r : Nat} {es : Array MapEntry} {c : Nat} (hr : h[r]? = some (.map es c)) (hf : Fr S h h') (hn : ¬ S r) : h'[r]? = some (.map es c) := (hf.eq r (map_lt hr) hn).trans hr
theorem NEnt.push {L : List ByteArray} {es : Array MapEntry} (h : NEnt L es.toList) (s : ByteArray) (c : Nat) : NEnt (L ++ [s]) (es.push ⟨.agg (kyC s).toArray,.int .i64 (L.length : Int),c⟩).toList := by
 refine ⟨by simp [h.1],?_⟩
 simp only [Array.toList_push,List.map_append,List.length_append,List.range_succ,h.2]
 simp [List.range_succ]
theorem chk_one (s : ByteArray) : (kyC s).toArray.toList.all Value.oneCell' = true := by
 rw [List.all_eq_true]; intro v hv
 simp at hv; obtain ⟨_,_,rfl⟩ := hv; rfl
theorem name_Intern_ok {w : World} {N t r : Nat} {L : List ByteArray} {s : ByteArray} (ht : IsTable w.heap N t r L) (hN : N <= w.heap.size) (hL : L.length < 48) (hs : s.size <= 16) (hr : nRight s = true) (hnew : ∀ x ∈ L,kyL s ≠ kyL x) :
  Calls P F.Z36 #[.pointer (some ⟨t,0,none⟩),.string s] w fun en w' => en = .returned (.int .i64 (L.length : Int)) /\ IsTable w'.heap N t r (L ++ [s]) /\ Fr (fun b => N <= b) w.heap w'.heap := by
 refine oZ36 ?_
 obtain ⟨p,n,c,hBt,hsl⟩ := ht.blk
 obtain ⟨es,clock,hm,hent⟩ := ht.map
 have hnl := hsl.len
 have hslb : Sl w.heap (fun b => (N <= b /\ b ≠ t /\ b ≠ r) /\ b < w.heap.size) eKey p n c L := hsl.mono fun _ hx h => ⟨h,hx⟩
 have hlen : (kyC s).length = 16 := by simp [kyL_len]
 refine (name_Of_ok s w hs hr).mono ?_; rintro _ w1 ⟨rfl,hN1⟩
 refine ⟨_,_,rfl,?_⟩
 refine newB_i ?_; intro b w2 b_eq hB hN2 w2_sz; try simp only [drew_heap',dr_heap] at b_eq hN2
 have hB : Bk w2.heap b (List.replicate 16 (Value.int .u8 0)) := hB
 have hN12 := hN1.tr hN2
 refine chk_of (by rw [List.size_toArray,hlen]; rfl) (chk_of (chk_one s) ?_)
 refine stores_i hB (by simp [kyL_len]) ?_; intro w3 hB3 hF3 hz3
 have e5 : sets (List.replicate 16 (Value.int .u8 0)) 0 (kyC s) = kyC s := by
  rw [sets_eq _ _ _ (by simp [kyL_len])]; simp [kyL_len]
 have hB3 : Bk w3.heap b (kyC s) := by rw [<- e5]; exact hB3
 have hbN : w.heap.size <= b := by have := hN1.le; omega
 have hN3 : Nw w.heap w3.heap := hN12.st hF3 hbN
 simp only [wv_eq]
 have hBt3 := hBt.nw hN3
 have hm3 := map_fr hm hN3 (fun h => h)
 have hnone : (L.findIdx? fun t => decide (kyL s = kyL t)) = none := by
  rw [List.findIdx?_eq_none_iff]
  intro x hx
  simpa using hnew x hx
 refine ⟨some r,by rw [World.cell?_drew,hBt3.cell]; rfl,_,holdsRow_all (w := w3.drew) hB3 hlen,0,false,w3.drew,?_,Aft.refl _,trivial,?_⟩
 ·have := lookup_run (w := w3.drew) hm3 hent s true
  rw [hnone] at this
  exact this
 simp only [Bool.not_true,br_false]
 refine ⟨p,n,c,by rw [World.cell?_drew,hBt3.cell]; rfl,?_⟩
 rw [show decide (48 <= (n : Int)) = false by simp; omega]
 simp only [br_false]
 refine ⟨some r,by rw [World.cell?_drew,World.cell?_drew,hBt3.cell]; rfl,_,holdsRow_all (w := w3.drew.drew) hB3 hlen,p,n,c,by rw [World.cell?_drew,World.cell?_drew,hBt3.cell]; rfl,?_⟩
 have hup := update_run (w := w3.drew.drew) hm3 hent s (.int .i64 (n : Int)) hnew
 refine ⟨_,hup,⟨rfl,rfl⟩,trivial,?_⟩
 obtain ⟨w6,hw6⟩ : ∃ w6 : World,w6 = { w3.drew.drew with heap := w3.drew.drew.heap.setIfInBounds r (.map (es.push ⟨.agg (kyC s).toArray,.int .i64 (n : Int),clock⟩) (clock + 1)) } := ⟨_,rfl⟩
 rw [<- hw6]
 have hF6 : Fr (· = r) w3.heap w6.heap := by
  rw [hw6]
  exact ⟨by simp,fun x _ hx => by simp [Array.getElem?_setIfInBounds,Ne.symm hx]⟩
 have hz6 : w6.heap.size = w3.heap.size := by rw [hw6]; simp
 have hm6 : w6.heap[r]? = some (.map (es.push ⟨.agg (kyC s).toArray,.int .i64 (n : Int),clock⟩) (clock + 1)) := by
  rw [hw6]; simp [map_lt hm3]
 have hBt6 := hBt3.fr hF6 (map_ne hm3 hBt3)
 have hB6 := hB3.fr hF6 (map_ne hm3 hB3)
 have hsl6 : Sl w6.heap (fun b => (N <= b /\ b ≠ t /\ b ≠ r) /\ b < w.heap.size) eKey p n c L := by
  refine ⟨hslb.len,hslb.cap,hslb.nul,fun hc => ?_,hslb.small⟩
  obtain ⟨b0,pre,post,e,hok,hl,hb0⟩ := hslb.blk hc
  have hb03 := hb0.nw hN3
  exact ⟨b0,pre,post,e,hok,hl,hb03.fr hF6 (map_ne hm3 hb03)⟩
 refine ⟨p,n,c,by rw [World.cell?_drew,hBt6.cell]; rfl,_,holdsRow_all (w := w6.drew) hB6 hlen,?_⟩
 refine chk_of (by rw [List.size_toArray,hlen]; rfl) ?_
 refine newB_i ?_; intro b1 w8 b1_eq hB8 hN8 hz8
 simp only [drew_heap'] at b1_eq hN8
 have hBt8 := hBt6.nw hN8
 refine ⟨⟨by rw [hBt8.cell]; rfl,trivial⟩,?_⟩
 have hB8' : Bk w8.heap b1 (recs eKey [s]) := by
  have h : recs eKey [s] = kyC s := by simp [recs]
  rw [h]; exact hB8
 have hs1 : Sl w8.heap (fun b => b = b1) eKey (some ⟨b1,0,none⟩) 1 1 [s] := (Sl.of_blk (l := [s]) (E := eKey) hB8' rfl rfl (by simp)).mono fun _ _ h => h.symm
 refine append_r ty_key (hsl6.nw hN8) hs1 (by omega) ?_
 intro p' c' w9 h9 hF9
 have hlt8 := hBt8.lt
 have hBt9 := hBt8.fr hF9 (fun h => h.1.2.1 rfl)
 refine ⟨trivial,?_⟩
 refine stores_i hBt9 (by simp) ?_; intro w10 hB10 hF10 hz10
 have hm8 := map_fr hm6 hN8 (fun h => h)
 have hrt : r ≠ t := fun h => map_ne hm hBt h.symm
 have hm9 := map_fr hm8 hF9 (fun h => h.1.2.2 rfl)
 have hm10 := map_fr hm9 hF10 (fun h => hrt h)
 have hB10' : Bk w10.heap t [.slice p' (n + 1) c',.map (some r)] := hB10
 have hlr8 := map_lt hm8
 have hw8 : w.heap.size <= w8.heap.size := Nat.le_trans hN3.le (Nat.le_trans hF6.le hN8.le)
 have hsl10 : Sl w10.heap (fun b => N <= b /\ b ≠ t /\ b ≠ r) eKey p' (n + 1) c' (L ++ [s]) := h9.fr hF10 (fun x hx hok => by
   rcases hok with h | h
   ·exact h.1.2.1
   ·omega) fun x hx hok => by
   rcases hok with h | h
   ·exact h.1
   ·exact ⟨by omega,by omega,by omega⟩
 have hBb10 : Bk w10.heap b (kyC s) := ((hB6.nw hN8).fr hF9 (fun h => by have := h.2; omega)).fr hF10 (by have := hBt.lt; omega)
 have hent' : NEnt (L ++ [s]) (es.push ⟨.agg (kyC s).toArray,.int .i64 (n : Int),clock⟩).toList := by rw [<- hnl]; exact hent.push s clock
 refine ⟨trivial,?_⟩
 refine ⟨some r,by rw [World.cell?_drew,hB10'.cell]; rfl,_,holdsRow_all (w := w10.drew) hBb10 hlen,(n : Int),w10.drew,?_,Aft.refl _,trivial,?_⟩
 ·have := lookup_run (w := w10.drew) hm10 hent' s false
  have hfi : ((L ++ [s]).findIdx? fun t => decide (kyL s = kyL t)) = some n := by
   rw [List.findIdx?_append,hnone]
   simp [hnl]
  rw [hfi] at this
  exact this
 ·refine ⟨by rw [hnl],⟨⟨p',n + 1,c',hB10',hsl10⟩,⟨_,_,hm10,hent'⟩,ht.ht,ht.hr⟩,?_⟩
  have f1 : Fr (fun b => N <= b) w.heap w8.heap := (hN3.fr.trans (S' := (· = r)) hF6 (fun _ _ h => h) (fun x _ hx => by rw [hx]; exact ht.hr)).trans (S' := fun b => N <= b) hN8.fr (fun _ _ h => h) (fun _ _ h => h)
  have f2 : Fr (fun b => N <= b) w.heap w9.heap := f1.trans hF9 (fun _ _ h => h) (fun x _ hx => hx.1.1)
  exact f2.trans hF10 (fun _ _ h => h) (fun x _ hx => by rw [hx]; exact ht.ht)
def NamesOk (l : List ByteArray) : Prop := (∀ s ∈ l,nRight s = true /\ s.size <= 16) /\ l.length <= 48 /\ ∀ (i j : Nat) (x y : ByteArray),i < j -> l[i]? = some x -> l[j]? = some y -> kyL y ≠ kyL x
theorem name_New_ok (w : World) : Calls P F.Z35 #[] w fun en w' => ∃ t r,en = .returned (.pointer (some ⟨t,0,none⟩)) /\ IsTable w'.heap w.heap.size t r [] /\ Nw w.heap w'.heap := by
 refine oZ35 ?_
 refine ⟨some w.heap.size,w.alloc (.map #[] 0),rfl,⟨rfl,rfl⟩,?_⟩
 have hN0 : Nw w.heap (w.alloc (.map #[] 0)).heap := ⟨by simp [alloc_heap],fun b hb _ => by rw [alloc_heap,Array.getElem?_push_lt hb,Array.getElem?_eq_getElem hb]⟩
 have hm : (w.alloc (.map #[] 0)).heap[w.heap.size]? = some (.map #[] 0) := by simp [alloc_heap]
 have hz : (w.alloc (.map #[] 0)).heap.size = w.heap.size + 1 := by simp [alloc_heap]
 refine newB_i ?_; intro b w1 b_eq hB hN w1_sz; try simp only [drew_heap',dr_heap] at b_eq hN
 exact ⟨b,w.heap.size,rfl,⟨⟨none,0,0,hB,Sl.nil⟩,⟨_,_,map_fr hm hN (fun h => h),⟨rfl,rfl⟩⟩,by omega,Nat.le_refl _⟩,hN0.tr hN⟩
theorem unit_names_ok {w : World} {ok : Nat -> Prop} {p : Option Addr} {n c : Nat} {l : List ByteArray} (hs : Sl w.heap ok eStr p n c l) (hok : NamesOk l) : Calls P F.Z24 #[.slice p n c] w (Mk (.int .i64 0) w) := by
 refine oZ24 ?_
 have hsm := hs.small; have hl := hs.len
 refine (name_New_ok w).mono ?_; rintro _ w1 ⟨t,r,rfl,ht,hN1⟩
 refine ⟨_,rfl,?_⟩
 refine ⟨fun i w' => ∃ k : Nat,i = (k : Int) /\ k <= n /\ IsTable w'.heap w.heap.size t r (l.take k) /\ Nw w.heap w'.heap,fun i _ => n - i.toNat,⟨0,rfl,Nat.zero_le _,ht,hN1⟩,?_⟩
 rintro i w2 ⟨k,rfl,hk,ht2,hN2⟩
 refine br_of (fun h1 => ?_) (fun h1 => ?_) <;> simp only [ZJ,ZK,ZL,ZM,ZN,ZO,ZP,ZQ,ZR] at h1
 ·refine chk_of (by simp; omega) ?_
  have hx : l[k]? = some (l[k]'(by omega)) := List.getElem?_eq_getElem (by omega)
  generalize l[k]'(by omega) = x at hx
  refine (hs.nw hN2).idx1 hx ?_; intro g o _ hc
  refine ⟨_,hc,?_⟩
  obtain ⟨h2,h3⟩ := hok.1 x (List.mem_of_getElem? hx)
  have hnew : ∀ y ∈ l.take k,kyL x ≠ kyL y := fun y hy => by
   obtain ⟨j,hj,hy⟩ := List.getElem_of_mem hy
   rw [List.length_take] at hj
   exact hok.2.2 j k y x (by omega) (by rw [<- hy,List.getElem_take]; exact List.getElem?_eq_getElem (by omega)) hx
  refine (name_Intern_ok ht2 hN2.le (by rw [List.length_take]; have := hok.2.1; omega) h3 h2 hnew).mono ?_; rintro _ w3 ⟨rfl,ht3,hF3⟩
  refine ⟨_,rfl,?_⟩
  rw [List.length_take,Nat.min_eq_left (by omega)]
  simp only [decide_true,Bool.not_true,br_false]
  rw [wrap_id (by omega) (by omega)]
  refine ⟨⟨k + 1,rfl,by omega,?_,hN2.tr' hF3 fun x hx => hx⟩,by (first | omega | (dsimp only; omega))⟩
  obtain ⟨hk',rfl⟩ := List.getElem?_eq_some_iff.1 hx
  rw [List.take_succ_eq_append_getElem hk']
  exact ht3
 ·exact ⟨rfl,hN2⟩
end
section
variable {w : World} {R : Ending -> World -> Prop}
def vZ25 (pl : Option Addr) (nl cl : Nat) (names : Int) (methods : Int) (w : World) (R : Value -> World -> Prop) : Prop :=
 join (fun (t : Unit) (u : World) =>
 wv u.drew fun u1 =>
 chk (decide (0 <= 0) && decide (0 < (nl : Int))) (
 onPtr pl fun g o =>
 ∃ x0 x1 x2 px3 nx3 cx3,holds u1 g o [.string x0,.int .i64 x1,.int .i64 x2,.slice px3 nx3 cx3] /\
 chk (decide (0 <= 1) && decide (1 < (nl : Int))) (
 onPtr pl fun g1 o1 =>
 ∃ x01 x11 x21 px31 nx31 cx31,holds u1 g1 (o1 + 4) [.string x01,.int .i64 x11,.int .i64 x21,.slice px31 nx31 cx31] /\
 (newB u1 #[.string (⟨#[]⟩ : ByteArray),.int .i64 0,.int .i64 0,.slice none 0 0] T.api_Class fun b u2 =>
 ((holds u2 g1 (o1 + 4) [.string x01,.int .i64 x11,.int .i64 x21,.slice px31 nx31 cx31]) /\ (holds u2 g o [.string x0,.int .i64 x1,.int .i64 x2,.slice px3 nx3 cx3]) /\ True) /\
 newB u2 #[.string (⟨#[]⟩ : ByteArray),.int .i64 0,.int .i64 0,.slice none 0 0] T.api_Class fun b1 u3 =>
 ((holds u3 g1 (o1 + 4) [.string x01,.int .i64 x11,.int .i64 x21,.slice px31 nx31 cx31]) /\ (holds u3 g o [.string x0,.int .i64 x1,.int .i64 x2,.slice px3 nx3 cx3]) /\ True) /\
 stores u3 b 0 [.string x0,.int .i64 x1,.int .i64 x2,.slice px3 nx3 cx3] fun u4 =>
 ((holds u4 g1 (o1 + 4) [.string x01,.int .i64 x11,.int .i64 x21,.slice px31 nx31 cx31]) /\ True) /\
 stores u4 b1 0 [.string x01,.int .i64 x11,.int .i64 x21,.slice px31 nx31 cx31] fun u5 =>
 True /\
 join (fun (t1 : Unit) (u6 : World) =>
 ∃ (I : Int -> World -> Prop) (μ : Int -> World -> Nat),I 0 u6 /\
 ∀ (t2 : Int) (u7 : World),I t2 u7 ->
 br (decide (t2 < (nl : Int))) (
 chk (decide (0 <= t2) && decide (t2 < (nl : Int))) (
 onPtr pl fun g2 o2 =>
 ∃ x02 x12 x22 px32 nx32 cx32,holds u7 g2 (o2 + t2.toNat * 4) [.string x02,.int .i64 x12,.int .i64 x22,.slice px32 nx32 cx32] /\
 newB u7 #[.string (⟨#[]⟩ : ByteArray),.int .i64 0,.int .i64 0,.slice none 0 0] T.api_Class fun b2 u8 =>
 stores u8 b2 0 [.string x02,.int .i64 x12,.int .i64 x22,.slice px32 nx32 cx32] fun u9 =>
 ∃ x,u9.cell? ⟨b2,0,none⟩ = some (.string x) /\
 br (decide ((x.size : Int) < 1)) (
 R (.int .i64 13) u9) (
 ∃ x3,u9.cell? ⟨b2,0,none⟩ = some (.string x3) /\
 br (decide (16 < (x3.size : Int))) (
 R (.int .i64 13) u9) (
 chk (decide (0 <= 0) && decide (0 <= t2) && decide (t2 <= (cl : Int)) && decide ((cl : Int) <= (cl : Int))) (
 Calls P F.Z37 #[.slice (cutAt pl (Int.toNat (cl : Int)) (Int.toNat 0) 4) (Int.toNat t2 - Int.toNat 0) (Int.toNat (cl : Int) - Int.toNat 0),.func (.func F.Z38) #[] #[.pointer (some ⟨b2,0,none⟩)]] u9 fun en u10 => ∃ x4,en = .returned (.bool x4) /\
 br x4 (
 R (.int .i64 13) u10) (
 Calls P F.Z39 #[.slice pl nl cl,.int .i64 t2] u10 fun en u11 => ∃ x5,en = .returned (.bool x5) /\
 br (!x5) (
 R (.int .i64 14) u11) (
 ∃ px nx cx,u11.cell? ⟨b2,3,none⟩ = some (.slice px nx cx) /\
 Calls P F.Z3a #[.slice px nx cx,.int .i64 names,.int .i64 methods] u11 fun en u12 => ∃ x6,en = .returned (.bool x6) /\
 br (!x6) (
 R (.int .i64 15) u12) (
 I (IntKind.wrap .i64 (t2 + 1)) u12 /\ μ (IntKind.wrap .i64 (t2 + 1)) u12 < μ t2 u7)))))))) (
 R (.int .i64 0) u7)) fun J6 =>
 ∃ x7,u5.cell? ⟨b,1,none⟩ = some (.int .i64 x7) /\
 br (!(decide (x7 = (-1)))) (
 R (.int .i64 14) u5) (
 ∃ x8,u5.cell? ⟨b1,1,none⟩ = some (.int .i64 x8) /\
 br (!(decide (x8 = (-1)))) (
 R (.int .i64 14) u5) (
 ∃ x9,u5.cell? ⟨b,2,none⟩ = some (.int .i64 x9) /\
 br (!(decide (x9 = 4))) (
 R (.int .i64 14) u5) (
 ∃ x10,u5.cell? ⟨b1,2,none⟩ = some (.int .i64 x10) /\
 br (!(decide (x10 = 0))) (
 R (.int .i64 14) u5) (
 J6 () u5))))) /\ (newB u1 #[.string (⟨#[]⟩ : ByteArray),.int .i64 0,.int .i64 0,.slice none 0 0] T.api_Class fun b3 u13 =>
 ((holds u13 g1 (o1 + 4) [.string x01,.int .i64 x11,.int .i64 x21,.slice px31 nx31 cx31]) /\ (holds u13 g o [.string x0,.int .i64 x1,.int .i64 x2,.slice px3 nx3 cx3]) /\ True) /\
 newB u13 #[.string (⟨#[]⟩ : ByteArray),.int .i64 0,.int .i64 0,.slice none 0 0] T.api_Class fun b4 u14 =>
 ((holds u14 g1 (o1 + 4) [.string x01,.int .i64 x11,.int .i64 x21,.slice px31 nx31 cx31]) /\ (holds u14 g o [.string x0,.int .i64 x1,.int .i64 x2,.slice px3 nx3 cx3]) /\ True) /\
 stores u14 b4 0 [.string x0,.int .i64 x1,.int .i64 x2,.slice px3 nx3 cx3] fun u15 =>
 ((holds u15 g1 (o1 + 4) [.string x01,.int .i64 x11,.int .i64 x21,.slice px31 nx31 cx31]) /\ True) /\
 stores u15 b3 0 [.string x01,.int .i64 x11,.int .i64 x21,.slice px31 nx31 cx31] fun u16 =>
 True /\
 join (fun (t3 : Unit) (u17 : World) =>
 ∃ (I1 : Int -> World -> Prop) (μ1 : Int -> World -> Nat),I1 0 u17 /\
 ∀ (t4 : Int) (u18 : World),I1 t4 u18 ->
 br (decide (t4 < (nl : Int))) (
 chk (decide (0 <= t4) && decide (t4 < (nl : Int))) (
 onPtr pl fun g3 o3 =>
 ∃ x03 x13 x23 px33 nx33 cx33,holds u18 g3 (o3 + t4.toNat * 4) [.string x03,.int .i64 x13,.int .i64 x23,.slice px33 nx33 cx33] /\
 newB u18 #[.string (⟨#[]⟩ : ByteArray),.int .i64 0,.int .i64 0,.slice none 0 0] T.api_Class fun b5 u19 =>
 stores u19 b5 0 [.string x03,.int .i64 x13,.int .i64 x23,.slice px33 nx33 cx33] fun u20 =>
 ∃ x14,u20.cell? ⟨b5,0,none⟩ = some (.string x14) /\
 br (decide ((x14.size : Int) < 1)) (
 R (.int .i64 13) u20) (
 ∃ x15,u20.cell? ⟨b5,0,none⟩ = some (.string x15) /\
 br (decide (16 < (x15.size : Int))) (
 R (.int .i64 13) u20) (
 chk (decide (0 <= 0) && decide (0 <= t4) && decide (t4 <= (cl : Int)) && decide ((cl : Int) <= (cl : Int))) (
 Calls P F.Z37 #[.slice (cutAt pl (Int.toNat (cl : Int)) (Int.toNat 0) 4) (Int.toNat t4 - Int.toNat 0) (Int.toNat (cl : Int) - Int.toNat 0),.func (.func F.Z38) #[] #[.pointer (some ⟨b5,0,none⟩)]] u20 fun en u21 => ∃ x16,en = .returned (.bool x16) /\
 br x16 (
 R (.int .i64 13) u21) (
 Calls P F.Z39 #[.slice pl nl cl,.int .i64 t4] u21 fun en u22 => ∃ x17,en = .returned (.bool x17) /\
 br (!x17) (
 R (.int .i64 14) u22) (
 ∃ px1 nx1 cx1,u22.cell? ⟨b5,3,none⟩ = some (.slice px1 nx1 cx1) /\
 Calls P F.Z3a #[.slice px1 nx1 cx1,.int .i64 names,.int .i64 methods] u22 fun en u23 => ∃ x18,en = .returned (.bool x18) /\
 br (!x18) (
 R (.int .i64 15) u23) (
 I1 (IntKind.wrap .i64 (t4 + 1)) u23 /\ μ1 (IntKind.wrap .i64 (t4 + 1)) u23 < μ1 t4 u18)))))))) (
 R (.int .i64 0) u18)) fun J6 =>
 ∃ x19,u16.cell? ⟨b4,1,none⟩ = some (.int .i64 x19) /\
 br (!(decide (x19 = (-1)))) (
 R (.int .i64 14) u16) (
 ∃ x20,u16.cell? ⟨b3,1,none⟩ = some (.int .i64 x20) /\
 br (!(decide (x20 = (-1)))) (
 R (.int .i64 14) u16) (
 ∃ x24,u16.cell? ⟨b4,2,none⟩ = some (.int .i64 x24) /\
 br (!(decide (x24 = 4))) (
 R (.int .i64 14) u16) (
 ∃ x25,u16.cell? ⟨b3,2,none⟩ = some (.int .i64 x25) /\
 br (!(decide (x25 = 0))) (
 R (.int .i64 14) u16) (
 J6 () u16)))))))) fun J3 =>
 br (decide ((nl : Int) < 2)) (
 R (.int .i64 3) w) (
 br (decide (12 < (nl : Int))) (
 R (.int .i64 3) w) (
 J3 () w))
theorem oZ25 {pl : Option Addr} {nl cl : Nat} {names : Int} {methods : Int} (h : vZ25 pl nl cl names methods w fun v w' => R (.returned v) w') : Calls P F.Z25 #[.slice pl nl cl,.int .i64 names,.int .i64 methods] w R :=
 calls_of_eq (A := ⟨[(7,[(45,(.int .i64))])],[(3,[]),(6,[])]⟩) mixed Tryz.func80 (by kernel_rfl) (by kernel_rfl) h
def vZ38 (x0 : ByteArray) (x1 : Int) (x2 : Int) (px3 : Option Addr) (nx3 cx3 : Nat) (cap0 : Nat) (w : World) (R : Value -> World -> Prop) : Prop :=
 newB w #[.string x0,.int .i64 x1,.int .i64 x2,.slice px3 nx3 cx3] T.api_Class fun b u =>
 ∃ x3,u.cell? ⟨b,0,none⟩ = some (.string x3) /\
 ∃ x4,u.cell? ⟨cap0,0,none⟩ = some (.string x4) /\
 R (.bool (x3.toList == x4.toList)) u
theorem oZ38 {x0 : ByteArray} {x1 : Int} {x2 : Int} {px3 : Option Addr} {nx3 cx3 : Nat} {cap0 : Nat} (h : vZ38 x0 x1 x2 px3 nx3 cx3 cap0 w fun v w' => R (.returned v) w') : Calls P F.Z38 #[.agg #[.string x0,.int .i64 x1,.int .i64 x2,.slice px3 nx3 cx3],.pointer (some ⟨cap0,0,none⟩)] w R :=
 calls_of_eq (A := ⟨[],[]⟩) mixed Tryz.func119 (by kernel_rfl) (by kernel_rfl) h
def vZ39 (pl : Option Addr) (nl cl : Nat) (i : Int) (w : World) (R : Value -> World -> Prop) : Prop :=
 chk (decide (0 <= i) && decide (i < (nl : Int))) (
 onPtr pl fun g o =>
 ∃ x0 x1 x2 px3 nx3 cx3,holds w g (o + i.toNat * 4) [.string x0,.int .i64 x1,.int .i64 x2,.slice px3 nx3 cx3] /\
 newB w #[.string (⟨#[]⟩ : ByteArray),.int .i64 0,.int .i64 0,.slice none 0 0] T.api_Class fun b u =>
 stores u b 0 [.string x0,.int .i64 x1,.int .i64 x2,.slice px3 nx3 cx3] fun u1 =>
 join (fun (t : Unit) (u2 : World) =>
 wv u2.drew fun u3 =>
 ∃ x,u3.cell? ⟨b,1,none⟩ = some (.int .i64 x) /\
 br (decide (x = (-1))) (
 R (.bool true) u3) (
 ∃ x3,u3.cell? ⟨b,1,none⟩ = some (.int .i64 x3) /\
 Calls P F.Z43 #[.slice pl nl cl,.int .i64 x3] u3 fun en u4 => ∃ x4,en = .returned (.int .i64 x4) /\
 ((u4.cell? ⟨b,1,none⟩ = some (.int .i64 x)) /\ True) /\
 br (decide (x4 < 8)) (
 ∃ x5,u4.cell? ⟨b,2,none⟩ = some (.int .i64 x5) /\
 ∃ x6,u4.cell? ⟨b,1,none⟩ = some (.int .i64 x6) /\
 chk (decide (0 <= x6) && decide (x6 < (nl : Int))) (
 onPtr pl fun g1 o1 =>
 ∃ x7,u4.cell? ⟨g1,o1 + x6.toNat * 4 + 2,none⟩ = some (.int .i64 x7) /\
 R (.bool (decide (x7 <= x5))) u4)) (
 R (.bool false) u4))) fun J4 =>
 ∃ x8,u1.cell? ⟨b,2,none⟩ = some (.int .i64 x8) /\
 br (decide (x8 < 0)) (
 R (.bool false) u1) (
 ∃ x9,u1.cell? ⟨b,2,none⟩ = some (.int .i64 x9) /\
 br (decide (62 < x9)) (
 R (.bool false) u1) (
 ∃ x10,u1.cell? ⟨b,1,none⟩ = some (.int .i64 x10) /\
 br (decide (x10 < (-1))) (
 R (.bool false) u1) (
 ∃ x11,u1.cell? ⟨b,1,none⟩ = some (.int .i64 x11) /\
 br (decide (i <= x11)) (
 R (.bool false) u1) (
 J4 () u1)))))
theorem oZ39 {pl : Option Addr} {nl cl : Nat} {i : Int} (h : vZ39 pl nl cl i w fun v w' => R (.returned v) w') : Calls P F.Z39 #[.slice pl nl cl,.int .i64 i] w R :=
 calls_of_eq (A := ⟨[],[(4,[])]⟩) mixed Tryz.func120 (by kernel_rfl) (by kernel_rfl) h
def vZ3a (pl : Option Addr) (nl cl : Nat) (names : Int) (methods : Int) (w : World) (R : Value -> World -> Prop) : Prop :=
 ∃ (I : Int -> World -> Prop) (μ : Int -> World -> Nat),I 0 w /\
 ∀ (t : Int) (u : World),I t u ->
 br (decide (t < (nl : Int))) (
 chk (decide (0 <= t) && decide (t < (nl : Int))) (
 onPtr pl fun g o =>
 ∃ x0 x1,holds u g (o + t.toNat * 2) [.int .i64 x0,.int .i64 x1] /\
 newB u #[.int .i64 0,.int .i64 0] T.api_Bind fun b u1 =>
 stores u1 b 0 [.int .i64 x0,.int .i64 x1] fun u2 =>
 join (fun (t1 : Unit) (u3 : World) =>
 chk (decide (0 <= 0) && decide (0 <= t) && decide (t <= (cl : Int)) && decide ((cl : Int) <= (cl : Int))) (
 Calls P F.Z44 #[.slice (cutAt pl (Int.toNat (cl : Int)) (Int.toNat 0) 2) (Int.toNat t - Int.toNat 0) (Int.toNat (cl : Int) - Int.toNat 0),.func (.func F.Z45) #[] #[.pointer (some ⟨b,0,none⟩)]] u3 fun en u4 => ∃ x,en = .returned (.bool x) /\
 br x (
 R (.bool false) u4) (
 I (IntKind.wrap .i64 (t + 1)) u4 /\ μ (IntKind.wrap .i64 (t + 1)) u4 < μ t u))) fun J6 =>
 ∃ x2,u2.cell? ⟨b,0,none⟩ = some (.int .i64 x2) /\
 br (decide (x2 < 0)) (
 R (.bool false) u2) (
 ∃ x3,u2.cell? ⟨b,0,none⟩ = some (.int .i64 x3) /\
 br (decide (names <= x3)) (
 R (.bool false) u2) (
 ∃ x4,u2.cell? ⟨b,1,none⟩ = some (.int .i64 x4) /\
 br (decide (x4 < 0)) (
 R (.bool false) u2) (
 ∃ x5,u2.cell? ⟨b,1,none⟩ = some (.int .i64 x5) /\
 br (decide (methods <= x5)) (
 R (.bool false) u2) (
 J6 () u2)))))) (
 R (.bool (decide ((nl : Int) <= 16))) u)
theorem oZ3a {pl : Option Addr} {nl cl : Nat} {names : Int} {methods : Int} (h : vZ3a pl nl cl names methods w fun v w' => R (.returned v) w') : Calls P F.Z3a #[.slice pl nl cl,.int .i64 names,.int .i64 methods] w R :=
 calls_of_eq (A := ⟨[(2,[(11,(.int .i64))])],[(6,[])]⟩) mixed Tryz.func121 (by kernel_rfl) (by kernel_rfl) h
def vZ43 (pl : Option Addr) (nl cl : Nat) (i : Int) (w : World) (R : Value -> World -> Prop) : Prop :=
 Calls P F.Z4i #[.slice pl nl cl,.int .i64 i] w fun en u => ∃ px nx cx,en = .returned (.slice px nx cx) /\
 R (.int .i64 (nx : Int)) u
theorem oZ43 {pl : Option Addr} {nl cl : Nat} {i : Int} (h : vZ43 pl nl cl i w fun v w' => R (.returned v) w') : Calls P F.Z43 #[.slice pl nl cl,.int .i64 i] w R :=
 calls_of_eq (A := ⟨[],[]⟩) mixed Tryz.func151 (by kernel_rfl) (by kernel_rfl) h
def vZ45 (x0 : Int) (x1 : Int) (cap0 : Nat) (w : World) (R : Value -> World -> Prop) : Prop :=
 newB w #[.int .i64 x0,.int .i64 x1] T.api_Bind fun b u =>
 ∃ x2,u.cell? ⟨b,0,none⟩ = some (.int .i64 x2) /\
 ∃ x3,u.cell? ⟨cap0,0,none⟩ = some (.int .i64 x3) /\
 R (.bool (decide (x2 = x3))) u
theorem oZ45 {x0 : Int} {x1 : Int} {cap0 : Nat} (h : vZ45 x0 x1 cap0 w fun v w' => R (.returned v) w') : Calls P F.Z45 #[.agg #[.int .i64 x0,.int .i64 x1],.pointer (some ⟨cap0,0,none⟩)] w R :=
 calls_of_eq (A := ⟨[],[]⟩) mixed Tryz.func153 (by kernel_rfl) (by kernel_rfl) h
def vZ4i (pl : Option Addr) (nl cl : Nat) (i : Int) (w : World) (R : Value -> World -> Prop) : Prop :=
 ∃ (I : Int × (Option Addr × Nat × Nat) -> World -> Prop) (μ : Int × (Option Addr × Nat × Nat) -> World -> Nat),I (i,(none,0,0)) w /\
 ∀ (t : Int × (Option Addr × Nat × Nat)) (u : World),I t u ->
 br (decide (0 <= t.1)) (
 br (decide (t.1 < (nl : Int))) (
 br (decide ((t.2.2.1 : Int) < 8)) (
 newB u #[.int .i64 t.1] T.int fun b u1 =>
 ∃ px nx cx u2,(Builtin.append_ #[T.sl_int,T.sl_int] T.sl_int #[.slice t.2.1 t.2.2.1 t.2.2.2,.slice (some ⟨b,0,none⟩) 1 1]).run P u1 = .ok (.slice px nx cx) u2 /\ Aft u1 u2 /\
 chk (decide (0 <= t.1) && decide (t.1 < (nl : Int))) (
 onPtr pl fun g o =>
 ∃ x,u2.cell? ⟨g,o + t.1.toNat * 4 + 1,none⟩ = some (.int .i64 x) /\
 I (x,(px,nx,cx)) u2 /\ μ (x,(px,nx,cx)) u2 < μ t u)) (
 Calls P F.Z19 #[.slice t.2.1 t.2.2.1 t.2.2.2] u fun en u3 => ∃ px1 nx1 cx1,en = .returned (.slice px1 nx1 cx1) /\
 R (.slice px1 nx1 cx1) u3)) (
 Calls P F.Z19 #[.slice t.2.1 t.2.2.1 t.2.2.2] u fun en u4 => ∃ px2 nx2 cx2,en = .returned (.slice px2 nx2 cx2) /\
 R (.slice px2 nx2 cx2) u4)) (
 Calls P F.Z19 #[.slice t.2.1 t.2.2.1 t.2.2.2] u fun en u5 => ∃ px3 nx3 cx3,en = .returned (.slice px3 nx3 cx3) /\
 R (.slice px3 nx3 cx3) u5)
theorem oZ4i {pl : Option Addr} {nl cl : Nat} {i : Int} (h : vZ4i pl nl cl i w fun v w' => R (.returned v) w') : Calls P F.Z4i #[.slice pl nl cl,.int .i64 i] w R :=
 calls_of_eq (A := ⟨[(2,[(1,(.int .i64)),(5,.slice)])],[]⟩) mixed Tryz.func166 (by kernel_rfl) (by kernel_rfl) h
end
section
structure MGood (m : TMethod) (n c k : Nat) : Prop where
 short : cShort m = true
 ends : cEnds m.code = true
 lits : ∀ v ∈ m.lits,cLit v n c k = true
 inst : ∀ j : Nat,2 * j < m.code.length -> (cFetch m.code ((2 * j : Nat) : Int)).2.2 = true /\ cInst m (cFetch m.code ((2 * j : Nat) : Int)).1 (cFetch m.code ((2 * j : Nat) : Int)).2.1 ((2 * j : Nat) : Int) = true
theorem code_Right_1_ok {w : World} {v : TVal} {u : CUnit} {b1 : Nat} (hB : Bk w.heap b1 u.vs) : Calls P F.Z48 #[.agg #[.int .i64 v.kind,.int .i64 v.n],.pointer (some ⟨b1,0,none⟩)] w (Mk (.bool (!cLit v u.names.n u.classes.n u.methods.n)) w) := by
 refine oZ48 ?_
 refine newB_i ?_; intro b w1 b_eq hB1 hN w1_sz; try simp only [drew_heap',dr_heap] at b_eq hN
 replace hB := hB.nw hN
 simp only [holds,Z1,Z2,Z3,Z4,Z5,Z6,Z7,Z8,Z9,ZA,ZB,ZC,ZD,ZE,ZF,ZG,true_and,and_true,ZS,ZT,exists_eq',and_assoc,wv_eq,dr_cell,ZU,join_eq,br_true,br_false,chk_true,decide_true,decide_false,Bool.not_true,Bool.not_false,Nat.zero_add,sets,ZH,ZI,onPtr_some,onIface_some,onFunc_some,nilVC_iface,hB1.cell]
 simp only [holds,Z1,Z2,Z3,Z4,Z5,Z6,Z7,Z8,Z9,ZA,ZB,ZC,ZD,ZE,ZF,ZG,true_and,and_true,ZS,ZT,exists_eq',and_assoc,wv_eq,dr_cell,ZU,join_eq,br_true,br_false,chk_true,decide_true,decide_false,Bool.not_true,Bool.not_false,Nat.zero_add,sets,ZH,ZI,onPtr_some,onIface_some,onFunc_some,nilVC_iface,hB.cell]
 refine (code_lit_ok (v := v) (u := u)).mono ?_; rintro _ w2 ⟨rfl,hN2⟩
 exact ⟨_,rfl,rfl,hN.tr hN2⟩
theorem cFetch_range {l : List Int} (h : Bytes l) (pc : Int) : 0 <= (cFetch l pc).2.1 /\ (cFetch l pc).2.1 < 256 := by
 unfold cFetch
 split
 ·simp
 ·split
  ·simp
  ·split
   ·simp
   ·exact h.getD _
theorem code_Right_ok {w : World} {ok : Nat -> Prop} {c : CMethod} {m : TMethod} {u : CUnit} (hm : IsMethod w.heap ok c m) (hg : MGood m u.names.n u.classes.n u.methods.n) :
  Calls P F.Z3b #[.agg #[.int .i64 c.args,.int .i64 c.temps,.slice c.lits.p c.lits.n c.lits.c,.slice c.code.p c.code.n c.code.c],.agg #[.slice u.names.p u.names.n u.names.c,.slice u.classes.p u.classes.n u.classes.c,.slice u.methods.p u.methods.n u.methods.c,.slice u.objects.p u.objects.n u.objects.c,.int .i64 u.main]] w (Mk (.int .i64 0) w) := by
 refine oZ3b ?_
 refine newB_i ?_; intro b w1 b_eq hB hN w1_sz; try simp only [drew_heap',dr_heap] at b_eq hN
 refine newB_i ?_; intro b1 w2 b1_eq hB1 hN1 w2_sz; try simp only [drew_heap',dr_heap] at b1_eq hN1
 replace hB := hB.nw hN1
 have hN2 := hN.tr hN1
 simp only [holds,Z1,Z2,Z3,Z4,Z5,Z6,Z7,Z8,Z9,ZA,ZB,ZC,ZD,ZE,ZF,ZG,true_and,and_true,ZS,ZT,exists_eq',and_assoc,wv_eq,dr_cell,ZU,join_eq,br_true,br_false,chk_true,decide_true,decide_false,Bool.not_true,Bool.not_false,Nat.zero_add,sets,ZH,ZI,onPtr_some,onIface_some,onFunc_some,nilVC_iface,hB.cell]
 refine (code_short_ok (hm.nw hN2)).mono ?_; rintro _ w3 ⟨rfl,hN3⟩
 refine ⟨_,rfl,?_⟩
 rw [hg.short]
 simp only [Bool.not_true,br_false]
 replace hB := hB.nw hN3; replace hB1 := hB1.nw hN3
 simp only [holds,Z1,Z2,Z3,Z4,Z5,Z6,Z7,Z8,Z9,ZA,ZB,ZC,ZD,ZE,ZF,ZG,true_and,and_true,ZS,ZT,exists_eq',and_assoc,wv_eq,dr_cell,ZU,join_eq,br_true,br_false,chk_true,decide_true,decide_false,Bool.not_true,Bool.not_false,Nat.zero_add,sets,ZH,ZI,onPtr_some,onIface_some,onFunc_some,nilVC_iface,hB.cell]
 have hN13 := hN2.tr hN3
 refine (code_ends_ok (hm.nw hN13)).mono ?_; rintro _ w4 ⟨rfl,hN4⟩
 refine ⟨_,rfl,?_⟩
 rw [hg.ends]
 simp only [Bool.not_true,br_false]
 replace hB := hB.nw hN4; replace hB1 := hB1.nw hN4
 have hN14 := hN13.tr hN4
 refine ⟨c.lits.p,c.lits.n,c.lits.c,by rw [hB.cell]; rfl,?_⟩
 refine (slices_ContainsFunc_api_Val_api_Val_ok (fn := F.Z48) (fa := #[]) (fb := #[.pointer (some ⟨b1,0,none⟩)]) ((hm.nw hN14).lits) (fun v => !cLit v u.names.n u.classes.n u.methods.n) (by kernel_rfl) (fun x wx _ hNx => code_Right_1_ok (hB1.nw hNx))).mono ?_; rintro _ w5 ⟨rfl,hN5⟩
 refine ⟨_,rfl,?_⟩
 rw [show (m.lits.any fun v => !cLit v u.names.n u.classes.n u.methods.n) = false by rw [List.any_eq_false]; intro v hv; rw [hg.lits v hv]; simp]
 rw [br_false]
 replace hB := hB.nw hN5
 have hN15 := hN14.tr hN5
 have hsm := hm.code.small; have hln := hm.code.len
 refine ⟨fun t w' => ∃ j : Nat,t = ((2 * j : Nat) : Int) /\ 2 * j <= m.code.length + 1 /\ Nw w.heap w'.heap /\ Bk w'.heap b c.vs,⟨0,rfl,by omega,hN15,hB⟩,fun t _ => m.code.length + 1 - t.toNat,?_⟩
 rintro t w6 ⟨j,rfl,hj,hN6,hB6⟩
 refine ⟨_,_,_,by rw [hB6.cell]; rfl,?_⟩
 refine br_of (fun h1 => ?_) (fun h1 => ?_) <;> simp only [ZJ,ZK,ZL,ZM,ZN,ZO,ZP,ZQ,ZR] at h1
 ·obtain ⟨hi1,hi2⟩ := hg.inst j (by omega)
  simp only [holds,Z1,Z2,Z3,Z4,Z5,Z6,Z7,Z8,Z9,ZA,ZB,ZC,ZD,ZE,ZF,ZG,true_and,and_true,ZS,ZT,exists_eq',and_assoc,wv_eq,dr_cell,ZU,join_eq,br_true,br_false,chk_true,decide_true,decide_false,Bool.not_true,Bool.not_false,Nat.zero_add,sets,ZH,ZI,onPtr_some,onIface_some,onFunc_some,nilVC_iface,hB6.cell]
  refine (code_Fetch_ok (hm.nw hN6)).mono ?_; rintro _ w7 ⟨rfl,hN7⟩
  refine ⟨_,_,_,rfl,?_⟩
  rw [hi1]
  replace hB7 := hB6.nw hN7
  have hN67 := hN6.tr hN7
  refine newB_i ?_; intro b3 w8 b3_eq hB8 hN8 w8_sz; try simp only [drew_heap',dr_heap] at b3_eq hN8
  refine stores_i hB8 (by simp [sets_length]) ?_; intro w9 hB9 hF9 w9_sz; try simp only [drew_heap',dr_heap] at w9_sz hF9
  have hle := hN67.le
  have hN79 : Nw w7.heap w9.heap := hN8.st hF9 (by omega)
  replace hB7 := hB7.nw hN79
  simp only [Bool.not_true,br_false]
  simp only [holds,Z1,Z2,Z3,Z4,Z5,Z6,Z7,Z8,Z9,ZA,ZB,ZC,ZD,ZE,ZF,ZG,true_and,and_true,ZS,ZT,exists_eq',and_assoc,wv_eq,dr_cell,ZU,join_eq,br_true,br_false,chk_true,decide_true,decide_false,Bool.not_true,Bool.not_false,Nat.zero_add,sets,ZH,ZI,onPtr_some,onIface_some,onFunc_some,nilVC_iface,hB7.cell]
  simp only [holds,Z1,Z2,Z3,Z4,Z5,Z6,Z7,Z8,Z9,ZA,ZB,ZC,ZD,ZE,ZF,ZG,true_and,and_true,ZS,ZT,exists_eq',and_assoc,wv_eq,dr_cell,ZU,join_eq,br_true,br_false,chk_true,decide_true,decide_false,Bool.not_true,Bool.not_false,Nat.zero_add,sets,ZH,ZI,onPtr_some,onIface_some,onFunc_some,nilVC_iface,hB9.cell]
  have hr := cFetch_range hm.bytes ((2 * j : Nat) : Int)
  refine (code_inst_ok (hm.nw (hN67.tr hN79)) hr (by omega)).mono ?_; rintro _ w10 ⟨rfl,hN10⟩
  refine ⟨_,rfl,?_⟩
  rw [hi2]
  simp only [Bool.not_true,br_false]
  rw [wrap_id (by omega) (by omega)]
  exact ⟨⟨j + 1,by omega,by omega,(hN67.tr hN79).tr hN10,hB7.nw hN10⟩,by (first | omega | (dsimp only; omega))⟩
 ·exact ⟨rfl,hN6⟩
def hChainFrom (l : List TClass) : Nat -> Int -> List Int
 | 0,_ => []
 | f + 1,i => if 0 <= i /\ i < l.length then i :: hChainFrom l f (l.getD i.toNat default).super else []
def hChain (l : List TClass) (i : Int) : List Int := hChainFrom l 8 i
section
variable {w : World} {ok ok' : Nat -> Prop} {p : Option Addr} {n c : Nat} {l : List CClass} {L : List TClass}
theorem hChain_step (f : Nat) (i : Int) (h : 0 <= i /\ i < L.length) : hChainFrom L (f + 1) i = i :: hChainFrom L f (L.getD i.toNat default).super := by rw [hChainFrom,if_pos h]
theorem hChain_stop (f : Nat) (i : Int) (h : ¬ (0 <= i /\ i < L.length)) : hChainFrom L f i = [] := by cases f <;> simp [hChainFrom,h]
theorem All2.getL {α β : Type} {R : α -> β -> Prop} {l : List α} {m : List β} (h : All2 R l m) {i : Nat} (hi : i < m.length) : ∃ x y,l[i]? = some x /\ m[i]? = some y /\ R x y := by
 obtain ⟨x,hx,hr⟩ := h.get (List.getElem?_eq_getElem hi)
 exact ⟨x,_,hx,List.getElem?_eq_getElem hi,hr⟩
theorem shape_Chain_ok (hs : Sl w.heap ok eClass p n c l) (ha : All2 (IsClass w.heap ok') l L) (i : Int) : Calls P F.Z4i #[.slice p n c,.int .i64 i] w fun en w' => ∃ p' n',en = .returned (.slice p' n' n') /\ Sl w'.heap (Fresh w.heap) eI64 p' n' n' (hChain L i) /\ Nw w.heap w'.heap := by
 refine oZ4i ?_
 have hl := hs.len; have hl2 := ha.len; have hsm := hs.small
 refine ⟨fun t w' => ∃ (pre : List Int) (f : Nat),t.2.2.1 + f = 8 /\ hChain L i = pre ++ hChainFrom L f t.1 /\ Sl w'.heap (Fresh w.heap) eI64 t.2.1 t.2.2.1 t.2.2.2 pre /\ Nw w.heap w'.heap,fun t _ => 8 - t.2.2.1,⟨[],8,rfl,rfl,Sl.nil,Nw.rfl'⟩,?_⟩
 rintro ⟨t,q,m,d⟩ w1 ⟨pre,f,hf,he,hsl,hN⟩
 simp only at hf he hsl
 have fin : hChainFrom L f t = [] -> Calls P F.Z19 #[.slice q m d] w1 fun en w_3 => ∃ (px1 : Option Addr) (nx1 cx1 : Nat),en = .returned (.slice px1 nx1 cx1) /\ ∃ p' n',Ending.returned (.slice px1 nx1 cx1) = Ending.returned (.slice p' n' n') /\ Sl w_3.heap (Fresh w.heap) eI64 p' n' n' (hChain L i) /\ Nw w.heap w_3.heap := by
  intro h
  refine (slices_Clip_int_int_ok hsl).mono ?_
  rintro _ _ ⟨q',rfl,rfl,hq'⟩
  rw [h,List.append_nil] at he
  rw [<- he] at hq'
  exact ⟨_,_,_,rfl,_,_,rfl,hq',hN⟩
 refine br_of (fun h1 => ?_) (fun h1 => ?_) <;> simp only [ZJ,ZK,ZL,ZM,ZN,ZO,ZP,ZQ,ZR] at h1
 ·refine br_of (fun h2 => ?_) (fun h2 => ?_) <;> simp only [ZJ,ZK,ZL,ZM,ZN,ZO,ZP,ZQ,ZR] at h2
  ·refine br_of (fun h3 => ?_) (fun h3 => ?_) <;> simp only [ZJ,ZK,ZL,ZM,ZN,ZO,ZP,ZQ,ZR] at h3
   ·obtain ⟨f,rfl⟩ : ∃ g,f = g + 1 := ⟨f - 1,by omega⟩
    refine newB_i ?_; intro b w2 b_eq hB hN2 w2_sz; try simp only [drew_heap',dr_heap] at b_eq hN2
    have hs1 : Sl w2.heap (fun y => y = b) eI64 (some ⟨b,0,none⟩) 1 1 [t] := (Sl.of_blk (l := [t]) (E := eI64) hB rfl rfl (by simp)).mono fun _ _ h => h.symm
    refine append_r ty_int (hsl.nw hN2) hs1 (by omega) ?_
    intro q' d' w3 h3' hF3
    have hN3 := (hN.tr hN2).tr' hF3 fun x hx => hx
    obtain ⟨x,y,hx,hy,hr⟩ := ha.getL (i := t.toNat) (by omega)
    refine chk_of (by simp; omega) ?_
    refine (hs.nw hN3).idx hx ?_; intro g o _ hh
    refine ⟨_,hh.2.1,?_⟩
    rw [hChain_step _ _ (by omega)] at he
    have ey : L.getD t.toNat default = y := by simp [List.getD_eq_getElem?_getD,hy]
    rw [ey] at he
    refine ⟨⟨pre ++ [t],f,by simp only; omega,by rw [he,hr.super]; simp,?_,hN3⟩,by simp only; omega⟩
    exact h3'.mono fun y _ h => by
     have := hN.le; have := hN2.le
     rcases h with h | h
     ·exact h
     ·show w.heap.size <= y; omega
   ·exact fin (by rw [show f = 0 by omega]; rfl)
  ·exact fin (hChain_stop _ _ (by omega))
 ·exact fin (hChain_stop _ _ (by omega))
theorem shape_Depth_ok (hs : Sl w.heap ok eClass p n c l) (ha : All2 (IsClass w.heap ok') l L) (i : Int) : Calls P F.Z43 #[.slice p n c,.int .i64 i] w (Mk (.int .i64 (hChain L i).length) w) := by
 refine oZ43 ?_
 refine (shape_Chain_ok hs ha i).mono ?_
 rintro _ w1 ⟨p',n',rfl,h1,hN⟩
 exact ⟨_,_,_,rfl,by rw [h1.len],hN⟩
end
structure BGood (B : List TBind) (names methods : Nat) : Prop where
 len : B.length <= 16
 rng : ∀ b ∈ B,0 <= b.sel /\ b.sel < names /\ 0 <= b.method /\ b.method < methods
 dif : ∀ (i j : Nat) (x y : TBind),i < j -> B[i]? = some x -> B[j]? = some y -> x.sel ≠ y.sel
structure SGood (L : List TClass) (i : Nat) (x : TClass) : Prop where
 fld : 0 <= x.fields /\ x.fields <= 62
 sup : -1 <= x.super /\ x.super < i
 deep : x.super = -1 \/ (hChain L x.super).length < 8 /\ (L.getD x.super.toNat default).fields <= x.fields
structure CGood (L : List TClass) (i : Nat) (x : TClass) (names methods : Nat) : Prop where
 name : 1 <= x.name.size /\ x.name.size <= 16
 dif : ∀ (j : Nat) (y : TClass),j < i -> L[j]? = some y -> (y.name.toList == x.name.toList) = false
 sup : SGood L i x
 bnd : BGood x.binds names methods
theorem shape_binds_1_ok {w : World} {x : TBind} {y : Int} {m : Value} {b1 : Nat} (hB : Bk w.heap b1 [.int .i64 y,m]) : Calls P F.Z45 #[.agg #[.int .i64 x.sel,.int .i64 x.method],.pointer (some ⟨b1,0,none⟩)] w (Mk (.bool (decide (x.sel = y))) w) := by
 refine oZ45 ?_
 refine newB_i ?_; intro b w1 b_eq hB1 hN w1_sz; try simp only [drew_heap',dr_heap] at b_eq hN
 replace hB := hB.nw hN
 simp only [holds,Z1,Z2,Z3,Z4,Z5,Z6,Z7,Z8,Z9,ZA,ZB,ZC,ZD,ZE,ZF,ZG,true_and,and_true,ZS,ZT,exists_eq',and_assoc,wv_eq,dr_cell,ZU,join_eq,br_true,br_false,chk_true,decide_true,decide_false,Bool.not_true,Bool.not_false,Nat.zero_add,sets,ZH,ZI,onPtr_some,onIface_some,onFunc_some,nilVC_iface,hB1.cell]
 simp only [holds,Z1,Z2,Z3,Z4,Z5,Z6,Z7,Z8,Z9,ZA,ZB,ZC,ZD,ZE,ZF,ZG,true_and,and_true,ZS,ZT,exists_eq',and_assoc,wv_eq,dr_cell,ZU,join_eq,br_true,br_false,chk_true,decide_true,decide_false,Bool.not_true,Bool.not_false,Nat.zero_add,sets,ZH,ZI,onPtr_some,onIface_some,onFunc_some,nilVC_iface,hB.cell]
 exact ⟨rfl,hN⟩
theorem shape_binds_ok {w : World} {ok : Nat -> Prop} {p : Option Addr} {n c : Nat} {l : List TBind} {N M : Nat} (hs : Sl w.heap ok eBind p n c l) (hg : BGood l N M) : Calls P F.Z3a #[.slice p n c,.int .i64 (N : Int),.int .i64 (M : Int)] w (Mk (.bool true) w) := by
 refine oZ3a ?_
 have hl := hs.len; have hsm := hs.small; have hcap := hs.cap; have hg1 := hg.len
 refine ⟨fun t w' => ∃ k : Nat,t = (k : Int) /\ k <= n /\ Nw w.heap w'.heap,fun t _ => n - t.toNat,⟨0,rfl,Nat.zero_le _,Nw.rfl'⟩,?_⟩
 rintro t w1 ⟨k,rfl,hk,hN⟩
 refine br_of (fun h1 => ?_) (fun h1 => ?_) <;> simp only [ZJ,ZK,ZL,ZM,ZN,ZO,ZP,ZQ,ZR] at h1
 ·refine chk_of (by simp; omega) ?_
  have hx : l[k]? = some (l[k]'(by omega)) := List.getElem?_eq_getElem (by omega)
  generalize l[k]'(by omega) = x at hx
  obtain ⟨g1,g2,g3,g4⟩ := hg.rng x (List.mem_of_getElem? hx)
  refine (hs.nw hN).idx hx ?_; intro g o _ hh
  refine ⟨_,_,hh,?_⟩
  refine newB_i ?_; intro b w2 b_eq hB hN2 w2_sz; try simp only [drew_heap',dr_heap] at b_eq hN2
  refine stores_i hB (by simp [sets_length]) ?_; intro w3 hB3 hF3 w3_sz; try simp only [drew_heap',dr_heap] at w3_sz hF3
  have hN3 : Nw w1.heap w3.heap := hN2.st hF3 (by omega)
  simp only [join_eq]
  simp only [holds,Z1,Z2,Z3,Z4,Z5,Z6,Z7,Z8,Z9,ZA,ZB,ZC,ZD,ZE,ZF,ZG,true_and,and_true,ZS,ZT,exists_eq',and_assoc,wv_eq,dr_cell,ZU,join_eq,br_true,br_false,chk_true,decide_true,decide_false,Bool.not_true,Bool.not_false,Nat.zero_add,sets,ZH,ZI,onPtr_some,onIface_some,onFunc_some,nilVC_iface,hB3.cell]
  rw [show decide (x.sel < 0) = false by simp; omega,show decide ((N : Int) <= x.sel) = false by simp; omega,show decide (x.method < 0) = false by simp; omega,show decide ((M : Int) <= x.method) = false by simp; omega]
  simp only [br_false]
  refine chk_of (by simp; omega) ?_
  have hN13 := hN.tr hN3
  have hcut := (hs.nw hN13).cut (lo := 0) (hi := k) (mx := c) (by omega) (by omega) (by omega) (by omega)
  rw [List.drop_zero,Nat.sub_zero] at hcut
  simp only [sets,ZH,ZI] at hB3
  refine (slices_ContainsFunc_api_Bind_api_Bind_ok (fn := F.Z45) (fa := #[]) (fb := #[.pointer (some ⟨b,0,none⟩)]) hcut (fun y => decide (y.sel = x.sel)) (by kernel_rfl) (fun y wx _ hNx => shape_binds_1_ok (hB3.nw hNx))).mono ?_; rintro _ w5 ⟨rfl,hN5⟩
  refine ⟨_,rfl,?_⟩
  rw [show ((l.take k).any fun y => decide (y.sel = x.sel)) = false by
   rw [List.any_eq_false]; intro y hy
   obtain ⟨j,hj,hy⟩ := List.getElem_of_mem hy
   rw [List.length_take] at hj
   have := hg.dif j k y x (by omega) (by rw [<- hy,List.getElem_take]; exact List.getElem?_eq_getElem (by omega)) hx
   simpa using this]
  rw [br_false,wrap_id (by omega) (by omega)]
  exact ⟨⟨k + 1,rfl,by omega,hN13.tr hN5⟩,by (first | omega | (dsimp only; omega))⟩
 ·exact ⟨by congr 2; simp; omega,hN⟩
section
variable {w : World} {ok ok' : Nat -> Prop} {p : Option Addr} {n c : Nat} {l : List CClass} {L : List TClass}
theorem all2_class_nw {h h' : Hp} (ha : All2 (IsClass h ok') l L) (hf : Nw h h') : All2 (IsClass h' ok') l L := ha.mono fun _ _ hr => hr.nw hf
theorem shape_super_ok (hs : Sl w.heap ok eClass p n c l) (ha : All2 (IsClass w.heap ok') l L) {i : Nat} {x : TClass} (hx : L[i]? = some x) (hg : SGood L i x) : Calls P F.Z39 #[.slice p n c,.int .i64 (i : Int)] w (Mk (.bool true) w) := by
 refine oZ39 ?_
 have hl := hs.len; have hl2 := ha.len; have hsm := hs.small
 have hi := (List.getElem?_eq_some_iff.1 hx).1
 obtain ⟨r,hr,hrx⟩ := ha.get hx
 refine chk_of (by simp; omega) ?_
 refine hs.idx hr ?_; intro g o _ hh
 refine ⟨_,_,_,_,_,_,hh,?_⟩
 refine newB_i ?_; intro b w2 b_eq hB hN2 w2_sz; try simp only [drew_heap',dr_heap] at b_eq hN2
 refine stores_i hB (by simp [sets_length]) ?_; intro w3 hB3 hF3 w3_sz; try simp only [drew_heap',dr_heap] at w3_sz hF3
 have hN3 : Nw w.heap w3.heap := hN2.st hF3 (by omega)
 simp only [join_eq]
 have e1 := hrx.super; have e2 := hrx.fields
 obtain ⟨g1,g2⟩ := hg.fld
 obtain ⟨g3,g4⟩ := hg.sup
 simp only [sets,ZH,ZI] at hB3
 simp only [holds,Z1,Z2,Z3,Z4,Z5,Z6,Z7,Z8,Z9,ZA,ZB,ZC,ZD,ZE,ZF,ZG,true_and,and_true,ZS,ZT,exists_eq',and_assoc,wv_eq,dr_cell,ZU,join_eq,br_true,br_false,chk_true,decide_true,decide_false,Bool.not_true,Bool.not_false,Nat.zero_add,sets,ZH,ZI,onPtr_some,onIface_some,onFunc_some,nilVC_iface,hB3.cell]
 rw [show decide (r.fields < 0) = false by simp; omega,show decide (62 < r.fields) = false by simp; omega,show decide (r.super < -1) = false by simp; omega,show decide ((i : Int) <= r.super) = false by simp; omega]
 simp only [br_false]
 refine br_of (fun h1 => ?_) (fun h1 => ?_) <;> simp only [ZJ,ZK,ZL,ZM,ZN,ZO,ZP,ZQ,ZR] at h1
 ·exact ⟨rfl,hN3⟩
 ·obtain ⟨hd1,hd2⟩ := hg.deep.resolve_left (by omega)
  refine (shape_Depth_ok (w := w3.drew) (hs.nw hN3) (all2_class_nw ha hN3) r.super).mono ?_; rintro _ w4 ⟨rfl,hN4⟩
  replace hN4 : Nw w3.heap w4.heap := hN4
  replace hB3 := hB3.nw hN4
  have hN34 := hN3.tr hN4
  refine ⟨_,rfl,by rw [hB3.cell]; rfl,?_⟩
  rw [e1,show decide (((hChain L x.super).length : Int) < 8) = true by simp; omega,br_true]
  refine ⟨r.fields,by rw [hB3.cell]; rfl,r.super,by rw [hB3.cell]; rfl,?_⟩
  refine chk_of (by simp; omega) ?_
  obtain ⟨s,y,hs1,hy,hsy⟩ := ha.getL (i := r.super.toNat) (by omega)
  refine (hs.nw hN34).idx hs1 ?_; intro g' o' _ hh'
  refine ⟨_,hh'.2.2.1,?_⟩
  have ey : L.getD x.super.toNat default = y := by rw [<- e1]; simp [List.getD_eq_getElem?_getD,hy]
  rw [ey] at hd2
  exact ⟨by congr 2; rw [hsy.fields,e2]; simpa using hd2,hN34⟩
theorem shape_Right_1_ok {x : CClass} {y : ByteArray} {r : List Value} {b1 : Nat} (hB : Bk w.heap b1 (.string y :: r)) : Calls P F.Z38 #[.agg #[.string x.name,.int .i64 x.super,.int .i64 x.fields,.slice x.binds.p x.binds.n x.binds.c],.pointer (some ⟨b1,0,none⟩)] w (Mk (.bool (x.name.toList == y.toList)) w) := by
 refine oZ38 ?_
 refine newB_i ?_; intro b w1 b_eq hB1 hN w1_sz; try simp only [drew_heap',dr_heap] at b_eq hN
 replace hB := hB.nw hN
 simp only [holds,Z1,Z2,Z3,Z4,Z5,Z6,Z7,Z8,Z9,ZA,ZB,ZC,ZD,ZE,ZF,ZG,true_and,and_true,ZS,ZT,exists_eq',and_assoc,wv_eq,dr_cell,ZU,join_eq,br_true,br_false,chk_true,decide_true,decide_false,Bool.not_true,Bool.not_false,Nat.zero_add,sets,ZH,ZI,onPtr_some,onIface_some,onFunc_some,nilVC_iface,hB1.cell]
 simp only [holds,Z1,Z2,Z3,Z4,Z5,Z6,Z7,Z8,Z9,ZA,ZB,ZC,ZD,ZE,ZF,ZG,true_and,and_true,ZS,ZT,exists_eq',and_assoc,wv_eq,dr_cell,ZU,join_eq,br_true,br_false,chk_true,decide_true,decide_false,Bool.not_true,Bool.not_false,Nat.zero_add,sets,ZH,ZI,onPtr_some,onIface_some,onFunc_some,nilVC_iface,hB.cell]
 exact ⟨rfl,hN⟩
theorem cell_lt {w : World} {a : Addr} {v : Value} (h : w.cell? a = some v) : a.block < w.heap.size := by
 unfold World.cell? at h
 cases hb : w.heap[a.block]? with
 | none => rw [hb] at h; simp at h
 | some o => exact (Array.getElem?_eq_some_iff.1 hb).1
theorem holds_nw {w w' : World} {g o : Nat} {vs : List Value} (hf : Nw w.heap w'.heap) (hg : g < w.heap.size) (h : holds w g o vs) : holds w' g o vs := by
 rw [holds_iff] at h ⊢
 intro j v hj
 rw [<- h j v hj]
 unfold World.cell?
 rw [hf.eq g hg fun h => h]
structure LGood (L : List TClass) (names methods : Nat) : Prop where
 len : 2 <= L.length /\ L.length <= 12
 c0 : (L.getD 0 default).super = -1 /\ (L.getD 0 default).fields = 4
 c1 : (L.getD 1 default).super = -1 /\ (L.getD 1 default).fields = 0
 all : ∀ (i : Nat) (x : TClass),L[i]? = some x -> CGood L i x names methods
theorem shape_Right_ok {N M : Nat} (hs : Sl w.heap ok eClass p n c l) (ha : All2 (IsClass w.heap ok') l L) (hg : LGood L N M) : Calls P F.Z25 #[.slice p n c,.int .i64 (N : Int),.int .i64 (M : Int)] w (Mk (.int .i64 0) w) := by
 refine oZ25 ?_
 unfold vZ25
 rw [join_eq]
 have hl := hs.len; have hl2 := ha.len; have hsm := hs.small; have hcap := hs.cap
 obtain ⟨n1,n2⟩ := hg.len
 rw [show decide ((n : Int) < 2) = false by simp; omega,show decide ((12 : Int) < (n : Int)) = false by simp; omega]
 simp only [br_false,wv_eq]
 obtain ⟨r0,x0,hr0,hx0,hrx0⟩ := ha.getL (i := 0) (by omega)
 obtain ⟨r1,x1,hr1,hx1,hrx1⟩ := ha.getL (i := 1) (by omega)
 have f1 : r0.super = -1 := by rw [hrx0.super]; have := hg.c0.1; rwa [show L.getD 0 default = x0 by simp [List.getD_eq_getElem?_getD,hx0]] at this
 have f3 : r0.fields = 4 := by rw [hrx0.fields]; have := hg.c0.2; rwa [show L.getD 0 default = x0 by simp [List.getD_eq_getElem?_getD,hx0]] at this
 have f2 : r1.super = -1 := by rw [hrx1.super]; have := hg.c1.1; rwa [show L.getD 1 default = x1 by simp [List.getD_eq_getElem?_getD,hx1]] at this
 have f4 : r1.fields = 0 := by rw [hrx1.fields]; have := hg.c1.2; rwa [show L.getD 1 default = x1 by simp [List.getD_eq_getElem?_getD,hx1]] at this
 refine chk_of (by simp; omega) ?_
 refine hs.idx (w := w.drew) (i := 0) hr0 ?_; intro g o hg0 hh
 rw [Nat.zero_mul,Nat.add_zero] at hh
 refine ⟨_,_,_,_,_,_,hh,?_⟩
 refine chk_of (by simp; omega) ?_
 refine hs.idx (w := w.drew) (i := 1) hr1 ?_; intro g1 o1 hg1 hh1
 rw [Nat.one_mul] at hh1
 refine ⟨_,_,_,_,_,_,hh1,?_⟩
 have hold : ∀ w' : World,Nw w.heap w'.heap -> holds w' g o r0.vs /\ holds w' g1 (o1 + 4) r1.vs := fun w' hf => by
  obtain ⟨⟨v0,e0,a0⟩,hv0⟩ : (∃ v,w.drew.cell? ⟨g,o,none⟩ = some v /\ g < w.heap.size) /\ True := ⟨⟨_,hh.1,cell_lt hh.1⟩,trivial⟩
  have a1 : g1 < w.heap.size := cell_lt hh1.1
  exact ⟨holds_nw (w := w.drew) hf a0 hh,holds_nw (w := w.drew) hf a1 hh1⟩
 constructor
 ·refine newB_i ?_; intro b w2 b_eq hB hN2 w2_sz; try simp only [drew_heap',dr_heap] at b_eq hN2
  refine ⟨⟨(hold _ hN2).2,(hold _ hN2).1,trivial⟩,?_⟩
  refine newB_i ?_; intro b1 w3 b1_eq hB1 hN3 w3_sz; try simp only [drew_heap',dr_heap] at b1_eq hN3
  have hN3' := hN2.tr hN3
  refine ⟨⟨(hold _ hN3').2,(hold _ hN3').1,trivial⟩,?_⟩
  replace hB := hB.nw hN3
  refine stores_i hB (by simp [sets_length]) ?_; intro w4 hB4 hF4 w4_sz; try simp only [drew_heap',dr_heap] at w4_sz hF4
  have hN4 : Nw w.heap w4.heap := hN3'.st hF4 (by omega)
  refine ⟨⟨(hold _ hN4).2,trivial⟩,?_⟩
  have hB14 := hB1.fr hF4 (by omega)
  refine stores_i hB14 (by simp [sets_length]) ?_; intro w5 hB5 hF5 w5_sz; try simp only [drew_heap',dr_heap] at w5_sz hF5
  have hNz : Nw w.heap w5.heap := hN4.st hF5 (by have := hN2.le; omega)
  have hB45 := hB4.fr hF5 (by omega)
  simp only [sets,ZH,ZI] at hB5 hB45
  refine ⟨trivial,?_⟩
  rw [join_eq]
  refine ⟨r0.super,by rw [hB45.cell]; rfl,?_⟩
  rw [show (!(decide (r0.super = -1))) = false by rw [f1]; rfl,br_false]
  refine ⟨r1.super,by rw [hB5.cell]; rfl,?_⟩
  rw [show (!(decide (r1.super = -1))) = false by rw [f2]; rfl,br_false]
  refine ⟨r0.fields,by rw [hB45.cell]; rfl,?_⟩
  rw [show (!(decide (r0.fields = 4))) = false by rw [f3]; rfl,br_false]
  refine ⟨r1.fields,by rw [hB5.cell]; rfl,?_⟩
  rw [show (!(decide (r1.fields = 0))) = false by rw [f4]; rfl,br_false]
  refine ⟨fun t w' => ∃ k : Nat,t = (k : Int) /\ k <= n /\ Nw w.heap w'.heap,fun t _ => n - t.toNat,⟨0,rfl,Nat.zero_le _,hNz⟩,?_⟩
  rintro t w6 ⟨k,rfl,hk,hN6⟩
  refine br_of (fun h1 => ?_) (fun h1 => ?_) <;> simp only [ZJ,ZK,ZL,ZM,ZN,ZO,ZP,ZQ,ZR] at h1
  ·refine chk_of (by simp; omega) ?_
   obtain ⟨r,x,hr,hx,hrx⟩ := ha.getL (i := k) (by omega)
   have hcg := hg.all k x hx
   refine (hs.nw hN6).idx hr ?_; intro g2 o2 _ hh2
   refine ⟨_,_,_,_,_,_,hh2,?_⟩
   refine newB_i ?_; intro b7 w7 b7_eq hB7 hN7 w7_sz; try simp only [drew_heap',dr_heap] at b7_eq hN7
   refine stores_i hB7 (by simp [sets_length]) ?_; intro w8 hB8 hF8 w8_sz; try simp only [drew_heap',dr_heap] at w8_sz hF8
   have hN78 : Nw w6.heap w8.heap := hN7.st hF8 (by omega)
   have hN8 := hN6.tr hN78
   simp only [sets,ZH,ZI] at hB8
   have en := hrx.name; have hcn := hcg.name
   simp only [holds,Z1,Z2,Z3,Z4,Z5,Z6,Z7,Z8,Z9,ZA,ZB,ZC,ZD,ZE,ZF,ZG,true_and,and_true,ZS,ZT,exists_eq',and_assoc,wv_eq,dr_cell,ZU,join_eq,br_true,br_false,chk_true,decide_true,decide_false,Bool.not_true,Bool.not_false,Nat.zero_add,sets,ZH,ZI,onPtr_some,onIface_some,onFunc_some,nilVC_iface,hB8.cell]
   rw [show decide ((r.name.size : Int) < 1) = false by rw [en]; simp; omega,show decide ((16 : Int) < (r.name.size : Int)) = false by rw [en]; simp; omega]
   simp only [br_false]
   refine chk_of (by simp; omega) ?_
   have hcut := (hs.nw hN8).cut (lo := 0) (hi := k) (mx := c) (by omega) (by omega) (by omega) (by omega)
   rw [List.drop_zero,Nat.sub_zero] at hcut
   refine (slices_ContainsFunc_api_Class_api_Class_ok (fn := F.Z38) (fa := #[]) (fb := #[.pointer (some ⟨b7,0,none⟩)]) hcut (fun y => y.name.toList == r.name.toList) (by kernel_rfl) (fun y wx _ hNx => shape_Right_1_ok (hB8.nw hNx))).mono ?_; rintro _ w9 ⟨rfl,hN9⟩
   refine ⟨_,rfl,?_⟩
   have hany : ((l.take k).any fun y => y.name.toList == r.name.toList) = false := by
    rw [List.any_eq_false]; intro y hy
    obtain ⟨j,hj,hy⟩ := List.getElem_of_mem hy
    rw [List.length_take] at hj
    have hlj : l[j]? = some y := by rw [<- hy,List.getElem_take]; exact List.getElem?_eq_getElem (by omega)
    obtain ⟨y',z,hy',hz,hyz⟩ := ha.getL (i := j) (by omega)
    rw [hlj] at hy'
    simp only [Z3] at hy'
    subst hy'
    have := hcg.dif j z (by omega) hz
    rw [hyz.name,en,this]; simp
   rw [hany,br_false]
   have hN9' := hN8.tr hN9
   refine (shape_super_ok (hs.nw hN9') (all2_class_nw ha hN9') hx hcg.sup).mono ?_; rintro _ w10 ⟨rfl,hN10⟩
   refine ⟨_,rfl,?_⟩
   simp only [Bool.not_true,br_false]
   have hN10' := hN9'.tr hN10
   have hB10 := (hB8.nw hN9).nw hN10
   refine ⟨r.binds.p,r.binds.n,r.binds.c,by rw [hB10.cell]; rfl,?_⟩
   refine (shape_binds_ok (hrx.binds.nw hN10') hcg.bnd).mono ?_; rintro _ w11 ⟨rfl,hN11⟩
   refine ⟨_,rfl,?_⟩
   simp only [Bool.not_true,br_false]
   rw [wrap_id (by omega) (by omega)]
   exact ⟨⟨k + 1,rfl,by omega,hN10'.tr hN11⟩,by (first | omega | (dsimp only; omega))⟩
  ·exact ⟨rfl,hN6⟩
 ·refine newB_i ?_; intro b w2 b_eq hB hN2 w2_sz; try simp only [drew_heap',dr_heap] at b_eq hN2
  refine ⟨⟨(hold _ hN2).2,(hold _ hN2).1,trivial⟩,?_⟩
  refine newB_i ?_; intro b1 w3 b1_eq hB1 hN3 w3_sz; try simp only [drew_heap',dr_heap] at b1_eq hN3
  have hN3' := hN2.tr hN3
  refine ⟨⟨(hold _ hN3').2,(hold _ hN3').1,trivial⟩,?_⟩
  replace hB := hB.nw hN3
  refine stores_i hB1 (by simp [sets_length]) ?_; intro w4 hB4 hF4 w4_sz; try simp only [drew_heap',dr_heap] at w4_sz hF4
  have hN4 : Nw w.heap w4.heap := hN3'.st hF4 (by have := hN2.le; omega)
  refine ⟨⟨(hold _ hN4).2,trivial⟩,?_⟩
  have hB14 := hB.fr hF4 (by omega)
  refine stores_i hB14 (by simp [sets_length]) ?_; intro w5 hB5 hF5 w5_sz; try simp only [drew_heap',dr_heap] at w5_sz hF5
  have hNz : Nw w.heap w5.heap := hN4.st hF5 (by omega)
  have hB45 := hB4.fr hF5 (by omega)
  simp only [sets,ZH,ZI] at hB5 hB45
  refine ⟨trivial,?_⟩
  rw [join_eq]
  refine ⟨r0.super,by rw [hB45.cell]; rfl,?_⟩
  rw [show (!(decide (r0.super = -1))) = false by rw [f1]; rfl,br_false]
  refine ⟨r1.super,by rw [hB5.cell]; rfl,?_⟩
  rw [show (!(decide (r1.super = -1))) = false by rw [f2]; rfl,br_false]
  refine ⟨r0.fields,by rw [hB45.cell]; rfl,?_⟩
  rw [show (!(decide (r0.fields = 4))) = false by rw [f3]; rfl,br_false]
  refine ⟨r1.fields,by rw [hB5.cell]; rfl,?_⟩
  rw [show (!(decide (r1.fields = 0))) = false by rw [f4]; rfl,br_false]
  refine ⟨fun t w' => ∃ k : Nat,t = (k : Int) /\ k <= n /\ Nw w.heap w'.heap,fun t _ => n - t.toNat,⟨0,rfl,Nat.zero_le _,hNz⟩,?_⟩
  rintro t w6 ⟨k,rfl,hk,hN6⟩
  refine br_of (fun h1 => ?_) (fun h1 => ?_) <;> simp only [ZJ,ZK,ZL,ZM,ZN,ZO,ZP,ZQ,ZR] at h1
  ·refine chk_of (by simp; omega) ?_
   obtain ⟨r,x,hr,hx,hrx⟩ := ha.getL (i := k) (by omega)
   have hcg := hg.all k x hx
   refine (hs.nw hN6).idx hr ?_; intro g2 o2 _ hh2
   refine ⟨_,_,_,_,_,_,hh2,?_⟩
   refine newB_i ?_; intro b7 w7 b7_eq hB7 hN7 w7_sz; try simp only [drew_heap',dr_heap] at b7_eq hN7
   refine stores_i hB7 (by simp [sets_length]) ?_; intro w8 hB8 hF8 w8_sz; try simp only [drew_heap',dr_heap] at w8_sz hF8
   have hN78 : Nw w6.heap w8.heap := hN7.st hF8 (by omega)
   have hN8 := hN6.tr hN78
   simp only [sets,ZH,ZI] at hB8
   have en := hrx.name; have hcn := hcg.name
   simp only [holds,Z1,Z2,Z3,Z4,Z5,Z6,Z7,Z8,Z9,ZA,ZB,ZC,ZD,ZE,ZF,ZG,true_and,and_true,ZS,ZT,exists_eq',and_assoc,wv_eq,dr_cell,ZU,join_eq,br_true,br_false,chk_true,decide_true,decide_false,Bool.not_true,Bool.not_false,Nat.zero_add,sets,ZH,ZI,onPtr_some,onIface_some,onFunc_some,nilVC_iface,hB8.cell]
   rw [show decide ((r.name.size : Int) < 1) = false by rw [en]; simp; omega,show decide ((16 : Int) < (r.name.size : Int)) = false by rw [en]; simp; omega]
   simp only [br_false]
   refine chk_of (by simp; omega) ?_
   have hcut := (hs.nw hN8).cut (lo := 0) (hi := k) (mx := c) (by omega) (by omega) (by omega) (by omega)
   rw [List.drop_zero,Nat.sub_zero] at hcut
   refine (slices_ContainsFunc_api_Class_api_Class_ok (fn := F.Z38) (fa := #[]) (fb := #[.pointer (some ⟨b7,0,none⟩)]) hcut (fun y => y.name.toList == r.name.toList) (by kernel_rfl) (fun y wx _ hNx => shape_Right_1_ok (hB8.nw hNx))).mono ?_; rintro _ w9 ⟨rfl,hN9⟩
   refine ⟨_,rfl,?_⟩
   have hany : ((l.take k).any fun y => y.name.toList == r.name.toList) = false := by
    rw [List.any_eq_false]; intro y hy
    obtain ⟨j,hj,hy⟩ := List.getElem_of_mem hy
    rw [List.length_take] at hj
    have hlj : l[j]? = some y := by rw [<- hy,List.getElem_take]; exact List.getElem?_eq_getElem (by omega)
    obtain ⟨y',z,hy',hz,hyz⟩ := ha.getL (i := j) (by omega)
    rw [hlj] at hy'
    simp only [Z3] at hy'
    subst hy'
    have := hcg.dif j z (by omega) hz
    rw [hyz.name,en,this]; simp
   rw [hany,br_false]
   have hN9' := hN8.tr hN9
   refine (shape_super_ok (hs.nw hN9') (all2_class_nw ha hN9') hx hcg.sup).mono ?_; rintro _ w10 ⟨rfl,hN10⟩
   refine ⟨_,rfl,?_⟩
   simp only [Bool.not_true,br_false]
   have hN10' := hN9'.tr hN10
   have hB10 := (hB8.nw hN9).nw hN10
   refine ⟨r.binds.p,r.binds.n,r.binds.c,by rw [hB10.cell]; rfl,?_⟩
   refine (shape_binds_ok (hrx.binds.nw hN10') hcg.bnd).mono ?_; rintro _ w11 ⟨rfl,hN11⟩
   refine ⟨_,rfl,?_⟩
   simp only [Bool.not_true,br_false]
   rw [wrap_id (by omega) (by omega)]
   exact ⟨⟨k + 1,rfl,by omega,hN10'.tr hN11⟩,by (first | omega | (dsimp only; omega))⟩
  ·exact ⟨rfl,hN6⟩
end
end
section
theorem Bk.holds {w : World} {b : Nat} {cs : List Value} (hB : Bk w.heap b cs) : holds w b 0 cs := holds_i hB fun j _ => by rw [Nat.zero_add]
def uValue (v : TVal) (objects : Nat) : Bool :=
 if v.kind = 0 \/ v.kind = 1 \/ v.kind = 2 then decide (v.n = 0)
 else if v.kind = 3 then decide (-1073741824 <= v.n) && decide (v.n <= 1073741823)
 else if v.kind = 4 then decide (0 <= v.n) && decide (v.n < objects) else false
structure OGood (o : TObj) (L : List TClass) (objects : Nat) : Prop where
 cls : 1 <= o.cls /\ o.cls < L.length
 len : o.fields.length <= 62
 num : 1 < o.cls -> (o.fields.length : Int) = (L.getD o.cls.toNat default).fields
 vals : ∀ v ∈ o.fields,uValue v objects = true
structure UGood (u : TUnit) : Prop where
 len : u.names.length <= 48 /\ 1 <= u.methods.length /\ u.methods.length <= 32 /\ 1 <= u.objects.length /\ u.objects.length <= 40
 names : NamesOk u.names
 classes : LGood u.classes u.names.length u.methods.length
 dicts : ∀ c ∈ u.classes,(dOf c.binds).isSome = true
 methods : ∀ m ∈ u.methods,MGood m u.names.length u.classes.length u.methods.length
 binds : ∀ c ∈ u.classes,∀ b ∈ c.binds,nArgs (u.names.getD b.sel.toNat ⟨#[]⟩) = (u.methods.getD b.method.toNat default).args
 objects : ∀ o ∈ u.objects,OGood o u.classes u.objects.length
 main : 0 <= u.main /\ u.main < u.methods.length /\ (u.methods.getD u.main.toNat default).args = 0
theorem unit_value_ok {w : World} {v : TVal} {u : CUnit} : Calls P F.Z3g #[.agg #[.int .i64 v.kind,.int .i64 v.n],.agg #[.slice u.names.p u.names.n u.names.c,.slice u.classes.p u.classes.n u.classes.c,.slice u.methods.p u.methods.n u.methods.c,.slice u.objects.p u.objects.n u.objects.c,.int .i64 u.main]] w (Mk (.bool (uValue v u.objects.n)) w) := by
 refine oZ3g ?_
 refine newB_i ?_; intro b w1 b_eq hB hN w1_sz; try simp only [drew_heap',dr_heap] at b_eq hN
 refine newB_i ?_; intro b1 w2 b1_eq hB1 hN1 w2_sz; try simp only [drew_heap',dr_heap] at b1_eq hN1
 replace hB := hB.nw hN1
 have hN2 := hN.tr hN1
 simp only [holds,Z1,Z2,Z3,Z4,Z5,Z6,Z7,Z8,Z9,ZA,ZB,ZC,ZD,ZE,ZF,ZG,true_and,and_true,ZS,ZT,exists_eq',and_assoc,wv_eq,dr_cell,ZU,join_eq,br_true,br_false,chk_true,decide_true,decide_false,Bool.not_true,Bool.not_false,Nat.zero_add,sets,ZH,ZI,onPtr_some,onIface_some,onFunc_some,nilVC_iface,hB.cell,hB1.cell]
 unfold uValue
 refine br_of (fun h1 => ?_) (fun h1 => ?_) <;> simp only [ZJ,ZK,ZL,ZM,ZN,ZO,ZP,ZQ,ZR] at h1
 ·rw [if_pos (by omega)]; simp only [h1,decide_true,br_true]; exact ⟨rfl,hN2⟩
 ·refine br_of (fun h2 => ?_) (fun h2 => ?_) <;> simp only [ZJ,ZK,ZL,ZM,ZN,ZO,ZP,ZQ,ZR] at h2
  ·rw [if_pos (by omega)]; simp only [h2,decide_true,br_true]; exact ⟨rfl,hN2⟩
  ·refine br_of (fun h3 => ?_) (fun h3 => ?_)
   ·simp only [ZJ] at h3
    rw [if_pos (by omega)]; exact ⟨rfl,hN2⟩
   ·simp only [ZK] at h3
    rw [if_neg (by omega)]
    refine br_of (fun h4 => ?_) (fun h4 => ?_) <;> simp only [ZJ,ZK,ZL,ZM,ZN,ZO,ZP,ZQ,ZR] at h4
    ·rw [if_pos h4]
     refine br_of (fun h5 => ?_) (fun h5 => ?_) <;> simp only [ZJ,ZK,ZL,ZM,ZN,ZO,ZP,ZQ,ZR] at h5
     ·exact ⟨by simp [h5],hN2⟩
     ·exact ⟨by simp; omega,hN2⟩
    ·rw [if_neg h4]
     refine br_of (fun h5 => ?_) (fun h5 => ?_) <;> simp only [ZJ,ZK,ZL,ZM,ZN,ZO,ZP,ZQ,ZR] at h5
     ·rw [if_pos h5]
      refine br_of (fun h6 => ?_) (fun h6 => ?_) <;> simp only [ZJ,ZK,ZL,ZM,ZN,ZO,ZP,ZQ,ZR] at h6
      ·exact ⟨by simp [h6],hN2⟩
      ·exact ⟨by simp; omega,hN2⟩
     ·rw [if_neg h5]; exact ⟨rfl,hN2⟩
theorem unit_object_1_ok {w : World} {v : TVal} {u : CUnit} {b1 : Nat} (hB : Bk w.heap b1 u.vs) : Calls P F.Z3f #[.agg #[.int .i64 v.kind,.int .i64 v.n],.pointer (some ⟨b1,0,none⟩)] w (Mk (.bool (!uValue v u.objects.n)) w) := by
 refine oZ3f ?_
 refine newB_i ?_; intro b w1 b_eq hB1 hN w1_sz; try simp only [drew_heap',dr_heap] at b_eq hN
 replace hB := hB.nw hN
 simp only [holds,Z1,Z2,Z3,Z4,Z5,Z6,Z7,Z8,Z9,ZA,ZB,ZC,ZD,ZE,ZF,ZG,true_and,and_true,ZS,ZT,exists_eq',and_assoc,wv_eq,dr_cell,ZU,join_eq,br_true,br_false,chk_true,decide_true,decide_false,Bool.not_true,Bool.not_false,Nat.zero_add,sets,ZH,ZI,onPtr_some,onIface_some,onFunc_some,nilVC_iface,hB1.cell]
 simp only [holds,Z1,Z2,Z3,Z4,Z5,Z6,Z7,Z8,Z9,ZA,ZB,ZC,ZD,ZE,ZF,ZG,true_and,and_true,ZS,ZT,exists_eq',and_assoc,wv_eq,dr_cell,ZU,join_eq,br_true,br_false,chk_true,decide_true,decide_false,Bool.not_true,Bool.not_false,Nat.zero_add,sets,ZH,ZI,onPtr_some,onIface_some,onFunc_some,nilVC_iface,hB.cell]
 refine (unit_value_ok (v := v) (u := u)).mono ?_; rintro _ w2 ⟨rfl,hN2⟩
 exact ⟨_,rfl,rfl,hN.tr hN2⟩
section
variable {w : World} {ok : Nat -> Prop} {c : CUnit} {u : TUnit}
theorem unit_object_ok (hu : IsUnit w.heap ok c u) {r : CObj} {x : TObj} (hr : IsObj w.heap ok r x) (hg : OGood x u.classes u.objects.length) : Calls P F.Z29 #[.agg #[.int .i64 r.cls,.slice r.fields.p r.fields.n r.fields.c],.agg #[.slice c.names.p c.names.n c.names.c,.slice c.classes.p c.classes.n c.classes.c,.slice c.methods.p c.methods.n c.methods.c,.slice c.objects.p c.objects.n c.objects.c,.int .i64 c.main]] w (Mk (.bool true) w) := by
 refine oZ29 ?_
 refine newB_i ?_; intro b w1 b_eq hB hN w1_sz; try simp only [drew_heap',dr_heap] at b_eq hN
 refine newB_i ?_; intro b1 w2 b1_eq hB1 hN1 w2_sz; try simp only [drew_heap',dr_heap] at b1_eq hN1
 replace hB := hB.nw hN1
 have hN2 := hN.tr hN1
 obtain ⟨lc,hc,hcA⟩ := hu.classes
 obtain ⟨lo,ho',hoA⟩ := hu.objects
 have ho : c.objects.n = u.objects.length := by rw [<- ho'.len,hoA.len]
 have hcn : c.classes.n = u.classes.length := by rw [<- hc.len,hcA.len]
 have e1 := hr.cls; have e2 := hr.fields.len
 obtain ⟨g1,g2⟩ := hg.cls
 have g3 := hg.len
 rw [join_eq]
 refine ⟨r.cls,by rw [hB.cell]; rfl,?_⟩
 rw [show decide (r.cls < 1) = false by simp; omega,br_false]
 refine ⟨r.cls,by rw [hB.cell]; rfl,c.classes.p,c.classes.n,c.classes.c,by rw [hB1.cell]; rfl,?_⟩
 rw [show decide ((c.classes.n : Int) <= r.cls) = false by simp; omega,br_false]
 refine ⟨r.fields.p,r.fields.n,r.fields.c,by rw [hB.cell]; rfl,?_⟩
 rw [show decide (62 < (r.fields.n : Int)) = false by simp; omega,br_false]
 refine ⟨r.cls,by rw [World.cell?_drew,hB.cell]; rfl,?_⟩
 refine br_of (fun h1 => ?_) (fun h1 => ?_) <;> simp only [ZJ,ZK,ZL,ZM,ZN,ZO,ZP,ZQ,ZR] at h1
 ·refine ⟨r.fields.p,r.fields.n,r.fields.c,by rw [World.cell?_drew,hB.cell]; rfl,c.classes.p,c.classes.n,c.classes.c,by rw [World.cell?_drew,hB1.cell]; rfl,r.cls,by rw [World.cell?_drew,hB.cell]; rfl,?_⟩
  refine chk_of (by simp; omega) ?_
  obtain ⟨s,y,hs1,hy,hsy⟩ := hcA.getL (i := r.cls.toNat) (by omega)
  refine (hc.nw hN2).idx (w := w2.drew) hs1 ?_; intro g' o' _ hh'
  refine ⟨_,hh'.2.2.1,?_⟩
  have ey : u.classes.getD x.cls.toNat default = y := by rw [<- e1]; simp [List.getD_eq_getElem?_getD,hy]
  have hnum := hg.num (by omega)
  rw [ey] at hnum
  rw [show (!(decide ((r.fields.n : Int) = s.fields))) = false by rw [hsy.fields]; simp; omega,br_false]
  refine ⟨r.fields.p,r.fields.n,r.fields.c,by rw [World.cell?_drew,hB.cell]; rfl,?_⟩
  refine (slices_ContainsFunc_api_Val_api_Val_ok (w := w2.drew) (fn := F.Z3f) (fa := #[]) (fb := #[.pointer (some ⟨b1,0,none⟩)]) (hr.fields.nw hN2) (fun v => !uValue v c.objects.n) (by kernel_rfl) (fun x wx _ hNx => unit_object_1_ok (Bk.nw hB1 hNx))).mono ?_; rintro _ w5 ⟨rfl,hN5⟩
  refine ⟨_,rfl,?_,hN2.tr hN5⟩
  rw [show (x.fields.any fun v => !uValue v c.objects.n) = false by rw [List.any_eq_false]; intro v hv; rw [ho,hg.vals v hv]; simp]
  rfl
 ·refine ⟨r.fields.p,r.fields.n,r.fields.c,by rw [World.cell?_drew,hB.cell]; rfl,?_⟩
  refine (slices_ContainsFunc_api_Val_api_Val_ok (w := w2.drew) (fn := F.Z3f) (fa := #[]) (fb := #[.pointer (some ⟨b1,0,none⟩)]) (hr.fields.nw hN2) (fun v => !uValue v c.objects.n) (by kernel_rfl) (fun x wx _ hNx => unit_object_1_ok (Bk.nw hB1 hNx))).mono ?_; rintro _ w5 ⟨rfl,hN5⟩
  refine ⟨_,rfl,?_,hN2.tr hN5⟩
  rw [show (x.fields.any fun v => !uValue v c.objects.n) = false by rw [List.any_eq_false]; intro v hv; rw [ho,hg.vals v hv]; simp]
  rfl
theorem unit_Right_1_ok (hu : IsUnit w.heap ok c u) {b : Nat} (hB : Bk w.heap b c.vs) {r : CObj} {x : TObj} (hr : IsObj w.heap ok r x) (hg : OGood x u.classes u.objects.length) : Calls P F.Z28 #[.agg #[.int .i64 r.cls,.slice r.fields.p r.fields.n r.fields.c],.pointer (some ⟨b,0,none⟩)] w (Mk (.bool false) w) := by
 refine oZ28 ?_
 refine newB_i ?_; intro b1 w1 b1_eq hB1 hN w1_sz; try simp only [drew_heap',dr_heap] at b1_eq hN
 replace hB := hB.nw hN
 simp only [holds,Z1,Z2,Z3,Z4,Z5,Z6,Z7,Z8,Z9,ZA,ZB,ZC,ZD,ZE,ZF,ZG,true_and,and_true,ZS,ZT,exists_eq',and_assoc,wv_eq,dr_cell,ZU,join_eq,br_true,br_false,chk_true,decide_true,decide_false,Bool.not_true,Bool.not_false,Nat.zero_add,sets,ZH,ZI,onPtr_some,onIface_some,onFunc_some,nilVC_iface,hB1.cell]
 simp only [holds,Z1,Z2,Z3,Z4,Z5,Z6,Z7,Z8,Z9,ZA,ZB,ZC,ZD,ZE,ZF,ZG,true_and,and_true,ZS,ZT,exists_eq',and_assoc,wv_eq,dr_cell,ZU,join_eq,br_true,br_false,chk_true,decide_true,decide_false,Bool.not_true,Bool.not_false,Nat.zero_add,sets,ZH,ZI,onPtr_some,onIface_some,onFunc_some,nilVC_iface,hB.cell]
 refine (unit_object_ok (hu.nw hN) (hr.fr hN (fun _ _ _ h => h) (fun _ _ h => h)) hg).mono ?_; rintro _ w2 ⟨rfl,hN2⟩
 exact ⟨_,rfl,rfl,hN.tr hN2⟩
theorem unit_methods_ok (hu : IsUnit w.heap ok c u) (hg : UGood u) : Calls P F.Z26 #[.agg #[.slice c.names.p c.names.n c.names.c,.slice c.classes.p c.classes.n c.classes.c,.slice c.methods.p c.methods.n c.methods.c,.slice c.objects.p c.objects.n c.objects.c,.int .i64 c.main]] w (Mk (.int .i64 0) w) := by
 refine oZ26 ?_
 refine newB_i ?_; intro b w1 b_eq hB hN w1_sz; try simp only [drew_heap',dr_heap] at b_eq hN
 obtain ⟨lc,hc,hcA⟩ := hu.classes
 obtain ⟨lm,hm,hmA⟩ := hu.methods
 have hcn : c.classes.n = u.classes.length := by rw [<- hc.len,hcA.len]
 have hmn : c.methods.n = u.methods.length := by rw [<- hm.len,hmA.len]
 have hnn : c.names.n = u.names.length := hu.names.len.symm
 have hsm := hc.small; have hsm2 := hm.small; have hlc := hc.len; have hlm := hm.len
 refine ⟨c.classes.p,c.classes.n,c.classes.c,by rw [hB.cell]; rfl,?_⟩
 refine ⟨fun t w' => ∃ k : Nat,t = (k : Int) /\ k <= c.classes.n /\ Nw w.heap w'.heap /\ Bk w'.heap b c.vs,fun t _ => c.classes.n - t.toNat,⟨0,rfl,Nat.zero_le _,hN,hB⟩,?_⟩
 rintro t w2 ⟨k,rfl,hk,hN2,hB2⟩
 refine br_of (fun h1 => ?_) (fun h1 => ?_) <;> simp only [ZJ,ZK,ZL,ZM,ZN,ZO,ZP,ZQ,ZR] at h1
 ·refine chk_of (by simp; omega) ?_
  obtain ⟨r,x,hr,hx,hrx⟩ := hcA.getL (i := k) (by omega)
  refine (hc.nw hN2).idx hr ?_; intro g o _ hh
  refine ⟨_,_,_,_,_,_,hh,?_⟩
  refine newB_i ?_; intro b1 w3 b1_eq hB3 hN3 w3_sz; try simp only [drew_heap',dr_heap] at b1_eq hN3
  refine stores_i hB3 (by simp [sets_length]) ?_; intro w4 hB4 hF4 w4_sz; try simp only [drew_heap',dr_heap] at w4_sz hF4
  have hN4 : Nw w2.heap w4.heap := hN3.st hF4 (by omega)
  simp only [sets,ZH,ZI] at hB4
  refine ⟨r.binds.p,r.binds.n,r.binds.c,by rw [hB4.cell]; rfl,?_⟩
  have hN24 := hN2.tr hN4
  refine (dict_Of_ok (hrx.binds.nw hN24)).mono ?_; rintro _ w5 ⟨hN5,hd⟩
  have hsome := hg.dicts x (List.mem_of_getElem? hx)
  rcases hd with ⟨D,b5,hD,rfl,_⟩ | ⟨hD,_⟩
  ·refine ⟨_,_,rfl,?_⟩
   simp only [Bool.not_true,br_false]
   rw [wrap_id (by omega) (by omega)]
   exact ⟨⟨k + 1,rfl,by omega,hN24.tr hN5,(hB2.nw hN4).nw hN5⟩,by (first | omega | (dsimp only; omega))⟩
  ·rw [hD] at hsome; simp at hsome
 ·refine ⟨c.methods.p,c.methods.n,c.methods.c,by rw [hB2.cell]; rfl,?_⟩
  clear h1 hB hN
  refine ⟨fun t w' => ∃ k : Nat,t = (k : Int) /\ k <= c.methods.n /\ Nw w.heap w'.heap /\ Bk w'.heap b c.vs,fun t _ => c.methods.n - t.toNat,⟨0,rfl,Nat.zero_le _,hN2,hB2⟩,?_⟩
  rintro t w3 ⟨j,rfl,hj,hN3,hB3⟩
  refine br_of (fun h1 => ?_) (fun h1 => ?_) <;> simp only [ZJ,ZK,ZL,ZM,ZN,ZO,ZP,ZQ,ZR] at h1
  ·refine chk_of (by simp; omega) ?_
   obtain ⟨r,x,hr,hx,hrx⟩ := hmA.getL (i := j) (by omega)
   refine (hm.nw hN3).idx hr ?_; intro g o _ hh
   refine ⟨_,_,_,_,_,_,_,_,hh,?_⟩
   refine newB_i ?_; intro b1 w4 b1_eq hB4 hN4 w4_sz; try simp only [drew_heap',dr_heap] at b1_eq hN4
   refine stores_i hB4 (by simp [sets_length]) ?_; intro w5 hB5 hF5 w5_sz; try simp only [drew_heap',dr_heap] at w5_sz hF5
   have hN5 : Nw w3.heap w5.heap := hN4.st hF5 (by omega)
   simp only [sets,ZH,ZI] at hB5
   have hB35 := hB3.nw hN5
   have hN35 := hN3.tr hN5
   refine ⟨r.args,r.temps,r.lits.p,r.lits.n,r.lits.c,r.code.p,r.code.n,r.code.c,hB5.holds,?_⟩
   refine ⟨c.names.p,c.names.n,c.names.c,c.classes.p,c.classes.n,c.classes.c,c.methods.p,c.methods.n,c.methods.c,c.objects.p,c.objects.n,c.objects.c,c.main,hB35.holds,?_⟩
   refine (code_Right_ok (u := c) (hrx.nw hN35) (by rw [hnn,hcn,hmn]; exact hg.methods x (List.mem_of_getElem? hx))).mono ?_; rintro _ w6 ⟨rfl,hN6⟩
   refine ⟨_,rfl,?_⟩
   simp only [decide_true,Bool.not_true,br_false]
   rw [wrap_id (by omega) (by omega)]
   exact ⟨⟨j + 1,rfl,by omega,hN35.tr hN6,hB35.nw hN6⟩,by (first | omega | (dsimp only; omega))⟩
  ·refine ⟨c.classes.p,c.classes.n,c.classes.c,by rw [hB3.cell]; rfl,?_⟩
   refine ⟨fun t w' => ∃ k : Nat,t = (k : Int) /\ k <= c.classes.n /\ Nw w.heap w'.heap /\ Bk w'.heap b c.vs,fun t _ => c.classes.n - t.toNat,⟨0,rfl,Nat.zero_le _,hN3,hB3⟩,?_⟩
   rintro t w4 ⟨i,rfl,hi,hN4,hB4⟩
   refine br_of (fun h2 => ?_) (fun h2 => ?_) <;> simp only [ZJ,ZK,ZL,ZM,ZN,ZO,ZP,ZQ,ZR] at h2
   ·refine chk_of (by simp; omega) ?_
    obtain ⟨r,x,hr,hx,hrx⟩ := hcA.getL (i := i) (by omega)
    refine (hc.nw hN4).idx hr ?_; intro g o _ hh
    refine ⟨_,_,_,_,_,_,hh,?_⟩
    refine newB_i ?_; intro b1 w5 b1_eq hB5 hN5 w5_sz; try simp only [drew_heap',dr_heap] at b1_eq hN5
    refine stores_i hB5 (by simp [sets_length]) ?_; intro w6 hB6 hF6 w6_sz; try simp only [drew_heap',dr_heap] at w6_sz hF6
    have hN6 : Nw w4.heap w6.heap := hN5.st hF6 (by omega)
    simp only [sets,ZH,ZI] at hB6
    have hB46 := hB4.nw hN6
    have hN46 := hN4.tr hN6
    refine ⟨r.binds.p,r.binds.n,r.binds.c,by rw [hB6.cell]; rfl,?_⟩
    have hbs := hrx.binds.small; have hbl := hrx.binds.len
    refine ⟨fun t w' => ∃ k : Nat,t = (k : Int) /\ k <= r.binds.n /\ Nw w.heap w'.heap /\ Bk w'.heap b c.vs,fun t _ => r.binds.n - t.toNat,⟨0,rfl,Nat.zero_le _,hN46,hB46⟩,?_⟩
    rintro t w7 ⟨q,rfl,hq,hN7,hB7⟩
    refine br_of (fun h3 => ?_) (fun h3 => ?_) <;> simp only [ZJ,ZK,ZL,ZM,ZN,ZO,ZP,ZQ,ZR] at h3
    ·refine chk_of (by simp; omega) ?_
     have hy : x.binds[q]? = some (x.binds[q]'(by omega)) := List.getElem?_eq_getElem (by omega)
     generalize x.binds[q]'(by omega) = y at hy
     have hym := List.mem_of_getElem? hy
     have hxm := List.mem_of_getElem? hx
     obtain ⟨z1,z2,z3,z4⟩ := (hg.classes.all i x hx).bnd.rng y hym
     have hz := hg.binds x hxm y hym
     refine (hrx.binds.nw hN7).idx hy ?_; intro g1 o1 _ hh1
     refine ⟨_,_,hh1,?_⟩
     refine newB_i ?_; intro b2 w8 b2_eq hB8 hN8 w8_sz; try simp only [drew_heap',dr_heap] at b2_eq hN8
     refine stores_i hB8 (by simp [sets_length]) ?_; intro w9 hB9 hF9 w9_sz; try simp only [drew_heap',dr_heap] at w9_sz hF9
     have hN9 : Nw w7.heap w9.heap := hN8.st hF9 (by omega)
     simp only [sets,ZH,ZI] at hB9
     have hB79 := hB7.nw hN9
     have hN79 := hN7.tr hN9
     refine ⟨c.names.p,c.names.n,c.names.c,by rw [World.cell?_drew,hB79.cell]; rfl,y.sel,by rw [World.cell?_drew,hB9.cell]; rfl,?_⟩
     refine chk_of (by simp; omega) ?_
     have hs : u.names[y.sel.toNat]? = some (u.names.getD y.sel.toNat ⟨#[]⟩) := getD_some (by omega)
     refine (hu.names.nw hN79).idx1 (w := w9.drew) hs ?_; intro g2 o2 _ hh2
     refine ⟨_,hh2,c.methods.p,c.methods.n,c.methods.c,by rw [World.cell?_drew,hB79.cell]; rfl,y.method,by rw [World.cell?_drew,hB9.cell]; rfl,?_⟩
     refine chk_of (by simp; omega) ?_
     obtain ⟨rm,xm,hrm,hxm',hrxm⟩ := hmA.getL (i := y.method.toNat) (by omega)
     obtain ⟨gm,pre,post,hpm,_⟩ := hm.addr (i := y.method.toNat) (by omega)
     have hcm : ∀ w' : World,Nw w.heap w'.heap -> holds w' gm (pre.length + y.method.toNat * 4) rm.vs := fun w' hf => by
      have := (hm.nw hf).idx (K := fun g o => holds w' g (o + y.method.toNat * 4) rm.vs) hrm (fun g o _ h => h)
      rw [hpm] at this
      exact this
     rw [hpm,onPtr_some]
     have em : u.methods.getD y.method.toNat default = xm := by simp [List.getD_eq_getElem?_getD,hxm']
     refine ⟨rm.args,(hcm w9.drew hN79).1,?_⟩
     have hsz := (hg.names.1 _ (List.mem_of_getElem? hs)).2
     refine (name_Args_ok _ w9.drew (by omega)).mono ?_; rintro _ w10 ⟨rfl,hN10⟩
     replace hN10 : Nw w9.heap w10.heap := hN10
     have hBa := hB79.nw hN10; have hBb := hB9.nw hN10
     refine ⟨_,rfl,⟨(hcm w10 (hN79.tr hN10)).1,by rw [hBb.cell]; rfl,by rw [hBa.cell,<- hpm]; rfl,by rw [hBb.cell]; rfl,by rw [hBa.cell]; rfl,trivial⟩,?_⟩
     rw [hz,em,hrxm.args]
     simp only [decide_true,Bool.not_true,br_false]
     rw [wrap_id (by omega) (by omega)]
     exact ⟨⟨q + 1,rfl,by omega,hN79.tr hN10,hBa⟩,by (first | omega | (dsimp only; omega))⟩
    ·rw [wrap_id (by omega) (by omega)]
     exact ⟨⟨i + 1,rfl,by omega,hN7,hB7⟩,by (first | omega | (dsimp only; omega))⟩
   ·exact ⟨rfl,hN4⟩
theorem unit_Right_ok (hu : IsUnit w.heap ok c u) (hg : UGood u) : Calls P F.Z17 #[.agg #[.slice c.names.p c.names.n c.names.c,.slice c.classes.p c.classes.n c.classes.c,.slice c.methods.p c.methods.n c.methods.c,.slice c.objects.p c.objects.n c.objects.c,.int .i64 c.main]] w (Mk (.int .i64 0) w) := by
 refine oZ17 ?_
 refine newB_i ?_; intro b w1 b_eq hB hN w1_sz; try simp only [drew_heap',dr_heap] at b_eq hN
 obtain ⟨lc,hc,hcA⟩ := hu.classes
 obtain ⟨lm,hm,hmA⟩ := hu.methods
 obtain ⟨lo,ho,hoA⟩ := hu.objects
 have hcn : c.classes.n = u.classes.length := by rw [<- hc.len,hcA.len]
 have hmn : c.methods.n = u.methods.length := by rw [<- hm.len,hmA.len]
 have hon : c.objects.n = u.objects.length := by rw [<- ho.len,hoA.len]
 have hnn : c.names.n = u.names.length := hu.names.len.symm
 obtain ⟨g1,g2,g3,g4,g5⟩ := hg.len
 rw [join_eq]
 refine ⟨_,_,_,by rw [hB.cell]; rfl,?_⟩
 rw [show decide (48 < (c.names.n : Int)) = false by simp; omega,br_false]
 refine ⟨_,_,_,by rw [hB.cell]; rfl,?_⟩
 rw [show decide ((c.methods.n : Int) < 1) = false by simp; omega,br_false]
 refine ⟨_,_,_,by rw [hB.cell]; rfl,?_⟩
 rw [show decide (32 < (c.methods.n : Int)) = false by simp; omega,br_false]
 refine ⟨_,_,_,by rw [hB.cell]; rfl,?_⟩
 rw [show decide ((c.objects.n : Int) < 1) = false by simp; omega,br_false]
 refine ⟨_,_,_,by rw [hB.cell]; rfl,?_⟩
 rw [show decide (40 < (c.objects.n : Int)) = false by simp; omega,br_false]
 refine ⟨_,_,_,by rw [hB.cell]; rfl,?_⟩
 refine (unit_names_ok (hu.names.nw hN) hg.names).mono ?_; rintro _ w2 ⟨rfl,hN2⟩
 refine ⟨_,rfl,?_⟩
 simp only [decide_true,Bool.not_true,br_false]
 have hB2 := hB.nw hN2; have hN02 := hN.tr hN2
 refine ⟨_,_,_,by rw [hB2.cell]; rfl,_,_,_,by rw [hB2.cell]; rfl,_,_,_,by rw [hB2.cell]; rfl,?_⟩
 refine (shape_Right_ok (hc.nw hN02) (all2_class_nw hcA hN02) (by rw [hnn,hmn]; exact hg.classes)).mono ?_; rintro _ w3 ⟨rfl,hN3⟩
 refine ⟨_,rfl,?_⟩
 simp only [decide_true,Bool.not_true,br_false]
 have hB3 := hB2.nw hN3; have hN03 := hN02.tr hN3
 refine ⟨c.names.p,c.names.n,c.names.c,c.classes.p,c.classes.n,c.classes.c,c.methods.p,c.methods.n,c.methods.c,c.objects.p,c.objects.n,c.objects.c,c.main,hB3.holds,?_⟩
 refine (unit_methods_ok (hu.nw hN03) hg).mono ?_; rintro _ w4 ⟨rfl,hN4⟩
 refine ⟨_,rfl,?_⟩
 simp only [decide_true,Bool.not_true,br_false]
 have hB4 := hB3.nw hN4; have hN04 := hN03.tr hN4
 refine ⟨_,_,_,by rw [hB4.cell]; rfl,?_⟩
 refine (slices_ContainsFunc_api_Obj_api_Obj_ok (fn := F.Z28) (fa := #[]) (fb := #[.pointer (some ⟨b,0,none⟩)]) (ho.nw hN04) (fun _ => false) (by kernel_rfl) (fun r wx hr hNx => ?_)).mono ?_
 ·obtain ⟨i,hi⟩ := List.getElem?_of_mem hr
  have hil := (List.getElem?_eq_some_iff.1 hi).1
  obtain ⟨r',x,hr',hx,hrx⟩ := hoA.getL (i := i) (by have := hoA.len; omega)
  rw [hi] at hr'
  simp only [Z3] at hr'
  subst hr'
  have hNx' := hN04.tr hNx
  exact unit_Right_1_ok (hu.nw hNx') (hB4.nw hNx) (hrx.fr hNx' (fun _ _ _ h => h) (fun _ _ h => h)) (hg.objects x (List.mem_of_getElem? hx))
 rintro _ w5 ⟨rfl,hN5⟩
 refine ⟨_,rfl,?_⟩
 rw [show (lo.any fun _ => false) = false by simp,br_false]
 have hB5 := hB4.nw hN5; have hN05 := hN04.tr hN5
 obtain ⟨m1,m2,m3⟩ := hg.main
 have em := hu.main
 refine ⟨_,by rw [hB5.cell]; rfl,?_⟩
 rw [show decide (c.main < 0) = false by simp; omega,br_false]
 refine ⟨_,by rw [hB5.cell]; rfl,_,_,_,by rw [hB5.cell]; rfl,?_⟩
 rw [show decide ((c.methods.n : Int) <= c.main) = false by simp; omega,br_false]
 refine ⟨_,_,_,by rw [hB5.cell]; rfl,_,by rw [hB5.cell]; rfl,chk_of (by simp; omega) ?_⟩
 obtain ⟨rm,xm,hrm,hxm,hrxm⟩ := hmA.getL (i := c.main.toNat) (by omega)
 refine (hm.nw hN05).idx hrm ?_; intro g o _ hh
 refine ⟨_,hh.1,?_⟩
 have ex : u.methods.getD u.main.toNat default = xm := by rw [<- em]; simp [List.getD_eq_getElem?_getD,hxm]
 rw [ex] at m3
 rw [hrxm.args,m3]
 simp only [decide_true,Bool.not_true,br_false]
 exact ⟨rfl,hN05⟩
end
theorem unit_Right_zero (w : World) : Calls P F.Z17 #[.agg #[.slice none 0 0,.slice none 0 0,.slice none 0 0,.slice none 0 0,.int .i64 0]] w (Mk (.int .i64 3) w) := by
 refine oZ17 ?_
 refine newB_i ?_; intro b w1 b_eq hB hN w1_sz; try simp only [drew_heap',dr_heap] at b_eq hN
 rw [join_eq]
 refine ⟨_,_,_,by rw [hB.cell]; rfl,?_⟩
 rw [show decide (48 < ((0 : Nat) : Int)) = false by decide,br_false]
 refine ⟨_,_,_,by rw [hB.cell]; rfl,?_⟩
 rw [show decide (((0 : Nat) : Int) < 1) = true by decide,br_true]
 exact ⟨rfl,hN⟩
end
end Go.Proofs.YtbedadcbbnmpkaaGreatDoor
