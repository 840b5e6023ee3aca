/- Part 6 of what the proof rests on: VcQueue, SpQueue, SpWord, VcStore, SpStore, SpLoad. No condition. -/
import Derived.Test.YtbedadcbbnmpkaaGreatDoorAe
set_option linter.unusedSimpArgs false
set_option linter.unusedVariables false
namespace Go.Proofs.YtbedadcbbnmpkaaGreatDoor
open Go Vc
section
variable {w : World} {R : Ending -> World -> Prop}
def vZl  (w : World) (R : Value -> World -> Prop) : Prop :=
 newB w #[.slice none 0 0,.slice none 0 0,.slice none 0 0,.slice none 0 0,.slice none 0 0,.slice none 0 0,.slice none 0 0,.slice none 0 0,.int .i64 0,.int .i64 0,.int .i64 0,.int .i64 0,.slice none 0 0,.int .i64 0,.int .i64 0,.int .i64 0,.int .i64 0,.int .i64 0,.int .i64 0,.bool false,.bool false,.bool false,.bool false,.bool false,.bool false] T.queue_Queue fun b u =>
 R (.pointer (some ⟨b,0,none⟩)) u
theorem oZl  (h : vZl  w fun v w' => R (.returned v) w') : Calls P F.Zl #[] w R :=
 calls_of_eq (A := ⟨[],[]⟩) mixed Tryz.func24 (by kernel_rfl) (by kernel_rfl) h
def vZq (q : Nat) (p : Int) (level : Int) (w : World) (R : Value -> World -> Prop) : Prop :=
 join (fun (t : Unit) (u : World) =>
 wv u.drew fun u1 =>
 chk (decide (0 <= p) && decide (p < 6)) (
 stores u1 q (19 + p.toNat * 1) [.bool true] fun u2 =>
 True /\
 chk (decide (0 <= p) && decide (p < 6)) (
 stores u2 q (13 + p.toNat * 1) [.int .i64 level] fun u3 =>
 True /\
 Calls P F.Z1o #[.pointer (some ⟨q,0,none⟩),.int .i64 p] u3 fun en u4 => en = .returned (.tuple #[]) /\
 R (.bool true) u4))) fun J3 =>
 Calls P F.Z1n #[.int .i64 p] w fun en u5 => ∃ x,en = .returned (.bool x) /\
 br (!x) (
 R (.bool false) u5) (
 chk (decide (0 <= p) && decide (p < 6)) (
 ∃ x1,u5.cell? ⟨q,19 + p.toNat * 1,none⟩ = some (.bool x1) /\
 br x1 (
 R (.bool false) u5) (
 br (decide (level < 0)) (
 R (.bool false) u5) (
 br (decide (4 <= level)) (
 R (.bool false) u5) (
 J3 () u5)))))
theorem oZq {q : Nat} {p : Int} {level : Int} (h : vZq q p level w fun v w' => R (.returned v) w') : Calls P F.Zq #[.pointer (some ⟨q,0,none⟩),.int .i64 p,.int .i64 level] w R :=
 calls_of_eq (A := ⟨[],[(3,[])]⟩) mixed Tryz.func29 (by kernel_rfl) (by kernel_rfl) h
def vZr (q : Nat) (w : World) (R : Value -> World -> Prop) : Prop :=
 ∃ (I : Int -> World -> Prop) (μ : Int -> World -> Nat),I 3 w /\
 ∀ (t : Int) (u : World),I t u ->
 br (decide (0 <= t)) (
 chk (decide (0 <= t) && decide (t < 4)) (
 ∃ px nx cx,u.cell? ⟨q,0 + t.toNat * 1,none⟩ = some (.slice px nx cx) /\
 br (decide (0 < (nx : Int))) (
 chk (decide (0 <= t) && decide (t < 4)) (
 ∃ px1 nx1 cx1,u.cell? ⟨q,0 + t.toNat * 1,none⟩ = some (.slice px1 nx1 cx1) /\
 chk (decide (0 <= 0) && decide (0 < (nx1 : Int))) (
 onPtr px1 fun g o =>
 ∃ x,u.cell? ⟨g,o,none⟩ = some (.int .i64 x) /\
 R (.int .i64 x) u))) (
 I (IntKind.wrap .i64 (t - 1)) u /\ μ (IntKind.wrap .i64 (t - 1)) u < μ t u))) (
 R (.int .i64 (-1)) u)
theorem oZr {q : Nat} (h : vZr q w fun v w' => R (.returned v) w') : Calls P F.Zr #[.pointer (some ⟨q,0,none⟩)] w R :=
 calls_of_eq (A := ⟨[(2,[(3,(.int .i64))])],[]⟩) mixed Tryz.func30 (by kernel_rfl) (by kernel_rfl) h
def vZ11 (q : Nat) (sem : Int) (w : World) (R : Value -> World -> Prop) : Prop :=
 br (decide (sem < 0)) (
 R (.int .i64 (-1)) w) (
 br (decide (4 <= sem)) (
 R (.int .i64 (-1)) w) (
 chk (decide (0 <= sem) && decide (sem < 4)) (
 ∃ px nx cx,w.cell? ⟨q,4 + sem.toNat * 1,none⟩ = some (.slice px nx cx) /\
 br (decide ((nx : Int) = 0)) (
 wv w.drew fun u =>
 chk (decide (0 <= sem) && decide (sem < 4)) (
 ∃ x,u.cell? ⟨q,8 + sem.toNat * 1,none⟩ = some (.int .i64 x) /\
 chk (decide (0 <= sem) && decide (sem < 4)) (
 stores u q (8 + sem.toNat * 1) [.int .i64 (if 1048576 < (IntKind.wrap .i64 (x + 1)) then 1048576 else IntKind.wrap .i64 (x + 1))] fun u1 =>
 True /\
 R (.int .i64 (-1)) u1))) (
 chk (decide (0 <= sem) && decide (sem < 4)) (
 ∃ px1 nx1 cx1,w.cell? ⟨q,4 + sem.toNat * 1,none⟩ = some (.slice px1 nx1 cx1) /\
 chk (decide (0 <= 0) && decide (0 < (nx1 : Int))) (
 onPtr px1 fun g o =>
 ∃ x1,w.cell? ⟨g,o,none⟩ = some (.int .i64 x1) /\
 wv w.drew fun u2 =>
 chk (decide (0 <= sem) && decide (sem < 4)) (
 ∃ px2 nx2 cx2,u2.cell? ⟨q,4 + sem.toNat * 1,none⟩ = some (.slice px2 nx2 cx2) /\
 chk (decide (0 <= 1) && decide (1 <= (nx2 : Int)) && decide ((nx2 : Int) <= (cx2 : Int)) && decide ((cx2 : Int) <= (cx2 : Int))) (
 Calls P F.Z23 #[.slice (cutAt px2 (Int.toNat (cx2 : Int)) (Int.toNat 1) 1) (Int.toNat (nx2 : Int) - Int.toNat 1) (Int.toNat (cx2 : Int) - Int.toNat 1)] u2 fun en u3 => ∃ px3 nx3 cx3,en = .returned (.slice px3 nx3 cx3) /\
 ((u3.cell? ⟨q,4 + sem.toNat * 1,none⟩ = some (.slice px2 nx2 cx2)) /\ True) /\
 chk (decide (0 <= sem) && decide (sem < 4)) (
 stores u3 q (4 + sem.toNat * 1) [.slice px3 nx3 cx3] fun u4 =>
 True /\
 Calls P F.Z1o #[.pointer (some ⟨q,0,none⟩),.int .i64 x1] u4 fun en u5 => en = .returned (.tuple #[]) /\
 R (.int .i64 x1) u5)))))))))
theorem oZ11 {q : Nat} {sem : Int} (h : vZ11 q sem w fun v w' => R (.returned v) w') : Calls P F.Z11 #[.pointer (some ⟨q,0,none⟩),.int .i64 sem] w R :=
 calls_of_eq (A := ⟨[],[]⟩) mixed Tryz.func40 (by kernel_rfl) (by kernel_rfl) h
def vZ1n (p : Int) (w : World) (R : Value -> World -> Prop) : Prop :=
 br (decide (0 <= p)) (
 R (.bool (decide (p < 6))) w) (
 R (.bool false) w)
theorem oZ1n {p : Int} (h : vZ1n p w fun v w' => R (.returned v) w') : Calls P F.Z1n #[.int .i64 p] w R :=
 calls_of_eq (A := ⟨[],[]⟩) mixed Tryz.func62 (by kernel_rfl) (by kernel_rfl) h
def vZ1o (q : Nat) (p : Int) (w : World) (R : Value -> World -> Prop) : Prop :=
 wv w.drew fun u =>
 chk (decide (0 <= p) && decide (p < 6)) (
 ∃ x,u.cell? ⟨q,13 + p.toNat * 1,none⟩ = some (.int .i64 x) /\
 chk (decide (0 <= p) && decide (p < 6)) (
 ∃ x1,u.cell? ⟨q,13 + p.toNat * 1,none⟩ = some (.int .i64 x1) /\
 chk (decide (0 <= x1) && decide (x1 < 4)) (
 ∃ px nx cx,u.cell? ⟨q,0 + x1.toNat * 1,none⟩ = some (.slice px nx cx) /\
 newB u #[.int .i64 p] T.int fun b u1 =>
 ((u1.cell? ⟨q,0 + x1.toNat * 1,none⟩ = some (.slice px nx cx)) /\ (u1.cell? ⟨q,13 + p.toNat * 1,none⟩ = some (.int .i64 x1)) /\ (u1.cell? ⟨q,13 + p.toNat * 1,none⟩ = some (.int .i64 x)) /\ True) /\
 ∃ px1 nx1 cx1 u2,(Builtin.append_ #[T.sl_int,T.sl_int] T.sl_int #[.slice px nx cx,.slice (some ⟨b,0,none⟩) 1 1]).run P u1 = .ok (.slice px1 nx1 cx1) u2 /\ Aft u1 u2 /\
 ((u2.cell? ⟨q,13 + p.toNat * 1,none⟩ = some (.int .i64 x1)) /\ (u2.cell? ⟨q,13 + p.toNat * 1,none⟩ = some (.int .i64 x)) /\ True) /\
 chk (decide (0 <= x) && decide (x < 4)) (
 stores u2 q (0 + x.toNat * 1) [.slice px1 nx1 cx1] fun u3 =>
 True /\
 R (.tuple #[]) u3))))
theorem oZ1o {q : Nat} {p : Int} (h : vZ1o q p w fun v w' => R (.returned v) w') : Calls P F.Z1o #[.pointer (some ⟨q,0,none⟩),.int .i64 p] w R :=
 calls_of_eq (A := ⟨[],[]⟩) mixed Tryz.func63 (by kernel_rfl) (by kernel_rfl) h
def vZ21 (q : Nat) (w : World) (R : Value -> World -> Prop) : Prop :=
 Calls P F.Z33 #[.pointer (some ⟨q,0,none⟩)] w fun en u => ∃ x,en = .returned (.int .i64 x) /\
 br (decide (0 <= x)) (
 chk (decide (0 <= x) && decide (x < 6)) (
 stores u q (19 + x.toNat * 1) [.bool false] fun u1 =>
 R (.int .i64 x) u1)) (
 R (.int .i64 x) u)
theorem oZ21 {q : Nat} (h : vZ21 q w fun v w' => R (.returned v) w') : Calls P F.Z21 #[.pointer (some ⟨q,0,none⟩)] w R :=
 calls_of_eq (A := ⟨[],[]⟩) mixed Tryz.func76 (by kernel_rfl) (by kernel_rfl) h
def vZ33 (q : Nat) (w : World) (R : Value -> World -> Prop) : Prop :=
 Calls P F.Zr #[.pointer (some ⟨q,0,none⟩)] w fun en u => ∃ x,en = .returned (.int .i64 x) /\
 br (decide (0 <= x)) (
 wv u.drew fun u1 =>
 chk (decide (0 <= x) && decide (x < 6)) (
 ∃ x1,u1.cell? ⟨q,13 + x.toNat * 1,none⟩ = some (.int .i64 x1) /\
 chk (decide (0 <= x) && decide (x < 6)) (
 ∃ x2,u1.cell? ⟨q,13 + x.toNat * 1,none⟩ = some (.int .i64 x2) /\
 chk (decide (0 <= x2) && decide (x2 < 4)) (
 ∃ px nx cx,u1.cell? ⟨q,0 + x2.toNat * 1,none⟩ = some (.slice px nx cx) /\
 chk (decide (0 <= 1) && decide (1 <= (nx : Int)) && decide ((nx : Int) <= (cx : Int)) && decide ((cx : Int) <= (cx : Int))) (
 Calls P F.Z23 #[.slice (cutAt px (Int.toNat (cx : Int)) (Int.toNat 1) 1) (Int.toNat (nx : Int) - Int.toNat 1) (Int.toNat (cx : Int) - Int.toNat 1)] u1 fun en u2 => ∃ px1 nx1 cx1,en = .returned (.slice px1 nx1 cx1) /\
 ((u2.cell? ⟨q,0 + x2.toNat * 1,none⟩ = some (.slice px nx cx)) /\ (u2.cell? ⟨q,13 + x.toNat * 1,none⟩ = some (.int .i64 x2)) /\ (u2.cell? ⟨q,13 + x.toNat * 1,none⟩ = some (.int .i64 x1)) /\ True) /\
 chk (decide (0 <= x1) && decide (x1 < 4)) (
 stores u2 q (0 + x1.toNat * 1) [.slice px1 nx1 cx1] fun u3 =>
 True /\
 R (.int .i64 x) u3)))))) (
 R (.int .i64 x) u)
theorem oZ33 {q : Nat} (h : vZ33 q w fun v w' => R (.returned v) w') : Calls P F.Z33 #[.pointer (some ⟨q,0,none⟩)] w R :=
 calls_of_eq (A := ⟨[],[]⟩) mixed Tryz.func114 (by kernel_rfl) (by kernel_rfl) h
def vZ3t (q : Nat) (w : World) (R : Value -> World -> Prop) : Prop :=
 Calls P F.Z33 #[.pointer (some ⟨q,0,none⟩)] w fun en u => ∃ x,en = .returned (.int .i64 x) /\
 br (decide (0 <= x)) (
 Calls P F.Z1o #[.pointer (some ⟨q,0,none⟩),.int .i64 x] u fun en u1 => en = .returned (.tuple #[]) /\
 R (.bool (decide (0 <= x))) u1) (
 R (.bool (decide (0 <= x))) u)
theorem oZ3t {q : Nat} (h : vZ3t q w fun v w' => R (.returned v) w') : Calls P F.Z3t #[.pointer (some ⟨q,0,none⟩)] w R :=
 calls_of_eq (A := ⟨[],[]⟩) mixed Tryz.func141 (by kernel_rfl) (by kernel_rfl) h
def vZ3u (q : Nat) (sem : Int) (w : World) (R : Value -> World -> Prop) : Prop :=
 br (decide (sem < 0)) (
 R (.bool false) w) (
 br (decide (4 <= sem)) (
 R (.bool false) w) (
 Calls P F.Zr #[.pointer (some ⟨q,0,none⟩)] w fun en u => ∃ x,en = .returned (.int .i64 x) /\
 br (decide (x < 0)) (
 R (.bool false) u) (
 chk (decide (0 <= sem) && decide (sem < 4)) (
 ∃ x1,u.cell? ⟨q,8 + sem.toNat * 1,none⟩ = some (.int .i64 x1) /\
 br (decide (0 < x1)) (
 wv u.drew fun u1 =>
 chk (decide (0 <= sem) && decide (sem < 4)) (
 ∃ x2,u1.cell? ⟨q,8 + sem.toNat * 1,none⟩ = some (.int .i64 x2) /\
 chk (decide (0 <= sem) && decide (sem < 4)) (
 stores u1 q (8 + sem.toNat * 1) [.int .i64 (IntKind.wrap .i64 (x2 - 1))] fun u2 =>
 True /\
 R (.bool true) u2))) (
 wv u.drew fun u3 =>
 chk (decide (0 <= sem) && decide (sem < 4)) (
 ∃ px nx cx,u3.cell? ⟨q,4 + sem.toNat * 1,none⟩ = some (.slice px nx cx) /\
 Calls P F.Z33 #[.pointer (some ⟨q,0,none⟩)] u3 fun en u4 => ∃ x3,en = .returned (.int .i64 x3) /\
 ((u4.cell? ⟨q,4 + sem.toNat * 1,none⟩ = some (.slice px nx cx)) /\ True) /\
 newB u4 #[.int .i64 x3] T.int fun b u5 =>
 ((u5.cell? ⟨q,4 + sem.toNat * 1,none⟩ = some (.slice px nx cx)) /\ True) /\
 ∃ px1 nx1 cx1 u6,(Builtin.append_ #[T.sl_int,T.sl_int] T.sl_int #[.slice px nx cx,.slice (some ⟨b,0,none⟩) 1 1]).run P u5 = .ok (.slice px1 nx1 cx1) u6 /\ Aft u5 u6 /\
 True /\
 chk (decide (0 <= sem) && decide (sem < 4)) (
 stores u6 q (4 + sem.toNat * 1) [.slice px1 nx1 cx1] fun u7 =>
 True /\
 R (.bool true) u7)))))))
theorem oZ3u {q : Nat} {sem : Int} (h : vZ3u q sem w fun v w' => R (.returned v) w') : Calls P F.Z3u #[.pointer (some ⟨q,0,none⟩),.int .i64 sem] w R :=
 calls_of_eq (A := ⟨[],[]⟩) mixed Tryz.func142 (by kernel_rfl) (by kernel_rfl) h
def vZ3v (q : Nat) (until_ : Int) (w : World) (R : Value -> World -> Prop) : Prop :=
 Calls P F.Z33 #[.pointer (some ⟨q,0,none⟩)] w fun en u => ∃ x,en = .returned (.int .i64 x) /\
 br (decide (0 <= x)) (
 ∃ px nx cx,u.cell? ⟨q,12,none⟩ = some (.slice px nx cx) /\
 newB u #[.int .i64 x,.int .i64 until_] T.queue_sleeper fun b u1 =>
 ∃ px1 nx1 cx1 u2,(Builtin.append_ #[T.sl_queue_sleeper,T.sl_queue_sleeper] T.sl_queue_sleeper #[.slice px nx cx,.slice (some ⟨b,0,none⟩) 1 1]).run P u1 = .ok (.slice px1 nx1 cx1) u2 /\ Aft u1 u2 /\
 stores u2 q 12 [.slice px1 nx1 cx1] fun u3 =>
 R (.bool (decide (0 <= x))) u3) (
 R (.bool (decide (0 <= x))) u)
theorem oZ3v {q : Nat} {until_ : Int} (h : vZ3v q until_ w fun v w' => R (.returned v) w') : Calls P F.Z3v #[.pointer (some ⟨q,0,none⟩),.int .i64 until_] w R :=
 calls_of_eq (A := ⟨[],[]⟩) mixed Tryz.func143 (by kernel_rfl) (by kernel_rfl) h
end
section
structure TQueue where
 ready : List (List Int)
 waits : List (List Int)
 counts : List Int
 sleeps : List (Int × Int)
 level : List Int
 inn : List Bool
 deriving DecidableEq,Repr,Inhabited
def qNew : TQueue := ⟨[[],[],[],[]],[[],[],[],[]],[0,0,0,0],[],[0,0,0,0,0,0],[false,false,false,false,false,false]⟩
def TQueue.lev (q : TQueue) (p : Int) : Int := q.level.getD p.toNat 0
def TQueue.rd (q : TQueue) (i : Int) : List Int := q.ready.getD i.toNat []
def TQueue.wt (q : TQueue) (i : Int) : List Int := q.waits.getD i.toNat []
def TQueue.setRd (q : TQueue) (i : Int) (l : List Int) : TQueue := { q with ready := q.ready.set i.toNat l }
def qFirstAt (r : List (List Int)) : Nat -> Int
 | 0 => -1
 | n + 1 => match r.getD n [] with
  | p :: _ => p
  | [] => qFirstAt r n
def qFirst (q : TQueue) : Int := qFirstAt q.ready 4
def qLast (q : TQueue) (p : Int) : TQueue := q.setRd (q.lev p) (q.rd (q.lev p) ++ [p])
def qTake (q : TQueue) : Int × TQueue := if 0 <= qFirst q then (qFirst q,q.setRd (q.lev (qFirst q)) (q.rd (q.lev (qFirst q))).tail) else (qFirst q,q)
def qReady (q : TQueue) (p level : Int) : TQueue :=
 if 0 <= p /\ p < 6 /\ q.inn.getD p.toNat false = false /\ 0 <= level /\ level < 4 then qLast { q with inn := q.inn.set p.toNat true,level := q.level.set p.toNat level } p else q
def qTurn (q : TQueue) : TQueue := if 0 <= (qTake q).1 then qLast (qTake q).2 (qTake q).1 else q
def qWait (q : TQueue) (s : Int) : TQueue :=
 if s < 0 \/ 4 <= s \/ qFirst q < 0 then q
 else if 0 < q.counts.getD s.toNat 0 then { q with counts := q.counts.set s.toNat (IntKind.wrap .i64 (q.counts.getD s.toNat 0 - 1)) }
 else { (qTake q).2 with waits := q.waits.set s.toNat (q.wt s ++ [(qTake q).1]) }
def qPost (q : TQueue) (s : Int) : TQueue :=
 if s < 0 \/ 4 <= s then q
 else match q.wt s with
  | [] => { q with counts := q.counts.set s.toNat (if 1048576 < IntKind.wrap .i64 (q.counts.getD s.toNat 0 + 1) then 1048576 else IntKind.wrap .i64 (q.counts.getD s.toNat 0 + 1)) }
  | p :: r => qLast { q with waits := q.waits.set s.toNat r } p
def qSleep (q : TQueue) (t : Int) : TQueue := if 0 <= (qTake q).1 then { (qTake q).2 with sleeps := q.sleeps ++ [((qTake q).1,t)] } else q
def qEnd (q : TQueue) : TQueue := if 0 <= (qTake q).1 then { (qTake q).2 with inn := q.inn.set (qTake q).1.toNat false } else q
def qAll (q : TQueue) : List Int := q.ready.flatten ++ (q.waits.flatten ++ q.sleeps.map Prod.fst)
structure QLen (q : TQueue) : Prop where
 n1 : q.ready.length = 4
 n2 : q.waits.length = 4
 n3 : q.counts.length = 4
 n4 : q.level.length = 6
 n5 : q.inn.length = 6
 lev : ∀ p : Nat,p < 6 -> 0 <= q.level.getD p 0 /\ q.level.getD p 0 < 4
structure QInv (q : TQueue) : Prop extends QLen q where
 rdy : ∀ (i : Nat) (p : Int),p ∈ q.ready.getD i [] -> q.lev p = i
 rng : ∀ p ∈ qAll q,0 <= p /\ p < 6 /\ q.inn.getD p.toNat false = true
 nd : (qAll q).Nodup
abbrev eSleep : Enc (Int × Int) := ⟨fun v => [.int .i64 v.1,.int .i64 v.2],2,fun _ => rfl,fun x u hu => by simp at hu; rcases hu with rfl | rfl <;> rfl,by omega⟩
theorem ty_sleep : SlTy P T.sl_queue_sleeper T.queue_sleeper eSleep := .mk' (z := .agg #[.int .i64 0,.int .i64 0]) (s := 2) (b := 16) (by kernel_rfl) (by kernel_rfl) rfl (by omega) rfl
def qcells (H1 H2 : List Hd) (cn : List Int) (hs : Hd) (lv : List Int) (i : List Bool) : List Value :=
 H1.map Hd.v ++ (H2.map Hd.v ++ (cn.map (Value.int .i64) ++ ([hs.v] ++ (lv.map (Value.int .i64) ++ i.map Value.bool))))
structure QueueC (h : Hp) (ok : Nat -> Prop) (b : Nat) (q : TQueue) (H1 H2 : List Hd) (hs : Hd) (κ : Nat -> Nat) : Prop where
 bk : Bk h b (qcells H1 H2 q.counts hs q.level q.inn)
 m1 : H1.length = 4
 m2 : H2.length = 4
 okb : ok b
 kb : κ b = 0
 rd : ∀ (i : Nat) (d : Hd) (l : List Int),H1[i]? = some d -> q.ready[i]? = some l -> SlH h (fun y => ok y /\ κ y = 1 + i) eI64 d l
 wt : ∀ (i : Nat) (d : Hd) (l : List Int),H2[i]? = some d -> q.waits[i]? = some l -> SlH h (fun y => ok y /\ κ y = 5 + i) eI64 d l
 sl : SlH h (fun y => ok y /\ κ y = 9) eSleep hs q.sleeps
def IsQueue (h : Hp) (ok : Nat -> Prop) (b : Nat) (q : TQueue) : Prop := ∃ H1 H2 hs κ,QueueC h ok b q H1 H2 hs κ
section
variable {h h' : Hp} {ok ok' S : Nat -> Prop} {b : Nat} {q : TQueue} {H1 H2 : List Hd} {hs : Hd} {κ : Nat -> Nat}
theorem QueueC.mk' (hp : QueueC h ok b q H1 H2 hs κ) : IsQueue h ok b q := ⟨H1,H2,hs,κ,hp⟩
theorem QueueC.fr (hp : QueueC h ok b q H1 H2 hs κ) (hf : Fr S h h') (hd : ∀ y,y < h.size -> ok y -> ¬ S y) (hok : ∀ y,y < h.size -> ok y -> ok' y) : QueueC h' ok' b q H1 H2 hs κ :=
 ⟨hp.bk.fr hf (hd _ hp.bk.lt hp.okb),hp.m1,hp.m2,hok _ hp.bk.lt hp.okb,hp.kb,fun i d l hi hl => (hp.rd i d l hi hl).fr hf (fun y hy h => hd y hy h.1) (fun y hy h => ⟨hok y hy h.1,h.2⟩),
  fun i d l hi hl => (hp.wt i d l hi hl).fr hf (fun y hy h => hd y hy h.1) (fun y hy h => ⟨hok y hy h.1,h.2⟩),hp.sl.fr hf (fun y hy h => hd y hy h.1) (fun y hy h => ⟨hok y hy h.1,h.2⟩)⟩
theorem IsQueue.fr (hp : IsQueue h ok b q) (hf : Fr S h h') (hd : ∀ y,y < h.size -> ok y -> ¬ S y) (hok : ∀ y,y < h.size -> ok y -> ok' y) : IsQueue h' ok' b q := by
 obtain ⟨H1,H2,hs,κ,hp⟩ := hp
 exact (hp.fr hf hd hok).mk'
theorem QueueC.nw (hp : QueueC h ok b q H1 H2 hs κ) (hf : Nw h h') : QueueC h' ok b q H1 H2 hs κ := hp.fr hf (fun _ _ _ h => h) fun _ _ h => h
theorem IsQueue.nw (hp : IsQueue h ok b q) (hf : Nw h h') : IsQueue h' ok b q := hp.fr hf (fun _ _ _ h => h) fun _ _ h => h
theorem QueueC.same (hp : QueueC h ok b q H1 H2 hs κ) : IsQueue h (Old ok h) b q := (hp.fr (Fr.refl (fun _ => False) h) (fun _ _ _ h => h) fun _ _ h => .inl h).mk'
theorem IsQueue.same (hp : IsQueue h ok b q) : IsQueue h (Old ok h) b q := hp.fr (Fr.refl (fun _ => False) h) (fun _ _ _ h => h) fun _ _ h => .inl h
theorem QueueC.upd (hp : QueueC h ok b q H1 H2 hs κ) {q' : TQueue} {H1' H2' : List Hd} {hs' : Hd} (t : Nat) (hf : Fr S h h') (hS : ∀ y,y < h.size -> ok y -> S y -> κ y = 0 \/ κ y = t)
  (hB : Bk h' b (qcells H1' H2' q'.counts hs' q'.level q'.inn)) (m1 : H1'.length = 4) (m2 : H2'.length = 4)
  (hr : ∀ (i : Nat) (d : Hd) (l : List Int),H1'[i]? = some d -> q'.ready[i]? = some l -> (H1[i]? = some d /\ q.ready[i]? = some l /\ 1 + i ≠ t) \/ (1 + i = t /\ SlH h' (fun y => Old ok h y /\ ret κ h.size t y = t) eI64 d l))
  (hw : ∀ (i : Nat) (d : Hd) (l : List Int),H2'[i]? = some d -> q'.waits[i]? = some l -> (H2[i]? = some d /\ q.waits[i]? = some l /\ 5 + i ≠ t) \/ (5 + i = t /\ SlH h' (fun y => Old ok h y /\ ret κ h.size t y = t) eI64 d l))
  (hl : (hs' = hs /\ q'.sleeps = q.sleeps /\ t ≠ 9) \/ (t = 9 /\ SlH h' (fun y => Old ok h y /\ ret κ h.size t y = t) eSleep hs' q'.sleeps)) : QueueC h' (Old ok h) b q' H1' H2' hs' (ret κ h.size t) := by
 refine ⟨hB,m1,m2,.inl hp.okb,by rw [ret_lt hp.bk.lt,hp.kb],fun i d l hd hx => ?_,fun i d l hd hx => ?_,?_⟩
 ·rcases hr i d l hd hx with ⟨h1,h2,h3⟩ | ⟨h1,h2⟩
  ·exact (hp.rd i d l h1 h2).fr hf (fun y hy h s => by have := hS y hy h.1 s; have := h.2; omega) (fun y hy h => ⟨.inl h.1,by rw [ret_lt hy]; exact h.2⟩)
  ·rw [h1]; exact h2
 ·rcases hw i d l hd hx with ⟨h1,h2,h3⟩ | ⟨h1,h2⟩
  ·exact (hp.wt i d l h1 h2).fr hf (fun y hy h s => by have := hS y hy h.1 s; have := h.2; omega) (fun y hy h => ⟨.inl h.1,by rw [ret_lt hy]; exact h.2⟩)
  ·rw [h1]; exact h2
 ·rcases hl with ⟨h1,h2,h3⟩ | ⟨h1,h2⟩
  ·rw [h1,h2]; exact hp.sl.fr hf (fun y hy h s => by have := hS y hy h.1 s; have := h.2; omega) (fun y hy h => ⟨.inl h.1,by rw [ret_lt hy]; exact h.2⟩)
  ·subst h1; exact h2
end
section
variable {H1 H2 : List Hd} {cn : List Int} {hs : Hd} {lv : List Int} {iv : List Bool}
theorem app_get {α : Type} {A B : List α} {n k : Nat} (hA : A.length = n) : (A ++ B)[n + k]? = B[k]? := by
 rw [List.getElem?_append_right (by omega)]; congr 1; omega
theorem app_set {α : Type} {A B : List α} {n k : Nat} {v : α} (hA : A.length = n) : (A ++ B).set (n + k) v = A ++ B.set k v := by
 rw [List.set_append_right _ _ (by omega)]; congr 2; omega
theorem app_getl {α : Type} {A B : List α} {k : Nat} (hk : k < A.length) : (A ++ B)[k]? = A[k]? := List.getElem?_append_left hk
theorem app_setl {α : Type} {A B : List α} {k : Nat} {v : α} (hk : k < A.length) : (A ++ B).set k v = A.set k v ++ B := List.set_append_left _ _ hk
theorem qc_len (m1 : H1.length = 4) (m2 : H2.length = 4) (n3 : cn.length = 4) (n4 : lv.length = 6) (n5 : iv.length = 6) : (qcells H1 H2 cn hs lv iv).length = 25 := by
 simp [qcells,m1,m2,n3,n4,n5]
theorem qc_rd {k : Nat} {d : Hd} (hd : H1[k]? = some d) : (qcells H1 H2 cn hs lv iv)[0 + k * 1]? = some d.v := by
 have hk := (List.getElem?_eq_some_iff.1 hd).1
 rw [qcells,show 0 + k * 1 = k by omega,app_getl (by simpa using hk),List.getElem?_map,hd]; rfl
theorem qc_wt {k : Nat} {d : Hd} (m1 : H1.length = 4) (hd : H2[k]? = some d) : (qcells H1 H2 cn hs lv iv)[4 + k * 1]? = some d.v := by
 have hk := (List.getElem?_eq_some_iff.1 hd).1
 rw [qcells,app_get (by simpa using m1),Nat.mul_one,app_getl (by simpa using hk),List.getElem?_map,hd]; rfl
theorem qc_cn {k : Nat} (m1 : H1.length = 4) (m2 : H2.length = 4) (hk : k < cn.length) : (qcells H1 H2 cn hs lv iv)[8 + k * 1]? = some (.int .i64 (cn.getD k 0)) := by
 rw [qcells,show 8 + k * 1 = 4 + (4 + k) by omega,app_get (by simpa using m1),app_get (by simpa using m2),app_getl (by simpa using hk),List.getElem?_map,getD_some (d := 0) hk]; rfl
theorem qc_sl (m1 : H1.length = 4) (m2 : H2.length = 4) (n3 : cn.length = 4) : (qcells H1 H2 cn hs lv iv)[12]? = some hs.v := by
 rw [qcells,show 12 = 4 + (4 + (4 + 0)) by rfl,app_get (by simpa using m1),app_get (by simpa using m2),app_get (by simpa using n3)]; rfl
theorem qc_lv {k : Nat} (m1 : H1.length = 4) (m2 : H2.length = 4) (n3 : cn.length = 4) (hk : k < lv.length) : (qcells H1 H2 cn hs lv iv)[13 + k * 1]? = some (.int .i64 (lv.getD k 0)) := by
 rw [qcells,show 13 + k * 1 = 4 + (4 + (4 + (1 + k))) by omega,app_get (by simpa using m1),app_get (by simpa using m2),app_get (by simpa using n3),app_get (n := 1) rfl,app_getl (by simpa using hk),List.getElem?_map,getD_some (d := 0) hk]; rfl
theorem qc_in {k : Nat} (m1 : H1.length = 4) (m2 : H2.length = 4) (n3 : cn.length = 4) (n4 : lv.length = 6) (hk : k < iv.length) : (qcells H1 H2 cn hs lv iv)[19 + k * 1]? = some (.bool (iv.getD k false)) := by
 rw [qcells,show 19 + k * 1 = 4 + (4 + (4 + (1 + (6 + k)))) by omega,app_get (by simpa using m1),app_get (by simpa using m2),app_get (by simpa using n3),app_get (n := 1) rfl,app_get (by simpa using n4),List.getElem?_map,getD_some (d := false) hk]; rfl
theorem qs_rd {k : Nat} {d : Hd} (hk : k < H1.length) : sets (qcells H1 H2 cn hs lv iv) (0 + k * 1) [.slice d.p d.n d.c] = qcells (H1.set k d) H2 cn hs lv iv := by
 simp only [sets,qcells]
 rw [show 0 + k * 1 = k by omega,app_setl (by simpa using hk),List.map_set]
theorem qs_wt {k : Nat} {d : Hd} (m1 : H1.length = 4) (hk : k < H2.length) : sets (qcells H1 H2 cn hs lv iv) (4 + k * 1) [.slice d.p d.n d.c] = qcells H1 (H2.set k d) cn hs lv iv := by
 simp only [sets,qcells]
 rw [app_set (by simpa using m1),Nat.mul_one,app_setl (by simpa using hk),List.map_set]
theorem qs_cn {k : Nat} {v : Int} (m1 : H1.length = 4) (m2 : H2.length = 4) (hk : k < cn.length) : sets (qcells H1 H2 cn hs lv iv) (8 + k * 1) [.int .i64 v] = qcells H1 H2 (cn.set k v) hs lv iv := by
 simp only [sets,qcells]
 rw [show 8 + k * 1 = 4 + (4 + k) by omega,app_set (by simpa using m1),app_set (by simpa using m2),app_setl (by simpa using hk),List.map_set]
theorem qs_sl {d : Hd} (m1 : H1.length = 4) (m2 : H2.length = 4) (n3 : cn.length = 4) : sets (qcells H1 H2 cn hs lv iv) 12 [.slice d.p d.n d.c] = qcells H1 H2 cn d lv iv := by
 simp only [sets,qcells]
 rw [show 12 = 4 + (4 + (4 + 0)) by rfl,app_set (by simpa using m1),app_set (by simpa using m2),app_set (by simpa using n3)]; rfl
theorem qs_lv {k : Nat} {v : Int} (m1 : H1.length = 4) (m2 : H2.length = 4) (n3 : cn.length = 4) (hk : k < lv.length) : sets (qcells H1 H2 cn hs lv iv) (13 + k * 1) [.int .i64 v] = qcells H1 H2 cn hs (lv.set k v) iv := by
 simp only [sets,qcells]
 rw [show 13 + k * 1 = 4 + (4 + (4 + (1 + k))) by omega,app_set (by simpa using m1),app_set (by simpa using m2),app_set (by simpa using n3),app_set (n := 1) rfl,app_setl (by simpa using hk),List.map_set]
theorem qs_in {k : Nat} {v : Bool} (m1 : H1.length = 4) (m2 : H2.length = 4) (n3 : cn.length = 4) (n4 : lv.length = 6) : sets (qcells H1 H2 cn hs lv iv) (19 + k * 1) [.bool v] = qcells H1 H2 cn hs lv (iv.set k v) := by
 simp only [sets,qcells]
 rw [show 19 + k * 1 = 4 + (4 + (4 + (1 + (6 + k)))) by omega,app_set (by simpa using m1),app_set (by simpa using m2),app_set (by simpa using n3),app_set (n := 1) rfl,app_set (by simpa using n4),List.map_set]
end
def QueueTo (ok : Nat -> Prop) (b : Nat) (v : Value) (q : TQueue) (w : World) : Ending -> World -> Prop :=
 fun en w' => en = .returned v /\ IsQueue w'.heap (Old ok w.heap) b q /\ Fr ok w.heap w'.heap
theorem flat_mem {α : Type} {ls : List (List α)} {i : Nat} {x : α} (h : x ∈ ls.getD i []) : x ∈ ls.flatten := by
 rw [List.getD_eq_getElem?_getD] at h
 cases hi : ls[i]? with
 | none => rw [hi] at h; simp at h
 | some l => rw [hi] at h; exact List.mem_flatten.2 ⟨l,List.mem_of_getElem? hi,h⟩
theorem nodup_lt : ∀ (n : Nat) (l : List Int),l.Nodup -> (∀ p ∈ l,0 <= p /\ p < n) -> l.length <= n
 | 0,l,_,hr => by
  cases l with
  | nil => simp
  | cons p l => have := hr p List.mem_cons_self; omega
 | n + 1,l,hn,hr => by
  by_cases hm : (n : Int) ∈ l
  ·have h := nodup_lt n (l.erase n) (hn.sublist List.erase_sublist) fun p hp => by
    have h1 := hr p (List.mem_of_mem_erase hp)
    have h2 : p ≠ n := ((List.Nodup.mem_erase_iff hn).1 hp).1
    omega
   rw [List.length_erase_of_mem hm] at h
   omega
  ·have h := nodup_lt n l hn fun p hp => by
    have h1 := hr p hp
    have h2 : p ≠ n := fun e => hm (e ▸ hp)
    omega
   omega
theorem nodup_len {l : List Int} (hn : l.Nodup) (hr : ∀ p ∈ l,0 <= p /\ p < 6) : l.length <= 6 := nodup_lt 6 l hn hr
section
variable {q : TQueue}
theorem QInv.len_rd (hq : QInv q) (i : Nat) : (q.ready.getD i []).length <= 6 := by
 have hs : (q.ready.getD i []).Sublist (qAll q) := by
  rw [List.getD_eq_getElem?_getD]
  cases hi : q.ready[i]? with
  | none => simp
  | some l => exact (List.sublist_flatten_of_mem (List.mem_of_getElem? hi)).trans (List.sublist_append_left _ _)
 exact nodup_len (hq.nd.sublist hs) fun p hp => ⟨(hq.rng p (hs.subset hp)).1,(hq.rng p (hs.subset hp)).2.1⟩
theorem QInv.len_wt (hq : QInv q) (i : Nat) : (q.waits.getD i []).length <= 6 := by
 have hs : (q.waits.getD i []).Sublist (qAll q) := by
  rw [List.getD_eq_getElem?_getD]
  cases hi : q.waits[i]? with
  | none => simp
  | some l => exact ((List.sublist_flatten_of_mem (List.mem_of_getElem? hi)).trans (List.sublist_append_left _ _)).trans (List.sublist_append_right _ _)
 exact nodup_len (hq.nd.sublist hs) fun p hp => ⟨(hq.rng p (hs.subset hp)).1,(hq.rng p (hs.subset hp)).2.1⟩
theorem QInv.len_sl (hq : QInv q) : q.sleeps.length <= 6 := by
 have hs : (q.sleeps.map Prod.fst).Sublist (qAll q) := (List.sublist_append_right _ _).trans (List.sublist_append_right _ _)
 simpa using nodup_len (hq.nd.sublist hs) fun p hp => ⟨(hq.rng p (hs.subset hp)).1,(hq.rng p (hs.subset hp)).2.1⟩
theorem qFirstAt_spec (r : List (List Int)) : ∀ n : Nat,(qFirstAt r n = -1 /\ ∀ i,i < n -> r.getD i [] = []) \/ (∃ i l,i < n /\ r.getD i [] = qFirstAt r n :: l)
 | 0 => .inl ⟨rfl,fun i h => by omega⟩
 | n + 1 => by
  simp only [qFirstAt]
  cases hn : r.getD n [] with
  | cons p l => exact .inr ⟨n,l,by omega,hn⟩
  | nil =>
   rcases qFirstAt_spec r n with ⟨h1,h2⟩ | ⟨i,l,h1,h2⟩
   ·refine .inl ⟨h1,fun i hi => ?_⟩
    by_cases hin : i = n
    ·subst hin; exact hn
    ·exact h2 i (by omega)
   ·exact .inr ⟨i,l,by omega,h2⟩
theorem QInv.first (hq : QInv q) : qFirst q = -1 \/ (0 <= qFirst q /\ qFirst q < 6 /\ 0 <= q.lev (qFirst q) /\ q.lev (qFirst q) < 4 /\ ∃ l,q.rd (q.lev (qFirst q)) = qFirst q :: l) := by
 rcases qFirstAt_spec q.ready 4 with ⟨h1,h2⟩ | ⟨i,l,h1,h2⟩
 ·exact .inl h1
 ·have hm : qFirst q ∈ q.ready.getD i [] := by rw [h2]; exact List.mem_cons_self
  have h3 := hq.rng (qFirst q) (List.mem_append_left _ (flat_mem hm))
  have h4 := hq.rdy i _ hm
  exact .inr ⟨h3.1,h3.2.1,by omega,by omega,l,by rw [h4]; exact h2⟩
end
theorem queue_New_ok (w : World) : Calls P F.Zl #[] w fun en w' => ∃ b,en = .returned (.pointer (some ⟨b,0,none⟩)) /\ IsQueue w'.heap (Fresh w.heap) b qNew /\ Nw w.heap w'.heap := by
 refine oZl ?_
 refine newB_i ?_; intro b w1 b_eq hB hN w1_sz; try simp only [drew_heap',dr_heap] at b_eq hN
 refine ⟨b,rfl,⟨[⟨none,0,0⟩,⟨none,0,0⟩,⟨none,0,0⟩,⟨none,0,0⟩],[⟨none,0,0⟩,⟨none,0,0⟩,⟨none,0,0⟩,⟨none,0,0⟩],⟨none,0,0⟩,fun _ => 0,⟨hB,rfl,rfl,by simp [b_eq],rfl,fun i d l hd hl => ?_,fun i d l hd hl => ?_,Sl.nil⟩⟩,hN⟩
 ·have h1 := List.mem_of_getElem? hd
  have h2 := List.mem_of_getElem? hl
  simp [qNew] at h1 h2
  subst h1 h2; exact Sl.nil
 ·have h1 := List.mem_of_getElem? hd
  have h2 := List.mem_of_getElem? hl
  simp [qNew] at h1 h2
  subst h1 h2; exact Sl.nil
theorem queue_is_ok (p : Int) (w : World) : Calls P F.Z1n #[.int .i64 p] w (Is (.bool (decide (0 <= p) && decide (p < 6))) w) := by
 refine oZ1n ?_
 refine br_of (fun h1 => ?_) (fun h1 => ?_) <;> simp only [ZJ,ZK,ZL,ZM,ZN,ZO,ZP,ZQ,ZR] at h1
 ·simp only [h1,decide_true,Bool.true_and]; exact Is.mk _ _
 ·simp only [show ¬ 0 <= p by omega,decide_false,Bool.false_and]; exact Is.mk _ _
section
variable {w : World} {ok : Nat -> Prop} {b : Nat} {q : TQueue}
theorem queue_First_ok (hp : IsQueue w.heap ok b q) (hq : QInv q) : Calls P F.Zr #[.pointer (some ⟨b,0,none⟩)] w (Is (.int .i64 (qFirst q)) w) := by
 obtain ⟨H1,H2,hs,κ,hp⟩ := hp
 refine oZr ?_
 refine ⟨fun t w' => ∃ k : Nat,t = (k : Int) - 1 /\ k <= 4 /\ qFirst q = qFirstAt q.ready k /\ w = w',fun t _ => (t + 1).toNat,⟨4,rfl,by omega,rfl,rfl⟩,?_⟩
 rintro t _ ⟨k,rfl,hk,he,rfl⟩
 refine br_of (fun h1 => ?_) (fun h1 => ?_) <;> simp only [ZJ,ZK,ZL,ZM,ZN,ZO,ZP,ZQ,ZR] at h1
 ·obtain ⟨j,rfl⟩ : ∃ j,k = j + 1 := ⟨k - 1,by omega⟩
  have ej : ((j + 1 : Nat) : Int) - 1 = (j : Int) := by omega
  rw [ej]
  have hH : H1[j]? = some (H1[j]'(by rw [hp.m1]; omega)) := List.getElem?_eq_getElem _
  have hR : q.ready[j]? = some (q.ready.getD j []) := getD_some (by rw [hq.n1]; omega)
  generalize H1[j]'(by rw [hp.m1]; omega) = d at hH
  have hsl := hp.rd j d _ hH hR
  have hcell : w.cell? ⟨b,0 + (j : Int).toNat * 1,none⟩ = some (.slice d.p d.n d.c) := by rw [hp.bk.cell,Int.toNat_natCast,qc_rd hH]
  refine chk_of (by simp; omega) ⟨_,_,_,hcell,?_⟩
  simp only [qFirstAt] at he
  have hl := hsl.len
  refine br_of (fun h2 => ?_) (fun h2 => ?_) <;> simp only [ZJ,ZK,ZL,ZM,ZN,ZO,ZP,ZQ,ZR] at h2
  ·refine chk_of (by simp; omega) ⟨_,_,_,hcell,chk_of (by simp; omega) ?_⟩
   obtain ⟨p,r,e⟩ : ∃ p r,q.ready.getD j [] = p :: r := by
    cases e : q.ready.getD j [] with
    | nil => rw [e] at hl; simp at hl; omega
    | cons p r => exact ⟨p,r,rfl⟩
   refine hsl.idx1 (i := 0) (x := p) (by rw [e]; rfl) ?_; intro g o _ hc
   refine ⟨p,by simpa using hc,?_⟩
   rw [e] at he
   rw [he]; exact Is.mk _ _
  ·have e : q.ready.getD j [] = [] := List.eq_nil_of_length_eq_zero (by omega)
   rw [e] at he
   rw [wrap_id (by omega) (by omega)]
   exact ⟨⟨j,rfl,by omega,he,rfl⟩,by (first | omega | (dsimp only; omega))⟩
 ·obtain rfl : k = 0 := by omega
  rw [he]; exact Is.mk _ _
theorem TQueue.rd_get {q : TQueue} (n1 : q.ready.length = 4) {k : Nat} (hk : k < 4) : q.ready[k]? = some (q.rd k) := getD_some (by rw [n1]; exact hk)
theorem queue_last_ok (hp : IsQueue w.heap ok b q) (hq : QLen q) {p : Int} (h0 : 0 <= p) (h6 : p < 6) (hl : (q.rd (q.lev p)).length <= 1000) :
  Calls P F.Z1o #[.pointer (some ⟨b,0,none⟩),.int .i64 p] w (QueueTo ok b (.tuple #[]) (qLast q p) w) := by
 obtain ⟨H1,H2,hs,κ,hp⟩ := hp
 obtain ⟨p,rfl⟩ := Int.eq_ofNat_of_zero_le h0
 refine oZ1o ?_
 have hlev := hq.lev p (by omega)
 obtain ⟨k,hk⟩ := Int.eq_ofNat_of_zero_le hlev.1
 have hlv : q.lev p = (k : Int) := hk
 have hH : H1[k]? = some (H1[k]'(by rw [hp.m1]; omega)) := List.getElem?_eq_getElem _
 generalize H1[k]'(by rw [hp.m1]; omega) = d at hH
 rw [hlv] at hl
 have hsl := hp.rd k d _ hH (TQueue.rd_get hq.n1 (by omega))
 have hlen := hsl.len
 have c1 : ∀ w' : World,Bk w'.heap b (qcells H1 H2 q.counts hs q.level q.inn) -> w'.cell? ⟨b,13 + (p : Int).toNat * 1,none⟩ = some (.int .i64 (k : Int)) := fun w' h => by rw [h.cell,Int.toNat_natCast,qc_lv hp.m1 hp.m2 hq.n3 (by rw [hq.n4]; omega),hk]
 have c2 : ∀ w' : World,Bk w'.heap b (qcells H1 H2 q.counts hs q.level q.inn) -> w'.cell? ⟨b,0 + (k : Int).toNat * 1,none⟩ = some (.slice d.p d.n d.c) := fun w' h => by rw [h.cell,Int.toNat_natCast,qc_rd hH]
 refine chk_of (by simp; omega) ⟨_,c1 w.drew hp.bk,chk_of (by simp; omega) ⟨_,c1 w.drew hp.bk,chk_of (by simp; omega) ⟨_,_,_,c2 w.drew hp.bk,?_⟩⟩⟩
 refine newB_i ?_; intro b1 w1 b1_eq hB hN w1_sz; try simp only [drew_heap',dr_heap] at b1_eq hN
 have hB1 := hp.bk.nw hN
 refine ⟨⟨c2 _ hB1,c1 _ hB1,c1 _ hB1,trivial⟩,?_⟩
 have hs1 : Sl w1.heap (fun y => y = b1) eI64 (some ⟨b1,0,none⟩) 1 1 [(p : Int)] := (Sl.of_blk (l := [(p : Int)]) (E := eI64) hB rfl rfl (by simp)).mono fun _ _ h => h.symm
 refine append_r ty_int (hsl.nw hN) hs1 (by omega) ?_
 intro p' c' w2 h2 hF2
 have hB2 := hB1.fr hF2 (fun h => by have := hp.kb; have := h.2; omega)
 refine ⟨⟨c1 _ hB2,c1 _ hB2,trivial⟩,chk_of (by simp; omega) ?_⟩
 refine stores_i hB2 (by rw [qc_len hp.m1 hp.m2 hq.n3 hq.n4 hq.n5]; simp; omega) ?_; intro w3 hB3 hF3 hz3
 have e1 : Int.toNat ((k : Nat) : Int) = k := rfl
 rw [e1,qs_rd (d := ⟨p',d.n + 1,c'⟩) (by rw [hp.m1]; omega)] at hB3
 have hF : Fr (fun y => (ok y /\ κ y = 1 + k) \/ y = b) w.heap w3.heap := (hN.fr.trans hF2 (fun _ _ h => h) (fun y _ h => .inl h)).trans hF3 (fun _ _ h => h) fun y _ h => .inr h
 refine ⟨trivial,rfl,?_,(hN.fr.trans (T := ok) hF2 (fun _ _ h => h) (fun y _ h => h.1)).trans hF3 (fun _ _ h => h) fun y _ h => by rw [h]; exact hp.okb⟩
 refine (hp.upd (q' := qLast q p) (1 + k) hF (fun y _ _ h => by rcases h with h | h; exact .inr h.2; exact .inl (by rw [h]; exact hp.kb)) hB3 (by simp [hp.m1]) hp.m2 (fun i x l hx hl => ?_) (fun i x l hx hl => .inl ⟨hx,hl,by have := (List.getElem?_eq_some_iff.1 hx).1; have := hp.m2; omega⟩) (.inl ⟨rfl,rfl,by omega⟩)).mk'
 simp only [qLast,TQueue.setRd,hlv,e1] at hl
 by_cases hik : i = k
 ·subst hik
  rw [List.getElem?_set_self (by rw [hp.m1]; omega)] at hx
  rw [List.getElem?_set_self (by rw [hq.n1]; omega)] at hl
  simp only [Z3] at hx hl
  subst hx hl
  refine .inr ⟨rfl,h2.fr hF3 (fun y hy h e => ?_) (fun y hy h => ?_)⟩
  ·have := hp.kb; have := hp.bk.lt; have := hN.le; subst e; rcases h with h | h; (have := h.2; omega); omega
  ·have := hN.le
   rcases h with h | h
   ·by_cases hy' : y < w.heap.size
    ·exact ⟨.inl h.1,by rw [ret_lt hy']; exact h.2⟩
    ·exact ⟨.inr (by omega),by rw [ret_ge (by omega)]⟩
   ·exact ⟨.inr (by omega),by rw [ret_ge (by omega)]⟩
 ·rw [List.getElem?_set_ne (Ne.symm hik)] at hx hl
  exact .inl ⟨hx,hl,by omega⟩
theorem Fr.old {ok : Nat -> Prop} {h h1 h2 : Hp} (a : Fr ok h h1) (b : Fr (Old ok h) h1 h2) : Fr ok h h2 :=
 a.trans b (fun _ _ h => h) fun x hx h => by rcases h with h | h; exact h; omega
theorem Old.old {ok : Nat -> Prop} {h h1 : Hp} (a : h.size <= h1.size) {y : Nat} (hy : Old (Old ok h) h1 y) : Old ok h y := by
 rcases hy with hy | hy
 ·exact hy
 ·exact .inr (by omega)
theorem IsQueue.old {h h1 h2 : Hp} (a : h.size <= h1.size) (hp : IsQueue h2 (Old (Old ok h) h1) b q) : IsQueue h2 (Old ok h) b q := hp.fr (Fr.refl (fun _ => False) h2) (fun _ _ _ h => h) fun _ _ hy => Old.old a hy
theorem queue_take_c {H1 H2 : List Hd} {hs : Hd} {κ : Nat -> Nat} (hp : QueueC w.heap ok b q H1 H2 hs κ) (hq : QInv q) :
  Calls P F.Z33 #[.pointer (some ⟨b,0,none⟩)] w fun en w' => ∃ H1' κ',en = .returned (.int .i64 (qTake q).1) /\ QueueC w'.heap (Old ok w.heap) b (qTake q).2 H1' H2 hs κ' /\ Fr ok w.heap w'.heap := by
 refine oZ33 ?_
 refine (queue_First_ok hp.mk' hq).mono ?_; rintro _ _ ⟨rfl,n,rfl⟩
 refine ⟨_,rfl,?_⟩
 have hF0 : QueueC w.heap (Old ok w.heap) b q H1 H2 hs κ := hp.fr (Fr.refl (fun _ => False) _) (fun _ _ _ h => h) fun _ _ h => .inl h
 unfold qTake
 rcases hq.first with h | ⟨h0,h6,hl0,hl4,l,hl⟩
 ·rw [h]
  exact ⟨_,_,rfl,hF0,Fr.refl _ _⟩
 ·rw [show decide (0 <= qFirst q) = true by simpa using h0,br_true,if_pos h0]
  generalize qFirst q = p at *
  obtain ⟨p,rfl⟩ := Int.eq_ofNat_of_zero_le h0
  obtain ⟨k,hk⟩ := Int.eq_ofNat_of_zero_le hl0
  have hk' : q.level.getD p 0 = (k : Int) := hk
  have hH : H1[k]? = some (H1[k]'(by rw [hp.m1]; omega)) := List.getElem?_eq_getElem _
  generalize H1[k]'(by rw [hp.m1]; omega) = d at hH
  rw [hk] at hl ⊢
  have hsl := hp.rd k d _ hH (TQueue.rd_get hq.n1 (by omega))
  rw [hl] at hsl
  have hlen := hsl.len; have hcap := hsl.cap
  have hlb := hq.len_rd k
  rw [show q.ready.getD k [] = (p : Int) :: l from hl] at hlb
  simp only [List.length_cons] at hlen hlb
  have c1 : ∀ w' : World,Bk w'.heap b (qcells H1 H2 q.counts hs q.level q.inn) -> w'.cell? ⟨b,13 + (p : Int).toNat * 1,none⟩ = some (.int .i64 (k : Int)) := fun w' h => by rw [h.cell,Int.toNat_natCast,qc_lv hp.m1 hp.m2 hq.n3 (by rw [hq.n4]; omega),hk']
  have c2 : ∀ w' : World,Bk w'.heap b (qcells H1 H2 q.counts hs q.level q.inn) -> w'.cell? ⟨b,0 + (k : Int).toNat * 1,none⟩ = some (.slice d.p d.n d.c) := fun w' h => by rw [h.cell,Int.toNat_natCast,qc_rd hH]
  refine chk_of (by simp; omega) ⟨_,c1 (dr w n).drew hp.bk,chk_of (by simp; omega) ⟨_,c1 (dr w n).drew hp.bk,chk_of (by simp; omega) ⟨_,_,_,c2 (dr w n).drew hp.bk,chk_of (by simp; omega) ?_⟩⟩⟩
  have hcut := hsl.cut (lo := 1) (hi := d.n) (mx := d.c) (by omega) (by omega) (by omega) (by omega)
  have et : (((p : Int) :: l).drop 1).take (d.n - 1) = l := by rw [List.drop_one,List.tail_cons]; exact List.take_of_length_le (by omega)
  rw [et] at hcut
  refine (slices_Clone_int_int_ok (w := (dr w n).drew) hcut (by omega)).mono ?_
  rintro _ w2 ⟨q1,c1',rfl,hq1,hN2⟩
  replace hN2 : Nw w.heap w2.heap := hN2
  have hB2 := hp.bk.nw hN2
  refine ⟨q1,_,c1',rfl,⟨c2 _ hB2,c1 _ hB2,c1 _ hB2,trivial⟩,chk_of (by simp; omega) ?_⟩
  refine stores_i hB2 (by rw [qc_len hp.m1 hp.m2 hq.n3 hq.n4 hq.n5]; simp; omega) ?_; intro w3 hB3 hF3 hz3
  have e1 : Int.toNat ((k : Nat) : Int) = k := rfl
  rw [e1,qs_rd (d := ⟨q1,d.n - 1,c1'⟩) (by rw [hp.m1]; omega)] at hB3
  have hF : Fr (fun y => y = b) w.heap w3.heap := hN2.fr.trans hF3 (fun _ _ h => h) fun _ _ h => h
  refine ⟨trivial,H1.set k ⟨q1,d.n - 1,c1'⟩,ret κ w.heap.size (1 + k),rfl,?_,hF.mono fun y _ h => by rw [h]; exact hp.okb⟩
  rw [hl,List.tail_cons]
  refine hp.upd (q' := q.setRd k l) (1 + k) hF (fun y _ _ h => .inl (by rw [h]; exact hp.kb)) hB3 (by simp [hp.m1]) hp.m2 (fun i x l' hx hl' => ?_) (fun i x l' hx hl' => .inl ⟨hx,hl',by have := (List.getElem?_eq_some_iff.1 hx).1; have := hp.m2; omega⟩) (.inl ⟨rfl,rfl,by omega⟩)
  simp only [TQueue.setRd,e1] at hl'
  by_cases hik : i = k
  ·subst hik
   rw [List.getElem?_set_self (by rw [hp.m1]; omega)] at hx
   rw [List.getElem?_set_self (by rw [hq.n1]; omega)] at hl'
   simp only [Z3] at hx hl'
   subst hx hl'
   refine .inr ⟨rfl,hq1.fr hF3 (fun y hy h e => ?_) (fun y hy h => ?_)⟩
   ·have := hp.bk.lt; have : w.heap.size <= y := h; omega
   ·have : w.heap.size <= y := h; exact ⟨.inr (by omega),by rw [ret_ge (by omega)]⟩
  ·rw [List.getElem?_set_ne (Ne.symm hik)] at hx hl'
   exact .inl ⟨hx,hl',by omega⟩
theorem queue_take_ok (hp : IsQueue w.heap ok b q) (hq : QInv q) : Calls P F.Z33 #[.pointer (some ⟨b,0,none⟩)] w (QueueTo ok b (.int .i64 (qTake q).1) (qTake q).2 w) := by
 obtain ⟨H1,H2,hs,κ,hp⟩ := hp
 refine (queue_take_c hp hq).mono ?_
 rintro en w' ⟨H1',κ',rfl,h1,h2⟩
 exact ⟨rfl,h1.mk',h2⟩
theorem QInv.take (hq : QInv q) : QLen (qTake q).2 /\ (∀ i,((qTake q).2.rd i).length <= 6) /\ (qTake q).2.waits = q.waits /\ (qTake q).2.counts = q.counts /\ (qTake q).2.sleeps = q.sleeps /\ (qTake q).2.level = q.level /\ (qTake q).2.inn = q.inn /\ ((qTake q).1 = -1 \/ 0 <= (qTake q).1 /\ (qTake q).1 < 6) := by
 unfold qTake
 rcases hq.first with h | ⟨h0,h6,hl0,hl4,l,hl⟩
 ·rw [h]
  exact ⟨hq.toQLen,fun i => hq.len_rd _,rfl,rfl,rfl,rfl,rfl,.inl rfl⟩
 ·rw [if_pos h0]
  refine ⟨⟨by simp [TQueue.setRd,hq.n1],hq.n2,hq.n3,hq.n4,hq.n5,hq.lev⟩,fun i => ?_,rfl,rfl,rfl,rfl,rfl,.inr ⟨h0,h6⟩⟩
  simp only [TQueue.rd,TQueue.setRd,List.getD_eq_getElem?_getD,List.getElem?_set]
  have h1 := hq.len_rd (q.lev (qFirst q)).toNat
  have h2 := hq.len_rd i.toNat
  rw [List.getD_eq_getElem?_getD] at h1 h2
  split
  ·split
   ·simp only [Option.getD_some,List.length_tail]; omega
   ·simp
  ·exact h2
theorem qTake_neg (h : (qTake q).1 < 0) : (qTake q).2 = q := by
 unfold qTake at h ⊢
 by_cases h0 : 0 <= qFirst q
 ·rw [if_pos h0] at h; simp only at h; omega
 ·rw [if_neg h0]
theorem queue_End_ok (hp : IsQueue w.heap ok b q) (hq : QInv q) : Calls P F.Z21 #[.pointer (some ⟨b,0,none⟩)] w (QueueTo ok b (.int .i64 (qTake q).1) (qEnd q) w) := by
 refine oZ21 ?_
 refine (queue_take_ok hp hq).mono ?_; rintro _ w1 ⟨rfl,h1,hF1⟩
 refine ⟨_,rfl,?_⟩
 obtain ⟨t1,t2,t3,t4,t5,t6,t7,t8⟩ := hq.take
 unfold qEnd
 refine br_of (fun h => ?_) (fun h => ?_) <;> simp only [ZJ,ZK,ZL,ZM,ZN,ZO,ZP,ZQ,ZR] at h
 ·rw [if_pos h]
  obtain ⟨p,hp'⟩ := Int.eq_ofNat_of_zero_le h
  have h6 : (qTake q).1 < 6 := by omega
  obtain ⟨H1,H2,hs,κ,hc⟩ := h1
  refine chk_of (by simp; omega) ?_
  refine stores_i hc.bk (by rw [qc_len hc.m1 hc.m2 t1.n3 t1.n4 t1.n5]; simp; omega) ?_; intro w3 hB3 hF3 hz3
  rw [qs_in hc.m1 hc.m2 t1.n3 t1.n4] at hB3
  refine ⟨rfl,?_,hF1.trans hF3 (fun _ _ h => h) fun y hy h => by rw [h]; rcases hc.okb with h | h; exact h; subst y; omega⟩
  refine IsQueue.old hF1.le ((hc.upd (q' := { (qTake q).2 with inn := q.inn.set (qTake q).1.toNat false }) 100 hF3 (fun y _ _ h => .inl (by rw [h]; exact hc.kb)) (by rw [<- t7]; exact hB3) hc.m1 hc.m2 (fun i x l hx hl => .inl ⟨hx,hl,by have := (List.getElem?_eq_some_iff.1 hx).1; have := hc.m1; omega⟩) (fun i x l hx hl => .inl ⟨hx,hl,by have := (List.getElem?_eq_some_iff.1 hx).1; have := hc.m2; omega⟩) (.inl ⟨rfl,rfl,by omega⟩)).mk')
 ·rw [if_neg (by omega)]
  have : (qTake q).2 = q := qTake_neg h
  rw [this] at h1
  exact ⟨rfl,h1,hF1⟩
theorem queue_Turn_ok (hp : IsQueue w.heap ok b q) (hq : QInv q) : Calls P F.Z3t #[.pointer (some ⟨b,0,none⟩)] w fun en w' => ∃ t : Bool,QueueTo ok b (.bool t) (qTurn q) w en w' := by
 refine oZ3t ?_
 refine (queue_take_ok hp hq).mono ?_; rintro _ w1 ⟨rfl,h1,hF1⟩
 refine ⟨_,rfl,?_⟩
 obtain ⟨t1,t2,t3,t4,t5,t6,t7,t8⟩ := hq.take
 unfold qTurn
 refine br_of (fun h => ?_) (fun h => ?_) <;> simp only [ZJ,ZK,ZL,ZM,ZN,ZO,ZP,ZQ,ZR] at h
 ·rw [if_pos h]
  refine (queue_last_ok h1 t1 h (by omega) (by have := t2 ((qTake q).2.lev (qTake q).1); omega)).mono ?_; rintro _ w2 ⟨rfl,h2,hF2⟩
  exact ⟨rfl,_,rfl,h2.old hF1.le,hF1.old hF2⟩
 ·rw [if_neg (by omega)]
  have : (qTake q).2 = q := qTake_neg h
  rw [this] at h1
  exact ⟨_,rfl,h1,hF1⟩
theorem queue_Sleep_ok (hp : IsQueue w.heap ok b q) (hq : QInv q) (u : Int) : Calls P F.Z3v #[.pointer (some ⟨b,0,none⟩),.int .i64 u] w fun en w' => ∃ t : Bool,QueueTo ok b (.bool t) (qSleep q u) w en w' := by
 refine oZ3v ?_
 refine (queue_take_ok hp hq).mono ?_; rintro _ w1 ⟨rfl,h1,hF1⟩
 refine ⟨_,rfl,?_⟩
 obtain ⟨t1,t2,t3,t4,t5,t6,t7,t8⟩ := hq.take
 unfold qSleep
 refine br_of (fun h => ?_) (fun h => ?_) <;> simp only [ZJ,ZK,ZL,ZM,ZN,ZO,ZP,ZQ,ZR] at h
 ·rw [if_pos h]
  obtain ⟨H1,H2,hs,κ,hc⟩ := h1
  have hsl := hc.sl
  rw [t5] at hsl
  have hlen := hsl.len; have hlb := hq.len_sl
  refine ⟨hs.p,hs.n,hs.c,by rw [hc.bk.cell,qc_sl hc.m1 hc.m2 t1.n3],?_⟩
  refine newB_i ?_; intro b1 w2 b1_eq hB hN w2_sz; try simp only [drew_heap',dr_heap] at b1_eq hN
  have hs1 : Sl w2.heap (fun y => y = b1) eSleep (some ⟨b1,0,none⟩) 1 1 [((qTake q).1,u)] := (Sl.of_blk (l := [((qTake q).1,u)]) (E := eSleep) hB rfl rfl (by simp)).mono fun _ _ h => h.symm
  refine append_r ty_sleep (hsl.nw hN) hs1 (by omega) ?_
  intro p' c' w3 h3 hF3
  have hB3 := (hc.bk.nw hN).fr hF3 (fun h => by have := hc.kb; have := h.2; omega)
  refine stores_i hB3 (by rw [qc_len hc.m1 hc.m2 t1.n3 t1.n4 t1.n5]; simp) ?_; intro w4 hB4 hF4 hz4
  rw [qs_sl (d := ⟨p',hs.n + 1,c'⟩) hc.m1 hc.m2 t1.n3] at hB4
  have hF : Fr (fun y => (Old ok w.heap y /\ κ y = 9) \/ y = b) w1.heap w4.heap := (hN.fr.trans hF3 (fun _ _ h => h) (fun y _ h => .inl h)).trans hF4 (fun _ _ h => h) fun y _ h => .inr h
  refine ⟨_,rfl,?_,hF1.old (hF.mono fun y _ h => by rcases h with h | h; exact h.1; rw [h]; exact hc.okb)⟩
  refine IsQueue.old hF1.le ((hc.upd (q' := { (qTake q).2 with sleeps := q.sleeps ++ [((qTake q).1,u)] }) 9 hF (fun y _ _ h => by rcases h with h | h; exact .inr h.2; exact .inl (by rw [h]; exact hc.kb)) hB4 hc.m1 hc.m2 (fun i x l hx hl => .inl ⟨hx,hl,by have := (List.getElem?_eq_some_iff.1 hx).1; have := hc.m1; omega⟩) (fun i x l hx hl => ?_) (.inr ⟨rfl,h3.fr hF4 (fun y hy h e => ?_) (fun y hy h => ?_)⟩)).mk')
  ·by_cases hi : i = 4
   ·have := (List.getElem?_eq_some_iff.1 hx).1; have := hc.m2; omega
   ·exact .inl ⟨hx,hl,by omega⟩
  ·have := hc.kb; have := hc.bk.lt; have := hN.le; subst e; rcases h with h | h; (have := h.2; omega); omega
  ·have := hN.le
   rcases h with h | h
   ·by_cases hy' : y < w1.heap.size
    ·exact ⟨.inl h.1,by rw [ret_lt hy']; exact h.2⟩
    ·exact ⟨.inr (by omega),by rw [ret_ge (by omega)]⟩
   ·exact ⟨.inr (by omega),by rw [ret_ge (by omega)]⟩
 ·rw [if_neg (by omega)]
  have : (qTake q).2 = q := qTake_neg h
  rw [this] at h1
  exact ⟨_,rfl,h1,hF1⟩
theorem queue_Ready_ok (hp : IsQueue w.heap ok b q) (hq : QInv q) (p l : Int) : Calls P F.Zq #[.pointer (some ⟨b,0,none⟩),.int .i64 p,.int .i64 l] w fun en w' => ∃ t : Bool,QueueTo ok b (.bool t) (qReady q p l) w en w' := by
 refine oZq ?_
 unfold vZq
 simp only [join_eq]
 refine (queue_is_ok p w).mono ?_; rintro _ _ ⟨rfl,n,rfl⟩
 refine ⟨_,rfl,?_⟩
 unfold qReady
 refine br_of (fun h => ?_) (fun h => ?_) <;> simp only [ZL,ZM,Bool.and_eq_false_imp,Bool.and_eq_true,ZJ,ZK] at h
 ·rw [if_neg (by omega)]
  exact ⟨_,rfl,hp.same,Fr.refl _ _⟩
 obtain ⟨h0,h6⟩ := h
 obtain ⟨p,rfl⟩ := Int.eq_ofNat_of_zero_le h0
 obtain ⟨H1,H2,hs,κ,hc⟩ := hp
 refine chk_of (by simp; omega) ⟨_,by rw [dr_cell,hc.bk.cell,Int.toNat_natCast,qc_in hc.m1 hc.m2 hq.n3 hq.n4 (by rw [hq.n5]; omega)],?_⟩
 refine br_of (fun hi => ?_) (fun hi => ?_)
 ·rw [if_neg (by simp only [Int.toNat_natCast]; rw [hi]; simp)]
  exact ⟨_,rfl,hc.same,Fr.refl _ _⟩
 refine br_of (fun h1 => ?_) (fun h1 => ?_) <;> simp only [ZJ,ZK,ZL,ZM,ZN,ZO,ZP,ZQ,ZR] at h1
 ·rw [if_neg (by omega)]
  exact ⟨_,rfl,hc.same,Fr.refl _ _⟩
 refine br_of (fun h2 => ?_) (fun h2 => ?_) <;> simp only [ZJ,ZK,ZL,ZM,ZN,ZO,ZP,ZQ,ZR] at h2
 ·rw [if_neg (by omega)]
  exact ⟨_,rfl,hc.same,Fr.refl _ _⟩
 rw [if_pos ⟨h0,h6,by rw [Int.toNat_natCast]; exact hi,by omega,by omega⟩]
 refine chk_of (by simp; omega) ?_
 refine stores_i (w := (dr w n).drew) hc.bk (by rw [qc_len hc.m1 hc.m2 hq.n3 hq.n4 hq.n5]; simp; omega) ?_; intro w1 hB1 hF1 hz1
 rw [qs_in hc.m1 hc.m2 hq.n3 hq.n4] at hB1
 refine ⟨trivial,chk_of (by simp; omega) ?_⟩
 refine stores_i hB1 (by rw [qc_len hc.m1 hc.m2 hq.n3 hq.n4 (by simp [hq.n5])]; simp; omega) ?_; intro w2 hB2 hF2 hz2
 rw [qs_lv hc.m1 hc.m2 hq.n3 (by rw [hq.n4]; simp; omega)] at hB2
 have hF : Fr (fun y => y = b) w.heap w2.heap := Fr.trans' hF1 hF2
 refine ⟨trivial,?_⟩
 have hc2 := (hc.upd (q' := { q with inn := q.inn.set (p : Int).toNat true,level := q.level.set (p : Int).toNat l }) 100 hF (fun y _ _ h => .inl (by rw [h]; exact hc.kb)) hB2 hc.m1 hc.m2 (fun i x l hx hl => .inl ⟨hx,hl,by have := (List.getElem?_eq_some_iff.1 hx).1; have := hc.m1; omega⟩) (fun i x l hx hl => .inl ⟨hx,hl,by have := (List.getElem?_eq_some_iff.1 hx).1; have := hc.m2; omega⟩) (.inl ⟨rfl,rfl,by omega⟩)).mk'
 have hq2 : QLen { q with inn := q.inn.set (p : Int).toNat true,level := q.level.set (p : Int).toNat l } := ⟨hq.n1,hq.n2,hq.n3,by simp [hq.n4],by simp [hq.n5],fun k hk => by
  have hlk := hq.lev k hk
  simp only [List.getD_eq_getElem?_getD,List.getElem?_set,Int.toNat_natCast] at hlk ⊢
  split
  ·split
   ·simp only [Option.getD_some]; omega
   ·simp
  ·exact hlk⟩
 refine (queue_last_ok hc2 hq2 h0 h6 (Nat.le_trans (hq.len_rd _) (by omega))).mono ?_; rintro _ w3 ⟨rfl,h3,hF3⟩
 have hFo : Fr ok w.heap w2.heap := hF.mono fun y _ h => by rw [h]; exact hc.okb
 exact ⟨rfl,_,rfl,h3.old hF.le,hFo.old hF3⟩
theorem queue_Wait_ok (hp : IsQueue w.heap ok b q) (hq : QInv q) (s : Int) : Calls P F.Z3u #[.pointer (some ⟨b,0,none⟩),.int .i64 s] w fun en w' => ∃ t : Bool,QueueTo ok b (.bool t) (qWait q s) w en w' := by
 refine oZ3u ?_
 unfold qWait
 refine br_of (fun h1 => ?_) (fun h1 => ?_) <;> simp only [ZJ,ZK,ZL,ZM,ZN,ZO,ZP,ZQ,ZR] at h1
 ·rw [if_pos (by omega)]; exact ⟨_,rfl,hp.same,Fr.refl _ _⟩
 refine br_of (fun h2 => ?_) (fun h2 => ?_) <;> simp only [ZJ,ZK,ZL,ZM,ZN,ZO,ZP,ZQ,ZR] at h2
 ·rw [if_pos (by omega)]; exact ⟨_,rfl,hp.same,Fr.refl _ _⟩
 refine (queue_First_ok hp hq).mono ?_; rintro _ _ ⟨rfl,n,rfl⟩
 refine ⟨_,rfl,?_⟩
 refine br_of (fun h3 => ?_) (fun h3 => ?_) <;> simp only [ZJ,ZK,ZL,ZM,ZN,ZO,ZP,ZQ,ZR] at h3
 ·rw [if_pos (by omega)]; exact ⟨_,rfl,hp.same,Fr.refl _ _⟩
 rw [if_neg (by omega)]
 obtain ⟨s,rfl⟩ := Int.eq_ofNat_of_zero_le h1
 obtain ⟨H1,H2,hs,κ,hc⟩ := hp
 have e1 : Int.toNat ((s : Nat) : Int) = s := rfl
 have c1 : ∀ w' : World,w'.heap = w.heap -> w'.cell? ⟨b,8 + (s : Int).toNat * 1,none⟩ = some (.int .i64 (q.counts.getD s 0)) := fun w' h => by
  have : Bk w'.heap b (qcells H1 H2 q.counts hs q.level q.inn) := by rw [h]; exact hc.bk
  rw [this.cell,Int.toNat_natCast,qc_cn hc.m1 hc.m2 (by rw [hq.n3]; omega)]
 refine chk_of (by simp; omega) ⟨_,c1 _ rfl,?_⟩
 rw [e1]
 refine br_of (fun h4 => ?_) (fun h4 => ?_) <;> simp only [ZJ,ZK,ZL,ZM,ZN,ZO,ZP,ZQ,ZR] at h4
 ·rw [if_pos h4]
  refine chk_of (by simp; omega) ⟨_,c1 _ rfl,chk_of (by simp; omega) ?_⟩
  refine stores_i (w := (dr w n).drew) hc.bk (by rw [qc_len hc.m1 hc.m2 hq.n3 hq.n4 hq.n5]; simp; omega) ?_; intro w3 hB3 hF3 hz3
  rw [qs_cn hc.m1 hc.m2 (by rw [hq.n3]; omega)] at hB3
  exact ⟨trivial,_,rfl,(hc.upd (q' := { q with counts := q.counts.set s (IntKind.wrap .i64 (q.counts.getD s 0 - 1)) }) 100 hF3 (fun y _ _ h => .inl (by rw [h]; exact hc.kb)) hB3 hc.m1 hc.m2 (fun i x l hx hl => .inl ⟨hx,hl,by have := (List.getElem?_eq_some_iff.1 hx).1; have := hc.m1; omega⟩) (fun i x l hx hl => .inl ⟨hx,hl,by have := (List.getElem?_eq_some_iff.1 hx).1; have := hc.m2; omega⟩) (.inl ⟨rfl,rfl,by omega⟩)).mk',hF3.mono fun y _ h => by rw [h]; exact hc.okb⟩
 ·rw [if_neg (by omega)]
  have hH : H2[s]? = some (H2[s]'(by rw [hc.m2]; omega)) := List.getElem?_eq_getElem _
  generalize H2[s]'(by rw [hc.m2]; omega) = d at hH
  refine chk_of (by simp; omega) ⟨d.p,d.n,d.c,by rw [World.cell?_drew,dr_cell,hc.bk.cell,qc_wt hc.m1 hH],?_⟩
  refine (queue_take_c (w := (dr w n).drew) hc hq).mono ?_; rintro _ w1 ⟨H1',κ',rfl,hc1,hF1⟩
  replace hF1 : Fr ok w.heap w1.heap := hF1
  replace hc1 : QueueC w1.heap (Old ok w.heap) b (qTake q).2 H1' H2 hs κ' := hc1
  obtain ⟨t1,t2,t3,t4,t5,t6,t7,t8⟩ := hq.take
  have c2 : ∀ w' : World,Bk w'.heap b (qcells H1' H2 (qTake q).2.counts hs (qTake q).2.level (qTake q).2.inn) -> w'.cell? ⟨b,4 + (s : Int).toNat * 1,none⟩ = some (.slice d.p d.n d.c) := fun w' h => by
   rw [h.cell,Int.toNat_natCast,qc_wt hc1.m1 hH]
  refine ⟨_,rfl,⟨c2 _ hc1.bk,trivial⟩,?_⟩
  have hsl := hc1.wt s d (q.wt s) hH (by rw [t3]; exact getD_some (by rw [hq.n2]; omega))
  have hlen := hsl.len; have hlb := hq.len_wt s
  rw [show q.waits.getD s [] = q.wt s from rfl] at hlb
  refine newB_i ?_; intro b1 w2 b1_eq hB hN w2_sz; try simp only [drew_heap',dr_heap] at b1_eq hN
  have hs1 : Sl w2.heap (fun y => y = b1) eI64 (some ⟨b1,0,none⟩) 1 1 [(qTake q).1] := (Sl.of_blk (l := [(qTake q).1]) (E := eI64) hB rfl rfl (by simp)).mono fun _ _ h => h.symm
  refine ⟨⟨c2 _ (hc1.bk.nw hN),trivial⟩,?_⟩
  refine append_r ty_int (hsl.nw hN) hs1 (by omega) ?_
  intro p' c' w3 h3' hF3
  have hB3 := (hc1.bk.nw hN).fr hF3 (fun h => by have := hc1.kb; have := h.2; omega)
  refine ⟨trivial,chk_of (by simp; omega) ?_⟩
  refine stores_i hB3 (by rw [qc_len hc1.m1 hc1.m2 t1.n3 t1.n4 t1.n5]; simp; omega) ?_; intro w4 hB4 hF4 hz4
  rw [qs_wt (d := ⟨p',d.n + 1,c'⟩) hc1.m1 (by rw [hc1.m2]; omega)] at hB4
  have hF : Fr (fun y => (Old ok w.heap y /\ κ' y = 5 + s) \/ y = b) w1.heap w4.heap := (hN.fr.trans hF3 (fun _ _ h => h) (fun y _ h => .inl h)).trans hF4 (fun _ _ h => h) fun y _ h => .inr h
  refine ⟨trivial,_,rfl,?_,hF1.old (hF.mono fun y _ h => by rcases h with h | h; exact h.1; rw [h]; exact hc1.okb)⟩
  refine IsQueue.old hF1.le ((hc1.upd (q' := { (qTake q).2 with waits := q.waits.set s (q.wt s ++ [(qTake q).1]) }) (5 + s) hF (fun y _ _ h => by rcases h with h | h; exact .inr h.2; exact .inl (by rw [h]; exact hc1.kb)) hB4 hc1.m1 (by simp [hc1.m2]) (fun i x l hx hl => .inl ⟨hx,hl,by have := (List.getElem?_eq_some_iff.1 hx).1; have := hc1.m1; omega⟩) (fun i x l hx hl => ?_) (.inl ⟨rfl,rfl,by omega⟩)).mk')
  by_cases hik : i = s
  ·subst hik
   simp only at hl
   rw [List.getElem?_set_self (by rw [hc1.m2]; omega)] at hx
   rw [List.getElem?_set_self (by rw [hq.n2]; omega)] at hl
   simp only [Z3] at hx hl
   subst hx hl
   refine .inr ⟨rfl,h3'.fr hF4 (fun y hy h e => ?_) (fun y hy h => ?_)⟩
   ·have := hc1.kb; have := hc1.bk.lt; have := hN.le; subst e; rcases h with h | h; (have := h.2; omega); omega
   ·have := hN.le
    rcases h with h | h
    ·by_cases hy' : y < w1.heap.size
     ·exact ⟨.inl h.1,by rw [ret_lt hy']; exact h.2⟩
     ·exact ⟨.inr (by omega),by rw [ret_ge (by omega)]⟩
    ·exact ⟨.inr (by omega),by rw [ret_ge (by omega)]⟩
  ·simp only at hl
   rw [List.getElem?_set_ne (Ne.symm hik)] at hx hl
   exact .inl ⟨hx,by rw [t3]; exact hl,by omega⟩
theorem queue_Post_ok (hp : IsQueue w.heap ok b q) (hq : QInv q) (s : Int) : Calls P F.Z11 #[.pointer (some ⟨b,0,none⟩),.int .i64 s] w fun en w' => ∃ t : Int,QueueTo ok b (.int .i64 t) (qPost q s) w en w' := by
 refine oZ11 ?_
 unfold qPost
 refine br_of (fun h1 => ?_) (fun h1 => ?_) <;> simp only [ZJ,ZK,ZL,ZM,ZN,ZO,ZP,ZQ,ZR] at h1
 ·rw [if_pos (by omega)]; exact ⟨_,rfl,hp.same,Fr.refl _ _⟩
 refine br_of (fun h2 => ?_) (fun h2 => ?_) <;> simp only [ZJ,ZK,ZL,ZM,ZN,ZO,ZP,ZQ,ZR] at h2
 ·rw [if_pos (by omega)]; exact ⟨_,rfl,hp.same,Fr.refl _ _⟩
 rw [if_neg (by omega)]
 obtain ⟨s,rfl⟩ := Int.eq_ofNat_of_zero_le h1
 obtain ⟨H1,H2,hs,κ,hc⟩ := hp
 have e1 : Int.toNat ((s : Nat) : Int) = s := rfl
 have hH : H2[s]? = some (H2[s]'(by rw [hc.m2]; omega)) := List.getElem?_eq_getElem _
 generalize H2[s]'(by rw [hc.m2]; omega) = d at hH
 have c1 : ∀ w' : World,Bk w'.heap b (qcells H1 H2 q.counts hs q.level q.inn) -> w'.cell? ⟨b,4 + (s : Int).toNat * 1,none⟩ = some (.slice d.p d.n d.c) := fun w' h => by rw [h.cell,e1,qc_wt hc.m1 hH]
 have hsl := hc.wt s d (q.wt s) hH (getD_some (by rw [hq.n2]; omega))
 have hlen := hsl.len; have hlb := hq.len_wt s; have hcap := hsl.cap
 rw [show q.waits.getD s [] = q.wt s from rfl] at hlb
 refine chk_of (by simp; omega) ⟨_,_,_,c1 _ hc.bk,?_⟩
 refine br_of (fun h3 => ?_) (fun h3 => ?_) <;> simp only [ZJ,ZK,ZL,ZM,ZN,ZO,ZP,ZQ,ZR] at h3
 ·have h0 : q.wt s = [] := List.eq_nil_of_length_eq_zero (by omega)
  simp only [h0,e1]
  refine chk_of (by simp; omega) ⟨q.counts.getD s 0,by rw [World.cell?_drew,hc.bk.cell,qc_cn hc.m1 hc.m2 (by rw [hq.n3]; omega)],chk_of (by simp; omega) ?_⟩
  refine stores_i (w := w.drew) hc.bk (by rw [qc_len hc.m1 hc.m2 hq.n3 hq.n4 hq.n5]; simp; omega) ?_; intro w3 hB3 hF3 hz3
  rw [qs_cn hc.m1 hc.m2 (by rw [hq.n3]; omega)] at hB3
  exact ⟨trivial,_,rfl,(hc.upd (q' := { q with counts := _ }) 100 hF3 (fun y _ _ h => .inl (by rw [h]; exact hc.kb)) hB3 hc.m1 hc.m2 (fun i x l hx hl => .inl ⟨hx,hl,by have := (List.getElem?_eq_some_iff.1 hx).1; have := hc.m1; omega⟩) (fun i x l hx hl => .inl ⟨hx,hl,by have := (List.getElem?_eq_some_iff.1 hx).1; have := hc.m2; omega⟩) (.inl ⟨rfl,rfl,by omega⟩)).mk',hF3.mono fun y _ h => by rw [h]; exact hc.okb⟩
 ·obtain ⟨p,r,e⟩ : ∃ p r,q.wt s = p :: r := by
   cases e : q.wt s with
   | nil => rw [e] at hlen; simp at hlen; omega
   | cons p r => exact ⟨p,r,rfl⟩
  have hm : p ∈ qAll q := List.mem_append_right _ (List.mem_append_left _ (flat_mem (i := s) (by rw [show q.waits.getD s [] = q.wt s from rfl,e]; exact List.mem_cons_self)))
  obtain ⟨p0,p6,_⟩ := hq.rng p hm
  simp only [e,e1]
  rw [e] at hsl hlen hlb
  simp only [List.length_cons] at hlen hlb
  refine chk_of (by simp; omega) ⟨_,_,_,by have := c1 w hc.bk; rwa [e1] at this,chk_of (by simp; omega) ?_⟩
  refine hsl.idx1 (i := 0) (x := p) rfl ?_; intro g o _ hcell
  refine ⟨p,by simpa using hcell,?_⟩
  refine chk_of (by simp; omega) ⟨_,_,_,by have := c1 w.drew hc.bk; rwa [e1] at this,chk_of (by simp; omega) ?_⟩
  have hcut := hsl.cut (lo := 1) (hi := d.n) (mx := d.c) (by omega) (by omega) (by omega) (by omega)
  have et : ((p :: r).drop 1).take (d.n - 1) = r := by rw [List.drop_one,List.tail_cons]; exact List.take_of_length_le (by omega)
  rw [et] at hcut
  refine (slices_Clone_int_int_ok (w := w.drew) hcut (by omega)).mono ?_
  rintro _ w2 ⟨q1,c1',rfl,hq1,hN2⟩
  replace hN2 : Nw w.heap w2.heap := hN2
  have hB2 := hc.bk.nw hN2
  refine ⟨q1,_,c1',rfl,⟨by have := c1 w2 hB2; rwa [e1] at this,trivial⟩,chk_of (by simp; omega) ?_⟩
  refine stores_i hB2 (by rw [qc_len hc.m1 hc.m2 hq.n3 hq.n4 hq.n5]; simp; omega) ?_; intro w3 hB3 hF3 hz3
  rw [qs_wt (d := ⟨q1,d.n - 1,c1'⟩) hc.m1 (by rw [hc.m2]; omega)] at hB3
  have hF : Fr (fun y => y = b) w.heap w3.heap := hN2.fr.trans hF3 (fun _ _ h => h) fun _ _ h => h
  have hFo : Fr ok w.heap w3.heap := hF.mono fun y _ h => by rw [h]; exact hc.okb
  have hc3 := (hc.upd (q' := { q with waits := q.waits.set s r }) (5 + s) hF (fun y _ _ h => .inl (by rw [h]; exact hc.kb)) hB3 hc.m1 (by simp [hc.m2]) (fun i x l' hx hl' => .inl ⟨hx,hl',by have := (List.getElem?_eq_some_iff.1 hx).1; have := hc.m1; omega⟩) (fun i x l' hx hl' => by
   by_cases hik : i = s
   ·subst hik
    simp only at hl'
    rw [List.getElem?_set_self (by rw [hc.m2]; omega)] at hx
    rw [List.getElem?_set_self (by rw [hq.n2]; omega)] at hl'
    simp only [Z3] at hx hl'
    subst hx hl'
    refine .inr ⟨rfl,hq1.fr hF3 (fun y hy h e => ?_) (fun y hy h => ?_)⟩
    ·have := hc.bk.lt; have : w.heap.size <= y := h; omega
    ·have : w.heap.size <= y := h; exact ⟨.inr (by omega),by rw [ret_ge (by omega)]⟩
   ·simp only at hl'
    rw [List.getElem?_set_ne (Ne.symm hik)] at hx hl'
    exact .inl ⟨hx,hl',by omega⟩) (.inl ⟨rfl,rfl,by omega⟩)).mk'
  refine ⟨trivial,(queue_last_ok hc3 ⟨hq.n1,by simp [hq.n2],hq.n3,hq.n4,hq.n5,hq.lev⟩ p0 p6 (Nat.le_trans (hq.len_rd _) (by omega))).mono ?_⟩
  rintro _ w4 ⟨rfl,h4,hF4⟩
  exact ⟨rfl,_,rfl,h4.old hF.le,hFo.old hF4⟩
end
end
section
def wOop (id : Int) : Int := if id < 1 then 0 else if 2147483647 < id then 0 else IntKind.wrap .u32 (id * 2)
def wInt (n : Int) : Int × Bool := if n < -1073741824 then (0,false) else if 1073741823 < n then (0,false) else ((2 * n + 1) % 4294967296,true)
def wID (a : Int) : Int × Bool := if a % 2 = 1 then (0,false) else if a = 0 then (0,false) else (IntKind.wrap .i64 (a / 2),true)
def wNum (a : Int) : Int × Bool := if a % 2 = 0 then (0,false) else (((a + 2147483648) % 4294967296 - 2147483648) / 2,true)
def wAdd (a b : Int) : Int × Bool := if ((wNum a).2 && (wNum b).2) then wInt ((wNum a).1 + (wNum b).1) else (0,false)
def wSub (a b : Int) : Int × Bool := if ((wNum a).2 && (wNum b).2) then wInt ((wNum a).1 - (wNum b).1) else (0,false)
def wMul (a b : Int) : Int × Bool := if ((wNum a).2 && (wNum b).2) then wInt ((wNum a).1 * (wNum b).1) else (0,false)
def wDiv (a b : Int) : Int × Bool := if ((wNum a).2 && (wNum b).2) then (if (wNum b).1 = 0 then (0,false) else wInt ((wNum a).1.fdiv (wNum b).1)) else (0,false)
def wLess (a b : Int) : Bool × Bool := (((wNum a).2 && (wNum b).2) && decide ((wNum a).1 < (wNum b).1),((wNum a).2 && (wNum b).2))
theorem wNum_range (a : Int) : -1073741824 <= (wNum a).1 /\ (wNum a).1 <= 1073741823 := by
 unfold wNum; split <;> simp only <;> omega
theorem wrap_u32 (x : Int) : IntKind.wrap .u32 x = x % 4294967296 := by simp [IntKind.wrap,IntKind.bits,IntKind.signed]
theorem wrap_i32 (x : Int) : IntKind.wrap .i32 x = (x + 2147483648) % 4294967296 - 2147483648 := by
 simp [IntKind.wrap,IntKind.bits,IntKind.signed]
 split <;> omega
theorem bit_and_one (a : Int) : IntKind.wrap .u32 ((BitVec.toNat (BitVec.ofInt (IntKind.bits .u32) a &&& BitVec.ofInt (IntKind.bits .u32) 1) : Int)) = a % 2 := by
 have h1 : (BitVec.ofInt 32 1).toNat = 1 := by decide
 have h2 : (BitVec.ofInt 32 a).toNat = (a % 4294967296).toNat := by simp [BitVec.toNat_ofInt]
 change IntKind.wrap .u32 (((BitVec.ofInt 32 a &&& BitVec.ofInt 32 1).toNat : Nat) : Int) = _
 rw [BitVec.toNat_and,h1,h2,Nat.and_one_is_mod,wrap_u32]
 omega
theorem bit_or_one (a : Int) (h : a % 2 = 0) : IntKind.wrap .u32 ((BitVec.toNat (BitVec.ofInt (IntKind.bits .u32) a ||| BitVec.ofInt (IntKind.bits .u32) 1) : Int)) = (a + 1) % 4294967296 := by
 have h1 : (BitVec.ofInt 32 1).toNat = 1 := by decide
 have h2 : (BitVec.ofInt 32 a).toNat = (a % 4294967296).toNat := by simp [BitVec.toNat_ofInt]
 have h3 : ∀ n : Nat,n % 2 = 0 -> n ||| 1 = n + 1 := by
  intro n hn
  have h4 : n = 2 ^ 1 * (n / 2) := by omega
  rw [h4]
  exact (Nat.two_pow_add_eq_or_of_lt (by omega) _).symm
 change IntKind.wrap .u32 (((BitVec.ofInt 32 a ||| BitVec.ofInt 32 1).toNat : Nat) : Int) = _
 rw [BitVec.toNat_or,h1,h2,h3 _ (by omega),wrap_u32]
 omega
theorem min1 : (min (Int.toNat 1) (IntKind.bits .u32)) = 1 /\ (min (Int.toNat 1) (IntKind.bits .i32)) = 1 := by decide
theorem word_Oop_ok (id : Int) (w : World) : Calls P F.Zp #[.int .i64 id] w (Is (.int .u32 (wOop id)) w) := by
 refine oZp ?_
 simp only [vZp,br_ite,ZJ,wOop,min1.1]
 repeat' split
 all_goals first
  | exact Is.mk _ _
  | (rw [wrap_u32,wrap_u32,wrap_u32,show id % 4294967296 * 2 ^ 1 % 4294967296 = id * 2 % 4294967296 by omega]; exact Is.mk _ _)
theorem word_Int_ok (n : Int) (w : World) : Calls P F.Z12 #[.int .i64 n] w (Is (.tuple #[.int .u32 (wInt n).1,.bool (wInt n).2]) w) := by
  refine oZ12 ?_
  simp only [vZ12,br_ite,ZJ,wInt,min1.1,join_eq]
  repeat' split
  all_goals first
    | exact Is.mk _ _
    | (rw [bit_or_one _ (by rw [wrap_u32,wrap_u32,wrap_i32]; omega),wrap_u32,wrap_u32,wrap_i32]
       have : (((n + 2147483648) % 4294967296 - 2147483648) % 4294967296 * 2 ^ 1 % 4294967296 + 1) % 4294967296 = (2 * n + 1) % 4294967296 := by omega
       rw [this]
       exact Is.mk _ _)
theorem word_ID_ok (a : Int) (w : World) : Calls P F.Z2g #[.int .u32 a] w (Is (.tuple #[.int .i64 (wID a).1,.bool (wID a).2]) w) := by
 refine oZ2g ?_
 simp only [vZ2g,br_ite,ZJ,bit_and_one,wID,min1.1]
 repeat' split
 all_goals first
  | exact Is.mk _ _
  | (rw [show a.fdiv (2 ^ 1) = a / 2 by rw [Int.fdiv_eq_ediv_of_nonneg _ (by omega)]; rfl]; exact Is.mk _ _)
theorem word_Num_ok (a : Int) (w : World) : Calls P F.Z3p #[.int .u32 a] w (Is (.tuple #[.int .i64 (wNum a).1,.bool (wNum a).2]) w) := by
 refine oZ3p ?_
 simp only [vZ3p,br_ite,ZJ,bit_and_one,wNum,min1.2]
 repeat' split
 all_goals first
  | exact Is.mk _ _
  | (rw [show (IntKind.wrap .i32 a).fdiv (2 ^ 1) = ((a + 2147483648) % 4294967296 - 2147483648) / 2 by rw [Int.fdiv_eq_ediv_of_nonneg _ (by omega),wrap_i32]; rfl,wrap_id (by omega) (by omega)]; exact Is.mk _ _)
theorem word_both_ok (a b : Int) (w : World) : Calls P F.Z4f #[.int .u32 a,.int .u32 b] w (Is (.tuple #[.int .i64 (wNum a).1,.int .i64 (wNum b).1,.bool ((wNum a).2 && (wNum b).2)]) w) := by
 refine oZ4f ?_
 refine (word_Num_ok a w).mono ?_; rintro _ _ ⟨rfl,n1,rfl⟩; refine ⟨_,_,rfl,?_⟩
 refine (word_Num_ok b _).mono ?_; rintro _ _ ⟨rfl,n2,rfl⟩; refine ⟨_,_,rfl,?_⟩
 simp only [br_ite,dr_dr]
 split
 ·rename_i h; rw [h,Bool.true_and]; exact Is.dr _ _ _
 ·rename_i h; simp only [ZN] at h; rw [h,Bool.false_and]; exact Is.dr _ _ _
theorem word_Less_ok (a b : Int) (w : World) : Calls P F.Z3i #[.int .u32 a,.int .u32 b] w (Is (.tuple #[.bool (wLess a b).1,.bool (wLess a b).2]) w) := by
 refine oZ3i ?_
 refine (word_both_ok a b w).mono ?_; rintro _ _ ⟨rfl,n1,rfl⟩; refine ⟨_,_,_,rfl,?_⟩
 simp only [br_ite,wLess]
 split
 ·rename_i h; rw [h,Bool.true_and]; exact Is.dr _ _ _
 ·rename_i h; simp only [ZN] at h; rw [h,Bool.false_and]; exact Is.dr _ _ _
theorem word_Add_ok (a b : Int) (w : World) : Calls P F.Z3j #[.int .u32 a,.int .u32 b] w (Is (.tuple #[.int .u32 (wAdd a b).1,.bool (wAdd a b).2]) w) := by
 refine oZ3j ?_
 refine (word_both_ok a b w).mono ?_; rintro _ _ ⟨rfl,n1,rfl⟩; refine ⟨_,_,_,rfl,?_⟩
 have ha := wNum_range a; have hb := wNum_range b
 cases h : ((wNum a).2 && (wNum b).2) <;> simp only [br_true,br_false,Bool.not_true,Bool.not_false,wAdd,h,if_true,Bool.false_eq_true,if_false]
 ·exact Is.dr _ _ _
 ·rw [wrap_id (by omega) (by omega)]
  refine (word_Int_ok _ _).mono ?_; rintro _ _ ⟨rfl,n2,rfl⟩; refine ⟨_,_,rfl,?_⟩
  rw [dr_dr]; exact Is.dr _ _ _
theorem word_Sub_ok (a b : Int) (w : World) : Calls P F.Z3k #[.int .u32 a,.int .u32 b] w (Is (.tuple #[.int .u32 (wSub a b).1,.bool (wSub a b).2]) w) := by
 refine oZ3k ?_
 refine (word_both_ok a b w).mono ?_; rintro _ _ ⟨rfl,n1,rfl⟩; refine ⟨_,_,_,rfl,?_⟩
 have ha := wNum_range a; have hb := wNum_range b
 cases h : ((wNum a).2 && (wNum b).2) <;> simp only [br_true,br_false,Bool.not_true,Bool.not_false,wSub,h,if_true,Bool.false_eq_true,if_false]
 ·exact Is.dr _ _ _
 ·rw [wrap_id (by omega) (by omega)]
  refine (word_Int_ok _ _).mono ?_; rintro _ _ ⟨rfl,n2,rfl⟩; refine ⟨_,_,rfl,?_⟩
  rw [dr_dr]; exact Is.dr _ _ _
theorem mul_range {x y : Int} (hx : -1073741824 <= x /\ x <= 1073741823) (hy : -1073741824 <= y /\ y <= 1073741823) : -1152921504606846976 <= x * y /\ x * y <= 1152921504606846976 := by
 have h1 : x.natAbs <= 1073741824 := by omega
 have h2 : y.natAbs <= 1073741824 := by omega
 have h3 : (x * y).natAbs <= 1152921504606846976 := by rw [Int.natAbs_mul]; exact Nat.mul_le_mul h1 h2
 omega
theorem word_Mul_ok (a b : Int) (w : World) : Calls P F.Z3l #[.int .u32 a,.int .u32 b] w (Is (.tuple #[.int .u32 (wMul a b).1,.bool (wMul a b).2]) w) := by
 refine oZ3l ?_
 refine (word_both_ok a b w).mono ?_; rintro _ _ ⟨rfl,n1,rfl⟩; refine ⟨_,_,_,rfl,?_⟩
 have hm := mul_range (wNum_range a) (wNum_range b)
 cases h : ((wNum a).2 && (wNum b).2) <;> simp only [br_true,br_false,Bool.not_true,Bool.not_false,wMul,h,if_true,Bool.false_eq_true,if_false]
 ·exact Is.dr _ _ _
 ·rw [wrap_id (by omega) (by omega)]
  refine (word_Int_ok _ _).mono ?_; rintro _ _ ⟨rfl,n2,rfl⟩; refine ⟨_,_,rfl,?_⟩
  rw [dr_dr]; exact Is.dr _ _ _
theorem tdiv_range {x y : Int} (hx : -1073741824 <= x /\ x <= 1073741823) : -1073741824 <= x.tdiv y /\ x.tdiv y <= 1073741824 := by
 have h1 := Int.natAbs_tdiv_le_natAbs x y
 omega
theorem fdiv_of_tdiv (x y : Int) (hy : y ≠ 0) : x.fdiv y = if x.tmod y ≠ 0 /\ (decide (x < 0) ≠ decide (y < 0)) then x.tdiv y - 1 else x.tdiv y := by
 rw [Int.fdiv_eq_tdiv]
 have hd : y ∣ x ↔ x.tmod y = 0 := Int.dvd_iff_tmod_eq_zero
 by_cases h : x.tmod y = 0
 ·simp [hd,h]
 ·by_cases hx : 0 <= x <;> by_cases hz : 0 <= y <;> simp [hd,h,hx,hz,show (x < 0) = ¬ (0 <= x) by simp,show (y < 0) = ¬ (0 <= y) by simp]
  ·omega
  ·rw [Int.sign_eq_neg_one_of_neg (by omega)]; omega
theorem word_Div_ok (a b : Int) (w : World) : Calls P F.Z3m #[.int .u32 a,.int .u32 b] w (Is (.tuple #[.int .u32 (wDiv a b).1,.bool (wDiv a b).2]) w) := by
 refine oZ3m ?_
 refine (word_both_ok a b w).mono ?_; rintro _ _ ⟨rfl,n1,rfl⟩; refine ⟨_,_,_,rfl,?_⟩
 have ht := tdiv_range (y := (wNum b).1) (wNum_range a)
 cases h : ((wNum a).2 && (wNum b).2) <;> simp only [join_eq,br_true,br_false,Bool.not_true,Bool.not_false,wDiv,h,if_true,Bool.false_eq_true,if_false]
 ·exact Is.dr _ _ _
 ·by_cases hb : (wNum b).1 = 0
  ·simp only [hb,decide_true,br_true,if_true]; exact Is.dr _ _ _
  ·simp only [hb,decide_false,br_false,if_false]
   have key : ∀ q : Int,q = (wNum a).1.fdiv (wNum b).1 -> Calls P F.Z12 #[.int .i64 q] (dr w n1) (fun en w2 => ∃ x01 x11,en = .returned (.tuple #[.int .u32 x01,.bool x11]) /\ Is (.tuple #[.int .u32 (wInt ((wNum a).1.fdiv (wNum b).1)).1,.bool (wInt ((wNum a).1.fdiv (wNum b).1)).2]) w (.returned (.tuple #[.int .u32 x01,.bool x11])) w2) := by
    rintro q rfl
    refine (word_Int_ok _ _).mono ?_; rintro _ _ ⟨rfl,n2,rfl⟩; refine ⟨_,_,rfl,?_⟩
    rw [dr_dr]; exact Is.dr _ _ _
   refine chk_of rfl (chk_of rfl ?_)
   have hf := fdiv_of_tdiv (wNum a).1 (wNum b).1 hb
   by_cases h1 : (wNum a).1.tmod (wNum b).1 = 0
   ·simp only [h1,decide_true,Bool.not_true,br_false]
    rw [wrap_id (x := (wNum a).1.tdiv (wNum b).1) (by omega) (by omega)]
    refine key _ ?_
    rw [hf,if_neg (fun hh => hh.1 h1)]
   ·simp only [h1,decide_false,Bool.not_false,br_true]
    by_cases h2 : decide ((wNum a).1 < 0) = decide ((wNum b).1 < 0)
    ·rw [h2]
     simp only [beq_self_eq_true,Bool.not_true,br_false]
     rw [wrap_id (x := (wNum a).1.tdiv (wNum b).1) (by omega) (by omega)]
     refine key _ ?_
     rw [hf,if_neg (fun hh => hh.2 h2)]
    ·simp only [beq_eq_false_iff_ne.2 h2,Bool.not_false,br_true]
     rw [wrap_id (x := (wNum a).1.tdiv (wNum b).1) (by omega) (by omega),wrap_id (by omega) (by omega)]
     refine key _ ?_
     rw [hf,if_pos ⟨h1,h2⟩]
end
section
variable {w : World} {R : Ending -> World -> Prop}
def vZ3  (w : World) (R : Value -> World -> Prop) : Prop :=
 newB w #[.slice none 0 0] T.store_Ideal fun b q =>
 R (.pointer (some ⟨b,0,none⟩)) q
theorem oZ3  (h : vZ3  w fun v w' => R (.returned v) w') : Calls P F.Z3 #[] w R :=
 calls_of_eq (A := ⟨[],[]⟩) mixed Tryz.func6 (by kernel_rfl) (by kernel_rfl) h
def vZi (s_t : TypeId) (s_v : Value) (pu0 : Option Addr) (nu0 cu0 : Nat) (pu1 : Option Addr) (nu1 cu1 : Nat) (pu2 : Option Addr) (nu2 cu2 : Nat) (pu3 : Option Addr) (nu3 cu3 : Nat) (u4 : Int) (w : World) (R : Value -> World -> Prop) : Prop :=
 newB w #[.slice pu0 nu0 cu0,.slice pu1 nu1 cu1,.slice pu2 nu2 cu2,.slice pu3 nu3 cu3,.int .i64 u4] T.api_Unit fun b q =>
 join (fun (t : Unit) (q1 : World) =>
 ∃ px nx cx,q1.cell? ⟨b,3,none⟩ = some (.slice px nx cx) /\
 ∃ (I : (Option Addr × Nat × Nat) × Int -> World -> Prop) (μ : (Option Addr × Nat × Nat) × Int -> World -> Nat),I ((none,0,0),0) q1 /\
 ∀ (t1 : (Option Addr × Nat × Nat) × Int) (q2 : World),I t1 q2 ->
 br (decide (t1.2 < (nx : Int))) (
 chk (decide (0 <= t1.2) && decide (t1.2 < (nx : Int))) (
 onPtr px fun g o =>
 ∃ x0 px1 nx1 cx1,holds q2 g (o + t1.2.toNat * 2) [.int .i64 x0,.slice px1 nx1 cx1] /\
 newB q2 #[.int .i64 0,.slice none 0 0] T.api_Obj fun b1 q3 =>
 stores q3 b1 0 [.int .i64 x0,.slice px1 nx1 cx1] fun q4 =>
 ∃ x,q4.cell? ⟨b1,0,none⟩ = some (.int .i64 x) /\
 ∃ px2 nx2 cx2,q4.cell? ⟨b1,1,none⟩ = some (.slice px2 nx2 cx2) /\
 ∃ (fn : FuncId) (rc : Value),(method (P.types.size + Made.depth) s_t s_v "Alloc").run P q4 = .ok (fn,rc) q4 /\ chk (callable P fn) (Calls P fn (#[rc] ++ #[.int .i64 x,.int .i64 (nx2 : Int)]) q4 fun en q5 => ∃ x1,en = .returned (.int .i64 x1) /\
 br (decide (x1 < 0)) (
 R (.tuple #[.slice none 0 0,.bool false]) q5) (
 newB q5 #[.int .i64 x1] T.int fun b2 q6 =>
 ∃ px3 nx3 cx3 q7,(Builtin.append_ #[T.sl_int,T.sl_int] T.sl_int #[.slice t1.1.1 t1.1.2.1 t1.1.2.2,.slice (some ⟨b2,0,none⟩) 1 1]).run P q6 = .ok (.slice px3 nx3 cx3) q7 /\ Aft q6 q7 /\
 I ((px3,nx3,cx3),IntKind.wrap .i64 (t1.2 + 1)) q7 /\ μ ((px3,nx3,cx3),IntKind.wrap .i64 (t1.2 + 1)) q7 < μ t1 q2)))) (
 ∃ px4 nx4 cx4,q2.cell? ⟨b,3,none⟩ = some (.slice px4 nx4 cx4) /\
 ∃ (I1 : Int -> World -> Prop) (μ1 : Int -> World -> Nat),I1 0 q2 /\
 ∀ (t2 : Int) (q8 : World),I1 t2 q8 ->
 br (decide (t2 < (nx4 : Int))) (
 chk (decide (0 <= t2) && decide (t2 < (nx4 : Int))) (
 onPtr px4 fun g1 o1 =>
 ∃ x01 px11 nx11 cx11,holds q8 g1 (o1 + t2.toNat * 2) [.int .i64 x01,.slice px11 nx11 cx11] /\
 newB q8 #[.int .i64 0,.slice none 0 0] T.api_Obj fun b3 q9 =>
 stores q9 b3 0 [.int .i64 x01,.slice px11 nx11 cx11] fun q10 =>
 ∃ px5 nx5 cx5,q10.cell? ⟨b3,1,none⟩ = some (.slice px5 nx5 cx5) /\
 ∃ (I2 : Int -> World -> Prop) (μ2 : Int -> World -> Nat),I2 0 q10 /\
 ∀ (t3 : Int) (q11 : World),I2 t3 q11 ->
 br (decide (t3 < (nx5 : Int))) (
 chk (decide (0 <= t3) && decide (t3 < (nx5 : Int))) (
 onPtr px5 fun g2 o2 =>
 ∃ x02 x11,holds q11 g2 (o2 + t3.toNat * 2) [.int .i64 x02,.int .i64 x11] /\
 newB q11 #[.int .i64 0,.int .i64 0] T.api_Val fun b4 q12 =>
 stores q12 b4 0 [.int .i64 x02,.int .i64 x11] fun q13 =>
 wv q13.drew fun q14 =>
 chk (decide (0 <= t2) && decide (t2 < (t1.1.2.1 : Int))) (
 onPtr t1.1.1 fun g3 o3 =>
 ∃ x2,q14.cell? ⟨g3,o3 + t2.toNat * 1,none⟩ = some (.int .i64 x2) /\
 ∃ x03 x12,holds q14 b4 0 [.int .i64 x03,.int .i64 x12] /\
 (∀ w,(nilAhead (P.types.size + Made.depth) s_t s_v "Put").run P w = .ok (some false) w) /\
 Calls P F.Z18 #[.agg #[.int .i64 x03,.int .i64 x12],.slice t1.1.1 t1.1.2.1 t1.1.2.2] q14 fun en q15 => ∃ x3,en = .returned (.int .u32 x3) /\
 ((q15.cell? ⟨g3,o3 + t2.toNat * 1,none⟩ = some (.int .i64 x2)) /\ True) /\
 ∃ (fn1 : FuncId) (rc1 : Value),(method (P.types.size + Made.depth) s_t s_v "Put").run P q15 = .ok (fn1,rc1) q15 /\ chk (callable P fn1) (Calls P fn1 (#[rc1] ++ #[.int .i64 x2,.int .i64 t3,.int .u32 x3]) q15 fun en q16 => ∃ x4,en = .returned (.bool x4) /\
 True /\
 I2 (IntKind.wrap .i64 (t3 + 1)) q16 /\ μ2 (IntKind.wrap .i64 (t3 + 1)) q16 < μ2 t3 q11)))) (
 I1 (IntKind.wrap .i64 (t2 + 1)) q11 /\ μ1 (IntKind.wrap .i64 (t2 + 1)) q11 < μ1 t2 q8))) (
 Calls P F.Z19 #[.slice t1.1.1 t1.1.2.1 t1.1.2.2] q8 fun en q17 => ∃ px6 nx6 cx6,en = .returned (.slice px6 nx6 cx6) /\
 R (.tuple #[.slice px6 nx6 cx6,.bool true]) q17))) fun J3 =>
 ∃ px0 nx0 cx0 px12 nx12 cx12 px21 nx21 cx21 px31 nx31 cx31 x41,holds q b 0 [.slice px0 nx0 cx0,.slice px12 nx12 cx12,.slice px21 nx21 cx21,.slice px31 nx31 cx31,.int .i64 x41] /\
 Calls P F.Z17 #[.agg #[.slice px0 nx0 cx0,.slice px12 nx12 cx12,.slice px21 nx21 cx21,.slice px31 nx31 cx31,.int .i64 x41]] q fun en q18 => ∃ x5,en = .returned (.int .i64 x5) /\
 br (!(decide (x5 = 0))) (
 R (.tuple #[.slice none 0 0,.bool false]) q18) (
 J3 () q18)
theorem oZi {s_t : TypeId} {s_v : Value} {pu0 : Option Addr} {nu0 cu0 : Nat} {pu1 : Option Addr} {nu1 cu1 : Nat} {pu2 : Option Addr} {nu2 cu2 : Nat} {pu3 : Option Addr} {nu3 cu3 : Nat} {u4 : Int} (h : vZi s_t s_v pu0 nu0 cu0 pu1 nu1 cu1 pu2 nu2 cu2 pu3 nu3 cu3 u4 w fun v w' => R (.returned v) w') : Calls P F.Zi #[.iface s_t s_v,.agg #[.slice pu0 nu0 cu0,.slice pu1 nu1 cu1,.slice pu2 nu2 cu2,.slice pu3 nu3 cu3,.int .i64 u4]] w R :=
 calls_of_eq (A := ⟨[(5,[(6,.slice),(24,(.int .i64))]),(13,[(45,(.int .i64))]),(16,[(53,(.int .i64))])],[(3,[])]⟩) mixed Tryz.func21 (by kernel_rfl) (by kernel_rfl) h
def vZ4x (pu0 : Option Addr) (nu0 cu0 : Nat) (pu1 : Option Addr) (nu1 cu1 : Nat) (pu2 : Option Addr) (nu2 cu2 : Nat) (pu3 : Option Addr) (nu3 cu3 : Nat) (u4 : Int) (w : World) (R : Value -> World -> Prop) : Prop :=
 newB w #[.slice pu0 nu0 cu0,.slice pu1 nu1 cu1,.slice pu2 nu2 cu2,.slice pu3 nu3 cu3,.int .i64 u4] T.api_Unit fun b q =>
 join (fun (t : Unit) (q1 : World) =>
 ∃ px nx cx,q1.cell? ⟨b,3,none⟩ = some (.slice px nx cx) /\
 ∃ (I : (Option Addr × Nat × Nat) × Int -> World -> Prop) (μ : (Option Addr × Nat × Nat) × Int -> World -> Nat),I ((none,0,0),0) q1 /\
 ∀ (t1 : (Option Addr × Nat × Nat) × Int) (q2 : World),I t1 q2 ->
 br (decide (t1.2 < (nx : Int))) (
 chk (decide (0 <= t1.2) && decide (t1.2 < (nx : Int))) (
 onPtr px fun g o =>
 ∃ x0 px1 nx1 cx1,holds q2 g (o + t1.2.toNat * 2) [.int .i64 x0,.slice px1 nx1 cx1] /\
 newB q2 #[.int .i64 0,.slice none 0 0] T.api_Obj fun b1 q3 =>
 stores q3 b1 0 [.int .i64 x0,.slice px1 nx1 cx1] fun q4 =>
 ∃ x,q4.cell? ⟨b1,0,none⟩ = some (.int .i64 x) /\
 ∃ px2 nx2 cx2,q4.cell? ⟨b1,1,none⟩ = some (.slice px2 nx2 cx2) /\
 onIface .nilIface fun u1 y =>
 ∃ (fn : FuncId) (rc : Value),(method (P.types.size + Made.depth) u1 y "Alloc").run P q4 = .ok (fn,rc) q4 /\ chk (callable P fn) (Calls P fn (#[rc] ++ #[.int .i64 x,.int .i64 (nx2 : Int)]) q4 fun en q5 => ∃ x1,en = .returned (.int .i64 x1) /\
 br (decide (x1 < 0)) (
 R (.tuple #[.slice none 0 0,.bool false]) q5) (
 newB q5 #[.int .i64 x1] T.int fun b2 q6 =>
 ∃ px3 nx3 cx3 q7,(Builtin.append_ #[T.sl_int,T.sl_int] T.sl_int #[.slice t1.1.1 t1.1.2.1 t1.1.2.2,.slice (some ⟨b2,0,none⟩) 1 1]).run P q6 = .ok (.slice px3 nx3 cx3) q7 /\ Aft q6 q7 /\
 I ((px3,nx3,cx3),IntKind.wrap .i64 (t1.2 + 1)) q7 /\ μ ((px3,nx3,cx3),IntKind.wrap .i64 (t1.2 + 1)) q7 < μ t1 q2)))) (
 ∃ px4 nx4 cx4,q2.cell? ⟨b,3,none⟩ = some (.slice px4 nx4 cx4) /\
 ∃ (I1 : Int -> World -> Prop) (μ1 : Int -> World -> Nat),I1 0 q2 /\
 ∀ (t2 : Int) (q8 : World),I1 t2 q8 ->
 br (decide (t2 < (nx4 : Int))) (
 chk (decide (0 <= t2) && decide (t2 < (nx4 : Int))) (
 onPtr px4 fun g1 o1 =>
 ∃ x01 px11 nx11 cx11,holds q8 g1 (o1 + t2.toNat * 2) [.int .i64 x01,.slice px11 nx11 cx11] /\
 newB q8 #[.int .i64 0,.slice none 0 0] T.api_Obj fun b3 q9 =>
 stores q9 b3 0 [.int .i64 x01,.slice px11 nx11 cx11] fun q10 =>
 ∃ px5 nx5 cx5,q10.cell? ⟨b3,1,none⟩ = some (.slice px5 nx5 cx5) /\
 ∃ (I2 : Int -> World -> Prop) (μ2 : Int -> World -> Nat),I2 0 q10 /\
 ∀ (t3 : Int) (q11 : World),I2 t3 q11 ->
 br (decide (t3 < (nx5 : Int))) (
 chk (decide (0 <= t3) && decide (t3 < (nx5 : Int))) (
 onPtr px5 fun g2 o2 =>
 ∃ x02 x11,holds q11 g2 (o2 + t3.toNat * 2) [.int .i64 x02,.int .i64 x11] /\
 newB q11 #[.int .i64 0,.int .i64 0] T.api_Val fun b4 q12 =>
 stores q12 b4 0 [.int .i64 x02,.int .i64 x11] fun q13 =>
 wv q13.drew fun q14 =>
 chk (decide (0 <= t2) && decide (t2 < (t1.1.2.1 : Int))) (
 onPtr t1.1.1 fun g3 o3 =>
 ∃ x2,q14.cell? ⟨g3,o3 + t2.toNat * 1,none⟩ = some (.int .i64 x2) /\
 ∃ x03 x12,holds q14 b4 0 [.int .i64 x03,.int .i64 x12] /\
 False))) (
 I1 (IntKind.wrap .i64 (t2 + 1)) q11 /\ μ1 (IntKind.wrap .i64 (t2 + 1)) q11 < μ1 t2 q8))) (
 Calls P F.Z19 #[.slice t1.1.1 t1.1.2.1 t1.1.2.2] q8 fun en q15 => ∃ px6 nx6 cx6,en = .returned (.slice px6 nx6 cx6) /\
 R (.tuple #[.slice px6 nx6 cx6,.bool true]) q15))) fun J3 =>
 R (.tuple #[.slice none 0 0,.bool false]) q
theorem oZ4x {pu0 : Option Addr} {nu0 cu0 : Nat} {pu1 : Option Addr} {nu1 cu1 : Nat} {pu2 : Option Addr} {nu2 cu2 : Nat} {pu3 : Option Addr} {nu3 cu3 : Nat} {u4 : Int} (h : vZ4x pu0 nu0 cu0 pu1 nu1 cu1 pu2 nu2 cu2 pu3 nu3 cu3 u4 w fun v w' => R (.returned v) w') : Calls P F.Zi #[.nilIface,.agg #[.slice pu0 nu0 cu0,.slice pu1 nu1 cu1,.slice pu2 nu2 cu2,.slice pu3 nu3 cu3,.int .i64 u4]] w R :=
 calls_of_eq (A := ⟨[(5,[(6,.slice),(24,(.int .i64))]),(13,[(45,(.int .i64))]),(16,[(53,(.int .i64))])],[(3,[])]⟩) mixed Tryz.func21 (by kernel_rfl) (by kernel_rfl) h
def vZ18 (v0 : Int) (v1 : Int) (pids : Option Addr) (nids cids : Nat) (w : World) (R : Value -> World -> Prop) : Prop :=
 newB w #[.int .i64 v0,.int .i64 v1] T.api_Val fun b q =>
 ∃ x,q.cell? ⟨b,0,none⟩ = some (.int .i64 x) /\
 br (decide (x = 1)) (
 R (.int .u32 6) q) (
 br (decide (x = 2)) (
 R (.int .u32 4) q) (
 br (decide (x = 3)) (
 ∃ x1,q.cell? ⟨b,1,none⟩ = some (.int .i64 x1) /\
 Calls P F.Z12 #[.int .i64 x1] q fun en q1 => ∃ x0 x11,en = .returned (.tuple #[.int .u32 x0,.bool x11]) /\
 R (.int .u32 x0) q1) (
 br (decide (x = 4)) (
 ∃ x2,q.cell? ⟨b,1,none⟩ = some (.int .i64 x2) /\
 chk (decide (0 <= x2) && decide (x2 < (nids : Int))) (
 onPtr pids fun g o =>
 ∃ x3,q.cell? ⟨g,o + x2.toNat * 1,none⟩ = some (.int .i64 x3) /\
 Calls P F.Zp #[.int .i64 x3] q fun en q2 => ∃ x4,en = .returned (.int .u32 x4) /\
 R (.int .u32 x4) q2)) (
 R (.int .u32 2) q))))
theorem oZ18 {v0 : Int} {v1 : Int} {pids : Option Addr} {nids cids : Nat} (h : vZ18 v0 v1 pids nids cids w fun v w' => R (.returned v) w') : Calls P F.Z18 #[.agg #[.int .i64 v0,.int .i64 v1],.slice pids nids cids] w R :=
 calls_of_eq (A := ⟨[],[]⟩) mixed Tryz.func47 (by kernel_rfl) (by kernel_rfl) h
def vZ4q (s : Nat) (class_ : Int) (fields : Int) (w : World) (R : Value -> World -> Prop) : Prop :=
 join (fun (t : Unit) (q : World) =>
 wv q.drew fun q1 =>
 ∃ px nx cx,q1.cell? ⟨s,0,none⟩ = some (.slice px nx cx) /\
 newB q1 #[.int .u32 2] T.uint32 fun b q2 =>
 ((q2.cell? ⟨s,0,none⟩ = some (.slice px nx cx)) /\ True) /\
 Calls P F.Z1l #[.slice (some ⟨b,0,none⟩) 1 1,.int .i64 fields] q2 fun en q3 => ∃ px1 nx1 cx1,en = .returned (.slice px1 nx1 cx1) /\
 ((q3.cell? ⟨s,0,none⟩ = some (.slice px nx cx)) /\ True) /\
 newB q3 #[.int .i64 class_,.slice px1 nx1 cx1] T.store_object fun b1 q4 =>
 ((q4.cell? ⟨s,0,none⟩ = some (.slice px nx cx)) /\ True) /\
 ∃ px2 nx2 cx2 q5,(Builtin.append_ #[T.sl_store_object,T.sl_store_object] T.sl_store_object #[.slice px nx cx,.slice (some ⟨b1,0,none⟩) 1 1]).run P q4 = .ok (.slice px2 nx2 cx2) q5 /\ Aft q4 q5 /\
 True /\
 stores q5 s 0 [.slice px2 nx2 cx2] fun q6 =>
 True /\
 ∃ px3 nx3 cx3,q6.cell? ⟨s,0,none⟩ = some (.slice px3 nx3 cx3) /\
 R (.int .i64 (IntKind.wrap .i64 ((IntKind.wrap .i64 (4 + (nx3 : Int))) - 1))) q6) fun J3 =>
 br (decide (class_ < 0)) (
 R (.int .i64 (-1)) w) (
 br (decide (4095 < class_)) (
 R (.int .i64 (-1)) w) (
 br (decide (fields < 0)) (
 R (.int .i64 (-1)) w) (
 br (decide (62 < fields)) (
 R (.int .i64 (-1)) w) (
 J3 () w))))
theorem oZ4q {s : Nat} {class_ : Int} {fields : Int} (h : vZ4q s class_ fields w fun v w' => R (.returned v) w') : Calls P F.Z4q #[.pointer (some ⟨s,0,none⟩),.int .i64 class_,.int .i64 fields] w R :=
 calls_of_eq (A := ⟨[],[(3,[])]⟩) mixed Tryz.func215 (by kernel_rfl) (by kernel_rfl) h
def vZ4r (s : Nat) (id : Int) (w : World) (R : Value -> World -> Prop) : Prop :=
 Calls P F.Z4w #[.pointer (some ⟨s,0,none⟩),.int .i64 id] w fun en q => ∃ x,en = .returned (.pointer x) /\
 br (!(Option.isNone x)) (
 onPtr x fun g o =>
 ∃ x1,q.cell? ⟨g,o,none⟩ = some (.int .i64 x1) /\
 R (.int .i64 x1) q) (
 R (.int .i64 (-1)) q)
theorem oZ4r {s : Nat} {id : Int} (h : vZ4r s id w fun v w' => R (.returned v) w') : Calls P F.Z4r #[.pointer (some ⟨s,0,none⟩),.int .i64 id] w R :=
 calls_of_eq (A := ⟨[],[]⟩) mixed Tryz.func216 (by kernel_rfl) (by kernel_rfl) h
def vZ4s (s : Nat) (id : Int) (w : World) (R : Value -> World -> Prop) : Prop :=
 Calls P F.Z4w #[.pointer (some ⟨s,0,none⟩),.int .i64 id] w fun en q => ∃ x,en = .returned (.pointer x) /\
 br (!(Option.isNone x)) (
 onPtr x fun g o =>
 ∃ px nx cx,q.cell? ⟨g,o + 1,none⟩ = some (.slice px nx cx) /\
 R (.int .i64 (nx : Int)) q) (
 R (.int .i64 (-1)) q)
theorem oZ4s {s : Nat} {id : Int} (h : vZ4s s id w fun v w' => R (.returned v) w') : Calls P F.Z4s #[.pointer (some ⟨s,0,none⟩),.int .i64 id] w R :=
 calls_of_eq (A := ⟨[],[]⟩) mixed Tryz.func217 (by kernel_rfl) (by kernel_rfl) h
def vZ4t (s : Nat) (id : Int) (i : Int) (w : World) (R : Value -> World -> Prop) : Prop :=
 Calls P F.Z4w #[.pointer (some ⟨s,0,none⟩),.int .i64 id] w fun en q => ∃ x,en = .returned (.pointer x) /\
 join (fun (t : Unit) (q1 : World) =>
 onPtr x fun g o =>
 ∃ px nx cx,q1.cell? ⟨g,o + 1,none⟩ = some (.slice px nx cx) /\
 chk (decide (0 <= i) && decide (i < (nx : Int))) (
 onPtr px fun g1 o1 =>
 ∃ x1,q1.cell? ⟨g1,o1 + i.toNat * 1,none⟩ = some (.int .u32 x1) /\
 R (.tuple #[.int .u32 x1,.bool true]) q1)) fun J4 =>
 br (Option.isNone x) (
 R (.tuple #[.int .u32 0,.bool false]) q) (
 br (decide (i < 0)) (
 R (.tuple #[.int .u32 0,.bool false]) q) (
 onPtr x fun g2 o2 =>
 ∃ px1 nx1 cx1,q.cell? ⟨g2,o2 + 1,none⟩ = some (.slice px1 nx1 cx1) /\
 br (decide ((nx1 : Int) <= i)) (
 R (.tuple #[.int .u32 0,.bool false]) q) (
 J4 () q)))
theorem oZ4t {s : Nat} {id : Int} {i : Int} (h : vZ4t s id i w fun v w' => R (.returned v) w') : Calls P F.Z4t #[.pointer (some ⟨s,0,none⟩),.int .i64 id,.int .i64 i] w R :=
 calls_of_eq (A := ⟨[],[(4,[])]⟩) mixed Tryz.func218 (by kernel_rfl) (by kernel_rfl) h
def vZ4u (s : Nat) (id : Int) (i : Int) (q : Int) (w : World) (R : Value -> World -> Prop) : Prop :=
 join (fun (t : Unit) (q1 : World) =>
 Calls P F.Z4w #[.pointer (some ⟨s,0,none⟩),.int .i64 id] q1 fun en q2 => ∃ x,en = .returned (.pointer x) /\
 onPtr x fun g o =>
 ∃ px nx cx,q2.cell? ⟨g,o + 1,none⟩ = some (.slice px nx cx) /\
 chk (decide (0 <= i) && decide (i < (nx : Int))) (
 onPtr px fun g1 o1 =>
 stores q2 g1 (o1 + i.toNat * 1) [.int .u32 q] fun q3 =>
 R (.bool true) q3)) fun J4 =>
 Calls P F.Z4t #[.pointer (some ⟨s,0,none⟩),.int .i64 id,.int .i64 i] w fun en q4 => ∃ x0 x1,en = .returned (.tuple #[.int .u32 x0,.bool x1]) /\
 br (!x1) (
 R (.bool false) q4) (
 br (decide (q = 0)) (
 R (.bool false) q4) (
 J4 () q4))
theorem oZ4u {s : Nat} {id : Int} {i : Int} {q : Int} (h : vZ4u s id i q w fun v w' => R (.returned v) w') : Calls P F.Z4u #[.pointer (some ⟨s,0,none⟩),.int .i64 id,.int .i64 i,.int .u32 q] w R :=
 calls_of_eq (A := ⟨[],[(4,[])]⟩) mixed Tryz.func220 (by kernel_rfl) (by kernel_rfl) h
def vZ4v (s : Nat) (a : Int) (b : Int) (w : World) (R : Value -> World -> Prop) : Prop :=
 Calls P F.Z4w #[.pointer (some ⟨s,0,none⟩),.int .i64 a] w fun en q => ∃ x,en = .returned (.pointer x) /\
 Calls P F.Z4w #[.pointer (some ⟨s,0,none⟩),.int .i64 b] q fun en q1 => ∃ x1,en = .returned (.pointer x1) /\
 join (fun (t : Unit) (q2 : World) =>
 wv q2.drew fun q3 =>
 onPtr x1 fun g o =>
 ∃ x0 px1 nx1 cx1,holds q3 g o [.int .i64 x0,.slice px1 nx1 cx1] /\
 onPtr x fun g1 o1 =>
 ∃ x01 px11 nx11 cx11,holds q3 g1 o1 [.int .i64 x01,.slice px11 nx11 cx11] /\
 onPtr x fun g2 o2 =>
 stores q3 g2 o2 [.int .i64 x0,.slice px1 nx1 cx1] fun q4 =>
 True /\
 onPtr x1 fun g3 o3 =>
 stores q4 g3 o3 [.int .i64 x01,.slice px11 nx11 cx11] fun q5 =>
 True /\
 R (.bool true) q5) fun J4 =>
 br (Option.isNone x) (
 R (.bool false) q1) (
 br (Option.isNone x1) (
 R (.bool false) q1) (
 J4 () q1))
theorem oZ4v {s : Nat} {a : Int} {b : Int} (h : vZ4v s a b w fun v w' => R (.returned v) w') : Calls P F.Z4v #[.pointer (some ⟨s,0,none⟩),.int .i64 a,.int .i64 b] w R :=
 calls_of_eq (A := ⟨[],[(4,[])]⟩) mixed Tryz.func221 (by kernel_rfl) (by kernel_rfl) h
def vZ4w (s : Nat) (id : Int) (w : World) (R : Value -> World -> Prop) : Prop :=
 join (fun (t : Unit) (q : World) =>
 ∃ px nx cx,q.cell? ⟨s,0,none⟩ = some (.slice px nx cx) /\
 chk (decide (0 <= IntKind.wrap .i64 (id - 4)) && decide (IntKind.wrap .i64 (id - 4) < (nx : Int))) (
 onPtr px fun g o =>
 R (.pointer (some ⟨g,o + (IntKind.wrap .i64 (id - 4)).toNat * 2,none⟩)) q)) fun J3 =>
 br (decide (id < 4)) (
 R (.pointer none) w) (
 ∃ px1 nx1 cx1,w.cell? ⟨s,0,none⟩ = some (.slice px1 nx1 cx1) /\
 br (decide ((nx1 : Int) <= IntKind.wrap .i64 (id - 4))) (
 R (.pointer none) w) (
 J3 () w))
theorem oZ4w {s : Nat} {id : Int} (h : vZ4w s id w fun v w' => R (.returned v) w') : Calls P F.Z4w #[.pointer (some ⟨s,0,none⟩),.int .i64 id] w R :=
 calls_of_eq (A := ⟨[],[(3,[])]⟩) mixed Tryz.func222 (by kernel_rfl) (by kernel_rfl) h
end
section
structure StoreOps (α : Type) where
 alloc : α -> Int -> Int -> Int × α
 get : α -> Int -> Int -> (Int × Bool) × α
 put : α -> Int -> Int -> Int -> Bool × α
 cls : α -> Int -> Int × α
 flds : α -> Int -> Int × α
 swap : α -> Int -> Int -> Bool × α
 size : α -> Nat
def StTo {α : Type} (I : Hp -> (Nat -> Prop) -> Value -> α -> Prop) (ok : Nat -> Prop) (s : Value) (v : Value) (σ : α) (w : World) : Ending -> World -> Prop :=
 fun en w' => en = .returned v /\ I w'.heap (Old ok w.heap) s σ /\ Fr ok w.heap w'.heap
def MCall (st : TypeId) (s : Value) (name : String) (args : List Value) (w : World) (K : Ending -> World -> Prop) : Prop :=
 ∃ fn rc,(method (P.types.size + Made.depth) st s name).run P w = .ok (fn,rc) w /\ callable P fn = true /\ Calls P fn (#[rc] ++ args.toArray) w K
abbrev mostI : Int := 9223372036854775807
structure StoreSp {α : Type} (O : StoreOps α) (st : TypeId) (I : Hp -> (Nat -> Prop) -> Value -> α -> Prop) : Prop where
 fr : ∀ {h h' : Hp} {ok ok' S : Nat -> Prop} {s : Value} {σ : α},I h ok s σ -> Fr S h h' -> (∀ y,y < h.size -> ok y -> ¬ S y) -> (∀ y,y < h.size -> ok y -> ok' y) -> I h' ok' s σ
 alloc : ∀ {w : World} {ok : Nat -> Prop} {s : Value} {σ : α} (c f : Int),I w.heap ok s σ -> O.size σ < 1000000 -> MCall st s "Alloc" [.int .i64 c,.int .i64 f] w (StTo I ok s (.int .i64 (O.alloc σ c f).1) (O.alloc σ c f).2 w)
 get : ∀ {w : World} {ok : Nat -> Prop} {s : Value} {σ : α} (d i : Int),I w.heap ok s σ -> d <= mostI -> MCall st s "Get" [.int .i64 d,.int .i64 i] w (StTo I ok s (.tuple #[.int .u32 (O.get σ d i).1.1,.bool (O.get σ d i).1.2]) (O.get σ d i).2 w)
 put : ∀ {w : World} {ok : Nat -> Prop} {s : Value} {σ : α} (d i v : Int),I w.heap ok s σ -> d <= mostI -> MCall st s "Put" [.int .i64 d,.int .i64 i,.int .u32 v] w (StTo I ok s (.bool (O.put σ d i v).1) (O.put σ d i v).2 w)
 cls : ∀ {w : World} {ok : Nat -> Prop} {s : Value} {σ : α} (d : Int),I w.heap ok s σ -> d <= mostI -> MCall st s "Class" [.int .i64 d] w (StTo I ok s (.int .i64 (O.cls σ d).1) (O.cls σ d).2 w)
 flds : ∀ {w : World} {ok : Nat -> Prop} {s : Value} {σ : α} (d : Int),I w.heap ok s σ -> d <= mostI -> MCall st s "Fields" [.int .i64 d] w (StTo I ok s (.int .i64 (O.flds σ d).1) (O.flds σ d).2 w)
 swap : ∀ {w : World} {ok : Nat -> Prop} {s : Value} {σ : α} (a b : Int),I w.heap ok s σ -> a <= mostI -> b <= mostI -> MCall st s "Swap" [.int .i64 a,.int .i64 b] w (StTo I ok s (.bool (O.swap σ a b).1) (O.swap σ a b).2 w)
 ahead : ∀ {h : Hp} {ok : Nat -> Prop} {s : Value} {σ : α},I h ok s σ -> ∀ w,(nilAhead (P.types.size + Made.depth) st s "Put").run P w = .ok (some false) w
 idA : ∀ (σ : α) (c f : Int),O.size σ < 1000000 -> (O.alloc σ c f).1 <= mostI
 szA : ∀ (σ : α) (c f : Int),O.size (O.alloc σ c f).2 <= O.size σ + 1
 szG : ∀ (σ : α) (d i : Int),O.size (O.get σ d i).2 <= O.size σ
 szP : ∀ (σ : α) (d i v : Int),O.size (O.put σ d i v).2 <= O.size σ
 szC : ∀ (σ : α) (d : Int),O.size (O.cls σ d).2 <= O.size σ
 szF : ∀ (σ : α) (d : Int),O.size (O.flds σ d).2 <= O.size σ
 szS : ∀ (σ : α) (a b : Int),O.size (O.swap σ a b).2 <= O.size σ
abbrev TIdeal := List (Int × List Int)
def sIx (σ : TIdeal) (d : Int) : Option Nat := if d < 4 then none else if (σ.length : Int) <= d - 4 then none else some (d - 4).toNat
def sAt (σ : TIdeal) (d : Int) : Option (Int × List Int) := (sIx σ d).bind fun k => σ[k]?
def sAlloc (σ : TIdeal) (c f : Int) : Int × TIdeal := if c < 0 \/ 4095 < c \/ f < 0 \/ 62 < f then (-1,σ) else ((σ.length : Int) + 4,σ ++ [(c,List.replicate f.toNat 2)])
def sGet (σ : TIdeal) (d i : Int) : Int × Bool := match sAt σ d with
 | none => (0,false)
 | some x => if i < 0 \/ (x.2.length : Int) <= i then (0,false) else (x.2.getD i.toNat 0,true)
def sPut (σ : TIdeal) (d i v : Int) : Bool × TIdeal := match sIx σ d with
 | none => (false,σ)
 | some k => let x := σ.getD k (0,[]); if i < 0 \/ (x.2.length : Int) <= i \/ v = 0 then (false,σ) else (true,σ.set k (x.1,x.2.set i.toNat v))
def sCls (σ : TIdeal) (d : Int) : Int := match sAt σ d with | none => -1 | some x => x.1
def sFlds (σ : TIdeal) (d : Int) : Int := match sAt σ d with | none => -1 | some x => x.2.length
def sSwap (σ : TIdeal) (a b : Int) : Bool × TIdeal := match sIx σ a,sIx σ b with
 | some i,some j => (true,(σ.set i (σ.getD j (0,[]))).set j (σ.getD i (0,[])))
 | _,_ => (false,σ)
def sOps : StoreOps TIdeal := ⟨sAlloc,fun σ d i => (sGet σ d i,σ),sPut,fun σ d => (sCls σ d,σ),fun σ d => (sFlds σ d,σ),sSwap,List.length⟩
theorem ty_sobj : SlTy P T.sl_store_object T.store_object eObj := .mk' (z := .agg #[.int .i64 0,.slice none 0 0]) (s := 2) (b := 32) (by kernel_rfl) (by kernel_rfl) rfl (by omega) rfl
structure IdealC (h : Hp) (ok : Nat -> Prop) (b : Nat) (σ : TIdeal) (p : Option Addr) (n c : Nat) (R : List CObj) (κ : Nat -> Nat) : Prop where
 bk : Bk h b [.slice p n c]
 okb : ok b
 kb : κ b = 0
 tbl : Sl h (fun y => ok y /\ κ y = 1) eObj p n c R
 len : R.length = σ.length
 obj : ∀ (i : Nat) (r : CObj) (x : Int × List Int),R[i]? = some r -> σ[i]? = some x -> r.cls = x.1 /\ SlH h (fun y => ok y /\ κ y = 2 + i) eU32 r.fields x.2
def IsIdealB (h : Hp) (ok : Nat -> Prop) (b : Nat) (σ : TIdeal) : Prop := ∃ p n c R κ,IdealC h ok b σ p n c R κ
def IsIdeal (h : Hp) (ok : Nat -> Prop) (v : Value) (σ : TIdeal) : Prop := ∃ b,v = .pointer (some ⟨b,0,none⟩) /\ IsIdealB h ok b σ
section
variable {h h' : Hp} {ok ok' S : Nat -> Prop} {b : Nat} {σ : TIdeal} {p : Option Addr} {n c : Nat} {R : List CObj} {κ : Nat -> Nat}
theorem IdealC.mk' (hp : IdealC h ok b σ p n c R κ) : IsIdealB h ok b σ := ⟨p,n,c,R,κ,hp⟩
theorem IdealC.fr (hp : IdealC h ok b σ p n c R κ) (hf : Fr S h h') (hd : ∀ y,y < h.size -> ok y -> ¬ S y) (hok : ∀ y,y < h.size -> ok y -> ok' y) : IdealC h' ok' b σ p n c R κ :=
 ⟨hp.bk.fr hf (hd _ hp.bk.lt hp.okb),hok _ hp.bk.lt hp.okb,hp.kb,hp.tbl.fr hf (fun y hy h => hd y hy h.1) (fun y hy h => ⟨hok y hy h.1,h.2⟩),hp.len,fun i r x hr hx => ⟨(hp.obj i r x hr hx).1,(hp.obj i r x hr hx).2.fr hf (fun y hy h => hd y hy h.1) (fun y hy h => ⟨hok y hy h.1,h.2⟩)⟩⟩
theorem IsIdealB.fr (hp : IsIdealB h ok b σ) (hf : Fr S h h') (hd : ∀ y,y < h.size -> ok y -> ¬ S y) (hok : ∀ y,y < h.size -> ok y -> ok' y) : IsIdealB h' ok' b σ := by
 obtain ⟨p,n,c,R,κ,hp⟩ := hp
 exact (hp.fr hf hd hok).mk'
theorem IsIdeal.fr {v : Value} (hp : IsIdeal h ok v σ) (hf : Fr S h h') (hd : ∀ y,y < h.size -> ok y -> ¬ S y) (hok : ∀ y,y < h.size -> ok y -> ok' y) : IsIdeal h' ok' v σ := by
 obtain ⟨b,rfl,hp⟩ := hp
 exact ⟨b,rfl,hp.fr hf hd hok⟩
theorem IdealC.nw (hp : IdealC h ok b σ p n c R κ) (hf : Nw h h') : IdealC h' ok b σ p n c R κ := hp.fr hf (fun _ _ _ h => h) fun _ _ h => h
theorem IdealC.same (hp : IdealC h ok b σ p n c R κ) : IsIdealB h (Old ok h) b σ := (hp.fr (Fr.refl (fun _ => False) h) (fun _ _ _ h => h) fun _ _ h => .inl h).mk'
end
theorem Sl.st_at {α : Type} {E : Enc α} {w : World} {ok : Nat -> Prop} {g o n c : Nat} {l : List α} (hs : Sl w.heap ok E (some ⟨g,o,none⟩) n c l) {i : Nat} (hi : i < n) (x : α) {k : World -> Prop}
  (H : ∀ w2,Sl w2.heap ok E (some ⟨g,o,none⟩) n c (l.set i x) -> ok g -> Fr (· = g) w.heap w2.heap -> w2.heap.size = w.heap.size -> k w2) : stores w g (o + i * E.sz) (E.f x) k := by
 have h := hs.st (K := fun g' o' => (∀ w2,Sl w2.heap ok E (some ⟨g,o,none⟩) n c (l.set i x) -> ok g' -> Fr (· = g') w.heap w2.heap -> w2.heap.size = w.heap.size -> k w2) -> stores w g' (o' + i * E.sz) (E.f x) k) hi x (fun g' o' hg hst H' => hst _ fun w2 a b c => H' w2 a hg b c)
 exact h H
theorem store_New_ok (w : World) : Calls P F.Z3 #[] w fun en w' => ∃ b,en = .returned (.pointer (some ⟨b,0,none⟩)) /\ IsIdeal w'.heap (Fresh w.heap) (.pointer (some ⟨b,0,none⟩)) [] /\ Nw w.heap w'.heap := by
 refine oZ3 ?_
 refine newB_i ?_; intro b w1 b_eq hB hN w1_sz; try simp only [drew_heap',dr_heap] at b_eq hN
 exact ⟨b,rfl,⟨b,rfl,none,0,0,[],fun _ => 0,⟨hB,by simp [b_eq],rfl,Sl.nil,rfl,fun i r x h => by simp at h⟩⟩,hN⟩
section
variable {w : World} {ok : Nat -> Prop} {b : Nat} {σ : TIdeal} {p : Option Addr} {n c : Nat} {R : List CObj} {κ : Nat -> Nat}
theorem IdealC.n_eq (hp : IdealC w.heap ok b σ p n c R κ) : n = σ.length := by rw [<- hp.tbl.len,hp.len]
theorem store_at_ok (hp : IdealC w.heap ok b σ p n c R κ) {d : Int} (hd : d <= mostI) : Calls P F.Z4w #[.pointer (some ⟨b,0,none⟩),.int .i64 d] w fun en w' => (∃ m,w' = dr w m) /\
  ((sIx σ d = none /\ en = .returned (.pointer none)) \/ ∃ (k : Nat) (g o : Nat) (r : CObj) (x : Int × List Int),sIx σ d = some k /\ p = some ⟨g,o,none⟩ /\ en = .returned (.pointer (some ⟨g,o + k * 2,none⟩)) /\ R[k]? = some r /\ σ[k]? = some x /\ holds w g (o + k * 2) r.vs /\ r.cls = x.1 /\ SlH w.heap (fun y => ok y /\ κ y = 2 + k) eU32 r.fields x.2) := by
 refine oZ4w ?_
 unfold vZ4w
 simp only [join_eq]
 have hn := hp.n_eq; have hsm := hp.tbl.small
 unfold sIx mostI at *
 refine br_of (fun h1 => ?_) (fun h1 => ?_) <;> simp only [ZJ,ZK,ZL,ZM,ZN,ZO,ZP,ZQ,ZR] at h1
 ·rw [if_pos h1]; exact ⟨⟨0,rfl⟩,.inl (by simp)⟩
 ·rw [if_neg (by omega),wrap_id (by omega) (by omega)]
  refine ⟨p,n,c,by rw [hp.bk.cell]; rfl,?_⟩
  refine br_of (fun h2 => ?_) (fun h2 => ?_) <;> simp only [ZJ,ZK,ZL,ZM,ZN,ZO,ZP,ZQ,ZR] at h2
  ·rw [if_pos (by omega)]; exact ⟨⟨0,rfl⟩,.inl (by simp)⟩
  ·rw [if_neg (by omega)]
   obtain ⟨k,hk⟩ := Int.eq_ofNat_of_zero_le (show 0 <= d - 4 by omega)
   have hkn : k < n := by omega
   rw [hk]
   refine ⟨p,n,c,by rw [hp.bk.cell]; rfl,chk_of (by simp; omega) ?_⟩
   have hr : R[k]? = some (R[k]'(by rw [hp.len]; omega)) := List.getElem?_eq_getElem _
   have hx : σ[k]? = some (σ[k]'(by omega)) := List.getElem?_eq_getElem _
   generalize R[k]'(by rw [hp.len]; omega) = r at hr
   generalize σ[k]'(by omega) = x at hx
   obtain ⟨g,pre,post,hpp,_⟩ := hp.tbl.addr hkn
   have hh := hp.tbl.idx (K := fun g o => holds w g (o + k * 2) r.vs) hr (fun g o _ h => h)
   rw [hpp] at hh ⊢
   exact ⟨⟨0,rfl⟩,.inr ⟨k,g,pre.length,r,x,rfl,rfl,rfl,hr,hx,hh,hp.obj k r x hr hx⟩⟩
theorem sAt_none {d : Int} (h : sIx σ d = none) : sAt σ d = none := by simp [sAt,h]
theorem sAt_some {d : Int} {k : Nat} {x : Int × List Int} (h : sIx σ d = some k) (hx : σ[k]? = some x) : sAt σ d = some x := by simp [sAt,h,hx]
theorem store_Class_ok (hp : IsIdealB w.heap ok b σ) {d : Int} (hd : d <= mostI) : Calls P F.Z4r #[.pointer (some ⟨b,0,none⟩),.int .i64 d] w (Is (.int .i64 (sCls σ d)) w) := by
 obtain ⟨p,n,c,R,κ,hp⟩ := hp
 refine oZ4r ?_
 refine (store_at_ok hp hd).mono ?_
 rintro _ _ ⟨⟨m,rfl⟩,⟨hn,rfl⟩ | ⟨k,g,o,r,x,hk,rfl,rfl,hr,hx,hh,hcls,hsl⟩⟩
 ·refine ⟨_,rfl,?_⟩
  simp only [sCls,sAt_none hn]
  exact Is.dr _ _ _
 ·refine ⟨_,rfl,?_⟩
  simp only [sCls,sAt_some hk hx]
  refine ⟨_,hh.1,?_⟩
  rw [<- hcls]
  exact Is.dr _ _ _
theorem store_Fields_ok (hp : IsIdealB w.heap ok b σ) {d : Int} (hd : d <= mostI) : Calls P F.Z4s #[.pointer (some ⟨b,0,none⟩),.int .i64 d] w (Is (.int .i64 (sFlds σ d)) w) := by
 obtain ⟨p,n,c,R,κ,hp⟩ := hp
 refine oZ4s ?_
 refine (store_at_ok hp hd).mono ?_
 rintro _ _ ⟨⟨m,rfl⟩,⟨hn,rfl⟩ | ⟨k,g,o,r,x,hk,rfl,rfl,hr,hx,hh,hcls,hsl⟩⟩
 ·refine ⟨_,rfl,?_⟩
  simp only [sFlds,sAt_none hn]
  exact Is.dr _ _ _
 ·refine ⟨_,rfl,?_⟩
  simp only [sFlds,sAt_some hk hx]
  refine ⟨_,_,_,hh.2,?_⟩
  rw [hsl.len]
  exact Is.dr _ _ _
theorem store_Get_ok (hp : IsIdealB w.heap ok b σ) {d : Int} (i : Int) (hd : d <= mostI) : Calls P F.Z4t #[.pointer (some ⟨b,0,none⟩),.int .i64 d,.int .i64 i] w (Is (.tuple #[.int .u32 (sGet σ d i).1,.bool (sGet σ d i).2]) w) := by
 obtain ⟨p,n,c,R,κ,hp⟩ := hp
 refine oZ4t ?_
 refine (store_at_ok hp hd).mono ?_
 rintro _ _ ⟨⟨m,rfl⟩,⟨hn,rfl⟩ | ⟨k,g,o,r,x,hk,rfl,rfl,hr,hx,hh,hcls,hsl⟩⟩
 ·refine ⟨_,rfl,?_⟩
  simp only [sGet,sAt_none hn]
  exact Is.dr _ _ _
 ·refine ⟨_,rfl,?_⟩
  simp only [sGet,sAt_some hk hx,join_eq,Option.isNone_some,br_false]
  have hln := hsl.len
  refine br_of (fun h1 => ?_) (fun h1 => ?_) <;> simp only [ZJ,ZK,ZL,ZM,ZN,ZO,ZP,ZQ,ZR] at h1
  ·rw [if_pos (by omega)]; exact Is.dr _ _ _
  refine ⟨_,_,_,hh.2,?_⟩
  refine br_of (fun h2 => ?_) (fun h2 => ?_) <;> simp only [ZJ,ZK,ZL,ZM,ZN,ZO,ZP,ZQ,ZR] at h2
  ·rw [if_pos (by omega)]; exact Is.dr _ _ _
  rw [if_neg (by omega)]
  refine ⟨_,_,_,hh.2,chk_of (by simp; omega) ?_⟩
  obtain ⟨j,rfl⟩ := Int.eq_ofNat_of_zero_le h1
  refine hsl.idx1 (w := dr w m) (i := j) (getD_some (d := 0) (by omega)) ?_; intro g1 o1 _ hc
  exact ⟨_,hc,Is.dr _ _ _⟩
theorem store_Put_ok (hp : IsIdealB w.heap ok b σ) {d : Int} (i v : Int) (hd : d <= mostI) : Calls P F.Z4u #[.pointer (some ⟨b,0,none⟩),.int .i64 d,.int .i64 i,.int .u32 v] w fun en w' => en = .returned (.bool (sPut σ d i v).1) /\ IsIdealB w'.heap (Old ok w.heap) b (sPut σ d i v).2 /\ Fr ok w.heap w'.heap := by
 refine oZ4u ?_
 unfold vZ4u
 simp only [join_eq]
 refine (store_Get_ok hp i hd).mono ?_; rintro _ _ ⟨rfl,m1,rfl⟩
 refine ⟨_,_,rfl,?_⟩
 obtain ⟨p,n,c,R,κ,hp⟩ := hp
 have hno : (sGet σ d i).2 = false \/ v = 0 -> sPut σ d i v = (false,σ) := by
  intro h
  unfold sPut; unfold sGet at h
  cases hk : sIx σ d with
  | none => rfl
  | some k =>
   have hx : σ[k]? = some (σ.getD k (0,[])) := by
    refine getD_some ?_
    unfold sIx at hk
    split at hk
    ·cases hk
    ·split at hk
     ·cases hk
     ·simp only [Z3] at hk; omega
   simp only [sAt_some hk hx] at h
   by_cases hi : i < 0 \/ ((σ.getD k (0,[])).2.length : Int) <= i
   ·simp only; rw [if_pos (by omega)]
   ·rw [if_neg hi] at h
    simp only [Bool.true_eq_false,false_or] at h
    simp only; rw [if_pos (by omega)]
 refine br_of (fun h => ?_) (fun h => ?_) <;> simp only [ZL,ZM] at h
 ·rw [hno (.inl h)]; exact ⟨rfl,hp.same,Fr.refl _ _⟩
 refine br_of (fun h0 => ?_) (fun h0 => ?_) <;> simp only [ZJ,ZK,ZL,ZM,ZN,ZO,ZP,ZQ,ZR] at h0
 ·rw [hno (.inr h0)]; exact ⟨rfl,hp.same,Fr.refl _ _⟩
 refine (store_at_ok (w := dr w m1) hp hd).mono ?_
 rintro _ _ ⟨⟨m,rfl⟩,⟨hn,rfl⟩ | ⟨k,g,o,r,x,hk,rfl,rfl,hr,hx,hh,hcls,hsl⟩⟩
 ·simp [sGet,sAt_none hn] at h
 ·simp only [sGet,sAt_some hk hx] at h
  split at h
  ·cases h
  rename_i hi
  have hln := hsl.len
  obtain ⟨j,rfl⟩ := Int.eq_ofNat_of_zero_le (show 0 <= i by omega)
  refine ⟨_,rfl,_,_,_,hh.2,chk_of (by simp; omega) ?_⟩
  refine hsl.st (w := dr (dr w m1) m) (i := j) (by omega) v ?_; intro g1 o1 hg1 hst
  refine hst _ ?_; intro w1 h1 hF1 hz1
  have e : sPut σ d j v = (true,σ.set k (x.1,x.2.set j v)) := by
   have hg : σ.getD k (0,[]) = x := by simp [List.getD_eq_getElem?_getD,hx]
   simp only [sPut,hk,hg]
   rw [if_neg (by omega)]; rfl
  rw [e]
  replace hF1 : Fr (fun y => y = g1) w.heap w1.heap := hF1
  refine ⟨rfl,(?_ : IdealC w1.heap (Old ok w.heap) b _ (some ⟨g,o,none⟩) n c R κ).mk',hF1.mono fun y _ hy => by rw [hy]; exact hg1.1⟩
  have hb : ∀ y,κ y ≠ 2 + k -> y ≠ g1 := fun y hy e => hy (by rw [e]; exact hg1.2)
  refine ⟨hp.bk.fr hF1 (hb _ (by rw [hp.kb]; omega)),.inl hp.okb,hp.kb,hp.tbl.fr hF1 (fun y _ h => hb _ (by have := h.2; omega)) (fun y _ h => ⟨.inl h.1,h.2⟩),by simp [hp.len],fun i r' x' hr' hx' => ?_⟩
  by_cases hik : i = k
  ·subst hik
   rw [hr] at hr'
   have hkn := (List.getElem?_eq_some_iff.1 hx).1
   rw [List.getElem?_set_self hkn] at hx'
   simp only [Z3] at hr' hx'
   subst hr' hx'
   exact ⟨hcls,h1.mono fun y _ h => ⟨.inl h.1,h.2⟩⟩
  ·rw [List.getElem?_set_ne (Ne.symm hik)] at hx'
   have := hp.obj i r' x' hr' hx'
   exact ⟨this.1,this.2.fr hF1 (fun y _ h => hb _ (by have := h.2; omega)) (fun y _ h => ⟨.inl h.1,h.2⟩)⟩
theorem store_Alloc_ok (hp : IsIdealB w.heap ok b σ) (c f : Int) (hz : σ.length < 1000000) : Calls P F.Z4q #[.pointer (some ⟨b,0,none⟩),.int .i64 c,.int .i64 f] w fun en w' => en = .returned (.int .i64 (sAlloc σ c f).1) /\ IsIdealB w'.heap (Old ok w.heap) b (sAlloc σ c f).2 /\ Fr ok w.heap w'.heap := by
 obtain ⟨p,n,cp,R,κ,hp⟩ := hp
 refine oZ4q ?_
 unfold vZ4q
 simp only [join_eq]
 unfold sAlloc
 refine br_of (fun h1 => ?_) (fun h1 => ?_) <;> simp only [ZJ,ZK,ZL,ZM,ZN,ZO,ZP,ZQ,ZR] at h1
 ·rw [if_pos (by omega)]; exact ⟨rfl,hp.same,Fr.refl _ _⟩
 refine br_of (fun h2 => ?_) (fun h2 => ?_) <;> simp only [ZJ,ZK,ZL,ZM,ZN,ZO,ZP,ZQ,ZR] at h2
 ·rw [if_pos (by omega)]; exact ⟨rfl,hp.same,Fr.refl _ _⟩
 refine br_of (fun h3 => ?_) (fun h3 => ?_) <;> simp only [ZJ,ZK,ZL,ZM,ZN,ZO,ZP,ZQ,ZR] at h3
 ·rw [if_pos (by omega)]; exact ⟨rfl,hp.same,Fr.refl _ _⟩
 refine br_of (fun h4 => ?_) (fun h4 => ?_) <;> simp only [ZJ,ZK,ZL,ZM,ZN,ZO,ZP,ZQ,ZR] at h4
 ·rw [if_pos (by omega)]; exact ⟨rfl,hp.same,Fr.refl _ _⟩
 rw [if_neg (by omega)]
 obtain ⟨f,rfl⟩ := Int.eq_ofNat_of_zero_le h3
 have hn := hp.n_eq
 refine ⟨p,n,cp,by rw [World.cell?_drew,hp.bk.cell]; rfl,?_⟩
 refine newB_i ?_; intro b1 w2 b1_eq hB2 hN2 w2_sz; try simp only [drew_heap',dr_heap] at b1_eq hN2
 have hk2 := hp.bk.nw hN2
 refine ⟨⟨by rw [hk2.cell]; rfl,trivial⟩,?_⟩
 have hs1 : Sl w2.heap (fun y => y = b1) eU32 (some ⟨b1,0,none⟩) 1 1 [2] := (Sl.of_blk (l := [2]) (E := eU32) hB2 rfl rfl (by simp)).mono fun _ _ h => h.symm
 refine (slices_Repeat_uint32_uint32_ok hs1 f (by omega)).mono ?_; rintro _ w3 ⟨q,d,rfl,hq,hN3⟩
 have hk3 := hk2.nw hN3
 refine ⟨q,f,d,rfl,⟨by rw [hk3.cell]; rfl,trivial⟩,?_⟩
 refine newB_i ?_; intro b2 w4 b2_eq hB4 hN4 w4_sz; try simp only [drew_heap',dr_heap] at b2_eq hN4
 have hk4 := hk3.nw hN4
 refine ⟨⟨by rw [hk4.cell]; rfl,trivial⟩,?_⟩
 have hN04 : Nw w.heap w4.heap := (hN2.tr hN3).tr hN4
 have hs2 : Sl w4.heap (fun y => y = b2) eObj (some ⟨b2,0,none⟩) 1 1 [⟨c,⟨q,f,d⟩⟩] := (Sl.of_blk (l := [(⟨c,⟨q,f,d⟩⟩ : CObj)]) (E := eObj) hB4 rfl rfl (by simp)).mono fun _ _ h => h.symm
 refine append_r ty_sobj ((hp.tbl.mono (ok' := fun y => (ok y /\ κ y = 1) /\ y < w.heap.size) fun y hy h => ⟨h,hy⟩).nw hN04) hs2 (by omega) ?_
 intro p' c' w5 h5 hF5
 have hk5 := hk4.fr hF5 (fun e => by have := e.1.2; have := hp.kb; omega)
 refine ⟨trivial,?_⟩
 refine stores_i hk5 (by simp) ?_; intro w6 hB6 hF6 hz6
 simp only [sets,ZI] at hB6
 refine ⟨trivial,p',n + 1,c',by rw [hB6.cell]; rfl,?_⟩
 have hle2 := hN2.le; have hle3 := hN3.le; have hle4 := hN4.le; have hle5 := hF5.le; have hlt := hp.bk.lt
 have hF : Fr (fun y => ((ok y /\ κ y = 1) /\ y < w.heap.size) \/ y = b) w.heap w6.heap := (hN04.fr.trans hF5 (fun _ _ h => h) (fun y _ h => .inl h)).trans hF6 (fun _ _ h => h) fun y _ h => .inr h
 refine ⟨by congr 2; rw [wrap_id (x := 4 + ((n + 1 : Nat) : Int)) (by omega) (by omega),wrap_id (by omega) (by omega)]; omega,(?_ : IdealC w6.heap (Old ok w.heap) b _ p' (n + 1) c' (R ++ [⟨c,⟨q,f,d⟩⟩]) (ret (ret κ w.heap.size (2 + n)) w4.heap.size 1)).mk',hF.mono fun y _ h => by rcases h with h | h; exact h.1.1; rw [h]; exact hp.okb⟩
 have k1 : ∀ y,y < w.heap.size -> ret (ret κ w.heap.size (2 + n)) w4.heap.size 1 y = κ y := fun y hy => by rw [ret_lt (by omega),ret_lt hy]
 refine ⟨hB6,.inl hp.okb,by rw [k1 b hlt,hp.kb],?_,by simp [hp.len],fun i r x hr hx => ?_⟩
 ·refine h5.fr hF6 (fun y _ h e => ?_) (fun y _ h => ?_)
  ·have := hp.kb; subst e; rcases h with h | h; (have := h.1.2; omega); omega
  ·rcases h with h | h
   ·exact ⟨.inl h.1.1,by rw [k1 y h.2]; exact h.1.2⟩
   ·exact ⟨.inr (by omega),by rw [ret_ge (by omega)]⟩
 ·have hl := hp.len
  by_cases hi : i < R.length
  ·rw [List.getElem?_append_left hi] at hr
   rw [List.getElem?_append_left (by omega)] at hx
   have := hp.obj i r x hr hx
   exact ⟨this.1,this.2.fr hF (fun y _ h e => by have := h.2; have := hp.kb; rcases e with e | e; (have := e.1.2; omega); (subst e; omega)) (fun y hy h => ⟨.inl h.1,by rw [k1 y hy]; exact h.2⟩)⟩
  ·have hi' : i = n := by have := (List.getElem?_eq_some_iff.1 hr).1; simp at this; omega
   subst hi'
   rw [List.getElem?_append_right (by omega),show i - R.length = 0 by omega] at hr
   rw [List.getElem?_append_right (by omega),show i - σ.length = 0 by omega] at hx
   simp only [Z2,Z3] at hr hx
   subst hr hx
   have hF36 : Fr (fun y => ((ok y /\ κ y = 1) /\ y < w.heap.size) \/ y = b) w3.heap w6.heap := (hN4.fr.trans hF5 (fun _ _ h => h) (fun y _ h => .inl h)).trans hF6 (fun _ _ h => h) fun y _ h => .inr h
   refine ⟨rfl,hq.fr hF36 (fun y _ h e => ?_) (fun y hy h => ?_)⟩
   ·have : w2.heap.size <= y := h
    rcases e with e | e <;> omega
   ·have : w2.heap.size <= y := h
    exact ⟨.inr (by omega),by rw [ret_lt (by omega),ret_ge (by omega)]⟩
theorem store_Swap_ok (hp : IsIdealB w.heap ok b σ) (d e : Int) (hd : d <= mostI) (he : e <= mostI) : Calls P F.Z4v #[.pointer (some ⟨b,0,none⟩),.int .i64 d,.int .i64 e] w fun en w' => en = .returned (.bool (sSwap σ d e).1) /\ IsIdealB w'.heap (Old ok w.heap) b (sSwap σ d e).2 /\ Fr ok w.heap w'.heap := by
 obtain ⟨p,n,cp,R,κ,hp⟩ := hp
 refine oZ4v ?_
 unfold vZ4v
 simp only [join_eq]
 refine (store_at_ok hp hd).mono ?_
 rintro _ _ ⟨⟨m,rfl⟩,h1⟩
 unfold sSwap
 rcases h1 with ⟨hn,rfl⟩ | ⟨k,g,o,r,x,hk,rfl,rfl,hr,hx,hh,hcls,hsl⟩
 ·refine ⟨_,rfl,?_⟩
  refine (store_at_ok (w := dr w m) hp he).mono ?_
  rintro _ _ ⟨⟨m',rfl⟩,⟨hn',rfl⟩ | ⟨k',g',o',r',x',hk',e',rfl,hr',hx',hh',hcls',hsl'⟩⟩
  ·exact ⟨_,rfl,by rw [hn]; exact ⟨rfl,hp.same,Fr.refl _ _⟩⟩
  ·exact ⟨_,rfl,by rw [hn]; exact ⟨rfl,hp.same,Fr.refl _ _⟩⟩
 ·refine ⟨_,rfl,?_⟩
  refine (store_at_ok (w := dr w m) hp he).mono ?_
  rintro _ _ ⟨⟨m',rfl⟩,⟨hn',rfl⟩ | ⟨k',g',o',r',x',hk',e',rfl,hr',hx',hh',hcls',hsl'⟩⟩
  ·exact ⟨_,rfl,by rw [hk,hn']; exact ⟨rfl,hp.same,Fr.refl _ _⟩⟩
  ·simp only [Z3,ZG,and_true] at e'
   obtain ⟨rfl,rfl⟩ := e'
   refine ⟨_,rfl,?_⟩
   simp only [hk,hk',Option.isNone_some,br_false]
   refine ⟨_,_,_,_,hh',_,_,_,_,hh,?_⟩
   have hkn := (List.getElem?_eq_some_iff.1 hr).1
   have hkn' := (List.getElem?_eq_some_iff.1 hr').1
   have hln := hp.tbl.len
   rw [onPtr_some]
   simp only [onPtr_some]
   refine hp.tbl.st_at (w := (dr (dr w m) m').drew) (i := k) (by omega) r' ?_; intro w2 h2 hg hF2 hz2
   refine ⟨trivial,?_⟩
   refine h2.st_at (i := k') (by omega) r ?_; intro w3 h3 _ hF3 hz3
   have hF : Fr (fun y => y = g) w.heap w3.heap := Fr.trans' (h1 := w2.heap) hF2 hF3
   have hgb : ∀ y,κ y ≠ 1 -> y ≠ g := fun y hy e => hy (by rw [e]; exact hg.2)
   have ex : σ.getD k (0,[]) = x := by simp [List.getD_eq_getElem?_getD,hx]
   have ex' : σ.getD k' (0,[]) = x' := by simp [List.getD_eq_getElem?_getD,hx']
   rw [ex,ex']
   refine ⟨trivial,trivial,(?_ : IdealC w3.heap (Old ok w.heap) b _ (some ⟨g,o,none⟩) n cp ((R.set k r').set k' r) (fun y => if κ y = 2 + k then 2 + k' else if κ y = 2 + k' then 2 + k else κ y)).mk',hF.mono fun y _ h => by rw [h]; exact hg.1⟩
   have hother : ∀ y,κ y < 2 -> (if κ y = 2 + k then 2 + k' else if κ y = 2 + k' then 2 + k else κ y) = κ y := fun y hy => by rw [if_neg (by omega),if_neg (by omega)]
   refine ⟨hp.bk.fr hF (hgb b (by rw [hp.kb]; omega)),.inl hp.okb,by rw [hother b (by rw [hp.kb]; omega),hp.kb],h3.mono fun y _ h => ⟨.inl h.1,by rw [hother y (by have := h.2; omega)]; exact h.2⟩,by simp [hp.len],fun i r2 x2 hr2 hx2 => ?_⟩
   have hxl := (List.getElem?_eq_some_iff.1 hx).1
   have hxl' := (List.getElem?_eq_some_iff.1 hx').1
   rw [List.getElem?_set] at hr2 hx2
   by_cases h1 : k' = i
   ·subst h1
    rw [if_pos rfl,if_pos (by simpa using hkn')] at hr2
    rw [if_pos rfl,if_pos (by simpa using hxl')] at hx2
    simp only [Z3] at hr2 hx2
    subst hr2 hx2
    refine ⟨hcls,Sl.fr (h := w.heap) hsl hF (fun y _ h => hgb y (by have := h.2; omega)) (fun y _ h => ⟨.inl h.1,by rw [if_pos h.2]⟩)⟩
   ·rw [if_neg h1,List.getElem?_set] at hr2 hx2
    by_cases h2 : k = i
    ·subst h2
     rw [if_pos rfl,if_pos hkn] at hr2
     rw [if_pos rfl,if_pos hxl] at hx2
     simp only [Z3] at hr2 hx2
     subst hr2 hx2
     refine ⟨hcls',Sl.fr (h := w.heap) hsl' hF (fun y _ h => hgb y (by have := h.2; omega)) (fun y _ h => ⟨.inl h.1,by rw [if_neg (by have := h.2; omega),if_pos h.2]⟩)⟩
    ·rw [if_neg h2] at hr2 hx2
     have := hp.obj i r2 x2 hr2 hx2
     exact ⟨this.1,this.2.fr hF (fun y _ h => hgb y (by have := h.2; omega)) (fun y _ h => ⟨.inl h.1,by have := h.2; rw [if_neg (by omega),if_neg (by omega)]; exact h.2⟩)⟩
end
theorem st_m_Alloc (b : Nat) (w : World) : (method (P.types.size + Made.depth) T.p_store_Ideal (.pointer (some ⟨b,0,none⟩)) "Alloc").run P w = .ok (F.Z4q,.pointer (some ⟨b,0,none⟩)) w := by kernel_rfl
theorem st_m_Get (b : Nat) (w : World) : (method (P.types.size + Made.depth) T.p_store_Ideal (.pointer (some ⟨b,0,none⟩)) "Get").run P w = .ok (F.Z4t,.pointer (some ⟨b,0,none⟩)) w := by kernel_rfl
theorem st_m_Put (b : Nat) (w : World) : (method (P.types.size + Made.depth) T.p_store_Ideal (.pointer (some ⟨b,0,none⟩)) "Put").run P w = .ok (F.Z4u,.pointer (some ⟨b,0,none⟩)) w := by kernel_rfl
theorem st_m_Class (b : Nat) (w : World) : (method (P.types.size + Made.depth) T.p_store_Ideal (.pointer (some ⟨b,0,none⟩)) "Class").run P w = .ok (F.Z4r,.pointer (some ⟨b,0,none⟩)) w := by kernel_rfl
theorem st_m_Fields (b : Nat) (w : World) : (method (P.types.size + Made.depth) T.p_store_Ideal (.pointer (some ⟨b,0,none⟩)) "Fields").run P w = .ok (F.Z4s,.pointer (some ⟨b,0,none⟩)) w := by kernel_rfl
theorem st_m_Swap (b : Nat) (w : World) : (method (P.types.size + Made.depth) T.p_store_Ideal (.pointer (some ⟨b,0,none⟩)) "Swap").run P w = .ok (F.Z4v,.pointer (some ⟨b,0,none⟩)) w := by kernel_rfl
theorem IsIdeal.post {w : World} {ok : Nat -> Prop} {b : Nat} {σ : TIdeal} {v : Value} : (fun en (w' : World) => en = Ending.returned v /\ IsIdealB w'.heap (Old ok w.heap) b σ /\ Fr ok w.heap w'.heap) = StTo IsIdeal ok (.pointer (some ⟨b,0,none⟩)) v σ w := by
 funext en w'
 apply propext
 constructor
 ·rintro ⟨h1,h2,h3⟩; exact ⟨h1,⟨b,rfl,h2⟩,h3⟩
 ·rintro ⟨h1,⟨b',e,h2⟩,h3⟩; cases e; exact ⟨h1,h2,h3⟩
theorem IsIdeal.quiet {w : World} {ok : Nat -> Prop} {b : Nat} {σ : TIdeal} {v : Value} (hp : IsIdealB w.heap ok b σ) : ∀ en w',Is v w en w' -> StTo IsIdeal ok (.pointer (some ⟨b,0,none⟩)) v σ w en w' := by
 rintro _ _ ⟨rfl,n,rfl⟩
 exact ⟨rfl,⟨b,rfl,hp.fr (Fr.refl (fun _ => False) _) (fun _ _ _ h => h) fun _ _ h => .inl h⟩,Fr.refl _ _⟩
theorem idealSp : StoreSp sOps T.p_store_Ideal IsIdeal where
 fr := fun h hf hd hok => IsIdeal.fr h hf hd hok
 alloc := by
  rintro w ok _ σ c f ⟨b,rfl,hp⟩ hz
  refine ⟨_,_,st_m_Alloc b w,by kernel_rfl,?_⟩
  rw [<- IsIdeal.post]
  exact store_Alloc_ok hp c f hz
 get := by
  rintro w ok _ σ d i ⟨b,rfl,hp⟩ hd
  exact ⟨_,_,st_m_Get b w,by kernel_rfl,(store_Get_ok hp i hd).mono (IsIdeal.quiet hp)⟩
 put := by
  rintro w ok _ σ d i v ⟨b,rfl,hp⟩ hd
  refine ⟨_,_,st_m_Put b w,by kernel_rfl,?_⟩
  rw [<- IsIdeal.post]
  exact store_Put_ok hp i v hd
 cls := by
  rintro w ok _ σ d ⟨b,rfl,hp⟩ hd
  exact ⟨_,_,st_m_Class b w,by kernel_rfl,(store_Class_ok hp hd).mono (IsIdeal.quiet hp)⟩
 flds := by
  rintro w ok _ σ d ⟨b,rfl,hp⟩ hd
  exact ⟨_,_,st_m_Fields b w,by kernel_rfl,(store_Fields_ok hp hd).mono (IsIdeal.quiet hp)⟩
 swap := by
  rintro w ok _ σ a e ⟨b,rfl,hp⟩ ha he
  refine ⟨_,_,st_m_Swap b w,by kernel_rfl,?_⟩
  rw [<- IsIdeal.post]
  exact store_Swap_ok hp a e ha he
 ahead := by
  rintro h ok _ σ ⟨b,rfl,hp⟩ w
  kernel_rfl
 idA := fun σ c f h => by
  show (sAlloc σ c f).1 <= mostI
  have h : σ.length < 1000000 := h
  unfold sAlloc mostI; split <;> simp only <;> omega
 szA := fun σ c f => by
  show (sAlloc σ c f).2.length <= σ.length + 1
  unfold sAlloc; split <;> simp
 szG := fun σ d i => Nat.le_refl _
 szP := fun σ d i v => by
  show (sPut σ d i v).2.length <= σ.length
  unfold sPut; split
  ·exact Nat.le_refl _
  ·simp only; split <;> simp
 szC := fun σ d => Nat.le_refl _
 szF := fun σ d => Nat.le_refl _
 szS := fun σ a b => by
  show (sSwap σ a b).2.length <= σ.length
  unfold sSwap; split <;> simp
end
section
def ofVal (v : TVal) (ids : List Int) : Int := if v.kind = 1 then 6 else if v.kind = 2 then 4 else if v.kind = 3 then (wInt v.n).1 else if v.kind = 4 then wOop (ids.getD v.n.toNat 0) else 2
def lAllocN {α : Type} (O : StoreOps α) (objs : List TObj) (σ : α) : Nat -> Option (List Int) × α
 | 0 => (some [],σ)
 | k + 1 => match lAllocN O objs σ k with
  | (some ids,σ') => if (O.alloc σ' (objs.getD k default).cls (objs.getD k default).fields.length).1 < 0 then (none,(O.alloc σ' (objs.getD k default).cls (objs.getD k default).fields.length).2)
   else (some (ids ++ [(O.alloc σ' (objs.getD k default).cls (objs.getD k default).fields.length).1]),(O.alloc σ' (objs.getD k default).cls (objs.getD k default).fields.length).2)
  | (none,σ') => (none,σ')
def lPutN {α : Type} (O : StoreOps α) (ids : List Int) (d : Int) (vs : List TVal) (σ : α) : Nat -> α
 | 0 => σ
 | i + 1 => (O.put (lPutN O ids d vs σ i) d i (ofVal (vs.getD i default) ids)).2
def lObjN {α : Type} (O : StoreOps α) (ids : List Int) (objs : List TObj) (σ : α) : Nat -> α
 | 0 => σ
 | k + 1 => lPutN O ids (ids.getD k 0) (objs.getD k default).fields (lObjN O ids objs σ k) (objs.getD k default).fields.length
def lLoad {α : Type} (O : StoreOps α) (σ : α) (u : TUnit) : Option (List Int) × α :=
 match lAllocN O u.objects σ u.objects.length with
 | (some ids,σ') => (some ids,lObjN O ids u.objects σ' u.objects.length)
 | (none,σ') => (none,σ')
theorem lAllocN_none {α : Type} {O : StoreOps α} {objs : List TObj} {σ σ' : α} {k : Nat} (h : lAllocN O objs σ k = (none,σ')) : ∀ n,k <= n -> lAllocN O objs σ n = (none,σ') := by
 intro n hn
 induction n with
 | zero =>
  cases k with
  | zero => exact h
  | succ k => omega
 | succ n ih =>
  by_cases hk : k = n + 1
  ·subst hk; exact h
  ·simp only [lAllocN,ih (by omega)]
theorem lAllocN_size {α : Type} {O : StoreOps α} {st : TypeId} {I : Hp -> (Nat -> Prop) -> Value -> α -> Prop} (sp : StoreSp O st I) (objs : List TObj) (σ : α) : ∀ k,O.size (lAllocN O objs σ k).2 <= O.size σ + k
 | 0 => Nat.le_refl _
 | k + 1 => by
  have ih := lAllocN_size sp objs σ k
  simp only [lAllocN]
  split
  ·rename_i ids σ' h
   rw [h] at ih
   have := sp.szA σ' (objs.getD k default).cls (objs.getD k default).fields.length
   simp only at ih
   split <;> simp only <;> omega
  ·rename_i σ' h
   rw [h] at ih
   simp only at ih ⊢
   omega
theorem store_of_ok {w : World} {ok : Nat -> Prop} {p : Option Addr} {n c : Nat} {ids : List Int} {v : TVal} (hs : Sl w.heap ok eI64 p n c ids) (hv : v.kind = 4 -> 0 <= v.n /\ v.n < n) : Calls P F.Z18 #[.agg #[.int .i64 v.kind,.int .i64 v.n],.slice p n c] w (Mk (.int .u32 (ofVal v ids)) w) := by
 refine oZ18 ?_
 refine newB_i ?_; intro b w1 b_eq hB hN w1_sz; try simp only [drew_heap',dr_heap] at b_eq hN
 simp only [holds,Z1,Z2,Z3,Z4,Z5,Z6,Z7,Z8,Z9,ZA,ZB,ZC,ZD,ZE,ZF,ZG,true_and,and_true,ZS,ZT,exists_eq',and_assoc,wv_eq,dr_cell,ZU,join_eq,br_true,br_false,chk_true,decide_true,decide_false,Bool.not_true,Bool.not_false,Nat.zero_add,sets,ZH,ZI,onPtr_some,onIface_some,onFunc_some,nilVC_iface,hB.cell]
 unfold ofVal
 refine br_of (fun h1 => ?_) (fun h1 => ?_) <;> simp only [ZJ,ZK,ZL,ZM,ZN,ZO,ZP,ZQ,ZR] at h1
 ·rw [if_pos h1]; exact ⟨rfl,hN⟩
 rw [if_neg h1]
 refine br_of (fun h2 => ?_) (fun h2 => ?_) <;> simp only [ZJ,ZK,ZL,ZM,ZN,ZO,ZP,ZQ,ZR] at h2
 ·rw [if_pos h2]; exact ⟨rfl,hN⟩
 rw [if_neg h2]
 refine br_of (fun h3 => ?_) (fun h3 => ?_) <;> simp only [ZJ,ZK,ZL,ZM,ZN,ZO,ZP,ZQ,ZR] at h3
 ·rw [if_pos h3]
  refine (word_Int_ok v.n w1).mono ?_; rintro _ _ ⟨rfl,k,rfl⟩
  simp only [holds,Z1,Z2,Z3,Z4,Z5,Z6,Z7,Z8,Z9,ZA,ZB,ZC,ZD,ZE,ZF,ZG,true_and,and_true,ZS,ZT,exists_eq',and_assoc,wv_eq,dr_cell,ZU,join_eq,br_true,br_false,chk_true,decide_true,decide_false,Bool.not_true,Bool.not_false,Nat.zero_add,sets,ZH,ZI,onPtr_some,onIface_some,onFunc_some,nilVC_iface]
  exact ⟨rfl,hN⟩
 rw [if_neg h3]
 refine br_of (fun h4 => ?_) (fun h4 => ?_) <;> simp only [ZJ,ZK,ZL,ZM,ZN,ZO,ZP,ZQ,ZR] at h4
 ·rw [if_pos h4]
  obtain ⟨v0,v1⟩ := hv h4
  have hl := hs.len
  refine chk_of (by simp; omega) ?_
  refine (hs.nw hN).idx1 (i := v.n.toNat) (getD_some (d := 0) (by omega)) ?_; intro g o _ hc
  refine ⟨_,hc,?_⟩
  refine (word_Oop_ok _ w1).mono ?_; rintro _ _ ⟨rfl,k,rfl⟩
  simp only [holds,Z1,Z2,Z3,Z4,Z5,Z6,Z7,Z8,Z9,ZA,ZB,ZC,ZD,ZE,ZF,ZG,true_and,and_true,ZS,ZT,exists_eq',and_assoc,wv_eq,dr_cell,ZU,join_eq,br_true,br_false,chk_true,decide_true,decide_false,Bool.not_true,Bool.not_false,Nat.zero_add,sets,ZH,ZI,onPtr_some,onIface_some,onFunc_some,nilVC_iface]
  exact ⟨rfl,hN⟩
 ·rw [if_neg h4]; exact ⟨rfl,hN⟩
def LoadTo {α : Type} (I : Hp -> (Nat -> Prop) -> Value -> α -> Prop) (ok : Nat -> Prop) (s : Value) (r : Option (List Int) × α) (w : World) : Ending -> World -> Prop := fun en w' =>
 match r.1 with
 | some ids => ∃ p T,en = .returned (.tuple #[.slice p ids.length ids.length,.bool true]) /\ (∀ y,T y -> w.heap.size <= y) /\ Sl w'.heap T eI64 p ids.length ids.length ids /\ I w'.heap (fun y => Old ok w.heap y /\ ¬ T y) s r.2 /\ Fr ok w.heap w'.heap
 | none => en = .returned (.tuple #[.slice none 0 0,.bool false])
theorem store_Load_ok {α : Type} {O : StoreOps α} {st : TypeId} {I : Hp -> (Nat -> Prop) -> Value -> α -> Prop} (sp : StoreSp O st I) {w : World} {ok oku : Nat -> Prop} {s : Value} {σ : α} {c : CUnit} {u : TUnit}
  (hI : I w.heap ok s σ) (hu : IsUnit w.heap oku c u) (hg : UGood u) (hd : ∀ y,y < w.heap.size -> oku y -> ¬ ok y) (hz : O.size σ + 40 < 1000000) :
  Calls P F.Zi #[.iface st s,.agg #[.slice c.names.p c.names.n c.names.c,.slice c.classes.p c.classes.n c.classes.c,.slice c.methods.p c.methods.n c.methods.c,.slice c.objects.p c.objects.n c.objects.c,.int .i64 c.main]] w (LoadTo I ok s (lLoad O σ u) w) := by
 refine oZi ?_
 unfold vZi
 refine newB_i ?_; intro b w1 b_eq hB hN w1_sz; try simp only [drew_heap',dr_heap] at b_eq hN
 rw [join_eq]
 replace hB : Bk w1.heap b c.vs := hB
 refine ⟨c.names.p,c.names.n,c.names.c,c.classes.p,c.classes.n,c.classes.c,c.methods.p,c.methods.n,c.methods.c,c.objects.p,c.objects.n,c.objects.c,c.main,hB.holds,?_⟩
 refine (unit_Right_ok (hu.nw hN) hg).mono ?_; rintro _ w2 ⟨rfl,hN2⟩
 refine ⟨_,rfl,?_⟩
 simp only [decide_true,Bool.not_true,br_false]
 have hB2 := hB.nw hN2; have hN02 := hN.tr hN2
 obtain ⟨lo,ho,hoA⟩ := hu.objects
 have hon : c.objects.n = u.objects.length := by rw [<- ho.len,hoA.len]
 have hlo := ho.len
 obtain ⟨g1,g2,g3,g4,g5⟩ := hg.len
 have hbw : b = w.heap.size := b_eq
 have hlt2 := hB2.lt
 have hI2 : I w2.heap (fun y => ok y /\ y < w.heap.size) s σ := sp.fr hI hN02 (fun _ _ _ h => h) fun y hy h => ⟨h,hy⟩
 generalize hok0 : (fun y => ok y /\ y < w.heap.size) = ok0 at hI2
 have ok0_1 : ∀ y,ok0 y -> ok y /\ y < w.heap.size := fun y h => by rw [<- hok0] at h; exact h
 have hoF : ∀ w' : World,Fr ok0 w2.heap w'.heap -> Sl w'.heap oku eObj c.objects.p c.objects.n c.objects.c lo /\ All2 (IsObj w'.heap oku) lo u.objects := fun w' hf => by
  refine ⟨((ho.fr hN02 (fun _ _ _ h => h) (fun y hy h => (⟨h,hy⟩ : oku y /\ y < w.heap.size)))).fr hf (fun y _ h e => hd y h.2 h.1 (ok0_1 y e).1) (fun y _ h => h.1),hoA.mono fun r x hr => ?_⟩
  exact (hr.fr hN02 (fun _ _ _ h => h) (fun y hy h => (⟨h,hy⟩ : oku y /\ y < w.heap.size))).fr hf (fun y _ h e => hd y h.2 h.1 (ok0_1 y e).1) (fun y _ h => h.1)
 refine ⟨c.objects.p,c.objects.n,c.objects.c,by rw [hB2.cell]; rfl,?_⟩
 refine ⟨fun t w' => ∃ (k : Nat) (ids : List Int) (σ' : α) (T : Nat -> Prop),t.2 = (k : Int) /\ k <= c.objects.n /\ t.1.2.1 = k /\ lAllocN O u.objects σ k = (some ids,σ') /\ (∀ d ∈ ids,d <= mostI) /\ (∀ y,T y -> w2.heap.size <= y) /\ Sl w'.heap T eI64 t.1.1 t.1.2.1 t.1.2.2 ids /\ I w'.heap (fun y => Old ok0 w2.heap y /\ ¬ T y) s σ' /\ Fr ok0 w2.heap w'.heap,fun t _ => c.objects.n - t.2.toNat,
  ⟨0,[],σ,fun _ => False,rfl,Nat.zero_le _,rfl,rfl,by simp,fun _ h => h.elim,Sl.nil,sp.fr hI2 (Fr.refl (fun _ => False) _) (fun _ _ _ h => h) (fun y _ h => ⟨.inl h,fun h => h⟩),Fr.refl _ _⟩,?_⟩
 rintro ⟨⟨q,m,d⟩,t⟩ w3 ⟨k,ids,σ',T,rfl,hk,e,hal,hids,hT,hsl,hI3,hF3⟩
 simp only at e hsl
 have hids_len := hsl.len
 have hszk := lAllocN_size sp u.objects σ k
 rw [hal] at hszk
 simp only at hszk
 have hle3 := hF3.le
 refine br_of (fun h1 => ?_) (fun h1 => ?_) <;> simp only [ZJ,ZK,ZL,ZM,ZN,ZO,ZP,ZQ,ZR] at h1
 ·refine chk_of (by simp; omega) ?_
  obtain ⟨ho3,hoA3⟩ := hoF w3 hF3
  obtain ⟨r,x,hr,hx,hrx⟩ := hoA3.getL (i := k) (by omega)
  refine ho3.idx hr ?_; intro g o _ hh
  refine ⟨_,_,_,_,hh,?_⟩
  refine newB_i ?_; intro b1 w4 b1_eq hB4 hN4 w4_sz; try simp only [drew_heap',dr_heap] at b1_eq hN4
  refine stores_i hB4 (by simp [sets_length]) ?_; intro w5 hB5 hF5 w5_sz; try simp only [drew_heap',dr_heap] at w5_sz hF5
  simp only [sets,ZH,ZI] at hB5
  have hN5 : Nw w3.heap w5.heap := hN4.st hF5 (by omega)
  refine ⟨r.cls,by rw [hB5.cell]; rfl,r.fields.p,r.fields.n,r.fields.c,by rw [hB5.cell]; rfl,?_⟩
  have hI5 : I w5.heap (fun y => (Old ok0 w2.heap y /\ ¬ T y) /\ y < w3.heap.size) s σ' := sp.fr hI3 hN5 (fun _ _ _ h => h) (fun y hy h => ⟨h,hy⟩)
  have hxo : u.objects.getD k default = x := by simp [List.getD_eq_getElem?_getD,hx]
  have hfl := hrx.fields.len
  obtain ⟨fn,rc,hm1,hm2,hm3⟩ := sp.alloc r.cls (r.fields.n : Int) hI5 (by omega)
  refine ⟨fn,rc,hm1,?_⟩
  rw [hm2,chk_true]
  refine hm3.mono ?_; rintro _ w6 ⟨rfl,hI6,hF6⟩
  refine ⟨_,rfl,?_⟩
  have hstep : lAllocN O u.objects σ (k + 1) = if (O.alloc σ' r.cls r.fields.n).1 < 0 then (none,(O.alloc σ' r.cls r.fields.n).2) else (some (ids ++ [(O.alloc σ' r.cls r.fields.n).1]),(O.alloc σ' r.cls r.fields.n).2) := by
   simp only [lAllocN,hal,hxo,hrx.cls,<- hfl]
  refine br_of (fun h2 => ?_) (fun h2 => ?_) <;> simp only [ZJ,ZK,ZL,ZM,ZN,ZO,ZP,ZQ,ZR] at h2
  ·rw [if_pos h2] at hstep
   have := lAllocN_none hstep u.objects.length (by omega)
   simp only [LoadTo,lLoad,this]
  ·rw [if_neg (by omega)] at hstep
   refine newB_i ?_; intro b2 w7 b2_eq hB7 hN7 w7_sz; try simp only [drew_heap',dr_heap] at b2_eq hN7
   have hs1 : Sl w7.heap (fun y => y = b2) eI64 (some ⟨b2,0,none⟩) 1 1 [(O.alloc σ' r.cls r.fields.n).1] := (Sl.of_blk (l := [(O.alloc σ' r.cls r.fields.n).1]) (E := eI64) hB7 rfl rfl (by simp)).mono fun _ _ h => h.symm
   have hsl7 : Sl w7.heap (fun y => T y /\ y < w3.heap.size) eI64 q m d ids := (((hsl.mono fun y hy h => (⟨h,hy⟩ : T y /\ y < w3.heap.size)).nw hN5).fr hF6 (fun y _ h e => e.1.2 h.1) (fun _ _ h => h)).nw hN7
   refine append_r ty_int hsl7 hs1 (by omega) ?_
   intro q' d' w8 h8 hF8
   have hle5 := hN5.le; have hle6 := hF6.le; have hle7 := hN7.le
   rw [wrap_id (by omega) (by omega)]
   refine ⟨⟨k + 1,ids ++ [(O.alloc σ' r.cls r.fields.n).1],(O.alloc σ' r.cls r.fields.n).2,Old (fun y => T y /\ y < w3.heap.size) w7.heap,rfl,by omega,by show m + 1 = k + 1; omega,hstep,?_,?_,h8,?_,?_⟩,by (first | omega | (dsimp only; omega))⟩
   ·intro y hy
    rcases List.mem_append.1 hy with hy | hy
    ·exact hids y hy
    ·rw [List.mem_singleton.1 hy]; exact sp.idA _ _ _ (by omega)
   ·intro y hy
    rcases hy with hy | hy
    ·exact hT y hy.1
    ·omega
   ·refine sp.fr hI6 (hN7.fr.trans hF8 (fun _ _ h => h) (fun _ _ h => h)) (fun y hy h e => ?_) (fun y hy h => ?_)
    ·rcases h with h | h
     ·exact h.1.2 e.1
     ·omega
    ·rcases h with h | h
     ·exact ⟨h.1.1,fun e => by rcases e with e | e; exact h.1.2 e.1; omega⟩
     ·exact ⟨.inr (by omega),fun e => by rcases e with e | e <;> omega⟩
   ·refine hF3.trans (T := ok0) ((hN5.fr.trans (T := fun y => ((Old ok0 w2.heap y /\ ¬ T y) /\ y < w3.heap.size) \/ T y) hF6 (fun _ _ h => h) (fun _ _ h => .inl h)).trans (T := fun y => ((Old ok0 w2.heap y /\ ¬ T y) /\ y < w3.heap.size) \/ T y) (hN7.fr.trans (T := fun y => T y) hF8 (fun _ _ h => h) (fun _ _ h => h.1)) (fun _ _ h => h) (fun _ _ h => .inr h)) (fun _ _ h => h) (fun y hy h => ?_)
    rcases h with h | h
    ·rcases h.1.1 with h | h
     ·exact h
     ·omega
    ·have := hT y h; omega
 ·obtain rfl : k = c.objects.n := by omega
  have hB3 : Bk w3.heap b c.vs := hB2.fr hF3 fun h => by have := (ok0_1 b h).2; omega
  refine ⟨c.objects.p,c.objects.n,c.objects.c,by rw [hB3.cell]; rfl,?_⟩
  obtain ⟨T0,hT0⟩ : ∃ T0 : Nat -> Prop,T0 = fun y => T y /\ y < w3.heap.size := ⟨_,rfl⟩
  have hT0w : ∀ y,T0 y -> w2.heap.size <= y /\ y < w3.heap.size := fun y h => by rw [hT0] at h; exact ⟨hT y h.1,h.2⟩
  have hsl0 : Sl w3.heap T0 eI64 q m d ids := hsl.mono fun y hy h => by rw [hT0]; exact ⟨h,hy⟩
  have hI0 : I w3.heap (fun y => Old ok0 w2.heap y /\ ¬ T0 y) s σ' := sp.fr hI3 (Fr.refl (fun _ => False) _) (fun _ _ _ h => h) (fun y _ h => ⟨h.1,fun e => h.2 (by rw [hT0] at e; exact e.1)⟩)
  subst e
  have hszO : ∀ _j : Nat,lAllocN O u.objects σ u.objects.length = (some ids,σ') := fun _ => by rw [<- hon]; exact hal
  refine ⟨fun t w' => ∃ j : Nat,t = (j : Int) /\ j <= c.objects.n /\ Fr ok0 w2.heap w'.heap /\ w3.heap.size <= w'.heap.size /\ Sl w'.heap T0 eI64 q c.objects.n d ids /\ I w'.heap (fun y => Old ok0 w2.heap y /\ ¬ T0 y) s (lObjN O ids u.objects σ' j),fun t _ => c.objects.n - t.toNat,⟨0,rfl,Nat.zero_le _,hF3,Nat.le_refl _,hsl0,hI0⟩,?_⟩
  rintro t w4 ⟨j,rfl,hj,hF4,hle4,hsl4,hI4⟩
  refine br_of (fun h2 => ?_) (fun h2 => ?_) <;> simp only [ZJ,ZK,ZL,ZM,ZN,ZO,ZP,ZQ,ZR] at h2
  ·refine chk_of (by simp; omega) ?_
   obtain ⟨ho3,hoA3⟩ := hoF w4 hF4
   obtain ⟨r,x,hr,hx,hrx⟩ := hoA3.getL (i := j) (by omega)
   refine ho3.idx hr ?_; intro g o _ hh
   refine ⟨_,_,_,_,hh,?_⟩
   refine newB_i ?_; intro b1 w5 b1_eq hB5 hN5 w5_sz; try simp only [drew_heap',dr_heap] at b1_eq hN5
   refine stores_i hB5 (by simp [sets_length]) ?_; intro w6 hB6 hF6 w6_sz; try simp only [drew_heap',dr_heap] at w6_sz hF6
   simp only [sets,ZH,ZI] at hB6
   have hN6 : Nw w4.heap w6.heap := hN5.st hF6 (by omega)
   refine ⟨r.fields.p,r.fields.n,r.fields.c,by rw [hB6.cell]; rfl,?_⟩
   have hxo : u.objects.getD j default = x := by simp [List.getD_eq_getElem?_getD,hx]
   have hfl := hrx.fields.len; have hfs := hrx.fields.small
   have hgo := hg.objects x (List.mem_of_getElem? hx)
   have hI6 : I w6.heap (fun y => (Old ok0 w2.heap y /\ ¬ T0 y) /\ y < w4.heap.size) s (lObjN O ids u.objects σ' j) := sp.fr hI4 hN6 (fun _ _ _ h => h) (fun y hy h => ⟨h,hy⟩)
   have hle46 := hN6.le
   refine ⟨fun t w' => ∃ i : Nat,t = (i : Int) /\ i <= r.fields.n /\ Fr ok0 w2.heap w'.heap /\ w3.heap.size <= w'.heap.size /\ Sl w'.heap T0 eI64 q c.objects.n d ids /\ I w'.heap (fun y => Old ok0 w2.heap y /\ ¬ T0 y) s (lPutN O ids (ids.getD j 0) x.fields (lObjN O ids u.objects σ' j) i),fun t _ => r.fields.n - t.toNat,
    ⟨0,rfl,Nat.zero_le _,hF4.trans hN6.fr (fun _ _ h => h) (fun _ _ h => h),by omega,hsl4.nw hN6,sp.fr hI6 (Fr.refl (fun _ => False) _) (fun _ _ _ h => h) (fun y _ h => h.1)⟩,?_⟩
   rintro t w7 ⟨i,rfl,hi,hF7,hle7,hsl7,hI7⟩
   refine br_of (fun h3 => ?_) (fun h3 => ?_) <;> simp only [ZJ,ZK,ZL,ZM,ZN,ZO,ZP,ZQ,ZR] at h3
   ·refine chk_of (by simp; omega) ?_
    have hfx := (hoF w7 hF7).2.at_ j r x hr hx
    have hv : x.fields[i]? = some (x.fields.getD i default) := getD_some (by omega)
    generalize hvd : x.fields.getD i default = v at hv
    refine hfx.fields.idx hv ?_; intro g2 o2 _ hh2
    refine ⟨_,_,hh2,?_⟩
    refine newB_i ?_; intro b2 w8 b2_eq hB8 hN8 w8_sz; try simp only [drew_heap',dr_heap] at b2_eq hN8
    refine stores_i hB8 (by simp [sets_length]) ?_; intro w9 hB9 hF9 w9_sz; try simp only [drew_heap',dr_heap] at w9_sz hF9
    simp only [sets,ZH,ZI] at hB9
    have hN9 : Nw w7.heap w9.heap := hN8.st hF9 (by omega)
    have hle79 := hN9.le
    refine chk_of (by simp; omega) ?_
    have hidl : ids[j]? = some (ids.getD j 0) := getD_some (by omega)
    obtain ⟨g3,pre3,post3,hq3,_⟩ := hsl7.addr (i := j) (by omega)
    have hcell : ∀ w' : World,Sl w'.heap T0 eI64 q c.objects.n d ids -> w'.cell? ⟨g3,pre3.length + j * 1,none⟩ = some (.int .i64 (ids.getD j 0)) := fun w' h => by
     have := h.idx1 (K := fun g o => w'.cell? ⟨g,o + j * 1,none⟩ = some (.int .i64 (ids.getD j 0))) hidl (fun g o _ h => h)
     rw [hq3] at this
     exact this
    have hsl9 := hsl7.nw hN9
    have hI9 : I w9.heap (fun y => (Old ok0 w2.heap y /\ ¬ T0 y) /\ y < w7.heap.size) s (lPutN O ids (ids.getD j 0) x.fields (lObjN O ids u.objects σ' j) i) := sp.fr hI7 hN9 (fun _ _ _ h => h) (fun y hy h => ⟨h,hy⟩)
    have hon3 : onPtr q = onPtr (some ⟨g3,pre3.length,none⟩) := by rw [hq3]
    rw [hon3,onPtr_some]
    refine ⟨ids.getD j 0,hcell w9.drew hsl9,v.kind,v.n,hB9.holds,sp.ahead hI9,?_⟩
    refine (store_of_ok (w := w9.drew) hsl9 (fun hk => ?_)).mono ?_
    ·have := hgo.vals v (List.mem_of_getElem? hv)
     simp only [uValue,hk] at this
     simp at this
     omega
    rintro _ wA ⟨rfl,hNA⟩
    replace hNA : Nw w9.heap wA.heap := hNA
    have hslA := hsl9.nw hNA
    have hIA : I wA.heap (fun y => (Old ok0 w2.heap y /\ ¬ T0 y) /\ y < w7.heap.size) s (lPutN O ids (ids.getD j 0) x.fields (lObjN O ids u.objects σ' j) i) := sp.fr hI9 hNA (fun _ _ _ h => h) (fun y hy h => h)
    refine ⟨_,rfl,⟨hcell wA hslA,trivial⟩,?_⟩
    obtain ⟨fn,rc,hm1,hm2,hm3⟩ := sp.put (ids.getD j 0) (i : Int) (ofVal v ids) hIA (hids _ (List.mem_of_getElem? hidl))
    refine ⟨fn,rc,hm1,?_⟩
    rw [hm2,chk_true]
    refine hm3.mono ?_; rintro _ wB ⟨rfl,hIB,hFB⟩
    have hleA := hNA.le; have hleB := hFB.le
    rw [wrap_id (by omega) (by omega)]
    refine ⟨_,rfl,trivial,⟨i + 1,rfl,by omega,?_,by omega,hslA.fr hFB (fun y _ h e => e.1.2 h) (fun _ _ h => h),?_⟩,by (first | omega | (dsimp only; omega))⟩
    ·refine ((hF7.trans hN9.fr (fun _ _ h => h) (fun _ _ h => h)).trans hNA.fr (fun _ _ h => h) (fun _ _ h => h)).trans hFB (fun _ _ h => h) (fun y hy h => ?_)
     rcases h.1.1 with h | h
     ·exact h
     ·omega
    ·rw [lPutN,hvd]
     exact sp.fr hIB (Fr.refl (fun _ => False) _) (fun _ _ _ h => h) (fun y _ h => by
      rcases h with h | h
      ·exact h.1
      ·exact ⟨.inr (by omega),fun e => by have := (hT0w y e).2; omega⟩)
   ·obtain rfl : i = r.fields.n := by omega
    rw [wrap_id (by omega) (by omega)]
    refine ⟨⟨j + 1,rfl,by omega,hF7,hle7,hsl7,?_⟩,by (first | omega | (dsimp only; omega))⟩
    rw [lObjN,hxo,hfl]
    exact hI7
  ·obtain rfl : j = c.objects.n := by omega
   refine (slices_Clip_int_int_ok hsl4).mono ?_
   rintro _ w4 ⟨q',rfl,rfl,hq'⟩
   refine ⟨q',_,_,rfl,?_⟩
   simp only [LoadTo,lLoad,hszO 0]
   rw [hids_len]
   refine ⟨q',T0,rfl,fun y h => by have := (hT0w y h).1; omega,hq',?_,?_⟩
   ·rw [<- hon]
    exact sp.fr hI4 (Fr.refl (fun _ => False) _) (fun _ _ _ h => h) (fun y _ h => ⟨by
     rcases h.1 with h | h
     ·exact .inl (ok0_1 y h).1
     ·exact .inr (by omega),h.2⟩)
   ·exact hN02.fr.trans hF4 (fun _ _ h => h) (fun y _ h => (ok0_1 y h).1)
end
end Go.Proofs.YtbedadcbbnmpkaaGreatDoor
