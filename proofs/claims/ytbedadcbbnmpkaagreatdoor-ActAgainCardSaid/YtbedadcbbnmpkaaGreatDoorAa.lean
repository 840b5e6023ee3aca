/- Part 1 of what the proof rests on: Vc, VcOk, VcOk2, Names, VcLaw. No condition. -/
import Derived.Orders
import Derived.Laws.Tables
import Derived.Great.BuildSlice
import Derived.WalkKit
import Derived.OrdersHeld
import Derived.Test.YtbedadcbbnmpkaaGreatDoorProg
import Derived.KernelRfl
set_option linter.unusedSimpArgs false
set_option linter.unusedVariables false
namespace Go.Proofs.YtbedadcbbnmpkaaGreatDoor
open Go
structure Aft (w w' : World) : Prop where
 os : w'.os = w.os
 out : w'.output = w.output
theorem Aft.refl (w : World) : Aft w w := ⟨rfl,rfl⟩
theorem Aft.trans {a b c : World} (h : Aft a b) (h' : Aft b c) : Aft a c := ⟨h'.os.trans h.os,h'.out.trans h.out⟩
def Calls (P : Program) (f : FuncId) (args : Array Value) (w : World) (R : Ending -> World -> Prop) : Prop := _root_.Go.Calls P f args w fun en w' => R en w' /\ Aft w w'
theorem Calls.mono {P : Program} {f : FuncId} {args : Array Value} {w : World} {R R' : Ending -> World -> Prop} (h : Calls P f args w R) (hr : ∀ en w',R en w' -> R' en w') : Calls P f args w R' :=
 _root_.Go.Calls.mono h fun en w' hh => ⟨hr en w' hh.1,hh.2⟩
namespace Vc
abbrev Env := List (Nat × Value)
def Env.get : Env -> Nat -> Option Value
 | [],_ => none
 | (s,v) :: r,t => match Nat.beq s t with
  | true => some v
  | false => Env.get r t
def put (n : Nat) (e : Env) (dst : Option Nat) (v : Value) : Env :=
 match dst with
 | none => e
 | some d => match Nat.blt d n with
  | true => (d,v) :: e
  | false => e
def ev (e : Env) : Operand -> Option Value
 | .tmp t => e.get t
 | .const v => some v
 | .global g => some (.pointer (some ⟨g,0,none⟩))
 | .func f => some (.func (.func f) #[] #[])
structure Agrees (n : Nat) (e : Env) (a : Act) : Prop where
 defers : a.defers = []
 size : a.tmps.size = n
 get : ∀ t v,e.get t = some v -> a.tmps.getD t undef = v
theorem get_cons (s : Nat) (v : Value) (r : Env) (t : Nat) : Env.get ((s,v) :: r) t = if s = t then some v else Env.get r t := by
 simp only [Env.get]
 by_cases h : s = t
 ·subst h; simp [Nat.beq_refl]
 ·have : Nat.beq s t = false := by
   cases hb : Nat.beq s t
   ·rfl
   ·exact absurd (Nat.eq_of_beq_eq_true hb) h
  simp [this,h]
section
variable {P : Program} {n : Nat} {e : Env} {a : Act}
theorem Agrees.eval (h : Agrees n e a) {x : Operand} {v : Value} (hx : ev e x = some v) : a.eval x = v := by
 cases x with
 | tmp t => exact h.get t v hx
 | const u => simp only [ev,Option.some.injEq] at hx; exact hx
 | global g => simp only [ev,Option.some.injEq] at hx; exact hx
 | func f => simp only [ev,Option.some.injEq] at hx; exact hx
theorem Agrees.put (h : Agrees n e a) (dst : Option Nat) (v : Value) : Agrees n (put n e dst v) (a.put dst v) := by
 cases dst with
 | none => exact h
 | some d =>
  refine ⟨h.defers,by simp [Act.put,h.size],fun t u hu => ?_⟩
  simp only [Vc.put] at hu
  simp only [Act.put]
  cases hb : Nat.blt d n with
  | true =>
   simp only [hb] at hu
   rw [get_cons] at hu
   have hd : d < a.tmps.size := by rw [h.size]; rw [Nat.blt_eq] at hb; exact hb
   by_cases hdt : d = t
   ·subst hdt
    simp only [if_true,Option.some.injEq] at hu
    subst hu
    simp [hd]
   ·rw [if_neg hdt] at hu
    have := h.get t u hu
    simp only [Array.getD_eq_getD_getElem?] at this ⊢
    rw [Array.getElem?_setIfInBounds_ne hdt]
    exact this
  | false =>
   simp only [hb] at hu
   have hd : ¬ d < a.tmps.size := by
    rw [h.size]; intro hlt
    have : Nat.blt d n = true := by rw [Nat.blt_eq]; exact hlt
    rw [this] at hb; cases hb
   have h2 : a.tmps.setIfInBounds d v = a.tmps := by
    simp [Array.setIfInBounds,hd]
   rw [h2]
   exact h.get t u hu
theorem Agrees.know (h : Agrees n e a) {s : Nat} {v : Value} (hv : a.tmps.getD s undef = v) : Agrees n ((s,v) :: e) a :=
 ⟨h.defers,h.size,fun t u hu => by
  rw [get_cons] at hu
  by_cases hst : s = t
  ·subst hst; simp only [if_true,Option.some.injEq] at hu; rw [<- hu]; exact hv
  ·rw [if_neg hst] at hu; exact h.get t u hu⟩
end
def join {α : Type} (j : α) (k : α -> Prop) : Prop := k j
def wv (x : World) (k : World -> Prop) : Prop := k x
def newB (w : World) (cs : Array Value) (t : TypeId) (k : Nat -> World -> Prop) : Prop := k w.heap.size (w.alloc (.cells cs t))
def chk (b : Bool) (p : Prop) : Prop := match b with | true => p | false => False
def br (b : Bool) (p q : Prop) : Prop := match b with | true => p | false => q
def onPtr (p : Option Addr) (k : Nat -> Nat -> Prop) : Prop := match p with | some ⟨g,o,none⟩ => k g o | _ => False
def oV (v : Option Value) (k : Value -> Prop) : Prop := match v with | some v => k v | none => False
theorem chk_of {b : Bool} {p : Prop} (h : b = true) (hp : p) : chk b p := by subst h; exact hp
theorem chk_out {b : Bool} {p : Prop} (h : chk b p) : b = true /\ p := by cases b; exact h.elim; exact ⟨rfl,h⟩
theorem br_of {b : Bool} {p q : Prop} (h1 : b = true -> p) (h2 : b = false -> q) : br b p q := by cases b; exact h2 rfl; exact h1 rfl
theorem onPtr_out {p : Option Addr} {k : Nat -> Nat -> Prop} (h : onPtr p k) : ∃ g o,p = some ⟨g,o,none⟩ /\ k g o := by
 unfold onPtr at h; split at h
 ·exact ⟨_,_,rfl,h⟩
 ·exact h.elim
theorem oV_out {v : Option Value} {k : Value -> Prop} (h : oV v k) : ∃ u,v = some u /\ k u := by
 cases v; exact h.elim; exact ⟨_,rfl,h⟩
inductive Sc where
 | bool | int (k : IntKind) | str | slice | ptr | map | other
def Sc.T : Sc -> Type
 | .bool => Bool | .int _ => Int | .str => ByteArray | .slice => Option Addr × Nat × Nat | .ptr => Option Addr | .map => Option Nat | .other => Value
def anyOf (s : Sc) (k : Value -> Prop) : Prop :=
 match s with
 | .bool => ∃ b : Bool,k (.bool b)
 | .int i => ∃ n : Int,k (.int i n)
 | .str => ∃ s : ByteArray,k (.string s)
 | .slice => ∃ (p : Option Addr) (n c : Nat),k (.slice p n c)
 | .ptr => ∃ p : Option Addr,k (.pointer p)
 | .map => ∃ r : Option Nat,k (.map r)
 | .other => ∃ v : Value,k v
theorem anyOf_out {s : Sc} {k : Value -> Prop} (h : anyOf s k) : ∃ v,k v := by
 cases s <;> simp only [anyOf] at h
 case slice => obtain ⟨p,n,c,h⟩ := h; exact ⟨_,h⟩
 all_goals (obtain ⟨x,h⟩ := h; exact ⟨_,h⟩)
def anyVals : List Sc -> (List Value -> Prop) -> Prop
 | [],k => k []
 | s :: r,k => anyOf s fun v => anyVals r fun vs => k (v :: vs)
theorem anyVals_out : ∀ {l : List Sc} {k : List Value -> Prop},anyVals l k -> ∃ vs : List Value,vs.length = l.length /\ k vs
 | [],_,h => ⟨[],rfl,h⟩
 | _ :: _,_,h => by
  obtain ⟨v,h⟩ := anyOf_out h
  obtain ⟨vs,hl,h⟩ := anyVals_out h
  exact ⟨v :: vs,by simp [hl],h⟩
def rowOf (cs : Array Value) : Nat -> List Value -> Prop
 | _,[] => True
 | o,[v] => cs[o]? = some v
 | o,v :: u :: r => cs[o]? = some v /\ rowOf cs (o + 1) (u :: r)
theorem rowOf_out {cs : Array Value} : ∀ {vs : List Value} {o : Nat},rowOf cs o vs -> ∀ j v,vs[j]? = some v -> cs[o + j]? = some v
 | [],_,_,j,v,hj => by simp at hj
 | [x],o,h,j,v,hj => by
  cases j with
  | zero => simp at hj; subst hj; exact h
  | succ j => simp at hj
 | x :: y :: r,o,h,j,v,hj => by
  cases j with
  | zero => simp at hj; subst hj; exact h.1
  | succ j => have := rowOf_out h.2 j v (by simpa using hj); rwa [Nat.add_assoc,Nat.add_comm 1 j] at this
def scOf : TypeDesc -> Sc
 | .bool => .bool
 | .int k => .int k
 | .string => .str
 | .slice _ => .slice
 | .pointer _ => .ptr
 | .map _ _ => .map
 | _ => .other
mutual
def kinds (P : Program) : Nat -> TypeId -> Option (List Sc)
 | 0,_ => none
 | d + 1,t => match P.underlying t with
  | some (.struct fs) => kindsOf P d fs.toList
  | some (.array m e) => match kinds P d e with
   | some l => match Nat.ble (m * l.length) 8 with
    | true => some (List.replicate m l).flatten
    | false => none
   | none => none
  | some x => some [scOf x]
  | none => none
def kindsOf (P : Program) : Nat -> List Field -> Option (List Sc)
 | _,[] => some []
 | 0,_ :: _ => none
 | d + 1,f :: r => match kinds P d f.type,kindsOf P d r with
  | some x,some y => some (x ++ y)
  | _,_ => none
end
def aggr (d : TypeDesc) : Bool := match d with | .struct _ | .array _ _ => true | _ => false
def asVal (agg : Bool) (vs : List Value) : Value :=
 match agg with
 | true => .agg vs.toArray
 | false => match vs with | [v] => v | _ => undef
def sizeT (P : Program) (t : TypeId) : Option Nat := match P.info? t with | some i => some i.size | none => none
def shapeT (P : Program) (t : TypeId) : Option (Bool × List Sc) :=
 match kinds P 12 t,P.underlying t,sizeT P t with
 | some l,some d,some m => match Nat.beq l.length m with
  | true => some (aggr d,l)
  | false => none
 | _,_,_ => none
def intVC (op : BinOp) (k : IntKind) (a b : Int) (K : Value -> Prop) : Prop :=
 match op with
 | .add => K (.int k (k.wrap (a + b)))
 | .sub => K (.int k (k.wrap (a - b)))
 | .mul => K (.int k (k.wrap (a * b)))
 | .quo => chk (!(decide (b = 0))) (K (.int k (k.wrap (a.tdiv b))))
 | .rem => chk (!(decide (b = 0))) (K (.int k (a.tmod b)))
 | .and => K (.int k (k.wrap (BitVec.ofInt k.bits a &&& BitVec.ofInt k.bits b).toNat))
 | .or => K (.int k (k.wrap (BitVec.ofInt k.bits a ||| BitVec.ofInt k.bits b).toNat))
 | .xor => K (.int k (k.wrap (BitVec.ofInt k.bits a ^^^ BitVec.ofInt k.bits b).toNat))
 | .andNot => K (.int k (k.wrap (BitVec.ofInt k.bits a &&& ~~~ BitVec.ofInt k.bits b).toNat))
 | .shl => chk (decide (0 <= b)) (K (.int k (k.wrap (a * 2 ^ (min b.toNat k.bits)))))
 | .shr => chk (decide (0 <= b)) (K (.int k (a.fdiv (2 ^ (min b.toNat k.bits)))))
 | .eql => K (.bool (decide (a = b)))
 | .neq => K (.bool (!(decide (a = b))))
 | .lss => K (.bool (decide (a < b)))
 | .leq => K (.bool (decide (a <= b)))
 | .gtr => K (.bool (decide (b < a)))
 | .geq => K (.bool (decide (b <= a)))
def strVC (op : BinOp) (a b : ByteArray) (K : Value -> Prop) : Prop :=
 match op with
 | .add => chk (decide (a.size + b.size <= 9223372036854775807)) (K (.string (a ++ b)))
 | .eql => K (.bool (a.toList == b.toList))
 | .neq => K (.bool (!(a.toList == b.toList)))
 | _ => False
def sameKind (k k' : IntKind) : Bool :=
 match k,k' with
 | .i8,.i8 | .i16,.i16 | .i32,.i32 | .i64,.i64 | .u8,.u8 | .u16,.u16 | .u32,.u32 | .u64,.u64 => true
 | _,_ => false
theorem sameKind_eq {k k' : IntKind} (h : sameKind k k' = true) : k = k' := by cases k <;> cases k' <;> first | rfl | cases h
def isShift (op : BinOp) : Bool := match op with | .shl | .shr => true | _ => false
def pureRun (P : Program) (s : Sc) (m : Sem Value) (K : Value -> Prop) : Prop := anyOf s fun v => (∀ w,m.run P w = .ok v w) /\ K v
def isConst : Operand -> Bool
 | .const _ => true
 | _ => false
def binVC (P : Program) (op : BinOp) (t : TypeId) (x y : Operand) (xv yv : Value) (K : Value -> Prop) : Prop :=
 match xv,yv with
 | .int k a,.int k' b => match isShift op with
  | true => intVC op k a b K
  | false => chk (sameKind k k') (intVC op k a b K)
 | .string a,.string b => strVC op a b K
 | .bool a,.bool b => match P.underlying t with
  | some .bool => match op with
   | .eql => K (.bool (a == b))
   | .neq => K (.bool (!(a == b)))
   | _ => False
  | _ => False
 | .pointer p,.pointer none => match P.underlying t with
  | some (.pointer _) => match op with
   | .eql => K (.bool p.isNone)
   | .neq => K (.bool (!p.isNone))
   | _ => False
  | _ => False
 | .slice p _ _,.slice none _ _ => match P.underlying t with
  | some (.slice _) => match op with
   | .eql => K (.bool p.isNone)
   | .neq => K (.bool (!p.isNone))
   | _ => False
  | _ => False
 | .iface u v,.nilIface => match P.underlying t with
  | some (.interface _) => match op with
   | .eql => K (.bool false)
   | .neq => K (.bool true)
   | _ => False
  | _ => False
 | .nilIface,.nilIface => match P.underlying t with
  | some (.interface _) => chk (isConst x || isConst y) (match op with
   | .eql => K (.bool true)
   | .neq => K (.bool false)
   | _ => False)
  | _ => False
 | xv,yv => pureRun P .bool (do eqGuard op t x y xv yv; binOp op t xv yv) K
def evs (e : Env) : List Operand -> Option (List Value)
 | [] => some []
 | x :: r => match ev e x,evs e r with
  | some v,some vs => some (v :: vs)
  | _,_ => none
def evParts (e : Env) : List (Nat × Operand) -> Option (List (Nat × Value))
 | [] => some []
 | (i,x) :: r => match ev e x,evParts e r with
  | some v,some vs => some ((i,v) :: vs)
  | _,_ => none
def evOpt (e : Env) : Option Operand -> Option (Option Value)
 | none => some none
 | some x => match ev e x with | some v => some (some v) | none => none
def cutAt (p : Option Addr) (m l size : Nat) : Option Addr := if m = l then p else p.map (·.add (l * size))
def loV (n : Option Value) (d : Nat) (K : Int -> Prop) : Prop := match n with | none => K d | some (.int _ i) => K i | _ => False
def sliceVC (P : Program) (t : TypeId) (xv : Value) (lo hi mx : Option Value) (K : Value -> Prop) : Prop :=
 match P.underlying t,xv with
 | some (.slice e),.slice p n c => match sizeT P e with
  | some sz => chk (mx.isNone || hi.isSome) (loV mx c fun m => loV hi n fun h => loV lo 0 fun l =>
    chk (decide (0 <= l) && decide (l <= h) && decide (h <= m) && decide (m <= c))
     (K (.slice (cutAt p m.toNat l.toNat sz) (h.toNat - l.toNat) (m.toNat - l.toNat))))
  | none => False
 | some .string,.string s => match mx with
  | none => loV hi s.size fun h => loV lo 0 fun l => chk (decide (0 <= l) && decide (l <= h) && decide (h <= (s.size : Int))) (K (.string (s.extract l.toNat h.toNat)))
  | some _ => False
 | some (.array n el),.pointer p => match lo,hi,mx with
  | none,none,none => match sizeT P el with
   | some _ => onPtr p fun g o => chk (!(Nat.beq n 0)) (K (.slice (some ⟨g,o,none⟩) n n))
   | none => False
  | _,_,_ => False
 | _,_ => False
def builtinVC (P : Program) (b : Builtin) (xs : Option (List Value)) (ts : List TypeId) (K : Value -> Prop) : Prop :=
 match b,xs,ts with
 | .len,some [x],[t] => match P.underlying t,x with
  | some .string,.string s => K (.int .i64 (s.size : Int))
  | some (.slice _),.slice _ n _ => K (.int .i64 (n : Int))
  | some (.array m _),_ => K (.int .i64 (m : Int))
  | _,_ => False
 | .cap,some [x],[t] => match P.underlying t,x with
  | some (.slice _),.slice _ _ c => K (.int .i64 (c : Int))
  | _,_ => False
 | .min,some [.int k a,.int _ b],_ => K (.int k (if b < a then b else a))
 | .max,some [.int k a,.int _ b],_ => K (.int k (if b > a then b else a))
 | _,_,_ => False
def nilVC (P : Program) (v : Value) (K : Value -> Prop) : Prop :=
 match v with
 | .pointer p => onPtr p fun g o => K (.pointer (some ⟨g,o,none⟩))
 | .iface t v => K (.iface t v)
 | .func (.func f) a b => K (.func (.func f) a b)
 | .func (.method name) a b => match (a[0]? : Option Value) with
  | some (.iface t v) => (∀ w,(nilAhead (P.types.size + Made.depth) t v name).run P w = .ok (some false) w) /\ K (.func (.method name) a b)
  | _ => False
 | _ => False
def pureVC (P : Program) (e : Env) (op : Op) (K : Value -> Prop) : Prop :=
 match op with
 | .move x | .assign x => oV (ev e x) K
 | .pick c x y => match ev e c with
  | some (.bool b) => br b (oV (ev e x) K) (oV (ev e y) K)
  | _ => False
 | .nilCheck x => oV (ev e x) fun v => nilVC P v K
 | .binOp op t x y _ => match ev e x,ev e y with
  | some xv,some yv => binVC P op t x y xv yv K
  | _,_ => False
 | .unOp op _ x => match op,ev e x with
  | .not,some (.bool b) => K (.bool (!b))
  | .neg,some (.int k a) => K (.int k (k.wrap (0 - a)))
  | .xor,some (.int k a) => K (.int k (k.wrap (BitVec.ofInt k.bits (if k.signed then -1 else k.max) ^^^ BitVec.ofInt k.bits a).toNat))
  | _,_ => False
 | .convert s d x => match P.underlying s,P.underlying d,ev e x with
  | some _,some (.int k),some (.int _ a) => K (.int k (k.wrap a))
  | some _,some .string,some (.int _ a) => K (.string (Utf8.encode a))
  | some _,some .string,some (.string v) => K (.string v)
  | _,_,_ => False
 | .makeInterface t x => match P.underlying t,ev e x with
  | some (.interface _),_ => False
  | some _,some v => K (.iface t v)
  | _,_ => False
 | .makeFunc fn a b => match evs e a.toList,evs e b.toList with
  | some a,some b => K (.func fn a.toArray b.toArray)
  | _,_ => False
 | .build t ps => match evParts e ps.toList with
  | some vs => match P.built t vs with
   | some cs => K (.agg cs)
   | none => False
  | none => False
 | .slice t x lo hi mx => match ev e x,evOpt e lo,evOpt e hi,evOpt e mx with
  | some v,some lo,some hi,some mx => sliceVC P t v lo hi mx K
  | _,_,_,_ => False
 | .fieldAddr t x f => match P.underlying t,ev e x with
  | some (.struct fs),some (.pointer p) => match fs[f]? with
   | some fd => match sizeT P fd.type with
    | some (_ + 1) => onPtr p fun g o => K (.pointer (some ⟨g,o + fd.offset,none⟩))
    | _ => False
   | none => False
  | _,_ => False
 | .field t x f => match P.underlying t,ev e x with
  | some (.struct fs),some (.agg cs) => match fs[f]? with
   | some fd => match shapeT P fd.type with
    | some (ag,l) => anyVals l fun vs => rowOf cs fd.offset vs /\ K (asVal ag vs)
    | none => False
   | none => False
  | _,_ => False
 | .indexAddr t x i => match P.underlying t,ev e x,ev e i with
  | some (.array m el),some (.pointer p),some (.int _ i) => match sizeT P el with
   | some sz => chk (decide (0 <= i) && decide (i < (m : Int))) (onPtr p fun g o => K (.pointer (some ⟨g,o + i.toNat * sz,none⟩)))
   | none => False
  | some (.slice el),some (.slice p n _),some (.int _ i) => match sizeT P el with
   | some sz => chk (decide (0 <= i) && decide (i < (n : Int))) (onPtr p fun g o => K (.pointer (some ⟨g,o + i.toNat * sz,none⟩)))
   | none => False
  | _,_,_ => False
 | .index t x i => match P.underlying t,ev e x,ev e i with
  | some .string,some (.string s),some (.int _ i) => chk (decide (0 <= i) && decide (i < (s.size : Int))) (K (.int .u8 ((s.data.getD i.toNat 0).toNat : Int)))
  | some (.array m el),some (.agg cs),some (.int _ i) => match shapeT P el,sizeT P el with
   | some (ag,l),some sz => chk (decide (0 <= i) && decide (i < (m : Int))) (anyVals l fun vs => rowOf cs (i.toNat * sz) vs /\ K (asVal ag vs))
   | _,_ => False
  | _,_,_ => False
 | .extract x i => match ev e x with
  | some (.tuple vs) => oV vs[i]? K
  | _ => False
 | .call c => match c.callee with
  | .builtin b => builtinVC P b (evs e c.args.toList) c.argTypes.toList K
  | _ => False
 | _ => False
def holds (w : World) (g : Nat) : Nat -> List Value -> Prop
 | _,[] => True
 | o,[v] => w.cell? ⟨g,o,none⟩ = some v
 | o,v :: r => w.cell? ⟨g,o,none⟩ = some v /\ holds w g (o + 1) r
def holdsRow (w : World) (g o m : Nat) (cs : Array Value) : Prop := cs.size = m /\ ∀ i,i < m -> w.cell? ⟨g,o + i,none⟩ = cs[i]?
def loadVC (P : Program) (e : Env) (t : TypeId) (x : Operand) (w : World) (K : Value -> (World -> Prop) -> Prop) : Prop :=
 match P.underlying t,ev e x,sizeT P t with
 | some d,some (.pointer p),some m => onPtr p fun g o => match shapeT P t with
  | some (ag,l) => anyVals l fun vs => holds w g o vs /\ K (asVal ag vs) (fun w' => holds w' g o vs)
  | none => chk (aggr d) (∃ cs : Array Value,holdsRow w g o m cs /\ K (.agg cs) (fun w' => holdsRow w' g o m cs))
 | _,_,_ => False
def wr (w : World) (g o : Nat) : Prop := (∃ u,w.cell? ⟨g,o,none⟩ = some u) /\ w.frozen? ⟨g,o,none⟩ = false
def wrRow (w : World) (g : Nat) : Nat -> Nat -> Prop
 | _,0 => True
 | o,1 => wr w g o
 | o,m + 2 => wr w g o /\ wrRow w g (o + 1) (m + 1)
def setRow (w : World) (g : Nat) : Nat -> List Value -> World
 | _,[] => w
 | o,v :: r => setRow (w.setCell ⟨g,o,none⟩ v) g (o + 1) r
def stores (w : World) (g o : Nat) (vs : List Value) (k : World -> Prop) : Prop := wrRow w g o vs.length /\ k (setRow w g o vs)
def anyT (P : Program) (t : TypeId) (k : Value -> Prop) : Prop :=
 match kinds P 12 t,P.underlying t with
 | some l,some d => anyVals l fun vs => k (asVal (aggr d) vs)
 | none,some _ => ∃ cs : Array Value,k (.agg cs)
 | _,_ => False
def anyTs (P : Program) : List TypeId -> (List Value -> Prop) -> Prop
 | [],k => k []
 | t :: r,k => anyT P t fun v => anyTs P r fun vs => k (v :: vs)
def resVC (P : Program) (t : TypeId) (k : Value -> Prop) : Prop :=
 match P.underlying t with
 | some (.tuple ts) => anyTs P ts.toList fun vs => k (.tuple vs.toArray)
 | _ => anyT P t k
def callable (P : Program) (f : FuncId) : Bool :=
 match P.funcs[f]? with
 | some fn => fn.body.isSome && !(fn.name == "runtime.NumGoroutine")
 | none => false
def callVC (P : Program) (t : TypeId) (f : FuncId) (args : Array Value) (w : World) (K : Value -> World -> Prop) : Prop :=
 chk (callable P f) (Calls P f args w fun en w' => resVC P t fun v => en = .returned v /\ K v w')
def onFunc (v : Value) (k : FuncId -> Array Value -> Array Value -> Prop) : Prop := match v with | .func (.func g) a b => k g a b | _ => False
def onIface (v : Value) (k : TypeId -> Value -> Prop) : Prop := match v with | .iface t x => k t x | _ => False
def invokeVC (P : Program) (t : TypeId) (u : TypeId) (v : Value) (name : String) (args : Array Value) (w : World) (K : Value -> World -> Prop) : Prop :=
 ∃ (f : FuncId) (r : Value),(method (P.types.size + Made.depth) u v name).run P w = .ok (f,r) w /\ callVC P t f (#[r] ++ args) w K
def doVC (P : Program) (t : TypeId) (m : Sem Value) (w : World) (K : Value -> World -> Prop) : Prop :=
 resVC P t fun v => ∃ w',m.run P w = .ok v w' /\ Aft w w' /\ K v w'
def actVC (P : Program) (m : Sem Unit) (w : World) (K : Value -> World -> Prop) : Prop := ∃ w',m.run P w = .ok () w' /\ Aft w w' /\ K undef w'
def effVC (P : Program) (e : Env) (op : Op) (t : TypeId) (w : World) (K : Value -> World -> Prop) : Prop :=
 match op with
 | .store t x y => match sizeT P t,ev e x,ev e y with
  | some m,some (.pointer p),some v => onPtr p fun g o => chk (Nat.beq v.cells.size m) (chk (v.cells.toList.all Value.oneCell') (stores w g o v.cells.toList fun w' => K undef w'))
  | _,_,_ => False
 | .alloc t => match P.info? t with
  | some i => match i.zero with
   | some z => K (.pointer (some ⟨w.heap.size,0,none⟩)) (w.alloc (.cells z.cells t))
   | none => False
  | none => False
 | .box t x => oV (ev e x) fun v => K (.pointer (some ⟨w.heap.size,0,none⟩)) (w.alloc (.cells v.cells t))
 | .buildSlice t n ps => match P.underlying t,evParts e ps.toList with
  | some (.slice el),some vs => match P.info? el with
   | some i => match i.zero with
    | some z => match Nat.beq (n * i.size) 0,vs with
     | true,[] => K (.slice (some ⟨w.heap.size,0,none⟩) n n) (w.alloc (.cells #[] el))
     | false,[(0,.agg cs)] => chk (Nat.beq n 1 && Nat.beq cs.size i.size && Nat.ble i.size 16777216) (K (.slice (some ⟨w.heap.size,0,none⟩) n n) (w.alloc (.cells cs el)))
     | _,vs => chk (Nat.ble (n * i.size) 16777216 && !(Nat.beq (n * i.size) 0)) (match Instr.fill (fun j => some (j * i.size,i.size)) ((Array.range (n * i.size)).map (z.cells[· % z.cells.size]!)) vs with
     | some cs => K (.slice (some ⟨w.heap.size,0,none⟩) n n) (w.alloc (.cells cs el))
     | none => False)
    | none => False
   | none => False
  | _,_ => False
 | .call c => match c.callee,evs e c.args.toList with
  | .value f,some args => oV (ev e f) fun fv => onFunc fv fun g a b => callVC P t g (a ++ args.toArray ++ b) w K
  | .invoke x name,some args => oV (ev e x) fun v => onIface v fun u y => invokeVC P t u y name args.toArray w K
  | .builtin .append,some args => doVC P t (Builtin.append_ c.argTypes t args.toArray) w K
  | .builtin .copy,some args => doVC P t (Builtin.copy_ c.argTypes t args.toArray) w K
  | .builtin .delete,some args => doVC P t (Builtin.delete_ c.argTypes t args.toArray) w K
  | _,_ => False
 | .convert s d x => oV (ev e x) fun v => doVC P d (convert s d v) w K
 | .makeMap t r => match evOpt e r with
  | some r => doVC P t (Instr.makeMap t r) w K
  | none => False
 | .makeSlice t l c => match ev e l,ev e c with
  | some l,some c => doVC P t (Instr.makeSlice t l c) w K
  | _,_ => False
 | .lookup u m k ok => match ev e m,ev e k with
  | some m,some k => doVC P t (Instr.lookup u m k ok) w K
  | _,_ => False
 | .mapEntry u m k => match ev e m,ev e k with
  | some m,some k => doVC P t (Instr.mapEntry u m k) w K
  | _,_ => False
 | .entryStore u m s v => match ev e m,ev e s,ev e v with
  | some m,some s,some v => actVC P (Instr.entryStore u m s v) w K
  | _,_,_ => False
 | .mapUpdate u m k v => match ev e m,ev e k,ev e v with
  | some m,some k,some v => actVC P (Instr.mapUpdate u m k v) w K
  | _,_,_ => False
 | _ => False
def quietOp : Op -> Bool
 | .move _ | .assign _ | .pick .. | .nilCheck _ | .binOp .. | .unOp .. | .makeInterface .. | .makeFunc .. | .build .. | .slice .. | .fieldAddr .. | .field .. | .indexAddr .. | .index .. | .extract .. => true
 | .call c => match c.callee with
  | .builtin .len | .builtin .cap | .builtin .min | .builtin .max => true
  | _ => false
 | _ => false
def plainConv (P : Program) (op : Op) : Bool :=
 match op with
 | .convert s d _ => match P.underlying s,P.underlying d with
  | some (.int _),some (.int _) | some (.int _),some .string | some .string,some .string => true
  | _,_ => false
 | _ => false
def isPure (P : Program) (op : Op) : Bool := quietOp op || plainConv P op
def stepVC (P : Program) (e : Env) (op : Op) (t : TypeId) (w : World) (K : Value -> World -> Prop) : Prop :=
 match isPure P op with
 | true => pureVC P e op fun v => K v w
 | false => match op with
  | .load t x => loadVC P e t x w fun v _ => K v w
  | op => effVC P e op t w K
def guardVC (e : Env) (ops : Array Oper) (g : Option (Nat × Bool)) (yes no : Env -> Prop) : Prop :=
 match g with
 | none => yes e
 | some (j,want) => match ops[j]? with
  | some oj => match oj.dst with
   | some s => match e.get s with
    | some (.bool b) => br b ((match want with | true => yes | false => no) ((s,.bool true) :: e)) ((match want with | true => no | false => yes) ((s,.bool false) :: e))
    | some (.tuple _) => no e
    | _ => False
   | none => False
  | none => False
def opsVC (P : Program) (n : Nat) (ops : Array Oper) (K : Env -> World -> Prop) : List Oper -> Env -> World -> Prop
 | [],e,w => K e w
 | o :: r,e,w => guardVC e ops o.guard (fun e' => stepVC P e' o.op o.type w fun v w' => opsVC P n ops K r (put n e' o.dst v) w') (fun e' => opsVC P n ops K r (put n e' o.dst undef) w)
abbrev Pend := List (Nat × (World -> Prop))
def waits (o : Oper) (i : Nat) : Bool := o.after.any fun ed => Region.binds .any ed && Nat.beq ed.on i
def pendOk (o : Oper) : Pend -> World -> Prop
 | [],_ => True
 | (i,F) :: r,w => match waits o i with
  | true => pendOk o r w
  | false => F w /\ pendOk o r w
def pendKeep (o : Oper) : Pend -> Pend
 | [] => []
 | (i,F) :: r => match waits o i with
  | true => pendKeep o r
  | false => (i,F) :: pendKeep o r
def isLoad (op : Op) : Bool := match op with | .load .. => true | _ => false
def first (ops : Array Oper) (P : Program) : List Nat -> Option Nat
 | [] => none
 | i :: r => match ops[i]? with
  | some o => match isPure P o.op || isLoad o.op with
   | true => some i
   | false => first ops P r
  | none => first ops P r
def allVC (f : Nat -> Prop) : List Nat -> Prop
 | [] => True
 | [i] => f i
 | i :: r => f i /\ allVC f r
def drawVC (P : Program) (n : Nat) (ops : Array Oper) (K : Env -> World -> Prop) : Nat -> Array Bool -> Env -> Pend -> World -> Prop
 | 0,l,e,_,w => match Region.ready .any ops l with
  | [] => K e w
  | _ => False
 | f + 1,l,e,pd,w =>
  match Region.ready .any ops l with
  | [] => K e w
  | i :: r => match first ops P (i :: r) with
   | some j => match ops[j]? with
    | some o => guardVC e ops o.guard
      (fun e' => match isPure P o.op with
       | true => pureVC P e' o.op fun v => drawVC P n ops K f (l.setIfInBounds j true) (put n e' o.dst v) pd w
       | false => match o.op with
        | .load t x => loadVC P e' t x w fun v F => drawVC P n ops K f (l.setIfInBounds j true) (put n e' o.dst v) ((j,F) :: pd) w
        | _ => False)
      (fun e' => drawVC P n ops K f (l.setIfInBounds j true) (put n e' o.dst undef) pd w)
    | none => False
   | none => allVC (fun j => match ops[j]? with
    | some o => guardVC e ops o.guard
      (fun e' => effVC P e' o.op o.type w fun v w' => pendOk o pd w' /\ drawVC P n ops K f (l.setIfInBounds j true) (put n e' o.dst v) (pendKeep o pd) w')
      (fun e' => drawVC P n ops K f (l.setIfInBounds j true) (put n e' o.dst undef) pd w)
    | none => False) (i :: r)
def apartAll (ops : Array Oper) : Bool :=
 (List.range ops.size).all fun i => (List.range ops.size).all fun j =>
  match Nat.beq i j with
  | true => true
  | false => match ops[i]?,ops[j]? with
   | some oi,some oj => waits oj i || waits oi j || oi.apart ops oj
   | _,_ => true
def firstRegion : Code -> Option Nat
 | .region id _ _ => some id
 | .seq a b => match firstRegion a with | some i => some i | none => firstRegion b
 | .cond _ a b => match firstRegion a with | some i => some i | none => firstRegion b
 | .block _ b => firstRegion b
 | .loop b => firstRegion b
 | .scope b => firstRegion b
 | _ => none
def modsOps : List Oper -> List Nat
 | [] => []
 | o :: r => match o.dst with | some d => d :: modsOps r | none => modsOps r
def mods : Code -> List Nat
 | .region _ ops _ => modsOps ops.toList
 | .seq a b => mods a ++ mods b
 | .cond _ a b => mods a ++ mods b
 | .block _ b => mods b
 | .loop b => mods b
 | _ => []
def inL (l : List Nat) (t : Nat) : Bool := match l with | [] => false | s :: r => match Nat.beq s t with | true => true | false => inL r t
def Env.drop (e : Env) (l : List Nat) : Env :=
 match e with
 | [] => []
 | (s,v) :: r => match inL l s with | true => Env.drop r l | false => (s,v) :: Env.drop r l
abbrev Slots := List (Nat × Sc)
def Tup : Slots -> Type
 | [] => Unit
 | [(_,s)] => s.T
 | (_,s) :: y :: r => s.T × Tup (y :: r)
def Sc.val : (s : Sc) -> s.T -> Value
 | .bool,b => .bool b
 | .int k,n => .int k n
 | .str,s => .string s
 | .slice,(p,n,c) => .slice p n c
 | .ptr,p => .pointer p
 | .map,r => .map r
 | .other,v => v
def Sc.read (s : Sc) (v : Value) (k : s.T -> Prop) : Prop :=
 match s,v with
 | .bool,.bool b => k b
 | .int i,.int j n => chk (sameKind i j) (k n)
 | .str,.string s => k s
 | .slice,.slice p n c => k (p,n,c)
 | .ptr,.pointer p => k p
 | .map,.map r => k r
 | .other,v => k v
 | _,_ => False
def setT (e : Env) : (l : Slots) -> Tup l -> Env
 | [],_ => e
 | [(t,s)],x => (t,s.val x) :: e
 | (t,s) :: y :: r,x => (t,s.val x.1) :: setT e (y :: r) x.2
def getT (e : Env) : (l : Slots) -> (Tup l -> Prop) -> Prop
 | [],k => k ()
 | [(t,s)],k => oV (e.get t) fun v => s.read v k
 | (t,s) :: y :: r,k => oV (e.get t) fun v => s.read v fun x => getT e (y :: r) fun xs => k (x,xs)
structure Ann where
 loops : List (Nat × Slots) := []
 joins : List (Nat × Slots) := []
def find (l : List (Nat × Slots)) (k : Option Nat) : Option Slots :=
 match k with
 | none => none
 | some k => match l with
  | [] => none
  | (i,s) :: r => match Nat.beq i k with | true => some s | false => find r (some k)
def codeVC (P : Program) (n : Nat) (A : Ann) : Code -> (Exit -> Env -> World -> Prop) -> Env -> World -> Prop
 | .skip,Q,e,w => Q .normal e w
 | .region _ ops false,Q,e,w => opsVC P n ops (Q .normal) ops.toList e w
 | .region _ ops true,Q,e,w => chk (apartAll ops && Region.noSelect ops) (drawVC P n ops (Q .normal) ops.size (Array.replicate ops.size false) e [] w.drew)
 | .seq x y,Q,e,w => match find A.joins (firstRegion y) with
  | some l => codeVC P n A x (fun ex e' w' => match ex with
    | .normal => getT e' l fun t => codeVC P n A y Q (setT (e.drop (mods x)) l t) w'
    | ex => Q ex e' w') e w
  | none => codeVC P n A x (fun ex e' w' => match ex with
    | .normal => codeVC P n A y Q e' w'
    | ex => Q ex e' w') e w
 | .cond c x y,Q,e,w => match ev e c with
  | some (.bool b) => br b (codeVC P n A x Q e w) (codeVC P n A y Q e w)
  | _ => False
 | .block id c,Q,e,w => codeVC P n A c (fun ex e' w' => match ex with
   | .exit j => match Nat.beq j id with | true => Q .normal e' w' | false => Q (.exit j) e' w'
   | ex => Q ex e' w') e w
 | .loop c,Q,e,w => match find A.loops (firstRegion c) with
  | some l => ∃ (I : Tup l -> World -> Prop) (μ : Tup l -> World -> Nat),getT e l (fun t => I t w) /\
    ∀ t w',I t w' -> codeVC P n A c (fun ex e' w2 => match ex with
     | .normal => getT e' l fun t' => I t' w2 /\ μ t' w2 < μ t w'
     | ex => Q ex e' w2) (setT (e.drop (mods c)) l t) w'
  | none => False
 | .exit id,Q,e,w => Q (.exit id) e w
 | .ret,Q,e,w => Q .ret e w
 | _,_,_,_ => False
def resultsVC (P : Program) (e : Env) (w : World) : List ResultVar -> (List Value -> Prop) -> Prop
 | [],k => k []
 | .tmp t :: r,k => oV (e.get t) fun v => resultsVC P e w r fun vs => k (v :: vs)
 | .cell a t :: r,k => loadVC P e t (.tmp a) w fun v _ => resultsVC P e w r fun vs => k (v :: vs)
def packed (vs : List Value) : Value := match vs with | [v] => v | vs => .tuple vs.toArray
def argEnv : Nat -> List Value -> Env
 | _,[] => []
 | i,v :: r => (i,v) :: argEnv (i + 1) r
def fnVC (P : Program) (A : Ann) (fn : Func) (args : List Value) (w : World) (R : Value -> World -> Prop) : Prop :=
 match fn.body with
 | some c => codeVC P fn.ntmps A c (fun ex e' w' => match ex with
  | .normal | .ret => resultsVC P e' w' fn.results.toList fun vs => R (packed vs) w'
  | _ => False) (argEnv 0 args) w
 | none => False
end Vc
end Go.Proofs.YtbedadcbbnmpkaaGreatDoor
namespace Go.Proofs.YtbedadcbbnmpkaaGreatDoor
namespace Vc
open Go
section
variable {P : Program} {n : Nat} {e : Env} {a : Act}
theorem cellsOf_sizeT {t : TypeId} {m : Nat} (h : sizeT P t = some m) (w : World) : (sizeOf t).run P w = .ok m w := by
 unfold sizeT at h
 split at h
 ·rename_i i hi
  simp only [Option.some.injEq] at h
  simp [sizeOf,typeInfo,hi,h]
 ·cases h
theorem addr_add (g o i : Nat) : (⟨g,o,none⟩ : Addr).add i = ⟨g,o + i,none⟩ := by
 unfold Addr.add
 split
 ·subst i; rfl
 ·rfl
theorem evs_ok (h : Agrees n e a) : ∀ {l : List Operand} {vs : List Value},evs e l = some vs -> l.map a.eval = vs
 | [],vs,hv => by simp [evs] at hv; simp [hv]
 | x :: r,vs,hv => by
  simp only [evs] at hv
  split at hv
  ·rename_i v us hx hr
   simp only [Option.some.injEq] at hv
   subst hv
   simp [h.eval hx,evs_ok h hr]
  ·cases hv
theorem evs_arr (h : Agrees n e a) {l : Array Operand} {vs : List Value} (hv : evs e l.toList = some vs) : l.map a.eval = vs.toArray := by
 have := evs_ok h hv
 apply Array.ext'
 simpa using this
theorem evParts_ok (h : Agrees n e a) : ∀ {l : List (Nat × Operand)} {vs : List (Nat × Value)},evParts e l = some vs -> (l.map fun p => (p.1,a.eval p.2)) = vs
 | [],vs,hv => by simp [evParts] at hv; simp [hv]
 | (i,x) :: r,vs,hv => by
  simp only [evParts] at hv
  split at hv
  ·rename_i v us hx hr
   simp only [Option.some.injEq] at hv
   subst hv
   simp [h.eval hx,evParts_ok h hr]
  ·cases hv
theorem evParts_arr (h : Agrees n e a) {l : Array (Nat × Operand)} {vs : List (Nat × Value)} (hv : evParts e l.toList = some vs) :
  (l.map fun (i,x) => (i,a.eval x)) = vs.toArray := by
 have := evParts_ok h hv
 apply Array.ext'
 simpa using this
theorem evOpt_ok (h : Agrees n e a) {x : Option Operand} {v : Option Value} (hv : evOpt e x = some v) : x.map a.eval = v := by
 cases x with
 | none => simp [evOpt] at hv; simp [hv]
 | some x =>
  simp only [evOpt] at hv
  split at hv
  ·rename_i u hu
   simp only [Option.some.injEq] at hv
   subst hv
   simp [h.eval hu]
  ·cases hv
theorem intVC_ok {op : BinOp} {k : IntKind} {x y : Int} {K : Value -> Prop} (t : TypeId) (ox oy : Operand) (hs : isShift op = false) (h : intVC op k x y K) :
    ∃ v,(∀ w,(do eqGuard op t ox oy (.int k x) (.int k y); binOp op t (.int k x) (.int k y)).run P w = .ok v w) /\ K v := by
  cases op <;> simp only [intVC] at h <;> first
    | (exact h.elim)
    | (cases hs; done)
    | (refine ⟨_,fun w => ?_,h⟩; simp [eqGuard,binOp,Op.intArith,Op.intBits,Op.intCmp,BEq.beq]; done)
    | (refine ⟨_,fun w => ?_,h⟩; simp [eqGuard,binOp,Op.intCmp,bne,BEq.beq]; done)
    | (obtain ⟨h0,h⟩ := chk_out h
       refine ⟨_,fun w => ?_,h⟩
       have h0' : y ≠ 0 := by simpa using h0
       simp [eqGuard,binOp,Op.intDiv,h0']
       done)
theorem shift_ok {op : BinOp} {k k' : IntKind} {x y : Int} {K : Value -> Prop} (t : TypeId) (ox oy : Operand) (hs : isShift op = true) (h : intVC op k x y K) :
    ∃ v,(∀ w,(do eqGuard op t ox oy (.int k x) (.int k' y); binOp op t (.int k x) (.int k' y)).run P w = .ok v w) /\ K v := by
  cases op <;> first
    | (cases hs; done)
    | (simp only [intVC] at h
       obtain ⟨h0,h⟩ := chk_out h
       have h0' : ¬ y < 0 := by have : 0 <= y := by simpa using h0
                                omega
       refine ⟨_,fun w => ?_,h⟩
       simp [eqGuard,binOp,Op.shift,h0'])
theorem strVC_ok {op : BinOp} {x y : ByteArray} {K : Value -> Prop} (t : TypeId) (ox oy : Operand) (h : strVC op x y K) :
    ∃ v,(∀ w,(do eqGuard op t ox oy (.string x) (.string y); binOp op t (.string x) (.string y)).run P w = .ok v w) /\ K v := by
  cases op <;> simp only [strVC] at h <;> first
    | (exact h.elim)
    | (refine ⟨_,fun w => ?_,h⟩; simp [eqGuard,binOp,Op.stringOp]; done)
    | (obtain ⟨h0,h⟩ := chk_out h
       refine ⟨_,fun w => ?_,h⟩
       have h0' : x.size + y.size <= 9223372036854775807 := by simpa using h0
       have h1 : ¬ (((x.size + y.size : Nat) : Int) > IntKind.i64.max) := by
         have : IntKind.i64.max = 9223372036854775807 := rfl
         rw [this]; omega
       simp only [eqGuard,binOp,Op.stringOp]
       simp only [h1]
       simp)
theorem run_equal {t : TypeId} {x y : Value} {b : Bool} (h : ∀ w,(Op.equalIn (9999 + 1) t x y).run P w = .ok b w) (w : World) : (Op.equal t x y).run P w = .ok b w := h w
theorem eq_bool {t : TypeId} (hu : P.underlying t = some .bool) (x y : Bool) (w : World) : (Op.equal t (.bool x) (.bool y)).run P w = .ok (x == y) w :=
 run_equal (fun w => by unfold Op.equalIn; simp [run_underlying hu]) w
theorem eq_ptr {t el : TypeId} (hu : P.underlying t = some (.pointer el)) (p : Option Addr) (w : World) : (Op.equal t (.pointer p) (.pointer none)).run P w = .ok p.isNone w :=
 run_equal (fun w => by unfold Op.equalIn; cases p <;> simp [run_underlying hu]) w
theorem eq_slice {t el : TypeId} (hu : P.underlying t = some (.slice el)) (p : Option Addr) (n c n' c' : Nat) (w : World) : (Op.equal t (.slice p n c) (.slice none n' c')).run P w = .ok p.isNone w :=
 run_equal (fun w => by unfold Op.equalIn; cases p <;> simp [run_underlying hu]) w
theorem eq_iface {t : TypeId} {ms : Array (String × TypeId)} (hu : P.underlying t = some (.interface ms)) (u : TypeId) (v : Value) (w : World) : (Op.equal t (.iface u v) .nilIface).run P w = .ok false w :=
 run_equal (fun w => by unfold Op.equalIn; simp [run_underlying hu]) w
theorem guard_plain {op : BinOp} {t : TypeId} {ox oy : Operand} {x y : Value} (h1 : x ≠ .nilIface) (h2 : ∀ c,x ≠ .agg c) (w : World) : (eqGuard op t ox oy x y).run P w = .ok () w := by
 cases op <;> cases x <;> first
  | exact absurd rfl h1
  | exact absurd rfl (h2 _)
  | simp [eqGuard]
theorem bin_eql {t : TypeId} {ox oy : Operand} {x y : Value} {b : Bool} (h1 : x ≠ .nilIface) (h2 : ∀ c,x ≠ .agg c) (hb : ∀ w,(binOp .eql t x y).run P w = .ok (.bool b) w) (w : World) :
  (do eqGuard .eql t ox oy x y; binOp .eql t x y).run P w = .ok (.bool b) w := by
 simp only [Sem.run_bind,guard_plain h1 h2,Result.andThen_ok,hb]
theorem bin_neq {t : TypeId} {ox oy : Operand} {x y : Value} {b : Bool} (h1 : x ≠ .nilIface) (h2 : ∀ c,x ≠ .agg c) (hb : ∀ w,(binOp .neq t x y).run P w = .ok (.bool b) w) (w : World) :
  (do eqGuard .neq t ox oy x y; binOp .neq t x y).run P w = .ok (.bool b) w := by
 simp only [Sem.run_bind,guard_plain h1 h2,Result.andThen_ok,hb]
theorem binVC_ok {op : BinOp} {t : TypeId} {ox oy : Operand} {xv yv : Value} {K : Value -> Prop} (h : binVC P op t ox oy xv yv K) :
  ∃ v,(∀ w,(do eqGuard op t ox oy xv yv; binOp op t xv yv).run P w = .ok v w) /\ K v := by
 unfold binVC at h
 split at h
 ·rename_i k x k' y
  split at h
  ·rename_i hs; exact shift_ok t ox oy hs h
  ·rename_i hs
   obtain ⟨hk,h2⟩ := chk_out h
   have := sameKind_eq hk
   subst this
   exact intVC_ok t ox oy hs h2
 ·exact strVC_ok t ox oy h
 ·rename_i x y
  split at h
  ·rename_i hu
   split at h
   ·exact ⟨_,bin_eql (by simp) (by simp) (fun w => by unfold binOp; simp [eq_bool hu]),h⟩
   ·exact ⟨_,bin_neq (by simp) (by simp) (fun w => by unfold binOp; simp [eq_bool hu]),h⟩
   ·exact h.elim
  ·exact h.elim
 ·rename_i p
  split at h
  ·rename_i el hu
   split at h
   ·exact ⟨_,bin_eql (by simp) (by simp) (fun w => by unfold binOp; simp [eq_ptr hu]),h⟩
   ·exact ⟨_,bin_neq (by simp) (by simp) (fun w => by unfold binOp; simp [eq_ptr hu]),h⟩
   ·exact h.elim
  ·exact h.elim
 ·rename_i p _ _ _ _
  split at h
  ·rename_i el hu
   split at h
   ·exact ⟨_,bin_eql (by simp) (by simp) (fun w => by unfold binOp; simp [eq_slice hu]),h⟩
   ·exact ⟨_,bin_neq (by simp) (by simp) (fun w => by unfold binOp; simp [eq_slice hu]),h⟩
   ·exact h.elim
  ·exact h.elim
 ·split at h
  ·rename_i hu
   split at h
   ·exact ⟨_,bin_eql (by simp) (by simp) (fun w => by unfold binOp; simp [eq_iface hu]),h⟩
   ·exact ⟨_,bin_neq (by simp) (by simp) (fun w => by unfold binOp; simp [eq_iface hu]),h⟩
   ·exact h.elim
  ·exact h.elim
 ·split at h
  ·rename_i hu
   obtain ⟨hc,h⟩ := chk_out h
   have hg : ∀ op w,(eqGuard op t ox oy .nilIface .nilIface).run P w = .ok () w := fun op w => by
    cases op <;> cases ox <;> cases oy <;> first
     | (simp [eqGuard]; done)
     | exact absurd hc (by simp [isConst])
   have he : ∀ w,(Op.equal t .nilIface .nilIface).run P w = .ok true w := run_equal (fun w => by unfold Op.equalIn; simp [run_underlying hu])
   split at h
   ·exact ⟨_,fun w => by simp only [Sem.run_bind,hg,Result.andThen_ok]; unfold binOp; simp [he],h⟩
   ·exact ⟨_,fun w => by simp only [Sem.run_bind,hg,Result.andThen_ok]; unfold binOp; simp [he],h⟩
   ·exact h.elim
  ·exact h.elim
 ·obtain ⟨v,hr,hk⟩ := anyOf_out h
  exact ⟨v,hr,hk⟩
theorem shapeT_out {t : TypeId} {g : Bool} {l : List Sc} (h : shapeT P t = some (g,l)) : ∃ d m,P.underlying t = some d /\ g = aggr d /\ sizeT P t = some m /\ l.length = m /\ (g = false -> l.length = 1) := by
 unfold shapeT at h
 split at h
 ·rename_i l' d m hk hu hm
  split at h
  ·rename_i hb
   simp only [Option.some.injEq,Prod.mk.injEq] at h
   obtain ⟨rfl,rfl⟩ := h
   refine ⟨d,m,hu,rfl,hm,Nat.eq_of_beq_eq_true hb,fun hg => ?_⟩
   simp only [kinds,hu] at hk
   cases d <;> first
    | (simp [aggr] at hg; done)
    | (simp only [Option.some.injEq] at hk; rw [<- hk]; rfl)
  ·cases h
 ·cases h
theorem isAgg_run {t : TypeId} {d : TypeDesc} (h : P.underlying t = some d) (w : World) : (isAgg t).run P w = .ok (aggr d) w := by
 cases d <;> simp [isAgg,run_underlying h,aggr]
theorem one_of_length {vs : List Value} (h : vs.length = 1) : ∃ v,vs = [v] := by
 match vs,h with
 | [v],_ => exact ⟨v,rfl⟩
theorem part_ok {t : TypeId} {g : Bool} {l : List Sc} {vs : List Value} {cs : Array Value} {off : Nat} (hs : shapeT P t = some (g,l)) (hl : vs.length = l.length)
  (hc : ∀ j v,vs[j]? = some v -> cs[off + j]? = some v) (w : World) : (part t cs off).run P w = .ok (asVal g vs) w := by
 obtain ⟨d,m,hu,hg,hm,hlm,h1⟩ := shapeT_out hs
 unfold part
 cases hgd : aggr d with
 | true =>
  rw [hgd] at hg
  subst hg
  simp only [Sem.run_bind,isAgg_run hu,hgd,Result.andThen_ok,if_true,cellsOf_sizeT hm,Sem.run_pure,asVal]
  congr 2
  apply Array.ext'
  apply List.ext_getElem?
  intro j
  have hsz : ∀ j,j < vs.length -> off + j < cs.size := fun j hj => by
   have := hc j _ (List.getElem?_eq_getElem hj)
   exact (Array.getElem?_eq_some_iff.1 this).1
  by_cases hj : j < vs.length
  ·have h2 := hc j _ (List.getElem?_eq_getElem hj)
   simp only [Array.getElem?_toList]
   rw [Array.getElem?_extract]
   have : j < min (off + m) cs.size - off := by
    have h3 := hsz (vs.length - 1) (by omega)
    omega
   rw [if_pos this,h2]
   simp [List.getElem?_eq_getElem hj]
  ·simp only [Array.getElem?_toList]
   rw [Array.getElem?_extract]
   have : ¬ j < min (off + m) cs.size - off := by omega
   rw [if_neg this]
   simp [List.getElem?_eq_none (Nat.le_of_not_lt hj)]
 | false =>
  rw [hgd] at hg
  subst hg
  obtain ⟨v,rfl⟩ := one_of_length (hl.trans (h1 rfl))
  have h2 := hc 0 v rfl
  simp only [Nat.add_zero] at h2
  simp [isAgg_run hu,hgd,h2,asVal]
theorem fieldPlace_ok {fd : Field} {g o m : Nat} (hm : sizeT P fd.type = some (m + 1)) (w : World) : (fieldPlace ⟨g,o,none⟩ fd).run P w = .ok ⟨g,o + fd.offset,none⟩ w := by
 simp [fieldPlace,cellsOf_sizeT hm,addr_add]
theorem loV_out {x : Option Value} {d : Nat} {K : Int -> Prop} (h : loV x d K) : (x = none /\ K d) \/ ∃ k i,x = some (.int k i) /\ K i := by
 unfold loV at h
 split at h
 ·exact .inl ⟨rfl,h⟩
 ·exact .inr ⟨_,_,rfl,h⟩
 ·exact h.elim
theorem bound_ok {k : IntKind} {i : Int} {y : Nat} {c : BoundsCode} (h0 : 0 <= i) (h1 : i <= (y : Int)) (w : World) : (Instr.sliceBound (.int k i) y c).run P w = .ok i.toNat w := by
 simp [Instr.sliceBound,asIntOf,h0,h1]
theorem bounds_ok {s : Bool} {n c : Nat} {lo hi mx : Option Value} {l h m : Int} (hl : (lo = none /\ l = 0) \/ ∃ k,lo = some (.int k l)) (hh : (hi = none /\ h = n /\ mx = none) \/ ∃ k,hi = some (.int k h))
  (hm : (mx = none /\ m = c) \/ ∃ k,mx = some (.int k m)) (h0 : 0 <= l) (h1 : l <= h) (h2 : h <= m) (h3 : m <= c) (w : World) :
  (Instr.sliceBounds s n c lo hi mx).run P w = .ok (l.toNat,h.toNat,m.toNat) w := by
 have em : (m.toNat : Int) = m := by omega
 have eh : (h.toNat : Int) = h := by omega
 rcases hm with ⟨rfl,rfl⟩ | ⟨km,rfl⟩
 ·rcases hh with ⟨rfl,rfl,_⟩ | ⟨kh,rfl⟩
  ·rcases hl with ⟨rfl,rfl⟩ | ⟨kl,rfl⟩
   ·simp [Instr.sliceBounds]
   ·simp [Instr.sliceBounds,bound_ok h0 h1]
  ·rcases hl with ⟨rfl,rfl⟩ | ⟨kl,rfl⟩
   ·simp [Instr.sliceBounds,bound_ok (show 0 <= h by omega) h2]
   ·simp [Instr.sliceBounds,bound_ok (show 0 <= h by omega) h2,bound_ok h0 (show l <= (h.toNat : Int) by omega)]
 ·rcases hh with ⟨rfl,rfl,hx⟩ | ⟨kh,rfl⟩
  ·cases hx
  ·rcases hl with ⟨rfl,rfl⟩ | ⟨kl,rfl⟩
   ·simp [Instr.sliceBounds,bound_ok (show 0 <= m by omega) h3,bound_ok (show 0 <= h by omega) (show h <= (m.toNat : Int) by omega)]
   ·simp [Instr.sliceBounds,bound_ok (show 0 <= m by omega) h3,bound_ok (show 0 <= h by omega) (show h <= (m.toNat : Int) by omega),bound_ok h0 (show l <= (h.toNat : Int) by omega)]
theorem slice_ok {t el : TypeId} {p : Option Addr} {n c sz : Nat} {lo hi mx : Option Value} {l h m : Int} (hu : P.underlying t = some (.slice el)) (hsz : sizeT P el = some sz)
  (hl : (lo = none /\ l = 0) \/ ∃ k,lo = some (.int k l)) (hh : (hi = none /\ h = n /\ mx = none) \/ ∃ k,hi = some (.int k h))
  (hm : (mx = none /\ m = c) \/ ∃ k,mx = some (.int k m)) (hb : (decide (0 <= l) && decide (l <= h) && decide (h <= m) && decide (m <= (c : Int))) = true) (w : World) :
  (Instr.sliceAt t (.slice p n c) lo hi mx).run P w = .ok (.slice (cutAt p m.toNat l.toNat sz) (h.toNat - l.toNat) (m.toNat - l.toNat)) w := by
 simp only [Bool.and_eq_true,decide_eq_true_eq] at hb
 simp only [Instr.sliceAt,Sem.run_bind,run_underlying hu,Result.andThen_ok,Instr.slice]
 rw [bounds_ok hl hh hm hb.1.1.1 hb.1.1.2 hb.1.2 hb.2]
 simp [cellsOf_sizeT hsz,cutAt]
theorem sliceStr_ok {t : TypeId} {s : ByteArray} {lo hi : Option Value} {l h : Int} (hu : P.underlying t = some .string)
  (hl : (lo = none /\ l = 0) \/ ∃ k,lo = some (.int k l)) (hh : (hi = none /\ h = (s.size : Nat)) \/ ∃ k,hi = some (.int k h))
  (hb : (decide (0 <= l) && decide (l <= h) && decide (h <= (s.size : Int))) = true) (w : World) :
  (Instr.sliceAt t (.string s) lo hi none).run P w = .ok (.string (s.extract l.toNat h.toNat)) w := by
 simp only [Bool.and_eq_true,decide_eq_true_eq] at hb
 simp only [Instr.sliceAt,Sem.run_bind,run_underlying hu,Result.andThen_ok,Instr.slice]
 simp only [Option.isSome_none,Bool.false_eq_true,if_false,Sem.run_bind,Sem.run_pure,Result.andThen_ok]
 rw [bounds_ok (m := s.size) hl (by rcases hh with ⟨a,b⟩ | a; exact .inl ⟨a,b,rfl⟩; exact .inr a) (.inl ⟨rfl,rfl⟩) hb.1.1 hb.1.2 hb.2 (Int.le_refl _)]
 simp
theorem sliceVC_ok {t : TypeId} {x : Value} {lo hi mx : Option Value} {K : Value -> Prop} (h : sliceVC P t x lo hi mx K) :
  ∃ v,(∀ w,(Instr.sliceAt t x lo hi mx).run P w = .ok v w) /\ K v := by
 unfold sliceVC at h
 split at h
 ·rename_i el p n c hu
  split at h
  ·rename_i sz hsz
   obtain ⟨hmh,h1⟩ := chk_out h
   clear h
   rcases loV_out h1 with ⟨em,h2⟩ | ⟨km,m,em,h2⟩ <;> clear h1 <;> rcases loV_out h2 with ⟨eh,h3⟩ | ⟨kh,hh,eh,h3⟩ <;> clear h2 <;> rcases loV_out h3 with ⟨el',h4⟩ | ⟨kl,l,el',h4⟩ <;> clear h3 <;>
    obtain ⟨hb,hk⟩ := chk_out h4 <;> subst em <;> subst eh <;> subst el' <;> first
     | (simp at hmh; done)
     | exact ⟨_,slice_ok hu hsz (by first | exact .inl ⟨rfl,rfl⟩ | exact .inr ⟨_,rfl⟩) (by first | exact .inl ⟨rfl,rfl,rfl⟩ | exact .inr ⟨_,rfl⟩) (by first | exact .inl ⟨rfl,rfl⟩ | exact .inr ⟨_,rfl⟩) hb,hk⟩
  ·exact h.elim
 ·rename_i s hu
  split at h
  ·rcases loV_out h with ⟨eh,h3⟩ | ⟨kh,hh,eh,h3⟩ <;> clear h <;> rcases loV_out h3 with ⟨el',h4⟩ | ⟨kl,l,el',h4⟩ <;> clear h3 <;>
    obtain ⟨hb,hk⟩ := chk_out h4 <;> subst eh <;> subst el' <;>
     exact ⟨_,sliceStr_ok hu (by first | exact .inl ⟨rfl,rfl⟩ | exact .inr ⟨_,rfl⟩) (by first | exact .inl ⟨rfl,rfl⟩ | exact .inr ⟨_,rfl⟩) hb,hk⟩
  ·exact h.elim
 ·rename_i n el p hu
  split at h
  ·split at h
   ·rename_i sz hsz
    obtain ⟨g,o,rfl,h2⟩ := onPtr_out h
    obtain ⟨hb,hk⟩ := chk_out h2
    have hn : n ≠ 0 := by
     intro h0; subst h0; simp at hb
    exact ⟨_,fun w => by simp [Instr.sliceAt,run_underlying hu,Instr.sureAddr,Instr.sliceBounds,cellsOf_sizeT hsz,hn,addr_add],hk⟩
   ·exact h.elim
  ·exact h.elim
 ·exact h.elim
theorem builtin_ok {b : Builtin} {args : Array Operand} {ts : Array TypeId} {K : Value -> Prop} (h : Agrees n e a)
  (hv : builtinVC P b (evs e args.toList) ts.toList K) : ∃ v,(∀ (type : TypeId) (cs : Array Bool) w,(builtin b ts type cs (args.map a.eval)).run P w = .ok (.value v) w) /\ K v := by
 unfold builtinVC at hv
 split at hv
 ·rename_i x t hx ht
  have hargs := evs_arr h hx
  obtain ⟨ts⟩ := ts
  simp only at ht
  subst ht
  split at hv
  ·rename_i s hu; exact ⟨_,fun _ _ w => by simp [builtin,hargs,Builtin.len_,run_underlying hu,goInt],hv⟩
  ·rename_i el p m c hu; exact ⟨_,fun _ _ w => by simp [builtin,hargs,Builtin.len_,run_underlying hu,goInt],hv⟩
  ·rename_i m el hu; exact ⟨_,fun _ _ w => by simp [builtin,hargs,Builtin.len_,run_underlying hu,goInt],hv⟩
  ·exact hv.elim
 ·rename_i x t hx ht
  have hargs := evs_arr h hx
  obtain ⟨ts⟩ := ts
  simp only at ht
  subst ht
  split at hv
  ·rename_i el p m c hu; exact ⟨_,fun _ _ w => by simp [builtin,hargs,Builtin.cap_,run_underlying hu,goInt],hv⟩
  ·exact hv.elim
 ·rename_i k x k' y hx
  have hargs := evs_arr h hx
  exact ⟨_,fun _ _ w => by simp [builtin,hargs,Builtin.min_,Builtin.min2],hv⟩
 ·rename_i k x k' y hx
  have hargs := evs_arr h hx
  exact ⟨_,fun _ _ w => by simp [builtin,hargs,Builtin.max_,Builtin.max2],hv⟩
 ·exact hv.elim
theorem pure_ok {dst : Option Tmp} {op : Op} {type : TypeId} {pos : String} {after : Array Edge} {guard : Option (Nat × Bool)} {K : Value -> Prop}
  (h : Agrees n e a) (hv : pureVC P e op K) :
  ∃ v,(∀ w,(execOp a.eval { dst,op,type,pos,after,guard }).run P w = .ok (.value v) w) /\ K v := by
 cases op <;> simp only [pureVC] at hv <;> try exact hv.elim
 case move x => obtain ⟨v,hx,hk⟩ := oV_out hv; exact ⟨v,fun w => by simp [execOp,h.eval hx],hk⟩
 case assign x => obtain ⟨v,hx,hk⟩ := oV_out hv; exact ⟨v,fun w => by simp [execOp,h.eval hx],hk⟩
 case pick c x y =>
  split at hv
  ·rename_i b hb
   cases b with
   | true => obtain ⟨v,hx,hk⟩ := oV_out hv; exact ⟨v,fun w => by simp [execOp,h.eval hx,h.eval hb,asBool],hk⟩
   | false => obtain ⟨v,hx,hk⟩ := oV_out hv; exact ⟨v,fun w => by simp [execOp,h.eval hx,h.eval hb,asBool],hk⟩
  ·exact hv.elim
 case nilCheck x =>
  obtain ⟨u,hp,hv⟩ := oV_out hv
  unfold nilVC at hv
  split at hv
  ·obtain ⟨g,o,rfl,hk⟩ := onPtr_out hv
   exact ⟨_,fun w => by simp [execOp,h.eval hp],hk⟩
  ·exact ⟨_,fun w => by simp [execOp,h.eval hp],hv⟩
  ·exact ⟨_,fun w => by simp [execOp,h.eval hp],hv⟩
  ·split at hv
   ·rename_i t v hx
    obtain ⟨hr,hk⟩ := hv
    exact ⟨_,fun w => by simp only [execOp,h.eval hp,hx]; simp [hr w],hk⟩
   ·exact hv.elim
  ·exact hv.elim
 case binOp op t x y yt =>
  split at hv
  ·rename_i xv yv hx hy
   obtain ⟨v,hr,hk⟩ := binVC_ok hv
   exact ⟨v,fun w => by have := hr w; simp only [execOp,h.eval hx,h.eval hy] at this ⊢; simp only [Sem.run_bind] at this ⊢; simp [this],hk⟩
  ·exact hv.elim
 case unOp op t x =>
  split at hv
  ·rename_i b hb; exact ⟨_,fun w => by simp [execOp,h.eval hb,Op.unary],hv⟩
  ·rename_i k c hc; exact ⟨_,fun w => by simp [execOp,h.eval hc,Op.unary,Op.intArith],hv⟩
  ·rename_i k c hc; exact ⟨_,fun w => by simp [execOp,h.eval hc,Op.unary,Op.intBits],hv⟩
  ·exact hv.elim
 case convert s d x =>
  split at hv
  ·rename_i u k k' c hs hd hx; exact ⟨_,fun w => by cases u <;> simp [execOp,h.eval hx,convert,run_underlying hs,run_underlying hd,Conv.intToInt],hv⟩
  ·rename_i u k c hs hd hx; exact ⟨_,fun w => by cases u <;> simp [execOp,h.eval hx,convert,run_underlying hs,run_underlying hd,Conv.intToString],hv⟩
  ·rename_i u c hs hd hx; exact ⟨_,fun w => by cases u <;> simp [execOp,h.eval hx,convert,run_underlying hs,run_underlying hd],hv⟩
  ·exact hv.elim
 case makeInterface t x =>
  split at hv
  ·exact hv.elim
  ·rename_i d v hni hu hx
   exact ⟨_,fun w => by cases d <;> first | (exact (hni _ rfl).elim) | simp [execOp,h.eval hx,Instr.makeInterface,run_underlying hu],hv⟩
  ·exact hv.elim
 case makeFunc fn x y =>
  split at hv
  ·rename_i xs ys hx hy; exact ⟨_,fun w => by simp [execOp,evs_arr h hx,evs_arr h hy,Instr.makeFunc],hv⟩
  ·exact hv.elim
 case build t ps =>
  split at hv
  ·rename_i vs hvs
   split at hv
   ·rename_i cs hcs
    refine ⟨_,fun w => ?_,hv⟩
    have hb := run_build (P := P) w t vs.toArray cs (by simpa using hcs)
    simp only [execOp,evParts_arr h hvs]
    simp [hb]
   ·exact hv.elim
  ·exact hv.elim
 case slice t x lo hi mx =>
  split at hv
  ·rename_i v lov hiv mxv hx hlo hhi hmx
   obtain ⟨u,hr,hk⟩ := sliceVC_ok hv
   exact ⟨u,fun w => by have := hr w; simp [execOp,h.eval hx,evOpt_ok h hlo,evOpt_ok h hhi,evOpt_ok h hmx,this],hk⟩
  ·exact hv.elim
 case fieldAddr t x f =>
  split at hv
  ·rename_i fs p hu hx
   split at hv
   ·rename_i fd hf
    split at hv
    ·rename_i m hm
     obtain ⟨g,o,rfl,hk⟩ := onPtr_out hv
     exact ⟨_,fun w => by simp [execOp,h.eval hx,Instr.fieldAt,run_underlying hu,hf,Instr.sureAddr,fieldPlace_ok hm],hk⟩
    ·exact hv.elim
   ·exact hv.elim
  ·exact hv.elim
 case field t x f =>
  split at hv
  ·rename_i fs cs hu hx
   split at hv
   ·rename_i fd hf
    split at hv
    ·rename_i ag l hs
     obtain ⟨vs,hl,hc,hk⟩ := anyVals_out hv
     exact ⟨_,fun w => by simp [execOp,h.eval hx,Instr.field,run_underlying hu,hf,asAgg,part_ok hs hl (rowOf_out hc)],hk⟩
    ·exact hv.elim
   ·exact hv.elim
  ·exact hv.elim
 case indexAddr t x i =>
  split at hv
  ·rename_i m el p k i hu hx hi
   split at hv
   ·rename_i sz hsz
    obtain ⟨hb,hv⟩ := chk_out hv
    obtain ⟨g,o,rfl,hk⟩ := onPtr_out hv
    simp only [Bool.and_eq_true,decide_eq_true_eq] at hb
    exact ⟨_,fun w => by simp [execOp,h.eval hx,h.eval hi,Instr.indexAt,asIntOf,run_underlying hu,Instr.sureAddr,hb.1,hb.2,cellsOf_sizeT hsz,addr_add],hk⟩
   ·exact hv.elim
  ·rename_i el p m c k i hu hx hi
   split at hv
   ·rename_i sz hsz
    obtain ⟨hb,hv⟩ := chk_out hv
    obtain ⟨g,o,rfl,hk⟩ := onPtr_out hv
    simp only [Bool.and_eq_true,decide_eq_true_eq] at hb
    exact ⟨_,fun w => by simp [execOp,h.eval hx,h.eval hi,Instr.indexAt,asIntOf,run_underlying hu,hb.1,hb.2,cellsOf_sizeT hsz,addr_add],hk⟩
   ·exact hv.elim
  ·exact hv.elim
 case index t x i =>
  split at hv
  ·rename_i s k i hu hx hi
   obtain ⟨hb,hk⟩ := chk_out hv
   simp only [Bool.and_eq_true,decide_eq_true_eq] at hb
   have hlt : i.toNat < s.size := by omega
   refine ⟨_,fun w => ?_,hk⟩
   have h1 : s[i.toNat]? = some (s.data.getD i.toNat 0) := by
    have : s[i.toNat]? = some s[i.toNat] := by simp [hlt]
    rw [this]
    have hd : i.toNat < s.data.size := hlt
    have hd2 : s.data.getD i.toNat 0 = s.data[i.toNat] := by unfold Array.getD; rw [dif_pos hd]; rfl
    rw [hd2]
    rfl
   simp [execOp,h.eval hx,h.eval hi,Instr.index,asIntOf,run_underlying hu,hb.1,h1]
  ·rename_i m el cs k i hu hx hi
   split at hv
   ·rename_i ag l sz hs hsz
    obtain ⟨hb,hv⟩ := chk_out hv
    simp only [Bool.and_eq_true,decide_eq_true_eq] at hb
    obtain ⟨vs,hl,hc,hk⟩ := anyVals_out hv
    refine ⟨_,fun w => ?_,hk⟩
    have hp := part_ok (P := P) (cs := cs) (off := i.toNat * sz) hs hl (rowOf_out hc) w
    simp [execOp,h.eval hx,h.eval hi,Instr.index,asIntOf,run_underlying hu,hb.1,hb.2,cellsOf_sizeT hsz,hp]
   ·exact hv.elim
  ·exact hv.elim
 case extract x i =>
  split at hv
  ·rename_i vs hx
   obtain ⟨v,hi,hk⟩ := oV_out hv
   exact ⟨v,fun w => by simp [execOp,h.eval hx,Instr.extract,hi],hk⟩
  ·exact hv.elim
 case call c =>
  obtain ⟨callee,args,argTypes⟩ := c
  cases callee <;> simp only at hv <;> try exact hv.elim
  case builtin b =>
   obtain ⟨v,hr,hk⟩ := builtin_ok h hv
   exact ⟨v,fun w => by simp [execOp,resolve,invoke,hr],hk⟩
theorem holds_iff (w : World) (g : Nat) : ∀ (vs : List Value) (o : Nat),holds w g o vs ↔ ∀ j v,vs[j]? = some v -> w.cell? ⟨g,o + j,none⟩ = some v
 | [],o => by simp [holds]
 | [v],o => by
  simp only [holds]
  constructor
  ·intro h j u hj
   cases j with
   | zero => simp at hj; subst hj; exact h
   | succ j => simp at hj
  ·intro h; exact h 0 v rfl
 | v :: u :: r,o => by
  simp only [holds]
  rw [holds_iff w g (u :: r) (o + 1)]
  constructor
  ·rintro ⟨h0,h1⟩ j x hj
   cases j with
   | zero => simp at hj; subst hj; exact h0
   | succ j => have := h1 j x (by simpa using hj); rwa [Nat.add_assoc,Nat.add_comm 1 j] at this
  ·intro h
   exact ⟨h 0 v rfl,fun j x hj => by have := h (j + 1) x (by simpa using hj); rwa [Nat.add_assoc,Nat.add_comm 1 j]⟩
theorem load_run {t : TypeId} {ag : Bool} {l : List Sc} {vs : List Value} {g o : Nat} {w : World} (hs : shapeT P t = some (ag,l)) (hl : vs.length = l.length) (h : holds w g o vs) :
  (loadVar t ⟨g,o,none⟩).run P w = .ok (asVal ag vs) w := by
 obtain ⟨d,m,hu,hg,hm,hlm,h1⟩ := shapeT_out hs
 rw [holds_iff] at h
 unfold loadVar
 cases hgd : aggr d with
 | true =>
  rw [hgd] at hg
  subst hg
  have := run_loadCells_list (P := P) w ⟨g,o,none⟩ vs (fun j v hv => by rw [addr_add]; exact h j v hv)
  simp only [Sem.run_bind,isAgg_run hu,hgd,Result.andThen_ok,if_true,cellsOf_sizeT hm]
  rw [<- hlm,<- hl,this]
  rfl
 | false =>
  rw [hgd] at hg
  subst hg
  obtain ⟨v,rfl⟩ := one_of_length (hl.trans (h1 rfl))
  have h2 := h 0 v rfl
  simp only [Nat.add_zero] at h2
  simp [isAgg_run hu,hgd,h2,asVal]
theorem loadRow_run {t : TypeId} {d : TypeDesc} {m : Nat} {cs : Array Value} {g o : Nat} {w : World} (hu : P.underlying t = some d) (hd : aggr d = true) (hm : sizeT P t = some m) (h : holdsRow w g o m cs) :
  (loadVar t ⟨g,o,none⟩).run P w = .ok (.agg cs) w := by
 have := run_loadCells_list (P := P) w ⟨g,o,none⟩ cs.toList (fun j v hv => by
  rw [addr_add]
  have hj : j < m := by
   rw [<- h.1]
   simpa using (List.getElem?_eq_some_iff.1 hv).1
  rw [h.2 j hj]
  simpa using hv)
 unfold loadVar
 simp only [Sem.run_bind,isAgg_run hu,hd,Result.andThen_ok,if_true,cellsOf_sizeT hm]
 rw [<- h.1]
 simp only [Array.length_toList] at this
 rw [this]
 rfl
theorem load_ok {dst : Option Tmp} {t type : TypeId} {x : Operand} {pos : String} {after : Array Edge} {guard : Option (Nat × Bool)} {w : World} {K : Value -> (World -> Prop) -> Prop}
  (h : Agrees n e a) (hv : loadVC P e t x w K) :
  ∃ v F,F w /\ (∀ w',F w' -> (execOp a.eval { dst,op := .load t x,type,pos,after,guard }).run P w' = .ok (.value v) w') /\ K v F := by
 unfold loadVC at hv
 split at hv
 ·rename_i d p m hu hx hm
  obtain ⟨g,o,rfl,hv⟩ := onPtr_out hv
  split at hv
  ·rename_i ag l hs
   obtain ⟨vs,hl,hc,hk⟩ := anyVals_out hv
   refine ⟨_,_,hc,fun w' hw' => ?_,hk⟩
   simp [execOp,h.eval hx,Instr.loadAt,Instr.sureAddr,load_run hs hl hw']
  ·obtain ⟨hd,cs,hr,hk⟩ := chk_out hv
   refine ⟨_,_,hr,fun w' hw' => ?_,hk⟩
   simp [execOp,h.eval hx,Instr.loadAt,Instr.sureAddr,loadRow_run hu hd hm hw']
 ·exact hv.elim
theorem wr_set {w : World} {g o : Nat} (h : wr w g o) (p : Addr) (v : Value) : wr (w.setCell p v) g o := by
 obtain ⟨⟨u,hu⟩,hf⟩ := h
 refine ⟨?_,by rw [World.frozen?_setCell]; exact hf⟩
 by_cases hp : p = ⟨g,o,none⟩
 ·subst hp; exact ⟨v,World.cell?_setCell_same w _ _ hu⟩
 ·exact ⟨u,by rw [World.cell?_setCell_other w p _ v hp]; exact hu⟩
theorem wrRow_iff {w : World} {g : Nat} : ∀ (m o : Nat),wrRow w g o m ↔ ∀ j,j < m -> wr w g (o + j)
  | 0,o => by simp [wrRow]
  | 1,o => by
    simp only [wrRow]
    exact ⟨fun h j hj => by obtain rfl : j = 0 := by omega
                            exact h,fun h => h 0 (by omega)⟩
  | m + 2,o => by
    simp only [wrRow]
    rw [wrRow_iff (m + 1) (o + 1)]
    constructor
    · rintro ⟨h0,h1⟩ j hj
      cases j with
      | zero => exact h0
      | succ j => have := h1 j (by omega); rwa [Nat.add_assoc,Nat.add_comm 1 j] at this
    · intro h
      exact ⟨h 0 (by omega),fun j hj => by have := h (j + 1) (by omega); rwa [Nat.add_assoc,Nat.add_comm 1 j]⟩
theorem storeCells_ok {g o : Nat} : ∀ (vs : List Value) (i : Nat) (w : World),(∀ j,j < vs.length -> wr w g (o + i + j)) -> (∀ v ∈ vs,v.oneCell' = true) ->
  (storeCells ⟨g,o,none⟩ vs i).run P w = .ok () (setRow w g (o + i) vs)
 | [],i,w,_,_ => by simp [storeCells,setRow]
 | v :: r,i,w,h,h1 => by
  obtain ⟨⟨u,hu⟩,hf⟩ := h 0 (by simp)
  simp only [Nat.add_zero] at hu hf
  have hr := run_store P w ⟨g,o + i,none⟩ v .plain (h1 v (by simp))
  simp only [hu,hf,Bool.false_eq_true,if_false] at hr
  simp only [storeCells,Sem.run_bind,addr_add,hr,Result.andThen_ok,setRow]
  rw [storeCells_ok r (i + 1) (w.setCell ⟨g,o + i,none⟩ v) (fun j hj => by
   have := wr_set (h (j + 1) (by simp; omega)) ⟨g,o + i,none⟩ v
   rwa [show o + (i + 1) + j = o + i + (j + 1) by omega]) (fun x hx => h1 x (by simp [hx]))]
  rfl
theorem anyT_out {t : TypeId} {k : Value -> Prop} (h : anyT P t k) : ∃ v,k v := by
 unfold anyT at h
 split at h
 ·obtain ⟨vs,_,h⟩ := anyVals_out h; exact ⟨_,h⟩
 ·obtain ⟨cs,h⟩ := h; exact ⟨_,h⟩
 ·exact h.elim
theorem anyTs_out : ∀ {l : List TypeId} {k : List Value -> Prop},anyTs P l k -> ∃ vs,k vs
 | [],_,h => ⟨[],h⟩
 | _ :: _,_,h => by
  obtain ⟨v,h⟩ := anyT_out h
  obtain ⟨vs,h⟩ := anyTs_out h
  exact ⟨_,h⟩
theorem resVC_out {t : TypeId} {k : Value -> Prop} (h : resVC P t k) : ∃ v,k v := by
 unfold resVC at h
 split at h
 ·obtain ⟨vs,h⟩ := anyTs_out h; exact ⟨_,h⟩
 ·exact anyT_out h
theorem callable_run {f : FuncId} {args : Array Value} (h : callable P f = true) (w : World) : (callFunc f args).run P w = .ok (.enter f args) w := by
 unfold callable at h
 split at h
 ·rename_i fn hf
  simp only [Bool.and_eq_true,Bool.not_eq_true'] at h
  have hb : ¬ fn.body = none := by
   intro hb
   rw [hb] at h
   simp at h
  have hn : ¬ fn.name = "runtime.NumGoroutine" := by simpa using h.2
  simp [callFunc,hf,hn,hb]
 ·cases h
def Acts (P : Program) (o : Oper) (a : Act) (w : World) (K : Value -> World -> Prop) : Prop :=
 ∀ (next : Act -> World -> Prop) (Q : Exit -> Act -> World -> Prop),(∀ v w',K v w' -> next (a.put o.dst v) w') -> o.wp P a w next Q
theorem Acts.of_value {o : Oper} {w w' : World} {v : Value} {K : Value -> World -> Prop} (hr : (execOp a.eval o).run P w = .ok (.value v) w') (hk : K v w') : Acts P o a w K := by
 intro next Q hn
 unfold Oper.wp
 rw [hr]
 exact hn v w' hk
theorem Acts.of_skip {o : Oper} {w w' : World} {K : Value -> World -> Prop} (hr : (execOp a.eval o).run P w = .ok .skip w') (hk : K undef w') : Acts P o a w K := by
 intro next Q hn
 unfold Oper.wp
 rw [hr]
 exact hn undef w' hk
theorem Acts.of_call {o : Oper} {w : World} {f : FuncId} {args : Array Value} {t : TypeId} {K : Value -> World -> Prop} (hr : (execOp a.eval o).run P w = .ok (.enter f args) w)
  (hk : Calls P f args w fun en w' => resVC P t fun v => en = .returned v /\ K v w') : Acts P o a w fun v w' => K v w' /\ Aft w w' := by
 intro next Q hn
 unfold Oper.wp
 rw [hr]
 refine _root_.Go.Calls.mono hk fun en w' h => ?_
 obtain ⟨h,ha⟩ := h
 obtain ⟨v,rfl,hk⟩ := resVC_out h
 exact hn v w' ⟨hk,ha⟩
theorem aft_setRow {g : Nat} : ∀ (vs : List Value) (o : Nat) (w : World),Aft w (setRow w g o vs)
 | [],_,w => Aft.refl w
 | v :: r,o,w => (⟨rfl,rfl⟩ : Aft w (w.setCell ⟨g,o,none⟩ v)).trans (aft_setRow r (o + 1) _)
theorem foldl_set (cs : List Value) : ∀ (k : Nat) (z : Array Value),k + cs.length = z.size ->
  (cs.zipIdx k).foldl (fun a p => a.setIfInBounds p.2 p.1) z = (z.toList.take k ++ cs).toArray := by
 induction cs with
 | nil => intro k z h; simp at h; subst h; apply Array.ext'; simp [<- Array.length_toList]
 | cons c r ih =>
  intro k z h
  simp only [List.zipIdx_cons,List.foldl_cons]
  simp only [List.length_cons] at h
  rw [ih (k + 1) _ (by simp; omega)]
  apply Array.ext'
  have hk : k < z.toList.length := by simp; omega
  have : (z.toList.set k c).take (k + 1) = z.toList.take k ++ [c] := by
   rw [List.take_succ_eq_append_getElem (by simp; omega)]
   simp [List.take_set_of_le]
  simp [this]
theorem fill_whole (cs : Array Value) (n : Nat) (hn : cs.size = n) (z : Array Value) (hz : z.size = n) : Instr.fill (fun j => some (j * n,n)) z [(0,Value.agg cs)] = some cs := by
 simp only [Instr.fill,Value.cells,Nat.zero_mul,Nat.zero_add]
 have := foldl_set cs.toList 0 z (by simp [hn,hz])
 simp only [hn,hz,ne_eq,not_true_eq_false,decide_false,gt_iff_lt,Nat.lt_irrefl,Bool.or_self,Bool.false_eq_true,if_false,Option.some.injEq]
 rw [<- Array.foldl_toList]
 simp only [Array.toList_zipIdx]
 rw [this]
 simp
theorem eff_ok {dst : Option Tmp} {op : Op} {type : TypeId} {pos : String} {after : Array Edge} {guard : Option (Nat × Bool)} {w : World} {K : Value -> World -> Prop}
  (h : Agrees n e a) (hv : effVC P e op type w K) : Acts P { dst,op,type,pos,after,guard } a w fun v w' => K v w' /\ Aft w w' := by
 cases op <;> simp only [effVC] at hv <;> try exact hv.elim
 case store t x y =>
  split at hv
  ·rename_i m p v hm hx hy
   obtain ⟨g,o,rfl,hv⟩ := onPtr_out hv
   obtain ⟨hb,hv⟩ := chk_out hv
   obtain ⟨h1,hw,hk⟩ := chk_out hv
   have hsz : v.cells.size = m := Nat.eq_of_beq_eq_true hb
   rw [wrRow_iff] at hw
   have hs := storeCells_ok (P := P) (g := g) (o := o) v.cells.toList 0 w (fun j hj => by rw [Nat.add_zero]; exact hw j hj) (fun u hu => List.all_eq_true.1 h1 u hu)
   refine Acts.of_skip ?_ ⟨hk,aft_setRow _ _ _⟩
   simp [execOp,h.eval hx,h.eval hy,Instr.storeAt,Instr.sureAddr,storeVar,cellsOf_sizeT hm,hsz,hs]
  ·exact hv.elim
 case alloc t =>
  split at hv
  ·rename_i i hi
   split at hv
   ·rename_i z hz
    refine Acts.of_value ?_ ⟨hv,rfl,rfl⟩
    simp [execOp,Instr.alloc,zeroValue,typeInfo,hi,hz,newVar,newRow]
   ·exact hv.elim
  ·exact hv.elim
 case box t x =>
  obtain ⟨v,hx,hk⟩ := oV_out hv
  refine Acts.of_value ?_ ⟨hk,rfl,rfl⟩
  simp [execOp,h.eval hx,Instr.box,newVar,newRow]
 case buildSlice t m ps =>
  split at hv
  ·rename_i el vs hu hps
   split at hv
   ·rename_i i hi
    split at hv
    ·rename_i z hz
     split at hv
     ·rename_i hb
      have h0 : m * i.size = 0 := Nat.eq_of_beq_eq_true hb
      refine Acts.of_value ?_ ⟨hv,rfl,rfl⟩
      simp only [execOp,evParts_arr h hps]
      have hz0 : ∀ f : Nat -> Value,(Array.range 0).map f = #[] := fun f => by apply Array.ext'; simp
      simp [Instr.buildSlice,run_underlying hu,sizeOf,typeInfo,hi,h0,Instr.fill,newRow,hz0]
     ·rename_i cs hb0
      obtain ⟨hb,hv⟩ := chk_out hv
      simp only [Bool.and_eq_true] at hb
      obtain ⟨⟨hm1,hcs⟩,hle⟩ := hb
      have hm1 : m = 1 := Nat.eq_of_beq_eq_true hm1
      have hcs : cs.size = i.size := Nat.eq_of_beq_eq_true hcs
      have hle : i.size <= 16777216 := Nat.le_of_ble_eq_true hle
      have hne : ¬ i.size = 0 := by
       intro h0; subst hm1; rw [h0] at hb0; simp at hb0
      refine Acts.of_value ?_ ⟨hv,rfl,rfl⟩
      have hr := run_buildSlice (P := P) w t el m [(0,Value.agg cs)].toArray cs i z hu hi hz (by rw [hm1]; omega) (by rw [hm1]; omega) (by
       subst hm1
       simp only [Nat.one_mul]
       have := fill_whole cs i.size hcs ((Array.range i.size).map (z.cells[· % z.cells.size]!)) (by simp)
       simpa using this)
      simp only [execOp,evParts_arr h hps]
      simp [hr]
     ·rename_i vs _ _ _ _
      obtain ⟨hb,hv⟩ := chk_out hv
      simp only [Bool.and_eq_true,Bool.not_eq_true'] at hb
      have h1 : ¬ m * i.size > 2 ^ 24 := by have := Nat.le_of_ble_eq_true hb.1; omega
      have h2 : ¬ m * i.size = 0 := by
       intro h0; rw [h0] at hb; simp at hb
      split at hv
      ·rename_i cs hcs
       refine Acts.of_value ?_ ⟨hv,rfl,rfl⟩
       have hr := run_buildSlice (P := P) w t el m vs.toArray cs i z hu hi hz h1 h2 (by simpa using hcs)
       simp only [execOp,evParts_arr h hps]
       simp [hr]
      ·exact hv.elim
    ·exact hv.elim
   ·exact hv.elim
  ·exact hv.elim
 case call c =>
  obtain ⟨callee,args,argTypes⟩ := c
  simp only at hv
  split at hv
  ·rename_i f vs hargs
   obtain ⟨fv,hf,hv⟩ := oV_out hv
   unfold onFunc at hv
   split at hv
   ·rename_i g x y
    obtain ⟨hc,hv⟩ := chk_out hv
    refine Acts.of_call ?_ hv
    simp [execOp,resolve,h.eval hf,evs_arr h hargs,Deferred.ofValue,invoke,callable_run hc]
   ·exact hv.elim
  ·rename_i x name vs hargs
   obtain ⟨v,hx,hv⟩ := oV_out hv
   unfold onIface at hv
   split at hv
   ·rename_i u y
    obtain ⟨f,r,hm,hv⟩ := hv
    obtain ⟨hc,hv⟩ := chk_out hv
    refine Acts.of_call ?_ hv
    simp [execOp,resolve,h.eval hx,evs_arr h hargs,invoke,callMethod,hm,callable_run hc]
   ·exact hv.elim
  ·rename_i vs hargs
   obtain ⟨v,w',hr,ha,hk⟩ := resVC_out hv
   refine Acts.of_value (w' := w') (v := v) ?_ ⟨hk,ha⟩
   simp [execOp,resolve,invoke,builtin,evs_arr h hargs,hr]
  ·rename_i vs hargs
   obtain ⟨v,w',hr,ha,hk⟩ := resVC_out hv
   refine Acts.of_value (w' := w') (v := v) ?_ ⟨hk,ha⟩
   simp [execOp,resolve,invoke,builtin,evs_arr h hargs,hr]
  ·rename_i vs hargs
   obtain ⟨v,w',hr,ha,hk⟩ := resVC_out hv
   refine Acts.of_value (w' := w') (v := v) ?_ ⟨hk,ha⟩
   simp [execOp,resolve,invoke,builtin,evs_arr h hargs,hr]
  ·exact hv.elim
 case convert s d x =>
  obtain ⟨v,hx,hv⟩ := oV_out hv
  obtain ⟨u,w',hr,ha,hk⟩ := resVC_out hv
  exact Acts.of_value (by simp [execOp,h.eval hx,hr]) ⟨hk,ha⟩
 case makeMap t r =>
  split at hv
  ·rename_i r' hr'
   obtain ⟨u,w',hr,ha,hk⟩ := resVC_out hv
   exact Acts.of_value (by simp [execOp,evOpt_ok h hr',hr]) ⟨hk,ha⟩
  ·exact hv.elim
 case makeSlice t l c =>
  split at hv
  ·rename_i lv cv hl hc
   obtain ⟨u,w',hr,ha,hk⟩ := resVC_out hv
   exact Acts.of_value (by simp [execOp,h.eval hl,h.eval hc,hr]) ⟨hk,ha⟩
  ·exact hv.elim
 case lookup u m k ok =>
  split at hv
  ·rename_i mv kv hm hk
   obtain ⟨v,w',hr,ha,hk⟩ := resVC_out hv
   exact Acts.of_value (by simp [execOp,h.eval hm,h.eval (by assumption),hr]) ⟨hk,ha⟩
  ·exact hv.elim
 case mapEntry u m k =>
  split at hv
  ·rename_i mv kv hm hk
   obtain ⟨v,w',hr,ha,hk⟩ := resVC_out hv
   exact Acts.of_value (by simp [execOp,h.eval hm,h.eval (by assumption),hr]) ⟨hk,ha⟩
  ·exact hv.elim
 case entryStore u m s v =>
  split at hv
  ·rename_i mv sv vv hm hs hv'
   obtain ⟨w',hr,ha,hk⟩ := hv
   exact Acts.of_skip (by simp [execOp,h.eval hm,h.eval hs,h.eval hv',hr]) ⟨hk,ha⟩
  ·exact hv.elim
 case mapUpdate u m k v =>
  split at hv
  ·rename_i mv kv vv hm hk' hv'
   obtain ⟨w',hr,ha,hk⟩ := hv
   exact Acts.of_skip (by simp [execOp,h.eval hm,h.eval hk',h.eval hv',hr]) ⟨hk,ha⟩
  ·exact hv.elim
end
end Vc
end Go.Proofs.YtbedadcbbnmpkaaGreatDoor
namespace Go.Proofs.YtbedadcbbnmpkaaGreatDoor
namespace Vc
open Go
section
variable {P : Program} {n : Nat} {e : Env} {a : Act} {ops : Array Oper} {Q : Exit -> Act -> World -> Prop}
theorem slot_of_getD {t : Array Value} {s : Nat} {b : Bool} (h : t.getD s undef = .bool b) : t[s]? = some (.bool b) := by
 simp only [Array.getD_eq_getD_getElem?] at h
 cases hs : t[s]? with
 | none => rw [hs] at h; cases h
 | some v => rw [hs] at h; simp only [Option.getD_some] at h; rw [h]
theorem guard_cases (h : Agrees n e a) {o : Oper} {yes no : Env -> Prop} (hv : guardVC e ops o.guard yes no) :
  (∃ e',Agrees n e' a /\ yes e' /\ Region.wanted o (yielded ops a.tmps) = true) \/ (∃ e',Agrees n e' a /\ no e' /\ Region.wanted o (yielded ops a.tmps) = false) := by
 unfold guardVC at hv
 cases hg : o.guard with
 | none => rw [hg] at hv; exact .inl ⟨e,h,hv,by simp [Region.wanted,hg]⟩
 | some gw =>
  obtain ⟨j,want⟩ := gw
  rw [hg] at hv
  simp only at hv
  cases hj : ops[j]? with
  | none => rw [hj] at hv; exact hv.elim
  | some oj =>
   rw [hj] at hv
   simp only at hv
   cases hd : oj.dst with
   | none => rw [hd] at hv; exact hv.elim
   | some s =>
    rw [hd] at hv
    simp only at hv
    cases hs : e.get s with
    | none => rw [hs] at hv; exact hv.elim
    | some v =>
     rw [hs] at hv
     have hgd := h.get s v hs
     cases v <;> simp only at hv <;> try exact hv.elim
     case bool b =>
      have hy : yielded ops a.tmps j = some b := by
       simp [yielded,hj,hd,slot_of_getD hgd]
      have hw : Region.wanted o (yielded ops a.tmps) = (b == want) := by
       simp [Region.wanted,hg,hy]
      cases b <;> cases want <;> simp only [br] at hv <;> simp at hw
      ·exact .inl ⟨_,h.know hgd,hv,hw⟩
      ·exact .inr ⟨_,h.know hgd,hv,hw⟩
      ·exact .inr ⟨_,h.know hgd,hv,hw⟩
      ·exact .inl ⟨_,h.know hgd,hv,hw⟩
     case tuple vs =>
      refine .inr ⟨e,h,hv,?_⟩
      have hy : yielded ops a.tmps j = none := by
       unfold yielded
       simp only [hj,Option.bind_some,hd]
       cases ht : a.tmps[s]? with
       | none => rfl
       | some u =>
        simp only [Array.getD_eq_getD_getElem?,ht,Option.getD_some] at hgd
        subst hgd; rfl
      simp [Region.wanted,hg,hy]
def Same (l : List Nat) (a a' : Act) : Prop := ∀ t,inL l t = false -> a'.tmps.getD t undef = a.tmps.getD t undef
theorem inL_iff : ∀ (l : List Nat) (t : Nat),inL l t = true ↔ t ∈ l
 | [],t => by simp [inL]
 | s :: l,t => by
  simp only [inL]
  cases hb : Nat.beq s t with
  | true => simp only [true_iff]; rw [Nat.eq_of_beq_eq_true hb]; simp
  | false =>
   simp only
   rw [inL_iff l t]
   have : t ≠ s := by intro h; subst h; simp [Nat.beq_refl] at hb
   simp [this]
theorem inL_false {l : List Nat} {t : Nat} : inL l t = false ↔ t ∉ l := by
 rw [<- inL_iff]; cases inL l t <;> simp
theorem Same.refl (l : List Nat) (a : Act) : Same l a a := fun _ _ => rfl
theorem Same.put {l : List Nat} {a a' : Act} (h : Same l a a') {d : Option Tmp} (hd : ∀ t,d = some t -> t ∈ l) (v : Value) : Same l a (a'.put d v) := by
 intro t ht
 rw [<- h t ht]
 cases d with
 | none => rfl
 | some d =>
  have hne : d ≠ t := fun he => inL_false.1 ht (he ▸ hd d rfl)
  simp only [Act.put,Array.getD_eq_getD_getElem?]
  rw [Array.getElem?_setIfInBounds_ne hne]
theorem Same.trans {l : List Nat} {a b c : Act} (h : Same l a b) (h' : Same l b c) : Same l a c := fun t ht => (h' t ht).trans (h t ht)
theorem Same.mono {l l' : List Nat} {a b : Act} (h : Same l a b) (hl : ∀ t ∈ l,t ∈ l') : Same l' a b :=
 fun t ht => h t (inL_false.2 fun hm => inL_false.1 ht (hl t hm))
theorem modsOps_cons (x : Oper) (r : List Oper) : modsOps (x :: r) = x.dst.toList ++ modsOps r := by
 simp only [modsOps]; cases x.dst <;> rfl
theorem modsOps_mem {l : List Oper} {o : Oper} (ho : o ∈ l) (t : Nat) (ht : o.dst = some t) : t ∈ modsOps l := by
 induction l with
 | nil => cases ho
 | cons x r ih =>
  rw [modsOps_cons,List.mem_append]
  cases ho with
  | head => left; rw [ht]; simp
  | tail _ ho => right; exact ih ho
theorem Acts.wp' {o : Oper} {w : World} {K : Value -> World -> Prop} (h : Acts P o a w K) {next : Act -> World -> Prop} (hn : ∀ v w',K v w' -> next (a.put o.dst v) w') : o.wp P a w next Q := h next Q hn
theorem wp_of_value {o : Oper} {w : World} {v : Value} {next : Act -> World -> Prop} (hr : (execOp a.eval o).run P w = .ok (.value v) w) (hn : next (a.put o.dst v) w) : o.wp P a w next Q := by
 unfold Oper.wp; rw [hr]; exact hn
theorem load_cases (op : Op) : (∃ t x,op = .load t x) \/ ∀ t x,op ≠ .load t x := by
 cases op <;> first | (exact .inl ⟨_,_,rfl⟩) | (right; intro _ _ h; cases h)
theorem opsVC_ok {K : Env -> World -> Prop} {M : List Nat} {a0 : Act} {w0 : World} (hK : ∀ e a w,Agrees n e a -> Same M a0 a /\ Aft w0 w -> K e w -> Q .normal a w) :
  ∀ (l : List Oper) (e : Env) (a : Act) (w : World),(∀ o ∈ l,∀ t,o.dst = some t -> t ∈ M) -> Agrees n e a -> Same M a0 a -> Aft w0 w -> opsVC P n ops K l e w -> wpList P ops Q l a w
 | [],e,a,w,_,h,hs,hf,hv => hK e a w h ⟨hs,hf⟩ hv
 | o :: r,e,a,w,hm,h,hs,hf,hv => by
  have ih := opsVC_ok (K := K) (M := M) (a0 := a0) (w0 := w0) hK r
  have hmr : ∀ o ∈ r,∀ t,o.dst = some t -> t ∈ M := fun o ho => hm o (List.mem_cons_of_mem _ ho)
  have hmo := hm o List.mem_cons_self
  simp only [opsVC] at hv
  simp only [wpList]
  rcases guard_cases (ops := ops) h hv with ⟨e',h',hv,hw⟩ | ⟨e',h',hv,hw⟩
  ·rw [if_pos hw]
   refine .inl ?_
   obtain ⟨dst,op,type,pos,after,guard⟩ := o
   simp only at hv hmo
   unfold stepVC at hv
   cases hp : isPure P op with
   | true =>
    rw [hp] at hv
    obtain ⟨v,hr,hk⟩ := pure_ok (dst := dst) (type := type) (pos := pos) (after := after) (guard := guard) h' hv
    exact wp_of_value (hr w) (ih _ _ _ hmr (h'.put dst v) (hs.put hmo v) hf hk)
   | false =>
    rw [hp] at hv
    rcases load_cases op with ⟨t,x,rfl⟩ | hno
    ·simp only at hv
     obtain ⟨v,F,hF,hr,hk⟩ := load_ok (dst := dst) (type := type) (pos := pos) (after := after) (guard := guard) h' hv
     exact wp_of_value (hr w hF) (ih _ _ _ hmr (h'.put dst v) (hs.put hmo v) hf hk)
    ·have hv' : effVC P e' op type w fun v w' => opsVC P n ops K r (put n e' dst v) w' := by
      cases op <;> first | exact hv | exact absurd rfl (hno _ _)
     exact Acts.wp' (eff_ok h' hv') fun v w' hk => ih _ _ _ hmr (h'.put dst v) (hs.put hmo v) (hf.trans hk.2) hk.1
  ·rw [if_neg (by rw [hw]; simp)]
   exact ih _ _ _ hmr (h'.put o.dst undef) (hs.put hmo undef) hf hv
def wpAnyP (P : Program) (ops : Array Oper) (Q : Exit -> Act -> World -> Prop) : Nat -> Array Bool -> Pend -> Act -> World -> Prop
 | 0,l,_,a,w => Region.ready .any ops l = [] /\ Q .normal a w
 | f + 1,l,pd,a,w => (Region.ready .any ops l = [] -> Q .normal a w) /\
   ∀ i ∈ Region.ready .any ops l,∀ o,ops[i]? = some o -> wpOp P ops Q i (fun a' w' => pendOk o pd w' /\ wpAnyP P ops Q f (l.setIfInBounds i true) (pendKeep o pd) a' w') a w
theorem wpAny_of_P : ∀ (f : Nat) (l : Array Bool) (pd : Pend) (a : Act) (w : World),wpAnyP P ops Q f l pd a w -> wpAny P .any ops Q f l a w
 | 0,_,_,_,_,h => h
 | f + 1,l,pd,_,_,h => ⟨h.1,fun i hi => by
   obtain ⟨_,o,ho,_⟩ := mem_ready.1 hi
   exact wpOp_mono (fun a' w' h' => wpAny_of_P f _ _ a' w' h'.2) (h.2 i hi o ho)⟩
theorem pendOk_iff (o : Oper) (w : World) : ∀ (pd : Pend),pendOk o pd w ↔ ∀ x ∈ pd,waits o x.1 = false -> x.2 w
 | [] => by simp [pendOk]
 | (i,F) :: r => by
  simp only [pendOk]
  cases hw : waits o i with
  | true =>
   simp only [pendOk_iff o w r,List.mem_cons]
   constructor
   ·rintro h x (rfl | hx) hn
    ·rw [hw] at hn; cases hn
    ·exact h x hx hn
   ·exact fun h x hx hn => h x (.inr hx) hn
  | false =>
   simp only [pendOk_iff o w r,List.mem_cons]
   constructor
   ·rintro ⟨hF,h⟩ x (rfl | hx) hn
    ·exact hF
    ·exact h x hx hn
   ·exact fun h => ⟨h _ (.inl rfl) hw,fun x hx hn => h x (.inr hx) hn⟩
theorem mem_pendKeep (o : Oper) (x : Nat × (World -> Prop)) : ∀ (pd : Pend),x ∈ pendKeep o pd ↔ x ∈ pd /\ waits o x.1 = false
 | [] => by simp [pendKeep]
 | (i,F) :: r => by
  simp only [pendKeep]
  cases hw : waits o i with
  | true =>
   simp only [mem_pendKeep o x r,List.mem_cons]
   constructor
   ·rintro ⟨hx,hn⟩; exact ⟨.inr hx,hn⟩
   ·rintro ⟨rfl | hx,hn⟩
    ·rw [hw] at hn; cases hn
    ·exact ⟨hx,hn⟩
  | false =>
   simp only [List.mem_cons,mem_pendKeep o x r]
   constructor
   ·rintro (rfl | ⟨hx,hn⟩)
    ·exact ⟨.inl rfl,hw⟩
    ·exact ⟨.inr hx,hn⟩
   ·rintro ⟨rfl | hx,hn⟩
    ·exact .inl rfl
    ·exact .inr ⟨hx,hn⟩
theorem wpAnyP_mono : ∀ (f : Nat) (l : Array Bool) (pd pd' : Pend) (a : Act) (w : World),(∀ x ∈ pd',x ∈ pd \/ ∀ w,x.2 w) -> wpAnyP P ops Q f l pd a w -> wpAnyP P ops Q f l pd' a w
 | 0,_,_,_,_,_,_,h => h
 | f + 1,l,pd,pd',a,w,hp,h => ⟨h.1,fun i hi o ho => wpOp_mono (fun a' w' h' => by
   refine ⟨(pendOk_iff o w' pd').2 fun x hx hn => ?_,wpAnyP_mono f _ (pendKeep o pd) _ a' w' (fun x hx => ?_) h'.2⟩
   ·rcases hp x hx with hx | hx
    ·exact (pendOk_iff o w' pd).1 h'.1 x hx hn
    ·exact hx w'
   ·obtain ⟨hx,hn⟩ := (mem_pendKeep o x pd').1 hx
    rcases hp x hx with hx | hx
    ·exact .inl ((mem_pendKeep o x pd).2 ⟨hx,hn⟩)
    ·exact .inr hx) (h.2 i hi o ho)⟩
def Held (pd : Pend) (w : World) : Prop := ∀ x ∈ pd,x.2 w
theorem Held.ok {pd : Pend} {w : World} (h : Held pd w) (o : Oper) : pendOk o pd w := (pendOk_iff o w pd).2 fun x hx _ => h x hx
theorem Held.keep {pd : Pend} {w : World} {o : Oper} (h : pendOk o pd w) : Held (pendKeep o pd) w := fun x hx => by
 obtain ⟨hx,hn⟩ := (mem_pendKeep o x pd).1 hx
 exact (pendOk_iff o w pd).1 h x hx hn
theorem waits_false {o : Oper} {i : Nat} : waits o i = false ↔ ∀ e ∈ o.after,Region.binds .any e = true -> e.on ≠ i := by
 unfold waits
 rw [Array.any_eq_false']
 constructor
 ·intro h e he hb heq
  have := h e he
  simp [hb,heq,Nat.beq_refl] at this
 ·intro h e he
  have := h e he
  cases hb : Region.binds .any e
  ·simp
  ·have hne := this hb
   simp only [Bool.true_and]
   intro hc
   exact hne (Nat.eq_of_beq_eq_true hc)
theorem ready_waits {l : Array Bool} {i j : Nat} {o : Oper} (hi : i ∈ Region.ready .any ops l) (ho : ops[i]? = some o) (hj : j ∈ Region.ready .any ops l) : waits o j = false := by
 obtain ⟨_,o',ho',hall⟩ := mem_ready.1 hi
 obtain rfl : o = o' := by rw [ho] at ho'; exact Option.some.inj ho'
 refine waits_false.2 fun e he hb heq => ?_
 have h1 := hall e he hb
 have h0 := (mem_ready.1 hj).1
 rw [heq] at h1
 rcases Nat.lt_or_ge j l.size with h' | h'
 ·simp [h'] at h0 h1; rw [h0] at h1; cases h1
 ·simp [Array.getElem?_eq_none h'] at h1
theorem wpAnyP_first {i : Nat} {oi : Oper} {v : Value} {F : World -> Prop} (hi : ops[i]? = some oi) (hsel : Region.noSelect ops = true) (hQ : ∀ c a a' w,Q (.panic c) a w -> Q (.panic c) a' w)
  (hfree : ∀ j oj,ops[j]? = some oj -> j ≠ i -> waits oi j = false -> waits oj i = false -> oi.apart ops oj = true) :
  ∀ (f : Nat) (l : Array Bool) (pd : Pend) (a : Act) (w : World),i ∈ Region.ready .any ops l -> YieldsIf P ops F oi v a -> F w -> Held pd w ->
   wpAnyP P ops Q f (l.setIfInBounds i true) ((i,F) :: pd) (a.put oi.dst v) w -> wpAnyP P ops Q (f + 1) l pd a w := by
 intro f
 induction f with
 | zero =>
  intro l pd a w hr hy hF hpd H
  refine ⟨fun h => (by rw [h] at hr; cases hr),fun j hj oj hoj => ?_⟩
  by_cases hji : j = i
  ·subst hji
   obtain rfl : oj = oi := by rw [hoj] at hi; exact Option.some.inj hi
   exact hy.wpOp hi hF ⟨hpd.ok _,H⟩
  ·have := ready_mono hj hji
   rw [H.1] at this
   cases this
 | succ f ih =>
  intro l pd a w hr hy hF hpd H
  refine ⟨fun h => (by rw [h] at hr; cases hr),fun j hj oj hoj => ?_⟩
  by_cases hji : j = i
  ·subst hji
   obtain rfl : oj = oi := by rw [hoj] at hi; exact Option.some.inj hi
   refine hy.wpOp hi hF ⟨hpd.ok _,wpAnyP_mono _ _ _ _ _ _ (fun x hx => .inl ?_) H⟩
   exact List.mem_cons_of_mem _ ((mem_pendKeep _ x pd).1 hx).1
  ·have h1 := H.2 j (ready_mono hj hji) oj hoj
   have hnot : waits oj i = false := ready_waits hj hoj hr
   have h2 := wpOp_putIf hoj (hfree j oj hoj hji (ready_waits hr hi hj) hnot) (fun cs b => Region.noSelect_spec hsel i oi cs b hi) (fun cs b => Region.noSelect_spec hsel j oj cs b hoj) (fun c a w => hQ c _ _ w) hy h1
   refine wpOp_mono (fun a' w' h3 => ?_) h2
   obtain ⟨hy',hp,hrest⟩ := h3
   have hFp : F w' /\ pendOk oj pd w' := by simpa [pendOk,hnot] using hp
   have hkeep : pendKeep oj ((i,F) :: pd) = (i,F) :: pendKeep oj pd := by simp [pendKeep,hnot]
   rw [hkeep,Array.setIfInBounds_comm _ _ (Ne.symm hji)] at hrest
   exact ⟨hFp.2,ih (l.setIfInBounds j true) _ a' w' (ready_mono hr (Ne.symm hji)) hy' hFp.1 (Held.keep hFp.2) hrest⟩
theorem first_out : ∀ {l : List Nat} {j : Nat},first ops P l = some j -> j ∈ l /\ ∃ o,ops[j]? = some o /\ (isPure P o.op || isLoad o.op) = true
 | [],_,h => by cases h
 | i :: r,j,h => by
  simp only [first] at h
  cases ho : ops[i]? with
  | none =>
   rw [ho] at h
   obtain ⟨hm,hx⟩ := first_out h
   exact ⟨List.mem_cons_of_mem _ hm,hx⟩
  | some o =>
   rw [ho] at h
   simp only at h
   cases hb : isPure P o.op || isLoad o.op with
   | true =>
    rw [hb] at h
    simp only [Option.some.injEq] at h
    subst h
    exact ⟨List.mem_cons_self,o,ho,hb⟩
   | false =>
    rw [hb] at h
    obtain ⟨hm,hx⟩ := first_out h
    exact ⟨List.mem_cons_of_mem _ hm,hx⟩
theorem allVC_out {f : Nat -> Prop} : ∀ {l : List Nat},allVC f l -> ∀ i ∈ l,f i
 | [],_,i,hi => by cases hi
 | [j],h,i,hi => by
  obtain rfl : i = j := by simpa using hi
  exact h
 | j :: k :: r,h,i,hi => by
  rcases List.mem_cons.1 hi with rfl | hi
  ·exact h.1
  ·exact allVC_out h.2 i hi
theorem apartAll_out (h : apartAll ops = true) {i j : Nat} {oi oj : Oper} (hi : ops[i]? = some oi) (hj : ops[j]? = some oj) (hne : j ≠ i) (hw : waits oi j = false) (hw' : waits oj i = false) : oi.apart ops oj = true := by
 unfold apartAll at h
 rw [List.all_eq_true] at h
 have h1 := h i (List.mem_range.2 (Array.getElem?_eq_some_iff.1 hi).1)
 rw [List.all_eq_true] at h1
 have h2 := h1 j (List.mem_range.2 (Array.getElem?_eq_some_iff.1 hj).1)
 have hb : Nat.beq i j = false := by
  cases hb : Nat.beq i j
  ·rfl
  ·exact absurd (Nat.eq_of_beq_eq_true hb).symm hne
 rw [hb] at h2
 simp only [hi,hj,hw,hw',Bool.false_or] at h2
 exact h2
theorem drawVC_ok (hap : apartAll ops = true) (hsel : Region.noSelect ops = true) (hQ : ∀ c a a' w,Q (.panic c) a w -> Q (.panic c) a' w) {K : Env -> World -> Prop} {M : List Nat} {a0 : Act} {w0 : World}
  (hM : ∀ o ∈ ops.toList,∀ t,o.dst = some t -> t ∈ M) (hK : ∀ e a w,Agrees n e a -> Same M a0 a /\ Aft w0 w -> K e w -> Q .normal a w) :
  ∀ (f : Nat) (l : Array Bool) (e : Env) (pd : Pend) (a : Act) (w : World),Agrees n e a -> Same M a0 a -> Aft w0 w -> Held pd w -> drawVC P n ops K f l e pd w -> wpAnyP P ops Q f l pd a w := by
 intro f
 induction f with
 | zero =>
  intro l e pd a w h hs hf hpd hv
  simp only [drawVC] at hv
  split at hv
  ·rename_i hr; exact ⟨hr,hK e a w h ⟨hs,hf⟩ hv⟩
  ·exact hv.elim
 | succ f ih =>
  intro l e pd a w h hs hf hpd hv
  simp only [drawVC] at hv
  split at hv
  ·rename_i hr
   exact ⟨fun _ => hK e a w h ⟨hs,hf⟩ hv,by rw [hr]; intro i hi; cases hi⟩
  ·rename_i i r hr
   split at hv
   ·rename_i j hj
    obtain ⟨hjm,oj,hoj,hb⟩ := first_out hj
    rw [<- hr] at hjm
    rw [hoj] at hv
    simp only at hv
    have hmo := hM oj (by simpa using Array.mem_of_getElem? hoj)
    have free : ∀ k ok,ops[k]? = some ok -> k ≠ j -> waits oj k = false -> waits ok j = false -> oj.apart ops ok = true := fun k ok hk hne hw hw' => apartAll_out hap hoj hk hne hw hw'
    have held : ∀ {F : World -> Prop},F w -> Held ((j,F) :: pd) w := fun {F} hF x hx => by
     rcases List.mem_cons.1 hx with rfl | hx
     ·exact hF
     ·exact hpd x hx
    have plain : ∀ {v : Value},YieldsIf P ops (fun _ => True) oj v a -> wpAnyP P ops Q f (l.setIfInBounds j true) pd (a.put oj.dst v) w -> wpAnyP P ops Q (f + 1) l pd a w := fun {v} hy H =>
     wpAnyP_first hoj hsel hQ free f l pd a w hjm hy trivial hpd (wpAnyP_mono _ _ _ _ _ _ (fun x hx => by
      rcases List.mem_cons.1 hx with rfl | hx
      ·exact .inr fun _ => trivial
      ·exact .inl hx) H)
    rcases guard_cases (ops := ops) h hv with ⟨e',h',hv,hw⟩ | ⟨e',h',hv,hw⟩
    ·obtain ⟨dst,op,type,pos,after,guard⟩ := oj
     simp only at hv hmo hb
     cases hp : isPure P op with
     | true =>
      rw [hp] at hv
      obtain ⟨v,hr',hk⟩ := pure_ok (dst := dst) (type := type) (pos := pos) (after := after) (guard := guard) h' hv
      exact plain (.inl ⟨hw,fun w _ => hr' w⟩) (ih _ _ _ _ _ (h'.put dst v) (hs.put hmo v) hf hpd hk)
     | false =>
      rw [hp] at hv
      rcases load_cases op with ⟨t,x,rfl⟩ | hno
      ·simp only at hv
       obtain ⟨v,F,hF,hr',hk⟩ := load_ok (dst := dst) (type := type) (pos := pos) (after := after) (guard := guard) h' hv
       exact wpAnyP_first hoj hsel hQ free f l pd a w hjm (.inl ⟨hw,fun w' hw' => hr' w' hw'⟩) hF hpd (ih _ _ _ _ _ (h'.put dst v) (hs.put hmo v) hf (held hF) hk)
      ·exfalso
       cases op <;> first | exact hv.elim | exact absurd rfl (hno _ _)
    ·exact plain (.inr ⟨hw,rfl⟩) (ih _ _ _ _ _ (h'.put oj.dst undef) (hs.put hmo undef) hf hpd hv)
   ·refine ⟨fun h0 => (by rw [h0] at hr; cases hr),fun j hj oj hoj => ?_⟩
    have hv := allVC_out hv j (by rw [<- hr]; exact hj)
    rw [hoj] at hv
    simp only at hv
    have hmo := hM oj (by simpa using Array.mem_of_getElem? hoj)
    unfold wpOp
    simp only [hoj]
    rcases guard_cases (ops := ops) h hv with ⟨e',h',hv,hw⟩ | ⟨e',h',hv,hw⟩
    ·rw [if_pos hw]
     refine .inl ?_
     obtain ⟨dst,op,type,pos,after,guard⟩ := oj
     exact Acts.wp' (eff_ok h' hv) fun v w' hk => ⟨hk.1.1,ih _ _ _ _ _ (h'.put dst v) (hs.put hmo v) (hf.trans hk.2) (Held.keep hk.1.1) hk.1.2⟩
    ·rw [if_neg (by rw [hw]; simp)]
     refine ⟨hpd.ok _,wpAnyP_mono _ _ _ _ _ _ (fun x hx => .inl ((mem_pendKeep _ x pd).1 hx).1) (ih _ _ _ _ _ (h'.put oj.dst undef) (hs.put hmo undef) hf hpd hv)⟩
def HoldsT (a : Act) : (l : Slots) -> Tup l -> Prop
 | [],_ => True
 | [(t,s)],x => a.tmps.getD t undef = s.val x
 | (t,s) :: y :: r,x => a.tmps.getD t undef = s.val x.1 /\ HoldsT a (y :: r) x.2
theorem read_out {s : Sc} {v : Value} {k : s.T -> Prop} (h : s.read v k) : ∃ x,v = s.val x /\ k x := by
  cases s <;> simp only [Sc.T] at k ⊢ <;> unfold Sc.read at h <;> cases v <;> simp only at h <;> first
    | exact h.elim
    | (exact ⟨_,rfl,h⟩)
    | (obtain ⟨hk,h⟩ := chk_out h
       exact ⟨_,by rw [sameKind_eq hk]; rfl,h⟩)
theorem getT_out (h : Agrees n e a) : ∀ {l : Slots} {k : Tup l -> Prop},getT e l k -> ∃ t,HoldsT a l t /\ k t
 | [],k,hv => ⟨(),trivial,hv⟩
 | [(t,s)],k,hv => by
  obtain ⟨v,hg,hv⟩ := oV_out hv
  obtain ⟨x,rfl,hk⟩ := read_out hv
  exact ⟨x,h.get t _ hg,hk⟩
 | (t,s) :: y :: r,k,hv => by
  obtain ⟨v,hg,hv⟩ := oV_out hv
  obtain ⟨x,hx,hv2⟩ := read_out hv
  obtain ⟨xs,hh,hk⟩ := getT_out h hv2
  exact ⟨(x,xs),⟨(h.get t _ hg).trans hx,hh⟩,hk⟩
theorem setT_ok (h : Agrees n e a) : ∀ {l : Slots} {t : Tup l},HoldsT a l t -> Agrees n (setT e l t) a
 | [],_,_ => h
 | [(t,s)],x,hx => h.know hx
 | (t,s) :: y :: r,x,hx => (setT_ok h hx.2).know hx.1
theorem val_inj {s : Sc} {x y : s.T} (h : s.val x = s.val y) : x = y := by
 cases s <;> simp only [Sc.val] at h <;> first
  | exact h
  | (injection h; done)
  | (obtain ⟨p,m,c⟩ := x; obtain ⟨p',m',c'⟩ := y; simp only [Value.slice.injEq] at h; obtain ⟨rfl,rfl,rfl⟩ := h; rfl)
  | (injection h with _ h; exact h)
theorem HoldsT_inj : ∀ {l : Slots} {t t' : Tup l},HoldsT a l t -> HoldsT a l t' -> t = t'
 | [],_,_,_,_ => rfl
 | [(t,s)],x,y,hx,hy => val_inj (hx.symm.trans hy)
 | (t,s) :: y :: r,x,x',hx,hx' => by
  have h1 := val_inj (hx.1.symm.trans hx'.1)
  have h2 := HoldsT_inj hx.2 hx'.2
  exact Prod.ext h1 h2
theorem get_drop {l : List Nat} : ∀ {e : Env} {t : Nat} {v : Value},(e.drop l).get t = some v -> inL l t = false /\ e.get t = some v
 | [],t,v,h => by simp [Env.drop,Env.get] at h
 | (s,u) :: r,t,v,h => by
  simp only [Env.drop] at h
  cases hi : inL l s with
  | true =>
   rw [hi] at h
   obtain ⟨h1,h2⟩ := get_drop h
   refine ⟨h1,?_⟩
   rw [get_cons,if_neg (fun hst => by subst hst; rw [hi] at h1; cases h1)]
   exact h2
  | false =>
   rw [hi] at h
   simp only at h
   rw [get_cons] at h ⊢
   by_cases hst : s = t
   ·subst hst; simp only [if_true] at h ⊢; exact ⟨hi,h⟩
   ·rw [if_neg hst] at h ⊢; exact get_drop h
theorem drop_ok {a a' : Act} {l : List Nat} (h : Agrees n e a) (hs : Same l a a') (hd : a'.defers = []) (hz : a'.tmps.size = n) : Agrees n (e.drop l) a' :=
 ⟨hd,hz,fun t v hv => by
  obtain ⟨h1,h2⟩ := get_drop hv
  rw [hs t h1]; exact h.get t v h2⟩
def Lift (n : Nat) (M : List Nat) (a0 : Act) (w0 : World) (Q : Exit -> Env -> World -> Prop) : Exit -> Act -> World -> Prop := fun ex a w => (∃ e,Agrees n e a /\ Q ex e w) /\ Same M a0 a /\ Aft w0 w
theorem codeVC_ok (hm : P.follows .mixedOrders = true) (A : Ann) : ∀ (c : Code) (Q : Exit -> Env -> World -> Prop) (e : Env) (a : Act) (w : World),(∀ ch e w,¬ Q (.panic ch) e w) -> Agrees n e a -> codeVC P n A c Q e w ->
  c.wp P (Lift n (mods c) a w Q) a w := by
 intro c
 induction c with
 | skip =>
  intro Q e a w _ h hv
  exact wp_skip ⟨⟨e,h,hv⟩,Same.refl _ _,Aft.refl _⟩
 | exit id =>
  intro Q e a w _ h hv
  exact wp_exit ⟨⟨e,h,hv⟩,Same.refl _ _,Aft.refl _⟩
 | ret =>
  intro Q e a w _ h hv
  exact wp_ret ⟨⟨e,h,hv⟩,Same.refl _ _,Aft.refl _⟩
 | region id ops d =>
  intro Q e a w hp h hv
  have hM : ∀ o ∈ ops.toList,∀ t,o.dst = some t -> t ∈ mods (.region id ops d) := fun o ho t ht => modsOps_mem ho t ht
  cases d with
  | false =>
   refine wp_region_list (opsVC_ok (M := mods (.region id ops false)) (a0 := a) (w0 := w) (K := Q .normal) (fun e a w h hs hk => ⟨⟨e,h,hk⟩,hs⟩) ops.toList e a w hM h (Same.refl _ _) (Aft.refl _) hv)
  | true =>
   obtain ⟨hb,hv⟩ := chk_out hv
   simp only [Bool.and_eq_true] at hb
   refine wp_region_any hm (wpAny_of_P _ _ [] _ _ ?_)
   refine drawVC_ok hb.1 hb.2 (fun c a a' w hh => ?_) (M := mods (.region id ops true)) (a0 := a) (w0 := w) (K := Q .normal) hM (fun e a w h hs hk => ⟨⟨e,h,hk⟩,hs⟩) ops.size _ e [] a _ h (Same.refl _ _) ⟨rfl,rfl⟩ (fun x hx => by cases hx) hv
   obtain ⟨⟨e,_,hh⟩,_⟩ := hh
   exact (hp _ _ _ hh).elim
 | seq x y ihx ihy =>
  intro Q e a w hp h hv
  have hsx : ∀ {a a' : Act},Same (mods x) a a' -> Same (mods (.seq x y)) a a' := fun hs => hs.mono fun t ht => by simp [mods,ht]
  have hsy : ∀ {a a' : Act},Same (mods y) a a' -> Same (mods (.seq x y)) a a' := fun hs => hs.mono fun t ht => by simp [mods,ht]
  have key : ∀ {e' : Env} {a' : Act} {w' : World},Same (mods x) a a' /\ Aft w w' -> Agrees n e' a' -> codeVC P n A y Q e' w' -> y.wp P (Lift n (mods (.seq x y)) a w Q) a' w' := fun {e' a' w'} hs h' hv' =>
   wp_mono (ihy Q e' a' w' hp h' hv') fun ex a2 w2 hq => ⟨hq.1,(hsx hs.1).trans (hsy hq.2.1),hs.2.trans hq.2.2⟩
  refine wp_seq ?_
  simp only [codeVC] at hv
  split at hv
  ·rename_i l hl
   refine wp_mono (ihx _ e a w (by intro ch e w; exact hp ch e w) h hv) fun ex a' w' hq => ?_
   obtain ⟨⟨e',h',hq⟩,hs⟩ := hq
   cases ex <;> simp only [Exit.then] <;> simp only at hq
   case normal =>
    obtain ⟨t,hh,hk⟩ := getT_out h' hq
    exact key hs (setT_ok (drop_ok h hs.1 h'.defers h'.size) hh) hk
   all_goals exact ⟨⟨e',h',hq⟩,hsx hs.1,hs.2⟩
  ·refine wp_mono (ihx _ e a w (by intro ch e w; exact hp ch e w) h hv) fun ex a' w' hq => ?_
   obtain ⟨⟨e',h',hq⟩,hs⟩ := hq
   cases ex <;> simp only [Exit.then] <;> simp only at hq
   case normal => exact key hs h' hq
   all_goals exact ⟨⟨e',h',hq⟩,hsx hs.1,hs.2⟩
 | cond c x y ihx ihy =>
  intro Q e a w hp h hv
  simp only [codeVC] at hv
  split at hv
  ·rename_i b hb
   cases b with
   | true => exact wp_cond_true (h.eval hb) (wp_mono (ihx Q e a w hp h hv) fun ex a' w' hq => ⟨hq.1,hq.2.1.mono fun t ht => by simp [mods,ht],hq.2.2⟩)
   | false => exact wp_cond_false (h.eval hb) (wp_mono (ihy Q e a w hp h hv) fun ex a' w' hq => ⟨hq.1,hq.2.1.mono fun t ht => by simp [mods,ht],hq.2.2⟩)
  ·exact hv.elim
 | block id c ih =>
  intro Q e a w hp h hv
  refine wp_block (wp_mono (ih _ e a w (by intro ch e w; exact hp ch e w) h hv) fun ex a' w' hq => ?_)
  obtain ⟨⟨e',h',hq⟩,hs⟩ := hq
  cases ex <;> simp only [Exit.inBlock] <;> simp only at hq
  case exit j =>
   cases hb : Nat.beq j id with
   | true => rw [hb] at hq; rw [if_pos (Nat.eq_of_beq_eq_true hb)]; exact ⟨⟨e',h',hq⟩,hs⟩
   | false => rw [hb] at hq; rw [if_neg (fun he => by subst he; simp [Nat.beq_refl] at hb)]; exact ⟨⟨e',h',hq⟩,hs⟩
  all_goals exact ⟨⟨e',h',hq⟩,hs⟩
 | loop c ih =>
  intro Q e a w hp h hv
  simp only [codeVC] at hv
  split at hv
  ·rename_i l hl
   obtain ⟨I,μ,h0,hround⟩ := hv
   obtain ⟨t0,hh0,hI0⟩ := getT_out h h0
   let J : Act -> World -> Prop := fun a' w' => (Same (mods c) a a' /\ Aft w w') /\ a'.defers = [] /\ a'.tmps.size = n /\ ∃ t,HoldsT a' l t /\ I t w'
   let ν : Act -> World -> Nat := fun a' w' => open Classical in if h : ∃ t,HoldsT a' l t then μ h.choose w' else 0
   have hν : ∀ {a' : Act} {w' : World} {t : Tup l},HoldsT a' l t -> ν a' w' = μ t w' := fun {a' w' t} ht => by
    have hex : ∃ t,HoldsT a' l t := ⟨t,ht⟩
    simp only [ν,dif_pos hex]
    rw [HoldsT_inj hex.choose_spec ht]
   refine wp_loop J ν ⟨⟨Same.refl _ _,Aft.refl _⟩,h.defers,h.size,t0,hh0,hI0⟩ fun a' w' hJ => ?_
   obtain ⟨hs,hd,hz,t,hh,hI⟩ := hJ
   refine wp_mono (ih _ _ a' w' (by intro ch e w; exact hp ch e w) (setT_ok (drop_ok h hs.1 hd hz) hh) (hround t w' hI)) fun ex a2 w2 hq => ?_
   obtain ⟨⟨e2,h2,hq⟩,hs2⟩ := hq
   cases ex <;> simp only [Exit.then] <;> simp only at hq
   case normal =>
    obtain ⟨t2,hh2,hI2,hlt⟩ := getT_out h2 hq
    exact ⟨⟨⟨hs.1.trans hs2.1,hs.2.trans hs2.2⟩,h2.defers,h2.size,t2,hh2,hI2⟩,by rw [hν hh2,hν hh]; exact hlt⟩
   all_goals exact ⟨⟨e2,h2,hq⟩,hs.1.trans hs2.1,hs.2.trans hs2.2⟩
  ·exact hv.elim
 | _ => intros; simp_all [codeVC]
def resRead (tmps : Array Value) : ResultVar -> Sem Value
 | .tmp t => pure (tmps.getD t undef)
 | .cell b t => do loadVar t (<- asAddr (tmps.getD b undef))
theorem results_eq (fn : Func) (tmps : Array Value) : results fn tmps = (do
  let vs <- fn.results.mapM (resRead tmps)
  pure (if h : vs.size = 1 then vs[0] else .tuple vs)) := rfl
theorem resRead_cell {tmps : Array Value} {b : Tmp} {t : TypeId} {p : Addr} (hb : tmps.getD b undef = .pointer (some p)) (w : World) : (resRead tmps (.cell b t)).run P w = (loadVar t p).run P w := by
 simp only [resRead,Sem.run_bind,hb,asAddr]
 rfl
theorem resultsVC_ok (h : Agrees n e a) {w : World} : ∀ {l : List ResultVar} {k : List Value -> Prop},resultsVC P e w l k -> ∃ vs : List Value,k vs /\
  (l.mapM (resRead a.tmps)).run P w = .ok vs w
 | [],k,hv => ⟨[],hv,by simp⟩
 | .tmp t :: r,k,hv => by
  obtain ⟨v,hg,hv⟩ := oV_out hv
  obtain ⟨vs,hk,hr⟩ := resultsVC_ok h hv
  refine ⟨v :: vs,hk,?_⟩
  simp only [List.mapM_cons,Sem.run_bind,Sem.run_pure,Result.andThen_ok,resRead,h.get t v hg,hr]
 | .cell b t :: r,k,hv => by
  simp only [resultsVC] at hv
  unfold loadVC at hv
  split at hv
  ·rename_i d p m hu hx hm
   obtain ⟨g,o,rfl,hv2⟩ := onPtr_out hv
   have hb : a.tmps.getD b undef = .pointer (some ⟨g,o,none⟩) := h.get b _ hx
   split at hv2
   ·rename_i ag l hs
    obtain ⟨us,hl,hc,hk⟩ := anyVals_out hv2
    obtain ⟨vs,hk,hr⟩ := resultsVC_ok h hk
    refine ⟨_,hk,?_⟩
    simp only [List.mapM_cons,Sem.run_bind,Sem.run_pure,Result.andThen_ok,resRead_cell hb,load_run hs hl hc,hr]
   ·obtain ⟨hd,cs,hrow,hk⟩ := chk_out hv2
    obtain ⟨vs,hk,hr⟩ := resultsVC_ok h hk
    refine ⟨_,hk,?_⟩
    simp only [List.mapM_cons,Sem.run_bind,Sem.run_pure,Result.andThen_ok,resRead_cell hb,loadRow_run hu hd hm hrow,hr]
  ·exact hv.elim
theorem argEnv_get : ∀ {i : Nat} {l : List Value} {t : Nat} {v : Value},(argEnv i l).get t = some v -> i <= t /\ l[t - i]? = some v
 | i,[],t,v,h => by simp [argEnv,Env.get] at h
 | i,u :: r,t,v,h => by
  simp only [argEnv] at h
  rw [get_cons] at h
  by_cases hit : i = t
  ·subst hit
   simp only [if_true,Option.some.injEq] at h
   subst h
   exact ⟨Nat.le_refl _,by simp⟩
  ·rw [if_neg hit] at h
   obtain ⟨h1,h2⟩ := argEnv_get h
   refine ⟨by omega,?_⟩
   rw [show t - i = (t - (i + 1)) + 1 by omega]
   simpa using h2
theorem calls_of_fnVC (hm : P.follows .mixedOrders = true) {A : Ann} {f : FuncId} {fn : Func} {l : List Value} {args : Array Value} {w : World} {R : Ending -> World -> Prop}
  (hf : P.funcs[f]? = some fn) (hn : Nat.ble l.length fn.ntmps = true) (ha : args = l.toArray) (h : fnVC P A fn l w fun v w' => R (.returned v) w') : Calls P f args w R := by
 have hn : l.length <= fn.ntmps := Nat.le_of_ble_eq_true hn
 subst ha
 unfold fnVC at h
 split at h
 ·rename_i c hc
  refine calls_of_wp hf hc ?_
  have hag : Agrees fn.ntmps (argEnv 0 l) { tmps := l.toArray ++ Array.replicate (fn.ntmps - l.toArray.size) undef,defers := [] } := by
   refine ⟨rfl,by simp; omega,fun t v hv => ?_⟩
   obtain ⟨_,h2⟩ := argEnv_get hv
   simp only [Nat.sub_zero] at h2
   have hlt : t < l.length := (List.getElem?_eq_some_iff.1 h2).1
   simp only [Array.getD_eq_getD_getElem?]
   rw [Array.getElem?_append_left (by simpa using hlt)]
   simp [h2]
  refine wp_mono (codeVC_ok hm A c _ _ _ w (by intro ch e w hh; exact hh) hag h) fun ex a w' hq => ?_
  obtain ⟨⟨e,hae,hq⟩,_,haft⟩ := hq
  have fin : resultsVC P e w' fn.results.toList (fun vs => R (.returned (packed vs)) w') -> a.defers = [] /\ ∃ v,(results fn a.tmps).run P w' = .ok v w' /\ R (.returned v) w' /\ Aft w w' := fun hr => by
   obtain ⟨vs,hk,hr⟩ := resultsVC_ok hae hr
   refine ⟨hae.defers,_,?_,hk,haft⟩
   have hr' : (fn.results.mapM (resRead a.tmps)).run P w' = .ok vs.toArray w' := by
    rw [Array.mapM_eq_mapM_toList]
    simp only [Sem.run_map,hr]
    rfl
   rw [results_eq]
   simp only [Sem.run_bind]
   rw [hr']
   simp only [Result.andThen_ok]
   cases vs with
   | nil => rfl
   | cons v r => cases r <;> rfl
  cases ex <;> simp only [bodyPost] <;> simp only at hq
  case normal => exact fin hq
  case ret => exact fin hq
  all_goals exact hq.elim
 ·exact h.elim
theorem calls_of_eq (hm : P.follows .mixedOrders = true) {A : Ann} {f : FuncId} {fn : Func} {l : List Value} {w : World} {R : Ending -> World -> Prop} {V : Prop}
  (hf : P.funcs[f]? = some fn) (hn : Nat.ble l.length fn.ntmps = true) (heq : V = fnVC P A fn l w fun v w' => R (.returned v) w') (h : V) : Calls P f l.toArray w R :=
 calls_of_fnVC hm hf hn rfl (heq ▸ h)
end
end Vc
end Go.Proofs.YtbedadcbbnmpkaaGreatDoor
namespace Go.Proofs.YtbedadcbbnmpkaaGreatDoor
open Go Vc
section
noncomputable abbrev P : Program := Tryz.prog
theorem mixed : P.follows .mixedOrders = true := by kernel_rfl
namespace F
abbrev Z0 : FuncId := 3
abbrev Z1 : FuncId := 4
abbrev Z2 : FuncId := 5
abbrev Z3 : FuncId := 6
abbrev Z4 : FuncId := 7
abbrev Z5 : FuncId := 8
abbrev Z6 : FuncId := 9
abbrev Z7 : FuncId := 10
abbrev Z8 : FuncId := 11
abbrev Z9 : FuncId := 12
abbrev Za : FuncId := 13
abbrev Zb : FuncId := 14
abbrev Zc : FuncId := 15
abbrev Zd : FuncId := 16
abbrev Ze : FuncId := 17
abbrev Zf : FuncId := 18
abbrev Zg : FuncId := 19
abbrev Zh : FuncId := 20
abbrev Zi : FuncId := 21
abbrev Zj : FuncId := 22
abbrev Zk : FuncId := 23
abbrev Zl : FuncId := 24
abbrev Zm : FuncId := 25
abbrev Zn : FuncId := 26
abbrev Zo : FuncId := 27
abbrev Zp : FuncId := 28
abbrev Zq : FuncId := 29
abbrev Zr : FuncId := 30
abbrev Zs : FuncId := 31
abbrev Zt : FuncId := 32
abbrev Zu : FuncId := 33
abbrev Zv : FuncId := 34
abbrev Zw : FuncId := 35
abbrev Zx : FuncId := 36
abbrev Zy : FuncId := 37
abbrev Zz : FuncId := 38
abbrev Z10 : FuncId := 39
abbrev Z11 : FuncId := 40
abbrev Z12 : FuncId := 41
abbrev Z13 : FuncId := 42
abbrev Z14 : FuncId := 43
abbrev Z15 : FuncId := 44
abbrev Z16 : FuncId := 45
abbrev Z17 : FuncId := 46
abbrev Z18 : FuncId := 47
abbrev Z19 : FuncId := 48
abbrev Z1a : FuncId := 49
abbrev Z1b : FuncId := 50
abbrev Z1c : FuncId := 51
abbrev Z1d : FuncId := 52
abbrev Z1e : FuncId := 53
abbrev Z1f : FuncId := 54
abbrev Z1g : FuncId := 55
abbrev Z1h : FuncId := 56
abbrev Z1i : FuncId := 57
abbrev Z1j : FuncId := 58
abbrev Z1k : FuncId := 59
abbrev Z1l : FuncId := 60
abbrev Z1m : FuncId := 61
abbrev Z1n : FuncId := 62
abbrev Z1o : FuncId := 63
abbrev Z1p : FuncId := 64
abbrev Z1q : FuncId := 65
abbrev Z1r : FuncId := 66
abbrev Z1s : FuncId := 67
abbrev Z1t : FuncId := 68
abbrev Z1u : FuncId := 69
abbrev Z1v : FuncId := 70
abbrev Z1w : FuncId := 71
abbrev Z1x : FuncId := 72
abbrev Z1y : FuncId := 73
abbrev Z1z : FuncId := 74
abbrev Z20 : FuncId := 75
abbrev Z21 : FuncId := 76
abbrev Z22 : FuncId := 77
abbrev Z23 : FuncId := 78
abbrev Z24 : FuncId := 79
abbrev Z25 : FuncId := 80
abbrev Z26 : FuncId := 81
abbrev Z27 : FuncId := 82
abbrev Z28 : FuncId := 83
abbrev Z29 : FuncId := 84
abbrev Z2a : FuncId := 85
abbrev Z2b : FuncId := 86
abbrev Z2c : FuncId := 87
abbrev Z2d : FuncId := 88
abbrev Z2e : FuncId := 89
abbrev Z2f : FuncId := 90
abbrev Z2g : FuncId := 91
abbrev Z2h : FuncId := 92
abbrev Z2i : FuncId := 93
abbrev Z2j : FuncId := 94
abbrev Z2k : FuncId := 95
abbrev Z2l : FuncId := 96
abbrev Z2m : FuncId := 97
abbrev Z2n : FuncId := 98
abbrev Z2o : FuncId := 99
abbrev Z2p : FuncId := 100
abbrev Z2q : FuncId := 101
abbrev Z2r : FuncId := 102
abbrev Z2s : FuncId := 103
abbrev Z2t : FuncId := 104
abbrev Z2u : FuncId := 105
abbrev Z2v : FuncId := 106
abbrev Z2w : FuncId := 107
abbrev Z2x : FuncId := 108
abbrev Z2y : FuncId := 109
abbrev Z2z : FuncId := 110
abbrev Z30 : FuncId := 111
abbrev Z31 : FuncId := 112
abbrev Z32 : FuncId := 113
abbrev Z33 : FuncId := 114
abbrev Z34 : FuncId := 115
abbrev Z35 : FuncId := 116
abbrev Z36 : FuncId := 117
abbrev Z37 : FuncId := 118
abbrev Z38 : FuncId := 119
abbrev Z39 : FuncId := 120
abbrev Z3a : FuncId := 121
abbrev Z3b : FuncId := 122
abbrev Z3c : FuncId := 123
abbrev Z3d : FuncId := 124
abbrev Z3e : FuncId := 125
abbrev Z3f : FuncId := 126
abbrev Z3g : FuncId := 127
abbrev Z3h : FuncId := 129
abbrev Z3i : FuncId := 130
abbrev Z3j : FuncId := 131
abbrev Z3k : FuncId := 132
abbrev Z3l : FuncId := 133
abbrev Z3m : FuncId := 134
abbrev Z3n : FuncId := 135
abbrev Z3o : FuncId := 136
abbrev Z3p : FuncId := 137
abbrev Z3q : FuncId := 138
abbrev Z3r : FuncId := 139
abbrev Z3s : FuncId := 140
abbrev Z3t : FuncId := 141
abbrev Z3u : FuncId := 142
abbrev Z3v : FuncId := 143
abbrev Z3w : FuncId := 144
abbrev Z3x : FuncId := 145
abbrev Z3y : FuncId := 146
abbrev Z3z : FuncId := 147
abbrev Z40 : FuncId := 148
abbrev Z41 : FuncId := 149
abbrev Z42 : FuncId := 150
abbrev Z43 : FuncId := 151
abbrev Z44 : FuncId := 152
abbrev Z45 : FuncId := 153
abbrev Z46 : FuncId := 154
abbrev Z47 : FuncId := 155
abbrev Z48 : FuncId := 156
abbrev Z49 : FuncId := 157
abbrev Z4a : FuncId := 158
abbrev Z4b : FuncId := 159
abbrev Z4c : FuncId := 160
abbrev Z4d : FuncId := 161
abbrev Z4e : FuncId := 162
abbrev Z4f : FuncId := 163
abbrev Z4g : FuncId := 164
abbrev Z4h : FuncId := 165
abbrev Z4i : FuncId := 166
abbrev Z4j : FuncId := 167
abbrev Z4k : FuncId := 168
abbrev Z4l : FuncId := 169
abbrev Z4m : FuncId := 170
abbrev Z4n : FuncId := 171
abbrev Z4o : FuncId := 172
abbrev Z4p : FuncId := 176
abbrev Z4q : FuncId := 215
abbrev Z4r : FuncId := 216
abbrev Z4s : FuncId := 217
abbrev Z4t : FuncId := 218
abbrev Z4u : FuncId := 220
abbrev Z4v : FuncId := 221
abbrev Z4w : FuncId := 222
end F
namespace T
abbrev unit : TypeId := 0
abbrev func : TypeId := 1
abbrev int : TypeId := 3
abbrev bool : TypeId := 4
abbrev uint8 : TypeId := 5
abbrev string : TypeId := 9
abbrev sl_int : TypeId := 22
abbrev treadwheelkeep_Tape : TypeId := 25
abbrev sl_string : TypeId := 26
abbrev sl_api_Class : TypeId := 27
abbrev sl_api_Method : TypeId := 28
abbrev sl_api_Obj : TypeId := 29
abbrev api_Unit : TypeId := 31
abbrev p_store_Ideal : TypeId := 35
abbrev uint32 : TypeId := 40
abbrev sl_uint32 : TypeId := 41
abbrev sl_api_Event : TypeId := 43
abbrev sl_api_Bind : TypeId := 49
abbrev api_Class : TypeId := 51
abbrev sl_api_Val : TypeId := 53
abbrev sl_uint8 : TypeId := 54
abbrev api_Method : TypeId := 56
abbrev api_Bind : TypeId := 59
abbrev api_Obj : TypeId := 61
abbrev api_Val : TypeId := 63
abbrev sl_p_dict_Dict : TypeId := 75
abbrev act_Machine : TypeId := 79
abbrev p_dict_Dict : TypeId := 80
abbrev sl_store_object : TypeId := 86
abbrev store_Ideal : TypeId := 88
abbrev frame_Frame : TypeId := 90
abbrev code_Inst : TypeId := 94
abbrev act_doing : TypeId := 99
abbrev api_Event : TypeId := 104
abbrev frame_Pool : TypeId := 123
abbrev sl_queue_sleeper : TypeId := 126
abbrev queue_Queue : TypeId := 129
abbrev cache_Key : TypeId := 131
abbrev cache_line : TypeId := 133
abbrev cache_Cache : TypeId := 136
abbrev dict_place : TypeId := 151
abbrev dict_Dict : TypeId := 154
abbrev arr4_uint32 : TypeId := 191
abbrev map_name_Key_int : TypeId := 199
abbrev sl_name_Key : TypeId := 200
abbrev name_Table : TypeId := 202
abbrev name_Key : TypeId := 204
abbrev queue_sleeper : TypeId := 219
abbrev store_object : TypeId := 262
end T
end
section
variable {w : World} {R : Ending -> World -> Prop}
def vZ0 (pt : Option Addr) (nt ct : Nat) (w : World) (R : Value -> World -> Prop) : Prop :=
 newB w #[.slice pt nt ct,.int .i64 0] T.treadwheelkeep_Tape fun b u =>
 Calls P F.Z1 #[.pointer (some ⟨b,0,none⟩)] u fun en u1 => ∃ px0 nx0 cx0 px1 nx1 cx1 px2 nx2 cx2 px3 nx3 cx3 x4,en = .returned (.agg #[.slice px0 nx0 cx0,.slice px1 nx1 cx1,.slice px2 nx2 cx2,.slice px3 nx3 cx3,.int .i64 x4]) /\
 newB u1 #[.slice none 0 0,.slice none 0 0,.slice none 0 0,.slice none 0 0,.int .i64 0] T.api_Unit fun b1 u2 =>
 stores u2 b1 0 [.slice px0 nx0 cx0,.slice px1 nx1 cx1,.slice px2 nx2 cx2,.slice px3 nx3 cx3,.int .i64 x4] fun u3 =>
 wv u3.drew fun u4 =>
 ∃ px01 nx01 cx01 px11 nx11 cx11 px21 nx21 cx21 px31 nx31 cx31 x41,holds u4 b1 0 [.slice px01 nx01 cx01,.slice px11 nx11 cx11,.slice px21 nx21 cx21,.slice px31 nx31 cx31,.int .i64 x41] /\
 ∃ px02 nx02 cx02 px12 nx12 cx12 px22 nx22 cx22 px32 nx32 cx32 x42,holds u4 b1 0 [.slice px02 nx02 cx02,.slice px12 nx12 cx12,.slice px22 nx22 cx22,.slice px32 nx32 cx32,.int .i64 x42] /\
 Calls P F.Z3 #[] u4 fun en u5 => ∃ x,en = .returned (.pointer x) /\
 ((holds u5 b1 0 [.slice px02 nx02 cx02,.slice px12 nx12 cx12,.slice px22 nx22 cx22,.slice px32 nx32 cx32,.int .i64 x42]) /\ (holds u5 b1 0 [.slice px01 nx01 cx01,.slice px11 nx11 cx11,.slice px21 nx21 cx21,.slice px31 nx31 cx31,.int .i64 x41]) /\ True) /\
 Calls P F.Z2 #[.agg #[.slice px01 nx01 cx01,.slice px11 nx11 cx11,.slice px21 nx21 cx21,.slice px31 nx31 cx31,.int .i64 x41],.iface T.p_store_Ideal (.pointer x)] u5 fun en u6 => ∃ x1,en = .returned (.pointer x1) /\
 ((holds u6 b1 0 [.slice px02 nx02 cx02,.slice px12 nx12 cx12,.slice px22 nx22 cx22,.slice px32 nx32 cx32,.int .i64 x42]) /\ True) /\
 Calls P F.Z3 #[] u6 fun en u7 => ∃ x2,en = .returned (.pointer x2) /\
 ((holds u7 b1 0 [.slice px02 nx02 cx02,.slice px12 nx12 cx12,.slice px22 nx22 cx22,.slice px32 nx32 cx32,.int .i64 x42]) /\ True) /\
 Calls P F.Z2 #[.agg #[.slice px02 nx02 cx02,.slice px12 nx12 cx12,.slice px22 nx22 cx22,.slice px32 nx32 cx32,.int .i64 x42],.iface T.p_store_Ideal (.pointer x2)] u7 fun en u8 => ∃ x3,en = .returned (.pointer x3) /\
 True /\
 join (fun (t1 : Unit) (u9 : World) =>
 ∃ (I : Int -> World -> Prop) (μ : Int -> World -> Nat),I 0 u9 /\
 ∀ (t2 : Int) (u10 : World),I t2 u10 ->
 br (decide (t2 < 200)) (
 Calls P F.Z4 #[.pointer x1] u10 fun en u11 => ∃ x5,en = .returned (.bool x5) /\
 Calls P F.Z4 #[.pointer x3] u11 fun en u12 => ∃ x6,en = .returned (.bool x6) /\
 br (!(x5 == x6)) (
 R (.bool false) u12) (
 Calls P F.Z5 #[.pointer x1] u12 fun en u13 => ∃ x7,en = .returned (.bool x7) /\
 Calls P F.Z5 #[.pointer x3] u13 fun en u14 => ∃ x8,en = .returned (.bool x8) /\
 br (!(x7 == x8)) (
 R (.bool false) u14) (
 Calls P F.Z6 #[.pointer x1] u14 fun en u15 => ∃ x9,en = .returned (.int .i64 x9) /\
 Calls P F.Z6 #[.pointer x3] u15 fun en u16 => ∃ x10,en = .returned (.int .i64 x10) /\
 br (!(decide (x9 = x10))) (
 R (.bool false) u16) (
 Calls P F.Z8 #[.pointer x1] u16 fun en u17 => ∃ px nx cx,en = .returned (.slice px nx cx) /\
 Calls P F.Z8 #[.pointer x3] u17 fun en u18 => ∃ px4 nx4 cx4,en = .returned (.slice px4 nx4 cx4) /\
 Calls P F.Z7 #[.slice px nx cx,.slice px4 nx4 cx4] u18 fun en u19 => ∃ x11,en = .returned (.bool x11) /\
 br (!x11) (
 R (.bool false) u19) (
 I (IntKind.wrap .i64 (t2 + 1)) u19 /\ μ (IntKind.wrap .i64 (t2 + 1)) u19 < μ t2 u10))))) (
 Calls P F.Z9 #[.pointer x1] u10 fun en u20 => ∃ px5 nx5 cx5,en = .returned (.slice px5 nx5 cx5) /\
 join (fun (t3 : Unit) (u21 : World) =>
 Calls P F.Z9 #[.pointer x1] u21 fun en u22 => ∃ px6 nx6 cx6,en = .returned (.slice px6 nx6 cx6) /\
 Calls P F.Z9 #[.pointer x3] u22 fun en u23 => ∃ px7 nx7 cx7,en = .returned (.slice px7 nx7 cx7) /\
 Calls P F.Zc #[.slice px6 nx6 cx6,.slice px7 nx7 cx7] u23 fun en u24 => ∃ x12,en = .returned (.bool x12) /\
 br x12 (
 Calls P F.Zd #[] u24 fun en u25 => ∃ x13,en = .returned (.bool x13) /\
 R (.bool x13) u25) (
 R (.bool false) u24)) fun J17 =>
 Calls P F.Z5 #[.pointer x1] u20 fun en u26 => ∃ x14,en = .returned (.bool x14) /\
 br x14 (
 Calls P F.Za #[.pointer x1,.int .i64 1] u26 fun en u27 => en = .returned (.tuple #[]) /\
 Calls P F.Zb #[.pointer x1,.int .i64 5] u27 fun en u28 => en = .returned (.tuple #[]) /\
 Calls P F.Z4 #[.pointer x1] u28 fun en u29 => ∃ x15,en = .returned (.bool x15) /\
 br x15 (
 R (.bool false) u29) (
 Calls P F.Z9 #[.pointer x1] u29 fun en u30 => ∃ px8 nx8 cx8,en = .returned (.slice px8 nx8 cx8) /\
 br (!(decide ((nx8 : Int) = (nx5 : Int)))) (
 R (.bool false) u30) (
 J17 () u30))) (
 J17 () u26))) fun J6 =>
 br (Option.isNone x1) (
 R (.bool false) u8) (
 br (Option.isNone x3) (
 R (.bool false) u8) (
 J6 () u8))
theorem oZ0 {pt : Option Addr} {nt ct : Nat} (h : vZ0 pt nt ct w fun v w' => R (.returned v) w') : Calls P F.Z0 #[.slice pt nt ct] w R :=
 calls_of_eq (A := ⟨[(7,[(7,(.int .i64))])],[(6,[]),(17,[])]⟩) mixed Tryz.func3 (by kernel_rfl) (by kernel_rfl) h
def vZd  (w : World) (R : Value -> World -> Prop) : Prop :=
 newB w #[.string (⟨#[66]⟩ : ByteArray),.int .i64 (-1),.int .i64 4,.slice none 0 0,.string (⟨#[65]⟩ : ByteArray),.int .i64 (-1),.int .i64 0,.slice none 0 0] T.api_Class fun b u =>
 newB u #[.int .u8 7,.int .u8 7,.int .u8 21,.int .u8 10,.int .u8 7,.int .u8 0,.int .u8 21,.int .u8 3,.int .u8 14,.int .u8 0] T.uint8 fun b1 u1 =>
 newB u1 #[.int .i64 0,.int .i64 0,.slice none 0 0,.slice (some ⟨b1,0,none⟩) 10 10] T.api_Method fun b2 u2 =>
 newB u2 #[.int .i64 1,.slice none 0 0] T.api_Obj fun b3 u3 =>
 newB u3 #[.slice none 0 0,.slice none 0 0,.slice none 0 0,.slice none 0 0,.int .i64 0] T.api_Unit fun b4 u4 =>
 stores u4 b4 0 [.slice none 0 0,.slice (some ⟨b,0,none⟩) 2 2,.slice (some ⟨b2,0,none⟩) 1 1,.slice (some ⟨b3,0,none⟩) 1 1,.int .i64 0] fun u5 =>
 wv u5.drew fun u6 =>
 ∃ px0 nx0 cx0 px1 nx1 cx1 px2 nx2 cx2 px3 nx3 cx3 x4,holds u6 b4 0 [.slice px0 nx0 cx0,.slice px1 nx1 cx1,.slice px2 nx2 cx2,.slice px3 nx3 cx3,.int .i64 x4] /\
 Calls P F.Z3 #[] u6 fun en u7 => ∃ x,en = .returned (.pointer x) /\
 ((holds u7 b4 0 [.slice px0 nx0 cx0,.slice px1 nx1 cx1,.slice px2 nx2 cx2,.slice px3 nx3 cx3,.int .i64 x4]) /\ True) /\
 Calls P F.Z2 #[.agg #[.slice px0 nx0 cx0,.slice px1 nx1 cx1,.slice px2 nx2 cx2,.slice px3 nx3 cx3,.int .i64 x4],.iface T.p_store_Ideal (.pointer x)] u7 fun en u8 => ∃ x1,en = .returned (.pointer x1) /\
 True /\
 join (fun (t : Unit) (u9 : World) =>
 ∃ (I : Int -> World -> Prop) (μ : Int -> World -> Nat),I 0 u9 /\
 ∀ (t1 : Int) (u10 : World),I t1 u10 ->
 br (decide (t1 < 20)) (
 Calls P F.Z4 #[.pointer x1] u10 fun en u11 => ∃ x2,en = .returned (.bool x2) /\
 br x2 (
 I (IntKind.wrap .i64 (t1 + 1)) u11 /\ μ (IntKind.wrap .i64 (t1 + 1)) u11 < μ t1 u10) (
 Calls P F.Z9 #[.pointer x1] u11 fun en u12 => ∃ px nx cx,en = .returned (.slice px nx cx) /\
 br (decide (t1 = 4)) (
 br (decide ((nx : Int) = 3)) (
 chk (decide (0 <= 0) && decide (0 < (nx : Int))) (
 onPtr px fun g o =>
 ∃ x0 x11 x21 x3,holds u12 g o [.int .i64 x0,.int .i64 x11,.int .i64 x21,.int .i64 x3] /\
 ∃ x5,(∀ w,(do eqGuard .eql T.api_Event (.tmp 52) (.tmp 54) (.agg #[.int .i64 x0,.int .i64 x11,.int .i64 x21,.int .i64 x3]) (.agg #[.int .i64 1,.int .i64 0,.int .i64 3,.int .i64 7]); binOp .eql T.api_Event (.agg #[.int .i64 x0,.int .i64 x11,.int .i64 x21,.int .i64 x3]) (.agg #[.int .i64 1,.int .i64 0,.int .i64 3,.int .i64 7]) : Sem Value).run P w = .ok (.bool x5) w) /\
 br x5 (
 chk (decide (0 <= 1) && decide (1 < (nx : Int))) (
 onPtr px fun g1 o1 =>
 ∃ x01 x12 x22 x31,holds u12 g1 (o1 + 4) [.int .i64 x01,.int .i64 x12,.int .i64 x22,.int .i64 x31] /\
 ∃ x6,(∀ w,(do eqGuard .eql T.api_Event (.tmp 60) (.tmp 62) (.agg #[.int .i64 x01,.int .i64 x12,.int .i64 x22,.int .i64 x31]) (.agg #[.int .i64 3,.int .i64 0,.int .i64 3,.int .i64 3]); binOp .eql T.api_Event (.agg #[.int .i64 x01,.int .i64 x12,.int .i64 x22,.int .i64 x31]) (.agg #[.int .i64 3,.int .i64 0,.int .i64 3,.int .i64 3]) : Sem Value).run P w = .ok (.bool x6) w) /\
 br x6 (
 chk (decide (0 <= 2) && decide (2 < (nx : Int))) (
 onPtr px fun g2 o2 =>
 ∃ x02 x13 x23 x32,holds u12 g2 (o2 + 8) [.int .i64 x02,.int .i64 x13,.int .i64 x23,.int .i64 x32] /\
 ∃ x7,(∀ w,(do eqGuard .eql T.api_Event (.tmp 68) (.tmp 69) (.agg #[.int .i64 x02,.int .i64 x13,.int .i64 x23,.int .i64 x32]) (.agg #[.int .i64 4,.int .i64 0,.int .i64 0,.int .i64 0]); binOp .eql T.api_Event (.agg #[.int .i64 x02,.int .i64 x13,.int .i64 x23,.int .i64 x32]) (.agg #[.int .i64 4,.int .i64 0,.int .i64 0,.int .i64 0]) : Sem Value).run P w = .ok (.bool x7) w) /\
 br x7 (
 Calls P F.Z5 #[.pointer x1] u12 fun en u13 => ∃ x8,en = .returned (.bool x8) /\
 br x8 (
 Calls P F.Z8 #[.pointer x1] u13 fun en u14 => ∃ px4 nx4 cx4,en = .returned (.slice px4 nx4 cx4) /\
 R (.bool (decide ((nx4 : Int) = 0))) u14) (
 R (.bool false) u13)) (
 R (.bool false) u12))) (
 R (.bool false) u12))) (
 R (.bool false) u12))) (
 R (.bool false) u12)) (
 R (.bool false) u12))) (
 Calls P F.Z9 #[.pointer x1] u10 fun en u15 => ∃ px5 nx5 cx5,en = .returned (.slice px5 nx5 cx5) /\
 br (decide (t1 = 4)) (
 br (decide ((nx5 : Int) = 3)) (
 chk (decide (0 <= 0) && decide (0 < (nx5 : Int))) (
 onPtr px5 fun g3 o3 =>
 ∃ x03 x14 x24 x33,holds u15 g3 o3 [.int .i64 x03,.int .i64 x14,.int .i64 x24,.int .i64 x33] /\
 ∃ x9,(∀ w,(do eqGuard .eql T.api_Event (.tmp 52) (.tmp 54) (.agg #[.int .i64 x03,.int .i64 x14,.int .i64 x24,.int .i64 x33]) (.agg #[.int .i64 1,.int .i64 0,.int .i64 3,.int .i64 7]); binOp .eql T.api_Event (.agg #[.int .i64 x03,.int .i64 x14,.int .i64 x24,.int .i64 x33]) (.agg #[.int .i64 1,.int .i64 0,.int .i64 3,.int .i64 7]) : Sem Value).run P w = .ok (.bool x9) w) /\
 br x9 (
 chk (decide (0 <= 1) && decide (1 < (nx5 : Int))) (
 onPtr px5 fun g4 o4 =>
 ∃ x04 x15 x25 x34,holds u15 g4 (o4 + 4) [.int .i64 x04,.int .i64 x15,.int .i64 x25,.int .i64 x34] /\
 ∃ x10,(∀ w,(do eqGuard .eql T.api_Event (.tmp 60) (.tmp 62) (.agg #[.int .i64 x04,.int .i64 x15,.int .i64 x25,.int .i64 x34]) (.agg #[.int .i64 3,.int .i64 0,.int .i64 3,.int .i64 3]); binOp .eql T.api_Event (.agg #[.int .i64 x04,.int .i64 x15,.int .i64 x25,.int .i64 x34]) (.agg #[.int .i64 3,.int .i64 0,.int .i64 3,.int .i64 3]) : Sem Value).run P w = .ok (.bool x10) w) /\
 br x10 (
 chk (decide (0 <= 2) && decide (2 < (nx5 : Int))) (
 onPtr px5 fun g5 o5 =>
 ∃ x05 x16 x26 x35,holds u15 g5 (o5 + 8) [.int .i64 x05,.int .i64 x16,.int .i64 x26,.int .i64 x35] /\
 ∃ x17,(∀ w,(do eqGuard .eql T.api_Event (.tmp 68) (.tmp 69) (.agg #[.int .i64 x05,.int .i64 x16,.int .i64 x26,.int .i64 x35]) (.agg #[.int .i64 4,.int .i64 0,.int .i64 0,.int .i64 0]); binOp .eql T.api_Event (.agg #[.int .i64 x05,.int .i64 x16,.int .i64 x26,.int .i64 x35]) (.agg #[.int .i64 4,.int .i64 0,.int .i64 0,.int .i64 0]) : Sem Value).run P w = .ok (.bool x17) w) /\
 br x17 (
 Calls P F.Z5 #[.pointer x1] u15 fun en u16 => ∃ x18,en = .returned (.bool x18) /\
 br x18 (
 Calls P F.Z8 #[.pointer x1] u16 fun en u17 => ∃ px6 nx6 cx6,en = .returned (.slice px6 nx6 cx6) /\
 R (.bool (decide ((nx6 : Int) = 0))) u17) (
 R (.bool false) u16)) (
 R (.bool false) u15))) (
 R (.bool false) u15))) (
 R (.bool false) u15))) (
 R (.bool false) u15)) (
 R (.bool false) u15))) fun J5 =>
 br (Option.isNone x1) (
 R (.bool false) u8) (
 Calls P F.Z3 #[] u8 fun en u18 => ∃ x19,en = .returned (.pointer x19) /\
 Calls P F.Z2 #[.agg #[.slice none 0 0,.slice none 0 0,.slice none 0 0,.slice none 0 0,.int .i64 0],.iface T.p_store_Ideal (.pointer x19)] u18 fun en u19 => ∃ x20,en = .returned (.pointer x20) /\
 br (!(Option.isNone x20)) (
 R (.bool false) u19) (
 ∃ px01 nx01 cx01 px11 nx11 cx11 px21 nx21 cx21 px31 nx31 cx31 x41,holds u19 b4 0 [.slice px01 nx01 cx01,.slice px11 nx11 cx11,.slice px21 nx21 cx21,.slice px31 nx31 cx31,.int .i64 x41] /\
 Calls P F.Z2 #[.agg #[.slice px01 nx01 cx01,.slice px11 nx11 cx11,.slice px21 nx21 cx21,.slice px31 nx31 cx31,.int .i64 x41],.nilIface] u19 fun en u20 => ∃ x27,en = .returned (.pointer x27) /\
 br (!(Option.isNone x27)) (
 R (.bool false) u20) (
 J5 () u20)))
theorem oZd  (h : vZd  w fun v w' => R (.returned v) w') : Calls P F.Zd #[] w R :=
 calls_of_eq (A := ⟨[(6,[(3,(.int .i64))])],[(5,[])]⟩) mixed Tryz.func16 (by kernel_rfl) (by kernel_rfl) h
def vZc (pa : Option Addr) (na ca : Nat) (pb : Option Addr) (nb cb : Nat) (w : World) (R : Value -> World -> Prop) : Prop :=
 br (!(decide ((na : Int) = (nb : Int)))) (
 R (.bool false) w) (
 ∃ (I : Int -> World -> Prop) (μ : Int -> World -> Nat),I 0 w /\
 ∀ (t : Int) (u : World),I t u ->
 br (decide (t < (na : Int))) (
 wv u.drew fun u1 =>
 chk (decide (0 <= t) && decide (t < (na : Int))) (
 onPtr pa fun g o =>
 ∃ x0 x1 x2 x3,holds u1 g (o + t.toNat * 4) [.int .i64 x0,.int .i64 x1,.int .i64 x2,.int .i64 x3] /\
 chk (decide (0 <= t) && decide (t < (nb : Int))) (
 onPtr pb fun g1 o1 =>
 ∃ x01 x11 x21 x31,holds u1 g1 (o1 + t.toNat * 4) [.int .i64 x01,.int .i64 x11,.int .i64 x21,.int .i64 x31] /\
 ∃ x,(∀ w,(do eqGuard .neq T.api_Event (.tmp 19) (.tmp 23) (.agg #[.int .i64 x0,.int .i64 x1,.int .i64 x2,.int .i64 x3]) (.agg #[.int .i64 x01,.int .i64 x11,.int .i64 x21,.int .i64 x31]); binOp .neq T.api_Event (.agg #[.int .i64 x0,.int .i64 x1,.int .i64 x2,.int .i64 x3]) (.agg #[.int .i64 x01,.int .i64 x11,.int .i64 x21,.int .i64 x31]) : Sem Value).run P w = .ok (.bool x) w) /\
 br x (
 R (.bool false) u1) (
 I (IntKind.wrap .i64 (t + 1)) u1 /\ μ (IntKind.wrap .i64 (t + 1)) u1 < μ t u)))) (
 R (.bool true) u))
theorem oZc {pa : Option Addr} {na ca : Nat} {pb : Option Addr} {nb cb : Nat} (h : vZc pa na ca pb nb cb w fun v w' => R (.returned v) w') : Calls P F.Zc #[.slice pa na ca,.slice pb nb cb] w R :=
 calls_of_eq (A := ⟨[(4,[(13,(.int .i64))])],[]⟩) mixed Tryz.func15 (by kernel_rfl) (by kernel_rfl) h
end
end Go.Proofs.YtbedadcbbnmpkaaGreatDoor
