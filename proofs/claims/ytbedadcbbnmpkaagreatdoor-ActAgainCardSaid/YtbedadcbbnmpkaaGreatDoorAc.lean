/- Part 3 of what the proof rests on: SpCode, SpSlices, Eqs, VcDict, VcWord, SpDict, Shelf, VcName, SpMore, SpName. No condition. -/
import Derived.Laws.StructEq
import Derived.Shelf.Strings.Count
import Derived.Shelf.Strings.SlTrimAscii
import Derived.ChangeKeysEq
import Derived.Test.YtbedadcbbnmpkaaGreatDoorAb
set_option linter.unusedSimpArgs false
set_option linter.unusedVariables false
namespace Go.Proofs.YtbedadcbbnmpkaaGreatDoor
open Go Vc
section
def cShort (m : TMethod) : Bool := decide (m.code.length <= 128) && decide (m.lits.length <= 16) && decide (0 <= m.args) && decide (0 <= m.temps) && decide (m.args <= 8) && decide (m.temps <= 8 - m.args)
def cEnds (code : List Int) : Bool :=
 if code.length < 2 then false else if code.length % 2 ≠ 0 then false else
  let op := code.getD (code.length - 2) 0
  decide (op = 14) || decide (op = 19) || decide (op = 16)
def cFetch (code : List Int) (pc : Int) : Int × Int × Bool :=
 if pc < 0 then (0,0,false) else if pc % 2 ≠ 0 then (0,0,false) else if (code.length : Int) - 1 <= pc then (0,0,false) else (code.getD pc.toNat 0,code.getD (pc.toNat + 1) 0,true)
def cTakes (p : Int) : Int :=
 if p = 14 \/ p = 17 \/ p = 21 \/ p = 23 then 0
 else if p = 6 \/ p = 7 \/ p = 10 \/ p = 11 \/ p = 15 \/ p = 16 \/ p = 18 \/ p = 22 then 1
 else if p = 0 \/ p = 1 \/ p = 2 \/ p = 3 \/ p = 4 \/ p = 5 \/ p = 8 \/ p = 12 \/ p = 13 \/ p = 20 then 2
 else if p = 9 \/ p = 19 then 3 else -1
def cLit (v : TVal) (names classes methods : Nat) : Bool :=
 if v.kind = 3 then decide (-1073741824 <= v.n) && decide (v.n <= 1073741823)
 else if v.kind = 5 then decide (0 <= v.n) && decide (v.n < names)
 else if v.kind = 6 then decide (0 <= v.n) && decide (v.n < classes)
 else if v.kind = 7 then decide (0 <= v.n) && decide (v.n < methods)
 else false
def cLiteral (lits : List TVal) (i kind : Int) : Bool := decide (i < lits.length) && decide ((lits.getD i.toNat default).kind = kind)
def cInst (m : TMethod) (op arg pc : Int) : Bool :=
 if op = 0 \/ op = 10 then decide (arg < IntKind.wrap .i64 (m.args + m.temps))
 else if op = 1 \/ op = 11 then decide (arg < 62)
 else if op = 2 then cLiteral m.lits arg 3
 else if op = 12 \/ op = 13 then cLiteral m.lits arg 5
 else if op = 20 then cLiteral m.lits arg 6 && decide (2 <= (m.lits.getD arg.toNat default).n)
 else if op = 18 then cLiteral m.lits arg 7
 else if op = 15 \/ op = 17 then decide (pc + 2 + 2 * arg < m.code.length)
 else if op = 16 then decide (2 * arg <= pc)
 else if op = 21 then decide (0 <= cTakes arg)
 else decide (op <= 21)
theorem Bytes.getD {l : List Int} (h : Bytes l) (i : Nat) : 0 <= l.getD i 0 /\ l.getD i 0 < 256 := by
 rw [List.getD_eq_getElem?_getD]
 cases hi : l[i]? with
 | none => simp
 | some x => exact h x (List.mem_of_getElem? hi)
section
variable {ok : Nat -> Prop} {c : CMethod} {m : TMethod}
theorem code_short_ok {w : World} (hm : IsMethod w.heap ok c m) : Calls P F.Z46 #[.agg #[.int .i64 c.args,.int .i64 c.temps,.slice c.lits.p c.lits.n c.lits.c,.slice c.code.p c.code.n c.code.c]] w (Mk (.bool (cShort m)) w) := by
 refine oZ46 ?_
 refine newB_i ?_; intro b w1 b_eq hB hN w1_sz; try simp only [drew_heap',dr_heap] at b_eq hN
 simp only [holds,Z1,Z2,Z3,Z4,Z5,Z6,Z7,Z8,Z9,ZA,ZB,ZC,ZD,ZE,ZF,ZG,true_and,and_true,ZS,ZT,exists_eq',and_assoc,wv_eq,dr_cell,ZU,join_eq,br_true,br_false,chk_true,decide_true,decide_false,Bool.not_true,Bool.not_false,Nat.zero_add,sets,ZH,ZI,onPtr_some,onIface_some,onFunc_some,nilVC_iface,hB.cell]
 rw [hm.args,hm.temps]
 have e1 := hm.code.len; have e2 := hm.lits.len
 refine br_of (fun h1 => ?_) (fun h1 => ?_) <;> simp only [ZJ,ZK,ZL,ZM,ZN,ZO,ZP,ZQ,ZR] at h1
 ·refine br_of (fun h2 => ?_) (fun h2 => ?_) <;> simp only [ZJ,ZK,ZL,ZM,ZN,ZO,ZP,ZQ,ZR] at h2
  ·refine br_of (fun h3 => ?_) (fun h3 => ?_) <;> simp only [ZJ,ZK,ZL,ZM,ZN,ZO,ZP,ZQ,ZR] at h3
   ·refine br_of (fun h4 => ?_) (fun h4 => ?_) <;> simp only [ZJ,ZK,ZL,ZM,ZN,ZO,ZP,ZQ,ZR] at h4
    ·refine br_of (fun h5 => ?_) (fun h5 => ?_) <;> simp only [ZJ,ZK,ZL,ZM,ZN,ZO,ZP,ZQ,ZR] at h5
     ·rw [wrap_id (by omega) (by omega)]
      exact ⟨by congr 2; simp [cShort]; omega,hN⟩
     ·exact ⟨by congr 2; simp [cShort]; omega,hN⟩
    ·exact ⟨by congr 2; simp [cShort]; omega,hN⟩
   ·exact ⟨by congr 2; simp [cShort]; omega,hN⟩
  ·exact ⟨by congr 2; simp [cShort]; omega,hN⟩
 ·exact ⟨by congr 2; simp [cShort]; omega,hN⟩
theorem code_ends_ok {w : World} (hm : IsMethod w.heap ok c m) : Calls P F.Z47 #[.agg #[.int .i64 c.args,.int .i64 c.temps,.slice c.lits.p c.lits.n c.lits.c,.slice c.code.p c.code.n c.code.c]] w (Mk (.bool (cEnds m.code)) w) := by
 refine oZ47 ?_
 refine newB_i ?_; intro b w1 b_eq hB hN w1_sz; try simp only [drew_heap',dr_heap] at b_eq hN
 simp only [holds,Z1,Z2,Z3,Z4,Z5,Z6,Z7,Z8,Z9,ZA,ZB,ZC,ZD,ZE,ZF,ZG,true_and,and_true,ZS,ZT,exists_eq',and_assoc,wv_eq,dr_cell,ZU,join_eq,br_true,br_false,chk_true,decide_true,decide_false,Bool.not_true,Bool.not_false,Nat.zero_add,sets,ZH,ZI,onPtr_some,onIface_some,onFunc_some,nilVC_iface,hB.cell]
 have e1 := hm.code.len; have hs := hm.code.small
 have ht : Int.tmod (c.code.n : Int) 2 = (c.code.n : Int) % 2 := Int.tmod_eq_emod_of_nonneg (by omega)
 unfold cEnds
 rw [e1]
 refine br_of (fun h1 => ?_) (fun h1 => ?_) <;> simp only [ZJ,ZK,ZL,ZM,ZN,ZO,ZP,ZQ,ZR] at h1
 ·rw [if_pos (by omega)]; exact ⟨rfl,hN⟩
 ·refine br_of (fun h2 => ?_) (fun h2 => ?_) <;> simp only [ZJ,ZK,ZL,ZM,ZN,ZO,ZP,ZQ,ZR] at h2
  ·rw [if_neg (by omega),if_pos (by omega)]; exact ⟨rfl,hN⟩
  ·rw [if_neg (by omega),if_neg (by omega),show IntKind.wrap .i64 ((c.code.n : Int) - 2) = ((c.code.n - 2 : Nat) : Int) by rw [wrap_id (by omega) (by omega)]; omega]
   refine chk_of (by simp; omega) ?_
   refine (hm.code.nw hN).idx1 (i := c.code.n - 2) (getD_some (d := 0) (by omega)) ?_; intro g o _ hc
   refine ⟨_,hc,?_⟩
   have hb := hm.bytes.getD (c.code.n - 2)
   rw [wrap_id (by omega) (by omega)]
   generalize m.code.getD (c.code.n - 2) 0 = op
   refine br_of (fun h3 => ?_) (fun h3 => ?_) <;> simp only [ZJ,ZK,ZL,ZM,ZN,ZO,ZP,ZQ,ZR] at h3
   ·exact ⟨by simp [h3],hN⟩
   ·refine br_of (fun h4 => ?_) (fun h4 => ?_) <;> simp only [ZJ,ZK,ZL,ZM,ZN,ZO,ZP,ZQ,ZR] at h4
    ·exact ⟨by simp [h4],hN⟩
    ·exact ⟨by simp [h3,h4],hN⟩
theorem code_Fetch_ok {w : World} {pc : Int} (hm : IsMethod w.heap ok c m) : Calls P F.Zt #[.agg #[.int .i64 c.args,.int .i64 c.temps,.slice c.lits.p c.lits.n c.lits.c,.slice c.code.p c.code.n c.code.c],.int .i64 pc] w
  (Mk (.tuple #[.agg #[.int .i64 (cFetch m.code pc).1,.int .i64 (cFetch m.code pc).2.1],.bool (cFetch m.code pc).2.2]) w) := by
 refine oZt ?_
 refine newB_i ?_; intro b w1 b_eq hB hN w1_sz; try simp only [drew_heap',dr_heap] at b_eq hN
 refine newB_i ?_; intro b1 w2 b1_eq hB1 hN1 w2_sz; try simp only [drew_heap',dr_heap] at b1_eq hN1
 replace hB := hB.nw hN1
 have hN2 := hN.tr hN1
 have e1 := hm.code.len; have hs := hm.code.small
 unfold cFetch
 rw [e1]
 simp only [holds,Z1,Z2,Z3,Z4,Z5,Z6,Z7,Z8,Z9,ZA,ZB,ZC,ZD,ZE,ZF,ZG,true_and,and_true,ZS,ZT,exists_eq',and_assoc,wv_eq,dr_cell,ZU,join_eq,br_true,br_false,chk_true,decide_true,decide_false,Bool.not_true,Bool.not_false,Nat.zero_add,sets,ZH,ZI,onPtr_some,onIface_some,onFunc_some,nilVC_iface,hB.cell]
 refine br_of (fun h1 => ?_) (fun h1 => ?_) <;> simp only [ZJ,ZK,ZL,ZM,ZN,ZO,ZP,ZQ,ZR] at h1
 ·rw [if_pos h1]
  refine stores_i hB1 (by simp [sets_length]) ?_; intro w5 hB5 hF5 w5_sz; try simp only [drew_heap',dr_heap] at w5_sz hF5
  simp only [holds,Z1,Z2,Z3,Z4,Z5,Z6,Z7,Z8,Z9,ZA,ZB,ZC,ZD,ZE,ZF,ZG,true_and,and_true,ZS,ZT,exists_eq',and_assoc,wv_eq,dr_cell,ZU,join_eq,br_true,br_false,chk_true,decide_true,decide_false,Bool.not_true,Bool.not_false,Nat.zero_add,sets,ZH,ZI,onPtr_some,onIface_some,onFunc_some,nilVC_iface,hB5.cell]
  exact ⟨rfl,hN2.st hF5 (by omega)⟩
 ·have ht : Int.tmod pc 2 = pc % 2 := Int.tmod_eq_emod_of_nonneg h1
  rw [if_neg (by omega)]
  refine br_of (fun h2 => ?_) (fun h2 => ?_) <;> simp only [ZJ,ZK,ZL,ZM,ZN,ZO,ZP,ZQ,ZR] at h2
  ·rw [if_pos (by omega)]
   refine stores_i hB1 (by simp [sets_length]) ?_; intro w5 hB5 hF5 w5_sz; try simp only [drew_heap',dr_heap] at w5_sz hF5
   simp only [holds,Z1,Z2,Z3,Z4,Z5,Z6,Z7,Z8,Z9,ZA,ZB,ZC,ZD,ZE,ZF,ZG,true_and,and_true,ZS,ZT,exists_eq',and_assoc,wv_eq,dr_cell,ZU,join_eq,br_true,br_false,chk_true,decide_true,decide_false,Bool.not_true,Bool.not_false,Nat.zero_add,sets,ZH,ZI,onPtr_some,onIface_some,onFunc_some,nilVC_iface,hB5.cell]
   exact ⟨rfl,hN2.st hF5 (by omega)⟩
  ·rw [if_neg (by omega)]
   rw [wrap_id (x := (c.code.n : Int) - 1) (by omega) (by omega)]
   refine br_of (fun h3 => ?_) (fun h3 => ?_) <;> simp only [ZJ,ZK,ZL,ZM,ZN,ZO,ZP,ZQ,ZR] at h3
   ·rw [if_pos h3]
    refine stores_i hB1 (by simp [sets_length]) ?_; intro w5 hB5 hF5 w5_sz; try simp only [drew_heap',dr_heap] at w5_sz hF5
    simp only [holds,Z1,Z2,Z3,Z4,Z5,Z6,Z7,Z8,Z9,ZA,ZB,ZC,ZD,ZE,ZF,ZG,true_and,and_true,ZS,ZT,exists_eq',and_assoc,wv_eq,dr_cell,ZU,join_eq,br_true,br_false,chk_true,decide_true,decide_false,Bool.not_true,Bool.not_false,Nat.zero_add,sets,ZH,ZI,onPtr_some,onIface_some,onFunc_some,nilVC_iface,hB5.cell]
    exact ⟨rfl,hN2.st hF5 (by omega)⟩
   ·rw [if_neg (by omega),wrap_id (x := pc + 1) (by omega) (by omega)]
    refine chk_of (by simp; omega) ?_
    refine (hm.code.nw hN2).idx1 (i := pc.toNat) (getD_some (d := 0) (by omega)) ?_; intro g o _ hc
    refine ⟨_,hc,?_⟩
    refine chk_of (by simp; omega) ?_
    refine (hm.code.nw hN2).idx1 (i := pc.toNat + 1) (getD_some (d := 0) (by omega)) ?_; intro g1 o1 _ hc1
    refine ⟨_,by rw [show (pc + 1).toNat = pc.toNat + 1 by omega]; exact hc1,?_⟩
    have hb := hm.bytes.getD pc.toNat; have hb1 := hm.bytes.getD (pc.toNat + 1)
    rw [wrap_id (by omega) (by omega),wrap_id (by omega) (by omega)]
    refine stores_i hB1 (by simp [sets_length]) ?_; intro w5 hB5 hF5 w5_sz; try simp only [drew_heap',dr_heap] at w5_sz hF5
    simp only [holds,Z1,Z2,Z3,Z4,Z5,Z6,Z7,Z8,Z9,ZA,ZB,ZC,ZD,ZE,ZF,ZG,true_and,and_true,ZS,ZT,exists_eq',and_assoc,wv_eq,dr_cell,ZU,join_eq,br_true,br_false,chk_true,decide_true,decide_false,Bool.not_true,Bool.not_false,Nat.zero_add,sets,ZH,ZI,onPtr_some,onIface_some,onFunc_some,nilVC_iface,hB5.cell]
    exact ⟨rfl,hN2.st hF5 (by omega)⟩
theorem code_Takes_ok (p : Int) (w : World) : Calls P F.Z2k #[.int .i64 p] w (Is (.int .i64 (cTakes p)) w) := by
 refine oZ2k ?_
 unfold vZ2k
 simp only [br_or,join_eq]
 have key : ∀ r,cTakes p = r -> Is (.int .i64 (cTakes p)) w (.returned (.int .i64 r)) w := by rintro r rfl; exact Is.mk _ _
 simp only [br_ite,Bool.or_eq_true,ZJ]
 unfold cTakes at *
 repeat' split
 all_goals first
  | exact Is.mk _ _
  | (exfalso; omega)
theorem code_lit_ok {w : World} {v : TVal} {u : CUnit} : Calls P F.Z49 #[.agg #[.int .i64 v.kind,.int .i64 v.n],.agg #[.slice u.names.p u.names.n u.names.c,.slice u.classes.p u.classes.n u.classes.c,.slice u.methods.p u.methods.n u.methods.c,.slice u.objects.p u.objects.n u.objects.c,.int .i64 u.main]] w
  (Mk (.bool (cLit v u.names.n u.classes.n u.methods.n)) w) := by
 refine oZ49 ?_
 refine newB_i ?_; intro b w1 b_eq hB hN w1_sz; try simp only [drew_heap',dr_heap] at b_eq hN
 refine newB_i ?_; intro b1 w2 b1_eq hB1 hN1 w2_sz; try simp only [drew_heap',dr_heap] at b1_eq hN1
 replace hB := hB.nw hN1
 have hN2 := hN.tr hN1
 simp only [holds,Z1,Z2,Z3,Z4,Z5,Z6,Z7,Z8,Z9,ZA,ZB,ZC,ZD,ZE,ZF,ZG,true_and,and_true,ZS,ZT,exists_eq',and_assoc,wv_eq,dr_cell,ZU,join_eq,br_true,br_false,chk_true,decide_true,decide_false,Bool.not_true,Bool.not_false,Nat.zero_add,sets,ZH,ZI,onPtr_some,onIface_some,onFunc_some,nilVC_iface,hB.cell,hB1.cell]
 unfold cLit
 refine br_of (fun h1 => ?_) (fun h1 => ?_) <;> simp only [ZJ,ZK,ZL,ZM,ZN,ZO,ZP,ZQ,ZR] at h1
 ·refine br_of (fun h2 => ?_) (fun h2 => ?_) <;> simp only [ZJ,ZK,ZL,ZM,ZN,ZO,ZP,ZQ,ZR] at h2
  ·exact ⟨by simp [h1,h2],hN2⟩
  ·exact ⟨by simp [h1]; omega,hN2⟩
 ·refine br_of (fun h2 => ?_) (fun h2 => ?_) <;> simp only [ZJ,ZK,ZL,ZM,ZN,ZO,ZP,ZQ,ZR] at h2
  ·refine br_of (fun h3 => ?_) (fun h3 => ?_) <;> simp only [ZJ,ZK,ZL,ZM,ZN,ZO,ZP,ZQ,ZR] at h3
   ·exact ⟨by simp [h2,h3],hN2⟩
   ·exact ⟨by simp [h2]; omega,hN2⟩
  ·refine br_of (fun h3 => ?_) (fun h3 => ?_) <;> simp only [ZJ,ZK,ZL,ZM,ZN,ZO,ZP,ZQ,ZR] at h3
   ·refine br_of (fun h4 => ?_) (fun h4 => ?_) <;> simp only [ZJ,ZK,ZL,ZM,ZN,ZO,ZP,ZQ,ZR] at h4
    ·exact ⟨by simp [h3,h4],hN2⟩
    ·exact ⟨by simp [h3]; omega,hN2⟩
   ·refine br_of (fun h4 => ?_) (fun h4 => ?_) <;> simp only [ZJ,ZK,ZL,ZM,ZN,ZO,ZP,ZQ,ZR] at h4
    ·refine br_of (fun h5 => ?_) (fun h5 => ?_) <;> simp only [ZJ,ZK,ZL,ZM,ZN,ZO,ZP,ZQ,ZR] at h5
     ·exact ⟨by simp [h4,h5],hN2⟩
     ·exact ⟨by simp [h4]; omega,hN2⟩
    ·exact ⟨by simp [h1,h2,h3,h4],hN2⟩
theorem code_literal_ok {w : World} {i kind : Int} (hm : IsMethod w.heap ok c m) (hi : 0 <= i) : Calls P F.Z4m #[.agg #[.int .i64 c.args,.int .i64 c.temps,.slice c.lits.p c.lits.n c.lits.c,.slice c.code.p c.code.n c.code.c],.int .i64 i,.int .i64 kind] w
  (Mk (.bool (cLiteral m.lits i kind)) w) := by
 refine oZ4m ?_
 refine newB_i ?_; intro b w1 b_eq hB hN w1_sz; try simp only [drew_heap',dr_heap] at b_eq hN
 simp only [holds,Z1,Z2,Z3,Z4,Z5,Z6,Z7,Z8,Z9,ZA,ZB,ZC,ZD,ZE,ZF,ZG,true_and,and_true,ZS,ZT,exists_eq',and_assoc,wv_eq,dr_cell,ZU,join_eq,br_true,br_false,chk_true,decide_true,decide_false,Bool.not_true,Bool.not_false,Nat.zero_add,sets,ZH,ZI,onPtr_some,onIface_some,onFunc_some,nilVC_iface,hB.cell]
 have e1 := hm.lits.len
 unfold cLiteral
 rw [e1]
 refine br_of (fun h1 => ?_) (fun h1 => ?_) <;> simp only [ZJ,ZK,ZL,ZM,ZN,ZO,ZP,ZQ,ZR] at h1
 ·refine chk_of (by simp; omega) ?_
  refine (hm.lits.nw hN).idx (i := i.toNat) (getD_some (d := default) (by omega)) ?_; intro g o _ hc
  refine ⟨_,hc.1,?_⟩
  exact ⟨by simp [h1],hN⟩
 ·exact ⟨by simp; omega,hN⟩
theorem code_inst_ok {w : World} {op arg pc : Int} (hm : IsMethod w.heap ok c m) (ha : 0 <= arg /\ arg < 256) (hp : 0 <= pc /\ pc <= 1125899906842624) : Calls P F.Z4a #[.agg #[.int .i64 c.args,.int .i64 c.temps,.slice c.lits.p c.lits.n c.lits.c,.slice c.code.p c.code.n c.code.c],.agg #[.int .i64 op,.int .i64 arg],.int .i64 pc] w
  (Mk (.bool (cInst m op arg pc)) w) := by
 refine oZ4a ?_
 refine newB_i ?_; intro b w1 b_eq hB hN w1_sz; try simp only [drew_heap',dr_heap] at b_eq hN
 refine newB_i ?_; intro b1 w2 b1_eq hB1 hN1 w2_sz; try simp only [drew_heap',dr_heap] at b1_eq hN1
 replace hB := hB.nw hN1
 have hN2 := hN.tr hN1
 have hm2 := hm.nw hN2
 simp only [br_or]
 simp only [holds,Z1,Z2,Z3,Z4,Z5,Z6,Z7,Z8,Z9,ZA,ZB,ZC,ZD,ZE,ZF,ZG,true_and,and_true,ZS,ZT,exists_eq',and_assoc,wv_eq,dr_cell,ZU,join_eq,br_true,br_false,chk_true,decide_true,decide_false,Bool.not_true,Bool.not_false,Nat.zero_add,sets,ZH,ZI,onPtr_some,onIface_some,onFunc_some,nilVC_iface,hB.cell,hB1.cell]
 unfold cInst
 refine br_of (fun h1 => ?_) (fun h1 => ?_) <;> simp only [Bool.or_eq_true,Bool.or_eq_false_iff,ZJ,ZK,<- not_or] at h1
 ·rw [if_pos h1,hm.args,hm.temps]; exact ⟨rfl,hN2⟩
 rw [if_neg h1]
 refine br_of (fun h2 => ?_) (fun h2 => ?_) <;> simp only [Bool.or_eq_true,Bool.or_eq_false_iff,ZJ,ZK,<- not_or] at h2
 ·rw [if_pos h2]; exact ⟨rfl,hN2⟩
 rw [if_neg h2]
 refine br_of (fun h3 => ?_) (fun h3 => ?_) <;> simp only [ZJ,ZK,ZL,ZM,ZN,ZO,ZP,ZQ,ZR] at h3
 ·rw [if_pos h3]
  refine (code_literal_ok hm2 ha.1).mono ?_; rintro _ w3 ⟨rfl,hN3⟩
  simp only [holds,Z1,Z2,Z3,Z4,Z5,Z6,Z7,Z8,Z9,ZA,ZB,ZC,ZD,ZE,ZF,ZG,true_and,and_true,ZS,ZT,exists_eq',and_assoc,wv_eq,dr_cell,ZU,join_eq,br_true,br_false,chk_true,decide_true,decide_false,Bool.not_true,Bool.not_false,Nat.zero_add,sets,ZH,ZI,onPtr_some,onIface_some,onFunc_some,nilVC_iface]
  exact ⟨rfl,hN2.tr hN3⟩
 rw [if_neg h3]
 refine br_of (fun h4 => ?_) (fun h4 => ?_) <;> simp only [Bool.or_eq_true,Bool.or_eq_false_iff,ZJ,ZK,<- not_or] at h4
 ·rw [if_pos h4]
  refine (code_literal_ok hm2 ha.1).mono ?_; rintro _ w3 ⟨rfl,hN3⟩
  simp only [holds,Z1,Z2,Z3,Z4,Z5,Z6,Z7,Z8,Z9,ZA,ZB,ZC,ZD,ZE,ZF,ZG,true_and,and_true,ZS,ZT,exists_eq',and_assoc,wv_eq,dr_cell,ZU,join_eq,br_true,br_false,chk_true,decide_true,decide_false,Bool.not_true,Bool.not_false,Nat.zero_add,sets,ZH,ZI,onPtr_some,onIface_some,onFunc_some,nilVC_iface]
  exact ⟨rfl,hN2.tr hN3⟩
 rw [if_neg h4]
 refine br_of (fun h5 => ?_) (fun h5 => ?_) <;> simp only [ZJ,ZK,ZL,ZM,ZN,ZO,ZP,ZQ,ZR] at h5
 ·rw [if_pos h5]
  refine (code_literal_ok hm2 ha.1).mono ?_; rintro _ w3 ⟨rfl,hN3⟩
  replace hB := hB.nw hN3; replace hB1 := hB1.nw hN3
  simp only [holds,Z1,Z2,Z3,Z4,Z5,Z6,Z7,Z8,Z9,ZA,ZB,ZC,ZD,ZE,ZF,ZG,true_and,and_true,ZS,ZT,exists_eq',and_assoc,wv_eq,dr_cell,ZU,join_eq,br_true,br_false,chk_true,decide_true,decide_false,Bool.not_true,Bool.not_false,Nat.zero_add,sets,ZH,ZI,onPtr_some,onIface_some,onFunc_some,nilVC_iface,hB.cell,hB1.cell]
  refine br_of (fun h6 => ?_) (fun h6 => ?_)
  ·have hl : arg < m.lits.length := by simp [cLiteral] at h6; omega
   have e1 := hm.lits.len
   refine chk_of (by simp; omega) ?_
   refine (hm2.lits.nw hN3).idx (i := arg.toNat) (getD_some (d := default) (by omega)) ?_; intro g o _ hc
   refine ⟨_,hc.2,?_⟩
   exact ⟨by rw [h6,Bool.true_and],hN2.tr hN3⟩
  ·exact ⟨by rw [h6,Bool.false_and],hN2.tr hN3⟩
 rw [if_neg h5]
 refine br_of (fun h6 => ?_) (fun h6 => ?_) <;> simp only [ZJ,ZK,ZL,ZM,ZN,ZO,ZP,ZQ,ZR] at h6
 ·rw [if_pos h6]
  refine (code_literal_ok hm2 ha.1).mono ?_; rintro _ w3 ⟨rfl,hN3⟩
  simp only [holds,Z1,Z2,Z3,Z4,Z5,Z6,Z7,Z8,Z9,ZA,ZB,ZC,ZD,ZE,ZF,ZG,true_and,and_true,ZS,ZT,exists_eq',and_assoc,wv_eq,dr_cell,ZU,join_eq,br_true,br_false,chk_true,decide_true,decide_false,Bool.not_true,Bool.not_false,Nat.zero_add,sets,ZH,ZI,onPtr_some,onIface_some,onFunc_some,nilVC_iface]
  exact ⟨rfl,hN2.tr hN3⟩
 rw [if_neg h6]
 refine br_of (fun h7 => ?_) (fun h7 => ?_) <;> simp only [Bool.or_eq_true,Bool.or_eq_false_iff,ZJ,ZK,<- not_or] at h7
 ·rw [if_pos h7,wrap_id (x := pc + 2) (by omega) (by omega),wrap_id (x := 2 * arg) (by omega) (by omega),wrap_id (by omega) (by omega),hm.code.len]; exact ⟨rfl,hN2⟩
 rw [if_neg h7]
 refine br_of (fun h8 => ?_) (fun h8 => ?_) <;> simp only [ZJ,ZK,ZL,ZM,ZN,ZO,ZP,ZQ,ZR] at h8
 ·rw [if_pos h8,wrap_id (by omega) (by omega)]; exact ⟨rfl,hN2⟩
 rw [if_neg h8]
 refine br_of (fun h9 => ?_) (fun h9 => ?_) <;> simp only [ZJ,ZK,ZL,ZM,ZN,ZO,ZP,ZQ,ZR] at h9
 ·rw [if_pos h9]
  refine (code_Takes_ok arg w2).mono ?_; rintro _ _ ⟨rfl,n,rfl⟩
  simp only [holds,Z1,Z2,Z3,Z4,Z5,Z6,Z7,Z8,Z9,ZA,ZB,ZC,ZD,ZE,ZF,ZG,true_and,and_true,ZS,ZT,exists_eq',and_assoc,wv_eq,dr_cell,ZU,join_eq,br_true,br_false,chk_true,decide_true,decide_false,Bool.not_true,Bool.not_false,Nat.zero_add,sets,ZH,ZI,onPtr_some,onIface_some,onFunc_some,nilVC_iface]
  exact ⟨rfl,hN2⟩
 ·rw [if_neg h9]
  exact ⟨rfl,hN2⟩
end
end
section
abbrev Fresh (h : Hp) : Nat -> Prop := fun b => h.size <= b
def NewSl {α : Type} (E : Enc α) (l : List α) (n : Nat) (w : World) : Ending -> World -> Prop :=
 fun en w' => ∃ p c,en = .returned (.slice p n c) /\ Sl w'.heap (Fresh w.heap) E p n c l /\ Nw w.heap w'.heap
theorem slices_Clip_api_Event_api_Event_ok {w : World} {ok : Nat -> Prop} {p : Option Addr} {n c : Nat} {l : List TEvent} (hs : Sl w.heap ok eEvent p n c l) :
  Calls P F.Zz #[.slice p n c] w fun en w' => ∃ p',en = .returned (.slice p' n n) /\ w' = w /\ Sl w.heap ok eEvent p' n n l := by
 refine oZz ?_
 have hc := hs.cap
 refine chk_of (by simp; omega) ?_
 have := hs.cut (lo := 0) (hi := n) (mx := n) (Nat.zero_le _) (Nat.le_refl _) (Nat.le_refl _) hc
 simp only [List.drop_zero,Nat.sub_zero,List.take_of_length_le (Nat.le_of_eq hs.len)] at this
 exact ⟨_,rfl,rfl,this⟩
theorem slices_Clone_api_Event_api_Event_ok {w : World} {ok : Nat -> Prop} {p : Option Addr} {n c : Nat} {l : List TEvent} (hs : Sl w.heap ok eEvent p n c l) (hn : n <= 1073741824) :
  Calls P F.Z10 #[.slice p n c] w (NewSl eEvent l n w) := by
 refine oZ10 ?_
 unfold vZ10
 cases p with
 | none =>
  have h0 := hs.nul rfl
  have hn0 : n = 0 := by have := hs.cap; omega
  subst hn0
  have hl : l = [] := List.eq_nil_of_length_eq_zero hs.len
  subst hl
  exact ⟨_,_,rfl,Sl.nil,Nw.rfl'⟩
 | some a =>
  simp only [Option.isNone_some,br_false]
  refine newB_i ?_; intro b w1 b_eq hB hN w1_sz; try simp only [drew_heap',dr_heap] at b_eq hN
  have hb : Sl w1.heap (Fresh w.heap) eEvent (some ⟨b,0,none⟩) 0 0 [] := ⟨rfl,Nat.le_refl _,(by intro h; cases h),(fun h => absurd rfl h),by omega⟩
  refine append_r ty_event hb (hs.nw hN) (by omega) ?_
  intro p' c' w2 h2 hf
  rw [Nat.zero_add] at h2 ⊢
  exact ⟨_,_,rfl,by simpa using h2.mono fun x _ hx => by rcases hx with hx | hx; exact hx; exact Nat.le_trans hN.le hx,hN.tr' hf fun x hx => hx⟩
theorem slices_Clip_int_int_ok {w : World} {ok : Nat -> Prop} {p : Option Addr} {n c : Nat} {l : List Int} (hs : Sl w.heap ok eI64 p n c l) :
  Calls P F.Z19 #[.slice p n c] w fun en w' => ∃ p',en = .returned (.slice p' n n) /\ w' = w /\ Sl w.heap ok eI64 p' n n l := by
 refine oZ19 ?_
 have hc := hs.cap
 refine chk_of (by simp; omega) ?_
 have := hs.cut (lo := 0) (hi := n) (mx := n) (Nat.zero_le _) (Nat.le_refl _) (Nat.le_refl _) hc
 simp only [List.drop_zero,Nat.sub_zero,List.take_of_length_le (Nat.le_of_eq hs.len)] at this
 exact ⟨_,rfl,rfl,this⟩
theorem slices_Clone_int_int_ok {w : World} {ok : Nat -> Prop} {p : Option Addr} {n c : Nat} {l : List Int} (hs : Sl w.heap ok eI64 p n c l) (hn : n <= 1073741824) :
  Calls P F.Z23 #[.slice p n c] w (NewSl eI64 l n w) := by
 refine oZ23 ?_
 unfold vZ23
 cases p with
 | none =>
  have h0 := hs.nul rfl
  have hn0 : n = 0 := by have := hs.cap; omega
  subst hn0
  have hl : l = [] := List.eq_nil_of_length_eq_zero hs.len
  subst hl
  exact ⟨_,_,rfl,Sl.nil,Nw.rfl'⟩
 | some a =>
  simp only [Option.isNone_some,br_false]
  refine newB_i ?_; intro b w1 b_eq hB hN w1_sz; try simp only [drew_heap',dr_heap] at b_eq hN
  have hb : Sl w1.heap (Fresh w.heap) eI64 (some ⟨b,0,none⟩) 0 0 [] := ⟨rfl,Nat.le_refl _,(by intro h; cases h),(fun h => absurd rfl h),by omega⟩
  refine append_r ty_int hb (hs.nw hN) (by omega) ?_
  intro p' c' w2 h2 hf
  rw [Nat.zero_add] at h2 ⊢
  exact ⟨_,_,rfl,by simpa using h2.mono fun x _ hx => by rcases hx with hx | hx; exact hx; exact Nat.le_trans hN.le hx,hN.tr' hf fun x hx => hx⟩
theorem slices_Clip_string_string_ok {w : World} {ok : Nat -> Prop} {p : Option Addr} {n c : Nat} {l : List ByteArray} (hs : Sl w.heap ok eStr p n c l) :
  Calls P F.Z1a #[.slice p n c] w fun en w' => ∃ p',en = .returned (.slice p' n n) /\ w' = w /\ Sl w.heap ok eStr p' n n l := by
 refine oZ1a ?_
 have hc := hs.cap
 refine chk_of (by simp; omega) ?_
 have := hs.cut (lo := 0) (hi := n) (mx := n) (Nat.zero_le _) (Nat.le_refl _) (Nat.le_refl _) hc
 simp only [List.drop_zero,Nat.sub_zero,List.take_of_length_le (Nat.le_of_eq hs.len)] at this
 exact ⟨_,rfl,rfl,this⟩
theorem slices_Clone_string_string_ok {w : World} {ok : Nat -> Prop} {p : Option Addr} {n c : Nat} {l : List ByteArray} (hs : Sl w.heap ok eStr p n c l) (hn : n <= 1073741824) :
  Calls P F.Z1b #[.slice p n c] w (NewSl eStr l n w) := by
 refine oZ1b ?_
 unfold vZ1b
 cases p with
 | none =>
  have h0 := hs.nul rfl
  have hn0 : n = 0 := by have := hs.cap; omega
  subst hn0
  have hl : l = [] := List.eq_nil_of_length_eq_zero hs.len
  subst hl
  exact ⟨_,_,rfl,Sl.nil,Nw.rfl'⟩
 | some a =>
  simp only [Option.isNone_some,br_false]
  refine newB_i ?_; intro b w1 b_eq hB hN w1_sz; try simp only [drew_heap',dr_heap] at b_eq hN
  have hb : Sl w1.heap (Fresh w.heap) eStr (some ⟨b,0,none⟩) 0 0 [] := ⟨rfl,Nat.le_refl _,(by intro h; cases h),(fun h => absurd rfl h),by omega⟩
  refine append_r ty_str hb (hs.nw hN) (by omega) ?_
  intro p' c' w2 h2 hf
  rw [Nat.zero_add] at h2 ⊢
  exact ⟨_,_,rfl,by simpa using h2.mono fun x _ hx => by rcases hx with hx | hx; exact hx; exact Nat.le_trans hN.le hx,hN.tr' hf fun x hx => hx⟩
theorem slices_Clip_api_Bind_api_Bind_ok {w : World} {ok : Nat -> Prop} {p : Option Addr} {n c : Nat} {l : List TBind} (hs : Sl w.heap ok eBind p n c l) :
  Calls P F.Z1c #[.slice p n c] w fun en w' => ∃ p',en = .returned (.slice p' n n) /\ w' = w /\ Sl w.heap ok eBind p' n n l := by
 refine oZ1c ?_
 have hc := hs.cap
 refine chk_of (by simp; omega) ?_
 have := hs.cut (lo := 0) (hi := n) (mx := n) (Nat.zero_le _) (Nat.le_refl _) (Nat.le_refl _) hc
 simp only [List.drop_zero,Nat.sub_zero,List.take_of_length_le (Nat.le_of_eq hs.len)] at this
 exact ⟨_,rfl,rfl,this⟩
theorem slices_Clone_api_Bind_api_Bind_ok {w : World} {ok : Nat -> Prop} {p : Option Addr} {n c : Nat} {l : List TBind} (hs : Sl w.heap ok eBind p n c l) (hn : n <= 1073741824) :
  Calls P F.Z1d #[.slice p n c] w (NewSl eBind l n w) := by
 refine oZ1d ?_
 unfold vZ1d
 cases p with
 | none =>
  have h0 := hs.nul rfl
  have hn0 : n = 0 := by have := hs.cap; omega
  subst hn0
  have hl : l = [] := List.eq_nil_of_length_eq_zero hs.len
  subst hl
  exact ⟨_,_,rfl,Sl.nil,Nw.rfl'⟩
 | some a =>
  simp only [Option.isNone_some,br_false]
  refine newB_i ?_; intro b w1 b_eq hB hN w1_sz; try simp only [drew_heap',dr_heap] at b_eq hN
  have hb : Sl w1.heap (Fresh w.heap) eBind (some ⟨b,0,none⟩) 0 0 [] := ⟨rfl,Nat.le_refl _,(by intro h; cases h),(fun h => absurd rfl h),by omega⟩
  refine append_r ty_bind hb (hs.nw hN) (by omega) ?_
  intro p' c' w2 h2 hf
  rw [Nat.zero_add] at h2 ⊢
  exact ⟨_,_,rfl,by simpa using h2.mono fun x _ hx => by rcases hx with hx | hx; exact hx; exact Nat.le_trans hN.le hx,hN.tr' hf fun x hx => hx⟩
theorem slices_Clip_api_Val_api_Val_ok {w : World} {ok : Nat -> Prop} {p : Option Addr} {n c : Nat} {l : List TVal} (hs : Sl w.heap ok eVal p n c l) :
  Calls P F.Z1e #[.slice p n c] w fun en w' => ∃ p',en = .returned (.slice p' n n) /\ w' = w /\ Sl w.heap ok eVal p' n n l := by
 refine oZ1e ?_
 have hc := hs.cap
 refine chk_of (by simp; omega) ?_
 have := hs.cut (lo := 0) (hi := n) (mx := n) (Nat.zero_le _) (Nat.le_refl _) (Nat.le_refl _) hc
 simp only [List.drop_zero,Nat.sub_zero,List.take_of_length_le (Nat.le_of_eq hs.len)] at this
 exact ⟨_,rfl,rfl,this⟩
theorem slices_Clone_api_Val_api_Val_ok {w : World} {ok : Nat -> Prop} {p : Option Addr} {n c : Nat} {l : List TVal} (hs : Sl w.heap ok eVal p n c l) (hn : n <= 1073741824) :
  Calls P F.Z1f #[.slice p n c] w (NewSl eVal l n w) := by
 refine oZ1f ?_
 unfold vZ1f
 cases p with
 | none =>
  have h0 := hs.nul rfl
  have hn0 : n = 0 := by have := hs.cap; omega
  subst hn0
  have hl : l = [] := List.eq_nil_of_length_eq_zero hs.len
  subst hl
  exact ⟨_,_,rfl,Sl.nil,Nw.rfl'⟩
 | some a =>
  simp only [Option.isNone_some,br_false]
  refine newB_i ?_; intro b w1 b_eq hB hN w1_sz; try simp only [drew_heap',dr_heap] at b_eq hN
  have hb : Sl w1.heap (Fresh w.heap) eVal (some ⟨b,0,none⟩) 0 0 [] := ⟨rfl,Nat.le_refl _,(by intro h; cases h),(fun h => absurd rfl h),by omega⟩
  refine append_r ty_val hb (hs.nw hN) (by omega) ?_
  intro p' c' w2 h2 hf
  rw [Nat.zero_add] at h2 ⊢
  exact ⟨_,_,rfl,by simpa using h2.mono fun x _ hx => by rcases hx with hx | hx; exact hx; exact Nat.le_trans hN.le hx,hN.tr' hf fun x hx => hx⟩
theorem slices_Clip_byte_byte_ok {w : World} {ok : Nat -> Prop} {p : Option Addr} {n c : Nat} {l : List Int} (hs : Sl w.heap ok eU8 p n c l) :
  Calls P F.Z1g #[.slice p n c] w fun en w' => ∃ p',en = .returned (.slice p' n n) /\ w' = w /\ Sl w.heap ok eU8 p' n n l := by
 refine oZ1g ?_
 have hc := hs.cap
 refine chk_of (by simp; omega) ?_
 have := hs.cut (lo := 0) (hi := n) (mx := n) (Nat.zero_le _) (Nat.le_refl _) (Nat.le_refl _) hc
 simp only [List.drop_zero,Nat.sub_zero,List.take_of_length_le (Nat.le_of_eq hs.len)] at this
 exact ⟨_,rfl,rfl,this⟩
theorem slices_Clone_byte_byte_ok {w : World} {ok : Nat -> Prop} {p : Option Addr} {n c : Nat} {l : List Int} (hs : Sl w.heap ok eU8 p n c l) (hn : n <= 1073741824) :
  Calls P F.Z1h #[.slice p n c] w (NewSl eU8 l n w) := by
 refine oZ1h ?_
 unfold vZ1h
 cases p with
 | none =>
  have h0 := hs.nul rfl
  have hn0 : n = 0 := by have := hs.cap; omega
  subst hn0
  have hl : l = [] := List.eq_nil_of_length_eq_zero hs.len
  subst hl
  exact ⟨_,_,rfl,Sl.nil,Nw.rfl'⟩
 | some a =>
  simp only [Option.isNone_some,br_false]
  refine newB_i ?_; intro b w1 b_eq hB hN w1_sz; try simp only [drew_heap',dr_heap] at b_eq hN
  have hb : Sl w1.heap (Fresh w.heap) eU8 (some ⟨b,0,none⟩) 0 0 [] := ⟨rfl,Nat.le_refl _,(by intro h; cases h),(fun h => absurd rfl h),by omega⟩
  refine append_r ty_u8 hb (hs.nw hN) (by omega) ?_
  intro p' c' w2 h2 hf
  rw [Nat.zero_add] at h2 ⊢
  exact ⟨_,_,rfl,by simpa using h2.mono fun x _ hx => by rcases hx with hx | hx; exact hx; exact Nat.le_trans hN.le hx,hN.tr' hf fun x hx => hx⟩
theorem slices_Clip_uint32_uint32_ok {w : World} {ok : Nat -> Prop} {p : Option Addr} {n c : Nat} {l : List Int} (hs : Sl w.heap ok eU32 p n c l) :
  Calls P F.Z1q #[.slice p n c] w fun en w' => ∃ p',en = .returned (.slice p' n n) /\ w' = w /\ Sl w.heap ok eU32 p' n n l := by
 refine oZ1q ?_
 have hc := hs.cap
 refine chk_of (by simp; omega) ?_
 have := hs.cut (lo := 0) (hi := n) (mx := n) (Nat.zero_le _) (Nat.le_refl _) (Nat.le_refl _) hc
 simp only [List.drop_zero,Nat.sub_zero,List.take_of_length_le (Nat.le_of_eq hs.len)] at this
 exact ⟨_,rfl,rfl,this⟩
theorem slices_Clone_uint32_uint32_ok {w : World} {ok : Nat -> Prop} {p : Option Addr} {n c : Nat} {l : List Int} (hs : Sl w.heap ok eU32 p n c l) (hn : n <= 1073741824) :
  Calls P F.Z1r #[.slice p n c] w (NewSl eU32 l n w) := by
 refine oZ1r ?_
 unfold vZ1r
 cases p with
 | none =>
  have h0 := hs.nul rfl
  have hn0 : n = 0 := by have := hs.cap; omega
  subst hn0
  have hl : l = [] := List.eq_nil_of_length_eq_zero hs.len
  subst hl
  exact ⟨_,_,rfl,Sl.nil,Nw.rfl'⟩
 | some a =>
  simp only [Option.isNone_some,br_false]
  refine newB_i ?_; intro b w1 b_eq hB hN w1_sz; try simp only [drew_heap',dr_heap] at b_eq hN
  have hb : Sl w1.heap (Fresh w.heap) eU32 (some ⟨b,0,none⟩) 0 0 [] := ⟨rfl,Nat.le_refl _,(by intro h; cases h),(fun h => absurd rfl h),by omega⟩
  refine append_r ty_u32 hb (hs.nw hN) (by omega) ?_
  intro p' c' w2 h2 hf
  rw [Nat.zero_add] at h2 ⊢
  exact ⟨_,_,rfl,by simpa using h2.mono fun x _ hx => by rcases hx with hx | hx; exact hx; exact Nat.le_trans hN.le hx,hN.tr' hf fun x hx => hx⟩
theorem slices_IndexFunc_api_Val_api_Val_ok {w : World} {ok : Nat -> Prop} {p : Option Addr} {n c : Nat} {l : List TVal} {fn : FuncId} {fa fb : Array Value} (hs : Sl w.heap ok eVal p n c l) (q : TVal -> Bool) (hc : callable P fn = true)
  (hf : ∀ (x : TVal) (w1 : World),x ∈ l -> Nw w.heap w1.heap -> Calls P fn (fa ++ #[.agg (eVal.f x).toArray] ++ fb) w1 (Mk (.bool (q x)) w1)) :
  Calls P F.Z4e #[.slice p n c,.func (.func fn) fa fb] w fun en w' => ∃ i : Int,en = .returned (.int .i64 i) /\ (decide (0 <= i)) = l.any q /\ Nw w.heap w'.heap := by
 refine oZ4e ?_
 have hsm := hs.small; have hl := hs.len
 refine ⟨fun t w' => ∃ k : Nat,t = (k : Int) /\ k <= n /\ (l.take k).any q = false /\ Nw w.heap w'.heap,fun t _ => n - t.toNat,⟨0,rfl,Nat.zero_le _,rfl,Nw.rfl'⟩,?_⟩
 rintro t w1 ⟨k,rfl,hk,hq,hN⟩
 refine br_of (fun h1 => ?_) (fun h1 => ?_) <;> simp only [ZJ,ZK,ZL,ZM,ZN,ZO,ZP,ZQ,ZR] at h1
 ·refine chk_of (by simp; omega) ?_
  have hx : l[k]? = some (l[k]'(by omega)) := List.getElem?_eq_getElem (by omega)
  generalize l[k]'(by omega) = x at hx
  refine (hs.nw hN).idx hx ?_; intro g o _ hh
  refine ⟨x.kind,x.n,hh,?_⟩
  simp only [holds,Z1,Z2,Z3,Z4,Z5,Z6,Z7,Z8,Z9,ZA,ZB,ZC,ZD,ZE,ZF,ZG,true_and,and_true,ZS,ZT,exists_eq',and_assoc,wv_eq,dr_cell,ZU,join_eq,br_true,br_false,chk_true,decide_true,decide_false,Bool.not_true,Bool.not_false,Nat.zero_add,sets,ZH,ZI,onPtr_some,onIface_some,onFunc_some,nilVC_iface]
  rw [hc,chk_true]
  refine (hf x w1 (List.mem_of_getElem? hx) hN).mono ?_; rintro _ w2 ⟨rfl,hN2⟩
  simp only [holds,Z1,Z2,Z3,Z4,Z5,Z6,Z7,Z8,Z9,ZA,ZB,ZC,ZD,ZE,ZF,ZG,true_and,and_true,ZS,ZT,exists_eq',and_assoc,wv_eq,dr_cell,ZU,join_eq,br_true,br_false,chk_true,decide_true,decide_false,Bool.not_true,Bool.not_false,Nat.zero_add,sets,ZH,ZI,onPtr_some,onIface_some,onFunc_some,nilVC_iface]
  have hsucc : (l.take (k + 1)).any q = ((l.take k).any q || q x) := by
   obtain ⟨hk',rfl⟩ := List.getElem?_eq_some_iff.1 hx
   rw [List.take_succ_eq_append_getElem hk',List.any_append]; simp
  refine br_of (fun h2 => ?_) (fun h2 => ?_)
  ·refine ⟨?_,hN.tr hN2⟩
   simp only [Int.natCast_nonneg,decide_true]
   rw [eq_comm,List.any_eq_true]
   exact ⟨x,List.mem_of_getElem? hx,h2⟩
  ·rw [wrap_id (by omega) (by omega)]
   exact ⟨⟨k + 1,rfl,by omega,by rw [hsucc,hq,h2]; rfl,hN.tr hN2⟩,by (first | omega | (dsimp only; omega))⟩
 ·refine ⟨_,rfl,?_,hN⟩
  rw [List.take_of_length_le (by omega)] at hq
  rw [hq]; rfl
theorem slices_ContainsFunc_api_Val_api_Val_ok {w : World} {ok : Nat -> Prop} {p : Option Addr} {n c : Nat} {l : List TVal} {fn : FuncId} {fa fb : Array Value} (hs : Sl w.heap ok eVal p n c l) (q : TVal -> Bool) (hc : callable P fn = true)
  (hf : ∀ (x : TVal) (w1 : World),x ∈ l -> Nw w.heap w1.heap -> Calls P fn (fa ++ #[.agg (eVal.f x).toArray] ++ fb) w1 (Mk (.bool (q x)) w1)) :
  Calls P F.Z3e #[.slice p n c,.func (.func fn) fa fb] w (Mk (.bool (l.any q)) w) := by
 refine oZ3e ?_
 refine (slices_IndexFunc_api_Val_api_Val_ok hs q hc hf).mono ?_; rintro _ w2 ⟨i,rfl,hi,hN⟩
 simp only [holds,Z1,Z2,Z3,Z4,Z5,Z6,Z7,Z8,Z9,ZA,ZB,ZC,ZD,ZE,ZF,ZG,true_and,and_true,ZS,ZT,exists_eq',and_assoc,wv_eq,dr_cell,ZU,join_eq,br_true,br_false,chk_true,decide_true,decide_false,Bool.not_true,Bool.not_false,Nat.zero_add,sets,ZH,ZI,onPtr_some,onIface_some,onFunc_some,nilVC_iface]
 exact ⟨by rw [hi],hN⟩
theorem slices_IndexFunc_api_Bind_api_Bind_ok {w : World} {ok : Nat -> Prop} {p : Option Addr} {n c : Nat} {l : List TBind} {fn : FuncId} {fa fb : Array Value} (hs : Sl w.heap ok eBind p n c l) (q : TBind -> Bool) (hc : callable P fn = true)
  (hf : ∀ (x : TBind) (w1 : World),x ∈ l -> Nw w.heap w1.heap -> Calls P fn (fa ++ #[.agg (eBind.f x).toArray] ++ fb) w1 (Mk (.bool (q x)) w1)) :
  Calls P F.Z4l #[.slice p n c,.func (.func fn) fa fb] w fun en w' => ∃ i : Int,en = .returned (.int .i64 i) /\ (decide (0 <= i)) = l.any q /\ Nw w.heap w'.heap := by
 refine oZ4l ?_
 have hsm := hs.small; have hl := hs.len
 refine ⟨fun t w' => ∃ k : Nat,t = (k : Int) /\ k <= n /\ (l.take k).any q = false /\ Nw w.heap w'.heap,fun t _ => n - t.toNat,⟨0,rfl,Nat.zero_le _,rfl,Nw.rfl'⟩,?_⟩
 rintro t w1 ⟨k,rfl,hk,hq,hN⟩
 refine br_of (fun h1 => ?_) (fun h1 => ?_) <;> simp only [ZJ,ZK,ZL,ZM,ZN,ZO,ZP,ZQ,ZR] at h1
 ·refine chk_of (by simp; omega) ?_
  have hx : l[k]? = some (l[k]'(by omega)) := List.getElem?_eq_getElem (by omega)
  generalize l[k]'(by omega) = x at hx
  refine (hs.nw hN).idx hx ?_; intro g o _ hh
  refine ⟨x.sel,x.method,hh,?_⟩
  simp only [holds,Z1,Z2,Z3,Z4,Z5,Z6,Z7,Z8,Z9,ZA,ZB,ZC,ZD,ZE,ZF,ZG,true_and,and_true,ZS,ZT,exists_eq',and_assoc,wv_eq,dr_cell,ZU,join_eq,br_true,br_false,chk_true,decide_true,decide_false,Bool.not_true,Bool.not_false,Nat.zero_add,sets,ZH,ZI,onPtr_some,onIface_some,onFunc_some,nilVC_iface]
  rw [hc,chk_true]
  refine (hf x w1 (List.mem_of_getElem? hx) hN).mono ?_; rintro _ w2 ⟨rfl,hN2⟩
  simp only [holds,Z1,Z2,Z3,Z4,Z5,Z6,Z7,Z8,Z9,ZA,ZB,ZC,ZD,ZE,ZF,ZG,true_and,and_true,ZS,ZT,exists_eq',and_assoc,wv_eq,dr_cell,ZU,join_eq,br_true,br_false,chk_true,decide_true,decide_false,Bool.not_true,Bool.not_false,Nat.zero_add,sets,ZH,ZI,onPtr_some,onIface_some,onFunc_some,nilVC_iface]
  have hsucc : (l.take (k + 1)).any q = ((l.take k).any q || q x) := by
   obtain ⟨hk',rfl⟩ := List.getElem?_eq_some_iff.1 hx
   rw [List.take_succ_eq_append_getElem hk',List.any_append]; simp
  refine br_of (fun h2 => ?_) (fun h2 => ?_)
  ·refine ⟨?_,hN.tr hN2⟩
   simp only [Int.natCast_nonneg,decide_true]
   rw [eq_comm,List.any_eq_true]
   exact ⟨x,List.mem_of_getElem? hx,h2⟩
  ·rw [wrap_id (by omega) (by omega)]
   exact ⟨⟨k + 1,rfl,by omega,by rw [hsucc,hq,h2]; rfl,hN.tr hN2⟩,by (first | omega | (dsimp only; omega))⟩
 ·refine ⟨_,rfl,?_,hN⟩
  rw [List.take_of_length_le (by omega)] at hq
  rw [hq]; rfl
theorem slices_ContainsFunc_api_Bind_api_Bind_ok {w : World} {ok : Nat -> Prop} {p : Option Addr} {n c : Nat} {l : List TBind} {fn : FuncId} {fa fb : Array Value} (hs : Sl w.heap ok eBind p n c l) (q : TBind -> Bool) (hc : callable P fn = true)
  (hf : ∀ (x : TBind) (w1 : World),x ∈ l -> Nw w.heap w1.heap -> Calls P fn (fa ++ #[.agg (eBind.f x).toArray] ++ fb) w1 (Mk (.bool (q x)) w1)) :
  Calls P F.Z44 #[.slice p n c,.func (.func fn) fa fb] w (Mk (.bool (l.any q)) w) := by
 refine oZ44 ?_
 refine (slices_IndexFunc_api_Bind_api_Bind_ok hs q hc hf).mono ?_; rintro _ w2 ⟨i,rfl,hi,hN⟩
 simp only [holds,Z1,Z2,Z3,Z4,Z5,Z6,Z7,Z8,Z9,ZA,ZB,ZC,ZD,ZE,ZF,ZG,true_and,and_true,ZS,ZT,exists_eq',and_assoc,wv_eq,dr_cell,ZU,join_eq,br_true,br_false,chk_true,decide_true,decide_false,Bool.not_true,Bool.not_false,Nat.zero_add,sets,ZH,ZI,onPtr_some,onIface_some,onFunc_some,nilVC_iface]
 exact ⟨by rw [hi],hN⟩
theorem slices_IndexFunc_api_Class_api_Class_ok {w : World} {ok : Nat -> Prop} {p : Option Addr} {n c : Nat} {l : List CClass} {fn : FuncId} {fa fb : Array Value} (hs : Sl w.heap ok eClass p n c l) (q : CClass -> Bool) (hc : callable P fn = true)
  (hf : ∀ (x : CClass) (w1 : World),x ∈ l -> Nw w.heap w1.heap -> Calls P fn (fa ++ #[.agg (eClass.f x).toArray] ++ fb) w1 (Mk (.bool (q x)) w1)) :
  Calls P F.Z42 #[.slice p n c,.func (.func fn) fa fb] w fun en w' => ∃ i : Int,en = .returned (.int .i64 i) /\ (decide (0 <= i)) = l.any q /\ Nw w.heap w'.heap := by
 refine oZ42 ?_
 have hsm := hs.small; have hl := hs.len
 refine ⟨fun t w' => ∃ k : Nat,t = (k : Int) /\ k <= n /\ (l.take k).any q = false /\ Nw w.heap w'.heap,fun t _ => n - t.toNat,⟨0,rfl,Nat.zero_le _,rfl,Nw.rfl'⟩,?_⟩
 rintro t w1 ⟨k,rfl,hk,hq,hN⟩
 refine br_of (fun h1 => ?_) (fun h1 => ?_) <;> simp only [ZJ,ZK,ZL,ZM,ZN,ZO,ZP,ZQ,ZR] at h1
 ·refine chk_of (by simp; omega) ?_
  have hx : l[k]? = some (l[k]'(by omega)) := List.getElem?_eq_getElem (by omega)
  generalize l[k]'(by omega) = x at hx
  refine (hs.nw hN).idx hx ?_; intro g o _ hh
  refine ⟨_,_,_,_,_,_,hh,?_⟩
  simp only [holds,Z1,Z2,Z3,Z4,Z5,Z6,Z7,Z8,Z9,ZA,ZB,ZC,ZD,ZE,ZF,ZG,true_and,and_true,ZS,ZT,exists_eq',and_assoc,wv_eq,dr_cell,ZU,join_eq,br_true,br_false,chk_true,decide_true,decide_false,Bool.not_true,Bool.not_false,Nat.zero_add,sets,ZH,ZI,onPtr_some,onIface_some,onFunc_some,nilVC_iface]
  rw [hc,chk_true]
  refine (hf x w1 (List.mem_of_getElem? hx) hN).mono ?_; rintro _ w2 ⟨rfl,hN2⟩
  simp only [holds,Z1,Z2,Z3,Z4,Z5,Z6,Z7,Z8,Z9,ZA,ZB,ZC,ZD,ZE,ZF,ZG,true_and,and_true,ZS,ZT,exists_eq',and_assoc,wv_eq,dr_cell,ZU,join_eq,br_true,br_false,chk_true,decide_true,decide_false,Bool.not_true,Bool.not_false,Nat.zero_add,sets,ZH,ZI,onPtr_some,onIface_some,onFunc_some,nilVC_iface]
  have hsucc : (l.take (k + 1)).any q = ((l.take k).any q || q x) := by
   obtain ⟨hk',rfl⟩ := List.getElem?_eq_some_iff.1 hx
   rw [List.take_succ_eq_append_getElem hk',List.any_append]; simp
  refine br_of (fun h2 => ?_) (fun h2 => ?_)
  ·refine ⟨?_,hN.tr hN2⟩
   simp only [Int.natCast_nonneg,decide_true]
   rw [eq_comm,List.any_eq_true]
   exact ⟨x,List.mem_of_getElem? hx,h2⟩
  ·rw [wrap_id (by omega) (by omega)]
   exact ⟨⟨k + 1,rfl,by omega,by rw [hsucc,hq,h2]; rfl,hN.tr hN2⟩,by (first | omega | (dsimp only; omega))⟩
 ·refine ⟨_,rfl,?_,hN⟩
  rw [List.take_of_length_le (by omega)] at hq
  rw [hq]; rfl
theorem slices_ContainsFunc_api_Class_api_Class_ok {w : World} {ok : Nat -> Prop} {p : Option Addr} {n c : Nat} {l : List CClass} {fn : FuncId} {fa fb : Array Value} (hs : Sl w.heap ok eClass p n c l) (q : CClass -> Bool) (hc : callable P fn = true)
  (hf : ∀ (x : CClass) (w1 : World),x ∈ l -> Nw w.heap w1.heap -> Calls P fn (fa ++ #[.agg (eClass.f x).toArray] ++ fb) w1 (Mk (.bool (q x)) w1)) :
  Calls P F.Z37 #[.slice p n c,.func (.func fn) fa fb] w (Mk (.bool (l.any q)) w) := by
 refine oZ37 ?_
 refine (slices_IndexFunc_api_Class_api_Class_ok hs q hc hf).mono ?_; rintro _ w2 ⟨i,rfl,hi,hN⟩
 simp only [holds,Z1,Z2,Z3,Z4,Z5,Z6,Z7,Z8,Z9,ZA,ZB,ZC,ZD,ZE,ZF,ZG,true_and,and_true,ZS,ZT,exists_eq',and_assoc,wv_eq,dr_cell,ZU,join_eq,br_true,br_false,chk_true,decide_true,decide_false,Bool.not_true,Bool.not_false,Nat.zero_add,sets,ZH,ZI,onPtr_some,onIface_some,onFunc_some,nilVC_iface]
 exact ⟨by rw [hi],hN⟩
theorem slices_IndexFunc_api_Obj_api_Obj_ok {w : World} {ok : Nat -> Prop} {p : Option Addr} {n c : Nat} {l : List CObj} {fn : FuncId} {fa fb : Array Value} (hs : Sl w.heap ok eObj p n c l) (q : CObj -> Bool) (hc : callable P fn = true)
  (hf : ∀ (x : CObj) (w1 : World),x ∈ l -> Nw w.heap w1.heap -> Calls P fn (fa ++ #[.agg (eObj.f x).toArray] ++ fb) w1 (Mk (.bool (q x)) w1)) :
  Calls P F.Z3d #[.slice p n c,.func (.func fn) fa fb] w fun en w' => ∃ i : Int,en = .returned (.int .i64 i) /\ (decide (0 <= i)) = l.any q /\ Nw w.heap w'.heap := by
 refine oZ3d ?_
 have hsm := hs.small; have hl := hs.len
 refine ⟨fun t w' => ∃ k : Nat,t = (k : Int) /\ k <= n /\ (l.take k).any q = false /\ Nw w.heap w'.heap,fun t _ => n - t.toNat,⟨0,rfl,Nat.zero_le _,rfl,Nw.rfl'⟩,?_⟩
 rintro t w1 ⟨k,rfl,hk,hq,hN⟩
 refine br_of (fun h1 => ?_) (fun h1 => ?_) <;> simp only [ZJ,ZK,ZL,ZM,ZN,ZO,ZP,ZQ,ZR] at h1
 ·refine chk_of (by simp; omega) ?_
  have hx : l[k]? = some (l[k]'(by omega)) := List.getElem?_eq_getElem (by omega)
  generalize l[k]'(by omega) = x at hx
  refine (hs.nw hN).idx hx ?_; intro g o _ hh
  refine ⟨_,_,_,_,hh,?_⟩
  simp only [holds,Z1,Z2,Z3,Z4,Z5,Z6,Z7,Z8,Z9,ZA,ZB,ZC,ZD,ZE,ZF,ZG,true_and,and_true,ZS,ZT,exists_eq',and_assoc,wv_eq,dr_cell,ZU,join_eq,br_true,br_false,chk_true,decide_true,decide_false,Bool.not_true,Bool.not_false,Nat.zero_add,sets,ZH,ZI,onPtr_some,onIface_some,onFunc_some,nilVC_iface]
  rw [hc,chk_true]
  refine (hf x w1 (List.mem_of_getElem? hx) hN).mono ?_; rintro _ w2 ⟨rfl,hN2⟩
  simp only [holds,Z1,Z2,Z3,Z4,Z5,Z6,Z7,Z8,Z9,ZA,ZB,ZC,ZD,ZE,ZF,ZG,true_and,and_true,ZS,ZT,exists_eq',and_assoc,wv_eq,dr_cell,ZU,join_eq,br_true,br_false,chk_true,decide_true,decide_false,Bool.not_true,Bool.not_false,Nat.zero_add,sets,ZH,ZI,onPtr_some,onIface_some,onFunc_some,nilVC_iface]
  have hsucc : (l.take (k + 1)).any q = ((l.take k).any q || q x) := by
   obtain ⟨hk',rfl⟩ := List.getElem?_eq_some_iff.1 hx
   rw [List.take_succ_eq_append_getElem hk',List.any_append]; simp
  refine br_of (fun h2 => ?_) (fun h2 => ?_)
  ·refine ⟨?_,hN.tr hN2⟩
   simp only [Int.natCast_nonneg,decide_true]
   rw [eq_comm,List.any_eq_true]
   exact ⟨x,List.mem_of_getElem? hx,h2⟩
  ·rw [wrap_id (by omega) (by omega)]
   exact ⟨⟨k + 1,rfl,by omega,by rw [hsucc,hq,h2]; rfl,hN.tr hN2⟩,by (first | omega | (dsimp only; omega))⟩
 ·refine ⟨_,rfl,?_,hN⟩
  rw [List.take_of_length_le (by omega)] at hq
  rw [hq]; rfl
theorem slices_ContainsFunc_api_Obj_api_Obj_ok {w : World} {ok : Nat -> Prop} {p : Option Addr} {n c : Nat} {l : List CObj} {fn : FuncId} {fa fb : Array Value} (hs : Sl w.heap ok eObj p n c l) (q : CObj -> Bool) (hc : callable P fn = true)
  (hf : ∀ (x : CObj) (w1 : World),x ∈ l -> Nw w.heap w1.heap -> Calls P fn (fa ++ #[.agg (eObj.f x).toArray] ++ fb) w1 (Mk (.bool (q x)) w1)) :
  Calls P F.Z27 #[.slice p n c,.func (.func fn) fa fb] w (Mk (.bool (l.any q)) w) := by
 refine oZ27 ?_
 refine (slices_IndexFunc_api_Obj_api_Obj_ok hs q hc hf).mono ?_; rintro _ w2 ⟨i,rfl,hi,hN⟩
 simp only [holds,Z1,Z2,Z3,Z4,Z5,Z6,Z7,Z8,Z9,ZA,ZB,ZC,ZD,ZE,ZF,ZG,true_and,and_true,ZS,ZT,exists_eq',and_assoc,wv_eq,dr_cell,ZU,join_eq,br_true,br_false,chk_true,decide_true,decide_false,Bool.not_true,Bool.not_false,Nat.zero_add,sets,ZH,ZI,onPtr_some,onIface_some,onFunc_some,nilVC_iface]
 exact ⟨by rw [hi],hN⟩
def indexB (v : Bool) : List Bool -> Int
 | [] => -1
 | x :: l => if v == x then 0 else if indexB v l < 0 then -1 else indexB v l + 1
theorem indexB_of {v : Bool} : ∀ {l : List Bool} {k : Nat},(∀ j,j < k -> l[j]? ≠ some v) -> l[k]? = some v -> indexB v l = k
 | [],k,_,h => by simp at h
 | x :: l,0,_,h => by simp at h; subst h; simp [indexB]
 | x :: l,k + 1,h0,h => by
  have h1 := indexB_of (l := l) (k := k) (fun j hj => by have := h0 (j + 1) (by omega); simpa using this) (by simpa using h)
  have h2 : ¬ v = x := fun he => h0 0 (by omega) (by simp [he])
  simp [indexB,h2,h1]; omega
theorem indexB_none {v : Bool} : ∀ {l : List Bool},(∀ j : Nat,l[j]? ≠ some v) -> indexB v l = -1
 | [],_ => rfl
 | x :: l,h0 => by
  have h1 := indexB_none (l := l) (fun j => by have := h0 (j + 1); simpa using this)
  have h2 : ¬ v = x := fun he => h0 0 (by simp [he])
  simp [indexB,h2,h1]
theorem slices_Index_bool_bool_ok {w : World} {ok : Nat -> Prop} {p : Option Addr} {n c : Nat} {l : List Bool} (hs : Sl w.heap ok eBool p n c l) (v : Bool) :
  Calls P F.Z2d #[.slice p n c,.bool v] w (Is (.int .i64 (indexB v l)) w) := by
 refine oZ2d ?_
 have hsm := hs.small; have hl := hs.len
 refine ⟨fun t w' => ∃ k : Nat,t = (k : Int) /\ k <= n /\ (∀ j,j < k -> l[j]? ≠ some v) /\ w = w',fun t _ => n - t.toNat,⟨0,rfl,Nat.zero_le _,fun j hj => by omega,rfl⟩,?_⟩
 rintro t _ ⟨k,rfl,hk,hq,rfl⟩
 refine br_of (fun h1 => ?_) (fun h1 => ?_) <;> simp only [ZJ,ZK,ZL,ZM,ZN,ZO,ZP,ZQ,ZR] at h1
 ·refine chk_of (by simp; omega) ?_
  have hx : l[k]? = some (l[k]'(by omega)) := List.getElem?_eq_getElem (by omega)
  generalize l[k]'(by omega) = x at hx
  refine hs.idx1 hx ?_; intro g o _ hh
  refine ⟨_,hh,?_⟩
  refine br_of (fun h2 => ?_) (fun h2 => ?_)
  ·have : v = x := by simpa using h2
   subst this
   rw [indexB_of hq hx]
   exact Is.mk _ _
  ·have hne : ¬ v = x := by simpa using h2
   rw [wrap_id (by omega) (by omega)]
   refine ⟨⟨k + 1,rfl,by omega,fun j hj => ?_,rfl⟩,by (first | omega | (dsimp only; omega))⟩
   by_cases hjk : j = k
   ·subst hjk; rw [hx]; exact fun he => hne (by simpa using he.symm)
   ·exact hq j (by omega)
 ·rw [indexB_none (fun j => ?_)]
  ·exact Is.mk _ _
  ·by_cases hj : j < k
   ·exact hq j hj
   ·rw [List.getElem?_eq_none (by omega)]; simp
def maxL (l : List Int) : Int := match l with | [] => 0 | x :: r => r.foldl (fun a b => if b > a then b else a) x
theorem slices_Max_int_int_ok {w : World} {ok : Nat -> Prop} {p : Option Addr} {n c : Nat} {l : List Int} (hs : Sl w.heap ok eI64 p n c l) (h0 : 0 < n) :
  Calls P F.Z34 #[.slice p n c] w (Is (.int .i64 (maxL l)) w) := by
 refine oZ34 ?_
 unfold vZ34
 simp only [join_eq]
 have hsm := hs.small; have hl := hs.len
 rw [show decide ((n : Int) < 1) = false by simp; omega]
 simp only [br_false]
 refine chk_of (by simp; omega) ?_
 obtain ⟨x0,r,rfl⟩ : ∃ x r,l = x :: r := by cases l with | nil => simp at hl; omega | cons x r => exact ⟨x,r,rfl⟩
 refine hs.idx1 (i := 0) rfl ?_; intro g o _ hh
 refine ⟨_,by simpa using hh,?_⟩
 refine ⟨fun t w' => ∃ k : Nat,t.2 = ((k + 1 : Nat) : Int) /\ k <= r.length /\ t.1 = (r.take k).foldl (fun a b => if b > a then b else a) x0 /\ w = w',fun t _ => n - t.2.toNat,⟨0,rfl,Nat.zero_le _,rfl,rfl⟩,?_⟩
 simp only [List.length_cons] at hl
 rintro ⟨m,t⟩ _ ⟨k,rfl,hk,rfl,rfl⟩
 refine br_of (fun h1 => ?_) (fun h1 => ?_) <;> simp only [ZJ,ZK,ZL,ZM,ZN,ZO,ZP,ZQ,ZR] at h1
 ·refine chk_of (by simp; omega) ?_
  have hx : r[k]? = some (r[k]'(by omega)) := List.getElem?_eq_getElem (by omega)
  generalize r[k]'(by omega) = x at hx
  refine hs.idx1 (i := k + 1) (by simpa using hx) ?_; intro g o _ hh
  refine ⟨_,hh,?_⟩
  rw [wrap_id (by omega) (by omega)]
  refine ⟨⟨k + 1,rfl,by omega,?_,rfl⟩,by (first | omega | (dsimp only; omega))⟩
  obtain ⟨hk',rfl⟩ := List.getElem?_eq_some_iff.1 hx
  rw [List.take_succ_eq_append_getElem hk',List.foldl_append]
  rfl
 ·rw [List.take_of_length_le (by simp at h1; omega)]
  exact Is.mk _ _
end
section
mutual
def flatEq (P : Program) : Nat -> TypeId -> List Value -> List Value -> Option Bool
 | 0,_,_,_ => none
 | d + 1,t,xs,ys => match P.underlying t with
  | some (.int _) => match xs,ys with
   | [.int k a],[.int k' b] => match sameKind k k' with
    | true => some (decide (a = b))
    | false => none
   | _,_ => none
  | some .bool => match xs,ys with
   | [.bool a],[.bool b] => some (a == b)
   | _,_ => none
  | some .string => match xs,ys with
   | [.string a],[.string b] => some (a.toList == b.toList)
   | _,_ => none
  | some (.struct fs) => match P.stoodInHeld t with
   | false => flatFs P d fs.toList xs ys
   | true => none
  | _ => none
def flatFs (P : Program) : Nat -> List Field -> List Value -> List Value -> Option Bool
 | _,[],_,_ => some true
 | 0,_ :: _,_,_ => none
 | d + 1,f :: r,xs,ys => match f.name == "_" with
  | true => none
  | false => match P.underlying f.type,sizeT P f.type with
   | some ds,some m => match Nat.beq ((xs.drop f.offset).take m).length m && Nat.beq ((ys.drop f.offset).take m).length m && (aggr ds || Nat.beq m 1) with
    | true => match flatEq P d f.type ((xs.drop f.offset).take m) ((ys.drop f.offset).take m),flatFs P d r xs ys with
     | some a,some b => some (a && b)
     | _,_ => none
    | false => none
   | _,_ => none
end
def aggV (P : Program) (t : TypeId) (xs : List Value) : Value := match P.underlying t with | some d => asVal (aggr d) xs | none => undef
variable {P : Program}
theorem part_run {t : TypeId} {d : TypeDesc} {m off : Nat} {xs : List Value} (hu : P.underlying t = some d) (hm : sizeT P t = some m) (hl : ((xs.drop off).take m).length = m) (h1 : aggr d = true \/ m = 1) (w : World) :
  (part t xs.toArray off).run P w = .ok (asVal (aggr d) ((xs.drop off).take m)) w := by
 unfold part
 cases hg : aggr d with
 | true =>
  simp only [Sem.run_bind,isAgg_run hu,hg,Result.andThen_ok,if_true,cellsOf_sizeT hm,Sem.run_pure,asVal]
  congr 2
  apply Array.ext'
  simp [List.extract_eq_take_drop]
 | false =>
  obtain rfl : m = 1 := by rcases h1 with h | h; rw [hg] at h; cases h; exact h
  obtain ⟨v,hv⟩ := one_of_length hl
  have hx : xs[off]? = some v := by
   have := congrArg (·[0]?) hv
   simpa [List.getElem?_take,List.getElem?_drop] using this
  simp [isAgg_run hu,hg,asVal,hv,hx]
theorem flat_ok : ∀ (d : Nat),
  (∀ (t : TypeId) (xs ys : List Value) (b : Bool) (e : Nat) (w : World),flatEq P d t xs ys = some b -> (Op.equalIn (d + e) t (aggV P t xs) (aggV P t ys)).run P w = .ok b w) /\
  (∀ (fs : List Field) (xs ys : List Value) (b : Bool) (e : Nat) (w : World),flatFs P d fs xs ys = some b -> (Op.eqFields (d + e) xs.toArray ys.toArray fs).run P w = .ok b w) := by
 intro d
 induction d with
 | zero =>
  refine ⟨fun t xs ys b e w h => ?_,fun fs xs ys b e w h => ?_⟩
  ·simp only [flatEq] at h; cases h
  ·cases fs with
   | nil => simp only [flatFs,Z3] at h; subst h; simp [Op.eqFields]
   | cons f r => simp only [flatFs] at h; cases h
 | succ d ih =>
  refine ⟨fun t xs ys b e w h => ?_,fun fs xs ys b e w h => ?_⟩
  ·simp only [flatEq] at h
   rw [show d + 1 + e = (d + e) + 1 by omega]
   split at h
   ·rename_i k0 hu
    split at h
    ·rename_i k a k' c
     split at h
     ·rename_i hk
      obtain rfl := sameKind_eq hk
      simp only [Z3] at h
      subst h
      simp only [aggV,hu,aggr,asVal]
      unfold Op.equalIn
      simp [run_underlying hu,Op.intCmp,BEq.beq]
     ·cases h
    ·cases h
   ·rename_i hu
    split at h
    ·rename_i a c
     simp only [Z3] at h
     subst h
     simp only [aggV,hu,aggr,asVal]
     unfold Op.equalIn
     simp [run_underlying hu]
    ·cases h
   ·rename_i hu
    split at h
    ·rename_i a c
     simp only [Z3] at h
     subst h
     simp only [aggV,hu,aggr,asVal]
     unfold Op.equalIn
     simp [run_underlying hu,beq_toListBytes]
    ·cases h
   ·rename_i fs hu
    split at h
    ·rename_i hp
     simp only [aggV,hu,aggr,asVal]
     have hf : P.fieldsOf t = fs := by simp [Program.fieldsOf,hu]
     rw [run_equalIn_struct w (d + e) t _ _ (by rw [hf]; exact hu) hp,hf]
     exact ih.2 fs.toList xs ys b e w h
    ·cases h
   ·cases h
  ·cases fs with
   | nil => simp only [flatFs,Z3] at h; subst h; simp [Op.eqFields]
   | cons f r =>
    simp only [flatFs] at h
    split at h
    ·cases h
    ·rename_i hn
     split at h
     ·rename_i ds m hu hm
      split at h
      ·rename_i hb
       simp only [Bool.and_eq_true,Bool.or_eq_true] at hb
       obtain ⟨⟨hx,hy⟩,h1⟩ := hb
       have hx := Nat.eq_of_beq_eq_true hx
       have hy := Nat.eq_of_beq_eq_true hy
       have h1 : aggr ds = true \/ m = 1 := h1.imp id Nat.eq_of_beq_eq_true
       split at h
       ·rename_i a c ha hc
        simp only [Z3] at h
        subst h
        have hne : f.name ≠ "_" := by simpa using hn
        have e1 := ih.1 f.type _ _ a (1 + e) w ha
        have e2 := ih.2 r xs ys c (1 + e) w hc
        simp only [aggV,hu] at e1
        rw [show d + 1 + e = d + (1 + e) by omega]
        simp only [Op.eqFields,ne_eq,hne,not_false_eq_true,if_true,Sem.run_bind,part_run hu hm hx h1,part_run hu hm hy h1,Result.andThen_ok,e1]
        cases a
        ·simp
        ·simp [e2]
       ·cases h
      ·cases h
     ·cases h
theorem agg_eql {t : TypeId} {xs ys : List Value} {b : Bool} {fs : Array Field} {ox oy : Operand} (hu : P.underlying t = some (.struct fs)) (hg : P.eqGuardType P.depth t = false) (h : flatEq P 20 t xs ys = some b) (w : World) :
  (do eqGuard .eql t ox oy (.agg xs.toArray) (.agg ys.toArray); binOp .eql t (.agg xs.toArray) (.agg ys.toArray) : Sem Value).run P w = .ok (.bool b) w := by
 have h1 := (flat_ok (P := P) 20).1 t xs ys b 9980 w h
 simp only [aggV,hu,aggr,asVal] at h1
 have h2 : (Op.equal t (.agg xs.toArray) (.agg ys.toArray)).run P w = .ok b w := h1
 have h3 : (eqGuard .eql t ox oy (.agg xs.toArray) (.agg ys.toArray)).run P w = .ok () w := by simp [eqGuard,hg]
 simp only [Sem.run_bind,h3,Result.andThen_ok]
 unfold binOp
 simp [h2]
theorem agg_neq {t : TypeId} {xs ys : List Value} {b : Bool} {fs : Array Field} {ox oy : Operand} (hu : P.underlying t = some (.struct fs)) (hg : P.eqGuardType P.depth t = false) (h : flatEq P 20 t xs ys = some b) (w : World) :
  (do eqGuard .neq t ox oy (.agg xs.toArray) (.agg ys.toArray); binOp .neq t (.agg xs.toArray) (.agg ys.toArray) : Sem Value).run P w = .ok (.bool (!b)) w := by
 have h1 := (flat_ok (P := P) 20).1 t xs ys b 9980 w h
 simp only [aggV,hu,aggr,asVal] at h1
 have h2 : (Op.equal t (.agg xs.toArray) (.agg ys.toArray)).run P w = .ok b w := h1
 have h3 : (eqGuard .neq t ox oy (.agg xs.toArray) (.agg ys.toArray)).run P w = .ok () w := by simp [eqGuard,hg]
 simp only [Sem.run_bind,h3,Result.andThen_ok]
 unfold binOp
 simp [h2]
end
section
variable {w : World} {R : Ending -> World -> Prop}
def vZn (pl : Option Addr) (nl cl : Nat) (w : World) (R : Value -> World -> Prop) : Prop :=
 Calls P F.Z1i #[] w fun en u => ∃ x,en = .returned (.pointer x) /\
 ∃ (I : Int -> World -> Prop) (μ : Int -> World -> Nat),I 0 u /\
 ∀ (t : Int) (u1 : World),I t u1 ->
 br (decide (t < (nl : Int))) (
 chk (decide (0 <= t) && decide (t < (nl : Int))) (
 onPtr pl fun g o =>
 ∃ x0 x1,holds u1 g (o + t.toNat * 2) [.int .i64 x0,.int .i64 x1] /\
 newB u1 #[.int .i64 0,.int .i64 0] T.api_Bind fun b u2 =>
 stores u2 b 0 [.int .i64 x0,.int .i64 x1] fun u3 =>
 ∃ x2,u3.cell? ⟨b,0,none⟩ = some (.int .i64 x2) /\
 ∃ x3,u3.cell? ⟨b,1,none⟩ = some (.int .i64 x3) /\
 Calls P F.Z1j #[.pointer x,.int .i64 x2,.int .i64 x3] u3 fun en u4 => ∃ x4,en = .returned (.bool x4) /\
 br (!x4) (
 R (.tuple #[.pointer none,.bool false]) u4) (
 I (IntKind.wrap .i64 (t + 1)) u4 /\ μ (IntKind.wrap .i64 (t + 1)) u4 < μ t u1))) (
 R (.tuple #[.pointer x,.bool true]) u1)
theorem oZn {pl : Option Addr} {nl cl : Nat} (h : vZn pl nl cl w fun v w' => R (.returned v) w') : Calls P F.Zn #[.slice pl nl cl] w R :=
 calls_of_eq (A := ⟨[(3,[(10,(.int .i64))])],[]⟩) mixed Tryz.func26 (by kernel_rfl) (by kernel_rfl) h
def vZ1i  (w : World) (R : Value -> World -> Prop) : Prop :=
 newB w #[.bool false,.int .i64 0,.int .i64 0,.bool false,.int .i64 0,.int .i64 0,.bool false,.int .i64 0,.int .i64 0,.bool false,.int .i64 0,.int .i64 0,.bool false,.int .i64 0,.int .i64 0,.bool false,.int .i64 0,.int .i64 0,.bool false,.int .i64 0,.int .i64 0,.bool false,.int .i64 0,.int .i64 0,.bool false,.int .i64 0,.int .i64 0,.bool false,.int .i64 0,.int .i64 0,.bool false,.int .i64 0,.int .i64 0,.bool false,.int .i64 0,.int .i64 0,.bool false,.int .i64 0,.int .i64 0,.bool false,.int .i64 0,.int .i64 0,.bool false,.int .i64 0,.int .i64 0,.bool false,.int .i64 0,.int .i64 0,.int .i64 0] T.dict_Dict fun b u =>
 R (.pointer (some ⟨b,0,none⟩)) u
theorem oZ1i  (h : vZ1i  w fun v w' => R (.returned v) w') : Calls P F.Z1i #[] w R :=
 calls_of_eq (A := ⟨[],[]⟩) mixed Tryz.func57 (by kernel_rfl) (by kernel_rfl) h
def vZ1j (d : Nat) (sel : Int) (method : Int) (w : World) (R : Value -> World -> Prop) : Prop :=
 ∃ (I : Int -> World -> Prop) (μ : Int -> World -> Nat),I 0 w /\
 ∀ (t : Int) (u : World),I t u ->
 br (decide (0 <= sel)) (
 br (decide (t < 4)) (
 wv u.drew fun u1 =>
 Calls P F.Z2a #[.int .i64 sel,.int .i64 t] u1 fun en u2 => ∃ x,en = .returned (.int .i64 x) /\
 True /\
 chk (decide (0 <= x) && decide (x < 16)) (
 join (fun (t1 : Unit) (u3 : World) =>
 join (fun (t2 : Unit) (u4 : World) =>
 stores u4 d (0 + x.toNat * 3) [.bool true,.int .i64 sel,.int .i64 method] fun u5 =>
 R (.bool true) u5) fun J8 =>
 ∃ x1,u3.cell? ⟨d,0 + x.toNat * 3,none⟩ = some (.bool x1) /\
 br (!x1) (
 ∃ x2,u3.cell? ⟨d,48,none⟩ = some (.int .i64 x2) /\
 stores u3 d 48 [.int .i64 (IntKind.wrap .i64 (x2 + 1))] fun u6 =>
 J8 () u6) (
 J8 () u3)) fun J6 =>
 ∃ x3,u2.cell? ⟨d,0 + x.toNat * 3,none⟩ = some (.bool x3) /\
 br x3 (
 ∃ x4,u2.cell? ⟨d,0 + x.toNat * 3 + 1,none⟩ = some (.int .i64 x4) /\
 br (!(decide (x4 = sel))) (
 I (IntKind.wrap .i64 (t + 1)) u2 /\ μ (IntKind.wrap .i64 (t + 1)) u2 < μ t u) (
 J6 () u2)) (
 J6 () u2))) (
 R (.bool false) u)) (
 R (.bool false) u)
theorem oZ1j {d : Nat} {sel : Int} {method : Int} (h : vZ1j d sel method w fun v w' => R (.returned v) w') : Calls P F.Z1j #[.pointer (some ⟨d,0,none⟩),.int .i64 sel,.int .i64 method] w R :=
 calls_of_eq (A := ⟨[(2,[(7,(.int .i64))])],[(6,[]),(8,[])]⟩) mixed Tryz.func58 (by kernel_rfl) (by kernel_rfl) h
def vZ2a (sel : Int) (probe : Int) (w : World) (R : Value -> World -> Prop) : Prop :=
 R (.int .i64 (Int.tmod (IntKind.wrap .i64 ((IntKind.wrap .i64 ((Int.tmod sel 16) * 7)) + probe)) 16)) w
theorem oZ2a {sel : Int} {probe : Int} (h : vZ2a sel probe w fun v w' => R (.returned v) w') : Calls P F.Z2a #[.int .i64 sel,.int .i64 probe] w R :=
 calls_of_eq (A := ⟨[],[]⟩) mixed Tryz.func85 (by kernel_rfl) (by kernel_rfl) h
def vZ4j (d : Nat) (sel : Int) (w : World) (R : Value -> World -> Prop) : Prop :=
 br (decide (sel < 0)) (
 R (.tuple #[.int .i64 (-1),.int .i64 0]) w) (
 ∃ (I : Int -> World -> Prop) (μ : Int -> World -> Nat),I 0 w /\
 ∀ (t : Int) (u : World),I t u ->
 br (decide (t < 4)) (
 wv u.drew fun u1 =>
 (Calls P F.Z2a #[.int .i64 sel,.int .i64 t] u1 fun en u2 => ∃ x,en = .returned (.int .i64 x) /\
 True /\
 chk (decide (0 <= x) && decide (x < 16)) (
 ∃ x0 x1 x2,holds u2 d (0 + x.toNat * 3) [.bool x0,.int .i64 x1,.int .i64 x2] /\
 newB u2 #[.bool false,.int .i64 0,.int .i64 0] T.dict_place fun b u3 =>
 ((holds u3 d (0 + x.toNat * 3) [.bool x0,.int .i64 x1,.int .i64 x2]) /\ True) /\
 stores u3 b 0 [.bool x0,.int .i64 x1,.int .i64 x2] fun u4 =>
 True /\
 ∃ x3,u4.cell? ⟨b,0,none⟩ = some (.bool x3) /\
 br (!x3) (
 R (.tuple #[.int .i64 (-1),.int .i64 (IntKind.wrap .i64 (t + 1))]) u4) (
 ∃ x4,u4.cell? ⟨b,1,none⟩ = some (.int .i64 x4) /\
 br (decide (x4 = sel)) (
 ∃ x5,u4.cell? ⟨b,2,none⟩ = some (.int .i64 x5) /\
 R (.tuple #[.int .i64 x5,.int .i64 (IntKind.wrap .i64 (t + 1))]) u4) (
 I (IntKind.wrap .i64 (t + 1)) u4 /\ μ (IntKind.wrap .i64 (t + 1)) u4 < μ t u)))) /\ (newB u1 #[.bool false,.int .i64 0,.int .i64 0] T.dict_place fun b1 u5 =>
 True /\
 Calls P F.Z2a #[.int .i64 sel,.int .i64 t] u5 fun en u6 => ∃ x6,en = .returned (.int .i64 x6) /\
 True /\
 chk (decide (0 <= x6) && decide (x6 < 16)) (
 ∃ x01 x11 x21,holds u6 d (0 + x6.toNat * 3) [.bool x01,.int .i64 x11,.int .i64 x21] /\
 stores u6 b1 0 [.bool x01,.int .i64 x11,.int .i64 x21] fun u7 =>
 True /\
 ∃ x7,u7.cell? ⟨b1,0,none⟩ = some (.bool x7) /\
 br (!x7) (
 R (.tuple #[.int .i64 (-1),.int .i64 (IntKind.wrap .i64 (t + 1))]) u7) (
 ∃ x8,u7.cell? ⟨b1,1,none⟩ = some (.int .i64 x8) /\
 br (decide (x8 = sel)) (
 ∃ x9,u7.cell? ⟨b1,2,none⟩ = some (.int .i64 x9) /\
 R (.tuple #[.int .i64 x9,.int .i64 (IntKind.wrap .i64 (t + 1))]) u7) (
 I (IntKind.wrap .i64 (t + 1)) u7 /\ μ (IntKind.wrap .i64 (t + 1)) u7 < μ t u))))) (
 R (.tuple #[.int .i64 (-1),.int .i64 4]) u))
theorem oZ4j {d : Nat} {sel : Int} (h : vZ4j d sel w fun v w' => R (.returned v) w') : Calls P F.Z4j #[.pointer (some ⟨d,0,none⟩),.int .i64 sel] w R :=
 calls_of_eq (A := ⟨[(4,[(10,(.int .i64))])],[]⟩) mixed Tryz.func167 (by kernel_rfl) (by kernel_rfl) h
end
section
variable {w : World} {R : Ending -> World -> Prop}
def vZp (id : Int) (w : World) (R : Value -> World -> Prop) : Prop :=
 br (decide (id < 1)) (
 R (.int .u32 0) w) (
 br (decide (2147483647 < id)) (
 R (.int .u32 0) w) (
 R (.int .u32 (IntKind.wrap .u32 ((IntKind.wrap .u32 id) * 2 ^ (min (Int.toNat 1) (IntKind.bits .u32))))) w))
theorem oZp {id : Int} (h : vZp id w fun v w' => R (.returned v) w') : Calls P F.Zp #[.int .i64 id] w R :=
 calls_of_eq (A := ⟨[],[]⟩) mixed Tryz.func28 (by kernel_rfl) (by kernel_rfl) h
def vZ12 (n : Int) (w : World) (R : Value -> World -> Prop) : Prop :=
 join (fun (t : Unit) (u : World) =>
 R (.tuple #[.int .u32 (IntKind.wrap .u32 ((BitVec.toNat (BitVec.ofInt (IntKind.bits .u32) (IntKind.wrap .u32 ((IntKind.wrap .u32 (IntKind.wrap .i32 n)) * 2 ^ (min (Int.toNat 1) (IntKind.bits .u32)))) ||| BitVec.ofInt (IntKind.bits .u32) 1) : Int))),.bool true]) u) fun J3 =>
 br (decide (n < (-1073741824))) (
 R (.tuple #[.int .u32 0,.bool false]) w) (
 br (decide (1073741823 < n)) (
 R (.tuple #[.int .u32 0,.bool false]) w) (
 J3 () w))
theorem oZ12 {n : Int} (h : vZ12 n w fun v w' => R (.returned v) w') : Calls P F.Z12 #[.int .i64 n] w R :=
 calls_of_eq (A := ⟨[],[(3,[])]⟩) mixed Tryz.func41 (by kernel_rfl) (by kernel_rfl) h
def vZ2g (u : Int) (w : World) (R : Value -> World -> Prop) : Prop :=
 br (decide (IntKind.wrap .u32 ((BitVec.toNat (BitVec.ofInt (IntKind.bits .u32) u &&& BitVec.ofInt (IntKind.bits .u32) 1) : Int)) = 1)) (
 R (.tuple #[.int .i64 0,.bool false]) w) (
 br (decide (u = 0)) (
 R (.tuple #[.int .i64 0,.bool false]) w) (
 R (.tuple #[.int .i64 (IntKind.wrap .i64 (Int.fdiv u (2 ^ (min (Int.toNat 1) (IntKind.bits .u32))))),.bool true]) w))
theorem oZ2g {u : Int} (h : vZ2g u w fun v w' => R (.returned v) w') : Calls P F.Z2g #[.int .u32 u] w R :=
 calls_of_eq (A := ⟨[],[]⟩) mixed Tryz.func91 (by kernel_rfl) (by kernel_rfl) h
def vZ3i (a : Int) (b : Int) (w : World) (R : Value -> World -> Prop) : Prop :=
 Calls P F.Z4f #[.int .u32 a,.int .u32 b] w fun en u => ∃ x0 x1 x2,en = .returned (.tuple #[.int .i64 x0,.int .i64 x1,.bool x2]) /\
 br x2 (
 R (.tuple #[.bool (decide (x0 < x1)),.bool x2]) u) (
 R (.tuple #[.bool false,.bool x2]) u)
theorem oZ3i {a : Int} {b : Int} (h : vZ3i a b w fun v w' => R (.returned v) w') : Calls P F.Z3i #[.int .u32 a,.int .u32 b] w R :=
 calls_of_eq (A := ⟨[],[]⟩) mixed Tryz.func130 (by kernel_rfl) (by kernel_rfl) h
def vZ3j (a : Int) (b : Int) (w : World) (R : Value -> World -> Prop) : Prop :=
 Calls P F.Z4f #[.int .u32 a,.int .u32 b] w fun en u => ∃ x0 x1 x2,en = .returned (.tuple #[.int .i64 x0,.int .i64 x1,.bool x2]) /\
 br (!x2) (
 R (.tuple #[.int .u32 0,.bool false]) u) (
 Calls P F.Z12 #[.int .i64 (IntKind.wrap .i64 (x0 + x1))] u fun en u1 => ∃ x01 x11,en = .returned (.tuple #[.int .u32 x01,.bool x11]) /\
 R (.tuple #[.int .u32 x01,.bool x11]) u1)
theorem oZ3j {a : Int} {b : Int} (h : vZ3j a b w fun v w' => R (.returned v) w') : Calls P F.Z3j #[.int .u32 a,.int .u32 b] w R :=
 calls_of_eq (A := ⟨[],[]⟩) mixed Tryz.func131 (by kernel_rfl) (by kernel_rfl) h
def vZ3k (a : Int) (b : Int) (w : World) (R : Value -> World -> Prop) : Prop :=
 Calls P F.Z4f #[.int .u32 a,.int .u32 b] w fun en u => ∃ x0 x1 x2,en = .returned (.tuple #[.int .i64 x0,.int .i64 x1,.bool x2]) /\
 br (!x2) (
 R (.tuple #[.int .u32 0,.bool false]) u) (
 Calls P F.Z12 #[.int .i64 (IntKind.wrap .i64 (x0 - x1))] u fun en u1 => ∃ x01 x11,en = .returned (.tuple #[.int .u32 x01,.bool x11]) /\
 R (.tuple #[.int .u32 x01,.bool x11]) u1)
theorem oZ3k {a : Int} {b : Int} (h : vZ3k a b w fun v w' => R (.returned v) w') : Calls P F.Z3k #[.int .u32 a,.int .u32 b] w R :=
 calls_of_eq (A := ⟨[],[]⟩) mixed Tryz.func132 (by kernel_rfl) (by kernel_rfl) h
def vZ3l (a : Int) (b : Int) (w : World) (R : Value -> World -> Prop) : Prop :=
 Calls P F.Z4f #[.int .u32 a,.int .u32 b] w fun en u => ∃ x0 x1 x2,en = .returned (.tuple #[.int .i64 x0,.int .i64 x1,.bool x2]) /\
 br (!x2) (
 R (.tuple #[.int .u32 0,.bool false]) u) (
 Calls P F.Z12 #[.int .i64 (IntKind.wrap .i64 (x0 * x1))] u fun en u1 => ∃ x01 x11,en = .returned (.tuple #[.int .u32 x01,.bool x11]) /\
 R (.tuple #[.int .u32 x01,.bool x11]) u1)
theorem oZ3l {a : Int} {b : Int} (h : vZ3l a b w fun v w' => R (.returned v) w') : Calls P F.Z3l #[.int .u32 a,.int .u32 b] w R :=
 calls_of_eq (A := ⟨[],[]⟩) mixed Tryz.func133 (by kernel_rfl) (by kernel_rfl) h
def vZ3m (a : Int) (b : Int) (w : World) (R : Value -> World -> Prop) : Prop :=
 Calls P F.Z4f #[.int .u32 a,.int .u32 b] w fun en u => ∃ x0 x1 x2,en = .returned (.tuple #[.int .i64 x0,.int .i64 x1,.bool x2]) /\
 join (fun (t : Unit) (u1 : World) =>
 chk (!(decide (x1 = 0))) (
 chk (!(decide (x1 = 0))) (
 br (!(decide (Int.tmod x0 x1 = 0))) (
 br (!((decide (x0 < 0)) == (decide (x1 < 0)))) (
 Calls P F.Z12 #[.int .i64 (IntKind.wrap .i64 ((IntKind.wrap .i64 (Int.tdiv x0 x1)) - 1))] u1 fun en u2 => ∃ x01 x11,en = .returned (.tuple #[.int .u32 x01,.bool x11]) /\
 R (.tuple #[.int .u32 x01,.bool x11]) u2) (
 Calls P F.Z12 #[.int .i64 (IntKind.wrap .i64 (Int.tdiv x0 x1))] u1 fun en u3 => ∃ x02 x12,en = .returned (.tuple #[.int .u32 x02,.bool x12]) /\
 R (.tuple #[.int .u32 x02,.bool x12]) u3)) (
 Calls P F.Z12 #[.int .i64 (IntKind.wrap .i64 (Int.tdiv x0 x1))] u1 fun en u4 => ∃ x03 x13,en = .returned (.tuple #[.int .u32 x03,.bool x13]) /\
 R (.tuple #[.int .u32 x03,.bool x13]) u4)))) fun J4 =>
 br (!x2) (
 R (.tuple #[.int .u32 0,.bool false]) u) (
 br (decide (x1 = 0)) (
 R (.tuple #[.int .u32 0,.bool false]) u) (
 J4 () u))
theorem oZ3m {a : Int} {b : Int} (h : vZ3m a b w fun v w' => R (.returned v) w') : Calls P F.Z3m #[.int .u32 a,.int .u32 b] w R :=
 calls_of_eq (A := ⟨[],[(4,[])]⟩) mixed Tryz.func134 (by kernel_rfl) (by kernel_rfl) h
def vZ3p (u : Int) (w : World) (R : Value -> World -> Prop) : Prop :=
 br (decide (IntKind.wrap .u32 ((BitVec.toNat (BitVec.ofInt (IntKind.bits .u32) u &&& BitVec.ofInt (IntKind.bits .u32) 1) : Int)) = 0)) (
 R (.tuple #[.int .i64 0,.bool false]) w) (
 R (.tuple #[.int .i64 (IntKind.wrap .i64 (Int.fdiv (IntKind.wrap .i32 u) (2 ^ (min (Int.toNat 1) (IntKind.bits .i32))))),.bool true]) w)
theorem oZ3p {u : Int} (h : vZ3p u w fun v w' => R (.returned v) w') : Calls P F.Z3p #[.int .u32 u] w R :=
 calls_of_eq (A := ⟨[],[]⟩) mixed Tryz.func137 (by kernel_rfl) (by kernel_rfl) h
def vZ4f (a : Int) (b : Int) (w : World) (R : Value -> World -> Prop) : Prop :=
 Calls P F.Z3p #[.int .u32 a] w fun en u => ∃ x0 x1,en = .returned (.tuple #[.int .i64 x0,.bool x1]) /\
 Calls P F.Z3p #[.int .u32 b] u fun en u1 => ∃ x01 x11,en = .returned (.tuple #[.int .i64 x01,.bool x11]) /\
 br x1 (
 R (.tuple #[.int .i64 x0,.int .i64 x01,.bool x11]) u1) (
 R (.tuple #[.int .i64 x0,.int .i64 x01,.bool false]) u1)
theorem oZ4f {a : Int} {b : Int} (h : vZ4f a b w fun v w' => R (.returned v) w') : Calls P F.Z4f #[.int .u32 a,.int .u32 b] w R :=
 calls_of_eq (A := ⟨[],[]⟩) mixed Tryz.func163 (by kernel_rfl) (by kernel_rfl) h
def vZm  (w : World) (R : Value -> World -> Prop) : Prop :=
 newB w #[.bool false,.int .i64 0,.int .i64 0,.int .i64 0,.bool false,.int .i64 0,.int .i64 0,.int .i64 0,.bool false,.int .i64 0,.int .i64 0,.int .i64 0,.bool false,.int .i64 0,.int .i64 0,.int .i64 0,.bool false,.int .i64 0,.int .i64 0,.int .i64 0,.bool false,.int .i64 0,.int .i64 0,.int .i64 0,.bool false,.int .i64 0,.int .i64 0,.int .i64 0,.bool false,.int .i64 0,.int .i64 0,.int .i64 0,.bool false,.int .i64 0,.int .i64 0,.int .i64 0,.bool false,.int .i64 0,.int .i64 0,.int .i64 0,.bool false,.int .i64 0,.int .i64 0,.int .i64 0,.bool false,.int .i64 0,.int .i64 0,.int .i64 0,.bool false,.int .i64 0,.int .i64 0,.int .i64 0,.bool false,.int .i64 0,.int .i64 0,.int .i64 0,.bool false,.int .i64 0,.int .i64 0,.int .i64 0,.bool false,.int .i64 0,.int .i64 0,.int .i64 0,.bool false,.int .i64 0,.int .i64 0,.int .i64 0,.bool false,.int .i64 0,.int .i64 0,.int .i64 0,.bool false,.int .i64 0,.int .i64 0,.int .i64 0,.bool false,.int .i64 0,.int .i64 0,.int .i64 0,.bool false,.int .i64 0,.int .i64 0,.int .i64 0,.bool false,.int .i64 0,.int .i64 0,.int .i64 0,.bool false,.int .i64 0,.int .i64 0,.int .i64 0,.bool false,.int .i64 0,.int .i64 0,.int .i64 0,.bool false,.int .i64 0,.int .i64 0,.int .i64 0,.bool false,.int .i64 0,.int .i64 0,.int .i64 0,.bool false,.int .i64 0,.int .i64 0,.int .i64 0,.bool false,.int .i64 0,.int .i64 0,.int .i64 0,.bool false,.int .i64 0,.int .i64 0,.int .i64 0,.bool false,.int .i64 0,.int .i64 0,.int .i64 0,.bool false,.int .i64 0,.int .i64 0,.int .i64 0,.bool false,.int .i64 0,.int .i64 0,.int .i64 0,.int .i64 0,.int .i64 0] T.cache_Cache fun b u =>
 R (.pointer (some ⟨b,0,none⟩)) u
theorem oZm  (h : vZm  w fun v w' => R (.returned v) w') : Calls P F.Zm #[] w R :=
 calls_of_eq (A := ⟨[],[]⟩) mixed Tryz.func25 (by kernel_rfl) (by kernel_rfl) h
def vZ4h (c : Nat) (k0 : Int) (k1 : Int) (w : World) (R : Value -> World -> Prop) : Prop :=
 newB w #[.int .i64 k0,.int .i64 k1] T.cache_Key fun b u =>
 wv u.drew fun u1 =>
 ∃ x0 x1,holds u1 b 0 [.int .i64 x0,.int .i64 x1] /\
 (Calls P F.Z4p #[.agg #[.int .i64 x0,.int .i64 x1]] u1 fun en u2 => ∃ x,en = .returned (.int .i64 x) /\
 True /\
 chk (decide (0 <= x) && decide (x < 32)) (
 ∃ x01 x11 x2 x3,holds u2 c (0 + x.toNat * 4) [.bool x01,.int .i64 x11,.int .i64 x2,.int .i64 x3] /\
 newB u2 #[.bool false,.int .i64 0,.int .i64 0,.int .i64 0] T.cache_line fun b1 u3 =>
 ((holds u3 c (0 + x.toNat * 4) [.bool x01,.int .i64 x11,.int .i64 x2,.int .i64 x3]) /\ True) /\
 stores u3 b1 0 [.bool x01,.int .i64 x11,.int .i64 x2,.int .i64 x3] fun u4 =>
 True /\
 join (fun (t : Unit) (u5 : World) =>
 ∃ x4,u5.cell? ⟨c,128,none⟩ = some (.int .i64 x4) /\
 stores u5 c 128 [.int .i64 (IntKind.wrap .i64 (x4 + 1))] fun u6 =>
 ∃ x5,u6.cell? ⟨b1,3,none⟩ = some (.int .i64 x5) /\
 R (.tuple #[.int .i64 x5,.bool true]) u6) fun J5 =>
 ∃ x6,u4.cell? ⟨b1,0,none⟩ = some (.bool x6) /\
 br (!x6) (
 ∃ x7,u4.cell? ⟨c,129,none⟩ = some (.int .i64 x7) /\
 stores u4 c 129 [.int .i64 (IntKind.wrap .i64 (x7 + 1))] fun u7 =>
 R (.tuple #[.int .i64 (-1),.bool false]) u7) (
 ∃ x02 x12,holds u4 b1 1 [.int .i64 x02,.int .i64 x12] /\
 ∃ x03 x13,holds u4 b 0 [.int .i64 x03,.int .i64 x13] /\
 ∃ x8,(∀ w,(do eqGuard .neq T.cache_Key (.tmp 19) (.tmp 20) (.agg #[.int .i64 x02,.int .i64 x12]) (.agg #[.int .i64 x03,.int .i64 x13]); binOp .neq T.cache_Key (.agg #[.int .i64 x02,.int .i64 x12]) (.agg #[.int .i64 x03,.int .i64 x13]) : Sem Value).run P w = .ok (.bool x8) w) /\
 br x8 (
 ∃ x9,u4.cell? ⟨c,129,none⟩ = some (.int .i64 x9) /\
 stores u4 c 129 [.int .i64 (IntKind.wrap .i64 (x9 + 1))] fun u8 =>
 R (.tuple #[.int .i64 (-1),.bool false]) u8) (
 J5 () u4)))) /\ (newB u1 #[.bool false,.int .i64 0,.int .i64 0,.int .i64 0] T.cache_line fun b2 u9 =>
 ((holds u9 b 0 [.int .i64 x0,.int .i64 x1]) /\ True) /\
 Calls P F.Z4p #[.agg #[.int .i64 x0,.int .i64 x1]] u9 fun en u10 => ∃ x10,en = .returned (.int .i64 x10) /\
 True /\
 chk (decide (0 <= x10) && decide (x10 < 32)) (
 ∃ x04 x14 x21 x31,holds u10 c (0 + x10.toNat * 4) [.bool x04,.int .i64 x14,.int .i64 x21,.int .i64 x31] /\
 stores u10 b2 0 [.bool x04,.int .i64 x14,.int .i64 x21,.int .i64 x31] fun u11 =>
 True /\
 join (fun (t1 : Unit) (u12 : World) =>
 ∃ x15,u12.cell? ⟨c,128,none⟩ = some (.int .i64 x15) /\
 stores u12 c 128 [.int .i64 (IntKind.wrap .i64 (x15 + 1))] fun u13 =>
 ∃ x16,u13.cell? ⟨b2,3,none⟩ = some (.int .i64 x16) /\
 R (.tuple #[.int .i64 x16,.bool true]) u13) fun J5 =>
 ∃ x17,u11.cell? ⟨b2,0,none⟩ = some (.bool x17) /\
 br (!x17) (
 ∃ x18,u11.cell? ⟨c,129,none⟩ = some (.int .i64 x18) /\
 stores u11 c 129 [.int .i64 (IntKind.wrap .i64 (x18 + 1))] fun u14 =>
 R (.tuple #[.int .i64 (-1),.bool false]) u14) (
 ∃ x05 x19,holds u11 b2 1 [.int .i64 x05,.int .i64 x19] /\
 ∃ x06 x110,holds u11 b 0 [.int .i64 x06,.int .i64 x110] /\
 ∃ x20,(∀ w,(do eqGuard .neq T.cache_Key (.tmp 19) (.tmp 20) (.agg #[.int .i64 x05,.int .i64 x19]) (.agg #[.int .i64 x06,.int .i64 x110]); binOp .neq T.cache_Key (.agg #[.int .i64 x05,.int .i64 x19]) (.agg #[.int .i64 x06,.int .i64 x110]) : Sem Value).run P w = .ok (.bool x20) w) /\
 br x20 (
 ∃ x22,u11.cell? ⟨c,129,none⟩ = some (.int .i64 x22) /\
 stores u11 c 129 [.int .i64 (IntKind.wrap .i64 (x22 + 1))] fun u15 =>
 R (.tuple #[.int .i64 (-1),.bool false]) u15) (
 J5 () u11))))
theorem oZ4h {c : Nat} {k0 : Int} {k1 : Int} (h : vZ4h c k0 k1 w fun v w' => R (.returned v) w') : Calls P F.Z4h #[.pointer (some ⟨c,0,none⟩),.agg #[.int .i64 k0,.int .i64 k1]] w R :=
 calls_of_eq (A := ⟨[],[(5,[])]⟩) mixed Tryz.func165 (by kernel_rfl) (by kernel_rfl) h
def vZ4k (c : Nat) (k0 : Int) (k1 : Int) (method : Int) (w : World) (R : Value -> World -> Prop) : Prop :=
 newB w #[.int .i64 k0,.int .i64 k1] T.cache_Key fun b u =>
 wv u.drew fun u1 =>
 ∃ x0 x1,holds u1 b 0 [.int .i64 x0,.int .i64 x1] /\
 ∃ x01 x11,holds u1 b 0 [.int .i64 x01,.int .i64 x11] /\
 Calls P F.Z4p #[.agg #[.int .i64 x0,.int .i64 x1]] u1 fun en u2 => ∃ x,en = .returned (.int .i64 x) /\
 ((holds u2 b 0 [.int .i64 x01,.int .i64 x11]) /\ True) /\
 chk (decide (0 <= x) && decide (x < 32)) (
 stores u2 c (0 + x.toNat * 4) [.bool true,.int .i64 x01,.int .i64 x11,.int .i64 method] fun u3 =>
 True /\
 R (.tuple #[]) u3)
theorem oZ4k {c : Nat} {k0 : Int} {k1 : Int} {method : Int} (h : vZ4k c k0 k1 method w fun v w' => R (.returned v) w') : Calls P F.Z4k #[.pointer (some ⟨c,0,none⟩),.agg #[.int .i64 k0,.int .i64 k1],.int .i64 method] w R :=
 calls_of_eq (A := ⟨[],[]⟩) mixed Tryz.func168 (by kernel_rfl) (by kernel_rfl) h
def vZ4p (k0 : Int) (k1 : Int) (w : World) (R : Value -> World -> Prop) : Prop :=
 newB w #[.int .i64 k0,.int .i64 k1] T.cache_Key fun b u =>
 ∃ x,u.cell? ⟨b,0,none⟩ = some (.int .i64 x) /\
 ∃ x1,u.cell? ⟨b,1,none⟩ = some (.int .i64 x1) /\
 R (.int .i64 (Int.tmod (IntKind.wrap .i64 ((Int.tmod (IntKind.wrap .i64 ((IntKind.wrap .i64 ((Int.tmod x 32) * 31)) + (Int.tmod x1 32))) 32) + 32)) 32)) u
theorem oZ4p {k0 : Int} {k1 : Int} (h : vZ4p k0 k1 w fun v w' => R (.returned v) w') : Calls P F.Z4p #[.agg #[.int .i64 k0,.int .i64 k1]] w R :=
 calls_of_eq (A := ⟨[],[]⟩) mixed Tryz.func176 (by kernel_rfl) (by kernel_rfl) h
end
section
structure TPlace where
 used : Bool
 sel : Int
 method : Int
 deriving DecidableEq,Repr,Inhabited
structure TDict where
 l : List TPlace
 n : Int
 deriving DecidableEq,Repr,Inhabited
abbrev TPlace.vs (v : TPlace) : List Value := [.bool v.used,.int .i64 v.sel,.int .i64 v.method]
abbrev ePlace : Enc TPlace := ⟨TPlace.vs,3,fun _ => rfl,fun x u hu => by simp at hu; rcases hu with rfl | rfl | rfl <;> rfl,by omega⟩
def dAt (sel probe : Int) : Int := (sel.tmod 16 * 7 + probe).tmod 16
def dPutFrom (D : TDict) (sel m : Int) : Nat -> Int -> Bool × TDict
 | 0,_ => (false,D)
 | f + 1,p =>
  let i := (dAt sel p).toNat
  let x := D.l.getD i default
  if x.used && !decide (x.sel = sel) then dPutFrom D sel m f (p + 1)
  else (true,⟨D.l.set i ⟨true,sel,m⟩,if x.used then D.n else IntKind.wrap .i64 (D.n + 1)⟩)
def dPut (D : TDict) (sel m : Int) : Bool × TDict := if sel < 0 then (false,D) else dPutFrom D sel m 4 0
def dFindFrom (D : TDict) (sel : Int) : Nat -> Int -> Int × Int
 | 0,_ => (-1,4)
 | f + 1,p =>
  let x := D.l.getD (dAt sel p).toNat default
  if !x.used then (-1,p + 1) else if x.sel = sel then (x.method,p + 1) else dFindFrom D sel f (p + 1)
def dFind (D : TDict) (sel : Int) : Int × Int := if sel < 0 then (-1,0) else dFindFrom D sel 4 0
def dNew : TDict := ⟨List.replicate 16 ⟨false,0,0⟩,0⟩
def dOfFrom (D : TDict) : List TBind -> Option TDict
 | [] => some D
 | b :: r => if (dPut D b.sel b.method).1 then dOfFrom (dPut D b.sel b.method).2 r else none
def dOf (l : List TBind) : Option TDict := dOfFrom dNew l
structure IsDict (h : Hp) (b : Nat) (D : TDict) : Prop where
 len : D.l.length = 16
 blk : Bk h b (recs ePlace D.l ++ [.int .i64 D.n])
theorem IsDict.fr {h h' : Hp} {S : Nat -> Prop} {b : Nat} {D : TDict} (hd : IsDict h b D) (hf : Fr S h h') (hn : ¬ S b) : IsDict h' b D := ⟨hd.len,hd.blk.fr hf hn⟩
theorem IsDict.nw {h h' : Hp} {b : Nat} {D : TDict} (hd : IsDict h b D) (hf : Nw h h') : IsDict h' b D := ⟨hd.len,hd.blk.nw hf⟩
theorem dAt_range {sel p : Int} (hs : 0 <= sel) (hp : 0 <= p) : 0 <= dAt sel p /\ dAt sel p < 16 := by
 unfold dAt
 rw [Int.tmod_eq_emod_of_nonneg hs,Int.tmod_eq_emod_of_nonneg (by omega)]
 omega
theorem dict_at_ok (sel p : Int) (w : World) (hs : 0 <= sel) (hp : 0 <= p /\ p < 4) : Calls P F.Z2a #[.int .i64 sel,.int .i64 p] w (Is (.int .i64 (dAt sel p)) w) := by
 refine oZ2a ?_
 unfold vZ2a dAt
 rw [Int.tmod_eq_emod_of_nonneg hs,wrap_id (x := sel % 16 * 7) (by omega) (by omega),wrap_id (by omega) (by omega)]
 exact Is.mk _ _
theorem IsDict.place {w : World} {b : Nat} {D : TDict} (hd : IsDict w.heap b D) {i : Nat} (hi : i < 16) : holds w b (0 + i * 3) (D.l.getD i default).vs := by
 have hx : D.l[i]? = some (D.l.getD i default) := getD_some (by rw [hd.len]; exact hi)
 refine holds_i hd.blk fun j hj => ?_
 have hj : j < 3 := hj
 have hl : (recs ePlace D.l).length = 48 := by rw [recs_length,hd.len]; rfl
 rw [Nat.zero_add,List.getElem?_append_left (by omega)]
 exact recs_get (E := ePlace) hx hj
theorem IsDict.count {w : World} {b : Nat} {D : TDict} (hd : IsDict w.heap b D) : w.cell? ⟨b,48,none⟩ = some (.int .i64 D.n) := by
 have hl : (recs ePlace D.l).length = 48 := by rw [recs_length,hd.len]; rfl
 rw [hd.blk.cell,List.getElem?_append_right (by omega),hl]; rfl
theorem IsDict.setN {w : World} {b : Nat} {D : TDict} (hd : IsDict w.heap b D) {k : World -> Prop} (n : Int) (H : ∀ w2,IsDict w2.heap b ⟨D.l,n⟩ -> Fr (· = b) w.heap w2.heap -> w2.heap.size = w.heap.size -> k w2) : stores w b 48 [.int .i64 n] k := by
 have hl : (recs ePlace D.l).length = 48 := by rw [recs_length,hd.len]; rfl
 refine stores_i hd.blk (by simp [hl]) fun w2 h2 hf hz => H w2 ⟨hd.len,?_⟩ hf hz
 have : sets (recs ePlace D.l ++ [.int .i64 D.n]) 48 [.int .i64 n] = recs ePlace D.l ++ [.int .i64 n] := by
  rw [<- hl]; simp [sets]
 rw [<- this]; exact h2
theorem IsDict.setP {w : World} {b : Nat} {D : TDict} (hd : IsDict w.heap b D) {k : World -> Prop} {i : Nat} (hi : i < 16) (x : TPlace) (H : ∀ w2,IsDict w2.heap b ⟨D.l.set i x,D.n⟩ -> Fr (· = b) w.heap w2.heap -> w2.heap.size = w.heap.size -> k w2) : stores w b (0 + i * 3) x.vs k := by
 have hl : (recs ePlace D.l).length = 48 := by rw [recs_length,hd.len]; rfl
 refine stores_i hd.blk (by simp [hl]; omega) fun w2 h2 hf hz => H w2 ⟨by simp [hd.len],?_⟩ hf hz
 have : sets (recs ePlace D.l ++ [.int .i64 D.n]) (0 + i * 3) x.vs = recs ePlace (D.l.set i x) ++ [.int .i64 D.n] := by
  rw [recs_set (by rw [hd.len]; exact hi),Nat.zero_add]
  have := sets_mid [] (recs ePlace D.l) [.int .i64 D.n] x.vs (i * 3) (by simp [hl]; omega)
  simpa using this
 rw [<- this]; exact h2
theorem dict_New_ok (w : World) : Calls P F.Z1i #[] w fun en w' => ∃ b,en = .returned (.pointer (some ⟨b,0,none⟩)) /\ w.heap.size <= b /\ IsDict w'.heap b dNew /\ Nw w.heap w'.heap := by
 refine oZ1i ?_
 refine newB_i ?_; intro b w1 b_eq hB hN w1_sz; try simp only [drew_heap',dr_heap] at b_eq hN
 exact ⟨_,rfl,by omega,⟨rfl,hB⟩,hN⟩
def DictTo (d : Nat) (v : Value) (D : TDict) (w : World) : Ending -> World -> Prop := fun en w' => en = .returned v /\ IsDict w'.heap d D /\ Fr (· = d) w.heap w'.heap
theorem dict_Put_ok {w : World} {d : Nat} {D : TDict} (sel m : Int) (hd : IsDict w.heap d D) : Calls P F.Z1j #[.pointer (some ⟨d,0,none⟩),.int .i64 sel,.int .i64 m] w (DictTo d (.bool (dPut D sel m).1) (dPut D sel m).2 w) := by
 refine oZ1j ?_
 refine ⟨fun t w' => ∃ k : Nat,t = (k : Int) /\ k <= 4 /\ (0 <= sel -> dPut D sel m = dPutFrom D sel m (4 - k) k) /\ (∃ n,w' = dr w n),fun t _ => 4 - t.toNat,⟨0,rfl,by omega,fun h => by rw [dPut,if_neg (by omega)]; rfl,0,rfl⟩,?_⟩
 rintro t _ ⟨k,rfl,hk,hq,n,rfl⟩
 refine br_of (fun h1 => ?_) (fun h1 => ?_) <;> simp only [ZJ,ZK,ZL,ZM,ZN,ZO,ZP,ZQ,ZR] at h1
 ·refine br_of (fun h2 => ?_) (fun h2 => ?_) <;> simp only [ZJ,ZK,ZL,ZM,ZN,ZO,ZP,ZQ,ZR] at h2
  ·simp only [wv_eq,drew_dr,dr_dr]
   refine (dict_at_ok sel (k : Int) (dr w (n + 1)) h1 (by omega)).mono ?_; rintro _ _ ⟨rfl,n2,rfl⟩
   have hr := dAt_range (p := (k : Int)) h1 (by omega)
   have hq := hq h1
   refine ⟨_,rfl,trivial,chk_of (by simp; omega) ?_⟩
   have hi : (dAt sel (k : Int)).toNat < 16 := by omega
   have hpl := hd.place hi
   simp only [holds] at hpl
   obtain ⟨c0,c1,c2⟩ := hpl
   rw [show 4 - k = (3 - k) + 1 by omega,dPutFrom] at hq
   simp only [join_eq,dr_dr,dr_cell]
   generalize D.l.getD (dAt sel (k : Int)).toNat default = x at hq c0 c1 c2
   refine ⟨_,c0,?_⟩
   have put : ∀ (D' : TDict) (w3 : World),IsDict w3.heap d D' -> Fr (· = d) w.heap w3.heap -> dPut D sel m = (true,⟨D'.l.set (dAt sel (k : Int)).toNat ⟨true,sel,m⟩,D'.n⟩) ->
     stores w3 d (0 + (dAt sel (k : Int)).toNat * 3) [.bool true,.int .i64 sel,.int .i64 m] fun w5 => DictTo d (.bool (dPut D sel m).1) (dPut D sel m).2 w (.returned (.bool true)) w5 := fun D' w3 hd3 hf3 he => by
    refine hd3.setP hi ⟨true,sel,m⟩ ?_
    intro w5 h5 hf5 hz5
    rw [he]
    exact ⟨rfl,h5,hf3.trans' hf5⟩
   refine br_of (fun hu => ?_) (fun hu => ?_)
   ·refine ⟨_,c1,?_⟩
    refine br_of (fun hs => ?_) (fun hs => ?_) <;> simp only [ZJ,ZK,ZL,ZM,ZN,ZO,ZP,ZQ,ZR] at hs
    ·simp only [hu,Bool.true_and,decide_eq_false hs,Bool.not_false,if_true] at hq
     rw [wrap_id (by omega) (by omega)]
     exact ⟨⟨k + 1,rfl,by omega,fun _ => by rw [hq]; rw [show 4 - (k + 1) = 3 - k by omega]; rfl,_,rfl⟩,by (first | omega | (dsimp only; omega))⟩
    ·simp only [hu,Bool.true_and,decide_eq_true hs,Bool.not_true,Bool.false_eq_true,if_false,if_true] at hq
     refine ⟨_,c0,?_⟩
     rw [hu]
     simp only [Bool.not_true,br_false]
     exact put D _ hd (Fr.refl _ _) hq
   ·simp only [hu,Bool.false_and,Bool.false_eq_true,if_false] at hq
    refine ⟨_,c0,?_⟩
    rw [hu]
    simp only [Bool.not_false,br_true]
    refine ⟨_,hd.count,?_⟩
    refine IsDict.setN (w := dr w (n + 1 + n2)) hd _ ?_
    intro w6 h6 hf6 hz6
    exact put ⟨D.l,IntKind.wrap .i64 (D.n + 1)⟩ w6 h6 hf6 hq
  ·have hq := hq h1
   rw [show 4 - k = 0 by omega,dPutFrom] at hq
   rw [hq]
   exact ⟨rfl,hd,Fr.refl _ _⟩
 ·rw [show dPut D sel m = (false,D) by rw [dPut,if_pos (by omega)]]
  exact ⟨rfl,hd,Fr.refl _ _⟩
theorem dict_Find_ok {w : World} {d : Nat} {D : TDict} (sel : Int) (hd : IsDict w.heap d D) : Calls P F.Z4j #[.pointer (some ⟨d,0,none⟩),.int .i64 sel] w (Mk (.tuple #[.int .i64 (dFind D sel).1,.int .i64 (dFind D sel).2]) w) := by
 refine oZ4j ?_
 unfold vZ4j
 refine br_of (fun h0 => ?_) (fun h0 => ?_) <;> simp only [ZJ,ZK,ZL,ZM,ZN,ZO,ZP,ZQ,ZR] at h0
 ·rw [show dFind D sel = (-1,0) by rw [dFind,if_pos h0]]
  exact ⟨rfl,Nw.rfl'⟩
 refine ⟨fun t w' => ∃ k : Nat,t = (k : Int) /\ k <= 4 /\ dFind D sel = dFindFrom D sel (4 - k) k /\ Nw w.heap w'.heap,fun t _ => 4 - t.toNat,⟨0,rfl,by omega,by rw [dFind,if_neg (by omega)]; rfl,Nw.rfl'⟩,?_⟩
 rintro t w1 ⟨k,rfl,hk,hq,hN⟩
 refine br_of (fun h2 => ?_) (fun h2 => ?_) <;> simp only [ZJ,ZK,ZL,ZM,ZN,ZO,ZP,ZQ,ZR] at h2
 ·have hr := dAt_range (p := (k : Int)) h0 (by omega)
  have hi : (dAt sel (k : Int)).toNat < 16 := by omega
  rw [show 4 - k = (3 - k) + 1 by omega,dFindFrom] at hq
  generalize hx : D.l.getD (dAt sel (k : Int)).toNat default = x at hq
  have rest : ∀ (w4 : World) (b : Nat),Bk w4.heap b x.vs -> Nw w.heap w4.heap -> ∃ x3 : Bool,w4.cell? ⟨b,0,none⟩ = some (.bool x3) /\
    br (!x3) (Mk (.tuple #[.int .i64 (dFind D sel).1,.int .i64 (dFind D sel).2]) w (.returned (.tuple #[.int .i64 (-1),.int .i64 (IntKind.wrap .i64 ((k : Int) + 1))])) w4)
     (∃ x4 : Int,w4.cell? ⟨b,1,none⟩ = some (.int .i64 x4) /\ br (decide (x4 = sel)) (∃ x5 : Int,w4.cell? ⟨b,2,none⟩ = some (.int .i64 x5) /\ Mk (.tuple #[.int .i64 (dFind D sel).1,.int .i64 (dFind D sel).2]) w (.returned (.tuple #[.int .i64 x5,.int .i64 (IntKind.wrap .i64 ((k : Int) + 1))])) w4)
      ((∃ j : Nat,IntKind.wrap .i64 ((k : Int) + 1) = (j : Int) /\ j <= 4 /\ dFind D sel = dFindFrom D sel (4 - j) j /\ Nw w.heap w4.heap) /\ 4 - (IntKind.wrap .i64 ((k : Int) + 1)).toNat < 4 - ((k : Int)).toNat)) := fun w4 b hB hN4 => by
   rw [wrap_id (x := (k : Int) + 1) (by omega) (by omega)]
   simp only [holds,Z1,Z2,Z3,Z4,Z5,Z6,Z7,Z8,Z9,ZA,ZB,ZC,ZD,ZE,ZF,ZG,true_and,and_true,ZS,ZT,exists_eq',and_assoc,wv_eq,dr_cell,ZU,join_eq,br_true,br_false,chk_true,decide_true,decide_false,Bool.not_true,Bool.not_false,Nat.zero_add,sets,ZH,ZI,onPtr_some,onIface_some,onFunc_some,nilVC_iface,hB.cell]
   refine br_of (fun hu => ?_) (fun hu => ?_)
   ·simp only [hu,if_true] at hq
    rw [hq]
    exact ⟨rfl,hN4⟩
   ·simp only [hu,Bool.false_eq_true,if_false] at hq
    refine br_of (fun hs => ?_) (fun hs => ?_)
    ·rw [if_pos (by simpa using hs)] at hq
     rw [hq]
     exact ⟨rfl,hN4⟩
    ·rw [if_neg (by simpa using hs)] at hq
     exact ⟨⟨k + 1,rfl,by omega,by rw [hq,show 4 - (k + 1) = 3 - k by omega]; rfl,hN4⟩,by omega⟩
  constructor
  ·refine (dict_at_ok sel (k : Int) w1.drew h0 (by omega)).mono ?_; rintro _ _ ⟨rfl,n2,rfl⟩
   refine ⟨_,rfl,trivial,chk_of (by simp; omega) ?_⟩
   have hp := (hd.nw hN).place hi
   rw [hx] at hp
   refine ⟨_,_,_,hp,?_⟩
   refine newB_i ?_; intro b w3 b_eq hB hN3 w3_sz; try simp only [drew_heap',dr_heap] at b_eq hN3
   have hp3 := ((hd.nw hN).nw hN3).place hi
   rw [hx] at hp3
   refine ⟨⟨hp3,trivial⟩,?_⟩
   refine stores_i hB (by simp [sets_length]) ?_; intro w4 hB4 hF4 w4_sz; try simp only [drew_heap',dr_heap] at w4_sz hF4
   refine ⟨trivial,?_⟩
   have h0' := Nat.le_trans hN.le (Nat.le_of_eq b_eq.symm)
   exact rest w4 b hB4 ((hN.tr hN3).st hF4 h0')
  ·refine newB_i ?_; intro b w3 b_eq hB hN3 w3_sz; try simp only [drew_heap',dr_heap] at b_eq hN3
   refine ⟨trivial,?_⟩
   refine (dict_at_ok sel (k : Int) w3 h0 (by omega)).mono ?_; rintro _ _ ⟨rfl,n2,rfl⟩
   refine ⟨_,rfl,trivial,chk_of (by simp; omega) ?_⟩
   have hp3 := ((hd.nw hN).nw hN3).place hi
   rw [hx] at hp3
   refine ⟨_,_,_,hp3,?_⟩
   refine stores_i hB (by simp [sets_length]) ?_; intro w4 hB4 hF4 w4_sz; try simp only [drew_heap',dr_heap] at w4_sz hF4
   refine ⟨trivial,?_⟩
   have h0' := Nat.le_trans hN.le (Nat.le_of_eq b_eq.symm)
   exact rest w4 b hB4 ((hN.tr hN3).st hF4 h0')
 ·rw [show 4 - k = 0 by omega,dFindFrom] at hq
  rw [hq]
  exact ⟨rfl,hN⟩
def DictOf (l : List TBind) (w : World) : Ending -> World -> Prop := fun en w' => Nw w.heap w'.heap /\
  ((∃ D b,dOf l = some D /\ en = .returned (.tuple #[.pointer (some ⟨b,0,none⟩),.bool true]) /\ w.heap.size <= b /\ IsDict w'.heap b D) \/ (dOf l = none /\ en = .returned (.tuple #[.pointer none,.bool false])))
theorem dict_Of_ok {w : World} {ok : Nat -> Prop} {p : Option Addr} {n c : Nat} {l : List TBind} (hs : Sl w.heap ok eBind p n c l) : Calls P F.Zn #[.slice p n c] w (DictOf l w) := by
 refine oZn ?_
 refine (dict_New_ok w).mono ?_; rintro _ w1 ⟨b,rfl,hb,hd,hN1⟩
 refine ⟨_,rfl,?_⟩
 have hsm := hs.small; have hl := hs.len
 obtain ⟨I,hI⟩ : ∃ I : Int -> World -> Prop,I = fun t w' => ∃ (k : Nat) (D : TDict),t = (k : Int) /\ k <= n /\ dOf l = dOfFrom D (l.drop k) /\ IsDict w'.heap b D /\ Nw w.heap w'.heap := ⟨_,rfl⟩
 refine ⟨I,fun t _ => n - t.toNat,by rw [hI]; exact ⟨0,dNew,rfl,Nat.zero_le _,rfl,hd,hN1⟩,?_⟩
 intro t w2 ht; rw [hI] at ht; obtain ⟨k,D,rfl,hk,hq,hd2,hN2⟩ := ht
 refine br_of (fun h1 => ?_) (fun h1 => ?_) <;> simp only [ZJ,ZK,ZL,ZM,ZN,ZO,ZP,ZQ,ZR] at h1
 ·refine chk_of (by simp; omega) ?_
  have hx : l[k]? = some (l[k]'(by omega)) := List.getElem?_eq_getElem (by omega)
  have hdr : l.drop k = l[k]'(by omega) :: l.drop (k + 1) := List.drop_eq_getElem_cons (by omega)
  generalize l[k]'(by omega) = x at hx hdr
  refine (hs.nw hN2).idx hx ?_; intro g o _ hh
  refine ⟨_,_,hh,?_⟩
  refine newB_i ?_; intro b1 w3 b1_eq hB hN3 w3_sz; try simp only [drew_heap',dr_heap] at b1_eq hN3
  refine stores_i hB (by simp [sets_length]) ?_; intro w4 hB4 hF4 w4_sz; try simp only [drew_heap',dr_heap] at w4_sz hF4
  simp only [holds,Z1,Z2,Z3,Z4,Z5,Z6,Z7,Z8,Z9,ZA,ZB,ZC,ZD,ZE,ZF,ZG,true_and,and_true,ZS,ZT,exists_eq',and_assoc,wv_eq,dr_cell,ZU,join_eq,br_true,br_false,chk_true,decide_true,decide_false,Bool.not_true,Bool.not_false,Nat.zero_add,sets,ZH,ZI,onPtr_some,onIface_some,onFunc_some,nilVC_iface,hB4.cell]
  have hlt := hd2.blk.lt
  have hd4 : IsDict w4.heap b D := (hd2.nw hN3).fr hF4 (fun h => by omega)
  refine (dict_Put_ok x.sel x.method hd4).mono ?_; rintro _ w5 ⟨rfl,hd5,hF5⟩
  have hN5 : Nw w.heap w5.heap := (((hN2.tr hN3).st hF4 (by have := hN2.le; omega)).st hF5 hb)
  refine ⟨_,rfl,?_⟩
  rw [hdr,dOfFrom] at hq
  refine br_of (fun h2 => ?_) (fun h2 => ?_)
  ·simp only [ZL] at h2
   rw [h2] at hq
   exact ⟨hN5,.inr ⟨by simpa using hq,rfl⟩⟩
  ·simp only [ZM] at h2
   rw [h2,if_pos rfl] at hq
   rw [wrap_id (by omega) (by omega),hI]
   exact ⟨⟨k + 1,_,rfl,by omega,hq,hd5,hN5⟩,by (first | omega | (dsimp only; omega))⟩
 ·rw [List.drop_of_length_le (by omega),dOfFrom] at hq
  exact ⟨hN2,.inl ⟨D,b,hq,rfl,hb,hd2⟩⟩
structure TLine where
 used : Bool
 cls : Int
 sel : Int
 method : Int
 deriving DecidableEq,Repr,Inhabited
structure TCache where
 l : List TLine
 hits : Int
 misses : Int
 deriving DecidableEq,Repr,Inhabited
abbrev TLine.vs (v : TLine) : List Value := [.bool v.used,.int .i64 v.cls,.int .i64 v.sel,.int .i64 v.method]
abbrev eLine : Enc TLine := ⟨TLine.vs,4,fun _ => rfl,fun x u hu => by simp at hu; rcases hu with rfl | rfl | rfl | rfl <;> rfl,by omega⟩
def caAt (cls sel : Int) : Int := ((cls.tmod 32 * 31 + sel.tmod 32).tmod 32 + 32).tmod 32
def caHas (C : TCache) (cls sel : Int) : Bool := let x := C.l.getD (caAt cls sel).toNat default; x.used && (decide (x.cls = cls) && decide (x.sel = sel))
def caGet (C : TCache) (cls sel : Int) : (Int × Bool) × TCache :=
 if caHas C cls sel then (((C.l.getD (caAt cls sel).toNat default).method,true),{ C with hits := IntKind.wrap .i64 (C.hits + 1) }) else ((-1,false),{ C with misses := IntKind.wrap .i64 (C.misses + 1) })
def caPut (C : TCache) (cls sel m : Int) : TCache := { C with l := C.l.set (caAt cls sel).toNat ⟨true,cls,sel,m⟩ }
def caNew : TCache := ⟨List.replicate 32 ⟨false,0,0,0⟩,0,0⟩
structure IsCache (h : Hp) (b : Nat) (C : TCache) : Prop where
 len : C.l.length = 32
 blk : Bk h b (recs eLine C.l ++ [.int .i64 C.hits,.int .i64 C.misses])
theorem IsCache.fr {h h' : Hp} {S : Nat -> Prop} {b : Nat} {C : TCache} (hd : IsCache h b C) (hf : Fr S h h') (hn : ¬ S b) : IsCache h' b C := ⟨hd.len,hd.blk.fr hf hn⟩
theorem IsCache.nw {h h' : Hp} {b : Nat} {C : TCache} (hd : IsCache h b C) (hf : Nw h h') : IsCache h' b C := ⟨hd.len,hd.blk.nw hf⟩
theorem tmod_range (a b : Int) (hb : 0 < b) : -b < a.tmod b /\ a.tmod b < b := by
 have h1 := Int.tmod_lt_of_pos a hb
 have h2 := Int.tmod_lt_of_pos (-a) hb
 rw [Int.neg_tmod] at h2
 omega
theorem caAt_range (cls sel : Int) : 0 <= caAt cls sel /\ caAt cls sel < 32 := by
 unfold caAt
 have h1 := tmod_range (cls.tmod 32 * 31 + sel.tmod 32) 32 (by omega)
 rw [Int.tmod_eq_emod_of_nonneg (by omega)]
 omega
theorem cache_at_ok (cls sel : Int) (w : World) : Calls P F.Z4p #[.agg #[.int .i64 cls,.int .i64 sel]] w (Mk (.int .i64 (caAt cls sel)) w) := by
 refine oZ4p ?_
 refine newB_i ?_; intro b w1 b_eq hB hN w1_sz; try simp only [drew_heap',dr_heap] at b_eq hN
 simp only [holds,Z1,Z2,Z3,Z4,Z5,Z6,Z7,Z8,Z9,ZA,ZB,ZC,ZD,ZE,ZF,ZG,true_and,and_true,ZS,ZT,exists_eq',and_assoc,wv_eq,dr_cell,ZU,join_eq,br_true,br_false,chk_true,decide_true,decide_false,Bool.not_true,Bool.not_false,Nat.zero_add,sets,ZH,ZI,onPtr_some,onIface_some,onFunc_some,nilVC_iface,hB.cell]
 have h1 := tmod_range cls 32 (by omega); have h2 := tmod_range sel 32 (by omega); have h3 := tmod_range (cls.tmod 32 * 31 + sel.tmod 32) 32 (by omega)
 rw [wrap_id (x := cls.tmod 32 * 31) (by omega) (by omega),wrap_id (x := cls.tmod 32 * 31 + sel.tmod 32) (by omega) (by omega),wrap_id (by omega) (by omega)]
 exact ⟨rfl,hN⟩
theorem IsCache.len' {h : Hp} {b : Nat} {C : TCache} (hd : IsCache h b C) : (recs eLine C.l).length = 128 := by rw [recs_length,hd.len]; rfl
theorem IsCache.line {w : World} {b : Nat} {C : TCache} (hd : IsCache w.heap b C) {i : Nat} (hi : i < 32) : holds w b (0 + i * 4) (C.l.getD i default).vs := by
 have hx : C.l[i]? = some (C.l.getD i default) := getD_some (by rw [hd.len]; exact hi)
 have hl := hd.len'
 refine holds_i hd.blk fun j hj => ?_
 have hj : j < 4 := hj
 rw [Nat.zero_add,List.getElem?_append_left (by omega)]
 exact recs_get (E := eLine) hx hj
theorem IsCache.hit {w : World} {b : Nat} {C : TCache} (hd : IsCache w.heap b C) : w.cell? ⟨b,128,none⟩ = some (.int .i64 C.hits) := by
 have hl := hd.len'
 rw [hd.blk.cell,List.getElem?_append_right (by omega),hl]; rfl
theorem IsCache.miss {w : World} {b : Nat} {C : TCache} (hd : IsCache w.heap b C) : w.cell? ⟨b,129,none⟩ = some (.int .i64 C.misses) := by
 have hl := hd.len'
 rw [hd.blk.cell,List.getElem?_append_right (by omega),hl]; rfl
theorem IsCache.setH {w : World} {b : Nat} {C : TCache} (hd : IsCache w.heap b C) {k : World -> Prop} (n : Int) (H : ∀ w2,IsCache w2.heap b { C with hits := n } -> Fr (· = b) w.heap w2.heap -> w2.heap.size = w.heap.size -> k w2) : stores w b 128 [.int .i64 n] k := by
 have hl := hd.len'
 refine stores_i hd.blk (by simp [hl]) fun w2 h2 hf hz => H w2 ⟨hd.len,?_⟩ hf hz
 have : sets (recs eLine C.l ++ [.int .i64 C.hits,.int .i64 C.misses]) 128 [.int .i64 n] = recs eLine C.l ++ [.int .i64 n,.int .i64 C.misses] := by
  rw [<- hl]; simp [sets]
 rw [<- this]; exact h2
theorem IsCache.setM {w : World} {b : Nat} {C : TCache} (hd : IsCache w.heap b C) {k : World -> Prop} (n : Int) (H : ∀ w2,IsCache w2.heap b { C with misses := n } -> Fr (· = b) w.heap w2.heap -> w2.heap.size = w.heap.size -> k w2) : stores w b 129 [.int .i64 n] k := by
 have hl := hd.len'
 refine stores_i hd.blk (by simp [hl]) fun w2 h2 hf hz => H w2 ⟨hd.len,?_⟩ hf hz
 have : sets (recs eLine C.l ++ [.int .i64 C.hits,.int .i64 C.misses]) 129 [.int .i64 n] = recs eLine C.l ++ [.int .i64 C.hits,.int .i64 n] := by
  rw [show 129 = (recs eLine C.l).length + 1 by omega]; simp [sets]
 rw [<- this]; exact h2
theorem IsCache.setL {w : World} {b : Nat} {C : TCache} (hd : IsCache w.heap b C) {k : World -> Prop} {i : Nat} (hi : i < 32) (x : TLine) (H : ∀ w2,IsCache w2.heap b { C with l := C.l.set i x } -> Fr (· = b) w.heap w2.heap -> w2.heap.size = w.heap.size -> k w2) : stores w b (0 + i * 4) x.vs k := by
 have hl := hd.len'
 refine stores_i hd.blk (by simp [hl]; omega) fun w2 h2 hf hz => H w2 ⟨by simp [hd.len],?_⟩ hf hz
 have : sets (recs eLine C.l ++ [.int .i64 C.hits,.int .i64 C.misses]) (0 + i * 4) x.vs = recs eLine (C.l.set i x) ++ [.int .i64 C.hits,.int .i64 C.misses] := by
  rw [recs_set (by rw [hd.len]; exact hi),Nat.zero_add]
  have := sets_mid [] (recs eLine C.l) [.int .i64 C.hits,.int .i64 C.misses] x.vs (i * 4) (by simp [hl]; omega)
  simpa using this
 rw [<- this]; exact h2
theorem cache_New_ok (w : World) : Calls P F.Zm #[] w fun en w' => ∃ b,en = .returned (.pointer (some ⟨b,0,none⟩)) /\ w.heap.size <= b /\ IsCache w'.heap b caNew /\ Nw w.heap w'.heap := by
 refine oZm ?_
 refine newB_i ?_; intro b w1 b_eq hB hN w1_sz; try simp only [drew_heap',dr_heap] at b_eq hN
 exact ⟨_,rfl,by omega,⟨rfl,hB⟩,hN⟩
def CacheTo (d : Nat) (v : Value) (C : TCache) (w : World) : Ending -> World -> Prop := fun en w' => en = .returned v /\ IsCache w'.heap d C /\ Fr (· = d) w.heap w'.heap
theorem key_neq (a b c d : Int) {ox oy : Operand} : ∀ w,(do eqGuard .neq T.cache_Key ox oy (.agg #[.int .i64 a,.int .i64 b]) (.agg #[.int .i64 c,.int .i64 d]); binOp .neq T.cache_Key (.agg #[.int .i64 a,.int .i64 b]) (.agg #[.int .i64 c,.int .i64 d]) : Sem Value).run P w = .ok (.bool (!(decide (a = c) && (decide (b = d) && true)))) w :=
 agg_neq (xs := [.int .i64 a,.int .i64 b]) (ys := [.int .i64 c,.int .i64 d]) (fs := P.fieldsOf T.cache_Key) (by kernel_rfl) (by kernel_rfl) (by kernel_rfl)
theorem cache_Get_ok {w : World} {d : Nat} {C : TCache} (cls sel : Int) (hd : IsCache w.heap d C) : Calls P F.Z4h #[.pointer (some ⟨d,0,none⟩),.agg #[.int .i64 cls,.int .i64 sel]] w
  (CacheTo d (.tuple #[.int .i64 (caGet C cls sel).1.1,.bool (caGet C cls sel).1.2]) (caGet C cls sel).2 w) := by
 refine oZ4h ?_
 refine newB_i ?_; intro b w1 b_eq hB hN w1_sz; try simp only [drew_heap',dr_heap] at b_eq hN
 simp only [wv_eq]
 refine ⟨cls,sel,by simp [holds,hB.cell],?_⟩
 have hr := caAt_range cls sel
 have hi : (caAt cls sel).toNat < 32 := by omega
 generalize hx : C.l.getD (caAt cls sel).toNat default = x
 have e : caHas C cls sel = (x.used && (decide (x.cls = cls) && decide (x.sel = sel))) := by rw [caHas,hx]
 have e1 : caGet C cls sel = if caHas C cls sel then ((x.method,true),{ C with hits := IntKind.wrap .i64 (C.hits + 1) }) else ((-1,false),{ C with misses := IntKind.wrap .i64 (C.misses + 1) }) := by rw [caGet,hx]
 have hbd : b ≠ d := by have := hd.blk.lt; omega
 have hsz := hd.blk.lt
 constructor
 ·refine (cache_at_ok cls sel w1.drew).mono ?_; rintro _ w2 ⟨rfl,hN2⟩
  have hN2' : Nw w.heap w2.heap := hN.tr hN2
  refine ⟨_,rfl,trivial,chk_of (by simp; omega) ?_⟩
  have hp := (hd.nw hN2').line hi
  rw [hx] at hp
  refine ⟨_,_,_,_,hp,?_⟩
  refine newB_i ?_; intro b1 w3 b1_eq hB1 hN3 w3_sz; try simp only [drew_heap',dr_heap] at b1_eq hN3
  have hp3 := (hd.nw (hN2'.tr hN3)).line hi
  rw [hx] at hp3
  refine ⟨⟨hp3,trivial⟩,?_⟩
  have hbb : b ≠ b1 := by have := (hB.nw hN2).lt; omega
  have hdb : d ≠ b1 := by have := (hd.nw hN2').blk.lt; omega
  refine stores_i hB1 (by simp [sets_length]) ?_; intro w4 hB4 hF4 w4_sz; try simp only [drew_heap',dr_heap] at w4_sz hF4
  refine ⟨trivial,?_⟩
  have hd4 := ((hd.nw (hN2'.tr hN3)).fr hF4 hdb)
  have hBk : Bk w4.heap b [.int .i64 cls,.int .i64 sel] := ((hB.nw hN2).nw hN3).fr hF4 hbb
  have hF4 : Fr (· = d) w.heap w4.heap := ((hN2'.tr hN3).st hF4 (by have := hN2'.le; omega)).fr
  simp only [join_eq]
  refine ⟨_,by rw [hB4.cell]; rfl,?_⟩
  have miss : caHas C cls sel = false -> ∃ x9 : Int,w4.cell? ⟨d,129,none⟩ = some (.int .i64 x9) /\ stores w4 d 129 [.int .i64 (IntKind.wrap .i64 (x9 + 1))] fun w8 => CacheTo d (.tuple #[.int .i64 (caGet C cls sel).1.1,.bool (caGet C cls sel).1.2]) (caGet C cls sel).2 w (.returned (.tuple #[.int .i64 (-1),.bool false])) w8 := fun hh => by
   refine ⟨_,hd4.miss,?_⟩
   refine hd4.setM _ ?_
   intro w8 h8 hf8 hz8
   rw [e1,hh]
   exact ⟨rfl,h8,hF4.trans' hf8⟩
  refine br_of (fun hu => ?_) (fun hu => ?_)
  ·exact miss (by rw [e]; simp at hu; rw [hu]; rfl)
  ·simp only [ZM] at hu
   refine ⟨x.cls,x.sel,by simp [holds,hB4.cell,sets],cls,sel,by simp [holds,hBk.cell],_,key_neq _ _ _ _,?_⟩
   simp only [Bool.and_true]
   refine br_of (fun hv => ?_) (fun hv => ?_)
   ·exact miss (by rw [e,hu,Bool.true_and]; simpa only [Bool.not_eq_true'] using hv)
   ·have hh : caHas C cls sel = true := by rw [e,hu,Bool.true_and]; simpa only [Bool.not_eq_false'] using hv
    refine ⟨_,hd4.hit,?_⟩
    refine hd4.setH _ ?_
    intro w8 h8 hf8 hz8
    refine ⟨x.method,by rw [(hB4.fr hf8 (by omega)).cell]; rfl,?_⟩
    rw [e1,hh]
    exact ⟨rfl,h8,hF4.trans' hf8⟩
 ·refine newB_i ?_; intro b1 w3 b1_eq hB1 hN3 w3_sz; try simp only [drew_heap',dr_heap] at b1_eq hN3
  have hN3' : Nw w.heap w3.heap := hN.tr hN3
  refine ⟨⟨by simp [holds,(hB.nw hN3).cell],trivial⟩,?_⟩
  refine (cache_at_ok cls sel w3).mono ?_; rintro _ w2 ⟨rfl,hN2⟩
  refine ⟨_,rfl,trivial,chk_of (by simp; omega) ?_⟩
  have hp := (hd.nw (hN3'.tr hN2)).line hi
  rw [hx] at hp
  refine ⟨_,_,_,_,hp,?_⟩
  have hbb : b ≠ b1 := by have := hB.lt; omega
  have hdb : d ≠ b1 := by have := (hd.nw hN).blk.lt; omega
  have hB1' := hB1.nw hN2
  refine stores_i hB1' (by simp [sets_length]) ?_; intro w4 hB4 hF4 w4_sz; try simp only [drew_heap',dr_heap] at w4_sz hF4
  refine ⟨trivial,?_⟩
  have hd4 := ((hd.nw (hN3'.tr hN2)).fr hF4 hdb)
  have hBk : Bk w4.heap b [.int .i64 cls,.int .i64 sel] := ((hB.nw hN3).nw hN2).fr hF4 hbb
  have hF4 : Fr (· = d) w.heap w4.heap := ((hN3'.tr hN2).st hF4 (by have := hN.le; omega)).fr
  simp only [join_eq]
  refine ⟨_,by rw [hB4.cell]; rfl,?_⟩
  have miss : caHas C cls sel = false -> ∃ x9 : Int,w4.cell? ⟨d,129,none⟩ = some (.int .i64 x9) /\ stores w4 d 129 [.int .i64 (IntKind.wrap .i64 (x9 + 1))] fun w8 => CacheTo d (.tuple #[.int .i64 (caGet C cls sel).1.1,.bool (caGet C cls sel).1.2]) (caGet C cls sel).2 w (.returned (.tuple #[.int .i64 (-1),.bool false])) w8 := fun hh => by
   refine ⟨_,hd4.miss,?_⟩
   refine hd4.setM _ ?_
   intro w8 h8 hf8 hz8
   rw [e1,hh]
   exact ⟨rfl,h8,hF4.trans' hf8⟩
  refine br_of (fun hu => ?_) (fun hu => ?_)
  ·exact miss (by rw [e]; simp at hu; rw [hu]; rfl)
  ·simp only [ZM] at hu
   refine ⟨x.cls,x.sel,by simp [holds,hB4.cell,sets],cls,sel,by simp [holds,hBk.cell],_,key_neq _ _ _ _,?_⟩
   simp only [Bool.and_true]
   refine br_of (fun hv => ?_) (fun hv => ?_)
   ·exact miss (by rw [e,hu,Bool.true_and]; simpa only [Bool.not_eq_true'] using hv)
   ·have hh : caHas C cls sel = true := by rw [e,hu,Bool.true_and]; simpa only [Bool.not_eq_false'] using hv
    refine ⟨_,hd4.hit,?_⟩
    refine hd4.setH _ ?_
    intro w8 h8 hf8 hz8
    refine ⟨x.method,by rw [(hB4.fr hf8 (by omega)).cell]; rfl,?_⟩
    rw [e1,hh]
    exact ⟨rfl,h8,hF4.trans' hf8⟩
theorem cache_Put_ok {w : World} {d : Nat} {C : TCache} (cls sel m : Int) (hd : IsCache w.heap d C) : Calls P F.Z4k #[.pointer (some ⟨d,0,none⟩),.agg #[.int .i64 cls,.int .i64 sel],.int .i64 m] w (CacheTo d (.tuple #[]) (caPut C cls sel m) w) := by
 refine oZ4k ?_
 refine newB_i ?_; intro b w1 b_eq hB hN w1_sz; try simp only [drew_heap',dr_heap] at b_eq hN
 simp only [wv_eq]
 refine ⟨cls,sel,by simp [holds,hB.cell],cls,sel,by simp [holds,hB.cell],?_⟩
 have hr := caAt_range cls sel
 refine (cache_at_ok cls sel w1.drew).mono ?_; rintro _ w2 ⟨rfl,hN2⟩
 have hN2' : Nw w.heap w2.heap := hN.tr hN2
 refine ⟨_,rfl,⟨by simp [holds,(hB.nw hN2).cell],trivial⟩,chk_of (by simp; omega) ?_⟩
 refine (hd.nw hN2').setL (by omega) ⟨true,cls,sel,m⟩ ?_
 intro w3 h3 hf3 hz3
 exact ⟨trivial,rfl,h3,hN2'.fr.trans' hf3⟩
end
end Go.Proofs.YtbedadcbbnmpkaaGreatDoor
namespace Go.Proofs.YtbedadcbbnmpkaaGreatDoor
open Go Go.RowKit Go.Shelf
def lays138_ren : Go.Shelf.Ren := ⟨fun | 138 => 161 | 195 => 173 | 218 => 174 | 143 => 175 | 219 => 184 | 217 => 189 | 225 => 190 | 224 => 191 | 267 => 192 | 266 => 196 | 314 => 197 | n => n,fun | 9 => 9 | 3 => 3 | 4 => 4 | 5 => 5 | 0 => 0 | 46 => 141 | 146 => 183 | 51 => 40 | n => n,fun | 1 => 0 | n => n⟩
theorem lays138 : Go.Proofs.Lays.n138 Tryz.prog lays138_ren := {
 mixed := by kernel_rfl
 f138 := Tryz.func161.trans (congrArg some (by kernel_rfl))
 f143 := Tryz.func175.trans (congrArg some (by kernel_rfl))
 f195 := Tryz.func173.trans (congrArg some (by kernel_rfl))
 f217 := Tryz.func189.trans (congrArg some (by kernel_rfl))
 f218 := Tryz.func174.trans (congrArg some (by kernel_rfl))
 f219 := Tryz.func184.trans (congrArg some (by kernel_rfl))
 f224 := Tryz.func191.trans (congrArg some (by kernel_rfl))
 f225 := Tryz.func190.trans (congrArg some (by kernel_rfl))
 f266 := Tryz.func196.trans (congrArg some (by kernel_rfl))
 f267 := Tryz.func192.trans (congrArg some (by kernel_rfl))
 f314 := Tryz.func197.trans (congrArg some (by kernel_rfl))
 t0 := Tryz.underlying0
 a0 := Tryz.isAgg0
 z0 := Tryz.sizeOf0
 v0 := Tryz.zeroValue0
 t3 := Tryz.underlying3
 a3 := Tryz.isAgg3
 z3 := Tryz.sizeOf3
 v3 := Tryz.zeroValue3
 t4 := Tryz.underlying4
 a4 := Tryz.isAgg4
 z4 := Tryz.sizeOf4
 v4 := Tryz.zeroValue4
 t5 := Tryz.underlying5
 a5 := Tryz.isAgg5
 z5 := Tryz.sizeOf5
 v5 := Tryz.zeroValue5
 t9 := Tryz.underlying9
 a9 := Tryz.isAgg9
 z9 := Tryz.sizeOf9
 v9 := Tryz.zeroValue9
 t46 := Tryz.underlying141
 a46 := Tryz.isAgg141
 z46 := Tryz.sizeOf141
 v46 := Tryz.zeroValue141
 t51 := Tryz.underlying40
 a51 := Tryz.isAgg40
 z51 := Tryz.sizeOf40
 v51 := Tryz.zeroValue40
 t146 := Tryz.underlying183
 a146 := Tryz.isAgg183
 z146 := Tryz.sizeOf183
 v146 := Tryz.zeroValue183
 g1 := by kernel_rfl }
def lays160_ren : Go.Shelf.Ren := ⟨fun | 160 => 172 | 232 => 178 | 231 => 177 | 227 => 179 | 234 => 181 | 233 => 180 | 236 => 183 | 235 => 182 | 228 => 185 | 271 => 188 | 151 => 187 | 197 => 186 | 120 => 195 | 152 => 194 | 260 => 193 | 137 => 198 | 119 => 199 | 224 => 191 | 225 => 190 | 217 => 189 | 266 => 196 | n => n,fun | 9 => 9 | 4 => 4 | 3 => 3 | 5 => 5 | 117 => 233 | 116 => 232 | 0 => 0 | 124 => 236 | 21 => 21 | 105 => 237 | 46 => 141 | 119 => 242 | 139 => 245 | 138 => 244 | n => n,fun | 3 => 1 | 4 => 2 | n => n⟩
theorem lays160 : Go.Proofs.Lays.n160 Tryz.prog lays160_ren := {
 mixed := by kernel_rfl
 f119 := Tryz.func199.trans (congrArg some (by kernel_rfl))
 f120 := Tryz.func195.trans (congrArg some (by kernel_rfl))
 f137 := Tryz.func198.trans (congrArg some (by kernel_rfl))
 f151 := Tryz.func187.trans (congrArg some (by kernel_rfl))
 f152 := Tryz.func194.trans (congrArg some (by kernel_rfl))
 f160 := Tryz.func172.trans (congrArg some (by kernel_rfl))
 f197 := Tryz.func186.trans (congrArg some (by kernel_rfl))
 f217 := Tryz.func189.trans (congrArg some (by kernel_rfl))
 f224 := Tryz.func191.trans (congrArg some (by kernel_rfl))
 f225 := Tryz.func190.trans (congrArg some (by kernel_rfl))
 f227 := Tryz.func179.trans (congrArg some (by kernel_rfl))
 f228 := Tryz.func185.trans (congrArg some (by kernel_rfl))
 f231 := Tryz.func177.trans (congrArg some (by kernel_rfl))
 f232 := Tryz.func178.trans (congrArg some (by kernel_rfl))
 f233 := Tryz.func180.trans (congrArg some (by kernel_rfl))
 f234 := Tryz.func181.trans (congrArg some (by kernel_rfl))
 f235 := Tryz.func182.trans (congrArg some (by kernel_rfl))
 f236 := Tryz.func183.trans (congrArg some (by kernel_rfl))
 f260 := Tryz.func193.trans (congrArg some (by kernel_rfl))
 f266 := Tryz.func196.trans (congrArg some (by kernel_rfl))
 f271 := Tryz.func188.trans (congrArg some (by kernel_rfl))
 t0 := Tryz.underlying0
 a0 := Tryz.isAgg0
 z0 := Tryz.sizeOf0
 v0 := Tryz.zeroValue0
 t3 := Tryz.underlying3
 a3 := Tryz.isAgg3
 z3 := Tryz.sizeOf3
 v3 := Tryz.zeroValue3
 t4 := Tryz.underlying4
 a4 := Tryz.isAgg4
 z4 := Tryz.sizeOf4
 v4 := Tryz.zeroValue4
 t5 := Tryz.underlying5
 a5 := Tryz.isAgg5
 z5 := Tryz.sizeOf5
 v5 := Tryz.zeroValue5
 t9 := Tryz.underlying9
 a9 := Tryz.isAgg9
 z9 := Tryz.sizeOf9
 v9 := Tryz.zeroValue9
 t21 := Tryz.underlying21
 a21 := Tryz.isAgg21
 z21 := Tryz.sizeOf21
 v21 := Tryz.zeroValue21
 t46 := Tryz.underlying141
 a46 := Tryz.isAgg141
 z46 := Tryz.sizeOf141
 v46 := Tryz.zeroValue141
 t105 := Tryz.underlying237
 a105 := Tryz.isAgg237
 z105 := Tryz.sizeOf237
 v105 := Tryz.zeroValue237
 t116 := Tryz.underlying232
 a116 := Tryz.isAgg232
 z116 := Tryz.sizeOf232
 t117 := Tryz.underlying233
 a117 := Tryz.isAgg233
 z117 := Tryz.sizeOf233
 v117 := Tryz.zeroValue233
 t119 := Tryz.underlying242
 a119 := Tryz.isAgg242
 z119 := Tryz.sizeOf242
 t124 := Tryz.underlying236
 a124 := Tryz.isAgg236
 z124 := Tryz.sizeOf236
 v124 := Tryz.zeroValue236
 t138 := Tryz.underlying244
 a138 := Tryz.isAgg244
 z138 := Tryz.sizeOf244
 v138 := Tryz.zeroValue244
 t139 := Tryz.underlying245
 a139 := Tryz.isAgg245
 z139 := Tryz.sizeOf245
 v139 := Tryz.zeroValue245
 g3 := by kernel_rfl
 g4 := by kernel_rfl }
theorem strings_Count_ok (s : ByteArray) (c : UInt8) (w : World) : Calls P F.Z4d #[.string s,.string ⟨#[c]⟩] w (Is (.int .i64 (Lib.countByte s.data.toList c)) w) :=
 _root_.Go.Calls.mono (Go.Proofs.Any.strings_Count_one lays138 s c w) fun e w' h => ⟨⟨h.1,0,h.2⟩,by rw [h.2]; exact ⟨rfl,rfl⟩⟩
theorem below_nw {w w' : World} (h : Below w.heap.size w w') : Nw w.heap w'.heap := ⟨h.size,fun b hb _ => h.block b hb⟩
theorem strings_Trim_ok (s cutset : ByteArray) (w : World) (hs : s.size <= 9223372036854775807) (hcs : cutset.size < 4294967281) (ha : ∀ (j : Nat) b,cutset.data.toList[j]? = some b -> b.toNat < 128) :
  Calls P F.Z4o #[.string s,.string cutset] w (Mk (.string ⟨(Lib.trimS s.data.toList cutset.data.toList).toArray⟩) w) :=
 _root_.Go.Calls.mono (Go.Proofs.Any.strings_Trim_ascii lays160 (by intro w; kernel_rfl) (by kernel_rfl) s cutset w hs hcs ha) fun e w' h => ⟨⟨h.1,below_nw h.2⟩,h.2.os,h.2.output⟩
end Go.Proofs.YtbedadcbbnmpkaaGreatDoor
namespace Go.Proofs.YtbedadcbbnmpkaaGreatDoor
open Go Vc
section
variable {w : World} {R : Ending -> World -> Prop}
def vZ35  (w : World) (R : Value -> World -> Prop) : Prop :=
 ∃ x : Option Nat,∃ u,(Instr.makeMap T.map_name_Key_int none).run P w = .ok (.map x) u /\ Aft w u /\
 newB u #[.slice none 0 0,.map x] T.name_Table fun b u1 =>
 R (.pointer (some ⟨b,0,none⟩)) u1
theorem oZ35  (h : vZ35  w fun v w' => R (.returned v) w') : Calls P F.Z35 #[] w R :=
 calls_of_eq (A := ⟨[],[]⟩) mixed Tryz.func116 (by kernel_rfl) (by kernel_rfl) h
def vZ36 (t : Nat) (s : ByteArray) (w : World) (R : Value -> World -> Prop) : Prop :=
 Calls P F.Z41 #[.string s] w fun en u => ∃ cs : Array Value,∃ x1,en = .returned (.tuple #[.agg cs,.bool x1]) /\
 newB u #[.int .u8 0,.int .u8 0,.int .u8 0,.int .u8 0,.int .u8 0,.int .u8 0,.int .u8 0,.int .u8 0,.int .u8 0,.int .u8 0,.int .u8 0,.int .u8 0,.int .u8 0,.int .u8 0,.int .u8 0,.int .u8 0] T.name_Key fun b u1 =>
 chk (Nat.beq cs.size 16) (
 chk (cs.toList.all Value.oneCell') (
 stores u1 b 0 cs.toList fun u2 =>
 wv u2.drew fun u3 =>
 ∃ x : Option Nat,u3.cell? ⟨t,1,none⟩ = some (.map x) /\
 ∃ cs1 : Array Value,holdsRow u3 b 0 16 cs1 /\
 ∃ x0 x11 u4,(Instr.lookup T.map_name_Key_int (.map x) (.agg cs1) true).run P u3 = .ok (.tuple #[.int .i64 x0,.bool x11]) u4 /\ Aft u3 u4 /\
 True /\
 br (!x1) (
 R (.int .i64 (-1)) u4) (
 br x11 (
 R (.int .i64 x0) u4) (
 ∃ px nx cx,u4.cell? ⟨t,0,none⟩ = some (.slice px nx cx) /\
 br (decide (48 <= (nx : Int))) (
 R (.int .i64 (-1)) u4) (
 wv u4.drew fun u5 =>
 ∃ x2 : Option Nat,u5.cell? ⟨t,1,none⟩ = some (.map x2) /\
 ∃ cs2 : Array Value,holdsRow u5 b 0 16 cs2 /\
 ∃ px1 nx1 cx1,u5.cell? ⟨t,0,none⟩ = some (.slice px1 nx1 cx1) /\
 ∃ u6,(Instr.mapUpdate T.map_name_Key_int (.map x2) (.agg cs2) (.int .i64 (nx1 : Int))).run P u5 = .ok () u6 /\ Aft u5 u6 /\
 True /\
 wv u6.drew fun u7 =>
 ∃ px2 nx2 cx2,u7.cell? ⟨t,0,none⟩ = some (.slice px2 nx2 cx2) /\
 ∃ cs3 : Array Value,holdsRow u7 b 0 16 cs3 /\
 chk (Nat.beq cs3.size 16 && true) (
 newB u7 cs3 T.name_Key fun b1 u8 =>
 ((u8.cell? ⟨t,0,none⟩ = some (.slice px2 nx2 cx2)) /\ True) /\
 ∃ px3 nx3 cx3 u9,(Builtin.append_ #[T.sl_name_Key,T.sl_name_Key] T.sl_name_Key #[.slice px2 nx2 cx2,.slice (some ⟨b1,0,none⟩) 1 1]).run P u8 = .ok (.slice px3 nx3 cx3) u9 /\ Aft u8 u9 /\
 True /\
 stores u9 t 0 [.slice px3 nx3 cx3] fun u10 =>
 True /\
 wv u10.drew fun u11 =>
 ∃ x3 : Option Nat,u11.cell? ⟨t,1,none⟩ = some (.map x3) /\
 ∃ cs4 : Array Value,holdsRow u11 b 0 16 cs4 /\
 ∃ x4 u12,(Instr.lookup T.map_name_Key_int (.map x3) (.agg cs4) false).run P u11 = .ok (.int .i64 x4) u12 /\ Aft u11 u12 /\
 True /\
 R (.int .i64 x4) u12))))))
theorem oZ36 {t : Nat} {s : ByteArray} (h : vZ36 t s w fun v w' => R (.returned v) w') : Calls P F.Z36 #[.pointer (some ⟨t,0,none⟩),.string s] w R :=
 calls_of_eq (A := ⟨[],[]⟩) mixed Tryz.func117 (by kernel_rfl) (by kernel_rfl) h
def vZ3c (s : ByteArray) (w : World) (R : Value -> World -> Prop) : Prop :=
 Calls P F.Z4b #[.string s] w fun en u => ∃ x,en = .returned (.bool x) /\
 br (!x) (
 R (.int .i64 (-1)) u) (
 Calls P F.Z4c #[.string s] u fun en u1 => ∃ x1,en = .returned (.bool x1) /\
 br x1 (
 R (.int .i64 1) u1) (
 Calls P F.Z4d #[.string s,.string (⟨#[58]⟩ : ByteArray)] u1 fun en u2 => ∃ x2,en = .returned (.int .i64 x2) /\
 R (.int .i64 x2) u2))
theorem oZ3c {s : ByteArray} (h : vZ3c s w fun v w' => R (.returned v) w') : Calls P F.Z3c #[.string s] w R :=
 calls_of_eq (A := ⟨[],[]⟩) mixed Tryz.func123 (by kernel_rfl) (by kernel_rfl) h
def vZ41 (s : ByteArray) (w : World) (R : Value -> World -> Prop) : Prop :=
 newB w #[.int .u8 0,.int .u8 0,.int .u8 0,.int .u8 0,.int .u8 0,.int .u8 0,.int .u8 0,.int .u8 0,.int .u8 0,.int .u8 0,.int .u8 0,.int .u8 0,.int .u8 0,.int .u8 0,.int .u8 0,.int .u8 0] T.name_Key fun b u =>
 newB u #[.int .u8 0,.int .u8 0,.int .u8 0,.int .u8 0,.int .u8 0,.int .u8 0,.int .u8 0,.int .u8 0,.int .u8 0,.int .u8 0,.int .u8 0,.int .u8 0,.int .u8 0,.int .u8 0,.int .u8 0,.int .u8 0] T.name_Key fun b1 u1 =>
 Calls P F.Z4b #[.string s] u1 fun en u2 => ∃ x,en = .returned (.bool x) /\
 br (!x) (
 ∃ cs : Array Value,holdsRow u2 b1 0 16 cs /\
 chk (Nat.beq cs.size 16) (
 chk (cs.toList.all Value.oneCell') (
 stores u2 b 0 cs.toList fun u3 =>
 ∃ cs1 : Array Value,holdsRow u3 b 0 16 cs1 /\
 R (.tuple #[.agg cs1,.bool false]) u3))) (
 ∃ x1 u4,(Builtin.copy_ #[T.sl_uint8,T.string] T.int #[.slice (some ⟨b1,0,none⟩) 16 16,.string s]).run P u2 = .ok (.int .i64 x1) u4 /\ Aft u2 u4 /\
 ∃ cs2 : Array Value,holdsRow u4 b1 0 16 cs2 /\
 chk (Nat.beq cs2.size 16) (
 chk (cs2.toList.all Value.oneCell') (
 stores u4 b 0 cs2.toList fun u5 =>
 ∃ cs3 : Array Value,holdsRow u5 b 0 16 cs3 /\
 R (.tuple #[.agg cs3,.bool true]) u5)))
theorem oZ41 {s : ByteArray} (h : vZ41 s w fun v w' => R (.returned v) w') : Calls P F.Z41 #[.string s] w R :=
 calls_of_eq (A := ⟨[],[]⟩) mixed Tryz.func149 (by kernel_rfl) (by kernel_rfl) h
def vZ4b (s : ByteArray) (w : World) (R : Value -> World -> Prop) : Prop :=
 Calls P F.Z4c #[.string s] w fun en u => ∃ x,en = .returned (.bool x) /\
 br x (
 R (.bool true) u) (
 join (fun (t : Unit) (u1 : World) =>
 ∃ (I : Int -> World -> Prop) (μ : Int -> World -> Nat),I 0 u1 /\
 ∀ (t1 : Int) (u2 : World),I t1 u2 ->
 br (decide (t1 < (s.size : Int))) (
 chk (decide (0 <= t1) && decide (t1 < (s.size : Int))) (
 Calls P F.Z4n #[.int .u8 (((ByteArray.data s).getD (Int.toNat t1) 0).toNat : Int)] u2 fun en u3 => ∃ x1,en = .returned (.bool x1) /\
 br (!x1) (
 chk (decide (0 <= t1) && decide (t1 < (s.size : Int))) (
 br (!(decide ((((ByteArray.data s).getD (Int.toNat t1) 0).toNat : Int) = 58))) (
 chk (decide (0 <= t1) && decide (t1 < (s.size : Int))) (
 br (decide ((((ByteArray.data s).getD (Int.toNat t1) 0).toNat : Int) < 48)) (
 R (.bool false) u3) (
 chk (decide (0 <= t1) && decide (t1 < (s.size : Int))) (
 br (decide (57 < (((ByteArray.data s).getD (Int.toNat t1) 0).toNat : Int))) (
 R (.bool false) u3) (
 I (IntKind.wrap .i64 (t1 + 1)) u3 /\ μ (IntKind.wrap .i64 (t1 + 1)) u3 < μ t1 u2))))) (
 I (IntKind.wrap .i64 (t1 + 1)) u3 /\ μ (IntKind.wrap .i64 (t1 + 1)) u3 < μ t1 u2))) (
 I (IntKind.wrap .i64 (t1 + 1)) u3 /\ μ (IntKind.wrap .i64 (t1 + 1)) u3 < μ t1 u2))) (
 R (.bool true) u2)) fun J5 =>
 br (s.toList == (⟨#[]⟩ : ByteArray).toList) (
 R (.bool false) u) (
 br (decide (16 < (s.size : Int))) (
 R (.bool false) u) (
 chk (decide (0 <= 0) && decide (0 < (s.size : Int))) (
 Calls P F.Z4n #[.int .u8 (((ByteArray.data s).getD (Int.toNat 0) 0).toNat : Int)] u fun en u4 => ∃ x2,en = .returned (.bool x2) /\
 br (!x2) (
 R (.bool false) u4) (
 J5 () u4)))))
theorem oZ4b {s : ByteArray} (h : vZ4b s w fun v w' => R (.returned v) w') : Calls P F.Z4b #[.string s] w R :=
 calls_of_eq (A := ⟨[(6,[(21,(.int .i64))])],[(5,[])]⟩) mixed Tryz.func159 (by kernel_rfl) (by kernel_rfl) h
def vZ4c (s : ByteArray) (w : World) (R : Value -> World -> Prop) : Prop :=
 br (!(s.toList == (⟨#[]⟩ : ByteArray).toList)) (
 br (decide ((s.size : Int) <= 2)) (
 Calls P F.Z4o #[.string s,.string (⟨#[43,45,42,47,60,62,61,126,38,124,37]⟩ : ByteArray)] w fun en u => ∃ x,en = .returned (.string x) /\
 R (.bool (x.toList == (⟨#[]⟩ : ByteArray).toList)) u) (
 R (.bool false) w)) (
 R (.bool false) w)
theorem oZ4c {s : ByteArray} (h : vZ4c s w fun v w' => R (.returned v) w') : Calls P F.Z4c #[.string s] w R :=
 calls_of_eq (A := ⟨[],[]⟩) mixed Tryz.func160 (by kernel_rfl) (by kernel_rfl) h
def vZ4n (c : Int) (w : World) (R : Value -> World -> Prop) : Prop :=
 br (decide (97 <= c)) (
 br (decide (c <= 122)) (
 R (.bool true) w) (
 br (decide (65 <= c)) (
 R (.bool (decide (c <= 90))) w) (
 R (.bool false) w))) (
 br (decide (65 <= c)) (
 R (.bool (decide (c <= 90))) w) (
 R (.bool false) w))
theorem oZ4n {c : Int} (h : vZ4n c w fun v w' => R (.returned v) w') : Calls P F.Z4n #[.int .u8 c] w R :=
 calls_of_eq (A := ⟨[],[]⟩) mixed Tryz.func171 (by kernel_rfl) (by kernel_rfl) h
end
section
theorem info_u32 : (P.info? T.uint32).map (fun i => (i.zero,i.size,i.bytes)) = some (some (.int .u32 0),1,4) := by kernel_rfl
theorem info_u8 : (P.info? T.uint8).map (fun i => (i.zero,i.size,i.bytes)) = some (some (.int .u8 0),1,1) := by kernel_rfl
theorem copy_bk {w : World} {T Ts ty el : TypeId} {g o n c : Nat} {a : Addr} {n2 c2 : Nat} {cur cs : List Value} {z : Value} {by_ : Nat} (hu : P.underlying T = some (.slice el)) (hi : (P.info? el).map (fun i => (i.zero,i.size,i.bytes)) = some (some z,1,by_))
  (hB : Bk w.heap g cur) (hn : cs.length = min n2 n) (hsrc : ∀ j,j < cs.length -> w.cell? ⟨a.block,a.off + j,none⟩ = cs[j]?) (ha : a.spot = none) (hfit : o + cs.length <= cur.length) (h1 : ∀ v ∈ cs,v.oneCell' = true) {K : Int -> World -> Prop}
  (H : ∀ w',Bk w'.heap g (sets cur o cs) -> Fr (· = g) w.heap w'.heap -> w'.heap.size = w.heap.size -> K (cs.length : Int) w') :
  ∃ x : Int,∃ w1,(Builtin.copy_ #[T,Ts] ty #[.slice (some ⟨g,o,none⟩) n c,.slice (some a) n2 c2]).run P w = .ok (.int .i64 x) w1 /\ Aft w w1 /\ K x w1 := by
 obtain ⟨t,hB⟩ := hB
 obtain ⟨i,e1,e2,e3,e4⟩ := info_parts hi
 have hsz : (P.info? el).map (·.size) = some 1 := by rw [e1,Option.map_some,e3]
 have hs : ∀ j v,cs[j]? = some v -> w.cell? (a.add j) = some v := fun j v hv => by
  obtain ⟨b,f,s⟩ := a
  simp only at ha hsrc
  subst ha
  rw [addr_add,hsrc j (List.getElem?_eq_some_iff.1 hv).1,hv]
 have hrun := run_copy_row (P := P) w T Ts ty el g o n c a n2 c2 cur.toArray t cs hu hsz hB hn hs (by simpa using hfit) h1
 refine ⟨_,_,hrun,⟨rfl,rfl⟩,H _ ⟨t,?_⟩ ⟨by simp,fun b _ hb => setRow_other w g b _ hb⟩ (by simp)⟩
 rw [setRow_heap w g _ _ t _ hB,sets_eq _ _ _ hfit]
theorem copy_none {w : World} {T Ts ty el : TypeId} {p q : Option Addr} {n c n2 c2 : Nat} {z : Value} {by_ : Nat} (hu : P.underlying T = some (.slice el)) (hi : (P.info? el).map (fun i => (i.zero,i.size,i.bytes)) = some (some z,1,by_))
  (hn : min n2 n = 0) {K : Int -> World -> Prop} (H : K 0 w) :
  ∃ x : Int,∃ w1,(Builtin.copy_ #[T,Ts] ty #[.slice p n c,.slice q n2 c2]).run P w = .ok (.int .i64 x) w1 /\ Aft w w1 /\ K x w1 := by
 obtain ⟨i,e1,e2,e3,e4⟩ := info_parts hi
 have hsz : (P.info? el).map (·.size) = some 1 := by rw [e1,Option.map_some,e3]
 exact ⟨_,_,run_copy_none (P := P) w T Ts ty el p q n c n2 c2 hu hsz hn,Aft.refl w,H⟩
theorem mul64_one (y : Int) (h0 : 0 <= y) (h1 : y < 64) (w : World) : Calls P F.Z3h #[.int .u64 1,.int .u64 y] w (Is (.tuple #[.int .u64 0,.int .u64 y]) w) := by
 refine oZ3h ?_
 unfold vZ3h
 obtain ⟨k,rfl⟩ : ∃ k : Fin 64,y = (k.val : Int) := ⟨⟨y.toNat,by omega⟩,by simp only; omega⟩
 refine ⟨?_,0,rfl⟩
 simp only [Z4,ZC,ZE,ZF,Z5,true_and,and_true]
 clear h0 h1
 revert k
 decide +kernel
theorem mul_one (y : Int) (h0 : 0 <= y) (h1 : y < 64) (w : World) : Calls P F.Z2c #[.int .u64 1,.int .u64 y] w (Is (.tuple #[.int .u64 0,.int .u64 y]) w) := by
 refine oZ2c ?_
 refine (mul64_one y h0 h1 w).mono ?_; rintro _ _ ⟨rfl,n,rfl⟩
 simp only [holds,Z1,Z2,Z3,Z4,Z5,Z6,Z7,Z8,Z9,ZA,ZB,ZC,ZD,ZE,ZF,ZG,true_and,and_true,ZS,ZT,exists_eq',and_assoc,wv_eq,dr_cell,ZU,join_eq,br_true,br_false,chk_true,decide_true,decide_false,Bool.not_true,Bool.not_false,Nat.zero_add,sets,ZH,ZI,onPtr_some,onIface_some,onFunc_some,nilVC_iface]
 exact Is.dr _ _ _
theorem list_rep_sets {v z : Value} {m t : Nat} (ht : t <= m) (k : Nat) (hk : k <= m - t) : sets (List.replicate t v ++ List.replicate (m - t) z) t (List.replicate k v) = List.replicate (t + k) v ++ List.replicate (m - (t + k)) z := by
 rw [sets_eq _ _ _ (by simp; omega)]
 simp only [List.length_replicate]
 rw [List.take_left' (by simp),show t + k = (List.replicate t v).length + k by simp,List.drop_length_add_append,List.drop_replicate,List.replicate_append_replicate,List.length_replicate,show m - t - k = m - (t + k) by omega]
theorem slices_Repeat_uint32_uint32_ok {w : World} {ok : Nat -> Prop} {p : Option Addr} {c : Nat} {v : Int} (hs : Sl w.heap ok eU32 p 1 c [v]) (m : Nat) (hm : m < 64) :
  Calls P F.Z1l #[.slice p 1 c,.int .i64 (m : Int)] w (NewSl eU32 (List.replicate m v) m w) := by
 refine oZ1l ?_
 unfold vZ1l
 simp only [join_eq]
 rw [show decide ((m : Int) < 0) = false by simp]
 simp only [br_false]
 rw [show IntKind.wrap .u64 ((1 : Nat) : Int) = 1 by decide,show IntKind.wrap .u64 (m : Int) = (m : Int) by simp [IntKind.wrap,IntKind.bits,IntKind.signed]; omega]
 refine (mul_one (m : Int) (by omega) (by omega) w).mono ?_; rintro _ _ ⟨rfl,n1,rfl⟩
 refine ⟨_,_,rfl,?_⟩
 rw [show decide ((0 : Int) < 0) = false by simp,show decide ((9223372036854775807 : Int) < (m : Int)) = false by simp; omega,wrap_id (x := (m : Int)) (by omega) (by omega)]
 simp only [br_false]
 refine make_r (E := eU32) (x := (0 : Int)) ty_u32.und info_u32 rfl (by omega) rfl (by omega) ?_
 intro b w1 hb h1 hN1
 obtain ⟨b0,pre,post,e0,hb0,hl0,hB0⟩ := hs.blk (by have := hs.cap; omega)
 obtain rfl : p = some ⟨b0,pre.length,none⟩ := e0
 have hB0' : Bk w1.heap b0 (pre ++ recs eU32 [v] ++ post) := hB0.nw hN1
 by_cases hm0 : m = 0
 ·subst hm0
  refine copy_none ty_u32.und info_u32 (by simp) ?_
  refine ⟨fun t w' => t = 0 /\ w' = w1,fun _ _ => 0,⟨rfl,rfl⟩,?_⟩
  rintro _ _ ⟨rfl,rfl⟩
  rw [show decide ((0 : Int) < ((0 : Nat) : Int)) = false by simp]
  simp only [br_false]
  exact ⟨_,_,rfl,h1,hN1⟩
 obtain ⟨b1,pre1,post1,e1,_,_,hB1⟩ := h1.blk (by omega)
 simp only [Z3,ZG,and_true] at e1
 obtain ⟨rfl,hp1⟩ := e1
 have hpre : pre1 = [] := List.eq_nil_of_length_eq_zero hp1.symm
 subst hpre
 rw [recs_u32,List.map_replicate,List.nil_append] at hB1
 have hfin : ∀ {w' : World},Bk w'.heap b (List.replicate m (Value.int .u32 v) ++ post1) -> Sl w'.heap (Fresh w.heap) eU32 (some ⟨b,0,none⟩) m m (List.replicate m v) := fun h =>
  ⟨by simp,Nat.le_refl _,(by intro h; cases h),fun _ => ⟨b,[],post1,rfl,hb,by simp,by rw [recs_u32,List.map_replicate,List.nil_append]; exact h⟩,by omega⟩
 refine copy_bk (g := b) (o := 0) (cs := [.int .u32 v]) ty_u32.und info_u32 hB1 (by simp; omega) (fun j hj => ?_) rfl (by simp; omega) (by simp; rfl) ?_
 ·obtain rfl : j = 0 := by simpa using hj
  rw [Nat.add_zero,hB0'.cell,show pre.length = pre.length + 0 by rfl,mid_get (by simp [recs_u32])]
  rfl
 intro w2 hB2 hF2 hz2
 have hN2 := hN1.st hF2 hb
 have hB2' : Bk w2.heap b ((List.replicate 1 (Value.int .u32 v) ++ List.replicate (m - 1) (Value.int .u32 0)) ++ post1) := by
  have : sets (List.replicate m (Value.int .u32 0) ++ post1) 0 [Value.int .u32 v] = (List.replicate 1 (Value.int .u32 v) ++ List.replicate (m - 1) (Value.int .u32 0)) ++ post1 := by
   obtain ⟨k,rfl⟩ : ∃ k,m = k + 1 := ⟨m - 1,by omega⟩
   simp [sets,List.replicate_succ]
  rw [<- this]; exact hB2
 refine ⟨fun t w' => ∃ k : Nat,t = (k : Int) /\ 1 <= k /\ k <= m /\ Bk w'.heap b ((List.replicate k (Value.int .u32 v) ++ List.replicate (m - k) (Value.int .u32 0)) ++ post1) /\ Nw w.heap w'.heap,fun t _ => m - t.toNat,⟨1,rfl,Nat.le_refl _,by omega,hB2',hN2⟩,?_⟩
 rintro t w3 ⟨k,rfl,hk1,hkm,hB3,hN3⟩
 refine br_of (fun h1 => ?_) (fun h1 => ?_) <;> simp only [ZJ,ZK,ZL,ZM,ZN,ZO,ZP,ZQ,ZR] at h1
 ·refine chk_of (by simp; omega) (chk_of (by simp; omega) ?_)
  simp only [wv_eq,Int.toNat_natCast,Int.toNat_zero,Nat.sub_zero]
  have c1 : cutAt (some (⟨b,0,none⟩ : Addr)) m k 1 = some ⟨b,k,none⟩ := by
   unfold cutAt; rw [if_neg (by omega)]; simp [addr_add]
  have c2 : cutAt (some (⟨b,0,none⟩ : Addr)) m 0 1 = some ⟨b,0,none⟩ := by
   unfold cutAt; rw [if_neg (by omega)]; simp [addr_add]
  rw [c1,c2]
  obtain ⟨q,hq,hq1,hq2,hq3⟩ : ∃ q,min k (m - k) = q /\ q <= k /\ q <= m - k /\ 1 <= q := ⟨_,rfl,Nat.min_le_left _ _,Nat.min_le_right _ _,by omega⟩
  have hmin : (List.replicate q (Value.int .u32 v)).length = q := by simp
  refine copy_bk (w := w3.drew) (g := b) (o := k) (cs := List.replicate (q) (.int .u32 v)) ty_u32.und info_u32 hB3 (hmin.trans hq.symm) (fun j hj => ?_) rfl (by simp; omega) (fun u hu => by rw [List.eq_of_mem_replicate hu]; rfl) ?_
  ·have hj' : j < q := by rw [<- hmin]; exact hj
   rw [World.cell?_drew,hB3.cell]
   simp only [Nat.zero_add,List.append_assoc]
   rw [List.getElem?_append_left (by simp; omega),List.getElem?_replicate,List.getElem?_replicate,if_pos (by omega),if_pos hj']
  intro w4 hB4 hF4 hz4
  refine ⟨trivial,⟨⟨k + q,?_,by omega,by omega,?_,hN3.st hF4 hb⟩,?_⟩⟩
  ·rw [hmin,wrap_id (by omega) (by omega)]; omega
  ·rw [<- list_rep_sets hkm _ (by omega)]
   have : sets (List.replicate k (Value.int .u32 v) ++ List.replicate (m - k) (Value.int .u32 0) ++ post1) k (List.replicate (q) (Value.int .u32 v)) = sets (List.replicate k (Value.int .u32 v) ++ List.replicate (m - k) (Value.int .u32 0)) k (List.replicate (q) (Value.int .u32 v)) ++ post1 := by
    rw [sets_eq _ _ _ (by simp; omega),sets_eq _ _ _ (by simp; omega),List.take_append_of_le_length (by (simp <;> omega)),List.drop_append_of_le_length (by (simp <;> omega))]
    simp only [List.append_assoc]
   rw [<- this]; exact hB4
  ·rw [hmin,wrap_id (by omega) (by omega)]; omega
 ·obtain rfl : k = m := by omega
  refine ⟨_,_,rfl,hfin ?_,hN3⟩
  rw [Nat.sub_self,List.replicate_zero,List.append_nil] at hB3
  exact hB3
theorem slices_Grow_uint32_uint32_ok {w : World} (m : Nat) (hm : m <= 1048576) :
  Calls P F.Z2b #[.slice none 0 0,.int .i64 (m : Int)] w fun en w' => ∃ p c,en = .returned (.slice p 0 c) /\ Sl w'.heap (Fresh w.heap) eU32 p 0 c [] /\ Nw w.heap w'.heap := by
 refine oZ2b ?_
 unfold vZ2b
 simp only [join_eq]
 rw [show decide ((m : Int) < 0) = false by simp,show IntKind.wrap .i64 (((0 : Nat) : Int) - ((0 : Nat) : Int)) = 0 by decide,Int.sub_zero,wrap_id (x := (m : Int)) (by omega) (by omega)]
 simp only [br_false]
 refine br_of (fun h1 => ?_) (fun h1 => ?_) <;> simp only [ZJ,ZK,ZL,ZM,ZN,ZO,ZP,ZQ,ZR] at h1
 ·refine chk_of (by simp) ?_
  simp only [Int.toNat_natCast,Int.toNat_zero,Nat.sub_zero]
  rw [show cutAt none 0 0 1 = none by rfl]
  obtain ⟨i,e1,e2,e3,e4⟩ := info_parts info_u32
  have hT := ty_u32.und
  have hI : P.underlying T.int = some (.int .i64) := by kernel_rfl
  have hfit : Builtin.nextslicecap m 0 * 4 <= 281474976710656 := by
   have := nextcap_le m 0 (by omega)
   omega
  have hrun : (Builtin.append_ #[T.sl_uint32,T.int] T.sl_uint32 #[.slice none 0 0,.int .i64 (m : Int)]).run P w = .ok (.slice (some ⟨w.heap.size,0,none⟩) m (grownCap w m 0 T.uint32))
    (w.drew.alloc (.cells (Builtin.zeroCells #[Value.int .u32 0] m ++ Builtin.zeroCells #[Value.int .u32 0] (grownCap w m 0 T.uint32 - m)) T.uint32)) := by
   have g1 : ¬ ((m : Int) < 0) := by omega
   have g2 : ¬ ((m : Int) * 4 > 2 ^ 48) := by omega
   have g3 : ¬ (m <= 0) := by omega
   have g4 : ¬ (9223372036854775807 < (m : Int)) := by omega
   have g5 : ¬ (281474976710656 < Builtin.nextslicecap m 0 * 4) := by omega
   have g6 : ¬ (m = 0) := by omega
   have g7 : IntKind.i64.wrap (m : Int) = (m : Int) := wrap_id (by omega) (by omega)
   have g8 : ¬ (281474976710656 < (m : Int) * 4) := by omega
   simp [Builtin.append_,run_underlying hT,run_underlying hI,sizeOf,typeInfo,zeroValue,e1,e2,e3,e4,asInt,asIntOf,g1,g2,g3,g4,g5,g6,g7,g8,Question.forced,Builtin.firstCells,newRow,grownCap,Value.cells]
  refine ⟨_,_,_,_,hrun,⟨rfl,rfl⟩,?_⟩
  have hg : m <= grownCap w m 0 T.uint32 := Nat.le_add_right _ _
  refine chk_of (by simp) ?_
  refine ⟨_,_,rfl,?_,?_⟩
  ·refine ⟨rfl,by omega,fun hp => ?_,fun hc => ⟨w.heap.size,[],(Builtin.zeroCells #[Value.int .u32 0] m ++ Builtin.zeroCells #[Value.int .u32 0] (grownCap w m 0 T.uint32 - m)).toList,?_,Nat.le_refl _,?_,T.uint32,?_⟩,by omega⟩
   ·simp only [Int.toNat_natCast,Int.toNat_zero,cutAt] at hp
    split at hp <;> cases hp
   ·simp only [Int.toNat_natCast,Int.toNat_zero,cutAt,Nat.zero_mul]
    split
    ·rfl
    ·simp [addr_add]
   ·simp only [Int.toNat_natCast,Int.toNat_zero,Nat.sub_zero,Array.length_toList,Array.size_append,zeroCells_size,List.size_toArray,List.length_cons,List.length_nil]
    omega
   ·rw [alloc_heap,show w.drew.heap = w.heap from rfl,Array.getElem?_push_size]
    simp [recs_nil]
  ·refine ⟨by rw [alloc_heap,show w.drew.heap = w.heap from rfl]; simp,fun b hb _ => ?_⟩
   rw [alloc_heap,show w.drew.heap = w.heap from rfl,Array.getElem?_push_lt hb,Array.getElem?_eq_getElem hb]
 ·exact ⟨_,_,rfl,Sl.nil,Nw.rfl'⟩
abbrev eHd : Enc Hd := ⟨fun h => [.slice h.p h.n h.c],1,fun _ => rfl,fun x u hu => by simp at hu; subst hu; rfl,by omega⟩
theorem take_flatten_succ {α : Type} {ls : List (List α)} {k : Nat} {l : List α} (h : ls[k]? = some l) : (ls.take (k + 1)).flatten = (ls.take k).flatten ++ l := by
 obtain ⟨hk,rfl⟩ := List.getElem?_eq_some_iff.1 h
 rw [List.take_succ_eq_append_getElem hk,List.flatten_append,List.flatten_singleton]
theorem take_flatten_le {α : Type} (ls : List (List α)) (k : Nat) : (ls.take k).flatten.length <= ls.flatten.length := by
 have h : ls.flatten = (ls.take k).flatten ++ (ls.drop k).flatten := by rw [<- List.flatten_append,List.take_append_drop]
 rw [h,List.length_append]; omega
theorem slices_Concat_uint32_uint32_ok {w : World} {ok ok' : Nat -> Prop} {p : Option Addr} {n c : Nat} {hs : List Hd} {ls : List (List Int)} (h0 : Sl w.heap ok eHd p n c hs) (h1 : All2 (fun h l => SlH w.heap ok' eU32 h l) hs ls) (hm : ls.flatten.length <= 1048576) :
  Calls P F.Z1k #[.slice p n c] w (NewSl eU32 ls.flatten ls.flatten.length w) := by
 refine oZ1k ?_
 have hsm := h0.small; have hl := h0.len; have hl2 := h1.len
 refine ⟨fun t w' => ∃ k : Nat,t.2 = (k : Int) /\ k <= n /\ t.1 = ((ls.take k).flatten.length : Int) /\ w = w',fun t _ => n - t.2.toNat,⟨0,rfl,Nat.zero_le _,rfl,rfl⟩,?_⟩
 rintro ⟨m,t⟩ _ ⟨k,rfl,hk,rfl,rfl⟩
 refine br_of (fun h2 => ?_) (fun h2 => ?_) <;> simp only [ZJ,ZK,ZL,ZM,ZN,ZO,ZP,ZQ,ZR] at h2
 ·skip
  refine chk_of (by simp; omega) ?_
  have hx : ls[k]? = some (ls[k]'(by omega)) := List.getElem?_eq_getElem (by omega)
  generalize ls[k]'(by omega) = l at hx
  obtain ⟨d,hd,hsl⟩ := h1.get hx
  refine h0.idx hd ?_; intro g o _ hh
  refine ⟨d.p,d.n,d.c,hh,?_⟩
  have e := take_flatten_succ hx
  have hle := take_flatten_le ls (k + 1)
  rw [e,List.length_append,hsl.len] at hle
  rw [wrap_id (x := ((ls.take k).flatten.length : Int) + (d.n : Int)) (by omega) (by omega),wrap_id (by omega) (by omega)]
  rw [show decide (((ls.take k).flatten.length : Int) + (d.n : Int) < 0) = false by simp; omega,br_false]
  exact ⟨⟨k + 1,rfl,by omega,by rw [e,List.length_append,hsl.len]; simp,rfl⟩,by (first | omega | (dsimp only; omega))⟩
 ·skip
  obtain rfl : k = n := by omega
  have hall : ls.take k = ls := List.take_of_length_le (by omega)
  rw [hall]
  refine (slices_Grow_uint32_uint32_ok _ hm).mono ?_; rintro _ w1 ⟨p1,c1,rfl,hs1,hN1⟩
  refine ⟨_,_,_,rfl,?_⟩
  refine ⟨fun t w' => ∃ j : Nat,t.2 = (j : Int) /\ j <= k /\ t.1.2.1 = (ls.take j).flatten.length /\ Sl w'.heap (Fresh w.heap) eU32 t.1.1 t.1.2.1 t.1.2.2 (ls.take j).flatten /\ Nw w.heap w'.heap,fun t _ => k - t.2.toNat,⟨0,rfl,Nat.zero_le _,rfl,hs1,hN1⟩,?_⟩
  rintro ⟨⟨q,m,d⟩,t⟩ w2 ⟨j,rfl,hj,e0,hs2,hN2⟩
  simp only at e0 hs2
  refine br_of (fun h3 => ?_) (fun h3 => ?_) <;> simp only [ZJ,ZK,ZL,ZM,ZN,ZO,ZP,ZQ,ZR] at h3
  ·skip
   refine chk_of (by simp; omega) ?_
   have hx : ls[j]? = some (ls[j]'(by omega)) := List.getElem?_eq_getElem (by omega)
   generalize ls[j]'(by omega) = l at hx
   obtain ⟨dd,hd,hsl⟩ := h1.get hx
   refine (h0.nw hN2).idx hd ?_; intro g o _ hh
   refine ⟨dd.p,dd.n,dd.c,hh,?_⟩
   have e := take_flatten_succ hx
   have hle := take_flatten_le ls (j + 1)
   rw [e,List.length_append,hsl.len,<- e0] at hle
   refine append_r ty_u32 hs2 (hsl.nw hN2) (by omega) ?_
   intro p' c' w3 h4 hf
   rw [wrap_id (by omega) (by omega)]
   refine ⟨⟨j + 1,rfl,by omega,by rw [e,List.length_append,<- e0,hsl.len],?_,hN2.tr' hf fun x hx => hx⟩,by (first | omega | (dsimp only; omega))⟩
   simp only
   rw [e]
   exact h4.mono fun x _ hx => by rcases hx with hx | hx; exact hx; exact Nat.le_trans hN2.le hx
  ·skip
   obtain rfl : j = k := by omega
   rw [hall] at hs2 e0
   subst e0
   exact ⟨_,_,rfl,hs2,hN2⟩
end
section
def nLetter (c : Int) : Bool := decide (97 <= c /\ c <= 122) || decide (65 <= c /\ c <= 90)
def nSigns : ByteArray := ⟨#[43,45,42,47,60,62,61,126,38,124,37]⟩
def nOfSigns (s : ByteArray) : Bool := !s.data.toList.isEmpty && decide (s.size <= 2) && (Lib.trimS s.data.toList nSigns.data.toList).isEmpty
def nChar (c : Int) : Bool := nLetter c || decide (c = 58) || decide (48 <= c /\ c <= 57)
def nRight (s : ByteArray) : Bool := nOfSigns s || (!s.data.toList.isEmpty && decide (s.size <= 16) && nLetter ((s.data.toList.getD 0 0).toNat : Int) && s.data.toList.all fun c => nChar (c.toNat : Int))
def nArgs (s : ByteArray) : Int := if !nRight s then -1 else if nOfSigns s then 1 else (Lib.countByte s.data.toList 58 : Int)
theorem data_getD (s : ByteArray) (i : Nat) : (ByteArray.data s).getD i 0 = s.data.toList.getD i 0 := by
 simp [Array.getD_eq_getD_getElem?,List.getD_eq_getElem?_getD]
theorem size_len (s : ByteArray) : s.size = s.data.toList.length := by rw [Array.length_toList]; rfl
theorem toList_nil (s : ByteArray) : (s.toList == (⟨#[]⟩ : ByteArray).toList) = s.data.toList.isEmpty := by
 rw [ByteArray.toList_eq,ByteArray.toList_eq]
 cases s.data.toList <;> rfl
theorem name_letter_ok (c : Int) (w : World) : Calls P F.Z4n #[.int .u8 c] w (Is (.bool (nLetter c)) w) := by
 refine oZ4n ?_
 unfold vZ4n nLetter
 refine br_of (fun h1 => ?_) (fun h1 => ?_) <;> simp only [ZJ,ZK,ZL,ZM,ZN,ZO,ZP,ZQ,ZR] at h1
 ·refine br_of (fun h2 => ?_) (fun h2 => ?_) <;> simp only [ZJ,ZK,ZL,ZM,ZN,ZO,ZP,ZQ,ZR] at h2
  ·exact ⟨by simp [h1,h2],0,rfl⟩
  ·refine br_of (fun h3 => ?_) (fun h3 => ?_) <;> simp only [ZJ,ZK,ZL,ZM,ZN,ZO,ZP,ZQ,ZR] at h3
   ·exact ⟨by congr 2; rw [Bool.eq_iff_iff]; simp; omega,0,rfl⟩
   ·exact ⟨by congr 2; rw [Bool.eq_iff_iff]; simp; omega,0,rfl⟩
 ·refine br_of (fun h3 => ?_) (fun h3 => ?_) <;> simp only [ZJ,ZK,ZL,ZM,ZN,ZO,ZP,ZQ,ZR] at h3
  ·exact ⟨by congr 2; rw [Bool.eq_iff_iff]; simp; omega,0,rfl⟩
  ·exact ⟨by congr 2; rw [Bool.eq_iff_iff]; simp; omega,0,rfl⟩
theorem name_ofSigns_ok (s : ByteArray) (w : World) (hs : s.size <= 9223372036854775807) : Calls P F.Z4c #[.string s] w (Mk (.bool (nOfSigns s)) w) := by
 refine oZ4c ?_
 unfold vZ4c nOfSigns
 rw [toList_nil]
 refine br_of (fun h1 => ?_) (fun h1 => ?_)
 ·refine br_of (fun h2 => ?_) (fun h2 => ?_) <;> simp only [ZJ,ZK,ZL,ZM,ZN,ZO,ZP,ZQ,ZR] at h2
  ·refine (strings_Trim_ok s nSigns w hs (by decide) (fun j b hj => ?_)).mono ?_
   ·have : b ∈ nSigns.data.toList := List.mem_of_getElem? hj
    clear hj
    revert b
    decide
   rintro _ w2 ⟨rfl,hN⟩
   refine ⟨_,rfl,?_⟩
   rw [toList_nil,h1,Bool.true_and,show decide (s.size <= 2) = true by simp; omega,Bool.true_and]
   exact ⟨rfl,hN⟩
  ·rw [show decide (s.size <= 2) = false by simp; omega,Bool.and_false,Bool.false_and]
   exact ⟨rfl,Nw.rfl'⟩
 ·rw [h1,Bool.false_and,Bool.false_and]
  exact ⟨rfl,Nw.rfl'⟩
theorem name_Right_ok (s : ByteArray) (w : World) (hs : s.size <= 9223372036854775807) : Calls P F.Z4b #[.string s] w (Mk (.bool (nRight s)) w) := by
 refine oZ4b ?_
 refine (name_ofSigns_ok s w hs).mono ?_; rintro _ w1 ⟨rfl,hN⟩
 refine ⟨_,rfl,?_⟩
 simp only [join_eq]
 refine br_of (fun h0 => ?_) (fun h0 => ?_)
 ·rw [show nRight s = true by rw [nRight,h0,Bool.true_or]]
  exact ⟨rfl,hN⟩
 rw [toList_nil]
 refine br_of (fun h1 => ?_) (fun h1 => ?_)
 ·rw [show nRight s = false by rw [nRight,h0,h1]; rfl]
  exact ⟨rfl,hN⟩
 refine br_of (fun h2 => ?_) (fun h2 => ?_) <;> simp only [ZJ,ZK,ZL,ZM,ZN,ZO,ZP,ZQ,ZR] at h2
 ·rw [show nRight s = false by rw [nRight,h0,show decide (s.size <= 16) = false by simp; omega]; simp]
  exact ⟨rfl,hN⟩
 have hpos : 0 < s.size := by
  rw [size_len]
  cases hl : s.data.toList with
  | nil => rw [hl] at h1; cases h1
  | cons a r => simp
 refine chk_of (by simp; omega) ?_
 rw [data_getD]
 refine (name_letter_ok _ w1).mono ?_; rintro _ _ ⟨rfl,n1,rfl⟩
 refine ⟨_,rfl,?_⟩
 have e : nRight s = (nLetter ((s.data.toList.getD 0 0).toNat : Int) && s.data.toList.all fun c => nChar (c.toNat : Int)) := by
  rw [nRight,h0,h1,show decide (s.size <= 16) = true by simp; omega]; simp
 refine br_of (fun h3 => ?_) (fun h3 => ?_)
 ·have h3' : nLetter ((s.data.toList.getD 0 0).toNat : Int) = false := by simpa using h3
  rw [e,h3',Bool.false_and]; exact ⟨rfl,hN⟩
 have h3' : nLetter ((s.data.toList.getD 0 0).toNat : Int) = true := by simpa using h3
 rw [h3',Bool.true_and] at e
 have hl := size_len s
 refine ⟨fun t w' => ∃ k : Nat,t = (k : Int) /\ k <= s.size /\ ((s.data.toList.take k).all fun c => nChar (c.toNat : Int)) = true /\ Nw w.heap w'.heap,fun t _ => s.size - t.toNat,⟨0,rfl,Nat.zero_le _,rfl,hN⟩,?_⟩
 rintro t w2 ⟨k,rfl,hk,hq,hN2⟩
 refine br_of (fun h4 => ?_) (fun h4 => ?_) <;> simp only [ZJ,ZK,ZL,ZM,ZN,ZO,ZP,ZQ,ZR] at h4
 ·simp only [data_getD,Int.toNat_natCast]
  have hx : s.data.toList[k]? = some (s.data.toList.getD k 0) := getD_some (by omega)
  generalize s.data.toList.getD k 0 = x at hx
  have hsucc : (s.data.toList.take (k + 1)).all (fun c => nChar (c.toNat : Int)) = ((s.data.toList.take k).all (fun c => nChar (c.toNat : Int)) && nChar (x.toNat : Int)) := by
   obtain ⟨hk',rfl⟩ := List.getElem?_eq_some_iff.1 hx
   rw [List.take_succ_eq_append_getElem hk',List.all_append]; simp
  have yes : nChar (x.toNat : Int) = true -> (∃ k' : Nat,IntKind.wrap .i64 ((k : Int) + 1) = (k' : Int) /\ k' <= s.size /\ ((s.data.toList.take k').all fun c => nChar (c.toNat : Int)) = true /\ Nw w.heap w2.heap) /\ s.size - (IntKind.wrap .i64 ((k : Int) + 1)).toNat < s.size - k := fun hc => by
   rw [wrap_id (by omega) (by omega)]
   exact ⟨⟨k + 1,rfl,by omega,by rw [hsucc,hq,hc]; rfl,hN2⟩,by omega⟩
  have no : nChar (x.toNat : Int) = false -> Mk (.bool (nRight s)) w (.returned (.bool false)) w2 := fun hc => by
   rw [e,List.all_eq_false.2 ⟨x,List.mem_of_getElem? hx,by simp [hc]⟩]; exact ⟨rfl,hN2⟩
  refine chk_of (by simp; omega) ?_
  refine (name_letter_ok _ w2).mono ?_; rintro _ _ ⟨rfl,n2,rfl⟩
  refine ⟨_,rfl,?_⟩
  refine br_of (fun h5 => ?_) (fun h5 => ?_)
  ·refine chk_of (by simp; omega) ?_
   simp only [ZL] at h5
   refine br_of (fun h6 => ?_) (fun h6 => ?_) <;> simp only [ZJ,ZK,ZL,ZM,ZN,ZO,ZP,ZQ,ZR] at h6
   ·refine chk_of (by simp; omega) ?_
    refine br_of (fun h7 => ?_) (fun h7 => ?_) <;> simp only [ZJ,ZK,ZL,ZM,ZN,ZO,ZP,ZQ,ZR] at h7
    ·exact no (by rw [nChar,h5]; simp; omega)
    ·refine chk_of (by simp; omega) ?_
     refine br_of (fun h8 => ?_) (fun h8 => ?_) <;> simp only [ZJ,ZK,ZL,ZM,ZN,ZO,ZP,ZQ,ZR] at h8
     ·exact no (by rw [nChar,h5]; simp; omega)
     ·exact yes (by rw [nChar,h5]; simp; omega)
   ·exact yes (by rw [nChar,h5]; simp; omega)
  ·exact yes (by rw [nChar]; simp only [ZM] at h5; rw [h5]; rfl)
 ·rw [List.take_of_length_le (by omega)] at hq
  rw [e,hq]
  exact ⟨rfl,hN2⟩
theorem name_Args_ok (s : ByteArray) (w : World) (hs : s.size <= 9223372036854775807) : Calls P F.Z3c #[.string s] w (Mk (.int .i64 (nArgs s)) w) := by
 refine oZ3c ?_
 refine (name_Right_ok s w hs).mono ?_; rintro _ w1 ⟨rfl,hN⟩
 refine ⟨_,rfl,?_⟩
 unfold nArgs
 refine br_of (fun h1 => ?_) (fun h1 => ?_)
 ·rw [if_pos h1]; exact ⟨rfl,hN⟩
 rw [if_neg (by simpa using h1)]
 refine (name_ofSigns_ok s w1 hs).mono ?_; rintro _ w2 ⟨rfl,hN2⟩
 refine ⟨_,rfl,?_⟩
 refine br_of (fun h2 => ?_) (fun h2 => ?_)
 ·rw [if_pos h2]; exact ⟨rfl,hN.tr hN2⟩
 rw [if_neg (by simpa using h2)]
 refine (strings_Count_ok s 58 w2).mono ?_; rintro _ _ ⟨rfl,n,rfl⟩
 exact ⟨_,rfl,rfl,hN.tr hN2⟩
end
end Go.Proofs.YtbedadcbbnmpkaaGreatDoor
